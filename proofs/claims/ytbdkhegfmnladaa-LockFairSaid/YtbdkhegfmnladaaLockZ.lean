/- Contracts over a whole table: Waits; DeleteFunc of one that does not wait. -/
import Derived.Test.YtbdkhegfmnladaaLockY
set_option maxRecDepth 100000
set_option linter.unusedVariables false
set_option linter.unusedSimpArgs false
namespace Mun
open Go Go.RowKit
open Go.Proofs

theorem waits_any {W0 w : World} {t : TV} (h : TabL W0 w t) (o : Int) :
    Calls Try.prog 23 #[.pointer (some ⟨t.T, 0, none⟩), .int .u64 o] w fun e w' =>
      e = .returned (.tuple #[.agg #[.string ((klook t.ws o).map (·.1) |>.getD ⟨#[]⟩), .int .i64 ((klook t.ws o).map (·.2) |>.getD 0)], .bool (klook t.ws o).isSome]) ∧ TabL W0 w' t := by
  have h2 := h.below (((Below.refl _ _).alloc (Nat.le_refl _) (.cells #[.string ⟨#[]⟩, .int .i64 0] 33)) : Below w.heap.size w _)
  obtain ⟨wz, hwz⟩ : ∃ wz, w.alloc (.cells #[.string ⟨#[]⟩, .int .i64 0] 33) = wz := ⟨_, rfl⟩
  rw [hwz] at h2
  have c1 : wz.cell? ⟨t.T, 1, none⟩ = some (.map (some t.W)) := cell_of_row wz t.T 1 _ _ _ h2.rep.tab.blk
  have hl1 := gmap_lookup (P := Try.prog) Try.underlying63 Try.underlying29 (z33 wz) h2.rep.tab.wt o
  have hw2 : glook (wsV t.ws) o = (klook t.ws o).map fun y : ByteArray × Int => Value.agg #[.string y.1, .int .i64 y.2] := glook_map (fun y : ByteArray × Int => Value.agg #[.string y.1, .int .i64 y.2]) t.ws o
  rw [hw2] at hl1
  cases hk : klook t.ws o with
  | none =>
    rw [hk] at hl1
    change (Instr.lookup 63 (.map (some t.W)) (.int .u64 o) true).run Try.prog wz = .ok (.tuple #[.agg #[.string ⟨#[]⟩, .int .i64 0], .bool false]) wz at hl1
    have HB : Hid (∀ w', Below wz.heap.size wz w' → TabL W0 w' t) := fun w' hb => h2.below hb
    clear h h2 hw2 hk
    subst hwz
    go_enter Try.func23, Try.ntmps23
    go_wp2
    refine bodyPost_ret (by simp [results, Try.results23, go_sem]; try rfl) rfl ?_
    exact ⟨rfl, HB.out _ (below_more (Below.refl _ _) _)⟩
  | some y =>
    rw [hk] at hl1
    change (Instr.lookup 63 (.map (some t.W)) (.int .u64 o) true).run Try.prog wz = .ok (.tuple #[.agg #[.string y.1, .int .i64 y.2], .bool true]) wz at hl1
    have HB : Hid (∀ w', Below w.heap.size w w' → TabL W0 w' t) := fun w' hb => h.below hb
    clear h h2 hw2 hk
    subst hwz
    go_enter Try.func23, Try.ntmps23
    go_wp2
    refine bodyPost_ret (by simp [results, Try.results23, go_sem]; try rfl) rfl ?_
    exact ⟨rfl, HB.out _ (below_more (below_more (Below.refl _ _) _) _)⟩

theorem isOwner (w : World) (b : Nat) (u m o : Int) (hb : w.cell? ⟨b, 0, none⟩ = some (.int .u64 o)) : Calls Try.prog 39 #[.agg #[.int .u64 u, .int .i64 m], .pointer (some ⟨b, 0, none⟩)] w fun e w' => e = .returned (.bool (u == o)) ∧ Below w.heap.size w w' := by
  have hbl := World.block_lt_of_cell? w _ hb
  have hb2 : (w.alloc (.cells #[.int .u64 u, .int .i64 m] 77)).cell? ⟨b, 0, none⟩ = some (.int .u64 o) := by
    rw [World.cell?_alloc_lt _ _ _ hbl]; exact hb
  have HB : Hid (Below w.heap.size w (w.alloc (.cells #[.int .u64 u, .int .i64 m] 77))) := (Below.refl _ _).alloc (Nat.le_refl _) _
  clear hbl
  go_enter Try.func39, Try.ntmps39
  go_wp2
  go_ret
  exact ⟨rfl, HB.out⟩

theorem acells_get (l : List (Int × Int)) (i : Nat) (h : i < l.length) : (acells l)[i * 2]? = some (.int .u64 l[i].1) ∧ (acells l)[i * 2 + 1]? = some (.int .i64 l[i].2) := by
  induction l generalizing i with
  | nil => simp at h
  | cons a l ih =>
    cases i with
    | zero => exact ⟨rfl, rfl⟩
    | succ i =>
      have := ih i (by simpa using h)
      simp only [acells, List.flatMap_cons] at this ⊢
      have e1 : (i + 1) * 2 = i * 2 + 2 := by omega
      rw [e1, List.getElem?_append_right (by simp), List.getElem?_append_right (by simp)]
      simp only [List.length_cons, List.length_nil, List.getElem_cons_succ]
      have e2 : i * 2 + 2 - (0 + 1 + 1) = i * 2 := by omega
      have e3 : i * 2 + 2 + 1 - (0 + 1 + 1) = i * 2 + 1 := by omega
      rw [e2, e3]
      exact this
theorem QAt.at_ {w : World} {q : Value} {l : List (Int × Int)} (h : QAt w q l) (i : Nat) (hi : i < l.length) : ∃ g off c, q = .slice (some ⟨g, off, none⟩) l.length c ∧ w.cell? ⟨g, off + i * 2, none⟩ = some (.int .u64 l[i].1) ∧ w.cell? ⟨g, off + i * 2 + 1, none⟩ = some (.int .i64 l[i].2) := by
  rcases h with ⟨rfl, rfl⟩ | ⟨g, off, c, cur, rfl, hg, hlc, hcm, hfit, hrd⟩
  · simp at hi
  · obtain ⟨c1, c2⟩ := acells_get l i hi
    have key : ∀ j v, (acells l)[j]? = some v → w.cell? ⟨g, off + j, none⟩ = some v := fun j v hv => by
      rw [cell_of_row _ _ _ _ _ _ hg, ← Array.getElem?_toList]
      rw [← hrd, List.getElem?_take] at hv
      split at hv
      · rw [List.getElem?_drop] at hv; exact hv
      · cases hv
    exact ⟨g, off, c, rfl, key _ _ c1, by have := key _ _ c2; rwa [← Nat.add_assoc] at this⟩

theorem indexFunc_none {w : World} {q : Value} {l : List (Int × Int)} (h : QAt w q l) (hn : l.length ≤ 4398046511104) (b : Nat) (o : Int) (hb : w.cell? ⟨b, 0, none⟩ = some (.int .u64 o)) (hno : ∀ a ∈ l, a.1 ≠ o) :
    Calls Try.prog 31 #[q, .func (.func 39) #[] #[.pointer (some ⟨b, 0, none⟩)]] w fun e w' => e = .returned (.int .i64 (-1)) ∧ Below w.heap.size w w' := by
  obtain ⟨qa, qn, qc, hq, hqn⟩ : ∃ qa qn qc, q = .slice qa qn qc ∧ l.length = qn := by
    rcases h with ⟨e, e2⟩ | ⟨g, off, c, cur, e, -⟩
    · exact ⟨none, 0, 0, e, by rw [e2]; rfl⟩
    · exact ⟨some ⟨g, off, none⟩, _, c, e, rfl⟩
  subst hq
  have HQ := Lib.hid (And.intro h (And.intro hqn (And.intro hb (And.intro hno hn))))
  clear h hqn hb hno hn
  go_enter Try.func31, Try.ntmps31
  go_wp2
  go_loopw [5, 8] (fun a i wr => ∃ k : Nat, k ≤ qn ∧ i = .int .i64 (k : Int) ∧ Below w.heap.size w wr) (fun _ i _ => qn - (intOf i).toNat)
  case atStart => exact ⟨0, by omega, rfl, Below.refl _ _⟩
  case round =>
    obtain ⟨k, hk, rfl, hbr⟩ := hrel
    rcases Nat.lt_or_eq_of_le hk with hlt | heq
    · have hkl : k < l.length := by rw [HQ.out.2.1]; exact hlt
      obtain ⟨g, off, c, e, k0, k1⟩ := (HQ.out.1.keep (w' := wr) (fun g hg => by obtain ⟨cur, hc⟩ := HQ.out.1.blk hg; exact hbr.block g (Array.getElem?_eq_some_iff.1 hc).1)).at_ k hkl
      injection e with e1 e2 e3
      subst e1 e3
      clear e2
      obtain ⟨y, hy⟩ : ∃ y, l[k] = y := ⟨_, rfl⟩
      have hym : y ∈ l := by rw [← hy]; exact List.getElem_mem hkl
      rw [hy] at k0 k1
      have hyo : (y.1 == o) = false := by simpa using HQ.out.2.2.2.1 y hym
      have hcell : wr.cell? ⟨b, 0, none⟩ = some (.int .u64 o) := by
        have h1 := World.block_lt_of_cell? w _ HQ.out.2.2.1
        have h2 : wr.cell? ⟨b, 0, none⟩ = w.cell? ⟨b, 0, none⟩ := World.cell?_of_block (hbr.block b h1)
        rw [h2]
        exact HQ.out.2.2.1
      have hcl := isOwner wr b y.1 y.2 o hcell
      rw [hyo] at hcl
      have HCL := Lib.hid hcl
      have hki : (k : Int) < (qn : Int) := by omega
      have hk0 : (0 : Int) ≤ (k : Int) := by omega
      have HWJ : Hid (wrap64 ((k : Int) + 1) = (k : Int) + 1) := by show _ = _; have h9 := HQ.out.2.2.2.2; have h8 := HQ.out.2.1; unfold wrap64; omega
      have HBR := Lib.hid (And.intro hbr hlt)
      clear hcl hcell hym hy hkl hbr hlt hk hyo
      go_wp2_with fail
      refine HCL.out.mono ?_
      rintro e w5 ⟨rfl, hb5⟩
      go_wp2
      go_roundw
      case rel => exact ⟨k + 1, by have := HBR.out.2; omega, by rw [HWJ.out]; rfl, HBR.out.1.trans (hb5.mono HBR.out.1.size)⟩
      case measure => have := HBR.out.2; rw [HWJ.out]; simp [intOf]; omega
    · replace heq := heq.symm
      subst heq
      go_wp2
      go_ret
      exact ⟨rfl, hbr⟩

theorem deleteFunc_none {w : World} {q : Value} {l : List (Int × Int)} (h : QAt w q l) (hn : l.length ≤ 4398046511104) (b : Nat) (o : Int) (hb : w.cell? ⟨b, 0, none⟩ = some (.int .u64 o)) (hno : ∀ a ∈ l, a.1 ≠ o) :
    Calls Try.prog 38 #[q, .func (.func 39) #[] #[.pointer (some ⟨b, 0, none⟩)]] w fun e w' => e = .returned q ∧ Below w.heap.size w w' := by
  have HI := Lib.hid (indexFunc_none h hn b o hb hno)
  obtain ⟨qa, qn, qc, rfl⟩ : ∃ qa qn qc, q = .slice qa qn qc := by
    rcases h with ⟨e, e2⟩ | ⟨g, off, c, cur, e, -⟩
    · exact ⟨none, 0, 0, e⟩
    · exact ⟨some ⟨g, off, none⟩, _, c, e⟩
  clear h hn hb hno
  go_enter Try.func38, Try.ntmps38
  go_wp2_with fail
  refine HI.out.mono ?_
  rintro e w2 ⟨rfl, hb2⟩
  go_wp2
  go_ret
  exact ⟨rfl, hb2⟩
end Mun
