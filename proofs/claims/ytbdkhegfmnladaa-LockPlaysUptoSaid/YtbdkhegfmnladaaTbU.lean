/- Held, whatever the table. -/
import Derived.Test.YtbdkhegfmnladaaKeysF
import Derived.Test.YtbdkhegfmnladaaMgM
set_option maxRecDepth 100000
set_option linter.unusedVariables false
set_option linter.unusedSimpArgs false
namespace Mun
open Go Go.RowKit
open Go.Proofs

theorem info_grn : (Try.prog.info? 33).map (fun i => (i.zero, i.size, i.bytes)) = some (some (.agg #[.string ⟨#[]⟩, .int .i64 0]), 2, 24) := by kernel_rfl
theorem make_grn (n : Nat) (hn : n ≤ 5864062014800) (w : World) : (Instr.makeSlice 30 (.int .i64 0) (.int .i64 n)).run Try.prog w = .ok (.slice (some ⟨w.heap.size, 0, none⟩) 0 n) (w.alloc (.cells (madeCells #[Value.string ⟨#[]⟩, Value.int .i64 0] (n * 2)) 33)) := by
  obtain ⟨i, hi, hz, h1, h2⟩ := info_of info_grn
  have hr := run_make (P := Try.prog) w _ _ i _ Try.underlying30 hi hz .i64 .i64 0 n (by omega) (by omega) (by rw [h2]; omega) (by omega)
  rw [hr, h1]
  simp only [Int.toNat_natCast]
  rfl
theorem grn_own (n B : Nat) (hn : n ≤ 5864062014800) (w : World) (hB : B ≤ w.heap.size) : (w.alloc (.cells (madeCells #[Value.string ⟨#[]⟩, Value.int .i64 0] (n * 2)) 33)).ownsRow B 33 2 (.slice (some ⟨w.heap.size, 0, none⟩) 0 n) 0 [] :=
  ⟨rfl, .inr ⟨w.heap.size, n, _, rfl, hB, heap_alloc_new w _, Nat.zero_le _, by unfold maxLen; omega, by simp [madeCells], by simp⟩⟩

/-- names and modes, as cells -/
def grC (l : List (ByteArray × Int)) : List Value := l.flatMap fun g => [.string g.1, .int .i64 g.2]
theorem grC_len (l : List (ByteArray × Int)) : (grC l).length = l.length * 2 := by
  induction l with
  | nil => rfl
  | cons a l ih =>
    unfold grC at ih ⊢
    simp only [List.flatMap_cons, List.length_append, ih, List.length_cons, List.length_nil]; omega
theorem grC_one (l : List (ByteArray × Int)) : ∀ u ∈ grC l, u.oneCell' = true := by
  intro u hu
  obtain ⟨g, -, h⟩ := List.mem_flatMap.1 hu
  simp at h
  rcases h with rfl | rfl <;> rfl
theorem grC_snoc (l : List (ByteArray × Int)) (a : ByteArray × Int) : grC (l ++ [a]) = grC l ++ [.string a.1, .int .i64 a.2] := by simp [grC]
theorem grC_get (l : List (ByteArray × Int)) (i : Nat) (hi : i < l.length) : (grC l)[i * 2]? = some (.string l[i].1) ∧ (grC l)[i * 2 + 1]? = some (.int .i64 l[i].2) := by
  induction l generalizing i with
  | nil => simp at hi
  | cons a l ih =>
    cases i with
    | zero => simp [grC]
    | succ i =>
      have h9 := ih i (by simpa using hi)
      unfold grC at h9 ⊢
      rw [List.flatMap_cons, List.getElem?_append_right (by simp; omega), List.getElem?_append_right (by simp; omega)]
      have e1 : (i + 1) * 2 - [Value.string a.1, Value.int .i64 a.2].length = i * 2 := by simp; omega
      have e2 : (i + 1) * 2 + 1 - [Value.string a.1, Value.int .i64 a.2].length = i * 2 + 1 := by simp; omega
      rw [e1, e2]
      exact h9

theorem push_gr {w : World} {B : Nat} {ty : TypeId} {v : Value} {l : List (ByteArray × Int)} (s : ByteArray) (m : Int) (h : w.ownsRow B 33 2 v l.length (grC l)) (hB : B ≤ w.heap.size) (hl : l.length < 5864062014800) :
    ∃ v' w', (Builtin.append_ #[30, 30] ty #[v, .slice (some ⟨w.heap.size, 0, none⟩) 1 1]).run Try.prog (w.alloc (.cells #[.string s, .int .i64 m] 33)) = .ok v' w' ∧
      w'.ownsRow B 33 2 v' (l ++ [(s, m)]).length (grC (l ++ [(s, m)])) ∧ w.grownBy w' v.ownBlock := by
  obtain ⟨i, hi, hz, h1, h2⟩ := info_of info_grn
  have hsrc : RdV (fun _ => False) (w.alloc (.cells #[.string s, .int .i64 m] 33)) 2 (.slice (some ⟨w.heap.size, 0, none⟩) 1 1) 1 [.string s, .int .i64 m] :=
    ⟨rfl, _, _, rfl, Nat.le_refl _, by unfold maxLen; omega, by simp, fun _ => ⟨w.heap.size, 0, _, _, (0, 0), rfl, fun h => h, heap_alloc_new w _, by simp⟩⟩
  obtain ⟨v', w', hr, ho, hg, hob, hnil⟩ := run_append_rd (P := Try.prog) (base := B) (ty := ty) Try.underlying30 hi hz h1 h2 rfl (by decide) (World.ownsRow.alloc h _) hsrc (by intro u hu; simp at hu; rcases hu with rfl | rfl <;> rfl) (by omega) (by decide) (by simp; omega)
  refine ⟨v', w', hr, by rw [grC_snoc, List.length_append]; exact ho, ?_⟩
  obtain ⟨g1, g2, g3, g4, g5⟩ := hg
  exact ⟨g1, g2, g3, by have h9 := g4; rw [World.size_alloc] at h9; omega, fun k hk hne => by rw [g5 k (by rw [World.size_alloc]; omega) hne, heap_alloc_old _ _ hk]⟩

theorem row_apart {w : World} {B B' : Nat} {e e' : TypeId} {size size' n n' : Nat} {v v' : Value} {xs xs' : List Value} (h : w.ownsRow B e size v n xs) (h' : w.ownsRow B' e' size' v' n' xs') (hne : e ≠ e') : ∀ k, v.ownBlock = some k → v'.ownBlock ≠ some k := by
  intro k hk hk'
  rcases h.2 with ⟨rfl, -⟩ | ⟨g, cap, cur, rfl, -, hg, -⟩
  · cases hk
  · rcases h'.2 with ⟨rfl, -⟩ | ⟨g', cap', cur', rfl, -, hg', -⟩
    · cases hk'
    · simp only [Value.ownBlock, Option.some.injEq] at hk hk'
      subst hk
      subst hk'
      rw [hg] at hg'
      injection hg' with hg'
      injection hg' with _ hg' _
      exact hne hg'

theorem z82 (w : World) : (zeroValue 80).run Try.prog w = .ok (.map none) w := Try.zeroValue80 w

/-- what Held tells -/
def HeldOf (A : AS) (o : Int) (ns : List ByteArray) : List (ByteArray × Int) := ns.map fun s => (s, (A.H s o).getD 0)
def HePost (w : World) (A : AS) (o : Int) (c : Nat) (e : Ending) (w' : World) : Prop :=
  ∃ v ns, e = .returned v ∧ ns.Pairwise leN ∧ ns.Nodup ∧ (∀ s, s ∈ ns ↔ A.H s o ≠ none) ∧ ns.length ≤ c ∧ w'.ownsRow w.heap.size 33 2 v ns.length (grC (HeldOf A o ns)) ∧ Below w.heap.size w w'

/-- within Held's loop -/
structure HeR (w : World) (ns : List ByteArray) (A : AS) (o : Int) (nv : Value) (wr : World) (j : Nat) (ov_ : Value) : Prop where
  bl : Below w.heap.size w wr
  nr : wr.ownsRow w.heap.size 9 1 nv ns.length (ns.map Value.string)
  out : wr.ownsRow w.heap.size 33 2 ov_ j (grC (HeldOf A o (ns.take j)))

set_option maxHeartbeats 2000000 in
theorem held_r {w : World} {t : TV} {A : AS} (h : TabR w t) (hr : RepA t A) {c : Nat} (hsz : SzOk t c) (hc : c ≤ 5864062014799) (o : Int) :
    Calls Try.prog 18 #[.pointer (some ⟨t.T, 0, none⟩), .int .u64 o] w (HePost w A o c) := by
  have hnm : ∀ s, s ∈ (nmGet t.nm o).getD [] ↔ A.H s o ≠ none := fun s => hr.nm o s
  obtain ⟨es, hes⟩ : ∃ es, (nmGet t.nm o).getD [] = es := ⟨_, rfl⟩
  rw [hes] at hnm
  have hpl : ∀ s ∈ es, klook t.pl s ≠ none := fun s hs hk => by
    have h9 := (hnm s).1 hs
    exact h9 ((hr.pn s hk).1 o)
  have hss : ∀ s ∈ es, s.size ≤ maxLen := fun s hs => hsz.nm s (hpl s hs)
  obtain ⟨mb, hmb⟩ : ∃ mb, (klook t.nm o).map (·.1) = mb := ⟨_, rfl⟩
  have hmap : ∀ W, TabR W t → (∃ M, mb = some M ∧ GMap W M (setV es)) ∨ (mb = none ∧ es = []) := fun W hW => by
    unfold nmGet at hes
    cases hk : klook t.nm o with
    | none => rw [hk] at hmb hes; exact .inr ⟨hmb.symm, hes.symm⟩
    | some y =>
      rw [hk] at hmb hes
      obtain ⟨j, hj, -⟩ := klook_set hk
      refine .inl ⟨y.1, hmb.symm, ?_⟩
      have h9 := hW.nms j _ hj
      have : y.2 = es := hes
      rw [← this]; exact h9
  have hnd : es.Nodup := by
    rcases hmap w h with ⟨M, -, hg⟩ | ⟨-, rfl⟩
    · have h9 := gmap_nodup2 hg
      simpa [setV, List.map_map, Function.comp_def] using h9
    · exact List.nodup_nil
  have hel : es.length ≤ c := by
    have h9 := nodup_len (a := es) (b := t.pl.map (·.1)) hnd (fun s hs => (klook_isSome _ _).1 (hpl s hs))
    rw [List.length_map] at h9
    exact Nat.le_trans h9 hsz.pl
  have hhl : glook (nmV t.nm) o = (klook t.nm o).map (fun y => Value.map (some y.1)) := glook_map (fun y : Nat × List ByteArray => Value.map (some y.1)) t.nm o
  have hlk : ∀ W : World, TabR W t → (Instr.lookup 64 (.map (some t.N)) (.int .u64 o) false).run Try.prog W = .ok (.map mb) W := fun W hW => by
    have h9 := gmap_lookup1 (P := Try.prog) Try.underlying64 Try.underlying29 (z80 W) hW.tab.nm o
    rw [hhl] at h9
    refine h9.trans ?_
    rw [← hmb]
    cases klook t.nm o <;> rfl
  have hlen : ∀ ty, (Builtin.len_ #[80] ty #[.map mb]).run Try.prog w = .ok (.int .i64 (es.length : Int)) w := fun ty => by
    rcases hmap w h with ⟨M, rfl, hg⟩ | ⟨rfl, rfl⟩
    · have h9 := gmap_len (P := Try.prog) (ty := ty) Try.underlying80 hg
      rw [h9, setV, List.length_map]
    · simp [Builtin.len_, Sem.run_bind, run_underlying Try.underlying80, goInt]
  have c2 : w.cell? ⟨t.T, 2, none⟩ = some (.map (some t.N)) := cell_of_row w t.T 2 _ _ _ h.tab.blk
  have hl1 := hlk w h
  obtain ⟨en, hen⟩ : ∃ en, es.length = en := ⟨_, rfl⟩
  rw [hen] at hlen
  have hmk := make_grn en (by omega) w
  obtain ⟨w1, hw1⟩ : ∃ w1, w.alloc (.cells (madeCells #[Value.string ⟨#[]⟩, Value.int .i64 0] (en * 2)) 33) = w1 := ⟨_, rfl⟩
  have hb1 : Below w.heap.size w w1 := by rw [← hw1]; exact (Below.refl _ _).alloc (Nat.le_refl _) _
  have ho1 : w1.ownsRow w.heap.size 33 2 (.slice (some ⟨w.heap.size, 0, none⟩) 0 en) 0 [] := by rw [← hw1]; exact grn_own en _ (by omega) w (Nat.le_refl _)
  have ht1 := h.keep hb1.block
  have c3 : w1.cell? ⟨t.T, 2, none⟩ = some (.map (some t.N)) := cell_of_row w1 t.T 2 _ _ _ ht1.tab.blk
  have hl2 := hlk w1 ht1
  have hky := keys_any mb w1
  have hso := names_sortf w1 mb es hss (by omega) (hmap w1 ht1)
  rw [hw1] at hmk
  have H1 := Lib.hid (And.intro h (And.intro hr (And.intro hb1 (And.intro ho1 (And.intro hnm (And.intro hpl (And.intro hnd (And.intro hen (And.intro hel hc)))))))))
  have HKY := Lib.hid hky
  have HSO := Lib.hid hso
  clear hb1 hky hso hw1 h ho1 ht1 hhl hmap hss hes hnm hpl hnd hen hel hmb hc hsz hr hlk
  go_enter Try.func18, Try.ntmps18
  go_wp2_with fail
  refine HKY.out.mono ?_
  rintro e w2 ⟨rfl, rfl⟩
  go_wp2_with fail
  refine HSO.out.mono ?_
  rintro e w3 ⟨nv, ns, rfl, hperm, hsorted, hnrow, hb3⟩
  obtain ⟨na, nn, nc, rfl⟩ : ∃ va vn vc, nv = .slice va vn vc := by
    rcases hnrow.2 with ⟨rfl, -⟩ | ⟨g, cap, cur, rfl, -⟩
    · exact ⟨_, _, _, rfl⟩
    · exact ⟨_, _, _, rfl⟩
  have hnn : ns.length = nn := by
    rcases hnrow.2 with ⟨e, h0⟩ | ⟨g, cap, cur, e, -⟩
    · injection e with _ e _; omega
    · injection e with _ e _; omega
  have hR : HeR w ns A o (.slice na nn nc) w3 0 (.slice (some ⟨w.heap.size, 0, none⟩) 0 en) := by
    refine ⟨H1.out.2.2.1.trans (hb3.mono H1.out.2.2.1.size), rowU_mono' hnrow H1.out.2.2.1.size, ?_⟩
    exact rowU_keep H1.out.2.2.2.1 (fun k hk => hb3.block k (H1.out.2.2.2.1.lt k hk).2)
  have hln : nn = en := by rw [← hnn, hperm.length_eq]; exact H1.out.2.2.2.2.2.2.2.1
  have H3 := Lib.hid (And.intro hR (And.intro hperm (And.intro hsorted (And.intro hnn hln))))
  clear hR hperm hsorted hnn hnrow hb3 HSO HKY hmk hlen hl1 hl2 c2 c3 hln
  go_wp2
  go_loopw [5, 25] (fun ov_ iv wr => ∃ (j : Nat) (oa : Option Addr) (oc : Nat), iv = .int .i64 j ∧ j ≤ nn ∧ ov_ = .slice oa j oc ∧ HeR w ns A o (.slice na nn nc) wr j (.slice oa j oc)) (fun _ iv _ => nn - (Go.RowKit.intOf iv).toNat)
  case atStart => exact ⟨0, _, _, rfl, Nat.zero_le _, rfl, H3.out.1⟩
  case round =>
    obtain ⟨j, oa, oc, rfl, hjn, rfl, hR⟩ := hrel
    by_cases hlt : j < nn
    · have hjl : j < ns.length := by rw [H3.out.2.2.2.1]; exact hlt
      obtain ⟨s, hs⟩ : ∃ s, ns[j] = s := ⟨_, rfl⟩
      have hse := H3.out.2.1.mem_iff.1 (hs ▸ List.getElem_mem hjl : s ∈ ns)
      have htr : TabR wr t := H1.out.1.keep hR.bl.block
      have k1 : ∃ g off, na = some ⟨g, off, none⟩ ∧ wr.cell? ⟨g, off + j, none⟩ = some (.string s) := by
        rcases hR.nr.2 with ⟨e, h0⟩ | ⟨g, cap, cur, e, hbg, hg, r1, r2, r3, r4⟩
        · omega
        · injection e with e1 e2 e3
          refine ⟨g, 0, e1, ?_⟩
          rw [cell_of_row wr g (0 + j) cur _ _ hg, Nat.zero_add, ← Array.getElem?_toList]
          have h5 := congrArg (fun l => l[j]?) r4
          simp only [List.getElem?_take] at h5
          rw [if_pos (by omega)] at h5
          rw [h5, List.getElem?_map, List.getElem?_eq_getElem hjl, hs]
          rfl
      obtain ⟨g, off, rfl, k1⟩ := k1
      obtain ⟨x, hx⟩ : ∃ x, klook t.pl s = some x := by
        cases hk : klook t.pl s with
        | none => exact absurd hk (H1.out.2.2.2.2.2.1 s hse)
        | some x => exact ⟨x, rfl⟩
      obtain ⟨i, hi, -⟩ := klook_set hx
      obtain ⟨hp, -⟩ := htr.pls i _ hi
      have q1 : wr.cell? ⟨t.T, 0, none⟩ = some (.map (some t.P)) := cell_of_row wr t.T 0 _ _ _ htr.tab.blk
      have k2 : (Instr.lookup 62 (.map (some t.P)) (.string s) false).run Try.prog wr = .ok (.pointer (some ⟨x.p, 0, none⟩)) wr := by
        have h9 := gmap_lookup1 (P := Try.prog) Try.underlying62 Try.underlying9 (z67 wr) htr.tab.pl s
        have h8 : glook (plV t.pl) s = (klook t.pl s).map (fun y => Value.pointer (some ⟨y.p, 0, none⟩)) := glook_map (fun y : PV => Value.pointer (some ⟨y.p, 0, none⟩)) t.pl s
        rw [h8, hx] at h9
        exact h9
      have q2 : wr.cell? ⟨x.p, 0, none⟩ = some (.map (some x.H)) := cell_of_row wr x.p 0 _ _ _ hp.blk
      have k3 : (Instr.lookup 68 (.map (some x.H)) (.int .u64 o) false).run Try.prog wr = .ok (.int .i64 ((A.H s o).getD 0)) wr := by
        have h9 := gmap_lookup1 (P := Try.prog) Try.underlying68 Try.underlying29 (z3 wr) hp.hl o
        have h8 : glook (hsV x.hs) o = (klook x.hs o).map (fun y => Value.int .i64 y) := glook_map (fun y : Int => Value.int .i64 y) x.hs o
        rw [h8, (H1.out.2.1.pl s x hx).1] at h9
        refine h9.trans ?_
        cases A.H s o <;> rfl
      obtain ⟨mm, hmm⟩ : ∃ mm, (A.H s o).getD 0 = mm := ⟨_, rfl⟩
      rw [hmm] at k3
      have hlH : (HeldOf A o (ns.take j)).length = j := by unfold HeldOf; rw [List.length_map, List.length_take]; omega
      obtain ⟨v', w', hr', ho', hg'⟩ := push_gr (ty := 30) s mm (by rw [hlH]; exact hR.out) hR.bl.size (by have := H1.out.2.2.2.2.2.2.2.2; have := H1.out.2.2.2.2.2.2.2.1; have := H3.out.2.2.2.2; omega)
      have htake : HeldOf A o (ns.take j) ++ [(s, mm)] = HeldOf A o (ns.take (j + 1)) := by
        unfold HeldOf
        rw [List.take_add_one, List.getElem?_eq_getElem hjl, hs, List.map_append, Option.toList_some, List.map_singleton, hmm]
      rw [htake] at ho'
      have hlH2 : (HeldOf A o (ns.take (j + 1))).length = j + 1 := by unfold HeldOf; rw [List.length_map, List.length_take]; omega
      rw [hlH2] at ho'
      obtain ⟨pa, pn, pc, rfl⟩ : ∃ va vn vc, v' = .slice va vn vc := by
        rcases ho'.2 with ⟨rfl, -⟩ | ⟨g, cap, cur, rfl, -⟩
        · exact ⟨_, _, _, rfl⟩
        · exact ⟨_, _, _, rfl⟩
      obtain rfl : pn = j + 1 := by
        rcases ho'.2 with ⟨e, h0⟩ | ⟨g, cap, cur, e, -⟩
        · omega
        · injection e with _ e _
      have hgb' := hg'.block
      have hRn : HeR w ns A o (.slice (some ⟨g, off, none⟩) nn nc) w' (j + 1) (.slice pa (j + 1) pc) :=
        ⟨hR.bl.grown hg' hR.bl.size (fun k hk => (hR.out.lt k hk).1), rowU_keep hR.nr (fun k hk => hgb' k (hR.nr.lt k hk).2 (fun e => row_apart hR.nr hR.out (by decide) k hk e.symm)), ho'⟩
      have HN := Lib.hid hRn
      have HR' := Lib.hid hr'
      have hji : (j : Int) < (nn : Int) := by omega
      have hj0 : (0 : Int) ≤ (j : Int) := by omega
      have HLT := Lib.hid hlt
      have HWJ : Hid (wrap64 ((j : Int) + 1) = ((j + 1 : Nat) : Int)) := by show _ = _; have := H1.out.2.2.2.2.2.2.2.2; have := H1.out.2.2.2.2.2.2.2.1; have := H3.out.2.2.2.2; unfold wrap64; omega
      clear hgb' hR hjl hs hse htr hx hi hp hmm hlH hr' ho' hg' htake hlH2 hRn hlt hjn
      go_wp2_with (at_builtin; refine wpList_append_eq rfl rfl HR'.out rfl rfl ?_; clear HR')
      go_roundw
      case rel => exact ⟨j + 1, _, _, by rw [HWJ.out], HLT.out, rfl, HN.out⟩
      case measure => exact meas_up HWJ.out HLT.out
    · have hji : ¬ (j : Int) < (nn : Int) := by omega
      have hjj : j = nn := by omega
      subst hjj
      have HF : Hid (HePost w A o c (.returned (.slice oa j oc)) wr) := by
        refine ⟨_, ns, rfl, H3.out.2.2.1, H3.out.2.1.nodup_iff.2 H1.out.2.2.2.2.2.2.1, fun s => (H3.out.2.1.mem_iff).trans (H1.out.2.2.2.2.1 s), ?_, ?_, hR.bl⟩
        · rw [H3.out.2.1.length_eq]; exact H1.out.2.2.2.2.2.2.2.2.1
        · have h9 := hR.out
          rw [List.take_of_length_le (by rw [H3.out.2.2.2.1]; exact Nat.le_refl _)] at h9
          rw [H3.out.2.2.2.1]
          exact h9
      clear hR hlt hjn
      go_wp2
      go_ret
      exact HF.out
theorem Sd.held {W1 w : World} {T : Nat} {t : TV} {A : AS} {c : Nat} (h : Sd W1 w T t A c) (hc : c ≤ 5864062014799) (o : Int) :
    Calls Try.prog 18 #[.pointer (some ⟨T, 0, none⟩), .int .u64 o] w (HePost w A o c) := by
  have h9 := held_r h.tab h.rep h.sz hc o
  rw [h.T] at h9
  exact h9
end Mun
