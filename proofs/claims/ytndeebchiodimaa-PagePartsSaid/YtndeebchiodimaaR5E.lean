/- Contract of munimentref5.Cells. -/
import Derived.Test.YtndeebchiodimaaR5B
import Derived.Test.YtndeebchiodimaaR5P
import Derived.Test.YtndeebchiodimaaKeptPB
set_option maxRecDepth 100000
set_option linter.unusedVariables false
set_option linter.unusedSimpArgs false
namespace Mun
open Go Go.RowKit
open Go.Proofs

/-- append(nil, b...) -/
theorem append_nil_any {F : Foot} {w : World} {ty : TypeId} {s : Value} {ys : List UInt8} (hs : RdB F w s ys) (hbytes : ys.length ≤ 140737488355328) :
    ∃ a c w', (Builtin.append_ #[22, 22] ty #[.slice none 0 0, s]).run Try.prog w = .ok (.slice a ys.length c) w' ∧
      OwnB w' w.heap.size 5 (.slice a ys.length c) ys ∧ Below w.heap.size w w' := by
  obtain ⟨v3, w3, hr, ho, hgr, hob, hnil⟩ := append_bytes (base := w.heap.size) (ty := ty) (OwnB.nil w w.heap.size 5) hs (by simpa using hbytes) (Nat.le_refl _)
  rw [List.nil_append] at ho
  obtain ⟨a, c, rfl, -, -⟩ := (OwnB.rd (F := NoF) ho (fun _ _ => noF _)).form
  exact ⟨a, c, w3, hr, ho, (Below.refl _ _).grown hgr (Nat.le_refl _) (fun k hk => by simp [Value.ownBlock] at hk)⟩

/-- a list of byte strings in new memory -/
structure NewL (B : Nat) (w0 wr : World) (v : Value) (us : List Value) (cs : List PBytes) : Prop where
  row : OwnV wr B v us
  len : us.length = cs.length
  own : ∀ (i : Nat) (u : Value), us[i]? = some u → ∃ c, cs[i]? = some c ∧ OwnB wr B 5 u c
  bl : Below B w0 wr

theorem NewL.nil {B : Nat} {w0 wr : World} (h : Below B w0 wr) : NewL B w0 wr (.slice none 0 0) [] [] := ⟨World.ownsRow_nil wr B _ 1, rfl, fun i u h => by simp at h, h⟩
theorem NewL.below {B : Nat} {w0 wr w' : World} {v : Value} {us : List Value} {cs : List PBytes} (h : NewL B w0 wr v us cs) (hB : B ≤ wr.heap.size) (hb : Below wr.heap.size wr w') : NewL B w0 w' v us cs :=
  ⟨h.row.same (fun k hk => hb.block k (h.row.lt k hk).2), h.len, fun i u hu => by obtain ⟨c, h1, h2⟩ := h.own i u hu; exact ⟨c, h1, h2.below hb⟩, h.bl.trans (hb.mono hB)⟩
theorem NewL.form {B : Nat} {w0 wr : World} {v : Value} {us : List Value} {cs : List PBytes} (h : NewL B w0 wr v us cs) : ∃ a c, v = .slice a us.length c := by
  rcases h.row.2 with ⟨rfl, h0⟩ | ⟨g, cap, cur, rfl, _⟩
  · exact ⟨none, 0, by rw [h0]⟩
  · exact ⟨_, _, rfl⟩

/-- one more -/
theorem NewL.push {B : Nat} {w0 wr : World} {ty : TypeId} {v u : Value} {us : List Value} {cs : List PBytes} {c : PBytes} (h : NewL B w0 wr v us cs) (hB : B ≤ wr.heap.size) (ho : OwnB wr B 5 u c) (hl : us.length < 1000000) :
    ∃ g cp w', (Builtin.append_ #[28, 28] ty #[v, .slice (some ⟨wr.heap.size, 0, none⟩) 1 1]).run Try.prog (wr.alloc (.cells #[u] 22)) = .ok (.slice (some ⟨g, 0, none⟩) (us.length + 1) cp) w' ∧
      NewL B w0 w' (.slice (some ⟨g, 0, none⟩) (us.length + 1) cp) (us ++ [u]) (cs ++ [c]) := by
  obtain ⟨a, cc, e, -⟩ := (OwnB.rd (F := NoF) ho (fun _ _ => noF _)).form
  obtain ⟨v', w', hr, h1, h2, h3, g, cp, rfl⟩ := append_one (ty := ty) (x := u) (by subst e; rfl) h.row hl hB
  refine ⟨g, cp, w', hr, h1, by simp [h.len], fun i x hx => ?_, ?_⟩
  · have hkeep : ∀ k, k < wr.heap.size → some k ≠ v.ownBlock → w'.heap[k]? = wr.heap[k]? := fun k hk hne => by rw [h2.block k (by simp; omega) hne, heap_alloc_old _ _ hk]
    rcases getElem?_append_cases hx with ⟨h4, h5⟩ | ⟨h4, h5⟩
    · obtain ⟨d, h6, h7⟩ := h.own i x h5
      refine ⟨d, by rw [List.getElem?_append_left (by rw [← h.len]; exact h4)]; exact h6, h7.same (fun k hk => hkeep k (h7.lt k hk).2 (fun he => own_row_ne h7 h.row hk he.symm))⟩
    · have hi0 : i - us.length = 0 := by
        rcases Nat.eq_zero_or_pos (i - us.length) with h0 | h0
        · exact h0
        · rw [List.getElem?_eq_none (by simp; omega)] at h5; cases h5
      rw [hi0] at h5
      simp only [List.getElem?_cons_zero, Option.some.injEq] at h5
      subst h5
      refine ⟨c, by rw [List.getElem?_append_right (by rw [← h.len]; exact h4), ← h.len, hi0]; rfl, ho.same (fun k hk => hkeep k (ho.lt k hk).2 (fun he => own_row_ne ho h.row hk he.symm))⟩
  · exact (h.bl.alloc hB _).grown h2 (by simp; omega) (fun k hk => (h.row.lt k hk).1)

/-- what is old -/
def OldF (B : Nat) : Foot := fun k => k < B
theorem NewL.lists {B : Nat} {w0 wr : World} {v : Value} {us : List Value} {cs : List PBytes} (h : NewL B w0 wr v us cs) : ListsAt (OldF B) wr v cs us := by
  refine ⟨by rw [← h.len]; exact RdV.of_own' h.row (fun k hk hF => by have := (h.row.lt k hk).1; unfold OldF at hF; omega), fun i hi => ?_⟩
  obtain ⟨c, h1, h2⟩ := h.own i (us[i]'(by rw [h.len]; exact hi)) (List.getElem?_eq_getElem _)
  rw [List.getElem?_eq_getElem hi] at h1
  injection h1 with h1
  subst h1
  exact ⟨_, List.getElem?_eq_getElem _, RdV.of_own' h2 (fun k hk hF => by have := (h2.lt k hk).1; unfold OldF at hF; omega)⟩
theorem ListsAt.chg {F F' : Foot} {w w' : World} {v : Value} {cs : List (List UInt8)} {vs : List Value} (h : ListsAt F w v cs vs) (hc : Chg F F' w w') : ListsAt F' w' v cs vs :=
  ⟨h.row.chg hc, fun i hi => by obtain ⟨u, h1, h2⟩ := h.rd i hi; exact ⟨u, h1, RdB.chg h2 hc⟩⟩
theorem ListsAt.mono {F F' : Foot} {w : World} {v : Value} {cs : List (List UInt8)} {vs : List Value} (h : ListsAt F w v cs vs) (hF : ∀ k, k < w.heap.size → F' k → F k) : ListsAt F' w v cs vs :=
  ⟨h.row.mono hF, fun i hi => by obtain ⟨u, h1, h2⟩ := h.rd i hi; exact ⟨u, h1, RdB.mono h2 hF⟩⟩

set_option maxHeartbeats 1000000 in
theorem r5cells {F : Foot} (w : World) (v : Value) (p : List UInt8) (hv : RdB F w v p) (hg : AnewOk p) :
    Calls Try.prog 38 #[v] w fun e w' => ∃ u us, e = .returned u ∧ NewL w.heap.size w w' u us (cellsP p (cnt p)) := by
  have hfit := hg.fit
  have HV := Lib.hid hv
  have HP := Lib.hid hg
  obtain ⟨a, n, c, rfl, HN, -, -⟩ := hv.formN
  have hmb : cnt p ≤ 121 := by omega
  obtain ⟨m, hm⟩ : ∃ m, cnt p = m := ⟨_, rfl⟩
  rw [hm] at hmb ⊢
  have HM := Lib.hid hm
  clear hv hg hm hfit
  go_enter Try.func38, Try.ntmps38
  go_wp2
  go_loopw [3, 4] (fun u i wr => ∃ (k : Nat) (us : List Value), k ≤ m ∧ i = .int .i64 (k : Int) ∧ NewL w.heap.size w wr u us (cellsP p k)) (fun _ i _ => m - (intOf i).toNat)
  case atStart => exact ⟨0, [], by omega, rfl, NewL.nil (Below.refl _ _)⟩
  case round =>
    obtain ⟨k, us, hk, rfl, hR⟩ := hrel
    have hul : us.length = k := by rw [hR.len, cellsP_length]
    obtain ⟨ua, uc, rfl⟩ := hR.form
    have hvr := RdB.below HV.out hR.bl
    have hcn := r5count wr _ p hvr (by rw [HP.out.len]; decide)
    rw [HM.out] at hcn
    have HCN := Lib.hid hcn
    clear hcn
    rcases Nat.lt_or_eq_of_le hk with hlt | heq
    · have hsl := r5slot wr _ p k hvr (by rw [HP.out.len]; omega) (by rw [HP.out.len]; decide)
      have hcell := HP.out.cell k (by rw [HM.out]; exact hlt)
      have hcp : cellP p k = (p.drop (sFrom p k)).take (sSize p k) := rfl
      have hcl := cellP_length HP.out (k := k) (by rw [HM.out]; exact hlt)
      obtain ⟨f, hf⟩ : ∃ f, sFrom p k = f := ⟨_, rfl⟩
      obtain ⟨s, hs⟩ : ∃ s, sSize p k = s := ⟨_, rfl⟩
      rw [hf, hs] at hsl hcell hcp
      rw [hs] at hcl
      obtain ⟨a1, c1, hcut, hrd⟩ := slice_bytes hvr f (f + s) (f : Int) ((f : Int) + (s : Int)) rfl (by omega) (by omega) (by rw [HP.out.len]; exact hcell)
      rw [show f + s - f = s from by omega, ] at hcut hrd
      rw [← hcp] at hrd
      obtain ⟨a2, c2, w2, hr2, ho2, hb2⟩ := append_nil_any (ty := 22) hrd (by omega)
      rw [hcl] at hr2 ho2
      have hR2 := hR.below hR.bl.size hb2
      obtain ⟨g3, c3, w3, hr3, hR3⟩ := hR2.push (ty := 28) hR2.bl.size (ho2.lower hR.bl.size) (by omega)
      rw [← cellsP_succ] at hR3
      rw [hul] at hr3 hR3 ⊢
      have HS := Lib.hid hsl
      have HR2 := Lib.hid hr2
      have HR3 := Lib.hid hr3
      have HN3 := Lib.hid (And.intro hR3 hlt)
      have hki : (k : Int) < (m : Int) := by omega
      have hk0 : (0 : Int) ≤ (k : Int) := by omega
      have hfs : (f : Int) + (s : Int) ≤ 512 := by omega
      clear hul hR hvr hsl hcell hcp hcl hf hs hrd hr2 ho2 hb2 hR2 hr3 hR3 hlt hk
      go_wp2_with fail
      refine HCN.out.mono ?_
      rintro e w8 ⟨rfl, rfl⟩
      go_wp2_with fail
      refine HS.out.mono ?_
      rintro e w8 ⟨rfl, rfl⟩
      go_wp2_with (at_builtin; first | (refine wpList_append_eq rfl rfl HR2.out rfl rfl ?_; clear HR2) | (refine wpList_append_eq rfl rfl HR3.out rfl rfl ?_; clear HR3))
      go_roundw
      case rel => exact ⟨k + 1, _, by have := HN3.out.2; omega, by go_num, HN3.out.1⟩
      case measure => have := HN3.out.2; simp [intOf]; omega
    · subst heq
      have HR := Lib.hid hR
      clear hR hk hvr hul
      go_wp2_with fail
      refine HCN.out.mono ?_
      rintro e w8 ⟨rfl, rfl⟩
      go_wp2
      go_ret
      exact ⟨_, us, rfl, HR.out⟩
end Mun
