/- Contracts of munimentref5.Lists, Low. -/
import Derived.Test.YtndeebchiodimaaRowB
import Derived.Test.YtndeebchiodimaaP13
set_option maxRecDepth 100000
set_option linter.unusedVariables false
set_option linter.unusedSimpArgs false
namespace Mun
open Go Go.RowKit
open Go.Proofs

theorem ListsAt.form {F : Foot} {w : World} {v : Value} {cs : List (List UInt8)} {vs : List Value} (h : ListsAt F w v cs vs) : ∃ a n c, v = .slice a n c ∧ Hid (n = cs.length) ∧ n ≤ c ∧ c ≤ maxLen := by
  obtain ⟨a, c, h1, h2, h3⟩ := h.row.form
  exact ⟨a, _, c, h1, rfl, h2, h3⟩

theorem ListsAt.cellAt {F : Foot} {w : World} {v : Value} {cs : List (List UInt8)} {vs : List Value} (h : ListsAt F w v cs vs) (i : Nat) (hi : i < cs.length) :
    ∃ g off c a n c2, v = .slice (some ⟨g, off, none⟩) cs.length c ∧ w.cell? ⟨g, off + i, none⟩ = some (.slice a n c2) ∧ RdB F w (.slice a n c2) cs[i] ∧ cs.length ≤ c ∧ c ≤ maxLen := by
  obtain ⟨g, off, c, hv, h1, h2, h3, h4, h5⟩ := RdV.at_ h.row (by omega)
  obtain ⟨u, hu1, hu2⟩ := h.rd i hi
  obtain ⟨a, c2, rfl, -, -⟩ := hu2.form
  exact ⟨g, off, c, a, _, c2, hv, h5 i _ hu1, hu2, h1, h2⟩

set_option maxHeartbeats 1000000 in
theorem lists_any {F : Foot} (w : World) (u v : Value) (xs ys : List (List UInt8)) (us vs : List Value) (hu : ListsAt F w u xs us) (hv : ListsAt F w v ys vs) (r : Bool) (hr : decide (xs = ys) = r) :
    Calls Try.prog 16 #[u, v] w fun e w' => e = .returned (.bool r) ∧ Below w.heap.size w w' := by
  by_cases hl : xs.length = ys.length
  · obtain ⟨a1, n, c1, rfl, HN1, hlc1, hcm1⟩ := hu.form
    obtain ⟨a2, n2, c2, rfl, HN2, hlc2, hcm2⟩ := hv.form
    obtain rfl : n = n2 := by rw [HN1.out, HN2.out]; exact hl
    have HU := Lib.hid hu
    have HV := Lib.hid hv
    have HR := Lib.hid hr
    have hnb : (n : Int) ≤ 9223372036854775807 := by unfold maxLen at hcm1; omega
    clear hu hv hl hr hlc1 hlc2 hcm1 hcm2
    go_enter Try.func16, Try.ntmps16
    go_wp2
    go_loopw [5] (fun i wr => ∃ k : Nat, k ≤ n ∧ i = .int .i64 (k : Int) ∧ Below w.heap.size w wr ∧ ∀ j, j < k → xs[j]? = ys[j]?) (fun i _ => n - (intOf i).toNat)
    case atStart => exact ⟨0, by omega, rfl, Below.refl _ _, fun j hj => by omega⟩
    case round =>
      obtain ⟨k, hk, rfl, hB, hE⟩ := hrel
      rcases Nat.lt_or_eq_of_le hk with hlt | heq
      · have hu2 := HU.out.below hB
        have hv2 := HV.out.below hB
        obtain ⟨g1, o1, c1', b1, m1, d1, e1, hc1, hr1, hx1, hx2⟩ := hu2.cellAt k (by rw [← HN1.out]; exact hlt)
        obtain ⟨g2, o2, c2', b2, m2, d2, e2, hc2, hr2, hx3, hx4⟩ := hv2.cellAt k (by rw [← HN2.out]; exact hlt)
        injection e1 with e1 _ e3
        injection e2 with e2 _ e4
        subst e1 e2 e3 e4
        have hs1 : ∀ j, (convert 22 9 (.slice b1 m1 d1)).run Try.prog (wr.drewN j) = .ok (.string (strOf (xs[k]'(by rw [← HN1.out]; exact hlt)))) (wr.drewN j) := fun j => str_bytes (F := F) (w := wr.drewN j) hr1
        have hs2 : ∀ j, (convert 22 9 (.slice b2 m2 d2)).run Try.prog (wr.drewN j) = .ok (.string (strOf (ys[k]'(by rw [← HN2.out]; exact hlt)))) (wr.drewN j) := fun j => str_bytes (F := F) (w := wr.drewN j) hr2
        have HA : Hid (xs[k]? = some (xs[k]'(by rw [← HN1.out]; exact hlt)) ∧ ys[k]? = some (ys[k]'(by rw [← HN2.out]; exact hlt))) := ⟨List.getElem?_eq_getElem _, List.getElem?_eq_getElem _⟩
        have hx := strOf_eq (xs[k]'(by rw [← HN1.out]; exact hlt)) (ys[k]'(by rw [← HN2.out]; exact hlt))
        generalize (xs[k]'(by rw [← HN1.out]; exact hlt)) = x at hs1 HA hx
        generalize (ys[k]'(by rw [← HN2.out]; exact hlt)) = y at hs2 HA hx
        have hki : (k : Int) < (n : Int) := by omega
        have hk0 : (0 : Int) ≤ (k : Int) := by omega
        have HB := Lib.hid (And.intro hB (And.intro hE hlt))
        clear hu2 hv2 hr1 hr2 hx1 hx2 hx3 hx4 hB hE hk
        by_cases hxy : x = y
        · have t1 : ((strOf x).toList == (strOf y).toList) = true := by rw [hx]; simpa using hxy
          have t2 : ((strOf x).toList != (strOf y).toList) = false := by simp only [bne, t1]; rfl
          have HXY := Lib.hid hxy
          clear hx hxy
          go_wp2
          go_quiet (fail)
          go_wp2
          go_roundw
          case rel => exact ⟨k + 1, by have := HB.out.2.2; omega, by go_num, below_drewN HB.out.1 _, fun j hj => by
            rcases Nat.lt_or_eq_of_le (Nat.lt_succ_iff.1 hj) with h | rfl
            · exact HB.out.2.1 j h
            · rw [HA.out.1, HA.out.2, HXY.out]⟩
          case measure => have := HB.out.2.2; simp [intOf]; omega
        · have t1 : ((strOf x).toList == (strOf y).toList) = false := by rw [hx]; simpa using hxy
          have t2 : ((strOf x).toList != (strOf y).toList) = true := by simp only [bne, t1]; rfl
          have HF : Hid (r = false) := by
            show _ = _
            rw [← HR.out]
            simp only [decide_eq_false_iff_not]
            rintro rfl
            have h := HA.out.1.symm.trans HA.out.2
            injection h with h
            exact hxy h
          clear hx hxy
          go_wp2
          go_quiet (fail)
          go_wp2
          go_ret
          exact ⟨by rw [HF.out]; rfl, below_drewN HB.out.1 _⟩
      · subst heq
        have HT : Hid (r = true) := by
          show _ = _
          rw [← HR.out]
          simp only [decide_eq_true_eq]
          apply List.ext_getElem?
          intro j
          rcases Nat.lt_or_ge j k with h | h
          · exact hE j h
          · rw [List.getElem?_eq_none (by rw [← HN1.out]; exact h), List.getElem?_eq_none (by rw [← HN2.out]; exact h)]
        have HB := Lib.hid hB
        clear hB hE hk
        go_wp2
        go_ret
        exact ⟨by rw [HT.out]; rfl, HB.out⟩
  · have HF : Hid (r = false) := by
      show _ = _
      rw [← hr]
      simp only [decide_eq_false_iff_not]
      rintro rfl
      exact hl rfl
    obtain ⟨a1, n, c1, rfl, HN1, hlc1, hcm1⟩ := hu.form
    obtain ⟨a2, n2, c2, rfl, HN2, hlc2, hcm2⟩ := hv.form
    have t1 : ((n : Int) != (n2 : Int)) = true := by have := HN1.out; have := HN2.out; simp; omega
    have t2 : ((n : Int) == (n2 : Int)) = false := by have := HN1.out; have := HN2.out; simp; omega
    clear hu hv hl hr
    go_enter Try.func16, Try.ntmps16
    go_wp2
    go_ret
    exact ⟨by rw [HF.out]; rfl, Below.refl _ _⟩

/-- cells of a call's own, as rows that read -/
theorem CellsAt.lists {B : Nat} {w : World} {v : Value} {cs : List PBytes} {gs : List Nat} (h : CellsAt B w v cs gs) (hm : ∀ c ∈ cs, c.length ≤ maxLen) : ListsAt NoF w v cs (List.zipWith cval gs cs) := by
  have hzl : (List.zipWith cval gs cs).length = cs.length := by rw [List.length_zipWith, h.len, Nat.min_self]
  have hr := h.row
  unfold OwnV at hr
  rw [hzl] at hr
  refine ⟨RdV.of_own hr (fun _ _ => noF _), fun i hi => ?_⟩
  obtain ⟨g, h1, h2⟩ := h.blk i hi
  refine ⟨cval g cs[i], ?_, ?_⟩
  · rw [List.getElem?_zipWith, h1, List.getElem?_eq_getElem hi]
  · have hc := hm cs[i] (List.getElem_mem hi)
    refine ⟨by simp [bv], some ⟨g, 0, none⟩, cs[i].length, rfl, Nat.le_refl _, hc, by simp, fun _ => ⟨g, 0, _, _, _, rfl, noF _, h2, ?_⟩⟩
    simp only [List.drop_zero]
    rw [List.take_of_length_le (by simp [bv])]

theorem reflow_any {F : Foot} (w : World) (v : Value) (p : List UInt8) (hv : RdB F w v p) (hp : 18 ≤ p.length) : Calls Try.prog 18 #[v] w fun e w' => e = .returned (.int .i64 (lowP p)) ∧ w = w' := by
  have hb : lowP p < 65536 := gt2_lt p 16
  have hg := refget_any w _ p 16 2 16 2 (lowP p : Int) rfl rfl rfl hv (by omega) (by decide)
  obtain ⟨a, n, c, rfl, -, -, -⟩ := hv.formN
  obtain ⟨z, hz⟩ : ∃ z, lowP p = z := ⟨_, rfl⟩
  rw [hz] at hg hb ⊢
  have HG := Lib.hid hg
  clear hg hz hv
  have hget : Calls Try.prog 55 #[.slice a n c, .int .i64 16, .int .i64 2] w fun e w' => e = .returned (.int .i64 (z : Int)) ∧ w = w' := by
    go_enter Try.func55, Try.ntmps55
    go_wp2_with fail
    refine HG.out.mono ?_
    rintro e w2 ⟨rfl, rfl⟩
    go_wp2
    go_ret
    exact ⟨rfl, rfl⟩
  have HGT := Lib.hid hget
  clear hget
  go_enter Try.func18, Try.ntmps18
  go_wp2_with fail
  refine HGT.out.mono ?_
  rintro e w2 ⟨rfl, rfl⟩
  go_wp2
  go_ret
  exact ⟨rfl, rfl⟩
end Mun
