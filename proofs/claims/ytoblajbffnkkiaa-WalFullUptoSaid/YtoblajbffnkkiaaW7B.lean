/- Contract of the reference of chapter 7: whether a record is good. -/
import Derived.Test.YtoblajbffnkkiaaW7A
set_option maxRecDepth 100000
set_option linter.unusedVariables false
set_option linter.unusedSimpArgs false
namespace Mun
open Go Go.RowKit
open Go.Proofs

set_option maxHeartbeats 1000000 in
theorem r7good {F : Foot} (w : World) (r : PR) (x : RV) (h : RecAt F w r x) :
    Calls Try.prog 49 #[rval r x] w fun e w' => e = .returned (.bool (goodR r)) ∧ Below w.heap.size w w' := by
  unfold rval
  by_cases k1 : r.kind < 1
  · have HG : Hid (goodR r = false) := by
      unfold Hid
      rw [Bool.eq_false_iff]
      intro hg
      have := (goodR_iff r).1 hg
      omega
    go_enter Try.func49, Try.ntmps49
    go_wp2
    go_ret
    exact ⟨by rw [HG.out]; rfl, (Below.refl _ _).alloc (Nat.le_refl _) _⟩
  · by_cases k2 : 9 < r.kind
    · have HG : Hid (goodR r = false) := by
        unfold Hid
        rw [Bool.eq_false_iff]
        intro hg
        have := (goodR_iff r).1 hg
        omega
      go_enter Try.func49, Try.ntmps49
      go_wp2
      go_ret
      exact ⟨by rw [HG.out]; rfl, (Below.refl _ _).alloc (Nat.le_refl _) _⟩
    · have hk1 : 1 ≤ r.kind := by omega
      have hk2 : ¬ 9 < r.kind := k2
      clear k1 k2
      obtain ⟨a, n, c, hcv, HN, hnc, hcm⟩ : ∃ a n c, x.cv = .slice a n c ∧ Hid (n = x.cs.length) ∧ n ≤ c ∧ c ≤ maxLen := by
        obtain ⟨a, c, hv, h1, h2⟩ := h.cs.row.form
        exact ⟨a, _, c, hv, rfl, h1, h2⟩
      have hn : (n : Int) ≤ 9223372036854775807 := by unfold maxLen at hcm; omega
      have HC : ∀ i (hi : i < x.cs.length), ∃ g off, a = some ⟨g, off, none⟩ ∧ g < w.heap.size ∧ w.cell? ⟨g, off + i * 4, none⟩ = some (.int .i64 x.cs[i].1.page) ∧ w.cell? ⟨g, off + i * 4 + 1, none⟩ = some (.int .i64 x.cs[i].1.at_) ∧
          w.cell? ⟨g, off + i * 4 + 2, none⟩ = some (.bool x.cs[i].1.whole) ∧ w.cell? ⟨g, off + i * 4 + 3, none⟩ = some x.cs[i].2 := by
        intro i hi
        obtain ⟨g, off, c', hv, h1, h2, h3, h4, h5, h6, h7, h8⟩ := h.cs.at_ i hi
        rw [hcv] at hv
        injection hv with e1 e2 e3
        exact ⟨g, off, e1, h4, h5, h6, h7, h8⟩
      have HB : ∀ i (hi : i < x.cs.length), ∃ a c, x.cs[i].2 = .slice a x.cs[i].1.b.length c ∧ x.cs[i].1.b.length ≤ 9223372036854775807 := fun i hi => by
        obtain ⟨a, c, hv, h1, h2⟩ := (h.cs.rd _ (List.getElem_mem hi)).form
        exact ⟨a, c, hv, by unfold maxLen at h2; omega⟩
      have HE : Hid (goodR r = (x.cs.all fun p => goodC p.1)) := by
        unfold Hid goodR
        rw [← h.eq, List.all_map]
        have e1 : decide (1 ≤ r.kind) = true := decide_eq_true hk1
        have e2 : decide (r.kind ≤ 9) = true := decide_eq_true (by omega)
        rw [e1, e2]
        rfl
      rw [hcv]
      clear h
      have HC2 := Lib.hid HC
      have HB2 := Lib.hid HB
      clear HC HB hcm
      go_enter Try.func49, Try.ntmps49
      go_wp2
      go_loopw [3] (fun i wr => ∃ k : Nat, k ≤ n ∧ i = .int .i64 k ∧ (Below w.heap.size w wr ∧ w.heap.size < wr.heap.size ∧ wr.cell? ⟨w.heap.size, 5, none⟩ = some (.slice a n c)) ∧ (∀ j (hj : j < x.cs.length), j < k → goodC x.cs[j].1 = true)) (fun i _ => n - (intOf i).toNat)
      case atStart => exact ⟨0, Nat.zero_le _, rfl, ⟨(Below.refl _ _).alloc (Nat.le_refl _) _, by simp, cell_of_row _ _ 5 _ _ _ (heap_alloc_new w _)⟩, fun j hj h0 => absurd h0 (Nat.not_lt_zero _)⟩
      case round =>
        obtain ⟨k, hk, rfl, ⟨hb, hz, a5⟩, hg⟩ := hrel
        by_cases hlt : k < n
        · have hkl : k < x.cs.length := by rw [← HN.out]; exact hlt
          obtain ⟨g, off, rfl, hgl, c0, c1, c2, c3⟩ := HC2.out k hkl
          obtain ⟨ba, bc, hbv, hbm⟩ := HB2.out k hkl
          rw [hbv] at c3
          rw [← hb.cell (p := ⟨g, off + k * 4, none⟩) hgl] at c0
          rw [← hb.cell (p := ⟨g, off + k * 4 + 1, none⟩) hgl] at c1
          rw [← hb.cell (p := ⟨g, off + k * 4 + 2, none⟩) hgl] at c2
          rw [← hb.cell (p := ⟨g, off + k * 4 + 3, none⟩) hgl] at c3
          have HBad : Hid (goodC x.cs[k].1 = false → goodR r = false) := fun hf => by
            rw [HE.out, List.all_eq_false]
            exact ⟨_, List.getElem_mem hkl, by rw [hf]; exact Bool.false_ne_true⟩
          have HYes : Hid (goodC x.cs[k].1 = true → ∀ j (hj : j < x.cs.length), j < k + 1 → goodC x.cs[j].1 = true) := fun ht j hj hjk => by
            rcases Nat.lt_or_ge j k with h1 | h1
            · exact hg j hj h1
            · obtain rfl : j = k := by omega
              exact ht
          have hBe : Below w.heap.size w (wr.alloc (.cells #[.int .i64 x.cs[k].1.page, .int .i64 x.cs[k].1.at_, .bool x.cs[k].1.whole, .slice ba x.cs[k].1.b.length bc] 81)) ∧ w.heap.size < (wr.alloc (.cells #[.int .i64 x.cs[k].1.page, .int .i64 x.cs[k].1.at_, .bool x.cs[k].1.whole, .slice ba x.cs[k].1.b.length bc] 81)).heap.size ∧ (wr.alloc (.cells #[.int .i64 x.cs[k].1.page, .int .i64 x.cs[k].1.at_, .bool x.cs[k].1.whole, .slice ba x.cs[k].1.b.length bc] 81)).cell? ⟨w.heap.size, 5, none⟩ = some (.slice (some ⟨g, off, none⟩) n c) := ⟨hb.alloc hb.size _, by simp; omega, (((Below.refl wr.heap.size wr).alloc (Nat.le_refl _) _).cell (p := ⟨w.heap.size, 5, none⟩) hz).trans a5⟩
          have Hb := Lib.hid hBe
          clear hg hb hbv hBe
          generalize x.cs[k].1 = pc at c0 c1 c2 c3 hbm HBad HYes Hb
          have HG1 : Hid (GoodC pc → goodC pc = true) := (goodC_iff pc).2
          have HG0 : Hid (¬ GoodC pc → goodC pc = false) := fun h => by rw [Bool.eq_false_iff]; exact fun h1 => h ((goodC_iff pc).1 h1)
          have HL : Hid (pc.b.length = pc.b.length) := rfl
          by_cases q1 : pc.page < 0
          · have HG : Hid (goodR r = false) := HBad.out (HG0.out (fun h => by have := h.p0; omega))
            go_wp2
            go_ret
            exact ⟨by rw [HG.out]; rfl, Hb.out.1⟩
          by_cases q2 : 65536 ≤ pc.page
          · have HG : Hid (goodR r = false) := HBad.out (HG0.out (fun h => by have := h.p1; omega))
            go_wp2
            go_ret
            exact ⟨by rw [HG.out]; rfl, Hb.out.1⟩
          by_cases q3 : pc.at_ < 0
          · have HG : Hid (goodR r = false) := HBad.out (HG0.out (fun h => by have := h.a0; omega))
            go_wp2
            go_ret
            exact ⟨by rw [HG.out]; rfl, Hb.out.1⟩
          by_cases q4 : 512 < pc.at_
          · have HG : Hid (goodR r = false) := HBad.out (HG0.out (fun h => by have := h.a1; omega))
            go_wp2
            go_ret
            exact ⟨by rw [HG.out]; rfl, Hb.out.1⟩
          have q3' : 0 ≤ pc.at_ := by omega
          have q4' : pc.at_ ≤ 512 := by omega
          by_cases q5 : 512 - pc.at_ < (pc.b.length : Int)
          · have HG : Hid (goodR r = false) := HBad.out (HG0.out (fun h => by have := h.len; omega))
            go_wp2
            go_ret
            exact ⟨by rw [HG.out]; rfl, Hb.out.1⟩
          cases hw : pc.whole with
          | false =>
            have HG := Lib.hid (HYes.out (HG1.out ⟨by omega, by omega, by omega, by omega, by omega, fun h => by rw [hw] at h; cases h⟩))
            rw [hw] at c2 Hb
            clear hw
            go_wp2
            go_roundw
            case rel => exact ⟨k + 1, by omega, by go_num, Hb.out, HG.out⟩
            case measure => simp [intOf]; omega
          | true =>
            rw [hw] at c2 Hb
            by_cases q6 : pc.at_ = 0
            · by_cases q7 : pc.b.length = 512
              · have HG := Lib.hid (HYes.out (HG1.out ⟨by omega, by omega, by omega, by omega, by omega, fun h => ⟨q6, q7⟩⟩))
                rw [q6] at Hb c1
                rw [q7] at Hb c3
                clear hw
                go_wp2
                go_roundw
                case rel => exact ⟨k + 1, by omega, by go_num, Hb.out, HG.out⟩
                case measure => simp [intOf]; omega
              · have HG : Hid (goodR r = false) := HBad.out (HG0.out (fun h => q7 (h.all hw).2))
                rw [q6] at Hb c1
                clear hw
                have q7' : ((pc.b.length : Int) != 512) = true := by simp; omega
                go_wp2
                go_ret
                exact ⟨by rw [HG.out]; rfl, Hb.out.1⟩
            · have HG : Hid (goodR r = false) := HBad.out (HG0.out (fun h => q6 (h.all hw).1))
              clear hw
              have q6' : (pc.at_ != 0) = true := by simpa using q6
              go_wp2
              go_ret
              exact ⟨by rw [HG.out]; rfl, Hb.out.1⟩
        · obtain rfl : k = n := by omega
          have HG : Hid (goodR r = true) := by
            unfold Hid
            rw [HE.out, List.all_eq_true]
            intro p hp
            obtain ⟨j, hj, rfl⟩ := List.getElem_of_mem hp
            exact hg j hj (by rw [HN.out]; exact hj)
          clear hg
          go_wp2_with fail
          go_ret
          exact ⟨by rw [HG.out]; rfl, hb⟩
end Mun
