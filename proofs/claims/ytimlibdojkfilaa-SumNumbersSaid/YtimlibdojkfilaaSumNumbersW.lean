import Derived.Test.YtimlibdojkfilaaSumU
set_option maxRecDepth 100000
set_option linter.unusedVariables false
namespace Mun
open Go Go.RowKit
open Go.Proofs

theorem below_alloc1 (w : World) (o : Obj) : Below w.heap.size w (w.alloc o) := (Below.refl _ _).alloc (Nat.le_refl _) o

set_option maxHeartbeats 1000000 in
theorem numbers_no (w : World) (v : Value) (l : List UInt8) (at_ sz : Int) (n : Nat) (hv : RdB NoF w v l) (hlen : l.length ≤ 140737488351232)
    (h1 : -9223372036854775808 ≤ at_) (h2 : at_ ≤ 9223372036854775807) (h3 : -9223372036854775808 ≤ sz) (h4 : sz ≤ 9223372036854775807) (hn : liesB l.length at_ sz = false) :
    Calls Try.prog 4 #[v, .int .i64 at_, .int .i64 sz, .int .u64 n] w fun e w' => e = .returned (.bool true) ∧ Below w.heap.size w w' := by
  have HN := Lib.hid hn
  obtain ⟨a, c, rfl, hlc, hcm⟩ := hv.form
  have hm : (l.length : Int) ≤ 9223372036854775807 := by omega
  have hx : ¬ ((sz = 1 ∨ sz = 2 ∨ sz = 4 ∨ sz = 8) ∧ 0 ≤ at_ ∧ sz ≤ l.length ∧ at_ ≤ l.length - sz) := of_decide_eq_false hn
  clear hn
  by_cases hs : sz = 1 ∨ sz = 2 ∨ sz = 4 ∨ sz = 8
  · have hx2 : at_ < 0 ∨ (0 ≤ at_ ∧ l.length < at_) ∨ (0 ≤ at_ ∧ at_ ≤ l.length ∧ l.length - at_ < sz) := by
      rcases hs with rfl | rfl | rfl | rfl <;> omega
    clear hx
    rcases hs with rfl | rfl | rfl | rfl
    all_goals
      rcases hx2 with h0 | ⟨h0, h5⟩ | ⟨h0, h5, h6⟩
      all_goals
        go_enter Try.func4, Try.ntmps4
        go_wp2_with (first
          | (go_at_call 9; refine (put_no _ _ l _ _ _ hv (by omega) (by omega) HN.out).mono ?_; rintro e w' ⟨rfl, rfl⟩)
          | (go_at_call 10; refine (get_no _ _ l _ _ hv (by omega) (by omega) HN.out).mono ?_; rintro e w' ⟨rfl, rfl⟩)
          | (go_at_call 7; refine (awake1 _).mono ?_; rintro e w' ⟨rfl, hb⟩))
        go_ret
        exact ⟨rfl, by assumption⟩
  · have n1 : (sz != 1) = true := by rw [bne_iff_ne]; omega
    have n2 : (sz != 2) = true := by rw [bne_iff_ne]; omega
    have n4 : (sz != 4) = true := by rw [bne_iff_ne]; omega
    have n8 : (sz != 8) = true := by rw [bne_iff_ne]; omega
    clear hx
    go_enter Try.func4, Try.ntmps4
    go_wp2_with (first
      | (go_at_call 9; refine (put_no _ _ l _ _ _ hv (by omega) (by omega) HN.out).mono ?_; rintro e w' ⟨rfl, rfl⟩)
      | (go_at_call 10; refine (get_no _ _ l _ _ hv (by omega) (by omega) HN.out).mono ?_; rintro e w' ⟨rfl, rfl⟩)
      | (go_at_call 7; refine (awake1 _).mono ?_; rintro e w' ⟨rfl, hb⟩))
    go_ret
    exact ⟨rfl, by assumption⟩

end Mun
