import Derived.Test.YtimlibdojkfilaaSumW
set_option maxRecDepth 100000
set_option linter.unusedVariables false
namespace Mun
open Go Go.RowKit
open Go.Proofs

theorem of_any {F : Foot} (w : World) (v : Value) (l : List UInt8) (z : Int) (hz : ((crcOf l).toNat : Int) = z) (hv : RdB F w v l) :
    Calls Try.prog 8 #[v] w fun e w' => e = .returned (.int .u32 z) ∧ w = w' := by
  subst hz
  go_enter Try.func8, Try.ntmps8
  go_wp2_with (go_at_call 14; refine (more_any _ _ 0#32 _ l rfl hv).mono ?_; rintro e w' ⟨rfl, rfl⟩)
  go_ret
  exact ⟨rfl, rfl⟩

theorem ret_bool {a b : Bool} (h : a = b) : Ending.returned (.bool a) = .returned (.bool b) := by rw [h]

/-- where a number lies -/
def liesB (n : Nat) (at_ sz : Int) : Bool := decide ((sz = 1 ∨ sz = 2 ∨ sz = 4 ∨ sz = 8) ∧ 0 ≤ at_ ∧ sz ≤ n ∧ at_ ≤ n - sz)

theorem lies_any {F : Foot} (w : World) (v : Value) (l : List UInt8) (at_ sz : Int) (hv : RdB F w v l) (h3 : -9223372036854775808 ≤ sz) (h4 : sz ≤ 9223372036854775807) :
    Calls Try.prog 15 #[v, .int .i64 at_, .int .i64 sz] w fun e w' => e = .returned (.bool (liesB l.length at_ sz)) ∧ w = w' := by
  obtain ⟨a, c, rfl, hlc, hcm⟩ := hv.form
  have hm : (l.length : Int) ≤ 9223372036854775807 := by unfold maxLen at hcm; omega
  clear hv hlc hcm
  by_cases hs : sz = 1 ∨ sz = 2 ∨ sz = 4 ∨ sz = 8
  · by_cases ha : 0 ≤ at_
    · by_cases hl : sz ≤ l.length
      · by_cases hb : at_ ≤ l.length - sz
        · have H : Hid (liesB l.length at_ sz = true) := by unfold liesB; exact decide_eq_true ⟨hs, ha, hl, hb⟩
          rcases hs with rfl | rfl | rfl | rfl
          all_goals
            go_enter Try.func15, Try.ntmps15
            go_wp2
            go_ret
            exact ⟨ret_bool H.out.symm, rfl⟩
        · have H : Hid (liesB l.length at_ sz = false) := by unfold liesB; exact decide_eq_false (fun h => hb h.2.2.2)
          rcases hs with rfl | rfl | rfl | rfl
          all_goals
            go_enter Try.func15, Try.ntmps15
            go_wp2
            go_ret
            exact ⟨ret_bool H.out.symm, rfl⟩
      · have H : Hid (liesB l.length at_ sz = false) := by unfold liesB; exact decide_eq_false (fun h => hl h.2.2.1)
        rcases hs with rfl | rfl | rfl | rfl
        all_goals
          go_enter Try.func15, Try.ntmps15
          go_wp2
          go_ret
          exact ⟨ret_bool H.out.symm, rfl⟩
    · have H : Hid (liesB l.length at_ sz = false) := by unfold liesB; exact decide_eq_false (fun h => ha h.2.1)
      rcases hs with rfl | rfl | rfl | rfl
      all_goals
        go_enter Try.func15, Try.ntmps15
        go_wp2
        go_ret
        exact ⟨ret_bool H.out.symm, rfl⟩
  · have H : Hid (liesB l.length at_ sz = false) := by unfold liesB; exact decide_eq_false (fun h => hs h.1)
    have n1 : (sz == 1) = false := by simp; omega
    have n2 : (sz == 2) = false := by simp; omega
    have n4 : (sz == 4) = false := by simp; omega
    have n8 : (sz == 8) = false := by simp; omega
    go_enter Try.func15, Try.ntmps15
    go_wp2
    go_ret
    exact ⟨ret_bool H.out.symm, rfl⟩


theorem liesB_true {n : Nat} {at_ sz : Int} (h : liesB n at_ sz = true) : (sz = 1 ∨ sz = 2 ∨ sz = 4 ∨ sz = 8) ∧ 0 ≤ at_ ∧ sz ≤ n ∧ at_ ≤ n - sz := of_decide_eq_true h

theorem get_no {F : Foot} (w : World) (v : Value) (l : List UInt8) (at_ sz : Int) (hv : RdB F w v l) (h3 : -9223372036854775808 ≤ sz) (h4 : sz ≤ 9223372036854775807)
    (hn : liesB l.length at_ sz = false) :
    Calls Try.prog 10 #[v, .int .i64 at_, .int .i64 sz] w fun e w' => e = .returned (.tuple #[.int .u64 0, .int .i64 1]) ∧ w = w' := by
  have H := Lib.hid hn
  clear hn
  go_enter Try.func10, Try.ntmps10
  go_wp2_with (go_at_call 15; refine (lies_any _ _ l _ _ hv h3 h4).mono ?_; rintro e w' ⟨rfl, rfl⟩; rw [H.out])
  go_ret2
  exact ⟨rfl, rfl⟩

theorem get_yes {F : Foot} (w : World) (v : Value) (l : List UInt8) (at_ sz : Int) (z : Int) (hz : ((leNat ((l.drop at_.toNat).take sz.toNat) : Nat) : Int) = z) (hv : RdB F w v l) (hn : liesB l.length at_ sz = true) :
    Calls Try.prog 10 #[v, .int .i64 at_, .int .i64 sz] w fun e w' => e = .returned (.tuple #[.int .u64 z, .int .i64 0]) ∧ w = w' := by
  subst hz
  obtain ⟨hs, ha, hl, hb⟩ := liesB_true hn
  have hmx := hv.form
  obtain ⟨a, c, rfl, hlc, hcm⟩ := hv.form
  have hm : (l.length : Int) ≤ 9223372036854775807 := by unfold maxLen at hcm; omega
  obtain ⟨A, rfl⟩ := Int.eq_ofNat_of_zero_le ha
  obtain ⟨K, rfl⟩ := Int.eq_ofNat_of_zero_le (show 0 ≤ sz by omega)
  have hK : K ≤ 8 := by omega
  have H := Lib.hid hn
  obtain ⟨a1, c1, hsl, hp⟩ := slice_bytes hv A (A + K) ((A : Int)) ((A : Int) + (K : Int)) rfl rfl (by omega) (by omega)
  rw [Nat.add_sub_cancel_left] at hp hsl
  clear hn hs hmx hcm
  go_enter Try.func10, Try.ntmps10
  go_wp2_with (first | (go_at_call 15; refine (lies_any _ _ l _ _ hv (by omega) (by omega)).mono ?_; rintro e w' ⟨rfl, rfl⟩; rw [H.out]) | (go_at_call 16; refine (word_any _ _ _ hp (by simp; omega)).mono ?_; rintro e w' ⟨rfl, rfl⟩))
  go_ret2
  exact ⟨rfl, rfl⟩
end Mun
