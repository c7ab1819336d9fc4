/- Contracts of the modes: isMode, Together, Join and the reference's. -/
import Derived.Test.YtbdkhegfmnladaaMapG
import Derived.Test.YtbdkhegfmnladaaLockP
import Derived.Deep.RegionHeldLaw
import Derived.StillTailTactics
set_option maxRecDepth 100000
set_option linter.unusedVariables false
namespace Mun
open Go Go.RowKit
open Go.Proofs

def isM (m : Int) : Bool := decide (1 ≤ m) && decide (m ≤ 4)
/-- two modes that go together -/
def tog (a b : Int) : Bool := isM a && isM b && (match a, b with | 1, 1 | 1, 2 | 1, 3 | 2, 1 | 2, 2 | 3, 1 | 3, 3 => true | _, _ => false)
/-- the mode of two -/
def jn (a b : Int) : Int := if isM a && isM b then (if min a b = 2 ∧ max a b = 3 then 4 else max a b) else 0

theorem isM_iff (m : Int) : isM m = true ↔ m = 1 ∨ m = 2 ∨ m = 3 ∨ m = 4 := by unfold isM; simp; omega

theorem isMode_any (w : World) (m : Int) : Calls Try.prog 27 #[.int .i64 m] w fun e w' => e = .returned (.bool (isM m)) ∧ w' = w := by
  unfold isM
  by_cases h1 : 1 ≤ m
  · have h1' : m ≥ 1 := h1
    rw [decide_eq_true h1, Bool.true_and]
    go_enter Try.func27, Try.ntmps27
    go_wp2
    go_ret
    exact ⟨rfl, rfl⟩
  · have h1' : ¬ m ≥ 1 := h1
    rw [decide_eq_false h1, Bool.false_and]
    go_enter Try.func27, Try.ntmps27
    go_wp2
    go_ret
    exact ⟨rfl, rfl⟩

theorem together_any (w : World) (a b : Int) : Calls Try.prog 12 #[.int .i64 a, .int .i64 b] w fun e w' => e = .returned (.bool (tog a b)) ∧ Below w.heap.size w w' := by
  have ha := isMode_any w a
  have hb := isMode_any w b
  by_cases h1 : isM a = true
  · by_cases h2 : isM b = true
    · rw [h1] at ha
      rw [h2] at hb
      have hp := pairs_any w
      have i1 := ix59_1
      have i2 := ix59_2
      have i3 := ix59_3
      have i4 := ix59_4
      have j1 := ix58_1
      have j2 := ix58_2
      have j3 := ix58_3
      have j4 := ix58_4
      rcases (isM_iff a).1 h1 with rfl | rfl | rfl | rfl <;> rcases (isM_iff b).1 h2 with rfl | rfl | rfl | rfl
      all_goals
        go_enter Try.func12, Try.ntmps12
        go_wp2_with fail
        refine ha.mono ?_
        rintro e w' ⟨rfl, rfl⟩
        go_wp2_with fail
        refine hb.mono ?_
        rintro e w' ⟨rfl, rfl⟩
        go_wp2_with fail
        refine hp.mono ?_
        rintro e w' ⟨rfl, hb⟩
        go_wp2
        go_ret
        exact ⟨rfl, hb⟩
    · have h2' : isM b = false := by simpa using h2
      have ht : tog a b = false := by simp [tog, h2']
      rw [h1] at ha
      rw [h2'] at hb
      rw [ht]
      clear h1 h2 h2' ht
      go_enter Try.func12, Try.ntmps12
      go_wp2_with fail
      refine ha.mono ?_
      rintro e w' ⟨rfl, rfl⟩
      go_wp2_with fail
      refine hb.mono ?_
      rintro e w' ⟨rfl, rfl⟩
      go_wp2
      go_ret
      exact ⟨rfl, Below.refl _ _⟩
  · have h1' : isM a = false := by simpa using h1
    have ht : tog a b = false := by simp [tog, h1']
    rw [h1'] at ha
    rw [ht]
    clear h1 h1' ht hb
    go_enter Try.func12, Try.ntmps12
    go_wp2_with fail
    refine ha.mono ?_
    rintro e w' ⟨rfl, rfl⟩
    go_wp2
    go_ret
    exact ⟨rfl, Below.refl _ _⟩

theorem isM_min_max (a b : Int) : (isM (min a b) && isM (max a b)) = (isM a && isM b) := by
  rw [Bool.eq_iff_iff]
  simp only [Bool.and_eq_true, isM, decide_eq_true_eq]
  omega

theorem join_any (w : World) (a b : Int) : Calls Try.prog 14 #[.int .i64 a, .int .i64 b] w fun e w' => e = .returned (.int .i64 (jn a b)) ∧ w' = w := by
  by_cases h1 : isM a = true ∧ isM b = true
  · obtain ⟨h1, h2⟩ := h1
    rcases (isM_iff a).1 h1 with rfl | rfl | rfl | rfl <;> rcases (isM_iff b).1 h2 with rfl | rfl | rfl | rfl
    all_goals
      go_enter Try.func14, Try.ntmps14
      go_wp2_with fail
      refine (isMode_any _ _).mono ?_
      rintro e w' ⟨rfl, rfl⟩
      go_wp2_with fail
      refine (isMode_any _ _).mono ?_
      rintro e w' ⟨rfl, rfl⟩
      go_wp2
      go_ret
      exact ⟨rfl, rfl⟩
  · have hf : (isM a && isM b) = false := by rw [Bool.eq_false_iff]; intro h; exact h1 (by simpa using h)
    have hj : jn a b = 0 := by unfold jn; rw [hf]; rfl
    rw [hj]
    have hmm := isM_min_max a b
    rw [hf] at hmm
    have ha := isMode_any w (min a b)
    have hb := isMode_any w (max a b)
    clear h1 hf hj
    obtain ⟨x, hx⟩ : ∃ x, min a b = x := ⟨_, rfl⟩
    obtain ⟨y, hy⟩ : ∃ y, max a b = y := ⟨_, rfl⟩
    rw [hx] at ha hmm
    rw [hy] at hb hmm
    cases hxv : isM x with
    | false =>
      rw [hxv] at ha
      clear hb hmm hxv
      go_enter Try.func14, Try.ntmps14
      go_wp2_with fail
      refine ha.mono ?_
      rintro e w' ⟨rfl, rfl⟩
      go_wp2
      go_ret
      exact ⟨rfl, rfl⟩
    | true =>
      rw [hxv, Bool.true_and] at hmm
      rw [hxv] at ha
      rw [hmm] at hb
      clear hmm hxv
      go_enter Try.func14, Try.ntmps14
      go_wp2_with fail
      refine ha.mono ?_
      rintro e w' ⟨rfl, rfl⟩
      go_wp2_with fail
      refine hb.mono ?_
      rintro e w' ⟨rfl, rfl⟩
      go_wp2
      go_ret
      exact ⟨rfl, rfl⟩

theorem out_cases (a b : Int) (h : ¬ (isM a = true ∧ isM b = true)) : a < 1 ∨ (¬ a < 1 ∧ a > 4) ∨ (¬ a < 1 ∧ ¬ a > 4 ∧ b < 1) ∨ (¬ a < 1 ∧ ¬ a > 4 ∧ ¬ b < 1 ∧ b > 4) := by
  simp only [isM, Bool.and_eq_true, decide_eq_true_eq] at h
  omega

set_option maxHeartbeats 4000000 in
theorem reftogether_any (w : World) (a b : Int) : Calls Try.prog 13 #[.int .i64 a, .int .i64 b] w fun e w' => e = .returned (.bool (tog a b)) ∧ Below w.heap.size w w' := by
  by_cases h1 : isM a = true ∧ isM b = true
  · obtain ⟨h1, h2⟩ := h1
    rcases (isM_iff a).1 h1 with rfl | rfl | rfl | rfl <;> rcases (isM_iff b).1 h2 with rfl | rfl | rfl | rfl
    all_goals
      go_enter Try.func13, Try.ntmps13
      go_wp2
      go_ret
      exact ⟨rfl, (Below.refl _ _).alloc (Nat.le_refl _) _⟩
  · have hf : (isM a && isM b) = false := by rw [Bool.eq_false_iff]; intro h; exact h1 (by simpa using h)
    have hj : tog a b = false := by unfold tog; rw [hf]; rfl
    rw [hj]
    have hc := out_cases a b h1
    clear h1 hf hj
    rcases hc with h | ⟨h, h2⟩ | ⟨h, h2, h3⟩ | ⟨h, h2, h3, h4⟩
    all_goals
      go_enter Try.func13, Try.ntmps13
      go_wp2
      go_ret
      exact ⟨rfl, Below.refl _ _⟩

theorem refjoin_any (w : World) (a b : Int) : Calls Try.prog 15 #[.int .i64 a, .int .i64 b] w fun e w' => e = .returned (.int .i64 (jn a b)) ∧ w' = w := by
  by_cases h1 : isM a = true ∧ isM b = true
  · obtain ⟨h1, h2⟩ := h1
    rcases (isM_iff a).1 h1 with rfl | rfl | rfl | rfl <;> rcases (isM_iff b).1 h2 with rfl | rfl | rfl | rfl
    all_goals
      go_enter Try.func15, Try.ntmps15
      go_wp2
      go_ret
      exact ⟨rfl, rfl⟩
  · have hf : (isM a && isM b) = false := by rw [Bool.eq_false_iff]; intro h; exact h1 (by simpa using h)
    have hj : jn a b = 0 := by unfold jn; rw [hf]; rfl
    rw [hj]
    have hc := out_cases a b h1
    clear h1 hf hj
    rcases hc with h | ⟨h, h2⟩ | ⟨h, h2, h3⟩ | ⟨h, h2, h3, h4⟩
    all_goals
      go_enter Try.func15, Try.ntmps15
      go_wp2
      go_ret
      exact ⟨rfl, rfl⟩
end Mun
