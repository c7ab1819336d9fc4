/- Contracts of Body: the record at a place of a log. -/
import Derived.Test.YtoblajbffnkkiaaRecJ
set_option maxRecDepth 100000
set_option linter.unusedVariables false
set_option linter.unusedSimpArgs false
namespace Mun
open Go Go.RowKit
open Go.Proofs

/-- no record -/
def noR : Value := .agg #[.int .i64 0, .int .u64 0, .int .u64 0, .int .u64 0, .slice none 0 0, .slice none 0 0]

def BodyNo (w : World) (k : Int) (e : Ending) (w' : World) : Prop := e = .returned (.tuple #[noR, .int .i64 0, .int .i64 k]) ∧ Below w.heap.size w w'

theorem le4_lt (l : List UInt8) (h : l.length ≤ 4) : leNat l < 4294967296 := by
  have h1 := leNat_lt l
  have : 256 ^ l.length ≤ 256 ^ 4 := Nat.pow_le_pow_right (by omega) h
  omega

section
variable {F : Foot} (w : World) (v : Value) (l : List UInt8) (A : Nat) (lsn : Nat)

theorem body_arg (k : Int) (hv : RdB F w v l) (hk : k < 0 ∨ (l.length : Int) < k) : Calls Try.prog 11 #[v, .int .i64 k, .int .u64 lsn] w (BodyNo w 1) := by
  obtain ⟨a, n, c, rfl, HN, hnc, hcm⟩ := hv.formN
  by_cases h0 : k < 0
  · clear hv hk hnc hcm
    go_enter Try.func11, Try.ntmps11
    go_wp2
    refine bodyPost_ret (by simp [results, Try.results11, go_sem]; try rfl) rfl ?_
    exact ⟨rfl, (Below.refl _ _).alloc (Nat.le_refl _) _⟩
  · have h1 : (n : Int) < k := by have := HN.out; omega
    have h2 : 0 ≤ k := by omega
    clear hv hk hnc hcm
    go_enter Try.func11, Try.ntmps11
    go_wp2
    refine bodyPost_ret (by simp [results, Try.results11, go_sem]; try rfl) rfl ?_
    exact ⟨rfl, (Below.refl _ _).alloc (Nat.le_refl _) _⟩

theorem body_short (hv : RdB F w v l) (hA : A ≤ l.length) (hs : l.length < A + 8) : Calls Try.prog 11 #[v, .int .i64 A, .int .u64 lsn] w (BodyNo w 4) := by
  obtain ⟨a, n, c, rfl, HN, hnc, hcm⟩ := hv.formN
  have t0 : (0 : Int) ≤ (A : Int) := by omega
  have t1 : ¬ (n : Int) < (A : Int) := by have := HN.out; omega
  have t3 : (n : Int) ≤ 9223372036854775807 := by unfold maxLen at hcm; omega
  have t4 : (A : Int) ≤ 9223372036854775807 := by omega
  have t5 : (A : Int) ≤ (n : Int) := by omega
  have t6 : ¬ n < A := by omega
  have t7 : ¬ (A : Int) < 0 := by omega
  have t2 : (n : Int) - (A : Int) < 8 := by have := HN.out; omega
  clear hv hA hs hnc hcm
  go_enter Try.func11, Try.ntmps11
  go_wp2
  refine bodyPost_ret (by simp [results, Try.results11, go_sem]; try rfl) rfl ?_
  exact ⟨rfl, (Below.refl _ _).alloc (Nat.le_refl _) _⟩

set_option maxHeartbeats 1000000 in
theorem body_size (hv : RdB F w v l) (hA : A + 8 ≤ l.length) (hsz : 1048576 < leNat ((l.drop A).take 4) ∨ l.length < A + 8 + leNat ((l.drop A).take 4)) : Calls Try.prog 11 #[v, .int .i64 A, .int .u64 lsn] w (BodyNo w 4) := by
  obtain ⟨a, n, c, rfl, HN, hnc, hcm⟩ := hv.formN
  have t0 : (0 : Int) ≤ (A : Int) := by omega
  have t1 : ¬ (n : Int) < (A : Int) := by have := HN.out; omega
  have t3 : (n : Int) ≤ 9223372036854775807 := by unfold maxLen at hcm; omega
  have t4 : (A : Int) ≤ 9223372036854775807 := by omega
  have t5 : (A : Int) ≤ (n : Int) := by omega
  have t6 : ¬ n < A := by omega
  have t7 : ¬ (A : Int) < 0 := by omega
  have t2 : ¬ ((n : Int) - (A : Int) < 8) := by have := HN.out; omega
  have t8 : (A : Int) + 8 ≤ 9223372036854775807 := by have := HN.out; omega
  obtain ⟨a1, c1, hr1, hrd1⟩ := slice_bytes hv A (A + 4) (A : Int) ((A : Int) + 4) rfl (by omega) (by omega) (by omega)
  rw [show A + 4 - A = 4 by omega] at hr1 hrd1
  have hwd1 := word_any (w.alloc (.cells #[.int .i64 0, .int .u64 0, .int .u64 0, .int .u64 0, .slice none 0 0, .slice none 0 0] 26)) _ _ (RdB.alloc hrd1 _) (by rw [List.length_take]; omega)
  obtain ⟨s, hs⟩ : ∃ s, leNat ((l.drop A).take 4) = s := ⟨_, rfl⟩
  rw [hs] at hwd1 hsz
  have HWD := Lib.hid hwd1
  have s0 : (0 : Int) ≤ (s : Int) := by omega
  by_cases hbig : 1048576 < s
  · have z1 : decide ((1048576 : Int) < (s : Int)) = true := decide_eq_true (by omega)
    have z2 : decide (1048576 < s) = true := decide_eq_true hbig
    clear hv hA hsz hnc hcm hrd1 hs hbig hwd1
    go_enter Try.func11, Try.ntmps11
    go_wp2_with (go_at_call 37; refine HWD.out.mono ?_; rintro e w2 ⟨rfl, rfl⟩)
    refine bodyPost_ret (by simp [results, Try.results11, go_sem]; try rfl) rfl ?_
    exact ⟨rfl, (Below.refl _ _).alloc (Nat.le_refl _) _⟩
  · have u0 : ¬ (1048576 : Int) < (s : Int) := by omega
    have s2 : (s : Int) ≤ 1048576 := by omega
    have u1 : (n : Int) - (A : Int) - 8 < (s : Int) := by have := HN.out; omega
    clear hv hA hsz hnc hcm hrd1 hs hbig hwd1
    go_enter Try.func11, Try.ntmps11
    go_wp2_with (go_at_call 37; refine HWD.out.mono ?_; rintro e w2 ⟨rfl, rfl⟩)
    refine bodyPost_ret (by simp [results, Try.results11, go_sem]; try rfl) rfl ?_
    exact ⟨rfl, (Below.refl _ _).alloc (Nat.le_refl _) _⟩
end
end Mun
