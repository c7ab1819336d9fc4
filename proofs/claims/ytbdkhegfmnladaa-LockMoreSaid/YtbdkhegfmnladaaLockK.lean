/- Plain laws on the modes. -/
import Derived.Test.YtbdkhegfmnladaaLockJ
set_option maxRecDepth 100000
set_option linter.unusedVariables false
namespace Mun
open Go Go.RowKit
open Go.Proofs

theorem jn_laws {x y z : Int} (hx : isM x = true) (hy : isM y = true) (hz : isM z = true) :
    isM (jn x y) = true ∧ isM (jn (jn x y) z) = true ∧ jn (jn (jn x y) z) x = jn (jn x y) z ∧ jn x (jn y z) = jn (jn x y) z ∧ jn y x = jn x y := by
  rw [isM_iff] at hx hy hz
  rcases hx with rfl | rfl | rfl | rfl <;> rcases hy with rfl | rfl | rfl | rfl <;> rcases hz with rfl | rfl | rfl | rfl <;> decide

theorem mode_and3 (n : Int) : ∃ q : Int, bits .and .i64 n 3 = q ∧ isM (1 + q) = true ∧ 0 ≤ q ∧ q ≤ 3 := by
  have key : bits .and .i64 n 3 = n % 4 := by
    have h1 : (BitVec.ofInt 64 n &&& BitVec.ofInt 64 3).toNat = (n % ((2 ^ 64 : Nat) : Int)).toNat % 2 ^ 2 := by
      rw [BitVec.toNat_and, BitVec.toNat_ofInt, show (BitVec.ofInt 64 3).toNat = 2 ^ 2 - 1 from rfl, Nat.and_two_pow_sub_one_eq_mod]
    show IntKind.i64.wrap ((BitVec.ofInt 64 n &&& BitVec.ofInt 64 3).toNat : Nat) = _
    rw [h1, IntKind.wrap_i64]
    omega
  refine ⟨n % 4, key, ?_, by omega, by omega⟩
  rw [isM_iff]
  omega
end Mun
