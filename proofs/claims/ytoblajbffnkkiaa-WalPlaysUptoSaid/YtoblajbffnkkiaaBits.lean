/- Numbers' bits, as the walk writes them. -/
import Derived.Test.YtoblajbffnkkiaaMgB
set_option maxRecDepth 100000
set_option linter.unusedVariables false
namespace Mun
open Go Go.RowKit

theorem and_low64 (n : Int) (k : Nat) (hk : k < 63) (c : Int) (hc : c = ((2 ^ k - 1 : Nat) : Int)) (hcb : (BitVec.ofInt 64 c).toNat = 2 ^ k - 1) : bits .and .i64 n c = n % ((2 ^ k : Nat) : Int) := by
  have key : (BitVec.ofInt 64 n &&& BitVec.ofInt 64 c).toNat = (n % ((2 ^ 64 : Nat) : Int)).toNat % 2 ^ k := by
    rw [BitVec.toNat_and, BitVec.toNat_ofInt, hcb, Nat.and_two_pow_sub_one_eq_mod]
  show IntKind.i64.wrap ((BitVec.ofInt 64 n &&& BitVec.ofInt 64 c).toNat : Nat) = _
  rw [key, IntKind.wrap_i64]
  have h2 : (2 : Nat) ^ k < 2 ^ 63 := Nat.pow_lt_pow_right (by decide) hk
  have hpos : 0 < (2 : Nat) ^ k := Nat.two_pow_pos k
  have hm : (n % ((2 ^ 64 : Nat) : Int)).toNat % 2 ^ k < 2 ^ k := Nat.mod_lt _ hpos
  have hd : ((2 ^ k : Nat) : Int) ∣ ((2 ^ 64 : Nat) : Int) := Int.natCast_dvd_natCast.2 (Nat.pow_dvd_pow 2 (by omega))
  have e1 : (((n % ((2 ^ 64 : Nat) : Int)).toNat % 2 ^ k : Nat) : Int) = n % ((2 ^ k : Nat) : Int) := by
    rw [Int.natCast_emod, Int.toNat_of_nonneg (Int.emod_nonneg _ (by decide)), Int.emod_emod_of_dvd _ hd]
  rw [e1]
  have hlo : 0 ≤ n % ((2 ^ k : Nat) : Int) := Int.emod_nonneg _ (by omega)
  have hhi : n % ((2 ^ k : Nat) : Int) < ((2 ^ k : Nat) : Int) := Int.emod_lt_of_pos _ (by omega)
  omega


theorem xor_pow8 (b : UInt8) (s : Nat) (hs : s < 8) : bits .xor .u8 (b.toNat : Int) (2 ^ s % 256) = ((b ^^^ UInt8.ofNat (2 ^ s)).toNat : Int) := by
  have h : (2 ^ s : Nat) < 256 := by
    have : 2 ^ s ≤ 2 ^ 7 := Nat.pow_le_pow_right (by omega) (by omega)
    omega
  have e : ((2 : Int) ^ s % 256) = ((2 ^ s : Nat) : Int) := by
    have e1 : ((2 : Int) ^ s) = ((2 ^ s : Nat) : Int) := by push_cast; rfl
    rw [e1]; exact Int.emod_eq_of_lt (Int.natCast_nonneg _) (by exact_mod_cast h)
  rw [e, u8_xor_nat _ _ b.toNat_lt h, UInt8.toNat_xor, UInt8.toNat_ofNat', Nat.mod_eq_of_lt h]


theorem and_4095 (n : Int) : ∃ q : Nat, bits .and .i64 n 4095 = (q : Int) ∧ q < 4096 := by
  refine ⟨(n % 4096).toNat, ?_, by omega⟩
  rw [and_low64 n 12 (by decide) 4095 (by decide) (by decide)]
  show n % 4096 = _
  omega
theorem and_511 (n : Int) : ∃ q : Nat, bits .and .i64 n 511 = (q : Int) ∧ q < 512 := by
  refine ⟨(n % 512).toNat, ?_, by omega⟩
  rw [and_low64 n 9 (by decide) 511 (by decide) (by decide)]
  show n % 512 = _
  omega
theorem and_3 (n : Int) : ∃ q : Nat, bits .and .i64 n 3 = (q : Int) ∧ q < 4 := by
  refine ⟨(n % 4).toNat, ?_, by omega⟩
  rw [and_low64 n 2 (by decide) 3 (by decide) (by decide)]
  show n % 4 = _
  omega
theorem and_7 (n : Int) : ∃ q : Nat, bits .and .i64 n 7 = (q : Int) ∧ q < 8 := by
  refine ⟨(n % 8).toNat, ?_, by omega⟩
  rw [and_low64 n 3 (by decide) 7 (by decide) (by decide)]
  show n % 8 = _
  omega
end Mun
