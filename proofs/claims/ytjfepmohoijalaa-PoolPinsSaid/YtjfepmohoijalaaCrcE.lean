/- Plain: the sum reckoned in steps that the kernel can take. -/
import Derived.Test.YtjfepmohoijalaaCrc
set_option linter.unusedVariables false
namespace Mun

def stepN (r : Nat) : Nat := if r % 2 = 1 then (r / 2) ^^^ 0xEDB88320 else r / 2
def iterN : Nat → Nat → Nat
  | 0, r => r
  | n + 1, 0 => 0
  | n + 1, r + 1 => iterN n (stepN (r + 1))
def evalN : List UInt8 → Nat → Nat
  | [], r => r
  | b :: l, r => match iterN 8 (r ^^^ b.toNat) with
    | 0 => evalN l 0
    | q + 1 => evalN l (q + 1)

theorem stepN_eq (r : BitVec 32) : (crcBit r).toNat = stepN r.toNat := by
  unfold crcBit stepN
  have h : r.getLsbD 0 = decide (r.toNat % 2 = 1) := by
    rw [BitVec.getLsbD, Nat.testBit_zero]
  rw [h]
  by_cases hb : r.toNat % 2 = 1
  · simp only [hb, decide_true, if_true]
    rw [BitVec.toNat_xor, BitVec.toNat_ushiftRight, Nat.shiftRight_eq_div_pow]
    rfl
  · simp only [hb, decide_false, if_false, Bool.false_eq_true]
    rw [BitVec.toNat_ushiftRight, Nat.shiftRight_eq_div_pow]
theorem iterN_eq : ∀ (n : Nat) (r : BitVec 32), (crcIter n r).toNat = iterN n r.toNat
  | 0, r => rfl
  | n + 1, r => by
    have h1 : crcIter (n + 1) r = crcIter n (crcBit r) := rfl
    rw [h1, iterN_eq n, stepN_eq]
    cases hr : r.toNat with
    | zero =>
      have : ∀ n, iterN n (stepN 0) = 0 := by
        intro n
        show iterN n 0 = 0
        cases n <;> rfl
      rw [this]; rfl
    | succ k => rfl
theorem evalN_eq : ∀ (l : List UInt8) (r : BitVec 32), (crcReg r l).toNat = evalN l r.toNat
  | [], r => rfl
  | b :: l, r => by
    have h1 : crcReg r (b :: l) = crcReg (crcByte r b) l := rfl
    have h2 : (crcByte r b).toNat = iterN 8 (r.toNat ^^^ b.toNat) := by
      unfold crcByte
      rw [iterN_eq, BitVec.toNat_xor]
      have h3 : (b.toBitVec.setWidth 32).toNat = b.toNat := by
        rw [BitVec.toNat_setWidth]
        have := b.toNat_lt
        show b.toNat % 2 ^ 32 = b.toNat
        omega
      rw [h3]
    rw [h1, evalN_eq l, h2]
    show _ = evalN (b :: l) r.toNat
    show _ = match iterN 8 (r.toNat ^^^ b.toNat) with
      | 0 => evalN l 0
      | q + 1 => evalN l (q + 1)
    cases iterN 8 (r.toNat ^^^ b.toNat) <;> rfl
theorem crc_ne_zero {l : List UInt8} (h : evalN l 4294967295 ≠ 4294967295) : (crcOf l).toNat ≠ 0 := by
  intro h0
  apply h
  have h1 : crcOf l = 0#32 := BitVec.eq_of_toNat_eq h0
  unfold crcOf crcMore at h1
  have h2 : crcReg (0#32 ^^^ 0xffffffff#32) l = 0xffffffff#32 := by
    have := congrArg (· ^^^ 0xffffffff#32) h1
    simp only [BitVec.xor_assoc, BitVec.xor_self, BitVec.xor_zero, BitVec.zero_xor] at this
    rw [BitVec.zero_xor]
    exact this
  have h3 := evalN_eq l (0#32 ^^^ 0xffffffff#32)
  rw [h2] at h3
  exact h3.symm
end Mun
