/- Plain mathematics: bits that are turned in a row of bytes. -/
import Derived.Test.YtjfepmohoijalaaCrc
namespace Mun

def flipBit (l : List UInt8) (j : Nat) : List UInt8 := l.set (j / 8) (l.getD (j / 8) 0 ^^^ UInt8.ofNat (2 ^ (j % 8)))

theorem flipBit_length (l : List UInt8) (j : Nat) : (flipBit l j).length = l.length := by simp [flipBit]

theorem pow8_getLsbD (a b : Nat) (ha : a < 8) (hb : b < 8) : (UInt8.ofNat (2 ^ a)).toBitVec.getLsbD b = decide (a = b) := by
  have : a = 0 ∨ a = 1 ∨ a = 2 ∨ a = 3 ∨ a = 4 ∨ a = 5 ∨ a = 6 ∨ a = 7 := by omega
  have : b = 0 ∨ b = 1 ∨ b = 2 ∨ b = 3 ∨ b = 4 ∨ b = 5 ∨ b = 6 ∨ b = 7 := by omega
  rcases ‹a = 0 ∨ _› with rfl | rfl | rfl | rfl | rfl | rfl | rfl | rfl <;> rcases ‹b = 0 ∨ _› with rfl | rfl | rfl | rfl | rfl | rfl | rfl | rfl <;> decide

theorem bitAt_flipBit (l : List UInt8) (j i : Nat) (hj : j < 8 * l.length) : bitAt (flipBit l j) i = (bitAt l i ^^ decide (i = j)) := by
  unfold bitAt flipBit
  have hq : j / 8 < l.length := by omega
  rw [List.getD_eq_getElem?_getD, List.getElem?_set, List.getD_eq_getElem?_getD]
  by_cases h : j / 8 = i / 8
  · rw [if_pos h, if_pos hq]
    simp only [Option.getD_some]
    rw [UInt8.toBitVec_xor, BitVec.getLsbD_xor, pow8_getLsbD _ _ (by omega) (by omega), h, ← List.getD_eq_getElem?_getD]
    congr 1
    rw [Bool.eq_iff_iff]
    simp only [decide_eq_true_eq]
    omega
  · rw [if_neg h]
    have : ¬ i = j := by rintro rfl; exact h rfl
    simp [this]

/-- so many bits of a row are laid over the bits from k on: where the row has a bit, the bit is turned -/
def flips (l : List UInt8) (k row : Nat) : Nat → List UInt8
  | 0 => l
  | i + 1 => if k + i < 8 * l.length ∧ row.testBit i = true then flipBit (flips l k row i) (k + i) else flips l k row i

theorem flips_length (l : List UInt8) (k row i : Nat) : (flips l k row i).length = l.length := by
  induction i with
  | zero => rfl
  | succ i ih => simp only [flips]; split <;> simp [flipBit_length, ih]

theorem flips_out (l : List UInt8) (k row i j : Nat) (h : j < k ∨ k + i ≤ j) : bitAt (flips l k row i) j = bitAt l j := by
  induction i with
  | zero => rfl
  | succ i ih =>
    simp only [flips]
    split
    · rw [bitAt_flipBit _ _ _ (by rw [flips_length]; omega), ih (by omega)]
      have : ¬ j = k + i := by omega
      simp [this]
    · exact ih (by omega)

theorem flips_told (l : List UInt8) (k row i : Nat) (hi : i ≤ 32) : crcOf l = crcOf (flips l k row i) ↔ l = flips l k row i :=
  crcOf_window (flips_length l k row i).symm k (fun j hj => (flips_out l k row i j (by omega)).symm)

theorem flips_stop (l : List UInt8) (k row i n : Nat) (h : 8 * l.length ≤ k + i) : flips l k row (i + n) = flips l k row i := by
  induction n with
  | zero => rfl
  | succ n ih =>
    rw [← Nat.add_assoc]
    simp only [flips]
    rw [if_neg (by omega), ih]

end Mun
