/- Plain mathematics: what a number of bits 0 does to a register, as 32 columns. -/
import Derived.Test.YtimlibdojkfilaaCrc
namespace Mun

theorem crcIter_add (m n : Nat) (r : BitVec 32) : crcIter (m + n) r = crcIter n (crcIter m r) := by
  induction m generalizing r with
  | zero => simp [crcIter]
  | succ m ih => rw [show m + 1 + n = (m + n) + 1 by omega, crcIter, ih]; rfl

/-- the lowest i bits -/
def lowBits (i : Nat) (r : BitVec 32) : BitVec 32 := (r.setWidth i).setWidth 32

theorem lowBits_zero (r : BitVec 32) : lowBits 0 r = 0#32 := by
  apply BitVec.eq_of_getLsbD_eq
  intro j hj
  simp [lowBits]

theorem lowBits_full (r : BitVec 32) : lowBits 32 r = r := by simp [lowBits]

theorem lowBits_succ (i : Nat) (hi : i < 32) (r : BitVec 32) : lowBits (i + 1) r = lowBits i r ^^^ (if r.getLsbD i then 1#32 <<< i else 0#32) := by
  apply BitVec.eq_of_getLsbD_eq
  intro j hj
  simp only [lowBits, BitVec.getLsbD_setWidth, BitVec.getLsbD_xor]
  have h1 : (1#32 <<< i).getLsbD j = decide (j = i) := by
    rw [BitVec.getLsbD_shiftLeft, BitVec.getLsbD_one]
    by_cases h : j < i
    · have : ¬ j = i := by omega
      simp [h, this]
    · by_cases h2 : j = i
      · subst h2; simp [hj]
      · have : ¬ j - i = 0 := by omega
        simp [h, h2, this]
  by_cases hr : r.getLsbD i = true
  · rw [if_pos hr, h1]
    by_cases h2 : j = i
    · subst h2; simp [hr, hj]
    · have e : decide (j < i + 1) = decide (j < i) := by
        by_cases h3 : j < i
        · simp [h3]; omega
        · simp [h3]; omega
      simp [h2, e]
  · simp only [Bool.not_eq_true] at hr
    rw [if_neg (by simp [hr])]
    by_cases h2 : j = i
    · subst h2; simp [hr]
    · have e : decide (j < i + 1) = decide (j < i) := by
        by_cases h3 : j < i
        · simp [h3]; omega
        · simp [h3]; omega
      simp [e]

/-- column i of the power k -/
def pwCol (k i : Nat) : BitVec 32 := crcIter k (1#32 <<< i)

theorem pw_step (k i : Nat) (hi : i < 32) (r : BitVec 32) : crcIter k (lowBits (i + 1) r) = crcIter k (lowBits i r) ^^^ (if r.getLsbD i then pwCol k i else 0#32) := by
  rw [lowBits_succ i hi, crcIter_xor]
  split
  · rfl
  · rw [crcIter_zero]

theorem pwCol_twice (k i : Nat) : crcIter k (pwCol k i) = pwCol (2 * k) i := by
  unfold pwCol
  rw [← crcIter_add]
  congr 1
  omega

theorem pwCol_one (i : Nat) (h : i < 32) : pwCol 1 i = if i = 0 then 0xEDB88320#32 else 1#32 <<< (i - 1) := by
  have : ∀ i : Fin 32, pwCol 1 i = if i.val = 0 then 0xEDB88320#32 else 1#32 <<< (i.val - 1) := by decide
  exact this ⟨i, h⟩

end Mun
