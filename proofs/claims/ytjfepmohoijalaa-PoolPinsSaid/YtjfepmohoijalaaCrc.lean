/- Plain mathematics of the checksum: a register of 32 bits, pushed by one bit, by a byte, by a row of bytes. No program in sight. -/
namespace Mun

/-- the register is pushed by one bit 0 -/
def crcBit (r : BitVec 32) : BitVec 32 := if r.getLsbD 0 then (r >>> 1) ^^^ 0xEDB88320#32 else r >>> 1

def crcIter : Nat → BitVec 32 → BitVec 32
  | 0, r => r
  | n + 1, r => crcIter n (crcBit r)

def crcByte (r : BitVec 32) (b : UInt8) : BitVec 32 := crcIter 8 (r ^^^ b.toBitVec.setWidth 32)

def crcReg (r : BitVec 32) (l : List UInt8) : BitVec 32 := l.foldl crcByte r

def crcMore (s : BitVec 32) (l : List UInt8) : BitVec 32 := crcReg (s ^^^ 0xffffffff#32) l ^^^ 0xffffffff#32

def crcOf (l : List UInt8) : BitVec 32 := crcMore 0#32 l

theorem crcBit_xor (a b : BitVec 32) : crcBit (a ^^^ b) = crcBit a ^^^ crcBit b := by
  unfold crcBit
  rw [BitVec.getLsbD_xor, BitVec.ushiftRight_xor_distrib]
  generalize a >>> 1 = x
  generalize b >>> 1 = y
  generalize 0xEDB88320#32 = p
  cases a.getLsbD 0 <;> cases b.getLsbD 0 <;> simp
  · rw [BitVec.xor_assoc]
  · rw [BitVec.xor_assoc, BitVec.xor_assoc, BitVec.xor_comm p y]
  · rw [BitVec.xor_assoc, BitVec.xor_comm p, BitVec.xor_assoc, BitVec.xor_self, BitVec.xor_zero]

theorem crcBit_zero : crcBit 0#32 = 0#32 := by decide

theorem crcBit_eq_zero {r : BitVec 32} (h : crcBit r = 0#32) : r = 0#32 := by
  have h31 : (crcBit r).getLsbD 31 = false := by rw [h]; simp
  unfold crcBit at h h31
  by_cases h0 : r.getLsbD 0
  · simp [h0] at h31
  · simp only [h0, Bool.false_eq_true, if_false] at h
    apply BitVec.eq_of_getLsbD_eq
    intro i hi
    rcases Nat.eq_zero_or_pos i with rfl | hp
    · simpa using h0
    · have := congrArg (fun x => x.getLsbD (i - 1)) h
      simp only [BitVec.getLsbD_ushiftRight, BitVec.getLsbD_zero] at this
      rw [show 1 + (i - 1) = i by omega] at this
      simpa using this

theorem crcIter_xor (n : Nat) (a b : BitVec 32) : crcIter n (a ^^^ b) = crcIter n a ^^^ crcIter n b := by
  induction n generalizing a b with
  | zero => rfl
  | succ n ih => simp only [crcIter, crcBit_xor, ih]

theorem crcIter_zero (n : Nat) : crcIter n 0#32 = 0#32 := by
  induction n with
  | zero => rfl
  | succ n ih => simp only [crcIter, crcBit_zero, ih]

theorem crcIter_eq_zero {n : Nat} {r : BitVec 32} (h : crcIter n r = 0#32) : r = 0#32 := by
  induction n generalizing r with
  | zero => exact h
  | succ n ih => exact crcBit_eq_zero (ih h)

theorem crcIter_succ' (n : Nat) (r : BitVec 32) : crcIter (n + 1) r = crcBit (crcIter n r) := by
  induction n generalizing r with
  | zero => rfl
  | succ n ih => rw [crcIter, ih]; rfl

/-- a row of bits, one behind the other -/
def crcBits (r : BitVec 32) (l : List Bool) : BitVec 32 := l.foldl (fun r b => crcBit (r ^^^ (if b then 1#32 else 0#32))) r

theorem crcBits_append (r : BitVec 32) (a b : List Bool) : crcBits r (a ++ b) = crcBits (crcBits r a) b := by simp [crcBits]

theorem xor4 (a b c d : BitVec 32) : (a ^^^ b) ^^^ (c ^^^ d) = (a ^^^ c) ^^^ (b ^^^ d) := by
  rw [BitVec.xor_assoc, BitVec.xor_assoc, ← BitVec.xor_assoc b, BitVec.xor_comm b c, BitVec.xor_assoc c]

theorem crcBits_xor (r s : BitVec 32) (a b : List Bool) (h : a.length = b.length) :
    crcBits r a ^^^ crcBits s b = crcBits (r ^^^ s) (List.zipWith xor a b) := by
  induction a generalizing r s b with
  | nil => cases b <;> simp_all [crcBits]
  | cons x a ih =>
    cases b with
    | nil => simp at h
    | cons y b =>
      simp only [crcBits, List.foldl_cons, List.zipWith_cons_cons] at ih ⊢
      rw [ih _ _ b (by simpa using h)]
      congr 1
      rw [← crcBit_xor]
      congr 1
      rw [xor4]
      congr 1
      cases x <;> cases y <;> simp

theorem crcBits_zeros (n : Nat) (r : BitVec 32) : crcBits r (List.replicate n false) = crcIter n r := by
  induction n generalizing r with
  | zero => rfl
  | succ n ih =>
    have := ih (crcBit r)
    simp only [crcBits, List.replicate_succ, List.foldl_cons, crcIter] at this ⊢
    simpa using this

/-- bits packed, the first the lowest -/
def packBits : List Bool → BitVec 32
  | [] => 0#32
  | b :: l => (packBits l <<< 1) ^^^ (if b then 1#32 else 0#32)

theorem packBits_getLsbD (l : List Bool) (i : Nat) (hi : i < 32) : (packBits l).getLsbD i = l.getD i false := by
  induction l generalizing i with
  | nil => simp [packBits]
  | cons b l ih =>
    simp only [packBits, BitVec.getLsbD_xor, BitVec.getLsbD_shiftLeft]
    rcases Nat.eq_zero_or_pos i with rfl | hp
    · cases b <;> simp
    · have h2 : (if b = true then 1#32 else 0#32).getLsbD i = false := by
        cases b <;> simp [BitVec.getLsbD_one]; omega
      rw [ih (i - 1) (by omega), h2]
      obtain ⟨j, rfl⟩ : ∃ j, i = j + 1 := ⟨i - 1, by omega⟩
      simp [hi]

theorem crcBits_pack (l : List Bool) (r : BitVec 32) (h : l.length ≤ 32) : crcBits r l = crcIter l.length (r ^^^ packBits l) := by
  induction l generalizing r with
  | nil => simp [crcBits, packBits, crcIter]
  | cons b l ih =>
    have ih' := ih (crcBit (r ^^^ (if b then 1#32 else 0#32))) (by simp at h; omega)
    simp only [crcBits, List.foldl_cons, List.length_cons, crcIter] at ih' ⊢
    rw [ih']
    congr 1
    have hp : crcBit (packBits l <<< 1) = packBits l := by
      unfold crcBit
      rw [if_neg (by simp)]
      apply BitVec.eq_of_getLsbD_eq
      intro i hi
      simp only [BitVec.getLsbD_ushiftRight, BitVec.getLsbD_shiftLeft]
      by_cases h31 : i = 31
      · subst h31
        rw [packBits_getLsbD l 31 (by omega)]
        simp only [List.length_cons] at h
        have : l.getD 31 false = false := by rw [List.getD_eq_getElem?_getD, List.getElem?_eq_none (by omega)]; rfl
        rw [this]
        simp
      · have : 1 + i < 32 := by omega
        have h2 : ¬ (1 + i < 1) := by omega
        simp [this, h2]
    rw [packBits, show r ^^^ (packBits l <<< 1 ^^^ if b = true then 1#32 else 0#32) = (r ^^^ if b = true then 1#32 else 0#32) ^^^ (packBits l <<< 1) by
      rw [BitVec.xor_assoc, BitVec.xor_comm (packBits l <<< 1)], crcBit_xor (r ^^^ _), hp]

/-- the bits of a byte, the lowest first -/
def byteBits (b : UInt8) : List Bool := (List.range 8).map fun i => b.toBitVec.getLsbD i

def bitsOf (l : List UInt8) : List Bool := l.flatMap byteBits

theorem byteBits_length (b : UInt8) : (byteBits b).length = 8 := by simp [byteBits]

theorem pack_byteBits (b : UInt8) : packBits (byteBits b) = b.toBitVec.setWidth 32 := by
  apply BitVec.eq_of_getLsbD_eq
  intro i hi
  rw [packBits_getLsbD _ _ hi, BitVec.getLsbD_setWidth]
  by_cases h : i < 8
  · simp [byteBits, List.getD_eq_getElem?_getD, List.getElem?_map, List.getElem?_range h, hi]
  · rw [List.getD_eq_getElem?_getD, List.getElem?_eq_none (by rw [byteBits_length]; omega)]
    rw [BitVec.getLsbD_of_ge b.toBitVec i (by omega)]
    simp

theorem crcByte_bits (r : BitVec 32) (b : UInt8) : crcByte r b = crcBits r (byteBits b) := by
  rw [crcBits_pack _ _ (by rw [byteBits_length]; omega), pack_byteBits, byteBits_length]
  rfl

theorem crcReg_bits (r : BitVec 32) (l : List UInt8) : crcReg r l = crcBits r (bitsOf l) := by
  induction l generalizing r with
  | nil => rfl
  | cons b l ih =>
    simp only [crcReg, List.foldl_cons, bitsOf, List.flatMap_cons] at ih ⊢
    rw [crcBits_append, ← crcByte_bits]
    exact ih _

theorem bitsOf_length (l : List UInt8) : (bitsOf l).length = 8 * l.length := by
  induction l with
  | nil => rfl
  | cons b l ih => simp only [bitsOf, List.flatMap_cons, List.length_append, byteBits_length, List.length_cons] at ih ⊢; omega

/-- the bit number j of a row of bytes -/
def bitAt (l : List UInt8) (j : Nat) : Bool := (l.getD (j / 8) 0).toBitVec.getLsbD (j % 8)

theorem bitsOf_getD (l : List UInt8) (j : Nat) : (bitsOf l).getD j false = bitAt l j := by
  induction l generalizing j with
  | nil => simp [bitsOf, bitAt]
  | cons b l ih =>
    simp only [bitsOf, List.flatMap_cons] at ih ⊢
    by_cases h : j < 8
    · rw [List.getD_eq_getElem?_getD, List.getElem?_append_left (by rw [byteBits_length]; exact h)]
      have h8 : j / 8 = 0 := by omega
      have hm : j % 8 = j := by omega
      simp [byteBits, bitAt, h8, hm, List.getD_eq_getElem?_getD, List.getElem?_map, List.getElem?_range h]
    · rw [List.getD_eq_getElem?_getD, List.getElem?_append_right (by rw [byteBits_length]; omega), byteBits_length, ← List.getD_eq_getElem?_getD, ih]
      have h8 : j / 8 = (j - 8) / 8 + 1 := by omega
      have hm : j % 8 = (j - 8) % 8 := by omega
      simp [bitAt, h8, hm]

theorem eq_of_bitAt {a b : List UInt8} (hl : a.length = b.length) (h : ∀ j, j < 8 * a.length → bitAt a j = bitAt b j) : a = b := by
  apply List.ext_getElem hl
  intro i h1 h2
  apply UInt8.eq_of_toBitVec_eq
  apply BitVec.eq_of_getLsbD_eq
  intro k hk
  have := h (8 * i + k) (by omega)
  have e1 : (8 * i + k) / 8 = i := by omega
  have e2 : (8 * i + k) % 8 = k := by omega
  simpa [bitAt, e1, e2, h1, h2, List.getD_eq_getElem?_getD, List.getElem?_eq_getElem] using this

/-- A ROW OF AT MOST 32 BITS THAT ARE TURNED IS TOLD. -/
theorem crcReg_window {a b : List UInt8} (hl : a.length = b.length) (k : Nat) (r : BitVec 32)
    (hout : ∀ j, j < k ∨ k + 32 ≤ j → bitAt a j = bitAt b j) (h : crcReg r a = crcReg r b) : a = b := by
  have hx : crcBits 0#32 (List.zipWith xor (bitsOf a) (bitsOf b)) = 0#32 := by
    have h1 := crcBits_xor r r (bitsOf a) (bitsOf b) (by rw [bitsOf_length, bitsOf_length, hl])
    rw [← crcReg_bits, ← crcReg_bits, h, BitVec.xor_self, BitVec.xor_self] at h1
    exact h1.symm
  generalize hz : List.zipWith xor (bitsOf a) (bitsOf b) = z at hx
  have hzl : z.length = 8 * a.length := by rw [← hz, List.length_zipWith, bitsOf_length, bitsOf_length, ← hl]; omega
  have hzg : ∀ j, j < 8 * a.length → z.getD j false = (bitAt a j ^^ bitAt b j) := by
    intro j hj
    have h1 : j < (bitsOf a).length := by rw [bitsOf_length]; exact hj
    have h2 : j < (bitsOf b).length := by rw [bitsOf_length]; omega
    rw [← bitsOf_getD, ← bitsOf_getD, ← hz]
    simp [List.getD_eq_getElem?_getD, List.getElem?_zipWith, List.getElem?_eq_getElem h1, List.getElem?_eq_getElem h2]
  have hsplit : z = List.replicate (min k z.length) false ++ ((z.drop k).take 32 ++ List.replicate (z.length - (k + 32)) false) := by
    apply List.ext_getElem?
    intro j
    by_cases hj : j < z.length
    · by_cases h1 : j < k
      · rw [List.getElem?_append_left (by simp; omega)]
        have := hzg j (by omega)
        rw [hout j (.inl h1), Bool.xor_self] at this
        rw [List.getElem?_eq_getElem hj, List.getElem?_eq_getElem (by simp; omega)]
        simpa [List.getD_eq_getElem?_getD, List.getElem?_eq_getElem hj] using this
      · rw [List.getElem?_append_right (by simp; omega)]
        have hmk : min k z.length = k := by omega
        simp only [List.length_replicate, hmk]
        by_cases h2 : j < k + 32
        · rw [List.getElem?_append_left (by simp; omega), List.getElem?_take_of_lt (by omega), List.getElem?_drop, show k + (j - k) = j by omega]
        · rw [List.getElem?_append_right (by simp; omega)]
          have := hzg j (by omega)
          rw [hout j (.inr (by omega)), Bool.xor_self] at this
          rw [List.getElem?_eq_getElem hj, List.getElem?_eq_getElem (by simp; omega)]
          simpa [List.getD_eq_getElem?_getD, List.getElem?_eq_getElem hj] using this
    · rw [List.getElem?_eq_none (by omega), List.getElem?_eq_none (by simp; omega)]
  rw [hsplit, crcBits_append, crcBits_append, crcBits_zeros, crcBits_zeros, crcIter_zero] at hx
  have h1 := crcIter_eq_zero hx
  rw [crcBits_pack _ _ (by simp; omega)] at h1
  have h2 := crcIter_eq_zero h1
  rw [BitVec.zero_xor] at h2
  apply eq_of_bitAt hl
  intro j hj
  by_cases h3 : j < k ∨ k + 32 ≤ j
  · exact hout j h3
  · have hp := congrArg (fun x => x.getLsbD (j - k)) h2
    simp only [BitVec.getLsbD_zero] at hp
    rw [packBits_getLsbD _ _ (by omega)] at hp
    have hg := hzg j hj
    have e : ((z.drop k).take 32).getD (j - k) false = z.getD j false := by
      simp only [List.getD_eq_getElem?_getD]
      rw [List.getElem?_take_of_lt (by omega), List.getElem?_drop, show k + (j - k) = j by omega]
    rw [e, hg] at hp
    simpa using hp

theorem crcReg_append (r : BitVec 32) (a b : List UInt8) : crcReg r (a ++ b) = crcReg (crcReg r a) b := by simp [crcReg]

theorem crcMore_append (s : BitVec 32) (a b : List UInt8) : crcMore s (a ++ b) = crcMore (crcMore s a) b := by
  unfold crcMore
  rw [crcReg_append, BitVec.xor_assoc, BitVec.xor_self, BitVec.xor_zero]

theorem crcOf_window {a b : List UInt8} (hl : a.length = b.length) (k : Nat)
    (hout : ∀ j, j < k ∨ k + 32 ≤ j → bitAt a j = bitAt b j) : crcOf a = crcOf b ↔ a = b := by
  constructor
  · intro h
    unfold crcOf crcMore at h
    have h' := congrArg (· ^^^ 0xffffffff#32) h
    simp only [BitVec.xor_assoc, BitVec.xor_self, BitVec.xor_zero] at h'
    exact crcReg_window hl k _ hout h'
  · rintro rfl; rfl

end Mun
