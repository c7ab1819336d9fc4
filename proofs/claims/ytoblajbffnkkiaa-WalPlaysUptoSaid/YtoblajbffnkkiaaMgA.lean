/- Texts of mine, one behind the other: Crc, Num, Flip, CrcE, RecP, LogP, RegU, RegV, RegW. -/
import Derived.Deep.RegionHeldLaw
section
/- Plain mathematics of the checksum: a register of 32 bits, pushed by one bit, by a byte, by a row of bytes. No program in sight. -/
namespace Mun

/-- the register is pushed by one bit 0 -/
def crcBit (r : BitVec 32) : BitVec 32 := if r.getLsbD 0 then (r >>> 1) ^^^ 0xEDB88320#32 else r >>> 1

def crcIter : Nat → BitVec 32 → BitVec 32
  | 0, r => r
  | n + 1, r => crcIter n (crcBit r)

def crcByte (r : BitVec 32) (b : UInt8) : BitVec 32 := crcIter 8 (r ^^^ b.toBitVec.setWidth 32)

def crcReg (r : BitVec 32) (l : List UInt8) : BitVec 32 := l.foldl crcByte r

def crcMore (s : BitVec 32) (l : List UInt8) : BitVec 32 := crcReg (s ^^^ 0xffffffff#32) l ^^^ 0xffffffff#32

def crcOf (l : List UInt8) : BitVec 32 := crcMore 0#32 l

theorem crcBit_xor (a b : BitVec 32) : crcBit (a ^^^ b) = crcBit a ^^^ crcBit b := by
  unfold crcBit
  rw [BitVec.getLsbD_xor, BitVec.ushiftRight_xor_distrib]
  generalize a >>> 1 = x
  generalize b >>> 1 = y
  generalize 0xEDB88320#32 = p
  cases a.getLsbD 0 <;> cases b.getLsbD 0 <;> simp
  · rw [BitVec.xor_assoc]
  · rw [BitVec.xor_assoc, BitVec.xor_assoc, BitVec.xor_comm p y]
  · rw [BitVec.xor_assoc, BitVec.xor_comm p, BitVec.xor_assoc, BitVec.xor_self, BitVec.xor_zero]

theorem crcBit_zero : crcBit 0#32 = 0#32 := by decide

theorem crcBit_eq_zero {r : BitVec 32} (h : crcBit r = 0#32) : r = 0#32 := by
  have h31 : (crcBit r).getLsbD 31 = false := by rw [h]; simp
  unfold crcBit at h h31
  by_cases h0 : r.getLsbD 0
  · simp [h0] at h31
  · simp only [h0, Bool.false_eq_true, if_false] at h
    apply BitVec.eq_of_getLsbD_eq
    intro i hi
    rcases Nat.eq_zero_or_pos i with rfl | hp
    · simpa using h0
    · have := congrArg (fun x => x.getLsbD (i - 1)) h
      simp only [BitVec.getLsbD_ushiftRight, BitVec.getLsbD_zero] at this
      rw [show 1 + (i - 1) = i by omega] at this
      simpa using this

theorem crcIter_xor (n : Nat) (a b : BitVec 32) : crcIter n (a ^^^ b) = crcIter n a ^^^ crcIter n b := by
  induction n generalizing a b with
  | zero => rfl
  | succ n ih => simp only [crcIter, crcBit_xor, ih]

theorem crcIter_zero (n : Nat) : crcIter n 0#32 = 0#32 := by
  induction n with
  | zero => rfl
  | succ n ih => simp only [crcIter, crcBit_zero, ih]

theorem crcIter_eq_zero {n : Nat} {r : BitVec 32} (h : crcIter n r = 0#32) : r = 0#32 := by
  induction n generalizing r with
  | zero => exact h
  | succ n ih => exact crcBit_eq_zero (ih h)

theorem crcIter_succ' (n : Nat) (r : BitVec 32) : crcIter (n + 1) r = crcBit (crcIter n r) := by
  induction n generalizing r with
  | zero => rfl
  | succ n ih => rw [crcIter, ih]; rfl

/-- a row of bits, one behind the other -/
def crcBits (r : BitVec 32) (l : List Bool) : BitVec 32 := l.foldl (fun r b => crcBit (r ^^^ (if b then 1#32 else 0#32))) r

theorem crcBits_append (r : BitVec 32) (a b : List Bool) : crcBits r (a ++ b) = crcBits (crcBits r a) b := by simp [crcBits]

theorem xor4 (a b c d : BitVec 32) : (a ^^^ b) ^^^ (c ^^^ d) = (a ^^^ c) ^^^ (b ^^^ d) := by
  rw [BitVec.xor_assoc, BitVec.xor_assoc, ← BitVec.xor_assoc b, BitVec.xor_comm b c, BitVec.xor_assoc c]

theorem crcBits_xor (r s : BitVec 32) (a b : List Bool) (h : a.length = b.length) :
    crcBits r a ^^^ crcBits s b = crcBits (r ^^^ s) (List.zipWith xor a b) := by
  induction a generalizing r s b with
  | nil => cases b <;> simp_all [crcBits]
  | cons x a ih =>
    cases b with
    | nil => simp at h
    | cons y b =>
      simp only [crcBits, List.foldl_cons, List.zipWith_cons_cons] at ih ⊢
      rw [ih _ _ b (by simpa using h)]
      congr 1
      rw [← crcBit_xor]
      congr 1
      rw [xor4]
      congr 1
      cases x <;> cases y <;> simp

theorem crcBits_zeros (n : Nat) (r : BitVec 32) : crcBits r (List.replicate n false) = crcIter n r := by
  induction n generalizing r with
  | zero => rfl
  | succ n ih =>
    have := ih (crcBit r)
    simp only [crcBits, List.replicate_succ, List.foldl_cons, crcIter] at this ⊢
    simpa using this

/-- bits packed, the first the lowest -/
def packBits : List Bool → BitVec 32
  | [] => 0#32
  | b :: l => (packBits l <<< 1) ^^^ (if b then 1#32 else 0#32)

theorem packBits_getLsbD (l : List Bool) (i : Nat) (hi : i < 32) : (packBits l).getLsbD i = l.getD i false := by
  induction l generalizing i with
  | nil => simp [packBits]
  | cons b l ih =>
    simp only [packBits, BitVec.getLsbD_xor, BitVec.getLsbD_shiftLeft]
    rcases Nat.eq_zero_or_pos i with rfl | hp
    · cases b <;> simp
    · have h2 : (if b = true then 1#32 else 0#32).getLsbD i = false := by
        cases b <;> simp [BitVec.getLsbD_one]; omega
      rw [ih (i - 1) (by omega), h2]
      obtain ⟨j, rfl⟩ : ∃ j, i = j + 1 := ⟨i - 1, by omega⟩
      simp [hi]

theorem crcBits_pack (l : List Bool) (r : BitVec 32) (h : l.length ≤ 32) : crcBits r l = crcIter l.length (r ^^^ packBits l) := by
  induction l generalizing r with
  | nil => simp [crcBits, packBits, crcIter]
  | cons b l ih =>
    have ih' := ih (crcBit (r ^^^ (if b then 1#32 else 0#32))) (by simp at h; omega)
    simp only [crcBits, List.foldl_cons, List.length_cons, crcIter] at ih' ⊢
    rw [ih']
    congr 1
    have hp : crcBit (packBits l <<< 1) = packBits l := by
      unfold crcBit
      rw [if_neg (by simp)]
      apply BitVec.eq_of_getLsbD_eq
      intro i hi
      simp only [BitVec.getLsbD_ushiftRight, BitVec.getLsbD_shiftLeft]
      by_cases h31 : i = 31
      · subst h31
        rw [packBits_getLsbD l 31 (by omega)]
        simp only [List.length_cons] at h
        have : l.getD 31 false = false := by rw [List.getD_eq_getElem?_getD, List.getElem?_eq_none (by omega)]; rfl
        rw [this]
        simp
      · have : 1 + i < 32 := by omega
        have h2 : ¬ (1 + i < 1) := by omega
        simp [this, h2]
    rw [packBits, show r ^^^ (packBits l <<< 1 ^^^ if b = true then 1#32 else 0#32) = (r ^^^ if b = true then 1#32 else 0#32) ^^^ (packBits l <<< 1) by
      rw [BitVec.xor_assoc, BitVec.xor_comm (packBits l <<< 1)], crcBit_xor (r ^^^ _), hp]

/-- the bits of a byte, the lowest first -/
def byteBits (b : UInt8) : List Bool := (List.range 8).map fun i => b.toBitVec.getLsbD i

def bitsOf (l : List UInt8) : List Bool := l.flatMap byteBits

theorem byteBits_length (b : UInt8) : (byteBits b).length = 8 := by simp [byteBits]

theorem pack_byteBits (b : UInt8) : packBits (byteBits b) = b.toBitVec.setWidth 32 := by
  apply BitVec.eq_of_getLsbD_eq
  intro i hi
  rw [packBits_getLsbD _ _ hi, BitVec.getLsbD_setWidth]
  by_cases h : i < 8
  · simp [byteBits, List.getD_eq_getElem?_getD, List.getElem?_map, List.getElem?_range h, hi]
  · rw [List.getD_eq_getElem?_getD, List.getElem?_eq_none (by rw [byteBits_length]; omega)]
    rw [BitVec.getLsbD_of_ge b.toBitVec i (by omega)]
    simp

theorem crcByte_bits (r : BitVec 32) (b : UInt8) : crcByte r b = crcBits r (byteBits b) := by
  rw [crcBits_pack _ _ (by rw [byteBits_length]; omega), pack_byteBits, byteBits_length]
  rfl

theorem crcReg_bits (r : BitVec 32) (l : List UInt8) : crcReg r l = crcBits r (bitsOf l) := by
  induction l generalizing r with
  | nil => rfl
  | cons b l ih =>
    simp only [crcReg, List.foldl_cons, bitsOf, List.flatMap_cons] at ih ⊢
    rw [crcBits_append, ← crcByte_bits]
    exact ih _

theorem bitsOf_length (l : List UInt8) : (bitsOf l).length = 8 * l.length := by
  induction l with
  | nil => rfl
  | cons b l ih => simp only [bitsOf, List.flatMap_cons, List.length_append, byteBits_length, List.length_cons] at ih ⊢; omega

/-- the bit number j of a row of bytes -/
def bitAt (l : List UInt8) (j : Nat) : Bool := (l.getD (j / 8) 0).toBitVec.getLsbD (j % 8)

theorem bitsOf_getD (l : List UInt8) (j : Nat) : (bitsOf l).getD j false = bitAt l j := by
  induction l generalizing j with
  | nil => simp [bitsOf, bitAt]
  | cons b l ih =>
    simp only [bitsOf, List.flatMap_cons] at ih ⊢
    by_cases h : j < 8
    · rw [List.getD_eq_getElem?_getD, List.getElem?_append_left (by rw [byteBits_length]; exact h)]
      have h8 : j / 8 = 0 := by omega
      have hm : j % 8 = j := by omega
      simp [byteBits, bitAt, h8, hm, List.getD_eq_getElem?_getD, List.getElem?_map, List.getElem?_range h]
    · rw [List.getD_eq_getElem?_getD, List.getElem?_append_right (by rw [byteBits_length]; omega), byteBits_length, ← List.getD_eq_getElem?_getD, ih]
      have h8 : j / 8 = (j - 8) / 8 + 1 := by omega
      have hm : j % 8 = (j - 8) % 8 := by omega
      simp [bitAt, h8, hm]

theorem eq_of_bitAt {a b : List UInt8} (hl : a.length = b.length) (h : ∀ j, j < 8 * a.length → bitAt a j = bitAt b j) : a = b := by
  apply List.ext_getElem hl
  intro i h1 h2
  apply UInt8.eq_of_toBitVec_eq
  apply BitVec.eq_of_getLsbD_eq
  intro k hk
  have := h (8 * i + k) (by omega)
  have e1 : (8 * i + k) / 8 = i := by omega
  have e2 : (8 * i + k) % 8 = k := by omega
  simpa [bitAt, e1, e2, h1, h2, List.getD_eq_getElem?_getD, List.getElem?_eq_getElem] using this

/-- A ROW OF AT MOST 32 BITS THAT ARE TURNED IS TOLD. -/
theorem crcReg_window {a b : List UInt8} (hl : a.length = b.length) (k : Nat) (r : BitVec 32)
    (hout : ∀ j, j < k ∨ k + 32 ≤ j → bitAt a j = bitAt b j) (h : crcReg r a = crcReg r b) : a = b := by
  have hx : crcBits 0#32 (List.zipWith xor (bitsOf a) (bitsOf b)) = 0#32 := by
    have h1 := crcBits_xor r r (bitsOf a) (bitsOf b) (by rw [bitsOf_length, bitsOf_length, hl])
    rw [← crcReg_bits, ← crcReg_bits, h, BitVec.xor_self, BitVec.xor_self] at h1
    exact h1.symm
  generalize hz : List.zipWith xor (bitsOf a) (bitsOf b) = z at hx
  have hzl : z.length = 8 * a.length := by rw [← hz, List.length_zipWith, bitsOf_length, bitsOf_length, ← hl]; omega
  have hzg : ∀ j, j < 8 * a.length → z.getD j false = (bitAt a j ^^ bitAt b j) := by
    intro j hj
    have h1 : j < (bitsOf a).length := by rw [bitsOf_length]; exact hj
    have h2 : j < (bitsOf b).length := by rw [bitsOf_length]; omega
    rw [← bitsOf_getD, ← bitsOf_getD, ← hz]
    simp [List.getD_eq_getElem?_getD, List.getElem?_zipWith, List.getElem?_eq_getElem h1, List.getElem?_eq_getElem h2]
  have hsplit : z = List.replicate (min k z.length) false ++ ((z.drop k).take 32 ++ List.replicate (z.length - (k + 32)) false) := by
    apply List.ext_getElem?
    intro j
    by_cases hj : j < z.length
    · by_cases h1 : j < k
      · rw [List.getElem?_append_left (by simp; omega)]
        have := hzg j (by omega)
        rw [hout j (.inl h1), Bool.xor_self] at this
        rw [List.getElem?_eq_getElem hj, List.getElem?_eq_getElem (by simp; omega)]
        simpa [List.getD_eq_getElem?_getD, List.getElem?_eq_getElem hj] using this
      · rw [List.getElem?_append_right (by simp; omega)]
        have hmk : min k z.length = k := by omega
        simp only [List.length_replicate, hmk]
        by_cases h2 : j < k + 32
        · rw [List.getElem?_append_left (by simp; omega), List.getElem?_take_of_lt (by omega), List.getElem?_drop, show k + (j - k) = j by omega]
        · rw [List.getElem?_append_right (by simp; omega)]
          have := hzg j (by omega)
          rw [hout j (.inr (by omega)), Bool.xor_self] at this
          rw [List.getElem?_eq_getElem hj, List.getElem?_eq_getElem (by simp; omega)]
          simpa [List.getD_eq_getElem?_getD, List.getElem?_eq_getElem hj] using this
    · rw [List.getElem?_eq_none (by omega), List.getElem?_eq_none (by simp; omega)]
  rw [hsplit, crcBits_append, crcBits_append, crcBits_zeros, crcBits_zeros, crcIter_zero] at hx
  have h1 := crcIter_eq_zero hx
  rw [crcBits_pack _ _ (by simp; omega)] at h1
  have h2 := crcIter_eq_zero h1
  rw [BitVec.zero_xor] at h2
  apply eq_of_bitAt hl
  intro j hj
  by_cases h3 : j < k ∨ k + 32 ≤ j
  · exact hout j h3
  · have hp := congrArg (fun x => x.getLsbD (j - k)) h2
    simp only [BitVec.getLsbD_zero] at hp
    rw [packBits_getLsbD _ _ (by omega)] at hp
    have hg := hzg j hj
    have e : ((z.drop k).take 32).getD (j - k) false = z.getD j false := by
      simp only [List.getD_eq_getElem?_getD]
      rw [List.getElem?_take_of_lt (by omega), List.getElem?_drop, show k + (j - k) = j by omega]
    rw [e, hg] at hp
    simpa using hp

theorem crcReg_append (r : BitVec 32) (a b : List UInt8) : crcReg r (a ++ b) = crcReg (crcReg r a) b := by simp [crcReg]

theorem crcMore_append (s : BitVec 32) (a b : List UInt8) : crcMore s (a ++ b) = crcMore (crcMore s a) b := by
  unfold crcMore
  rw [crcReg_append, BitVec.xor_assoc, BitVec.xor_self, BitVec.xor_zero]

theorem crcOf_window {a b : List UInt8} (hl : a.length = b.length) (k : Nat)
    (hout : ∀ j, j < k ∨ k + 32 ≤ j → bitAt a j = bitAt b j) : crcOf a = crcOf b ↔ a = b := by
  constructor
  · intro h
    unfold crcOf crcMore at h
    have h' := congrArg (· ^^^ 0xffffffff#32) h
    simp only [BitVec.xor_assoc, BitVec.xor_self, BitVec.xor_zero] at h'
    exact crcReg_window hl k _ hout h'
  · rintro rfl; rfl

end Mun
end

section
/- Plain mathematics of numbers as bytes, the lowest first. -/
namespace Mun

/-- the number of a row of bytes, the lowest first -/
def leNat : List UInt8 → Nat
  | [] => 0
  | b :: r => b.toNat + 256 * leNat r

/-- so many bytes of a number, the lowest first -/
def leBytes : Nat → Nat → List UInt8
  | 0, _ => []
  | k + 1, n => UInt8.ofNat n :: leBytes k (n / 256)

theorem leBytes_length (k n : Nat) : (leBytes k n).length = k := by
  induction k generalizing n with
  | zero => rfl
  | succ k ih => simp [leBytes, ih]

theorem leNat_lt (l : List UInt8) : leNat l < 256 ^ l.length := by
  induction l with
  | nil => simp [leNat]
  | cons b r ih =>
    have hb := b.toNat_lt
    simp only [leNat, List.length_cons, Nat.pow_succ]
    omega

theorem leNat_append (a b : List UInt8) : leNat (a ++ b) = leNat a + 256 ^ a.length * leNat b := by
  induction a with
  | nil => simp [leNat]
  | cons x a ih =>
    simp only [List.cons_append, leNat, ih, List.length_cons, Nat.pow_succ]
    rw [Nat.mul_add, ← Nat.add_assoc, Nat.mul_comm (256 ^ a.length) 256, Nat.mul_assoc]

theorem leNat_leBytes (k n : Nat) : leNat (leBytes k n) = n % 256 ^ k := by
  induction k generalizing n with
  | zero => simp [leBytes, leNat, Nat.mod_one]
  | succ k ih =>
    simp only [leBytes, leNat, ih, UInt8.toNat_ofNat']
    rw [show 256 ^ (k + 1) = 256 * 256 ^ k by rw [Nat.pow_succ, Nat.mul_comm], Nat.mod_mul]

theorem leBytes_leNat (l : List UInt8) : leBytes l.length (leNat l) = l := by
  induction l with
  | nil => rfl
  | cons b r ih =>
    have hb := b.toNat_lt
    simp only [List.length_cons, leBytes, leNat]
    congr 1
    · apply UInt8.toNat_inj.1
      rw [UInt8.toNat_ofNat']
      omega
    · rw [show (b.toNat + 256 * leNat r) / 256 = leNat r by omega, ih]

theorem leBytes_getElem? (k n i : Nat) (h : i < k) : (leBytes k n)[i]? = some (UInt8.ofNat (n / 256 ^ i)) := by
  induction k generalizing n i with
  | zero => omega
  | succ k ih =>
    cases i with
    | zero => simp [leBytes]
    | succ i =>
      simp only [leBytes, List.getElem?_cons_succ]
      rw [ih (n / 256) i (by omega), Nat.div_div_eq_div_mul, Nat.pow_succ, Nat.mul_comm]

theorem leBytes_take (k n i : Nat) (h : i ≤ k) : (leBytes k n).take i = leBytes i n := by
  induction k generalizing n i with
  | zero => obtain rfl : i = 0 := by omega
            rfl
  | succ k ih =>
    cases i with
    | zero => rfl
    | succ i => simp only [leBytes, List.take_succ_cons, ih (n / 256) i (by omega)]

theorem leBytes_snoc (k n : Nat) : leBytes (k + 1) n = leBytes k n ++ [UInt8.ofNat (n / 256 ^ k)] := by
  induction k generalizing n with
  | zero => simp [leBytes]
  | succ k ih =>
    rw [leBytes, ih (n / 256)]
    simp only [leBytes, List.cons_append]
    rw [Nat.div_div_eq_div_mul, Nat.pow_succ, Nat.mul_comm (256 ^ k)]

/-- or of what lies below and what lies above -/
theorem or_shift (a b k : Nat) (h : a < 2 ^ k) : a ||| b * 2 ^ k = a + b * 2 ^ k := by
  rw [Nat.mul_comm, Nat.or_comm, ← Nat.two_pow_add_eq_or_of_lt h, Nat.add_comm]

theorem leNat_snoc (l : List UInt8) (b : UInt8) : leNat (l ++ [b]) = leNat l + 2 ^ (8 * l.length) * b.toNat := by
  rw [leNat_append, show (256 : Nat) = 2 ^ 8 from rfl, ← Nat.pow_mul]
  simp [leNat]

theorem take_snoc {α : Type} (l : List α) (k : Nat) (h : k < l.length) : l.take (k + 1) = l.take k ++ [l[k]] := by
  rw [List.take_succ_eq_append_getElem h]


theorem byte_cast (n k : Nat) : ((n : Int) / 2 ^ (8 * k) % 256) = ((UInt8.ofNat (n / 256 ^ k)).toNat : Int) := by
  have h : (256 : Nat) ^ k = 2 ^ (8 * k) := by rw [Nat.pow_mul]
  rw [UInt8.toNat_ofNat', h]
  generalize hp : (2 : Nat) ^ (8 * k) = p
  have hp' : (2 : Int) ^ (8 * k) = (p : Int) := by rw [← hp]; push_cast; rfl
  rw [hp']
  omega


/-- bytes laid over others -/
def putAt (l : List UInt8) (A : Nat) (bs : List UInt8) : List UInt8 := l.take A ++ (bs ++ l.drop (A + bs.length))

theorem putAt_length (l : List UInt8) (A : Nat) (bs : List UInt8) (h : A + bs.length ≤ l.length) : (putAt l A bs).length = l.length := by
  simp only [putAt, List.length_append, List.length_take, List.length_drop]; omega

theorem putAt_nil (l : List UInt8) (A : Nat) : putAt l A [] = l := by simp [putAt]

theorem putAt_getElem? (l : List UInt8) (A : Nat) (bs : List UInt8) (h : A + bs.length ≤ l.length) (i : Nat) :
    (putAt l A bs)[i]? = if A ≤ i ∧ i < A + bs.length then bs[i - A]? else l[i]? := by
  have hA : (l.take A).length = A := by rw [List.length_take]; omega
  by_cases h1 : i < A
  · rw [if_neg (by omega), putAt, List.getElem?_append_left (by omega), List.getElem?_take_of_lt h1]
  · rw [putAt, List.getElem?_append_right (by omega), hA]
    by_cases h2 : i < A + bs.length
    · rw [if_pos (by omega), List.getElem?_append_left (by omega)]
    · rw [if_neg (by omega), List.getElem?_append_right (by omega), List.getElem?_drop]
      congr 1
      omega

theorem putAt_snoc (l : List UInt8) (A : Nat) (bs : List UInt8) (b : UInt8) (h : A + bs.length < l.length) : (putAt l A bs).set (A + bs.length) b = putAt l A (bs ++ [b]) := by
  apply List.ext_getElem?
  intro i
  rw [List.getElem?_set, putAt_getElem? _ _ _ (by omega), putAt_getElem? _ _ _ (by simp; omega), putAt_length _ _ _ (by omega)]
  simp only [List.length_append, List.length_cons, List.length_nil]
  by_cases h1 : A + bs.length = i
  · subst h1
    rw [if_pos rfl, if_pos (by omega), if_pos (by omega), List.getElem?_append_right (by omega)]
    simp
  · rw [if_neg h1]
    by_cases h2 : A ≤ i ∧ i < A + bs.length
    · rw [if_pos h2, if_pos (by omega), List.getElem?_append_left (by omega)]
    · rw [if_neg h2, if_neg (by omega)]

theorem putAt_take_drop (l : List UInt8) (A : Nat) (bs : List UInt8) (h : A + bs.length ≤ l.length) : ((putAt l A bs).drop A).take bs.length = bs := by
  have hA : (l.take A).length = A := by rw [List.length_take]; omega
  have e : (putAt l A bs).drop A = bs ++ l.drop (A + bs.length) := by
    have := List.drop_left (l₁ := l.take A) (l₂ := bs ++ l.drop (A + bs.length))
    rw [hA] at this
    exact this
  rw [e]
  exact List.take_left

end Mun
end

section
/- Plain mathematics: bits that are turned in a row of bytes. -/
namespace Mun

def flipBit (l : List UInt8) (j : Nat) : List UInt8 := l.set (j / 8) (l.getD (j / 8) 0 ^^^ UInt8.ofNat (2 ^ (j % 8)))

theorem flipBit_length (l : List UInt8) (j : Nat) : (flipBit l j).length = l.length := by simp [flipBit]

theorem pow8_getLsbD (a b : Nat) (ha : a < 8) (hb : b < 8) : (UInt8.ofNat (2 ^ a)).toBitVec.getLsbD b = decide (a = b) := by
  have : a = 0 ∨ a = 1 ∨ a = 2 ∨ a = 3 ∨ a = 4 ∨ a = 5 ∨ a = 6 ∨ a = 7 := by omega
  have : b = 0 ∨ b = 1 ∨ b = 2 ∨ b = 3 ∨ b = 4 ∨ b = 5 ∨ b = 6 ∨ b = 7 := by omega
  rcases ‹a = 0 ∨ _› with rfl | rfl | rfl | rfl | rfl | rfl | rfl | rfl <;> rcases ‹b = 0 ∨ _› with rfl | rfl | rfl | rfl | rfl | rfl | rfl | rfl <;> decide

theorem bitAt_flipBit (l : List UInt8) (j i : Nat) (hj : j < 8 * l.length) : bitAt (flipBit l j) i = (bitAt l i ^^ decide (i = j)) := by
  unfold bitAt flipBit
  have hq : j / 8 < l.length := by omega
  rw [List.getD_eq_getElem?_getD, List.getElem?_set, List.getD_eq_getElem?_getD]
  by_cases h : j / 8 = i / 8
  · rw [if_pos h, if_pos hq]
    simp only [Option.getD_some]
    rw [UInt8.toBitVec_xor, BitVec.getLsbD_xor, pow8_getLsbD _ _ (by omega) (by omega), h, ← List.getD_eq_getElem?_getD]
    congr 1
    rw [Bool.eq_iff_iff]
    simp only [decide_eq_true_eq]
    omega
  · rw [if_neg h]
    have : ¬ i = j := by rintro rfl; exact h rfl
    simp [this]

/-- so many bits of a row are laid over the bits from k on: where the row has a bit, the bit is turned -/
def flips (l : List UInt8) (k row : Nat) : Nat → List UInt8
  | 0 => l
  | i + 1 => if k + i < 8 * l.length ∧ row.testBit i = true then flipBit (flips l k row i) (k + i) else flips l k row i

theorem flips_length (l : List UInt8) (k row i : Nat) : (flips l k row i).length = l.length := by
  induction i with
  | zero => rfl
  | succ i ih => simp only [flips]; split <;> simp [flipBit_length, ih]

theorem flips_out (l : List UInt8) (k row i j : Nat) (h : j < k ∨ k + i ≤ j) : bitAt (flips l k row i) j = bitAt l j := by
  induction i with
  | zero => rfl
  | succ i ih =>
    simp only [flips]
    split
    · rw [bitAt_flipBit _ _ _ (by rw [flips_length]; omega), ih (by omega)]
      have : ¬ j = k + i := by omega
      simp [this]
    · exact ih (by omega)

theorem flips_told (l : List UInt8) (k row i : Nat) (hi : i ≤ 32) : crcOf l = crcOf (flips l k row i) ↔ l = flips l k row i :=
  crcOf_window (flips_length l k row i).symm k (fun j hj => (flips_out l k row i j (by omega)).symm)

theorem flips_stop (l : List UInt8) (k row i n : Nat) (h : 8 * l.length ≤ k + i) : flips l k row (i + n) = flips l k row i := by
  induction n with
  | zero => rfl
  | succ n ih =>
    rw [← Nat.add_assoc]
    simp only [flips]
    rw [if_neg (by omega), ih]

end Mun
end

section
/- Plain: the sum reckoned in steps that the kernel can take. -/
set_option linter.unusedVariables false
namespace Mun

def stepN (r : Nat) : Nat := if r % 2 = 1 then (r / 2) ^^^ 0xEDB88320 else r / 2
def iterN : Nat → Nat → Nat
  | 0, r => r
  | n + 1, 0 => 0
  | n + 1, r + 1 => iterN n (stepN (r + 1))
def evalN : List UInt8 → Nat → Nat
  | [], r => r
  | b :: l, r => match iterN 8 (r ^^^ b.toNat) with
    | 0 => evalN l 0
    | q + 1 => evalN l (q + 1)

theorem stepN_eq (r : BitVec 32) : (crcBit r).toNat = stepN r.toNat := by
  unfold crcBit stepN
  have h : r.getLsbD 0 = decide (r.toNat % 2 = 1) := by
    rw [BitVec.getLsbD, Nat.testBit_zero]
  rw [h]
  by_cases hb : r.toNat % 2 = 1
  · simp only [hb, decide_true, if_true]
    rw [BitVec.toNat_xor, BitVec.toNat_ushiftRight, Nat.shiftRight_eq_div_pow]
    rfl
  · simp only [hb, decide_false, if_false, Bool.false_eq_true]
    rw [BitVec.toNat_ushiftRight, Nat.shiftRight_eq_div_pow]
theorem iterN_eq : ∀ (n : Nat) (r : BitVec 32), (crcIter n r).toNat = iterN n r.toNat
  | 0, r => rfl
  | n + 1, r => by
    have h1 : crcIter (n + 1) r = crcIter n (crcBit r) := rfl
    rw [h1, iterN_eq n, stepN_eq]
    cases hr : r.toNat with
    | zero =>
      have : ∀ n, iterN n (stepN 0) = 0 := by
        intro n
        show iterN n 0 = 0
        cases n <;> rfl
      rw [this]; rfl
    | succ k => rfl
theorem evalN_eq : ∀ (l : List UInt8) (r : BitVec 32), (crcReg r l).toNat = evalN l r.toNat
  | [], r => rfl
  | b :: l, r => by
    have h1 : crcReg r (b :: l) = crcReg (crcByte r b) l := rfl
    have h2 : (crcByte r b).toNat = iterN 8 (r.toNat ^^^ b.toNat) := by
      unfold crcByte
      rw [iterN_eq, BitVec.toNat_xor]
      have h3 : (b.toBitVec.setWidth 32).toNat = b.toNat := by
        rw [BitVec.toNat_setWidth]
        have := b.toNat_lt
        show b.toNat % 2 ^ 32 = b.toNat
        omega
      rw [h3]
    rw [h1, evalN_eq l, h2]
    show _ = evalN (b :: l) r.toNat
    show _ = match iterN 8 (r.toNat ^^^ b.toNat) with
      | 0 => evalN l 0
      | q + 1 => evalN l (q + 1)
    cases iterN 8 (r.toNat ^^^ b.toNat) <;> rfl
theorem crc_ne_zero {l : List UInt8} (h : evalN l 4294967295 ≠ 4294967295) : (crcOf l).toNat ≠ 0 := by
  intro h0
  apply h
  have h1 : crcOf l = 0#32 := BitVec.eq_of_toNat_eq h0
  unfold crcOf crcMore at h1
  have h2 : crcReg (0#32 ^^^ 0xffffffff#32) l = 0xffffffff#32 := by
    have := congrArg (· ^^^ 0xffffffff#32) h1
    simp only [BitVec.xor_assoc, BitVec.xor_self, BitVec.xor_zero, BitVec.zero_xor] at this
    rw [BitVec.zero_xor]
    exact this
  have h3 := evalN_eq l (0#32 ^^^ 0xffffffff#32)
  rw [h2] at h3
  exact h3.symm
end Mun
end

section
/- Plain mathematics of the log's records: digits, bodies, sums. -/
set_option linter.unusedSimpArgs false
namespace Mun

/-- a change -/
structure PC where
  page : Int
  at_ : Int
  whole : Bool
  b : List UInt8

/-- a record -/
structure PR where
  kind : Int
  tx : Nat
  prev : Nat
  next : Nat
  data : List UInt8
  cs : List PC

def goodC (c : PC) : Bool := decide (0 ≤ c.page) && decide (c.page < 65536) && decide (0 ≤ c.at_) && decide (c.at_ ≤ 512) && decide ((c.b.length : Int) ≤ 512 - c.at_) && (!c.whole || (decide (c.at_ = 0) && decide (c.b.length = 512)))

def goodR (r : PR) : Bool := decide (1 ≤ r.kind) && decide (r.kind ≤ 9) && r.cs.all goodC

structure GoodC (c : PC) : Prop where
  p0 : 0 ≤ c.page
  p1 : c.page < 65536
  a0 : 0 ≤ c.at_
  a1 : c.at_ ≤ 512
  len : (c.b.length : Int) ≤ 512 - c.at_
  all : c.whole = true → c.at_ = 0 ∧ c.b.length = 512

theorem goodC_iff (c : PC) : goodC c = true ↔ GoodC c := by
  unfold goodC
  simp only [Bool.and_eq_true, decide_eq_true_eq, Bool.or_eq_true, Bool.not_eq_true']
  constructor
  · rintro ⟨⟨⟨⟨⟨h1, h2⟩, h3⟩, h4⟩, h5⟩, h6⟩
    refine ⟨h1, h2, h3, h4, h5, fun hw => ?_⟩
    rcases h6 with h6 | h6
    · rw [hw] at h6; cases h6
    · exact h6
  · rintro ⟨h1, h2, h3, h4, h5, h6⟩
    refine ⟨⟨⟨⟨⟨h1, h2⟩, h3⟩, h4⟩, h5⟩, ?_⟩
    cases hw : c.whole
    · exact .inl rfl
    · exact .inr (h6 hw)

theorem goodR_iff (r : PR) : goodR r = true ↔ 1 ≤ r.kind ∧ r.kind ≤ 9 ∧ ∀ c ∈ r.cs, GoodC c := by
  unfold goodR
  simp only [Bool.and_eq_true, decide_eq_true_eq, List.all_eq_true, goodC_iff]
  constructor
  · rintro ⟨⟨h1, h2⟩, h3⟩; exact ⟨h1, h2, h3⟩
  · rintro ⟨h1, h2, h3⟩; exact ⟨⟨h1, h2⟩, h3⟩

/-- a number's digits, the lowest first -/
def vi (n : Nat) : List UInt8 := if n < 128 then [UInt8.ofNat n] else UInt8.ofNat (n % 128 + 128) :: vi (n / 128)
termination_by n

theorem vi_lt {n : Nat} (h : n < 128) : vi n = [UInt8.ofNat n] := by rw [vi, if_pos h]
theorem vi_ge {n : Nat} (h : 128 ≤ n) : vi n = UInt8.ofNat (n % 128 + 128) :: vi (n / 128) := by rw [vi, if_neg (by omega)]

theorem vi_length (k : Nat) : ∀ n, n < 128 ^ k → (vi n).length ≤ max 1 k := by
  induction k with
  | zero => intro n h; obtain rfl : n = 0 := by omega
            rw [vi_lt (by omega)]; simp
  | succ k ih =>
    intro n h
    by_cases h1 : n < 128
    · rw [vi_lt h1]; simp
    · rw [vi_ge (by omega), List.length_cons]
      have h2 := ih (n / 128) (by rw [Nat.pow_succ] at h; exact Nat.div_lt_of_lt_mul (by omega))
      have : 0 < k := by
        rcases Nat.eq_zero_or_pos k with rfl | hk
        · simp at h; omega
        · exact hk
      omega

theorem vi_length64 (n : Nat) (h : n < 18446744073709551616) : (vi n).length ≤ 10 := by
  have := vi_length 10 n (Nat.lt_of_lt_of_le h (by decide))
  omega
theorem vi_length20 (n : Nat) (h : n ≤ 1048576) : (vi n).length ≤ 3 := by
  have := vi_length 3 n (Nat.lt_of_le_of_lt h (by decide))
  omega
theorem vi_pos (n : Nat) : 0 < (vi n).length := by
  by_cases h : n < 128
  · rw [vi_lt h]; simp
  · rw [vi_ge (by omega)]; simp

def txt (b : List UInt8) : List UInt8 := vi b.length ++ b
def wb (c : PC) : UInt8 := if c.whole then 1 else 0
def chB (c : PC) : List UInt8 := vi c.page.toNat ++ vi c.at_.toNat ++ [wb c] ++ txt c.b
def headR (r : PR) : List UInt8 := [UInt8.ofNat r.kind.toNat] ++ vi r.tx ++ vi r.prev ++ vi r.next
def bodyR (r : PR) : List UInt8 := headR r ++ txt r.data ++ vi r.cs.length ++ r.cs.flatMap chB
def sumR (lsn : Nat) (b : List UInt8) : BitVec 32 := crcOf (leBytes 8 lsn ++ b)
def recB (r : PR) (lsn : Nat) : List UInt8 := leBytes 4 (bodyR r).length ++ leBytes 4 (sumR lsn (bodyR r)).toNat ++ bodyR r

theorem recB_length (r : PR) (lsn : Nat) : (recB r lsn).length = 8 + (bodyR r).length := by
  simp only [recB, List.length_append, leBytes_length]
theorem bodyR_pos (r : PR) : 6 ≤ (bodyR r).length := by
  have h1 := vi_pos r.tx
  have h2 := vi_pos r.prev
  have h3 := vi_pos r.next
  have h4 := vi_pos r.data.length
  have h5 := vi_pos r.cs.length
  simp only [bodyR, headR, txt, List.length_append, List.length_cons, List.length_nil]
  omega

/-- a change's bytes, counted -/
def szC (c : PC) : Nat := 9 + c.b.length
def szR (r : PR) : Nat := r.data.length + r.cs.length + (r.cs.map szC).sum

theorem chB_length (c : PC) (h : GoodC c) : (chB c).length ≤ szC c := by
  have h1 := vi_length20 c.page.toNat (by have := h.p0; have := h.p1; omega)
  have h2 := vi_length 2 c.at_.toNat (by have := h.a0; have := h.a1; omega)
  have h3 := vi_length 2 c.b.length (by have := h.a0; have := h.len; omega)
  simp only [chB, txt, szC, List.length_append, List.length_cons, List.length_nil]
  omega

theorem chs_length (l : List PC) (h : ∀ c ∈ l, GoodC c) : (l.flatMap chB).length ≤ (l.map szC).sum := by
  induction l with
  | nil => simp
  | cons a l ih =>
    have h1 := chB_length a (h a (by simp))
    have h2 := ih (fun c hc => h c (by simp [hc]))
    simp only [List.flatMap_cons, List.length_append, List.map_cons, List.sum_cons]
    omega

/-- the register over a row, from another start -/
theorem crcReg_inj (l : List UInt8) (r s : BitVec 32) (h : crcReg r l = crcReg s l) : r = s := by
  have h1 := crcBits_xor r s (bitsOf l) (bitsOf l) rfl
  rw [← crcReg_bits, ← crcReg_bits, h, BitVec.xor_self] at h1
  have hz : List.zipWith xor (bitsOf l) (bitsOf l) = List.replicate (bitsOf l).length false := by
    generalize bitsOf l = m
    induction m with
    | nil => rfl
    | cons a m ih => rw [List.zipWith_cons_cons, ih, List.length_cons, List.replicate_succ, Bool.xor_self]
  rw [hz, crcBits_zeros] at h1
  have h2 := crcIter_eq_zero h1.symm
  have := congrArg (· ^^^ s) h2
  simpa [BitVec.xor_assoc] using this

theorem crcOf_split {a b l : List UInt8} (h : crcOf (a ++ l) = crcOf (b ++ l)) : crcReg 0xffffffff#32 a = crcReg 0xffffffff#32 b := by
  unfold crcOf crcMore at h
  have h' := congrArg (· ^^^ 0xffffffff#32) h
  simp only [BitVec.xor_assoc, BitVec.xor_self, BitVec.xor_zero, BitVec.zero_xor, crcReg_append] at h'
  exact crcReg_inj l _ _ h'

/-- linear -/
theorem crcReg_xor (r : BitVec 32) (a b : List UInt8) (hl : a.length = b.length) : crcReg r a ^^^ crcReg r b = crcReg 0#32 (List.zipWith (· ^^^ ·) a b) := by
  induction a generalizing r b with
  | nil => cases b with
    | nil => simp [crcReg]
    | cons => simp at hl
  | cons x a ih =>
    cases b with
    | nil => simp at hl
    | cons y b =>
      have key : ∀ (r s : BitVec 32) (a b : List UInt8), a.length = b.length → crcReg r a ^^^ crcReg s b = crcReg (r ^^^ s) (List.zipWith (· ^^^ ·) a b) := by
        intro r s a
        induction a generalizing r s with
        | nil => intro b hb; cases b with
          | nil => rfl
          | cons => simp at hb
        | cons x a ih =>
          intro b hb
          cases b with
          | nil => simp at hb
          | cons y b =>
            simp only [crcReg, List.foldl_cons, List.zipWith_cons_cons] at ih ⊢
            rw [ih _ _ b (by simpa using hb)]
            congr 1
            unfold crcByte
            rw [← crcIter_xor, xor4]
            congr 2
      have := key r r (x :: a) (y :: b) hl
      rwa [BitVec.xor_self] at this

/-- the bytes of the mask of the k lowest bits of 64 -/
def maskB (k : Nat) : List UInt8 := (List.range 8).map fun i => UInt8.ofNat ((2 ^ k - 1) / 256 ^ i)

theorem mask_ne (k : Nat) (h1 : 1 ≤ k) (h2 : k ≤ 64) : crcReg 0#32 (maskB k) ≠ 0#32 := by
  have key : ∀ k, k < 64 → evalN (maskB (k + 1)) 0 ≠ 0 := by decide +kernel
  intro h
  have := key (k - 1) (by omega)
  rw [show k - 1 + 1 = k by omega] at this
  apply this
  have h3 := evalN_eq (maskB k) 0#32
  rw [h] at h3
  exact h3.symm

theorem xor_succ (n : Nat) : ∃ k, 1 ≤ k ∧ (n ^^^ (n + 1)) = 2 ^ k - 1 ∧ 2 ^ (k - 1) ≤ n + 1 := by
  induction n using Nat.strongRecOn with
  | _ n ih =>
    rcases Nat.mod_two_eq_zero_or_one n with h | h
    · refine ⟨1, Nat.le_refl _, ?_, by simp⟩
      apply Nat.eq_of_testBit_eq
      intro i
      cases i with
      | zero => simp [Nat.testBit_xor, Nat.testBit_zero]; omega
      | succ i =>
        rw [Nat.testBit_xor, Nat.testBit_succ, Nat.testBit_succ, show (n + 1) / 2 = n / 2 by omega]
        simp [Nat.testBit_succ]
    · obtain ⟨k, hk, he, hb⟩ := ih (n / 2) (by omega)
      refine ⟨k + 1, by omega, ?_, ?_⟩
      · apply Nat.eq_of_testBit_eq
        intro i
        cases i with
        | zero => simp [Nat.testBit_xor, Nat.testBit_zero]; omega
        | succ i =>
          rw [Nat.testBit_xor, Nat.testBit_succ, Nat.testBit_succ, show (n + 1) / 2 = n / 2 + 1 by omega, ← Nat.testBit_xor, he]
          rw [Nat.testBit_two_pow_sub_one, Nat.testBit_two_pow_sub_one]
          simp
      · simp only [Nat.add_sub_cancel]
        obtain ⟨j, rfl⟩ : ∃ j, k = j + 1 := ⟨k - 1, by omega⟩
        simp only [Nat.add_sub_cancel] at hb
        rw [Nat.pow_succ]; omega

theorem leBytes_eq (k n : Nat) : leBytes k n = (List.range k).map fun i => UInt8.ofNat (n / 256 ^ i) := by
  apply List.ext_getElem?
  intro i
  by_cases h : i < k
  · rw [leBytes_getElem? k n i h, List.getElem?_map, List.getElem?_range h]; rfl
  · rw [List.getElem?_eq_none (by rw [leBytes_length]; omega), List.getElem?_eq_none (by simp; omega)]

theorem leBytes_mod (n : Nat) : leBytes 8 (n % 18446744073709551616) = leBytes 8 n := by
  apply List.ext_getElem?
  intro i
  by_cases h : i < 8
  · rw [leBytes_getElem? _ _ _ h, leBytes_getElem? _ _ _ h]
    congr 1
    apply UInt8.toNat_inj.1
    rw [UInt8.toNat_ofNat', UInt8.toNat_ofNat']
    have : i = 0 ∨ i = 1 ∨ i = 2 ∨ i = 3 ∨ i = 4 ∨ i = 5 ∨ i = 6 ∨ i = 7 := by omega
    rcases this with rfl | rfl | rfl | rfl | rfl | rfl | rfl | rfl <;> omega
  · rw [List.getElem?_eq_none (by rw [leBytes_length]; omega), List.getElem?_eq_none (by rw [leBytes_length]; omega)]

theorem leBytes_xor (m n : Nat) : List.zipWith (· ^^^ ·) (leBytes 8 m) (leBytes 8 n) = leBytes 8 (m ^^^ n) := by
  apply List.ext_getElem?
  intro i
  by_cases h : i < 8
  · rw [List.getElem?_zipWith, leBytes_getElem? _ _ _ h, leBytes_getElem? _ _ _ h, leBytes_getElem? _ _ _ h]
    simp only [Option.some.injEq]
    apply UInt8.toNat_inj.1
    rw [UInt8.toNat_xor, UInt8.toNat_ofNat', UInt8.toNat_ofNat', UInt8.toNat_ofNat']
    rw [show (256 : Nat) = 2 ^ 8 from rfl, ← Nat.pow_mul, ← Nat.shiftRight_eq_div_pow, ← Nat.shiftRight_eq_div_pow, ← Nat.shiftRight_eq_div_pow, Nat.shiftRight_xor_distrib, Nat.xor_mod_two_pow]
  · rw [List.getElem?_eq_none (by simp [leBytes_length]; omega), List.getElem?_eq_none (by rw [leBytes_length]; omega)]

/-- at the next LSN the sum is another -/
theorem sum_next (lsn : Nat) (h : lsn < 18446744073709551616) (b : List UInt8) : sumR ((lsn + 1) % 18446744073709551616) b ≠ sumR lsn b := by
  intro e
  unfold sumR at e
  have h1 := crcOf_split e
  rw [leBytes_mod] at h1
  have h2 := crcReg_xor 0xffffffff#32 (leBytes 8 lsn) (leBytes 8 (lsn + 1)) (by simp [leBytes_length])
  rw [← h1, BitVec.xor_self, leBytes_xor] at h2
  obtain ⟨k, hk, he, hb⟩ := xor_succ lsn
  have hk64 : k ≤ 65 := by
    rcases Nat.lt_or_ge 65 k with h3 | h3
    · have : 2 ^ 65 ≤ 2 ^ (k - 1) := Nat.pow_le_pow_right (by omega) (by omega)
      omega
    · exact h3
  rw [he] at h2
  by_cases h65 : k = 65
  · subst h65
    have e64 : leBytes 8 (2 ^ 65 - 1) = maskB 64 := by decide
    rw [e64] at h2
    exact mask_ne 64 (by omega) (by omega) h2.symm
  · have e2 : leBytes 8 (2 ^ k - 1) = maskB k := leBytes_eq 8 _
    rw [e2] at h2
    exact mask_ne k hk (by omega) h2.symm

/-- a row of bytes with one bit turned has another sum -/
theorem crc_flip (l : List UInt8) (j : Nat) (hj : j < 8 * l.length) : crcOf (flipBit l j) ≠ crcOf l := by
  intro e
  have h1 := (crcOf_window (a := flipBit l j) (b := l) (flipBit_length l j) j (fun i hi => by
    rw [bitAt_flipBit l j i hj]
    have : ¬ i = j := by omega
    simp [this])).1 e
  have h2 := bitAt_flipBit l j j hj
  rw [h1] at h2
  simp at h2
end Mun
end

section
/- Plain: a log as records; where they begin. -/
set_option linter.unusedVariables false
namespace Mun

def recLen (r : PR) : Nat := 8 + (bodyR r).length
def encL : Nat → List PR → List UInt8
  | _, [] => []
  | b, r :: rs => recB r b ++ encL (b + recLen r) rs
def lenL : List PR → Nat
  | [] => 0
  | r :: rs => recLen r + lenL rs
def offs : Nat → List PR → List Nat
  | _, [] => []
  | o, r :: rs => o :: offs (o + recLen r) rs

theorem recB_len (r : PR) (b : Nat) : (recB r b).length = recLen r := recB_length r b
theorem recLen_pos (r : PR) : 14 ≤ recLen r := by have := bodyR_pos r; unfold recLen; omega
theorem encL_length (rs : List PR) : ∀ b, (encL b rs).length = lenL rs := by
  induction rs with
  | nil => intro b; rfl
  | cons r rs ih => intro b; simp only [encL, List.length_append, recB_len, ih, lenL]
theorem lenL_append (a b : List PR) : lenL (a ++ b) = lenL a + lenL b := by
  induction a with
  | nil => simp [lenL]
  | cons r a ih => simp only [List.cons_append, lenL, ih]; omega
theorem encL_append (xs ys : List PR) : ∀ b, encL b (xs ++ ys) = encL b xs ++ encL (b + lenL xs) ys := by
  induction xs with
  | nil => intro b; simp [encL, lenL]
  | cons r xs ih =>
    intro b
    simp only [List.cons_append, encL, ih, lenL, List.append_assoc]
    rw [Nat.add_assoc]
theorem encL_snoc (b : Nat) (xs : List PR) (r : PR) : encL b (xs ++ [r]) = encL b xs ++ recB r (b + lenL xs) := by
  rw [encL_append]; simp [encL]
theorem offs_length (rs : List PR) : ∀ o, (offs o rs).length = rs.length := by
  induction rs with
  | nil => intro o; rfl
  | cons r rs ih => intro o; simp [offs, ih]
theorem offs_append (xs ys : List PR) : ∀ o, offs o (xs ++ ys) = offs o xs ++ offs (o + lenL xs) ys := by
  induction xs with
  | nil => intro o; simp [offs, lenL]
  | cons r xs ih =>
    intro o
    simp only [List.cons_append, offs, ih, lenL]
    rw [Nat.add_assoc]
theorem offs_snoc (o : Nat) (xs : List PR) (r : PR) : offs o (xs ++ [r]) = offs o xs ++ [o + lenL xs] := by
  rw [offs_append]; simp [offs]
theorem offs_get (rs : List PR) : ∀ o i (h : i < rs.length), (offs o rs)[i]? = some (o + lenL (rs.take i)) := by
  induction rs with
  | nil => intro o i h; simp at h
  | cons r rs ih =>
    intro o i h
    cases i with
    | zero => simp [offs, lenL]
    | succ i =>
      simp only [offs, List.getElem?_cons_succ, List.take_succ_cons, lenL]
      rw [ih _ i (by simpa using h), Nat.add_assoc]
theorem lenL_take_succ (rs : List PR) (i : Nat) (h : i < rs.length) : lenL (rs.take (i + 1)) = lenL (rs.take i) + recLen rs[i] := by
  rw [take_snoc rs i h, lenL_append]; simp [lenL]
theorem lenL_take_mono (rs : List PR) {i j : Nat} (h : i ≤ j) : lenL (rs.take i) ≤ lenL (rs.take j) := by
  have e : rs.take j = rs.take i ++ (rs.drop i).take (j - i) := by
    rw [← List.take_add, Nat.add_sub_cancel' h]
  rw [e, lenL_append]; omega
theorem lenL_take_lt (rs : List PR) {i j : Nat} (h : i < j) (hj : i < rs.length) : lenL (rs.take i) < lenL (rs.take j) := by
  have h1 := lenL_take_succ rs i hj
  have h2 := lenL_take_mono rs (i := i + 1) (j := j) h
  have := recLen_pos rs[i]
  omega
theorem lenL_take_le (rs : List PR) (i : Nat) : lenL (rs.take i) ≤ lenL rs := by
  rcases Nat.lt_or_ge i rs.length with h | h
  · have := lenL_take_mono rs (i := i) (j := rs.length) (Nat.le_of_lt h)
    rwa [List.take_length] at this
  · rw [List.take_of_length_le h]; exact Nat.le_refl _
theorem lenL_len (rs : List PR) : 14 * rs.length ≤ lenL rs := by
  induction rs with
  | nil => simp [lenL]
  | cons r rs ih => have := recLen_pos r; simp only [lenL, List.length_cons]; omega
/-- what stands from a record on -/
theorem encL_drop (rs : List PR) (b i : Nat) (h : i < rs.length) : (encL b rs).drop (lenL (rs.take i)) = recB rs[i] (b + lenL (rs.take i)) ++ encL (b + lenL (rs.take (i + 1))) (rs.drop (i + 1)) := by
  have e : rs = rs.take i ++ (rs[i] :: rs.drop (i + 1)) := by
    rw [← List.drop_eq_getElem_cons h, List.take_append_drop]
  have h1 : encL b rs = encL b (rs.take i) ++ (recB rs[i] (b + lenL (rs.take i)) ++ encL (b + lenL (rs.take (i + 1))) (rs.drop (i + 1))) := by
    have h2 := congrArg (encL b) e
    rw [encL_append] at h2
    rw [h2, encL, lenL_take_succ rs i h, Nat.add_assoc]
  rw [h1, List.drop_left' (encL_length _ _)]

theorem le4_body (r : PR) (h : (bodyR r).length ≤ 1048576) : leNat (leBytes 4 (bodyR r).length) = (bodyR r).length := by
  rw [leNat_leBytes, Nat.mod_eq_of_lt (by omega)]
theorem le4_sum (b : BitVec 32) : leNat (leBytes 4 b.toNat) = b.toNat := by
  rw [leNat_leBytes, Nat.mod_eq_of_lt (by have := b.isLt; omega)]

/-- the parts of a record that stands at a place -/
theorem rec_parts (l : List UInt8) (A : Nat) (r : PR) (lsn : Nat) (rest : List UInt8) (h : l.drop A = recB r lsn ++ rest) (hb : (bodyR r).length ≤ 1048576) :
    leNat ((l.drop A).take 4) = (bodyR r).length ∧ leNat ((l.drop (A + 4)).take 4) = (sumR lsn (bodyR r)).toNat ∧ (l.drop (A + 8)).take (bodyR r).length = bodyR r ∧ A + 8 + (bodyR r).length ≤ l.length := by
  have e4 : l.drop (A + 4) = (recB r lsn ++ rest).drop 4 := by rw [← h, List.drop_drop]
  have e8 : l.drop (A + 8) = (recB r lsn ++ rest).drop 8 := by rw [← h, List.drop_drop]
  have hl := congrArg List.length h
  rw [List.length_drop, List.length_append, recB_len, recLen] at hl
  rw [h, e4, e8]
  unfold recB
  have l4 : ∀ n, (leBytes 4 n).length = 4 := fun n => leBytes_length 4 n
  refine ⟨?_, ?_, ?_, by have := bodyR_pos r; omega⟩
  · rw [List.append_assoc, List.append_assoc, List.take_left' (l4 _), le4_body r hb]
  · rw [List.append_assoc, List.append_assoc, List.drop_left' (l4 _), List.take_left' (l4 _), le4_sum]
  · rw [List.append_assoc (leBytes 4 _ ++ leBytes 4 _), List.drop_left' (by rw [List.length_append, l4, l4]), List.take_left' rfl]

structure LM where
  base : Nat
  recs : List PR
  forced : Nat
  check : Nat

def LM.bytes (m : LM) : List UInt8 := encL m.base m.recs
def LM.fin (m : LM) : Nat := m.base + lenL m.recs

/-- a record that can be written -/
structure RecOk (r : PR) : Prop where
  good : goodR r = true
  big : (bodyR r).length ≤ 1048576
  tx : r.tx < 18446744073709551616
  prev : r.prev < 18446744073709551616
  next : r.next < 18446744073709551616

structure LM.Wf (m : LM) : Prop where
  recs : ∀ r ∈ m.recs, RecOk r
  len : lenL m.recs ≤ 16777216
  base : m.base < 4611686018427387904
  forced : m.forced ≤ lenL m.recs
  check : m.check < 18446744073709551616
end Mun
end

section
/- A region that draws its order and whose last operation writes what its loads read: S is asked behind each operation but the exempt ones (X), which wait for all loads. -/
set_option maxRecDepth 100000
namespace Mun
open Go

section
variable {P : Program} {ops : Array Oper} {Q : Exit → Act → World → Prop} {md : Region.Mode} {S : World → Prop} {X : List Nat}

/-- in whatever order; S holds behind each operation that is not exempt -/
def wpAnyU (P : Program) (md : Region.Mode) (ops : Array Oper) (Q : Exit → Act → World → Prop) (S : World → Prop) (X : List Nat) : Nat → Array Bool → Act → World → Prop
  | 0, l, a, w => Region.ready md ops l = [] ∧ Q .normal a w
  | n + 1, l, a, w => (Region.ready md ops l = [] → Q .normal a w) ∧
    ∀ i ∈ Region.ready md ops l, wpOp P ops Q i (fun a' w' => (X.contains i = false → S w') ∧ wpAnyU P md ops Q S X n (l.setIfInBounds i true) a' w') a w

theorem wpAnyU_any : ∀ (n : Nat) (l : Array Bool) (a : Act) (w : World), wpAnyU P md ops Q S X n l a w → wpAny P md ops Q n l a w
  | 0, _, _, _, h => h
  | n + 1, _, _, _, h => ⟨h.1, fun i hi => wpOp_mono (fun a' w' h' => wpAnyU_any n _ a' w' h'.2) (h.2 i hi)⟩

/-- all of D wait for i, directly or through D -/
def waits (md : Region.Mode) (ops : Array Oper) (i : Nat) (D : List Nat) : Bool :=
  D.all fun d => match ops[d]? with | some o => o.after.any (fun e => Region.binds md e && (e.on == i || D.contains e.on)) | none => false
def unlisted (l : Array Bool) (D : List Nat) : Bool := D.all fun d => l.getD d true == false

theorem waits_spec {i : Nat} {D : List Nat} (h : waits md ops i D = true) (d : Nat) (hd : d ∈ D) : ∃ o, ops[d]? = some o ∧ ∃ e ∈ o.after, Region.binds md e = true ∧ (e.on = i ∨ e.on ∈ D) := by
  unfold waits at h
  have h1 := List.all_eq_true.1 h d hd
  cases ho : ops[d]? with
  | none => rw [ho] at h1; cases h1
  | some o =>
    rw [ho] at h1
    simp only [Bool.and_eq_true, Bool.or_eq_true, beq_iff_eq, List.contains_iff_mem, Array.any_eq_true'] at h1
    obtain ⟨e, he, h2, h3⟩ := h1
    exact ⟨o, rfl, e, he, h2, h3⟩

theorem getD_flip {l : Array Bool} {k : Nat} (h : l.getD k false = true) : l.getD k true = true := by
  rw [Array.getD_eq_getD_getElem?] at h ⊢
  cases hl : l[k]? with
  | none => rw [hl] at h; cases h
  | some z => rw [hl] at h; exact h

theorem not_ready_of_waits {i j : Nat} {D : List Nat} {l : Array Bool} (h : waits md ops i D = true) (hun : ∀ d ∈ D, l.getD d true = false) (hi : l.getD i true = false) (hj : j ∈ Region.ready md ops l) : j ∉ D := by
  intro hD
  obtain ⟨o, ho, e, he, hb, h1⟩ := waits_spec h j hD
  obtain ⟨_, oj, hoj, hall⟩ := mem_ready.1 hj
  rw [ho] at hoj
  injection hoj with hoj
  subst hoj
  have h2 := getD_flip (hall e he hb)
  rcases h1 with h1 | h1
  · rw [h1, hi] at h2; cases h2
  · rw [hun _ h1] at h2; cases h2

theorem wpAnyU_first {i : Nat} {oi : Oper} {v : Value} (D : List Nat) (hi : ops[i]? = some oi) (hsel : ∀ (j : Nat) (o : Oper) cs b, ops[j]? = some o → o.op ≠ .select cs b)
    (hw : waits md ops i D = true) (hX : ∀ x ∈ X, x ∈ D)
    (hQ : ∀ c a w, Q (.panic c) (a.put oi.dst v) w → Q (.panic c) a w) (n : Nat) :
    ∀ (l : Array Bool) (a : Act) (w : World), (∀ d ∈ D, l.getD d true = false) →
      (∀ j oj, ops[j]? = some oj → j ≠ i → l.getD j true = false → (∀ e ∈ oj.after, Region.binds md e = true → e.on ≠ i) → oi.apart ops oj = true) →
      i ∈ Region.ready md ops l → YieldsIf P ops S oi v a → S w →
      wpAnyU P md ops Q S X n (l.setIfInBounds i true) (a.put oi.dst v) w → wpAnyU P md ops Q S X (n + 1) l a w := by
  induction n with
  | zero =>
    intro l a w _ _ hr hy hS H
    refine ⟨fun h => absurd hr (by rw [h]; simp), fun j hj => ?_⟩
    by_cases hji : j = i
    · subst hji; exact hy.wpOp hi hS ⟨fun _ => hS, H⟩
    · have h1 := ready_mono hj hji
      rw [H.1] at h1
      cases h1
  | succ n ih =>
    intro l a w hun hfree hr hy hS H
    refine ⟨fun h => absurd hr (by rw [h]; simp), fun j hj => ?_⟩
    by_cases hji : j = i
    · subst hji; exact hy.wpOp hi hS ⟨fun _ => hS, H⟩
    · obtain ⟨hjun, oj, hoj, hall⟩ := mem_ready.1 hj
      have hiun : l.getD i true = false := (mem_ready.1 hr).1
      have hjD : j ∉ D := not_ready_of_waits hw hun hiun hj
      have hjX : X.contains j = false := by
        rw [Bool.eq_false_iff]
        intro h
        exact hjD (hX j (List.contains_iff_mem.1 h))
      have hnot : ∀ e ∈ oj.after, Region.binds md e = true → e.on ≠ i := fun e he hb heq => by
        have h1 := getD_flip (hall e he hb)
        rw [heq, hiun] at h1
        cases h1
      have h2 := wpOp_putIf hoj (hfree j oj hoj hji hjun hnot) (fun cs b => hsel i oi cs b hi) (fun cs b => hsel j oj cs b hoj) hQ hy (H.2 j (ready_mono hj hji))
      refine wpOp_mono (fun a' w' h3 => ⟨fun _ => h3.2.1 hjX, ih (l.setIfInBounds j true) a' w' (fun d hd => ?_) (fun k ok hk hki hun2 hno => ?_) (ready_mono hr (Ne.symm hji)) h3.1 (h3.2.1 hjX) ?_⟩) h2
      · rw [getD_set_ne true (fun e => hjD (by rw [e]; exact hd))]; exact hun d hd
      · refine hfree k ok hk hki ?_ hno
        by_cases hjk : j = k
        · subst hjk; exact hjun
        · rw [getD_set_ne true hjk] at hun2; exact hun2
      · rw [Array.setIfInBounds_comm _ _ hji]; exact h3.2.2

theorem wpAnyU_take {i : Nat} (D : List Nat) {oi : Oper} {v : Value} {n : Nat} {l : Array Bool} {a : Act} {w : World} (hi : ops[i]? = some oi)
    (hs : Region.noSelect ops = true) (hf : Region.free md ops l i = true) (hr : (Region.ready md ops l).contains i = true)
    (hw : waits md ops i D = true) (hu : unlisted l D = true) (hX : (X.all fun x => D.contains x) = true)
    (hQ : ∀ c a w, Q (.panic c) (a.put oi.dst v) w → Q (.panic c) a w) (hy : YieldsIf P ops S oi v a) (hS : S w)
    (h : wpAnyU P md ops Q S X n (l.setIfInBounds i true) (a.put oi.dst v) w) : wpAnyU P md ops Q S X (n + 1) l a w :=
  wpAnyU_first D hi (Region.noSelect_spec hs) hw (fun x hx => List.contains_iff_mem.1 (List.all_eq_true.1 hX x hx)) hQ n l a w
    (fun d hd => by have h1 := List.all_eq_true.1 hu d hd; simpa using h1) (Region.free_spec hi hf) (by simpa using hr) hy hS h

/-- one operation alone may come up -/
theorem wpAnyU_one {i : Nat} {o : Oper} {n : Nat} {l : Array Bool} {a : Act} {w : World} (hr : Region.ready md ops l = [i]) (ho : ops[i]? = some o)
    (h : ∀ K' : Act → World → Prop, Shut (∀ a w, (X.contains i = false → S w) → ((X.contains i = false → S w) → wpAnyU P md ops Q S X n (l.setIfInBounds i true) a w) → K' a w) → if Region.wanted o (yielded ops a.tmps) = true then Oper.wp P o a w K' Q else K' (a.put o.dst undef) w) : wpAnyU P md ops Q S X (n + 1) l a w :=
  ⟨fun h0 => absurd h0 (by rw [hr]; simp), fun j hj => by
    rw [hr, List.mem_singleton] at hj
    subst hj
    exact wpOp_step ho (fun K' hK => h K' (fun a w hS hW => hK a w ⟨hS, hW hS⟩))⟩

theorem wpAnyU_done {l : Array Bool} {a : Act} {w : World} (hr : Region.ready md ops l = []) (h : Q .normal a w) : ∀ n, wpAnyU P md ops Q S X n l a w
  | 0 => ⟨hr, h⟩
  | _ + 1 => ⟨fun _ => h, by rw [hr]; simp⟩

theorem wp_region_U (S : World → Prop) (X : List Nat) {id : Nat} {a : Act} {w : World} (hm : P.follows .mixedOrders = true)
    (h : wpAnyU P .any ops Q S X ops.size (Array.replicate ops.size false) a w.drew) : (Code.region id ops true).wp P Q a w :=
  wp_region_any hm (wpAnyU_any _ _ _ _ h)
end
end Mun
end

section
/- A region that draws its order and whose stores write what its loads read: T false is asked behind each operation as long as the operation m (the first store) is not done, T true from then on. -/
set_option maxRecDepth 100000
namespace Mun
open Go

section
variable {P : Program} {ops : Array Oper} {Q : Exit → Act → World → Prop} {md : Region.Mode} {T : Bool → World → Prop} {m : Nat}

/-- in whatever order -/
def wpAnyV (P : Program) (md : Region.Mode) (ops : Array Oper) (Q : Exit → Act → World → Prop) (T : Bool → World → Prop) (m : Nat) : Nat → Array Bool → Act → World → Prop
  | 0, l, a, w => Region.ready md ops l = [] ∧ Q .normal a w
  | n + 1, l, a, w => (Region.ready md ops l = [] → Q .normal a w) ∧
    ∀ i ∈ Region.ready md ops l, wpOp P ops Q i (fun a' w' => T ((l.setIfInBounds i true).getD m true) w' ∧ wpAnyV P md ops Q T m n (l.setIfInBounds i true) a' w') a w

theorem wpAnyV_any : ∀ (n : Nat) (l : Array Bool) (a : Act) (w : World), wpAnyV P md ops Q T m n l a w → wpAny P md ops Q n l a w
  | 0, _, _, _, h => h
  | n + 1, _, _, _, h => ⟨h.1, fun i hi => wpOp_mono (fun a' w' h' => wpAnyV_any n _ a' w' h'.2) (h.2 i hi)⟩

theorem wpAnyV_first {i : Nat} {oi : Oper} {v : Value} {Si : World → Prop} (D : List Nat) (hi : ops[i]? = some oi) (hsel : ∀ (j : Nat) (o : Oper) cs b, ops[j]? = some o → o.op ≠ .select cs b)
    (hw : waits md ops i D = true) (him : m ≠ i)
    (hT : ∀ b w, (m ∈ D → b = false) → T b w → Si w)
    (hQ : ∀ c a w, Q (.panic c) (a.put oi.dst v) w → Q (.panic c) a w) (n : Nat) :
    ∀ (l : Array Bool) (a : Act) (w : World), (∀ d ∈ D, l.getD d true = false) →
      (∀ j oj, ops[j]? = some oj → j ≠ i → l.getD j true = false → (∀ e ∈ oj.after, Region.binds md e = true → e.on ≠ i) → oi.apart ops oj = true) →
      i ∈ Region.ready md ops l → YieldsIf P ops Si oi v a → T (l.getD m true) w →
      wpAnyV P md ops Q T m n (l.setIfInBounds i true) (a.put oi.dst v) w → wpAnyV P md ops Q T m (n + 1) l a w := by
  have hset : ∀ (l : Array Bool), (l.setIfInBounds i true).getD m true = l.getD m true := fun l => getD_set_ne true (fun e => him e.symm)
  induction n with
  | zero =>
    intro l a w hun _ hr hy hS H
    refine ⟨fun h => absurd hr (by rw [h]; simp), fun j hj => ?_⟩
    by_cases hji : j = i
    · subst hji; exact hy.wpOp hi (hT _ w (fun hm => hun m hm) hS) ⟨by rw [hset]; exact hS, H⟩
    · have h1 := ready_mono hj hji
      rw [H.1] at h1
      cases h1
  | succ n ih =>
    intro l a w hun hfree hr hy hS H
    refine ⟨fun h => absurd hr (by rw [h]; simp), fun j hj => ?_⟩
    by_cases hji : j = i
    · subst hji; exact hy.wpOp hi (hT _ w (fun hm => hun m hm) hS) ⟨by rw [hset]; exact hS, H⟩
    · obtain ⟨hjun, oj, hoj, hall⟩ := mem_ready.1 hj
      have hiun : l.getD i true = false := (mem_ready.1 hr).1
      have hjD : j ∉ D := not_ready_of_waits hw hun hiun hj
      have hnot : ∀ e ∈ oj.after, Region.binds md e = true → e.on ≠ i := fun e he hb heq => by
        have h1 := getD_flip (hall e he hb)
        rw [heq, hiun] at h1
        cases h1
      have h2 := wpOp_putIf hoj (hfree j oj hoj hji hjun hnot) (fun cs b => hsel i oi cs b hi) (fun cs b => hsel j oj cs b hoj) hQ hy (H.2 j (ready_mono hj hji))
      refine wpOp_mono (fun a' w' h3 => ?_) h2
      have hTj : T ((l.setIfInBounds j true).getD m true) w' := by
        have h4 := h3.2.1
        rw [Array.setIfInBounds_comm _ _ (Ne.symm hji), hset] at h4
        exact h4
      refine ⟨hTj, ih (l.setIfInBounds j true) a' w' (fun d hd => ?_) (fun k ok hk hki hun2 hno => ?_) (ready_mono hr (Ne.symm hji)) h3.1 hTj ?_⟩
      · rw [getD_set_ne true (fun e => hjD (by rw [e]; exact hd))]; exact hun d hd
      · refine hfree k ok hk hki ?_ hno
        by_cases hjk : j = k
        · subst hjk; exact hjun
        · rw [getD_set_ne true hjk] at hun2; exact hun2
      · rw [Array.setIfInBounds_comm _ _ hji]; exact h3.2.2

/-- an operation that yields in whatever world -/
theorem wpAnyV_pure {i : Nat} {oi : Oper} {v : Value} {n : Nat} {l : Array Bool} {a : Act} {w : World} (hi : ops[i]? = some oi)
    (hs : Region.noSelect ops = true) (hf : Region.free md ops l i = true) (hr : (Region.ready md ops l).contains i = true) (him : m ≠ i)
    (hQ : ∀ c a w, Q (.panic c) (a.put oi.dst v) w → Q (.panic c) a w) (hy : YieldsIf P ops (fun _ => True) oi v a) (hS : T (l.getD m true) w)
    (h : wpAnyV P md ops Q T m n (l.setIfInBounds i true) (a.put oi.dst v) w) : wpAnyV P md ops Q T m (n + 1) l a w :=
  wpAnyV_first (Si := fun _ => True) [] hi (Region.noSelect_spec hs) (by simp [waits]) him (fun _ _ _ _ => trivial) hQ n l a w
    (fun d hd => by cases hd) (Region.free_spec hi hf) (by simpa using hr) hy hS h

/-- an operation that m waits for -/
theorem wpAnyV_take {i : Nat} (D : List Nat) {oi : Oper} {v : Value} {n : Nat} {l : Array Bool} {a : Act} {w : World} (hi : ops[i]? = some oi)
    (hs : Region.noSelect ops = true) (hf : Region.free md ops l i = true) (hr : (Region.ready md ops l).contains i = true)
    (hw : waits md ops i D = true) (hu : unlisted l D = true) (hm : D.contains m = true) (him : m ≠ i)
    (hQ : ∀ c a w, Q (.panic c) (a.put oi.dst v) w → Q (.panic c) a w) (hy : YieldsIf P ops (T false) oi v a) (hS : T (l.getD m true) w)
    (h : wpAnyV P md ops Q T m n (l.setIfInBounds i true) (a.put oi.dst v) w) : wpAnyV P md ops Q T m (n + 1) l a w :=
  wpAnyV_first (Si := T false) D hi (Region.noSelect_spec hs) hw him (fun b w h1 h2 => by rw [h1 (List.contains_iff_mem.1 hm)] at h2; exact h2) hQ n l a w
    (fun d hd => by have h1 := List.all_eq_true.1 hu d hd; simpa using h1) (Region.free_spec hi hf) (by simpa using hr) hy hS h

/-- one operation alone may come up -/
theorem wpAnyV_one {i : Nat} {o : Oper} {n : Nat} {l : Array Bool} {a : Act} {w : World} (hr : Region.ready md ops l = [i]) (ho : ops[i]? = some o)
    (h : ∀ K' : Act → World → Prop, Shut (∀ a w, T ((l.setIfInBounds i true).getD m true) w → (T ((l.setIfInBounds i true).getD m true) w → wpAnyV P md ops Q T m n (l.setIfInBounds i true) a w) → K' a w) → if Region.wanted o (yielded ops a.tmps) = true then Oper.wp P o a w K' Q else K' (a.put o.dst undef) w) :
    wpAnyV P md ops Q T m (n + 1) l a w :=
  ⟨fun h0 => absurd h0 (by rw [hr]; simp), fun j hj => by
    rw [hr, List.mem_singleton] at hj
    subst hj
    exact wpOp_step ho (fun K' hK => h K' (fun a w hS hW => hK a w ⟨hS, hW hS⟩))⟩

theorem wpAnyV_done {l : Array Bool} {a : Act} {w : World} (hr : Region.ready md ops l = []) (h : Q .normal a w) : ∀ n, wpAnyV P md ops Q T m n l a w
  | 0 => ⟨hr, h⟩
  | _ + 1 => ⟨fun _ => h, by rw [hr]; simp⟩

theorem wp_region_V (T : Bool → World → Prop) (m : Nat) {id : Nat} {a : Act} {w : World} (hm : P.follows .mixedOrders = true)
    (h : wpAnyV P .any ops Q T m ops.size (Array.replicate ops.size false) a w.drew) : (Code.region id ops true).wp P Q a w :=
  wp_region_any hm (wpAnyV_any _ _ _ _ h)
end
end Mun
end

section
/- A drawn region where two operations may come up at once. -/
set_option maxRecDepth 100000
namespace Mun
open Go

section
variable {P : Program} {ops : Array Oper} {Q : Exit → Act → World → Prop} {md : Region.Mode} {S : World → Prop} {X : List Nat}

theorem wpAnyU_two {i j : Nat} {o u : Oper} {n : Nat} {l : Array Bool} {a : Act} {w : World} (hr : Region.ready md ops l = [i, j]) (ho : ops[i]? = some o) (hu : ops[j]? = some u)
    (h : ∀ K' : Act → World → Prop, Shut (∀ a w, (X.contains i = false → S w) → ((X.contains i = false → S w) → wpAnyU P md ops Q S X n (l.setIfInBounds i true) a w) → K' a w) → if Region.wanted o (yielded ops a.tmps) = true then Oper.wp P o a w K' Q else K' (a.put o.dst undef) w)
    (h2 : ∀ K' : Act → World → Prop, Shut (∀ a w, (X.contains j = false → S w) → ((X.contains j = false → S w) → wpAnyU P md ops Q S X n (l.setIfInBounds j true) a w) → K' a w) → if Region.wanted u (yielded ops a.tmps) = true then Oper.wp P u a w K' Q else K' (a.put u.dst undef) w) :
    wpAnyU P md ops Q S X (n + 1) l a w :=
  ⟨fun h0 => absurd h0 (by rw [hr]; simp), fun k hk => by
    rw [hr] at hk
    rcases List.mem_cons.1 hk with rfl | hk
    · exact wpOp_step ho (fun K' hK => h K' (fun a w hS hW => hK a w ⟨hS, hW hS⟩))
    · rw [List.mem_singleton] at hk
      subst hk
      exact wpOp_step hu (fun K' hK => h2 K' (fun a w hS hW => hK a w ⟨hS, hW hS⟩))⟩
end
end Mun
end
