/- Plain mathematics of the log's records: digits, bodies, sums. -/
import Derived.Test.YtoblajbffnkkiaaNum
import Derived.Test.YtoblajbffnkkiaaFlip
import Derived.Test.YtoblajbffnkkiaaCrcE
set_option linter.unusedSimpArgs false
namespace Mun

/-- a change -/
structure PC where
  page : Int
  at_ : Int
  whole : Bool
  b : List UInt8

/-- a record -/
structure PR where
  kind : Int
  tx : Nat
  prev : Nat
  next : Nat
  data : List UInt8
  cs : List PC

def goodC (c : PC) : Bool := decide (0 ≤ c.page) && decide (c.page < 65536) && decide (0 ≤ c.at_) && decide (c.at_ ≤ 512) && decide ((c.b.length : Int) ≤ 512 - c.at_) && (!c.whole || (decide (c.at_ = 0) && decide (c.b.length = 512)))

def goodR (r : PR) : Bool := decide (1 ≤ r.kind) && decide (r.kind ≤ 9) && r.cs.all goodC

structure GoodC (c : PC) : Prop where
  p0 : 0 ≤ c.page
  p1 : c.page < 65536
  a0 : 0 ≤ c.at_
  a1 : c.at_ ≤ 512
  len : (c.b.length : Int) ≤ 512 - c.at_
  all : c.whole = true → c.at_ = 0 ∧ c.b.length = 512

theorem goodC_iff (c : PC) : goodC c = true ↔ GoodC c := by
  unfold goodC
  simp only [Bool.and_eq_true, decide_eq_true_eq, Bool.or_eq_true, Bool.not_eq_true']
  constructor
  · rintro ⟨⟨⟨⟨⟨h1, h2⟩, h3⟩, h4⟩, h5⟩, h6⟩
    refine ⟨h1, h2, h3, h4, h5, fun hw => ?_⟩
    rcases h6 with h6 | h6
    · rw [hw] at h6; cases h6
    · exact h6
  · rintro ⟨h1, h2, h3, h4, h5, h6⟩
    refine ⟨⟨⟨⟨⟨h1, h2⟩, h3⟩, h4⟩, h5⟩, ?_⟩
    cases hw : c.whole
    · exact .inl rfl
    · exact .inr (h6 hw)

theorem goodR_iff (r : PR) : goodR r = true ↔ 1 ≤ r.kind ∧ r.kind ≤ 9 ∧ ∀ c ∈ r.cs, GoodC c := by
  unfold goodR
  simp only [Bool.and_eq_true, decide_eq_true_eq, List.all_eq_true, goodC_iff]
  constructor
  · rintro ⟨⟨h1, h2⟩, h3⟩; exact ⟨h1, h2, h3⟩
  · rintro ⟨h1, h2, h3⟩; exact ⟨⟨h1, h2⟩, h3⟩

/-- a number's digits, the lowest first -/
def vi (n : Nat) : List UInt8 := if n < 128 then [UInt8.ofNat n] else UInt8.ofNat (n % 128 + 128) :: vi (n / 128)
termination_by n

theorem vi_lt {n : Nat} (h : n < 128) : vi n = [UInt8.ofNat n] := by rw [vi, if_pos h]
theorem vi_ge {n : Nat} (h : 128 ≤ n) : vi n = UInt8.ofNat (n % 128 + 128) :: vi (n / 128) := by rw [vi, if_neg (by omega)]

theorem vi_length (k : Nat) : ∀ n, n < 128 ^ k → (vi n).length ≤ max 1 k := by
  induction k with
  | zero => intro n h; obtain rfl : n = 0 := by omega
            rw [vi_lt (by omega)]; simp
  | succ k ih =>
    intro n h
    by_cases h1 : n < 128
    · rw [vi_lt h1]; simp
    · rw [vi_ge (by omega), List.length_cons]
      have h2 := ih (n / 128) (by rw [Nat.pow_succ] at h; exact Nat.div_lt_of_lt_mul (by omega))
      have : 0 < k := by
        rcases Nat.eq_zero_or_pos k with rfl | hk
        · simp at h; omega
        · exact hk
      omega

theorem vi_length64 (n : Nat) (h : n < 18446744073709551616) : (vi n).length ≤ 10 := by
  have := vi_length 10 n (Nat.lt_of_lt_of_le h (by decide))
  omega
theorem vi_length20 (n : Nat) (h : n ≤ 1048576) : (vi n).length ≤ 3 := by
  have := vi_length 3 n (Nat.lt_of_le_of_lt h (by decide))
  omega
theorem vi_pos (n : Nat) : 0 < (vi n).length := by
  by_cases h : n < 128
  · rw [vi_lt h]; simp
  · rw [vi_ge (by omega)]; simp

def txt (b : List UInt8) : List UInt8 := vi b.length ++ b
def wb (c : PC) : UInt8 := if c.whole then 1 else 0
def chB (c : PC) : List UInt8 := vi c.page.toNat ++ vi c.at_.toNat ++ [wb c] ++ txt c.b
def headR (r : PR) : List UInt8 := [UInt8.ofNat r.kind.toNat] ++ vi r.tx ++ vi r.prev ++ vi r.next
def bodyR (r : PR) : List UInt8 := headR r ++ txt r.data ++ vi r.cs.length ++ r.cs.flatMap chB
def sumR (lsn : Nat) (b : List UInt8) : BitVec 32 := crcOf (leBytes 8 lsn ++ b)
def recB (r : PR) (lsn : Nat) : List UInt8 := leBytes 4 (bodyR r).length ++ leBytes 4 (sumR lsn (bodyR r)).toNat ++ bodyR r

theorem recB_length (r : PR) (lsn : Nat) : (recB r lsn).length = 8 + (bodyR r).length := by
  simp only [recB, List.length_append, leBytes_length]
theorem bodyR_pos (r : PR) : 6 ≤ (bodyR r).length := by
  have h1 := vi_pos r.tx
  have h2 := vi_pos r.prev
  have h3 := vi_pos r.next
  have h4 := vi_pos r.data.length
  have h5 := vi_pos r.cs.length
  simp only [bodyR, headR, txt, List.length_append, List.length_cons, List.length_nil]
  omega

/-- a change's bytes, counted -/
def szC (c : PC) : Nat := 9 + c.b.length
def szR (r : PR) : Nat := r.data.length + r.cs.length + (r.cs.map szC).sum

theorem chB_length (c : PC) (h : GoodC c) : (chB c).length ≤ szC c := by
  have h1 := vi_length20 c.page.toNat (by have := h.p0; have := h.p1; omega)
  have h2 := vi_length 2 c.at_.toNat (by have := h.a0; have := h.a1; omega)
  have h3 := vi_length 2 c.b.length (by have := h.a0; have := h.len; omega)
  simp only [chB, txt, szC, List.length_append, List.length_cons, List.length_nil]
  omega

theorem chs_length (l : List PC) (h : ∀ c ∈ l, GoodC c) : (l.flatMap chB).length ≤ (l.map szC).sum := by
  induction l with
  | nil => simp
  | cons a l ih =>
    have h1 := chB_length a (h a (by simp))
    have h2 := ih (fun c hc => h c (by simp [hc]))
    simp only [List.flatMap_cons, List.length_append, List.map_cons, List.sum_cons]
    omega

/-- the register over a row, from another start -/
theorem crcReg_inj (l : List UInt8) (r s : BitVec 32) (h : crcReg r l = crcReg s l) : r = s := by
  have h1 := crcBits_xor r s (bitsOf l) (bitsOf l) rfl
  rw [← crcReg_bits, ← crcReg_bits, h, BitVec.xor_self] at h1
  have hz : List.zipWith xor (bitsOf l) (bitsOf l) = List.replicate (bitsOf l).length false := by
    generalize bitsOf l = m
    induction m with
    | nil => rfl
    | cons a m ih => rw [List.zipWith_cons_cons, ih, List.length_cons, List.replicate_succ, Bool.xor_self]
  rw [hz, crcBits_zeros] at h1
  have h2 := crcIter_eq_zero h1.symm
  have := congrArg (· ^^^ s) h2
  simpa [BitVec.xor_assoc] using this

theorem crcOf_split {a b l : List UInt8} (h : crcOf (a ++ l) = crcOf (b ++ l)) : crcReg 0xffffffff#32 a = crcReg 0xffffffff#32 b := by
  unfold crcOf crcMore at h
  have h' := congrArg (· ^^^ 0xffffffff#32) h
  simp only [BitVec.xor_assoc, BitVec.xor_self, BitVec.xor_zero, BitVec.zero_xor, crcReg_append] at h'
  exact crcReg_inj l _ _ h'

/-- linear -/
theorem crcReg_xor (r : BitVec 32) (a b : List UInt8) (hl : a.length = b.length) : crcReg r a ^^^ crcReg r b = crcReg 0#32 (List.zipWith (· ^^^ ·) a b) := by
  induction a generalizing r b with
  | nil => cases b with
    | nil => simp [crcReg]
    | cons => simp at hl
  | cons x a ih =>
    cases b with
    | nil => simp at hl
    | cons y b =>
      have key : ∀ (r s : BitVec 32) (a b : List UInt8), a.length = b.length → crcReg r a ^^^ crcReg s b = crcReg (r ^^^ s) (List.zipWith (· ^^^ ·) a b) := by
        intro r s a
        induction a generalizing r s with
        | nil => intro b hb; cases b with
          | nil => rfl
          | cons => simp at hb
        | cons x a ih =>
          intro b hb
          cases b with
          | nil => simp at hb
          | cons y b =>
            simp only [crcReg, List.foldl_cons, List.zipWith_cons_cons] at ih ⊢
            rw [ih _ _ b (by simpa using hb)]
            congr 1
            unfold crcByte
            rw [← crcIter_xor, xor4]
            congr 2
      have := key r r (x :: a) (y :: b) hl
      rwa [BitVec.xor_self] at this

/-- the bytes of the mask of the k lowest bits of 64 -/
def maskB (k : Nat) : List UInt8 := (List.range 8).map fun i => UInt8.ofNat ((2 ^ k - 1) / 256 ^ i)

theorem mask_ne (k : Nat) (h1 : 1 ≤ k) (h2 : k ≤ 64) : crcReg 0#32 (maskB k) ≠ 0#32 := by
  have key : ∀ k, k < 64 → evalN (maskB (k + 1)) 0 ≠ 0 := by decide +kernel
  intro h
  have := key (k - 1) (by omega)
  rw [show k - 1 + 1 = k by omega] at this
  apply this
  have h3 := evalN_eq (maskB k) 0#32
  rw [h] at h3
  exact h3.symm

theorem xor_succ (n : Nat) : ∃ k, 1 ≤ k ∧ (n ^^^ (n + 1)) = 2 ^ k - 1 ∧ 2 ^ (k - 1) ≤ n + 1 := by
  induction n using Nat.strongRecOn with
  | _ n ih =>
    rcases Nat.mod_two_eq_zero_or_one n with h | h
    · refine ⟨1, Nat.le_refl _, ?_, by simp⟩
      apply Nat.eq_of_testBit_eq
      intro i
      cases i with
      | zero => simp [Nat.testBit_xor, Nat.testBit_zero]; omega
      | succ i =>
        rw [Nat.testBit_xor, Nat.testBit_succ, Nat.testBit_succ, show (n + 1) / 2 = n / 2 by omega]
        simp [Nat.testBit_succ]
    · obtain ⟨k, hk, he, hb⟩ := ih (n / 2) (by omega)
      refine ⟨k + 1, by omega, ?_, ?_⟩
      · apply Nat.eq_of_testBit_eq
        intro i
        cases i with
        | zero => simp [Nat.testBit_xor, Nat.testBit_zero]; omega
        | succ i =>
          rw [Nat.testBit_xor, Nat.testBit_succ, Nat.testBit_succ, show (n + 1) / 2 = n / 2 + 1 by omega, ← Nat.testBit_xor, he]
          rw [Nat.testBit_two_pow_sub_one, Nat.testBit_two_pow_sub_one]
          simp
      · simp only [Nat.add_sub_cancel]
        obtain ⟨j, rfl⟩ : ∃ j, k = j + 1 := ⟨k - 1, by omega⟩
        simp only [Nat.add_sub_cancel] at hb
        rw [Nat.pow_succ]; omega

theorem leBytes_eq (k n : Nat) : leBytes k n = (List.range k).map fun i => UInt8.ofNat (n / 256 ^ i) := by
  apply List.ext_getElem?
  intro i
  by_cases h : i < k
  · rw [leBytes_getElem? k n i h, List.getElem?_map, List.getElem?_range h]; rfl
  · rw [List.getElem?_eq_none (by rw [leBytes_length]; omega), List.getElem?_eq_none (by simp; omega)]

theorem leBytes_mod (n : Nat) : leBytes 8 (n % 18446744073709551616) = leBytes 8 n := by
  apply List.ext_getElem?
  intro i
  by_cases h : i < 8
  · rw [leBytes_getElem? _ _ _ h, leBytes_getElem? _ _ _ h]
    congr 1
    apply UInt8.toNat_inj.1
    rw [UInt8.toNat_ofNat', UInt8.toNat_ofNat']
    have : i = 0 ∨ i = 1 ∨ i = 2 ∨ i = 3 ∨ i = 4 ∨ i = 5 ∨ i = 6 ∨ i = 7 := by omega
    rcases this with rfl | rfl | rfl | rfl | rfl | rfl | rfl | rfl <;> omega
  · rw [List.getElem?_eq_none (by rw [leBytes_length]; omega), List.getElem?_eq_none (by rw [leBytes_length]; omega)]

theorem leBytes_xor (m n : Nat) : List.zipWith (· ^^^ ·) (leBytes 8 m) (leBytes 8 n) = leBytes 8 (m ^^^ n) := by
  apply List.ext_getElem?
  intro i
  by_cases h : i < 8
  · rw [List.getElem?_zipWith, leBytes_getElem? _ _ _ h, leBytes_getElem? _ _ _ h, leBytes_getElem? _ _ _ h]
    simp only [Option.some.injEq]
    apply UInt8.toNat_inj.1
    rw [UInt8.toNat_xor, UInt8.toNat_ofNat', UInt8.toNat_ofNat', UInt8.toNat_ofNat']
    rw [show (256 : Nat) = 2 ^ 8 from rfl, ← Nat.pow_mul, ← Nat.shiftRight_eq_div_pow, ← Nat.shiftRight_eq_div_pow, ← Nat.shiftRight_eq_div_pow, Nat.shiftRight_xor_distrib, Nat.xor_mod_two_pow]
  · rw [List.getElem?_eq_none (by simp [leBytes_length]; omega), List.getElem?_eq_none (by rw [leBytes_length]; omega)]

/-- at the next LSN the sum is another -/
theorem sum_next (lsn : Nat) (h : lsn < 18446744073709551616) (b : List UInt8) : sumR ((lsn + 1) % 18446744073709551616) b ≠ sumR lsn b := by
  intro e
  unfold sumR at e
  have h1 := crcOf_split e
  rw [leBytes_mod] at h1
  have h2 := crcReg_xor 0xffffffff#32 (leBytes 8 lsn) (leBytes 8 (lsn + 1)) (by simp [leBytes_length])
  rw [← h1, BitVec.xor_self, leBytes_xor] at h2
  obtain ⟨k, hk, he, hb⟩ := xor_succ lsn
  have hk64 : k ≤ 65 := by
    rcases Nat.lt_or_ge 65 k with h3 | h3
    · have : 2 ^ 65 ≤ 2 ^ (k - 1) := Nat.pow_le_pow_right (by omega) (by omega)
      omega
    · exact h3
  rw [he] at h2
  by_cases h65 : k = 65
  · subst h65
    have e64 : leBytes 8 (2 ^ 65 - 1) = maskB 64 := by decide
    rw [e64] at h2
    exact mask_ne 64 (by omega) (by omega) h2.symm
  · have e2 : leBytes 8 (2 ^ k - 1) = maskB k := leBytes_eq 8 _
    rw [e2] at h2
    exact mask_ne k hk (by omega) h2.symm

/-- a row of bytes with one bit turned has another sum -/
theorem crc_flip (l : List UInt8) (j : Nat) (hj : j < 8 * l.length) : crcOf (flipBit l j) ≠ crcOf l := by
  intro e
  have h1 := (crcOf_window (a := flipBit l j) (b := l) (flipBit_length l j) j (fun i hi => by
    rw [bitAt_flipBit l j i hj]
    have : ¬ i = j := by omega
    simp [this])).1 e
  have h2 := bitAt_flipBit l j j hj
  rw [h1] at h2
  simp at h2
end Mun
