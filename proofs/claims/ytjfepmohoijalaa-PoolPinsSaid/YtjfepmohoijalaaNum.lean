/- Plain mathematics of numbers as bytes, the lowest first. -/
namespace Mun

/-- the number of a row of bytes, the lowest first -/
def leNat : List UInt8 → Nat
  | [] => 0
  | b :: r => b.toNat + 256 * leNat r

/-- so many bytes of a number, the lowest first -/
def leBytes : Nat → Nat → List UInt8
  | 0, _ => []
  | k + 1, n => UInt8.ofNat n :: leBytes k (n / 256)

theorem leBytes_length (k n : Nat) : (leBytes k n).length = k := by
  induction k generalizing n with
  | zero => rfl
  | succ k ih => simp [leBytes, ih]

theorem leNat_lt (l : List UInt8) : leNat l < 256 ^ l.length := by
  induction l with
  | nil => simp [leNat]
  | cons b r ih =>
    have hb := b.toNat_lt
    simp only [leNat, List.length_cons, Nat.pow_succ]
    omega

theorem leNat_append (a b : List UInt8) : leNat (a ++ b) = leNat a + 256 ^ a.length * leNat b := by
  induction a with
  | nil => simp [leNat]
  | cons x a ih =>
    simp only [List.cons_append, leNat, ih, List.length_cons, Nat.pow_succ]
    rw [Nat.mul_add, ← Nat.add_assoc, Nat.mul_comm (256 ^ a.length) 256, Nat.mul_assoc]

theorem leNat_leBytes (k n : Nat) : leNat (leBytes k n) = n % 256 ^ k := by
  induction k generalizing n with
  | zero => simp [leBytes, leNat, Nat.mod_one]
  | succ k ih =>
    simp only [leBytes, leNat, ih, UInt8.toNat_ofNat']
    rw [show 256 ^ (k + 1) = 256 * 256 ^ k by rw [Nat.pow_succ, Nat.mul_comm], Nat.mod_mul]

theorem leBytes_leNat (l : List UInt8) : leBytes l.length (leNat l) = l := by
  induction l with
  | nil => rfl
  | cons b r ih =>
    have hb := b.toNat_lt
    simp only [List.length_cons, leBytes, leNat]
    congr 1
    · apply UInt8.toNat_inj.1
      rw [UInt8.toNat_ofNat']
      omega
    · rw [show (b.toNat + 256 * leNat r) / 256 = leNat r by omega, ih]

theorem leBytes_getElem? (k n i : Nat) (h : i < k) : (leBytes k n)[i]? = some (UInt8.ofNat (n / 256 ^ i)) := by
  induction k generalizing n i with
  | zero => omega
  | succ k ih =>
    cases i with
    | zero => simp [leBytes]
    | succ i =>
      simp only [leBytes, List.getElem?_cons_succ]
      rw [ih (n / 256) i (by omega), Nat.div_div_eq_div_mul, Nat.pow_succ, Nat.mul_comm]

theorem leBytes_take (k n i : Nat) (h : i ≤ k) : (leBytes k n).take i = leBytes i n := by
  induction k generalizing n i with
  | zero => obtain rfl : i = 0 := by omega
            rfl
  | succ k ih =>
    cases i with
    | zero => rfl
    | succ i => simp only [leBytes, List.take_succ_cons, ih (n / 256) i (by omega)]

theorem leBytes_snoc (k n : Nat) : leBytes (k + 1) n = leBytes k n ++ [UInt8.ofNat (n / 256 ^ k)] := by
  induction k generalizing n with
  | zero => simp [leBytes]
  | succ k ih =>
    rw [leBytes, ih (n / 256)]
    simp only [leBytes, List.cons_append]
    rw [Nat.div_div_eq_div_mul, Nat.pow_succ, Nat.mul_comm (256 ^ k)]

/-- or of what lies below and what lies above -/
theorem or_shift (a b k : Nat) (h : a < 2 ^ k) : a ||| b * 2 ^ k = a + b * 2 ^ k := by
  rw [Nat.mul_comm, Nat.or_comm, ← Nat.two_pow_add_eq_or_of_lt h, Nat.add_comm]

theorem leNat_snoc (l : List UInt8) (b : UInt8) : leNat (l ++ [b]) = leNat l + 2 ^ (8 * l.length) * b.toNat := by
  rw [leNat_append, show (256 : Nat) = 2 ^ 8 from rfl, ← Nat.pow_mul]
  simp [leNat]

theorem take_snoc {α : Type} (l : List α) (k : Nat) (h : k < l.length) : l.take (k + 1) = l.take k ++ [l[k]] := by
  rw [List.take_succ_eq_append_getElem h]


theorem byte_cast (n k : Nat) : ((n : Int) / 2 ^ (8 * k) % 256) = ((UInt8.ofNat (n / 256 ^ k)).toNat : Int) := by
  have h : (256 : Nat) ^ k = 2 ^ (8 * k) := by rw [Nat.pow_mul]
  rw [UInt8.toNat_ofNat', h]
  generalize hp : (2 : Nat) ^ (8 * k) = p
  have hp' : (2 : Int) ^ (8 * k) = (p : Int) := by rw [← hp]; push_cast; rfl
  rw [hp']
  omega


/-- bytes laid over others -/
def putAt (l : List UInt8) (A : Nat) (bs : List UInt8) : List UInt8 := l.take A ++ (bs ++ l.drop (A + bs.length))

theorem putAt_length (l : List UInt8) (A : Nat) (bs : List UInt8) (h : A + bs.length ≤ l.length) : (putAt l A bs).length = l.length := by
  simp only [putAt, List.length_append, List.length_take, List.length_drop]; omega

theorem putAt_nil (l : List UInt8) (A : Nat) : putAt l A [] = l := by simp [putAt]

theorem putAt_getElem? (l : List UInt8) (A : Nat) (bs : List UInt8) (h : A + bs.length ≤ l.length) (i : Nat) :
    (putAt l A bs)[i]? = if A ≤ i ∧ i < A + bs.length then bs[i - A]? else l[i]? := by
  have hA : (l.take A).length = A := by rw [List.length_take]; omega
  by_cases h1 : i < A
  · rw [if_neg (by omega), putAt, List.getElem?_append_left (by omega), List.getElem?_take_of_lt h1]
  · rw [putAt, List.getElem?_append_right (by omega), hA]
    by_cases h2 : i < A + bs.length
    · rw [if_pos (by omega), List.getElem?_append_left (by omega)]
    · rw [if_neg (by omega), List.getElem?_append_right (by omega), List.getElem?_drop]
      congr 1
      omega

theorem putAt_snoc (l : List UInt8) (A : Nat) (bs : List UInt8) (b : UInt8) (h : A + bs.length < l.length) : (putAt l A bs).set (A + bs.length) b = putAt l A (bs ++ [b]) := by
  apply List.ext_getElem?
  intro i
  rw [List.getElem?_set, putAt_getElem? _ _ _ (by omega), putAt_getElem? _ _ _ (by simp; omega), putAt_length _ _ _ (by omega)]
  simp only [List.length_append, List.length_cons, List.length_nil]
  by_cases h1 : A + bs.length = i
  · subst h1
    rw [if_pos rfl, if_pos (by omega), if_pos (by omega), List.getElem?_append_right (by omega)]
    simp
  · rw [if_neg h1]
    by_cases h2 : A ≤ i ∧ i < A + bs.length
    · rw [if_pos h2, if_pos (by omega), List.getElem?_append_left (by omega)]
    · rw [if_neg h2, if_neg (by omega)]

theorem putAt_take_drop (l : List UInt8) (A : Nat) (bs : List UInt8) (h : A + bs.length ≤ l.length) : ((putAt l A bs).drop A).take bs.length = bs := by
  have hA : (l.take A).length = A := by rw [List.length_take]; omega
  have e : (putAt l A bs).drop A = bs ++ l.drop (A + bs.length) := by
    have := List.drop_left (l₁ := l.take A) (l₂ := bs ++ l.drop (A + bs.length))
    rw [hA] at this
    exact this
  rw [e]
  exact List.take_left

end Mun
