/- Plain: a log as records; where they begin. -/
import Derived.Test.YtoblajbffnkkiaaRecP
set_option linter.unusedVariables false
namespace Mun

def recLen (r : PR) : Nat := 8 + (bodyR r).length
def encL : Nat → List PR → List UInt8
  | _, [] => []
  | b, r :: rs => recB r b ++ encL (b + recLen r) rs
def lenL : List PR → Nat
  | [] => 0
  | r :: rs => recLen r + lenL rs
def offs : Nat → List PR → List Nat
  | _, [] => []
  | o, r :: rs => o :: offs (o + recLen r) rs

theorem recB_len (r : PR) (b : Nat) : (recB r b).length = recLen r := recB_length r b
theorem recLen_pos (r : PR) : 14 ≤ recLen r := by have := bodyR_pos r; unfold recLen; omega
theorem encL_length (rs : List PR) : ∀ b, (encL b rs).length = lenL rs := by
  induction rs with
  | nil => intro b; rfl
  | cons r rs ih => intro b; simp only [encL, List.length_append, recB_len, ih, lenL]
theorem lenL_append (a b : List PR) : lenL (a ++ b) = lenL a + lenL b := by
  induction a with
  | nil => simp [lenL]
  | cons r a ih => simp only [List.cons_append, lenL, ih]; omega
theorem encL_append (xs ys : List PR) : ∀ b, encL b (xs ++ ys) = encL b xs ++ encL (b + lenL xs) ys := by
  induction xs with
  | nil => intro b; simp [encL, lenL]
  | cons r xs ih =>
    intro b
    simp only [List.cons_append, encL, ih, lenL, List.append_assoc]
    rw [Nat.add_assoc]
theorem encL_snoc (b : Nat) (xs : List PR) (r : PR) : encL b (xs ++ [r]) = encL b xs ++ recB r (b + lenL xs) := by
  rw [encL_append]; simp [encL]
theorem offs_length (rs : List PR) : ∀ o, (offs o rs).length = rs.length := by
  induction rs with
  | nil => intro o; rfl
  | cons r rs ih => intro o; simp [offs, ih]
theorem offs_append (xs ys : List PR) : ∀ o, offs o (xs ++ ys) = offs o xs ++ offs (o + lenL xs) ys := by
  induction xs with
  | nil => intro o; simp [offs, lenL]
  | cons r xs ih =>
    intro o
    simp only [List.cons_append, offs, ih, lenL]
    rw [Nat.add_assoc]
theorem offs_snoc (o : Nat) (xs : List PR) (r : PR) : offs o (xs ++ [r]) = offs o xs ++ [o + lenL xs] := by
  rw [offs_append]; simp [offs]
theorem offs_get (rs : List PR) : ∀ o i (h : i < rs.length), (offs o rs)[i]? = some (o + lenL (rs.take i)) := by
  induction rs with
  | nil => intro o i h; simp at h
  | cons r rs ih =>
    intro o i h
    cases i with
    | zero => simp [offs, lenL]
    | succ i =>
      simp only [offs, List.getElem?_cons_succ, List.take_succ_cons, lenL]
      rw [ih _ i (by simpa using h), Nat.add_assoc]
theorem lenL_take_succ (rs : List PR) (i : Nat) (h : i < rs.length) : lenL (rs.take (i + 1)) = lenL (rs.take i) + recLen rs[i] := by
  rw [take_snoc rs i h, lenL_append]; simp [lenL]
theorem lenL_take_mono (rs : List PR) {i j : Nat} (h : i ≤ j) : lenL (rs.take i) ≤ lenL (rs.take j) := by
  have e : rs.take j = rs.take i ++ (rs.drop i).take (j - i) := by
    rw [← List.take_add, Nat.add_sub_cancel' h]
  rw [e, lenL_append]; omega
theorem lenL_take_lt (rs : List PR) {i j : Nat} (h : i < j) (hj : i < rs.length) : lenL (rs.take i) < lenL (rs.take j) := by
  have h1 := lenL_take_succ rs i hj
  have h2 := lenL_take_mono rs (i := i + 1) (j := j) h
  have := recLen_pos rs[i]
  omega
theorem lenL_take_le (rs : List PR) (i : Nat) : lenL (rs.take i) ≤ lenL rs := by
  rcases Nat.lt_or_ge i rs.length with h | h
  · have := lenL_take_mono rs (i := i) (j := rs.length) (Nat.le_of_lt h)
    rwa [List.take_length] at this
  · rw [List.take_of_length_le h]; exact Nat.le_refl _
theorem lenL_len (rs : List PR) : 14 * rs.length ≤ lenL rs := by
  induction rs with
  | nil => simp [lenL]
  | cons r rs ih => have := recLen_pos r; simp only [lenL, List.length_cons]; omega
/-- what stands from a record on -/
theorem encL_drop (rs : List PR) (b i : Nat) (h : i < rs.length) : (encL b rs).drop (lenL (rs.take i)) = recB rs[i] (b + lenL (rs.take i)) ++ encL (b + lenL (rs.take (i + 1))) (rs.drop (i + 1)) := by
  have e : rs = rs.take i ++ (rs[i] :: rs.drop (i + 1)) := by
    rw [← List.drop_eq_getElem_cons h, List.take_append_drop]
  have h1 : encL b rs = encL b (rs.take i) ++ (recB rs[i] (b + lenL (rs.take i)) ++ encL (b + lenL (rs.take (i + 1))) (rs.drop (i + 1))) := by
    have h2 := congrArg (encL b) e
    rw [encL_append] at h2
    rw [h2, encL, lenL_take_succ rs i h, Nat.add_assoc]
  rw [h1, List.drop_left' (encL_length _ _)]

theorem le4_body (r : PR) (h : (bodyR r).length ≤ 1048576) : leNat (leBytes 4 (bodyR r).length) = (bodyR r).length := by
  rw [leNat_leBytes, Nat.mod_eq_of_lt (by omega)]
theorem le4_sum (b : BitVec 32) : leNat (leBytes 4 b.toNat) = b.toNat := by
  rw [leNat_leBytes, Nat.mod_eq_of_lt (by have := b.isLt; omega)]

/-- the parts of a record that stands at a place -/
theorem rec_parts (l : List UInt8) (A : Nat) (r : PR) (lsn : Nat) (rest : List UInt8) (h : l.drop A = recB r lsn ++ rest) (hb : (bodyR r).length ≤ 1048576) :
    leNat ((l.drop A).take 4) = (bodyR r).length ∧ leNat ((l.drop (A + 4)).take 4) = (sumR lsn (bodyR r)).toNat ∧ (l.drop (A + 8)).take (bodyR r).length = bodyR r ∧ A + 8 + (bodyR r).length ≤ l.length := by
  have e4 : l.drop (A + 4) = (recB r lsn ++ rest).drop 4 := by rw [← h, List.drop_drop]
  have e8 : l.drop (A + 8) = (recB r lsn ++ rest).drop 8 := by rw [← h, List.drop_drop]
  have hl := congrArg List.length h
  rw [List.length_drop, List.length_append, recB_len, recLen] at hl
  rw [h, e4, e8]
  unfold recB
  have l4 : ∀ n, (leBytes 4 n).length = 4 := fun n => leBytes_length 4 n
  refine ⟨?_, ?_, ?_, by have := bodyR_pos r; omega⟩
  · rw [List.append_assoc, List.append_assoc, List.take_left' (l4 _), le4_body r hb]
  · rw [List.append_assoc, List.append_assoc, List.drop_left' (l4 _), List.take_left' (l4 _), le4_sum]
  · rw [List.append_assoc (leBytes 4 _ ++ leBytes 4 _), List.drop_left' (by rw [List.length_append, l4, l4]), List.take_left' rfl]

structure LM where
  base : Nat
  recs : List PR
  forced : Nat
  check : Nat

def LM.bytes (m : LM) : List UInt8 := encL m.base m.recs
def LM.fin (m : LM) : Nat := m.base + lenL m.recs

/-- a record that can be written -/
structure RecOk (r : PR) : Prop where
  good : goodR r = true
  big : (bodyR r).length ≤ 1048576
  tx : r.tx < 18446744073709551616
  prev : r.prev < 18446744073709551616
  next : r.next < 18446744073709551616

structure LM.Wf (m : LM) : Prop where
  recs : ∀ r ∈ m.recs, RecOk r
  len : lenL m.recs ≤ 16777216
  base : m.base < 4611686018427387904
  forced : m.forced ≤ lenL m.recs
  check : m.check < 18446744073709551616
end Mun
