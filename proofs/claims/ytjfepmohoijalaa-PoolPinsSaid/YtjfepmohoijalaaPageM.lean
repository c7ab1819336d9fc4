/- Plain: pages as bytes. No program in sight. -/
import Derived.Test.YtjfepmohoijalaaNum
set_option linter.unusedVariables false
namespace Mun

abbrev PBytes := List UInt8

/-- a number that stands in a page -/
def gt (p : PBytes) (a n : Nat) : Nat := leNat ((p.drop a).take n)
/-- a number laid in -/
def pt (p : PBytes) (a n x : Nat) : PBytes := putAt p a (leBytes n x)

def cnt (p : PBytes) : Nat := gt p 14 2
def lowP (p : PBytes) : Nat := gt p 16 2
def sFrom (p : PBytes) (i : Nat) : Nat := gt p (26 + 4 * i) 2
def sSize (p : PBytes) (i : Nat) : Nat := gt p (26 + 4 * i + 2) 2
def cellP (p : PBytes) (i : Nat) : PBytes := (p.drop (sFrom p i)).take (sSize p i)

theorem gt_lt (p : PBytes) (a n : Nat) : gt p a n < 256 ^ n := by
  unfold gt
  have h := leNat_lt ((p.drop a).take n)
  have h2 : ((p.drop a).take n).length ≤ n := List.length_take_le _ _
  exact Nat.lt_of_lt_of_le h (Nat.pow_le_pow_right (by decide) h2)
theorem gt2_lt (p : PBytes) (a : Nat) : gt p a 2 < 65536 := gt_lt p a 2
theorem gt4_lt (p : PBytes) (a : Nat) : gt p a 4 < 4294967296 := gt_lt p a 4
theorem gt8_lt (p : PBytes) (a : Nat) : gt p a 8 < 18446744073709551616 := gt_lt p a 8

theorem pt_length (p : PBytes) (a n x : Nat) (h : a + n ≤ p.length) : (pt p a n x).length = p.length := putAt_length _ _ _ (by rw [leBytes_length]; exact h)

theorem putAt_drop_after (l : PBytes) (A : Nat) (bs : PBytes) (a : Nat) (h : A + bs.length ≤ a) (hl : A + bs.length ≤ l.length) : (putAt l A bs).drop a = l.drop a := by
  apply List.ext_getElem?
  intro i
  rw [List.getElem?_drop, List.getElem?_drop, putAt_getElem? _ _ _ hl, if_neg (by omega)]

theorem putAt_window_apart (l : PBytes) (A : Nat) (bs : PBytes) (a n : Nat) (hl : A + bs.length ≤ l.length) (h : a + n ≤ A ∨ A + bs.length ≤ a) : ((putAt l A bs).drop a).take n = (l.drop a).take n := by
  apply List.ext_getElem?
  intro i
  rw [List.getElem?_take, List.getElem?_take]
  split
  · rw [List.getElem?_drop, List.getElem?_drop, putAt_getElem? _ _ _ hl, if_neg (by omega)]
  · rfl

/-- what was laid elsewhere leaves a number -/
theorem gt_putAt_apart (p : PBytes) (A : Nat) (bs : PBytes) (a n : Nat) (hl : A + bs.length ≤ p.length) (h : a + n ≤ A ∨ A + bs.length ≤ a) : gt (putAt p A bs) a n = gt p a n := by
  unfold gt
  rw [putAt_window_apart p A bs a n hl h]
theorem gt_pt_apart (p : PBytes) (A k x a n : Nat) (hl : A + k ≤ p.length) (h : a + n ≤ A ∨ A + k ≤ a) : gt (pt p A k x) a n = gt p a n :=
  gt_putAt_apart p A _ a n (by rw [leBytes_length]; exact hl) (by rw [leBytes_length]; exact h)
theorem gt_pt_same (p : PBytes) (A k x : Nat) (hl : A + k ≤ p.length) : gt (pt p A k x) A k = x % 256 ^ k := by
  unfold gt pt
  have := putAt_take_drop p A (leBytes k x) (by rw [leBytes_length]; exact hl)
  rw [leBytes_length] at this
  rw [this, leNat_leBytes]
theorem gt_pt2 (p : PBytes) (A x : Nat) (hl : A + 2 ≤ p.length) (hx : x < 65536) : gt (pt p A 2 x) A 2 = x := by
  rw [gt_pt_same p A 2 x hl]; omega

/-- the bytes of the first cells -/
def szs (p : PBytes) : Nat → Nat
  | 0 => 0
  | k + 1 => szs p k + sSize p k
theorem szs_le (p : PBytes) : ∀ k, szs p k ≤ 65536 * k
  | 0 => Nat.le_refl _
  | k + 1 => by
    have := szs_le p k
    have h : sSize p k < 65536 := gt2_lt p _
    unfold szs
    omega
/-- bytes that no cell and no slot has -/
def freeP (p : PBytes) : Int := 486 - 4 * (cnt p : Int) - (szs p (cnt p) : Int)

/-- a slot set -/
def ss (p : PBytes) (i f z : Nat) : PBytes := pt (pt p (26 + 4 * i) 2 f) (26 + 4 * i + 2) 2 z
theorem ss_length (p : PBytes) (i f z : Nat) (h : 26 + 4 * i + 4 ≤ p.length) : (ss p i f z).length = p.length := by
  unfold ss
  rw [pt_length _ _ _ _ (by rw [pt_length _ _ _ _ (by omega)]; omega), pt_length _ _ _ _ (by omega)]

/-- a cell's bytes laid right below low, its slot set -/
def belowP (p : PBytes) (i : Nat) (c : PBytes) : PBytes := ss (pt (putAt p (lowP p - c.length) c) 16 2 (lowP p - c.length)) i (lowP p - c.length) c.length

/-- laid out anew, the first k cells -/
def anewS (p : PBytes) : Nat → PBytes
  | 0 => p
  | k + 1 => ss (putAt (anewS p k) (512 - szs p (k + 1)) (cellP p k)) k (512 - szs p (k + 1)) (sSize p k)
def zer (n : Nat) : PBytes := List.replicate n 0
def anewP (p : PBytes) : PBytes := pt (putAt (anewS p (cnt p)) (26 + 4 * cnt p) (zer (512 - szs p (cnt p) - (26 + 4 * cnt p)))) 16 2 (512 - szs p (cnt p))

/-- x lies in cell j -/
def inC (p : PBytes) (j x : Nat) : Prop := sFrom p j ≤ x ∧ x < sFrom p j + sSize p j
/-- a good page -/
structure GoodP (p : PBytes) : Prop where
  len : p.length = 512
  none : p[13]? = some 0
  fit : 26 + 4 * cnt p ≤ lowP p
  low : lowP p ≤ 512
  cell : ∀ i, i < cnt p → lowP p ≤ sFrom p i ∧ sFrom p i + sSize p i ≤ 512
  apart : ∀ i j, i < j → j < cnt p → ∀ x, ¬ (inC p i x ∧ inC p j x)
open Classical in
noncomputable def goodB (p : PBytes) : Bool := decide (GoodP p)
theorem goodB_true {p : PBytes} (h : GoodP p) : goodB p = true := by unfold goodB; simpa using h
theorem goodB_false {p : PBytes} (h : ¬ GoodP p) : goodB p = false := by unfold goodB; simpa using h
end Mun
