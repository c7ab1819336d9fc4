/- Texts of mine, one behind the other: PageI, PageAw, HeadsW, PageJ, P15. -/
import Derived.Test.YtjfepmohoijalaaGreatMgF
import Derived.Test.YtjfepmohoijalaaGreatMgT
import Derived.Test.YtjfepmohoijalaaGreatP11
import Derived.Test.YtjfepmohoijalaaGreatMgM
section
/- Plain: what laying anew, Insert, Remove, Replace leave of the cells. No program in sight. -/
set_option linter.unusedVariables false
namespace Mun

/-- a good page in which the cells are those of another one -/
structure Like (p q : PBytes) : Prop where
  good : GoodP q
  cnt : cnt q = cnt p
  cell : ∀ j, j < Mun.cnt p → cellP q j = cellP p j
  size : ∀ j, j < Mun.cnt p → sSize q j = sSize p j
  head : win q 12 2 = win p 12 2
  tail : win q 18 8 = win p 18 8
theorem Like.free {p q : PBytes} (h : Like p q) : freeP q = freeP p := by
  unfold freeP
  rw [h.cnt, szs_congr h.size]
theorem Like.refl {p : PBytes} (h : GoodP p) : Like p p := ⟨h, rfl, fun _ _ => rfl, fun _ _ => rfl, rfl, rfl⟩
theorem Like.trans {p q r : PBytes} (h : Like p q) (k : Like q r) : Like p r :=
  ⟨k.good, k.cnt.trans h.cnt, fun j hj => (k.cell j (by rw [h.cnt]; exact hj)).trans (h.cell j hj), fun j hj => (k.size j (by rw [h.cnt]; exact hj)).trans (h.size j hj), k.head.trans h.head, k.tail.trans h.tail⟩

/-- a cell laid right below low -/
structure BelowF (q x : PBytes) (i : Nat) (c : PBytes) : Prop where
  len : x.length = 512
  low : lowP x = lowP q - c.length
  from_ : sFrom x i = lowP q - c.length
  size : sSize x i = c.length
  cell : win x (lowP q - c.length) c.length = c
  rest : ∀ a n, (a + n ≤ 16 ∨ 18 ≤ a ∧ a + n ≤ 26 + 4 * i ∨ 26 + 4 * i + 4 ≤ a ∧ a + n ≤ lowP q - c.length ∨ lowP q ≤ a ∧ a + n ≤ 512) → win x a n = win q a n
theorem BelowF.slot {q x : PBytes} {i : Nat} {c : PBytes} (h : BelowF q x i c) (j : Nat) (hj : j ≠ i) (hj2 : 26 + 4 * j + 4 ≤ lowP q - c.length) : sFrom x j = sFrom q j ∧ sSize x j = sSize q j := by
  refine ⟨gt_of_win (h.rest _ _ ?_), gt_of_win (h.rest _ _ ?_)⟩ <;> omega

/-- slots moved up -/
structure UpF (q u : PBytes) (i n m : Nat) : Prop where
  len : u.length = 512
  cnt : cnt u = m
  low : lowP u = lowP q
  lo : ∀ j, j < i → sFrom u j = sFrom q j ∧ sSize u j = sSize q j
  hi : ∀ j, i ≤ j → j < n → sFrom u (j + 1) = sFrom q j ∧ sSize u (j + 1) = sSize q j
  head : ∀ a k, a + k ≤ 14 ∨ 16 ≤ a ∧ a + k ≤ 26 → win u a k = win q a k
  rest : ∀ a k, 26 + 4 * (n + 1) ≤ a → win u a k = win q a k
/-- the place from which a cell has come -/
def preI (i j : Nat) : Nat := if j < i then j else j - 1

/-- a page with a cell more -/
structure InsF (p x : PBytes) (i : Nat) (c : PBytes) : Prop where
  good : GoodP x
  cnt : cnt x = cnt p + 1
  here : cellP x i = c
  sizeH : sSize x i = c.length
  cell : ∀ j, j < Mun.cnt p + 1 → j ≠ i → cellP x j = cellP p (preI i j)
  size : ∀ j, j < Mun.cnt p + 1 → j ≠ i → sSize x j = sSize p (preI i j)
  head : win x 12 2 = win p 12 2
  tail : win x 18 8 = win p 18 8

end Mun
end

section
/- awake of the laws on pages: a page with a cell. -/
set_option maxRecDepth 100000
set_option linter.unusedVariables false
set_option linter.unusedSimpArgs false
namespace Mun
open Go Go.RowKit
open Go.Proofs

theorem BytesOut.at_ {w w' : World} {c : PBytes} {e : Ending} (h : BytesOut w c e w') (n : Nat) (hn : c.length = n) : ∃ g, e = .returned (.tuple #[.slice (some ⟨g, 0, none⟩) n n, .int .i64 0]) ∧ w'.heap[g]? = some (bobj c) ∧ w.heap.size ≤ g ∧ Below w.heap.size w w' := by
  subst hn
  exact h
end Mun
end

section
/- The law PageHeads: the walk. -/
set_option maxRecDepth 100000
set_option linter.unusedVariables false
set_option linter.unusedSimpArgs false
namespace Mun
open Go Go.RowKit
open Go.Proofs

theorem Same.cells {p q : PBytes} (h : Same p q) (hg : GoodP p) : cellsP q (Mun.cnt q) = cellsP p (Mun.cnt p) := by
  rw [h.cnt]
  unfold cellsP
  apply List.map_congr_left
  intro i hi
  exact h.cell hg i (List.mem_range.1 hi)
structure HeadsP (p q s t : PBytes) (L X l : Nat) : Prop where
  gp : GoodP p
  gq : GoodP q
  gs : GoodP s
  gdt : GoodP t
  kind : gt s 12 1 = gt p 12 1
  lsn : gt s 4 8 = l
  link : gt s 18 4 = L
  extra : gt s 22 4 = X
  lsn2 : gt t 4 8 = l
  link2 : gt t 18 4 = 0
  extra2 : gt t 22 4 = 0
  cells : cellsP s (cnt s) = cellsP p (cnt p)
  chk : checkP s = 0
  eq : setP p L X = q
  es : sealP q l = s
  et : setP s 0 0 = t

end Mun
end

section
/- Plain: what Remove and Replace leave of the cells. No program in sight. -/
set_option linter.unusedVariables false
namespace Mun

/-- the place from which a cell has come, one taken out -/
def postI (i j : Nat) : Nat := if j < i then j else j + 1

/-- a page with a cell less -/
structure RemF (p x : PBytes) (i : Nat) : Prop where
  good : GoodP x
  cnt : cnt x = cnt p - 1
  cell : ∀ j, j < Mun.cnt p - 1 → cellP x j = cellP p (postI i j)
  size : ∀ j, j < Mun.cnt p - 1 → sSize x j = sSize p (postI i j)
  head : win x 12 2 = win p 12 2
  tail : win x 18 8 = win p 18 8

/-- a page with another cell in place of one -/
structure RepF (p x : PBytes) (i : Nat) (c : PBytes) : Prop where
  good : GoodP x
  cnt : cnt x = cnt p
  here : cellP x i = c
  sizeH : sSize x i = c.length
  cell : ∀ j, j < Mun.cnt p → j ≠ i → cellP x j = cellP p j
  size : ∀ j, j < Mun.cnt p → j ≠ i → sSize x j = sSize p j
  head : win x 12 2 = win p 12 2
  tail : win x 18 8 = win p 18 8

end Mun
end

section
/- Contract of Remove. -/
set_option maxRecDepth 100000
set_option linter.unusedVariables false
set_option linter.unusedSimpArgs false
namespace Mun
open Go Go.RowKit
open Go.Proofs

end Mun
end
