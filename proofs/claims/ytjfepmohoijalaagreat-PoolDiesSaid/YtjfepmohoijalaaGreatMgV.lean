/- Texts of mine, one behind the other: KnownPW, PageT, LayoutsW, ListPl, P16. -/
import Derived.Test.YtjfepmohoijalaaGreatMgU
import Derived.Test.YtjfepmohoijalaaGreatP11
import Derived.Test.YtjfepmohoijalaaGreatMgF
import Derived.Test.YtjfepmohoijalaaGreatMgN
import Derived.Test.YtjfepmohoijalaaGreatMgM
section
/- The law PageKnown: the walk. -/
set_option maxRecDepth 100000
set_option linter.unusedVariables false
set_option linter.unusedSimpArgs false
namespace Mun
open Go Go.RowKit
open Go.Proofs

/-- pages that lie there -/
def Pgs (w : World) (L : List (Nat × PBytes)) : Prop := ∀ x ∈ L, PgAt w x.1 x.2
theorem Pgs.below {w w' : World} {L : List (Nat × PBytes)} (h : Pgs w L) (hb : Below w.heap.size w w') : Pgs w' L := fun x hx => (h x hx).below hb
theorem Pgs.nil (w : World) : Pgs w [] := fun x hx => by simp at hx
theorem Pgs.cons {w : World} {L : List (Nat × PBytes)} {g : Nat} {p : PBytes} (h : PgAt w g p) (hl : Pgs w L) : Pgs w ((g, p) :: L) := by
  intro x hx
  rcases List.mem_cons.1 hx with rfl | hx
  · exact h
  · exact hl x hx

structure KnownP (a b c d t : PBytes) : Prop where
  ga : GoodP a
  gb : GoodP b
  gc : GoodP c
  gd : GoodP d
  gt : GoodP t
  ca : cnt a = 1
  cb : cnt b = 2
  cc : cnt c = 1
  fa : freeP a = 480
  fc : freeP c = 480
  ft : freeP t = 472
  lb : lowP b = 509
  lc : lowP c = 509
  ld : lowP d = 34
  eb : insP a 0 [99] = b
  ec : remP b 0 = c
  ed : insP c 1 (zer 476) = d
  et : insP (newP 1) 0 (zer 10) = t
  ea : insP (newP 1) 0 [97, 98] = a

end Mun
end

section
/- Plain: laid out anew twice is once; what goes in behind moves nothing. No program in sight. -/
set_option linter.unusedVariables false
namespace Mun

end Mun
end

section
/- The law PageLayouts: the walk. -/
set_option maxRecDepth 100000
set_option linter.unusedVariables false
set_option linter.unusedSimpArgs false
namespace Mun
open Go Go.RowKit
open Go.Proofs

theorem Like.cells {p q : PBytes} (h : Like p q) : cellsP q (Mun.cnt q) = cellsP p (Mun.cnt p) := by
  rw [h.cnt]
  unfold cellsP
  apply List.map_congr_left
  intro i hi
  exact h.cell i (List.mem_range.1 hi)

structure LayP (p q : PBytes) (m : Nat) (f : Int) : Prop where
  gp : GoodP p
  gq : GoodP q
  ap : AnewOk p
  aq : AnewOk q
  eq : anewP p = q
  er : anewP q = q
  cells : cellsP q (cnt q) = cellsP p (cnt p)
  fp : freeP p = f
  fq : freeP q = f
  cp : cnt p = m
  cq : cnt q = m
  room : (lowP q : Int) = 26 + 4 * (m : Int) + f

end Mun
end

section
/- Plain: a page as a list of cells. -/
set_option linter.unusedVariables false
namespace Mun

/-- what cells leave of a page -/
def lft : List PBytes → Int
  | [] => 486
  | c :: l => lft l - 4 - c.length
end Mun
end

section
/- Contract of Replace. -/
set_option maxRecDepth 100000
set_option linter.unusedVariables false
set_option linter.unusedSimpArgs false
namespace Mun
open Go Go.RowKit
open Go.Proofs

end Mun
end
