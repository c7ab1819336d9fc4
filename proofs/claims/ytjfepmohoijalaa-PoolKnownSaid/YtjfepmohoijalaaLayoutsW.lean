/- The law PageLayouts: the walk. -/
import Derived.Test.YtjfepmohoijalaaHeadsW
import Derived.Test.YtjfepmohoijalaaKnownPW
import Derived.Test.YtjfepmohoijalaaPageT
import Derived.Test.YtjfepmohoijalaaBits
set_option maxRecDepth 100000
set_option linter.unusedVariables false
set_option linter.unusedSimpArgs false
namespace Mun
open Go Go.RowKit
open Go.Proofs

theorem Like.cells {p q : PBytes} (h : Like p q) : cellsP q (Mun.cnt q) = cellsP p (Mun.cnt p) := by
  rw [h.cnt]
  unfold cellsP
  apply List.map_congr_left
  intro i hi
  exact h.cell i (List.mem_range.1 hi)

structure LayP (p q : PBytes) (m : Nat) (f : Int) : Prop where
  gp : GoodP p
  gq : GoodP q
  ap : AnewOk p
  aq : AnewOk q
  eq : anewP p = q
  er : anewP q = q
  cells : cellsP q (cnt q) = cellsP p (cnt p)
  fp : freeP p = f
  fq : freeP q = f
  cp : cnt p = m
  cq : cnt q = m
  room : (lowP q : Int) = 26 + 4 * (m : Int) + f

theorem lay_p {p : PBytes} (hg : GoodP p) : ∃ q m f, LayP p q m f := by
  have hl := anew_like hg
  have hr := anew_room hg
  refine ⟨_, _, _, hg, hl.good, good_anewOk hg, good_anewOk hl.good, rfl, anew_twice hg, hl.cells, rfl, hl.free, rfl, hl.cnt, ?_⟩
  rw [hl.free, hl.cnt] at hr
  exact hr

end Mun
