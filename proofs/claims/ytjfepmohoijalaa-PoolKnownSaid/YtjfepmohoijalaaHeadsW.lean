/- The law PageHeads: the walk. -/
import Derived.Test.YtjfepmohoijalaaPageAw
import Derived.Test.YtjfepmohoijalaaListsW
import Derived.Test.YtjfepmohoijalaaP10
import Derived.Test.YtjfepmohoijalaaP11
set_option maxRecDepth 100000
set_option linter.unusedVariables false
set_option linter.unusedSimpArgs false
namespace Mun
open Go Go.RowKit
open Go.Proofs

theorem Same.cells {p q : PBytes} (h : Same p q) (hg : GoodP p) : cellsP q (Mun.cnt q) = cellsP p (Mun.cnt p) := by
  rw [h.cnt]
  unfold cellsP
  apply List.map_congr_left
  intro i hi
  exact h.cell hg i (List.mem_range.1 hi)
theorem cells_small {p : PBytes} (hg : GoodP p) : ∀ c ∈ cellsP p (cnt p), c.length ≤ 512 := by
  intro c hc
  unfold cellsP at hc
  obtain ⟨i, hi, rfl⟩ := List.mem_map.1 hc
  unfold cellP
  rw [List.length_take, List.length_drop, hg.len]
  omega
theorem cells_max {p : PBytes} (hg : GoodP p) : ∀ c ∈ cellsP p (cnt p), c.length ≤ maxLen := fun c hc => Nat.le_trans (cells_small hg c hc) (by decide)

structure HeadsP (p q s t : PBytes) (L X l : Nat) : Prop where
  gp : GoodP p
  gq : GoodP q
  gs : GoodP s
  gdt : GoodP t
  kind : gt s 12 1 = gt p 12 1
  lsn : gt s 4 8 = l
  link : gt s 18 4 = L
  extra : gt s 22 4 = X
  lsn2 : gt t 4 8 = l
  link2 : gt t 18 4 = 0
  extra2 : gt t 22 4 = 0
  cells : cellsP s (cnt s) = cellsP p (cnt p)
  chk : checkP s = 0
  eq : setP p L X = q
  es : sealP q l = s
  et : setP s 0 0 = t

theorem heads_p {p : PBytes} (hg : GoodP p) (L X l : Nat) (hL : L < 4294967296) (hX : X < 4294967296) (hl : l < 18446744073709551616) : ∃ q s t, HeadsP p q s t L X l := by
  have h1 := set_same hg.len L X
  have g1 := h1.good hg
  have h2 := seal_same g1.len l
  have g2 := h2.good g1
  have h3 := set_same g2.len 0 0
  have g3 := h3.good g2
  refine ⟨_, _, _, hg, g1, g2, g3, ?_, gt_seal_lsn g1.len l hl, ?_, ?_, ?_, gt_set_link g2.len 0 0 (by decide), gt_set_extra g2.len 0 0 (by decide), (h1.trans h2).cells hg, check_seal g1 l, rfl, rfl, rfl⟩
  · rw [gt_seal g1.len l 12 1 (by omega), gt_set hg.len _ _ 12 1 (by omega)]
  · rw [gt_seal g1.len l 18 4 (by omega), gt_set_link hg.len _ _ hL]
  · rw [gt_seal g1.len l 22 4 (by omega), gt_set_extra hg.len _ _ hX]
  · rw [gt_set g2.len _ _ 4 8 (by omega), gt_seal_lsn g1.len l hl]

end Mun
