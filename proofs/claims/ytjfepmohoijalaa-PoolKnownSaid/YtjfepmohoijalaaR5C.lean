/- Contract of munimentref5.Good. -/
import Derived.Test.YtjfepmohoijalaaR5A
import Derived.Test.YtjfepmohoijalaaMgF
set_option maxRecDepth 100000
set_option linter.unusedVariables false
set_option linter.unusedSimpArgs false
namespace Mun
open Go Go.RowKit
open Go.Proofs

theorem info_bool : (Try.prog.info? 4).map (fun i => (i.zero, i.size, i.bytes)) = some (some (.bool false), 1, 1) := by kernel_rfl
@[irreducible] def tkb0 : Array Value := tkA (List.replicate 512 false)
theorem tkb0_eq : tkb0 = tkA (List.replicate 512 false) := by unfold tkb0; rfl
theorem madeCells_bool (n : Nat) : madeCells #[Value.bool false] n = tkA (List.replicate n false) := by
  apply Array.ext_getElem?
  intro i
  by_cases h : i < n
  · simp [madeCells, tkA, h, Nat.mod_one]
  · simp [madeCells, tkA, h]
structure GdS (w0 wr : World) (T : Nat) (l : List Bool) : Prop where
  bl : Below w0.heap.size w0 wr
  tk : wr.heap[T]? = some (.cells (tkA l) 4 (0, 0))
  len : l.length = 512
  hT : w0.heap.size ≤ T
theorem GdS.cell {w0 wr : World} {T : Nat} {l : List Bool} (h : GdS w0 wr T l) (k : Nat) (hk : k < l.length) : wr.cell? ⟨T, k, none⟩ = some (.bool l[k]) := by
  rw [cell_of_row wr T k _ _ _ h.tk, tkA_get l k hk]
theorem GdS.frozen {w0 wr : World} {T : Nat} {l : List Bool} (h : GdS w0 wr T l) (k : Nat) : wr.frozen? ⟨T, k, none⟩ = false := by simp [World.frozen?, h.tk]
theorem GdS.set {w0 wr : World} {T : Nat} {l : List Bool} (h : GdS w0 wr T l) (k : Nat) (hk : k < l.length) : GdS w0 (wr.setCell ⟨T, k, none⟩ (.bool true)) T (l.set k true) := by
  refine ⟨h.bl.setCell h.hT _, ?_, by rw [List.length_set]; exact h.len, h.hT⟩
  have h1 := h.tk
  have : (tkA l).setIfInBounds k (.bool true) = tkA (l.set k true) := by simp [tkA, List.map_set]
  rw [← this]
  simp [World.setCell, Array.getElem?_modify, h1]

end Mun
