/- Contracts of munimentref5.Lists, Low. -/
import Derived.Test.YtjfepmohoijalaaRowB
import Derived.Test.YtjfepmohoijalaaP13
set_option maxRecDepth 100000
set_option linter.unusedVariables false
set_option linter.unusedSimpArgs false
namespace Mun
open Go Go.RowKit
open Go.Proofs

theorem ListsAt.form {F : Foot} {w : World} {v : Value} {cs : List (List UInt8)} {vs : List Value} (h : ListsAt F w v cs vs) : ∃ a n c, v = .slice a n c ∧ Hid (n = cs.length) ∧ n ≤ c ∧ c ≤ maxLen := by
  obtain ⟨a, c, h1, h2, h3⟩ := h.row.form
  exact ⟨a, _, c, h1, rfl, h2, h3⟩

theorem ListsAt.cellAt {F : Foot} {w : World} {v : Value} {cs : List (List UInt8)} {vs : List Value} (h : ListsAt F w v cs vs) (i : Nat) (hi : i < cs.length) :
    ∃ g off c a n c2, v = .slice (some ⟨g, off, none⟩) cs.length c ∧ w.cell? ⟨g, off + i, none⟩ = some (.slice a n c2) ∧ RdB F w (.slice a n c2) cs[i] ∧ cs.length ≤ c ∧ c ≤ maxLen := by
  obtain ⟨g, off, c, hv, h1, h2, h3, h4, h5⟩ := RdV.at_ h.row (by omega)
  obtain ⟨u, hu1, hu2⟩ := h.rd i hi
  obtain ⟨a, c2, rfl, -, -⟩ := hu2.form
  exact ⟨g, off, c, a, _, c2, hv, h5 i _ hu1, hu2, h1, h2⟩

/-- cells of a call's own, as rows that read -/
theorem CellsAt.lists {B : Nat} {w : World} {v : Value} {cs : List PBytes} {gs : List Nat} (h : CellsAt B w v cs gs) (hm : ∀ c ∈ cs, c.length ≤ maxLen) : ListsAt NoF w v cs (List.zipWith cval gs cs) := by
  have hzl : (List.zipWith cval gs cs).length = cs.length := by rw [List.length_zipWith, h.len, Nat.min_self]
  have hr := h.row
  unfold OwnV at hr
  rw [hzl] at hr
  refine ⟨RdV.of_own hr (fun _ _ => noF _), fun i hi => ?_⟩
  obtain ⟨g, h1, h2⟩ := h.blk i hi
  refine ⟨cval g cs[i], ?_, ?_⟩
  · rw [List.getElem?_zipWith, h1, List.getElem?_eq_getElem hi]
  · have hc := hm cs[i] (List.getElem_mem hi)
    refine ⟨by simp [bv], some ⟨g, 0, none⟩, cs[i].length, rfl, Nat.le_refl _, hc, by simp, fun _ => ⟨g, 0, _, _, _, rfl, noF _, h2, ?_⟩⟩
    simp only [List.drop_zero]
    rw [List.take_of_length_le (by simp [bv])]

end Mun
