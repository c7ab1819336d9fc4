/- awake of the laws on pages: a page with a cell. -/
import Derived.Test.YtjfepmohoijalaaP14
import Derived.Test.YtjfepmohoijalaaPageI
set_option maxRecDepth 100000
set_option linter.unusedVariables false
set_option linter.unusedSimpArgs false
namespace Mun
open Go Go.RowKit
open Go.Proofs

theorem BytesOut.at_ {w w' : World} {c : PBytes} {e : Ending} (h : BytesOut w c e w') (n : Nat) (hn : c.length = n) : ∃ g, e = .returned (.tuple #[.slice (some ⟨g, 0, none⟩) n n, .int .i64 0]) ∧ w'.heap[g]? = some (bobj c) ∧ w.heap.size ≤ g ∧ Below w.heap.size w w' := by
  subst hn
  exact h
theorem bobj_rdAt {F : Foot} {w : World} {g : Nat} {c : PBytes} (h : w.heap[g]? = some (bobj c)) (n : Nat) (hn : c.length = n) (hm : n ≤ maxLen) (hF : ¬ F g) : RdB F w (.slice (some ⟨g, 0, none⟩) n n) c := by
  subst hn
  refine ⟨by simp [bv], some ⟨g, 0, none⟩, c.length, rfl, Nat.le_refl _, hm, by simp, fun _ => ⟨g, 0, _, _, _, rfl, hF, h, ?_⟩⟩
  simp only [List.drop_zero]
  rw [List.take_of_length_le (by simp [bv])]

end Mun
