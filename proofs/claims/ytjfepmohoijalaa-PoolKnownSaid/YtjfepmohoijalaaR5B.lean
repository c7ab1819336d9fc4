/- Contracts of munimentref5: Copy, Free, New, Set. -/
import Derived.Test.YtjfepmohoijalaaR5A
set_option maxRecDepth 100000
set_option linter.unusedVariables false
set_option linter.unusedSimpArgs false
namespace Mun
open Go Go.RowKit
open Go.Proofs

/-- a page of the call's own is told -/
def PwOut (w : World) (p : PBytes) (e : Ending) (w' : World) : Prop := ∃ g cap, e = .returned (.slice (some ⟨g, 0, none⟩) 512 cap) ∧ Pw w.heap.size w' g 512 cap p ∧ Below w.heap.size w w'

theorem pt_len (p : PBytes) (a n x : Nat) (m : Nat) (hm : p.length = m) (h : a + n ≤ m) : (pt p a n x).length = m := by rw [pt_length _ _ _ _ (by omega)]; exact hm

end Mun
