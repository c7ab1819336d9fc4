/- A law's argument of type api.Rec or []byte, opened. -/
import Derived.Test.YtoblajbffnkkiaaRecO
set_option maxRecDepth 100000
set_option linter.unusedVariables false
namespace Mun
open Go Go.RowKit
open Go.Proofs

section
variable {H : Type} {enc : TypeId × Value → H}
theorem open_rec {w : World} {rc : Reach} {b0 base : Nat} {spare : Nat → Bool} {held : Bool} {v : Value} {d : DataW H} {p : List MemPlace}
    (hv : Value.okWide Try.prog w rc b0 26 v) (h : DataW.Trod enc Try.prog w base spare held 26 v d p) :
    ∃ r y, v = rval r y ∧ RecAt NoF w r y ∧ szR r ≤ 3 * Go.Proofs.Ytoblajbffnkkiaa.Rows.uptoBulk d ∧ -9223372036854775808 ≤ r.kind ∧ r.kind ≤ 9223372036854775807 := by
  obtain ⟨cs, rfl, _⟩ := Go.WideShapes.okWide_struct Try.underlying26 hv
  obtain ⟨fuel, hf⟩ := h
  obtain ⟨r, y, hc, h1, h2, h3, h4⟩ := open_rec6 hf
  refine ⟨r, y, ?_, h1, h2, h3, h4⟩
  have hc' : cs.toList = rcl r y := hc
  have : cs = (rcl r y).toArray := by rw [← hc']
  rw [this]; rfl

theorem open_bytes_b {w : World} {rc : Reach} {b0 base : Nat} {spare : Nat → Bool} {held : Bool} {v : Value} {d : DataW H} {p : List MemPlace}
    (hv : Value.okWide Try.prog w rc b0 23 v) (h : DataW.Trod enc Try.prog w base spare held 23 v d p) :
    ∃ l : List UInt8, RdB NoF w v l ∧ l.length ≤ Go.Proofs.Ytoblajbffnkkiaa.Rows.uptoBulk d := by
  obtain ⟨a0, len0, cap0, rfl⟩ := Go.WideShapes.okWide_slice Try.underlying23 hv
  obtain ⟨fuel, hf⟩ := h
  exact open_bytes_cell (v := .slice a0 len0 cap0) hf
end
end Mun
