/- WalBack's walk, whatever the record. -/
import Derived.Test.YtoblajbffnkkiaaBackW
import Derived.Test.YtoblajbffnkkiaaRecO
set_option maxRecDepth 100000
set_option linter.unusedVariables false
namespace Mun
open Go Go.RowKit
open Go.Proofs

theorem back_all (w : World) (r : PR) (x : RV) (lsn : Nat) (va vb : Value) (la lb : List UInt8) (bit : Int) (hls : lsn < 18446744073709551616) (hbit1 : -9223372036854775808 ≤ bit) (hbit2 : bit ≤ 9223372036854775807)
    (hr : RecAt NoF w r x) (ha : RdB NoF w va la) (hb : RdB NoF w vb lb) (hla : la.length ≤ 1048576) (hlb : lb.length ≤ 1048576) (hsz : szR r ≤ 4194304) :
    Calls Try.prog 3 #[rval r x, .int .u64 lsn, va, vb, .int .i64 bit] w fun e w' => e = .returned (.bool true) ∧ Below w.heap.size w w' := by
  cases hg : goodR r with
  | false => exact back_no (F := NoF) w r x lsn va vb la lb bit 1 rfl hr ha hb (fun W hW => bytes_no W r x lsn (hr.below hW) hg)
  | true =>
    by_cases hbig : (bodyR r).length ≤ 1048576
    · exact back_ok w r x lsn va vb la lb bit hls hbit1 hbit2 hr ha hb hla hlb ⟨hg, hbig, hr.tx, hr.prev, hr.next⟩ hsz
    · exact back_no (F := NoF) w r x lsn va vb la lb bit 2 rfl hr ha hb (fun W hW => bytes_big W r x lsn (hr.below hW) hg hsz (by omega))

section
variable {H : Type} {enc : TypeId × Value → H}
theorem open_rec {w : World} {rc : Reach} {b0 base : Nat} {spare : Nat → Bool} {held : Bool} {v : Value} {d : DataW H} {p : List MemPlace}
    (hv : Value.okWide Try.prog w rc b0 26 v) (h : DataW.Trod enc Try.prog w base spare held 26 v d p) :
    ∃ r y, v = rval r y ∧ RecAt NoF w r y ∧ szR r ≤ 3 * Go.Proofs.Ytoblajbffnkkiaa.Rows.uptoBulk d ∧ -9223372036854775808 ≤ r.kind ∧ r.kind ≤ 9223372036854775807 := by
  obtain ⟨cs, rfl, _⟩ := Go.WideShapes.okWide_struct Try.underlying26 hv
  obtain ⟨fuel, hf⟩ := h
  obtain ⟨r, y, hc, h1, h2, h3, h4⟩ := open_rec6 hf
  refine ⟨r, y, ?_, h1, h2, h3, h4⟩
  have hc' : cs.toList = rcl r y := hc
  have : cs = (rcl r y).toArray := by rw [← hc']
  rw [this]; rfl

theorem open_bytes_b {w : World} {rc : Reach} {b0 base : Nat} {spare : Nat → Bool} {held : Bool} {v : Value} {d : DataW H} {p : List MemPlace}
    (hv : Value.okWide Try.prog w rc b0 23 v) (h : DataW.Trod enc Try.prog w base spare held 23 v d p) :
    ∃ l : List UInt8, RdB NoF w v l ∧ l.length ≤ Go.Proofs.Ytoblajbffnkkiaa.Rows.uptoBulk d := by
  obtain ⟨a0, len0, cap0, rfl⟩ := Go.WideShapes.okWide_slice Try.underlying23 hv
  obtain ⟨fuel, hf⟩ := h
  exact open_bytes_cell (v := .slice a0 len0 cap0) hf
end
end Mun
