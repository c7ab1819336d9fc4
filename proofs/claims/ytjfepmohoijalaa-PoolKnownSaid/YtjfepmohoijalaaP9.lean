/- Contracts of New, Count, Free, clone, Compact, Set, Seal. -/
import Derived.Test.YtjfepmohoijalaaMgF
set_option maxRecDepth 100000
set_option linter.unusedVariables false
set_option linter.unusedSimpArgs false
namespace Mun
open Go Go.RowKit
open Go.Proofs

/-- a page is told, in new memory -/
def PageOut (w : World) (p : PBytes) (e : Ending) (w' : World) : Prop := ∃ g, e = .returned (.tuple #[.slice (some ⟨g, 0, none⟩) 512 512, .int .i64 0]) ∧ PgAt w' g p ∧ w.heap.size ≤ g ∧ Below w.heap.size w w'
def PageNo (w : World) (k : Int) (e : Ending) (w' : World) : Prop := e = .returned (.tuple #[.slice none 0 0, .int .i64 k]) ∧ Below w.heap.size w w'

theorem Bx.fin {w w2 w' : World} {b g : Nat} {p : PBytes} (h : Bx w2 w' b g p) (hB : Below w.heap.size w w2) (hg : w.heap.size ≤ g) : Below w.heap.size w w' :=
  hB.trans (h.chg.below hB.size (fun k hk hk2 => by have : k = g := hk2; omega))

theorem PgAt.rdPart {F : Foot} {w : World} {g : Nat} {p : PBytes} (h : PgAt w g p) (hF : ¬ F g) (lo hi : Nat) (h1 : lo ≤ hi) (h2 : hi ≤ 512) (h3 : lo < 512) : RdB F w (.slice (some ⟨g, lo, none⟩) (hi - lo) (512 - lo)) ((p.drop lo).take (hi - lo)) := by
  have := RdB.part (h.rd hF) lo hi h1 (by rw [h.2]; exact h2)
  rw [if_neg (by omega)] at this
  simpa [addr_add] using this
theorem PgAt.rdFrom {F : Foot} {w : World} {g : Nat} {p : PBytes} (h : PgAt w g p) (hF : ¬ F g) (lo : Nat) (h3 : lo < 512) : RdB F w (.slice (some ⟨g, lo, none⟩) (512 - lo) (512 - lo)) (p.drop lo) := by
  have := h.rdPart hF lo 512 (by omega) (Nat.le_refl _) h3
  rw [List.take_of_length_le (by rw [List.length_drop, h.2]; exact Nat.le_refl _)] at this
  exact this

section
variable {F : Foot} (w : World) (v : Value) (p : List UInt8)

end

theorem PgAt.set {w : World} {g : Nat} {p : PBytes} (h : PgAt w g p) (i : Nat) (b : UInt8) (x : Int) (hx : x = b.toNat) : PgAt (w.setCell ⟨g, i, none⟩ (.int .u8 x)) g (p.set i b) := by
  subst hx
  refine ⟨?_, by rw [List.length_set]; exact h.2⟩
  have h1 := h.1
  simp [World.setCell, Array.getElem?_modify, h1, bobj, bv, List.map_set]

end Mun
