/-
  No cell of these rows narrows 'for every input' (looked for: loops, veiled, ifaces, maps, wideKeys, modest, calm, conditions, laid).
  DERIVED. THE GIVEN ROWS OF THIS SEAT. 4 by the template 'for every input the law returns true; each argument reads behind the call as it read before'; 0 by the template 'total and deterministic' (their statements: YtimlibdojkfilaaTotals.lean).
  GIVEN WITH THE SEED: the statements are not yours to turn. If you find one false, say at which input.
  Laid BY PROGRAM, IN A SANDBOX (cutbox-rows.mjs): the forced cells as the released guide's own fill.sh prints them over the translation 36ff72108b8f4f7e… (all of the seat's roots in one cut). By AI agents, Wed Nov 11 2026. No macro, syntax, notation, axiom, sorry.
-/
import Derived.Test.YtimlibdojkfilaaChecked
import GoSem.Claim
import GoSem.ClaimJoined
import GoSem.ClaimMapViews
import Derived.JoinedTies
import Derived.KernelRfl
namespace Go.Proofs.Ytimlibdojkfilaa
/- THE CELL 'sum', in the pinned program and in every row, IS THE sha256 OF THE DUMP (.gsa) THAT YtimlibdojkfilaaProg.lean LOADS. Nothing in Lean hashes anything: it is a label: what it is worth is what the hold of that sum in a sandbox is worth. -/
noncomputable def Try.pinned : Pinned := { name := "ytimlibdojkfilaa", sum := "36ff72108b8f4f7e7ab2c0c9606297e1d6496a8e08b5ddeecd82f01a4216a0e2", checked := Try.checked }
namespace Rows
def none {H : Type} : Left H := { results := [], args := [] }

/-- 'munimentlaw1.SumTells': WHATEVER THE INPUT: true; the input reads as it did. -/
def sumTellsSpec : ChangeSpec := { name := "sumTells", fn := fun _ => fun
  | [d1, d2, d3] => { results := [.lit (.bool true)], args := [d1, d2, d3] }
  | _ => none }
def sumTellsRow : OpenClaim := { program := "ytimlibdojkfilaa", sum := "36ff72108b8f4f7e7ab2c0c9606297e1d6496a8e08b5ddeecd82f01a4216a0e2", func := "muniment/munimentlaw1.SumTells", spec := "sumTells", apart := false }
def SumTellsSaid : Prop := sumTellsRow.holds Try.pinned (OpenSpec.ofChange sumTellsSpec)

/-- ITS FALSE NEIGHBOUR: 'it returns false'. Refute it at one input. -/
def sumTellsWrong : ChangeSpec := { name := "sumTells", fn := fun _ => fun
  | [d1, d2, d3] => { results := [.lit (.bool false)], args := [d1, d2, d3] }
  | _ => none }
def SumTellsWrongFalsely : Prop := sumTellsRow.holds Try.pinned (OpenSpec.ofChange sumTellsWrong)

/-- 'munimentlaw1.SumNumbers': WHATEVER THE INPUT: true; the input reads as it did. -/
def sumNumbersSpec : ChangeSpec := { name := "sumNumbers", fn := fun _ => fun
  | [d1, d2, d3, d4] => { results := [.lit (.bool true)], args := [d1, d2, d3, d4] }
  | _ => none }
def sumNumbersRow : OpenClaim := { program := "ytimlibdojkfilaa", sum := "36ff72108b8f4f7e7ab2c0c9606297e1d6496a8e08b5ddeecd82f01a4216a0e2", func := "muniment/munimentlaw1.SumNumbers", spec := "sumNumbers", apart := false }
def SumNumbersSaid : Prop := sumNumbersRow.holds Try.pinned (OpenSpec.ofChange sumNumbersSpec)

/-- ITS FALSE NEIGHBOUR: 'it returns false'. Refute it at one input. -/
def sumNumbersWrong : ChangeSpec := { name := "sumNumbers", fn := fun _ => fun
  | [d1, d2, d3, d4] => { results := [.lit (.bool false)], args := [d1, d2, d3, d4] }
  | _ => none }
def SumNumbersWrongFalsely : Prop := sumNumbersRow.holds Try.pinned (OpenSpec.ofChange sumNumbersWrong)

/-- 'munimentlaw1.SumKept': WHATEVER THE INPUT: true; the input reads as it did. -/
def sumKeptSpec : ChangeSpec := { name := "sumKept", fn := fun _ => fun
  | [d1, d2, d3, d4] => { results := [.lit (.bool true)], args := [d1, d2, d3, d4] }
  | _ => none }
def sumKeptRow : OpenClaim := { program := "ytimlibdojkfilaa", sum := "36ff72108b8f4f7e7ab2c0c9606297e1d6496a8e08b5ddeecd82f01a4216a0e2", func := "muniment/munimentlaw1.SumKept", spec := "sumKept", apart := false }
def SumKeptSaid : Prop := sumKeptRow.holds Try.pinned (OpenSpec.ofChange sumKeptSpec)

/-- ITS FALSE NEIGHBOUR: 'it returns false'. Refute it at one input. -/
def sumKeptWrong : ChangeSpec := { name := "sumKept", fn := fun _ => fun
  | [d1, d2, d3, d4] => { results := [.lit (.bool false)], args := [d1, d2, d3, d4] }
  | _ => none }
def SumKeptWrongFalsely : Prop := sumKeptRow.holds Try.pinned (OpenSpec.ofChange sumKeptWrong)

/-- 'munimentlaw1.SumKnown': WHATEVER THE INPUT: true; the input reads as it did. -/
def sumKnownSpec : ChangeSpec := { name := "sumKnown", fn := fun _ => fun
  | [] => { results := [.lit (.bool true)], args := [] }
  | _ => none }
def sumKnownRow : OpenClaim := { program := "ytimlibdojkfilaa", sum := "36ff72108b8f4f7e7ab2c0c9606297e1d6496a8e08b5ddeecd82f01a4216a0e2", func := "muniment/munimentlaw1.SumKnown", spec := "sumKnown", apart := false }
def SumKnownSaid : Prop := sumKnownRow.holds Try.pinned (OpenSpec.ofChange sumKnownSpec)

/-- ITS FALSE NEIGHBOUR: 'it returns false'. Refute it at one input. -/
def sumKnownWrong : ChangeSpec := { name := "sumKnown", fn := fun _ => fun
  | [] => { results := [.lit (.bool false)], args := [] }
  | _ => none }
def SumKnownWrongFalsely : Prop := sumKnownRow.holds Try.pinned (OpenSpec.ofChange sumKnownWrong)

/- THE SECOND FORM. 'bulk': how many values and letters a reading holds, each counted each time it is reached (what is shared counts as often as it is met; a slice's spare places count too). A statement '..UptoSaid' is the law's where the arguments, and the package variables that the reading takes, are together of bulk at most 1048576: NARROWER than '..Said'. Prove '..Said' where nothing that the law and all that it calls make is longer than what came in: it says more and counts as full. Else prove '..UptoSaid'. A law counts once. -/
mutual
def uptoBulk {H : Type} : DataW H → Nat
  | .lit (.string bytes) => bytes.length + 1
  | .lit _ => 1
  | .nil => 1
  | .ptr d => uptoBulk d + 1
  | .slice elems spare => uptoBulkAll elems + uptoBulkAll spare + 1
  | .agg parts => uptoBulkAll parts + 1
  | .iface _ d => uptoBulk d + 1
  | .map entries => uptoBulkEntries entries + 1
  | .held _ => 1
def uptoBulkAll {H : Type} : List (DataW H) → Nat
  | [] => 0
  | d :: r => uptoBulk d + uptoBulkAll r
def uptoBulkEntries {H : Type} : List (Lit × DataW H) → Nat
  | [] => 0
  | x :: r => uptoBulkEntry x + uptoBulkEntries r
def uptoBulkEntry {H : Type} : Lit × DataW H → Nat
  | (.string bytes, d) => bytes.length + uptoBulk d + 1
  | (_, d) => uptoBulk d + 1
 end
def uptoSmall : (H : Type) → List (DataW H) → Bool := fun _ ds => decide (uptoBulkAll ds ≤ 1048576)
def OpenSpec.upto (s : _root_.Go.ChangeSpec) : _root_.Go.OpenSpec := { _root_.Go.OpenSpec.ofChange s with cond := some uptoSmall }

/-- 'munimentlaw1.SumTells', WHERE WHAT IT READS IS OF BULK AT MOST 1048576: true; the input reads as it did. -/
def sumTellsUptoRow : OpenClaim := { program := "ytimlibdojkfilaa", sum := "36ff72108b8f4f7e7ab2c0c9606297e1d6496a8e08b5ddeecd82f01a4216a0e2", func := "muniment/munimentlaw1.SumTells", spec := "sumTells", apart := false, narrowed := true }
def SumTellsUptoSaid : Prop := sumTellsUptoRow.holds Try.pinned (OpenSpec.upto sumTellsSpec)

/-- 'munimentlaw1.SumNumbers', WHERE WHAT IT READS IS OF BULK AT MOST 1048576: true; the input reads as it did. -/
def sumNumbersUptoRow : OpenClaim := { program := "ytimlibdojkfilaa", sum := "36ff72108b8f4f7e7ab2c0c9606297e1d6496a8e08b5ddeecd82f01a4216a0e2", func := "muniment/munimentlaw1.SumNumbers", spec := "sumNumbers", apart := false, narrowed := true }
def SumNumbersUptoSaid : Prop := sumNumbersUptoRow.holds Try.pinned (OpenSpec.upto sumNumbersSpec)

/-- 'munimentlaw1.SumKept', WHERE WHAT IT READS IS OF BULK AT MOST 1048576: true; the input reads as it did. -/
def sumKeptUptoRow : OpenClaim := { program := "ytimlibdojkfilaa", sum := "36ff72108b8f4f7e7ab2c0c9606297e1d6496a8e08b5ddeecd82f01a4216a0e2", func := "muniment/munimentlaw1.SumKept", spec := "sumKept", apart := false, narrowed := true }
def SumKeptUptoSaid : Prop := sumKeptUptoRow.holds Try.pinned (OpenSpec.upto sumKeptSpec)

/-- 'munimentlaw1.SumKnown', WHERE WHAT IT READS IS OF BULK AT MOST 1048576: true; the input reads as it did. -/
def sumKnownUptoRow : OpenClaim := { program := "ytimlibdojkfilaa", sum := "36ff72108b8f4f7e7ab2c0c9606297e1d6496a8e08b5ddeecd82f01a4216a0e2", func := "muniment/munimentlaw1.SumKnown", spec := "sumKnown", apart := false, narrowed := true }
def SumKnownUptoSaid : Prop := sumKnownUptoRow.holds Try.pinned (OpenSpec.upto sumKnownSpec)

end Rows
end Go.Proofs.Ytimlibdojkfilaa
