/-
  No cell of these rows narrows 'for every input' (looked for: loops, veiled, ifaces, maps, wideKeys, modest, calm, conditions, laid).
  DERIVED. THE GIVEN ROWS OF THIS SEAT. 6 by the template 'for every input the law returns true; each argument reads behind the call as it read before'; 0 by the template 'total and deterministic' (their statements: YtoblajbffnkkiaaTotals.lean).
  GIVEN WITH THE SEED: the statements are not yours to turn. If you find one false, say at which input.
  Laid BY PROGRAM, IN A SANDBOX (cutbox-rows.mjs): the forced cells as the released guide's own fill.sh prints them over the translation 84fc47878581fe30… (all of the seat's roots in one cut). By AI agents, Wed Nov 11 2026. No macro, syntax, notation, axiom, sorry.
-/
import Derived.Test.YtoblajbffnkkiaaChecked
import GoSem.Claim
import GoSem.ClaimJoined
import GoSem.ClaimMapViews
import Derived.JoinedTies
import Derived.KernelRfl
namespace Go.Proofs.Ytoblajbffnkkiaa
/- THE CELL 'sum', in the pinned program and in every row, IS THE sha256 OF THE DUMP (.gsa) THAT YtoblajbffnkkiaaProg.lean LOADS. Nothing in Lean hashes anything: it is a label: what it is worth is what the hold of that sum in a sandbox is worth. -/
noncomputable def Try.pinned : Pinned := { name := "ytoblajbffnkkiaa", sum := "84fc47878581fe30171aa7831d1d790402ff3e970ef0a779816ca1a27eae095f", checked := Try.checked }
namespace Rows
def none {H : Type} : Left H := { results := [], args := [] }

/-- 'munimentlaw7.WalBack': WHATEVER THE INPUT: true; the input reads as it did. -/
def walBackSpec : ChangeSpec := { name := "walBack", fn := fun _ => fun
  | [d1, d2, d3, d4, d5] => { results := [.lit (.bool true)], args := [d1, d2, d3, d4, d5] }
  | _ => none }
def walBackRow : OpenClaim := { program := "ytoblajbffnkkiaa", sum := "84fc47878581fe30171aa7831d1d790402ff3e970ef0a779816ca1a27eae095f", func := "muniment/munimentlaw7.WalBack", spec := "walBack", unfollowed := true, recurses := true, apart := false }
def WalBackSaid : Prop := walBackRow.holds Try.pinned (OpenSpec.ofChange walBackSpec)

/-- ITS FALSE NEIGHBOUR: 'it returns false'. Refute it at one input. -/
def walBackWrong : ChangeSpec := { name := "walBack", fn := fun _ => fun
  | [d1, d2, d3, d4, d5] => { results := [.lit (.bool false)], args := [d1, d2, d3, d4, d5] }
  | _ => none }
def WalBackWrongFalsely : Prop := walBackRow.holds Try.pinned (OpenSpec.ofChange walBackWrong)

/-- 'munimentlaw7.WalKnown': WHATEVER THE INPUT: true; the input reads as it did. -/
def walKnownSpec : ChangeSpec := { name := "walKnown", fn := fun _ => fun
  | [] => { results := [.lit (.bool true)], args := [] }
  | _ => none }
def walKnownRow : OpenClaim := { program := "ytoblajbffnkkiaa", sum := "84fc47878581fe30171aa7831d1d790402ff3e970ef0a779816ca1a27eae095f", func := "muniment/munimentlaw7.WalKnown", spec := "walKnown", unfollowed := true, recurses := true, apart := false }
def WalKnownSaid : Prop := walKnownRow.holds Try.pinned (OpenSpec.ofChange walKnownSpec)

/-- ITS FALSE NEIGHBOUR: 'it returns false'. Refute it at one input. -/
def walKnownWrong : ChangeSpec := { name := "walKnown", fn := fun _ => fun
  | [] => { results := [.lit (.bool false)], args := [] }
  | _ => none }
def WalKnownWrongFalsely : Prop := walKnownRow.holds Try.pinned (OpenSpec.ofChange walKnownWrong)

/-- 'munimentlaw7.WalDies': WHATEVER THE INPUT: true; the input reads as it did. -/
def walDiesSpec : ChangeSpec := { name := "walDies", fn := fun _ => fun
  | [d1, d2, d3] => { results := [.lit (.bool true)], args := [d1, d2, d3] }
  | _ => none }
def walDiesRow : OpenClaim := { program := "ytoblajbffnkkiaa", sum := "84fc47878581fe30171aa7831d1d790402ff3e970ef0a779816ca1a27eae095f", func := "muniment/munimentlaw7.WalDies", spec := "walDies", unfollowed := true, recurses := true, apart := false }
def WalDiesSaid : Prop := walDiesRow.holds Try.pinned (OpenSpec.ofChange walDiesSpec)

/-- ITS FALSE NEIGHBOUR: 'it returns false'. Refute it at one input. -/
def walDiesWrong : ChangeSpec := { name := "walDies", fn := fun _ => fun
  | [d1, d2, d3] => { results := [.lit (.bool false)], args := [d1, d2, d3] }
  | _ => none }
def WalDiesWrongFalsely : Prop := walDiesRow.holds Try.pinned (OpenSpec.ofChange walDiesWrong)

/-- 'munimentlaw7.WalFull': WHATEVER THE INPUT: true; the input reads as it did. -/
def walFullSpec : ChangeSpec := { name := "walFull", fn := fun _ => fun
  | [d1, d2] => { results := [.lit (.bool true)], args := [d1, d2] }
  | _ => none }
def walFullRow : OpenClaim := { program := "ytoblajbffnkkiaa", sum := "84fc47878581fe30171aa7831d1d790402ff3e970ef0a779816ca1a27eae095f", func := "muniment/munimentlaw7.WalFull", spec := "walFull", unfollowed := true, recurses := true, apart := false }
def WalFullSaid : Prop := walFullRow.holds Try.pinned (OpenSpec.ofChange walFullSpec)

/-- ITS FALSE NEIGHBOUR: 'it returns false'. Refute it at one input. -/
def walFullWrong : ChangeSpec := { name := "walFull", fn := fun _ => fun
  | [d1, d2] => { results := [.lit (.bool false)], args := [d1, d2] }
  | _ => none }
def WalFullWrongFalsely : Prop := walFullRow.holds Try.pinned (OpenSpec.ofChange walFullWrong)

/-- 'munimentlaw7.WalCuts': WHATEVER THE INPUT: true; the input reads as it did. -/
def walCutsSpec : ChangeSpec := { name := "walCuts", fn := fun _ => fun
  | [d1, d2, d3, d4] => { results := [.lit (.bool true)], args := [d1, d2, d3, d4] }
  | _ => none }
def walCutsRow : OpenClaim := { program := "ytoblajbffnkkiaa", sum := "84fc47878581fe30171aa7831d1d790402ff3e970ef0a779816ca1a27eae095f", func := "muniment/munimentlaw7.WalCuts", spec := "walCuts", unfollowed := true, recurses := true, apart := false }
def WalCutsSaid : Prop := walCutsRow.holds Try.pinned (OpenSpec.ofChange walCutsSpec)

/-- ITS FALSE NEIGHBOUR: 'it returns false'. Refute it at one input. -/
def walCutsWrong : ChangeSpec := { name := "walCuts", fn := fun _ => fun
  | [d1, d2, d3, d4] => { results := [.lit (.bool false)], args := [d1, d2, d3, d4] }
  | _ => none }
def WalCutsWrongFalsely : Prop := walCutsRow.holds Try.pinned (OpenSpec.ofChange walCutsWrong)

/-- 'munimentlaw7.WalPlays': WHATEVER THE INPUT: true; the input reads as it did. -/
def walPlaysSpec : ChangeSpec := { name := "walPlays", fn := fun _ => fun
  | [d1, d2] => { results := [.lit (.bool true)], args := [d1, d2] }
  | _ => none }
def walPlaysRow : OpenClaim := { program := "ytoblajbffnkkiaa", sum := "84fc47878581fe30171aa7831d1d790402ff3e970ef0a779816ca1a27eae095f", func := "muniment/munimentlaw7.WalPlays", spec := "walPlays", unfollowed := true, recurses := true, apart := false }
def WalPlaysSaid : Prop := walPlaysRow.holds Try.pinned (OpenSpec.ofChange walPlaysSpec)

/-- ITS FALSE NEIGHBOUR: 'it returns false'. Refute it at one input. -/
def walPlaysWrong : ChangeSpec := { name := "walPlays", fn := fun _ => fun
  | [d1, d2] => { results := [.lit (.bool false)], args := [d1, d2] }
  | _ => none }
def WalPlaysWrongFalsely : Prop := walPlaysRow.holds Try.pinned (OpenSpec.ofChange walPlaysWrong)

/- THE SECOND FORM. 'bulk': how many values and letters a reading holds, each counted each time it is reached (what is shared counts as often as it is met; a slice's spare places count too). A statement '..UptoSaid' is the law's where the arguments, and the package variables that the reading takes, are together of bulk at most 1048576: NARROWER than '..Said'. Prove '..Said' where nothing that the law and all that it calls make is longer than what came in: it says more and counts as full. Else prove '..UptoSaid'. A law counts once. -/
mutual
def uptoBulk {H : Type} : DataW H → Nat
  | .lit (.string bytes) => bytes.length + 1
  | .lit _ => 1
  | .nil => 1
  | .ptr d => uptoBulk d + 1
  | .slice elems spare => uptoBulkAll elems + uptoBulkAll spare + 1
  | .agg parts => uptoBulkAll parts + 1
  | .iface _ d => uptoBulk d + 1
  | .map entries => uptoBulkEntries entries + 1
  | .held _ => 1
def uptoBulkAll {H : Type} : List (DataW H) → Nat
  | [] => 0
  | d :: r => uptoBulk d + uptoBulkAll r
def uptoBulkEntries {H : Type} : List (Lit × DataW H) → Nat
  | [] => 0
  | x :: r => uptoBulkEntry x + uptoBulkEntries r
def uptoBulkEntry {H : Type} : Lit × DataW H → Nat
  | (.string bytes, d) => bytes.length + uptoBulk d + 1
  | (_, d) => uptoBulk d + 1
 end
def uptoSmall : (H : Type) → List (DataW H) → Bool := fun _ ds => decide (uptoBulkAll ds ≤ 1048576)
def OpenSpec.upto (s : _root_.Go.ChangeSpec) : _root_.Go.OpenSpec := { _root_.Go.OpenSpec.ofChange s with cond := some uptoSmall }

/-- 'munimentlaw7.WalBack', WHERE WHAT IT READS IS OF BULK AT MOST 1048576: true; the input reads as it did. -/
def walBackUptoRow : OpenClaim := { program := "ytoblajbffnkkiaa", sum := "84fc47878581fe30171aa7831d1d790402ff3e970ef0a779816ca1a27eae095f", func := "muniment/munimentlaw7.WalBack", spec := "walBack", unfollowed := true, recurses := true, apart := false, narrowed := true }
def WalBackUptoSaid : Prop := walBackUptoRow.holds Try.pinned (OpenSpec.upto walBackSpec)

/-- 'munimentlaw7.WalKnown', WHERE WHAT IT READS IS OF BULK AT MOST 1048576: true; the input reads as it did. -/
def walKnownUptoRow : OpenClaim := { program := "ytoblajbffnkkiaa", sum := "84fc47878581fe30171aa7831d1d790402ff3e970ef0a779816ca1a27eae095f", func := "muniment/munimentlaw7.WalKnown", spec := "walKnown", unfollowed := true, recurses := true, apart := false, narrowed := true }
def WalKnownUptoSaid : Prop := walKnownUptoRow.holds Try.pinned (OpenSpec.upto walKnownSpec)

/-- 'munimentlaw7.WalDies', WHERE WHAT IT READS IS OF BULK AT MOST 1048576: true; the input reads as it did. -/
def walDiesUptoRow : OpenClaim := { program := "ytoblajbffnkkiaa", sum := "84fc47878581fe30171aa7831d1d790402ff3e970ef0a779816ca1a27eae095f", func := "muniment/munimentlaw7.WalDies", spec := "walDies", unfollowed := true, recurses := true, apart := false, narrowed := true }
def WalDiesUptoSaid : Prop := walDiesUptoRow.holds Try.pinned (OpenSpec.upto walDiesSpec)

/-- 'munimentlaw7.WalFull', WHERE WHAT IT READS IS OF BULK AT MOST 1048576: true; the input reads as it did. -/
def walFullUptoRow : OpenClaim := { program := "ytoblajbffnkkiaa", sum := "84fc47878581fe30171aa7831d1d790402ff3e970ef0a779816ca1a27eae095f", func := "muniment/munimentlaw7.WalFull", spec := "walFull", unfollowed := true, recurses := true, apart := false, narrowed := true }
def WalFullUptoSaid : Prop := walFullUptoRow.holds Try.pinned (OpenSpec.upto walFullSpec)

/-- 'munimentlaw7.WalCuts', WHERE WHAT IT READS IS OF BULK AT MOST 1048576: true; the input reads as it did. -/
def walCutsUptoRow : OpenClaim := { program := "ytoblajbffnkkiaa", sum := "84fc47878581fe30171aa7831d1d790402ff3e970ef0a779816ca1a27eae095f", func := "muniment/munimentlaw7.WalCuts", spec := "walCuts", unfollowed := true, recurses := true, apart := false, narrowed := true }
def WalCutsUptoSaid : Prop := walCutsUptoRow.holds Try.pinned (OpenSpec.upto walCutsSpec)

/-- 'munimentlaw7.WalPlays', WHERE WHAT IT READS IS OF BULK AT MOST 1048576: true; the input reads as it did. -/
def walPlaysUptoRow : OpenClaim := { program := "ytoblajbffnkkiaa", sum := "84fc47878581fe30171aa7831d1d790402ff3e970ef0a779816ca1a27eae095f", func := "muniment/munimentlaw7.WalPlays", spec := "walPlays", unfollowed := true, recurses := true, apart := false, narrowed := true }
def WalPlaysUptoSaid : Prop := walPlaysUptoRow.holds Try.pinned (OpenSpec.upto walPlaysSpec)

end Rows
end Go.Proofs.Ytoblajbffnkkiaa
