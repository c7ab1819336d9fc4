/-
  No cell of these rows narrows 'for every input' (looked for: loops, veiled, ifaces, maps, wideKeys, modest, calm, conditions, laid).
  DERIVED. THE GIVEN ROWS OF THIS SEAT. 8 by the template 'for every input the law returns true; each argument reads behind the call as it read before'; 0 by the template 'total and deterministic' (their statements: YtbdkhegfmnladaaTotals.lean).
  GIVEN WITH THE SEED: the statements are not yours to turn. If you find one false, say at which input.
  Laid BY PROGRAM, IN A SANDBOX (cutbox-rows.mjs): the forced cells as the released guide's own fill.sh prints them over the translation d220e86ce57f38e0… (all of the seat's roots in one cut). By AI agents, Wed Nov 11 2026. No macro, syntax, notation, axiom, sorry.
-/
import Derived.Test.YtbdkhegfmnladaaChecked
import GoSem.Claim
import GoSem.ClaimJoined
import GoSem.ClaimMapViews
import Derived.JoinedTies
import Derived.KernelRfl
namespace Go.Proofs.Ytbdkhegfmnladaa
/- THE CELL 'sum', in the pinned program and in every row, IS THE sha256 OF THE DUMP (.gsa) THAT YtbdkhegfmnladaaProg.lean LOADS. Nothing in Lean hashes anything: it is a label: what it is worth is what the hold of that sum in a sandbox is worth. -/
noncomputable def Try.pinned : Pinned := { name := "ytbdkhegfmnladaa", sum := "d220e86ce57f38e0935f6a126c78090681fffbd693c9c14902ec8ffaf57d9280", checked := Try.checked }
namespace Rows
def none {H : Type} : Left H := { results := [], args := [] }

/-- 'munimentlaw14.LockModes': WHATEVER THE INPUT: true; the input reads as it did. -/
def lockModesSpec : ChangeSpec := { name := "lockModes", fn := fun _ => fun
  | [d1, d2] => { results := [.lit (.bool true)], args := [d1, d2] }
  | _ => none }
def lockModesRow : OpenClaim := { program := "ytbdkhegfmnladaa", sum := "d220e86ce57f38e0935f6a126c78090681fffbd693c9c14902ec8ffaf57d9280", func := "muniment/munimentlaw14.LockModes", spec := "lockModes", inPlace := ["slices.overlaps[muniment/lock.ask]"], unfollowed := true, recurses := true, apart := false }
def LockModesSaid : Prop := lockModesRow.holds Try.pinned (OpenSpec.ofChange lockModesSpec)

/-- ITS FALSE NEIGHBOUR: 'it returns false'. Refute it at one input. -/
def lockModesWrong : ChangeSpec := { name := "lockModes", fn := fun _ => fun
  | [d1, d2] => { results := [.lit (.bool false)], args := [d1, d2] }
  | _ => none }
def LockModesWrongFalsely : Prop := lockModesRow.holds Try.pinned (OpenSpec.ofChange lockModesWrong)

/-- 'munimentlaw14.LockMore': WHATEVER THE INPUT: true; the input reads as it did. -/
def lockMoreSpec : ChangeSpec := { name := "lockMore", fn := fun _ => fun
  | [d1, d2, d3] => { results := [.lit (.bool true)], args := [d1, d2, d3] }
  | _ => none }
def lockMoreRow : OpenClaim := { program := "ytbdkhegfmnladaa", sum := "d220e86ce57f38e0935f6a126c78090681fffbd693c9c14902ec8ffaf57d9280", func := "muniment/munimentlaw14.LockMore", spec := "lockMore", inPlace := ["slices.overlaps[muniment/lock.ask]", "internal/bytealg.abigen_runtime_cmpstring"], unfollowed := true, recurses := true, apart := false }
def LockMoreSaid : Prop := lockMoreRow.holds Try.pinned (OpenSpec.ofChange lockMoreSpec)

/-- ITS FALSE NEIGHBOUR: 'it returns false'. Refute it at one input. -/
def lockMoreWrong : ChangeSpec := { name := "lockMore", fn := fun _ => fun
  | [d1, d2, d3] => { results := [.lit (.bool false)], args := [d1, d2, d3] }
  | _ => none }
def LockMoreWrongFalsely : Prop := lockMoreRow.holds Try.pinned (OpenSpec.ofChange lockMoreWrong)

/-- 'munimentlaw14.LockFair': WHATEVER THE INPUT: true; the input reads as it did. -/
def lockFairSpec : ChangeSpec := { name := "lockFair", fn := fun _ => fun
  | [d] => { results := [.lit (.bool true)], args := [d] }
  | _ => none }
def lockFairRow : OpenClaim := { program := "ytbdkhegfmnladaa", sum := "d220e86ce57f38e0935f6a126c78090681fffbd693c9c14902ec8ffaf57d9280", func := "muniment/munimentlaw14.LockFair", spec := "lockFair", inPlace := ["slices.overlaps[muniment/lock.ask]"], unfollowed := true, recurses := true, apart := false }
def LockFairSaid : Prop := lockFairRow.holds Try.pinned (OpenSpec.ofChange lockFairSpec)

/-- ITS FALSE NEIGHBOUR: 'it returns false'. Refute it at one input. -/
def lockFairWrong : ChangeSpec := { name := "lockFair", fn := fun _ => fun
  | [d] => { results := [.lit (.bool false)], args := [d] }
  | _ => none }
def LockFairWrongFalsely : Prop := lockFairRow.holds Try.pinned (OpenSpec.ofChange lockFairWrong)

/-- 'munimentlaw14.LockApart': WHATEVER THE INPUT: true; the input reads as it did. -/
def lockApartSpec : ChangeSpec := { name := "lockApart", fn := fun _ => fun
  | [d] => { results := [.lit (.bool true)], args := [d] }
  | _ => none }
def lockApartRow : OpenClaim := { program := "ytbdkhegfmnladaa", sum := "d220e86ce57f38e0935f6a126c78090681fffbd693c9c14902ec8ffaf57d9280", func := "muniment/munimentlaw14.LockApart", spec := "lockApart", inPlace := ["slices.overlaps[muniment/lock.ask]"], unfollowed := true, recurses := true, apart := false }
def LockApartSaid : Prop := lockApartRow.holds Try.pinned (OpenSpec.ofChange lockApartSpec)

/-- ITS FALSE NEIGHBOUR: 'it returns false'. Refute it at one input. -/
def lockApartWrong : ChangeSpec := { name := "lockApart", fn := fun _ => fun
  | [d] => { results := [.lit (.bool false)], args := [d] }
  | _ => none }
def LockApartWrongFalsely : Prop := lockApartRow.holds Try.pinned (OpenSpec.ofChange lockApartWrong)

/-- 'munimentlaw14.LockSafe': WHATEVER THE INPUT: true; the input reads as it did. -/
def lockSafeSpec : ChangeSpec := { name := "lockSafe", fn := fun _ => fun
  | [d] => { results := [.lit (.bool true)], args := [d] }
  | _ => none }
def lockSafeRow : OpenClaim := { program := "ytbdkhegfmnladaa", sum := "d220e86ce57f38e0935f6a126c78090681fffbd693c9c14902ec8ffaf57d9280", func := "muniment/munimentlaw14.LockSafe", spec := "lockSafe", inPlace := ["slices.overlaps[muniment/lock.ask]", "internal/bytealg.abigen_runtime_cmpstring"], unfollowed := true, recurses := true, apart := false }
def LockSafeSaid : Prop := lockSafeRow.holds Try.pinned (OpenSpec.ofChange lockSafeSpec)

/-- ITS FALSE NEIGHBOUR: 'it returns false'. Refute it at one input. -/
def lockSafeWrong : ChangeSpec := { name := "lockSafe", fn := fun _ => fun
  | [d] => { results := [.lit (.bool false)], args := [d] }
  | _ => none }
def LockSafeWrongFalsely : Prop := lockSafeRow.holds Try.pinned (OpenSpec.ofChange lockSafeWrong)

/-- 'munimentlaw14.LockEnds': WHATEVER THE INPUT: true; the input reads as it did. -/
def lockEndsSpec : ChangeSpec := { name := "lockEnds", fn := fun _ => fun
  | [d] => { results := [.lit (.bool true)], args := [d] }
  | _ => none }
def lockEndsRow : OpenClaim := { program := "ytbdkhegfmnladaa", sum := "d220e86ce57f38e0935f6a126c78090681fffbd693c9c14902ec8ffaf57d9280", func := "muniment/munimentlaw14.LockEnds", spec := "lockEnds", inPlace := ["slices.overlaps[muniment/lock.ask]", "internal/bytealg.abigen_runtime_cmpstring"], unfollowed := true, recurses := true, apart := false }
def LockEndsSaid : Prop := lockEndsRow.holds Try.pinned (OpenSpec.ofChange lockEndsSpec)

/-- ITS FALSE NEIGHBOUR: 'it returns false'. Refute it at one input. -/
def lockEndsWrong : ChangeSpec := { name := "lockEnds", fn := fun _ => fun
  | [d] => { results := [.lit (.bool false)], args := [d] }
  | _ => none }
def LockEndsWrongFalsely : Prop := lockEndsRow.holds Try.pinned (OpenSpec.ofChange lockEndsWrong)

/-- 'munimentlaw14.LockKnown': WHATEVER THE INPUT: true; the input reads as it did. -/
def lockKnownSpec : ChangeSpec := { name := "lockKnown", fn := fun _ => fun
  | [] => { results := [.lit (.bool true)], args := [] }
  | _ => none }
def lockKnownRow : OpenClaim := { program := "ytbdkhegfmnladaa", sum := "d220e86ce57f38e0935f6a126c78090681fffbd693c9c14902ec8ffaf57d9280", func := "muniment/munimentlaw14.LockKnown", spec := "lockKnown", inPlace := ["slices.overlaps[muniment/lock.ask]", "internal/bytealg.abigen_runtime_cmpstring"], unfollowed := true, recurses := true, apart := false }
def LockKnownSaid : Prop := lockKnownRow.holds Try.pinned (OpenSpec.ofChange lockKnownSpec)

/-- ITS FALSE NEIGHBOUR: 'it returns false'. Refute it at one input. -/
def lockKnownWrong : ChangeSpec := { name := "lockKnown", fn := fun _ => fun
  | [] => { results := [.lit (.bool false)], args := [] }
  | _ => none }
def LockKnownWrongFalsely : Prop := lockKnownRow.holds Try.pinned (OpenSpec.ofChange lockKnownWrong)

/-- 'munimentlaw14.LockPlays': WHATEVER THE INPUT: true; the input reads as it did. -/
def lockPlaysSpec : ChangeSpec := { name := "lockPlays", fn := fun _ => fun
  | [d] => { results := [.lit (.bool true)], args := [d] }
  | _ => none }
def lockPlaysRow : OpenClaim := { program := "ytbdkhegfmnladaa", sum := "d220e86ce57f38e0935f6a126c78090681fffbd693c9c14902ec8ffaf57d9280", func := "muniment/munimentlaw14.LockPlays", spec := "lockPlays", inPlace := ["slices.overlaps[muniment/lock.ask]", "internal/bytealg.abigen_runtime_cmpstring"], unfollowed := true, recurses := true, apart := false }
def LockPlaysSaid : Prop := lockPlaysRow.holds Try.pinned (OpenSpec.ofChange lockPlaysSpec)

/-- ITS FALSE NEIGHBOUR: 'it returns false'. Refute it at one input. -/
def lockPlaysWrong : ChangeSpec := { name := "lockPlays", fn := fun _ => fun
  | [d] => { results := [.lit (.bool false)], args := [d] }
  | _ => none }
def LockPlaysWrongFalsely : Prop := lockPlaysRow.holds Try.pinned (OpenSpec.ofChange lockPlaysWrong)

/- THE SECOND FORM. 'bulk': how many values and letters a reading holds, each counted each time it is reached (what is shared counts as often as it is met; a slice's spare places count too). A statement '..UptoSaid' is the law's where the arguments, and the package variables that the reading takes, are together of bulk at most 1048576: NARROWER than '..Said'. Prove '..Said' where nothing that the law and all that it calls make is longer than what came in: it says more and counts as full. Else prove '..UptoSaid'. A law counts once. -/
mutual
def uptoBulk {H : Type} : DataW H → Nat
  | .lit (.string bytes) => bytes.length + 1
  | .lit _ => 1
  | .nil => 1
  | .ptr d => uptoBulk d + 1
  | .slice elems spare => uptoBulkAll elems + uptoBulkAll spare + 1
  | .agg parts => uptoBulkAll parts + 1
  | .iface _ d => uptoBulk d + 1
  | .map entries => uptoBulkEntries entries + 1
  | .held _ => 1
def uptoBulkAll {H : Type} : List (DataW H) → Nat
  | [] => 0
  | d :: r => uptoBulk d + uptoBulkAll r
def uptoBulkEntries {H : Type} : List (Lit × DataW H) → Nat
  | [] => 0
  | x :: r => uptoBulkEntry x + uptoBulkEntries r
def uptoBulkEntry {H : Type} : Lit × DataW H → Nat
  | (.string bytes, d) => bytes.length + uptoBulk d + 1
  | (_, d) => uptoBulk d + 1
 end
def uptoSmall : (H : Type) → List (DataW H) → Bool := fun _ ds => decide (uptoBulkAll ds ≤ 1048576)
def OpenSpec.upto (s : _root_.Go.ChangeSpec) : _root_.Go.OpenSpec := { _root_.Go.OpenSpec.ofChange s with cond := some uptoSmall }

/-- 'munimentlaw14.LockModes', WHERE WHAT IT READS IS OF BULK AT MOST 1048576: true; the input reads as it did. -/
def lockModesUptoRow : OpenClaim := { program := "ytbdkhegfmnladaa", sum := "d220e86ce57f38e0935f6a126c78090681fffbd693c9c14902ec8ffaf57d9280", func := "muniment/munimentlaw14.LockModes", spec := "lockModes", inPlace := ["slices.overlaps[muniment/lock.ask]"], unfollowed := true, recurses := true, apart := false, narrowed := true }
def LockModesUptoSaid : Prop := lockModesUptoRow.holds Try.pinned (OpenSpec.upto lockModesSpec)

/-- 'munimentlaw14.LockMore', WHERE WHAT IT READS IS OF BULK AT MOST 1048576: true; the input reads as it did. -/
def lockMoreUptoRow : OpenClaim := { program := "ytbdkhegfmnladaa", sum := "d220e86ce57f38e0935f6a126c78090681fffbd693c9c14902ec8ffaf57d9280", func := "muniment/munimentlaw14.LockMore", spec := "lockMore", inPlace := ["slices.overlaps[muniment/lock.ask]", "internal/bytealg.abigen_runtime_cmpstring"], unfollowed := true, recurses := true, apart := false, narrowed := true }
def LockMoreUptoSaid : Prop := lockMoreUptoRow.holds Try.pinned (OpenSpec.upto lockMoreSpec)

/-- 'munimentlaw14.LockFair', WHERE WHAT IT READS IS OF BULK AT MOST 1048576: true; the input reads as it did. -/
def lockFairUptoRow : OpenClaim := { program := "ytbdkhegfmnladaa", sum := "d220e86ce57f38e0935f6a126c78090681fffbd693c9c14902ec8ffaf57d9280", func := "muniment/munimentlaw14.LockFair", spec := "lockFair", inPlace := ["slices.overlaps[muniment/lock.ask]"], unfollowed := true, recurses := true, apart := false, narrowed := true }
def LockFairUptoSaid : Prop := lockFairUptoRow.holds Try.pinned (OpenSpec.upto lockFairSpec)

/-- 'munimentlaw14.LockApart', WHERE WHAT IT READS IS OF BULK AT MOST 1048576: true; the input reads as it did. -/
def lockApartUptoRow : OpenClaim := { program := "ytbdkhegfmnladaa", sum := "d220e86ce57f38e0935f6a126c78090681fffbd693c9c14902ec8ffaf57d9280", func := "muniment/munimentlaw14.LockApart", spec := "lockApart", inPlace := ["slices.overlaps[muniment/lock.ask]"], unfollowed := true, recurses := true, apart := false, narrowed := true }
def LockApartUptoSaid : Prop := lockApartUptoRow.holds Try.pinned (OpenSpec.upto lockApartSpec)

/-- 'munimentlaw14.LockSafe', WHERE WHAT IT READS IS OF BULK AT MOST 1048576: true; the input reads as it did. -/
def lockSafeUptoRow : OpenClaim := { program := "ytbdkhegfmnladaa", sum := "d220e86ce57f38e0935f6a126c78090681fffbd693c9c14902ec8ffaf57d9280", func := "muniment/munimentlaw14.LockSafe", spec := "lockSafe", inPlace := ["slices.overlaps[muniment/lock.ask]", "internal/bytealg.abigen_runtime_cmpstring"], unfollowed := true, recurses := true, apart := false, narrowed := true }
def LockSafeUptoSaid : Prop := lockSafeUptoRow.holds Try.pinned (OpenSpec.upto lockSafeSpec)

/-- 'munimentlaw14.LockEnds', WHERE WHAT IT READS IS OF BULK AT MOST 1048576: true; the input reads as it did. -/
def lockEndsUptoRow : OpenClaim := { program := "ytbdkhegfmnladaa", sum := "d220e86ce57f38e0935f6a126c78090681fffbd693c9c14902ec8ffaf57d9280", func := "muniment/munimentlaw14.LockEnds", spec := "lockEnds", inPlace := ["slices.overlaps[muniment/lock.ask]", "internal/bytealg.abigen_runtime_cmpstring"], unfollowed := true, recurses := true, apart := false, narrowed := true }
def LockEndsUptoSaid : Prop := lockEndsUptoRow.holds Try.pinned (OpenSpec.upto lockEndsSpec)

/-- 'munimentlaw14.LockKnown', WHERE WHAT IT READS IS OF BULK AT MOST 1048576: true; the input reads as it did. -/
def lockKnownUptoRow : OpenClaim := { program := "ytbdkhegfmnladaa", sum := "d220e86ce57f38e0935f6a126c78090681fffbd693c9c14902ec8ffaf57d9280", func := "muniment/munimentlaw14.LockKnown", spec := "lockKnown", inPlace := ["slices.overlaps[muniment/lock.ask]", "internal/bytealg.abigen_runtime_cmpstring"], unfollowed := true, recurses := true, apart := false, narrowed := true }
def LockKnownUptoSaid : Prop := lockKnownUptoRow.holds Try.pinned (OpenSpec.upto lockKnownSpec)

/-- 'munimentlaw14.LockPlays', WHERE WHAT IT READS IS OF BULK AT MOST 1048576: true; the input reads as it did. -/
def lockPlaysUptoRow : OpenClaim := { program := "ytbdkhegfmnladaa", sum := "d220e86ce57f38e0935f6a126c78090681fffbd693c9c14902ec8ffaf57d9280", func := "muniment/munimentlaw14.LockPlays", spec := "lockPlays", inPlace := ["slices.overlaps[muniment/lock.ask]", "internal/bytealg.abigen_runtime_cmpstring"], unfollowed := true, recurses := true, apart := false, narrowed := true }
def LockPlaysUptoSaid : Prop := lockPlaysUptoRow.holds Try.pinned (OpenSpec.upto lockPlaysSpec)

end Rows
end Go.Proofs.Ytbdkhegfmnladaa
