/-
  No cell of these rows narrows 'for every input' (looked for: loops, veiled, ifaces, maps, wideKeys, modest, calm, conditions, laid).
  DERIVED. THE GIVEN ROWS OF THIS SEAT. 8 by the template 'for every input the law returns true; each argument reads behind the call as it read before'; 0 by the template 'total and deterministic' (their statements: YtagcdnhkgndhcaaTotals.lean).
  GIVEN WITH THE SEED: the statements are not yours to turn. If you find one false, say at which input.
  Laid BY PROGRAM, IN A SANDBOX (cutbox-rows.mjs): the forced cells as the released guide's own fill.sh prints them over the translation 43890a0b9776731d… (all of the seat's roots in one cut). By AI agents, Wed Nov 11 2026. No macro, syntax, notation, axiom, sorry.
-/
import Derived.Test.YtagcdnhkgndhcaaChecked
import GoSem.Claim
import GoSem.ClaimJoined
import GoSem.ClaimMapViews
import Derived.JoinedTies
import Derived.KernelRfl
namespace Go.Proofs.Ytagcdnhkgndhcaa
/- THE CELL 'sum', in the pinned program and in every row, IS THE sha256 OF THE DUMP (.gsa) THAT YtagcdnhkgndhcaaProg.lean LOADS. Nothing in Lean hashes anything: it is a label: what it is worth is what the hold of that sum in a sandbox is worth. -/
noncomputable def Try.pinned : Pinned := { name := "ytagcdnhkgndhcaa", sum := "43890a0b9776731dd0aa72bd61b84f21324fa7657620488e5c0bca9d5b5634bf", checked := Try.checked }
namespace Rows
def none {H : Type} : Left H := { results := [], args := [] }

/-- 'confidantlaw29.TreeParts': WHATEVER THE INPUT: true; the input reads as it did. -/
def treePartsSpec : ChangeSpec := { name := "treeParts", fn := fun _ => fun
  | [d1, d2] => { results := [.lit (.bool true)], args := [d1, d2] }
  | _ => none }
def treePartsRow : OpenClaim := { program := "ytagcdnhkgndhcaa", sum := "43890a0b9776731dd0aa72bd61b84f21324fa7657620488e5c0bca9d5b5634bf", func := "confidant/confidantlaw29.TreeParts", spec := "treeParts", unfollowed := true, recurses := true, apart := false }
def TreePartsSaid : Prop := treePartsRow.holds Try.pinned (OpenSpec.ofChange treePartsSpec)

/-- ITS FALSE NEIGHBOUR: 'it returns false'. Refute it at one input. -/
def treePartsWrong : ChangeSpec := { name := "treeParts", fn := fun _ => fun
  | [d1, d2] => { results := [.lit (.bool false)], args := [d1, d2] }
  | _ => none }
def TreePartsWrongFalsely : Prop := treePartsRow.holds Try.pinned (OpenSpec.ofChange treePartsWrong)

/-- 'confidantlaw29.TreeDiffs': WHATEVER THE INPUT: true; the input reads as it did. -/
def treeDiffsSpec : ChangeSpec := { name := "treeDiffs", fn := fun _ => fun
  | [d1, d2, d3] => { results := [.lit (.bool true)], args := [d1, d2, d3] }
  | _ => none }
def treeDiffsRow : OpenClaim := { program := "ytagcdnhkgndhcaa", sum := "43890a0b9776731dd0aa72bd61b84f21324fa7657620488e5c0bca9d5b5634bf", func := "confidant/confidantlaw29.TreeDiffs", spec := "treeDiffs", unfollowed := true, recurses := true, apart := false }
def TreeDiffsSaid : Prop := treeDiffsRow.holds Try.pinned (OpenSpec.ofChange treeDiffsSpec)

/-- ITS FALSE NEIGHBOUR: 'it returns false'. Refute it at one input. -/
def treeDiffsWrong : ChangeSpec := { name := "treeDiffs", fn := fun _ => fun
  | [d1, d2, d3] => { results := [.lit (.bool false)], args := [d1, d2, d3] }
  | _ => none }
def TreeDiffsWrongFalsely : Prop := treeDiffsRow.holds Try.pinned (OpenSpec.ofChange treeDiffsWrong)

/-- 'confidantlaw24.DeckFuel': WHATEVER THE INPUT: true; the input reads as it did. -/
def deckFuelSpec : ChangeSpec := { name := "deckFuel", fn := fun _ => fun
  | [d1, d2, d3] => { results := [.lit (.bool true)], args := [d1, d2, d3] }
  | _ => none }
def deckFuelRow : OpenClaim := { program := "ytagcdnhkgndhcaa", sum := "43890a0b9776731dd0aa72bd61b84f21324fa7657620488e5c0bca9d5b5634bf", func := "confidant/confidantlaw24.DeckFuel", spec := "deckFuel", unfollowed := true, recurses := true, apart := false }
def DeckFuelSaid : Prop := deckFuelRow.holds Try.pinned (OpenSpec.ofChange deckFuelSpec)

/-- ITS FALSE NEIGHBOUR: 'it returns false'. Refute it at one input. -/
def deckFuelWrong : ChangeSpec := { name := "deckFuel", fn := fun _ => fun
  | [d1, d2, d3] => { results := [.lit (.bool false)], args := [d1, d2, d3] }
  | _ => none }
def DeckFuelWrongFalsely : Prop := deckFuelRow.holds Try.pinned (OpenSpec.ofChange deckFuelWrong)

/-- 'confidantlaw24.DeckWakes': WHATEVER THE INPUT: true; the input reads as it did. -/
def deckWakesSpec : ChangeSpec := { name := "deckWakes", fn := fun _ => fun
  | [d1, d2, d3] => { results := [.lit (.bool true)], args := [d1, d2, d3] }
  | _ => none }
def deckWakesRow : OpenClaim := { program := "ytagcdnhkgndhcaa", sum := "43890a0b9776731dd0aa72bd61b84f21324fa7657620488e5c0bca9d5b5634bf", func := "confidant/confidantlaw24.DeckWakes", spec := "deckWakes", unfollowed := true, recurses := true, apart := false }
def DeckWakesSaid : Prop := deckWakesRow.holds Try.pinned (OpenSpec.ofChange deckWakesSpec)

/-- ITS FALSE NEIGHBOUR: 'it returns false'. Refute it at one input. -/
def deckWakesWrong : ChangeSpec := { name := "deckWakes", fn := fun _ => fun
  | [d1, d2, d3] => { results := [.lit (.bool false)], args := [d1, d2, d3] }
  | _ => none }
def DeckWakesWrongFalsely : Prop := deckWakesRow.holds Try.pinned (OpenSpec.ofChange deckWakesWrong)

/-- 'confidantlaw24.DeckComes': WHATEVER THE INPUT: true; the input reads as it did. -/
def deckComesSpec : ChangeSpec := { name := "deckComes", fn := fun _ => fun
  | [d1, d2, d3] => { results := [.lit (.bool true)], args := [d1, d2, d3] }
  | _ => none }
def deckComesRow : OpenClaim := { program := "ytagcdnhkgndhcaa", sum := "43890a0b9776731dd0aa72bd61b84f21324fa7657620488e5c0bca9d5b5634bf", func := "confidant/confidantlaw24.DeckComes", spec := "deckComes", unfollowed := true, recurses := true, apart := false }
def DeckComesSaid : Prop := deckComesRow.holds Try.pinned (OpenSpec.ofChange deckComesSpec)

/-- ITS FALSE NEIGHBOUR: 'it returns false'. Refute it at one input. -/
def deckComesWrong : ChangeSpec := { name := "deckComes", fn := fun _ => fun
  | [d1, d2, d3] => { results := [.lit (.bool false)], args := [d1, d2, d3] }
  | _ => none }
def DeckComesWrongFalsely : Prop := deckComesRow.holds Try.pinned (OpenSpec.ofChange deckComesWrong)

/-- 'confidantlaw19.QueuePlays': WHATEVER THE INPUT: true; the input reads as it did. -/
def queuePlaysSpec : ChangeSpec := { name := "queuePlays", fn := fun _ => fun
  | [d] => { results := [.lit (.bool true)], args := [d] }
  | _ => none }
def queuePlaysRow : OpenClaim := { program := "ytagcdnhkgndhcaa", sum := "43890a0b9776731dd0aa72bd61b84f21324fa7657620488e5c0bca9d5b5634bf", func := "confidant/confidantlaw19.QueuePlays", spec := "queuePlays", unfollowed := true, recurses := true, apart := false }
def QueuePlaysSaid : Prop := queuePlaysRow.holds Try.pinned (OpenSpec.ofChange queuePlaysSpec)

/-- ITS FALSE NEIGHBOUR: 'it returns false'. Refute it at one input. -/
def queuePlaysWrong : ChangeSpec := { name := "queuePlays", fn := fun _ => fun
  | [d] => { results := [.lit (.bool false)], args := [d] }
  | _ => none }
def QueuePlaysWrongFalsely : Prop := queuePlaysRow.holds Try.pinned (OpenSpec.ofChange queuePlaysWrong)

/-- 'confidantlaw19.QueueSorts': WHATEVER THE INPUT: true; the input reads as it did. -/
def queueSortsSpec : ChangeSpec := { name := "queueSorts", fn := fun _ => fun
  | [d] => { results := [.lit (.bool true)], args := [d] }
  | _ => none }
def queueSortsRow : OpenClaim := { program := "ytagcdnhkgndhcaa", sum := "43890a0b9776731dd0aa72bd61b84f21324fa7657620488e5c0bca9d5b5634bf", func := "confidant/confidantlaw19.QueueSorts", spec := "queueSorts", unfollowed := true, recurses := true, apart := false }
def QueueSortsSaid : Prop := queueSortsRow.holds Try.pinned (OpenSpec.ofChange queueSortsSpec)

/-- ITS FALSE NEIGHBOUR: 'it returns false'. Refute it at one input. -/
def queueSortsWrong : ChangeSpec := { name := "queueSorts", fn := fun _ => fun
  | [d] => { results := [.lit (.bool false)], args := [d] }
  | _ => none }
def QueueSortsWrongFalsely : Prop := queueSortsRow.holds Try.pinned (OpenSpec.ofChange queueSortsWrong)

/-- 'confidantlaw19.QueueSteady': WHATEVER THE INPUT: true; the input reads as it did. -/
def queueSteadySpec : ChangeSpec := { name := "queueSteady", fn := fun _ => fun
  | [d] => { results := [.lit (.bool true)], args := [d] }
  | _ => none }
def queueSteadyRow : OpenClaim := { program := "ytagcdnhkgndhcaa", sum := "43890a0b9776731dd0aa72bd61b84f21324fa7657620488e5c0bca9d5b5634bf", func := "confidant/confidantlaw19.QueueSteady", spec := "queueSteady", unfollowed := true, recurses := true, apart := false }
def QueueSteadySaid : Prop := queueSteadyRow.holds Try.pinned (OpenSpec.ofChange queueSteadySpec)

/-- ITS FALSE NEIGHBOUR: 'it returns false'. Refute it at one input. -/
def queueSteadyWrong : ChangeSpec := { name := "queueSteady", fn := fun _ => fun
  | [d] => { results := [.lit (.bool false)], args := [d] }
  | _ => none }
def QueueSteadyWrongFalsely : Prop := queueSteadyRow.holds Try.pinned (OpenSpec.ofChange queueSteadyWrong)

/- THE SECOND FORM. 'bulk': how many values and letters a reading holds, each counted each time it is reached (what is shared counts as often as it is met; a slice's spare places count too). A statement '..UptoSaid' is the law's where the arguments, and the package variables that the reading takes, are together of bulk at most 1048576: NARROWER than '..Said'. Prove '..Said' where nothing that the law and all that it calls make is longer than what came in: it says more and counts as full. Else prove '..UptoSaid'. A law counts once. -/
mutual
def uptoBulk {H : Type} : DataW H → Nat
  | .lit (.string bytes) => bytes.length + 1
  | .lit _ => 1
  | .nil => 1
  | .ptr d => uptoBulk d + 1
  | .slice elems spare => uptoBulkAll elems + uptoBulkAll spare + 1
  | .agg parts => uptoBulkAll parts + 1
  | .iface _ d => uptoBulk d + 1
  | .map entries => uptoBulkEntries entries + 1
  | .held _ => 1
def uptoBulkAll {H : Type} : List (DataW H) → Nat
  | [] => 0
  | d :: r => uptoBulk d + uptoBulkAll r
def uptoBulkEntries {H : Type} : List (Lit × DataW H) → Nat
  | [] => 0
  | x :: r => uptoBulkEntry x + uptoBulkEntries r
def uptoBulkEntry {H : Type} : Lit × DataW H → Nat
  | (.string bytes, d) => bytes.length + uptoBulk d + 1
  | (_, d) => uptoBulk d + 1
 end
def uptoSmall : (H : Type) → List (DataW H) → Bool := fun _ ds => decide (uptoBulkAll ds ≤ 1048576)
def OpenSpec.upto (s : _root_.Go.ChangeSpec) : _root_.Go.OpenSpec := { _root_.Go.OpenSpec.ofChange s with cond := some uptoSmall }

/-- 'confidantlaw29.TreeParts', WHERE WHAT IT READS IS OF BULK AT MOST 1048576: true; the input reads as it did. -/
def treePartsUptoRow : OpenClaim := { program := "ytagcdnhkgndhcaa", sum := "43890a0b9776731dd0aa72bd61b84f21324fa7657620488e5c0bca9d5b5634bf", func := "confidant/confidantlaw29.TreeParts", spec := "treeParts", unfollowed := true, recurses := true, apart := false, narrowed := true }
def TreePartsUptoSaid : Prop := treePartsUptoRow.holds Try.pinned (OpenSpec.upto treePartsSpec)

/-- 'confidantlaw29.TreeDiffs', WHERE WHAT IT READS IS OF BULK AT MOST 1048576: true; the input reads as it did. -/
def treeDiffsUptoRow : OpenClaim := { program := "ytagcdnhkgndhcaa", sum := "43890a0b9776731dd0aa72bd61b84f21324fa7657620488e5c0bca9d5b5634bf", func := "confidant/confidantlaw29.TreeDiffs", spec := "treeDiffs", unfollowed := true, recurses := true, apart := false, narrowed := true }
def TreeDiffsUptoSaid : Prop := treeDiffsUptoRow.holds Try.pinned (OpenSpec.upto treeDiffsSpec)

/-- 'confidantlaw24.DeckFuel', WHERE WHAT IT READS IS OF BULK AT MOST 1048576: true; the input reads as it did. -/
def deckFuelUptoRow : OpenClaim := { program := "ytagcdnhkgndhcaa", sum := "43890a0b9776731dd0aa72bd61b84f21324fa7657620488e5c0bca9d5b5634bf", func := "confidant/confidantlaw24.DeckFuel", spec := "deckFuel", unfollowed := true, recurses := true, apart := false, narrowed := true }
def DeckFuelUptoSaid : Prop := deckFuelUptoRow.holds Try.pinned (OpenSpec.upto deckFuelSpec)

/-- 'confidantlaw24.DeckWakes', WHERE WHAT IT READS IS OF BULK AT MOST 1048576: true; the input reads as it did. -/
def deckWakesUptoRow : OpenClaim := { program := "ytagcdnhkgndhcaa", sum := "43890a0b9776731dd0aa72bd61b84f21324fa7657620488e5c0bca9d5b5634bf", func := "confidant/confidantlaw24.DeckWakes", spec := "deckWakes", unfollowed := true, recurses := true, apart := false, narrowed := true }
def DeckWakesUptoSaid : Prop := deckWakesUptoRow.holds Try.pinned (OpenSpec.upto deckWakesSpec)

/-- 'confidantlaw24.DeckComes', WHERE WHAT IT READS IS OF BULK AT MOST 1048576: true; the input reads as it did. -/
def deckComesUptoRow : OpenClaim := { program := "ytagcdnhkgndhcaa", sum := "43890a0b9776731dd0aa72bd61b84f21324fa7657620488e5c0bca9d5b5634bf", func := "confidant/confidantlaw24.DeckComes", spec := "deckComes", unfollowed := true, recurses := true, apart := false, narrowed := true }
def DeckComesUptoSaid : Prop := deckComesUptoRow.holds Try.pinned (OpenSpec.upto deckComesSpec)

/-- 'confidantlaw19.QueuePlays', WHERE WHAT IT READS IS OF BULK AT MOST 1048576: true; the input reads as it did. -/
def queuePlaysUptoRow : OpenClaim := { program := "ytagcdnhkgndhcaa", sum := "43890a0b9776731dd0aa72bd61b84f21324fa7657620488e5c0bca9d5b5634bf", func := "confidant/confidantlaw19.QueuePlays", spec := "queuePlays", unfollowed := true, recurses := true, apart := false, narrowed := true }
def QueuePlaysUptoSaid : Prop := queuePlaysUptoRow.holds Try.pinned (OpenSpec.upto queuePlaysSpec)

/-- 'confidantlaw19.QueueSorts', WHERE WHAT IT READS IS OF BULK AT MOST 1048576: true; the input reads as it did. -/
def queueSortsUptoRow : OpenClaim := { program := "ytagcdnhkgndhcaa", sum := "43890a0b9776731dd0aa72bd61b84f21324fa7657620488e5c0bca9d5b5634bf", func := "confidant/confidantlaw19.QueueSorts", spec := "queueSorts", unfollowed := true, recurses := true, apart := false, narrowed := true }
def QueueSortsUptoSaid : Prop := queueSortsUptoRow.holds Try.pinned (OpenSpec.upto queueSortsSpec)

/-- 'confidantlaw19.QueueSteady', WHERE WHAT IT READS IS OF BULK AT MOST 1048576: true; the input reads as it did. -/
def queueSteadyUptoRow : OpenClaim := { program := "ytagcdnhkgndhcaa", sum := "43890a0b9776731dd0aa72bd61b84f21324fa7657620488e5c0bca9d5b5634bf", func := "confidant/confidantlaw19.QueueSteady", spec := "queueSteady", unfollowed := true, recurses := true, apart := false, narrowed := true }
def QueueSteadyUptoSaid : Prop := queueSteadyUptoRow.holds Try.pinned (OpenSpec.upto queueSteadySpec)

end Rows
end Go.Proofs.Ytagcdnhkgndhcaa
