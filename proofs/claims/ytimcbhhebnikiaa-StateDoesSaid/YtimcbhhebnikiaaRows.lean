/-
  No cell of these rows narrows 'for every input' (looked for: loops, veiled, ifaces, maps, wideKeys, modest, calm, conditions, laid).
  DERIVED. THE GIVEN ROWS OF THIS SEAT. 8 by the template 'for every input the law returns true; each argument reads behind the call as it read before'; 0 by the template 'total and deterministic' (their statements: YtimcbhhebnikiaaTotals.lean).
  GIVEN WITH THE SEED: the statements are not yours to turn. If you find one false, say at which input.
  Laid BY PROGRAM, IN A SANDBOX (cutbox-rows.mjs): the forced cells as the released guide's own fill.sh prints them over the translation e32adf4736e15b65… (all of the seat's roots in one cut). By AI agents, Wed Nov 11 2026. No macro, syntax, notation, axiom, sorry.
-/
import Derived.Test.YtimcbhhebnikiaaChecked
import GoSem.Claim
import GoSem.ClaimJoined
import GoSem.ClaimMapViews
import Derived.JoinedTies
import Derived.KernelRfl
namespace Go.Proofs.Ytimcbhhebnikiaa
/- THE CELL 'sum', in the pinned program and in every row, IS THE sha256 OF THE DUMP (.gsa) THAT YtimcbhhebnikiaaProg.lean LOADS. Nothing in Lean hashes anything: it is a label: what it is worth is what the hold of that sum in a sandbox is worth. -/
noncomputable def Try.pinned : Pinned := { name := "ytimcbhhebnikiaa", sum := "e32adf4736e15b65d099af8e64ec499150f7f257fc1bcdde8126d4fcdaab5b47", checked := Try.checked }
namespace Rows
def none {H : Type} : Left H := { results := [], args := [] }

/-- 'waggonerlaw11.StateNames': WHATEVER THE INPUT: true; the input reads as it did. -/
def stateNamesSpec : ChangeSpec := { name := "stateNames", fn := fun _ => fun
  | [] => { results := [.lit (.bool true)], args := [] }
  | _ => none }
def stateNamesRow : OpenClaim := { program := "ytimcbhhebnikiaa", sum := "e32adf4736e15b65d099af8e64ec499150f7f257fc1bcdde8126d4fcdaab5b47", func := "waggoner/waggonerlaw11.StateNames", spec := "stateNames", unfollowed := true, recurses := true, apart := false }
def StateNamesSaid : Prop := stateNamesRow.holds Try.pinned (OpenSpec.ofChange stateNamesSpec)

/-- ITS FALSE NEIGHBOUR: 'it returns false'. Refute it at one input. -/
def stateNamesWrong : ChangeSpec := { name := "stateNames", fn := fun _ => fun
  | [] => { results := [.lit (.bool false)], args := [] }
  | _ => none }
def StateNamesWrongFalsely : Prop := stateNamesRow.holds Try.pinned (OpenSpec.ofChange stateNamesWrong)

/-- 'waggonerlaw11.StateTells': WHATEVER THE INPUT: true; the input reads as it did. -/
def stateTellsSpec : ChangeSpec := { name := "stateTells", fn := fun _ => fun
  | [d1, d2, d3] => { results := [.lit (.bool true)], args := [d1, d2, d3] }
  | _ => none }
def stateTellsRow : OpenClaim := { program := "ytimcbhhebnikiaa", sum := "e32adf4736e15b65d099af8e64ec499150f7f257fc1bcdde8126d4fcdaab5b47", func := "waggoner/waggonerlaw11.StateTells", spec := "stateTells", unfollowed := true, recurses := true, apart := false }
def StateTellsSaid : Prop := stateTellsRow.holds Try.pinned (OpenSpec.ofChange stateTellsSpec)

/-- ITS FALSE NEIGHBOUR: 'it returns false'. Refute it at one input. -/
def stateTellsWrong : ChangeSpec := { name := "stateTells", fn := fun _ => fun
  | [d1, d2, d3] => { results := [.lit (.bool false)], args := [d1, d2, d3] }
  | _ => none }
def StateTellsWrongFalsely : Prop := stateTellsRow.holds Try.pinned (OpenSpec.ofChange stateTellsWrong)

/-- 'waggonerlaw11.StateDoes': WHATEVER THE INPUT: true; the input reads as it did. -/
def stateDoesSpec : ChangeSpec := { name := "stateDoes", fn := fun _ => fun
  | [d1, d2] => { results := [.lit (.bool true)], args := [d1, d2] }
  | _ => none }
def stateDoesRow : OpenClaim := { program := "ytimcbhhebnikiaa", sum := "e32adf4736e15b65d099af8e64ec499150f7f257fc1bcdde8126d4fcdaab5b47", func := "waggoner/waggonerlaw11.StateDoes", spec := "stateDoes", unfollowed := true, recurses := true, apart := false }
def StateDoesSaid : Prop := stateDoesRow.holds Try.pinned (OpenSpec.ofChange stateDoesSpec)

/-- ITS FALSE NEIGHBOUR: 'it returns false'. Refute it at one input. -/
def stateDoesWrong : ChangeSpec := { name := "stateDoes", fn := fun _ => fun
  | [d1, d2] => { results := [.lit (.bool false)], args := [d1, d2] }
  | _ => none }
def StateDoesWrongFalsely : Prop := stateDoesRow.holds Try.pinned (OpenSpec.ofChange stateDoesWrong)

/-- 'waggonerlaw11.StateRuns': WHATEVER THE INPUT: true; the input reads as it did. -/
def stateRunsSpec : ChangeSpec := { name := "stateRuns", fn := fun _ => fun
  | [d1, d2, d3] => { results := [.lit (.bool true)], args := [d1, d2, d3] }
  | _ => none }
def stateRunsRow : OpenClaim := { program := "ytimcbhhebnikiaa", sum := "e32adf4736e15b65d099af8e64ec499150f7f257fc1bcdde8126d4fcdaab5b47", func := "waggoner/waggonerlaw11.StateRuns", spec := "stateRuns", unfollowed := true, recurses := true, apart := false }
def StateRunsSaid : Prop := stateRunsRow.holds Try.pinned (OpenSpec.ofChange stateRunsSpec)

/-- ITS FALSE NEIGHBOUR: 'it returns false'. Refute it at one input. -/
def stateRunsWrong : ChangeSpec := { name := "stateRuns", fn := fun _ => fun
  | [d1, d2, d3] => { results := [.lit (.bool false)], args := [d1, d2, d3] }
  | _ => none }
def StateRunsWrongFalsely : Prop := stateRunsRow.holds Try.pinned (OpenSpec.ofChange stateRunsWrong)

/-- 'waggonerlaw11.StateDrops': WHATEVER THE INPUT: true; the input reads as it did. -/
def stateDropsSpec : ChangeSpec := { name := "stateDrops", fn := fun _ => fun
  | [d1, d2] => { results := [.lit (.bool true)], args := [d1, d2] }
  | _ => none }
def stateDropsRow : OpenClaim := { program := "ytimcbhhebnikiaa", sum := "e32adf4736e15b65d099af8e64ec499150f7f257fc1bcdde8126d4fcdaab5b47", func := "waggoner/waggonerlaw11.StateDrops", spec := "stateDrops", unfollowed := true, recurses := true, apart := false }
def StateDropsSaid : Prop := stateDropsRow.holds Try.pinned (OpenSpec.ofChange stateDropsSpec)

/-- ITS FALSE NEIGHBOUR: 'it returns false'. Refute it at one input. -/
def stateDropsWrong : ChangeSpec := { name := "stateDrops", fn := fun _ => fun
  | [d1, d2] => { results := [.lit (.bool false)], args := [d1, d2] }
  | _ => none }
def StateDropsWrongFalsely : Prop := stateDropsRow.holds Try.pinned (OpenSpec.ofChange stateDropsWrong)

/-- 'waggonerlaw11.StateStages': WHATEVER THE INPUT: true; the input reads as it did. -/
def stateStagesSpec : ChangeSpec := { name := "stateStages", fn := fun _ => fun
  | [d1, d2, d3] => { results := [.lit (.bool true)], args := [d1, d2, d3] }
  | _ => none }
def stateStagesRow : OpenClaim := { program := "ytimcbhhebnikiaa", sum := "e32adf4736e15b65d099af8e64ec499150f7f257fc1bcdde8126d4fcdaab5b47", func := "waggoner/waggonerlaw11.StateStages", spec := "stateStages", unfollowed := true, recurses := true, apart := false }
def StateStagesSaid : Prop := stateStagesRow.holds Try.pinned (OpenSpec.ofChange stateStagesSpec)

/-- ITS FALSE NEIGHBOUR: 'it returns false'. Refute it at one input. -/
def stateStagesWrong : ChangeSpec := { name := "stateStages", fn := fun _ => fun
  | [d1, d2, d3] => { results := [.lit (.bool false)], args := [d1, d2, d3] }
  | _ => none }
def StateStagesWrongFalsely : Prop := stateStagesRow.holds Try.pinned (OpenSpec.ofChange stateStagesWrong)

/-- 'waggonerlaw11.StateSince': WHATEVER THE INPUT: true; the input reads as it did. -/
def stateSinceSpec : ChangeSpec := { name := "stateSince", fn := fun _ => fun
  | [d1, d2, d3] => { results := [.lit (.bool true)], args := [d1, d2, d3] }
  | _ => none }
def stateSinceRow : OpenClaim := { program := "ytimcbhhebnikiaa", sum := "e32adf4736e15b65d099af8e64ec499150f7f257fc1bcdde8126d4fcdaab5b47", func := "waggoner/waggonerlaw11.StateSince", spec := "stateSince", unfollowed := true, recurses := true, apart := false }
def StateSinceSaid : Prop := stateSinceRow.holds Try.pinned (OpenSpec.ofChange stateSinceSpec)

/-- ITS FALSE NEIGHBOUR: 'it returns false'. Refute it at one input. -/
def stateSinceWrong : ChangeSpec := { name := "stateSince", fn := fun _ => fun
  | [d1, d2, d3] => { results := [.lit (.bool false)], args := [d1, d2, d3] }
  | _ => none }
def StateSinceWrongFalsely : Prop := stateSinceRow.holds Try.pinned (OpenSpec.ofChange stateSinceWrong)

/-- 'waggonerlaw11.StateImage': WHATEVER THE INPUT: true; the input reads as it did. -/
def stateImageSpec : ChangeSpec := { name := "stateImage", fn := fun _ => fun
  | [d1, d2] => { results := [.lit (.bool true)], args := [d1, d2] }
  | _ => none }
def stateImageRow : OpenClaim := { program := "ytimcbhhebnikiaa", sum := "e32adf4736e15b65d099af8e64ec499150f7f257fc1bcdde8126d4fcdaab5b47", func := "waggoner/waggonerlaw11.StateImage", spec := "stateImage", unfollowed := true, recurses := true, apart := false }
def StateImageSaid : Prop := stateImageRow.holds Try.pinned (OpenSpec.ofChange stateImageSpec)

/-- ITS FALSE NEIGHBOUR: 'it returns false'. Refute it at one input. -/
def stateImageWrong : ChangeSpec := { name := "stateImage", fn := fun _ => fun
  | [d1, d2] => { results := [.lit (.bool false)], args := [d1, d2] }
  | _ => none }
def StateImageWrongFalsely : Prop := stateImageRow.holds Try.pinned (OpenSpec.ofChange stateImageWrong)

/- THE SECOND FORM. 'bulk': how many values and letters a reading holds, each counted each time it is reached (what is shared counts as often as it is met; a slice's spare places count too). A statement '..UptoSaid' is the law's where the arguments, and the package variables that the reading takes, are together of bulk at most 1048576: NARROWER than '..Said'. Prove '..Said' where nothing that the law and all that it calls make is longer than what came in: it says more and counts as full. Else prove '..UptoSaid'. A law counts once. -/
mutual
def uptoBulk {H : Type} : DataW H → Nat
  | .lit (.string bytes) => bytes.length + 1
  | .lit _ => 1
  | .nil => 1
  | .ptr d => uptoBulk d + 1
  | .slice elems spare => uptoBulkAll elems + uptoBulkAll spare + 1
  | .agg parts => uptoBulkAll parts + 1
  | .iface _ d => uptoBulk d + 1
  | .map entries => uptoBulkEntries entries + 1
  | .held _ => 1
def uptoBulkAll {H : Type} : List (DataW H) → Nat
  | [] => 0
  | d :: r => uptoBulk d + uptoBulkAll r
def uptoBulkEntries {H : Type} : List (Lit × DataW H) → Nat
  | [] => 0
  | x :: r => uptoBulkEntry x + uptoBulkEntries r
def uptoBulkEntry {H : Type} : Lit × DataW H → Nat
  | (.string bytes, d) => bytes.length + uptoBulk d + 1
  | (_, d) => uptoBulk d + 1
 end
def uptoSmall : (H : Type) → List (DataW H) → Bool := fun _ ds => decide (uptoBulkAll ds ≤ 1048576)
def OpenSpec.upto (s : _root_.Go.ChangeSpec) : _root_.Go.OpenSpec := { _root_.Go.OpenSpec.ofChange s with cond := some uptoSmall }

/-- 'waggonerlaw11.StateNames', WHERE WHAT IT READS IS OF BULK AT MOST 1048576: true; the input reads as it did. -/
def stateNamesUptoRow : OpenClaim := { program := "ytimcbhhebnikiaa", sum := "e32adf4736e15b65d099af8e64ec499150f7f257fc1bcdde8126d4fcdaab5b47", func := "waggoner/waggonerlaw11.StateNames", spec := "stateNames", unfollowed := true, recurses := true, apart := false, narrowed := true }
def StateNamesUptoSaid : Prop := stateNamesUptoRow.holds Try.pinned (OpenSpec.upto stateNamesSpec)

/-- 'waggonerlaw11.StateTells', WHERE WHAT IT READS IS OF BULK AT MOST 1048576: true; the input reads as it did. -/
def stateTellsUptoRow : OpenClaim := { program := "ytimcbhhebnikiaa", sum := "e32adf4736e15b65d099af8e64ec499150f7f257fc1bcdde8126d4fcdaab5b47", func := "waggoner/waggonerlaw11.StateTells", spec := "stateTells", unfollowed := true, recurses := true, apart := false, narrowed := true }
def StateTellsUptoSaid : Prop := stateTellsUptoRow.holds Try.pinned (OpenSpec.upto stateTellsSpec)

/-- 'waggonerlaw11.StateDoes', WHERE WHAT IT READS IS OF BULK AT MOST 1048576: true; the input reads as it did. -/
def stateDoesUptoRow : OpenClaim := { program := "ytimcbhhebnikiaa", sum := "e32adf4736e15b65d099af8e64ec499150f7f257fc1bcdde8126d4fcdaab5b47", func := "waggoner/waggonerlaw11.StateDoes", spec := "stateDoes", unfollowed := true, recurses := true, apart := false, narrowed := true }
def StateDoesUptoSaid : Prop := stateDoesUptoRow.holds Try.pinned (OpenSpec.upto stateDoesSpec)

/-- 'waggonerlaw11.StateRuns', WHERE WHAT IT READS IS OF BULK AT MOST 1048576: true; the input reads as it did. -/
def stateRunsUptoRow : OpenClaim := { program := "ytimcbhhebnikiaa", sum := "e32adf4736e15b65d099af8e64ec499150f7f257fc1bcdde8126d4fcdaab5b47", func := "waggoner/waggonerlaw11.StateRuns", spec := "stateRuns", unfollowed := true, recurses := true, apart := false, narrowed := true }
def StateRunsUptoSaid : Prop := stateRunsUptoRow.holds Try.pinned (OpenSpec.upto stateRunsSpec)

/-- 'waggonerlaw11.StateDrops', WHERE WHAT IT READS IS OF BULK AT MOST 1048576: true; the input reads as it did. -/
def stateDropsUptoRow : OpenClaim := { program := "ytimcbhhebnikiaa", sum := "e32adf4736e15b65d099af8e64ec499150f7f257fc1bcdde8126d4fcdaab5b47", func := "waggoner/waggonerlaw11.StateDrops", spec := "stateDrops", unfollowed := true, recurses := true, apart := false, narrowed := true }
def StateDropsUptoSaid : Prop := stateDropsUptoRow.holds Try.pinned (OpenSpec.upto stateDropsSpec)

/-- 'waggonerlaw11.StateStages', WHERE WHAT IT READS IS OF BULK AT MOST 1048576: true; the input reads as it did. -/
def stateStagesUptoRow : OpenClaim := { program := "ytimcbhhebnikiaa", sum := "e32adf4736e15b65d099af8e64ec499150f7f257fc1bcdde8126d4fcdaab5b47", func := "waggoner/waggonerlaw11.StateStages", spec := "stateStages", unfollowed := true, recurses := true, apart := false, narrowed := true }
def StateStagesUptoSaid : Prop := stateStagesUptoRow.holds Try.pinned (OpenSpec.upto stateStagesSpec)

/-- 'waggonerlaw11.StateSince', WHERE WHAT IT READS IS OF BULK AT MOST 1048576: true; the input reads as it did. -/
def stateSinceUptoRow : OpenClaim := { program := "ytimcbhhebnikiaa", sum := "e32adf4736e15b65d099af8e64ec499150f7f257fc1bcdde8126d4fcdaab5b47", func := "waggoner/waggonerlaw11.StateSince", spec := "stateSince", unfollowed := true, recurses := true, apart := false, narrowed := true }
def StateSinceUptoSaid : Prop := stateSinceUptoRow.holds Try.pinned (OpenSpec.upto stateSinceSpec)

/-- 'waggonerlaw11.StateImage', WHERE WHAT IT READS IS OF BULK AT MOST 1048576: true; the input reads as it did. -/
def stateImageUptoRow : OpenClaim := { program := "ytimcbhhebnikiaa", sum := "e32adf4736e15b65d099af8e64ec499150f7f257fc1bcdde8126d4fcdaab5b47", func := "waggoner/waggonerlaw11.StateImage", spec := "stateImage", unfollowed := true, recurses := true, apart := false, narrowed := true }
def StateImageUptoSaid : Prop := stateImageUptoRow.holds Try.pinned (OpenSpec.upto stateImageSpec)

end Rows
end Go.Proofs.Ytimcbhhebnikiaa
