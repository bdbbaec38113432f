/-
  No cell of these rows narrows 'for every input' (looked for: loops, veiled, ifaces, maps, wideKeys, modest, calm, conditions, laid).
  DERIVED. THE GIVEN ROWS OF THIS SEAT. 4 by the template 'for every input the law returns true; each argument reads behind the call as it read before'; 0 by the template 'total and deterministic' (their statements: YtpflcogplhigcaaTotals.lean).
  GIVEN WITH THE SEED: the statements are not yours to turn. If you find one false, say at which input.
  Laid BY PROGRAM, IN A SANDBOX (cutbox-rows.mjs): the forced cells as the released guide's own fill.sh prints them over the translation e7ea299bc5edba92… (all of the seat's roots in one cut). By AI agents, Wed Nov 11 2026. No macro, syntax, notation, axiom, sorry.
-/
import Derived.Test.YtpflcogplhigcaaChecked
import GoSem.Claim
import GoSem.ClaimJoined
import GoSem.ClaimMapViews
import Derived.JoinedTies
import Derived.KernelRfl
namespace Go.Proofs.Ytpflcogplhigcaa
/- THE CELL 'sum', in the pinned program and in every row, IS THE sha256 OF THE DUMP (.gsa) THAT YtpflcogplhigcaaProg.lean LOADS. Nothing in Lean hashes anything: it is a label: what it is worth is what the hold of that sum in a sandbox is worth. -/
noncomputable def Try.pinned : Pinned := { name := "ytpflcogplhigcaa", sum := "e7ea299bc5edba9294726da9a3b134283b9ee93768c1fa48e91264d29271dd8c", checked := Try.checked }
namespace Rows
def none {H : Type} : Left H := { results := [], args := [] }

/-- 'waggonerlaw18.SendTwice': WHATEVER THE INPUT: true; the input reads as it did. -/
def sendTwiceSpec : ChangeSpec := { name := "sendTwice", fn := fun _ => fun
  | [d1, d2, d3] => { results := [.lit (.bool true)], args := [d1, d2, d3] }
  | _ => none }
def sendTwiceRow : OpenClaim := { program := "ytpflcogplhigcaa", sum := "e7ea299bc5edba9294726da9a3b134283b9ee93768c1fa48e91264d29271dd8c", func := "waggoner/waggonerlaw18.SendTwice", spec := "sendTwice", unfollowed := true, recurses := true, apart := false }
def SendTwiceSaid : Prop := sendTwiceRow.holds Try.pinned (OpenSpec.ofChange sendTwiceSpec)

/-- ITS FALSE NEIGHBOUR: 'it returns false'. Refute it at one input. -/
def sendTwiceWrong : ChangeSpec := { name := "sendTwice", fn := fun _ => fun
  | [d1, d2, d3] => { results := [.lit (.bool false)], args := [d1, d2, d3] }
  | _ => none }
def SendTwiceWrongFalsely : Prop := sendTwiceRow.holds Try.pinned (OpenSpec.ofChange sendTwiceWrong)

/-- 'waggonerlaw18.SendLays': WHATEVER THE INPUT: true; the input reads as it did. -/
def sendLaysSpec : ChangeSpec := { name := "sendLays", fn := fun _ => fun
  | [d1, d2, d3] => { results := [.lit (.bool true)], args := [d1, d2, d3] }
  | _ => none }
def sendLaysRow : OpenClaim := { program := "ytpflcogplhigcaa", sum := "e7ea299bc5edba9294726da9a3b134283b9ee93768c1fa48e91264d29271dd8c", func := "waggoner/waggonerlaw18.SendLays", spec := "sendLays", unfollowed := true, recurses := true, apart := false }
def SendLaysSaid : Prop := sendLaysRow.holds Try.pinned (OpenSpec.ofChange sendLaysSpec)

/-- ITS FALSE NEIGHBOUR: 'it returns false'. Refute it at one input. -/
def sendLaysWrong : ChangeSpec := { name := "sendLays", fn := fun _ => fun
  | [d1, d2, d3] => { results := [.lit (.bool false)], args := [d1, d2, d3] }
  | _ => none }
def SendLaysWrongFalsely : Prop := sendLaysRow.holds Try.pinned (OpenSpec.ofChange sendLaysWrong)

/-- 'waggonerlaw18.SendMakes': WHATEVER THE INPUT: true; the input reads as it did. -/
def sendMakesSpec : ChangeSpec := { name := "sendMakes", fn := fun _ => fun
  | [d1, d2, d3] => { results := [.lit (.bool true)], args := [d1, d2, d3] }
  | _ => none }
def sendMakesRow : OpenClaim := { program := "ytpflcogplhigcaa", sum := "e7ea299bc5edba9294726da9a3b134283b9ee93768c1fa48e91264d29271dd8c", func := "waggoner/waggonerlaw18.SendMakes", spec := "sendMakes", unfollowed := true, recurses := true, apart := false }
def SendMakesSaid : Prop := sendMakesRow.holds Try.pinned (OpenSpec.ofChange sendMakesSpec)

/-- ITS FALSE NEIGHBOUR: 'it returns false'. Refute it at one input. -/
def sendMakesWrong : ChangeSpec := { name := "sendMakes", fn := fun _ => fun
  | [d1, d2, d3] => { results := [.lit (.bool false)], args := [d1, d2, d3] }
  | _ => none }
def SendMakesWrongFalsely : Prop := sendMakesRow.holds Try.pinned (OpenSpec.ofChange sendMakesWrong)

/-- 'waggonerlaw18.SendTells': WHATEVER THE INPUT: true; the input reads as it did. -/
def sendTellsSpec : ChangeSpec := { name := "sendTells", fn := fun _ => fun
  | [d1, d2, d3] => { results := [.lit (.bool true)], args := [d1, d2, d3] }
  | _ => none }
def sendTellsRow : OpenClaim := { program := "ytpflcogplhigcaa", sum := "e7ea299bc5edba9294726da9a3b134283b9ee93768c1fa48e91264d29271dd8c", func := "waggoner/waggonerlaw18.SendTells", spec := "sendTells", unfollowed := true, recurses := true, apart := false }
def SendTellsSaid : Prop := sendTellsRow.holds Try.pinned (OpenSpec.ofChange sendTellsSpec)

/-- ITS FALSE NEIGHBOUR: 'it returns false'. Refute it at one input. -/
def sendTellsWrong : ChangeSpec := { name := "sendTells", fn := fun _ => fun
  | [d1, d2, d3] => { results := [.lit (.bool false)], args := [d1, d2, d3] }
  | _ => none }
def SendTellsWrongFalsely : Prop := sendTellsRow.holds Try.pinned (OpenSpec.ofChange sendTellsWrong)

/- THE SECOND FORM. 'bulk': how many values and letters a reading holds, each counted each time it is reached (what is shared counts as often as it is met; a slice's spare places count too). A statement '..UptoSaid' is the law's where the arguments, and the package variables that the reading takes, are together of bulk at most 1048576: NARROWER than '..Said'. Prove '..Said' where nothing that the law and all that it calls make is longer than what came in: it says more and counts as full. Else prove '..UptoSaid'. A law counts once. -/
mutual
def uptoBulk {H : Type} : DataW H → Nat
  | .lit (.string bytes) => bytes.length + 1
  | .lit _ => 1
  | .nil => 1
  | .ptr d => uptoBulk d + 1
  | .slice elems spare => uptoBulkAll elems + uptoBulkAll spare + 1
  | .agg parts => uptoBulkAll parts + 1
  | .iface _ d => uptoBulk d + 1
  | .map entries => uptoBulkEntries entries + 1
  | .held _ => 1
def uptoBulkAll {H : Type} : List (DataW H) → Nat
  | [] => 0
  | d :: r => uptoBulk d + uptoBulkAll r
def uptoBulkEntries {H : Type} : List (Lit × DataW H) → Nat
  | [] => 0
  | x :: r => uptoBulkEntry x + uptoBulkEntries r
def uptoBulkEntry {H : Type} : Lit × DataW H → Nat
  | (.string bytes, d) => bytes.length + uptoBulk d + 1
  | (_, d) => uptoBulk d + 1
 end
def uptoSmall : (H : Type) → List (DataW H) → Bool := fun _ ds => decide (uptoBulkAll ds ≤ 1048576)
def OpenSpec.upto (s : _root_.Go.ChangeSpec) : _root_.Go.OpenSpec := { _root_.Go.OpenSpec.ofChange s with cond := some uptoSmall }

/-- 'waggonerlaw18.SendTwice', WHERE WHAT IT READS IS OF BULK AT MOST 1048576: true; the input reads as it did. -/
def sendTwiceUptoRow : OpenClaim := { program := "ytpflcogplhigcaa", sum := "e7ea299bc5edba9294726da9a3b134283b9ee93768c1fa48e91264d29271dd8c", func := "waggoner/waggonerlaw18.SendTwice", spec := "sendTwice", unfollowed := true, recurses := true, apart := false, narrowed := true }
def SendTwiceUptoSaid : Prop := sendTwiceUptoRow.holds Try.pinned (OpenSpec.upto sendTwiceSpec)

/-- 'waggonerlaw18.SendLays', WHERE WHAT IT READS IS OF BULK AT MOST 1048576: true; the input reads as it did. -/
def sendLaysUptoRow : OpenClaim := { program := "ytpflcogplhigcaa", sum := "e7ea299bc5edba9294726da9a3b134283b9ee93768c1fa48e91264d29271dd8c", func := "waggoner/waggonerlaw18.SendLays", spec := "sendLays", unfollowed := true, recurses := true, apart := false, narrowed := true }
def SendLaysUptoSaid : Prop := sendLaysUptoRow.holds Try.pinned (OpenSpec.upto sendLaysSpec)

/-- 'waggonerlaw18.SendMakes', WHERE WHAT IT READS IS OF BULK AT MOST 1048576: true; the input reads as it did. -/
def sendMakesUptoRow : OpenClaim := { program := "ytpflcogplhigcaa", sum := "e7ea299bc5edba9294726da9a3b134283b9ee93768c1fa48e91264d29271dd8c", func := "waggoner/waggonerlaw18.SendMakes", spec := "sendMakes", unfollowed := true, recurses := true, apart := false, narrowed := true }
def SendMakesUptoSaid : Prop := sendMakesUptoRow.holds Try.pinned (OpenSpec.upto sendMakesSpec)

/-- 'waggonerlaw18.SendTells', WHERE WHAT IT READS IS OF BULK AT MOST 1048576: true; the input reads as it did. -/
def sendTellsUptoRow : OpenClaim := { program := "ytpflcogplhigcaa", sum := "e7ea299bc5edba9294726da9a3b134283b9ee93768c1fa48e91264d29271dd8c", func := "waggoner/waggonerlaw18.SendTells", spec := "sendTells", unfollowed := true, recurses := true, apart := false, narrowed := true }
def SendTellsUptoSaid : Prop := sendTellsUptoRow.holds Try.pinned (OpenSpec.upto sendTellsSpec)

end Rows
end Go.Proofs.Ytpflcogplhigcaa
