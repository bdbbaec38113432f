/-
  No cell of these rows narrows 'for every input' (looked for: loops, veiled, ifaces, maps, wideKeys, modest, calm, conditions, laid).
  DERIVED. THE GIVEN ROWS OF THIS SEAT. 4 by the template 'for every input the law returns true; each argument reads behind the call as it read before'; 0 by the template 'total and deterministic' (their statements: YtiaelfmohamipaaTotals.lean).
  GIVEN WITH THE SEED: the statements are not yours to turn. If you find one false, say at which input.
  Laid BY PROGRAM, IN A SANDBOX (cutbox-rows.mjs): the forced cells as the released guide's own fill.sh prints them over the translation 75b57a4ae1838d0c… (all of the seat's roots in one cut). By AI agents, Wed Nov 11 2026. No macro, syntax, notation, axiom, sorry.
-/
import Derived.Test.YtiaelfmohamipaaChecked
import GoSem.Claim
import GoSem.ClaimJoined
import GoSem.ClaimMapViews
import Derived.JoinedTies
import Derived.KernelRfl
namespace Go.Proofs.Ytiaelfmohamipaa
/- THE CELL 'sum', in the pinned program and in every row, IS THE sha256 OF THE DUMP (.gsa) THAT YtiaelfmohamipaaProg.lean LOADS. Nothing in Lean hashes anything: it is a label: what it is worth is what the hold of that sum in a sandbox is worth. -/
noncomputable def Try.pinned : Pinned := { name := "ytiaelfmohamipaa", sum := "75b57a4ae1838d0ccc0a84e7e8f2247c1f629b1b65c16c1ba0a921e7e0a499da", checked := Try.checked }
namespace Rows
def none {H : Type} : Left H := { results := [], args := [] }

/-- 'waggonerlaw15.ZerosTells': WHATEVER THE INPUT: true; the input reads as it did. -/
def zerosTellsSpec : ChangeSpec := { name := "zerosTells", fn := fun _ => fun
  | [d1, d2, d3] => { results := [.lit (.bool true)], args := [d1, d2, d3] }
  | _ => none }
def zerosTellsRow : OpenClaim := { program := "ytiaelfmohamipaa", sum := "75b57a4ae1838d0ccc0a84e7e8f2247c1f629b1b65c16c1ba0a921e7e0a499da", func := "waggoner/waggonerlaw15.ZerosTells", spec := "zerosTells", unfollowed := true, recurses := true, apart := false }
def ZerosTellsSaid : Prop := zerosTellsRow.holds Try.pinned (OpenSpec.ofChange zerosTellsSpec)

/-- ITS FALSE NEIGHBOUR: 'it returns false'. Refute it at one input. -/
def zerosTellsWrong : ChangeSpec := { name := "zerosTells", fn := fun _ => fun
  | [d1, d2, d3] => { results := [.lit (.bool false)], args := [d1, d2, d3] }
  | _ => none }
def ZerosTellsWrongFalsely : Prop := zerosTellsRow.holds Try.pinned (OpenSpec.ofChange zerosTellsWrong)

/-- 'waggonerlaw15.ZerosRuns': WHATEVER THE INPUT: true; the input reads as it did. -/
def zerosRunsSpec : ChangeSpec := { name := "zerosRuns", fn := fun _ => fun
  | [d1, d2] => { results := [.lit (.bool true)], args := [d1, d2] }
  | _ => none }
def zerosRunsRow : OpenClaim := { program := "ytiaelfmohamipaa", sum := "75b57a4ae1838d0ccc0a84e7e8f2247c1f629b1b65c16c1ba0a921e7e0a499da", func := "waggoner/waggonerlaw15.ZerosRuns", spec := "zerosRuns", unfollowed := true, recurses := true, apart := false }
def ZerosRunsSaid : Prop := zerosRunsRow.holds Try.pinned (OpenSpec.ofChange zerosRunsSpec)

/-- ITS FALSE NEIGHBOUR: 'it returns false'. Refute it at one input. -/
def zerosRunsWrong : ChangeSpec := { name := "zerosRuns", fn := fun _ => fun
  | [d1, d2] => { results := [.lit (.bool false)], args := [d1, d2] }
  | _ => none }
def ZerosRunsWrongFalsely : Prop := zerosRunsRow.holds Try.pinned (OpenSpec.ofChange zerosRunsWrong)

/-- 'waggonerlaw15.ZerosBack': WHATEVER THE INPUT: true; the input reads as it did. -/
def zerosBackSpec : ChangeSpec := { name := "zerosBack", fn := fun _ => fun
  | [d1, d2] => { results := [.lit (.bool true)], args := [d1, d2] }
  | _ => none }
def zerosBackRow : OpenClaim := { program := "ytiaelfmohamipaa", sum := "75b57a4ae1838d0ccc0a84e7e8f2247c1f629b1b65c16c1ba0a921e7e0a499da", func := "waggoner/waggonerlaw15.ZerosBack", spec := "zerosBack", unfollowed := true, recurses := true, apart := false }
def ZerosBackSaid : Prop := zerosBackRow.holds Try.pinned (OpenSpec.ofChange zerosBackSpec)

/-- ITS FALSE NEIGHBOUR: 'it returns false'. Refute it at one input. -/
def zerosBackWrong : ChangeSpec := { name := "zerosBack", fn := fun _ => fun
  | [d1, d2] => { results := [.lit (.bool false)], args := [d1, d2] }
  | _ => none }
def ZerosBackWrongFalsely : Prop := zerosBackRow.holds Try.pinned (OpenSpec.ofChange zerosBackWrong)

/-- 'waggonerlaw15.ZerosPacks': WHATEVER THE INPUT: true; the input reads as it did. -/
def zerosPacksSpec : ChangeSpec := { name := "zerosPacks", fn := fun _ => fun
  | [d] => { results := [.lit (.bool true)], args := [d] }
  | _ => none }
def zerosPacksRow : OpenClaim := { program := "ytiaelfmohamipaa", sum := "75b57a4ae1838d0ccc0a84e7e8f2247c1f629b1b65c16c1ba0a921e7e0a499da", func := "waggoner/waggonerlaw15.ZerosPacks", spec := "zerosPacks", unfollowed := true, recurses := true, apart := false }
def ZerosPacksSaid : Prop := zerosPacksRow.holds Try.pinned (OpenSpec.ofChange zerosPacksSpec)

/-- ITS FALSE NEIGHBOUR: 'it returns false'. Refute it at one input. -/
def zerosPacksWrong : ChangeSpec := { name := "zerosPacks", fn := fun _ => fun
  | [d] => { results := [.lit (.bool false)], args := [d] }
  | _ => none }
def ZerosPacksWrongFalsely : Prop := zerosPacksRow.holds Try.pinned (OpenSpec.ofChange zerosPacksWrong)

/- THE SECOND FORM. 'bulk': how many values and letters a reading holds, each counted each time it is reached (what is shared counts as often as it is met; a slice's spare places count too). A statement '..UptoSaid' is the law's where the arguments, and the package variables that the reading takes, are together of bulk at most 1048576: NARROWER than '..Said'. Prove '..Said' where nothing that the law and all that it calls make is longer than what came in: it says more and counts as full. Else prove '..UptoSaid'. A law counts once. -/
mutual
def uptoBulk {H : Type} : DataW H → Nat
  | .lit (.string bytes) => bytes.length + 1
  | .lit _ => 1
  | .nil => 1
  | .ptr d => uptoBulk d + 1
  | .slice elems spare => uptoBulkAll elems + uptoBulkAll spare + 1
  | .agg parts => uptoBulkAll parts + 1
  | .iface _ d => uptoBulk d + 1
  | .map entries => uptoBulkEntries entries + 1
  | .held _ => 1
def uptoBulkAll {H : Type} : List (DataW H) → Nat
  | [] => 0
  | d :: r => uptoBulk d + uptoBulkAll r
def uptoBulkEntries {H : Type} : List (Lit × DataW H) → Nat
  | [] => 0
  | x :: r => uptoBulkEntry x + uptoBulkEntries r
def uptoBulkEntry {H : Type} : Lit × DataW H → Nat
  | (.string bytes, d) => bytes.length + uptoBulk d + 1
  | (_, d) => uptoBulk d + 1
 end
def uptoSmall : (H : Type) → List (DataW H) → Bool := fun _ ds => decide (uptoBulkAll ds ≤ 1048576)
def OpenSpec.upto (s : _root_.Go.ChangeSpec) : _root_.Go.OpenSpec := { _root_.Go.OpenSpec.ofChange s with cond := some uptoSmall }

/-- 'waggonerlaw15.ZerosTells', WHERE WHAT IT READS IS OF BULK AT MOST 1048576: true; the input reads as it did. -/
def zerosTellsUptoRow : OpenClaim := { program := "ytiaelfmohamipaa", sum := "75b57a4ae1838d0ccc0a84e7e8f2247c1f629b1b65c16c1ba0a921e7e0a499da", func := "waggoner/waggonerlaw15.ZerosTells", spec := "zerosTells", unfollowed := true, recurses := true, apart := false, narrowed := true }
def ZerosTellsUptoSaid : Prop := zerosTellsUptoRow.holds Try.pinned (OpenSpec.upto zerosTellsSpec)

/-- 'waggonerlaw15.ZerosRuns', WHERE WHAT IT READS IS OF BULK AT MOST 1048576: true; the input reads as it did. -/
def zerosRunsUptoRow : OpenClaim := { program := "ytiaelfmohamipaa", sum := "75b57a4ae1838d0ccc0a84e7e8f2247c1f629b1b65c16c1ba0a921e7e0a499da", func := "waggoner/waggonerlaw15.ZerosRuns", spec := "zerosRuns", unfollowed := true, recurses := true, apart := false, narrowed := true }
def ZerosRunsUptoSaid : Prop := zerosRunsUptoRow.holds Try.pinned (OpenSpec.upto zerosRunsSpec)

/-- 'waggonerlaw15.ZerosBack', WHERE WHAT IT READS IS OF BULK AT MOST 1048576: true; the input reads as it did. -/
def zerosBackUptoRow : OpenClaim := { program := "ytiaelfmohamipaa", sum := "75b57a4ae1838d0ccc0a84e7e8f2247c1f629b1b65c16c1ba0a921e7e0a499da", func := "waggoner/waggonerlaw15.ZerosBack", spec := "zerosBack", unfollowed := true, recurses := true, apart := false, narrowed := true }
def ZerosBackUptoSaid : Prop := zerosBackUptoRow.holds Try.pinned (OpenSpec.upto zerosBackSpec)

/-- 'waggonerlaw15.ZerosPacks', WHERE WHAT IT READS IS OF BULK AT MOST 1048576: true; the input reads as it did. -/
def zerosPacksUptoRow : OpenClaim := { program := "ytiaelfmohamipaa", sum := "75b57a4ae1838d0ccc0a84e7e8f2247c1f629b1b65c16c1ba0a921e7e0a499da", func := "waggoner/waggonerlaw15.ZerosPacks", spec := "zerosPacks", unfollowed := true, recurses := true, apart := false, narrowed := true }
def ZerosPacksUptoSaid : Prop := zerosPacksUptoRow.holds Try.pinned (OpenSpec.upto zerosPacksSpec)

end Rows
end Go.Proofs.Ytiaelfmohamipaa
