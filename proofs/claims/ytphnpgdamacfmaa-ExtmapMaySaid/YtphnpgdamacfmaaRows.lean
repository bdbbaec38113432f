/-
  No cell of these rows narrows 'for every input' (looked for: loops, veiled, ifaces, maps, wideKeys, modest, calm, conditions, laid).
  DERIVED. THE GIVEN ROWS OF THIS SEAT. 6 by the template 'for every input the law returns true; each argument reads behind the call as it read before'; 0 by the template 'total and deterministic' (their statements: YtphnpgdamacfmaaTotals.lean).
  GIVEN WITH THE SEED: the statements are not yours to turn. If you find one false, say at which input.
  Laid BY PROGRAM, IN A SANDBOX (cutbox-rows.mjs): the forced cells as the released guide's own fill.sh prints them over the translation e42335509069dadf… (all of the seat's roots in one cut). By AI agents, Wed Nov 11 2026. No macro, syntax, notation, axiom, sorry.
-/
import Derived.Test.YtphnpgdamacfmaaChecked
import GoSem.Claim
import GoSem.ClaimJoined
import GoSem.ClaimMapViews
import Derived.JoinedTies
import Derived.KernelRfl
namespace Go.Proofs.Ytphnpgdamacfmaa
/- THE CELL 'sum', in the pinned program and in every row, IS THE sha256 OF THE DUMP (.gsa) THAT YtphnpgdamacfmaaProg.lean LOADS. Nothing in Lean hashes anything: it is a label: what it is worth is what the hold of that sum in a sandbox is worth. -/
noncomputable def Try.pinned : Pinned := { name := "ytphnpgdamacfmaa", sum := "e42335509069dadfeb2a075c07f5ce30d8d12b83b8cde076e3dcd44e1920ebb9", checked := Try.checked }
namespace Rows
def none {H : Type} : Left H := { results := [], args := [] }

/-- 'waggonerlaw08.ExtmapTells': WHATEVER THE INPUT: true; the input reads as it did. -/
def extmapTellsSpec : ChangeSpec := { name := "extmapTells", fn := fun _ => fun
  | [d1, d2, d3, d4, d5, d6] => { results := [.lit (.bool true)], args := [d1, d2, d3, d4, d5, d6] }
  | _ => none }
def extmapTellsRow : OpenClaim := { program := "ytphnpgdamacfmaa", sum := "e42335509069dadfeb2a075c07f5ce30d8d12b83b8cde076e3dcd44e1920ebb9", func := "waggoner/waggonerlaw08.ExtmapTells", spec := "extmapTells", unfollowed := true, recurses := true, apart := false }
def ExtmapTellsSaid : Prop := extmapTellsRow.holds Try.pinned (OpenSpec.ofChange extmapTellsSpec)

/-- ITS FALSE NEIGHBOUR: 'it returns false'. Refute it at one input. -/
def extmapTellsWrong : ChangeSpec := { name := "extmapTells", fn := fun _ => fun
  | [d1, d2, d3, d4, d5, d6] => { results := [.lit (.bool false)], args := [d1, d2, d3, d4, d5, d6] }
  | _ => none }
def ExtmapTellsWrongFalsely : Prop := extmapTellsRow.holds Try.pinned (OpenSpec.ofChange extmapTellsWrong)

/-- 'waggonerlaw08.ExtmapMay': WHATEVER THE INPUT: true; the input reads as it did. -/
def extmapMaySpec : ChangeSpec := { name := "extmapMay", fn := fun _ => fun
  | [d1, d2] => { results := [.lit (.bool true)], args := [d1, d2] }
  | _ => none }
def extmapMayRow : OpenClaim := { program := "ytphnpgdamacfmaa", sum := "e42335509069dadfeb2a075c07f5ce30d8d12b83b8cde076e3dcd44e1920ebb9", func := "waggoner/waggonerlaw08.ExtmapMay", spec := "extmapMay", unfollowed := true, recurses := true, apart := false }
def ExtmapMaySaid : Prop := extmapMayRow.holds Try.pinned (OpenSpec.ofChange extmapMaySpec)

/-- ITS FALSE NEIGHBOUR: 'it returns false'. Refute it at one input. -/
def extmapMayWrong : ChangeSpec := { name := "extmapMay", fn := fun _ => fun
  | [d1, d2] => { results := [.lit (.bool false)], args := [d1, d2] }
  | _ => none }
def ExtmapMayWrongFalsely : Prop := extmapMayRow.holds Try.pinned (OpenSpec.ofChange extmapMayWrong)

/-- 'waggonerlaw08.ExtmapHides': WHATEVER THE INPUT: true; the input reads as it did. -/
def extmapHidesSpec : ChangeSpec := { name := "extmapHides", fn := fun _ => fun
  | [d1, d2, d3, d4] => { results := [.lit (.bool true)], args := [d1, d2, d3, d4] }
  | _ => none }
def extmapHidesRow : OpenClaim := { program := "ytphnpgdamacfmaa", sum := "e42335509069dadfeb2a075c07f5ce30d8d12b83b8cde076e3dcd44e1920ebb9", func := "waggoner/waggonerlaw08.ExtmapHides", spec := "extmapHides", unfollowed := true, recurses := true, apart := false }
def ExtmapHidesSaid : Prop := extmapHidesRow.holds Try.pinned (OpenSpec.ofChange extmapHidesSpec)

/-- ITS FALSE NEIGHBOUR: 'it returns false'. Refute it at one input. -/
def extmapHidesWrong : ChangeSpec := { name := "extmapHides", fn := fun _ => fun
  | [d1, d2, d3, d4] => { results := [.lit (.bool false)], args := [d1, d2, d3, d4] }
  | _ => none }
def ExtmapHidesWrongFalsely : Prop := extmapHidesRow.holds Try.pinned (OpenSpec.ofChange extmapHidesWrong)

/-- 'waggonerlaw08.ExtmapBack': WHATEVER THE INPUT: true; the input reads as it did. -/
def extmapBackSpec : ChangeSpec := { name := "extmapBack", fn := fun _ => fun
  | [d1, d2, d3] => { results := [.lit (.bool true)], args := [d1, d2, d3] }
  | _ => none }
def extmapBackRow : OpenClaim := { program := "ytphnpgdamacfmaa", sum := "e42335509069dadfeb2a075c07f5ce30d8d12b83b8cde076e3dcd44e1920ebb9", func := "waggoner/waggonerlaw08.ExtmapBack", spec := "extmapBack", unfollowed := true, recurses := true, apart := false }
def ExtmapBackSaid : Prop := extmapBackRow.holds Try.pinned (OpenSpec.ofChange extmapBackSpec)

/-- ITS FALSE NEIGHBOUR: 'it returns false'. Refute it at one input. -/
def extmapBackWrong : ChangeSpec := { name := "extmapBack", fn := fun _ => fun
  | [d1, d2, d3] => { results := [.lit (.bool false)], args := [d1, d2, d3] }
  | _ => none }
def ExtmapBackWrongFalsely : Prop := extmapBackRow.holds Try.pinned (OpenSpec.ofChange extmapBackWrong)

/-- 'waggonerlaw08.ExtmapParts': WHATEVER THE INPUT: true; the input reads as it did. -/
def extmapPartsSpec : ChangeSpec := { name := "extmapParts", fn := fun _ => fun
  | [d1, d2, d3, d4, d5] => { results := [.lit (.bool true)], args := [d1, d2, d3, d4, d5] }
  | _ => none }
def extmapPartsRow : OpenClaim := { program := "ytphnpgdamacfmaa", sum := "e42335509069dadfeb2a075c07f5ce30d8d12b83b8cde076e3dcd44e1920ebb9", func := "waggoner/waggonerlaw08.ExtmapParts", spec := "extmapParts", unfollowed := true, recurses := true, apart := false }
def ExtmapPartsSaid : Prop := extmapPartsRow.holds Try.pinned (OpenSpec.ofChange extmapPartsSpec)

/-- ITS FALSE NEIGHBOUR: 'it returns false'. Refute it at one input. -/
def extmapPartsWrong : ChangeSpec := { name := "extmapParts", fn := fun _ => fun
  | [d1, d2, d3, d4, d5] => { results := [.lit (.bool false)], args := [d1, d2, d3, d4, d5] }
  | _ => none }
def ExtmapPartsWrongFalsely : Prop := extmapPartsRow.holds Try.pinned (OpenSpec.ofChange extmapPartsWrong)

/-- 'waggonerlaw08.ExtmapMany': WHATEVER THE INPUT: true; the input reads as it did. -/
def extmapManySpec : ChangeSpec := { name := "extmapMany", fn := fun _ => fun
  | [d1, d2] => { results := [.lit (.bool true)], args := [d1, d2] }
  | _ => none }
def extmapManyRow : OpenClaim := { program := "ytphnpgdamacfmaa", sum := "e42335509069dadfeb2a075c07f5ce30d8d12b83b8cde076e3dcd44e1920ebb9", func := "waggoner/waggonerlaw08.ExtmapMany", spec := "extmapMany", unfollowed := true, recurses := true, apart := false }
def ExtmapManySaid : Prop := extmapManyRow.holds Try.pinned (OpenSpec.ofChange extmapManySpec)

/-- ITS FALSE NEIGHBOUR: 'it returns false'. Refute it at one input. -/
def extmapManyWrong : ChangeSpec := { name := "extmapMany", fn := fun _ => fun
  | [d1, d2] => { results := [.lit (.bool false)], args := [d1, d2] }
  | _ => none }
def ExtmapManyWrongFalsely : Prop := extmapManyRow.holds Try.pinned (OpenSpec.ofChange extmapManyWrong)

/- THE SECOND FORM. 'bulk': how many values and letters a reading holds, each counted each time it is reached (what is shared counts as often as it is met; a slice's spare places count too). A statement '..UptoSaid' is the law's where the arguments, and the package variables that the reading takes, are together of bulk at most 1048576: NARROWER than '..Said'. Prove '..Said' where nothing that the law and all that it calls make is longer than what came in: it says more and counts as full. Else prove '..UptoSaid'. A law counts once. -/
mutual
def uptoBulk {H : Type} : DataW H → Nat
  | .lit (.string bytes) => bytes.length + 1
  | .lit _ => 1
  | .nil => 1
  | .ptr d => uptoBulk d + 1
  | .slice elems spare => uptoBulkAll elems + uptoBulkAll spare + 1
  | .agg parts => uptoBulkAll parts + 1
  | .iface _ d => uptoBulk d + 1
  | .map entries => uptoBulkEntries entries + 1
  | .held _ => 1
def uptoBulkAll {H : Type} : List (DataW H) → Nat
  | [] => 0
  | d :: r => uptoBulk d + uptoBulkAll r
def uptoBulkEntries {H : Type} : List (Lit × DataW H) → Nat
  | [] => 0
  | x :: r => uptoBulkEntry x + uptoBulkEntries r
def uptoBulkEntry {H : Type} : Lit × DataW H → Nat
  | (.string bytes, d) => bytes.length + uptoBulk d + 1
  | (_, d) => uptoBulk d + 1
 end
def uptoSmall : (H : Type) → List (DataW H) → Bool := fun _ ds => decide (uptoBulkAll ds ≤ 1048576)
def OpenSpec.upto (s : _root_.Go.ChangeSpec) : _root_.Go.OpenSpec := { _root_.Go.OpenSpec.ofChange s with cond := some uptoSmall }

/-- 'waggonerlaw08.ExtmapTells', WHERE WHAT IT READS IS OF BULK AT MOST 1048576: true; the input reads as it did. -/
def extmapTellsUptoRow : OpenClaim := { program := "ytphnpgdamacfmaa", sum := "e42335509069dadfeb2a075c07f5ce30d8d12b83b8cde076e3dcd44e1920ebb9", func := "waggoner/waggonerlaw08.ExtmapTells", spec := "extmapTells", unfollowed := true, recurses := true, apart := false, narrowed := true }
def ExtmapTellsUptoSaid : Prop := extmapTellsUptoRow.holds Try.pinned (OpenSpec.upto extmapTellsSpec)

/-- 'waggonerlaw08.ExtmapMay', WHERE WHAT IT READS IS OF BULK AT MOST 1048576: true; the input reads as it did. -/
def extmapMayUptoRow : OpenClaim := { program := "ytphnpgdamacfmaa", sum := "e42335509069dadfeb2a075c07f5ce30d8d12b83b8cde076e3dcd44e1920ebb9", func := "waggoner/waggonerlaw08.ExtmapMay", spec := "extmapMay", unfollowed := true, recurses := true, apart := false, narrowed := true }
def ExtmapMayUptoSaid : Prop := extmapMayUptoRow.holds Try.pinned (OpenSpec.upto extmapMaySpec)

/-- 'waggonerlaw08.ExtmapHides', WHERE WHAT IT READS IS OF BULK AT MOST 1048576: true; the input reads as it did. -/
def extmapHidesUptoRow : OpenClaim := { program := "ytphnpgdamacfmaa", sum := "e42335509069dadfeb2a075c07f5ce30d8d12b83b8cde076e3dcd44e1920ebb9", func := "waggoner/waggonerlaw08.ExtmapHides", spec := "extmapHides", unfollowed := true, recurses := true, apart := false, narrowed := true }
def ExtmapHidesUptoSaid : Prop := extmapHidesUptoRow.holds Try.pinned (OpenSpec.upto extmapHidesSpec)

/-- 'waggonerlaw08.ExtmapBack', WHERE WHAT IT READS IS OF BULK AT MOST 1048576: true; the input reads as it did. -/
def extmapBackUptoRow : OpenClaim := { program := "ytphnpgdamacfmaa", sum := "e42335509069dadfeb2a075c07f5ce30d8d12b83b8cde076e3dcd44e1920ebb9", func := "waggoner/waggonerlaw08.ExtmapBack", spec := "extmapBack", unfollowed := true, recurses := true, apart := false, narrowed := true }
def ExtmapBackUptoSaid : Prop := extmapBackUptoRow.holds Try.pinned (OpenSpec.upto extmapBackSpec)

/-- 'waggonerlaw08.ExtmapParts', WHERE WHAT IT READS IS OF BULK AT MOST 1048576: true; the input reads as it did. -/
def extmapPartsUptoRow : OpenClaim := { program := "ytphnpgdamacfmaa", sum := "e42335509069dadfeb2a075c07f5ce30d8d12b83b8cde076e3dcd44e1920ebb9", func := "waggoner/waggonerlaw08.ExtmapParts", spec := "extmapParts", unfollowed := true, recurses := true, apart := false, narrowed := true }
def ExtmapPartsUptoSaid : Prop := extmapPartsUptoRow.holds Try.pinned (OpenSpec.upto extmapPartsSpec)

/-- 'waggonerlaw08.ExtmapMany', WHERE WHAT IT READS IS OF BULK AT MOST 1048576: true; the input reads as it did. -/
def extmapManyUptoRow : OpenClaim := { program := "ytphnpgdamacfmaa", sum := "e42335509069dadfeb2a075c07f5ce30d8d12b83b8cde076e3dcd44e1920ebb9", func := "waggoner/waggonerlaw08.ExtmapMany", spec := "extmapMany", unfollowed := true, recurses := true, apart := false, narrowed := true }
def ExtmapManyUptoSaid : Prop := extmapManyUptoRow.holds Try.pinned (OpenSpec.upto extmapManySpec)

end Rows
end Go.Proofs.Ytphnpgdamacfmaa
