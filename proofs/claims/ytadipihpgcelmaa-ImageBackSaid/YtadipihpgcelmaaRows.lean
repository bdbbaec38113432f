/-
  No cell of these rows narrows 'for every input' (looked for: loops, veiled, ifaces, maps, wideKeys, modest, calm, conditions, laid).
  DERIVED. THE GIVEN ROWS OF THIS SEAT. 6 by the template 'for every input the law returns true; each argument reads behind the call as it read before'; 0 by the template 'total and deterministic' (their statements: YtadipihpgcelmaaTotals.lean).
  GIVEN WITH THE SEED: the statements are not yours to turn. If you find one false, say at which input.
  Laid BY PROGRAM, IN A SANDBOX (cutbox-rows.mjs): the forced cells as the released guide's own fill.sh prints them over the translation 425770676d0e965d… (all of the seat's roots in one cut). By AI agents, Wed Nov 11 2026. No macro, syntax, notation, axiom, sorry.
-/
import Derived.Test.YtadipihpgcelmaaChecked
import GoSem.Claim
import GoSem.ClaimJoined
import GoSem.ClaimMapViews
import Derived.JoinedTies
import Derived.KernelRfl
namespace Go.Proofs.Ytadipihpgcelmaa
/- THE CELL 'sum', in the pinned program and in every row, IS THE sha256 OF THE DUMP (.gsa) THAT YtadipihpgcelmaaProg.lean LOADS. Nothing in Lean hashes anything: it is a label: what it is worth is what the hold of that sum in a sandbox is worth. -/
noncomputable def Try.pinned : Pinned := { name := "ytadipihpgcelmaa", sum := "425770676d0e965d48b2a58a57552cb6387a08cd1393ee52387a0b45f01a70d6", checked := Try.checked }
namespace Rows
def none {H : Type} : Left H := { results := [], args := [] }

/-- 'waggonerlaw09.ImageTells': WHATEVER THE INPUT: true; the input reads as it did. -/
def imageTellsSpec : ChangeSpec := { name := "imageTells", fn := fun _ => fun
  | [d1, d2, d3, d4] => { results := [.lit (.bool true)], args := [d1, d2, d3, d4] }
  | _ => none }
def imageTellsRow : OpenClaim := { program := "ytadipihpgcelmaa", sum := "425770676d0e965d48b2a58a57552cb6387a08cd1393ee52387a0b45f01a70d6", func := "waggoner/waggonerlaw09.ImageTells", spec := "imageTells", unfollowed := true, recurses := true, apart := false }
def ImageTellsSaid : Prop := imageTellsRow.holds Try.pinned (OpenSpec.ofChange imageTellsSpec)

/-- ITS FALSE NEIGHBOUR: 'it returns false'. Refute it at one input. -/
def imageTellsWrong : ChangeSpec := { name := "imageTells", fn := fun _ => fun
  | [d1, d2, d3, d4] => { results := [.lit (.bool false)], args := [d1, d2, d3, d4] }
  | _ => none }
def ImageTellsWrongFalsely : Prop := imageTellsRow.holds Try.pinned (OpenSpec.ofChange imageTellsWrong)

/-- 'waggonerlaw09.ImageDoes': WHATEVER THE INPUT: true; the input reads as it did. -/
def imageDoesSpec : ChangeSpec := { name := "imageDoes", fn := fun _ => fun
  | [d1, d2, d3, d4, d5, d6] => { results := [.lit (.bool true)], args := [d1, d2, d3, d4, d5, d6] }
  | _ => none }
def imageDoesRow : OpenClaim := { program := "ytadipihpgcelmaa", sum := "425770676d0e965d48b2a58a57552cb6387a08cd1393ee52387a0b45f01a70d6", func := "waggoner/waggonerlaw09.ImageDoes", spec := "imageDoes", unfollowed := true, recurses := true, apart := false }
def ImageDoesSaid : Prop := imageDoesRow.holds Try.pinned (OpenSpec.ofChange imageDoesSpec)

/-- ITS FALSE NEIGHBOUR: 'it returns false'. Refute it at one input. -/
def imageDoesWrong : ChangeSpec := { name := "imageDoes", fn := fun _ => fun
  | [d1, d2, d3, d4, d5, d6] => { results := [.lit (.bool false)], args := [d1, d2, d3, d4, d5, d6] }
  | _ => none }
def ImageDoesWrongFalsely : Prop := imageDoesRow.holds Try.pinned (OpenSpec.ofChange imageDoesWrong)

/-- 'waggonerlaw09.ImageKeeps': WHATEVER THE INPUT: true; the input reads as it did. -/
def imageKeepsSpec : ChangeSpec := { name := "imageKeeps", fn := fun _ => fun
  | [d1, d2, d3, d4] => { results := [.lit (.bool true)], args := [d1, d2, d3, d4] }
  | _ => none }
def imageKeepsRow : OpenClaim := { program := "ytadipihpgcelmaa", sum := "425770676d0e965d48b2a58a57552cb6387a08cd1393ee52387a0b45f01a70d6", func := "waggoner/waggonerlaw09.ImageKeeps", spec := "imageKeeps", unfollowed := true, recurses := true, apart := false }
def ImageKeepsSaid : Prop := imageKeepsRow.holds Try.pinned (OpenSpec.ofChange imageKeepsSpec)

/-- ITS FALSE NEIGHBOUR: 'it returns false'. Refute it at one input. -/
def imageKeepsWrong : ChangeSpec := { name := "imageKeeps", fn := fun _ => fun
  | [d1, d2, d3, d4] => { results := [.lit (.bool false)], args := [d1, d2, d3, d4] }
  | _ => none }
def ImageKeepsWrongFalsely : Prop := imageKeepsRow.holds Try.pinned (OpenSpec.ofChange imageKeepsWrong)

/-- 'waggonerlaw09.ImageParts': WHATEVER THE INPUT: true; the input reads as it did. -/
def imagePartsSpec : ChangeSpec := { name := "imageParts", fn := fun _ => fun
  | [d1, d2, d3, d4, d5, d6] => { results := [.lit (.bool true)], args := [d1, d2, d3, d4, d5, d6] }
  | _ => none }
def imagePartsRow : OpenClaim := { program := "ytadipihpgcelmaa", sum := "425770676d0e965d48b2a58a57552cb6387a08cd1393ee52387a0b45f01a70d6", func := "waggoner/waggonerlaw09.ImageParts", spec := "imageParts", unfollowed := true, recurses := true, apart := false }
def ImagePartsSaid : Prop := imagePartsRow.holds Try.pinned (OpenSpec.ofChange imagePartsSpec)

/-- ITS FALSE NEIGHBOUR: 'it returns false'. Refute it at one input. -/
def imagePartsWrong : ChangeSpec := { name := "imageParts", fn := fun _ => fun
  | [d1, d2, d3, d4, d5, d6] => { results := [.lit (.bool false)], args := [d1, d2, d3, d4, d5, d6] }
  | _ => none }
def ImagePartsWrongFalsely : Prop := imagePartsRow.holds Try.pinned (OpenSpec.ofChange imagePartsWrong)

/-- 'waggonerlaw09.ImageFills': WHATEVER THE INPUT: true; the input reads as it did. -/
def imageFillsSpec : ChangeSpec := { name := "imageFills", fn := fun _ => fun
  | [d1, d2, d3, d4, d5] => { results := [.lit (.bool true)], args := [d1, d2, d3, d4, d5] }
  | _ => none }
def imageFillsRow : OpenClaim := { program := "ytadipihpgcelmaa", sum := "425770676d0e965d48b2a58a57552cb6387a08cd1393ee52387a0b45f01a70d6", func := "waggoner/waggonerlaw09.ImageFills", spec := "imageFills", unfollowed := true, recurses := true, apart := false }
def ImageFillsSaid : Prop := imageFillsRow.holds Try.pinned (OpenSpec.ofChange imageFillsSpec)

/-- ITS FALSE NEIGHBOUR: 'it returns false'. Refute it at one input. -/
def imageFillsWrong : ChangeSpec := { name := "imageFills", fn := fun _ => fun
  | [d1, d2, d3, d4, d5] => { results := [.lit (.bool false)], args := [d1, d2, d3, d4, d5] }
  | _ => none }
def ImageFillsWrongFalsely : Prop := imageFillsRow.holds Try.pinned (OpenSpec.ofChange imageFillsWrong)

/-- 'waggonerlaw09.ImageBack': WHATEVER THE INPUT: true; the input reads as it did. -/
def imageBackSpec : ChangeSpec := { name := "imageBack", fn := fun _ => fun
  | [d1, d2, d3, d4, d5, d6] => { results := [.lit (.bool true)], args := [d1, d2, d3, d4, d5, d6] }
  | _ => none }
def imageBackRow : OpenClaim := { program := "ytadipihpgcelmaa", sum := "425770676d0e965d48b2a58a57552cb6387a08cd1393ee52387a0b45f01a70d6", func := "waggoner/waggonerlaw09.ImageBack", spec := "imageBack", unfollowed := true, recurses := true, apart := false }
def ImageBackSaid : Prop := imageBackRow.holds Try.pinned (OpenSpec.ofChange imageBackSpec)

/-- ITS FALSE NEIGHBOUR: 'it returns false'. Refute it at one input. -/
def imageBackWrong : ChangeSpec := { name := "imageBack", fn := fun _ => fun
  | [d1, d2, d3, d4, d5, d6] => { results := [.lit (.bool false)], args := [d1, d2, d3, d4, d5, d6] }
  | _ => none }
def ImageBackWrongFalsely : Prop := imageBackRow.holds Try.pinned (OpenSpec.ofChange imageBackWrong)

/- THE SECOND FORM. 'bulk': how many values and letters a reading holds, each counted each time it is reached (what is shared counts as often as it is met; a slice's spare places count too). A statement '..UptoSaid' is the law's where the arguments, and the package variables that the reading takes, are together of bulk at most 1048576: NARROWER than '..Said'. Prove '..Said' where nothing that the law and all that it calls make is longer than what came in: it says more and counts as full. Else prove '..UptoSaid'. A law counts once. -/
mutual
def uptoBulk {H : Type} : DataW H → Nat
  | .lit (.string bytes) => bytes.length + 1
  | .lit _ => 1
  | .nil => 1
  | .ptr d => uptoBulk d + 1
  | .slice elems spare => uptoBulkAll elems + uptoBulkAll spare + 1
  | .agg parts => uptoBulkAll parts + 1
  | .iface _ d => uptoBulk d + 1
  | .map entries => uptoBulkEntries entries + 1
  | .held _ => 1
def uptoBulkAll {H : Type} : List (DataW H) → Nat
  | [] => 0
  | d :: r => uptoBulk d + uptoBulkAll r
def uptoBulkEntries {H : Type} : List (Lit × DataW H) → Nat
  | [] => 0
  | x :: r => uptoBulkEntry x + uptoBulkEntries r
def uptoBulkEntry {H : Type} : Lit × DataW H → Nat
  | (.string bytes, d) => bytes.length + uptoBulk d + 1
  | (_, d) => uptoBulk d + 1
 end
def uptoSmall : (H : Type) → List (DataW H) → Bool := fun _ ds => decide (uptoBulkAll ds ≤ 1048576)
def OpenSpec.upto (s : _root_.Go.ChangeSpec) : _root_.Go.OpenSpec := { _root_.Go.OpenSpec.ofChange s with cond := some uptoSmall }

/-- 'waggonerlaw09.ImageTells', WHERE WHAT IT READS IS OF BULK AT MOST 1048576: true; the input reads as it did. -/
def imageTellsUptoRow : OpenClaim := { program := "ytadipihpgcelmaa", sum := "425770676d0e965d48b2a58a57552cb6387a08cd1393ee52387a0b45f01a70d6", func := "waggoner/waggonerlaw09.ImageTells", spec := "imageTells", unfollowed := true, recurses := true, apart := false, narrowed := true }
def ImageTellsUptoSaid : Prop := imageTellsUptoRow.holds Try.pinned (OpenSpec.upto imageTellsSpec)

/-- 'waggonerlaw09.ImageDoes', WHERE WHAT IT READS IS OF BULK AT MOST 1048576: true; the input reads as it did. -/
def imageDoesUptoRow : OpenClaim := { program := "ytadipihpgcelmaa", sum := "425770676d0e965d48b2a58a57552cb6387a08cd1393ee52387a0b45f01a70d6", func := "waggoner/waggonerlaw09.ImageDoes", spec := "imageDoes", unfollowed := true, recurses := true, apart := false, narrowed := true }
def ImageDoesUptoSaid : Prop := imageDoesUptoRow.holds Try.pinned (OpenSpec.upto imageDoesSpec)

/-- 'waggonerlaw09.ImageKeeps', WHERE WHAT IT READS IS OF BULK AT MOST 1048576: true; the input reads as it did. -/
def imageKeepsUptoRow : OpenClaim := { program := "ytadipihpgcelmaa", sum := "425770676d0e965d48b2a58a57552cb6387a08cd1393ee52387a0b45f01a70d6", func := "waggoner/waggonerlaw09.ImageKeeps", spec := "imageKeeps", unfollowed := true, recurses := true, apart := false, narrowed := true }
def ImageKeepsUptoSaid : Prop := imageKeepsUptoRow.holds Try.pinned (OpenSpec.upto imageKeepsSpec)

/-- 'waggonerlaw09.ImageParts', WHERE WHAT IT READS IS OF BULK AT MOST 1048576: true; the input reads as it did. -/
def imagePartsUptoRow : OpenClaim := { program := "ytadipihpgcelmaa", sum := "425770676d0e965d48b2a58a57552cb6387a08cd1393ee52387a0b45f01a70d6", func := "waggoner/waggonerlaw09.ImageParts", spec := "imageParts", unfollowed := true, recurses := true, apart := false, narrowed := true }
def ImagePartsUptoSaid : Prop := imagePartsUptoRow.holds Try.pinned (OpenSpec.upto imagePartsSpec)

/-- 'waggonerlaw09.ImageFills', WHERE WHAT IT READS IS OF BULK AT MOST 1048576: true; the input reads as it did. -/
def imageFillsUptoRow : OpenClaim := { program := "ytadipihpgcelmaa", sum := "425770676d0e965d48b2a58a57552cb6387a08cd1393ee52387a0b45f01a70d6", func := "waggoner/waggonerlaw09.ImageFills", spec := "imageFills", unfollowed := true, recurses := true, apart := false, narrowed := true }
def ImageFillsUptoSaid : Prop := imageFillsUptoRow.holds Try.pinned (OpenSpec.upto imageFillsSpec)

/-- 'waggonerlaw09.ImageBack', WHERE WHAT IT READS IS OF BULK AT MOST 1048576: true; the input reads as it did. -/
def imageBackUptoRow : OpenClaim := { program := "ytadipihpgcelmaa", sum := "425770676d0e965d48b2a58a57552cb6387a08cd1393ee52387a0b45f01a70d6", func := "waggoner/waggonerlaw09.ImageBack", spec := "imageBack", unfollowed := true, recurses := true, apart := false, narrowed := true }
def ImageBackUptoSaid : Prop := imageBackUptoRow.holds Try.pinned (OpenSpec.upto imageBackSpec)

end Rows
end Go.Proofs.Ytadipihpgcelmaa
