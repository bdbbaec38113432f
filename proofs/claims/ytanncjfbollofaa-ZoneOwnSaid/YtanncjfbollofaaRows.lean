/-
  No cell of these rows narrows 'for every input' (looked for: loops, veiled, ifaces, maps, wideKeys, modest, calm, conditions, laid).
  DERIVED. THE GIVEN ROWS OF THIS SEAT. 7 by the template 'for every input the law returns true; each argument reads behind the call as it read before'; 0 by the template 'total and deterministic' (their statements: YtanncjfbollofaaTotals.lean).
  GIVEN WITH THE SEED: the statements are not yours to turn. If you find one false, say at which input.
  Laid BY PROGRAM, IN A SANDBOX (cutbox-rows.mjs): the forced cells as the released guide's own fill.sh prints them over the translation a1cca0c4c37a2828… (all of the seat's roots in one cut). By AI agents, Wed Nov 11 2026. No macro, syntax, notation, axiom, sorry.
-/
import Derived.Test.YtanncjfbollofaaChecked
import GoSem.Claim
import GoSem.ClaimJoined
import GoSem.ClaimMapViews
import Derived.JoinedTies
import Derived.KernelRfl
namespace Go.Proofs.Ytanncjfbollofaa
/- THE CELL 'sum', in the pinned program and in every row, IS THE sha256 OF THE DUMP (.gsa) THAT YtanncjfbollofaaProg.lean LOADS. Nothing in Lean hashes anything: it is a label: what it is worth is what the hold of that sum in a sandbox is worth. -/
noncomputable def Try.pinned : Pinned := { name := "ytanncjfbollofaa", sum := "a1cca0c4c37a2828b6c2c7dc18383221ee8473437cf4ee8ca0782f726cba6fa5", checked := Try.checked }
namespace Rows
def none {H : Type} : Left H := { results := [], args := [] }

/-- 'waggonerlaw03.ZoneNames': WHATEVER THE INPUT: true; the input reads as it did. -/
def zoneNamesSpec : ChangeSpec := { name := "zoneNames", fn := fun _ => fun
  | [] => { results := [.lit (.bool true)], args := [] }
  | _ => none }
def zoneNamesRow : OpenClaim := { program := "ytanncjfbollofaa", sum := "a1cca0c4c37a2828b6c2c7dc18383221ee8473437cf4ee8ca0782f726cba6fa5", func := "waggoner/waggonerlaw03.ZoneNames", spec := "zoneNames", unfollowed := true, recurses := true, apart := false }
def ZoneNamesSaid : Prop := zoneNamesRow.holds Try.pinned (OpenSpec.ofChange zoneNamesSpec)

/-- ITS FALSE NEIGHBOUR: 'it returns false'. Refute it at one input. -/
def zoneNamesWrong : ChangeSpec := { name := "zoneNames", fn := fun _ => fun
  | [] => { results := [.lit (.bool false)], args := [] }
  | _ => none }
def ZoneNamesWrongFalsely : Prop := zoneNamesRow.holds Try.pinned (OpenSpec.ofChange zoneNamesWrong)

/-- 'waggonerlaw03.ZoneOwn': WHATEVER THE INPUT: true; the input reads as it did. -/
def zoneOwnSpec : ChangeSpec := { name := "zoneOwn", fn := fun _ => fun
  | [d1, d2, d3, d4] => { results := [.lit (.bool true)], args := [d1, d2, d3, d4] }
  | _ => none }
def zoneOwnRow : OpenClaim := { program := "ytanncjfbollofaa", sum := "a1cca0c4c37a2828b6c2c7dc18383221ee8473437cf4ee8ca0782f726cba6fa5", func := "waggoner/waggonerlaw03.ZoneOwn", spec := "zoneOwn", unfollowed := true, recurses := true, apart := false }
def ZoneOwnSaid : Prop := zoneOwnRow.holds Try.pinned (OpenSpec.ofChange zoneOwnSpec)

/-- ITS FALSE NEIGHBOUR: 'it returns false'. Refute it at one input. -/
def zoneOwnWrong : ChangeSpec := { name := "zoneOwn", fn := fun _ => fun
  | [d1, d2, d3, d4] => { results := [.lit (.bool false)], args := [d1, d2, d3, d4] }
  | _ => none }
def ZoneOwnWrongFalsely : Prop := zoneOwnRow.holds Try.pinned (OpenSpec.ofChange zoneOwnWrong)

/-- 'waggonerlaw03.ZoneRoom': WHATEVER THE INPUT: true; the input reads as it did. -/
def zoneRoomSpec : ChangeSpec := { name := "zoneRoom", fn := fun _ => fun
  | [d1, d2] => { results := [.lit (.bool true)], args := [d1, d2] }
  | _ => none }
def zoneRoomRow : OpenClaim := { program := "ytanncjfbollofaa", sum := "a1cca0c4c37a2828b6c2c7dc18383221ee8473437cf4ee8ca0782f726cba6fa5", func := "waggoner/waggonerlaw03.ZoneRoom", spec := "zoneRoom", unfollowed := true, recurses := true, apart := false }
def ZoneRoomSaid : Prop := zoneRoomRow.holds Try.pinned (OpenSpec.ofChange zoneRoomSpec)

/-- ITS FALSE NEIGHBOUR: 'it returns false'. Refute it at one input. -/
def zoneRoomWrong : ChangeSpec := { name := "zoneRoom", fn := fun _ => fun
  | [d1, d2] => { results := [.lit (.bool false)], args := [d1, d2] }
  | _ => none }
def ZoneRoomWrongFalsely : Prop := zoneRoomRow.holds Try.pinned (OpenSpec.ofChange zoneRoomWrong)

/-- 'waggonerlaw03.ZoneCloses': WHATEVER THE INPUT: true; the input reads as it did. -/
def zoneClosesSpec : ChangeSpec := { name := "zoneCloses", fn := fun _ => fun
  | [d1, d2, d3] => { results := [.lit (.bool true)], args := [d1, d2, d3] }
  | _ => none }
def zoneClosesRow : OpenClaim := { program := "ytanncjfbollofaa", sum := "a1cca0c4c37a2828b6c2c7dc18383221ee8473437cf4ee8ca0782f726cba6fa5", func := "waggoner/waggonerlaw03.ZoneCloses", spec := "zoneCloses", unfollowed := true, recurses := true, apart := false }
def ZoneClosesSaid : Prop := zoneClosesRow.holds Try.pinned (OpenSpec.ofChange zoneClosesSpec)

/-- ITS FALSE NEIGHBOUR: 'it returns false'. Refute it at one input. -/
def zoneClosesWrong : ChangeSpec := { name := "zoneCloses", fn := fun _ => fun
  | [d1, d2, d3] => { results := [.lit (.bool false)], args := [d1, d2, d3] }
  | _ => none }
def ZoneClosesWrongFalsely : Prop := zoneClosesRow.holds Try.pinned (OpenSpec.ofChange zoneClosesWrong)

/-- 'waggonerlaw03.ZoneAppends': WHATEVER THE INPUT: true; the input reads as it did. -/
def zoneAppendsSpec : ChangeSpec := { name := "zoneAppends", fn := fun _ => fun
  | [d1, d2, d3, d4] => { results := [.lit (.bool true)], args := [d1, d2, d3, d4] }
  | _ => none }
def zoneAppendsRow : OpenClaim := { program := "ytanncjfbollofaa", sum := "a1cca0c4c37a2828b6c2c7dc18383221ee8473437cf4ee8ca0782f726cba6fa5", func := "waggoner/waggonerlaw03.ZoneAppends", spec := "zoneAppends", unfollowed := true, recurses := true, apart := false }
def ZoneAppendsSaid : Prop := zoneAppendsRow.holds Try.pinned (OpenSpec.ofChange zoneAppendsSpec)

/-- ITS FALSE NEIGHBOUR: 'it returns false'. Refute it at one input. -/
def zoneAppendsWrong : ChangeSpec := { name := "zoneAppends", fn := fun _ => fun
  | [d1, d2, d3, d4] => { results := [.lit (.bool false)], args := [d1, d2, d3, d4] }
  | _ => none }
def ZoneAppendsWrongFalsely : Prop := zoneAppendsRow.holds Try.pinned (OpenSpec.ofChange zoneAppendsWrong)

/-- 'waggonerlaw03.ZoneTells': WHATEVER THE INPUT: true; the input reads as it did. -/
def zoneTellsSpec : ChangeSpec := { name := "zoneTells", fn := fun _ => fun
  | [d1, d2, d3, d4] => { results := [.lit (.bool true)], args := [d1, d2, d3, d4] }
  | _ => none }
def zoneTellsRow : OpenClaim := { program := "ytanncjfbollofaa", sum := "a1cca0c4c37a2828b6c2c7dc18383221ee8473437cf4ee8ca0782f726cba6fa5", func := "waggoner/waggonerlaw03.ZoneTells", spec := "zoneTells", unfollowed := true, recurses := true, apart := false }
def ZoneTellsSaid : Prop := zoneTellsRow.holds Try.pinned (OpenSpec.ofChange zoneTellsSpec)

/-- ITS FALSE NEIGHBOUR: 'it returns false'. Refute it at one input. -/
def zoneTellsWrong : ChangeSpec := { name := "zoneTells", fn := fun _ => fun
  | [d1, d2, d3, d4] => { results := [.lit (.bool false)], args := [d1, d2, d3, d4] }
  | _ => none }
def ZoneTellsWrongFalsely : Prop := zoneTellsRow.holds Try.pinned (OpenSpec.ofChange zoneTellsWrong)

/-- 'waggonerlaw03.ZoneMay': WHATEVER THE INPUT: true; the input reads as it did. -/
def zoneMaySpec : ChangeSpec := { name := "zoneMay", fn := fun _ => fun
  | [d1, d2, d3] => { results := [.lit (.bool true)], args := [d1, d2, d3] }
  | _ => none }
def zoneMayRow : OpenClaim := { program := "ytanncjfbollofaa", sum := "a1cca0c4c37a2828b6c2c7dc18383221ee8473437cf4ee8ca0782f726cba6fa5", func := "waggoner/waggonerlaw03.ZoneMay", spec := "zoneMay", unfollowed := true, recurses := true, apart := false }
def ZoneMaySaid : Prop := zoneMayRow.holds Try.pinned (OpenSpec.ofChange zoneMaySpec)

/-- ITS FALSE NEIGHBOUR: 'it returns false'. Refute it at one input. -/
def zoneMayWrong : ChangeSpec := { name := "zoneMay", fn := fun _ => fun
  | [d1, d2, d3] => { results := [.lit (.bool false)], args := [d1, d2, d3] }
  | _ => none }
def ZoneMayWrongFalsely : Prop := zoneMayRow.holds Try.pinned (OpenSpec.ofChange zoneMayWrong)

/- THE SECOND FORM. 'bulk': how many values and letters a reading holds, each counted each time it is reached (what is shared counts as often as it is met; a slice's spare places count too). A statement '..UptoSaid' is the law's where the arguments, and the package variables that the reading takes, are together of bulk at most 1048576: NARROWER than '..Said'. Prove '..Said' where nothing that the law and all that it calls make is longer than what came in: it says more and counts as full. Else prove '..UptoSaid'. A law counts once. -/
mutual
def uptoBulk {H : Type} : DataW H → Nat
  | .lit (.string bytes) => bytes.length + 1
  | .lit _ => 1
  | .nil => 1
  | .ptr d => uptoBulk d + 1
  | .slice elems spare => uptoBulkAll elems + uptoBulkAll spare + 1
  | .agg parts => uptoBulkAll parts + 1
  | .iface _ d => uptoBulk d + 1
  | .map entries => uptoBulkEntries entries + 1
  | .held _ => 1
def uptoBulkAll {H : Type} : List (DataW H) → Nat
  | [] => 0
  | d :: r => uptoBulk d + uptoBulkAll r
def uptoBulkEntries {H : Type} : List (Lit × DataW H) → Nat
  | [] => 0
  | x :: r => uptoBulkEntry x + uptoBulkEntries r
def uptoBulkEntry {H : Type} : Lit × DataW H → Nat
  | (.string bytes, d) => bytes.length + uptoBulk d + 1
  | (_, d) => uptoBulk d + 1
 end
def uptoSmall : (H : Type) → List (DataW H) → Bool := fun _ ds => decide (uptoBulkAll ds ≤ 1048576)
def OpenSpec.upto (s : _root_.Go.ChangeSpec) : _root_.Go.OpenSpec := { _root_.Go.OpenSpec.ofChange s with cond := some uptoSmall }

/-- 'waggonerlaw03.ZoneNames', WHERE WHAT IT READS IS OF BULK AT MOST 1048576: true; the input reads as it did. -/
def zoneNamesUptoRow : OpenClaim := { program := "ytanncjfbollofaa", sum := "a1cca0c4c37a2828b6c2c7dc18383221ee8473437cf4ee8ca0782f726cba6fa5", func := "waggoner/waggonerlaw03.ZoneNames", spec := "zoneNames", unfollowed := true, recurses := true, apart := false, narrowed := true }
def ZoneNamesUptoSaid : Prop := zoneNamesUptoRow.holds Try.pinned (OpenSpec.upto zoneNamesSpec)

/-- 'waggonerlaw03.ZoneOwn', WHERE WHAT IT READS IS OF BULK AT MOST 1048576: true; the input reads as it did. -/
def zoneOwnUptoRow : OpenClaim := { program := "ytanncjfbollofaa", sum := "a1cca0c4c37a2828b6c2c7dc18383221ee8473437cf4ee8ca0782f726cba6fa5", func := "waggoner/waggonerlaw03.ZoneOwn", spec := "zoneOwn", unfollowed := true, recurses := true, apart := false, narrowed := true }
def ZoneOwnUptoSaid : Prop := zoneOwnUptoRow.holds Try.pinned (OpenSpec.upto zoneOwnSpec)

/-- 'waggonerlaw03.ZoneRoom', WHERE WHAT IT READS IS OF BULK AT MOST 1048576: true; the input reads as it did. -/
def zoneRoomUptoRow : OpenClaim := { program := "ytanncjfbollofaa", sum := "a1cca0c4c37a2828b6c2c7dc18383221ee8473437cf4ee8ca0782f726cba6fa5", func := "waggoner/waggonerlaw03.ZoneRoom", spec := "zoneRoom", unfollowed := true, recurses := true, apart := false, narrowed := true }
def ZoneRoomUptoSaid : Prop := zoneRoomUptoRow.holds Try.pinned (OpenSpec.upto zoneRoomSpec)

/-- 'waggonerlaw03.ZoneCloses', WHERE WHAT IT READS IS OF BULK AT MOST 1048576: true; the input reads as it did. -/
def zoneClosesUptoRow : OpenClaim := { program := "ytanncjfbollofaa", sum := "a1cca0c4c37a2828b6c2c7dc18383221ee8473437cf4ee8ca0782f726cba6fa5", func := "waggoner/waggonerlaw03.ZoneCloses", spec := "zoneCloses", unfollowed := true, recurses := true, apart := false, narrowed := true }
def ZoneClosesUptoSaid : Prop := zoneClosesUptoRow.holds Try.pinned (OpenSpec.upto zoneClosesSpec)

/-- 'waggonerlaw03.ZoneAppends', WHERE WHAT IT READS IS OF BULK AT MOST 1048576: true; the input reads as it did. -/
def zoneAppendsUptoRow : OpenClaim := { program := "ytanncjfbollofaa", sum := "a1cca0c4c37a2828b6c2c7dc18383221ee8473437cf4ee8ca0782f726cba6fa5", func := "waggoner/waggonerlaw03.ZoneAppends", spec := "zoneAppends", unfollowed := true, recurses := true, apart := false, narrowed := true }
def ZoneAppendsUptoSaid : Prop := zoneAppendsUptoRow.holds Try.pinned (OpenSpec.upto zoneAppendsSpec)

/-- 'waggonerlaw03.ZoneTells', WHERE WHAT IT READS IS OF BULK AT MOST 1048576: true; the input reads as it did. -/
def zoneTellsUptoRow : OpenClaim := { program := "ytanncjfbollofaa", sum := "a1cca0c4c37a2828b6c2c7dc18383221ee8473437cf4ee8ca0782f726cba6fa5", func := "waggoner/waggonerlaw03.ZoneTells", spec := "zoneTells", unfollowed := true, recurses := true, apart := false, narrowed := true }
def ZoneTellsUptoSaid : Prop := zoneTellsUptoRow.holds Try.pinned (OpenSpec.upto zoneTellsSpec)

/-- 'waggonerlaw03.ZoneMay', WHERE WHAT IT READS IS OF BULK AT MOST 1048576: true; the input reads as it did. -/
def zoneMayUptoRow : OpenClaim := { program := "ytanncjfbollofaa", sum := "a1cca0c4c37a2828b6c2c7dc18383221ee8473437cf4ee8ca0782f726cba6fa5", func := "waggoner/waggonerlaw03.ZoneMay", spec := "zoneMay", unfollowed := true, recurses := true, apart := false, narrowed := true }
def ZoneMayUptoSaid : Prop := zoneMayUptoRow.holds Try.pinned (OpenSpec.upto zoneMaySpec)

end Rows
end Go.Proofs.Ytanncjfbollofaa
