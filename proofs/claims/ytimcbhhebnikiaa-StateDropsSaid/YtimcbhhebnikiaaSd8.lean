/- The law 'StateDrops': it returns true, and nothing that was there changes. No condition. (Part 8 of 12.) -/
import Derived.Test.YtimcbhhebnikiaaSd7
import Derived.Test.YtimcbhhebnikiaaRows
namespace Go.Proofs.Ytimcbhhebnikiaa
open Go Go.Proofs.Ytimcbhhebnikiaa.Ab
set_option linter.unusedVariables false
set_option linter.unusedSimpArgs false
set_option maxRecDepth 1000000
set_option maxHeartbeats 0
namespace Ab
def cf : Cfg := { inl := [60, 62, 63, 66, 67, 75, 76, 77, 78, 79, 80, 81, 82, 89, 94, 95, 96, 97, 98, 99, 103, 104, 107, 109, 111], thaw := [(18, [[0, 0, 5, 3, 0, 1]]), (19, [[0, 0, 5, 3, 0, 1]]), (41, [[5]]), (44, [[5]]), (52, [[]]), (65, [[0, 0, 0, 0, 1]])], move := [13, 15, 16, 18, 19, 27, 28, 29, 30, 32, 39, 41, 44, 54, 55, 56, 59, 65, 84, 101, 105, 106, 108], clone := [(42, 3, 40), (43, 1, 1), (88, 34, 48), (100, 3, 5000)] }
noncomputable def vwT : List (Nat × TI) := [(1, (TI.mk 1 8 [(AV.sc Go.Value.nilFunc)] (AV.sc Go.Value.nilFunc) TK.func)),
  (2, (TI.mk 1 8 [(AV.i 0)] (AV.i 0) (TK.int Go.IntKind.i64))),
  (3, (TI.mk 1 8 [(AV.i 0)] (AV.i 0) (TK.int Go.IntKind.i64))),
  (4, (TI.mk 1 1 [(AV.b Bool.false)] (AV.b Bool.false) TK.bool)),
  (5, (TI.mk 1 1 [(AV.y (UInt8.ofNat (0 : Nat)))] (AV.y (UInt8.ofNat (0 : Nat))) (TK.int Go.IntKind.u8))),
  (6, (TI.mk 1 1 [(AV.y (UInt8.ofNat (0 : Nat)))] (AV.y (UInt8.ofNat (0 : Nat))) (TK.int Go.IntKind.u8))),
  (7, (TI.mk 4 24 [(AV.i 0), (AV.i 0), (AV.b Bool.false), (AV.y (UInt8.ofNat (0 : Nat)))] (AV.ag [(AV.i 0), (AV.i 0), (AV.b Bool.false), (AV.y (UInt8.ofNat (0 : Nat)))]) (TK.struct [((0 : Nat), ((1 : Nat), Bool.false)), ((1 : Nat), ((1 : Nat), Bool.false)), ((2 : Nat), ((1 : Nat), Bool.false)), ((3 : Nat), ((1 : Nat), Bool.false))]))),
  (8, (TI.mk 4 24 [(AV.i 0), (AV.i 0), (AV.b Bool.false), (AV.y (UInt8.ofNat (0 : Nat)))] (AV.ag [(AV.i 0), (AV.i 0), (AV.b Bool.false), (AV.y (UInt8.ofNat (0 : Nat)))]) (TK.struct [((0 : Nat), ((1 : Nat), Bool.false)), ((1 : Nat), ((1 : Nat), Bool.false)), ((2 : Nat), ((1 : Nat), Bool.false)), ((3 : Nat), ((1 : Nat), Bool.false))]))),
  (9, (TI.mk 1 16 [(AV.st ([] : List UInt8))] (AV.st ([] : List UInt8)) TK.string)),
  (10, (TI.mk 1 16 [(AV.st ([] : List UInt8))] (AV.st ([] : List UInt8)) TK.string)),
  (11, (TI.mk 1 16 [(AV.st ([] : List UInt8))] (AV.st ([] : List UInt8)) TK.string)),
  (12, (TI.mk 1 8 [(AV.sc (Go.Value.int Go.IntKind.u64 0))] (AV.sc (Go.Value.int Go.IntKind.u64 0)) (TK.int Go.IntKind.u64))),
  (13, (TI.mk 2 24 [(AV.st ([] : List UInt8)), (AV.sc (Go.Value.int Go.IntKind.u64 0))] (AV.ag [(AV.st ([] : List UInt8)), (AV.sc (Go.Value.int Go.IntKind.u64 0))]) (TK.struct [((0 : Nat), ((1 : Nat), Bool.false)), ((1 : Nat), ((1 : Nat), Bool.false))]))),
  (14, (TI.mk 2 24 [(AV.st ([] : List UInt8)), (AV.sc (Go.Value.int Go.IntKind.u64 0))] (AV.ag [(AV.st ([] : List UInt8)), (AV.sc (Go.Value.int Go.IntKind.u64 0))]) (TK.struct [((0 : Nat), ((1 : Nat), Bool.false)), ((1 : Nat), ((1 : Nat), Bool.false))]))),
  (15, (TI.mk 1 8 [(AV.sc (Go.Value.pointer Option.none))] (AV.sc (Go.Value.pointer Option.none)) (TK.ptr (130 : Nat)))),
  (16, (TI.mk 1 8 [(AV.sc (Go.Value.pointer Option.none))] (AV.sc (Go.Value.pointer Option.none)) (TK.ptr (133 : Nat)))),
  (17, (TI.mk 1 8 [(AV.sc (Go.Value.pointer Option.none))] (AV.sc (Go.Value.pointer Option.none)) (TK.ptr (143 : Nat)))),
  (18, (TI.mk 1 8 [(AV.sc (Go.Value.pointer Option.none))] (AV.ag [(AV.sc (Go.Value.pointer Option.none))]) (TK.struct [((0 : Nat), ((1 : Nat), Bool.false))]))),
  (19, (TI.mk 1 8 [(AV.sc (Go.Value.pointer Option.none))] (AV.ag [(AV.sc (Go.Value.pointer Option.none))]) (TK.struct [((0 : Nat), ((1 : Nat), Bool.false))]))),
  (20, (TI.mk 1 16 [(AV.sc Go.Value.nilIface)] (AV.sc Go.Value.nilIface) TK.other)),
  (21, (TI.mk 1 4 [(AV.sc (Go.Value.int Go.IntKind.i32 0))] (AV.sc (Go.Value.int Go.IntKind.i32 0)) (TK.int Go.IntKind.i32))),
  (22, (TI.mk 1 8 [(AV.sc Go.Value.nilFunc)] (AV.sc Go.Value.nilFunc) TK.func)),
  (23, (TI.mk 1 24 [AV.nl] AV.nl (TK.slice (59 : Nat)))),
  (24, (TI.mk 1 24 [AV.nl] AV.nl (TK.slice (33 : Nat)))),
  (25, (TI.mk 1 24 [AV.nl] AV.nl (TK.slice (5 : Nat)))),
  (26, (TI.mk 6 96 [(AV.i 0), (AV.i 0), AV.nl, AV.nl, (AV.i 0), AV.nl] (AV.ag [(AV.i 0), (AV.i 0), AV.nl, AV.nl, (AV.i 0), AV.nl]) (TK.struct [((0 : Nat), ((1 : Nat), Bool.false)), ((1 : Nat), ((1 : Nat), Bool.false)), ((2 : Nat), ((1 : Nat), Bool.false)), ((3 : Nat), ((1 : Nat), Bool.false)), ((4 : Nat), ((1 : Nat), Bool.false)), ((5 : Nat), ((1 : Nat), Bool.false))]))),
  (27, (TI.mk 6 96 [(AV.i 0), (AV.i 0), AV.nl, AV.nl, (AV.i 0), AV.nl] (AV.ag [(AV.i 0), (AV.i 0), AV.nl, AV.nl, (AV.i 0), AV.nl]) (TK.struct [((0 : Nat), ((1 : Nat), Bool.false)), ((1 : Nat), ((1 : Nat), Bool.false)), ((2 : Nat), ((1 : Nat), Bool.false)), ((3 : Nat), ((1 : Nat), Bool.false)), ((4 : Nat), ((1 : Nat), Bool.false)), ((5 : Nat), ((1 : Nat), Bool.false))]))),
  (28, (TI.mk 1 8 [(AV.sc Go.Value.nilFunc)] (AV.sc Go.Value.nilFunc) TK.func)),
  (29, (TI.mk 1 8 [(AV.i 0)] (AV.i 0) (TK.int Go.IntKind.i64))),
  (31, (TI.mk 1 8 [(AV.sc Go.Value.nilFunc)] (AV.sc Go.Value.nilFunc) TK.func)),
  (32, (TI.mk 3 40 [(AV.i 0), (AV.i 0), AV.nl] (AV.ag [(AV.i 0), (AV.i 0), AV.nl]) (TK.struct [((0 : Nat), ((1 : Nat), Bool.false)), ((1 : Nat), ((1 : Nat), Bool.false)), ((2 : Nat), ((1 : Nat), Bool.false))]))),
  (33, (TI.mk 3 40 [(AV.i 0), (AV.i 0), AV.nl] (AV.ag [(AV.i 0), (AV.i 0), AV.nl]) (TK.struct [((0 : Nat), ((1 : Nat), Bool.false)), ((1 : Nat), ((1 : Nat), Bool.false)), ((2 : Nat), ((1 : Nat), Bool.false))]))),
  (35, (TI.mk 1 8 [(AV.sc Go.Value.nilFunc)] (AV.sc Go.Value.nilFunc) TK.func)),
  (36, (TI.mk 1 8 [(AV.sc Go.Value.nilFunc)] (AV.sc Go.Value.nilFunc) TK.func)),
  (37, (TI.mk 1 8 [(AV.sc Go.Value.nilFunc)] (AV.sc Go.Value.nilFunc) TK.func)),
  (38, (TI.mk 1 8 [(AV.sc Go.Value.nilFunc)] (AV.sc Go.Value.nilFunc) TK.func)),
  (39, (TI.mk 1 8 [(AV.sc Go.Value.nilFunc)] (AV.sc Go.Value.nilFunc) TK.func)),
  (40, (TI.mk 1 8 [(AV.sc Go.Value.nilFunc)] (AV.sc Go.Value.nilFunc) TK.func)),
  (41, (TI.mk 1 24 [AV.nl] AV.nl (TK.slice (3 : Nat)))),
  (42, (TI.mk 1 8 [(AV.sc Go.Value.nilFunc)] (AV.sc Go.Value.nilFunc) TK.func)),
  (43, (TI.mk 1 8 [(AV.sc Go.Value.nilFunc)] (AV.sc Go.Value.nilFunc) TK.func)),
  (44, (TI.mk 1 24 [AV.nl] AV.nl (TK.slice (51 : Nat)))),
  (45, (TI.mk 1 8 [(AV.sc Go.Value.nilFunc)] (AV.sc Go.Value.nilFunc) TK.func)),
  (47, (TI.mk 1 8 [(AV.sc Go.Value.nilFunc)] (AV.sc Go.Value.nilFunc) TK.func)),
  (48, (TI.mk 1 8 [(AV.sc Go.Value.nilFunc)] (AV.sc Go.Value.nilFunc) TK.func)),
  (49, (TI.mk 1 8 [(AV.sc Go.Value.nilFunc)] (AV.sc Go.Value.nilFunc) TK.func)),
  (50, (TI.mk 6 80 [(AV.i 0), (AV.i 0), (AV.i 0), (AV.i 0), AV.nl, AV.nl] (AV.ag [(AV.i 0), (AV.i 0), (AV.i 0), (AV.i 0), AV.nl, AV.nl]) (TK.struct [((0 : Nat), ((1 : Nat), Bool.false)), ((1 : Nat), ((1 : Nat), Bool.false)), ((2 : Nat), ((1 : Nat), Bool.false)), ((3 : Nat), ((1 : Nat), Bool.false)), ((4 : Nat), ((1 : Nat), Bool.false)), ((5 : Nat), ((1 : Nat), Bool.false))]))),
  (51, (TI.mk 6 80 [(AV.i 0), (AV.i 0), (AV.i 0), (AV.i 0), AV.nl, AV.nl] (AV.ag [(AV.i 0), (AV.i 0), (AV.i 0), (AV.i 0), AV.nl, AV.nl]) (TK.struct [((0 : Nat), ((1 : Nat), Bool.false)), ((1 : Nat), ((1 : Nat), Bool.false)), ((2 : Nat), ((1 : Nat), Bool.false)), ((3 : Nat), ((1 : Nat), Bool.false)), ((4 : Nat), ((1 : Nat), Bool.false)), ((5 : Nat), ((1 : Nat), Bool.false))]))),
  (52, (TI.mk 1 8 [(AV.sc Go.Value.nilFunc)] (AV.sc Go.Value.nilFunc) TK.func)),
  (53, (TI.mk 1 8 [(AV.sc Go.Value.nilFunc)] (AV.sc Go.Value.nilFunc) TK.func)),
  (54, (TI.mk 1 8 [(AV.sc Go.Value.nilFunc)] (AV.sc Go.Value.nilFunc) TK.func)),
  (55, (TI.mk 1 8 [(AV.sc Go.Value.nilFunc)] (AV.sc Go.Value.nilFunc) TK.func)),
  (56, (TI.mk 1 8 [(AV.sc Go.Value.nilFunc)] (AV.sc Go.Value.nilFunc) TK.func)),
  (57, (TI.mk 64 64 (List.replicate (64 : Nat) (AV.b Bool.false)) (AV.ag (List.replicate (64 : Nat) (AV.b Bool.false))) (TK.array 64 (4 : Nat)))),
  (58, (TI.mk 5 56 [(AV.i 0), (AV.i 0), (AV.i 0), (AV.i 0), AV.nl] (AV.ag [(AV.i 0), (AV.i 0), (AV.i 0), (AV.i 0), AV.nl]) (TK.struct [((0 : Nat), ((1 : Nat), Bool.false)), ((1 : Nat), ((1 : Nat), Bool.false)), ((2 : Nat), ((1 : Nat), Bool.false)), ((3 : Nat), ((1 : Nat), Bool.false)), ((4 : Nat), ((1 : Nat), Bool.false))]))),
  (59, (TI.mk 5 56 [(AV.i 0), (AV.i 0), (AV.i 0), (AV.i 0), AV.nl] (AV.ag [(AV.i 0), (AV.i 0), (AV.i 0), (AV.i 0), AV.nl]) (TK.struct [((0 : Nat), ((1 : Nat), Bool.false)), ((1 : Nat), ((1 : Nat), Bool.false)), ((2 : Nat), ((1 : Nat), Bool.false)), ((3 : Nat), ((1 : Nat), Bool.false)), ((4 : Nat), ((1 : Nat), Bool.false))]))),
  (61, (TI.mk 1 8 [(AV.sc Go.Value.nilFunc)] (AV.sc Go.Value.nilFunc) TK.func)),
  (62, (TI.mk 1 8 [(AV.sc Go.Value.nilFunc)] (AV.sc Go.Value.nilFunc) TK.func)),
  (63, (TI.mk 1 24 [AV.nl] AV.nl (TK.slice (93 : Nat)))),
  (65, (TI.mk 1 8 [(AV.sc Go.Value.nilFunc)] (AV.sc Go.Value.nilFunc) TK.func)),
  (66, (TI.mk 1 8 [(AV.sc Go.Value.nilFunc)] (AV.sc Go.Value.nilFunc) TK.func)),
  (67, (TI.mk 1 8 [(AV.sc Go.Value.nilFunc)] (AV.sc Go.Value.nilFunc) TK.func)),
  (68, (TI.mk 1 8 [(AV.sc Go.Value.nilFunc)] (AV.sc Go.Value.nilFunc) TK.func)),
  (69, (TI.mk 1 8 [(AV.sc Go.Value.nilFunc)] (AV.sc Go.Value.nilFunc) TK.func)),
  (70, (TI.mk 1 8 [(AV.sc Go.Value.nilFunc)] (AV.sc Go.Value.nilFunc) TK.func)),
  (71, (TI.mk 1 8 [(AV.sc Go.Value.nilFunc)] (AV.sc Go.Value.nilFunc) TK.func)),
  (72, (TI.mk 1 8 [(AV.sc Go.Value.nilFunc)] (AV.sc Go.Value.nilFunc) TK.func)),
  (73, (TI.mk 1 8 [(AV.sc Go.Value.nilFunc)] (AV.sc Go.Value.nilFunc) TK.func)),
  (74, (TI.mk 1 8 [(AV.sc Go.Value.nilFunc)] (AV.sc Go.Value.nilFunc) TK.func)),
  (75, (TI.mk 1 8 [(AV.sc Go.Value.nilFunc)] (AV.sc Go.Value.nilFunc) TK.func)),
  (76, (TI.mk 1 8 [(AV.sc Go.Value.nilFunc)] (AV.sc Go.Value.nilFunc) TK.func)),
  (77, (TI.mk 1 8 [(AV.sc Go.Value.nilFunc)] (AV.sc Go.Value.nilFunc) TK.func)),
  (78, (TI.mk 1 8 [(AV.sc Go.Value.nilFunc)] (AV.sc Go.Value.nilFunc) TK.func)),
  (79, (TI.mk 1 8 [(AV.sc Go.Value.nilFunc)] (AV.sc Go.Value.nilFunc) TK.func)),
  (80, (TI.mk 1 8 [(AV.sc Go.Value.nilFunc)] (AV.sc Go.Value.nilFunc) TK.func)),
  (81, (TI.mk 6 96 [(AV.i 0), (AV.i 0), AV.nl, AV.nl, (AV.i 0), AV.nl] (AV.ag [(AV.i 0), (AV.i 0), AV.nl, AV.nl, (AV.i 0), AV.nl]) (TK.struct [((0 : Nat), ((1 : Nat), Bool.false)), ((1 : Nat), ((1 : Nat), Bool.false)), ((2 : Nat), ((1 : Nat), Bool.false)), ((3 : Nat), ((1 : Nat), Bool.false)), ((4 : Nat), ((1 : Nat), Bool.false)), ((5 : Nat), ((1 : Nat), Bool.false))]))),
  (82, (TI.mk 1 8 [(AV.sc Go.Value.nilFunc)] (AV.sc Go.Value.nilFunc) TK.func)),
  (83, (TI.mk 1 8 [(AV.sc (Go.Value.map Option.none))] (AV.sc (Go.Value.map Option.none)) (TK.map (3 : Nat) (82 : Nat)))),
  (84, (TI.mk 1 8 [(AV.sc Go.Value.nilFunc)] (AV.sc Go.Value.nilFunc) TK.func)),
  (85, (TI.mk 1 8 [(AV.sc (Go.Value.pointer Option.none))] (AV.sc (Go.Value.pointer Option.none)) (TK.ptr (81 : Nat)))),
  (86, (TI.mk 1 8 [(AV.sc Go.Value.nilFunc)] (AV.sc Go.Value.nilFunc) TK.func)),
  (87, (TI.mk 1 8 [(AV.sc Go.Value.nilFunc)] (AV.sc Go.Value.nilFunc) TK.func)),
  (88, (TI.mk 1 8 [(AV.sc Go.Value.nilFunc)] (AV.sc Go.Value.nilFunc) TK.func)),
  (89, (TI.mk 1 8 [(AV.sc Go.Value.nilFunc)] (AV.sc Go.Value.nilFunc) TK.func)),
  (90, (TI.mk 1 8 [(AV.sc Go.Value.nilFunc)] (AV.sc Go.Value.nilFunc) TK.func)),
  (91, (TI.mk 32 32 (List.replicate (32 : Nat) (AV.y (UInt8.ofNat (0 : Nat)))) (AV.ag (List.replicate (32 : Nat) (AV.y (UInt8.ofNat (0 : Nat))))) (TK.array 32 (5 : Nat)))),
  (92, (TI.mk 34 48 ((AV.i 0) :: (AV.i 0) :: List.replicate (32 : Nat) (AV.y (UInt8.ofNat (0 : Nat)))) (AV.ag ((AV.i 0) :: (AV.i 0) :: List.replicate (32 : Nat) (AV.y (UInt8.ofNat (0 : Nat))))) (TK.struct [((0 : Nat), ((1 : Nat), Bool.false)), ((1 : Nat), ((1 : Nat), Bool.false)), ((2 : Nat), ((32 : Nat), Bool.true))]))),
  (93, (TI.mk 34 48 ((AV.i 0) :: (AV.i 0) :: List.replicate (32 : Nat) (AV.y (UInt8.ofNat (0 : Nat)))) (AV.ag ((AV.i 0) :: (AV.i 0) :: List.replicate (32 : Nat) (AV.y (UInt8.ofNat (0 : Nat))))) (TK.struct [((0 : Nat), ((1 : Nat), Bool.false)), ((1 : Nat), ((1 : Nat), Bool.false)), ((2 : Nat), ((32 : Nat), Bool.true))]))),
  (94, (TI.mk 1 8 [(AV.sc Go.Value.nilFunc)] (AV.sc Go.Value.nilFunc) TK.func)),
  (95, (TI.mk 1 8 [(AV.sc Go.Value.nilFunc)] (AV.sc Go.Value.nilFunc) TK.func)),
  (96, (TI.mk 1 8 [(AV.sc Go.Value.nilFunc)] (AV.sc Go.Value.nilFunc) TK.func)),
  (97, (TI.mk 1 8 [(AV.sc Go.Value.nilFunc)] (AV.sc Go.Value.nilFunc) TK.func)),
  (98, (TI.mk 1 8 [(AV.sc Go.Value.nilFunc)] (AV.sc Go.Value.nilFunc) TK.func)),
  (100, (TI.mk 1 8 [(AV.sc Go.Value.nilFunc)] (AV.sc Go.Value.nilFunc) TK.func)),
  (101, (TI.mk 1 8 [(AV.sc Go.Value.nilFunc)] (AV.sc Go.Value.nilFunc) TK.func)),
  (102, (TI.mk 1 8 [(AV.sc Go.Value.nilFunc)] (AV.sc Go.Value.nilFunc) TK.func)),
  (103, (TI.mk 4 16 [(AV.b Bool.false), (AV.b Bool.false), (AV.b Bool.false), (AV.sc Go.Value.nilFunc)] (AV.ag [(AV.b Bool.false), (AV.b Bool.false), (AV.b Bool.false), (AV.sc Go.Value.nilFunc)]) (TK.struct [((0 : Nat), ((1 : Nat), Bool.false)), ((1 : Nat), ((1 : Nat), Bool.false)), ((2 : Nat), ((1 : Nat), Bool.false)), ((3 : Nat), ((1 : Nat), Bool.false))]))),
  (104, (TI.mk 4 16 [(AV.b Bool.false), (AV.b Bool.false), (AV.b Bool.false), (AV.sc Go.Value.nilFunc)] (AV.ag [(AV.b Bool.false), (AV.b Bool.false), (AV.b Bool.false), (AV.sc Go.Value.nilFunc)]) (TK.struct [((0 : Nat), ((1 : Nat), Bool.false)), ((1 : Nat), ((1 : Nat), Bool.false)), ((2 : Nat), ((1 : Nat), Bool.false)), ((3 : Nat), ((1 : Nat), Bool.false))]))),
  (105, (TI.mk 36 144 [(AV.b Bool.false), (AV.b Bool.false), (AV.b Bool.false), (AV.sc Go.Value.nilFunc), (AV.b Bool.false), (AV.b Bool.false), (AV.b Bool.false), (AV.sc Go.Value.nilFunc), (AV.b Bool.false), (AV.b Bool.false), (AV.b Bool.false), (AV.sc Go.Value.nilFunc), (AV.b Bool.false), (AV.b Bool.false), (AV.b Bool.false), (AV.sc Go.Value.nilFunc), (AV.b Bool.false), (AV.b Bool.false), (AV.b Bool.false), (AV.sc Go.Value.nilFunc), (AV.b Bool.false), (AV.b Bool.false), (AV.b Bool.false), (AV.sc Go.Value.nilFunc), (AV.b Bool.false), (AV.b Bool.false), (AV.b Bool.false), (AV.sc Go.Value.nilFunc), (AV.b Bool.false), (AV.b Bool.false), (AV.b Bool.false), (AV.sc Go.Value.nilFunc), (AV.b Bool.false), (AV.b Bool.false), (AV.b Bool.false), (AV.sc Go.Value.nilFunc)] (AV.ag [(AV.b Bool.false), (AV.b Bool.false), (AV.b Bool.false), (AV.sc Go.Value.nilFunc), (AV.b Bool.false), (AV.b Bool.false), (AV.b Bool.false), (AV.sc Go.Value.nilFunc), (AV.b Bool.false), (AV.b Bool.false), (AV.b Bool.false), (AV.sc Go.Value.nilFunc), (AV.b Bool.false), (AV.b Bool.false), (AV.b Bool.false), (AV.sc Go.Value.nilFunc), (AV.b Bool.false), (AV.b Bool.false), (AV.b Bool.false), (AV.sc Go.Value.nilFunc), (AV.b Bool.false), (AV.b Bool.false), (AV.b Bool.false), (AV.sc Go.Value.nilFunc), (AV.b Bool.false), (AV.b Bool.false), (AV.b Bool.false), (AV.sc Go.Value.nilFunc), (AV.b Bool.false), (AV.b Bool.false), (AV.b Bool.false), (AV.sc Go.Value.nilFunc), (AV.b Bool.false), (AV.b Bool.false), (AV.b Bool.false), (AV.sc Go.Value.nilFunc)]) (TK.array 9 (104 : Nat)))),
  (106, (TI.mk 1 8 [(AV.sc Go.Value.nilFunc)] (AV.sc Go.Value.nilFunc) TK.func)),
  (107, (TI.mk 1 8 [(AV.sc Go.Value.nilFunc)] (AV.sc Go.Value.nilFunc) TK.func)),
  (108, (TI.mk 1 8 [(AV.sc Go.Value.nilFunc)] (AV.sc Go.Value.nilFunc) TK.func)),
  (109, (TI.mk 1 8 [(AV.sc Go.Value.nilFunc)] (AV.sc Go.Value.nilFunc) TK.func)),
  (110, (TI.mk 1 8 [(AV.sc Go.Value.nilFunc)] (AV.sc Go.Value.nilFunc) TK.func)),
  (111, (TI.mk 1 8 [(AV.sc Go.Value.nilFunc)] (AV.sc Go.Value.nilFunc) TK.func)),
  (112, (TI.mk 1 8 [(AV.sc Go.Value.nilFunc)] (AV.sc Go.Value.nilFunc) TK.func)),
  (113, (TI.mk 1 8 [(AV.sc Go.Value.nilFunc)] (AV.sc Go.Value.nilFunc) TK.func)),
  (114, (TI.mk 1 8 [(AV.sc Go.Value.nilFunc)] (AV.sc Go.Value.nilFunc) TK.func)),
  (115, (TI.mk 1 8 [(AV.sc Go.Value.nilFunc)] (AV.sc Go.Value.nilFunc) TK.func)),
  (116, (TI.mk 1 8 [(AV.sc Go.Value.nilFunc)] (AV.sc Go.Value.nilFunc) TK.func)),
  (117, (TI.mk 1 8 [(AV.sc Go.Value.nilFunc)] (AV.sc Go.Value.nilFunc) TK.func)),
  (118, (TI.mk 1 8 [(AV.sc Go.Value.nilFunc)] (AV.sc Go.Value.nilFunc) TK.func)),
  (119, (TI.mk 1 8 [(AV.sc Go.Value.nilFunc)] (AV.sc Go.Value.nilFunc) TK.func)),
  (120, (TI.mk 1 8 [(AV.sc Go.Value.nilFunc)] (AV.sc Go.Value.nilFunc) TK.func)),
  (122, (TI.mk 1 8 [(AV.sc Go.Value.nilFunc)] (AV.sc Go.Value.nilFunc) TK.func)),
  (123, (TI.mk 1 8 [(AV.sc Go.Value.nilFunc)] (AV.sc Go.Value.nilFunc) TK.func)),
  (124, (TI.mk 1 8 [(AV.sc Go.Value.nilFunc)] (AV.sc Go.Value.nilFunc) TK.func)),
  (125, (TI.mk 1 8 [(AV.sc Go.Value.nilFunc)] (AV.sc Go.Value.nilFunc) TK.func)),
  (126, (TI.mk 1 8 [(AV.sc Go.Value.nilFunc)] (AV.sc Go.Value.nilFunc) TK.func)),
  (127, (TI.mk 1 8 [(AV.sc Go.Value.nilFunc)] (AV.sc Go.Value.nilFunc) TK.func)),
  (128, (TI.mk 1 8 [(AV.sc Go.Value.nilFunc)] (AV.sc Go.Value.nilFunc) TK.func)),
  (129, (TI.mk 4 40 [(AV.sc (Go.Value.pointer Option.none)), (AV.sc (Go.Value.pointer Option.none)), (AV.sc (Go.Value.pointer Option.none)), (AV.st ([] : List UInt8))] (AV.ag [(AV.sc (Go.Value.pointer Option.none)), (AV.sc (Go.Value.pointer Option.none)), (AV.sc (Go.Value.pointer Option.none)), (AV.st ([] : List UInt8))]) (TK.struct [((0 : Nat), ((1 : Nat), Bool.false)), ((1 : Nat), ((1 : Nat), Bool.false)), ((2 : Nat), ((1 : Nat), Bool.false)), ((3 : Nat), ((1 : Nat), Bool.false))]))),
  (130, (TI.mk 4 40 [(AV.sc (Go.Value.pointer Option.none)), (AV.sc (Go.Value.pointer Option.none)), (AV.sc (Go.Value.pointer Option.none)), (AV.st ([] : List UInt8))] (AV.ag [(AV.sc (Go.Value.pointer Option.none)), (AV.sc (Go.Value.pointer Option.none)), (AV.sc (Go.Value.pointer Option.none)), (AV.st ([] : List UInt8))]) (TK.struct [((0 : Nat), ((1 : Nat), Bool.false)), ((1 : Nat), ((1 : Nat), Bool.false)), ((2 : Nat), ((1 : Nat), Bool.false)), ((3 : Nat), ((1 : Nat), Bool.false))]))),
  (131, (TI.mk 0 0 ([] : List AV) (AV.ag ([] : List AV)) (TK.array 0 (16 : Nat)))),
  (132, (TI.mk 0 0 ([] : List AV) (AV.ag ([] : List AV)) (TK.struct [((0 : Nat), ((0 : Nat), Bool.true))]))),
  (133, (TI.mk 0 0 ([] : List AV) (AV.ag ([] : List AV)) (TK.struct [((0 : Nat), ((0 : Nat), Bool.true))]))),
  (134, (TI.mk 1 8 [(AV.sc Go.Value.nilFunc)] (AV.sc Go.Value.nilFunc) TK.func)),
  (135, (TI.mk 1 4 [(AV.sc (Go.Value.int Go.IntKind.u32 0))] (AV.sc (Go.Value.int Go.IntKind.u32 0)) (TK.int Go.IntKind.u32))),
  (136, (TI.mk 1 1 [(AV.y (UInt8.ofNat (0 : Nat)))] (AV.y (UInt8.ofNat (0 : Nat))) (TK.int Go.IntKind.u8))),
  (137, (TI.mk 1 1 [(AV.y (UInt8.ofNat (0 : Nat)))] (AV.y (UInt8.ofNat (0 : Nat))) (TK.int Go.IntKind.u8))),
  (138, (TI.mk 1 8 [(AV.sc Go.Value.nilFunc)] (AV.sc Go.Value.nilFunc) TK.func)),
  (139, (TI.mk 1 8 [(AV.sc (Go.Value.pointer Option.none))] (AV.sc (Go.Value.pointer Option.none)) (TK.ptr (5 : Nat))))]
noncomputable def vwF : List (Nat × AF) := [(2, afOf Try.f2), (3, afOf Try.f3), (4, afOf Try.f4), (5, afOf Try.f5), (6, afOf Try.f6), (7, afOf Try.f7), (8, afOf Try.f8), (9, afOf Try.f9), (10, afOf Try.f10), (11, afOf Try.f11), (12, afOf Try.f12), (13, afOf Try.f13), (14, afOf Try.f14), (15, afOf Try.f15), (16, afOf Try.f16), (17, afOf Try.f17), (18, afOf Try.f18), (19, afOf Try.f19), (20, afOf Try.f20), (21, afOf Try.f21), (22, afOf Try.f22), (23, afOf Try.f23), (24, afOf Try.f24), (25, afOf Try.f25), (26, afOf Try.f26), (27, afOf Try.f27), (28, afOf Try.f28), (29, afOf Try.f29), (30, afOf Try.f30), (31, afOf Try.f31), (32, afOf Try.f32), (33, afOf Try.f33), (34, afOf Try.f34), (35, afOf Try.f35), (36, afOf Try.f36), (37, afOf Try.f37), (38, afOf Try.f38), (39, afOf Try.f39), (40, afOf Try.f40), (41, afOf Try.f41), (42, afOf Try.f42), (43, afOf Try.f43), (44, afOf Try.f44), (45, afOf Try.f45), (46, afOf Try.f46), (47, afOf Try.f47), (48, afOf Try.f48), (49, afOf Try.f49), (50, afOf Try.f50), (51, afOf Try.f51), (52, afOf Try.f52), (53, afOf Try.f53), (54, afOf Try.f54), (55, afOf Try.f55), (56, afOf Try.f56), (57, afOf Try.f57), (58, afOf Try.f58), (59, afOf Try.f59), (60, afOf Try.f60), (61, afOf Try.f61), (62, afOf Try.f62), (63, afOf Try.f63), (64, afOf Try.f64), (65, afOf Try.f65), (66, afOf Try.f66), (67, afOf Try.f67), (68, afOf Try.f68), (69, afOf Try.f69), (70, afOf Try.f70), (71, afOf Try.f71), (72, afOf Try.f72), (73, afOf Try.f73), (74, afOf Try.f74), (75, afOf Try.f75), (76, afOf Try.f76), (77, afOf Try.f77), (78, afOf Try.f78), (79, afOf Try.f79), (80, afOf Try.f80), (81, afOf Try.f81), (82, afOf Try.f82), (83, afOf Try.f83), (84, afOf Try.f84), (85, afOf Try.f85), (86, afOf Try.f86), (87, afOf Try.f87), (88, afOf Try.f88), (89, afOf Try.f89), (90, afOf Try.f90), (91, afOf Try.f91), (92, afOf Try.f92), (93, afOf Try.f93), (94, afOf Try.f94), (95, afOf Try.f95), (96, afOf Try.f96), (97, afOf Try.f97), (98, afOf Try.f98), (99, afOf Try.f99), (100, afOf Try.f100), (101, afOf Try.f101), (102, afOf Try.f102), (103, afOf Try.f103), (104, afOf Try.f104), (105, afOf Try.f105), (106, afOf Try.f106), (107, afOf Try.f107), (108, afOf Try.f108), (109, afOf Try.f109), (110, afOf Try.f110), (111, afOf Try.f111)]
noncomputable def vw : View := View.mkT Try.prog vwT vwF
theorem vwT_ok : ∀ x ∈ vwT, tinfo Try.prog x.1 = some x.2 := (all_cons kq (all_cons kq (all_cons kq (all_cons kq (all_cons kq (all_cons kq (all_cons kq (all_cons kq (all_cons kq (all_cons kq (all_cons kq (all_cons kq (all_cons kq (all_cons kq (all_cons kq (all_cons kq (all_cons kq (all_cons kq (all_cons kq (all_cons kq (all_cons kq (all_cons kq (all_cons kq (all_cons kq (all_cons kq (all_cons kq (all_cons kq (all_cons kq (all_cons kq (all_cons kq (all_cons kq (all_cons kq (all_cons kq (all_cons kq (all_cons kq (all_cons kq (all_cons kq (all_cons kq (all_cons kq (all_cons kq (all_cons kq (all_cons kq (all_cons kq (all_cons kq (all_cons kq (all_cons kq (all_cons kq (all_cons kq (all_cons kq (all_cons kq (all_cons kq (all_cons kq (all_cons kq (all_cons kq (all_cons kq (all_cons kq (all_cons kq (all_cons kq (all_cons kq (all_cons kq (all_cons kq (all_cons kq (all_cons kq (all_cons kq (all_cons kq (all_cons kq (all_cons kq (all_cons kq (all_cons kq (all_cons kq (all_cons kq (all_cons kq (all_cons kq (all_cons kq (all_cons kq (all_cons kq (all_cons kq (all_cons kq (all_cons kq (all_cons kq (all_cons kq (all_cons kq (all_cons kq (all_cons kq (all_cons kq (all_cons kq (all_cons kq (all_cons kq (all_cons kq (all_cons kq (all_cons kq (all_cons kq (all_cons kq (all_cons kq (all_cons kq (all_cons kq (all_cons kq (all_cons kq (all_cons kq (all_cons kq (all_cons kq (all_cons kq (all_cons kq (all_cons kq (all_cons kq (all_cons kq (all_cons kq (all_cons kq (all_cons kq (all_cons kq (all_cons kq (all_cons kq (all_cons kq (all_cons kq (all_cons kq (all_cons kq (all_cons kq (all_cons kq (all_cons kq (all_cons kq (all_cons kq (all_cons kq (all_cons kq (all_cons kq (all_cons kq (all_cons kq (all_cons kq (all_cons kq (all_cons kq (all_cons kq (all_cons kq (all_cons kq all_nil))))))))))))))))))))))))))))))))))))))))))))))))))))))))))))))))))))))))))))))))))))))))))))))))))))))))))))))))))))))))))))))))))))
theorem vwF_ok : ∀ x ∈ vwF, afun Try.prog x.1 = some x.2 := (all_cons kq (all_cons kq (all_cons kq (all_cons kq (all_cons kq (all_cons kq (all_cons kq (all_cons kq (all_cons kq (all_cons kq (all_cons kq (all_cons kq (all_cons kq (all_cons kq (all_cons kq (all_cons kq (all_cons kq (all_cons kq (all_cons kq (all_cons kq (all_cons kq (all_cons kq (all_cons kq (all_cons kq (all_cons kq (all_cons kq (all_cons kq (all_cons kq (all_cons kq (all_cons kq (all_cons kq (all_cons kq (all_cons kq (all_cons kq (all_cons kq (all_cons kq (all_cons kq (all_cons kq (all_cons kq (all_cons kq (all_cons kq (all_cons kq (all_cons kq (all_cons kq (all_cons kq (all_cons kq (all_cons kq (all_cons kq (all_cons kq (all_cons kq (all_cons kq (all_cons kq (all_cons kq (all_cons kq (all_cons kq (all_cons kq (all_cons kq (all_cons kq (all_cons kq (all_cons kq (all_cons kq (all_cons kq (all_cons kq (all_cons kq (all_cons kq (all_cons kq (all_cons kq (all_cons kq (all_cons kq (all_cons kq (all_cons kq (all_cons kq (all_cons kq (all_cons kq (all_cons kq (all_cons kq (all_cons kq (all_cons kq (all_cons kq (all_cons kq (all_cons kq (all_cons kq (all_cons kq (all_cons kq (all_cons kq (all_cons kq (all_cons kq (all_cons kq (all_cons kq (all_cons kq (all_cons kq (all_cons kq (all_cons kq (all_cons kq (all_cons kq (all_cons kq (all_cons kq (all_cons kq (all_cons kq (all_cons kq (all_cons kq (all_cons kq (all_cons kq (all_cons kq (all_cons kq (all_cons kq (all_cons kq (all_cons kq (all_cons kq (all_cons kq all_nil))))))))))))))))))))))))))))))))))))))))))))))))))))))))))))))))))))))))))))))))))))))))))))))))))))))))))))))
theorem vw_eq : vw = View.of Try.prog := View.mkT_eq vwT_ok vwF_ok
theorem ord_18_0 : orderOk (rg Try.prog 18 0) = true := by kernel_rfl
theorem bef_18_0 : Region.before (rg Try.prog 18 0) = #[0, 1, 3, 0, 8, 31, 0, 64, 255, 223, 1023, 2047, 4095, 8191, 16383] := by kernel_rfl
theorem ord_18_1 : orderOk (rg Try.prog 18 1) = true := by kernel_rfl
theorem bef_18_1 : Region.before (rg Try.prog 18 1) = #[0, 1, 0, 0, 8, 24, 63, 127, 255] := by kernel_rfl
theorem ord_29_0 : orderOk (rg Try.prog 29 0) = true := by kernel_rfl
theorem bef_29_0 : Region.before (rg Try.prog 29 0) = #[0, 0, 2, 7, 0, 31, 63] := by kernel_rfl
theorem ord_31_0 : orderOk (rg Try.prog 31 0) = true := by kernel_rfl
theorem bef_31_0 : Region.before (rg Try.prog 31 0) = #[0, 0, 3, 7, 0, 0, 48, 112, 255, 511] := by kernel_rfl
theorem ord_51_0 : orderOk (rg Try.prog 51 0) = true := by kernel_rfl
theorem bef_51_0 : Region.before (rg Try.prog 51 0) = #[0, 0, 2, 7, 0, 31] := by kernel_rfl
theorem ord_58_0 : orderOk (rg Try.prog 58 0) = true := by kernel_rfl
theorem bef_58_0 : Region.before (rg Try.prog 58 0) = #[0, 1, 3, 7, 15, 31, 15, 127, 255, 511, 1023, 2047, 4095, 8191, 8191, 24575, 65535, 131071, 8191, 524287, 1048575, 2097151] := by kernel_rfl
theorem ord_68_0 : orderOk (rg Try.prog 68 0) = true := by kernel_rfl
theorem bef_68_0 : Region.before (rg Try.prog 68 0) = #[0, 1, 0, 7, 0, 16, 0, 64, 240, 0, 0, 1536, 4080, 15, 16383] := by kernel_rfl
theorem ord_78_0 : orderOk (rg Try.prog 78 0) = true := by kernel_rfl
theorem bef_78_0 : Region.before (rg Try.prog 78 0) = #[0, 1, 0, 4, 12, 28, 63, 127] := by kernel_rfl
theorem ord_78_1 : orderOk (rg Try.prog 78 1) = true := by kernel_rfl
theorem bef_78_1 : Region.before (rg Try.prog 78 1) = #[0, 0, 2, 6, 14, 0, 32, 0, 128, 384, 896, 0, 2048, 6144, 14336, 30720, 65504, 131040, 262142, 524287, 1048575, 2097151] := by kernel_rfl
theorem ord_80_0 : orderOk (rg Try.prog 80 0) = true := by kernel_rfl
theorem bef_80_0 : Region.before (rg Try.prog 80 0) = #[0, 1, 3, 0, 8, 24, 56, 120, 248, 511] := by kernel_rfl
theorem ord_80_1 : orderOk (rg Try.prog 80 1) = true := by kernel_rfl
theorem bef_80_1 : Region.before (rg Try.prog 80 1) = #[0, 0, 2, 6, 14, 0, 32, 126, 255, 511, 1023] := by kernel_rfl
theorem ord_85_0 : orderOk (rg Try.prog 85 0) = true := by kernel_rfl
theorem bef_85_0 : Region.before (rg Try.prog 85 0) = #[0, 1, 3, 7, 15, 31, 15, 79, 207, 511, 1023, 2047, 4095, 8191, 16383, 32767, 65535, 131071, 262143, 524287, 1048575, 2097151, 4194303, 8388607, 16777215, 4194303, 37748735, 134217727, 268435455, 536870911] := by kernel_rfl
theorem ord_97_0 : orderOk (rg Try.prog 97 0) = true := by kernel_rfl
theorem bef_97_0 : Region.before (rg Try.prog 97 0) = #[0, 1, 3, 7, 0, 16, 48, 112, 0, 511, 1023, 2047, 2047, 4095, 16383] := by kernel_rfl
theorem ord_108_0 : orderOk (rg Try.prog 108 0) = true := by kernel_rfl
theorem bef_108_0 : Region.before (rg Try.prog 108 0) = #[0, 0, 2, 7, 15, 0, 63, 127, 255, 255, 0, 1535, 4095] := by kernel_rfl
theorem ord_110_0 : orderOk (rg Try.prog 110 0) = true := by kernel_rfl
theorem bef_110_0 : Region.before (rg Try.prog 110 0) = #[0, 1, 3, 0, 8, 31, 63, 127] := by kernel_rfl
theorem clones : CloneOk Try.prog cf.clone :=
  (cloneOk_cons (clone_at Try.func42 rfl rfl rfl (by kernel_rfl) (t := 24) (by kernel_rfl)) (cloneOk_cons (clone_at Try.func43 rfl rfl rfl (by kernel_rfl) (t := 25) (by kernel_rfl)) (cloneOk_cons (clone_at Try.func88 rfl rfl rfl (by kernel_rfl) (t := 63) (by kernel_rfl)) (cloneOk_cons (del_at (by kernel_rfl) Try.func100 rfl rfl rfl rfl (by kernel_rfl) (t := 24) (wd := 40) (by kernel_rfl)) (cloneOk_nil _)))))
end Ab
end Go.Proofs.Ytimcbhhebnikiaa
namespace Go.Proofs.Ytimcbhhebnikiaa.Ab
open Go
abbrev xc (x : Ex) : List AV := [AV.i x.lba, AV.i x.len, AV.i x.kind, AV.i x.gen, AV.sl (List.length x.d) (List.map AV.y x.d)]
end Go.Proofs.Ytimcbhhebnikiaa.Ab
namespace Go.Proofs.Ytimcbhhebnikiaa
open Go Go.Proofs.Ytimcbhhebnikiaa.Ab
set_option linter.unusedVariables false
set_option linter.unusedSimpArgs false
set_option maxRecDepth 1000000
set_option maxHeartbeats 0
namespace Ab
noncomputable abbrev few_L0_I (l : List Ex) : St := (St.mk [(0, (exs l)), (2, (AV.b Bool.false)), (4, (exs l)), (5, (AV.i (l.length : Int))), (6, (AV.b (decide ((l.length : Int) > (70 : Int))))), (3, (AV.i 0))] 20 (AH.mk 0 ([] : List (Prod Nat AObj))) Bool.false)
noncomputable abbrev few_L0_S (l : List Ex) (s1 : Int) : St := (St.mk [(0, (exs l)), (6, (AV.b (decide ((l.length : Int) > (70 : Int))))), (3, (AV.i s1))] 20 (AH.mk 0 ([] : List (Prod Nat AObj))) Bool.false)
noncomputable def few_L0_step (l : List Ex) (s1 : Int) : Option (Int) :=
 (tb ((decide (s1 < (l.length : Int))))
  (tp ((((0 : Int) ≤ s1) ∧ (s1 < (l.length : Int))))
   (tb ((decide ((↑(List.length (exAt l s1.toNat).d) : Int) > (3000 : Int))))
    none /- exit -/
    (some ((wr (s1 + (1 : Int)))))))
  none /- exit -/)
theorem few_L0_ok (l : List Ex) (s1 zz : Int) : few_L0_step l s1 = some zz → EvStep Try.prog cf 0 (lp Try.prog 38 0) (few_L0_S l s1) (few_L0_S l zz) := by
  unfold few_L0_step
  refine tb_ok (fun h2 => ?_) (fun h2 => ?_)
  ·
    have h2p := of_decide_eq_true h2
    refine tp_ok (fun h3 => ?_)
    refine tb_ok (fun h4 => ?_) (fun h4 => ?_)
    ·
      have h4p := of_decide_eq_true h4
      exact fun e => nomatch e
    ·
      have h4p := of_decide_eq_false h4
      intro e; injection e with e; subst e
      exact leafIS vw_eq (k := 300) (r := []) (hs := hz [(4, [.yes]), (2, [.yes]), (1, [.yes, .val ((bys (exAt l s1.toNat).d))]), (2, [.no]), (3, [])]) (ks := [0, 6, 3]) (bs := []) kq (ac h2 (ac h3 (ac (fq (p := ((1 : Nat) ≤ (List.length (List.drop 4 (List.drop (s1.toNat * 5) (List.flatMap Ex.cells l))))))) (ac (show (List.take 1 (List.drop 4 (List.drop (s1.toNat * 5) (List.flatMap Ex.cells l)))) = [(bys (exAt l s1.toNat).d)] from (by first | exact ex_one _ _ _ _ bq rfl | exact ex_oneA _ _ _ _ bq rfl | (simpa using ex_one (l) (s1.toNat) 4 _ bq rfl) | ((try simp only [List.drop_drop]); rw [show ((4 : Nat) + (s1.toNat * 5)) = (s1.toNat) * 5 + 4 by omega]; exact ex_oneA (l) (s1.toNat) 4 _ bq rfl))) (ac h4 an))))) kq
  ·
    have h2p := of_decide_eq_false h2
    exact fun e => nomatch e
/-- Function 38, as it answers. -/
noncomputable def few (l : List Ex) : Option (Bool) :=
 (tb ((decide ((l.length : Int) > (70 : Int))))
  (some (Bool.false))
  (th (few_L0_step l) ((0 : Int)) fun s1 =>
   (tb ((decide (s1 < (l.length : Int))))
    (tp ((((0 : Int) ≤ s1) ∧ (s1 < (l.length : Int))))
     (tb ((decide ((↑(List.length (exAt l s1.toNat).d) : Int) > (3000 : Int))))
      (some (Bool.false))
      none /- stop behind an operation -/))
    (some (Bool.true)))))
abbrev few_G (l : List Ex) (r : Bool) : Prop := EvFr Try.prog cf true 38 [exs (l)] (.b (r))
theorem few_ok (l : List Ex) (r : Bool) : few l = some r → few_G l r := by
  unfold few
  refine tb_ok (fun h0 => ?_) (fun h0 => ?_)
  ·
    have h0p := of_decide_eq_true h0
    intro e; injection e with e; subst e
    exact leafR vw_eq (k := 300) (r := []) (hs := hz [(4, [.yes]), (1, [])]) (raw := (AV.b Bool.false)) kq (ac h0 an) tq
  ·
    have h0p := of_decide_eq_false h0
    refine th_ok (fun s1 h1 => ?_)
    refine tb_ok (fun h2 => ?_) (fun h2 => ?_)
    ·
      have h2p := of_decide_eq_true h2
      refine tp_ok (fun h3 => ?_)
      refine tb_ok (fun h4 => ?_) (fun h4 => ?_)
      ·
        have h4p := of_decide_eq_true h4
        intro e; injection e with e; subst e
        exact leafR vw_eq (k := 300) (r := []) (hs := hz [(4, [.no]), (1, [.head (few_L0_S l s1)]), (4, [.yes]), (2, [.yes]), (1, [.yes, .val ((bys (exAt l s1.toNat).d))]), (2, [.yes]), (1, [])]) (raw := (AV.b Bool.false)) kq (ac h0 (ac (show EvHead Try.prog cf (lp Try.prog 38 0) (few_L0_I l) (few_L0_S l s1) from (EvHead.of (few_L0_ok l) (absB_of [] [] kq (.consn kq (.eqv tq rfl) (.consn kq (.eqv tq rfl) (.consn kq (.eqv tq rfl) .nil))) .nil) h1)) (ac h2 (ac h3 (ac (fq (p := ((1 : Nat) ≤ (List.length (List.drop 4 (List.drop (s1.toNat * 5) (List.flatMap Ex.cells l))))))) (ac (show (List.take 1 (List.drop 4 (List.drop (s1.toNat * 5) (List.flatMap Ex.cells l)))) = [(bys (exAt l s1.toNat).d)] from (by first | exact ex_one _ _ _ _ bq rfl | exact ex_oneA _ _ _ _ bq rfl | (simpa using ex_one (l) (s1.toNat) 4 _ bq rfl) | ((try simp only [List.drop_drop]); rw [show ((4 : Nat) + (s1.toNat * 5)) = (s1.toNat) * 5 + 4 by omega]; exact ex_oneA (l) (s1.toNat) 4 _ bq rfl))) (ac h4 an))))))) tq
      ·
        have h4p := of_decide_eq_false h4
        exact fun e => nomatch e
    ·
      have h2p := of_decide_eq_false h2
      intro e; injection e with e; subst e
      exact leafR vw_eq (k := 300) (r := []) (hs := hz [(4, [.no]), (1, [.head (few_L0_S l s1)]), (4, [.no]), (1, [])]) (raw := (AV.b Bool.true)) kq (ac h0 (ac (show EvHead Try.prog cf (lp Try.prog 38 0) (few_L0_I l) (few_L0_S l s1) from (EvHead.of (few_L0_ok l) (absB_of [] [] kq (.consn kq (.eqv tq rfl) (.consn kq (.eqv tq rfl) (.consn kq (.eqv tq rfl) .nil))) .nil) h1)) (ac h2 an))) tq
/-- Function 46, as it answers. -/
noncomputable def sWithin (n : Int) (low : Int) (high : Int) : Option (Bool) :=
 (tb ((decide (n ≥ low)))
  (some ((decide (n ≤ high))))
  (some (Bool.false)))
abbrev sWithin_G (n : Int) (low : Int) (high : Int) (r : Bool) : Prop := EvFr Try.prog cf true 46 [.i (n), .i (low), .i (high)] (.b (r))
theorem sWithin_ok (n : Int) (low : Int) (high : Int) (r : Bool) : sWithin n low high = some r → sWithin_G n low high r := by
  unfold sWithin
  refine tb_ok (fun h0 => ?_) (fun h0 => ?_)
  ·
    have h0p := of_decide_eq_true h0
    intro e; injection e with e; subst e
    exact leafR vw_eq (k := 300) (r := []) (hs := hz [(5, [.yes]), (1, [.yes]), (1, [.yes]), (1, [.yes]), (1, [])]) (raw := (AV.b (decide (n ≤ high)))) kq (ac h0 (ac h0 (ac h0 (ac h0 an)))) tq
  ·
    have h0p := of_decide_eq_false h0
    intro e; injection e with e; subst e
    exact leafR vw_eq (k := 300) (r := []) (hs := hz [(5, [.no, .no, .no, .no]), (1, [])]) (raw := (AV.b Bool.false)) kq (ac h0 (ac h0 (ac h0 (ac h0 an)))) tq
/-- Function 85, as it answers. -/
noncomputable def eCheck (x : Ex) : Option (Bool) :=
 (tb ((decide (x.lba ≥ (0 : Int))))
  (tb ((decide (x.lba ≤ (64 : Int))))
   (tb ((decide (x.len ≥ (1 : Int))))
    (tb ((decide (x.len ≤ (wr ((64 : Int) - x.lba)))))
     (tb ((decide (x.kind ≥ (0 : Int))))
      (tb ((decide (x.kind ≤ (2 : Int))))
       (tb ((decide (x.gen ≥ (0 : Int))))
        (tb ((decide (x.gen ≤ (2147483647 : Int))))
         (tb ((x.kind == (2 : Int)))
          (some (((x.d.length : Int) == (wr (x.len * (32 : Int))))))
          (some (((x.d.length : Int) == (0 : Int)))))
         (some (Bool.false)))
        (some (Bool.false)))
       (some (Bool.false)))
      (some (Bool.false)))
     (some (Bool.false)))
    (some (Bool.false)))
   (some (Bool.false)))
  (some (Bool.false)))
abbrev eCheck_G (x : Ex) (r : Bool) : Prop := EvFr Try.prog cf true 85 [Ex.av (x)] (.b (r))
theorem eCheck_ok (x : Ex) (r : Bool) : eCheck x = some r → eCheck_G x r := by
  unfold eCheck
  refine tb_ok (fun h0 => ?_) (fun h0 => ?_)
  ·
    have h0p := of_decide_eq_true h0
    refine tb_ok (fun h1 => ?_) (fun h1 => ?_)
    ·
      have h1p := of_decide_eq_true h1
      refine tb_ok (fun h2 => ?_) (fun h2 => ?_)
      ·
        have h2p := of_decide_eq_true h2
        refine tb_ok (fun h3 => ?_) (fun h3 => ?_)
        ·
          have h3p := of_decide_eq_true h3
          refine tb_ok (fun h4 => ?_) (fun h4 => ?_)
          ·
            have h4p := of_decide_eq_true h4
            refine tb_ok (fun h5 => ?_) (fun h5 => ?_)
            ·
              have h5p := of_decide_eq_true h5
              refine tb_ok (fun h6 => ?_) (fun h6 => ?_)
              ·
                have h6p := of_decide_eq_true h6
                refine tb_ok (fun h7 => ?_) (fun h7 => ?_)
                ·
                  have h7p := of_decide_eq_true h7
                  refine tb_ok (fun h8 => ?_) (fun h8 => ?_)
                  ·
                    have h8p := eq_of_beq h8
                    intro e; injection e with e; subst e
                    exact leafR vw_eq (k := 300) (r := []) (hs := hz [(12, [.yes]), (1, [.yes]), (1, [.yes]), (1, [.yes]), (2, [.yes]), (1, [.yes]), (2, [.yes]), (1, [.yes]), (2, [.yes]), (1, [.yes]), (7, [.yes]), (1, [.yes]), (1, [.yes]), (1, [.yes]), (1, [.yes]), (1, [.yes]), (1, [.yes]), (2, [.yes]), (7, [.yes]), (1, [.yes]), (1, [.yes]), (1, [.yes]), (1, [.yes]), (1, [.yes]), (1, [.yes]), (2, [.yes]), (7, [.yes]), (1, [.yes]), (1, [.yes]), (1, [.yes]), (1, [.yes]), (1, [.yes]), (1, [.yes]), (2, [.yes]), (1, [.yes]), (1, [.fc, .yes]), (8, [.yes]), (5, [.yes]), (1, [.yes]), (1, [.yes])]) (raw := (AV.b ((x.d.length : Int) == (wr (x.len * (32 : Int)))))) kq (ac h0 (ac h0 (ac h0 (ac h0 (ac h1 (ac h1 (ac h1 (ac h1 (ac h1 (ac h1 (ac h2 (ac h2 (ac h2 (ac h2 (ac h1 (ac h3 (ac h3 (ac h3 (ac h4 (ac h4 (ac h4 (ac h4 (ac h3 (ac h5 (ac h5 (ac h5 (ac h6 (ac h6 (ac h6 (ac h6 (ac h5 (ac h7 (ac h7 (ac h7 (ac h7 (ac h7 (ac h8 (ac h7 (ac h7 (ac (show orderOk (rg Try.prog 85 0) = true ∧ allOk (Region.before (rg Try.prog 85 0)) [] 0 [(some [], some []), (some [0], some []), (some [], some []), (some [], some []), (some [], some []), (some [0], some []), (some [], some []), (some [0], some []), (some [], some []), (some [], some []), (some [], some []), (some [], some []), (some [], some []), (some [0], some []), (some [], some []), (some [], some []), (some [], some []), (some [], some []), (some [0], some []), (some [], some []), (some [], some []), (some [], some []), (some [], some []), (some [0], some []), (some [], some []), (some [0], some []), (some [], some []), (some [], some []), (some [], some []), (some [], some [])] = true from (ord_of ord_85_0 bef_85_0 kq)) an)))))))))))))))))))))))))))))))))))))))) tq
                  ·
                    have h8p := ne_of_beq_false h8
                    intro e; injection e with e; subst e
                    exact leafR vw_eq (k := 300) (r := []) (hs := hz [(12, [.yes]), (1, [.yes]), (1, [.yes]), (1, [.yes]), (2, [.yes]), (1, [.yes]), (2, [.yes]), (1, [.yes]), (2, [.yes]), (1, [.yes]), (7, [.yes]), (1, [.yes]), (1, [.yes]), (1, [.yes]), (1, [.yes]), (1, [.yes]), (1, [.yes]), (2, [.yes]), (7, [.yes]), (1, [.yes]), (1, [.yes]), (1, [.yes]), (1, [.yes]), (1, [.yes]), (1, [.yes]), (2, [.yes]), (7, [.yes]), (1, [.yes]), (1, [.yes]), (1, [.yes]), (1, [.yes]), (1, [.yes]), (1, [.yes]), (2, [.yes]), (1, [.yes]), (1, [.fc, .yes]), (8, [.no]), (1, [.yes]), (1, [.yes]), (1, [.yes])]) (raw := (AV.b ((x.d.length : Int) == (0 : Int)))) kq (ac h0 (ac h0 (ac h0 (ac h0 (ac h1 (ac h1 (ac h1 (ac h1 (ac h1 (ac h1 (ac h2 (ac h2 (ac h2 (ac h2 (ac h1 (ac h3 (ac h3 (ac h3 (ac h4 (ac h4 (ac h4 (ac h4 (ac h3 (ac h5 (ac h5 (ac h5 (ac h6 (ac h6 (ac h6 (ac h6 (ac h5 (ac h7 (ac h7 (ac h7 (ac h7 (ac h7 (ac h8 (ac h7 (ac h7 (ac (show orderOk (rg Try.prog 85 0) = true ∧ allOk (Region.before (rg Try.prog 85 0)) [] 0 [(some [], some []), (some [0], some []), (some [], some []), (some [], some []), (some [], some []), (some [0], some []), (some [], some []), (some [0], some []), (some [], some []), (some [], some []), (some [], some []), (some [], some []), (some [], some []), (some [0], some []), (some [], some []), (some [], some []), (some [], some []), (some [], some []), (some [0], some []), (some [], some []), (some [], some []), (some [], some []), (some [], some []), (some [0], some []), (some [], some []), (some [0], some []), (some [], some []), (some [], some []), (some [], some []), (some [], some [])] = true from (ord_of ord_85_0 bef_85_0 kq)) an)))))))))))))))))))))))))))))))))))))))) tq
                ·
                  have h7p := of_decide_eq_false h7
                  intro e; injection e with e; subst e
                  exact leafR vw_eq (k := 300) (r := []) (hs := hz [(12, [.yes]), (1, [.yes]), (1, [.yes]), (1, [.yes]), (2, [.yes]), (1, [.yes]), (2, [.yes]), (1, [.yes]), (2, [.yes]), (1, [.yes]), (7, [.yes]), (1, [.yes]), (1, [.yes]), (1, [.yes]), (1, [.yes]), (1, [.yes]), (1, [.yes]), (2, [.yes]), (7, [.yes]), (1, [.yes]), (1, [.yes]), (1, [.yes]), (1, [.yes]), (1, [.yes]), (1, [.yes]), (2, [.yes]), (7, [.yes]), (1, [.yes]), (1, [.yes]), (1, [.yes]), (1, [.yes]), (1, [.no, .no, .no, .no, .no, .no, .no]), (1, [.yes])]) (raw := (AV.b Bool.false)) kq (ac h0 (ac h0 (ac h0 (ac h0 (ac h1 (ac h1 (ac h1 (ac h1 (ac h1 (ac h1 (ac h2 (ac h2 (ac h2 (ac h2 (ac h1 (ac h3 (ac h3 (ac h3 (ac h4 (ac h4 (ac h4 (ac h4 (ac h3 (ac h5 (ac h5 (ac h5 (ac h6 (ac h6 (ac h6 (ac h6 (ac h5 (ac h7 (ac h7 (ac h7 (ac h7 (ac h7 (ac h7 (ac h7 (ac (show orderOk (rg Try.prog 85 0) = true ∧ allOk (Region.before (rg Try.prog 85 0)) [] 0 [(some [], some []), (some [0], some []), (some [], some []), (some [], some []), (some [], some []), (some [0], some []), (some [], some []), (some [0], some []), (some [], some []), (some [], some []), (some [], some []), (some [], some []), (some [], some []), (some [0], some []), (some [], some []), (some [], some []), (some [], some []), (some [], some []), (some [0], some []), (some [], some []), (some [], some []), (some [], some []), (some [], some []), (some [], some []), (some [], some []), (some [], some []), (some [], some []), (some [], some []), (some [], some []), (some [], some [])] = true from (ord_of ord_85_0 bef_85_0 kq)) an))))))))))))))))))))))))))))))))))))))) tq
              ·
                have h6p := of_decide_eq_false h6
                intro e; injection e with e; subst e
                exact leafR vw_eq (k := 300) (r := []) (hs := hz [(12, [.yes]), (1, [.yes]), (1, [.yes]), (1, [.yes]), (2, [.yes]), (1, [.yes]), (2, [.yes]), (1, [.yes]), (2, [.yes]), (1, [.yes]), (7, [.yes]), (1, [.yes]), (1, [.yes]), (1, [.yes]), (1, [.yes]), (1, [.yes]), (1, [.yes]), (2, [.yes]), (7, [.yes]), (1, [.yes]), (1, [.yes]), (1, [.yes]), (1, [.yes]), (1, [.yes]), (1, [.yes]), (2, [.yes]), (7, [.no, .no, .no, .no]), (1, [.yes]), (9, [.yes])]) (raw := (AV.b Bool.false)) kq (ac h0 (ac h0 (ac h0 (ac h0 (ac h1 (ac h1 (ac h1 (ac h1 (ac h1 (ac h1 (ac h2 (ac h2 (ac h2 (ac h2 (ac h1 (ac h3 (ac h3 (ac h3 (ac h4 (ac h4 (ac h4 (ac h4 (ac h3 (ac h5 (ac h5 (ac h5 (ac h6 (ac h6 (ac h6 (ac h6 (ac h5 (ac (show orderOk (rg Try.prog 85 0) = true ∧ allOk (Region.before (rg Try.prog 85 0)) [] 0 [(some [], some []), (some [0], some []), (some [], some []), (some [], some []), (some [], some []), (some [0], some []), (some [], some []), (some [0], some []), (some [], some []), (some [], some []), (some [], some []), (some [], some []), (some [], some []), (some [0], some []), (some [], some []), (some [], some []), (some [], some []), (some [], some []), (some [0], some []), (some [], some []), (some [], some []), (some [], some []), (some [], some []), (some [], some []), (some [], some []), (some [], some []), (some [], some []), (some [], some []), (some [], some []), (some [], some [])] = true from (ord_of ord_85_0 bef_85_0 kq)) an)))))))))))))))))))))))))))))))) tq
            ·
              have h5p := of_decide_eq_false h5
              intro e; injection e with e; subst e
              exact leafR vw_eq (k := 300) (r := []) (hs := hz [(12, [.yes]), (1, [.yes]), (1, [.yes]), (1, [.yes]), (2, [.yes]), (1, [.yes]), (2, [.yes]), (1, [.yes]), (2, [.yes]), (1, [.yes]), (7, [.yes]), (1, [.yes]), (1, [.yes]), (1, [.yes]), (1, [.yes]), (1, [.yes]), (1, [.yes]), (2, [.yes]), (7, [.yes]), (1, [.yes]), (1, [.yes]), (1, [.yes]), (1, [.yes]), (1, [.no, .no, .no, .no]), (9, [.yes])]) (raw := (AV.b Bool.false)) kq (ac h0 (ac h0 (ac h0 (ac h0 (ac h1 (ac h1 (ac h1 (ac h1 (ac h1 (ac h1 (ac h2 (ac h2 (ac h2 (ac h2 (ac h1 (ac h3 (ac h3 (ac h3 (ac h4 (ac h4 (ac h4 (ac h4 (ac h3 (ac h5 (ac h5 (ac h5 (ac h5 (ac (show orderOk (rg Try.prog 85 0) = true ∧ allOk (Region.before (rg Try.prog 85 0)) [] 0 [(some [], some []), (some [0], some []), (some [], some []), (some [], some []), (some [], some []), (some [0], some []), (some [], some []), (some [0], some []), (some [], some []), (some [], some []), (some [], some []), (some [], some []), (some [], some []), (some [0], some []), (some [], some []), (some [], some []), (some [], some []), (some [], some []), (some [], some []), (some [], some []), (some [], some []), (some [], some []), (some [], some []), (some [], some []), (some [], some []), (some [], some []), (some [], some []), (some [], some []), (some [], some []), (some [], some [])] = true from (ord_of ord_85_0 bef_85_0 kq)) an)))))))))))))))))))))))))))) tq
          ·
            have h4p := of_decide_eq_false h4
            intro e; injection e with e; subst e
            exact leafR vw_eq (k := 300) (r := []) (hs := hz [(12, [.yes]), (1, [.yes]), (1, [.yes]), (1, [.yes]), (2, [.yes]), (1, [.yes]), (2, [.yes]), (1, [.yes]), (2, [.yes]), (1, [.yes]), (7, [.yes]), (1, [.yes]), (1, [.yes]), (1, [.yes]), (1, [.yes]), (1, [.yes]), (1, [.yes]), (2, [.yes]), (7, [.no, .no, .no, .no]), (1, [.yes]), (14, [.yes])]) (raw := (AV.b Bool.false)) kq (ac h0 (ac h0 (ac h0 (ac h0 (ac h1 (ac h1 (ac h1 (ac h1 (ac h1 (ac h1 (ac h2 (ac h2 (ac h2 (ac h2 (ac h1 (ac h3 (ac h3 (ac h3 (ac h4 (ac h4 (ac h4 (ac h4 (ac h3 (ac (show orderOk (rg Try.prog 85 0) = true ∧ allOk (Region.before (rg Try.prog 85 0)) [] 0 [(some [], some []), (some [0], some []), (some [], some []), (some [], some []), (some [], some []), (some [0], some []), (some [], some []), (some [0], some []), (some [], some []), (some [], some []), (some [], some []), (some [], some []), (some [], some []), (some [0], some []), (some [], some []), (some [], some []), (some [], some []), (some [], some []), (some [], some []), (some [], some []), (some [], some []), (some [], some []), (some [], some []), (some [], some []), (some [], some []), (some [], some []), (some [], some []), (some [], some []), (some [], some []), (some [], some [])] = true from (ord_of ord_85_0 bef_85_0 kq)) an)))))))))))))))))))))))) tq
        ·
          have h3p := of_decide_eq_false h3
          intro e; injection e with e; subst e
          exact leafR vw_eq (k := 300) (r := []) (hs := hz [(12, [.yes]), (1, [.yes]), (1, [.yes]), (1, [.yes]), (2, [.yes]), (1, [.yes]), (2, [.yes]), (1, [.yes]), (2, [.yes]), (1, [.yes]), (7, [.yes]), (1, [.yes]), (1, [.yes]), (1, [.yes]), (1, [.yes]), (1, [.no, .no, .no, .no]), (14, [.yes])]) (raw := (AV.b Bool.false)) kq (ac h0 (ac h0 (ac h0 (ac h0 (ac h1 (ac h1 (ac h1 (ac h1 (ac h1 (ac h1 (ac h2 (ac h2 (ac h2 (ac h2 (ac h1 (ac h3 (ac h3 (ac h3 (ac h3 (ac (show orderOk (rg Try.prog 85 0) = true ∧ allOk (Region.before (rg Try.prog 85 0)) [] 0 [(some [], some []), (some [0], some []), (some [], some []), (some [], some []), (some [], some []), (some [0], some []), (some [], some []), (some [0], some []), (some [], some []), (some [], some []), (some [], some []), (some [], some []), (some [], some []), (some [], some []), (some [], some []), (some [], some []), (some [], some []), (some [], some []), (some [], some []), (some [], some []), (some [], some []), (some [], some []), (some [], some []), (some [], some []), (some [], some []), (some [], some []), (some [], some []), (some [], some []), (some [], some []), (some [], some [])] = true from (ord_of ord_85_0 bef_85_0 kq)) an)))))))))))))))))))) tq
      ·
        have h2p := of_decide_eq_false h2
        intro e; injection e with e; subst e
        exact leafR vw_eq (k := 300) (r := []) (hs := hz [(12, [.yes]), (1, [.yes]), (1, [.yes]), (1, [.yes]), (2, [.yes]), (1, [.yes]), (2, [.yes]), (1, [.yes]), (2, [.yes]), (1, [.yes]), (7, [.no, .no, .no, .no]), (1, [.yes]), (19, [.yes])]) (raw := (AV.b Bool.false)) kq (ac h0 (ac h0 (ac h0 (ac h0 (ac h1 (ac h1 (ac h1 (ac h1 (ac h1 (ac h1 (ac h2 (ac h2 (ac h2 (ac h2 (ac h1 (ac (show orderOk (rg Try.prog 85 0) = true ∧ allOk (Region.before (rg Try.prog 85 0)) [] 0 [(some [], some []), (some [0], some []), (some [], some []), (some [], some []), (some [], some []), (some [0], some []), (some [], some []), (some [0], some []), (some [], some []), (some [], some []), (some [], some []), (some [], some []), (some [], some []), (some [], some []), (some [], some []), (some [], some []), (some [], some []), (some [], some []), (some [], some []), (some [], some []), (some [], some []), (some [], some []), (some [], some []), (some [], some []), (some [], some []), (some [], some []), (some [], some []), (some [], some []), (some [], some []), (some [], some [])] = true from (ord_of ord_85_0 bef_85_0 kq)) an)))))))))))))))) tq
    ·
      have h1p := of_decide_eq_false h1
      intro e; injection e with e; subst e
      exact leafR vw_eq (k := 300) (r := []) (hs := hz [(12, [.yes]), (1, [.yes]), (1, [.yes]), (1, [.yes]), (2, [.no, .no, .no, .no, .no, .no, .no]), (19, [.yes])]) (raw := (AV.b Bool.false)) kq (ac h0 (ac h0 (ac h0 (ac h0 (ac h1 (ac h1 (ac h1 (ac h1 (ac h1 (ac h1 (ac h1 (ac (show orderOk (rg Try.prog 85 0) = true ∧ allOk (Region.before (rg Try.prog 85 0)) [] 0 [(some [], some []), (some [0], some []), (some [], some []), (some [], some []), (some [], some []), (some [], some []), (some [], some []), (some [], some []), (some [], some []), (some [], some []), (some [], some []), (some [], some []), (some [], some []), (some [], some []), (some [], some []), (some [], some []), (some [], some []), (some [], some []), (some [], some []), (some [], some []), (some [], some []), (some [], some []), (some [], some []), (some [], some []), (some [], some []), (some [], some []), (some [], some []), (some [], some []), (some [], some []), (some [], some [])] = true from (ord_of ord_85_0 bef_85_0 kq)) an)))))))))))) tq
  ·
    have h0p := of_decide_eq_false h0
    intro e; injection e with e; subst e
    exact leafR vw_eq (k := 300) (r := []) (hs := hz [(12, [.no, .no, .no, .no]), (28, [.yes])]) (raw := (AV.b Bool.false)) kq (ac h0 (ac h0 (ac h0 (ac h0 (ac (show orderOk (rg Try.prog 85 0) = true ∧ allOk (Region.before (rg Try.prog 85 0)) [] 0 [(some [], some []), (some [0], some []), (some [], some []), (some [], some []), (some [], some []), (some [], some []), (some [], some []), (some [], some []), (some [], some []), (some [], some []), (some [], some []), (some [], some []), (some [], some []), (some [], some []), (some [], some []), (some [], some []), (some [], some []), (some [], some []), (some [], some []), (some [], some []), (some [], some []), (some [], some []), (some [], some []), (some [], some []), (some [], some []), (some [], some []), (some [], some []), (some [], some []), (some [], some []), (some [], some [])] = true from (ord_of ord_85_0 bef_85_0 kq)) an))))) tq
/-- Function 86, as it answers. -/
noncomputable def eJoins (a : Ex) (b : Ex) : Option (Bool) :=
 (tc (eCheck (a)) fun s0 =>
  (tb (s0)
   (tc (eCheck (b)) fun s2 =>
    (tb (s2)
     (tb (((wr (a.lba + a.len)) == b.lba))
      (tb ((a.kind == b.kind))
       (some ((a.gen == b.gen)))
       (some (Bool.false)))
      (some (Bool.false)))
     (some (Bool.false))))
   (some (Bool.false))))
abbrev eJoins_G (a : Ex) (b : Ex) (r : Bool) : Prop := EvFr Try.prog cf true 86 [Ex.av (a), Ex.av (b)] (.b (r))
theorem eJoins_ok (a : Ex) (b : Ex) (r : Bool) : eJoins a b = some r → eJoins_G a b r := by
  unfold eJoins
  refine tc_ok (fun s0 h0 => ?_)
  refine tb_ok (fun h1 => ?_) (fun h1 => ?_)
  ·
    refine tc_ok (fun s2 h2 => ?_)
    refine tb_ok (fun h3 => ?_) (fun h3 => ?_)
    ·
      refine tb_ok (fun h4 => ?_) (fun h4 => ?_)
      ·
        have h4p := eq_of_beq h4
        refine tb_ok (fun h5 => ?_) (fun h5 => ?_)
        ·
          have h5p := eq_of_beq h5
          intro e; injection e with e; subst e
          exact leafR vw_eq (k := 300) (r := []) (hs := hz [(4, [.fc]), (1, [.fres (.b (s0))]), (1, [.yes]), (1, [.fc, .yes]), (1, [.fres (.b (s2)), .yes]), (1, [.yes]), (1, [.yes]), (2, [.yes]), (1, [.yes]), (2, [.yes]), (1, [.yes]), (1, [.yes]), (2, [.yes]), (1, [.yes]), (1, [.yes]), (1, [.yes]), (2, [.yes]), (1, [.yes]), (2, [.yes]), (1, [.yes]), (1, [.yes]), (1, [.yes]), (2, [.yes]), (1, [.yes]), (2, [.yes]), (1, [.yes]), (1, [])]) (raw := (AV.b (a.gen == b.gen))) kq (ac (eCheck_ok (a) _ h0).any0 (ac h1 (ac h1 (ac (eCheck_ok (b) _ h2).any0 (ac h1 (ac h3 (ac h3 (ac h3 (ac h3 (ac h3 (ac h3 (ac h3 (ac h3 (ac h3 (ac h4 (ac h4 (ac h4 (ac h4 (ac h4 (ac h4 (ac h5 (ac h5 (ac h5 (ac h5 (ac h5 (ac h5 an)))))))))))))))))))))))))) tq
        ·
          have h5p := ne_of_beq_false h5
          intro e; injection e with e; subst e
          exact leafR vw_eq (k := 300) (r := []) (hs := hz [(4, [.fc]), (1, [.fres (.b (s0))]), (1, [.yes]), (1, [.fc, .yes]), (1, [.fres (.b (s2)), .yes]), (1, [.yes]), (1, [.yes]), (2, [.yes]), (1, [.yes]), (2, [.yes]), (1, [.yes]), (1, [.yes]), (2, [.yes]), (1, [.yes]), (1, [.yes]), (1, [.yes]), (2, [.yes]), (1, [.yes]), (2, [.yes]), (1, [.yes]), (1, [.no, .no, .no, .no, .no, .no]), (1, [])]) (raw := (AV.b Bool.false)) kq (ac (eCheck_ok (a) _ h0).any0 (ac h1 (ac h1 (ac (eCheck_ok (b) _ h2).any0 (ac h1 (ac h3 (ac h3 (ac h3 (ac h3 (ac h3 (ac h3 (ac h3 (ac h3 (ac h3 (ac h4 (ac h4 (ac h4 (ac h4 (ac h4 (ac h4 (ac h5 (ac h5 (ac h5 (ac h5 (ac h5 (ac h5 an)))))))))))))))))))))))))) tq
      ·
        have h4p := ne_of_beq_false h4
        intro e; injection e with e; subst e
        exact leafR vw_eq (k := 300) (r := []) (hs := hz [(4, [.fc]), (1, [.fres (.b (s0))]), (1, [.yes]), (1, [.fc, .yes]), (1, [.fres (.b (s2)), .yes]), (1, [.yes]), (1, [.yes]), (2, [.yes]), (1, [.yes]), (2, [.yes]), (1, [.yes]), (1, [.yes]), (2, [.yes]), (1, [.yes]), (1, [.no, .no, .no, .no, .no, .no]), (8, [])]) (raw := (AV.b Bool.false)) kq (ac (eCheck_ok (a) _ h0).any0 (ac h1 (ac h1 (ac (eCheck_ok (b) _ h2).any0 (ac h1 (ac h3 (ac h3 (ac h3 (ac h3 (ac h3 (ac h3 (ac h3 (ac h3 (ac h3 (ac h4 (ac h4 (ac h4 (ac h4 (ac h4 (ac h4 an)))))))))))))))))))) tq
    ·
      intro e; injection e with e; subst e
      exact leafR vw_eq (k := 300) (r := []) (hs := hz [(4, [.fc]), (1, [.fres (.b (s0))]), (1, [.yes]), (1, [.fc, .yes]), (1, [.fres (.b (s2)), .yes]), (1, [.no, .no, .no, .no, .no, .no, .no, .no, .no]), (15, [])]) (raw := (AV.b Bool.false)) kq (ac (eCheck_ok (a) _ h0).any0 (ac h1 (ac h1 (ac (eCheck_ok (b) _ h2).any0 (ac h1 (ac h3 (ac h3 (ac h3 (ac h3 (ac h3 (ac h3 (ac h3 (ac h3 (ac h3 an)))))))))))))) tq
  ·
    intro e; injection e with e; subst e
    exact leafR vw_eq (k := 300) (r := []) (hs := hz [(4, [.fc]), (1, [.fres (.b (s0))]), (1, [.no, .no, .no]), (25, [])]) (raw := (AV.b Bool.false)) kq (ac (eCheck_ok (a) _ h0).any0 (ac h1 (ac h1 (ac h1 an)))) tq
noncomputable abbrev mCheck_L0_I (blocks : Int) (l : List Ex) : St := (St.mk [(0, (AV.i blocks)), (1, (exs l)), (4, (AV.b Bool.false)), (5, (AV.i 0)), (8, (exs l)), (9, (AV.i (l.length : Int))), (10, (AV.i 0))] 50 (AH.mk 0 ([] : List (Prod Nat AObj))) Bool.false)
noncomputable abbrev mCheck_L0_S (blocks : Int) (l : List Ex) (s0 : Int × Int) : St := (St.mk [(0, (AV.i blocks)), (1, (exs l)), (5, (AV.i s0.1)), (8, (exs l)), (9, (AV.i (l.length : Int))), (10, (AV.i s0.2))] 50 (AH.mk 0 ([] : List (Prod Nat AObj))) Bool.false)
noncomputable def mCheck_L0_step (blocks : Int) (l : List Ex) (s0 : Int × Int) : Option (Int × Int) :=
 (tb ((decide (s0.2 < (l.length : Int))))
  (tp ((((0 : Int) ≤ s0.2) ∧ (s0.2 < (l.length : Int))))
   (tc (eCheck ((exAt l s0.2.toNat))) fun s3 =>
    (tb ((!s3))
     none /- exit -/
     (tb (((exAt l s0.2.toNat).lba != s0.1))
      none /- exit -/
      (tb ((decide (s0.2 > (0 : Int))))
       (tp ((((0 : Int) ≤ (wr (s0.2 - (1 : Int)))) ∧ ((wr (s0.2 - (1 : Int))) < (l.length : Int))))
        (tc (eJoins ((exAt l (Int.toNat (wr (s0.2 - (1 : Int)))))) ((exAt l s0.2.toNat))) fun s8 =>
         (tb (s8)
          none /- exit -/
          (some (((wr (s0.1 + (exAt l s0.2.toNat).len)), (wr (s0.2 + (1 : Int)))))))))
       (some (((wr (s0.1 + (exAt l s0.2.toNat).len)), (wr (s0.2 + (1 : Int)))))))))))
  none /- exit -/)
theorem mCheck_L0_ok (blocks : Int) (l : List Ex) (s0 zz : Int × Int) : mCheck_L0_step blocks l s0 = some zz → EvStep Try.prog cf 0 (lp Try.prog 58 0) (mCheck_L0_S blocks l s0) (mCheck_L0_S blocks l zz) := by
  unfold mCheck_L0_step
  refine tb_ok (fun h1 => ?_) (fun h1 => ?_)
  ·
    have h1p := of_decide_eq_true h1
    refine tp_ok (fun h2 => ?_)
    refine tc_ok (fun s3 h3 => ?_)
    refine tb_ok (fun h4 => ?_) (fun h4 => ?_)
    ·
      exact fun e => nomatch e
    ·
      refine tb_ok (fun h5 => ?_) (fun h5 => ?_)
      ·
        have h5p := bne_iff_ne.1 h5
        exact fun e => nomatch e
      ·
        have h5p := bne_eq_false_iff_eq.1 h5
        refine tb_ok (fun h6 => ?_) (fun h6 => ?_)
        ·
          have h6p := of_decide_eq_true h6
          refine tp_ok (fun h7 => ?_)
          refine tc_ok (fun s8 h8 => ?_)
          refine tb_ok (fun h9 => ?_) (fun h9 => ?_)
          ·
            exact fun e => nomatch e
          ·
            intro e; injection e with e; subst e
            exact leafIS vw_eq (k := 300) (r := []) (hs := hz [(1, [.yes]), (1, [.yes, .yes, .cells ((Ex.cells (exAt l s0.2.toNat)))]), (3, [.fc]), (1, [.fc]), (1, [.fres (.b (s3))]), (2, [.no]), (1, [.no]), (2, [.no]), (1, [.no]), (1, [.no]), (1, [.no]), (1, [.no]), (1, [.no]), (1, [.yes]), (1, [.yes]), (1, [.yes]), (1, [.yes, .yes, .yes, .yes, .cells ((Ex.cells (exAt l (Int.toNat (wr (s0.2 - (1 : Int))))))), .yes]), (1, [.fc, .yes]), (1, [.fres (.b (s8)), .no, .yes, .no, .yes, .no]), (8, [])]) (ks := [0, 1, 5, 8, 9, 10]) (bs := []) kq (ac h1 (ac h2 (ac (fq (p := ((5 : Nat) ≤ (List.length (List.drop (s0.2.toNat * 5) (List.flatMap Ex.cells l)))))) (ac (show (List.take 5 (List.drop (s0.2.toNat * 5) (List.flatMap Ex.cells l))) = (Ex.cells (exAt l s0.2.toNat)) from (ex_takeO bq bq)) (ac (eCheck_ok ((exAt l s0.2.toNat)) _ h3).any0 (ac h4 (ac h4 (ac h4 (ac h4 (ac h4 (ac h5 (ac h5 (ac h5 (ac h6 (ac h6 (ac h6 (ac h6 (ac h7 (ac h6 (ac (fq (p := ((5 : Nat) ≤ (List.length (List.drop ((Int.toNat (wr (s0.2 - (1 : Int)))) * 5) (List.flatMap Ex.cells l)))))) (ac (show (List.take 5 (List.drop ((Int.toNat (wr (s0.2 - (1 : Int)))) * 5) (List.flatMap Ex.cells l))) = (Ex.cells (exAt l (Int.toNat (wr (s0.2 - (1 : Int)))))) from (ex_takeO bq bq)) (ac h6 (ac h6 (ac (eJoins_ok ((exAt l (Int.toNat (wr (s0.2 - (1 : Int)))))) ((exAt l s0.2.toNat)) _ h8).any0 (ac h5 (ac h6 (ac h5 (ac (show orderOk (rg Try.prog 58 0) = true ∧ allOk (Region.before (rg Try.prog 58 0)) [] 0 [(some [0], some []), (some [], some []), (some [], some []), (some [], some []), (some [], some []), (some [0], some []), (some [], some []), (some [], some []), (some [], some []), (some [], some []), (some [], some []), (some [], some []), (some [], some []), (some [], some []), (some [], some []), (some [], some []), (some [], some []), (some [], some []), (some [0], some []), (some [], some []), (some [], some []), (some [], some [])] = true from (ord_of ord_58_0 bef_58_0 kq)) (ac h9 an))))))))))))))))))))))))))))) kq
        ·
          have h6p := of_decide_eq_false h6
          intro e; injection e with e; subst e
          exact leafIS vw_eq (k := 300) (r := []) (hs := hz [(1, [.yes]), (1, [.yes, .yes, .cells ((Ex.cells (exAt l s0.2.toNat)))]), (3, [.fc]), (1, [.fc]), (1, [.fres (.b (s3))]), (2, [.no]), (1, [.no]), (2, [.no]), (1, [.no]), (1, [.no]), (1, [.no]), (1, [.no]), (1, [.no]), (1, [.no, .no, .no, .no, .no, .no, .no, .no, .no, .no, .yes]), (9, [])]) (ks := [0, 1, 5, 8, 9, 10]) (bs := []) kq (ac h1 (ac h2 (ac (fq (p := ((5 : Nat) ≤ (List.length (List.drop (s0.2.toNat * 5) (List.flatMap Ex.cells l)))))) (ac (show (List.take 5 (List.drop (s0.2.toNat * 5) (List.flatMap Ex.cells l))) = (Ex.cells (exAt l s0.2.toNat)) from (ex_takeO bq bq)) (ac (eCheck_ok ((exAt l s0.2.toNat)) _ h3).any0 (ac h4 (ac h4 (ac h4 (ac h4 (ac h4 (ac h5 (ac h5 (ac h5 (ac h6 (ac h6 (ac h6 (ac h6 (ac h6 (ac h6 (ac h6 (ac h5 (ac h6 (ac h5 (ac (show orderOk (rg Try.prog 58 0) = true ∧ allOk (Region.before (rg Try.prog 58 0)) [] 0 [(some [0], some []), (some [], some []), (some [], some []), (some [], some []), (some [], some []), (some [0], some []), (some [], some []), (some [], some []), (some [], some []), (some [], some []), (some [], some []), (some [], some []), (some [], some []), (some [], some []), (some [], some []), (some [], some []), (some [], some []), (some [], some []), (some [], some []), (some [], some []), (some [], some []), (some [], some [])] = true from (ord_of ord_58_0 bef_58_0 kq)) an)))))))))))))))))))))))) kq
  ·
    have h1p := of_decide_eq_false h1
    exact fun e => nomatch e
/-- Function 58, as it answers. -/
noncomputable def mCheck (blocks : Int) (l : List Ex) : Option (Bool) :=
 (th (mCheck_L0_step blocks l) (((0 : Int), (0 : Int))) fun s0 =>
  (tb ((decide (s0.2 < (l.length : Int))))
   (tp ((((0 : Int) ≤ s0.2) ∧ (s0.2 < (l.length : Int))))
    (tc (eCheck ((exAt l s0.2.toNat))) fun s3 =>
     (tb ((!s3))
      (some (Bool.false))
      (tb (((exAt l s0.2.toNat).lba != s0.1))
       (some (Bool.false))
       (tb ((decide (s0.2 > (0 : Int))))
        (tp ((((0 : Int) ≤ (wr (s0.2 - (1 : Int)))) ∧ ((wr (s0.2 - (1 : Int))) < (l.length : Int))))
         (tc (eJoins ((exAt l (Int.toNat (wr (s0.2 - (1 : Int)))))) ((exAt l s0.2.toNat))) fun s8 =>
          (tb (s8)
           (some (Bool.false))
           none /- stop behind an operation -/)))
        none /- stop behind an operation -/)))))
   (tb ((decide ((l.length : Int) > (0 : Int))))
    (some ((s0.1 == blocks)))
    (some (Bool.false)))))
abbrev mCheck_G (blocks : Int) (l : List Ex) (r : Bool) : Prop := EvFr Try.prog cf true 58 [.i (blocks), exs (l)] (.b (r))
theorem mCheck_ok (blocks : Int) (l : List Ex) (r : Bool) : mCheck blocks l = some r → mCheck_G blocks l r := by
  unfold mCheck
  refine th_ok (fun s0 h0 => ?_)
  refine tb_ok (fun h1 => ?_) (fun h1 => ?_)
  ·
    have h1p := of_decide_eq_true h1
    refine tp_ok (fun h2 => ?_)
    refine tc_ok (fun s3 h3 => ?_)
    refine tb_ok (fun h4 => ?_) (fun h4 => ?_)
    ·
      intro e; injection e with e; subst e
      exact leafR vw_eq (k := 300) (r := []) (hs := hz [(5, [.head (mCheck_L0_S blocks l s0)]), (1, [.yes]), (1, [.yes, .yes, .cells ((Ex.cells (exAt l s0.2.toNat)))]), (3, [.fc]), (1, [.fc]), (1, [.fres (.b (s3))]), (2, [.yes, .yes, .yes, .yes, .yes]), (6, [.yes]), (2, [])]) (raw := (AV.b Bool.false)) kq (ac (show EvHead Try.prog cf (lp Try.prog 58 0) (mCheck_L0_I blocks l) (mCheck_L0_S blocks l s0) from (EvHead.of (mCheck_L0_ok blocks l) (absB_of [] [] kq (.consn kq (.eqv tq rfl) (.consn kq (.eqv tq rfl) (.consn kq (.eqv tq rfl) (.consn kq (.eqv tq rfl) (.consn kq (.eqv tq rfl) (.consn kq (.eqv tq rfl) .nil)))))) .nil) h0)) (ac h1 (ac h2 (ac (fq (p := ((5 : Nat) ≤ (List.length (List.drop (s0.2.toNat * 5) (List.flatMap Ex.cells l)))))) (ac (show (List.take 5 (List.drop (s0.2.toNat * 5) (List.flatMap Ex.cells l))) = (Ex.cells (exAt l s0.2.toNat)) from (ex_takeO bq bq)) (ac (eCheck_ok ((exAt l s0.2.toNat)) _ h3).any0 (ac h4 (ac h4 (ac h4 (ac h4 (ac h4 (ac (show orderOk (rg Try.prog 58 0) = true ∧ allOk (Region.before (rg Try.prog 58 0)) [] 0 [(some [0], some []), (some [], some []), (some [], some []), (some [], some []), (some [], some []), (some [], some []), (some [], some []), (some [], some []), (some [], some []), (some [], some []), (some [], some []), (some [], some []), (some [], some []), (some [], some []), (some [], some []), (some [], some []), (some [], some []), (some [], some []), (some [], some []), (some [], some []), (some [], some []), (some [], some [])] = true from (ord_of ord_58_0 bef_58_0 kq)) an)))))))))))) tq
    ·
      refine tb_ok (fun h5 => ?_) (fun h5 => ?_)
      ·
        have h5p := bne_iff_ne.1 h5
        intro e; injection e with e; subst e
        exact leafR vw_eq (k := 300) (r := []) (hs := hz [(5, [.head (mCheck_L0_S blocks l s0)]), (1, [.yes]), (1, [.yes, .yes, .cells ((Ex.cells (exAt l s0.2.toNat)))]), (3, [.fc]), (1, [.fc]), (1, [.fres (.b (s3))]), (2, [.no]), (1, [.no]), (2, [.no]), (1, [.no]), (1, [.no]), (1, [.yes, .yes, .yes, .yes, .yes, .yes]), (2, [])]) (raw := (AV.b Bool.false)) kq (ac (show EvHead Try.prog cf (lp Try.prog 58 0) (mCheck_L0_I blocks l) (mCheck_L0_S blocks l s0) from (EvHead.of (mCheck_L0_ok blocks l) (absB_of [] [] kq (.consn kq (.eqv tq rfl) (.consn kq (.eqv tq rfl) (.consn kq (.eqv tq rfl) (.consn kq (.eqv tq rfl) (.consn kq (.eqv tq rfl) (.consn kq (.eqv tq rfl) .nil)))))) .nil) h0)) (ac h1 (ac h2 (ac (fq (p := ((5 : Nat) ≤ (List.length (List.drop (s0.2.toNat * 5) (List.flatMap Ex.cells l)))))) (ac (show (List.take 5 (List.drop (s0.2.toNat * 5) (List.flatMap Ex.cells l))) = (Ex.cells (exAt l s0.2.toNat)) from (ex_takeO bq bq)) (ac (eCheck_ok ((exAt l s0.2.toNat)) _ h3).any0 (ac h4 (ac h4 (ac h4 (ac h4 (ac h4 (ac h5 (ac h5 (ac h5 (ac h5 (ac h5 (ac (show orderOk (rg Try.prog 58 0) = true ∧ allOk (Region.before (rg Try.prog 58 0)) [] 0 [(some [0], some []), (some [], some []), (some [], some []), (some [], some []), (some [], some []), (some [0], some []), (some [], some []), (some [], some []), (some [], some []), (some [], some []), (some [], some []), (some [], some []), (some [], some []), (some [], some []), (some [], some []), (some [], some []), (some [], some []), (some [], some []), (some [], some []), (some [], some []), (some [], some []), (some [], some [])] = true from (ord_of ord_58_0 bef_58_0 kq)) an))))))))))))))))) tq
      ·
        have h5p := bne_eq_false_iff_eq.1 h5
        refine tb_ok (fun h6 => ?_) (fun h6 => ?_)
        ·
          have h6p := of_decide_eq_true h6
          refine tp_ok (fun h7 => ?_)
          refine tc_ok (fun s8 h8 => ?_)
          refine tb_ok (fun h9 => ?_) (fun h9 => ?_)
          ·
            intro e; injection e with e; subst e
            exact leafR vw_eq (k := 300) (r := []) (hs := hz [(5, [.head (mCheck_L0_S blocks l s0)]), (1, [.yes]), (1, [.yes, .yes, .cells ((Ex.cells (exAt l s0.2.toNat)))]), (3, [.fc]), (1, [.fc]), (1, [.fres (.b (s3))]), (2, [.no]), (1, [.no]), (2, [.no]), (1, [.no]), (1, [.no]), (1, [.no]), (1, [.no]), (1, [.no]), (1, [.yes]), (1, [.yes]), (1, [.yes]), (1, [.yes, .yes, .yes, .yes, .cells ((Ex.cells (exAt l (Int.toNat (wr (s0.2 - (1 : Int))))))), .yes]), (1, [.fc, .yes]), (1, [.fres (.b (s8)), .no, .yes, .no, .yes, .yes]), (1, [])]) (raw := (AV.b Bool.false)) kq (ac (show EvHead Try.prog cf (lp Try.prog 58 0) (mCheck_L0_I blocks l) (mCheck_L0_S blocks l s0) from (EvHead.of (mCheck_L0_ok blocks l) (absB_of [] [] kq (.consn kq (.eqv tq rfl) (.consn kq (.eqv tq rfl) (.consn kq (.eqv tq rfl) (.consn kq (.eqv tq rfl) (.consn kq (.eqv tq rfl) (.consn kq (.eqv tq rfl) .nil)))))) .nil) h0)) (ac h1 (ac h2 (ac (fq (p := ((5 : Nat) ≤ (List.length (List.drop (s0.2.toNat * 5) (List.flatMap Ex.cells l)))))) (ac (show (List.take 5 (List.drop (s0.2.toNat * 5) (List.flatMap Ex.cells l))) = (Ex.cells (exAt l s0.2.toNat)) from (ex_takeO bq bq)) (ac (eCheck_ok ((exAt l s0.2.toNat)) _ h3).any0 (ac h4 (ac h4 (ac h4 (ac h4 (ac h4 (ac h5 (ac h5 (ac h5 (ac h6 (ac h6 (ac h6 (ac h6 (ac h7 (ac h6 (ac (fq (p := ((5 : Nat) ≤ (List.length (List.drop ((Int.toNat (wr (s0.2 - (1 : Int)))) * 5) (List.flatMap Ex.cells l)))))) (ac (show (List.take 5 (List.drop ((Int.toNat (wr (s0.2 - (1 : Int)))) * 5) (List.flatMap Ex.cells l))) = (Ex.cells (exAt l (Int.toNat (wr (s0.2 - (1 : Int)))))) from (ex_takeO bq bq)) (ac h6 (ac h6 (ac (eJoins_ok ((exAt l (Int.toNat (wr (s0.2 - (1 : Int)))))) ((exAt l s0.2.toNat)) _ h8).any0 (ac h5 (ac h6 (ac h5 (ac (show orderOk (rg Try.prog 58 0) = true ∧ allOk (Region.before (rg Try.prog 58 0)) [] 0 [(some [0], some []), (some [], some []), (some [], some []), (some [], some []), (some [], some []), (some [0], some []), (some [], some []), (some [], some []), (some [], some []), (some [], some []), (some [], some []), (some [], some []), (some [], some []), (some [], some []), (some [], some []), (some [], some []), (some [], some []), (some [], some []), (some [0], some []), (some [], some []), (some [], some []), (some [], some [])] = true from (ord_of ord_58_0 bef_58_0 kq)) (ac h9 an)))))))))))))))))))))))))))))) tq
          ·
            exact fun e => nomatch e
        ·
          have h6p := of_decide_eq_false h6
          exact fun e => nomatch e
  ·
    have h1p := of_decide_eq_false h1
    refine tb_ok (fun h2 => ?_) (fun h2 => ?_)
    ·
      have h2p := of_decide_eq_true h2
      intro e; injection e with e; subst e
      exact leafR vw_eq (k := 300) (r := []) (hs := hz [(5, [.head (mCheck_L0_S blocks l s0)]), (1, [.no]), (4, [.yes]), (1, [.yes]), (1, [.yes]), (1, [.yes]), (1, [])]) (raw := (AV.b (s0.1 == blocks))) kq (ac (show EvHead Try.prog cf (lp Try.prog 58 0) (mCheck_L0_I blocks l) (mCheck_L0_S blocks l s0) from (EvHead.of (mCheck_L0_ok blocks l) (absB_of [] [] kq (.consn kq (.eqv tq rfl) (.consn kq (.eqv tq rfl) (.consn kq (.eqv tq rfl) (.consn kq (.eqv tq rfl) (.consn kq (.eqv tq rfl) (.consn kq (.eqv tq rfl) .nil)))))) .nil) h0)) (ac h1 (ac h2 (ac h2 (ac h2 (ac h2 an)))))) tq
    ·
      have h2p := of_decide_eq_false h2
      intro e; injection e with e; subst e
      exact leafR vw_eq (k := 300) (r := []) (hs := hz [(5, [.head (mCheck_L0_S blocks l s0)]), (1, [.no]), (4, [.no, .no, .no, .no]), (1, [])]) (raw := (AV.b Bool.false)) kq (ac (show EvHead Try.prog cf (lp Try.prog 58 0) (mCheck_L0_I blocks l) (mCheck_L0_S blocks l s0) from (EvHead.of (mCheck_L0_ok blocks l) (absB_of [] [] kq (.consn kq (.eqv tq rfl) (.consn kq (.eqv tq rfl) (.consn kq (.eqv tq rfl) (.consn kq (.eqv tq rfl) (.consn kq (.eqv tq rfl) (.consn kq (.eqv tq rfl) .nil)))))) .nil) h0)) (ac h1 (ac h2 (ac h2 (ac h2 (ac h2 an)))))) tq
/-- Function 57, as it answers. -/
noncomputable def r7Same (a : Ex) (b : Ex) : Option (Bool) :=
 (tb ((a.lba == b.lba))
  (tb ((a.len == b.len))
   (tb ((a.kind == b.kind))
    (tb ((a.gen == b.gen))
     (some ((a.d == b.d)))
     (some (Bool.false)))
    (some (Bool.false)))
   (some (Bool.false)))
  (some (Bool.false)))
abbrev r7Same_G (a : Ex) (b : Ex) (r : Bool) : Prop := EvFr Try.prog cf true 57 [Ex.av (a), Ex.av (b)] (.b (r))
theorem r7Same_ok (a : Ex) (b : Ex) (r : Bool) : r7Same a b = some r → r7Same_G a b r := by
  unfold r7Same
  refine tb_ok (fun h0 => ?_) (fun h0 => ?_)
  ·
    have h0p := eq_of_beq h0
    refine tb_ok (fun h1 => ?_) (fun h1 => ?_)
    ·
      have h1p := eq_of_beq h1
      refine tb_ok (fun h2 => ?_) (fun h2 => ?_)
      ·
        have h2p := eq_of_beq h2
        refine tb_ok (fun h3 => ?_) (fun h3 => ?_)
        ·
          have h3p := eq_of_beq h3
          intro e; injection e with e; subst e
          exact leafR vw_eq (k := 300) (r := []) (hs := hz [(11, [.yes]), (1, [.yes]), (2, [.yes]), (1, [.yes]), (2, [.yes]), (1, [.yes]), (1, [.yes]), (1, [.yes]), (2, [.yes]), (1, [.yes]), (2, [.yes]), (1, [.yes]), (1, [.yes]), (1, [.yes]), (2, [.yes]), (1, [.yes]), (2, [.yes]), (1, [.yes]), (1, [.yes]), (1, [.yes]), (2, [.yes, .yes, .str (a.d), .yes]), (1, [.yes]), (2, [.yes, .yes, .str (b.d), .yes]), (1, [.yes]), (1, [])]) (raw := (AV.b (a.d == b.d))) kq (ac h0 (ac h0 (ac h0 (ac h0 (ac h0 (ac h0 (ac h1 (ac h1 (ac h1 (ac h1 (ac h1 (ac h1 (ac h2 (ac h2 (ac h2 (ac h2 (ac h2 (ac h2 (ac h3 (ac h3 (ac h3 (ac (tq (p := ((List.length (List.map AV.y a.d)) = (a.d.length * 1)))) (ac (tq (p := bytesOf ((List.map AV.y a.d)) = some (a.d))) (ac h3 (ac h3 (ac h3 (ac (tq (p := ((List.length (List.map AV.y b.d)) = (b.d.length * 1)))) (ac (tq (p := bytesOf ((List.map AV.y b.d)) = some (b.d))) (ac h3 (ac h3 an)))))))))))))))))))))))))))))) tq
        ·
          have h3p := ne_of_beq_false h3
          intro e; injection e with e; subst e
          exact leafR vw_eq (k := 300) (r := []) (hs := hz [(11, [.yes]), (1, [.yes]), (2, [.yes]), (1, [.yes]), (2, [.yes]), (1, [.yes]), (1, [.yes]), (1, [.yes]), (2, [.yes]), (1, [.yes]), (2, [.yes]), (1, [.yes]), (1, [.yes]), (1, [.yes]), (2, [.yes]), (1, [.yes]), (2, [.yes]), (1, [.yes]), (1, [.no, .no, .no, .no, .no, .no, .no, .no]), (1, [])]) (raw := (AV.b Bool.false)) kq (ac h0 (ac h0 (ac h0 (ac h0 (ac h0 (ac h0 (ac h1 (ac h1 (ac h1 (ac h1 (ac h1 (ac h1 (ac h2 (ac h2 (ac h2 (ac h2 (ac h2 (ac h2 (ac h3 (ac h3 (ac h3 (ac h3 (ac h3 (ac h3 (ac h3 (ac h3 an)))))))))))))))))))))))))) tq
      ·
        have h2p := ne_of_beq_false h2
        intro e; injection e with e; subst e
        exact leafR vw_eq (k := 300) (r := []) (hs := hz [(11, [.yes]), (1, [.yes]), (2, [.yes]), (1, [.yes]), (2, [.yes]), (1, [.yes]), (1, [.yes]), (1, [.yes]), (2, [.yes]), (1, [.yes]), (2, [.yes]), (1, [.yes]), (1, [.no, .no, .no, .no, .no, .no]), (10, [])]) (raw := (AV.b Bool.false)) kq (ac h0 (ac h0 (ac h0 (ac h0 (ac h0 (ac h0 (ac h1 (ac h1 (ac h1 (ac h1 (ac h1 (ac h1 (ac h2 (ac h2 (ac h2 (ac h2 (ac h2 (ac h2 an)))))))))))))))))) tq
    ·
      have h1p := ne_of_beq_false h1
      intro e; injection e with e; subst e
      exact leafR vw_eq (k := 300) (r := []) (hs := hz [(11, [.yes]), (1, [.yes]), (2, [.yes]), (1, [.yes]), (2, [.yes]), (1, [.yes]), (1, [.no, .no, .no, .no, .no, .no]), (17, [])]) (raw := (AV.b Bool.false)) kq (ac h0 (ac h0 (ac h0 (ac h0 (ac h0 (ac h0 (ac h1 (ac h1 (ac h1 (ac h1 (ac h1 (ac h1 an)))))))))))) tq
  ·
    have h0p := ne_of_beq_false h0
    intro e; injection e with e; subst e
    exact leafR vw_eq (k := 300) (r := []) (hs := hz [(11, [.no, .no, .no, .no, .no, .no]), (24, [])]) (raw := (AV.b Bool.false)) kq (ac h0 (ac h0 (ac h0 (ac h0 (ac h0 (ac h0 an)))))) tq
noncomputable abbrev r7All_L0_I (a : List Ex) (b : List Ex) : St := (St.mk [(0, (exs a)), (1, (exs b)), (4, (AV.b Bool.false)), (7, (exs a)), (8, (AV.i (a.length : Int))), (9, (exs b)), (10, (AV.i (b.length : Int))), (11, (AV.b ((a.length : Int) != (b.length : Int)))), (5, (AV.i 0))] 29 (AH.mk 0 ([] : List (Prod Nat AObj))) Bool.false)
noncomputable abbrev r7All_L0_S (a : List Ex) (b : List Ex) (s1 : Int) : St := (St.mk [(0, (exs a)), (1, (exs b)), (11, (AV.b ((a.length : Int) != (b.length : Int)))), (5, (AV.i s1))] 29 (AH.mk 0 ([] : List (Prod Nat AObj))) Bool.false)
noncomputable def r7All_L0_step (a : List Ex) (b : List Ex) (s1 : Int) : Option (Int) :=
 (tb ((decide (s1 < (a.length : Int))))
  (tp ((((0 : Int) ≤ s1) ∧ (s1 < (a.length : Int))))
   (tp ((((0 : Int) ≤ s1) ∧ (s1 < (b.length : Int))))
    (tc (r7Same ((exAt a s1.toNat)) ((exAt b s1.toNat))) fun s5 =>
     (tb ((!s5))
      none /- exit -/
      (some ((wr (s1 + (1 : Int)))))))))
  none /- exit -/)
theorem r7All_L0_ok (a : List Ex) (b : List Ex) (s1 zz : Int) : r7All_L0_step a b s1 = some zz → EvStep Try.prog cf 0 (lp Try.prog 31 0) (r7All_L0_S a b s1) (r7All_L0_S a b zz) := by
  unfold r7All_L0_step
  refine tb_ok (fun h2 => ?_) (fun h2 => ?_)
  ·
    have h2p := of_decide_eq_true h2
    refine tp_ok (fun h3 => ?_)
    refine tp_ok (fun h4 => ?_)
    refine tc_ok (fun s5 h5 => ?_)
    refine tb_ok (fun h6 => ?_) (fun h6 => ?_)
    ·
      exact fun e => nomatch e
    ·
      intro e; injection e with e; subst e
      exact leafIS vw_eq (k := 300) (r := []) (hs := hz [(4, [.yes]), (2, [.yes, .yes, .cells ((Ex.cells (exAt a s1.toNat)))]), (2, [.yes, .yes, .cells ((Ex.cells (exAt b s1.toNat)))]), (1, [.fres (.b (s5))]), (1, [.yes]), (2, [.no]), (3, [])]) (ks := [0, 1, 11, 5]) (bs := []) kq (ac h2 (ac h3 (ac (fq (p := ((5 : Nat) ≤ (List.length (List.drop (s1.toNat * 5) (List.flatMap Ex.cells a)))))) (ac (show (List.take 5 (List.drop (s1.toNat * 5) (List.flatMap Ex.cells a))) = (Ex.cells (exAt a s1.toNat)) from (ex_takeO bq bq)) (ac h4 (ac (fq (p := ((5 : Nat) ≤ (List.length (List.drop (s1.toNat * 5) (List.flatMap Ex.cells b)))))) (ac (show (List.take 5 (List.drop (s1.toNat * 5) (List.flatMap Ex.cells b))) = (Ex.cells (exAt b s1.toNat)) from (ex_takeO bq bq)) (ac (r7Same_ok ((exAt a s1.toNat)) ((exAt b s1.toNat)) _ h5).any0 (ac (show orderOk (rg Try.prog 31 0) = true ∧ allOk (Region.before (rg Try.prog 31 0)) [] 0 [(some [], some []), (some [], some []), (some [], some []), (some [], some []), (some [], some []), (some [], some []), (some [], some []), (some [], some []), (some [], some []), (some [], some [])] = true from (ord_of ord_31_0 bef_31_0 kq)) (ac h6 an)))))))))) kq
  ·
    have h2p := of_decide_eq_false h2
    exact fun e => nomatch e
/-- Function 31, as it answers. -/
noncomputable def r7All (a : List Ex) (b : List Ex) : Option (Bool) :=
 (tb (((a.length : Int) != (b.length : Int)))
  (some (Bool.false))
  (th (r7All_L0_step a b) ((0 : Int)) fun s1 =>
   (tb ((decide (s1 < (a.length : Int))))
    (tp ((((0 : Int) ≤ s1) ∧ (s1 < (a.length : Int))))
     (tc (r7Same ((exAt a s1.toNat)) ((exAt b s1.toNat))) fun s4 =>
      (tb ((!s4))
       (some (Bool.false))
       none /- stop behind an operation -/)))
    (some (Bool.true)))))
abbrev r7All_G (a : List Ex) (b : List Ex) (r : Bool) : Prop := EvFr Try.prog cf true 31 [exs (a), exs (b)] (.b (r))
theorem r7All_ok (a : List Ex) (b : List Ex) (r : Bool) : r7All a b = some r → r7All_G a b r := by
  unfold r7All
  refine tb_ok (fun h0 => ?_) (fun h0 => ?_)
  ·
    have h0p := bne_iff_ne.1 h0
    intro e; injection e with e; subst e
    exact leafR vw_eq (k := 300) (r := []) (hs := hz [(6, [.yes]), (1, [])]) (raw := (AV.b Bool.false)) kq (ac h0 an) tq
  ·
    have h0p := bne_eq_false_iff_eq.1 h0
    refine th_ok (fun s1 h1 => ?_)
    refine tb_ok (fun h2 => ?_) (fun h2 => ?_)
    ·
      have h2p := of_decide_eq_true h2
      refine tp_ok (fun h3 => ?_)
      refine tc_ok (fun s4 h4 => ?_)
      refine tb_ok (fun h5 => ?_) (fun h5 => ?_)
      ·
        intro e; injection e with e; subst e
        exact leafR vw_eq (k := 300) (r := []) (hs := hz [(6, [.no]), (1, [.head (r7All_L0_S a b s1)]), (4, [.yes]), (2, [.yes, .yes, .cells ((Ex.cells (exAt a s1.toNat)))]), (2, [.yes, .yes, .cells ((Ex.cells (exAt b s1.toNat)))]), (1, [.fres (.b (s4))]), (1, [.yes]), (2, [.yes]), (1, [])]) (raw := (AV.b Bool.false)) kq (ac h0 (ac (show EvHead Try.prog cf (lp Try.prog 31 0) (r7All_L0_I a b) (r7All_L0_S a b s1) from (EvHead.of (r7All_L0_ok a b) (absB_of [] [] kq (.consn kq (.eqv tq rfl) (.consn kq (.eqv tq rfl) (.consn kq (.eqv tq rfl) (.consn kq (.eqv tq rfl) .nil)))) .nil) h1)) (ac h2 (ac h3 (ac (fq (p := ((5 : Nat) ≤ (List.length (List.drop (s1.toNat * 5) (List.flatMap Ex.cells a)))))) (ac (show (List.take 5 (List.drop (s1.toNat * 5) (List.flatMap Ex.cells a))) = (Ex.cells (exAt a s1.toNat)) from (ex_takeO bq bq)) (ac (fq (p := (((0 : Int) ≤ s1) ∧ (s1 < (b.length : Int))))) (ac (fq (p := ((5 : Nat) ≤ (List.length (List.drop (s1.toNat * 5) (List.flatMap Ex.cells b)))))) (ac (show (List.take 5 (List.drop (s1.toNat * 5) (List.flatMap Ex.cells b))) = (Ex.cells (exAt b s1.toNat)) from (ex_takeO bq bq)) (ac (r7Same_ok ((exAt a s1.toNat)) ((exAt b s1.toNat)) _ h4).any0 (ac (show orderOk (rg Try.prog 31 0) = true ∧ allOk (Region.before (rg Try.prog 31 0)) [] 0 [(some [], some []), (some [], some []), (some [], some []), (some [], some []), (some [], some []), (some [], some []), (some [], some []), (some [], some []), (some [], some []), (some [], some [])] = true from (ord_of ord_31_0 bef_31_0 kq)) (ac h5 an)))))))))))) tq
      ·
        exact fun e => nomatch e
    ·
      have h2p := of_decide_eq_false h2
      intro e; injection e with e; subst e
      exact leafR vw_eq (k := 300) (r := []) (hs := hz [(6, [.no]), (1, [.head (r7All_L0_S a b s1)]), (4, [.no]), (1, [])]) (raw := (AV.b Bool.true)) kq (ac h0 (ac (show EvHead Try.prog cf (lp Try.prog 31 0) (r7All_L0_I a b) (r7All_L0_S a b s1) from (EvHead.of (r7All_L0_ok a b) (absB_of [] [] kq (.consn kq (.eqv tq rfl) (.consn kq (.eqv tq rfl) (.consn kq (.eqv tq rfl) (.consn kq (.eqv tq rfl) .nil)))) .nil) h1)) (ac h2 an))) tq
end Ab
end Go.Proofs.Ytimcbhhebnikiaa
namespace Go.Proofs.Ytimcbhhebnikiaa
open Go Go.Proofs.Ytimcbhhebnikiaa.Ab
set_option linter.unusedVariables false
set_option linter.unusedSimpArgs false
namespace Ab
theorem wr_id {x : Int} (h1 : -9223372036854775808 ≤ x) (h2 : x ≤ 9223372036854775807) : wr x = x := by
  simp [wr, IntKind.wrap, IntKind.bits, IntKind.signed]
  omega
section
variable {α β σ : Type}
@[simp] theorem tb_t (x y : Option α) : tb true x y = x := rfl
@[simp] theorem tb_f (x y : Option α) : tb false x y = y := rfl
theorem tb_pos {c : Bool} {x y : Option α} (h : c = true) : tb c x y = x := by subst h; rfl
theorem tb_neg {c : Bool} {x y : Option α} (h : c = false) : tb c x y = y := by subst h; rfl
theorem tp_pos {p : Prop} [Decidable p] {x : Option α} (h : p) : tp p x = x := if_pos h
@[simp] theorem tc_some (s : β) (f : β → Option α) : tc (some s) f = f s := rfl
theorem tb_dec (p : Prop) [Decidable p] (x y : Option α) : tb (decide p) x y = if p then x else y := by
  by_cases h : p <;> simp [h]
theorem tb_beq (a b : Int) (x y : Option α) : tb (a == b) x y = if a = b then x else y := by
  by_cases h : a = b
  · rw [if_pos h]; exact tb_pos (beq_iff_eq.2 h)
  · rw [if_neg h]; exact tb_neg (beq_eq_false_iff_ne.2 h)
theorem tb_bne (a b : Int) (x y : Option α) : tb (a != b) x y = if a = b then y else x := by
  by_cases h : a = b
  · rw [if_pos h]; exact tb_neg (bne_eq_false_iff_eq.2 h)
  · rw [if_neg h]; exact tb_pos (bne_iff_ne.2 h)
theorem tb_not (c : Bool) (x y : Option α) : tb (!c) x y = tb c y x := by cases c <;> rfl
theorem th_run {step : σ → Option σ} {f : σ → Option α} (S : Nat → σ) (k : Nat) (hs : ∀ i, i < k → step (S i) = some (S (i + 1))) (he : step (S k) = none) : th step (S 0) f = f (S k) := by
  have : ∀ n, n ≤ k → Runs step (S (k - n)) (S k) := by
    intro n
    induction n with
    | zero => exact fun _ => .refl _
    | succ n ih =>
      intro hn
      refine .step (hs _ (by omega)) ?_
      rw [show k - (n + 1) + 1 = k - n by omega]
      exact ih (by omega)
  have h := this k (Nat.le_refl _)
  rw [Nat.sub_self] at h
  exact th_of h he rfl
/-- A loop that asks something of each place. -/
theorem th_all {step : Int → Option Int} {f : Int → Option α} (r1 r2 : Option α) (n : Nat) (P : Nat → Prop) (Q : Prop) [Decidable Q] (hQ : (∀ i, i < n → P i) ↔ Q) (hs : ∀ i : Nat, i < n → P i → step (i : Int) = some ((i : Int) + 1)) (hf : ∀ i : Nat, i < n → ¬ P i → step (i : Int) = none ∧ f (i : Int) = r1) (he : step (n : Int) = none ∧ f (n : Int) = r2) :
    th step 0 f = if Q then r2 else r1 := by
  by_cases h : ∀ i, i < n → P i
  · rw [if_pos (hQ.1 h)]
    have := th_run (step := step) (f := f) (fun i => (i : Int)) n (fun i hi => hs i hi (h i hi)) he.1
    simp only [Int.natCast_zero] at this
    rw [this]; exact he.2
  · rw [if_neg (fun g => h (hQ.2 g))]
    have hex : ∃ i, i < n ∧ ¬ P i := by
      refine Classical.byContradiction fun hn => h fun i hi => ?_
      exact Classical.byContradiction fun hp => hn ⟨i, hi, hp⟩
    have key : ∀ k, (∃ i, i < k ∧ i < n ∧ ¬ P i) → ∃ i, i < n ∧ ¬ P i ∧ ∀ j, j < i → P j := by
      intro k
      induction k with
      | zero => rintro ⟨i, hi, _⟩; omega
      | succ k ih =>
        rintro ⟨i, h1, h2, h3⟩
        by_cases hk : ∃ i, i < k ∧ i < n ∧ ¬ P i
        · exact ih hk
        · have hik : i = k := by
            rcases Nat.lt_or_ge i k with g | g
            · exact absurd ⟨i, g, h2, h3⟩ hk
            · omega
          refine ⟨i, h2, h3, fun j hj => ?_⟩
          exact Classical.byContradiction fun hp => hk ⟨j, by omega, by omega, hp⟩
    obtain ⟨i, h1, h2⟩ := hex
    obtain ⟨k, k1, k2, k3⟩ := key (i + 1) ⟨i, by omega, h1, h2⟩
    have := th_run (step := step) (f := f) (fun i => (i : Int)) k (fun i hi => hs i (by omega) (k3 i hi)) (hf k k1 k2).1
    simp only [Int.natCast_zero] at this
    rw [this]; exact (hf k k1 k2).2
end
theorem drop_at {α : Type} (d : α) (l : List α) (i : Nat) (h : i < l.length) : l.drop i = l.getD i d :: l.drop (i + 1) := by
  rw [List.drop_eq_getElem_cons h]; simp [h]
theorem take_at {α : Type} (d : α) (l : List α) (i : Nat) (h : i < l.length) : l.take (i + 1) = l.take i ++ [l.getD i d] := by
  rw [List.take_succ_eq_append_getElem h]; simp [h]
theorem getD_all {α : Type} (d : α) (l : List α) (p : α → Prop) : (∀ i, i < l.length → p (l.getD i d)) ↔ ∀ x ∈ l, p x := by
  refine ⟨fun h x hx => ?_, fun h i hi => h _ ?_⟩
  · obtain ⟨i, hi, e⟩ := List.getElem_of_mem hx
    have := h i hi
    rw [← e]
    simpa [hi] using this
  · simp [hi]
end Ab
end Go.Proofs.Ytimcbhhebnikiaa
namespace Go.Proofs.Ytimcbhhebnikiaa
open Go Go.Proofs.Ytimcbhhebnikiaa.Ab
set_option linter.unusedVariables false
set_option linter.unusedSimpArgs false
namespace Ab
/-- May an extent be? -/
def Ck (x : Ex) : Prop := 0 ≤ x.lba ∧ x.lba ≤ 64 ∧ 1 ≤ x.len ∧ x.len ≤ 64 - x.lba ∧ 0 ≤ x.kind ∧ x.kind ≤ 2 ∧ 0 ≤ x.gen ∧ x.gen ≤ 2147483647 ∧ (x.kind = 2 → (x.d.length : Int) = 32 * x.len) ∧ (x.kind ≠ 2 → x.d = [])
instance (x : Ex) : Decidable (Ck x) := by unfold Ck; infer_instance
def ck (x : Ex) : Bool := decide (Ck x)
theorem ck_iff {x : Ex} : ck x = true ↔ Ck x := decide_eq_true_iff
theorem len0 {α : Type} {l : List α} : ((l.length : Int) = 0) ↔ l = [] := by
  rw [← List.length_eq_zero_iff]; omega
theorem ck_t {x : Ex} (h : Ck x) : ck x = true := ck_iff.2 h
theorem ck_f {x : Ex} (h : ¬ Ck x) : ck x = false := decide_eq_false_iff_not.2 h
theorem eCheck_eq (x : Ex) : eCheck x = some (ck x) := by
  unfold eCheck
  simp only [tb_dec, tb_beq]
  by_cases h1 : x.lba ≥ 0
  case neg => rw [if_neg h1, ck_f (by unfold Ck; omega)]
  by_cases h2 : x.lba ≤ 64
  case neg => rw [if_pos h1, if_neg h2, ck_f (by unfold Ck; omega)]
  have hw : wr (64 - x.lba) = 64 - x.lba := wr_id (by omega) (by omega)
  rw [hw, if_pos h1, if_pos h2]
  by_cases h3 : x.len ≥ 1
  case neg => rw [if_neg h3, ck_f (by unfold Ck; omega)]
  by_cases h4 : x.len ≤ 64 - x.lba
  case neg => rw [if_pos h3, if_neg h4, ck_f (by unfold Ck; omega)]
  have hw2 : wr (x.len * 32) = x.len * 32 := wr_id (by omega) (by omega)
  rw [hw2, if_pos h3, if_pos h4]
  by_cases h5 : x.kind ≥ 0
  case neg => rw [if_neg h5, ck_f (by unfold Ck; omega)]
  by_cases h6 : x.kind ≤ 2
  case neg => rw [if_pos h5, if_neg h6, ck_f (by unfold Ck; omega)]
  by_cases h7 : x.gen ≥ 0
  case neg => rw [if_pos h5, if_pos h6, if_neg h7, ck_f (by unfold Ck; omega)]
  by_cases h8 : x.gen ≤ 2147483647
  case neg => rw [if_pos h5, if_pos h6, if_pos h7, if_neg h8, ck_f (by unfold Ck; omega)]
  rw [if_pos h5, if_pos h6, if_pos h7, if_pos h8]
  by_cases h9 : x.kind = 2
  · rw [if_pos h9]
    congr 1
    rw [Bool.eq_iff_iff, ck_iff, beq_iff_eq]
    exact ⟨fun h => ⟨h1, h2, h3, h4, h5, h6, h7, h8, fun _ => by omega, fun h' => absurd h9 h'⟩, fun h => by have := h.2.2.2.2.2.2.2.2.1 h9; omega⟩
  · rw [if_neg h9]
    congr 1
    rw [Bool.eq_iff_iff, ck_iff, beq_iff_eq, len0]
    exact ⟨fun h => ⟨h1, h2, h3, h4, h5, h6, h7, h8, fun h' => absurd h' h9, fun _ => h⟩, fun h => h.2.2.2.2.2.2.2.2.2 h9⟩
/-- Does one go on another one? -/
def Jn (a b : Ex) : Prop := Ck a ∧ Ck b ∧ a.lba + a.len = b.lba ∧ a.kind = b.kind ∧ a.gen = b.gen
instance (a b : Ex) : Decidable (Jn a b) := by unfold Jn; infer_instance
def jn (a b : Ex) : Bool := decide (Jn a b)
theorem jn_iff {a b : Ex} : jn a b = true ↔ Jn a b := decide_eq_true_iff
theorem jn_f {a b : Ex} (h : ¬ Jn a b) : jn a b = false := decide_eq_false_iff_not.2 h
theorem jn_t {a b : Ex} (h : Jn a b) : jn a b = true := jn_iff.2 h
theorem eJoins_eq (a b : Ex) : eJoins a b = some (jn a b) := by
  unfold eJoins
  simp only [eCheck_eq, tc_some]
  by_cases ha : Ck a
  case neg => rw [ck_f ha, jn_f (fun h => ha h.1)]; first | rfl | (cases ck b <;> rfl)
  by_cases hb : Ck b
  case neg => rw [ck_t ha, ck_f hb, jn_f (fun h => hb h.2.1)]; rfl
  have : wr (a.lba + a.len) = a.lba + a.len := by unfold Ck at ha; exact wr_id (by omega) (by omega)
  rw [ck_t ha, ck_t hb, this]
  simp only [tb_t, tb_beq]
  by_cases h1 : a.lba + a.len = b.lba
  case neg => rw [if_neg h1, jn_f (fun h => h1 h.2.2.1)]
  by_cases h2 : a.kind = b.kind
  case neg => rw [if_pos h1, if_neg h2, jn_f (fun h => h2 h.2.2.2.1)]
  rw [if_pos h1, if_pos h2]
  congr 1
  rw [Bool.eq_iff_iff, jn_iff, beq_iff_eq]
  exact ⟨fun h => ⟨ha, hb, h1, h2, h⟩, fun h => h.2.2.2.2⟩
theorem r7Same_eq (a b : Ex) : r7Same a b = some (decide (a = b)) := by
  unfold r7Same
  simp only [tb_beq]
  obtain ⟨a1, a2, a3, a4, a5⟩ := a
  obtain ⟨b1, b2, b3, b4, b5⟩ := b
  simp only [Ex.mk.injEq]
  repeat' split
  all_goals (congr 1; rw [Bool.eq_iff_iff]; simp_all)
theorem exAt_all (l : List Ex) (p : Ex → Prop) : (∀ i, i < l.length → p (exAt l i)) ↔ ∀ x ∈ l, p x := by
  unfold exAt; exact getD_all _ l p
theorem few_eq (l : List Ex) : few l = some (decide (l.length ≤ 70 ∧ ∀ x ∈ l, x.d.length ≤ 3000)) := by
  unfold few
  rw [tb_dec]
  by_cases hl : (l.length : Int) > 70
  · rw [if_pos hl]; congr 1; symm; rw [decide_eq_false_iff_not]; omega
  rw [if_neg hl]
  rw [th_all (some false) (some true) l.length (fun i => (exAt l i).d.length ≤ 3000) (∀ x ∈ l, x.d.length ≤ 3000) (exAt_all l (fun x => x.d.length ≤ 3000))]
  · split
    · rename_i h; congr 1; symm; rw [decide_eq_true_iff]; exact ⟨by omega, h⟩
    · rename_i h; congr 1; symm; rw [decide_eq_false_iff_not]; exact fun g => h g.2
  · intro i hi hp
    unfold few_L0_step
    simp only [tb_dec, Int.toNat_natCast]
    rw [if_pos (by omega), tp_pos (by omega), if_neg (by omega), wr_id (by omega) (by omega)]
  · intro i hi hp
    unfold few_L0_step
    simp only [tb_dec, Int.toNat_natCast]
    rw [if_pos (by omega), tp_pos (by omega), if_pos (by omega), if_pos (by omega), tp_pos (by omega), if_pos (by omega)]
    exact ⟨rfl, rfl⟩
  · unfold few_L0_step
    simp only [tb_dec]
    rw [if_neg (by omega), if_neg (by omega)]
    exact ⟨rfl, rfl⟩
theorem r7All_eq (a b : List Ex) (ha : a.length ≤ 4294967296) : r7All a b = some (decide (a = b)) := by
  unfold r7All
  rw [tb_bne]
  by_cases hl : (a.length : Int) = b.length
  · rw [if_pos hl]
    rw [th_all (some false) (some true) a.length (fun i => exAt a i = exAt b i) (a = b)]
    · split <;> rename_i h <;> simp [h]
    · constructor
      · intro h
        refine List.ext_getElem (by omega) fun i h1 h2 => ?_
        have := h i h1
        simpa [exAt, h1, h2] using this
      · rintro rfl; exact fun _ _ => rfl
    · intro i hi hp
      unfold r7All_L0_step
      simp only [tb_dec, Int.toNat_natCast, r7Same_eq, tc_some]
      rw [if_pos (by omega), tp_pos (by omega), tp_pos (by omega), hp, wr_id (by omega) (by omega)]
      simp
    · intro i hi hp
      unfold r7All_L0_step
      simp only [tb_dec, Int.toNat_natCast, r7Same_eq, tc_some]
      rw [if_pos (by omega), tp_pos (by omega), tp_pos (by omega), if_pos (by omega), tp_pos (by omega)]
      simp [hp]
    · unfold r7All_L0_step
      simp only [tb_dec]
      rw [if_neg (by omega), if_neg (by omega)]
      exact ⟨rfl, rfl⟩
  · rw [if_neg hl]
    congr 1; symm; rw [decide_eq_false_iff_not]; rintro rfl; exact hl rfl
end Ab
end Go.Proofs.Ytimcbhhebnikiaa
namespace Go.Proofs.Ytimcbhhebnikiaa
open Go Go.Proofs.Ytimcbhhebnikiaa.Ab
set_option linter.unusedVariables false
set_option linter.unusedSimpArgs false
set_option maxRecDepth 1000000
set_option maxHeartbeats 0
namespace Ab
/-- Function 72, as it answers. -/
noncomputable def cWithin (n : Int) (low : Int) (high : Int) : Option (Bool) :=
 (tb ((decide (n ≥ low)))
  (some ((decide (n ≤ high))))
  (some (Bool.false)))
abbrev cWithin_G (n : Int) (low : Int) (high : Int) (r : Bool) : Prop := EvFr Try.prog cf true 72 [.i (n), .i (low), .i (high)] (.b (r))
theorem cWithin_ok (n : Int) (low : Int) (high : Int) (r : Bool) : cWithin n low high = some r → cWithin_G n low high r := by
  unfold cWithin
  refine tb_ok (fun h0 => ?_) (fun h0 => ?_)
  ·
    have h0p := of_decide_eq_true h0
    intro e; injection e with e; subst e
    exact leafR vw_eq (k := 300) (r := []) (hs := hz [(5, [.yes]), (1, [.yes]), (1, [.yes]), (1, [.yes]), (1, [])]) (raw := (AV.b (decide (n ≤ high)))) kq (ac h0 (ac h0 (ac h0 (ac h0 an)))) tq
  ·
    have h0p := of_decide_eq_false h0
    intro e; injection e with e; subst e
    exact leafR vw_eq (k := 300) (r := []) (hs := hz [(5, [.no, .no, .no, .no]), (1, [])]) (raw := (AV.b Bool.false)) kq (ac h0 (ac h0 (ac h0 (ac h0 an)))) tq
noncomputable abbrev cFollows_L0_I (l : List Ex) : St := (St.mk [(0, (exs l)), (2, (AV.b Bool.false)), (3, (AV.i 0)), (6, (exs l)), (7, (AV.i (l.length : Int))), (8, (AV.i 0))] 30 (AH.mk 0 ([] : List (Prod Nat AObj))) Bool.false)
noncomputable abbrev cFollows_L0_S (l : List Ex) (s0 : Int × Int) : St := (St.mk [(0, (exs l)), (3, (AV.i s0.1)), (6, (exs l)), (7, (AV.i (l.length : Int))), (8, (AV.i s0.2))] 30 (AH.mk 0 ([] : List (Prod Nat AObj))) Bool.false)
noncomputable def cFollows_L0_step (l : List Ex) (s0 : Int × Int) : Option (Int × Int) :=
 (tb ((decide (s0.2 < (l.length : Int))))
  (tp ((((0 : Int) ≤ s0.2) ∧ (s0.2 < (l.length : Int))))
   (tc (eCheck ((exAt l s0.2.toNat))) fun s3 =>
    (tb ((!s3))
     none /- exit -/
     (tb ((decide ((exAt l s0.2.toNat).lba < s0.1)))
      none /- exit -/
      (some (((wr ((exAt l s0.2.toNat).lba + (exAt l s0.2.toNat).len)), (wr (s0.2 + (1 : Int))))))))))
  none /- exit -/)
theorem cFollows_L0_ok (l : List Ex) (s0 zz : Int × Int) : cFollows_L0_step l s0 = some zz → EvStep Try.prog cf 0 (lp Try.prog 74 0) (cFollows_L0_S l s0) (cFollows_L0_S l zz) := by
  unfold cFollows_L0_step
  refine tb_ok (fun h1 => ?_) (fun h1 => ?_)
  ·
    have h1p := of_decide_eq_true h1
    refine tp_ok (fun h2 => ?_)
    refine tc_ok (fun s3 h3 => ?_)
    refine tb_ok (fun h4 => ?_) (fun h4 => ?_)
    ·
      exact fun e => nomatch e
    ·
      refine tb_ok (fun h5 => ?_) (fun h5 => ?_)
      ·
        have h5p := of_decide_eq_true h5
        exact fun e => nomatch e
      ·
        have h5p := of_decide_eq_false h5
        intro e; injection e with e; subst e
        exact leafIS vw_eq (k := 300) (r := []) (hs := hz [(1, [.yes, .yes, .yes, .cells ((Ex.cells (exAt l s0.2.toNat)))]), (2, [.fc]), (1, [.fc]), (1, [.fres (.b (s3))]), (2, [.no]), (1, [.no]), (2, [.no]), (1, [.no]), (1, [.no, .no]), (10, [])]) (ks := [0, 3, 6, 7, 8]) (bs := []) kq (ac h1 (ac h2 (ac (fq (p := ((5 : Nat) ≤ (List.length (List.drop (s0.2.toNat * 5) (List.flatMap Ex.cells l)))))) (ac (show (List.take 5 (List.drop (s0.2.toNat * 5) (List.flatMap Ex.cells l))) = (Ex.cells (exAt l s0.2.toNat)) from (ex_takeO bq bq)) (ac (eCheck_ok ((exAt l s0.2.toNat)) _ h3).any0 (ac h4 (ac h4 (ac h4 (ac h4 (ac h4 (ac h5 an))))))))))) kq
  ·
    have h1p := of_decide_eq_false h1
    exact fun e => nomatch e
/-- Function 74, as it answers. -/
noncomputable def cFollows (l : List Ex) : Option (Bool) :=
 (th (cFollows_L0_step l) (((0 : Int), (0 : Int))) fun s0 =>
  (tb ((decide (s0.2 < (l.length : Int))))
   (tp ((((0 : Int) ≤ s0.2) ∧ (s0.2 < (l.length : Int))))
    (tc (eCheck ((exAt l s0.2.toNat))) fun s3 =>
     (tb ((!s3))
      (some (Bool.false))
      (tb ((decide ((exAt l s0.2.toNat).lba < s0.1)))
       (some (Bool.false))
       none /- stop behind an operation -/))))
   (some ((decide ((l.length : Int) ≤ (64 : Int)))))))
abbrev cFollows_G (l : List Ex) (r : Bool) : Prop := EvFr Try.prog cf true 74 [exs (l)] (.b (r))
theorem cFollows_ok (l : List Ex) (r : Bool) : cFollows l = some r → cFollows_G l r := by
  unfold cFollows
  refine th_ok (fun s0 h0 => ?_)
  refine tb_ok (fun h1 => ?_) (fun h1 => ?_)
  ·
    have h1p := of_decide_eq_true h1
    refine tp_ok (fun h2 => ?_)
    refine tc_ok (fun s3 h3 => ?_)
    refine tb_ok (fun h4 => ?_) (fun h4 => ?_)
    ·
      intro e; injection e with e; subst e
      exact leafR vw_eq (k := 300) (r := []) (hs := hz [(5, [.head (cFollows_L0_S l s0)]), (1, [.yes, .yes, .yes, .cells ((Ex.cells (exAt l s0.2.toNat)))]), (2, [.fc]), (1, [.fc]), (1, [.fres (.b (s3))]), (2, [.yes, .yes, .yes, .yes, .yes]), (2, [])]) (raw := (AV.b Bool.false)) kq (ac (show EvHead Try.prog cf (lp Try.prog 74 0) (cFollows_L0_I l) (cFollows_L0_S l s0) from (EvHead.of (cFollows_L0_ok l) (absB_of [] [] kq (.consn kq (.eqv tq rfl) (.consn kq (.eqv tq rfl) (.consn kq (.eqv tq rfl) (.consn kq (.eqv tq rfl) (.consn kq (.eqv tq rfl) .nil))))) .nil) h0)) (ac h1 (ac h2 (ac (fq (p := ((5 : Nat) ≤ (List.length (List.drop (s0.2.toNat * 5) (List.flatMap Ex.cells l)))))) (ac (show (List.take 5 (List.drop (s0.2.toNat * 5) (List.flatMap Ex.cells l))) = (Ex.cells (exAt l s0.2.toNat)) from (ex_takeO bq bq)) (ac (eCheck_ok ((exAt l s0.2.toNat)) _ h3).any0 (ac h4 (ac h4 (ac h4 (ac h4 (ac h4 an))))))))))) tq
    ·
      refine tb_ok (fun h5 => ?_) (fun h5 => ?_)
      ·
        have h5p := of_decide_eq_true h5
        intro e; injection e with e; subst e
        exact leafR vw_eq (k := 300) (r := []) (hs := hz [(5, [.head (cFollows_L0_S l s0)]), (1, [.yes, .yes, .yes, .cells ((Ex.cells (exAt l s0.2.toNat)))]), (2, [.fc]), (1, [.fc]), (1, [.fres (.b (s3))]), (2, [.no]), (1, [.no]), (2, [.no]), (1, [.no]), (1, [.no, .yes]), (1, [])]) (raw := (AV.b Bool.false)) kq (ac (show EvHead Try.prog cf (lp Try.prog 74 0) (cFollows_L0_I l) (cFollows_L0_S l s0) from (EvHead.of (cFollows_L0_ok l) (absB_of [] [] kq (.consn kq (.eqv tq rfl) (.consn kq (.eqv tq rfl) (.consn kq (.eqv tq rfl) (.consn kq (.eqv tq rfl) (.consn kq (.eqv tq rfl) .nil))))) .nil) h0)) (ac h1 (ac h2 (ac (fq (p := ((5 : Nat) ≤ (List.length (List.drop (s0.2.toNat * 5) (List.flatMap Ex.cells l)))))) (ac (show (List.take 5 (List.drop (s0.2.toNat * 5) (List.flatMap Ex.cells l))) = (Ex.cells (exAt l s0.2.toNat)) from (ex_takeO bq bq)) (ac (eCheck_ok ((exAt l s0.2.toNat)) _ h3).any0 (ac h4 (ac h4 (ac h4 (ac h4 (ac h4 (ac h5 an)))))))))))) tq
      ·
        have h5p := of_decide_eq_false h5
        exact fun e => nomatch e
  ·
    have h1p := of_decide_eq_false h1
    intro e; injection e with e; subst e
    exact leafR vw_eq (k := 300) (r := []) (hs := hz [(5, [.head (cFollows_L0_S l s0)]), (1, [.no]), (4, [])]) (raw := (AV.b (decide ((l.length : Int) ≤ (64 : Int))))) kq (ac (show EvHead Try.prog cf (lp Try.prog 74 0) (cFollows_L0_I l) (cFollows_L0_S l s0) from (EvHead.of (cFollows_L0_ok l) (absB_of [] [] kq (.consn kq (.eqv tq rfl) (.consn kq (.eqv tq rfl) (.consn kq (.eqv tq rfl) (.consn kq (.eqv tq rfl) (.consn kq (.eqv tq rfl) .nil))))) .nil) h0)) (ac h1 an)) tq
/-- Function 51, as it answers. -/
noncomputable def cCheck (c : Ch) : Option (Bool) :=
 (tc (cWithin (c.kind) ((1 : Int)) ((8 : Int))) fun s0 =>
  (tb ((!s0))
   (some (Bool.false))
   (tb ((decide (c.kind = (0 : Int))))
    (tb ((c.lba == (0 : Int)))
     (tb ((c.n == (0 : Int)))
      (tb ((c.id == (0 : Int)))
       none /- STOP -/
       (some (Bool.false)))
      (some (Bool.false)))
     (some (Bool.false)))
    (tb ((decide (c.kind = (1 : Int))))
     (tb ((c.lba == (0 : Int)))
      (tc (cWithin (c.lba) ((0 : Int)) ((64 : Int))) fun s5 =>
       (tb (s5)
        (tc (cWithin (c.n) ((1 : Int)) ((wr ((64 : Int) - c.lba)))) fun s7 =>
         (tb (s7)
          (tb ((c.id == (0 : Int)))
           (tb (((c.d.length : Int) == (wr (c.n * (32 : Int)))))
            (tb (((c.list.length : Int) == (0 : Int)))
             (some (Bool.true))
             (some (Bool.false)))
            (some (Bool.false)))
           (some (Bool.false)))
          (some (Bool.false))))
        (some (Bool.false))))
      (tc (cWithin (c.lba) ((0 : Int)) ((64 : Int))) fun s5 =>
       (tb (s5)
        (tc (cWithin (c.n) ((1 : Int)) ((wr ((64 : Int) - c.lba)))) fun s7 =>
         (tb (s7)
          (tb ((c.id == (0 : Int)))
           (tb (((c.d.length : Int) == (wr (c.n * (32 : Int)))))
            (tb (((c.list.length : Int) == (0 : Int)))
             (some (Bool.true))
             (some (Bool.false)))
            (some (Bool.false)))
           (some (Bool.false)))
          (some (Bool.false))))
        (some (Bool.false)))))
     (tb ((decide (c.kind = (2 : Int))))
      (tb ((c.lba == (0 : Int)))
       (tc (cWithin (c.lba) ((0 : Int)) ((64 : Int))) fun s6 =>
        (tb (s6)
         (tc (cWithin (c.n) ((1 : Int)) ((wr ((64 : Int) - c.lba)))) fun s8 =>
          (tb (s8)
           (tb ((c.id == (0 : Int)))
            (tb (((c.d.length : Int) == (0 : Int)))
             (tb (((c.list.length : Int) == (0 : Int)))
              (some (Bool.true))
              (some (Bool.false)))
             (some (Bool.false)))
            (some (Bool.false)))
           (some (Bool.false))))
         (some (Bool.false))))
       (tc (cWithin (c.lba) ((0 : Int)) ((64 : Int))) fun s6 =>
        (tb (s6)
         (tc (cWithin (c.n) ((1 : Int)) ((wr ((64 : Int) - c.lba)))) fun s8 =>
          (tb (s8)
           (tb ((c.id == (0 : Int)))
            (tb (((c.d.length : Int) == (0 : Int)))
             (tb (((c.list.length : Int) == (0 : Int)))
              (some (Bool.true))
              (some (Bool.false)))
             (some (Bool.false)))
            (some (Bool.false)))
           (some (Bool.false))))
         (some (Bool.false)))))
      (tb ((decide (c.kind = (3 : Int))))
       (tb ((c.lba == (0 : Int)))
        (tc (cWithin (c.lba) ((0 : Int)) ((64 : Int))) fun s7 =>
         (tb (s7)
          (tc (cWithin (c.n) ((1 : Int)) ((wr ((64 : Int) - c.lba)))) fun s9 =>
           (tb (s9)
            (tb ((c.id == (0 : Int)))
             (tb (((c.d.length : Int) == (0 : Int)))
              (tb (((c.list.length : Int) == (0 : Int)))
               (some (Bool.true))
               (some (Bool.false)))
              (some (Bool.false)))
             (some (Bool.false)))
            (some (Bool.false))))
          (some (Bool.false))))
        (tc (cWithin (c.lba) ((0 : Int)) ((64 : Int))) fun s7 =>
         (tb (s7)
          (tc (cWithin (c.n) ((1 : Int)) ((wr ((64 : Int) - c.lba)))) fun s9 =>
           (tb (s9)
            (tb ((c.id == (0 : Int)))
             (tb (((c.d.length : Int) == (0 : Int)))
              (tb (((c.list.length : Int) == (0 : Int)))
               (some (Bool.true))
               (some (Bool.false)))
              (some (Bool.false)))
             (some (Bool.false)))
            (some (Bool.false))))
          (some (Bool.false)))))
       (tb ((decide (c.kind = (4 : Int))))
        (tb ((c.lba == (0 : Int)))
         (tc (cWithin (c.id) ((1 : Int)) ((2147483647 : Int))) fun s8 =>
          (tb ((c.n == (0 : Int)))
           (tb (s8)
            (tb (((c.d.length : Int) == (0 : Int)))
             (tb (((c.list.length : Int) == (0 : Int)))
              (some (Bool.true))
              (some (Bool.false)))
             (some (Bool.false)))
            (some (Bool.false)))
           (some (Bool.false))))
         (tc (cWithin (c.id) ((1 : Int)) ((2147483647 : Int))) fun s8 =>
          (some (Bool.false))))
        (tb ((decide (c.kind = (5 : Int))))
         (tb ((c.lba == (0 : Int)))
          (tc (cWithin (c.id) ((1 : Int)) ((2147483647 : Int))) fun s9 =>
           (tb ((c.n == (0 : Int)))
            (tb (s9)
             (tb (((c.d.length : Int) == (0 : Int)))
              (tb (((c.list.length : Int) == (0 : Int)))
               (some (Bool.true))
               (some (Bool.false)))
              (some (Bool.false)))
             (some (Bool.false)))
            (some (Bool.false))))
          (tc (cWithin (c.id) ((1 : Int)) ((2147483647 : Int))) fun s9 =>
           (some (Bool.false))))
         (tb ((decide (c.kind = (6 : Int))))
          (tb ((c.lba == (0 : Int)))
           (tb ((c.n == (0 : Int)))
            (tb ((c.id == (0 : Int)))
             (tc (cWithin ((c.d.length : Int)) ((1 : Int)) ((1000 : Int))) fun s12 =>
              (tb (s12)
               (tb (((c.list.length : Int) == (0 : Int)))
                (some (Bool.true))
                (some (Bool.false)))
               (some (Bool.false))))
             (some (Bool.false)))
            (some (Bool.false)))
           (some (Bool.false)))
          (tb ((decide (c.kind = (7 : Int))))
           (tb ((c.lba == (0 : Int)))
            (tb ((c.n == (0 : Int)))
             (tb ((c.id == (0 : Int)))
              (tb (((c.d.length : Int) == (0 : Int)))
               (tb (((c.list.length : Int) == (0 : Int)))
                (some (Bool.true))
                (some (Bool.false)))
               (some (Bool.false)))
              (some (Bool.false)))
             (some (Bool.false)))
            (some (Bool.false)))
           (tb ((decide (c.kind = (8 : Int))))
            (tb ((c.lba == (0 : Int)))
             (tc (cWithin (c.id) ((1 : Int)) ((2147483647 : Int))) fun s12 =>
              (tb ((c.n == (0 : Int)))
               (tb (s12)
                (tb (((c.d.length : Int) == (0 : Int)))
                 (tb (((c.list.length : Int) == (0 : Int)))
                  (some (Bool.true))
                  (tc (cFollows (c.list)) fun s17 =>
                   (some (s17))))
                 (some (Bool.false)))
                (some (Bool.false)))
               (some (Bool.false))))
             (tc (cWithin (c.id) ((1 : Int)) ((2147483647 : Int))) fun s12 =>
              (some (Bool.false))))
            none /- STOP -/)))))))))))
abbrev cCheck_G (c : Ch) (r : Bool) : Prop := EvFr Try.prog cf true 51 [Ch.av (c)] (.b (r))
theorem cCheck_ok (c : Ch) (r : Bool) : cCheck c = some r → cCheck_G c r := by
  unfold cCheck
  refine tc_ok (fun s0 h0 => ?_)
  refine tb_ok (fun h1 => ?_) (fun h1 => ?_)
  ·
    intro e; injection e with e; subst e
    exact leafR vw_eq (k := 300) (r := []) (hs := hz [(6, [.fres (.b (s0))]), (1, [.yes]), (1, [])]) (raw := (AV.b Bool.false)) kq (ac (cWithin_ok (c.kind) ((1 : Int)) ((8 : Int)) _ h0).any0 (ac h1 an)) tq
  ·
    refine tb_ok (fun h2 => ?_) (fun h2 => ?_)
    ·
      have h2p := of_decide_eq_true h2
      refine tb_ok (fun h3 => ?_) (fun h3 => ?_)
      ·
        have h3p := eq_of_beq h3
        refine tb_ok (fun h4 => ?_) (fun h4 => ?_)
        ·
          have h4p := eq_of_beq h4
          refine tb_ok (fun h5 => ?_) (fun h5 => ?_)
          ·
            have h5p := eq_of_beq h5
            exact fun e => nomatch e
          ·
            have h5p := ne_of_beq_false h5
            intro e; injection e with e; subst e
            exact leafR vw_eq (k := 300) (r := []) (hs := hz [(6, [.fres (.b (s0))]), (1, [.no]), (23, [.fc]), (1, [.fc]), (1, [.fc]), (1, [.fc]), (1, [.fc]), (1, [.fc]), (1, [.fc]), (1, [.fc, .fc]), (1, [.fc]), (1, [.fc]), (3, [.yes, .yes]), (2, [.fc, .yes]), (5, [.yes]), (1, [.yes]), (2, [.yes]), (1, [.yes]), (16, [.yes]), (1, [.yes]), (1, [.no, .no, .no, .no, .no]), (9, [])]) (raw := (AV.b Bool.false)) kq (ac (cWithin_ok (c.kind) ((1 : Int)) ((8 : Int)) _ h0).any0 (ac h1 (ac h2 (ac (fq (p := (((0 : Int) ≤ c.kind) ∧ (c.kind < (9 : Int))))) (ac (show orderOk (rg Try.prog 51 0) = true ∧ allOk (Region.before (rg Try.prog 51 0)) [] 0 [(some [], some []), (some [], some []), (some [0], some []), (some [], some []), (some [], some [1]), (some [1], some [1])] = true from (ord_of ord_51_0 bef_51_0 kq)) (ac h3 (ac h3 (ac h3 (ac h3 (ac h4 (ac h4 (ac h5 (ac h5 (ac h5 (ac h5 (ac h5 an)))))))))))))))) tq
        ·
          have h4p := ne_of_beq_false h4
          intro e; injection e with e; subst e
          exact leafR vw_eq (k := 300) (r := []) (hs := hz [(6, [.fres (.b (s0))]), (1, [.no]), (23, [.fc]), (1, [.fc]), (1, [.fc]), (1, [.fc]), (1, [.fc]), (1, [.fc]), (1, [.fc]), (1, [.fc, .fc]), (1, [.fc]), (1, [.fc]), (3, [.yes, .yes]), (2, [.fc, .yes]), (5, [.yes]), (1, [.yes]), (2, [.yes]), (1, [.yes]), (16, [.no, .no]), (15, [])]) (raw := (AV.b Bool.false)) kq (ac (cWithin_ok (c.kind) ((1 : Int)) ((8 : Int)) _ h0).any0 (ac h1 (ac h2 (ac (fq (p := (((0 : Int) ≤ c.kind) ∧ (c.kind < (9 : Int))))) (ac (show orderOk (rg Try.prog 51 0) = true ∧ allOk (Region.before (rg Try.prog 51 0)) [] 0 [(some [], some []), (some [], some []), (some [0], some []), (some [], some []), (some [], some [1]), (some [1], some [1])] = true from (ord_of ord_51_0 bef_51_0 kq)) (ac h3 (ac h3 (ac h3 (ac h3 (ac h4 (ac h4 an))))))))))) tq
      ·
        have h3p := ne_of_beq_false h3
        intro e; injection e with e; subst e
        exact leafR vw_eq (k := 300) (r := []) (hs := hz [(6, [.fres (.b (s0))]), (1, [.no]), (23, [.fc]), (1, [.fc]), (1, [.fc]), (1, [.fc]), (1, [.fc]), (1, [.fc]), (1, [.fc]), (1, [.fc, .fc]), (1, [.fc]), (1, [.fc]), (3, [.yes, .yes]), (2, [.fc, .yes]), (5, [.no, .no, .no, .no]), (33, [])]) (raw := (AV.b Bool.false)) kq (ac (cWithin_ok (c.kind) ((1 : Int)) ((8 : Int)) _ h0).any0 (ac h1 (ac h2 (ac (fq (p := (((0 : Int) ≤ c.kind) ∧ (c.kind < (9 : Int))))) (ac (show orderOk (rg Try.prog 51 0) = true ∧ allOk (Region.before (rg Try.prog 51 0)) [] 0 [(some [], some []), (some [], some []), (some [0], some []), (some [], some []), (some [], some [1]), (some [1], some [1])] = true from (ord_of ord_51_0 bef_51_0 kq)) (ac h3 (ac h3 (ac h3 (ac h3 an))))))))) tq
    ·
      have h2p := of_decide_eq_false h2
      refine tb_ok (fun h3 => ?_) (fun h3 => ?_)
      ·
        have h3p := of_decide_eq_true h3
        refine tb_ok (fun h4 => ?_) (fun h4 => ?_)
        ·
          have h4p := eq_of_beq h4
          refine tc_ok (fun s5 h5 => ?_)
          refine tb_ok (fun h6 => ?_) (fun h6 => ?_)
          ·
            refine tc_ok (fun s7 h7 => ?_)
            refine tb_ok (fun h8 => ?_) (fun h8 => ?_)
            ·
              refine tb_ok (fun h9 => ?_) (fun h9 => ?_)
              ·
                have h9p := eq_of_beq h9
                refine tb_ok (fun h10 => ?_) (fun h10 => ?_)
                ·
                  have h10p := eq_of_beq h10
                  refine tb_ok (fun h11 => ?_) (fun h11 => ?_)
                  ·
                    have h11p := eq_of_beq h11
                    intro e; injection e with e; subst e
                    exact leafR vw_eq (k := 300) (r := []) (hs := hz [(6, [.fres (.b (s0))]), (1, [.no]), (23, [.fc]), (1, [.fc]), (1, [.fc]), (1, [.fc]), (1, [.fc]), (1, [.fc]), (1, [.fc]), (1, [.fc, .fc]), (1, [.fc]), (1, [.fc]), (3, [.no, .yes, .yes]), (2, [.fc, .yes]), (5, [.yes]), (1, [.yes]), (2, [.yes]), (1, [.yes]), (9, [.fres (.b (s5))]), (1, [.yes]), (1, [.yes]), (2, [.yes]), (1, [.yes]), (2, [.yes]), (1, [.yes]), (1, [.fres (.b (s7)), .yes]), (12, [.yes]), (1, [.yes]), (1, [.yes]), (1, [.yes]), (2, [.yes]), (1, [.fc, .yes]), (13, [.yes]), (1, [.yes]), (1, [.yes]), (2, [.yes]), (1, [.yes]), (1, [.yes]), (1, [.yes, .yes, .yes, .yes, .yes, .yes, .yes]), (1, [])]) (raw := (AV.b Bool.true)) kq (ac (cWithin_ok (c.kind) ((1 : Int)) ((8 : Int)) _ h0).any0 (ac h1 (ac h2 (ac h3 (ac (fq (p := (((0 : Int) ≤ c.kind) ∧ (c.kind < (9 : Int))))) (ac (show orderOk (rg Try.prog 51 0) = true ∧ allOk (Region.before (rg Try.prog 51 0)) [] 0 [(some [], some []), (some [], some []), (some [0], some []), (some [], some []), (some [], some [1]), (some [1], some [1])] = true from (ord_of ord_51_0 bef_51_0 kq)) (ac h4 (ac h4 (ac h4 (ac h4 (ac (cWithin_ok (c.lba) ((0 : Int)) ((64 : Int)) _ h5).any0 (ac h6 (ac h6 (ac h6 (ac h6 (ac h6 (ac h6 (ac (cWithin_ok (c.n) ((1 : Int)) ((wr ((64 : Int) - c.lba))) _ h7).any0 (ac h6 (ac h8 (ac h8 (ac h9 (ac h9 (ac h9 (ac h9 (ac h9 (ac h10 (ac h10 (ac h10 (ac h10 (ac h10 (ac h11 (ac h11 (ac h11 (ac h11 (ac h10 (ac h11 (ac h10 an)))))))))))))))))))))))))))))))))))))) tq
                  ·
                    have h11p := ne_of_beq_false h11
                    intro e; injection e with e; subst e
                    exact leafR vw_eq (k := 300) (r := []) (hs := hz [(6, [.fres (.b (s0))]), (1, [.no]), (23, [.fc]), (1, [.fc]), (1, [.fc]), (1, [.fc]), (1, [.fc]), (1, [.fc]), (1, [.fc]), (1, [.fc, .fc]), (1, [.fc]), (1, [.fc]), (3, [.no, .yes, .yes]), (2, [.fc, .yes]), (5, [.yes]), (1, [.yes]), (2, [.yes]), (1, [.yes]), (9, [.fres (.b (s5))]), (1, [.yes]), (1, [.yes]), (2, [.yes]), (1, [.yes]), (2, [.yes]), (1, [.yes]), (1, [.fres (.b (s7)), .yes]), (12, [.yes]), (1, [.yes]), (1, [.yes]), (1, [.yes]), (2, [.yes]), (1, [.fc, .yes]), (13, [.yes]), (1, [.yes]), (1, [.yes]), (2, [.yes]), (1, [.yes]), (1, [.yes]), (1, [.no]), (1, [.no]), (2, [.no]), (4, [.no]), (1, [.yes, .no, .yes]), (1, [])]) (raw := (AV.b Bool.false)) kq (ac (cWithin_ok (c.kind) ((1 : Int)) ((8 : Int)) _ h0).any0 (ac h1 (ac h2 (ac h3 (ac (fq (p := (((0 : Int) ≤ c.kind) ∧ (c.kind < (9 : Int))))) (ac (show orderOk (rg Try.prog 51 0) = true ∧ allOk (Region.before (rg Try.prog 51 0)) [] 0 [(some [], some []), (some [], some []), (some [0], some []), (some [], some []), (some [], some [1]), (some [1], some [1])] = true from (ord_of ord_51_0 bef_51_0 kq)) (ac h4 (ac h4 (ac h4 (ac h4 (ac (cWithin_ok (c.lba) ((0 : Int)) ((64 : Int)) _ h5).any0 (ac h6 (ac h6 (ac h6 (ac h6 (ac h6 (ac h6 (ac (cWithin_ok (c.n) ((1 : Int)) ((wr ((64 : Int) - c.lba))) _ h7).any0 (ac h6 (ac h8 (ac h8 (ac h9 (ac h9 (ac h9 (ac h9 (ac h9 (ac h10 (ac h10 (ac h10 (ac h10 (ac h10 (ac h11 (ac h11 (ac h11 (ac h11 (ac h10 (ac h11 (ac h10 an)))))))))))))))))))))))))))))))))))))) tq
                ·
                  have h10p := ne_of_beq_false h10
                  intro e; injection e with e; subst e
                  exact leafR vw_eq (k := 300) (r := []) (hs := hz [(6, [.fres (.b (s0))]), (1, [.no]), (23, [.fc]), (1, [.fc]), (1, [.fc]), (1, [.fc]), (1, [.fc]), (1, [.fc]), (1, [.fc]), (1, [.fc, .fc]), (1, [.fc]), (1, [.fc]), (3, [.no, .yes, .yes]), (2, [.fc, .yes]), (5, [.yes]), (1, [.yes]), (2, [.yes]), (1, [.yes]), (9, [.fres (.b (s5))]), (1, [.yes]), (1, [.yes]), (2, [.yes]), (1, [.yes]), (2, [.yes]), (1, [.yes]), (1, [.fres (.b (s7)), .yes]), (12, [.yes]), (1, [.yes]), (1, [.yes]), (1, [.yes]), (2, [.yes]), (1, [.fc, .yes]), (13, [.yes]), (1, [.no, .no, .no, .no, .no, .no, .no]), (1, [])]) (raw := (AV.b Bool.false)) kq (ac (cWithin_ok (c.kind) ((1 : Int)) ((8 : Int)) _ h0).any0 (ac h1 (ac h2 (ac h3 (ac (fq (p := (((0 : Int) ≤ c.kind) ∧ (c.kind < (9 : Int))))) (ac (show orderOk (rg Try.prog 51 0) = true ∧ allOk (Region.before (rg Try.prog 51 0)) [] 0 [(some [], some []), (some [], some []), (some [0], some []), (some [], some []), (some [], some [1]), (some [1], some [1])] = true from (ord_of ord_51_0 bef_51_0 kq)) (ac h4 (ac h4 (ac h4 (ac h4 (ac (cWithin_ok (c.lba) ((0 : Int)) ((64 : Int)) _ h5).any0 (ac h6 (ac h6 (ac h6 (ac h6 (ac h6 (ac h6 (ac (cWithin_ok (c.n) ((1 : Int)) ((wr ((64 : Int) - c.lba))) _ h7).any0 (ac h6 (ac h8 (ac h8 (ac h9 (ac h9 (ac h9 (ac h9 (ac h9 (ac h10 (ac h10 (ac h10 (ac h10 (ac h10 (ac h10 (ac h10 an))))))))))))))))))))))))))))))))) tq
              ·
                have h9p := ne_of_beq_false h9
                intro e; injection e with e; subst e
                exact leafR vw_eq (k := 300) (r := []) (hs := hz [(6, [.fres (.b (s0))]), (1, [.no]), (23, [.fc]), (1, [.fc]), (1, [.fc]), (1, [.fc]), (1, [.fc]), (1, [.fc]), (1, [.fc]), (1, [.fc, .fc]), (1, [.fc]), (1, [.fc]), (3, [.no, .yes, .yes]), (2, [.fc, .yes]), (5, [.yes]), (1, [.yes]), (2, [.yes]), (1, [.yes]), (9, [.fres (.b (s5))]), (1, [.yes]), (1, [.yes]), (2, [.yes]), (1, [.yes]), (2, [.yes]), (1, [.yes]), (1, [.fres (.b (s7)), .yes]), (12, [.yes]), (1, [.yes]), (1, [.no, .no, .no, .no, .no]), (9, [])]) (raw := (AV.b Bool.false)) kq (ac (cWithin_ok (c.kind) ((1 : Int)) ((8 : Int)) _ h0).any0 (ac h1 (ac h2 (ac h3 (ac (fq (p := (((0 : Int) ≤ c.kind) ∧ (c.kind < (9 : Int))))) (ac (show orderOk (rg Try.prog 51 0) = true ∧ allOk (Region.before (rg Try.prog 51 0)) [] 0 [(some [], some []), (some [], some []), (some [0], some []), (some [], some []), (some [], some [1]), (some [1], some [1])] = true from (ord_of ord_51_0 bef_51_0 kq)) (ac h4 (ac h4 (ac h4 (ac h4 (ac (cWithin_ok (c.lba) ((0 : Int)) ((64 : Int)) _ h5).any0 (ac h6 (ac h6 (ac h6 (ac h6 (ac h6 (ac h6 (ac (cWithin_ok (c.n) ((1 : Int)) ((wr ((64 : Int) - c.lba))) _ h7).any0 (ac h6 (ac h8 (ac h8 (ac h9 (ac h9 (ac h9 (ac h9 (ac h9 an)))))))))))))))))))))))))) tq
            ·
              intro e; injection e with e; subst e
              exact leafR vw_eq (k := 300) (r := []) (hs := hz [(6, [.fres (.b (s0))]), (1, [.no]), (23, [.fc]), (1, [.fc]), (1, [.fc]), (1, [.fc]), (1, [.fc]), (1, [.fc]), (1, [.fc]), (1, [.fc, .fc]), (1, [.fc]), (1, [.fc]), (3, [.no, .yes, .yes]), (2, [.fc, .yes]), (5, [.yes]), (1, [.yes]), (2, [.yes]), (1, [.yes]), (9, [.fres (.b (s5))]), (1, [.yes]), (1, [.yes]), (2, [.yes]), (1, [.yes]), (2, [.yes]), (1, [.yes]), (1, [.fres (.b (s7)), .yes]), (12, [.no, .no]), (15, [])]) (raw := (AV.b Bool.false)) kq (ac (cWithin_ok (c.kind) ((1 : Int)) ((8 : Int)) _ h0).any0 (ac h1 (ac h2 (ac h3 (ac (fq (p := (((0 : Int) ≤ c.kind) ∧ (c.kind < (9 : Int))))) (ac (show orderOk (rg Try.prog 51 0) = true ∧ allOk (Region.before (rg Try.prog 51 0)) [] 0 [(some [], some []), (some [], some []), (some [0], some []), (some [], some []), (some [], some [1]), (some [1], some [1])] = true from (ord_of ord_51_0 bef_51_0 kq)) (ac h4 (ac h4 (ac h4 (ac h4 (ac (cWithin_ok (c.lba) ((0 : Int)) ((64 : Int)) _ h5).any0 (ac h6 (ac h6 (ac h6 (ac h6 (ac h6 (ac h6 (ac (cWithin_ok (c.n) ((1 : Int)) ((wr ((64 : Int) - c.lba))) _ h7).any0 (ac h6 (ac h8 (ac h8 an))))))))))))))))))))) tq
          ·
            intro e; injection e with e; subst e
            exact leafR vw_eq (k := 300) (r := []) (hs := hz [(6, [.fres (.b (s0))]), (1, [.no]), (23, [.fc]), (1, [.fc]), (1, [.fc]), (1, [.fc]), (1, [.fc]), (1, [.fc]), (1, [.fc]), (1, [.fc, .fc]), (1, [.fc]), (1, [.fc]), (3, [.no, .yes, .yes]), (2, [.fc, .yes]), (5, [.yes]), (1, [.yes]), (2, [.yes]), (1, [.yes]), (9, [.fres (.b (s5))]), (1, [.no, .no, .no, .no, .no, .no, .no]), (29, [])]) (raw := (AV.b Bool.false)) kq (ac (cWithin_ok (c.kind) ((1 : Int)) ((8 : Int)) _ h0).any0 (ac h1 (ac h2 (ac h3 (ac (fq (p := (((0 : Int) ≤ c.kind) ∧ (c.kind < (9 : Int))))) (ac (show orderOk (rg Try.prog 51 0) = true ∧ allOk (Region.before (rg Try.prog 51 0)) [] 0 [(some [], some []), (some [], some []), (some [0], some []), (some [], some []), (some [], some [1]), (some [1], some [1])] = true from (ord_of ord_51_0 bef_51_0 kq)) (ac h4 (ac h4 (ac h4 (ac h4 (ac (cWithin_ok (c.lba) ((0 : Int)) ((64 : Int)) _ h5).any0 (ac h6 (ac h6 (ac h6 (ac h6 (ac h6 (ac h6 (ac h6 an)))))))))))))))))) tq
        ·
          have h4p := ne_of_beq_false h4
          refine tc_ok (fun s5 h5 => ?_)
          refine tb_ok (fun h6 => ?_) (fun h6 => ?_)
          ·
            refine tc_ok (fun s7 h7 => ?_)
            refine tb_ok (fun h8 => ?_) (fun h8 => ?_)
            ·
              refine tb_ok (fun h9 => ?_) (fun h9 => ?_)
              ·
                have h9p := eq_of_beq h9
                refine tb_ok (fun h10 => ?_) (fun h10 => ?_)
                ·
                  have h10p := eq_of_beq h10
                  refine tb_ok (fun h11 => ?_) (fun h11 => ?_)
                  ·
                    have h11p := eq_of_beq h11
                    intro e; injection e with e; subst e
                    exact leafR vw_eq (k := 300) (r := []) (hs := hz [(6, [.fres (.b (s0))]), (1, [.no]), (23, [.fc]), (1, [.fc]), (1, [.fc]), (1, [.fc]), (1, [.fc]), (1, [.fc]), (1, [.fc]), (1, [.fc, .fc]), (1, [.fc]), (1, [.fc]), (3, [.no, .yes, .yes]), (2, [.fc, .yes]), (5, [.no, .no, .no, .no]), (9, [.fres (.b (s5))]), (1, [.yes]), (1, [.yes]), (2, [.yes]), (1, [.yes]), (2, [.yes]), (1, [.yes]), (1, [.fres (.b (s7)), .yes]), (12, [.yes]), (1, [.yes]), (1, [.yes]), (1, [.yes]), (2, [.yes]), (1, [.fc, .yes]), (13, [.yes]), (1, [.yes]), (1, [.yes]), (2, [.yes]), (1, [.yes]), (1, [.yes]), (1, [.yes, .yes, .yes, .yes, .yes, .yes, .yes]), (1, [])]) (raw := (AV.b Bool.true)) kq (ac (cWithin_ok (c.kind) ((1 : Int)) ((8 : Int)) _ h0).any0 (ac h1 (ac h2 (ac h3 (ac (fq (p := (((0 : Int) ≤ c.kind) ∧ (c.kind < (9 : Int))))) (ac (show orderOk (rg Try.prog 51 0) = true ∧ allOk (Region.before (rg Try.prog 51 0)) [] 0 [(some [], some []), (some [], some []), (some [0], some []), (some [], some []), (some [], some [1]), (some [1], some [1])] = true from (ord_of ord_51_0 bef_51_0 kq)) (ac h4 (ac h4 (ac h4 (ac h4 (ac (cWithin_ok (c.lba) ((0 : Int)) ((64 : Int)) _ h5).any0 (ac h6 (ac h6 (ac h6 (ac h6 (ac h6 (ac h6 (ac (cWithin_ok (c.n) ((1 : Int)) ((wr ((64 : Int) - c.lba))) _ h7).any0 (ac h6 (ac h8 (ac h8 (ac h9 (ac h9 (ac h9 (ac h9 (ac h9 (ac h10 (ac h10 (ac h10 (ac h10 (ac h10 (ac h11 (ac h11 (ac h11 (ac h11 (ac h10 (ac h11 (ac h10 an)))))))))))))))))))))))))))))))))))))) tq
                  ·
                    have h11p := ne_of_beq_false h11
                    intro e; injection e with e; subst e
                    exact leafR vw_eq (k := 300) (r := []) (hs := hz [(6, [.fres (.b (s0))]), (1, [.no]), (23, [.fc]), (1, [.fc]), (1, [.fc]), (1, [.fc]), (1, [.fc]), (1, [.fc]), (1, [.fc]), (1, [.fc, .fc]), (1, [.fc]), (1, [.fc]), (3, [.no, .yes, .yes]), (2, [.fc, .yes]), (5, [.no, .no, .no, .no]), (9, [.fres (.b (s5))]), (1, [.yes]), (1, [.yes]), (2, [.yes]), (1, [.yes]), (2, [.yes]), (1, [.yes]), (1, [.fres (.b (s7)), .yes]), (12, [.yes]), (1, [.yes]), (1, [.yes]), (1, [.yes]), (2, [.yes]), (1, [.fc, .yes]), (13, [.yes]), (1, [.yes]), (1, [.yes]), (2, [.yes]), (1, [.yes]), (1, [.yes]), (1, [.no]), (1, [.no]), (2, [.no]), (4, [.no]), (1, [.yes, .no, .yes]), (1, [])]) (raw := (AV.b Bool.false)) kq (ac (cWithin_ok (c.kind) ((1 : Int)) ((8 : Int)) _ h0).any0 (ac h1 (ac h2 (ac h3 (ac (fq (p := (((0 : Int) ≤ c.kind) ∧ (c.kind < (9 : Int))))) (ac (show orderOk (rg Try.prog 51 0) = true ∧ allOk (Region.before (rg Try.prog 51 0)) [] 0 [(some [], some []), (some [], some []), (some [0], some []), (some [], some []), (some [], some [1]), (some [1], some [1])] = true from (ord_of ord_51_0 bef_51_0 kq)) (ac h4 (ac h4 (ac h4 (ac h4 (ac (cWithin_ok (c.lba) ((0 : Int)) ((64 : Int)) _ h5).any0 (ac h6 (ac h6 (ac h6 (ac h6 (ac h6 (ac h6 (ac (cWithin_ok (c.n) ((1 : Int)) ((wr ((64 : Int) - c.lba))) _ h7).any0 (ac h6 (ac h8 (ac h8 (ac h9 (ac h9 (ac h9 (ac h9 (ac h9 (ac h10 (ac h10 (ac h10 (ac h10 (ac h10 (ac h11 (ac h11 (ac h11 (ac h11 (ac h10 (ac h11 (ac h10 an)))))))))))))))))))))))))))))))))))))) tq
                ·
                  have h10p := ne_of_beq_false h10
                  intro e; injection e with e; subst e
                  exact leafR vw_eq (k := 300) (r := []) (hs := hz [(6, [.fres (.b (s0))]), (1, [.no]), (23, [.fc]), (1, [.fc]), (1, [.fc]), (1, [.fc]), (1, [.fc]), (1, [.fc]), (1, [.fc]), (1, [.fc, .fc]), (1, [.fc]), (1, [.fc]), (3, [.no, .yes, .yes]), (2, [.fc, .yes]), (5, [.no, .no, .no, .no]), (9, [.fres (.b (s5))]), (1, [.yes]), (1, [.yes]), (2, [.yes]), (1, [.yes]), (2, [.yes]), (1, [.yes]), (1, [.fres (.b (s7)), .yes]), (12, [.yes]), (1, [.yes]), (1, [.yes]), (1, [.yes]), (2, [.yes]), (1, [.fc, .yes]), (13, [.yes]), (1, [.no, .no, .no, .no, .no, .no, .no]), (1, [])]) (raw := (AV.b Bool.false)) kq (ac (cWithin_ok (c.kind) ((1 : Int)) ((8 : Int)) _ h0).any0 (ac h1 (ac h2 (ac h3 (ac (fq (p := (((0 : Int) ≤ c.kind) ∧ (c.kind < (9 : Int))))) (ac (show orderOk (rg Try.prog 51 0) = true ∧ allOk (Region.before (rg Try.prog 51 0)) [] 0 [(some [], some []), (some [], some []), (some [0], some []), (some [], some []), (some [], some [1]), (some [1], some [1])] = true from (ord_of ord_51_0 bef_51_0 kq)) (ac h4 (ac h4 (ac h4 (ac h4 (ac (cWithin_ok (c.lba) ((0 : Int)) ((64 : Int)) _ h5).any0 (ac h6 (ac h6 (ac h6 (ac h6 (ac h6 (ac h6 (ac (cWithin_ok (c.n) ((1 : Int)) ((wr ((64 : Int) - c.lba))) _ h7).any0 (ac h6 (ac h8 (ac h8 (ac h9 (ac h9 (ac h9 (ac h9 (ac h9 (ac h10 (ac h10 (ac h10 (ac h10 (ac h10 (ac h10 (ac h10 an))))))))))))))))))))))))))))))))) tq
              ·
                have h9p := ne_of_beq_false h9
                intro e; injection e with e; subst e
                exact leafR vw_eq (k := 300) (r := []) (hs := hz [(6, [.fres (.b (s0))]), (1, [.no]), (23, [.fc]), (1, [.fc]), (1, [.fc]), (1, [.fc]), (1, [.fc]), (1, [.fc]), (1, [.fc]), (1, [.fc, .fc]), (1, [.fc]), (1, [.fc]), (3, [.no, .yes, .yes]), (2, [.fc, .yes]), (5, [.no, .no, .no, .no]), (9, [.fres (.b (s5))]), (1, [.yes]), (1, [.yes]), (2, [.yes]), (1, [.yes]), (2, [.yes]), (1, [.yes]), (1, [.fres (.b (s7)), .yes]), (12, [.yes]), (1, [.yes]), (1, [.no, .no, .no, .no, .no]), (9, [])]) (raw := (AV.b Bool.false)) kq (ac (cWithin_ok (c.kind) ((1 : Int)) ((8 : Int)) _ h0).any0 (ac h1 (ac h2 (ac h3 (ac (fq (p := (((0 : Int) ≤ c.kind) ∧ (c.kind < (9 : Int))))) (ac (show orderOk (rg Try.prog 51 0) = true ∧ allOk (Region.before (rg Try.prog 51 0)) [] 0 [(some [], some []), (some [], some []), (some [0], some []), (some [], some []), (some [], some [1]), (some [1], some [1])] = true from (ord_of ord_51_0 bef_51_0 kq)) (ac h4 (ac h4 (ac h4 (ac h4 (ac (cWithin_ok (c.lba) ((0 : Int)) ((64 : Int)) _ h5).any0 (ac h6 (ac h6 (ac h6 (ac h6 (ac h6 (ac h6 (ac (cWithin_ok (c.n) ((1 : Int)) ((wr ((64 : Int) - c.lba))) _ h7).any0 (ac h6 (ac h8 (ac h8 (ac h9 (ac h9 (ac h9 (ac h9 (ac h9 an)))))))))))))))))))))))))) tq
            ·
              intro e; injection e with e; subst e
              exact leafR vw_eq (k := 300) (r := []) (hs := hz [(6, [.fres (.b (s0))]), (1, [.no]), (23, [.fc]), (1, [.fc]), (1, [.fc]), (1, [.fc]), (1, [.fc]), (1, [.fc]), (1, [.fc]), (1, [.fc, .fc]), (1, [.fc]), (1, [.fc]), (3, [.no, .yes, .yes]), (2, [.fc, .yes]), (5, [.no, .no, .no, .no]), (9, [.fres (.b (s5))]), (1, [.yes]), (1, [.yes]), (2, [.yes]), (1, [.yes]), (2, [.yes]), (1, [.yes]), (1, [.fres (.b (s7)), .yes]), (12, [.no, .no]), (15, [])]) (raw := (AV.b Bool.false)) kq (ac (cWithin_ok (c.kind) ((1 : Int)) ((8 : Int)) _ h0).any0 (ac h1 (ac h2 (ac h3 (ac (fq (p := (((0 : Int) ≤ c.kind) ∧ (c.kind < (9 : Int))))) (ac (show orderOk (rg Try.prog 51 0) = true ∧ allOk (Region.before (rg Try.prog 51 0)) [] 0 [(some [], some []), (some [], some []), (some [0], some []), (some [], some []), (some [], some [1]), (some [1], some [1])] = true from (ord_of ord_51_0 bef_51_0 kq)) (ac h4 (ac h4 (ac h4 (ac h4 (ac (cWithin_ok (c.lba) ((0 : Int)) ((64 : Int)) _ h5).any0 (ac h6 (ac h6 (ac h6 (ac h6 (ac h6 (ac h6 (ac (cWithin_ok (c.n) ((1 : Int)) ((wr ((64 : Int) - c.lba))) _ h7).any0 (ac h6 (ac h8 (ac h8 an))))))))))))))))))))) tq
          ·
            intro e; injection e with e; subst e
            exact leafR vw_eq (k := 300) (r := []) (hs := hz [(6, [.fres (.b (s0))]), (1, [.no]), (23, [.fc]), (1, [.fc]), (1, [.fc]), (1, [.fc]), (1, [.fc]), (1, [.fc]), (1, [.fc]), (1, [.fc, .fc]), (1, [.fc]), (1, [.fc]), (3, [.no, .yes, .yes]), (2, [.fc, .yes]), (5, [.no, .no, .no, .no]), (9, [.fres (.b (s5))]), (1, [.no, .no, .no, .no, .no, .no, .no]), (29, [])]) (raw := (AV.b Bool.false)) kq (ac (cWithin_ok (c.kind) ((1 : Int)) ((8 : Int)) _ h0).any0 (ac h1 (ac h2 (ac h3 (ac (fq (p := (((0 : Int) ≤ c.kind) ∧ (c.kind < (9 : Int))))) (ac (show orderOk (rg Try.prog 51 0) = true ∧ allOk (Region.before (rg Try.prog 51 0)) [] 0 [(some [], some []), (some [], some []), (some [0], some []), (some [], some []), (some [], some [1]), (some [1], some [1])] = true from (ord_of ord_51_0 bef_51_0 kq)) (ac h4 (ac h4 (ac h4 (ac h4 (ac (cWithin_ok (c.lba) ((0 : Int)) ((64 : Int)) _ h5).any0 (ac h6 (ac h6 (ac h6 (ac h6 (ac h6 (ac h6 (ac h6 an)))))))))))))))))) tq
      ·
        have h3p := of_decide_eq_false h3
        refine tb_ok (fun h4 => ?_) (fun h4 => ?_)
        ·
          have h4p := of_decide_eq_true h4
          refine tb_ok (fun h5 => ?_) (fun h5 => ?_)
          ·
            have h5p := eq_of_beq h5
            refine tc_ok (fun s6 h6 => ?_)
            refine tb_ok (fun h7 => ?_) (fun h7 => ?_)
            ·
              refine tc_ok (fun s8 h8 => ?_)
              refine tb_ok (fun h9 => ?_) (fun h9 => ?_)
              ·
                refine tb_ok (fun h10 => ?_) (fun h10 => ?_)
                ·
                  have h10p := eq_of_beq h10
                  refine tb_ok (fun h11 => ?_) (fun h11 => ?_)
                  ·
                    have h11p := eq_of_beq h11
                    refine tb_ok (fun h12 => ?_) (fun h12 => ?_)
                    ·
                      have h12p := eq_of_beq h12
                      intro e; injection e with e; subst e
                      exact leafR vw_eq (k := 300) (r := []) (hs := hz [(6, [.fres (.b (s0))]), (1, [.no]), (23, [.fc]), (1, [.fc]), (1, [.fc]), (1, [.fc]), (1, [.fc]), (1, [.fc]), (1, [.fc]), (1, [.fc, .fc]), (1, [.fc]), (1, [.fc]), (3, [.no, .no, .yes, .yes]), (2, [.fc, .yes]), (5, [.yes]), (1, [.yes]), (2, [.yes]), (1, [.yes]), (9, [.fres (.b (s6))]), (1, [.yes]), (1, [.yes]), (2, [.yes]), (1, [.yes]), (2, [.yes]), (1, [.yes]), (1, [.fres (.b (s8)), .yes]), (12, [.yes]), (1, [.yes]), (1, [.yes]), (1, [.yes]), (2, [.yes]), (1, [.fc, .yes]), (9, [.yes]), (1, [.yes]), (1, [.yes]), (2, [.yes]), (1, [.yes]), (1, [.yes]), (1, [.yes, .yes, .yes, .yes, .yes, .yes, .yes]), (1, [])]) (raw := (AV.b Bool.true)) kq (ac (cWithin_ok (c.kind) ((1 : Int)) ((8 : Int)) _ h0).any0 (ac h1 (ac h2 (ac h3 (ac h4 (ac (fq (p := (((0 : Int) ≤ c.kind) ∧ (c.kind < (9 : Int))))) (ac (show orderOk (rg Try.prog 51 0) = true ∧ allOk (Region.before (rg Try.prog 51 0)) [] 0 [(some [], some []), (some [], some []), (some [0], some []), (some [], some []), (some [], some [1]), (some [1], some [1])] = true from (ord_of ord_51_0 bef_51_0 kq)) (ac h5 (ac h5 (ac h5 (ac h5 (ac (cWithin_ok (c.lba) ((0 : Int)) ((64 : Int)) _ h6).any0 (ac h7 (ac h7 (ac h7 (ac h7 (ac h7 (ac h7 (ac (cWithin_ok (c.n) ((1 : Int)) ((wr ((64 : Int) - c.lba))) _ h8).any0 (ac h7 (ac h9 (ac h9 (ac h10 (ac h10 (ac h10 (ac h10 (ac h10 (ac h11 (ac h11 (ac h11 (ac h11 (ac h11 (ac h12 (ac h12 (ac h12 (ac h12 (ac h11 (ac h12 (ac h11 an))))))))))))))))))))))))))))))))))))))) tq
                    ·
                      have h12p := ne_of_beq_false h12
                      intro e; injection e with e; subst e
                      exact leafR vw_eq (k := 300) (r := []) (hs := hz [(6, [.fres (.b (s0))]), (1, [.no]), (23, [.fc]), (1, [.fc]), (1, [.fc]), (1, [.fc]), (1, [.fc]), (1, [.fc]), (1, [.fc]), (1, [.fc, .fc]), (1, [.fc]), (1, [.fc]), (3, [.no, .no, .yes, .yes]), (2, [.fc, .yes]), (5, [.yes]), (1, [.yes]), (2, [.yes]), (1, [.yes]), (9, [.fres (.b (s6))]), (1, [.yes]), (1, [.yes]), (2, [.yes]), (1, [.yes]), (2, [.yes]), (1, [.yes]), (1, [.fres (.b (s8)), .yes]), (12, [.yes]), (1, [.yes]), (1, [.yes]), (1, [.yes]), (2, [.yes]), (1, [.fc, .yes]), (9, [.yes]), (1, [.yes]), (1, [.yes]), (2, [.yes]), (1, [.yes]), (1, [.yes]), (1, [.no]), (1, [.no]), (2, [.no]), (4, [.no]), (1, [.yes, .no, .yes]), (1, [])]) (raw := (AV.b Bool.false)) kq (ac (cWithin_ok (c.kind) ((1 : Int)) ((8 : Int)) _ h0).any0 (ac h1 (ac h2 (ac h3 (ac h4 (ac (fq (p := (((0 : Int) ≤ c.kind) ∧ (c.kind < (9 : Int))))) (ac (show orderOk (rg Try.prog 51 0) = true ∧ allOk (Region.before (rg Try.prog 51 0)) [] 0 [(some [], some []), (some [], some []), (some [0], some []), (some [], some []), (some [], some [1]), (some [1], some [1])] = true from (ord_of ord_51_0 bef_51_0 kq)) (ac h5 (ac h5 (ac h5 (ac h5 (ac (cWithin_ok (c.lba) ((0 : Int)) ((64 : Int)) _ h6).any0 (ac h7 (ac h7 (ac h7 (ac h7 (ac h7 (ac h7 (ac (cWithin_ok (c.n) ((1 : Int)) ((wr ((64 : Int) - c.lba))) _ h8).any0 (ac h7 (ac h9 (ac h9 (ac h10 (ac h10 (ac h10 (ac h10 (ac h10 (ac h11 (ac h11 (ac h11 (ac h11 (ac h11 (ac h12 (ac h12 (ac h12 (ac h12 (ac h11 (ac h12 (ac h11 an))))))))))))))))))))))))))))))))))))))) tq
                  ·
                    have h11p := ne_of_beq_false h11
                    intro e; injection e with e; subst e
                    exact leafR vw_eq (k := 300) (r := []) (hs := hz [(6, [.fres (.b (s0))]), (1, [.no]), (23, [.fc]), (1, [.fc]), (1, [.fc]), (1, [.fc]), (1, [.fc]), (1, [.fc]), (1, [.fc]), (1, [.fc, .fc]), (1, [.fc]), (1, [.fc]), (3, [.no, .no, .yes, .yes]), (2, [.fc, .yes]), (5, [.yes]), (1, [.yes]), (2, [.yes]), (1, [.yes]), (9, [.fres (.b (s6))]), (1, [.yes]), (1, [.yes]), (2, [.yes]), (1, [.yes]), (2, [.yes]), (1, [.yes]), (1, [.fres (.b (s8)), .yes]), (12, [.yes]), (1, [.yes]), (1, [.yes]), (1, [.yes]), (2, [.yes]), (1, [.fc, .yes]), (9, [.yes]), (1, [.no, .no, .no, .no, .no, .no, .no]), (1, [])]) (raw := (AV.b Bool.false)) kq (ac (cWithin_ok (c.kind) ((1 : Int)) ((8 : Int)) _ h0).any0 (ac h1 (ac h2 (ac h3 (ac h4 (ac (fq (p := (((0 : Int) ≤ c.kind) ∧ (c.kind < (9 : Int))))) (ac (show orderOk (rg Try.prog 51 0) = true ∧ allOk (Region.before (rg Try.prog 51 0)) [] 0 [(some [], some []), (some [], some []), (some [0], some []), (some [], some []), (some [], some [1]), (some [1], some [1])] = true from (ord_of ord_51_0 bef_51_0 kq)) (ac h5 (ac h5 (ac h5 (ac h5 (ac (cWithin_ok (c.lba) ((0 : Int)) ((64 : Int)) _ h6).any0 (ac h7 (ac h7 (ac h7 (ac h7 (ac h7 (ac h7 (ac (cWithin_ok (c.n) ((1 : Int)) ((wr ((64 : Int) - c.lba))) _ h8).any0 (ac h7 (ac h9 (ac h9 (ac h10 (ac h10 (ac h10 (ac h10 (ac h10 (ac h11 (ac h11 (ac h11 (ac h11 (ac h11 (ac h11 (ac h11 an)))))))))))))))))))))))))))))))))) tq
                ·
                  have h10p := ne_of_beq_false h10
                  intro e; injection e with e; subst e
                  exact leafR vw_eq (k := 300) (r := []) (hs := hz [(6, [.fres (.b (s0))]), (1, [.no]), (23, [.fc]), (1, [.fc]), (1, [.fc]), (1, [.fc]), (1, [.fc]), (1, [.fc]), (1, [.fc]), (1, [.fc, .fc]), (1, [.fc]), (1, [.fc]), (3, [.no, .no, .yes, .yes]), (2, [.fc, .yes]), (5, [.yes]), (1, [.yes]), (2, [.yes]), (1, [.yes]), (9, [.fres (.b (s6))]), (1, [.yes]), (1, [.yes]), (2, [.yes]), (1, [.yes]), (2, [.yes]), (1, [.yes]), (1, [.fres (.b (s8)), .yes]), (12, [.yes]), (1, [.yes]), (1, [.no, .no, .no, .no, .no]), (9, [])]) (raw := (AV.b Bool.false)) kq (ac (cWithin_ok (c.kind) ((1 : Int)) ((8 : Int)) _ h0).any0 (ac h1 (ac h2 (ac h3 (ac h4 (ac (fq (p := (((0 : Int) ≤ c.kind) ∧ (c.kind < (9 : Int))))) (ac (show orderOk (rg Try.prog 51 0) = true ∧ allOk (Region.before (rg Try.prog 51 0)) [] 0 [(some [], some []), (some [], some []), (some [0], some []), (some [], some []), (some [], some [1]), (some [1], some [1])] = true from (ord_of ord_51_0 bef_51_0 kq)) (ac h5 (ac h5 (ac h5 (ac h5 (ac (cWithin_ok (c.lba) ((0 : Int)) ((64 : Int)) _ h6).any0 (ac h7 (ac h7 (ac h7 (ac h7 (ac h7 (ac h7 (ac (cWithin_ok (c.n) ((1 : Int)) ((wr ((64 : Int) - c.lba))) _ h8).any0 (ac h7 (ac h9 (ac h9 (ac h10 (ac h10 (ac h10 (ac h10 (ac h10 an))))))))))))))))))))))))))) tq
              ·
                intro e; injection e with e; subst e
                exact leafR vw_eq (k := 300) (r := []) (hs := hz [(6, [.fres (.b (s0))]), (1, [.no]), (23, [.fc]), (1, [.fc]), (1, [.fc]), (1, [.fc]), (1, [.fc]), (1, [.fc]), (1, [.fc]), (1, [.fc, .fc]), (1, [.fc]), (1, [.fc]), (3, [.no, .no, .yes, .yes]), (2, [.fc, .yes]), (5, [.yes]), (1, [.yes]), (2, [.yes]), (1, [.yes]), (9, [.fres (.b (s6))]), (1, [.yes]), (1, [.yes]), (2, [.yes]), (1, [.yes]), (2, [.yes]), (1, [.yes]), (1, [.fres (.b (s8)), .yes]), (12, [.no, .no]), (15, [])]) (raw := (AV.b Bool.false)) kq (ac (cWithin_ok (c.kind) ((1 : Int)) ((8 : Int)) _ h0).any0 (ac h1 (ac h2 (ac h3 (ac h4 (ac (fq (p := (((0 : Int) ≤ c.kind) ∧ (c.kind < (9 : Int))))) (ac (show orderOk (rg Try.prog 51 0) = true ∧ allOk (Region.before (rg Try.prog 51 0)) [] 0 [(some [], some []), (some [], some []), (some [0], some []), (some [], some []), (some [], some [1]), (some [1], some [1])] = true from (ord_of ord_51_0 bef_51_0 kq)) (ac h5 (ac h5 (ac h5 (ac h5 (ac (cWithin_ok (c.lba) ((0 : Int)) ((64 : Int)) _ h6).any0 (ac h7 (ac h7 (ac h7 (ac h7 (ac h7 (ac h7 (ac (cWithin_ok (c.n) ((1 : Int)) ((wr ((64 : Int) - c.lba))) _ h8).any0 (ac h7 (ac h9 (ac h9 an)))))))))))))))))))))) tq
            ·
              intro e; injection e with e; subst e
              exact leafR vw_eq (k := 300) (r := []) (hs := hz [(6, [.fres (.b (s0))]), (1, [.no]), (23, [.fc]), (1, [.fc]), (1, [.fc]), (1, [.fc]), (1, [.fc]), (1, [.fc]), (1, [.fc]), (1, [.fc, .fc]), (1, [.fc]), (1, [.fc]), (3, [.no, .no, .yes, .yes]), (2, [.fc, .yes]), (5, [.yes]), (1, [.yes]), (2, [.yes]), (1, [.yes]), (9, [.fres (.b (s6))]), (1, [.no, .no, .no, .no, .no, .no, .no]), (29, [])]) (raw := (AV.b Bool.false)) kq (ac (cWithin_ok (c.kind) ((1 : Int)) ((8 : Int)) _ h0).any0 (ac h1 (ac h2 (ac h3 (ac h4 (ac (fq (p := (((0 : Int) ≤ c.kind) ∧ (c.kind < (9 : Int))))) (ac (show orderOk (rg Try.prog 51 0) = true ∧ allOk (Region.before (rg Try.prog 51 0)) [] 0 [(some [], some []), (some [], some []), (some [0], some []), (some [], some []), (some [], some [1]), (some [1], some [1])] = true from (ord_of ord_51_0 bef_51_0 kq)) (ac h5 (ac h5 (ac h5 (ac h5 (ac (cWithin_ok (c.lba) ((0 : Int)) ((64 : Int)) _ h6).any0 (ac h7 (ac h7 (ac h7 (ac h7 (ac h7 (ac h7 (ac h7 an))))))))))))))))))) tq
          ·
            have h5p := ne_of_beq_false h5
            refine tc_ok (fun s6 h6 => ?_)
            refine tb_ok (fun h7 => ?_) (fun h7 => ?_)
            ·
              refine tc_ok (fun s8 h8 => ?_)
              refine tb_ok (fun h9 => ?_) (fun h9 => ?_)
              ·
                refine tb_ok (fun h10 => ?_) (fun h10 => ?_)
                ·
                  have h10p := eq_of_beq h10
                  refine tb_ok (fun h11 => ?_) (fun h11 => ?_)
                  ·
                    have h11p := eq_of_beq h11
                    refine tb_ok (fun h12 => ?_) (fun h12 => ?_)
                    ·
                      have h12p := eq_of_beq h12
                      intro e; injection e with e; subst e
                      exact leafR vw_eq (k := 300) (r := []) (hs := hz [(6, [.fres (.b (s0))]), (1, [.no]), (23, [.fc]), (1, [.fc]), (1, [.fc]), (1, [.fc]), (1, [.fc]), (1, [.fc]), (1, [.fc]), (1, [.fc, .fc]), (1, [.fc]), (1, [.fc]), (3, [.no, .no, .yes, .yes]), (2, [.fc, .yes]), (5, [.no, .no, .no, .no]), (9, [.fres (.b (s6))]), (1, [.yes]), (1, [.yes]), (2, [.yes]), (1, [.yes]), (2, [.yes]), (1, [.yes]), (1, [.fres (.b (s8)), .yes]), (12, [.yes]), (1, [.yes]), (1, [.yes]), (1, [.yes]), (2, [.yes]), (1, [.fc, .yes]), (9, [.yes]), (1, [.yes]), (1, [.yes]), (2, [.yes]), (1, [.yes]), (1, [.yes]), (1, [.yes, .yes, .yes, .yes, .yes, .yes, .yes]), (1, [])]) (raw := (AV.b Bool.true)) kq (ac (cWithin_ok (c.kind) ((1 : Int)) ((8 : Int)) _ h0).any0 (ac h1 (ac h2 (ac h3 (ac h4 (ac (fq (p := (((0 : Int) ≤ c.kind) ∧ (c.kind < (9 : Int))))) (ac (show orderOk (rg Try.prog 51 0) = true ∧ allOk (Region.before (rg Try.prog 51 0)) [] 0 [(some [], some []), (some [], some []), (some [0], some []), (some [], some []), (some [], some [1]), (some [1], some [1])] = true from (ord_of ord_51_0 bef_51_0 kq)) (ac h5 (ac h5 (ac h5 (ac h5 (ac (cWithin_ok (c.lba) ((0 : Int)) ((64 : Int)) _ h6).any0 (ac h7 (ac h7 (ac h7 (ac h7 (ac h7 (ac h7 (ac (cWithin_ok (c.n) ((1 : Int)) ((wr ((64 : Int) - c.lba))) _ h8).any0 (ac h7 (ac h9 (ac h9 (ac h10 (ac h10 (ac h10 (ac h10 (ac h10 (ac h11 (ac h11 (ac h11 (ac h11 (ac h11 (ac h12 (ac h12 (ac h12 (ac h12 (ac h11 (ac h12 (ac h11 an))))))))))))))))))))))))))))))))))))))) tq
                    ·
                      have h12p := ne_of_beq_false h12
                      intro e; injection e with e; subst e
                      exact leafR vw_eq (k := 300) (r := []) (hs := hz [(6, [.fres (.b (s0))]), (1, [.no]), (23, [.fc]), (1, [.fc]), (1, [.fc]), (1, [.fc]), (1, [.fc]), (1, [.fc]), (1, [.fc]), (1, [.fc, .fc]), (1, [.fc]), (1, [.fc]), (3, [.no, .no, .yes, .yes]), (2, [.fc, .yes]), (5, [.no, .no, .no, .no]), (9, [.fres (.b (s6))]), (1, [.yes]), (1, [.yes]), (2, [.yes]), (1, [.yes]), (2, [.yes]), (1, [.yes]), (1, [.fres (.b (s8)), .yes]), (12, [.yes]), (1, [.yes]), (1, [.yes]), (1, [.yes]), (2, [.yes]), (1, [.fc, .yes]), (9, [.yes]), (1, [.yes]), (1, [.yes]), (2, [.yes]), (1, [.yes]), (1, [.yes]), (1, [.no]), (1, [.no]), (2, [.no]), (4, [.no]), (1, [.yes, .no, .yes]), (1, [])]) (raw := (AV.b Bool.false)) kq (ac (cWithin_ok (c.kind) ((1 : Int)) ((8 : Int)) _ h0).any0 (ac h1 (ac h2 (ac h3 (ac h4 (ac (fq (p := (((0 : Int) ≤ c.kind) ∧ (c.kind < (9 : Int))))) (ac (show orderOk (rg Try.prog 51 0) = true ∧ allOk (Region.before (rg Try.prog 51 0)) [] 0 [(some [], some []), (some [], some []), (some [0], some []), (some [], some []), (some [], some [1]), (some [1], some [1])] = true from (ord_of ord_51_0 bef_51_0 kq)) (ac h5 (ac h5 (ac h5 (ac h5 (ac (cWithin_ok (c.lba) ((0 : Int)) ((64 : Int)) _ h6).any0 (ac h7 (ac h7 (ac h7 (ac h7 (ac h7 (ac h7 (ac (cWithin_ok (c.n) ((1 : Int)) ((wr ((64 : Int) - c.lba))) _ h8).any0 (ac h7 (ac h9 (ac h9 (ac h10 (ac h10 (ac h10 (ac h10 (ac h10 (ac h11 (ac h11 (ac h11 (ac h11 (ac h11 (ac h12 (ac h12 (ac h12 (ac h12 (ac h11 (ac h12 (ac h11 an))))))))))))))))))))))))))))))))))))))) tq
                  ·
                    have h11p := ne_of_beq_false h11
                    intro e; injection e with e; subst e
                    exact leafR vw_eq (k := 300) (r := []) (hs := hz [(6, [.fres (.b (s0))]), (1, [.no]), (23, [.fc]), (1, [.fc]), (1, [.fc]), (1, [.fc]), (1, [.fc]), (1, [.fc]), (1, [.fc]), (1, [.fc, .fc]), (1, [.fc]), (1, [.fc]), (3, [.no, .no, .yes, .yes]), (2, [.fc, .yes]), (5, [.no, .no, .no, .no]), (9, [.fres (.b (s6))]), (1, [.yes]), (1, [.yes]), (2, [.yes]), (1, [.yes]), (2, [.yes]), (1, [.yes]), (1, [.fres (.b (s8)), .yes]), (12, [.yes]), (1, [.yes]), (1, [.yes]), (1, [.yes]), (2, [.yes]), (1, [.fc, .yes]), (9, [.yes]), (1, [.no, .no, .no, .no, .no, .no, .no]), (1, [])]) (raw := (AV.b Bool.false)) kq (ac (cWithin_ok (c.kind) ((1 : Int)) ((8 : Int)) _ h0).any0 (ac h1 (ac h2 (ac h3 (ac h4 (ac (fq (p := (((0 : Int) ≤ c.kind) ∧ (c.kind < (9 : Int))))) (ac (show orderOk (rg Try.prog 51 0) = true ∧ allOk (Region.before (rg Try.prog 51 0)) [] 0 [(some [], some []), (some [], some []), (some [0], some []), (some [], some []), (some [], some [1]), (some [1], some [1])] = true from (ord_of ord_51_0 bef_51_0 kq)) (ac h5 (ac h5 (ac h5 (ac h5 (ac (cWithin_ok (c.lba) ((0 : Int)) ((64 : Int)) _ h6).any0 (ac h7 (ac h7 (ac h7 (ac h7 (ac h7 (ac h7 (ac (cWithin_ok (c.n) ((1 : Int)) ((wr ((64 : Int) - c.lba))) _ h8).any0 (ac h7 (ac h9 (ac h9 (ac h10 (ac h10 (ac h10 (ac h10 (ac h10 (ac h11 (ac h11 (ac h11 (ac h11 (ac h11 (ac h11 (ac h11 an)))))))))))))))))))))))))))))))))) tq
                ·
                  have h10p := ne_of_beq_false h10
                  intro e; injection e with e; subst e
                  exact leafR vw_eq (k := 300) (r := []) (hs := hz [(6, [.fres (.b (s0))]), (1, [.no]), (23, [.fc]), (1, [.fc]), (1, [.fc]), (1, [.fc]), (1, [.fc]), (1, [.fc]), (1, [.fc]), (1, [.fc, .fc]), (1, [.fc]), (1, [.fc]), (3, [.no, .no, .yes, .yes]), (2, [.fc, .yes]), (5, [.no, .no, .no, .no]), (9, [.fres (.b (s6))]), (1, [.yes]), (1, [.yes]), (2, [.yes]), (1, [.yes]), (2, [.yes]), (1, [.yes]), (1, [.fres (.b (s8)), .yes]), (12, [.yes]), (1, [.yes]), (1, [.no, .no, .no, .no, .no]), (9, [])]) (raw := (AV.b Bool.false)) kq (ac (cWithin_ok (c.kind) ((1 : Int)) ((8 : Int)) _ h0).any0 (ac h1 (ac h2 (ac h3 (ac h4 (ac (fq (p := (((0 : Int) ≤ c.kind) ∧ (c.kind < (9 : Int))))) (ac (show orderOk (rg Try.prog 51 0) = true ∧ allOk (Region.before (rg Try.prog 51 0)) [] 0 [(some [], some []), (some [], some []), (some [0], some []), (some [], some []), (some [], some [1]), (some [1], some [1])] = true from (ord_of ord_51_0 bef_51_0 kq)) (ac h5 (ac h5 (ac h5 (ac h5 (ac (cWithin_ok (c.lba) ((0 : Int)) ((64 : Int)) _ h6).any0 (ac h7 (ac h7 (ac h7 (ac h7 (ac h7 (ac h7 (ac (cWithin_ok (c.n) ((1 : Int)) ((wr ((64 : Int) - c.lba))) _ h8).any0 (ac h7 (ac h9 (ac h9 (ac h10 (ac h10 (ac h10 (ac h10 (ac h10 an))))))))))))))))))))))))))) tq
              ·
                intro e; injection e with e; subst e
                exact leafR vw_eq (k := 300) (r := []) (hs := hz [(6, [.fres (.b (s0))]), (1, [.no]), (23, [.fc]), (1, [.fc]), (1, [.fc]), (1, [.fc]), (1, [.fc]), (1, [.fc]), (1, [.fc]), (1, [.fc, .fc]), (1, [.fc]), (1, [.fc]), (3, [.no, .no, .yes, .yes]), (2, [.fc, .yes]), (5, [.no, .no, .no, .no]), (9, [.fres (.b (s6))]), (1, [.yes]), (1, [.yes]), (2, [.yes]), (1, [.yes]), (2, [.yes]), (1, [.yes]), (1, [.fres (.b (s8)), .yes]), (12, [.no, .no]), (15, [])]) (raw := (AV.b Bool.false)) kq (ac (cWithin_ok (c.kind) ((1 : Int)) ((8 : Int)) _ h0).any0 (ac h1 (ac h2 (ac h3 (ac h4 (ac (fq (p := (((0 : Int) ≤ c.kind) ∧ (c.kind < (9 : Int))))) (ac (show orderOk (rg Try.prog 51 0) = true ∧ allOk (Region.before (rg Try.prog 51 0)) [] 0 [(some [], some []), (some [], some []), (some [0], some []), (some [], some []), (some [], some [1]), (some [1], some [1])] = true from (ord_of ord_51_0 bef_51_0 kq)) (ac h5 (ac h5 (ac h5 (ac h5 (ac (cWithin_ok (c.lba) ((0 : Int)) ((64 : Int)) _ h6).any0 (ac h7 (ac h7 (ac h7 (ac h7 (ac h7 (ac h7 (ac (cWithin_ok (c.n) ((1 : Int)) ((wr ((64 : Int) - c.lba))) _ h8).any0 (ac h7 (ac h9 (ac h9 an)))))))))))))))))))))) tq
            ·
              intro e; injection e with e; subst e
              exact leafR vw_eq (k := 300) (r := []) (hs := hz [(6, [.fres (.b (s0))]), (1, [.no]), (23, [.fc]), (1, [.fc]), (1, [.fc]), (1, [.fc]), (1, [.fc]), (1, [.fc]), (1, [.fc]), (1, [.fc, .fc]), (1, [.fc]), (1, [.fc]), (3, [.no, .no, .yes, .yes]), (2, [.fc, .yes]), (5, [.no, .no, .no, .no]), (9, [.fres (.b (s6))]), (1, [.no, .no, .no, .no, .no, .no, .no]), (29, [])]) (raw := (AV.b Bool.false)) kq (ac (cWithin_ok (c.kind) ((1 : Int)) ((8 : Int)) _ h0).any0 (ac h1 (ac h2 (ac h3 (ac h4 (ac (fq (p := (((0 : Int) ≤ c.kind) ∧ (c.kind < (9 : Int))))) (ac (show orderOk (rg Try.prog 51 0) = true ∧ allOk (Region.before (rg Try.prog 51 0)) [] 0 [(some [], some []), (some [], some []), (some [0], some []), (some [], some []), (some [], some [1]), (some [1], some [1])] = true from (ord_of ord_51_0 bef_51_0 kq)) (ac h5 (ac h5 (ac h5 (ac h5 (ac (cWithin_ok (c.lba) ((0 : Int)) ((64 : Int)) _ h6).any0 (ac h7 (ac h7 (ac h7 (ac h7 (ac h7 (ac h7 (ac h7 an))))))))))))))))))) tq
        ·
          have h4p := of_decide_eq_false h4
          refine tb_ok (fun h5 => ?_) (fun h5 => ?_)
          ·
            have h5p := of_decide_eq_true h5
            refine tb_ok (fun h6 => ?_) (fun h6 => ?_)
            ·
              have h6p := eq_of_beq h6
              refine tc_ok (fun s7 h7 => ?_)
              refine tb_ok (fun h8 => ?_) (fun h8 => ?_)
              ·
                refine tc_ok (fun s9 h9 => ?_)
                refine tb_ok (fun h10 => ?_) (fun h10 => ?_)
                ·
                  refine tb_ok (fun h11 => ?_) (fun h11 => ?_)
                  ·
                    have h11p := eq_of_beq h11
                    refine tb_ok (fun h12 => ?_) (fun h12 => ?_)
                    ·
                      have h12p := eq_of_beq h12
                      refine tb_ok (fun h13 => ?_) (fun h13 => ?_)
                      ·
                        have h13p := eq_of_beq h13
                        intro e; injection e with e; subst e
                        exact leafR vw_eq (k := 300) (r := []) (hs := hz [(6, [.fres (.b (s0))]), (1, [.no]), (23, [.fc]), (1, [.fc]), (1, [.fc]), (1, [.fc]), (1, [.fc]), (1, [.fc]), (1, [.fc]), (1, [.fc, .fc]), (1, [.fc]), (1, [.fc]), (3, [.no, .no, .no, .yes, .yes]), (2, [.fc, .yes]), (5, [.yes]), (1, [.yes]), (2, [.yes]), (1, [.yes]), (9, [.fres (.b (s7))]), (1, [.yes]), (1, [.yes]), (2, [.yes]), (1, [.yes]), (2, [.yes]), (1, [.yes]), (1, [.fres (.b (s9)), .yes]), (12, [.yes]), (1, [.yes]), (1, [.yes]), (1, [.yes]), (2, [.yes]), (1, [.fc, .yes]), (9, [.yes]), (1, [.yes]), (1, [.yes]), (2, [.yes]), (1, [.yes]), (1, [.yes]), (1, [.yes, .yes, .yes, .yes, .yes, .yes, .yes]), (1, [])]) (raw := (AV.b Bool.true)) kq (ac (cWithin_ok (c.kind) ((1 : Int)) ((8 : Int)) _ h0).any0 (ac h1 (ac h2 (ac h3 (ac h4 (ac h5 (ac (fq (p := (((0 : Int) ≤ c.kind) ∧ (c.kind < (9 : Int))))) (ac (show orderOk (rg Try.prog 51 0) = true ∧ allOk (Region.before (rg Try.prog 51 0)) [] 0 [(some [], some []), (some [], some []), (some [0], some []), (some [], some []), (some [], some [1]), (some [1], some [1])] = true from (ord_of ord_51_0 bef_51_0 kq)) (ac h6 (ac h6 (ac h6 (ac h6 (ac (cWithin_ok (c.lba) ((0 : Int)) ((64 : Int)) _ h7).any0 (ac h8 (ac h8 (ac h8 (ac h8 (ac h8 (ac h8 (ac (cWithin_ok (c.n) ((1 : Int)) ((wr ((64 : Int) - c.lba))) _ h9).any0 (ac h8 (ac h10 (ac h10 (ac h11 (ac h11 (ac h11 (ac h11 (ac h11 (ac h12 (ac h12 (ac h12 (ac h12 (ac h12 (ac h13 (ac h13 (ac h13 (ac h13 (ac h12 (ac h13 (ac h12 an)))))))))))))))))))))))))))))))))))))))) tq
                      ·
                        have h13p := ne_of_beq_false h13
                        intro e; injection e with e; subst e
                        exact leafR vw_eq (k := 300) (r := []) (hs := hz [(6, [.fres (.b (s0))]), (1, [.no]), (23, [.fc]), (1, [.fc]), (1, [.fc]), (1, [.fc]), (1, [.fc]), (1, [.fc]), (1, [.fc]), (1, [.fc, .fc]), (1, [.fc]), (1, [.fc]), (3, [.no, .no, .no, .yes, .yes]), (2, [.fc, .yes]), (5, [.yes]), (1, [.yes]), (2, [.yes]), (1, [.yes]), (9, [.fres (.b (s7))]), (1, [.yes]), (1, [.yes]), (2, [.yes]), (1, [.yes]), (2, [.yes]), (1, [.yes]), (1, [.fres (.b (s9)), .yes]), (12, [.yes]), (1, [.yes]), (1, [.yes]), (1, [.yes]), (2, [.yes]), (1, [.fc, .yes]), (9, [.yes]), (1, [.yes]), (1, [.yes]), (2, [.yes]), (1, [.yes]), (1, [.yes]), (1, [.no]), (1, [.no]), (2, [.no]), (4, [.no]), (1, [.yes, .no, .yes]), (1, [])]) (raw := (AV.b Bool.false)) kq (ac (cWithin_ok (c.kind) ((1 : Int)) ((8 : Int)) _ h0).any0 (ac h1 (ac h2 (ac h3 (ac h4 (ac h5 (ac (fq (p := (((0 : Int) ≤ c.kind) ∧ (c.kind < (9 : Int))))) (ac (show orderOk (rg Try.prog 51 0) = true ∧ allOk (Region.before (rg Try.prog 51 0)) [] 0 [(some [], some []), (some [], some []), (some [0], some []), (some [], some []), (some [], some [1]), (some [1], some [1])] = true from (ord_of ord_51_0 bef_51_0 kq)) (ac h6 (ac h6 (ac h6 (ac h6 (ac (cWithin_ok (c.lba) ((0 : Int)) ((64 : Int)) _ h7).any0 (ac h8 (ac h8 (ac h8 (ac h8 (ac h8 (ac h8 (ac (cWithin_ok (c.n) ((1 : Int)) ((wr ((64 : Int) - c.lba))) _ h9).any0 (ac h8 (ac h10 (ac h10 (ac h11 (ac h11 (ac h11 (ac h11 (ac h11 (ac h12 (ac h12 (ac h12 (ac h12 (ac h12 (ac h13 (ac h13 (ac h13 (ac h13 (ac h12 (ac h13 (ac h12 an)))))))))))))))))))))))))))))))))))))))) tq
                    ·
                      have h12p := ne_of_beq_false h12
                      intro e; injection e with e; subst e
                      exact leafR vw_eq (k := 300) (r := []) (hs := hz [(6, [.fres (.b (s0))]), (1, [.no]), (23, [.fc]), (1, [.fc]), (1, [.fc]), (1, [.fc]), (1, [.fc]), (1, [.fc]), (1, [.fc]), (1, [.fc, .fc]), (1, [.fc]), (1, [.fc]), (3, [.no, .no, .no, .yes, .yes]), (2, [.fc, .yes]), (5, [.yes]), (1, [.yes]), (2, [.yes]), (1, [.yes]), (9, [.fres (.b (s7))]), (1, [.yes]), (1, [.yes]), (2, [.yes]), (1, [.yes]), (2, [.yes]), (1, [.yes]), (1, [.fres (.b (s9)), .yes]), (12, [.yes]), (1, [.yes]), (1, [.yes]), (1, [.yes]), (2, [.yes]), (1, [.fc, .yes]), (9, [.yes]), (1, [.no, .no, .no, .no, .no, .no, .no]), (1, [])]) (raw := (AV.b Bool.false)) kq (ac (cWithin_ok (c.kind) ((1 : Int)) ((8 : Int)) _ h0).any0 (ac h1 (ac h2 (ac h3 (ac h4 (ac h5 (ac (fq (p := (((0 : Int) ≤ c.kind) ∧ (c.kind < (9 : Int))))) (ac (show orderOk (rg Try.prog 51 0) = true ∧ allOk (Region.before (rg Try.prog 51 0)) [] 0 [(some [], some []), (some [], some []), (some [0], some []), (some [], some []), (some [], some [1]), (some [1], some [1])] = true from (ord_of ord_51_0 bef_51_0 kq)) (ac h6 (ac h6 (ac h6 (ac h6 (ac (cWithin_ok (c.lba) ((0 : Int)) ((64 : Int)) _ h7).any0 (ac h8 (ac h8 (ac h8 (ac h8 (ac h8 (ac h8 (ac (cWithin_ok (c.n) ((1 : Int)) ((wr ((64 : Int) - c.lba))) _ h9).any0 (ac h8 (ac h10 (ac h10 (ac h11 (ac h11 (ac h11 (ac h11 (ac h11 (ac h12 (ac h12 (ac h12 (ac h12 (ac h12 (ac h12 (ac h12 an))))))))))))))))))))))))))))))))))) tq
                  ·
                    have h11p := ne_of_beq_false h11
                    intro e; injection e with e; subst e
                    exact leafR vw_eq (k := 300) (r := []) (hs := hz [(6, [.fres (.b (s0))]), (1, [.no]), (23, [.fc]), (1, [.fc]), (1, [.fc]), (1, [.fc]), (1, [.fc]), (1, [.fc]), (1, [.fc]), (1, [.fc, .fc]), (1, [.fc]), (1, [.fc]), (3, [.no, .no, .no, .yes, .yes]), (2, [.fc, .yes]), (5, [.yes]), (1, [.yes]), (2, [.yes]), (1, [.yes]), (9, [.fres (.b (s7))]), (1, [.yes]), (1, [.yes]), (2, [.yes]), (1, [.yes]), (2, [.yes]), (1, [.yes]), (1, [.fres (.b (s9)), .yes]), (12, [.yes]), (1, [.yes]), (1, [.no, .no, .no, .no, .no]), (9, [])]) (raw := (AV.b Bool.false)) kq (ac (cWithin_ok (c.kind) ((1 : Int)) ((8 : Int)) _ h0).any0 (ac h1 (ac h2 (ac h3 (ac h4 (ac h5 (ac (fq (p := (((0 : Int) ≤ c.kind) ∧ (c.kind < (9 : Int))))) (ac (show orderOk (rg Try.prog 51 0) = true ∧ allOk (Region.before (rg Try.prog 51 0)) [] 0 [(some [], some []), (some [], some []), (some [0], some []), (some [], some []), (some [], some [1]), (some [1], some [1])] = true from (ord_of ord_51_0 bef_51_0 kq)) (ac h6 (ac h6 (ac h6 (ac h6 (ac (cWithin_ok (c.lba) ((0 : Int)) ((64 : Int)) _ h7).any0 (ac h8 (ac h8 (ac h8 (ac h8 (ac h8 (ac h8 (ac (cWithin_ok (c.n) ((1 : Int)) ((wr ((64 : Int) - c.lba))) _ h9).any0 (ac h8 (ac h10 (ac h10 (ac h11 (ac h11 (ac h11 (ac h11 (ac h11 an)))))))))))))))))))))))))))) tq
                ·
                  intro e; injection e with e; subst e
                  exact leafR vw_eq (k := 300) (r := []) (hs := hz [(6, [.fres (.b (s0))]), (1, [.no]), (23, [.fc]), (1, [.fc]), (1, [.fc]), (1, [.fc]), (1, [.fc]), (1, [.fc]), (1, [.fc]), (1, [.fc, .fc]), (1, [.fc]), (1, [.fc]), (3, [.no, .no, .no, .yes, .yes]), (2, [.fc, .yes]), (5, [.yes]), (1, [.yes]), (2, [.yes]), (1, [.yes]), (9, [.fres (.b (s7))]), (1, [.yes]), (1, [.yes]), (2, [.yes]), (1, [.yes]), (2, [.yes]), (1, [.yes]), (1, [.fres (.b (s9)), .yes]), (12, [.no, .no]), (15, [])]) (raw := (AV.b Bool.false)) kq (ac (cWithin_ok (c.kind) ((1 : Int)) ((8 : Int)) _ h0).any0 (ac h1 (ac h2 (ac h3 (ac h4 (ac h5 (ac (fq (p := (((0 : Int) ≤ c.kind) ∧ (c.kind < (9 : Int))))) (ac (show orderOk (rg Try.prog 51 0) = true ∧ allOk (Region.before (rg Try.prog 51 0)) [] 0 [(some [], some []), (some [], some []), (some [0], some []), (some [], some []), (some [], some [1]), (some [1], some [1])] = true from (ord_of ord_51_0 bef_51_0 kq)) (ac h6 (ac h6 (ac h6 (ac h6 (ac (cWithin_ok (c.lba) ((0 : Int)) ((64 : Int)) _ h7).any0 (ac h8 (ac h8 (ac h8 (ac h8 (ac h8 (ac h8 (ac (cWithin_ok (c.n) ((1 : Int)) ((wr ((64 : Int) - c.lba))) _ h9).any0 (ac h8 (ac h10 (ac h10 an))))))))))))))))))))))) tq
              ·
                intro e; injection e with e; subst e
                exact leafR vw_eq (k := 300) (r := []) (hs := hz [(6, [.fres (.b (s0))]), (1, [.no]), (23, [.fc]), (1, [.fc]), (1, [.fc]), (1, [.fc]), (1, [.fc]), (1, [.fc]), (1, [.fc]), (1, [.fc, .fc]), (1, [.fc]), (1, [.fc]), (3, [.no, .no, .no, .yes, .yes]), (2, [.fc, .yes]), (5, [.yes]), (1, [.yes]), (2, [.yes]), (1, [.yes]), (9, [.fres (.b (s7))]), (1, [.no, .no, .no, .no, .no, .no, .no]), (29, [])]) (raw := (AV.b Bool.false)) kq (ac (cWithin_ok (c.kind) ((1 : Int)) ((8 : Int)) _ h0).any0 (ac h1 (ac h2 (ac h3 (ac h4 (ac h5 (ac (fq (p := (((0 : Int) ≤ c.kind) ∧ (c.kind < (9 : Int))))) (ac (show orderOk (rg Try.prog 51 0) = true ∧ allOk (Region.before (rg Try.prog 51 0)) [] 0 [(some [], some []), (some [], some []), (some [0], some []), (some [], some []), (some [], some [1]), (some [1], some [1])] = true from (ord_of ord_51_0 bef_51_0 kq)) (ac h6 (ac h6 (ac h6 (ac h6 (ac (cWithin_ok (c.lba) ((0 : Int)) ((64 : Int)) _ h7).any0 (ac h8 (ac h8 (ac h8 (ac h8 (ac h8 (ac h8 (ac h8 an)))))))))))))))))))) tq
            ·
              have h6p := ne_of_beq_false h6
              refine tc_ok (fun s7 h7 => ?_)
              refine tb_ok (fun h8 => ?_) (fun h8 => ?_)
              ·
                refine tc_ok (fun s9 h9 => ?_)
                refine tb_ok (fun h10 => ?_) (fun h10 => ?_)
                ·
                  refine tb_ok (fun h11 => ?_) (fun h11 => ?_)
                  ·
                    have h11p := eq_of_beq h11
                    refine tb_ok (fun h12 => ?_) (fun h12 => ?_)
                    ·
                      have h12p := eq_of_beq h12
                      refine tb_ok (fun h13 => ?_) (fun h13 => ?_)
                      ·
                        have h13p := eq_of_beq h13
                        intro e; injection e with e; subst e
                        exact leafR vw_eq (k := 300) (r := []) (hs := hz [(6, [.fres (.b (s0))]), (1, [.no]), (23, [.fc]), (1, [.fc]), (1, [.fc]), (1, [.fc]), (1, [.fc]), (1, [.fc]), (1, [.fc]), (1, [.fc, .fc]), (1, [.fc]), (1, [.fc]), (3, [.no, .no, .no, .yes, .yes]), (2, [.fc, .yes]), (5, [.no, .no, .no, .no]), (9, [.fres (.b (s7))]), (1, [.yes]), (1, [.yes]), (2, [.yes]), (1, [.yes]), (2, [.yes]), (1, [.yes]), (1, [.fres (.b (s9)), .yes]), (12, [.yes]), (1, [.yes]), (1, [.yes]), (1, [.yes]), (2, [.yes]), (1, [.fc, .yes]), (9, [.yes]), (1, [.yes]), (1, [.yes]), (2, [.yes]), (1, [.yes]), (1, [.yes]), (1, [.yes, .yes, .yes, .yes, .yes, .yes, .yes]), (1, [])]) (raw := (AV.b Bool.true)) kq (ac (cWithin_ok (c.kind) ((1 : Int)) ((8 : Int)) _ h0).any0 (ac h1 (ac h2 (ac h3 (ac h4 (ac h5 (ac (fq (p := (((0 : Int) ≤ c.kind) ∧ (c.kind < (9 : Int))))) (ac (show orderOk (rg Try.prog 51 0) = true ∧ allOk (Region.before (rg Try.prog 51 0)) [] 0 [(some [], some []), (some [], some []), (some [0], some []), (some [], some []), (some [], some [1]), (some [1], some [1])] = true from (ord_of ord_51_0 bef_51_0 kq)) (ac h6 (ac h6 (ac h6 (ac h6 (ac (cWithin_ok (c.lba) ((0 : Int)) ((64 : Int)) _ h7).any0 (ac h8 (ac h8 (ac h8 (ac h8 (ac h8 (ac h8 (ac (cWithin_ok (c.n) ((1 : Int)) ((wr ((64 : Int) - c.lba))) _ h9).any0 (ac h8 (ac h10 (ac h10 (ac h11 (ac h11 (ac h11 (ac h11 (ac h11 (ac h12 (ac h12 (ac h12 (ac h12 (ac h12 (ac h13 (ac h13 (ac h13 (ac h13 (ac h12 (ac h13 (ac h12 an)))))))))))))))))))))))))))))))))))))))) tq
                      ·
                        have h13p := ne_of_beq_false h13
                        intro e; injection e with e; subst e
                        exact leafR vw_eq (k := 300) (r := []) (hs := hz [(6, [.fres (.b (s0))]), (1, [.no]), (23, [.fc]), (1, [.fc]), (1, [.fc]), (1, [.fc]), (1, [.fc]), (1, [.fc]), (1, [.fc]), (1, [.fc, .fc]), (1, [.fc]), (1, [.fc]), (3, [.no, .no, .no, .yes, .yes]), (2, [.fc, .yes]), (5, [.no, .no, .no, .no]), (9, [.fres (.b (s7))]), (1, [.yes]), (1, [.yes]), (2, [.yes]), (1, [.yes]), (2, [.yes]), (1, [.yes]), (1, [.fres (.b (s9)), .yes]), (12, [.yes]), (1, [.yes]), (1, [.yes]), (1, [.yes]), (2, [.yes]), (1, [.fc, .yes]), (9, [.yes]), (1, [.yes]), (1, [.yes]), (2, [.yes]), (1, [.yes]), (1, [.yes]), (1, [.no]), (1, [.no]), (2, [.no]), (4, [.no]), (1, [.yes, .no, .yes]), (1, [])]) (raw := (AV.b Bool.false)) kq (ac (cWithin_ok (c.kind) ((1 : Int)) ((8 : Int)) _ h0).any0 (ac h1 (ac h2 (ac h3 (ac h4 (ac h5 (ac (fq (p := (((0 : Int) ≤ c.kind) ∧ (c.kind < (9 : Int))))) (ac (show orderOk (rg Try.prog 51 0) = true ∧ allOk (Region.before (rg Try.prog 51 0)) [] 0 [(some [], some []), (some [], some []), (some [0], some []), (some [], some []), (some [], some [1]), (some [1], some [1])] = true from (ord_of ord_51_0 bef_51_0 kq)) (ac h6 (ac h6 (ac h6 (ac h6 (ac (cWithin_ok (c.lba) ((0 : Int)) ((64 : Int)) _ h7).any0 (ac h8 (ac h8 (ac h8 (ac h8 (ac h8 (ac h8 (ac (cWithin_ok (c.n) ((1 : Int)) ((wr ((64 : Int) - c.lba))) _ h9).any0 (ac h8 (ac h10 (ac h10 (ac h11 (ac h11 (ac h11 (ac h11 (ac h11 (ac h12 (ac h12 (ac h12 (ac h12 (ac h12 (ac h13 (ac h13 (ac h13 (ac h13 (ac h12 (ac h13 (ac h12 an)))))))))))))))))))))))))))))))))))))))) tq
                    ·
                      have h12p := ne_of_beq_false h12
                      intro e; injection e with e; subst e
                      exact leafR vw_eq (k := 300) (r := []) (hs := hz [(6, [.fres (.b (s0))]), (1, [.no]), (23, [.fc]), (1, [.fc]), (1, [.fc]), (1, [.fc]), (1, [.fc]), (1, [.fc]), (1, [.fc]), (1, [.fc, .fc]), (1, [.fc]), (1, [.fc]), (3, [.no, .no, .no, .yes, .yes]), (2, [.fc, .yes]), (5, [.no, .no, .no, .no]), (9, [.fres (.b (s7))]), (1, [.yes]), (1, [.yes]), (2, [.yes]), (1, [.yes]), (2, [.yes]), (1, [.yes]), (1, [.fres (.b (s9)), .yes]), (12, [.yes]), (1, [.yes]), (1, [.yes]), (1, [.yes]), (2, [.yes]), (1, [.fc, .yes]), (9, [.yes]), (1, [.no, .no, .no, .no, .no, .no, .no]), (1, [])]) (raw := (AV.b Bool.false)) kq (ac (cWithin_ok (c.kind) ((1 : Int)) ((8 : Int)) _ h0).any0 (ac h1 (ac h2 (ac h3 (ac h4 (ac h5 (ac (fq (p := (((0 : Int) ≤ c.kind) ∧ (c.kind < (9 : Int))))) (ac (show orderOk (rg Try.prog 51 0) = true ∧ allOk (Region.before (rg Try.prog 51 0)) [] 0 [(some [], some []), (some [], some []), (some [0], some []), (some [], some []), (some [], some [1]), (some [1], some [1])] = true from (ord_of ord_51_0 bef_51_0 kq)) (ac h6 (ac h6 (ac h6 (ac h6 (ac (cWithin_ok (c.lba) ((0 : Int)) ((64 : Int)) _ h7).any0 (ac h8 (ac h8 (ac h8 (ac h8 (ac h8 (ac h8 (ac (cWithin_ok (c.n) ((1 : Int)) ((wr ((64 : Int) - c.lba))) _ h9).any0 (ac h8 (ac h10 (ac h10 (ac h11 (ac h11 (ac h11 (ac h11 (ac h11 (ac h12 (ac h12 (ac h12 (ac h12 (ac h12 (ac h12 (ac h12 an))))))))))))))))))))))))))))))))))) tq
                  ·
                    have h11p := ne_of_beq_false h11
                    intro e; injection e with e; subst e
                    exact leafR vw_eq (k := 300) (r := []) (hs := hz [(6, [.fres (.b (s0))]), (1, [.no]), (23, [.fc]), (1, [.fc]), (1, [.fc]), (1, [.fc]), (1, [.fc]), (1, [.fc]), (1, [.fc]), (1, [.fc, .fc]), (1, [.fc]), (1, [.fc]), (3, [.no, .no, .no, .yes, .yes]), (2, [.fc, .yes]), (5, [.no, .no, .no, .no]), (9, [.fres (.b (s7))]), (1, [.yes]), (1, [.yes]), (2, [.yes]), (1, [.yes]), (2, [.yes]), (1, [.yes]), (1, [.fres (.b (s9)), .yes]), (12, [.yes]), (1, [.yes]), (1, [.no, .no, .no, .no, .no]), (9, [])]) (raw := (AV.b Bool.false)) kq (ac (cWithin_ok (c.kind) ((1 : Int)) ((8 : Int)) _ h0).any0 (ac h1 (ac h2 (ac h3 (ac h4 (ac h5 (ac (fq (p := (((0 : Int) ≤ c.kind) ∧ (c.kind < (9 : Int))))) (ac (show orderOk (rg Try.prog 51 0) = true ∧ allOk (Region.before (rg Try.prog 51 0)) [] 0 [(some [], some []), (some [], some []), (some [0], some []), (some [], some []), (some [], some [1]), (some [1], some [1])] = true from (ord_of ord_51_0 bef_51_0 kq)) (ac h6 (ac h6 (ac h6 (ac h6 (ac (cWithin_ok (c.lba) ((0 : Int)) ((64 : Int)) _ h7).any0 (ac h8 (ac h8 (ac h8 (ac h8 (ac h8 (ac h8 (ac (cWithin_ok (c.n) ((1 : Int)) ((wr ((64 : Int) - c.lba))) _ h9).any0 (ac h8 (ac h10 (ac h10 (ac h11 (ac h11 (ac h11 (ac h11 (ac h11 an)))))))))))))))))))))))))))) tq
                ·
                  intro e; injection e with e; subst e
                  exact leafR vw_eq (k := 300) (r := []) (hs := hz [(6, [.fres (.b (s0))]), (1, [.no]), (23, [.fc]), (1, [.fc]), (1, [.fc]), (1, [.fc]), (1, [.fc]), (1, [.fc]), (1, [.fc]), (1, [.fc, .fc]), (1, [.fc]), (1, [.fc]), (3, [.no, .no, .no, .yes, .yes]), (2, [.fc, .yes]), (5, [.no, .no, .no, .no]), (9, [.fres (.b (s7))]), (1, [.yes]), (1, [.yes]), (2, [.yes]), (1, [.yes]), (2, [.yes]), (1, [.yes]), (1, [.fres (.b (s9)), .yes]), (12, [.no, .no]), (15, [])]) (raw := (AV.b Bool.false)) kq (ac (cWithin_ok (c.kind) ((1 : Int)) ((8 : Int)) _ h0).any0 (ac h1 (ac h2 (ac h3 (ac h4 (ac h5 (ac (fq (p := (((0 : Int) ≤ c.kind) ∧ (c.kind < (9 : Int))))) (ac (show orderOk (rg Try.prog 51 0) = true ∧ allOk (Region.before (rg Try.prog 51 0)) [] 0 [(some [], some []), (some [], some []), (some [0], some []), (some [], some []), (some [], some [1]), (some [1], some [1])] = true from (ord_of ord_51_0 bef_51_0 kq)) (ac h6 (ac h6 (ac h6 (ac h6 (ac (cWithin_ok (c.lba) ((0 : Int)) ((64 : Int)) _ h7).any0 (ac h8 (ac h8 (ac h8 (ac h8 (ac h8 (ac h8 (ac (cWithin_ok (c.n) ((1 : Int)) ((wr ((64 : Int) - c.lba))) _ h9).any0 (ac h8 (ac h10 (ac h10 an))))))))))))))))))))))) tq
              ·
                intro e; injection e with e; subst e
                exact leafR vw_eq (k := 300) (r := []) (hs := hz [(6, [.fres (.b (s0))]), (1, [.no]), (23, [.fc]), (1, [.fc]), (1, [.fc]), (1, [.fc]), (1, [.fc]), (1, [.fc]), (1, [.fc]), (1, [.fc, .fc]), (1, [.fc]), (1, [.fc]), (3, [.no, .no, .no, .yes, .yes]), (2, [.fc, .yes]), (5, [.no, .no, .no, .no]), (9, [.fres (.b (s7))]), (1, [.no, .no, .no, .no, .no, .no, .no]), (29, [])]) (raw := (AV.b Bool.false)) kq (ac (cWithin_ok (c.kind) ((1 : Int)) ((8 : Int)) _ h0).any0 (ac h1 (ac h2 (ac h3 (ac h4 (ac h5 (ac (fq (p := (((0 : Int) ≤ c.kind) ∧ (c.kind < (9 : Int))))) (ac (show orderOk (rg Try.prog 51 0) = true ∧ allOk (Region.before (rg Try.prog 51 0)) [] 0 [(some [], some []), (some [], some []), (some [0], some []), (some [], some []), (some [], some [1]), (some [1], some [1])] = true from (ord_of ord_51_0 bef_51_0 kq)) (ac h6 (ac h6 (ac h6 (ac h6 (ac (cWithin_ok (c.lba) ((0 : Int)) ((64 : Int)) _ h7).any0 (ac h8 (ac h8 (ac h8 (ac h8 (ac h8 (ac h8 (ac h8 an)))))))))))))))))))) tq
          ·
            have h5p := of_decide_eq_false h5
            refine tb_ok (fun h6 => ?_) (fun h6 => ?_)
            ·
              have h6p := of_decide_eq_true h6
              refine tb_ok (fun h7 => ?_) (fun h7 => ?_)
              ·
                have h7p := eq_of_beq h7
                refine tc_ok (fun s8 h8 => ?_)
                refine tb_ok (fun h9 => ?_) (fun h9 => ?_)
                ·
                  have h9p := eq_of_beq h9
                  refine tb_ok (fun h10 => ?_) (fun h10 => ?_)
                  ·
                    refine tb_ok (fun h11 => ?_) (fun h11 => ?_)
                    ·
                      have h11p := eq_of_beq h11
                      refine tb_ok (fun h12 => ?_) (fun h12 => ?_)
                      ·
                        have h12p := eq_of_beq h12
                        intro e; injection e with e; subst e
                        exact leafR vw_eq (k := 300) (r := []) (hs := hz [(6, [.fres (.b (s0))]), (1, [.no]), (23, [.fc]), (1, [.fc]), (1, [.fc]), (1, [.fc]), (1, [.fc]), (1, [.fc]), (1, [.fc]), (1, [.fc, .fc]), (1, [.fc]), (1, [.fc]), (3, [.no, .no, .no, .no, .yes, .yes]), (2, [.fc, .yes]), (5, [.yes]), (1, [.yes]), (2, [.yes]), (1, [.yes]), (18, [.fres (.b (s8))]), (3, [.yes]), (1, [.yes]), (1, [.yes]), (1, [.yes]), (2, [.yes]), (1, [.fc, .yes]), (9, [.yes]), (1, [.yes]), (1, [.yes]), (2, [.yes]), (1, [.yes]), (1, [.yes]), (1, [.yes, .yes, .yes, .yes, .yes, .yes, .yes]), (1, [])]) (raw := (AV.b Bool.true)) kq (ac (cWithin_ok (c.kind) ((1 : Int)) ((8 : Int)) _ h0).any0 (ac h1 (ac h2 (ac h3 (ac h4 (ac h5 (ac h6 (ac (fq (p := (((0 : Int) ≤ c.kind) ∧ (c.kind < (9 : Int))))) (ac (show orderOk (rg Try.prog 51 0) = true ∧ allOk (Region.before (rg Try.prog 51 0)) [] 0 [(some [], some []), (some [], some []), (some [0], some []), (some [], some []), (some [], some [1]), (some [1], some [1])] = true from (ord_of ord_51_0 bef_51_0 kq)) (ac h7 (ac h7 (ac h7 (ac h7 (ac (cWithin_ok (c.id) ((1 : Int)) ((2147483647 : Int)) _ h8).any0 (ac h9 (ac h9 (ac h10 (ac h10 (ac h10 (ac h10 (ac h10 (ac h11 (ac h11 (ac h11 (ac h11 (ac h11 (ac h12 (ac h12 (ac h12 (ac h12 (ac h11 (ac h12 (ac h11 an))))))))))))))))))))))))))))))))) tq
                      ·
                        have h12p := ne_of_beq_false h12
                        intro e; injection e with e; subst e
                        exact leafR vw_eq (k := 300) (r := []) (hs := hz [(6, [.fres (.b (s0))]), (1, [.no]), (23, [.fc]), (1, [.fc]), (1, [.fc]), (1, [.fc]), (1, [.fc]), (1, [.fc]), (1, [.fc]), (1, [.fc, .fc]), (1, [.fc]), (1, [.fc]), (3, [.no, .no, .no, .no, .yes, .yes]), (2, [.fc, .yes]), (5, [.yes]), (1, [.yes]), (2, [.yes]), (1, [.yes]), (18, [.fres (.b (s8))]), (3, [.yes]), (1, [.yes]), (1, [.yes]), (1, [.yes]), (2, [.yes]), (1, [.fc, .yes]), (9, [.yes]), (1, [.yes]), (1, [.yes]), (2, [.yes]), (1, [.yes]), (1, [.yes]), (1, [.no]), (1, [.no]), (2, [.no]), (4, [.no]), (1, [.yes, .no, .yes]), (1, [])]) (raw := (AV.b Bool.false)) kq (ac (cWithin_ok (c.kind) ((1 : Int)) ((8 : Int)) _ h0).any0 (ac h1 (ac h2 (ac h3 (ac h4 (ac h5 (ac h6 (ac (fq (p := (((0 : Int) ≤ c.kind) ∧ (c.kind < (9 : Int))))) (ac (show orderOk (rg Try.prog 51 0) = true ∧ allOk (Region.before (rg Try.prog 51 0)) [] 0 [(some [], some []), (some [], some []), (some [0], some []), (some [], some []), (some [], some [1]), (some [1], some [1])] = true from (ord_of ord_51_0 bef_51_0 kq)) (ac h7 (ac h7 (ac h7 (ac h7 (ac (cWithin_ok (c.id) ((1 : Int)) ((2147483647 : Int)) _ h8).any0 (ac h9 (ac h9 (ac h10 (ac h10 (ac h10 (ac h10 (ac h10 (ac h11 (ac h11 (ac h11 (ac h11 (ac h11 (ac h12 (ac h12 (ac h12 (ac h12 (ac h11 (ac h12 (ac h11 an))))))))))))))))))))))))))))))))) tq
                    ·
                      have h11p := ne_of_beq_false h11
                      intro e; injection e with e; subst e
                      exact leafR vw_eq (k := 300) (r := []) (hs := hz [(6, [.fres (.b (s0))]), (1, [.no]), (23, [.fc]), (1, [.fc]), (1, [.fc]), (1, [.fc]), (1, [.fc]), (1, [.fc]), (1, [.fc]), (1, [.fc, .fc]), (1, [.fc]), (1, [.fc]), (3, [.no, .no, .no, .no, .yes, .yes]), (2, [.fc, .yes]), (5, [.yes]), (1, [.yes]), (2, [.yes]), (1, [.yes]), (18, [.fres (.b (s8))]), (3, [.yes]), (1, [.yes]), (1, [.yes]), (1, [.yes]), (2, [.yes]), (1, [.fc, .yes]), (9, [.yes]), (1, [.no, .no, .no, .no, .no, .no, .no]), (1, [])]) (raw := (AV.b Bool.false)) kq (ac (cWithin_ok (c.kind) ((1 : Int)) ((8 : Int)) _ h0).any0 (ac h1 (ac h2 (ac h3 (ac h4 (ac h5 (ac h6 (ac (fq (p := (((0 : Int) ≤ c.kind) ∧ (c.kind < (9 : Int))))) (ac (show orderOk (rg Try.prog 51 0) = true ∧ allOk (Region.before (rg Try.prog 51 0)) [] 0 [(some [], some []), (some [], some []), (some [0], some []), (some [], some []), (some [], some [1]), (some [1], some [1])] = true from (ord_of ord_51_0 bef_51_0 kq)) (ac h7 (ac h7 (ac h7 (ac h7 (ac (cWithin_ok (c.id) ((1 : Int)) ((2147483647 : Int)) _ h8).any0 (ac h9 (ac h9 (ac h10 (ac h10 (ac h10 (ac h10 (ac h10 (ac h11 (ac h11 (ac h11 (ac h11 (ac h11 (ac h11 (ac h11 an)))))))))))))))))))))))))))) tq
                  ·
                    intro e; injection e with e; subst e
                    exact leafR vw_eq (k := 300) (r := []) (hs := hz [(6, [.fres (.b (s0))]), (1, [.no]), (23, [.fc]), (1, [.fc]), (1, [.fc]), (1, [.fc]), (1, [.fc]), (1, [.fc]), (1, [.fc]), (1, [.fc, .fc]), (1, [.fc]), (1, [.fc]), (3, [.no, .no, .no, .no, .yes, .yes]), (2, [.fc, .yes]), (5, [.yes]), (1, [.yes]), (2, [.yes]), (1, [.yes]), (18, [.fres (.b (s8))]), (3, [.yes]), (1, [.yes]), (1, [.no, .no, .no, .no, .no]), (9, [])]) (raw := (AV.b Bool.false)) kq (ac (cWithin_ok (c.kind) ((1 : Int)) ((8 : Int)) _ h0).any0 (ac h1 (ac h2 (ac h3 (ac h4 (ac h5 (ac h6 (ac (fq (p := (((0 : Int) ≤ c.kind) ∧ (c.kind < (9 : Int))))) (ac (show orderOk (rg Try.prog 51 0) = true ∧ allOk (Region.before (rg Try.prog 51 0)) [] 0 [(some [], some []), (some [], some []), (some [0], some []), (some [], some []), (some [], some [1]), (some [1], some [1])] = true from (ord_of ord_51_0 bef_51_0 kq)) (ac h7 (ac h7 (ac h7 (ac h7 (ac (cWithin_ok (c.id) ((1 : Int)) ((2147483647 : Int)) _ h8).any0 (ac h9 (ac h9 (ac h10 (ac h10 (ac h10 (ac h10 (ac h10 an))))))))))))))))))))) tq
                ·
                  have h9p := ne_of_beq_false h9
                  intro e; injection e with e; subst e
                  exact leafR vw_eq (k := 300) (r := []) (hs := hz [(6, [.fres (.b (s0))]), (1, [.no]), (23, [.fc]), (1, [.fc]), (1, [.fc]), (1, [.fc]), (1, [.fc]), (1, [.fc]), (1, [.fc]), (1, [.fc, .fc]), (1, [.fc]), (1, [.fc]), (3, [.no, .no, .no, .no, .yes, .yes]), (2, [.fc, .yes]), (5, [.yes]), (1, [.yes]), (2, [.yes]), (1, [.yes]), (18, [.fres (.b (s8))]), (3, [.no, .no]), (15, [])]) (raw := (AV.b Bool.false)) kq (ac (cWithin_ok (c.kind) ((1 : Int)) ((8 : Int)) _ h0).any0 (ac h1 (ac h2 (ac h3 (ac h4 (ac h5 (ac h6 (ac (fq (p := (((0 : Int) ≤ c.kind) ∧ (c.kind < (9 : Int))))) (ac (show orderOk (rg Try.prog 51 0) = true ∧ allOk (Region.before (rg Try.prog 51 0)) [] 0 [(some [], some []), (some [], some []), (some [0], some []), (some [], some []), (some [], some [1]), (some [1], some [1])] = true from (ord_of ord_51_0 bef_51_0 kq)) (ac h7 (ac h7 (ac h7 (ac h7 (ac (cWithin_ok (c.id) ((1 : Int)) ((2147483647 : Int)) _ h8).any0 (ac h9 (ac h9 an)))))))))))))))) tq
              ·
                have h7p := ne_of_beq_false h7
                refine tc_ok (fun s8 h8 => ?_)
                intro e; injection e with e; subst e
                exact leafR vw_eq (k := 300) (r := []) (hs := hz [(6, [.fres (.b (s0))]), (1, [.no]), (23, [.fc]), (1, [.fc]), (1, [.fc]), (1, [.fc]), (1, [.fc]), (1, [.fc]), (1, [.fc]), (1, [.fc, .fc]), (1, [.fc]), (1, [.fc]), (3, [.no, .no, .no, .no, .yes, .yes]), (2, [.fc, .yes]), (5, [.no, .no, .no, .no]), (18, [.fres (.b (s8))]), (20, [])]) (raw := (AV.b Bool.false)) kq (ac (cWithin_ok (c.kind) ((1 : Int)) ((8 : Int)) _ h0).any0 (ac h1 (ac h2 (ac h3 (ac h4 (ac h5 (ac h6 (ac (fq (p := (((0 : Int) ≤ c.kind) ∧ (c.kind < (9 : Int))))) (ac (show orderOk (rg Try.prog 51 0) = true ∧ allOk (Region.before (rg Try.prog 51 0)) [] 0 [(some [], some []), (some [], some []), (some [0], some []), (some [], some []), (some [], some [1]), (some [1], some [1])] = true from (ord_of ord_51_0 bef_51_0 kq)) (ac h7 (ac h7 (ac h7 (ac h7 (ac (cWithin_ok (c.id) ((1 : Int)) ((2147483647 : Int)) _ h8).any0 an)))))))))))))) tq
            ·
              have h6p := of_decide_eq_false h6
              refine tb_ok (fun h7 => ?_) (fun h7 => ?_)
              ·
                have h7p := of_decide_eq_true h7
                refine tb_ok (fun h8 => ?_) (fun h8 => ?_)
                ·
                  have h8p := eq_of_beq h8
                  refine tc_ok (fun s9 h9 => ?_)
                  refine tb_ok (fun h10 => ?_) (fun h10 => ?_)
                  ·
                    have h10p := eq_of_beq h10
                    refine tb_ok (fun h11 => ?_) (fun h11 => ?_)
                    ·
                      refine tb_ok (fun h12 => ?_) (fun h12 => ?_)
                      ·
                        have h12p := eq_of_beq h12
                        refine tb_ok (fun h13 => ?_) (fun h13 => ?_)
                        ·
                          have h13p := eq_of_beq h13
                          intro e; injection e with e; subst e
                          exact leafR vw_eq (k := 300) (r := []) (hs := hz [(6, [.fres (.b (s0))]), (1, [.no]), (23, [.fc]), (1, [.fc]), (1, [.fc]), (1, [.fc]), (1, [.fc]), (1, [.fc]), (1, [.fc]), (1, [.fc, .fc]), (1, [.fc]), (1, [.fc]), (3, [.no, .no, .no, .no, .no, .yes, .yes]), (2, [.fc, .yes]), (5, [.yes]), (1, [.yes]), (2, [.yes]), (1, [.yes]), (18, [.fres (.b (s9))]), (3, [.yes]), (1, [.yes]), (1, [.yes]), (1, [.yes]), (2, [.yes]), (1, [.fc, .yes]), (9, [.yes]), (1, [.yes]), (1, [.yes]), (2, [.yes]), (1, [.yes]), (1, [.yes]), (1, [.yes, .yes, .yes, .yes, .yes, .yes, .yes]), (1, [])]) (raw := (AV.b Bool.true)) kq (ac (cWithin_ok (c.kind) ((1 : Int)) ((8 : Int)) _ h0).any0 (ac h1 (ac h2 (ac h3 (ac h4 (ac h5 (ac h6 (ac h7 (ac (fq (p := (((0 : Int) ≤ c.kind) ∧ (c.kind < (9 : Int))))) (ac (show orderOk (rg Try.prog 51 0) = true ∧ allOk (Region.before (rg Try.prog 51 0)) [] 0 [(some [], some []), (some [], some []), (some [0], some []), (some [], some []), (some [], some [1]), (some [1], some [1])] = true from (ord_of ord_51_0 bef_51_0 kq)) (ac h8 (ac h8 (ac h8 (ac h8 (ac (cWithin_ok (c.id) ((1 : Int)) ((2147483647 : Int)) _ h9).any0 (ac h10 (ac h10 (ac h11 (ac h11 (ac h11 (ac h11 (ac h11 (ac h12 (ac h12 (ac h12 (ac h12 (ac h12 (ac h13 (ac h13 (ac h13 (ac h13 (ac h12 (ac h13 (ac h12 an)))))))))))))))))))))))))))))))))) tq
                        ·
                          have h13p := ne_of_beq_false h13
                          intro e; injection e with e; subst e
                          exact leafR vw_eq (k := 300) (r := []) (hs := hz [(6, [.fres (.b (s0))]), (1, [.no]), (23, [.fc]), (1, [.fc]), (1, [.fc]), (1, [.fc]), (1, [.fc]), (1, [.fc]), (1, [.fc]), (1, [.fc, .fc]), (1, [.fc]), (1, [.fc]), (3, [.no, .no, .no, .no, .no, .yes, .yes]), (2, [.fc, .yes]), (5, [.yes]), (1, [.yes]), (2, [.yes]), (1, [.yes]), (18, [.fres (.b (s9))]), (3, [.yes]), (1, [.yes]), (1, [.yes]), (1, [.yes]), (2, [.yes]), (1, [.fc, .yes]), (9, [.yes]), (1, [.yes]), (1, [.yes]), (2, [.yes]), (1, [.yes]), (1, [.yes]), (1, [.no]), (1, [.no]), (2, [.no]), (4, [.no]), (1, [.yes, .no, .yes]), (1, [])]) (raw := (AV.b Bool.false)) kq (ac (cWithin_ok (c.kind) ((1 : Int)) ((8 : Int)) _ h0).any0 (ac h1 (ac h2 (ac h3 (ac h4 (ac h5 (ac h6 (ac h7 (ac (fq (p := (((0 : Int) ≤ c.kind) ∧ (c.kind < (9 : Int))))) (ac (show orderOk (rg Try.prog 51 0) = true ∧ allOk (Region.before (rg Try.prog 51 0)) [] 0 [(some [], some []), (some [], some []), (some [0], some []), (some [], some []), (some [], some [1]), (some [1], some [1])] = true from (ord_of ord_51_0 bef_51_0 kq)) (ac h8 (ac h8 (ac h8 (ac h8 (ac (cWithin_ok (c.id) ((1 : Int)) ((2147483647 : Int)) _ h9).any0 (ac h10 (ac h10 (ac h11 (ac h11 (ac h11 (ac h11 (ac h11 (ac h12 (ac h12 (ac h12 (ac h12 (ac h12 (ac h13 (ac h13 (ac h13 (ac h13 (ac h12 (ac h13 (ac h12 an)))))))))))))))))))))))))))))))))) tq
                      ·
                        have h12p := ne_of_beq_false h12
                        intro e; injection e with e; subst e
                        exact leafR vw_eq (k := 300) (r := []) (hs := hz [(6, [.fres (.b (s0))]), (1, [.no]), (23, [.fc]), (1, [.fc]), (1, [.fc]), (1, [.fc]), (1, [.fc]), (1, [.fc]), (1, [.fc]), (1, [.fc, .fc]), (1, [.fc]), (1, [.fc]), (3, [.no, .no, .no, .no, .no, .yes, .yes]), (2, [.fc, .yes]), (5, [.yes]), (1, [.yes]), (2, [.yes]), (1, [.yes]), (18, [.fres (.b (s9))]), (3, [.yes]), (1, [.yes]), (1, [.yes]), (1, [.yes]), (2, [.yes]), (1, [.fc, .yes]), (9, [.yes]), (1, [.no, .no, .no, .no, .no, .no, .no]), (1, [])]) (raw := (AV.b Bool.false)) kq (ac (cWithin_ok (c.kind) ((1 : Int)) ((8 : Int)) _ h0).any0 (ac h1 (ac h2 (ac h3 (ac h4 (ac h5 (ac h6 (ac h7 (ac (fq (p := (((0 : Int) ≤ c.kind) ∧ (c.kind < (9 : Int))))) (ac (show orderOk (rg Try.prog 51 0) = true ∧ allOk (Region.before (rg Try.prog 51 0)) [] 0 [(some [], some []), (some [], some []), (some [0], some []), (some [], some []), (some [], some [1]), (some [1], some [1])] = true from (ord_of ord_51_0 bef_51_0 kq)) (ac h8 (ac h8 (ac h8 (ac h8 (ac (cWithin_ok (c.id) ((1 : Int)) ((2147483647 : Int)) _ h9).any0 (ac h10 (ac h10 (ac h11 (ac h11 (ac h11 (ac h11 (ac h11 (ac h12 (ac h12 (ac h12 (ac h12 (ac h12 (ac h12 (ac h12 an))))))))))))))))))))))))))))) tq
                    ·
                      intro e; injection e with e; subst e
                      exact leafR vw_eq (k := 300) (r := []) (hs := hz [(6, [.fres (.b (s0))]), (1, [.no]), (23, [.fc]), (1, [.fc]), (1, [.fc]), (1, [.fc]), (1, [.fc]), (1, [.fc]), (1, [.fc]), (1, [.fc, .fc]), (1, [.fc]), (1, [.fc]), (3, [.no, .no, .no, .no, .no, .yes, .yes]), (2, [.fc, .yes]), (5, [.yes]), (1, [.yes]), (2, [.yes]), (1, [.yes]), (18, [.fres (.b (s9))]), (3, [.yes]), (1, [.yes]), (1, [.no, .no, .no, .no, .no]), (9, [])]) (raw := (AV.b Bool.false)) kq (ac (cWithin_ok (c.kind) ((1 : Int)) ((8 : Int)) _ h0).any0 (ac h1 (ac h2 (ac h3 (ac h4 (ac h5 (ac h6 (ac h7 (ac (fq (p := (((0 : Int) ≤ c.kind) ∧ (c.kind < (9 : Int))))) (ac (show orderOk (rg Try.prog 51 0) = true ∧ allOk (Region.before (rg Try.prog 51 0)) [] 0 [(some [], some []), (some [], some []), (some [0], some []), (some [], some []), (some [], some [1]), (some [1], some [1])] = true from (ord_of ord_51_0 bef_51_0 kq)) (ac h8 (ac h8 (ac h8 (ac h8 (ac (cWithin_ok (c.id) ((1 : Int)) ((2147483647 : Int)) _ h9).any0 (ac h10 (ac h10 (ac h11 (ac h11 (ac h11 (ac h11 (ac h11 an)))))))))))))))))))))) tq
                  ·
                    have h10p := ne_of_beq_false h10
                    intro e; injection e with e; subst e
                    exact leafR vw_eq (k := 300) (r := []) (hs := hz [(6, [.fres (.b (s0))]), (1, [.no]), (23, [.fc]), (1, [.fc]), (1, [.fc]), (1, [.fc]), (1, [.fc]), (1, [.fc]), (1, [.fc]), (1, [.fc, .fc]), (1, [.fc]), (1, [.fc]), (3, [.no, .no, .no, .no, .no, .yes, .yes]), (2, [.fc, .yes]), (5, [.yes]), (1, [.yes]), (2, [.yes]), (1, [.yes]), (18, [.fres (.b (s9))]), (3, [.no, .no]), (15, [])]) (raw := (AV.b Bool.false)) kq (ac (cWithin_ok (c.kind) ((1 : Int)) ((8 : Int)) _ h0).any0 (ac h1 (ac h2 (ac h3 (ac h4 (ac h5 (ac h6 (ac h7 (ac (fq (p := (((0 : Int) ≤ c.kind) ∧ (c.kind < (9 : Int))))) (ac (show orderOk (rg Try.prog 51 0) = true ∧ allOk (Region.before (rg Try.prog 51 0)) [] 0 [(some [], some []), (some [], some []), (some [0], some []), (some [], some []), (some [], some [1]), (some [1], some [1])] = true from (ord_of ord_51_0 bef_51_0 kq)) (ac h8 (ac h8 (ac h8 (ac h8 (ac (cWithin_ok (c.id) ((1 : Int)) ((2147483647 : Int)) _ h9).any0 (ac h10 (ac h10 an))))))))))))))))) tq
                ·
                  have h8p := ne_of_beq_false h8
                  refine tc_ok (fun s9 h9 => ?_)
                  intro e; injection e with e; subst e
                  exact leafR vw_eq (k := 300) (r := []) (hs := hz [(6, [.fres (.b (s0))]), (1, [.no]), (23, [.fc]), (1, [.fc]), (1, [.fc]), (1, [.fc]), (1, [.fc]), (1, [.fc]), (1, [.fc]), (1, [.fc, .fc]), (1, [.fc]), (1, [.fc]), (3, [.no, .no, .no, .no, .no, .yes, .yes]), (2, [.fc, .yes]), (5, [.no, .no, .no, .no]), (18, [.fres (.b (s9))]), (20, [])]) (raw := (AV.b Bool.false)) kq (ac (cWithin_ok (c.kind) ((1 : Int)) ((8 : Int)) _ h0).any0 (ac h1 (ac h2 (ac h3 (ac h4 (ac h5 (ac h6 (ac h7 (ac (fq (p := (((0 : Int) ≤ c.kind) ∧ (c.kind < (9 : Int))))) (ac (show orderOk (rg Try.prog 51 0) = true ∧ allOk (Region.before (rg Try.prog 51 0)) [] 0 [(some [], some []), (some [], some []), (some [0], some []), (some [], some []), (some [], some [1]), (some [1], some [1])] = true from (ord_of ord_51_0 bef_51_0 kq)) (ac h8 (ac h8 (ac h8 (ac h8 (ac (cWithin_ok (c.id) ((1 : Int)) ((2147483647 : Int)) _ h9).any0 an))))))))))))))) tq
              ·
                have h7p := of_decide_eq_false h7
                refine tb_ok (fun h8 => ?_) (fun h8 => ?_)
                ·
                  have h8p := of_decide_eq_true h8
                  refine tb_ok (fun h9 => ?_) (fun h9 => ?_)
                  ·
                    have h9p := eq_of_beq h9
                    refine tb_ok (fun h10 => ?_) (fun h10 => ?_)
                    ·
                      have h10p := eq_of_beq h10
                      refine tb_ok (fun h11 => ?_) (fun h11 => ?_)
                      ·
                        have h11p := eq_of_beq h11
                        refine tc_ok (fun s12 h12 => ?_)
                        refine tb_ok (fun h13 => ?_) (fun h13 => ?_)
                        ·
                          refine tb_ok (fun h14 => ?_) (fun h14 => ?_)
                          ·
                            have h14p := eq_of_beq h14
                            intro e; injection e with e; subst e
                            exact leafR vw_eq (k := 300) (r := []) (hs := hz [(6, [.fres (.b (s0))]), (1, [.no]), (23, [.fc]), (1, [.fc]), (1, [.fc]), (1, [.fc]), (1, [.fc]), (1, [.fc]), (1, [.fc]), (1, [.fc, .fc]), (1, [.fc]), (1, [.fc]), (3, [.no, .no, .no, .no, .no, .no, .yes, .yes]), (2, [.fc, .yes]), (5, [.yes]), (1, [.yes]), (2, [.yes]), (1, [.yes]), (16, [.yes]), (1, [.yes]), (1, [.yes]), (1, [.yes]), (2, [.yes]), (1, [.fc, .yes]), (8, [.fres (.b (s12))]), (1, [.yes]), (1, [.yes]), (1, [.yes]), (2, [.yes]), (1, [.yes]), (1, [.yes]), (1, [.yes, .yes, .yes, .yes, .yes, .yes, .yes]), (1, [])]) (raw := (AV.b Bool.true)) kq (ac (cWithin_ok (c.kind) ((1 : Int)) ((8 : Int)) _ h0).any0 (ac h1 (ac h2 (ac h3 (ac h4 (ac h5 (ac h6 (ac h7 (ac h8 (ac (fq (p := (((0 : Int) ≤ c.kind) ∧ (c.kind < (9 : Int))))) (ac (show orderOk (rg Try.prog 51 0) = true ∧ allOk (Region.before (rg Try.prog 51 0)) [] 0 [(some [], some []), (some [], some []), (some [0], some []), (some [], some []), (some [], some [1]), (some [1], some [1])] = true from (ord_of ord_51_0 bef_51_0 kq)) (ac h9 (ac h9 (ac h9 (ac h9 (ac h10 (ac h10 (ac h11 (ac h11 (ac h11 (ac h11 (ac (cWithin_ok ((c.d.length : Int)) ((1 : Int)) ((1000 : Int)) _ h12).any0 (ac h11 (ac h13 (ac h13 (ac h13 (ac h13 (ac h13 (ac h14 (ac h14 (ac h14 (ac h14 (ac h13 (ac h14 (ac h13 an))))))))))))))))))))))))))))))))))) tq
                          ·
                            have h14p := ne_of_beq_false h14
                            intro e; injection e with e; subst e
                            exact leafR vw_eq (k := 300) (r := []) (hs := hz [(6, [.fres (.b (s0))]), (1, [.no]), (23, [.fc]), (1, [.fc]), (1, [.fc]), (1, [.fc]), (1, [.fc]), (1, [.fc]), (1, [.fc]), (1, [.fc, .fc]), (1, [.fc]), (1, [.fc]), (3, [.no, .no, .no, .no, .no, .no, .yes, .yes]), (2, [.fc, .yes]), (5, [.yes]), (1, [.yes]), (2, [.yes]), (1, [.yes]), (16, [.yes]), (1, [.yes]), (1, [.yes]), (1, [.yes]), (2, [.yes]), (1, [.fc, .yes]), (8, [.fres (.b (s12))]), (1, [.yes]), (1, [.yes]), (1, [.yes]), (2, [.yes]), (1, [.yes]), (1, [.yes]), (1, [.no]), (1, [.no]), (2, [.no]), (4, [.no]), (1, [.yes, .no, .yes]), (1, [])]) (raw := (AV.b Bool.false)) kq (ac (cWithin_ok (c.kind) ((1 : Int)) ((8 : Int)) _ h0).any0 (ac h1 (ac h2 (ac h3 (ac h4 (ac h5 (ac h6 (ac h7 (ac h8 (ac (fq (p := (((0 : Int) ≤ c.kind) ∧ (c.kind < (9 : Int))))) (ac (show orderOk (rg Try.prog 51 0) = true ∧ allOk (Region.before (rg Try.prog 51 0)) [] 0 [(some [], some []), (some [], some []), (some [0], some []), (some [], some []), (some [], some [1]), (some [1], some [1])] = true from (ord_of ord_51_0 bef_51_0 kq)) (ac h9 (ac h9 (ac h9 (ac h9 (ac h10 (ac h10 (ac h11 (ac h11 (ac h11 (ac h11 (ac (cWithin_ok ((c.d.length : Int)) ((1 : Int)) ((1000 : Int)) _ h12).any0 (ac h11 (ac h13 (ac h13 (ac h13 (ac h13 (ac h13 (ac h14 (ac h14 (ac h14 (ac h14 (ac h13 (ac h14 (ac h13 an))))))))))))))))))))))))))))))))))) tq
                        ·
                          intro e; injection e with e; subst e
                          exact leafR vw_eq (k := 300) (r := []) (hs := hz [(6, [.fres (.b (s0))]), (1, [.no]), (23, [.fc]), (1, [.fc]), (1, [.fc]), (1, [.fc]), (1, [.fc]), (1, [.fc]), (1, [.fc]), (1, [.fc, .fc]), (1, [.fc]), (1, [.fc]), (3, [.no, .no, .no, .no, .no, .no, .yes, .yes]), (2, [.fc, .yes]), (5, [.yes]), (1, [.yes]), (2, [.yes]), (1, [.yes]), (16, [.yes]), (1, [.yes]), (1, [.yes]), (1, [.yes]), (2, [.yes]), (1, [.fc, .yes]), (8, [.fres (.b (s12))]), (1, [.yes]), (1, [.no, .no, .no, .no, .no, .no, .no]), (1, [])]) (raw := (AV.b Bool.false)) kq (ac (cWithin_ok (c.kind) ((1 : Int)) ((8 : Int)) _ h0).any0 (ac h1 (ac h2 (ac h3 (ac h4 (ac h5 (ac h6 (ac h7 (ac h8 (ac (fq (p := (((0 : Int) ≤ c.kind) ∧ (c.kind < (9 : Int))))) (ac (show orderOk (rg Try.prog 51 0) = true ∧ allOk (Region.before (rg Try.prog 51 0)) [] 0 [(some [], some []), (some [], some []), (some [0], some []), (some [], some []), (some [], some [1]), (some [1], some [1])] = true from (ord_of ord_51_0 bef_51_0 kq)) (ac h9 (ac h9 (ac h9 (ac h9 (ac h10 (ac h10 (ac h11 (ac h11 (ac h11 (ac h11 (ac (cWithin_ok ((c.d.length : Int)) ((1 : Int)) ((1000 : Int)) _ h12).any0 (ac h11 (ac h13 (ac h13 (ac h13 (ac h13 (ac h13 (ac h13 (ac h13 an)))))))))))))))))))))))))))))) tq
                      ·
                        have h11p := ne_of_beq_false h11
                        intro e; injection e with e; subst e
                        exact leafR vw_eq (k := 300) (r := []) (hs := hz [(6, [.fres (.b (s0))]), (1, [.no]), (23, [.fc]), (1, [.fc]), (1, [.fc]), (1, [.fc]), (1, [.fc]), (1, [.fc]), (1, [.fc]), (1, [.fc, .fc]), (1, [.fc]), (1, [.fc]), (3, [.no, .no, .no, .no, .no, .no, .yes, .yes]), (2, [.fc, .yes]), (5, [.yes]), (1, [.yes]), (2, [.yes]), (1, [.yes]), (16, [.yes]), (1, [.yes]), (1, [.no, .no, .no, .no, .no]), (9, [])]) (raw := (AV.b Bool.false)) kq (ac (cWithin_ok (c.kind) ((1 : Int)) ((8 : Int)) _ h0).any0 (ac h1 (ac h2 (ac h3 (ac h4 (ac h5 (ac h6 (ac h7 (ac h8 (ac (fq (p := (((0 : Int) ≤ c.kind) ∧ (c.kind < (9 : Int))))) (ac (show orderOk (rg Try.prog 51 0) = true ∧ allOk (Region.before (rg Try.prog 51 0)) [] 0 [(some [], some []), (some [], some []), (some [0], some []), (some [], some []), (some [], some [1]), (some [1], some [1])] = true from (ord_of ord_51_0 bef_51_0 kq)) (ac h9 (ac h9 (ac h9 (ac h9 (ac h10 (ac h10 (ac h11 (ac h11 (ac h11 (ac h11 (ac h11 an)))))))))))))))))))))) tq
                    ·
                      have h10p := ne_of_beq_false h10
                      intro e; injection e with e; subst e
                      exact leafR vw_eq (k := 300) (r := []) (hs := hz [(6, [.fres (.b (s0))]), (1, [.no]), (23, [.fc]), (1, [.fc]), (1, [.fc]), (1, [.fc]), (1, [.fc]), (1, [.fc]), (1, [.fc]), (1, [.fc, .fc]), (1, [.fc]), (1, [.fc]), (3, [.no, .no, .no, .no, .no, .no, .yes, .yes]), (2, [.fc, .yes]), (5, [.yes]), (1, [.yes]), (2, [.yes]), (1, [.yes]), (16, [.no, .no]), (15, [])]) (raw := (AV.b Bool.false)) kq (ac (cWithin_ok (c.kind) ((1 : Int)) ((8 : Int)) _ h0).any0 (ac h1 (ac h2 (ac h3 (ac h4 (ac h5 (ac h6 (ac h7 (ac h8 (ac (fq (p := (((0 : Int) ≤ c.kind) ∧ (c.kind < (9 : Int))))) (ac (show orderOk (rg Try.prog 51 0) = true ∧ allOk (Region.before (rg Try.prog 51 0)) [] 0 [(some [], some []), (some [], some []), (some [0], some []), (some [], some []), (some [], some [1]), (some [1], some [1])] = true from (ord_of ord_51_0 bef_51_0 kq)) (ac h9 (ac h9 (ac h9 (ac h9 (ac h10 (ac h10 an))))))))))))))))) tq
                  ·
                    have h9p := ne_of_beq_false h9
                    intro e; injection e with e; subst e
                    exact leafR vw_eq (k := 300) (r := []) (hs := hz [(6, [.fres (.b (s0))]), (1, [.no]), (23, [.fc]), (1, [.fc]), (1, [.fc]), (1, [.fc]), (1, [.fc]), (1, [.fc]), (1, [.fc]), (1, [.fc, .fc]), (1, [.fc]), (1, [.fc]), (3, [.no, .no, .no, .no, .no, .no, .yes, .yes]), (2, [.fc, .yes]), (5, [.no, .no, .no, .no]), (33, [])]) (raw := (AV.b Bool.false)) kq (ac (cWithin_ok (c.kind) ((1 : Int)) ((8 : Int)) _ h0).any0 (ac h1 (ac h2 (ac h3 (ac h4 (ac h5 (ac h6 (ac h7 (ac h8 (ac (fq (p := (((0 : Int) ≤ c.kind) ∧ (c.kind < (9 : Int))))) (ac (show orderOk (rg Try.prog 51 0) = true ∧ allOk (Region.before (rg Try.prog 51 0)) [] 0 [(some [], some []), (some [], some []), (some [0], some []), (some [], some []), (some [], some [1]), (some [1], some [1])] = true from (ord_of ord_51_0 bef_51_0 kq)) (ac h9 (ac h9 (ac h9 (ac h9 an))))))))))))))) tq
                ·
                  have h8p := of_decide_eq_false h8
                  refine tb_ok (fun h9 => ?_) (fun h9 => ?_)
                  ·
                    have h9p := of_decide_eq_true h9
                    refine tb_ok (fun h10 => ?_) (fun h10 => ?_)
                    ·
                      have h10p := eq_of_beq h10
                      refine tb_ok (fun h11 => ?_) (fun h11 => ?_)
                      ·
                        have h11p := eq_of_beq h11
                        refine tb_ok (fun h12 => ?_) (fun h12 => ?_)
                        ·
                          have h12p := eq_of_beq h12
                          refine tb_ok (fun h13 => ?_) (fun h13 => ?_)
                          ·
                            have h13p := eq_of_beq h13
                            refine tb_ok (fun h14 => ?_) (fun h14 => ?_)
                            ·
                              have h14p := eq_of_beq h14
                              intro e; injection e with e; subst e
                              exact leafR vw_eq (k := 300) (r := []) (hs := hz [(6, [.fres (.b (s0))]), (1, [.no]), (23, [.fc]), (1, [.fc]), (1, [.fc]), (1, [.fc]), (1, [.fc]), (1, [.fc]), (1, [.fc]), (1, [.fc, .fc]), (1, [.fc]), (1, [.fc]), (3, [.no, .no, .no, .no, .no, .no, .no, .yes, .yes]), (2, [.fc, .yes]), (5, [.yes]), (1, [.yes]), (2, [.yes]), (1, [.yes]), (16, [.yes]), (1, [.yes]), (1, [.yes]), (1, [.yes]), (2, [.yes]), (1, [.fc, .yes]), (9, [.yes]), (1, [.yes]), (1, [.yes]), (2, [.yes]), (1, [.yes]), (1, [.yes]), (1, [.yes, .yes, .yes, .yes, .yes, .yes, .yes]), (1, [])]) (raw := (AV.b Bool.true)) kq (ac (cWithin_ok (c.kind) ((1 : Int)) ((8 : Int)) _ h0).any0 (ac h1 (ac h2 (ac h3 (ac h4 (ac h5 (ac h6 (ac h7 (ac h8 (ac h9 (ac (fq (p := (((0 : Int) ≤ c.kind) ∧ (c.kind < (9 : Int))))) (ac (show orderOk (rg Try.prog 51 0) = true ∧ allOk (Region.before (rg Try.prog 51 0)) [] 0 [(some [], some []), (some [], some []), (some [0], some []), (some [], some []), (some [], some [1]), (some [1], some [1])] = true from (ord_of ord_51_0 bef_51_0 kq)) (ac h10 (ac h10 (ac h10 (ac h10 (ac h11 (ac h11 (ac h12 (ac h12 (ac h12 (ac h12 (ac h12 (ac h13 (ac h13 (ac h13 (ac h13 (ac h13 (ac h14 (ac h14 (ac h14 (ac h14 (ac h13 (ac h14 (ac h13 an))))))))))))))))))))))))))))))))))) tq
                            ·
                              have h14p := ne_of_beq_false h14
                              intro e; injection e with e; subst e
                              exact leafR vw_eq (k := 300) (r := []) (hs := hz [(6, [.fres (.b (s0))]), (1, [.no]), (23, [.fc]), (1, [.fc]), (1, [.fc]), (1, [.fc]), (1, [.fc]), (1, [.fc]), (1, [.fc]), (1, [.fc, .fc]), (1, [.fc]), (1, [.fc]), (3, [.no, .no, .no, .no, .no, .no, .no, .yes, .yes]), (2, [.fc, .yes]), (5, [.yes]), (1, [.yes]), (2, [.yes]), (1, [.yes]), (16, [.yes]), (1, [.yes]), (1, [.yes]), (1, [.yes]), (2, [.yes]), (1, [.fc, .yes]), (9, [.yes]), (1, [.yes]), (1, [.yes]), (2, [.yes]), (1, [.yes]), (1, [.yes]), (1, [.no]), (1, [.no]), (2, [.no]), (4, [.no]), (1, [.yes, .no, .yes]), (1, [])]) (raw := (AV.b Bool.false)) kq (ac (cWithin_ok (c.kind) ((1 : Int)) ((8 : Int)) _ h0).any0 (ac h1 (ac h2 (ac h3 (ac h4 (ac h5 (ac h6 (ac h7 (ac h8 (ac h9 (ac (fq (p := (((0 : Int) ≤ c.kind) ∧ (c.kind < (9 : Int))))) (ac (show orderOk (rg Try.prog 51 0) = true ∧ allOk (Region.before (rg Try.prog 51 0)) [] 0 [(some [], some []), (some [], some []), (some [0], some []), (some [], some []), (some [], some [1]), (some [1], some [1])] = true from (ord_of ord_51_0 bef_51_0 kq)) (ac h10 (ac h10 (ac h10 (ac h10 (ac h11 (ac h11 (ac h12 (ac h12 (ac h12 (ac h12 (ac h12 (ac h13 (ac h13 (ac h13 (ac h13 (ac h13 (ac h14 (ac h14 (ac h14 (ac h14 (ac h13 (ac h14 (ac h13 an))))))))))))))))))))))))))))))))))) tq
                          ·
                            have h13p := ne_of_beq_false h13
                            intro e; injection e with e; subst e
                            exact leafR vw_eq (k := 300) (r := []) (hs := hz [(6, [.fres (.b (s0))]), (1, [.no]), (23, [.fc]), (1, [.fc]), (1, [.fc]), (1, [.fc]), (1, [.fc]), (1, [.fc]), (1, [.fc]), (1, [.fc, .fc]), (1, [.fc]), (1, [.fc]), (3, [.no, .no, .no, .no, .no, .no, .no, .yes, .yes]), (2, [.fc, .yes]), (5, [.yes]), (1, [.yes]), (2, [.yes]), (1, [.yes]), (16, [.yes]), (1, [.yes]), (1, [.yes]), (1, [.yes]), (2, [.yes]), (1, [.fc, .yes]), (9, [.yes]), (1, [.no, .no, .no, .no, .no, .no, .no]), (1, [])]) (raw := (AV.b Bool.false)) kq (ac (cWithin_ok (c.kind) ((1 : Int)) ((8 : Int)) _ h0).any0 (ac h1 (ac h2 (ac h3 (ac h4 (ac h5 (ac h6 (ac h7 (ac h8 (ac h9 (ac (fq (p := (((0 : Int) ≤ c.kind) ∧ (c.kind < (9 : Int))))) (ac (show orderOk (rg Try.prog 51 0) = true ∧ allOk (Region.before (rg Try.prog 51 0)) [] 0 [(some [], some []), (some [], some []), (some [0], some []), (some [], some []), (some [], some [1]), (some [1], some [1])] = true from (ord_of ord_51_0 bef_51_0 kq)) (ac h10 (ac h10 (ac h10 (ac h10 (ac h11 (ac h11 (ac h12 (ac h12 (ac h12 (ac h12 (ac h12 (ac h13 (ac h13 (ac h13 (ac h13 (ac h13 (ac h13 (ac h13 an)))))))))))))))))))))))))))))) tq
                        ·
                          have h12p := ne_of_beq_false h12
                          intro e; injection e with e; subst e
                          exact leafR vw_eq (k := 300) (r := []) (hs := hz [(6, [.fres (.b (s0))]), (1, [.no]), (23, [.fc]), (1, [.fc]), (1, [.fc]), (1, [.fc]), (1, [.fc]), (1, [.fc]), (1, [.fc]), (1, [.fc, .fc]), (1, [.fc]), (1, [.fc]), (3, [.no, .no, .no, .no, .no, .no, .no, .yes, .yes]), (2, [.fc, .yes]), (5, [.yes]), (1, [.yes]), (2, [.yes]), (1, [.yes]), (16, [.yes]), (1, [.yes]), (1, [.no, .no, .no, .no, .no]), (9, [])]) (raw := (AV.b Bool.false)) kq (ac (cWithin_ok (c.kind) ((1 : Int)) ((8 : Int)) _ h0).any0 (ac h1 (ac h2 (ac h3 (ac h4 (ac h5 (ac h6 (ac h7 (ac h8 (ac h9 (ac (fq (p := (((0 : Int) ≤ c.kind) ∧ (c.kind < (9 : Int))))) (ac (show orderOk (rg Try.prog 51 0) = true ∧ allOk (Region.before (rg Try.prog 51 0)) [] 0 [(some [], some []), (some [], some []), (some [0], some []), (some [], some []), (some [], some [1]), (some [1], some [1])] = true from (ord_of ord_51_0 bef_51_0 kq)) (ac h10 (ac h10 (ac h10 (ac h10 (ac h11 (ac h11 (ac h12 (ac h12 (ac h12 (ac h12 (ac h12 an))))))))))))))))))))))) tq
                      ·
                        have h11p := ne_of_beq_false h11
                        intro e; injection e with e; subst e
                        exact leafR vw_eq (k := 300) (r := []) (hs := hz [(6, [.fres (.b (s0))]), (1, [.no]), (23, [.fc]), (1, [.fc]), (1, [.fc]), (1, [.fc]), (1, [.fc]), (1, [.fc]), (1, [.fc]), (1, [.fc, .fc]), (1, [.fc]), (1, [.fc]), (3, [.no, .no, .no, .no, .no, .no, .no, .yes, .yes]), (2, [.fc, .yes]), (5, [.yes]), (1, [.yes]), (2, [.yes]), (1, [.yes]), (16, [.no, .no]), (15, [])]) (raw := (AV.b Bool.false)) kq (ac (cWithin_ok (c.kind) ((1 : Int)) ((8 : Int)) _ h0).any0 (ac h1 (ac h2 (ac h3 (ac h4 (ac h5 (ac h6 (ac h7 (ac h8 (ac h9 (ac (fq (p := (((0 : Int) ≤ c.kind) ∧ (c.kind < (9 : Int))))) (ac (show orderOk (rg Try.prog 51 0) = true ∧ allOk (Region.before (rg Try.prog 51 0)) [] 0 [(some [], some []), (some [], some []), (some [0], some []), (some [], some []), (some [], some [1]), (some [1], some [1])] = true from (ord_of ord_51_0 bef_51_0 kq)) (ac h10 (ac h10 (ac h10 (ac h10 (ac h11 (ac h11 an)))))))))))))))))) tq
                    ·
                      have h10p := ne_of_beq_false h10
                      intro e; injection e with e; subst e
                      exact leafR vw_eq (k := 300) (r := []) (hs := hz [(6, [.fres (.b (s0))]), (1, [.no]), (23, [.fc]), (1, [.fc]), (1, [.fc]), (1, [.fc]), (1, [.fc]), (1, [.fc]), (1, [.fc]), (1, [.fc, .fc]), (1, [.fc]), (1, [.fc]), (3, [.no, .no, .no, .no, .no, .no, .no, .yes, .yes]), (2, [.fc, .yes]), (5, [.no, .no, .no, .no]), (33, [])]) (raw := (AV.b Bool.false)) kq (ac (cWithin_ok (c.kind) ((1 : Int)) ((8 : Int)) _ h0).any0 (ac h1 (ac h2 (ac h3 (ac h4 (ac h5 (ac h6 (ac h7 (ac h8 (ac h9 (ac (fq (p := (((0 : Int) ≤ c.kind) ∧ (c.kind < (9 : Int))))) (ac (show orderOk (rg Try.prog 51 0) = true ∧ allOk (Region.before (rg Try.prog 51 0)) [] 0 [(some [], some []), (some [], some []), (some [0], some []), (some [], some []), (some [], some [1]), (some [1], some [1])] = true from (ord_of ord_51_0 bef_51_0 kq)) (ac h10 (ac h10 (ac h10 (ac h10 an)))))))))))))))) tq
                  ·
                    have h9p := of_decide_eq_false h9
                    refine tb_ok (fun h10 => ?_) (fun h10 => ?_)
                    ·
                      have h10p := of_decide_eq_true h10
                      refine tb_ok (fun h11 => ?_) (fun h11 => ?_)
                      ·
                        have h11p := eq_of_beq h11
                        refine tc_ok (fun s12 h12 => ?_)
                        refine tb_ok (fun h13 => ?_) (fun h13 => ?_)
                        ·
                          have h13p := eq_of_beq h13
                          refine tb_ok (fun h14 => ?_) (fun h14 => ?_)
                          ·
                            refine tb_ok (fun h15 => ?_) (fun h15 => ?_)
                            ·
                              have h15p := eq_of_beq h15
                              refine tb_ok (fun h16 => ?_) (fun h16 => ?_)
                              ·
                                have h16p := eq_of_beq h16
                                intro e; injection e with e; subst e
                                exact leafR vw_eq (k := 300) (r := []) (hs := hz [(6, [.fres (.b (s0))]), (1, [.no]), (23, [.fc]), (1, [.fc]), (1, [.fc]), (1, [.fc]), (1, [.fc]), (1, [.fc]), (1, [.fc]), (1, [.fc, .fc]), (1, [.fc]), (1, [.fc]), (3, [.no, .no, .no, .no, .no, .no, .no, .no, .yes, .yes]), (2, [.fc, .yes]), (5, [.yes]), (1, [.yes]), (2, [.yes]), (1, [.yes]), (18, [.fres (.b (s12))]), (3, [.yes]), (1, [.yes]), (1, [.yes]), (1, [.yes]), (2, [.yes]), (1, [.fc, .yes]), (9, [.yes]), (1, [.yes]), (1, [.yes]), (2, [.yes]), (1, [.yes]), (1, [.yes]), (1, [.yes, .yes, .yes, .yes, .yes, .yes, .yes]), (1, [])]) (raw := (AV.b Bool.true)) kq (ac (cWithin_ok (c.kind) ((1 : Int)) ((8 : Int)) _ h0).any0 (ac h1 (ac h2 (ac h3 (ac h4 (ac h5 (ac h6 (ac h7 (ac h8 (ac h9 (ac h10 (ac (fq (p := (((0 : Int) ≤ c.kind) ∧ (c.kind < (9 : Int))))) (ac (show orderOk (rg Try.prog 51 0) = true ∧ allOk (Region.before (rg Try.prog 51 0)) [] 0 [(some [], some []), (some [], some []), (some [0], some []), (some [], some []), (some [], some [1]), (some [1], some [1])] = true from (ord_of ord_51_0 bef_51_0 kq)) (ac h11 (ac h11 (ac h11 (ac h11 (ac (cWithin_ok (c.id) ((1 : Int)) ((2147483647 : Int)) _ h12).any0 (ac h13 (ac h13 (ac h14 (ac h14 (ac h14 (ac h14 (ac h14 (ac h15 (ac h15 (ac h15 (ac h15 (ac h15 (ac h16 (ac h16 (ac h16 (ac h16 (ac h15 (ac h16 (ac h15 an))))))))))))))))))))))))))))))))))))) tq
                              ·
                                have h16p := ne_of_beq_false h16
                                refine tc_ok (fun s17 h17 => ?_)
                                intro e; injection e with e; subst e
                                exact leafR vw_eq (k := 300) (r := []) (hs := hz [(6, [.fres (.b (s0))]), (1, [.no]), (23, [.fc]), (1, [.fc]), (1, [.fc]), (1, [.fc]), (1, [.fc]), (1, [.fc]), (1, [.fc]), (1, [.fc, .fc]), (1, [.fc]), (1, [.fc]), (3, [.no, .no, .no, .no, .no, .no, .no, .no, .yes, .yes]), (2, [.fc, .yes]), (5, [.yes]), (1, [.yes]), (2, [.yes]), (1, [.yes]), (18, [.fres (.b (s12))]), (3, [.yes]), (1, [.yes]), (1, [.yes]), (1, [.yes]), (2, [.yes]), (1, [.fc, .yes]), (9, [.yes]), (1, [.yes]), (1, [.yes]), (2, [.yes]), (1, [.yes]), (1, [.yes]), (1, [.no]), (1, [.no]), (2, [.no]), (8, [.fres (.b (s17)), .no]), (1, [.yes, .no, .yes]), (1, [])]) (raw := (AV.b s17)) kq (ac (cWithin_ok (c.kind) ((1 : Int)) ((8 : Int)) _ h0).any0 (ac h1 (ac h2 (ac h3 (ac h4 (ac h5 (ac h6 (ac h7 (ac h8 (ac h9 (ac h10 (ac (fq (p := (((0 : Int) ≤ c.kind) ∧ (c.kind < (9 : Int))))) (ac (show orderOk (rg Try.prog 51 0) = true ∧ allOk (Region.before (rg Try.prog 51 0)) [] 0 [(some [], some []), (some [], some []), (some [0], some []), (some [], some []), (some [], some [1]), (some [1], some [1])] = true from (ord_of ord_51_0 bef_51_0 kq)) (ac h11 (ac h11 (ac h11 (ac h11 (ac (cWithin_ok (c.id) ((1 : Int)) ((2147483647 : Int)) _ h12).any0 (ac h13 (ac h13 (ac h14 (ac h14 (ac h14 (ac h14 (ac h14 (ac h15 (ac h15 (ac h15 (ac h15 (ac h15 (ac h16 (ac h16 (ac h16 (ac (cFollows_ok (c.list) _ h17).any0 (ac h16 (ac h15 (ac h16 (ac h15 an)))))))))))))))))))))))))))))))))))))) tq
                            ·
                              have h15p := ne_of_beq_false h15
                              intro e; injection e with e; subst e
                              exact leafR vw_eq (k := 300) (r := []) (hs := hz [(6, [.fres (.b (s0))]), (1, [.no]), (23, [.fc]), (1, [.fc]), (1, [.fc]), (1, [.fc]), (1, [.fc]), (1, [.fc]), (1, [.fc]), (1, [.fc, .fc]), (1, [.fc]), (1, [.fc]), (3, [.no, .no, .no, .no, .no, .no, .no, .no, .yes, .yes]), (2, [.fc, .yes]), (5, [.yes]), (1, [.yes]), (2, [.yes]), (1, [.yes]), (18, [.fres (.b (s12))]), (3, [.yes]), (1, [.yes]), (1, [.yes]), (1, [.yes]), (2, [.yes]), (1, [.fc, .yes]), (9, [.yes]), (1, [.no, .no, .no, .no, .no, .no, .no]), (1, [])]) (raw := (AV.b Bool.false)) kq (ac (cWithin_ok (c.kind) ((1 : Int)) ((8 : Int)) _ h0).any0 (ac h1 (ac h2 (ac h3 (ac h4 (ac h5 (ac h6 (ac h7 (ac h8 (ac h9 (ac h10 (ac (fq (p := (((0 : Int) ≤ c.kind) ∧ (c.kind < (9 : Int))))) (ac (show orderOk (rg Try.prog 51 0) = true ∧ allOk (Region.before (rg Try.prog 51 0)) [] 0 [(some [], some []), (some [], some []), (some [0], some []), (some [], some []), (some [], some [1]), (some [1], some [1])] = true from (ord_of ord_51_0 bef_51_0 kq)) (ac h11 (ac h11 (ac h11 (ac h11 (ac (cWithin_ok (c.id) ((1 : Int)) ((2147483647 : Int)) _ h12).any0 (ac h13 (ac h13 (ac h14 (ac h14 (ac h14 (ac h14 (ac h14 (ac h15 (ac h15 (ac h15 (ac h15 (ac h15 (ac h15 (ac h15 an)))))))))))))))))))))))))))))))) tq
                          ·
                            intro e; injection e with e; subst e
                            exact leafR vw_eq (k := 300) (r := []) (hs := hz [(6, [.fres (.b (s0))]), (1, [.no]), (23, [.fc]), (1, [.fc]), (1, [.fc]), (1, [.fc]), (1, [.fc]), (1, [.fc]), (1, [.fc]), (1, [.fc, .fc]), (1, [.fc]), (1, [.fc]), (3, [.no, .no, .no, .no, .no, .no, .no, .no, .yes, .yes]), (2, [.fc, .yes]), (5, [.yes]), (1, [.yes]), (2, [.yes]), (1, [.yes]), (18, [.fres (.b (s12))]), (3, [.yes]), (1, [.yes]), (1, [.no, .no, .no, .no, .no]), (9, [])]) (raw := (AV.b Bool.false)) kq (ac (cWithin_ok (c.kind) ((1 : Int)) ((8 : Int)) _ h0).any0 (ac h1 (ac h2 (ac h3 (ac h4 (ac h5 (ac h6 (ac h7 (ac h8 (ac h9 (ac h10 (ac (fq (p := (((0 : Int) ≤ c.kind) ∧ (c.kind < (9 : Int))))) (ac (show orderOk (rg Try.prog 51 0) = true ∧ allOk (Region.before (rg Try.prog 51 0)) [] 0 [(some [], some []), (some [], some []), (some [0], some []), (some [], some []), (some [], some [1]), (some [1], some [1])] = true from (ord_of ord_51_0 bef_51_0 kq)) (ac h11 (ac h11 (ac h11 (ac h11 (ac (cWithin_ok (c.id) ((1 : Int)) ((2147483647 : Int)) _ h12).any0 (ac h13 (ac h13 (ac h14 (ac h14 (ac h14 (ac h14 (ac h14 an))))))))))))))))))))))))) tq
                        ·
                          have h13p := ne_of_beq_false h13
                          intro e; injection e with e; subst e
                          exact leafR vw_eq (k := 300) (r := []) (hs := hz [(6, [.fres (.b (s0))]), (1, [.no]), (23, [.fc]), (1, [.fc]), (1, [.fc]), (1, [.fc]), (1, [.fc]), (1, [.fc]), (1, [.fc]), (1, [.fc, .fc]), (1, [.fc]), (1, [.fc]), (3, [.no, .no, .no, .no, .no, .no, .no, .no, .yes, .yes]), (2, [.fc, .yes]), (5, [.yes]), (1, [.yes]), (2, [.yes]), (1, [.yes]), (18, [.fres (.b (s12))]), (3, [.no, .no]), (15, [])]) (raw := (AV.b Bool.false)) kq (ac (cWithin_ok (c.kind) ((1 : Int)) ((8 : Int)) _ h0).any0 (ac h1 (ac h2 (ac h3 (ac h4 (ac h5 (ac h6 (ac h7 (ac h8 (ac h9 (ac h10 (ac (fq (p := (((0 : Int) ≤ c.kind) ∧ (c.kind < (9 : Int))))) (ac (show orderOk (rg Try.prog 51 0) = true ∧ allOk (Region.before (rg Try.prog 51 0)) [] 0 [(some [], some []), (some [], some []), (some [0], some []), (some [], some []), (some [], some [1]), (some [1], some [1])] = true from (ord_of ord_51_0 bef_51_0 kq)) (ac h11 (ac h11 (ac h11 (ac h11 (ac (cWithin_ok (c.id) ((1 : Int)) ((2147483647 : Int)) _ h12).any0 (ac h13 (ac h13 an)))))))))))))))))))) tq
                      ·
                        have h11p := ne_of_beq_false h11
                        refine tc_ok (fun s12 h12 => ?_)
                        intro e; injection e with e; subst e
                        exact leafR vw_eq (k := 300) (r := []) (hs := hz [(6, [.fres (.b (s0))]), (1, [.no]), (23, [.fc]), (1, [.fc]), (1, [.fc]), (1, [.fc]), (1, [.fc]), (1, [.fc]), (1, [.fc]), (1, [.fc, .fc]), (1, [.fc]), (1, [.fc]), (3, [.no, .no, .no, .no, .no, .no, .no, .no, .yes, .yes]), (2, [.fc, .yes]), (5, [.no, .no, .no, .no]), (18, [.fres (.b (s12))]), (20, [])]) (raw := (AV.b Bool.false)) kq (ac (cWithin_ok (c.kind) ((1 : Int)) ((8 : Int)) _ h0).any0 (ac h1 (ac h2 (ac h3 (ac h4 (ac h5 (ac h6 (ac h7 (ac h8 (ac h9 (ac h10 (ac (fq (p := (((0 : Int) ≤ c.kind) ∧ (c.kind < (9 : Int))))) (ac (show orderOk (rg Try.prog 51 0) = true ∧ allOk (Region.before (rg Try.prog 51 0)) [] 0 [(some [], some []), (some [], some []), (some [0], some []), (some [], some []), (some [], some [1]), (some [1], some [1])] = true from (ord_of ord_51_0 bef_51_0 kq)) (ac h11 (ac h11 (ac h11 (ac h11 (ac (cWithin_ok (c.id) ((1 : Int)) ((2147483647 : Int)) _ h12).any0 an)))))))))))))))))) tq
                    ·
                      have h10p := of_decide_eq_false h10
                      exact fun e => nomatch e
end Ab
end Go.Proofs.Ytimcbhhebnikiaa
namespace Go.Proofs.Ytimcbhhebnikiaa
open Go Go.Proofs.Ytimcbhhebnikiaa.Ab
set_option linter.unusedVariables false
set_option linter.unusedSimpArgs false
namespace Ab
/-- A loop that asks something of each place, with a state of its own. -/
theorem th_first {σ α : Type} {step : σ → Option σ} {f : σ → Option α} (r1 r2 : Option α) (S : Nat → σ) (n : Nat) (P : Nat → Prop) (Q : Prop) [Decidable Q] (hQ : (∀ i, i < n → P i) ↔ Q)
    (hs : ∀ i : Nat, i < n → (∀ j, j < i → P j) → P i → step (S i) = some (S (i + 1))) (hf : ∀ i : Nat, i < n → (∀ j, j < i → P j) → ¬ P i → step (S i) = none ∧ f (S i) = r1) (he : (∀ j, j < n → P j) → step (S n) = none ∧ f (S n) = r2) :
    th step (S 0) f = if Q then r2 else r1 := by
  by_cases h : ∀ i, i < n → P i
  · rw [if_pos (hQ.1 h), th_run (step := step) (f := f) S n (fun i hi => hs i hi (fun j hj => h j (by omega)) (h i hi)) (he h).1]
    exact (he h).2
  · rw [if_neg (fun g => h (hQ.2 g))]
    have hex : ∃ i, i < n ∧ ¬ P i := Classical.byContradiction fun hn => h fun i hi => Classical.byContradiction fun hp => hn ⟨i, hi, hp⟩
    have key : ∀ k, (∃ i, i < k ∧ i < n ∧ ¬ P i) → ∃ i, i < n ∧ ¬ P i ∧ ∀ j, j < i → P j := by
      intro k
      induction k with
      | zero => rintro ⟨i, hi, _⟩; omega
      | succ k ih =>
        rintro ⟨i, h1, h2, h3⟩
        by_cases hk : ∃ i, i < k ∧ i < n ∧ ¬ P i
        · exact ih hk
        · have hik : i = k := by
            rcases Nat.lt_or_ge i k with g | g
            · exact absurd ⟨i, g, h2, h3⟩ hk
            · omega
          refine ⟨i, h2, h3, fun j hj => ?_⟩
          exact Classical.byContradiction fun hp => hk ⟨j, by omega, by omega, hp⟩
    obtain ⟨i, h1, h2⟩ := hex
    obtain ⟨k, k1, k2, k3⟩ := key (i + 1) ⟨i, by omega, h1, h2⟩
    rw [th_run (step := step) (f := f) S k (fun i hi => hs i (by omega) (fun j hj => k3 j (by omega)) (k3 i hi)) (hf k k1 k3 k2).1]
    exact (hf k k1 k3 k2).2
/-- How many blocks extents are. -/
def sl : List Ex → Int
  | [] => 0
  | x :: l => x.len + sl l
theorem sl_append : ∀ a b : List Ex, sl (a ++ b) = sl a + sl b
  | [], b => by simp [sl]
  | x :: a, b => by simp only [List.cons_append, sl, sl_append a b]; omega
theorem sl_take (l : List Ex) (i : Nat) (h : i < l.length) : sl (l.take (i + 1)) = sl (l.take i) + (exAt l i).len := by
  rw [take_at ⟨0, 0, 0, 0, []⟩ l i h, sl_append]; simp [sl, exAt]
def MP (l : List Ex) (i : Nat) : Prop := Ck (exAt l i) ∧ (exAt l i).lba = sl (l.take i) ∧ (0 < i → ¬ Jn (exAt l (i - 1)) (exAt l i))
/-- Is it a map of so many blocks? -/
def Mk (blocks : Int) (l : List Ex) : Prop := l ≠ [] ∧ (∀ i, i < l.length → MP l i) ∧ sl l = blocks
instance (l : List Ex) (i : Nat) : Decidable (MP l i) := by unfold MP; infer_instance
instance (blocks : Int) (l : List Ex) : Decidable (Mk blocks l) := by unfold Mk; infer_instance
def mk (blocks : Int) (l : List Ex) : Bool := decide (Mk blocks l)
theorem mk_iff {blocks : Int} {l : List Ex} : mk blocks l = true ↔ Mk blocks l := decide_eq_true_iff
theorem mk_t {blocks : Int} {l : List Ex} (h : Mk blocks l) : mk blocks l = true := mk_iff.2 h
theorem mk_f {blocks : Int} {l : List Ex} (h : ¬ Mk blocks l) : mk blocks l = false := decide_eq_false_iff_not.2 h
theorem mp_bound {l : List Ex} {i : Nat} (hi : i ≤ l.length) (h : ∀ j, j < i → MP l j) : 0 ≤ sl (l.take i) ∧ sl (l.take i) ≤ 64 ∧ (0 < i → 1 ≤ sl (l.take i)) := by
  induction i with
  | zero => simp [sl]
  | succ i ih =>
    have h1 := ih (by omega) fun j hj => h j (by omega)
    have h2 := h i (by omega)
    have h3 := h2.1
    have h4 := h2.2.1
    unfold Ck at h3
    rw [sl_take l i (by omega)]
    omega
theorem mCheck_eq (blocks : Int) (l : List Ex) (hl : l.length ≤ 9223372036854775807) : mCheck blocks l = some (mk blocks l) := by
  unfold mCheck
  have hstep : ∀ i : Nat, i < l.length → (∀ j, j < i → MP l j) → MP l i → mCheck_L0_step blocks l (sl (l.take i), (i : Int)) = some (sl (l.take (i + 1)), ((i + 1 : Nat) : Int)) := by
    intro i hi hpre hp
    have hb := mp_bound (by omega) hpre
    have hck := hp.1
    have hlba := hp.2.1
    unfold mCheck_L0_step
    simp only [tb_dec, tb_bne, tb_not, eCheck_eq, eJoins_eq, tc_some, Int.toNat_natCast]
    unfold Ck at hck
    rw [if_pos (by omega), tp_pos (by omega), ck_t hp.1, tb_t, if_pos hlba, sl_take l i hi, wr_id (x := sl (l.take i) + (exAt l i).len) (by omega) (by omega), wr_id (x := (i : Int) + 1) (by omega) (by omega)]
    have e1 : ((i + 1 : Nat) : Int) = (i : Int) + 1 := by omega
    rw [e1]
    by_cases h0 : (i : Int) > 0
    · rw [if_pos h0, wr_id (x := (i : Int) - 1) (by omega) (by omega), tp_pos (by omega), show ((i : Int) - 1).toNat = i - 1 by omega, jn_f (hp.2.2 (by omega)), tb_f]
    · rw [if_neg h0]
  have := th_first (step := mCheck_L0_step blocks l) (some false) (if l ≠ [] ∧ sl l = blocks then some true else some false) (fun i => (sl (l.take i), (i : Int))) l.length (MP l) (∀ i, i < l.length → MP l i) Iff.rfl hstep (f := fun s0 =>
    tb (decide (s0.2 < (l.length : Int))) (tp ((0 : Int) ≤ s0.2 ∧ s0.2 < (l.length : Int)) (tc (eCheck (exAt l s0.2.toNat)) fun s3 => tb (!s3) (some false) (tb ((exAt l s0.2.toNat).lba != s0.1) (some false) (tb (decide (s0.2 > 0)) (tp ((0 : Int) ≤ wr (s0.2 - 1) ∧ wr (s0.2 - 1) < (l.length : Int)) (tc (eJoins (exAt l (wr (s0.2 - 1)).toNat) (exAt l s0.2.toNat)) fun s8 => tb s8 (some false) none)) none))))
      (tb (decide ((l.length : Int) > 0)) (some (s0.1 == blocks)) (some false))) ?_ ?_
  · simp only [List.take_zero, sl, Int.natCast_zero] at this
    rw [this]
    by_cases hall : ∀ i, i < l.length → MP l i
    · rw [if_pos hall]
      by_cases h : l ≠ [] ∧ sl l = blocks
      · rw [if_pos h, mk_t ⟨h.1, hall, h.2⟩]
      · rw [if_neg h, mk_f fun g => h ⟨g.1, g.2.2⟩]
    · rw [if_neg hall, mk_f fun g => hall g.2.1]
  · intro i hi hpre hp
    have hb := mp_bound (by omega) hpre
    unfold mCheck_L0_step
    simp only [tb_dec, tb_bne, tb_not, eCheck_eq, eJoins_eq, tc_some, Int.toNat_natCast]
    by_cases hck : Ck (exAt l i)
    case neg => refine ⟨?_, ?_⟩ <;> (rw [if_pos (by omega), tp_pos (by omega), ck_f hck]; rfl)
    by_cases hlba : (exAt l i).lba = sl (l.take i)
    case neg => refine ⟨?_, ?_⟩ <;> (rw [if_pos (by omega), tp_pos (by omega), ck_t hck, tb_t, if_neg hlba])
    have hj : 0 < i ∧ Jn (exAt l (i - 1)) (exAt l i) := by
      refine ⟨?_, ?_⟩
      · rcases Nat.eq_zero_or_pos i with h | h
        · subst h; exact absurd ⟨hck, hlba, fun h => by omega⟩ hp
        · exact h
      · exact Classical.byContradiction fun h => hp ⟨hck, hlba, fun _ => h⟩
    refine ⟨?_, ?_⟩ <;> (rw [if_pos (by omega), tp_pos (by omega), ck_t hck, tb_t, if_pos hlba, if_pos (by omega), wr_id (x := (i : Int) - 1) (by omega) (by omega), tp_pos (by omega), show ((i : Int) - 1).toNat = i - 1 by omega, jn_t hj.2]; rfl)
  · intro hall
    unfold mCheck_L0_step
    simp only [tb_dec]
    rw [if_neg (by omega), if_neg (by omega)]
    refine ⟨rfl, ?_⟩
    rw [List.take_length]
    by_cases h0 : l = []
    · subst h0; simp
    · have : 0 < l.length := List.length_pos_iff.2 h0
      rw [if_pos (by omega)]
      by_cases hb : sl l = blocks
      · rw [if_pos ⟨h0, hb⟩, hb]; simp
      · rw [if_neg (fun h => hb h.2)]; simp [hb]
theorem mk_blocks {blocks : Int} {l : List Ex} (h : Mk blocks l) : 1 ≤ blocks ∧ blocks ≤ 64 := by
  have hb := mp_bound (Nat.le_refl _) h.2.1
  rw [List.take_length, h.2.2] at hb
  have := List.length_pos_iff.2 h.1
  omega
end Ab
end Go.Proofs.Ytimcbhhebnikiaa
namespace Go.Proofs.Ytimcbhhebnikiaa
open Go Go.Proofs.Ytimcbhhebnikiaa.Ab
set_option linter.unusedVariables false
set_option linter.unusedSimpArgs false
set_option maxRecDepth 1000000
set_option maxHeartbeats 0
namespace Ab
/-- Function 68, as it answers. -/
noncomputable def eCut (x : Ex) (lba : Int) (n : Int) : Option (Ex × Bool) :=
 (tc (eCheck (x)) fun s0 =>
  (tb ((!s0))
   (some (((Ex.mk 0 0 0 0 ([] : List UInt8)), Bool.false)))
   (tb ((decide (lba ≥ (0 : Int))))
    (tb ((!(decide (lba ≤ (64 : Int)))))
     (some (((Ex.mk 0 0 0 0 ([] : List UInt8)), Bool.false)))
     (tb ((decide (n ≥ (0 : Int))))
      (tb ((!(decide (n ≤ (64 : Int)))))
       (some (((Ex.mk 0 0 0 0 ([] : List UInt8)), Bool.false)))
       (tb ((decide ((imax x.lba lba) ≥ (imin (wr (x.lba + x.len)) (wr (lba + n))))))
        (some (((Ex.mk 0 0 0 0 ([] : List UInt8)), Bool.false)))
        (tb ((x.kind == (2 : Int)))
         (tp (((0 : Int) ≤ (wr ((wr ((imax x.lba lba) - x.lba)) * (32 : Int)))))
          (tp (((0 : Int) ≤ (wr ((wr ((imin (wr (x.lba + x.len)) (wr (lba + n))) - x.lba)) * (32 : Int)))))
           (tp ((((Int.toNat (wr ((wr ((imax x.lba lba) - x.lba)) * (32 : Int)))) ≤ (Int.toNat (wr ((wr ((imin (wr (x.lba + x.len)) (wr (lba + n))) - x.lba)) * (32 : Int))))) ∧ (((Int.toNat (wr ((wr ((imin (wr (x.lba + x.len)) (wr (lba + n))) - x.lba)) * (32 : Int)))) ≤ x.d.length) ∧ ((List.length (List.map AV.y x.d)) = (x.d.length * 1)))))
            (tp ((((Int.toNat (wr ((wr ((imin (wr (x.lba + x.len)) (wr (lba + n))) - x.lba)) * (32 : Int)))) - (Int.toNat (wr ((wr ((imax x.lba lba) - x.lba)) * (32 : Int))))) ≤ (4294967296 : Nat)))
             (some (((Ex.mk (imax x.lba lba) (wr ((imin (wr (x.lba + x.len)) (wr (lba + n))) - (imax x.lba lba))) x.kind x.gen (List.take (((Int.toNat (wr ((wr ((imin (wr (x.lba + x.len)) (wr (lba + n))) - x.lba)) * (32 : Int)))) - (Int.toNat (wr ((wr ((imax x.lba lba) - x.lba)) * (32 : Int))))) * 1) (List.take (((Int.toNat (wr ((wr ((imin (wr (x.lba + x.len)) (wr (lba + n))) - x.lba)) * (32 : Int)))) - (Int.toNat (wr ((wr ((imax x.lba lba) - x.lba)) * (32 : Int))))) * 1) (List.drop ((Int.toNat (wr ((wr ((imax x.lba lba) - x.lba)) * (32 : Int)))) * 1) x.d)))), Bool.true)))))))
         (some (((Ex.mk (imax x.lba lba) (wr ((imin (wr (x.lba + x.len)) (wr (lba + n))) - (imax x.lba lba))) x.kind x.gen ([] : List UInt8)), Bool.true))))))
      (some (((Ex.mk 0 0 0 0 ([] : List UInt8)), Bool.false)))))
    (some (((Ex.mk 0 0 0 0 ([] : List UInt8)), Bool.false))))))
abbrev eCut_G (x : Ex) (lba : Int) (n : Int) (r : Ex × Bool) : Prop := EvFr Try.prog cf true 68 [Ex.av (x), .i (lba), .i (n)] (.tu [Ex.av (r.1), .b (r.2)])
theorem eCut_ok (x : Ex) (lba : Int) (n : Int) (r : Ex × Bool) : eCut x lba n = some r → eCut_G x lba n r := by
  unfold eCut
  refine tc_ok (fun s0 h0 => ?_)
  refine tb_ok (fun h1 => ?_) (fun h1 => ?_)
  ·
    intro e; injection e with e; subst e
    exact leafR vw_eq (k := 300) (r := []) (hs := hz [(4, [.fc]), (1, [.fres (.b (s0))]), (2, [.yes, .yes, .yes, .yes]), (8, [.fc]), (2, [.fc])]) (raw := (AV.tu [(AV.ag [(AV.i 0), (AV.i 0), (AV.i 0), (AV.i 0), (AV.sl 0 ([] : List AV))]), (AV.b Bool.false)])) kq (ac (eCheck_ok (x) _ h0).any0 (ac h1 (ac h1 (ac h1 (ac h1 an))))) tq
  ·
    refine tb_ok (fun h2 => ?_) (fun h2 => ?_)
    ·
      have h2p := of_decide_eq_true h2
      refine tb_ok (fun h3 => ?_) (fun h3 => ?_)
      ·
        intro e; injection e with e; subst e
        exact leafR vw_eq (k := 300) (r := []) (hs := hz [(4, [.fc]), (1, [.fres (.b (s0))]), (2, [.no]), (1, [.no]), (7, [.yes]), (1, [.yes]), (1, [.yes]), (1, [.yes]), (1, [.no]), (1, [.no]), (1, [.yes, .yes, .yes, .yes]), (3, [.fc]), (2, [.fc])]) (raw := (AV.tu [(AV.ag [(AV.i 0), (AV.i 0), (AV.i 0), (AV.i 0), (AV.sl 0 ([] : List AV))]), (AV.b Bool.false)])) kq (ac (eCheck_ok (x) _ h0).any0 (ac h1 (ac h1 (ac h2 (ac h2 (ac h2 (ac h2 (ac h1 (ac h1 (ac h3 (ac h3 (ac h3 (ac h3 an))))))))))))) tq
      ·
        refine tb_ok (fun h4 => ?_) (fun h4 => ?_)
        ·
          have h4p := of_decide_eq_true h4
          refine tb_ok (fun h5 => ?_) (fun h5 => ?_)
          ·
            intro e; injection e with e; subst e
            exact leafR vw_eq (k := 300) (r := []) (hs := hz [(4, [.fc]), (1, [.fres (.b (s0))]), (2, [.no]), (1, [.no]), (7, [.yes]), (1, [.yes]), (1, [.yes]), (1, [.yes]), (1, [.no]), (1, [.no]), (1, [.no]), (1, [.no]), (7, [.yes]), (1, [.yes]), (1, [.yes]), (1, [.yes]), (1, [.no]), (1, [.no, .yes]), (2, [.fc]), (2, [.fc])]) (raw := (AV.tu [(AV.ag [(AV.i 0), (AV.i 0), (AV.i 0), (AV.i 0), (AV.sl 0 ([] : List AV))]), (AV.b Bool.false)])) kq (ac (eCheck_ok (x) _ h0).any0 (ac h1 (ac h1 (ac h2 (ac h2 (ac h2 (ac h2 (ac h1 (ac h1 (ac h3 (ac h3 (ac h4 (ac h4 (ac h4 (ac h4 (ac h3 (ac h3 (ac h5 an)))))))))))))))))) tq
          ·
            refine tb_ok (fun h6 => ?_) (fun h6 => ?_)
            ·
              have h6p := of_decide_eq_true h6
              intro e; injection e with e; subst e
              exact leafR vw_eq (k := 300) (r := []) (hs := hz [(4, [.fc]), (1, [.fres (.b (s0))]), (2, [.no]), (1, [.no]), (7, [.yes]), (1, [.yes]), (1, [.yes]), (1, [.yes]), (1, [.no]), (1, [.no]), (1, [.no]), (1, [.no]), (7, [.yes]), (1, [.yes]), (1, [.yes]), (1, [.yes]), (1, [.no]), (1, [.no, .no]), (18, [.yes]), (3, [.yes]), (2, [.fc]), (2, [.fc])]) (raw := (AV.tu [(AV.ag [(AV.i 0), (AV.i 0), (AV.i 0), (AV.i 0), (AV.sl 0 ([] : List AV))]), (AV.b Bool.false)])) kq (ac (eCheck_ok (x) _ h0).any0 (ac h1 (ac h1 (ac h2 (ac h2 (ac h2 (ac h2 (ac h1 (ac h1 (ac h3 (ac h3 (ac h4 (ac h4 (ac h4 (ac h4 (ac h3 (ac h3 (ac h5 (ac (show orderOk (rg Try.prog 68 0) = true ∧ allOk (Region.before (rg Try.prog 68 0)) [] 0 [(some [], some []), (some [0], some []), (some [], some []), (some [], some []), (some [], some []), (some [0], some []), (some [], some []), (some [0], some []), (some [], some []), (some [], some []), (some [], some []), (some [], some []), (some [], some []), (some [], some []), (some [], some [])] = true from (ord_of ord_68_0 bef_68_0 kq)) (ac h6 an)))))))))))))))))))) tq
            ·
              have h6p := of_decide_eq_false h6
              refine tb_ok (fun h7 => ?_) (fun h7 => ?_)
              ·
                have h7p := eq_of_beq h7
                refine tp_ok (fun h8 => ?_)
                refine tp_ok (fun h9 => ?_)
                refine tp_ok (fun h10 => ?_)
                refine tp_ok (fun h11 => ?_)
                intro e; injection e with e; subst e
                exact leafR vw_eq (k := 300) (r := []) (hs := hz [(4, [.fc]), (1, [.fres (.b (s0))]), (2, [.no]), (1, [.no]), (7, [.yes]), (1, [.yes]), (1, [.yes]), (1, [.yes]), (1, [.no]), (1, [.no]), (1, [.no]), (1, [.no]), (7, [.yes]), (1, [.yes]), (1, [.yes]), (1, [.yes]), (1, [.no]), (1, [.no, .no]), (18, [.yes]), (3, [.no]), (6, [.fc]), (4, [.yes]), (13, [.yes, .yes, .yes]), (1, [.yes, .yes]), (2, [.fc]), (6, [.fc]), (2, [.fc]), (1, [.fc]), (1, [.fc]), (2, [.fc, .no, .yes, .yes])]) (raw := (AV.tu [(AV.ag [(AV.i (imax x.lba lba)), (AV.i (wr ((imin (wr (x.lba + x.len)) (wr (lba + n))) - (imax x.lba lba)))), (AV.i x.kind), (AV.i x.gen), (AV.sl ((Int.toNat (wr ((wr ((imin (wr (x.lba + x.len)) (wr (lba + n))) - x.lba)) * (32 : Int)))) - (Int.toNat (wr ((wr ((imax x.lba lba) - x.lba)) * (32 : Int))))) (List.take (((Int.toNat (wr ((wr ((imin (wr (x.lba + x.len)) (wr (lba + n))) - x.lba)) * (32 : Int)))) - (Int.toNat (wr ((wr ((imax x.lba lba) - x.lba)) * (32 : Int))))) * 1) (List.take (((Int.toNat (wr ((wr ((imin (wr (x.lba + x.len)) (wr (lba + n))) - x.lba)) * (32 : Int)))) - (Int.toNat (wr ((wr ((imax x.lba lba) - x.lba)) * (32 : Int))))) * 1) (List.drop ((Int.toNat (wr ((wr ((imax x.lba lba) - x.lba)) * (32 : Int)))) * 1) (List.map AV.y x.d)))))]), (AV.b Bool.true)])) kq (ac (eCheck_ok (x) _ h0).any0 (ac h1 (ac h1 (ac h2 (ac h2 (ac h2 (ac h2 (ac h1 (ac h1 (ac h3 (ac h3 (ac h4 (ac h4 (ac h4 (ac h4 (ac h3 (ac h3 (ac h5 (ac (show orderOk (rg Try.prog 68 0) = true ∧ allOk (Region.before (rg Try.prog 68 0)) [] 0 [(some [], some []), (some [0], some []), (some [], some []), (some [], some []), (some [], some []), (some [0], some []), (some [], some []), (some [0], some []), (some [], some []), (some [], some []), (some [], some []), (some [], some []), (some [], some []), (some [], some []), (some [], some [])] = true from (ord_of ord_68_0 bef_68_0 kq)) (ac h6 (ac h7 (ac h8 (ac h9 (ac h10 (ac (fq (p := ((List.length (List.take (((Int.toNat (wr ((wr ((imin (wr (x.lba + x.len)) (wr (lba + n))) - x.lba)) * (32 : Int)))) - (Int.toNat (wr ((wr ((imax x.lba lba) - x.lba)) * (32 : Int))))) * 1) (List.drop ((Int.toNat (wr ((wr ((imax x.lba lba) - x.lba)) * (32 : Int)))) * 1) (List.map AV.y x.d)))) = (((Int.toNat (wr ((wr ((imin (wr (x.lba + x.len)) (wr (lba + n))) - x.lba)) * (32 : Int)))) - (Int.toNat (wr ((wr ((imax x.lba lba) - x.lba)) * (32 : Int))))) * 1)))) (ac h11 (ac (fq (p := (((0 : Nat) + (((Int.toNat (wr ((wr ((imin (wr (x.lba + x.len)) (wr (lba + n))) - x.lba)) * (32 : Int)))) - (Int.toNat (wr ((wr ((imax x.lba lba) - x.lba)) * (32 : Int))))) * 1)) ≤ (List.length (List.take (((Int.toNat (wr ((wr ((imin (wr (x.lba + x.len)) (wr (lba + n))) - x.lba)) * (32 : Int)))) - (Int.toNat (wr ((wr ((imax x.lba lba) - x.lba)) * (32 : Int))))) * 1) (List.drop ((Int.toNat (wr ((wr ((imax x.lba lba) - x.lba)) * (32 : Int)))) * 1) (List.map AV.y x.d))))))) (ac (pq (p := Pl Bool.true ((List.take (((Int.toNat (wr ((wr ((imin (wr (x.lba + x.len)) (wr (lba + n))) - x.lba)) * (32 : Int)))) - (Int.toNat (wr ((wr ((imax x.lba lba) - x.lba)) * (32 : Int))))) * 1) (List.take (((Int.toNat (wr ((wr ((imin (wr (x.lba + x.len)) (wr (lba + n))) - x.lba)) * (32 : Int)))) - (Int.toNat (wr ((wr ((imax x.lba lba) - x.lba)) * (32 : Int))))) * 1) (List.drop ((Int.toNat (wr ((wr ((imax x.lba lba) - x.lba)) * (32 : Int)))) * 1) (List.map AV.y x.d))))))) an)))))))))))))))))))))))))))) tq
              ·
                have h7p := ne_of_beq_false h7
                intro e; injection e with e; subst e
                exact leafR vw_eq (k := 300) (r := []) (hs := hz [(4, [.fc]), (1, [.fres (.b (s0))]), (2, [.no]), (1, [.no]), (7, [.yes]), (1, [.yes]), (1, [.yes]), (1, [.yes]), (1, [.no]), (1, [.no]), (1, [.no]), (1, [.no]), (7, [.yes]), (1, [.yes]), (1, [.yes]), (1, [.yes]), (1, [.no]), (1, [.no, .no]), (18, [.yes]), (3, [.no]), (6, [.fc]), (4, [.no]), (6, [.fc]), (2, [.fc]), (1, [.fc]), (1, [.fc]), (2, [.fc])]) (raw := (AV.tu [(AV.ag [(AV.i (imax x.lba lba)), (AV.i (wr ((imin (wr (x.lba + x.len)) (wr (lba + n))) - (imax x.lba lba)))), (AV.i x.kind), (AV.i x.gen), (AV.sl 0 ([] : List AV))]), (AV.b Bool.true)])) kq (ac (eCheck_ok (x) _ h0).any0 (ac h1 (ac h1 (ac h2 (ac h2 (ac h2 (ac h2 (ac h1 (ac h1 (ac h3 (ac h3 (ac h4 (ac h4 (ac h4 (ac h4 (ac h3 (ac h3 (ac h5 (ac (show orderOk (rg Try.prog 68 0) = true ∧ allOk (Region.before (rg Try.prog 68 0)) [] 0 [(some [], some []), (some [0], some []), (some [], some []), (some [], some []), (some [], some []), (some [0], some []), (some [], some []), (some [0], some []), (some [], some []), (some [], some []), (some [], some []), (some [], some []), (some [], some []), (some [], some []), (some [], some [])] = true from (ord_of ord_68_0 bef_68_0 kq)) (ac h6 (ac h7 an))))))))))))))))))))) tq
        ·
          have h4p := of_decide_eq_false h4
          intro e; injection e with e; subst e
          exact leafR vw_eq (k := 300) (r := []) (hs := hz [(4, [.fc]), (1, [.fres (.b (s0))]), (2, [.no]), (1, [.no]), (7, [.yes]), (1, [.yes]), (1, [.yes]), (1, [.yes]), (1, [.no]), (1, [.no]), (1, [.no]), (1, [.no]), (7, [.no, .no, .no, .no]), (1, [.no]), (1, [.no]), (3, [.fc]), (2, [.fc])]) (raw := (AV.tu [(AV.ag [(AV.i 0), (AV.i 0), (AV.i 0), (AV.i 0), (AV.sl 0 ([] : List AV))]), (AV.b Bool.false)])) kq (ac (eCheck_ok (x) _ h0).any0 (ac h1 (ac h1 (ac h2 (ac h2 (ac h2 (ac h2 (ac h1 (ac h1 (ac h3 (ac h3 (ac h4 (ac h4 (ac h4 (ac h4 (ac h3 (ac h3 an))))))))))))))))) tq
    ·
      have h2p := of_decide_eq_false h2
      intro e; injection e with e; subst e
      exact leafR vw_eq (k := 300) (r := []) (hs := hz [(4, [.fc]), (1, [.fres (.b (s0))]), (2, [.no]), (1, [.no]), (7, [.no, .no, .no, .no]), (1, [.no]), (1, [.no]), (8, [.fc]), (2, [.fc])]) (raw := (AV.tu [(AV.ag [(AV.i 0), (AV.i 0), (AV.i 0), (AV.i 0), (AV.sl 0 ([] : List AV))]), (AV.b Bool.false)])) kq (ac (eCheck_ok (x) _ h0).any0 (ac h1 (ac h1 (ac h2 (ac h2 (ac h2 (ac h2 (ac h1 (ac h1 an))))))))) tq
noncomputable abbrev sUpto_L0_I (blocks : Int) (l : List Ex) (gen : Int) (s0 : Bool) : St := (St.mk [(0, (exs l)), (1, (AV.fn (67 : Nat) [(AV.pt 0 0)])), (4, (AV.i 0)), (6, (exs l)), (7, (AV.i (l.length : Int))), (8, (AV.i 0))] 19 (AH.mk 1 [(0, (AObj.cells [(AV.i gen)]))]) Bool.false)
noncomputable abbrev sUpto_L0_S (blocks : Int) (l : List Ex) (gen : Int) (s0 : Bool) (s2 : Int) : St := (St.mk [(0, (exs l)), (1, (AV.fn (67 : Nat) [(AV.pt 0 0)])), (7, (AV.i (l.length : Int))), (8, (AV.i s2))] 19 (AH.mk 1 [(0, (AObj.cells [(AV.i gen)]))]) Bool.false)
noncomputable def sUpto_L0_step (blocks : Int) (l : List Ex) (gen : Int) (s0 : Bool) (s2 : Int) : Option (Int) :=
 (tb ((decide (s2 < (l.length : Int))))
  (tp ((((0 : Int) ≤ s2) ∧ (s2 < (l.length : Int))))
   (tb ((decide ((exAt l s2.toNat).gen > gen)))
    none /- exit -/
    (some ((wr (s2 + (1 : Int)))))))
  none /- exit -/)
theorem sUpto_L0_ok (blocks : Int) (l : List Ex) (gen : Int) (s0 : Bool) (s2 zz : Int) : sUpto_L0_step blocks l gen s0 s2 = some zz → EvStep Try.prog cf 1 (lp Try.prog 89 0) (sUpto_L0_S blocks l gen s0 s2) (sUpto_L0_S blocks l gen s0 zz) := by
  unfold sUpto_L0_step
  refine tb_ok (fun h3 => ?_) (fun h3 => ?_)
  ·
    have h3p := of_decide_eq_true h3
    refine tp_ok (fun h4 => ?_)
    refine tb_ok (fun h5 => ?_) (fun h5 => ?_)
    ·
      have h5p := of_decide_eq_true h5
      exact fun e => nomatch e
    ·
      have h5p := of_decide_eq_false h5
      intro e; injection e with e; subst e
      exact leafIS vw_eq (k := 300) (r := []) (hs := hz [(1, [.yes]), (5, [.yes, .yes, .cells ((Ex.cells (exAt l s2.toNat)))]), (10, [.no]), (2, [])]) (ks := [0, 1, 7, 8]) (bs := [0]) kq (ac h3 (ac h4 (ac (fq (p := ((5 : Nat) ≤ (List.length (List.drop (s2.toNat * 5) (List.flatMap Ex.cells l)))))) (ac (show (List.take 5 (List.drop (s2.toNat * 5) (List.flatMap Ex.cells l))) = (Ex.cells (exAt l s2.toNat)) from (ex_takeO bq bq)) (ac h5 an))))) kq
  ·
    have h3p := of_decide_eq_false h3
    exact fun e => nomatch e
/-- Function 45, as it answers. -/
noncomputable def sUpto (blocks : Int) (l : List Ex) (gen : Int) : Option (Bool) :=
 (tc (mCheck (blocks) (l)) fun s0 =>
  (tb (s0)
   (th (sUpto_L0_step blocks l gen s0) ((0 : Int)) fun s2 =>
    (tb ((decide (s2 < (l.length : Int))))
     (tp ((((0 : Int) ≤ s2) ∧ (s2 < (l.length : Int))))
      (tb ((decide ((exAt l s2.toNat).gen > gen)))
       (some ((!(decide (s2 ≥ (0 : Int))))))
       none /- stop behind an operation -/))
     (some (Bool.true))))
   (some (Bool.false))))
abbrev sUpto_G (blocks : Int) (l : List Ex) (gen : Int) (r : Bool) : Prop := EvFr Try.prog cf true 45 [.i (blocks), exs (l), .i (gen)] (.b (r))
theorem sUpto_ok (blocks : Int) (l : List Ex) (gen : Int) (r : Bool) : sUpto blocks l gen = some r → sUpto_G blocks l gen r := by
  unfold sUpto
  refine tc_ok (fun s0 h0 => ?_)
  refine tb_ok (fun h1 => ?_) (fun h1 => ?_)
  ·
    refine th_ok (fun s2 h2 => ?_)
    refine tb_ok (fun h3 => ?_) (fun h3 => ?_)
    ·
      have h3p := of_decide_eq_true h3
      refine tp_ok (fun h4 => ?_)
      refine tb_ok (fun h5 => ?_) (fun h5 => ?_)
      ·
        have h5p := of_decide_eq_true h5
        intro e; injection e with e; subst e
        exact leafR vw_eq (k := 300) (r := []) (hs := hz [(5, [.fres (.b (s0))]), (1, [.yes]), (1, [.yes]), (1, [.yes]), (9, [.head (sUpto_L0_S blocks l gen s0 s2)]), (1, [.yes]), (5, [.yes, .yes, .cells ((Ex.cells (exAt l s2.toNat)))]), (10, [.yes]), (4, [.yes]), (1, [.yes]), (1, [])]) (raw := (AV.b (!(decide (s2 ≥ (0 : Int)))))) kq (ac (mCheck_ok (blocks) (l) _ h0).any0 (ac h1 (ac h1 (ac h1 (ac (show EvHead Try.prog cf (lp Try.prog 89 0) (sUpto_L0_I blocks l gen s0) (sUpto_L0_S blocks l gen s0 s2) from (EvHead.of (sUpto_L0_ok blocks l gen s0) (absB_of [] [] kq (.consn kq (.eqv tq rfl) (.consn kq (.fn (.cons (.pt rfl) .nil)) (.consn kq (.eqv tq rfl) (.consn kq (.eqv tq rfl) .nil)))) (.cons (.old rfl rfl (.cells (.cons (.eqv tq rfl) .nil))) .nil)) h2)) (ac h3 (ac h4 (ac (fq (p := ((5 : Nat) ≤ (List.length (List.drop (s2.toNat * 5) (List.flatMap Ex.cells l)))))) (ac (show (List.take 5 (List.drop (s2.toNat * 5) (List.flatMap Ex.cells l))) = (Ex.cells (exAt l s2.toNat)) from (ex_takeO bq bq)) (ac h5 (ac h1 (ac h1 an)))))))))))) tq
      ·
        have h5p := of_decide_eq_false h5
        exact fun e => nomatch e
    ·
      have h3p := of_decide_eq_false h3
      intro e; injection e with e; subst e
      exact leafR vw_eq (k := 300) (r := []) (hs := hz [(5, [.fres (.b (s0))]), (1, [.yes]), (1, [.yes]), (1, [.yes]), (9, [.head (sUpto_L0_S blocks l gen s0 s2)]), (1, [.no]), (3, [.yes]), (1, [.yes]), (1, [])]) (raw := (AV.b Bool.true)) kq (ac (mCheck_ok (blocks) (l) _ h0).any0 (ac h1 (ac h1 (ac h1 (ac (show EvHead Try.prog cf (lp Try.prog 89 0) (sUpto_L0_I blocks l gen s0) (sUpto_L0_S blocks l gen s0 s2) from (EvHead.of (sUpto_L0_ok blocks l gen s0) (absB_of [] [] kq (.consn kq (.eqv tq rfl) (.consn kq (.fn (.cons (.pt rfl) .nil)) (.consn kq (.eqv tq rfl) (.consn kq (.eqv tq rfl) .nil)))) (.cons (.old rfl rfl (.cells (.cons (.eqv tq rfl) .nil))) .nil)) h2)) (ac h3 (ac h1 (ac h1 an)))))))) tq
  ·
    intro e; injection e with e; subst e
    exact leafR vw_eq (k := 300) (r := []) (hs := hz [(5, [.fres (.b (s0))]), (1, [.no, .no, .no, .no, .no]), (1, [])]) (raw := (AV.b Bool.false)) kq (ac (mCheck_ok (blocks) (l) _ h0).any0 (ac h1 (ac h1 (ac h1 (ac h1 (ac h1 an)))))) tq
noncomputable abbrev few11_L0_I (s : Sa) (s2 : Bool) : St := (St.mk [(0, (AV.ag [(AV.i s.blocks), (AV.i s.gen), (exs s.map), (AV.sl s.points.length (List.flatMap Po.cells s.points)), (AV.i s.last), (bys s.staged)])), (1, (AV.pt 0 0)), (2, (AV.b Bool.false)), (4, (AV.pt 0 3)), (5, (AV.sl s.points.length (List.flatMap Po.cells s.points))), (6, (AV.i (s.points.length : Int))), (7, (AV.b (decide ((s.points.length : Int) > (10 : Int))))), (8, (AV.b (decide ((s.points.length : Int) > (10 : Int))))), (9, (AV.pt 0 5)), (10, (bys s.staged)), (11, (AV.i (s.staged.length : Int))), (12, (AV.b (decide ((s.staged.length : Int) > (6000 : Int))))), (13, (AV.b (decide ((s.staged.length : Int) > (6000 : Int))))), (14, (AV.b (decide ((s.staged.length : Int) > (6000 : Int))))), (15, (AV.pt 0 2)), (16, (exs s.map)), (17, (AV.b s2)), (18, (AV.b (!s2))), (19, (AV.b (!s2))), (3, (AV.i 0))] 35 (AH.mk 1 [(0, (AObj.cells [(AV.i s.blocks), (AV.i s.gen), (exs s.map), (AV.sl s.points.length (List.flatMap Po.cells s.points)), (AV.i s.last), (bys s.staged)]))]) Bool.false)
noncomputable abbrev few11_L0_S (s : Sa) (s2 : Bool) (s4 : Int) : St := (St.mk [(0, (AV.ag [(AV.i s.blocks), (AV.i s.gen), (exs s.map), (AV.sl s.points.length (List.flatMap Po.cells s.points)), (AV.i s.last), (bys s.staged)])), (1, (AV.pt 0 0)), (19, (AV.b (!s2))), (3, (AV.i s4))] 35 (AH.mk 1 [(0, (AObj.cells [(AV.i s.blocks), (AV.i s.gen), (exs s.map), (AV.sl s.points.length (List.flatMap Po.cells s.points)), (AV.i s.last), (bys s.staged)]))]) Bool.false)
noncomputable def few11_L0_step (s : Sa) (s2 : Bool) (s4 : Int) : Option (Int) :=
 (tb ((decide (s4 < (s.points.length : Int))))
  (tp ((((0 : Int) ≤ s4) ∧ (s4 < (s.points.length : Int))))
   (tc (few ((poAt s.points s4.toNat).map)) fun s7 =>
    (tb ((!s7))
     none /- exit -/
     (some ((wr (s4 + (1 : Int))))))))
  none /- exit -/)
theorem few11_L0_ok (s : Sa) (s2 : Bool) (s4 zz : Int) : few11_L0_step s s2 s4 = some zz → EvStep Try.prog cf 1 (lp Try.prog 12 0) (few11_L0_S s s2 s4) (few11_L0_S s s2 zz) := by
  unfold few11_L0_step
  refine tb_ok (fun h5 => ?_) (fun h5 => ?_)
  ·
    have h5p := of_decide_eq_true h5
    refine tp_ok (fun h6 => ?_)
    refine tc_ok (fun s7 h7 => ?_)
    refine tb_ok (fun h8 => ?_) (fun h8 => ?_)
    ·
      exact fun e => nomatch e
    ·
      intro e; injection e with e; subst e
      exact leafIS vw_eq (k := 300) (r := []) (hs := hz [(6, [.yes]), (4, [.yes]), (1, [.yes, .val ((exs (poAt s.points s4.toNat).map))]), (1, [.fres (.b (s7))]), (1, [.no]), (3, [])]) (ks := [0, 1, 19, 3]) (bs := [0]) kq (ac h5 (ac h6 (ac (fq (p := ((1 : Nat) ≤ (List.length (List.drop 2 (List.drop (s4.toNat * 3) (List.flatMap Po.cells s.points))))))) (ac (show (List.take 1 (List.drop 2 (List.drop (s4.toNat * 3) (List.flatMap Po.cells s.points)))) = [(exs (poAt s.points s4.toNat).map)] from (by first | exact po_one _ _ _ _ bq rfl | exact po_oneA _ _ _ _ bq rfl | (simpa using po_one (s.points) (s4.toNat) 2 _ bq rfl) | ((try simp only [List.drop_drop]); rw [show ((2 : Nat) + (s4.toNat * 3)) = (s4.toNat) * 3 + 2 by omega]; exact po_oneA (s.points) (s4.toNat) 2 _ bq rfl))) (ac (few_ok ((poAt s.points s4.toNat).map) _ h7).any0 (ac h8 an)))))) kq
  ·
    have h5p := of_decide_eq_false h5
    exact fun e => nomatch e
/-- Function 12, as it answers. -/
noncomputable def few11 (s : Sa) : Option (Bool) :=
 (tb ((decide ((s.points.length : Int) > (10 : Int))))
  (some (Bool.false))
  (tb ((decide ((s.staged.length : Int) > (6000 : Int))))
   (some (Bool.false))
   (tc (few (s.map)) fun s2 =>
    (tb ((!s2))
     (some (Bool.false))
     (th (few11_L0_step s s2) ((0 : Int)) fun s4 =>
      (tb ((decide (s4 < (s.points.length : Int))))
       (tp ((((0 : Int) ≤ s4) ∧ (s4 < (s.points.length : Int))))
        (tc (few ((poAt s.points s4.toNat).map)) fun s7 =>
         (tb ((!s7))
          (some (Bool.false))
          none /- stop behind an operation -/)))
       (some (Bool.true))))))))
abbrev few11_G (s : Sa) (r : Bool) : Prop := EvFr Try.prog cf true 12 [Sa.av (s)] (.b (r))
theorem few11_ok (s : Sa) (r : Bool) : few11 s = some r → few11_G s r := by
  unfold few11
  refine tb_ok (fun h0 => ?_) (fun h0 => ?_)
  ·
    have h0p := of_decide_eq_true h0
    intro e; injection e with e; subst e
    exact leafR vw_eq (k := 300) (r := []) (hs := hz [(8, [.yes, .yes, .yes, .yes, .yes]), (8, [])]) (raw := (AV.b Bool.false)) kq (ac h0 (ac h0 (ac h0 (ac h0 (ac h0 an))))) tq
  ·
    have h0p := of_decide_eq_false h0
    refine tb_ok (fun h1 => ?_) (fun h1 => ?_)
    ·
      have h1p := of_decide_eq_true h1
      intro e; injection e with e; subst e
      exact leafR vw_eq (k := 300) (r := []) (hs := hz [(8, [.no]), (1, [.no]), (2, [.no]), (1, [.no]), (1, [.no]), (1, [.yes, .yes, .yes, .yes, .yes]), (2, [])]) (raw := (AV.b Bool.false)) kq (ac h0 (ac h0 (ac h0 (ac h0 (ac h0 (ac h1 (ac h1 (ac h1 (ac h1 (ac h1 an)))))))))) tq
    ·
      have h1p := of_decide_eq_false h1
      refine tc_ok (fun s2 h2 => ?_)
      refine tb_ok (fun h3 => ?_) (fun h3 => ?_)
      ·
        intro e; injection e with e; subst e
        exact leafR vw_eq (k := 300) (r := []) (hs := hz [(8, [.no]), (1, [.no]), (2, [.no]), (1, [.no]), (1, [.no]), (1, [.no]), (1, [.no]), (2, [.no]), (1, [.fres (.b (s2)), .no]), (1, [.no, .yes]), (1, [])]) (raw := (AV.b Bool.false)) kq (ac h0 (ac h0 (ac h0 (ac h0 (ac h0 (ac h1 (ac h1 (ac h1 (ac (few_ok (s.map) _ h2).any0 (ac h1 (ac h1 (ac h3 an)))))))))))) tq
      ·
        refine th_ok (fun s4 h4 => ?_)
        refine tb_ok (fun h5 => ?_) (fun h5 => ?_)
        ·
          have h5p := of_decide_eq_true h5
          refine tp_ok (fun h6 => ?_)
          refine tc_ok (fun s7 h7 => ?_)
          refine tb_ok (fun h8 => ?_) (fun h8 => ?_)
          ·
            intro e; injection e with e; subst e
            exact leafR vw_eq (k := 300) (r := []) (hs := hz [(8, [.no]), (1, [.no]), (2, [.no]), (1, [.no]), (1, [.no]), (1, [.no]), (1, [.no]), (2, [.no]), (1, [.fres (.b (s2)), .no]), (1, [.no, .no]), (1, [.head (few11_L0_S s s2 s4)]), (6, [.yes]), (4, [.yes]), (1, [.yes, .val ((exs (poAt s.points s4.toNat).map))]), (1, [.fres (.b (s7))]), (1, [.yes]), (1, [])]) (raw := (AV.b Bool.false)) kq (ac h0 (ac h0 (ac h0 (ac h0 (ac h0 (ac h1 (ac h1 (ac h1 (ac (few_ok (s.map) _ h2).any0 (ac h1 (ac h1 (ac h3 (ac (show EvHead Try.prog cf (lp Try.prog 12 0) (few11_L0_I s s2) (few11_L0_S s s2 s4) from (EvHead.of (few11_L0_ok s s2) (absB_of [] [] kq (.consn kq (.agp pq) (.consn kq (.pt rfl) (.consn kq (.eqv tq rfl) (.consn kq (.eqv tq rfl) .nil)))) (.cons (.old rfl rfl (.cells (.pl rfl pq))) .nil)) h4)) (ac h5 (ac h6 (ac (fq (p := ((1 : Nat) ≤ (List.length (List.drop 2 (List.drop (s4.toNat * 3) (List.flatMap Po.cells s.points))))))) (ac (show (List.take 1 (List.drop 2 (List.drop (s4.toNat * 3) (List.flatMap Po.cells s.points)))) = [(exs (poAt s.points s4.toNat).map)] from (by first | exact po_one _ _ _ _ bq rfl | exact po_oneA _ _ _ _ bq rfl | (simpa using po_one (s.points) (s4.toNat) 2 _ bq rfl) | ((try simp only [List.drop_drop]); rw [show ((2 : Nat) + (s4.toNat * 3)) = (s4.toNat) * 3 + 2 by omega]; exact po_oneA (s.points) (s4.toNat) 2 _ bq rfl))) (ac (few_ok ((poAt s.points s4.toNat).map) _ h7).any0 (ac h8 an))))))))))))))))))) tq
          ·
            exact fun e => nomatch e
        ·
          have h5p := of_decide_eq_false h5
          intro e; injection e with e; subst e
          exact leafR vw_eq (k := 300) (r := []) (hs := hz [(8, [.no]), (1, [.no]), (2, [.no]), (1, [.no]), (1, [.no]), (1, [.no]), (1, [.no]), (2, [.no]), (1, [.fres (.b (s2)), .no]), (1, [.no, .no]), (1, [.head (few11_L0_S s s2 s4)]), (6, [.no]), (1, [])]) (raw := (AV.b Bool.true)) kq (ac h0 (ac h0 (ac h0 (ac h0 (ac h0 (ac h1 (ac h1 (ac h1 (ac (few_ok (s.map) _ h2).any0 (ac h1 (ac h1 (ac h3 (ac (show EvHead Try.prog cf (lp Try.prog 12 0) (few11_L0_I s s2) (few11_L0_S s s2 s4) from (EvHead.of (few11_L0_ok s s2) (absB_of [] [] kq (.consn kq (.agp pq) (.consn kq (.pt rfl) (.consn kq (.eqv tq rfl) (.consn kq (.eqv tq rfl) .nil)))) (.cons (.old rfl rfl (.cells (.pl rfl pq))) .nil)) h4)) (ac h5 an)))))))))))))) tq
noncomputable abbrev sExtents_L0_I (l : List Ex) : St := (St.mk [(0, (exs l)), (2, AV.nl), (5, (exs l)), (6, (AV.i (l.length : Int))), (7, (AV.i 0))] 21 (AH.mk 0 ([] : List (Prod Nat AObj))) Bool.false)
noncomputable abbrev sExtents_L0_S (l : List Ex) (s0 : List Ex × Int) : St := (St.mk [(0, (exs l)), (2, (AV.rf 0 5 0 s0.1.length)), (5, (exs l)), (6, (AV.i (l.length : Int))), (7, (AV.i s0.2))] 21 (AH.mk 1 [(0, (AObj.cells (List.flatMap Ex.cells s0.1)))]) Bool.false)
noncomputable def sExtents_L0_step (l : List Ex) (s0 : List Ex × Int) : Option (List Ex × Int) :=
 (tb ((decide (s0.2 < (l.length : Int))))
  (tp ((((0 : Int) ≤ s0.2) ∧ (s0.2 < (l.length : Int))))
   (tp (((List.length (exAt l s0.2.toNat).d) ≤ (4294967296 : Nat)))
    (tp ((((List.length (List.flatMap Ex.cells s0.1)) = (s0.1.length * 5)) ∧ ((s0.1.length + (1 : Nat)) ≤ (4294967296 : Nat))))
     (some (((s0.1 ++ [(exAt l s0.2.toNat)]), (wr (s0.2 + (1 : Int)))))))))
  none /- exit -/)
theorem sExtents_L0_ok (l : List Ex) (s0 zz : List Ex × Int) : sExtents_L0_step l s0 = some zz → EvStep Try.prog cf 0 (lp Try.prog 41 0) (sExtents_L0_S l s0) (sExtents_L0_S l zz) := by
  unfold sExtents_L0_step
  refine tb_ok (fun h1 => ?_) (fun h1 => ?_)
  ·
    have h1p := of_decide_eq_true h1
    refine tp_ok (fun h2 => ?_)
    refine tp_ok (fun h3 => ?_)
    refine tp_ok (fun h4 => ?_)
    intro e; injection e with e; subst e
    exact leafS vw_eq (k := 300) (r := []) (hs := hz [(1, [.yes, .yes, .yes, .cells ((Ex.cells (exAt l s0.2.toNat)))]), (2, [.fc]), (4, [.yes, .yes]), (2, [.fc]), (2, [.fc]), (1, [.fc, .fc, .yes, .yes]), (3, [])]) (ks := [0, 2, 5, 6, 7]) (st1 := (St.mk [(0, (exs l)), (2, (AV.rf 4 5 0 (s0.1.length + (1 : Nat)))), (5, (exs l)), (6, (AV.i (l.length : Int))), (7, (AV.i (wr (s0.2 + (1 : Int)))))] 21 (AH.mk 5 [(4, (AObj.cells ((List.flatMap Ex.cells s0.1) ++ [(AV.i (exAt l s0.2.toNat).lba), (AV.i (exAt l s0.2.toNat).len), (AV.i (exAt l s0.2.toNat).kind), (AV.i (exAt l s0.2.toNat).gen), (AV.rf 2 1 0 (List.length (exAt l s0.2.toNat).d))]))), (3, (AObj.cells [(AV.i (exAt l s0.2.toNat).lba), (AV.i (exAt l s0.2.toNat).len), (AV.i (exAt l s0.2.toNat).kind), (AV.i (exAt l s0.2.toNat).gen), (AV.rf 2 1 0 (List.length (exAt l s0.2.toNat).d))])), (2, (AObj.cells (List.map AV.y (exAt l s0.2.toNat).d))), (1, (AObj.cells [(AV.i (exAt l s0.2.toNat).lba), (AV.i (exAt l s0.2.toNat).len), (AV.i (exAt l s0.2.toNat).kind), (AV.i (exAt l s0.2.toNat).gen), (AV.rf 2 1 0 (List.length (exAt l s0.2.toNat).d))])), (0, AObj.dead)]) Bool.false)) kq (ac h1 (ac h2 (ac (fq (p := ((5 : Nat) ≤ (List.length (List.drop (s0.2.toNat * 5) (List.flatMap Ex.cells l)))))) (ac (show (List.take 5 (List.drop (s0.2.toNat * 5) (List.flatMap Ex.cells l))) = (Ex.cells (exAt l s0.2.toNat)) from (ex_takeO bq bq)) (ac (tq (p := ((List.length (List.map AV.y (exAt l s0.2.toNat).d)) = ((List.length (exAt l s0.2.toNat).d) * 1)))) (ac h3 (ac (tq (p := (((0 : Nat) = (0 : Nat)) ∧ ((List.length [(AV.i (exAt l s0.2.toNat).lba), (AV.i (exAt l s0.2.toNat).len), (AV.i (exAt l s0.2.toNat).kind), (AV.i (exAt l s0.2.toNat).gen), (AV.rf 2 1 0 (List.length (exAt l s0.2.toNat).d))]) = (5 : Nat))))) (ac h4 an)))))))) (Nat.le_of_ble_eq_true rfl) (Nat.le_of_ble_eq_true rfl) (absB_of [4] [2] kq (.consn kq (.eqv tq rfl) (.consn kq (.rfn (n := (s0.1.length + (1 : Nat))) rfl tq) (.consn kq (.eqv tq rfl) (.consn kq (.eqv tq rfl) (.consn kq (.eqv tq rfl) .nil))))) (.cons (.old rfl rfl (.cells (.cast rfl tq (.app (.pl rfl pq) (.cons (.eqv rfl rfl) (.cons (.eqv rfl rfl) (.cons (.eqv rfl rfl) (.cons (.eqv rfl rfl) (.cons (.frzn rfl tq pq (by simp) tq) .nil))))))))) .nil))
  ·
    have h1p := of_decide_eq_false h1
    exact fun e => nomatch e
/-- Function 41, as it answers. -/
noncomputable def sExtents (l : List Ex) : Option (List Ex) :=
 (th (sExtents_L0_step l) ((([] : List Ex), (0 : Int))) fun s0 =>
  (tb ((decide (s0.2 < (l.length : Int))))
   none /- stop behind an operation -/
   (tp ((((0 : Nat) = (0 : Nat)) ∧ ((List.length (List.flatMap Ex.cells s0.1)) = (s0.1.length * 5))))
    (some (s0.1)))))
abbrev sExtents_G (l : List Ex) (r : List Ex) : Prop := EvOw Try.prog cf false [[5]] 41 [exs (l)] (exs (r))
theorem sExtents_ok (l : List Ex) (r : List Ex) : sExtents l = some r → sExtents_G l r := by
  unfold sExtents
  refine th_ok (fun s0 h0 => ?_)
  refine tb_ok (fun h1 => ?_) (fun h1 => ?_)
  ·
    have h1p := of_decide_eq_true h1
    exact fun e => nomatch e
  ·
    have h1p := of_decide_eq_false h1
    refine tp_ok (fun h2 => ?_)
    intro e; injection e with e; subst e
    exact leafO vw_eq (k := 300) (r := []) (hs := hz [(4, [.head (sExtents_L0_S l s0)]), (1, [.no]), (2, [.yes, .yes])]) (R := fun H => ((AV.rf (AH.nx H) 5 0 s0.1.length), (AH.mk ((AH.nx H) + (1 : Nat)) (((AH.nx H), (AObj.cells (List.flatMap Ex.cells s0.1))) :: (AH.l H))))) (fun H => kq) (ac (show EvHead Try.prog cf (lp Try.prog 41 0) (sExtents_L0_I l) (sExtents_L0_S l s0) from (EvHead.of (sExtents_L0_ok l) (absB_of [0] [] kq (.consn kq (.eqv tq rfl) (.consn kq (.nln tq) (.consn kq (.eqv tq rfl) (.consn kq (.eqv tq rfl) (.consn kq (.eqv tq rfl) .nil))))) (.cons (.none rfl (Nat.le_refl _) rfl) .nil)) h0)) (ac h1 (ac h2 (ac (pq (p := Pl Bool.false ((List.flatMap Ex.cells s0.1)))) an)))) (fun H => oq)
end Ab
end Go.Proofs.Ytimcbhhebnikiaa
namespace Go.Proofs.Ytimcbhhebnikiaa
open Go Go.Proofs.Ytimcbhhebnikiaa.Ab
set_option linter.unusedVariables false
set_option linter.unusedSimpArgs false
namespace Ab
/-- The part of an extent within so many blocks, if there is one. -/
def Cu (x : Ex) (lba n : Int) : Prop := Ck x ∧ 0 ≤ lba ∧ lba ≤ 64 ∧ 0 ≤ n ∧ n ≤ 64 ∧ max x.lba lba < min (x.lba + x.len) (lba + n)
instance (x : Ex) (lba n : Int) : Decidable (Cu x lba n) := by unfold Cu; infer_instance
def cu (x : Ex) (lba n : Int) : Ex :=
  ⟨max x.lba lba, min (x.lba + x.len) (lba + n) - max x.lba lba, x.kind, x.gen, if x.kind = 2 then (x.d.drop (32 * (max x.lba lba - x.lba)).toNat).take (32 * (min (x.lba + x.len) (lba + n) - max x.lba lba)).toNat else []⟩
def e0 : Ex := ⟨0, 0, 0, 0, []⟩
def cut (x : Ex) (lba n : Int) : Option Ex := if Cu x lba n then some (cu x lba n) else none
def cutv (x : Ex) (lba n : Int) : Ex × Bool := if Cu x lba n then (cu x lba n, true) else (e0, false)
theorem cut_pos {x : Ex} {lba n : Int} (h : Cu x lba n) : cut x lba n = some (cu x lba n) := if_pos h
theorem cut_neg {x : Ex} {lba n : Int} (h : ¬ Cu x lba n) : cut x lba n = none := if_neg h
theorem cutv_pos {x : Ex} {lba n : Int} (h : Cu x lba n) : cutv x lba n = (cu x lba n, true) := if_pos h
theorem cutv_neg {x : Ex} {lba n : Int} (h : ¬ Cu x lba n) : cutv x lba n = (e0, false) := if_neg h
theorem dslice (d : List UInt8) (x f t : Int) (h1 : 0 ≤ x) (h2 : x ≤ f) (h3 : f ≤ t) (h4 : t ≤ 64) (hd : 32 * (t - x) ≤ d.length) :
    List.take (((32 * (t - x)).toNat - (32 * (f - x)).toNat) * 1) (List.take (((32 * (t - x)).toNat - (32 * (f - x)).toNat) * 1) (List.drop ((32 * (f - x)).toNat * 1) d)) = (d.drop (32 * (f - x)).toNat).take (32 * (t - f)).toNat := by
  rw [Nat.mul_one, Nat.mul_one, List.take_take, Nat.min_self, show (32 * (t - x)).toNat - (32 * (f - x)).toNat = (32 * (t - f)).toNat by omega]
theorem eCut_eq (x : Ex) (lba n : Int) : eCut x lba n = some (cutv x lba n) := by
  unfold eCut
  simp only [eCheck_eq, tc_some, tb_not, tb_dec, tb_beq, imin_eq, imax_eq]
  by_cases hc : Ck x
  case neg => rw [ck_f hc, tb_f]; unfold cutv; rw [if_neg fun h => hc h.1]; rfl
  rw [ck_t hc, tb_t]
  by_cases h1 : lba ≥ 0
  case neg => rw [if_neg h1]; unfold cutv; rw [if_neg fun h => h1 h.2.1]; rfl
  by_cases h2 : lba ≤ 64
  case neg => rw [if_pos h1, if_neg h2]; unfold cutv; rw [if_neg fun h => h2 h.2.2.1]; rfl
  by_cases h3 : n ≥ 0
  case neg => rw [if_pos h1, if_pos h2, if_neg h3]; unfold cutv; rw [if_neg fun h => h3 h.2.2.2.1]; rfl
  by_cases h4 : n ≤ 64
  case neg => rw [if_pos h1, if_pos h2, if_pos h3, if_neg h4]; unfold cutv; rw [if_neg fun h => h4 h.2.2.2.2.1]; rfl
  have hcc := hc
  unfold Ck at hcc
  rw [if_pos h1, if_pos h2, if_pos h3, if_pos h4, wr_id (x := x.lba + x.len) (by omega) (by omega), wr_id (x := lba + n) (by omega) (by omega)]
  have hf1 : x.lba ≤ max x.lba lba := by omega
  have hf2 : max x.lba lba ≤ 64 := by omega
  have ht1 : min (x.lba + x.len) (lba + n) ≤ x.lba + x.len := by omega
  have hcu : (Cu x lba n) ↔ max x.lba lba < min (x.lba + x.len) (lba + n) := ⟨fun h => h.2.2.2.2.2, fun h => ⟨hc, h1, h2, h3, h4, h⟩⟩
  unfold cutv
  simp only [hcu]
  unfold cu
  generalize max x.lba lba = f at hf1 hf2 ⊢
  generalize min (x.lba + x.len) (lba + n) = t at ht1 ⊢
  by_cases h5 : f ≥ t
  · rw [if_pos h5, if_neg (show ¬ f < t by omega)]; rfl
  rw [if_neg h5, if_pos (show f < t by omega)]
  have w1 : wr (f - x.lba) = f - x.lba := wr_id (by omega) (by omega)
  have w2 : wr (t - x.lba) = t - x.lba := wr_id (by omega) (by omega)
  have w3 : wr (t - f) = t - f := wr_id (by omega) (by omega)
  have w4 : wr ((f - x.lba) * 32) = 32 * (f - x.lba) := by rw [wr_id (by omega) (by omega)]; omega
  have w5 : wr ((t - x.lba) * 32) = 32 * (t - x.lba) := by rw [wr_id (by omega) (by omega)]; omega
  rw [w1, w2, w3, w4, w5]
  by_cases hk : x.kind = 2
  · have hd := hcc.2.2.2.2.2.2.2.2.1 hk
    rw [if_pos hk, if_pos hk, tp_pos (by omega), tp_pos (by omega), tp_pos (by rw [List.length_map]; omega), tp_pos (by omega), dslice _ _ _ _ (by omega) (by omega) (by omega) (by omega) (by omega)]
  · rw [if_neg hk, if_neg hk]
/-- A loop that gathers. -/
theorem th_gath {σ α : Type} {step : σ × Int → Option (σ × Int)} {f : σ × Int → Option α} (A : Nat → σ) (n : Nat) (hs : ∀ i : Nat, i < n → step (A i, (i : Int)) = some (A (i + 1), (i : Int) + 1)) (he : step (A n, (n : Int)) = none) : th step (A 0, 0) f = f (A n, (n : Int)) := by
  have := th_run (step := step) (f := f) (fun i => (A i, (i : Int))) n (fun i hi => by rw [hs i hi]; simp) he
  simpa using this
def Ro (blocks lba n : Int) : Prop := 0 ≤ lba ∧ lba ≤ blocks ∧ 1 ≤ n ∧ n ≤ blocks - lba
instance (blocks lba n : Int) : Decidable (Ro blocks lba n) := by unfold Ro; infer_instance
theorem ex_take1 (l : List Ex) (i : Nat) (hi : i < l.length) : l.take (i + 1) = l.take i ++ [exAt l i] := by unfold exAt; exact take_at _ l i hi
end Ab
end Go.Proofs.Ytimcbhhebnikiaa
