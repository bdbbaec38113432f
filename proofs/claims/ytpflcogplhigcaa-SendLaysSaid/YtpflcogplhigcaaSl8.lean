/- The law 'SendLays': it returns true, and nothing that was there changes. No condition. (Part 8 of 12.) -/
import Derived.Test.YtpflcogplhigcaaSl7
import Derived.Test.YtpflcogplhigcaaRows
namespace Go.Proofs.Ytpflcogplhigcaa
open Go Go.Proofs.Ytpflcogplhigcaa.Ab
set_option linter.unusedVariables false
set_option linter.unusedSimpArgs false
set_option maxRecDepth 1000000
set_option maxHeartbeats 0
namespace Ab
def cf : Cfg := { inl := [24, 25, 27, 29, 55, 56, 57, 58, 59, 60, 61, 62, 72, 73, 74, 77, 78, 79, 80, 81, 82, 89, 90, 91, 95], thaw := [(22, [[0, 0, 5, 3, 0, 1]]), (32, [[]]), (41, [[5]]), (65, [[0, 0, 0, 0, 1]]), (67, [[5], []]), (71, [[5], []])], move := [10, 11, 12, 14, 15, 17, 20, 21, 22, 26, 28, 35, 37, 41, 44, 47, 48, 65, 67, 68, 71], clone := [(42, 3, 40), (43, 1, 1), (83, 3, 5000)] }
noncomputable def vwT : List (Nat × TI) := [(1, (TI.mk 1 8 [(AV.sc Go.Value.nilFunc)] (AV.sc Go.Value.nilFunc) TK.func)),
  (2, (TI.mk 1 8 [(AV.i 0)] (AV.i 0) (TK.int Go.IntKind.i64))),
  (3, (TI.mk 1 8 [(AV.i 0)] (AV.i 0) (TK.int Go.IntKind.i64))),
  (4, (TI.mk 1 1 [(AV.b Bool.false)] (AV.b Bool.false) TK.bool)),
  (5, (TI.mk 1 1 [(AV.y (UInt8.ofNat (0 : Nat)))] (AV.y (UInt8.ofNat (0 : Nat))) (TK.int Go.IntKind.u8))),
  (6, (TI.mk 1 1 [(AV.y (UInt8.ofNat (0 : Nat)))] (AV.y (UInt8.ofNat (0 : Nat))) (TK.int Go.IntKind.u8))),
  (7, (TI.mk 4 24 [(AV.i 0), (AV.i 0), (AV.b Bool.false), (AV.y (UInt8.ofNat (0 : Nat)))] (AV.ag [(AV.i 0), (AV.i 0), (AV.b Bool.false), (AV.y (UInt8.ofNat (0 : Nat)))]) (TK.struct [((0 : Nat), ((1 : Nat), Bool.false)), ((1 : Nat), ((1 : Nat), Bool.false)), ((2 : Nat), ((1 : Nat), Bool.false)), ((3 : Nat), ((1 : Nat), Bool.false))]))),
  (8, (TI.mk 4 24 [(AV.i 0), (AV.i 0), (AV.b Bool.false), (AV.y (UInt8.ofNat (0 : Nat)))] (AV.ag [(AV.i 0), (AV.i 0), (AV.b Bool.false), (AV.y (UInt8.ofNat (0 : Nat)))]) (TK.struct [((0 : Nat), ((1 : Nat), Bool.false)), ((1 : Nat), ((1 : Nat), Bool.false)), ((2 : Nat), ((1 : Nat), Bool.false)), ((3 : Nat), ((1 : Nat), Bool.false))]))),
  (9, (TI.mk 1 16 [(AV.st ([] : List UInt8))] (AV.st ([] : List UInt8)) TK.string)),
  (10, (TI.mk 1 16 [(AV.st ([] : List UInt8))] (AV.st ([] : List UInt8)) TK.string)),
  (11, (TI.mk 1 16 [(AV.st ([] : List UInt8))] (AV.st ([] : List UInt8)) TK.string)),
  (12, (TI.mk 1 8 [(AV.sc (Go.Value.int Go.IntKind.u64 0))] (AV.sc (Go.Value.int Go.IntKind.u64 0)) (TK.int Go.IntKind.u64))),
  (13, (TI.mk 2 24 [(AV.st ([] : List UInt8)), (AV.sc (Go.Value.int Go.IntKind.u64 0))] (AV.ag [(AV.st ([] : List UInt8)), (AV.sc (Go.Value.int Go.IntKind.u64 0))]) (TK.struct [((0 : Nat), ((1 : Nat), Bool.false)), ((1 : Nat), ((1 : Nat), Bool.false))]))),
  (14, (TI.mk 2 24 [(AV.st ([] : List UInt8)), (AV.sc (Go.Value.int Go.IntKind.u64 0))] (AV.ag [(AV.st ([] : List UInt8)), (AV.sc (Go.Value.int Go.IntKind.u64 0))]) (TK.struct [((0 : Nat), ((1 : Nat), Bool.false)), ((1 : Nat), ((1 : Nat), Bool.false))]))),
  (15, (TI.mk 1 8 [(AV.sc (Go.Value.pointer Option.none))] (AV.sc (Go.Value.pointer Option.none)) (TK.ptr (128 : Nat)))),
  (16, (TI.mk 1 8 [(AV.sc (Go.Value.pointer Option.none))] (AV.sc (Go.Value.pointer Option.none)) (TK.ptr (131 : Nat)))),
  (17, (TI.mk 1 8 [(AV.sc (Go.Value.pointer Option.none))] (AV.sc (Go.Value.pointer Option.none)) (TK.ptr (141 : Nat)))),
  (18, (TI.mk 1 8 [(AV.sc (Go.Value.pointer Option.none))] (AV.ag [(AV.sc (Go.Value.pointer Option.none))]) (TK.struct [((0 : Nat), ((1 : Nat), Bool.false))]))),
  (19, (TI.mk 1 8 [(AV.sc (Go.Value.pointer Option.none))] (AV.ag [(AV.sc (Go.Value.pointer Option.none))]) (TK.struct [((0 : Nat), ((1 : Nat), Bool.false))]))),
  (20, (TI.mk 1 16 [(AV.sc Go.Value.nilIface)] (AV.sc Go.Value.nilIface) TK.other)),
  (21, (TI.mk 1 4 [(AV.sc (Go.Value.int Go.IntKind.i32 0))] (AV.sc (Go.Value.int Go.IntKind.i32 0)) (TK.int Go.IntKind.i32))),
  (22, (TI.mk 1 24 [AV.nl] AV.nl (TK.slice (58 : Nat)))),
  (23, (TI.mk 1 24 [AV.nl] AV.nl (TK.slice (45 : Nat)))),
  (24, (TI.mk 1 24 [AV.nl] AV.nl (TK.slice (5 : Nat)))),
  (25, (TI.mk 6 96 [(AV.i 0), (AV.i 0), AV.nl, AV.nl, (AV.i 0), AV.nl] (AV.ag [(AV.i 0), (AV.i 0), AV.nl, AV.nl, (AV.i 0), AV.nl]) (TK.struct [((0 : Nat), ((1 : Nat), Bool.false)), ((1 : Nat), ((1 : Nat), Bool.false)), ((2 : Nat), ((1 : Nat), Bool.false)), ((3 : Nat), ((1 : Nat), Bool.false)), ((4 : Nat), ((1 : Nat), Bool.false)), ((5 : Nat), ((1 : Nat), Bool.false))]))),
  (26, (TI.mk 6 96 [(AV.i 0), (AV.i 0), AV.nl, AV.nl, (AV.i 0), AV.nl] (AV.ag [(AV.i 0), (AV.i 0), AV.nl, AV.nl, (AV.i 0), AV.nl]) (TK.struct [((0 : Nat), ((1 : Nat), Bool.false)), ((1 : Nat), ((1 : Nat), Bool.false)), ((2 : Nat), ((1 : Nat), Bool.false)), ((3 : Nat), ((1 : Nat), Bool.false)), ((4 : Nat), ((1 : Nat), Bool.false)), ((5 : Nat), ((1 : Nat), Bool.false))]))),
  (27, (TI.mk 1 8 [(AV.sc Go.Value.nilFunc)] (AV.sc Go.Value.nilFunc) TK.func)),
  (28, (TI.mk 1 24 [AV.nl] AV.nl (TK.slice (3 : Nat)))),
  (29, (TI.mk 1 8 [(AV.sc Go.Value.nilFunc)] (AV.sc Go.Value.nilFunc) TK.func)),
  (30, (TI.mk 1 8 [(AV.sc Go.Value.nilFunc)] (AV.sc Go.Value.nilFunc) TK.func)),
  (31, (TI.mk 4 48 [(AV.i 0), (AV.i 0), (AV.i 0), AV.nl] (AV.ag [(AV.i 0), (AV.i 0), (AV.i 0), AV.nl]) (TK.struct [((0 : Nat), ((1 : Nat), Bool.false)), ((1 : Nat), ((1 : Nat), Bool.false)), ((2 : Nat), ((1 : Nat), Bool.false)), ((3 : Nat), ((1 : Nat), Bool.false))]))),
  (32, (TI.mk 4 48 [(AV.i 0), (AV.i 0), (AV.i 0), AV.nl] (AV.ag [(AV.i 0), (AV.i 0), (AV.i 0), AV.nl]) (TK.struct [((0 : Nat), ((1 : Nat), Bool.false)), ((1 : Nat), ((1 : Nat), Bool.false)), ((2 : Nat), ((1 : Nat), Bool.false)), ((3 : Nat), ((1 : Nat), Bool.false))]))),
  (33, (TI.mk 1 8 [(AV.i 0)] (AV.i 0) (TK.int Go.IntKind.i64))),
  (35, (TI.mk 1 8 [(AV.sc Go.Value.nilFunc)] (AV.sc Go.Value.nilFunc) TK.func)),
  (37, (TI.mk 1 8 [(AV.sc Go.Value.nilFunc)] (AV.sc Go.Value.nilFunc) TK.func)),
  (39, (TI.mk 1 8 [(AV.sc Go.Value.nilFunc)] (AV.sc Go.Value.nilFunc) TK.func)),
  (40, (TI.mk 6 80 [(AV.i 0), (AV.i 0), (AV.i 0), (AV.i 0), AV.nl, AV.nl] (AV.ag [(AV.i 0), (AV.i 0), (AV.i 0), (AV.i 0), AV.nl, AV.nl]) (TK.struct [((0 : Nat), ((1 : Nat), Bool.false)), ((1 : Nat), ((1 : Nat), Bool.false)), ((2 : Nat), ((1 : Nat), Bool.false)), ((3 : Nat), ((1 : Nat), Bool.false)), ((4 : Nat), ((1 : Nat), Bool.false)), ((5 : Nat), ((1 : Nat), Bool.false))]))),
  (41, (TI.mk 6 80 [(AV.i 0), (AV.i 0), (AV.i 0), (AV.i 0), AV.nl, AV.nl] (AV.ag [(AV.i 0), (AV.i 0), (AV.i 0), (AV.i 0), AV.nl, AV.nl]) (TK.struct [((0 : Nat), ((1 : Nat), Bool.false)), ((1 : Nat), ((1 : Nat), Bool.false)), ((2 : Nat), ((1 : Nat), Bool.false)), ((3 : Nat), ((1 : Nat), Bool.false)), ((4 : Nat), ((1 : Nat), Bool.false)), ((5 : Nat), ((1 : Nat), Bool.false))]))),
  (42, (TI.mk 1 8 [(AV.sc Go.Value.nilFunc)] (AV.sc Go.Value.nilFunc) TK.func)),
  (43, (TI.mk 1 8 [(AV.sc Go.Value.nilFunc)] (AV.sc Go.Value.nilFunc) TK.func)),
  (44, (TI.mk 3 40 [(AV.i 0), (AV.i 0), AV.nl] (AV.ag [(AV.i 0), (AV.i 0), AV.nl]) (TK.struct [((0 : Nat), ((1 : Nat), Bool.false)), ((1 : Nat), ((1 : Nat), Bool.false)), ((2 : Nat), ((1 : Nat), Bool.false))]))),
  (45, (TI.mk 3 40 [(AV.i 0), (AV.i 0), AV.nl] (AV.ag [(AV.i 0), (AV.i 0), AV.nl]) (TK.struct [((0 : Nat), ((1 : Nat), Bool.false)), ((1 : Nat), ((1 : Nat), Bool.false)), ((2 : Nat), ((1 : Nat), Bool.false))]))),
  (47, (TI.mk 1 8 [(AV.sc Go.Value.nilFunc)] (AV.sc Go.Value.nilFunc) TK.func)),
  (48, (TI.mk 1 8 [(AV.sc Go.Value.nilFunc)] (AV.sc Go.Value.nilFunc) TK.func)),
  (49, (TI.mk 1 8 [(AV.sc Go.Value.nilFunc)] (AV.sc Go.Value.nilFunc) TK.func)),
  (50, (TI.mk 1 8 [(AV.sc Go.Value.nilFunc)] (AV.sc Go.Value.nilFunc) TK.func)),
  (51, (TI.mk 1 8 [(AV.sc Go.Value.nilFunc)] (AV.sc Go.Value.nilFunc) TK.func)),
  (52, (TI.mk 1 8 [(AV.sc Go.Value.nilFunc)] (AV.sc Go.Value.nilFunc) TK.func)),
  (53, (TI.mk 1 8 [(AV.sc Go.Value.nilFunc)] (AV.sc Go.Value.nilFunc) TK.func)),
  (54, (TI.mk 1 24 [AV.nl] AV.nl (TK.slice (41 : Nat)))),
  (55, (TI.mk 1 8 [(AV.sc Go.Value.nilFunc)] (AV.sc Go.Value.nilFunc) TK.func)),
  (56, (TI.mk 64 64 (List.replicate (64 : Nat) (AV.b Bool.false)) (AV.ag (List.replicate (64 : Nat) (AV.b Bool.false))) (TK.array 64 (4 : Nat)))),
  (57, (TI.mk 5 56 [(AV.i 0), (AV.i 0), (AV.i 0), (AV.i 0), AV.nl] (AV.ag [(AV.i 0), (AV.i 0), (AV.i 0), (AV.i 0), AV.nl]) (TK.struct [((0 : Nat), ((1 : Nat), Bool.false)), ((1 : Nat), ((1 : Nat), Bool.false)), ((2 : Nat), ((1 : Nat), Bool.false)), ((3 : Nat), ((1 : Nat), Bool.false)), ((4 : Nat), ((1 : Nat), Bool.false))]))),
  (58, (TI.mk 5 56 [(AV.i 0), (AV.i 0), (AV.i 0), (AV.i 0), AV.nl] (AV.ag [(AV.i 0), (AV.i 0), (AV.i 0), (AV.i 0), AV.nl]) (TK.struct [((0 : Nat), ((1 : Nat), Bool.false)), ((1 : Nat), ((1 : Nat), Bool.false)), ((2 : Nat), ((1 : Nat), Bool.false)), ((3 : Nat), ((1 : Nat), Bool.false)), ((4 : Nat), ((1 : Nat), Bool.false))]))),
  (59, (TI.mk 1 8 [(AV.sc Go.Value.nilFunc)] (AV.sc Go.Value.nilFunc) TK.func)),
  (61, (TI.mk 1 8 [(AV.sc Go.Value.nilFunc)] (AV.sc Go.Value.nilFunc) TK.func)),
  (62, (TI.mk 1 8 [(AV.sc Go.Value.nilFunc)] (AV.sc Go.Value.nilFunc) TK.func)),
  (63, (TI.mk 1 8 [(AV.sc Go.Value.nilFunc)] (AV.sc Go.Value.nilFunc) TK.func)),
  (64, (TI.mk 1 8 [(AV.sc Go.Value.nilFunc)] (AV.sc Go.Value.nilFunc) TK.func)),
  (65, (TI.mk 1 8 [(AV.sc Go.Value.nilFunc)] (AV.sc Go.Value.nilFunc) TK.func)),
  (66, (TI.mk 1 8 [(AV.sc Go.Value.nilFunc)] (AV.sc Go.Value.nilFunc) TK.func)),
  (67, (TI.mk 1 8 [(AV.sc Go.Value.nilFunc)] (AV.sc Go.Value.nilFunc) TK.func)),
  (68, (TI.mk 1 8 [(AV.sc Go.Value.nilFunc)] (AV.sc Go.Value.nilFunc) TK.func)),
  (69, (TI.mk 1 8 [(AV.sc Go.Value.nilFunc)] (AV.sc Go.Value.nilFunc) TK.func)),
  (70, (TI.mk 6 96 [(AV.i 0), (AV.i 0), AV.nl, AV.nl, (AV.i 0), AV.nl] (AV.ag [(AV.i 0), (AV.i 0), AV.nl, AV.nl, (AV.i 0), AV.nl]) (TK.struct [((0 : Nat), ((1 : Nat), Bool.false)), ((1 : Nat), ((1 : Nat), Bool.false)), ((2 : Nat), ((1 : Nat), Bool.false)), ((3 : Nat), ((1 : Nat), Bool.false)), ((4 : Nat), ((1 : Nat), Bool.false)), ((5 : Nat), ((1 : Nat), Bool.false))]))),
  (71, (TI.mk 1 8 [(AV.sc Go.Value.nilFunc)] (AV.sc Go.Value.nilFunc) TK.func)),
  (72, (TI.mk 1 8 [(AV.sc (Go.Value.map Option.none))] (AV.sc (Go.Value.map Option.none)) (TK.map (3 : Nat) (71 : Nat)))),
  (73, (TI.mk 1 8 [(AV.sc Go.Value.nilFunc)] (AV.sc Go.Value.nilFunc) TK.func)),
  (74, (TI.mk 1 8 [(AV.sc (Go.Value.pointer Option.none))] (AV.sc (Go.Value.pointer Option.none)) (TK.ptr (70 : Nat)))),
  (75, (TI.mk 1 8 [(AV.sc Go.Value.nilFunc)] (AV.sc Go.Value.nilFunc) TK.func)),
  (76, (TI.mk 1 24 [AV.nl] AV.nl (TK.slice (81 : Nat)))),
  (78, (TI.mk 1 8 [(AV.sc Go.Value.nilFunc)] (AV.sc Go.Value.nilFunc) TK.func)),
  (79, (TI.mk 32 32 (List.replicate (32 : Nat) (AV.y (UInt8.ofNat (0 : Nat)))) (AV.ag (List.replicate (32 : Nat) (AV.y (UInt8.ofNat (0 : Nat))))) (TK.array 32 (5 : Nat)))),
  (80, (TI.mk 34 48 ((AV.i 0) :: (AV.i 0) :: List.replicate (32 : Nat) (AV.y (UInt8.ofNat (0 : Nat)))) (AV.ag ((AV.i 0) :: (AV.i 0) :: List.replicate (32 : Nat) (AV.y (UInt8.ofNat (0 : Nat))))) (TK.struct [((0 : Nat), ((1 : Nat), Bool.false)), ((1 : Nat), ((1 : Nat), Bool.false)), ((2 : Nat), ((32 : Nat), Bool.true))]))),
  (81, (TI.mk 34 48 ((AV.i 0) :: (AV.i 0) :: List.replicate (32 : Nat) (AV.y (UInt8.ofNat (0 : Nat)))) (AV.ag ((AV.i 0) :: (AV.i 0) :: List.replicate (32 : Nat) (AV.y (UInt8.ofNat (0 : Nat))))) (TK.struct [((0 : Nat), ((1 : Nat), Bool.false)), ((1 : Nat), ((1 : Nat), Bool.false)), ((2 : Nat), ((32 : Nat), Bool.true))]))),
  (82, (TI.mk 1 8 [(AV.sc Go.Value.nilFunc)] (AV.sc Go.Value.nilFunc) TK.func)),
  (83, (TI.mk 1 8 [(AV.sc Go.Value.nilFunc)] (AV.sc Go.Value.nilFunc) TK.func)),
  (84, (TI.mk 1 8 [(AV.sc Go.Value.nilFunc)] (AV.sc Go.Value.nilFunc) TK.func)),
  (85, (TI.mk 1 8 [(AV.sc Go.Value.nilFunc)] (AV.sc Go.Value.nilFunc) TK.func)),
  (86, (TI.mk 1 8 [(AV.sc Go.Value.nilFunc)] (AV.sc Go.Value.nilFunc) TK.func)),
  (87, (TI.mk 1 8 [(AV.sc Go.Value.nilFunc)] (AV.sc Go.Value.nilFunc) TK.func)),
  (89, (TI.mk 1 8 [(AV.sc Go.Value.nilFunc)] (AV.sc Go.Value.nilFunc) TK.func)),
  (90, (TI.mk 1 8 [(AV.sc Go.Value.nilFunc)] (AV.sc Go.Value.nilFunc) TK.func)),
  (91, (TI.mk 1 8 [(AV.sc Go.Value.nilFunc)] (AV.sc Go.Value.nilFunc) TK.func)),
  (92, (TI.mk 1 8 [(AV.sc Go.Value.nilFunc)] (AV.sc Go.Value.nilFunc) TK.func)),
  (93, (TI.mk 1 8 [(AV.sc Go.Value.nilFunc)] (AV.sc Go.Value.nilFunc) TK.func)),
  (94, (TI.mk 1 8 [(AV.sc Go.Value.nilFunc)] (AV.sc Go.Value.nilFunc) TK.func)),
  (95, (TI.mk 4 16 [(AV.b Bool.false), (AV.b Bool.false), (AV.b Bool.false), (AV.sc Go.Value.nilFunc)] (AV.ag [(AV.b Bool.false), (AV.b Bool.false), (AV.b Bool.false), (AV.sc Go.Value.nilFunc)]) (TK.struct [((0 : Nat), ((1 : Nat), Bool.false)), ((1 : Nat), ((1 : Nat), Bool.false)), ((2 : Nat), ((1 : Nat), Bool.false)), ((3 : Nat), ((1 : Nat), Bool.false))]))),
  (96, (TI.mk 4 16 [(AV.b Bool.false), (AV.b Bool.false), (AV.b Bool.false), (AV.sc Go.Value.nilFunc)] (AV.ag [(AV.b Bool.false), (AV.b Bool.false), (AV.b Bool.false), (AV.sc Go.Value.nilFunc)]) (TK.struct [((0 : Nat), ((1 : Nat), Bool.false)), ((1 : Nat), ((1 : Nat), Bool.false)), ((2 : Nat), ((1 : Nat), Bool.false)), ((3 : Nat), ((1 : Nat), Bool.false))]))),
  (97, (TI.mk 36 144 [(AV.b Bool.false), (AV.b Bool.false), (AV.b Bool.false), (AV.sc Go.Value.nilFunc), (AV.b Bool.false), (AV.b Bool.false), (AV.b Bool.false), (AV.sc Go.Value.nilFunc), (AV.b Bool.false), (AV.b Bool.false), (AV.b Bool.false), (AV.sc Go.Value.nilFunc), (AV.b Bool.false), (AV.b Bool.false), (AV.b Bool.false), (AV.sc Go.Value.nilFunc), (AV.b Bool.false), (AV.b Bool.false), (AV.b Bool.false), (AV.sc Go.Value.nilFunc), (AV.b Bool.false), (AV.b Bool.false), (AV.b Bool.false), (AV.sc Go.Value.nilFunc), (AV.b Bool.false), (AV.b Bool.false), (AV.b Bool.false), (AV.sc Go.Value.nilFunc), (AV.b Bool.false), (AV.b Bool.false), (AV.b Bool.false), (AV.sc Go.Value.nilFunc), (AV.b Bool.false), (AV.b Bool.false), (AV.b Bool.false), (AV.sc Go.Value.nilFunc)] (AV.ag [(AV.b Bool.false), (AV.b Bool.false), (AV.b Bool.false), (AV.sc Go.Value.nilFunc), (AV.b Bool.false), (AV.b Bool.false), (AV.b Bool.false), (AV.sc Go.Value.nilFunc), (AV.b Bool.false), (AV.b Bool.false), (AV.b Bool.false), (AV.sc Go.Value.nilFunc), (AV.b Bool.false), (AV.b Bool.false), (AV.b Bool.false), (AV.sc Go.Value.nilFunc), (AV.b Bool.false), (AV.b Bool.false), (AV.b Bool.false), (AV.sc Go.Value.nilFunc), (AV.b Bool.false), (AV.b Bool.false), (AV.b Bool.false), (AV.sc Go.Value.nilFunc), (AV.b Bool.false), (AV.b Bool.false), (AV.b Bool.false), (AV.sc Go.Value.nilFunc), (AV.b Bool.false), (AV.b Bool.false), (AV.b Bool.false), (AV.sc Go.Value.nilFunc), (AV.b Bool.false), (AV.b Bool.false), (AV.b Bool.false), (AV.sc Go.Value.nilFunc)]) (TK.array 9 (96 : Nat)))),
  (98, (TI.mk 1 8 [(AV.sc Go.Value.nilFunc)] (AV.sc Go.Value.nilFunc) TK.func)),
  (99, (TI.mk 1 8 [(AV.sc Go.Value.nilFunc)] (AV.sc Go.Value.nilFunc) TK.func)),
  (100, (TI.mk 1 8 [(AV.sc Go.Value.nilFunc)] (AV.sc Go.Value.nilFunc) TK.func)),
  (101, (TI.mk 1 8 [(AV.sc Go.Value.nilFunc)] (AV.sc Go.Value.nilFunc) TK.func)),
  (102, (TI.mk 1 8 [(AV.sc Go.Value.nilFunc)] (AV.sc Go.Value.nilFunc) TK.func)),
  (103, (TI.mk 1 8 [(AV.sc Go.Value.nilFunc)] (AV.sc Go.Value.nilFunc) TK.func)),
  (104, (TI.mk 1 8 [(AV.sc Go.Value.nilFunc)] (AV.sc Go.Value.nilFunc) TK.func)),
  (105, (TI.mk 1 8 [(AV.sc Go.Value.nilFunc)] (AV.sc Go.Value.nilFunc) TK.func)),
  (106, (TI.mk 1 8 [(AV.sc Go.Value.nilFunc)] (AV.sc Go.Value.nilFunc) TK.func)),
  (107, (TI.mk 1 8 [(AV.sc Go.Value.nilFunc)] (AV.sc Go.Value.nilFunc) TK.func)),
  (109, (TI.mk 1 8 [(AV.sc Go.Value.nilFunc)] (AV.sc Go.Value.nilFunc) TK.func)),
  (110, (TI.mk 1 8 [(AV.sc Go.Value.nilFunc)] (AV.sc Go.Value.nilFunc) TK.func)),
  (111, (TI.mk 1 8 [(AV.sc Go.Value.nilFunc)] (AV.sc Go.Value.nilFunc) TK.func)),
  (112, (TI.mk 1 8 [(AV.sc Go.Value.nilFunc)] (AV.sc Go.Value.nilFunc) TK.func)),
  (113, (TI.mk 1 8 [(AV.sc Go.Value.nilFunc)] (AV.sc Go.Value.nilFunc) TK.func)),
  (114, (TI.mk 1 8 [(AV.sc Go.Value.nilFunc)] (AV.sc Go.Value.nilFunc) TK.func)),
  (115, (TI.mk 1 8 [(AV.sc Go.Value.nilFunc)] (AV.sc Go.Value.nilFunc) TK.func)),
  (117, (TI.mk 1 8 [(AV.sc Go.Value.nilFunc)] (AV.sc Go.Value.nilFunc) TK.func)),
  (118, (TI.mk 1 8 [(AV.sc Go.Value.nilFunc)] (AV.sc Go.Value.nilFunc) TK.func)),
  (119, (TI.mk 1 8 [(AV.sc Go.Value.nilFunc)] (AV.sc Go.Value.nilFunc) TK.func)),
  (120, (TI.mk 1 8 [(AV.sc Go.Value.nilFunc)] (AV.sc Go.Value.nilFunc) TK.func)),
  (121, (TI.mk 2 16 [(AV.b Bool.false), (AV.i 0)] (AV.ag [(AV.b Bool.false), (AV.i 0)]) (TK.struct [((0 : Nat), ((1 : Nat), Bool.false)), ((1 : Nat), ((1 : Nat), Bool.false))]))),
  (122, (TI.mk 2 16 [(AV.b Bool.false), (AV.i 0)] (AV.ag [(AV.b Bool.false), (AV.i 0)]) (TK.struct [((0 : Nat), ((1 : Nat), Bool.false)), ((1 : Nat), ((1 : Nat), Bool.false))]))),
  (123, (TI.mk 1 8 [(AV.sc Go.Value.nilFunc)] (AV.sc Go.Value.nilFunc) TK.func)),
  (124, (TI.mk 1 8 [(AV.sc Go.Value.nilFunc)] (AV.sc Go.Value.nilFunc) TK.func)),
  (125, (TI.mk 1 8 [(AV.sc Go.Value.nilFunc)] (AV.sc Go.Value.nilFunc) TK.func)),
  (126, (TI.mk 1 8 [(AV.sc Go.Value.nilFunc)] (AV.sc Go.Value.nilFunc) TK.func)),
  (127, (TI.mk 4 40 [(AV.sc (Go.Value.pointer Option.none)), (AV.sc (Go.Value.pointer Option.none)), (AV.sc (Go.Value.pointer Option.none)), (AV.st ([] : List UInt8))] (AV.ag [(AV.sc (Go.Value.pointer Option.none)), (AV.sc (Go.Value.pointer Option.none)), (AV.sc (Go.Value.pointer Option.none)), (AV.st ([] : List UInt8))]) (TK.struct [((0 : Nat), ((1 : Nat), Bool.false)), ((1 : Nat), ((1 : Nat), Bool.false)), ((2 : Nat), ((1 : Nat), Bool.false)), ((3 : Nat), ((1 : Nat), Bool.false))]))),
  (128, (TI.mk 4 40 [(AV.sc (Go.Value.pointer Option.none)), (AV.sc (Go.Value.pointer Option.none)), (AV.sc (Go.Value.pointer Option.none)), (AV.st ([] : List UInt8))] (AV.ag [(AV.sc (Go.Value.pointer Option.none)), (AV.sc (Go.Value.pointer Option.none)), (AV.sc (Go.Value.pointer Option.none)), (AV.st ([] : List UInt8))]) (TK.struct [((0 : Nat), ((1 : Nat), Bool.false)), ((1 : Nat), ((1 : Nat), Bool.false)), ((2 : Nat), ((1 : Nat), Bool.false)), ((3 : Nat), ((1 : Nat), Bool.false))]))),
  (129, (TI.mk 0 0 ([] : List AV) (AV.ag ([] : List AV)) (TK.array 0 (16 : Nat)))),
  (130, (TI.mk 0 0 ([] : List AV) (AV.ag ([] : List AV)) (TK.struct [((0 : Nat), ((0 : Nat), Bool.true))]))),
  (131, (TI.mk 0 0 ([] : List AV) (AV.ag ([] : List AV)) (TK.struct [((0 : Nat), ((0 : Nat), Bool.true))]))),
  (132, (TI.mk 1 8 [(AV.sc Go.Value.nilFunc)] (AV.sc Go.Value.nilFunc) TK.func)),
  (133, (TI.mk 1 4 [(AV.sc (Go.Value.int Go.IntKind.u32 0))] (AV.sc (Go.Value.int Go.IntKind.u32 0)) (TK.int Go.IntKind.u32))),
  (134, (TI.mk 1 1 [(AV.y (UInt8.ofNat (0 : Nat)))] (AV.y (UInt8.ofNat (0 : Nat))) (TK.int Go.IntKind.u8))),
  (135, (TI.mk 1 1 [(AV.y (UInt8.ofNat (0 : Nat)))] (AV.y (UInt8.ofNat (0 : Nat))) (TK.int Go.IntKind.u8))),
  (136, (TI.mk 1 8 [(AV.sc Go.Value.nilFunc)] (AV.sc Go.Value.nilFunc) TK.func)),
  (137, (TI.mk 1 8 [(AV.sc (Go.Value.pointer Option.none))] (AV.sc (Go.Value.pointer Option.none)) (TK.ptr (5 : Nat)))),
  (138, (TI.mk 1 4 [(AV.sc (Go.Value.int Go.IntKind.i32 0))] (AV.sc (Go.Value.int Go.IntKind.i32 0)) (TK.int Go.IntKind.i32))),
  (139, (TI.mk 1 4 [(AV.sc (Go.Value.int Go.IntKind.i32 0))] (AV.sc (Go.Value.int Go.IntKind.i32 0)) (TK.int Go.IntKind.i32)))]
noncomputable def vwF : List (Nat × AF) := [(2, afOf Try.f2), (3, afOf Try.f3), (4, afOf Try.f4), (5, afOf Try.f5), (6, afOf Try.f6), (7, afOf Try.f7), (8, afOf Try.f8), (9, afOf Try.f9), (10, afOf Try.f10), (11, afOf Try.f11), (12, afOf Try.f12), (13, afOf Try.f13), (14, afOf Try.f14), (15, afOf Try.f15), (16, afOf Try.f16), (17, afOf Try.f17), (18, afOf Try.f18), (19, afOf Try.f19), (20, afOf Try.f20), (21, afOf Try.f21), (22, afOf Try.f22), (23, afOf Try.f23), (24, afOf Try.f24), (25, afOf Try.f25), (26, afOf Try.f26), (27, afOf Try.f27), (28, afOf Try.f28), (29, afOf Try.f29), (30, afOf Try.f30), (31, afOf Try.f31), (32, afOf Try.f32), (33, afOf Try.f33), (34, afOf Try.f34), (35, afOf Try.f35), (36, afOf Try.f36), (37, afOf Try.f37), (38, afOf Try.f38), (39, afOf Try.f39), (40, afOf Try.f40), (41, afOf Try.f41), (42, afOf Try.f42), (43, afOf Try.f43), (44, afOf Try.f44), (45, afOf Try.f45), (46, afOf Try.f46), (47, afOf Try.f47), (48, afOf Try.f48), (49, afOf Try.f49), (50, afOf Try.f50), (51, afOf Try.f51), (52, afOf Try.f52), (53, afOf Try.f53), (54, afOf Try.f54), (55, afOf Try.f55), (56, afOf Try.f56), (57, afOf Try.f57), (58, afOf Try.f58), (59, afOf Try.f59), (60, afOf Try.f60), (61, afOf Try.f61), (62, afOf Try.f62), (63, afOf Try.f63), (64, afOf Try.f64), (65, afOf Try.f65), (66, afOf Try.f66), (67, afOf Try.f67), (68, afOf Try.f68), (69, afOf Try.f69), (70, afOf Try.f70), (71, afOf Try.f71), (72, afOf Try.f72), (73, afOf Try.f73), (74, afOf Try.f74), (75, afOf Try.f75), (76, afOf Try.f76), (77, afOf Try.f77), (78, afOf Try.f78), (79, afOf Try.f79), (80, afOf Try.f80), (81, afOf Try.f81), (82, afOf Try.f82), (83, afOf Try.f83), (84, afOf Try.f84), (85, afOf Try.f85), (86, afOf Try.f86), (87, afOf Try.f87), (88, afOf Try.f88), (89, afOf Try.f89), (90, afOf Try.f90), (91, afOf Try.f91), (92, afOf Try.f92), (93, afOf Try.f93), (94, afOf Try.f94), (95, afOf Try.f95), (96, afOf Try.f96)]
noncomputable def vw : View := View.mkT Try.prog vwT vwF
theorem vwT_ok : ∀ x ∈ vwT, tinfo Try.prog x.1 = some x.2 := (all_cons kq (all_cons kq (all_cons kq (all_cons kq (all_cons kq (all_cons kq (all_cons kq (all_cons kq (all_cons kq (all_cons kq (all_cons kq (all_cons kq (all_cons kq (all_cons kq (all_cons kq (all_cons kq (all_cons kq (all_cons kq (all_cons kq (all_cons kq (all_cons kq (all_cons kq (all_cons kq (all_cons kq (all_cons kq (all_cons kq (all_cons kq (all_cons kq (all_cons kq (all_cons kq (all_cons kq (all_cons kq (all_cons kq (all_cons kq (all_cons kq (all_cons kq (all_cons kq (all_cons kq (all_cons kq (all_cons kq (all_cons kq (all_cons kq (all_cons kq (all_cons kq (all_cons kq (all_cons kq (all_cons kq (all_cons kq (all_cons kq (all_cons kq (all_cons kq (all_cons kq (all_cons kq (all_cons kq (all_cons kq (all_cons kq (all_cons kq (all_cons kq (all_cons kq (all_cons kq (all_cons kq (all_cons kq (all_cons kq (all_cons kq (all_cons kq (all_cons kq (all_cons kq (all_cons kq (all_cons kq (all_cons kq (all_cons kq (all_cons kq (all_cons kq (all_cons kq (all_cons kq (all_cons kq (all_cons kq (all_cons kq (all_cons kq (all_cons kq (all_cons kq (all_cons kq (all_cons kq (all_cons kq (all_cons kq (all_cons kq (all_cons kq (all_cons kq (all_cons kq (all_cons kq (all_cons kq (all_cons kq (all_cons kq (all_cons kq (all_cons kq (all_cons kq (all_cons kq (all_cons kq (all_cons kq (all_cons kq (all_cons kq (all_cons kq (all_cons kq (all_cons kq (all_cons kq (all_cons kq (all_cons kq (all_cons kq (all_cons kq (all_cons kq (all_cons kq (all_cons kq (all_cons kq (all_cons kq (all_cons kq (all_cons kq (all_cons kq (all_cons kq (all_cons kq (all_cons kq (all_cons kq (all_cons kq (all_cons kq (all_cons kq (all_cons kq (all_cons kq (all_cons kq (all_cons kq (all_cons kq (all_cons kq all_nil))))))))))))))))))))))))))))))))))))))))))))))))))))))))))))))))))))))))))))))))))))))))))))))))))))))))))))))))))))))))))))))))))
theorem vwF_ok : ∀ x ∈ vwF, afun Try.prog x.1 = some x.2 := (all_cons kq (all_cons kq (all_cons kq (all_cons kq (all_cons kq (all_cons kq (all_cons kq (all_cons kq (all_cons kq (all_cons kq (all_cons kq (all_cons kq (all_cons kq (all_cons kq (all_cons kq (all_cons kq (all_cons kq (all_cons kq (all_cons kq (all_cons kq (all_cons kq (all_cons kq (all_cons kq (all_cons kq (all_cons kq (all_cons kq (all_cons kq (all_cons kq (all_cons kq (all_cons kq (all_cons kq (all_cons kq (all_cons kq (all_cons kq (all_cons kq (all_cons kq (all_cons kq (all_cons kq (all_cons kq (all_cons kq (all_cons kq (all_cons kq (all_cons kq (all_cons kq (all_cons kq (all_cons kq (all_cons kq (all_cons kq (all_cons kq (all_cons kq (all_cons kq (all_cons kq (all_cons kq (all_cons kq (all_cons kq (all_cons kq (all_cons kq (all_cons kq (all_cons kq (all_cons kq (all_cons kq (all_cons kq (all_cons kq (all_cons kq (all_cons kq (all_cons kq (all_cons kq (all_cons kq (all_cons kq (all_cons kq (all_cons kq (all_cons kq (all_cons kq (all_cons kq (all_cons kq (all_cons kq (all_cons kq (all_cons kq (all_cons kq (all_cons kq (all_cons kq (all_cons kq (all_cons kq (all_cons kq (all_cons kq (all_cons kq (all_cons kq (all_cons kq (all_cons kq (all_cons kq (all_cons kq (all_cons kq (all_cons kq (all_cons kq (all_cons kq all_nil)))))))))))))))))))))))))))))))))))))))))))))))))))))))))))))))))))))))))))))))))))))))))))))))
theorem vw_eq : vw = View.of Try.prog := View.mkT_eq vwT_ok vwF_ok
theorem ord_16_0 : orderOk (rg Try.prog 16 0) = true := by kernel_rfl
theorem bef_16_0 : Region.before (rg Try.prog 16 0) = #[0, 0, 3, 7, 15, 0, 0, 96, 224, 480, 1023, 2047, 4095, 4095, 16383, 32767, 65535, 131071, 4095, 4095, 790527, 1839103, 3936255, 8130559, 16777215, 33554431] := by kernel_rfl
theorem ord_19_0 : orderOk (rg Try.prog 19 0) = true := by kernel_rfl
theorem bef_19_0 : Region.before (rg Try.prog 19 0) = #[0, 1, 3, 7, 15, 31, 63, 127, 255, 511, 1023, 511, 4095, 8191, 16383, 32767, 65535, 131071, 262143, 524287, 262143, 1310719, 4194303, 8388607, 262143, 33554431, 67108863, 134217727] := by kernel_rfl
theorem ord_22_0 : orderOk (rg Try.prog 22 0) = true := by kernel_rfl
theorem bef_22_0 : Region.before (rg Try.prog 22 0) = #[0, 1, 3, 0, 8, 31, 0, 64, 255, 223, 1023, 2047, 4095, 8191, 16383] := by kernel_rfl
theorem ord_22_1 : orderOk (rg Try.prog 22 1) = true := by kernel_rfl
theorem bef_22_1 : Region.before (rg Try.prog 22 1) = #[0, 1, 0, 0, 8, 24, 63, 127, 255] := by kernel_rfl
theorem ord_26_0 : orderOk (rg Try.prog 26 0) = true := by kernel_rfl
theorem bef_26_0 : Region.before (rg Try.prog 26 0) = #[0, 0, 2, 7, 15, 0, 63, 127, 255, 255, 0, 1535, 4095] := by kernel_rfl
theorem ord_34_0 : orderOk (rg Try.prog 34 0) = true := by kernel_rfl
theorem bef_34_0 : Region.before (rg Try.prog 34 0) = #[0, 0, 2, 0, 8, 0, 32, 96, 224, 510, 1022, 2047, 4095] := by kernel_rfl
theorem ord_38_0 : orderOk (rg Try.prog 38 0) = true := by kernel_rfl
theorem bef_38_0 : Region.before (rg Try.prog 38 0) = #[0, 1, 3, 7, 15, 31, 15, 79, 207, 511, 1023, 2047, 4095, 8191, 16383, 32767, 65535, 131071, 262143, 524287, 1048575, 2097151, 4194303, 8388607, 16777215, 4194303, 37748735, 134217727, 268435455, 536870911] := by kernel_rfl
theorem ord_45_0 : orderOk (rg Try.prog 45 0) = true := by kernel_rfl
theorem bef_45_0 : Region.before (rg Try.prog 45 0) = #[0, 1, 3, 0, 8, 31, 63, 127] := by kernel_rfl
theorem ord_46_0 : orderOk (rg Try.prog 46 0) = true := by kernel_rfl
theorem bef_46_0 : Region.before (rg Try.prog 46 0) = #[0, 1, 3, 7, 15, 31, 15, 127, 255, 511, 1023, 2047, 4095, 8191, 8191, 24575, 65535, 131071, 8191, 524287, 1048575, 2097151] := by kernel_rfl
theorem ord_48_0 : orderOk (rg Try.prog 48 0) = true := by kernel_rfl
theorem bef_48_0 : Region.before (rg Try.prog 48 0) = #[0, 0, 2, 7, 15, 0, 63, 127, 255, 255, 0, 1535, 4095] := by kernel_rfl
theorem ord_71_0 : orderOk (rg Try.prog 71 0) = true := by kernel_rfl
theorem bef_71_0 : Region.before (rg Try.prog 71 0) = #[0, 0, 2, 7, 0, 0, 32, 96, 240, 15, 1023] := by kernel_rfl
theorem ord_75_0 : orderOk (rg Try.prog 75 0) = true := by kernel_rfl
theorem bef_75_0 : Region.before (rg Try.prog 75 0) = #[0, 1, 0, 7, 0, 16, 0, 64, 240, 0, 0, 1536, 4080, 15, 16383] := by kernel_rfl
theorem clones : CloneOk Try.prog cf.clone :=
  (cloneOk_cons (clone_at Try.func42 rfl rfl rfl (by kernel_rfl) (t := 23) (by kernel_rfl)) (cloneOk_cons (clone_at Try.func43 rfl rfl rfl (by kernel_rfl) (t := 24) (by kernel_rfl)) (cloneOk_cons (del_at (by kernel_rfl) Try.func83 rfl rfl rfl rfl (by kernel_rfl) (t := 23) (wd := 40) (by kernel_rfl)) (cloneOk_nil _))))
end Ab
end Go.Proofs.Ytpflcogplhigcaa
namespace Go.Proofs.Ytpflcogplhigcaa
open Go Go.Proofs.Ytpflcogplhigcaa.Ab
set_option linter.unusedVariables false
set_option linter.unusedSimpArgs false
namespace Ab
theorem wr_id {x : Int} (h1 : -9223372036854775808 ≤ x) (h2 : x ≤ 9223372036854775807) : wr x = x := by
  simp [wr, IntKind.wrap, IntKind.bits, IntKind.signed]
  omega
section
variable {α β σ : Type}
@[simp] theorem tb_t (x y : Option α) : tb true x y = x := rfl
@[simp] theorem tb_f (x y : Option α) : tb false x y = y := rfl
theorem tb_pos {c : Bool} {x y : Option α} (h : c = true) : tb c x y = x := by subst h; rfl
theorem tb_neg {c : Bool} {x y : Option α} (h : c = false) : tb c x y = y := by subst h; rfl
theorem tp_pos {p : Prop} [Decidable p] {x : Option α} (h : p) : tp p x = x := if_pos h
@[simp] theorem tc_some (s : β) (f : β → Option α) : tc (some s) f = f s := rfl
theorem tb_ite (c : Bool) (x y : Option α) : tb c x y = if c = true then x else y := by cases c <;> rfl
theorem tb_dec (p : Prop) [Decidable p] (x y : Option α) : tb (decide p) x y = if p then x else y := by
  by_cases h : p <;> simp [h]
theorem tb_beq (a b : Int) (x y : Option α) : tb (a == b) x y = if a = b then x else y := by
  by_cases h : a = b
  · rw [if_pos h]; exact tb_pos (beq_iff_eq.2 h)
  · rw [if_neg h]; exact tb_neg (beq_eq_false_iff_ne.2 h)
theorem tb_bne (a b : Int) (x y : Option α) : tb (a != b) x y = if a = b then y else x := by
  by_cases h : a = b
  · rw [if_pos h]; exact tb_neg (bne_eq_false_iff_eq.2 h)
  · rw [if_neg h]; exact tb_pos (bne_iff_ne.2 h)
theorem tb_not (c : Bool) (x y : Option α) : tb (!c) x y = tb c y x := by cases c <;> rfl
theorem th_rec {step : σ → Option σ} {s0 : σ} {f : σ → Option α} (g : σ → Option α) (I : σ → Prop) (m : σ → Nat) (h0 : I s0)
    (h : ∀ s, I s → (∃ s', step s = some s' ∧ I s' ∧ m s' < m s ∧ g s' = g s) ∨ (step s = none ∧ f s = g s)) : th step s0 f = g s0 := by
  refine th_inv (fun s => I s ∧ g s = g s0) m ⟨h0, rfl⟩ (fun s s' hs e => ?_) (fun s hs e => ?_)
  · rcases h s hs.1 with ⟨s1, e1, i1, m1, g1⟩ | ⟨e1, _⟩
    · rw [e] at e1; injection e1 with e1; subst e1; exact ⟨⟨i1, g1.trans hs.2⟩, m1⟩
    · rw [e] at e1; cases e1
  · rcases h s hs.1 with ⟨s1, e1, _⟩ | ⟨_, e1⟩
    · rw [e] at e1; cases e1
    · rw [e1, hs.2]
theorem th_run {step : σ → Option σ} {f : σ → Option α} (S : Nat → σ) (k : Nat) (hs : ∀ i, i < k → step (S i) = some (S (i + 1))) (he : step (S k) = none) : th step (S 0) f = f (S k) := by
  have : ∀ n, n ≤ k → Runs step (S (k - n)) (S k) := by
    intro n
    induction n with
    | zero => exact fun _ => .refl _
    | succ n ih =>
      intro hn
      refine .step (hs _ (by omega)) ?_
      rw [show k - (n + 1) + 1 = k - n by omega]
      exact ih (by omega)
  have h := this k (Nat.le_refl _)
  rw [Nat.sub_self] at h
  exact th_of h he rfl
theorem th_all {step : Int → Option Int} {f : Int → Option α} (r1 r2 : Option α) (n : Nat) (P : Nat → Prop) (Q : Prop) [Decidable Q] (hQ : (∀ i, i < n → P i) ↔ Q) (hs : ∀ i : Nat, i < n → P i → step (i : Int) = some ((i : Int) + 1)) (hf : ∀ i : Nat, i < n → ¬ P i → step (i : Int) = none ∧ f (i : Int) = r1) (he : step (n : Int) = none ∧ f (n : Int) = r2) :
    th step 0 f = if Q then r2 else r1 := by
  by_cases h : ∀ i, i < n → P i
  · rw [if_pos (hQ.1 h)]
    have := th_run (step := step) (f := f) (fun i => (i : Int)) n (fun i hi => hs i hi (h i hi)) he.1
    simp only [Int.natCast_zero] at this
    rw [this]; exact he.2
  · rw [if_neg (fun g => h (hQ.2 g))]
    have hex : ∃ i, i < n ∧ ¬ P i := by
      refine Classical.byContradiction fun hn => h fun i hi => ?_
      exact Classical.byContradiction fun hp => hn ⟨i, hi, hp⟩
    have key : ∀ k, (∃ i, i < k ∧ i < n ∧ ¬ P i) → ∃ i, i < n ∧ ¬ P i ∧ ∀ j, j < i → P j := by
      intro k
      induction k with
      | zero => rintro ⟨i, hi, _⟩; omega
      | succ k ih =>
        rintro ⟨i, h1, h2, h3⟩
        by_cases hk : ∃ i, i < k ∧ i < n ∧ ¬ P i
        · exact ih hk
        · have hik : i = k := by
            rcases Nat.lt_or_ge i k with g | g
            · exact absurd ⟨i, g, h2, h3⟩ hk
            · omega
          refine ⟨i, h2, h3, fun j hj => ?_⟩
          exact Classical.byContradiction fun hp => hk ⟨j, by omega, by omega, hp⟩
    obtain ⟨i, h1, h2⟩ := hex
    obtain ⟨k, k1, k2, k3⟩ := key (i + 1) ⟨i, by omega, h1, h2⟩
    have := th_run (step := step) (f := f) (fun i => (i : Int)) k (fun i hi => hs i (by omega) (k3 i hi)) (hf k k1 k2).1
    simp only [Int.natCast_zero] at this
    rw [this]; exact (hf k k1 k2).2
end
theorem drop_at {α : Type} (d : α) (l : List α) (i : Nat) (h : i < l.length) : l.drop i = l.getD i d :: l.drop (i + 1) := by
  rw [List.drop_eq_getElem_cons h]; simp [h]
theorem take_at {α : Type} (d : α) (l : List α) (i : Nat) (h : i < l.length) : l.take (i + 1) = l.take i ++ [l.getD i d] := by
  rw [List.take_succ_eq_append_getElem h]; simp [h]
theorem getD_all {α : Type} (d : α) (l : List α) (p : α → Prop) : (∀ i, i < l.length → p (l.getD i d)) ↔ ∀ x ∈ l, p x := by
  refine ⟨fun h x hx => ?_, fun h i hi => h _ ?_⟩
  · obtain ⟨i, hi, e⟩ := List.getElem_of_mem hx
    have := h i hi
    rw [← e]
    simpa [hi] using this
  · simp [hi]
end Ab
end Go.Proofs.Ytpflcogplhigcaa
namespace Go.Proofs.Ytpflcogplhigcaa.Ab
open Go
abbrev xc (x : Ex) : List AV := [AV.i x.lba, AV.i x.len, AV.i x.kind, AV.i x.gen, AV.sl (List.length x.d) (List.map AV.y x.d)]
end Go.Proofs.Ytpflcogplhigcaa.Ab
namespace Go.Proofs.Ytpflcogplhigcaa
open Go Go.Proofs.Ytpflcogplhigcaa.Ab
set_option linter.unusedVariables false
set_option linter.unusedSimpArgs false
set_option maxRecDepth 1000000
set_option maxHeartbeats 0
namespace Ab
noncomputable abbrev few_L0_I (l : List Ex) : St := (St.mk [(0, (exs l)), (2, (AV.b false)), (4, (exs l)), (5, (AV.i (l.length : Int))), (6, (AV.b (decide ((l.length : Int) > (70 : Int))))), (3, (AV.i 0))] 20 (AH.mk 0 ([] : List (Prod Nat AObj))) false)
noncomputable abbrev few_L0_S (l : List Ex) (s1 : Int) : St := (St.mk [(0, (exs l)), (6, (AV.b (decide ((l.length : Int) > (70 : Int))))), (3, (AV.i s1))] 20 (AH.mk 0 ([] : List (Prod Nat AObj))) false)
noncomputable def few_L0_step (l : List Ex) (s1 : Int) : Option (Int) :=
 (tb ((decide (s1 < (l.length : Int)))) (tp ((((0 : Int) ≤ s1) ∧ (s1 < (l.length : Int)))) (tb ((decide ((↑(List.length (exAt l s1.toNat).d) : Int) > (3000 : Int)))) none (some ((wr (s1 + (1 : Int))))))) none)
theorem few_L0_ok (l : List Ex) (s1 zz : Int) : few_L0_step l s1 = some zz → EvStep Try.prog cf 0 (lp Try.prog 23 0) (few_L0_S l s1) (few_L0_S l zz) := by
  unfold few_L0_step
  exact tbD (fun h2 h2p => tp_ok fun h3 => tbD (fun h4 h4p => tn_ok) fun h4 h4p => by intro e; injection e with e; subst e; exact leafIS vw_eq (k := 300) (r := []) (hs := hz [(4, [.yes]), (2, [.yes]), (1, [.yes, .val ((bys (exAt l s1.toNat).d))]), (2, [.no]), (3, [])]) (ks := [0, 6, 3]) (bs := []) kq (ac h2 (ac h3 (ac (fq (p := ((1 : Nat) ≤ (List.length (List.drop 4 (List.drop (s1.toNat * 5) (l.flatMap Ex.cells))))))) (ac (show (List.take 1 (List.drop 4 (List.drop (s1.toNat * 5) (l.flatMap Ex.cells)))) = [(bys (exAt l s1.toNat).d)] from (by first | exact ex_one _ _ _ _ bq rfl | exact ex_oneA _ _ _ _ bq rfl | (simpa using ex_one (l) (s1.toNat) 4 _ bq rfl) | ((try simp only [List.drop_drop]); rw [show ((4 : Nat) + (s1.toNat * 5)) = (s1.toNat) * 5 + 4 by omega]; exact ex_oneA (l) (s1.toNat) 4 _ bq rfl))) (ac h4 an))))) kq) fun h2 h2p => tn_ok
noncomputable def few (l : List Ex) : Option (Bool) :=
 (tb ((decide ((l.length : Int) > (70 : Int)))) (some (false)) (th (few_L0_step l) ((0 : Int)) fun s1 => (tb ((decide (s1 < (l.length : Int)))) (tp ((((0 : Int) ≤ s1) ∧ (s1 < (l.length : Int)))) (tb ((decide ((↑(List.length (exAt l s1.toNat).d) : Int) > (3000 : Int)))) (some (false)) none)) (some (true)))))
abbrev few_G (l : List Ex) (r : Bool) : Prop := EvFr Try.prog cf true 23 [exs (l)] (.b (r))
theorem few_ok (l : List Ex) (r : Bool) : few l = some r → few_G l r := by
  unfold few
  exact tbD (fun h0 h0p => by intro e; injection e with e; subst e; exact leafR vw_eq (k := 300) (r := []) (hs := hz [(4, [.yes]), (1, [])]) (raw := (AV.b false)) kq (ac h0 an) tq) fun h0 h0p => th_ok fun s1 h1 => tbD (fun h2 h2p => tp_ok fun h3 => tbD (fun h4 h4p => by intro e; injection e with e; subst e; exact leafR vw_eq (k := 300) (r := []) (hs := hz [(4, [.no]), (1, [.head (few_L0_S l s1)]), (4, [.yes]), (2, [.yes]), (1, [.yes, .val ((bys (exAt l s1.toNat).d))]), (2, [.yes]), (1, [])]) (raw := (AV.b false)) kq (ac h0 (ac (show EvHead Try.prog cf (lp Try.prog 23 0) (few_L0_I l) (few_L0_S l s1) from (EvHead.of (few_L0_ok l) (absB_of [] [] kq (.consn kq (.eqv tq rfl) (.consn kq (.eqv tq rfl) (.consn kq (.eqv tq rfl) .nil))) .nil) h1)) (ac h2 (ac h3 (ac (fq (p := ((1 : Nat) ≤ (List.length (List.drop 4 (List.drop (s1.toNat * 5) (l.flatMap Ex.cells))))))) (ac (show (List.take 1 (List.drop 4 (List.drop (s1.toNat * 5) (l.flatMap Ex.cells)))) = [(bys (exAt l s1.toNat).d)] from (by first | exact ex_one _ _ _ _ bq rfl | exact ex_oneA _ _ _ _ bq rfl | (simpa using ex_one (l) (s1.toNat) 4 _ bq rfl) | ((try simp only [List.drop_drop]); rw [show ((4 : Nat) + (s1.toNat * 5)) = (s1.toNat) * 5 + 4 by omega]; exact ex_oneA (l) (s1.toNat) 4 _ bq rfl))) (ac h4 an))))))) tq) fun h4 h4p => tn_ok) fun h2 h2p => by intro e; injection e with e; subst e; exact leafR vw_eq (k := 300) (r := []) (hs := hz [(4, [.no]), (1, [.head (few_L0_S l s1)]), (4, [.no]), (1, [])]) (raw := (AV.b true)) kq (ac h0 (ac (show EvHead Try.prog cf (lp Try.prog 23 0) (few_L0_I l) (few_L0_S l s1) from (EvHead.of (few_L0_ok l) (absB_of [] [] kq (.consn kq (.eqv tq rfl) (.consn kq (.eqv tq rfl) (.consn kq (.eqv tq rfl) .nil))) .nil) h1)) (ac h2 an))) tq
noncomputable def sWithin (n : Int) (low : Int) (high : Int) : Option (Bool) :=
 (tb ((decide (n ≥ low))) (some ((decide (n ≤ high)))) (some (false)))
abbrev sWithin_G (n : Int) (low : Int) (high : Int) (r : Bool) : Prop := EvFr Try.prog cf true 50 [.i (n), .i (low), .i (high)] (.b (r))
theorem sWithin_ok (n : Int) (low : Int) (high : Int) (r : Bool) : sWithin n low high = some r → sWithin_G n low high r := by
  unfold sWithin
  exact tbD (fun h0 h0p => by intro e; injection e with e; subst e; exact leafR vw_eq (k := 300) (r := []) (hs := hz [(5, [.yes]), (1, [.yes]), (1, [.yes]), (1, [.yes]), (1, [])]) (raw := (AV.b (decide (n ≤ high)))) kq (ac h0 (ac h0 (ac h0 (ac h0 an)))) tq) fun h0 h0p => by intro e; injection e with e; subst e; exact leafR vw_eq (k := 300) (r := []) (hs := hz [(5, [.no, .no, .no, .no]), (1, [])]) (raw := (AV.b false)) kq (ac h0 (ac h0 (ac h0 (ac h0 an)))) tq
noncomputable def eCheck (x : Ex) : Option (Bool) :=
 (tb ((decide (x.lba ≥ (0 : Int)))) (tb ((decide (x.lba ≤ (64 : Int)))) (tb ((decide (x.len ≥ (1 : Int)))) (tb ((decide (x.len ≤ (wr ((64 : Int) - x.lba))))) (tb ((decide (x.kind ≥ (0 : Int)))) (tb ((decide (x.kind ≤ (2 : Int)))) (tb ((decide (x.gen ≥ (0 : Int)))) (tb ((decide (x.gen ≤ (2147483647 : Int)))) (tb ((x.kind == (2 : Int))) (some (((x.d.length : Int) == (wr (x.len * (32 : Int)))))) (some (((x.d.length : Int) == (0 : Int))))) (some (false))) (some (false))) (some (false))) (some (false))) (some (false))) (some (false))) (some (false))) (some (false)))
abbrev eCheck_G (x : Ex) (r : Bool) : Prop := EvFr Try.prog cf true 38 [Ex.av (x)] (.b (r))
theorem eCheck_ok (x : Ex) (r : Bool) : eCheck x = some r → eCheck_G x r := by
  unfold eCheck
  exact tbD (fun h0 h0p => tbD (fun h1 h1p => tbD (fun h2 h2p => tbD (fun h3 h3p => tbD (fun h4 h4p => tbD (fun h5 h5p => tbD (fun h6 h6p => tbD (fun h7 h7p => tbE (fun h8 h8p => by intro e; injection e with e; subst e; exact leafR vw_eq (k := 300) (r := []) (hs := hz [(12, [.yes]), (1, [.yes]), (1, [.yes]), (1, [.yes]), (2, [.yes]), (1, [.yes]), (2, [.yes]), (1, [.yes]), (2, [.yes]), (1, [.yes]), (7, [.yes]), (1, [.yes]), (1, [.yes]), (1, [.yes]), (1, [.yes]), (1, [.yes]), (1, [.yes]), (2, [.yes]), (7, [.yes]), (1, [.yes]), (1, [.yes]), (1, [.yes]), (1, [.yes]), (1, [.yes]), (1, [.yes]), (2, [.yes]), (7, [.yes]), (1, [.yes]), (1, [.yes]), (1, [.yes]), (1, [.yes]), (1, [.yes]), (1, [.yes]), (2, [.yes]), (1, [.yes]), (1, [.fc, .yes]), (8, [.yes]), (5, [.yes]), (1, [.yes]), (1, [.yes])]) (raw := (AV.b ((x.d.length : Int) == (wr (x.len * (32 : Int)))))) kq (ac h0 (ac h0 (ac h0 (ac h0 (ac h1 (ac h1 (ac h1 (ac h1 (ac h1 (ac h1 (ac h2 (ac h2 (ac h2 (ac h2 (ac h1 (ac h3 (ac h3 (ac h3 (ac h4 (ac h4 (ac h4 (ac h4 (ac h3 (ac h5 (ac h5 (ac h5 (ac h6 (ac h6 (ac h6 (ac h6 (ac h5 (ac h7 (ac h7 (ac h7 (ac h7 (ac h7 (ac h8 (ac h7 (ac h7 (ac (show orderOk (rg Try.prog 38 0) = true ∧ allOk (Region.before (rg Try.prog 38 0)) [] 0 [(some [], some []), (some [0], some []), (some [], some []), (some [], some []), (some [], some []), (some [0], some []), (some [], some []), (some [0], some []), (some [], some []), (some [], some []), (some [], some []), (some [], some []), (some [], some []), (some [0], some []), (some [], some []), (some [], some []), (some [], some []), (some [], some []), (some [0], some []), (some [], some []), (some [], some []), (some [], some []), (some [], some []), (some [0], some []), (some [], some []), (some [0], some []), (some [], some []), (some [], some []), (some [], some []), (some [], some [])] = true from (ord_of ord_38_0 bef_38_0 kq)) an)))))))))))))))))))))))))))))))))))))))) tq) fun h8 h8p => by intro e; injection e with e; subst e; exact leafR vw_eq (k := 300) (r := []) (hs := hz [(12, [.yes]), (1, [.yes]), (1, [.yes]), (1, [.yes]), (2, [.yes]), (1, [.yes]), (2, [.yes]), (1, [.yes]), (2, [.yes]), (1, [.yes]), (7, [.yes]), (1, [.yes]), (1, [.yes]), (1, [.yes]), (1, [.yes]), (1, [.yes]), (1, [.yes]), (2, [.yes]), (7, [.yes]), (1, [.yes]), (1, [.yes]), (1, [.yes]), (1, [.yes]), (1, [.yes]), (1, [.yes]), (2, [.yes]), (7, [.yes]), (1, [.yes]), (1, [.yes]), (1, [.yes]), (1, [.yes]), (1, [.yes]), (1, [.yes]), (2, [.yes]), (1, [.yes]), (1, [.fc, .yes]), (8, [.no]), (1, [.yes]), (1, [.yes]), (1, [.yes])]) (raw := (AV.b ((x.d.length : Int) == (0 : Int)))) kq (ac h0 (ac h0 (ac h0 (ac h0 (ac h1 (ac h1 (ac h1 (ac h1 (ac h1 (ac h1 (ac h2 (ac h2 (ac h2 (ac h2 (ac h1 (ac h3 (ac h3 (ac h3 (ac h4 (ac h4 (ac h4 (ac h4 (ac h3 (ac h5 (ac h5 (ac h5 (ac h6 (ac h6 (ac h6 (ac h6 (ac h5 (ac h7 (ac h7 (ac h7 (ac h7 (ac h7 (ac h8 (ac h7 (ac h7 (ac (show orderOk (rg Try.prog 38 0) = true ∧ allOk (Region.before (rg Try.prog 38 0)) [] 0 [(some [], some []), (some [0], some []), (some [], some []), (some [], some []), (some [], some []), (some [0], some []), (some [], some []), (some [0], some []), (some [], some []), (some [], some []), (some [], some []), (some [], some []), (some [], some []), (some [0], some []), (some [], some []), (some [], some []), (some [], some []), (some [], some []), (some [0], some []), (some [], some []), (some [], some []), (some [], some []), (some [], some []), (some [0], some []), (some [], some []), (some [0], some []), (some [], some []), (some [], some []), (some [], some []), (some [], some [])] = true from (ord_of ord_38_0 bef_38_0 kq)) an)))))))))))))))))))))))))))))))))))))))) tq) fun h7 h7p => by intro e; injection e with e; subst e; exact leafR vw_eq (k := 300) (r := []) (hs := hz [(12, [.yes]), (1, [.yes]), (1, [.yes]), (1, [.yes]), (2, [.yes]), (1, [.yes]), (2, [.yes]), (1, [.yes]), (2, [.yes]), (1, [.yes]), (7, [.yes]), (1, [.yes]), (1, [.yes]), (1, [.yes]), (1, [.yes]), (1, [.yes]), (1, [.yes]), (2, [.yes]), (7, [.yes]), (1, [.yes]), (1, [.yes]), (1, [.yes]), (1, [.yes]), (1, [.yes]), (1, [.yes]), (2, [.yes]), (7, [.yes]), (1, [.yes]), (1, [.yes]), (1, [.yes]), (1, [.yes]), (1, [.no, .no, .no, .no, .no, .no, .no]), (1, [.yes])]) (raw := (AV.b false)) kq (ac h0 (ac h0 (ac h0 (ac h0 (ac h1 (ac h1 (ac h1 (ac h1 (ac h1 (ac h1 (ac h2 (ac h2 (ac h2 (ac h2 (ac h1 (ac h3 (ac h3 (ac h3 (ac h4 (ac h4 (ac h4 (ac h4 (ac h3 (ac h5 (ac h5 (ac h5 (ac h6 (ac h6 (ac h6 (ac h6 (ac h5 (ac h7 (ac h7 (ac h7 (ac h7 (ac h7 (ac h7 (ac h7 (ac (show orderOk (rg Try.prog 38 0) = true ∧ allOk (Region.before (rg Try.prog 38 0)) [] 0 [(some [], some []), (some [0], some []), (some [], some []), (some [], some []), (some [], some []), (some [0], some []), (some [], some []), (some [0], some []), (some [], some []), (some [], some []), (some [], some []), (some [], some []), (some [], some []), (some [0], some []), (some [], some []), (some [], some []), (some [], some []), (some [], some []), (some [0], some []), (some [], some []), (some [], some []), (some [], some []), (some [], some []), (some [], some []), (some [], some []), (some [], some []), (some [], some []), (some [], some []), (some [], some []), (some [], some [])] = true from (ord_of ord_38_0 bef_38_0 kq)) an))))))))))))))))))))))))))))))))))))))) tq) fun h6 h6p => by intro e; injection e with e; subst e; exact leafR vw_eq (k := 300) (r := []) (hs := hz [(12, [.yes]), (1, [.yes]), (1, [.yes]), (1, [.yes]), (2, [.yes]), (1, [.yes]), (2, [.yes]), (1, [.yes]), (2, [.yes]), (1, [.yes]), (7, [.yes]), (1, [.yes]), (1, [.yes]), (1, [.yes]), (1, [.yes]), (1, [.yes]), (1, [.yes]), (2, [.yes]), (7, [.yes]), (1, [.yes]), (1, [.yes]), (1, [.yes]), (1, [.yes]), (1, [.yes]), (1, [.yes]), (2, [.yes]), (7, [.no, .no, .no, .no]), (1, [.yes]), (9, [.yes])]) (raw := (AV.b false)) kq (ac h0 (ac h0 (ac h0 (ac h0 (ac h1 (ac h1 (ac h1 (ac h1 (ac h1 (ac h1 (ac h2 (ac h2 (ac h2 (ac h2 (ac h1 (ac h3 (ac h3 (ac h3 (ac h4 (ac h4 (ac h4 (ac h4 (ac h3 (ac h5 (ac h5 (ac h5 (ac h6 (ac h6 (ac h6 (ac h6 (ac h5 (ac (show orderOk (rg Try.prog 38 0) = true ∧ allOk (Region.before (rg Try.prog 38 0)) [] 0 [(some [], some []), (some [0], some []), (some [], some []), (some [], some []), (some [], some []), (some [0], some []), (some [], some []), (some [0], some []), (some [], some []), (some [], some []), (some [], some []), (some [], some []), (some [], some []), (some [0], some []), (some [], some []), (some [], some []), (some [], some []), (some [], some []), (some [0], some []), (some [], some []), (some [], some []), (some [], some []), (some [], some []), (some [], some []), (some [], some []), (some [], some []), (some [], some []), (some [], some []), (some [], some []), (some [], some [])] = true from (ord_of ord_38_0 bef_38_0 kq)) an)))))))))))))))))))))))))))))))) tq) fun h5 h5p => by intro e; injection e with e; subst e; exact leafR vw_eq (k := 300) (r := []) (hs := hz [(12, [.yes]), (1, [.yes]), (1, [.yes]), (1, [.yes]), (2, [.yes]), (1, [.yes]), (2, [.yes]), (1, [.yes]), (2, [.yes]), (1, [.yes]), (7, [.yes]), (1, [.yes]), (1, [.yes]), (1, [.yes]), (1, [.yes]), (1, [.yes]), (1, [.yes]), (2, [.yes]), (7, [.yes]), (1, [.yes]), (1, [.yes]), (1, [.yes]), (1, [.yes]), (1, [.no, .no, .no, .no]), (9, [.yes])]) (raw := (AV.b false)) kq (ac h0 (ac h0 (ac h0 (ac h0 (ac h1 (ac h1 (ac h1 (ac h1 (ac h1 (ac h1 (ac h2 (ac h2 (ac h2 (ac h2 (ac h1 (ac h3 (ac h3 (ac h3 (ac h4 (ac h4 (ac h4 (ac h4 (ac h3 (ac h5 (ac h5 (ac h5 (ac h5 (ac (show orderOk (rg Try.prog 38 0) = true ∧ allOk (Region.before (rg Try.prog 38 0)) [] 0 [(some [], some []), (some [0], some []), (some [], some []), (some [], some []), (some [], some []), (some [0], some []), (some [], some []), (some [0], some []), (some [], some []), (some [], some []), (some [], some []), (some [], some []), (some [], some []), (some [0], some []), (some [], some []), (some [], some []), (some [], some []), (some [], some []), (some [], some []), (some [], some []), (some [], some []), (some [], some []), (some [], some []), (some [], some []), (some [], some []), (some [], some []), (some [], some []), (some [], some []), (some [], some []), (some [], some [])] = true from (ord_of ord_38_0 bef_38_0 kq)) an)))))))))))))))))))))))))))) tq) fun h4 h4p => by intro e; injection e with e; subst e; exact leafR vw_eq (k := 300) (r := []) (hs := hz [(12, [.yes]), (1, [.yes]), (1, [.yes]), (1, [.yes]), (2, [.yes]), (1, [.yes]), (2, [.yes]), (1, [.yes]), (2, [.yes]), (1, [.yes]), (7, [.yes]), (1, [.yes]), (1, [.yes]), (1, [.yes]), (1, [.yes]), (1, [.yes]), (1, [.yes]), (2, [.yes]), (7, [.no, .no, .no, .no]), (1, [.yes]), (14, [.yes])]) (raw := (AV.b false)) kq (ac h0 (ac h0 (ac h0 (ac h0 (ac h1 (ac h1 (ac h1 (ac h1 (ac h1 (ac h1 (ac h2 (ac h2 (ac h2 (ac h2 (ac h1 (ac h3 (ac h3 (ac h3 (ac h4 (ac h4 (ac h4 (ac h4 (ac h3 (ac (show orderOk (rg Try.prog 38 0) = true ∧ allOk (Region.before (rg Try.prog 38 0)) [] 0 [(some [], some []), (some [0], some []), (some [], some []), (some [], some []), (some [], some []), (some [0], some []), (some [], some []), (some [0], some []), (some [], some []), (some [], some []), (some [], some []), (some [], some []), (some [], some []), (some [0], some []), (some [], some []), (some [], some []), (some [], some []), (some [], some []), (some [], some []), (some [], some []), (some [], some []), (some [], some []), (some [], some []), (some [], some []), (some [], some []), (some [], some []), (some [], some []), (some [], some []), (some [], some []), (some [], some [])] = true from (ord_of ord_38_0 bef_38_0 kq)) an)))))))))))))))))))))))) tq) fun h3 h3p => by intro e; injection e with e; subst e; exact leafR vw_eq (k := 300) (r := []) (hs := hz [(12, [.yes]), (1, [.yes]), (1, [.yes]), (1, [.yes]), (2, [.yes]), (1, [.yes]), (2, [.yes]), (1, [.yes]), (2, [.yes]), (1, [.yes]), (7, [.yes]), (1, [.yes]), (1, [.yes]), (1, [.yes]), (1, [.yes]), (1, [.no, .no, .no, .no]), (14, [.yes])]) (raw := (AV.b false)) kq (ac h0 (ac h0 (ac h0 (ac h0 (ac h1 (ac h1 (ac h1 (ac h1 (ac h1 (ac h1 (ac h2 (ac h2 (ac h2 (ac h2 (ac h1 (ac h3 (ac h3 (ac h3 (ac h3 (ac (show orderOk (rg Try.prog 38 0) = true ∧ allOk (Region.before (rg Try.prog 38 0)) [] 0 [(some [], some []), (some [0], some []), (some [], some []), (some [], some []), (some [], some []), (some [0], some []), (some [], some []), (some [0], some []), (some [], some []), (some [], some []), (some [], some []), (some [], some []), (some [], some []), (some [], some []), (some [], some []), (some [], some []), (some [], some []), (some [], some []), (some [], some []), (some [], some []), (some [], some []), (some [], some []), (some [], some []), (some [], some []), (some [], some []), (some [], some []), (some [], some []), (some [], some []), (some [], some []), (some [], some [])] = true from (ord_of ord_38_0 bef_38_0 kq)) an)))))))))))))))))))) tq) fun h2 h2p => by intro e; injection e with e; subst e; exact leafR vw_eq (k := 300) (r := []) (hs := hz [(12, [.yes]), (1, [.yes]), (1, [.yes]), (1, [.yes]), (2, [.yes]), (1, [.yes]), (2, [.yes]), (1, [.yes]), (2, [.yes]), (1, [.yes]), (7, [.no, .no, .no, .no]), (1, [.yes]), (19, [.yes])]) (raw := (AV.b false)) kq (ac h0 (ac h0 (ac h0 (ac h0 (ac h1 (ac h1 (ac h1 (ac h1 (ac h1 (ac h1 (ac h2 (ac h2 (ac h2 (ac h2 (ac h1 (ac (show orderOk (rg Try.prog 38 0) = true ∧ allOk (Region.before (rg Try.prog 38 0)) [] 0 [(some [], some []), (some [0], some []), (some [], some []), (some [], some []), (some [], some []), (some [0], some []), (some [], some []), (some [0], some []), (some [], some []), (some [], some []), (some [], some []), (some [], some []), (some [], some []), (some [], some []), (some [], some []), (some [], some []), (some [], some []), (some [], some []), (some [], some []), (some [], some []), (some [], some []), (some [], some []), (some [], some []), (some [], some []), (some [], some []), (some [], some []), (some [], some []), (some [], some []), (some [], some []), (some [], some [])] = true from (ord_of ord_38_0 bef_38_0 kq)) an)))))))))))))))) tq) fun h1 h1p => by intro e; injection e with e; subst e; exact leafR vw_eq (k := 300) (r := []) (hs := hz [(12, [.yes]), (1, [.yes]), (1, [.yes]), (1, [.yes]), (2, [.no, .no, .no, .no, .no, .no, .no]), (19, [.yes])]) (raw := (AV.b false)) kq (ac h0 (ac h0 (ac h0 (ac h0 (ac h1 (ac h1 (ac h1 (ac h1 (ac h1 (ac h1 (ac h1 (ac (show orderOk (rg Try.prog 38 0) = true ∧ allOk (Region.before (rg Try.prog 38 0)) [] 0 [(some [], some []), (some [0], some []), (some [], some []), (some [], some []), (some [], some []), (some [], some []), (some [], some []), (some [], some []), (some [], some []), (some [], some []), (some [], some []), (some [], some []), (some [], some []), (some [], some []), (some [], some []), (some [], some []), (some [], some []), (some [], some []), (some [], some []), (some [], some []), (some [], some []), (some [], some []), (some [], some []), (some [], some []), (some [], some []), (some [], some []), (some [], some []), (some [], some []), (some [], some []), (some [], some [])] = true from (ord_of ord_38_0 bef_38_0 kq)) an)))))))))))) tq) fun h0 h0p => by intro e; injection e with e; subst e; exact leafR vw_eq (k := 300) (r := []) (hs := hz [(12, [.no, .no, .no, .no]), (28, [.yes])]) (raw := (AV.b false)) kq (ac h0 (ac h0 (ac h0 (ac h0 (ac (show orderOk (rg Try.prog 38 0) = true ∧ allOk (Region.before (rg Try.prog 38 0)) [] 0 [(some [], some []), (some [0], some []), (some [], some []), (some [], some []), (some [], some []), (some [], some []), (some [], some []), (some [], some []), (some [], some []), (some [], some []), (some [], some []), (some [], some []), (some [], some []), (some [], some []), (some [], some []), (some [], some []), (some [], some []), (some [], some []), (some [], some []), (some [], some []), (some [], some []), (some [], some []), (some [], some []), (some [], some []), (some [], some []), (some [], some []), (some [], some []), (some [], some []), (some [], some []), (some [], some [])] = true from (ord_of ord_38_0 bef_38_0 kq)) an))))) tq
noncomputable def eJoins (a : Ex) (b : Ex) : Option (Bool) :=
 (tc (eCheck (a)) fun s0 => (tb (s0) (tc (eCheck (b)) fun s2 => (tb (s2) (tb (((wr (a.lba + a.len)) == b.lba)) (tb ((a.kind == b.kind)) (some ((a.gen == b.gen))) (some (false))) (some (false))) (some (false)))) (some (false))))
abbrev eJoins_G (a : Ex) (b : Ex) (r : Bool) : Prop := EvFr Try.prog cf true 39 [Ex.av (a), Ex.av (b)] (.b (r))
theorem eJoins_ok (a : Ex) (b : Ex) (r : Bool) : eJoins a b = some r → eJoins_G a b r := by
  unfold eJoins
  exact tc_ok fun s0 h0 => tb_ok (fun h1 => tc_ok fun s2 h2 => tb_ok (fun h3 => tbE (fun h4 h4p => tbE (fun h5 h5p => by intro e; injection e with e; subst e; exact leafR vw_eq (k := 300) (r := []) (hs := hz [(4, [.fc]), (1, [.fres (.b (s0))]), (1, [.yes]), (1, [.fc, .yes]), (1, [.fres (.b (s2)), .yes]), (1, [.yes]), (1, [.yes]), (2, [.yes]), (1, [.yes]), (2, [.yes]), (1, [.yes]), (1, [.yes]), (2, [.yes]), (1, [.yes]), (1, [.yes]), (1, [.yes]), (2, [.yes]), (1, [.yes]), (2, [.yes]), (1, [.yes]), (1, [.yes]), (1, [.yes]), (2, [.yes]), (1, [.yes]), (2, [.yes]), (1, [.yes]), (1, [])]) (raw := (AV.b (a.gen == b.gen))) kq (ac (eCheck_ok (a) _ h0).any0 (ac h1 (ac h1 (ac (eCheck_ok (b) _ h2).any0 (ac h1 (ac h3 (ac h3 (ac h3 (ac h3 (ac h3 (ac h3 (ac h3 (ac h3 (ac h3 (ac h4 (ac h4 (ac h4 (ac h4 (ac h4 (ac h4 (ac h5 (ac h5 (ac h5 (ac h5 (ac h5 (ac h5 an)))))))))))))))))))))))))) tq) fun h5 h5p => by intro e; injection e with e; subst e; exact leafR vw_eq (k := 300) (r := []) (hs := hz [(4, [.fc]), (1, [.fres (.b (s0))]), (1, [.yes]), (1, [.fc, .yes]), (1, [.fres (.b (s2)), .yes]), (1, [.yes]), (1, [.yes]), (2, [.yes]), (1, [.yes]), (2, [.yes]), (1, [.yes]), (1, [.yes]), (2, [.yes]), (1, [.yes]), (1, [.yes]), (1, [.yes]), (2, [.yes]), (1, [.yes]), (2, [.yes]), (1, [.yes]), (1, [.no, .no, .no, .no, .no, .no]), (1, [])]) (raw := (AV.b false)) kq (ac (eCheck_ok (a) _ h0).any0 (ac h1 (ac h1 (ac (eCheck_ok (b) _ h2).any0 (ac h1 (ac h3 (ac h3 (ac h3 (ac h3 (ac h3 (ac h3 (ac h3 (ac h3 (ac h3 (ac h4 (ac h4 (ac h4 (ac h4 (ac h4 (ac h4 (ac h5 (ac h5 (ac h5 (ac h5 (ac h5 (ac h5 an)))))))))))))))))))))))))) tq) fun h4 h4p => by intro e; injection e with e; subst e; exact leafR vw_eq (k := 300) (r := []) (hs := hz [(4, [.fc]), (1, [.fres (.b (s0))]), (1, [.yes]), (1, [.fc, .yes]), (1, [.fres (.b (s2)), .yes]), (1, [.yes]), (1, [.yes]), (2, [.yes]), (1, [.yes]), (2, [.yes]), (1, [.yes]), (1, [.yes]), (2, [.yes]), (1, [.yes]), (1, [.no, .no, .no, .no, .no, .no]), (8, [])]) (raw := (AV.b false)) kq (ac (eCheck_ok (a) _ h0).any0 (ac h1 (ac h1 (ac (eCheck_ok (b) _ h2).any0 (ac h1 (ac h3 (ac h3 (ac h3 (ac h3 (ac h3 (ac h3 (ac h3 (ac h3 (ac h3 (ac h4 (ac h4 (ac h4 (ac h4 (ac h4 (ac h4 an)))))))))))))))))))) tq) fun h3 => by intro e; injection e with e; subst e; exact leafR vw_eq (k := 300) (r := []) (hs := hz [(4, [.fc]), (1, [.fres (.b (s0))]), (1, [.yes]), (1, [.fc, .yes]), (1, [.fres (.b (s2)), .yes]), (1, [.no, .no, .no, .no, .no, .no, .no, .no, .no]), (15, [])]) (raw := (AV.b false)) kq (ac (eCheck_ok (a) _ h0).any0 (ac h1 (ac h1 (ac (eCheck_ok (b) _ h2).any0 (ac h1 (ac h3 (ac h3 (ac h3 (ac h3 (ac h3 (ac h3 (ac h3 (ac h3 (ac h3 an)))))))))))))) tq) fun h1 => by intro e; injection e with e; subst e; exact leafR vw_eq (k := 300) (r := []) (hs := hz [(4, [.fc]), (1, [.fres (.b (s0))]), (1, [.no, .no, .no]), (25, [])]) (raw := (AV.b false)) kq (ac (eCheck_ok (a) _ h0).any0 (ac h1 (ac h1 (ac h1 an)))) tq
noncomputable abbrev mCheck_L0_I (blocks : Int) (l : List Ex) : St := (St.mk [(0, (AV.i blocks)), (1, (exs l)), (4, (AV.b false)), (5, (AV.i 0)), (8, (exs l)), (9, (AV.i (l.length : Int))), (10, (AV.i 0))] 50 (AH.mk 0 ([] : List (Prod Nat AObj))) false)
noncomputable abbrev mCheck_L0_S (blocks : Int) (l : List Ex) (s0 : Int × Int) : St := (St.mk [(0, (AV.i blocks)), (1, (exs l)), (5, (AV.i s0.1)), (8, (exs l)), (9, (AV.i (l.length : Int))), (10, (AV.i s0.2))] 50 (AH.mk 0 ([] : List (Prod Nat AObj))) false)
noncomputable def mCheck_L0_step (blocks : Int) (l : List Ex) (s0 : Int × Int) : Option (Int × Int) :=
 (tb ((decide (s0.2 < (l.length : Int)))) (tp ((((0 : Int) ≤ s0.2) ∧ (s0.2 < (l.length : Int)))) (tc (eCheck ((exAt l s0.2.toNat))) fun s3 => (tb ((!s3)) none (tb (((exAt l s0.2.toNat).lba != s0.1)) none (tb ((decide (s0.2 > (0 : Int)))) (tp ((((0 : Int) ≤ (wr (s0.2 - (1 : Int)))) ∧ ((wr (s0.2 - (1 : Int))) < (l.length : Int)))) (tc (eJoins ((exAt l (Int.toNat (wr (s0.2 - (1 : Int)))))) ((exAt l s0.2.toNat))) fun s8 => (tb (s8) none (some (((wr (s0.1 + (exAt l s0.2.toNat).len)), (wr (s0.2 + (1 : Int))))))))) (some (((wr (s0.1 + (exAt l s0.2.toNat).len)), (wr (s0.2 + (1 : Int))))))))))) none)
theorem mCheck_L0_ok (blocks : Int) (l : List Ex) (s0 zz : Int × Int) : mCheck_L0_step blocks l s0 = some zz → EvStep Try.prog cf 0 (lp Try.prog 46 0) (mCheck_L0_S blocks l s0) (mCheck_L0_S blocks l zz) := by
  unfold mCheck_L0_step
  exact tbD (fun h1 h1p => tp_ok fun h2 => tc_ok fun s3 h3 => tb_ok (fun h4 => tn_ok) fun h4 => tbN (fun h5 h5p => tn_ok) fun h5 h5p => tbD (fun h6 h6p => tp_ok fun h7 => tc_ok fun s8 h8 => tb_ok (fun h9 => tn_ok) fun h9 => by intro e; injection e with e; subst e; exact leafIS vw_eq (k := 300) (r := []) (hs := hz [(1, [.yes]), (1, [.yes, .yes, .cells ((Ex.cells (exAt l s0.2.toNat)))]), (3, [.fc]), (1, [.fc]), (1, [.fres (.b (s3))]), (2, [.no]), (1, [.no]), (2, [.no]), (1, [.no]), (1, [.no]), (1, [.no]), (1, [.no]), (1, [.no]), (1, [.yes]), (1, [.yes]), (1, [.yes]), (1, [.yes, .yes, .yes, .yes, .cells ((Ex.cells (exAt l (Int.toNat (wr (s0.2 - (1 : Int))))))), .yes]), (1, [.fc, .yes]), (1, [.fres (.b (s8)), .no, .yes, .no, .yes, .no]), (8, [])]) (ks := [0, 1, 5, 8, 9, 10]) (bs := []) kq (ac h1 (ac h2 (ac (fq (p := ((5 : Nat) ≤ (List.length (List.drop (s0.2.toNat * 5) (l.flatMap Ex.cells)))))) (ac (show (List.take 5 (List.drop (s0.2.toNat * 5) (l.flatMap Ex.cells))) = (Ex.cells (exAt l s0.2.toNat)) from (ex_takeO bq bq)) (ac (eCheck_ok ((exAt l s0.2.toNat)) _ h3).any0 (ac h4 (ac h4 (ac h4 (ac h4 (ac h4 (ac h5 (ac h5 (ac h5 (ac h6 (ac h6 (ac h6 (ac h6 (ac h7 (ac h6 (ac (fq (p := ((5 : Nat) ≤ (List.length (List.drop ((Int.toNat (wr (s0.2 - (1 : Int)))) * 5) (l.flatMap Ex.cells)))))) (ac (show (List.take 5 (List.drop ((Int.toNat (wr (s0.2 - (1 : Int)))) * 5) (l.flatMap Ex.cells))) = (Ex.cells (exAt l (Int.toNat (wr (s0.2 - (1 : Int)))))) from (ex_takeO bq bq)) (ac h6 (ac h6 (ac (eJoins_ok ((exAt l (Int.toNat (wr (s0.2 - (1 : Int)))))) ((exAt l s0.2.toNat)) _ h8).any0 (ac h5 (ac h6 (ac h5 (ac (show orderOk (rg Try.prog 46 0) = true ∧ allOk (Region.before (rg Try.prog 46 0)) [] 0 [(some [0], some []), (some [], some []), (some [], some []), (some [], some []), (some [], some []), (some [0], some []), (some [], some []), (some [], some []), (some [], some []), (some [], some []), (some [], some []), (some [], some []), (some [], some []), (some [], some []), (some [], some []), (some [], some []), (some [], some []), (some [], some []), (some [0], some []), (some [], some []), (some [], some []), (some [], some [])] = true from (ord_of ord_46_0 bef_46_0 kq)) (ac h9 an))))))))))))))))))))))))))))) kq) fun h6 h6p => by intro e; injection e with e; subst e; exact leafIS vw_eq (k := 300) (r := []) (hs := hz [(1, [.yes]), (1, [.yes, .yes, .cells ((Ex.cells (exAt l s0.2.toNat)))]), (3, [.fc]), (1, [.fc]), (1, [.fres (.b (s3))]), (2, [.no]), (1, [.no]), (2, [.no]), (1, [.no]), (1, [.no]), (1, [.no]), (1, [.no]), (1, [.no]), (1, [.no, .no, .no, .no, .no, .no, .no, .no, .no, .no, .yes]), (9, [])]) (ks := [0, 1, 5, 8, 9, 10]) (bs := []) kq (ac h1 (ac h2 (ac (fq (p := ((5 : Nat) ≤ (List.length (List.drop (s0.2.toNat * 5) (l.flatMap Ex.cells)))))) (ac (show (List.take 5 (List.drop (s0.2.toNat * 5) (l.flatMap Ex.cells))) = (Ex.cells (exAt l s0.2.toNat)) from (ex_takeO bq bq)) (ac (eCheck_ok ((exAt l s0.2.toNat)) _ h3).any0 (ac h4 (ac h4 (ac h4 (ac h4 (ac h4 (ac h5 (ac h5 (ac h5 (ac h6 (ac h6 (ac h6 (ac h6 (ac h6 (ac h6 (ac h6 (ac h5 (ac h6 (ac h5 (ac (show orderOk (rg Try.prog 46 0) = true ∧ allOk (Region.before (rg Try.prog 46 0)) [] 0 [(some [0], some []), (some [], some []), (some [], some []), (some [], some []), (some [], some []), (some [0], some []), (some [], some []), (some [], some []), (some [], some []), (some [], some []), (some [], some []), (some [], some []), (some [], some []), (some [], some []), (some [], some []), (some [], some []), (some [], some []), (some [], some []), (some [], some []), (some [], some []), (some [], some []), (some [], some [])] = true from (ord_of ord_46_0 bef_46_0 kq)) an)))))))))))))))))))))))) kq) fun h1 h1p => tn_ok
noncomputable def mCheck (blocks : Int) (l : List Ex) : Option (Bool) :=
 (th (mCheck_L0_step blocks l) (((0 : Int), (0 : Int))) fun s0 => (tb ((decide (s0.2 < (l.length : Int)))) (tp ((((0 : Int) ≤ s0.2) ∧ (s0.2 < (l.length : Int)))) (tc (eCheck ((exAt l s0.2.toNat))) fun s3 => (tb ((!s3)) (some (false)) (tb (((exAt l s0.2.toNat).lba != s0.1)) (some (false)) (tb ((decide (s0.2 > (0 : Int)))) (tp ((((0 : Int) ≤ (wr (s0.2 - (1 : Int)))) ∧ ((wr (s0.2 - (1 : Int))) < (l.length : Int)))) (tc (eJoins ((exAt l (Int.toNat (wr (s0.2 - (1 : Int)))))) ((exAt l s0.2.toNat))) fun s8 => (tb (s8) (some (false)) none))) none))))) (tb ((decide ((l.length : Int) > (0 : Int)))) (some ((s0.1 == blocks))) (some (false)))))
abbrev mCheck_G (blocks : Int) (l : List Ex) (r : Bool) : Prop := EvFr Try.prog cf true 46 [.i (blocks), exs (l)] (.b (r))
theorem mCheck_ok (blocks : Int) (l : List Ex) (r : Bool) : mCheck blocks l = some r → mCheck_G blocks l r := by
  unfold mCheck
  exact th_ok fun s0 h0 => tbD (fun h1 h1p => tp_ok fun h2 => tc_ok fun s3 h3 => tb_ok (fun h4 => by intro e; injection e with e; subst e; exact leafR vw_eq (k := 300) (r := []) (hs := hz [(5, [.head (mCheck_L0_S blocks l s0)]), (1, [.yes]), (1, [.yes, .yes, .cells ((Ex.cells (exAt l s0.2.toNat)))]), (3, [.fc]), (1, [.fc]), (1, [.fres (.b (s3))]), (2, [.yes, .yes, .yes, .yes, .yes]), (6, [.yes]), (2, [])]) (raw := (AV.b false)) kq (ac (show EvHead Try.prog cf (lp Try.prog 46 0) (mCheck_L0_I blocks l) (mCheck_L0_S blocks l s0) from (EvHead.of (mCheck_L0_ok blocks l) (absB_of [] [] kq (.consn kq (.eqv tq rfl) (.consn kq (.eqv tq rfl) (.consn kq (.eqv tq rfl) (.consn kq (.eqv tq rfl) (.consn kq (.eqv tq rfl) (.consn kq (.eqv tq rfl) .nil)))))) .nil) h0)) (ac h1 (ac h2 (ac (fq (p := ((5 : Nat) ≤ (List.length (List.drop (s0.2.toNat * 5) (l.flatMap Ex.cells)))))) (ac (show (List.take 5 (List.drop (s0.2.toNat * 5) (l.flatMap Ex.cells))) = (Ex.cells (exAt l s0.2.toNat)) from (ex_takeO bq bq)) (ac (eCheck_ok ((exAt l s0.2.toNat)) _ h3).any0 (ac h4 (ac h4 (ac h4 (ac h4 (ac h4 (ac (show orderOk (rg Try.prog 46 0) = true ∧ allOk (Region.before (rg Try.prog 46 0)) [] 0 [(some [0], some []), (some [], some []), (some [], some []), (some [], some []), (some [], some []), (some [], some []), (some [], some []), (some [], some []), (some [], some []), (some [], some []), (some [], some []), (some [], some []), (some [], some []), (some [], some []), (some [], some []), (some [], some []), (some [], some []), (some [], some []), (some [], some []), (some [], some []), (some [], some []), (some [], some [])] = true from (ord_of ord_46_0 bef_46_0 kq)) an)))))))))))) tq) fun h4 => tbN (fun h5 h5p => by intro e; injection e with e; subst e; exact leafR vw_eq (k := 300) (r := []) (hs := hz [(5, [.head (mCheck_L0_S blocks l s0)]), (1, [.yes]), (1, [.yes, .yes, .cells ((Ex.cells (exAt l s0.2.toNat)))]), (3, [.fc]), (1, [.fc]), (1, [.fres (.b (s3))]), (2, [.no]), (1, [.no]), (2, [.no]), (1, [.no]), (1, [.no]), (1, [.yes, .yes, .yes, .yes, .yes, .yes]), (2, [])]) (raw := (AV.b false)) kq (ac (show EvHead Try.prog cf (lp Try.prog 46 0) (mCheck_L0_I blocks l) (mCheck_L0_S blocks l s0) from (EvHead.of (mCheck_L0_ok blocks l) (absB_of [] [] kq (.consn kq (.eqv tq rfl) (.consn kq (.eqv tq rfl) (.consn kq (.eqv tq rfl) (.consn kq (.eqv tq rfl) (.consn kq (.eqv tq rfl) (.consn kq (.eqv tq rfl) .nil)))))) .nil) h0)) (ac h1 (ac h2 (ac (fq (p := ((5 : Nat) ≤ (List.length (List.drop (s0.2.toNat * 5) (l.flatMap Ex.cells)))))) (ac (show (List.take 5 (List.drop (s0.2.toNat * 5) (l.flatMap Ex.cells))) = (Ex.cells (exAt l s0.2.toNat)) from (ex_takeO bq bq)) (ac (eCheck_ok ((exAt l s0.2.toNat)) _ h3).any0 (ac h4 (ac h4 (ac h4 (ac h4 (ac h4 (ac h5 (ac h5 (ac h5 (ac h5 (ac h5 (ac (show orderOk (rg Try.prog 46 0) = true ∧ allOk (Region.before (rg Try.prog 46 0)) [] 0 [(some [0], some []), (some [], some []), (some [], some []), (some [], some []), (some [], some []), (some [0], some []), (some [], some []), (some [], some []), (some [], some []), (some [], some []), (some [], some []), (some [], some []), (some [], some []), (some [], some []), (some [], some []), (some [], some []), (some [], some []), (some [], some []), (some [], some []), (some [], some []), (some [], some []), (some [], some [])] = true from (ord_of ord_46_0 bef_46_0 kq)) an))))))))))))))))) tq) fun h5 h5p => tbD (fun h6 h6p => tp_ok fun h7 => tc_ok fun s8 h8 => tb_ok (fun h9 => by intro e; injection e with e; subst e; exact leafR vw_eq (k := 300) (r := []) (hs := hz [(5, [.head (mCheck_L0_S blocks l s0)]), (1, [.yes]), (1, [.yes, .yes, .cells ((Ex.cells (exAt l s0.2.toNat)))]), (3, [.fc]), (1, [.fc]), (1, [.fres (.b (s3))]), (2, [.no]), (1, [.no]), (2, [.no]), (1, [.no]), (1, [.no]), (1, [.no]), (1, [.no]), (1, [.no]), (1, [.yes]), (1, [.yes]), (1, [.yes]), (1, [.yes, .yes, .yes, .yes, .cells ((Ex.cells (exAt l (Int.toNat (wr (s0.2 - (1 : Int))))))), .yes]), (1, [.fc, .yes]), (1, [.fres (.b (s8)), .no, .yes, .no, .yes, .yes]), (1, [])]) (raw := (AV.b false)) kq (ac (show EvHead Try.prog cf (lp Try.prog 46 0) (mCheck_L0_I blocks l) (mCheck_L0_S blocks l s0) from (EvHead.of (mCheck_L0_ok blocks l) (absB_of [] [] kq (.consn kq (.eqv tq rfl) (.consn kq (.eqv tq rfl) (.consn kq (.eqv tq rfl) (.consn kq (.eqv tq rfl) (.consn kq (.eqv tq rfl) (.consn kq (.eqv tq rfl) .nil)))))) .nil) h0)) (ac h1 (ac h2 (ac (fq (p := ((5 : Nat) ≤ (List.length (List.drop (s0.2.toNat * 5) (l.flatMap Ex.cells)))))) (ac (show (List.take 5 (List.drop (s0.2.toNat * 5) (l.flatMap Ex.cells))) = (Ex.cells (exAt l s0.2.toNat)) from (ex_takeO bq bq)) (ac (eCheck_ok ((exAt l s0.2.toNat)) _ h3).any0 (ac h4 (ac h4 (ac h4 (ac h4 (ac h4 (ac h5 (ac h5 (ac h5 (ac h6 (ac h6 (ac h6 (ac h6 (ac h7 (ac h6 (ac (fq (p := ((5 : Nat) ≤ (List.length (List.drop ((Int.toNat (wr (s0.2 - (1 : Int)))) * 5) (l.flatMap Ex.cells)))))) (ac (show (List.take 5 (List.drop ((Int.toNat (wr (s0.2 - (1 : Int)))) * 5) (l.flatMap Ex.cells))) = (Ex.cells (exAt l (Int.toNat (wr (s0.2 - (1 : Int)))))) from (ex_takeO bq bq)) (ac h6 (ac h6 (ac (eJoins_ok ((exAt l (Int.toNat (wr (s0.2 - (1 : Int)))))) ((exAt l s0.2.toNat)) _ h8).any0 (ac h5 (ac h6 (ac h5 (ac (show orderOk (rg Try.prog 46 0) = true ∧ allOk (Region.before (rg Try.prog 46 0)) [] 0 [(some [0], some []), (some [], some []), (some [], some []), (some [], some []), (some [], some []), (some [0], some []), (some [], some []), (some [], some []), (some [], some []), (some [], some []), (some [], some []), (some [], some []), (some [], some []), (some [], some []), (some [], some []), (some [], some []), (some [], some []), (some [], some []), (some [0], some []), (some [], some []), (some [], some []), (some [], some [])] = true from (ord_of ord_46_0 bef_46_0 kq)) (ac h9 an)))))))))))))))))))))))))))))) tq) fun h9 => tn_ok) fun h6 h6p => tn_ok) fun h1 h1p => tbD (fun h2 h2p => by intro e; injection e with e; subst e; exact leafR vw_eq (k := 300) (r := []) (hs := hz [(5, [.head (mCheck_L0_S blocks l s0)]), (1, [.no]), (4, [.yes]), (1, [.yes]), (1, [.yes]), (1, [.yes]), (1, [])]) (raw := (AV.b (s0.1 == blocks))) kq (ac (show EvHead Try.prog cf (lp Try.prog 46 0) (mCheck_L0_I blocks l) (mCheck_L0_S blocks l s0) from (EvHead.of (mCheck_L0_ok blocks l) (absB_of [] [] kq (.consn kq (.eqv tq rfl) (.consn kq (.eqv tq rfl) (.consn kq (.eqv tq rfl) (.consn kq (.eqv tq rfl) (.consn kq (.eqv tq rfl) (.consn kq (.eqv tq rfl) .nil)))))) .nil) h0)) (ac h1 (ac h2 (ac h2 (ac h2 (ac h2 an)))))) tq) fun h2 h2p => by intro e; injection e with e; subst e; exact leafR vw_eq (k := 300) (r := []) (hs := hz [(5, [.head (mCheck_L0_S blocks l s0)]), (1, [.no]), (4, [.no, .no, .no, .no]), (1, [])]) (raw := (AV.b false)) kq (ac (show EvHead Try.prog cf (lp Try.prog 46 0) (mCheck_L0_I blocks l) (mCheck_L0_S blocks l s0) from (EvHead.of (mCheck_L0_ok blocks l) (absB_of [] [] kq (.consn kq (.eqv tq rfl) (.consn kq (.eqv tq rfl) (.consn kq (.eqv tq rfl) (.consn kq (.eqv tq rfl) (.consn kq (.eqv tq rfl) (.consn kq (.eqv tq rfl) .nil)))))) .nil) h0)) (ac h1 (ac h2 (ac h2 (ac h2 (ac h2 an)))))) tq
end Ab
end Go.Proofs.Ytpflcogplhigcaa
namespace Go.Proofs.Ytpflcogplhigcaa
open Go Go.Proofs.Ytpflcogplhigcaa.Ab
set_option linter.unusedVariables false
set_option linter.unusedSimpArgs false
namespace Ab
def Ck (x : Ex) : Prop := 0 ≤ x.lba ∧ x.lba ≤ 64 ∧ 1 ≤ x.len ∧ x.len ≤ 64 - x.lba ∧ 0 ≤ x.kind ∧ x.kind ≤ 2 ∧ 0 ≤ x.gen ∧ x.gen ≤ 2147483647 ∧ (x.kind = 2 → (x.d.length : Int) = 32 * x.len) ∧ (x.kind ≠ 2 → x.d = [])
instance (x : Ex) : Decidable (Ck x) := by unfold Ck; infer_instance
def ck (x : Ex) : Bool := decide (Ck x)
theorem ck_iff {x : Ex} : ck x = true ↔ Ck x := decide_eq_true_iff
theorem len0 {α : Type} {l : List α} : ((l.length : Int) = 0) ↔ l = [] := by
  rw [← List.length_eq_zero_iff]; omega
theorem ck_t {x : Ex} (h : Ck x) : ck x = true := ck_iff.2 h
theorem ck_f {x : Ex} (h : ¬ Ck x) : ck x = false := decide_eq_false_iff_not.2 h
theorem eCheck_eq (x : Ex) : eCheck x = some (ck x) := by
  unfold eCheck
  simp only [tb_dec, tb_beq]
  by_cases h1 : x.lba ≥ 0
  case neg => rw [if_neg h1, ck_f (by unfold Ck; omega)]
  by_cases h2 : x.lba ≤ 64
  case neg => rw [if_pos h1, if_neg h2, ck_f (by unfold Ck; omega)]
  have hw : wr (64 - x.lba) = 64 - x.lba := wr_id (by omega) (by omega)
  rw [hw, if_pos h1, if_pos h2]
  by_cases h3 : x.len ≥ 1
  case neg => rw [if_neg h3, ck_f (by unfold Ck; omega)]
  by_cases h4 : x.len ≤ 64 - x.lba
  case neg => rw [if_pos h3, if_neg h4, ck_f (by unfold Ck; omega)]
  have hw2 : wr (x.len * 32) = x.len * 32 := wr_id (by omega) (by omega)
  rw [hw2, if_pos h3, if_pos h4]
  by_cases h5 : x.kind ≥ 0
  case neg => rw [if_neg h5, ck_f (by unfold Ck; omega)]
  by_cases h6 : x.kind ≤ 2
  case neg => rw [if_pos h5, if_neg h6, ck_f (by unfold Ck; omega)]
  by_cases h7 : x.gen ≥ 0
  case neg => rw [if_pos h5, if_pos h6, if_neg h7, ck_f (by unfold Ck; omega)]
  by_cases h8 : x.gen ≤ 2147483647
  case neg => rw [if_pos h5, if_pos h6, if_pos h7, if_neg h8, ck_f (by unfold Ck; omega)]
  rw [if_pos h5, if_pos h6, if_pos h7, if_pos h8]
  by_cases h9 : x.kind = 2
  · rw [if_pos h9]
    congr 1
    rw [Bool.eq_iff_iff, ck_iff, beq_iff_eq]
    exact ⟨fun h => ⟨h1, h2, h3, h4, h5, h6, h7, h8, fun _ => by omega, fun h' => absurd h9 h'⟩, fun h => by have := h.2.2.2.2.2.2.2.2.1 h9; omega⟩
  · rw [if_neg h9]
    congr 1
    rw [Bool.eq_iff_iff, ck_iff, beq_iff_eq, len0]
    exact ⟨fun h => ⟨h1, h2, h3, h4, h5, h6, h7, h8, fun h' => absurd h' h9, fun _ => h⟩, fun h => h.2.2.2.2.2.2.2.2.2 h9⟩
def Jn (a b : Ex) : Prop := Ck a ∧ Ck b ∧ a.lba + a.len = b.lba ∧ a.kind = b.kind ∧ a.gen = b.gen
instance (a b : Ex) : Decidable (Jn a b) := by unfold Jn; infer_instance
def jn (a b : Ex) : Bool := decide (Jn a b)
theorem jn_iff {a b : Ex} : jn a b = true ↔ Jn a b := decide_eq_true_iff
theorem jn_f {a b : Ex} (h : ¬ Jn a b) : jn a b = false := decide_eq_false_iff_not.2 h
theorem jn_t {a b : Ex} (h : Jn a b) : jn a b = true := jn_iff.2 h
theorem eJoins_eq (a b : Ex) : eJoins a b = some (jn a b) := by
  unfold eJoins
  simp only [eCheck_eq, tc_some]
  by_cases ha : Ck a
  case neg => rw [ck_f ha, jn_f (fun h => ha h.1)]; first | rfl | (cases ck b <;> rfl)
  by_cases hb : Ck b
  case neg => rw [ck_t ha, ck_f hb, jn_f (fun h => hb h.2.1)]; rfl
  have : wr (a.lba + a.len) = a.lba + a.len := by unfold Ck at ha; exact wr_id (by omega) (by omega)
  rw [ck_t ha, ck_t hb, this]
  simp only [tb_t, tb_beq]
  by_cases h1 : a.lba + a.len = b.lba
  case neg => rw [if_neg h1, jn_f (fun h => h1 h.2.2.1)]
  by_cases h2 : a.kind = b.kind
  case neg => rw [if_pos h1, if_neg h2, jn_f (fun h => h2 h.2.2.2.1)]
  rw [if_pos h1, if_pos h2]
  congr 1
  rw [Bool.eq_iff_iff, jn_iff, beq_iff_eq]
  exact ⟨fun h => ⟨ha, hb, h1, h2, h⟩, fun h => h.2.2.2.2⟩
theorem exAt_all (l : List Ex) (p : Ex → Prop) : (∀ i, i < l.length → p (exAt l i)) ↔ ∀ x ∈ l, p x := by
  unfold exAt; exact getD_all _ l p
theorem few_eq (l : List Ex) : few l = some (decide (l.length ≤ 70 ∧ ∀ x ∈ l, x.d.length ≤ 3000)) := by
  unfold few
  rw [tb_dec]
  by_cases hl : (l.length : Int) > 70
  · rw [if_pos hl]; congr 1; symm; rw [decide_eq_false_iff_not]; omega
  rw [if_neg hl]
  rw [th_all (some false) (some true) l.length (fun i => (exAt l i).d.length ≤ 3000) (∀ x ∈ l, x.d.length ≤ 3000) (exAt_all l (fun x => x.d.length ≤ 3000))]
  · split
    · rename_i h; congr 1; symm; rw [decide_eq_true_iff]; exact ⟨by omega, h⟩
    · rename_i h; congr 1; symm; rw [decide_eq_false_iff_not]; exact fun g => h g.2
  · intro i hi hp
    unfold few_L0_step
    simp only [tb_dec, Int.toNat_natCast]
    rw [if_pos (by omega), tp_pos (by omega), if_neg (by omega), wr_id (by omega) (by omega)]
  · intro i hi hp
    unfold few_L0_step
    simp only [tb_dec, Int.toNat_natCast]
    rw [if_pos (by omega), tp_pos (by omega), if_pos (by omega), if_pos (by omega), tp_pos (by omega), if_pos (by omega)]
    exact ⟨rfl, rfl⟩
  · unfold few_L0_step
    simp only [tb_dec]
    rw [if_neg (by omega), if_neg (by omega)]
    exact ⟨rfl, rfl⟩
end Ab
end Go.Proofs.Ytpflcogplhigcaa
namespace Go.Proofs.Ytpflcogplhigcaa
open Go Go.Proofs.Ytpflcogplhigcaa.Ab
set_option linter.unusedVariables false
set_option linter.unusedSimpArgs false
namespace Ab
def zb (b : List UInt8) : Bool := b == List.replicate 32 0
def fl : Nat → List UInt8 → List Bool
  | 0, _ => []
  | n + 1, b => zb (b.take 32) :: fl n (b.drop 32)
def flags (b : List UInt8) : List Bool := fl (b.length / 32) b
theorem fl_length : ∀ (n : Nat) (b : List UInt8), (fl n b).length = n
  | 0, _ => rfl
  | n + 1, b => by simp [fl, fl_length n]
theorem flags_nil {b : List UInt8} (h : b.length < 32) : flags b = [] := by
  unfold flags; rw [Nat.div_eq_of_lt h]; rfl
theorem flags_cons {b : List UInt8} (h : 32 ≤ b.length) : flags b = zb (b.take 32) :: flags (b.drop 32) := by
  unfold flags
  rw [show b.length / 32 = (b.drop 32).length / 32 + 1 by rw [List.length_drop]; omega]
  rfl
theorem flags_append {a : List UInt8} (b : List UInt8) (h : a.length % 32 = 0) : flags (a ++ b) = flags a ++ flags b := by
  have key : ∀ (n : Nat) (a : List UInt8), a.length = 32 * n → flags (a ++ b) = flags a ++ flags b := by
    intro n
    induction n with
    | zero =>
      intro a ha
      have : a = [] := List.length_eq_zero_iff.1 (by omega)
      subst this; rw [flags_nil (b := []) (by simp)]; rfl
    | succ n ih =>
      intro a ha
      rw [flags_cons (b := a) (by omega), flags_cons (b := a ++ b) (by rw [List.length_append]; omega)]
      rw [List.take_append_of_le_length (by omega), List.drop_append_of_le_length (by omega), ih _ (by rw [List.length_drop]; omega)]
      rfl
  exact key (a.length / 32) a (by omega)
end Ab
end Go.Proofs.Ytpflcogplhigcaa
namespace Go.Proofs.Ytpflcogplhigcaa
open Go Go.Proofs.Ytpflcogplhigcaa.Ab
set_option linter.unusedVariables false
set_option linter.unusedSimpArgs false
set_option maxRecDepth 1000000
set_option maxHeartbeats 0
namespace Ab
noncomputable def eCut (x : Ex) (lba : Int) (n : Int) : Option (Ex × Bool) :=
 (tc (eCheck (x)) fun s0 => (tb ((!s0)) (some (((Ex.mk 0 0 0 0 ([] : List UInt8)), false))) (tb ((decide (lba ≥ (0 : Int)))) (tb ((!(decide (lba ≤ (64 : Int))))) (some (((Ex.mk 0 0 0 0 ([] : List UInt8)), false))) (tb ((decide (n ≥ (0 : Int)))) (tb ((!(decide (n ≤ (64 : Int))))) (some (((Ex.mk 0 0 0 0 ([] : List UInt8)), false))) (tb ((decide ((imax x.lba lba) ≥ (imin (wr (x.lba + x.len)) (wr (lba + n)))))) (some (((Ex.mk 0 0 0 0 ([] : List UInt8)), false))) (tb ((x.kind == (2 : Int))) (tp (((0 : Int) ≤ (wr ((wr ((imax x.lba lba) - x.lba)) * (32 : Int))))) (tp (((0 : Int) ≤ (wr ((wr ((imin (wr (x.lba + x.len)) (wr (lba + n))) - x.lba)) * (32 : Int))))) (tp ((((Int.toNat (wr ((wr ((imax x.lba lba) - x.lba)) * (32 : Int)))) ≤ (Int.toNat (wr ((wr ((imin (wr (x.lba + x.len)) (wr (lba + n))) - x.lba)) * (32 : Int))))) ∧ (((Int.toNat (wr ((wr ((imin (wr (x.lba + x.len)) (wr (lba + n))) - x.lba)) * (32 : Int)))) ≤ x.d.length) ∧ ((List.length (List.map AV.y x.d)) = (x.d.length * 1))))) (tp ((((Int.toNat (wr ((wr ((imin (wr (x.lba + x.len)) (wr (lba + n))) - x.lba)) * (32 : Int)))) - (Int.toNat (wr ((wr ((imax x.lba lba) - x.lba)) * (32 : Int))))) ≤ (4294967296 : Nat))) (some (((Ex.mk (imax x.lba lba) (wr ((imin (wr (x.lba + x.len)) (wr (lba + n))) - (imax x.lba lba))) x.kind x.gen (List.take (((Int.toNat (wr ((wr ((imin (wr (x.lba + x.len)) (wr (lba + n))) - x.lba)) * (32 : Int)))) - (Int.toNat (wr ((wr ((imax x.lba lba) - x.lba)) * (32 : Int))))) * 1) (List.take (((Int.toNat (wr ((wr ((imin (wr (x.lba + x.len)) (wr (lba + n))) - x.lba)) * (32 : Int)))) - (Int.toNat (wr ((wr ((imax x.lba lba) - x.lba)) * (32 : Int))))) * 1) (List.drop ((Int.toNat (wr ((wr ((imax x.lba lba) - x.lba)) * (32 : Int)))) * 1) x.d)))), true))))))) (some (((Ex.mk (imax x.lba lba) (wr ((imin (wr (x.lba + x.len)) (wr (lba + n))) - (imax x.lba lba))) x.kind x.gen ([] : List UInt8)), true)))))) (some (((Ex.mk 0 0 0 0 ([] : List UInt8)), false))))) (some (((Ex.mk 0 0 0 0 ([] : List UInt8)), false))))))
abbrev eCut_G (x : Ex) (lba : Int) (n : Int) (r : Ex × Bool) : Prop := EvFr Try.prog cf true 75 [Ex.av (x), .i (lba), .i (n)] (.tu [Ex.av (r.1), .b (r.2)])
theorem eCut_ok (x : Ex) (lba : Int) (n : Int) (r : Ex × Bool) : eCut x lba n = some r → eCut_G x lba n r := by
  unfold eCut
  exact tc_ok fun s0 h0 => tb_ok (fun h1 => by intro e; injection e with e; subst e; exact leafR vw_eq (k := 300) (r := []) (hs := hz [(4, [.fc]), (1, [.fres (.b (s0))]), (2, [.yes, .yes, .yes, .yes]), (8, [.fc]), (2, [.fc])]) (raw := (AV.tu [(AV.ag [(AV.i 0), (AV.i 0), (AV.i 0), (AV.i 0), (AV.sl 0 ([] : List AV))]), (AV.b false)])) kq (ac (eCheck_ok (x) _ h0).any0 (ac h1 (ac h1 (ac h1 (ac h1 an))))) tq) fun h1 => tbD (fun h2 h2p => tb_ok (fun h3 => by intro e; injection e with e; subst e; exact leafR vw_eq (k := 300) (r := []) (hs := hz [(4, [.fc]), (1, [.fres (.b (s0))]), (2, [.no]), (1, [.no]), (7, [.yes]), (1, [.yes]), (1, [.yes]), (1, [.yes]), (1, [.no]), (1, [.no]), (1, [.yes, .yes, .yes, .yes]), (3, [.fc]), (2, [.fc])]) (raw := (AV.tu [(AV.ag [(AV.i 0), (AV.i 0), (AV.i 0), (AV.i 0), (AV.sl 0 ([] : List AV))]), (AV.b false)])) kq (ac (eCheck_ok (x) _ h0).any0 (ac h1 (ac h1 (ac h2 (ac h2 (ac h2 (ac h2 (ac h1 (ac h1 (ac h3 (ac h3 (ac h3 (ac h3 an))))))))))))) tq) fun h3 => tbD (fun h4 h4p => tb_ok (fun h5 => by intro e; injection e with e; subst e; exact leafR vw_eq (k := 300) (r := []) (hs := hz [(4, [.fc]), (1, [.fres (.b (s0))]), (2, [.no]), (1, [.no]), (7, [.yes]), (1, [.yes]), (1, [.yes]), (1, [.yes]), (1, [.no]), (1, [.no]), (1, [.no]), (1, [.no]), (7, [.yes]), (1, [.yes]), (1, [.yes]), (1, [.yes]), (1, [.no]), (1, [.no, .yes]), (2, [.fc]), (2, [.fc])]) (raw := (AV.tu [(AV.ag [(AV.i 0), (AV.i 0), (AV.i 0), (AV.i 0), (AV.sl 0 ([] : List AV))]), (AV.b false)])) kq (ac (eCheck_ok (x) _ h0).any0 (ac h1 (ac h1 (ac h2 (ac h2 (ac h2 (ac h2 (ac h1 (ac h1 (ac h3 (ac h3 (ac h4 (ac h4 (ac h4 (ac h4 (ac h3 (ac h3 (ac h5 an)))))))))))))))))) tq) fun h5 => tbD (fun h6 h6p => by intro e; injection e with e; subst e; exact leafR vw_eq (k := 300) (r := []) (hs := hz [(4, [.fc]), (1, [.fres (.b (s0))]), (2, [.no]), (1, [.no]), (7, [.yes]), (1, [.yes]), (1, [.yes]), (1, [.yes]), (1, [.no]), (1, [.no]), (1, [.no]), (1, [.no]), (7, [.yes]), (1, [.yes]), (1, [.yes]), (1, [.yes]), (1, [.no]), (1, [.no, .no]), (18, [.yes]), (3, [.yes]), (2, [.fc]), (2, [.fc])]) (raw := (AV.tu [(AV.ag [(AV.i 0), (AV.i 0), (AV.i 0), (AV.i 0), (AV.sl 0 ([] : List AV))]), (AV.b false)])) kq (ac (eCheck_ok (x) _ h0).any0 (ac h1 (ac h1 (ac h2 (ac h2 (ac h2 (ac h2 (ac h1 (ac h1 (ac h3 (ac h3 (ac h4 (ac h4 (ac h4 (ac h4 (ac h3 (ac h3 (ac h5 (ac (show orderOk (rg Try.prog 75 0) = true ∧ allOk (Region.before (rg Try.prog 75 0)) [] 0 [(some [], some []), (some [0], some []), (some [], some []), (some [], some []), (some [], some []), (some [0], some []), (some [], some []), (some [0], some []), (some [], some []), (some [], some []), (some [], some []), (some [], some []), (some [], some []), (some [], some []), (some [], some [])] = true from (ord_of ord_75_0 bef_75_0 kq)) (ac h6 an)))))))))))))))))))) tq) fun h6 h6p => tbE (fun h7 h7p => tp_ok fun h8 => tp_ok fun h9 => tp_ok fun h10 => tp_ok fun h11 => by intro e; injection e with e; subst e; exact leafR vw_eq (k := 300) (r := []) (hs := hz [(4, [.fc]), (1, [.fres (.b (s0))]), (2, [.no]), (1, [.no]), (7, [.yes]), (1, [.yes]), (1, [.yes]), (1, [.yes]), (1, [.no]), (1, [.no]), (1, [.no]), (1, [.no]), (7, [.yes]), (1, [.yes]), (1, [.yes]), (1, [.yes]), (1, [.no]), (1, [.no, .no]), (18, [.yes]), (3, [.no]), (6, [.fc]), (4, [.yes]), (13, [.yes, .yes, .yes]), (1, [.yes, .yes]), (2, [.fc]), (6, [.fc]), (2, [.fc]), (1, [.fc]), (1, [.fc]), (2, [.fc, .no, .yes, .yes])]) (raw := (AV.tu [(AV.ag [(AV.i (imax x.lba lba)), (AV.i (wr ((imin (wr (x.lba + x.len)) (wr (lba + n))) - (imax x.lba lba)))), (AV.i x.kind), (AV.i x.gen), (AV.sl ((Int.toNat (wr ((wr ((imin (wr (x.lba + x.len)) (wr (lba + n))) - x.lba)) * (32 : Int)))) - (Int.toNat (wr ((wr ((imax x.lba lba) - x.lba)) * (32 : Int))))) (List.take (((Int.toNat (wr ((wr ((imin (wr (x.lba + x.len)) (wr (lba + n))) - x.lba)) * (32 : Int)))) - (Int.toNat (wr ((wr ((imax x.lba lba) - x.lba)) * (32 : Int))))) * 1) (List.take (((Int.toNat (wr ((wr ((imin (wr (x.lba + x.len)) (wr (lba + n))) - x.lba)) * (32 : Int)))) - (Int.toNat (wr ((wr ((imax x.lba lba) - x.lba)) * (32 : Int))))) * 1) (List.drop ((Int.toNat (wr ((wr ((imax x.lba lba) - x.lba)) * (32 : Int)))) * 1) (List.map AV.y x.d)))))]), (AV.b true)])) kq (ac (eCheck_ok (x) _ h0).any0 (ac h1 (ac h1 (ac h2 (ac h2 (ac h2 (ac h2 (ac h1 (ac h1 (ac h3 (ac h3 (ac h4 (ac h4 (ac h4 (ac h4 (ac h3 (ac h3 (ac h5 (ac (show orderOk (rg Try.prog 75 0) = true ∧ allOk (Region.before (rg Try.prog 75 0)) [] 0 [(some [], some []), (some [0], some []), (some [], some []), (some [], some []), (some [], some []), (some [0], some []), (some [], some []), (some [0], some []), (some [], some []), (some [], some []), (some [], some []), (some [], some []), (some [], some []), (some [], some []), (some [], some [])] = true from (ord_of ord_75_0 bef_75_0 kq)) (ac h6 (ac h7 (ac h8 (ac h9 (ac h10 (ac (fq (p := ((List.length (List.take (((Int.toNat (wr ((wr ((imin (wr (x.lba + x.len)) (wr (lba + n))) - x.lba)) * (32 : Int)))) - (Int.toNat (wr ((wr ((imax x.lba lba) - x.lba)) * (32 : Int))))) * 1) (List.drop ((Int.toNat (wr ((wr ((imax x.lba lba) - x.lba)) * (32 : Int)))) * 1) (List.map AV.y x.d)))) = (((Int.toNat (wr ((wr ((imin (wr (x.lba + x.len)) (wr (lba + n))) - x.lba)) * (32 : Int)))) - (Int.toNat (wr ((wr ((imax x.lba lba) - x.lba)) * (32 : Int))))) * 1)))) (ac h11 (ac (fq (p := (((0 : Nat) + (((Int.toNat (wr ((wr ((imin (wr (x.lba + x.len)) (wr (lba + n))) - x.lba)) * (32 : Int)))) - (Int.toNat (wr ((wr ((imax x.lba lba) - x.lba)) * (32 : Int))))) * 1)) ≤ (List.length (List.take (((Int.toNat (wr ((wr ((imin (wr (x.lba + x.len)) (wr (lba + n))) - x.lba)) * (32 : Int)))) - (Int.toNat (wr ((wr ((imax x.lba lba) - x.lba)) * (32 : Int))))) * 1) (List.drop ((Int.toNat (wr ((wr ((imax x.lba lba) - x.lba)) * (32 : Int)))) * 1) (List.map AV.y x.d))))))) (ac (pq (p := Pl true ((List.take (((Int.toNat (wr ((wr ((imin (wr (x.lba + x.len)) (wr (lba + n))) - x.lba)) * (32 : Int)))) - (Int.toNat (wr ((wr ((imax x.lba lba) - x.lba)) * (32 : Int))))) * 1) (List.take (((Int.toNat (wr ((wr ((imin (wr (x.lba + x.len)) (wr (lba + n))) - x.lba)) * (32 : Int)))) - (Int.toNat (wr ((wr ((imax x.lba lba) - x.lba)) * (32 : Int))))) * 1) (List.drop ((Int.toNat (wr ((wr ((imax x.lba lba) - x.lba)) * (32 : Int)))) * 1) (List.map AV.y x.d))))))) an)))))))))))))))))))))))))))) tq) fun h7 h7p => by intro e; injection e with e; subst e; exact leafR vw_eq (k := 300) (r := []) (hs := hz [(4, [.fc]), (1, [.fres (.b (s0))]), (2, [.no]), (1, [.no]), (7, [.yes]), (1, [.yes]), (1, [.yes]), (1, [.yes]), (1, [.no]), (1, [.no]), (1, [.no]), (1, [.no]), (7, [.yes]), (1, [.yes]), (1, [.yes]), (1, [.yes]), (1, [.no]), (1, [.no, .no]), (18, [.yes]), (3, [.no]), (6, [.fc]), (4, [.no]), (6, [.fc]), (2, [.fc]), (1, [.fc]), (1, [.fc]), (2, [.fc])]) (raw := (AV.tu [(AV.ag [(AV.i (imax x.lba lba)), (AV.i (wr ((imin (wr (x.lba + x.len)) (wr (lba + n))) - (imax x.lba lba)))), (AV.i x.kind), (AV.i x.gen), (AV.sl 0 ([] : List AV))]), (AV.b true)])) kq (ac (eCheck_ok (x) _ h0).any0 (ac h1 (ac h1 (ac h2 (ac h2 (ac h2 (ac h2 (ac h1 (ac h1 (ac h3 (ac h3 (ac h4 (ac h4 (ac h4 (ac h4 (ac h3 (ac h3 (ac h5 (ac (show orderOk (rg Try.prog 75 0) = true ∧ allOk (Region.before (rg Try.prog 75 0)) [] 0 [(some [], some []), (some [0], some []), (some [], some []), (some [], some []), (some [], some []), (some [0], some []), (some [], some []), (some [0], some []), (some [], some []), (some [], some []), (some [], some []), (some [], some []), (some [], some []), (some [], some []), (some [], some [])] = true from (ord_of ord_75_0 bef_75_0 kq)) (ac h6 (ac h7 an))))))))))))))))))))) tq) fun h4 h4p => by intro e; injection e with e; subst e; exact leafR vw_eq (k := 300) (r := []) (hs := hz [(4, [.fc]), (1, [.fres (.b (s0))]), (2, [.no]), (1, [.no]), (7, [.yes]), (1, [.yes]), (1, [.yes]), (1, [.yes]), (1, [.no]), (1, [.no]), (1, [.no]), (1, [.no]), (7, [.no, .no, .no, .no]), (1, [.no]), (1, [.no]), (3, [.fc]), (2, [.fc])]) (raw := (AV.tu [(AV.ag [(AV.i 0), (AV.i 0), (AV.i 0), (AV.i 0), (AV.sl 0 ([] : List AV))]), (AV.b false)])) kq (ac (eCheck_ok (x) _ h0).any0 (ac h1 (ac h1 (ac h2 (ac h2 (ac h2 (ac h2 (ac h1 (ac h1 (ac h3 (ac h3 (ac h4 (ac h4 (ac h4 (ac h4 (ac h3 (ac h3 an))))))))))))))))) tq) fun h2 h2p => by intro e; injection e with e; subst e; exact leafR vw_eq (k := 300) (r := []) (hs := hz [(4, [.fc]), (1, [.fres (.b (s0))]), (2, [.no]), (1, [.no]), (7, [.no, .no, .no, .no]), (1, [.no]), (1, [.no]), (8, [.fc]), (2, [.fc])]) (raw := (AV.tu [(AV.ag [(AV.i 0), (AV.i 0), (AV.i 0), (AV.i 0), (AV.sl 0 ([] : List AV))]), (AV.b false)])) kq (ac (eCheck_ok (x) _ h0).any0 (ac h1 (ac h1 (ac h2 (ac h2 (ac h2 (ac h2 (ac h1 (ac h1 an))))))))) tq
noncomputable def eBytes (x : Ex) : Option (List UInt8) :=
 (tc (eCheck (x)) fun s0 => (tb ((!s0)) (some (([] : List UInt8))) (tp ((((wr (x.len * (32 : Int))) = (wr (x.len * (32 : Int)))) ∧ (((0 : Int) ≤ (wr (x.len * (32 : Int)))) ∧ ((wr (x.len * (32 : Int))) ≤ (4294967296 : Int))))) (some ((((List.take 0 (List.replicate (Int.toNat (wr (x.len * (32 : Int)))) (UInt8.ofNat (0 : Nat)))) ++ (List.take ((Min.min x.d.length (Int.toNat (wr (x.len * (32 : Int))))) * 1) x.d)) ++ (List.drop ((0 : Nat) + (List.length (List.take ((Min.min x.d.length (Int.toNat (wr (x.len * (32 : Int))))) * 1) (List.map AV.y x.d)))) (List.replicate (Int.toNat (wr (x.len * (32 : Int)))) (UInt8.ofNat (0 : Nat))))))))))
abbrev eBytes_G (x : Ex) (r : List UInt8) : Prop := EvFr Try.prog cf true 63 [Ex.av (x)] (bys (r))
theorem eBytes_ok (x : Ex) (r : List UInt8) : eBytes x = some r → eBytes_G x r := by
  unfold eBytes
  exact tc_ok fun s0 h0 => tb_ok (fun h1 => by intro e; injection e with e; subst e; exact leafR vw_eq (k := 300) (r := []) (hs := hz [(3, [.fc]), (1, [.fres (.b (s0))]), (1, [.yes]), (1, [])]) (raw := (AV.sl 0 ([] : List AV))) kq (ac (eCheck_ok (x) _ h0).any0 (ac h1 an)) tq) fun h1 => tp_ok fun h2 => by intro e; injection e with e; subst e; exact leafR vw_eq (k := 300) (r := []) (hs := hz [(3, [.fc]), (1, [.fres (.b (s0))]), (1, [.no]), (4, [.yes]), (5, [.yes, .yes]), (3, [.yes, .yes])]) (raw := (AV.sl (Int.toNat (wr (x.len * (32 : Int)))) (((List.take 0 (List.flatten (List.replicate (Int.toNat (wr (x.len * (32 : Int)))) [(AV.y (UInt8.ofNat (0 : Nat)))]))) ++ (List.take ((Min.min x.d.length (Int.toNat (wr (x.len * (32 : Int))))) * 1) (List.map AV.y x.d))) ++ (List.drop ((0 : Nat) + (List.length (List.take ((Min.min x.d.length (Int.toNat (wr (x.len * (32 : Int))))) * 1) (List.map AV.y x.d)))) (List.flatten (List.replicate (Int.toNat (wr (x.len * (32 : Int)))) [(AV.y (UInt8.ofNat (0 : Nat)))])))))) kq (ac (eCheck_ok (x) _ h0).any0 (ac h1 (ac h2 (ac (tq (p := ((List.length (List.map AV.y x.d)) = (x.d.length * 1)))) (ac (tq (p := (((0 : Nat) + ((Int.toNat (wr (x.len * (32 : Int)))) * 1)) ≤ (List.length (List.flatten (List.replicate (Int.toNat (wr (x.len * (32 : Int)))) [(AV.y (UInt8.ofNat (0 : Nat)))])))))) (ac (tq (p := (((0 : Nat) = (0 : Nat)) ∧ ((List.length (((List.take 0 (List.flatten (List.replicate (Int.toNat (wr (x.len * (32 : Int)))) [(AV.y (UInt8.ofNat (0 : Nat)))]))) ++ (List.take ((Min.min x.d.length (Int.toNat (wr (x.len * (32 : Int))))) * 1) (List.map AV.y x.d))) ++ (List.drop ((0 : Nat) + (List.length (List.take ((Min.min x.d.length (Int.toNat (wr (x.len * (32 : Int))))) * 1) (List.map AV.y x.d)))) (List.flatten (List.replicate (Int.toNat (wr (x.len * (32 : Int)))) [(AV.y (UInt8.ofNat (0 : Nat)))]))))) = ((Int.toNat (wr (x.len * (32 : Int)))) * 1))))) (ac (pq (p := Pl true ((((List.take 0 (List.flatten (List.replicate (Int.toNat (wr (x.len * (32 : Int)))) [(AV.y (UInt8.ofNat (0 : Nat)))]))) ++ (List.take ((Min.min x.d.length (Int.toNat (wr (x.len * (32 : Int))))) * 1) (List.map AV.y x.d))) ++ (List.drop ((0 : Nat) + (List.length (List.take ((Min.min x.d.length (Int.toNat (wr (x.len * (32 : Int))))) * 1) (List.map AV.y x.d)))) (List.flatten (List.replicate (Int.toNat (wr (x.len * (32 : Int)))) [(AV.y (UInt8.ofNat (0 : Nat)))]))))))) an))))))) tq
noncomputable def eJoin (a : Ex) (b : Ex) : Option (Ex × Int) :=
 (tc (eJoins (a) (b)) fun s0 => (tb ((!s0)) (some (((Ex.mk 0 0 0 0 ([] : List UInt8)), (70 : Int)))) (tp ((a.d.length ≤ (4294967296 : Nat))) (tp ((((List.length (List.map AV.y a.d)) = (a.d.length * 1)) ∧ ((a.d.length + b.d.length) ≤ (4294967296 : Nat)))) (some (((Ex.mk a.lba (wr (a.len + b.len)) a.kind a.gen (a.d ++ b.d)), (0 : Int))))))))
abbrev eJoin_G (a : Ex) (b : Ex) (r : Ex × Int) : Prop := EvFr Try.prog cf true 45 [Ex.av (a), Ex.av (b)] (.tu [Ex.av (r.1), .i (r.2)])
theorem eJoin_ok (a : Ex) (b : Ex) (r : Ex × Int) : eJoin a b = some r → eJoin_G a b r := by
  unfold eJoin
  exact tc_ok fun s0 h0 => tb_ok (fun h1 => by intro e; injection e with e; subst e; exact leafR vw_eq (k := 300) (r := []) (hs := hz [(5, [.fc]), (1, [.fc]), (1, [.fres (.b (s0))]), (1, [.yes]), (2, [.fc]), (2, [.fc])]) (raw := (AV.tu [(AV.ag [(AV.i 0), (AV.i 0), (AV.i 0), (AV.i 0), (AV.sl 0 ([] : List AV))]), (AV.i 70)])) kq (ac (eJoins_ok (a) (b) _ h0).any0 (ac h1 an)) tq) fun h1 => tp_ok fun h2 => tp_ok fun h3 => by intro e; injection e with e; subst e; exact leafR vw_eq (k := 300) (r := []) (hs := hz [(5, [.fc]), (1, [.fc]), (1, [.fres (.b (s0))]), (1, [.no]), (9, [.fc]), (4, [.yes, .yes]), (3, [.yes, .yes]), (2, [.fc, .yes]), (1, [.fc]), (1, [.fc]), (2, [.fc, .yes, .yes])]) (raw := (AV.tu [(AV.ag [(AV.i a.lba), (AV.i (wr (a.len + b.len))), (AV.i a.kind), (AV.i a.gen), (AV.sl (a.d.length + b.d.length) ((List.map AV.y a.d) ++ (List.map AV.y b.d)))]), (AV.i 0)])) kq (ac (eJoins_ok (a) (b) _ h0).any0 (ac h1 (ac (tq (p := ((List.length (List.map AV.y a.d)) = (a.d.length * 1)))) (ac h2 (ac (tq (p := ((List.length (List.map AV.y b.d)) = (b.d.length * 1)))) (ac h3 (ac (show orderOk (rg Try.prog 45 0) = true ∧ allOk (Region.before (rg Try.prog 45 0)) [] 0 [(some [], some []), (some [0], some []), (some [], some [3]), (some [], some []), (some [1], some []), (some [3], some [3, 4]), (some [], some []), (some [0], some [0])] = true from (ord_of ord_45_0 bef_45_0 kq)) (ac (tq (p := (((0 : Nat) = (0 : Nat)) ∧ ((List.length ((List.map AV.y a.d) ++ (List.map AV.y b.d))) = ((a.d.length + b.d.length) * 1))))) (ac (pq (p := Pl true (((List.map AV.y a.d) ++ (List.map AV.y b.d))))) an))))))))) tq
noncomputable abbrev sUpto_L0_I (blocks : Int) (l : List Ex) (gen : Int) (s0 : Bool) : St := (St.mk [(0, (exs l)), (1, (AV.fn (74 : Nat) [(AV.pt 0 0)])), (4, (AV.i 0)), (6, (exs l)), (7, (AV.i (l.length : Int))), (8, (AV.i 0))] 19 (AH.mk 1 [(0, (AObj.cells [(AV.i gen)]))]) false)
noncomputable abbrev sUpto_L0_S (blocks : Int) (l : List Ex) (gen : Int) (s0 : Bool) (s2 : Int) : St := (St.mk [(0, (exs l)), (1, (AV.fn (74 : Nat) [(AV.pt 0 0)])), (7, (AV.i (l.length : Int))), (8, (AV.i s2))] 19 (AH.mk 1 [(0, (AObj.cells [(AV.i gen)]))]) false)
noncomputable def sUpto_L0_step (blocks : Int) (l : List Ex) (gen : Int) (s0 : Bool) (s2 : Int) : Option (Int) :=
 (tb ((decide (s2 < (l.length : Int)))) (tp ((((0 : Int) ≤ s2) ∧ (s2 < (l.length : Int)))) (tb ((decide ((exAt l s2.toNat).gen > gen))) none (some ((wr (s2 + (1 : Int))))))) none)
theorem sUpto_L0_ok (blocks : Int) (l : List Ex) (gen : Int) (s0 : Bool) (s2 zz : Int) : sUpto_L0_step blocks l gen s0 s2 = some zz → EvStep Try.prog cf 1 (lp Try.prog 91 0) (sUpto_L0_S blocks l gen s0 s2) (sUpto_L0_S blocks l gen s0 zz) := by
  unfold sUpto_L0_step
  exact tbD (fun h3 h3p => tp_ok fun h4 => tbD (fun h5 h5p => tn_ok) fun h5 h5p => by intro e; injection e with e; subst e; exact leafIS vw_eq (k := 300) (r := []) (hs := hz [(1, [.yes]), (5, [.yes, .yes, .cells ((Ex.cells (exAt l s2.toNat)))]), (10, [.no]), (2, [])]) (ks := [0, 1, 7, 8]) (bs := [0]) kq (ac h3 (ac h4 (ac (fq (p := ((5 : Nat) ≤ (List.length (List.drop (s2.toNat * 5) (l.flatMap Ex.cells)))))) (ac (show (List.take 5 (List.drop (s2.toNat * 5) (l.flatMap Ex.cells))) = (Ex.cells (exAt l s2.toNat)) from (ex_takeO bq bq)) (ac h5 an))))) kq) fun h3 h3p => tn_ok
noncomputable def sUpto (blocks : Int) (l : List Ex) (gen : Int) : Option (Bool) :=
 (tc (mCheck (blocks) (l)) fun s0 => (tb (s0) (th (sUpto_L0_step blocks l gen s0) ((0 : Int)) fun s2 => (tb ((decide (s2 < (l.length : Int)))) (tp ((((0 : Int) ≤ s2) ∧ (s2 < (l.length : Int)))) (tb ((decide ((exAt l s2.toNat).gen > gen))) (some ((!(decide (s2 ≥ (0 : Int)))))) none)) (some (true)))) (some (false))))
abbrev sUpto_G (blocks : Int) (l : List Ex) (gen : Int) (r : Bool) : Prop := EvFr Try.prog cf true 49 [.i (blocks), exs (l), .i (gen)] (.b (r))
theorem sUpto_ok (blocks : Int) (l : List Ex) (gen : Int) (r : Bool) : sUpto blocks l gen = some r → sUpto_G blocks l gen r := by
  unfold sUpto
  exact tc_ok fun s0 h0 => tb_ok (fun h1 => th_ok fun s2 h2 => tbD (fun h3 h3p => tp_ok fun h4 => tbD (fun h5 h5p => by intro e; injection e with e; subst e; exact leafR vw_eq (k := 300) (r := []) (hs := hz [(5, [.fres (.b (s0))]), (1, [.yes]), (1, [.yes]), (1, [.yes]), (9, [.head (sUpto_L0_S blocks l gen s0 s2)]), (1, [.yes]), (5, [.yes, .yes, .cells ((Ex.cells (exAt l s2.toNat)))]), (10, [.yes]), (4, [.yes]), (1, [.yes]), (1, [])]) (raw := (AV.b (!(decide (s2 ≥ (0 : Int)))))) kq (ac (mCheck_ok (blocks) (l) _ h0).any0 (ac h1 (ac h1 (ac h1 (ac (show EvHead Try.prog cf (lp Try.prog 91 0) (sUpto_L0_I blocks l gen s0) (sUpto_L0_S blocks l gen s0 s2) from (EvHead.of (sUpto_L0_ok blocks l gen s0) (absB_of [] [] kq (.consn kq (.eqv tq rfl) (.consn kq (.fn (.cons (.pt rfl) .nil)) (.consn kq (.eqv tq rfl) (.consn kq (.eqv tq rfl) .nil)))) (.cons (.old rfl rfl (.cells (.cons (.eqv tq rfl) .nil))) .nil)) h2)) (ac h3 (ac h4 (ac (fq (p := ((5 : Nat) ≤ (List.length (List.drop (s2.toNat * 5) (l.flatMap Ex.cells)))))) (ac (show (List.take 5 (List.drop (s2.toNat * 5) (l.flatMap Ex.cells))) = (Ex.cells (exAt l s2.toNat)) from (ex_takeO bq bq)) (ac h5 (ac h1 (ac h1 an)))))))))))) tq) fun h5 h5p => tn_ok) fun h3 h3p => by intro e; injection e with e; subst e; exact leafR vw_eq (k := 300) (r := []) (hs := hz [(5, [.fres (.b (s0))]), (1, [.yes]), (1, [.yes]), (1, [.yes]), (9, [.head (sUpto_L0_S blocks l gen s0 s2)]), (1, [.no]), (3, [.yes]), (1, [.yes]), (1, [])]) (raw := (AV.b true)) kq (ac (mCheck_ok (blocks) (l) _ h0).any0 (ac h1 (ac h1 (ac h1 (ac (show EvHead Try.prog cf (lp Try.prog 91 0) (sUpto_L0_I blocks l gen s0) (sUpto_L0_S blocks l gen s0 s2) from (EvHead.of (sUpto_L0_ok blocks l gen s0) (absB_of [] [] kq (.consn kq (.eqv tq rfl) (.consn kq (.fn (.cons (.pt rfl) .nil)) (.consn kq (.eqv tq rfl) (.consn kq (.eqv tq rfl) .nil)))) (.cons (.old rfl rfl (.cells (.cons (.eqv tq rfl) .nil))) .nil)) h2)) (ac h3 (ac h1 (ac h1 an)))))))) tq) fun h1 => by intro e; injection e with e; subst e; exact leafR vw_eq (k := 300) (r := []) (hs := hz [(5, [.fres (.b (s0))]), (1, [.no, .no, .no, .no, .no]), (1, [])]) (raw := (AV.b false)) kq (ac (mCheck_ok (blocks) (l) _ h0).any0 (ac h1 (ac h1 (ac h1 (ac h1 (ac h1 an)))))) tq
noncomputable abbrev few11_L0_I (s : Sa) (s2 : Bool) : St := (St.mk [(0, (AV.ag [(AV.i s.blocks), (AV.i s.gen), (exs s.map), (AV.sl s.points.length (s.points.flatMap Po.cells)), (AV.i s.last), (bys s.staged)])), (1, (AV.pt 0 0)), (2, (AV.b false)), (4, (AV.pt 0 3)), (5, (AV.sl s.points.length (s.points.flatMap Po.cells))), (6, (AV.i (s.points.length : Int))), (7, (AV.b (decide ((s.points.length : Int) > (10 : Int))))), (8, (AV.b (decide ((s.points.length : Int) > (10 : Int))))), (9, (AV.pt 0 5)), (10, (bys s.staged)), (11, (AV.i (s.staged.length : Int))), (12, (AV.b (decide ((s.staged.length : Int) > (6000 : Int))))), (13, (AV.b (decide ((s.staged.length : Int) > (6000 : Int))))), (14, (AV.b (decide ((s.staged.length : Int) > (6000 : Int))))), (15, (AV.pt 0 2)), (16, (exs s.map)), (17, (AV.b s2)), (18, (AV.b (!s2))), (19, (AV.b (!s2))), (3, (AV.i 0))] 35 (AH.mk 1 [(0, (AObj.cells [(AV.i s.blocks), (AV.i s.gen), (exs s.map), (AV.sl s.points.length (s.points.flatMap Po.cells)), (AV.i s.last), (bys s.staged)]))]) false)
noncomputable abbrev few11_L0_S (s : Sa) (s2 : Bool) (s4 : Int) : St := (St.mk [(0, (AV.ag [(AV.i s.blocks), (AV.i s.gen), (exs s.map), (AV.sl s.points.length (s.points.flatMap Po.cells)), (AV.i s.last), (bys s.staged)])), (1, (AV.pt 0 0)), (19, (AV.b (!s2))), (3, (AV.i s4))] 35 (AH.mk 1 [(0, (AObj.cells [(AV.i s.blocks), (AV.i s.gen), (exs s.map), (AV.sl s.points.length (s.points.flatMap Po.cells)), (AV.i s.last), (bys s.staged)]))]) false)
noncomputable def few11_L0_step (s : Sa) (s2 : Bool) (s4 : Int) : Option (Int) :=
 (tb ((decide (s4 < (s.points.length : Int)))) (tp ((((0 : Int) ≤ s4) ∧ (s4 < (s.points.length : Int)))) (tc (few ((poAt s.points s4.toNat).map)) fun s7 => (tb ((!s7)) none (some ((wr (s4 + (1 : Int)))))))) none)
theorem few11_L0_ok (s : Sa) (s2 : Bool) (s4 zz : Int) : few11_L0_step s s2 s4 = some zz → EvStep Try.prog cf 1 (lp Try.prog 9 0) (few11_L0_S s s2 s4) (few11_L0_S s s2 zz) := by
  unfold few11_L0_step
  exact tbD (fun h5 h5p => tp_ok fun h6 => tc_ok fun s7 h7 => tb_ok (fun h8 => tn_ok) fun h8 => by intro e; injection e with e; subst e; exact leafIS vw_eq (k := 300) (r := []) (hs := hz [(6, [.yes]), (4, [.yes]), (1, [.yes, .val ((exs (poAt s.points s4.toNat).map))]), (1, [.fres (.b (s7))]), (1, [.no]), (3, [])]) (ks := [0, 1, 19, 3]) (bs := [0]) kq (ac h5 (ac h6 (ac (fq (p := ((1 : Nat) ≤ (List.length (List.drop 2 (List.drop (s4.toNat * 3) (s.points.flatMap Po.cells))))))) (ac (show (List.take 1 (List.drop 2 (List.drop (s4.toNat * 3) (s.points.flatMap Po.cells)))) = [(exs (poAt s.points s4.toNat).map)] from (by first | exact po_one _ _ _ _ bq rfl | exact po_oneA _ _ _ _ bq rfl | (simpa using po_one (s.points) (s4.toNat) 2 _ bq rfl) | ((try simp only [List.drop_drop]); rw [show ((2 : Nat) + (s4.toNat * 3)) = (s4.toNat) * 3 + 2 by omega]; exact po_oneA (s.points) (s4.toNat) 2 _ bq rfl))) (ac (few_ok ((poAt s.points s4.toNat).map) _ h7).any0 (ac h8 an)))))) kq) fun h5 h5p => tn_ok
noncomputable def few11 (s : Sa) : Option (Bool) :=
 (tb ((decide ((s.points.length : Int) > (10 : Int)))) (some (false)) (tb ((decide ((s.staged.length : Int) > (6000 : Int)))) (some (false)) (tc (few (s.map)) fun s2 => (tb ((!s2)) (some (false)) (th (few11_L0_step s s2) ((0 : Int)) fun s4 => (tb ((decide (s4 < (s.points.length : Int)))) (tp ((((0 : Int) ≤ s4) ∧ (s4 < (s.points.length : Int)))) (tc (few ((poAt s.points s4.toNat).map)) fun s7 => (tb ((!s7)) (some (false)) none))) (some (true))))))))
abbrev few11_G (s : Sa) (r : Bool) : Prop := EvFr Try.prog cf true 9 [Sa.av (s)] (.b (r))
theorem few11_ok (s : Sa) (r : Bool) : few11 s = some r → few11_G s r := by
  unfold few11
  exact tbD (fun h0 h0p => by intro e; injection e with e; subst e; exact leafR vw_eq (k := 300) (r := []) (hs := hz [(8, [.yes, .yes, .yes, .yes, .yes]), (8, [])]) (raw := (AV.b false)) kq (ac h0 (ac h0 (ac h0 (ac h0 (ac h0 an))))) tq) fun h0 h0p => tbD (fun h1 h1p => by intro e; injection e with e; subst e; exact leafR vw_eq (k := 300) (r := []) (hs := hz [(8, [.no]), (1, [.no]), (2, [.no]), (1, [.no]), (1, [.no]), (1, [.yes, .yes, .yes, .yes, .yes]), (2, [])]) (raw := (AV.b false)) kq (ac h0 (ac h0 (ac h0 (ac h0 (ac h0 (ac h1 (ac h1 (ac h1 (ac h1 (ac h1 an)))))))))) tq) fun h1 h1p => tc_ok fun s2 h2 => tb_ok (fun h3 => by intro e; injection e with e; subst e; exact leafR vw_eq (k := 300) (r := []) (hs := hz [(8, [.no]), (1, [.no]), (2, [.no]), (1, [.no]), (1, [.no]), (1, [.no]), (1, [.no]), (2, [.no]), (1, [.fres (.b (s2)), .no]), (1, [.no, .yes]), (1, [])]) (raw := (AV.b false)) kq (ac h0 (ac h0 (ac h0 (ac h0 (ac h0 (ac h1 (ac h1 (ac h1 (ac (few_ok (s.map) _ h2).any0 (ac h1 (ac h1 (ac h3 an)))))))))))) tq) fun h3 => th_ok fun s4 h4 => tbD (fun h5 h5p => tp_ok fun h6 => tc_ok fun s7 h7 => tb_ok (fun h8 => by intro e; injection e with e; subst e; exact leafR vw_eq (k := 300) (r := []) (hs := hz [(8, [.no]), (1, [.no]), (2, [.no]), (1, [.no]), (1, [.no]), (1, [.no]), (1, [.no]), (2, [.no]), (1, [.fres (.b (s2)), .no]), (1, [.no, .no]), (1, [.head (few11_L0_S s s2 s4)]), (6, [.yes]), (4, [.yes]), (1, [.yes, .val ((exs (poAt s.points s4.toNat).map))]), (1, [.fres (.b (s7))]), (1, [.yes]), (1, [])]) (raw := (AV.b false)) kq (ac h0 (ac h0 (ac h0 (ac h0 (ac h0 (ac h1 (ac h1 (ac h1 (ac (few_ok (s.map) _ h2).any0 (ac h1 (ac h1 (ac h3 (ac (show EvHead Try.prog cf (lp Try.prog 9 0) (few11_L0_I s s2) (few11_L0_S s s2 s4) from (EvHead.of (few11_L0_ok s s2) (absB_of [] [] kq (.consn kq (.agp pq) (.consn kq (.pt rfl) (.consn kq (.eqv tq rfl) (.consn kq (.eqv tq rfl) .nil)))) (.cons (.old rfl rfl (.cells (.pl rfl pq))) .nil)) h4)) (ac h5 (ac h6 (ac (fq (p := ((1 : Nat) ≤ (List.length (List.drop 2 (List.drop (s4.toNat * 3) (s.points.flatMap Po.cells))))))) (ac (show (List.take 1 (List.drop 2 (List.drop (s4.toNat * 3) (s.points.flatMap Po.cells)))) = [(exs (poAt s.points s4.toNat).map)] from (by first | exact po_one _ _ _ _ bq rfl | exact po_oneA _ _ _ _ bq rfl | (simpa using po_one (s.points) (s4.toNat) 2 _ bq rfl) | ((try simp only [List.drop_drop]); rw [show ((2 : Nat) + (s4.toNat * 3)) = (s4.toNat) * 3 + 2 by omega]; exact po_oneA (s.points) (s4.toNat) 2 _ bq rfl))) (ac (few_ok ((poAt s.points s4.toNat).map) _ h7).any0 (ac h8 an))))))))))))))))))) tq) fun h8 => tn_ok) fun h5 h5p => by intro e; injection e with e; subst e; exact leafR vw_eq (k := 300) (r := []) (hs := hz [(8, [.no]), (1, [.no]), (2, [.no]), (1, [.no]), (1, [.no]), (1, [.no]), (1, [.no]), (2, [.no]), (1, [.fres (.b (s2)), .no]), (1, [.no, .no]), (1, [.head (few11_L0_S s s2 s4)]), (6, [.no]), (1, [])]) (raw := (AV.b true)) kq (ac h0 (ac h0 (ac h0 (ac h0 (ac h0 (ac h1 (ac h1 (ac h1 (ac (few_ok (s.map) _ h2).any0 (ac h1 (ac h1 (ac h3 (ac (show EvHead Try.prog cf (lp Try.prog 9 0) (few11_L0_I s s2) (few11_L0_S s s2 s4) from (EvHead.of (few11_L0_ok s s2) (absB_of [] [] kq (.consn kq (.agp pq) (.consn kq (.pt rfl) (.consn kq (.eqv tq rfl) (.consn kq (.eqv tq rfl) .nil)))) (.cons (.old rfl rfl (.cells (.pl rfl pq))) .nil)) h4)) (ac h5 an)))))))))))))) tq
noncomputable abbrev sExtents_L0_I (l : List Ex) : St := (St.mk [(0, (exs l)), (2, AV.nl), (5, (exs l)), (6, (AV.i (l.length : Int))), (7, (AV.i 0))] 21 (AH.mk 0 ([] : List (Prod Nat AObj))) false)
noncomputable abbrev sExtents_L0_S (l : List Ex) (s0 : List Ex × Int) : St := (St.mk [(0, (exs l)), (2, (AV.rf 0 5 0 s0.1.length)), (5, (exs l)), (6, (AV.i (l.length : Int))), (7, (AV.i s0.2))] 21 (AH.mk 1 [(0, (AObj.cells (s0.1.flatMap Ex.cells)))]) false)
noncomputable def sExtents_L0_step (l : List Ex) (s0 : List Ex × Int) : Option (List Ex × Int) :=
 (tb ((decide (s0.2 < (l.length : Int)))) (tp ((((0 : Int) ≤ s0.2) ∧ (s0.2 < (l.length : Int)))) (tp (((List.length (exAt l s0.2.toNat).d) ≤ (4294967296 : Nat))) (tp ((((List.length (s0.1.flatMap Ex.cells)) = (s0.1.length * 5)) ∧ ((s0.1.length + (1 : Nat)) ≤ (4294967296 : Nat)))) (some (((s0.1 ++ [(exAt l s0.2.toNat)]), (wr (s0.2 + (1 : Int))))))))) none)
theorem sExtents_L0_ok (l : List Ex) (s0 zz : List Ex × Int) : sExtents_L0_step l s0 = some zz → EvStep Try.prog cf 0 (lp Try.prog 41 0) (sExtents_L0_S l s0) (sExtents_L0_S l zz) := by
  unfold sExtents_L0_step
  exact tbD (fun h1 h1p => tp_ok fun h2 => tp_ok fun h3 => tp_ok fun h4 => by intro e; injection e with e; subst e; exact leafS vw_eq (k := 300) (r := []) (hs := hz [(1, [.yes, .yes, .yes, .cells ((Ex.cells (exAt l s0.2.toNat)))]), (2, [.fc]), (4, [.yes, .yes]), (2, [.fc]), (2, [.fc]), (1, [.fc, .fc, .yes, .yes]), (3, [])]) (ks := [0, 2, 5, 6, 7]) (st1 := (St.mk [(0, (exs l)), (2, (AV.rf 4 5 0 (s0.1.length + (1 : Nat)))), (5, (exs l)), (6, (AV.i (l.length : Int))), (7, (AV.i (wr (s0.2 + (1 : Int)))))] 21 (AH.mk 5 [(4, (AObj.cells ((s0.1.flatMap Ex.cells) ++ [(AV.i (exAt l s0.2.toNat).lba), (AV.i (exAt l s0.2.toNat).len), (AV.i (exAt l s0.2.toNat).kind), (AV.i (exAt l s0.2.toNat).gen), (AV.rf 2 1 0 (List.length (exAt l s0.2.toNat).d))]))), (3, (AObj.cells [(AV.i (exAt l s0.2.toNat).lba), (AV.i (exAt l s0.2.toNat).len), (AV.i (exAt l s0.2.toNat).kind), (AV.i (exAt l s0.2.toNat).gen), (AV.rf 2 1 0 (List.length (exAt l s0.2.toNat).d))])), (2, (AObj.cells (List.map AV.y (exAt l s0.2.toNat).d))), (1, (AObj.cells [(AV.i (exAt l s0.2.toNat).lba), (AV.i (exAt l s0.2.toNat).len), (AV.i (exAt l s0.2.toNat).kind), (AV.i (exAt l s0.2.toNat).gen), (AV.rf 2 1 0 (List.length (exAt l s0.2.toNat).d))])), (0, AObj.dead)]) false)) kq (ac h1 (ac h2 (ac (fq (p := ((5 : Nat) ≤ (List.length (List.drop (s0.2.toNat * 5) (l.flatMap Ex.cells)))))) (ac (show (List.take 5 (List.drop (s0.2.toNat * 5) (l.flatMap Ex.cells))) = (Ex.cells (exAt l s0.2.toNat)) from (ex_takeO bq bq)) (ac (tq (p := ((List.length (List.map AV.y (exAt l s0.2.toNat).d)) = ((List.length (exAt l s0.2.toNat).d) * 1)))) (ac h3 (ac (tq (p := (((0 : Nat) = (0 : Nat)) ∧ ((List.length [(AV.i (exAt l s0.2.toNat).lba), (AV.i (exAt l s0.2.toNat).len), (AV.i (exAt l s0.2.toNat).kind), (AV.i (exAt l s0.2.toNat).gen), (AV.rf 2 1 0 (List.length (exAt l s0.2.toNat).d))]) = (5 : Nat))))) (ac h4 an)))))))) (Nat.le_of_ble_eq_true rfl) (Nat.le_of_ble_eq_true rfl) (absB_of [4] [2] kq (.consn kq (.eqv tq rfl) (.consn kq (.rfn (n := (s0.1.length + (1 : Nat))) rfl tq) (.consn kq (.eqv tq rfl) (.consn kq (.eqv tq rfl) (.consn kq (.eqv tq rfl) .nil))))) (.cons (.old rfl rfl (.cells (.cast rfl tq (.app (.pl rfl pq) (.cons (.eqv rfl rfl) (.cons (.eqv rfl rfl) (.cons (.eqv rfl rfl) (.cons (.eqv rfl rfl) (.cons (.frzn rfl tq pq (by simp) tq) .nil))))))))) .nil))) fun h1 h1p => tn_ok
noncomputable def sExtents (l : List Ex) : Option (List Ex) :=
 (th (sExtents_L0_step l) ((([] : List Ex), (0 : Int))) fun s0 => (tb ((decide (s0.2 < (l.length : Int)))) none (tp ((((0 : Nat) = (0 : Nat)) ∧ ((List.length (s0.1.flatMap Ex.cells)) = (s0.1.length * 5)))) (some (s0.1)))))
abbrev sExtents_G (l : List Ex) (r : List Ex) : Prop := EvOw Try.prog cf false [[5]] 41 [exs (l)] (exs (r))
theorem sExtents_ok (l : List Ex) (r : List Ex) : sExtents l = some r → sExtents_G l r := by
  unfold sExtents
  exact th_ok fun s0 h0 => tbD (fun h1 h1p => tn_ok) fun h1 h1p => tp_ok fun h2 => by intro e; injection e with e; subst e; exact leafO vw_eq (k := 300) (r := []) (hs := hz [(4, [.head (sExtents_L0_S l s0)]), (1, [.no]), (2, [.yes, .yes])]) (R := fun H => ((AV.rf (AH.nx H) 5 0 s0.1.length), (AH.mk ((AH.nx H) + (1 : Nat)) (((AH.nx H), (AObj.cells (s0.1.flatMap Ex.cells))) :: (AH.l H))))) (fun H => kq) (ac (show EvHead Try.prog cf (lp Try.prog 41 0) (sExtents_L0_I l) (sExtents_L0_S l s0) from (EvHead.of (sExtents_L0_ok l) (absB_of [0] [] kq (.consn kq (.eqv tq rfl) (.consn kq (.nln tq) (.consn kq (.eqv tq rfl) (.consn kq (.eqv tq rfl) (.consn kq (.eqv tq rfl) .nil))))) (.cons (.none rfl (Nat.le_refl _) rfl) .nil)) h0)) (ac h1 (ac h2 (ac (pq (p := Pl false ((s0.1.flatMap Ex.cells)))) an)))) (fun H => oq)
end Ab
end Go.Proofs.Ytpflcogplhigcaa
namespace Go.Proofs.Ytpflcogplhigcaa
open Go Go.Proofs.Ytpflcogplhigcaa.Ab
set_option linter.unusedVariables false
set_option linter.unusedSimpArgs false
set_option maxRecDepth 1000000
set_option maxHeartbeats 0
namespace Ab
noncomputable abbrev pIs_L0_I (b : List UInt8) : St := (St.mk [(0, (bys b)), (2, (AV.b false)), (5, (bys b)), (6, (AV.i (b.length : Int))), (7, (AV.i 0))] 14 (AH.mk 0 ([] : List (Prod Nat AObj))) false)
noncomputable abbrev pIs_L0_S (b : List UInt8) (s0 : Int) : St := (St.mk [(0, (bys b)), (5, (bys b)), (6, (AV.i (b.length : Int))), (7, (AV.i s0))] 14 (AH.mk 0 ([] : List (Prod Nat AObj))) false)
noncomputable def pIs_L0_step (b : List UInt8) (s0 : Int) : Option (Int) :=
 (tb ((decide (s0 < (b.length : Int)))) (tp ((((0 : Int) ≤ s0) ∧ (s0 < (b.length : Int)))) (tb (((↑(UInt8.toNat (List.getD b (s0.toNat * 1) (OfNat.ofNat 0))) : Int) != (0 : Int))) none (some ((wr (s0 + (1 : Int))))))) none)
theorem pIs_L0_ok (b : List UInt8) (s0 zz : Int) : pIs_L0_step b s0 = some zz → EvStep Try.prog cf 0 (lp Try.prog 40 0) (pIs_L0_S b s0) (pIs_L0_S b zz) := by
  unfold pIs_L0_step
  exact tbD (fun h1 h1p => tp_ok fun h2 => tbN (fun h3 h3p => tn_ok) fun h3 h3p => by intro e; injection e with e; subst e; exact leafIS vw_eq (k := 300) (r := []) (hs := hz [(1, [.yes, .yes, .yes, .val ((AV.y (List.getD b (s0.toNat * 1) (0 : UInt8))))]), (3, [.no]), (2, [])]) (ks := [0, 5, 6, 7]) (bs := []) kq (ac h1 (ac h2 (ac (fq (p := ((1 : Nat) ≤ (List.length (List.drop (s0.toNat * 1) (List.map AV.y b)))))) (ac (show (List.take 1 (List.drop (s0.toNat * 1) (List.map AV.y b))) = [(AV.y (List.getD b (s0.toNat * 1) (0 : UInt8)))] from (by (try simp only [List.drop_drop]); exact one_drop_yC (l := b) tq bq)) (ac h3 an))))) kq) fun h1 h1p => tn_ok
noncomputable def pIs (b : List UInt8) : Option (Bool) :=
 (th (pIs_L0_step b) ((0 : Int)) fun s0 => (tb ((decide (s0 < (b.length : Int)))) (tp ((((0 : Int) ≤ s0) ∧ (s0 < (b.length : Int)))) (tb (((↑(UInt8.toNat (List.getD b (s0.toNat * 1) (OfNat.ofNat 0))) : Int) != (0 : Int))) (some (false)) none)) (some (true))))
abbrev pIs_G (b : List UInt8) (r : Bool) : Prop := EvFr Try.prog cf true 40 [bys (b)] (.b (r))
theorem pIs_ok (b : List UInt8) (r : Bool) : pIs b = some r → pIs_G b r := by
  unfold pIs
  exact th_ok fun s0 h0 => tbD (fun h1 h1p => tp_ok fun h2 => tbN (fun h3 h3p => by intro e; injection e with e; subst e; exact leafR vw_eq (k := 300) (r := []) (hs := hz [(4, [.head (pIs_L0_S b s0)]), (1, [.yes, .yes, .yes, .val ((AV.y (List.getD b (s0.toNat * 1) (0 : UInt8))))]), (3, [.yes]), (1, [])]) (raw := (AV.b false)) kq (ac (show EvHead Try.prog cf (lp Try.prog 40 0) (pIs_L0_I b) (pIs_L0_S b s0) from (EvHead.of (pIs_L0_ok b) (absB_of [] [] kq (.consn kq (.eqv tq rfl) (.consn kq (.eqv tq rfl) (.consn kq (.eqv tq rfl) (.consn kq (.eqv tq rfl) .nil)))) .nil) h0)) (ac h1 (ac h2 (ac (fq (p := ((1 : Nat) ≤ (List.length (List.drop (s0.toNat * 1) (List.map AV.y b)))))) (ac (show (List.take 1 (List.drop (s0.toNat * 1) (List.map AV.y b))) = [(AV.y (List.getD b (s0.toNat * 1) (0 : UInt8)))] from (by (try simp only [List.drop_drop]); exact one_drop_yC (l := b) tq bq)) (ac h3 an)))))) tq) fun h3 h3p => tn_ok) fun h1 h1p => by intro e; injection e with e; subst e; exact leafR vw_eq (k := 300) (r := []) (hs := hz [(4, [.head (pIs_L0_S b s0)]), (1, [.no]), (1, [])]) (raw := (AV.b true)) kq (ac (show EvHead Try.prog cf (lp Try.prog 40 0) (pIs_L0_I b) (pIs_L0_S b s0) from (EvHead.of (pIs_L0_ok b) (absB_of [] [] kq (.consn kq (.eqv tq rfl) (.consn kq (.eqv tq rfl) (.consn kq (.eqv tq rfl) (.consn kq (.eqv tq rfl) .nil)))) .nil) h0)) (ac h1 an)) tq
noncomputable abbrev pLay_B1_I (lba : Int) (b : List UInt8) (s4 : Bool × Int × List UInt8 × List Ex × List UInt8 × Int) : St := (St.mk [(0, (AV.i lba)), (1, (bys b)), (2, (AV.pt 0 0)), (3, (AV.pt 1 0)), (4, (AV.pt 2 0)), (5, (AV.i 0)), (27, (AV.b (decide ((wr (Int.tdiv (b.length : Int) (32 : Int))) > (wr ((64 : Int) - lba)))))), (29, (AV.fn (95 : Nat) [(AV.pt 3 0)])), (30, (AV.ag [(AV.b s4.1), (AV.i s4.2.1)])), (6, (AV.pt 7 0))] 61 (AH.mk 8 [(7, (AObj.cells [(AV.b s4.1), (AV.i s4.2.1)])), (5, (AObj.cells [(AV.b s4.1), (AV.i s4.2.1)])), (4, (AObj.loop Go.LoopState.busy Option.none [(0, (AV.i lba)), (1, (bys b)), (2, (AV.pt 0 0)), (3, (AV.pt 1 0)), (4, (AV.pt 2 0)), (5, (AV.i 0)), (27, (AV.b (decide ((wr (Int.tdiv (b.length : Int) (32 : Int))) > (wr ((64 : Int) - lba)))))), (29, (AV.fn (95 : Nat) [(AV.pt 3 0)]))] 61 [(30 : Nat)] (rfA Try.prog 71 0) (rfB Try.prog 71 0))), (3, (AObj.cells [(bys s4.2.2.1)])), (2, (AObj.cells [(AV.rf 6 5 0 s4.2.2.2.1.length)])), (1, (AObj.cells [(bys s4.2.2.2.2.1)])), (0, (AObj.cells [(AV.i s4.2.2.2.2.2)])), (6, (AObj.cells (s4.2.2.2.1.flatMap Ex.cells)))]) true)
noncomputable abbrev pLay_B1_S (lba : Int) (b : List UInt8) (s4 : Bool × Int × List UInt8 × List Ex × List UInt8 × Int) (s8 : List Ex × List UInt8 × Int) : St := (St.mk [(0, (AV.i lba)), (1, (bys b)), (2, (AV.pt 0 0)), (3, (AV.pt 1 0)), (4, (AV.pt 2 0)), (5, (AV.i 0)), (27, (AV.b (decide ((wr (Int.tdiv (b.length : Int) (32 : Int))) > (wr ((64 : Int) - lba)))))), (29, (AV.fn (95 : Nat) [(AV.pt 3 0)])), (30, (AV.ag [(AV.b s4.1), (AV.i s4.2.1)])), (6, (AV.pt 7 0))] 61 (AH.mk 9 [(7, (AObj.cells [(AV.b s4.1), (AV.i s4.2.1)])), (5, (AObj.cells [(AV.b s4.1), (AV.i s4.2.1)])), (4, (AObj.loop Go.LoopState.busy Option.none [(0, (AV.i lba)), (1, (bys b)), (2, (AV.pt 0 0)), (3, (AV.pt 1 0)), (4, (AV.pt 2 0)), (5, (AV.i 0)), (27, (AV.b (decide ((wr (Int.tdiv (b.length : Int) (32 : Int))) > (wr ((64 : Int) - lba)))))), (29, (AV.fn (95 : Nat) [(AV.pt 3 0)]))] 61 [(30 : Nat)] (rfA Try.prog 71 0) (rfB Try.prog 71 0))), (3, (AObj.cells [(bys s4.2.2.1)])), (2, (AObj.cells [(AV.rf 8 5 0 s8.1.length)])), (1, (AObj.cells [(bys s8.2.1)])), (0, (AObj.cells [(AV.i s8.2.2)])), (8, (AObj.cells (s8.1.flatMap Ex.cells)))]) true)
noncomputable def pLay_B1 (lba : Int) (b : List UInt8) (s4 : Bool × Int × List UInt8 × List Ex × List UInt8 × Int) : Option (List Ex × List UInt8 × Int) :=
 (tb ((!s4.1)) (tp (((0 : Int) ≤ (wr (s4.2.1 * (32 : Int))))) (tp ((((0 : Nat) ≤ (Int.toNat (wr (s4.2.1 * (32 : Int))))) ∧ (((Int.toNat (wr (s4.2.1 * (32 : Int)))) ≤ s4.2.2.2.2.1.length) ∧ ((List.length (List.map AV.y s4.2.2.2.2.1)) = (s4.2.2.2.2.1.length * 1))))) (tp ((((Int.toNat (wr (s4.2.1 * (32 : Int)))) - (0 : Nat)) ≤ (4294967296 : Nat))) (tp ((((List.length (s4.2.2.2.1.flatMap Ex.cells)) = (s4.2.2.2.1.length * 5)) ∧ ((s4.2.2.2.1.length + (1 : Nat)) ≤ (4294967296 : Nat)))) (some (((s4.2.2.2.1 ++ [(Ex.mk s4.2.2.2.2.2 s4.2.1 2 0 (List.take (((Int.toNat (wr (s4.2.1 * (32 : Int)))) - (0 : Nat)) * 1) (List.take (((Int.toNat (wr (s4.2.1 * (32 : Int)))) - (0 : Nat)) * 1) s4.2.2.2.2.1)))]), ((List.take ((s4.2.2.2.2.1.length - (Int.toNat (wr (s4.2.1 * (32 : Int))))) * 1) (List.drop ((Int.toNat (wr (s4.2.1 * (32 : Int)))) * 1) s4.2.2.2.2.1)), (wr (s4.2.2.2.2.2 + s4.2.1)))))))))) (tp ((((List.length (s4.2.2.2.1.flatMap Ex.cells)) = (s4.2.2.2.1.length * 5)) ∧ ((s4.2.2.2.1.length + (1 : Nat)) ≤ (4294967296 : Nat)))) (tp (((0 : Int) ≤ (wr (s4.2.1 * (32 : Int))))) (tp ((((Int.toNat (wr (s4.2.1 * (32 : Int)))) ≤ s4.2.2.2.2.1.length) ∧ ((s4.2.2.2.2.1.length ≤ s4.2.2.2.2.1.length) ∧ ((List.length (List.map AV.y s4.2.2.2.2.1)) = (s4.2.2.2.2.1.length * 1))))) (some (((s4.2.2.2.1 ++ [(Ex.mk s4.2.2.2.2.2 s4.2.1 1 0 ([] : List UInt8))]), ((List.take ((s4.2.2.2.2.1.length - (Int.toNat (wr (s4.2.1 * (32 : Int))))) * 1) (List.drop ((Int.toNat (wr (s4.2.1 * (32 : Int)))) * 1) s4.2.2.2.2.1)), (wr (s4.2.2.2.2.2 + s4.2.1))))))))))
theorem pLay_B1_ok (lba : Int) (b : List UInt8) (s4 : Bool × Int × List UInt8 × List Ex × List UInt8 × Int) (zz : List Ex × List UInt8 × Int) : pLay_B1 lba b s4 = some zz → EvStep Try.prog cf 8 ((rfB Try.prog 71 0)) (pLay_B1_I lba b s4) (pLay_B1_S lba b s4 zz) := by
  unfold pLay_B1
  exact tb_ok (fun h9 => tp_ok fun h10 => tp_ok fun h11 => tp_ok fun h12 => tp_ok fun h13 => by intro e; injection e with e; subst e; exact leafS vw_eq (k := 300) (r := []) (hs := hz [(8, [.fc]), (4, [.yes]), (7, [.yes, .yes, .yes, .yes]), (2, [.fc]), (2, [.fc]), (3, [.fc]), (1, [.fc, .fc, .yes, .yes]), (1, [.fc]), (12, [.yes, .yes]), (1, [.fc]), (1, [.fc, .yes])]) (ks := [0, 1, 2, 3, 4, 5, 27, 29, 30, 6]) (st1 := (St.mk [(0, (AV.i lba)), (1, (bys b)), (2, (AV.pt 0 0)), (3, (AV.pt 1 0)), (4, (AV.pt 2 0)), (5, (AV.i 0)), (27, (AV.b (decide ((wr (Int.tdiv (b.length : Int) (32 : Int))) > (wr ((64 : Int) - lba)))))), (29, (AV.fn (95 : Nat) [(AV.pt 3 0)])), (30, (AV.ag [(AV.b s4.1), (AV.i s4.2.1)])), (6, (AV.pt 7 0))] 61 (AH.mk 12 [(11, (AObj.cells ((s4.2.2.2.1.flatMap Ex.cells) ++ [(AV.i s4.2.2.2.2.2), (AV.i s4.2.1), (AV.i 2), (AV.i 0), (AV.rf 9 1 0 ((Int.toNat (wr (s4.2.1 * (32 : Int)))) - (0 : Nat)))]))), (10, (AObj.cells [(AV.i s4.2.2.2.2.2), (AV.i s4.2.1), (AV.i 2), (AV.i 0), (AV.rf 9 1 0 ((Int.toNat (wr (s4.2.1 * (32 : Int)))) - (0 : Nat)))])), (9, (AObj.cells (List.take (((Int.toNat (wr (s4.2.1 * (32 : Int)))) - (0 : Nat)) * 1) (List.map AV.y s4.2.2.2.2.1)))), (8, (AObj.cells [(AV.i s4.2.2.2.2.2), (AV.i s4.2.1), (AV.i 2), (AV.i 0), (AV.rf 9 1 0 ((Int.toNat (wr (s4.2.1 * (32 : Int)))) - (0 : Nat)))])), (7, (AObj.cells [(AV.b s4.1), (AV.i s4.2.1)])), (5, (AObj.cells [(AV.b s4.1), (AV.i s4.2.1)])), (4, (AObj.loop Go.LoopState.busy Option.none [(0, (AV.i lba)), (1, (bys b)), (2, (AV.pt 0 0)), (3, (AV.pt 1 0)), (4, (AV.pt 2 0)), (5, (AV.i 0)), (27, (AV.b (decide ((wr (Int.tdiv (b.length : Int) (32 : Int))) > (wr ((64 : Int) - lba)))))), (29, (AV.fn (95 : Nat) [(AV.pt 3 0)]))] 61 [(30 : Nat)] (rfA Try.prog 71 0) (rfB Try.prog 71 0))), (3, (AObj.cells [(bys s4.2.2.1)])), (2, (AObj.cells [(AV.rf 11 5 0 (s4.2.2.2.1.length + (1 : Nat)))])), (1, (AObj.cells [(AV.sl (s4.2.2.2.2.1.length - (Int.toNat (wr (s4.2.1 * (32 : Int))))) (List.take ((s4.2.2.2.2.1.length - (Int.toNat (wr (s4.2.1 * (32 : Int))))) * 1) (List.drop ((Int.toNat (wr (s4.2.1 * (32 : Int)))) * 1) (List.map AV.y s4.2.2.2.2.1))))])), (0, (AObj.cells [(AV.i (wr (s4.2.2.2.2.2 + s4.2.1)))])), (6, AObj.dead)]) true)) kq (ac h9 (ac h10 (ac h11 (ac (fq (p := ((List.length (List.take (((Int.toNat (wr (s4.2.1 * (32 : Int)))) - (0 : Nat)) * 1) (List.map AV.y s4.2.2.2.2.1))) = (((Int.toNat (wr (s4.2.1 * (32 : Int)))) - (0 : Nat)) * 1)))) (ac h12 (ac (tq (p := (((0 : Nat) = (0 : Nat)) ∧ ((List.length [(AV.i s4.2.2.2.2.2), (AV.i s4.2.1), (AV.i 2), (AV.i 0), (AV.rf 9 1 0 ((Int.toNat (wr (s4.2.1 * (32 : Int)))) - (0 : Nat)))]) = (5 : Nat))))) (ac h13 (ac h10 (ac (fq (p := (((Int.toNat (wr (s4.2.1 * (32 : Int)))) ≤ s4.2.2.2.2.1.length) ∧ ((s4.2.2.2.2.1.length ≤ s4.2.2.2.2.1.length) ∧ ((List.length (List.map AV.y s4.2.2.2.2.1)) = (s4.2.2.2.2.1.length * 1)))))) (ac (show orderOk (rg Try.prog 71 0) = true ∧ allOk (Region.before (rg Try.prog 71 0)) [] 0 [(some [0], some []), (some [], some []), (some [7], some []), (some [], some []), (some [1], some []), (some [], some []), (some [7], some []), (some [], some []), (some [], some []), (some [0], some [0]), (some [1], some [1])] = true from (ord_of ord_71_0 bef_71_0 kq)) an)))))))))) (Nat.le_of_ble_eq_true rfl) (Nat.le_of_ble_eq_true rfl) (absB_of [11] [9] kq (.consn kq (.eqv tq rfl) (.consn kq (.eqv tq rfl) (.consn kq (.pt rfl) (.consn kq (.pt rfl) (.consn kq (.pt rfl) (.consn kq (.eqv tq rfl) (.consn kq (.eqv tq rfl) (.consn kq (.fn (.cons (.pt rfl) .nil)) (.consn kq (.agp pq) (.consn kq (.pt rfl) .nil)))))))))) (.cons (.old rfl rfl (.cells (.pl rfl pq))) (.cons (.old rfl rfl (.cells (.pl rfl pq))) (.cons (.old rfl rfl (.loop (.consn kq (.eqv tq rfl) (.consn kq (.eqv tq rfl) (.consn kq (.pt rfl) (.consn kq (.pt rfl) (.consn kq (.pt rfl) (.consn kq (.eqv tq rfl) (.consn kq (.eqv tq rfl) (.consn kq (.fn (.cons (.pt rfl) .nil)) .nil)))))))))) (.cons (.old rfl rfl (.cells (.cons (.eqv tq rfl) .nil))) (.cons (.old rfl rfl (.cells (.cons (.rfn (n := (s4.2.2.2.1.length + (1 : Nat))) rfl tq) .nil))) (.cons (.old rfl rfl (.cells (.cons (.eqv tq rfl) .nil))) (.cons (.old rfl rfl (.cells (.cons (.eqv tq rfl) .nil))) (.cons (.old rfl rfl (.cells (.cast rfl tq (.app (.pl rfl pq) (.cons (.eqv rfl rfl) (.cons (.eqv rfl rfl) (.cons (.eqv rfl rfl) (.cons (.eqv rfl rfl) (.cons (.frzn rfl tq pq (by simp) rfl) .nil))))))))) .nil)))))))))) fun h9 => tp_ok fun h10 => tp_ok fun h11 => tp_ok fun h12 => by intro e; injection e with e; subst e; exact leafS vw_eq (k := 300) (r := []) (hs := hz [(8, [.fc]), (4, [.no]), (3, [.fc]), (1, [.fc, .fc, .yes, .yes]), (1, [.fc]), (12, [.yes, .yes]), (1, [.fc]), (1, [.fc, .yes])]) (ks := [0, 1, 2, 3, 4, 5, 27, 29, 30, 6]) (st1 := (St.mk [(0, (AV.i lba)), (1, (bys b)), (2, (AV.pt 0 0)), (3, (AV.pt 1 0)), (4, (AV.pt 2 0)), (5, (AV.i 0)), (27, (AV.b (decide ((wr (Int.tdiv (b.length : Int) (32 : Int))) > (wr ((64 : Int) - lba)))))), (29, (AV.fn (95 : Nat) [(AV.pt 3 0)])), (30, (AV.ag [(AV.b s4.1), (AV.i s4.2.1)])), (6, (AV.pt 7 0))] 61 (AH.mk 11 [(10, (AObj.cells ((s4.2.2.2.1.flatMap Ex.cells) ++ [(AV.i s4.2.2.2.2.2), (AV.i s4.2.1), (AV.i (Int.ofNat 1)), (AV.i (Int.ofNat 0)), AV.nl]))), (9, (AObj.cells [(AV.i s4.2.2.2.2.2), (AV.i s4.2.1), (AV.i 1), (AV.i 0), AV.nl])), (8, (AObj.cells [(AV.i s4.2.2.2.2.2), (AV.i s4.2.1), (AV.i 1), (AV.i 0), AV.nl])), (7, (AObj.cells [(AV.b s4.1), (AV.i s4.2.1)])), (5, (AObj.cells [(AV.b s4.1), (AV.i s4.2.1)])), (4, (AObj.loop Go.LoopState.busy Option.none [(0, (AV.i lba)), (1, (bys b)), (2, (AV.pt 0 0)), (3, (AV.pt 1 0)), (4, (AV.pt 2 0)), (5, (AV.i 0)), (27, (AV.b (decide ((wr (Int.tdiv (b.length : Int) (32 : Int))) > (wr ((64 : Int) - lba)))))), (29, (AV.fn (95 : Nat) [(AV.pt 3 0)]))] 61 [(30 : Nat)] (rfA Try.prog 71 0) (rfB Try.prog 71 0))), (3, (AObj.cells [(bys s4.2.2.1)])), (2, (AObj.cells [(AV.rf 10 5 0 (s4.2.2.2.1.length + (1 : Nat)))])), (1, (AObj.cells [(AV.sl (s4.2.2.2.2.1.length - (Int.toNat (wr (s4.2.1 * (32 : Int))))) (List.take ((s4.2.2.2.2.1.length - (Int.toNat (wr (s4.2.1 * (32 : Int))))) * 1) (List.drop ((Int.toNat (wr (s4.2.1 * (32 : Int)))) * 1) (List.map AV.y s4.2.2.2.2.1))))])), (0, (AObj.cells [(AV.i (wr (s4.2.2.2.2.2 + s4.2.1)))])), (6, AObj.dead)]) true)) kq (ac h9 (ac (tq (p := (((0 : Nat) = (0 : Nat)) ∧ ((List.length [(AV.i s4.2.2.2.2.2), (AV.i s4.2.1), (AV.i (Int.ofNat 1)), (AV.i (Int.ofNat 0)), AV.nl]) = (5 : Nat))))) (ac h10 (ac h11 (ac h12 (ac (show orderOk (rg Try.prog 71 0) = true ∧ allOk (Region.before (rg Try.prog 71 0)) [] 0 [(some [0], some []), (some [], some []), (some [7], some []), (some [], some []), (some [1], some []), (some [], some []), (some [7], some []), (some [], some []), (some [], some []), (some [0], some [0]), (some [1], some [1])] = true from (ord_of ord_71_0 bef_71_0 kq)) an)))))) (Nat.le_of_ble_eq_true rfl) (Nat.le_of_ble_eq_true rfl) (absB_of [10] [] kq (.consn kq (.eqv tq rfl) (.consn kq (.eqv tq rfl) (.consn kq (.pt rfl) (.consn kq (.pt rfl) (.consn kq (.pt rfl) (.consn kq (.eqv tq rfl) (.consn kq (.eqv tq rfl) (.consn kq (.fn (.cons (.pt rfl) .nil)) (.consn kq (.agp pq) (.consn kq (.pt rfl) .nil)))))))))) (.cons (.old rfl rfl (.cells (.pl rfl pq))) (.cons (.old rfl rfl (.cells (.pl rfl pq))) (.cons (.old rfl rfl (.loop (.consn kq (.eqv tq rfl) (.consn kq (.eqv tq rfl) (.consn kq (.pt rfl) (.consn kq (.pt rfl) (.consn kq (.pt rfl) (.consn kq (.eqv tq rfl) (.consn kq (.eqv tq rfl) (.consn kq (.fn (.cons (.pt rfl) .nil)) .nil)))))))))) (.cons (.old rfl rfl (.cells (.cons (.eqv tq rfl) .nil))) (.cons (.old rfl rfl (.cells (.cons (.rfn (n := (s4.2.2.2.1.length + (1 : Nat))) rfl tq) .nil))) (.cons (.old rfl rfl (.cells (.cons (.eqv tq rfl) .nil))) (.cons (.old rfl rfl (.cells (.cons (.eqv tq rfl) .nil))) (.cons (.old rfl rfl (.cells (.cast rfl tq (.app (.pl rfl pq) (.cons (.eqv rfl rfl) (.cons (.eqv rfl rfl) (.cons (.eqv rfl rfl) (.cons (.eqv rfl rfl) (.cons (.pur 1 rfl (by simp)) .nil))))))))) .nil)))))))))
noncomputable abbrev pLay_L0_I (lba : Int) (b : List UInt8) : St := (St.mk [(0, (AV.yl 4)), (1, (AV.pt 3 0)), (3, (AV.pt 5 0))] 41 (AH.mk 6 [(5, (AObj.cells [(AV.b false), (AV.i 0)])), (4, (AObj.loop Go.LoopState.ready Option.none [(0, (AV.i lba)), (1, (bys b)), (2, (AV.pt 0 0)), (3, (AV.pt 1 0)), (4, (AV.pt 2 0)), (5, (AV.i 0)), (8, (bys b)), (9, (AV.i (b.length : Int))), (10, (AV.i (Int.tmod (b.length : Int) (32 : Int)))), (11, (AV.b ((Int.tmod (b.length : Int) (32 : Int)) != (0 : Int)))), (12, (AV.b ((Int.tmod (b.length : Int) (32 : Int)) != (0 : Int)))), (13, (AV.i lba)), (14, (AV.b (decide (lba < (0 : Int))))), (15, (AV.b (decide (lba < (0 : Int))))), (16, (AV.b (decide (lba < (0 : Int))))), (17, (AV.i lba)), (18, (AV.b (decide (lba > (64 : Int))))), (19, (AV.b (decide (lba > (64 : Int))))), (20, (AV.b (decide (lba > (64 : Int))))), (21, (bys b)), (22, (AV.i (b.length : Int))), (23, (AV.i (wr (Int.tdiv (b.length : Int) (32 : Int))))), (24, (AV.i lba)), (25, (AV.i (wr ((64 : Int) - lba)))), (26, (AV.b (decide ((wr (Int.tdiv (b.length : Int) (32 : Int))) > (wr ((64 : Int) - lba)))))), (27, (AV.b (decide ((wr (Int.tdiv (b.length : Int) (32 : Int))) > (wr ((64 : Int) - lba)))))), (28, (bys b)), (29, (AV.fn (95 : Nat) [(AV.pt 3 0)]))] 61 [(30 : Nat)] (rfA Try.prog 71 0) (rfB Try.prog 71 0))), (3, (AObj.cells [(bys b)])), (2, (AObj.cells [AV.nl])), (1, (AObj.cells [(bys b)])), (0, (AObj.cells [(AV.i lba)]))]) false)
noncomputable abbrev pLay_L0_S (lba : Int) (b : List UInt8) (s4 : Bool × Int × List UInt8 × List Ex × List UInt8 × Int) : St := (St.mk [(0, (AV.yl 4)), (1, (AV.pt 3 0)), (3, (AV.pt 5 0))] 41 (AH.mk 7 [(5, (AObj.cells [(AV.b s4.1), (AV.i s4.2.1)])), (4, (AObj.loop Go.LoopState.ready Option.none [(0, (AV.i lba)), (1, (bys b)), (2, (AV.pt 0 0)), (3, (AV.pt 1 0)), (4, (AV.pt 2 0)), (5, (AV.i 0)), (27, (AV.b (decide ((wr (Int.tdiv (b.length : Int) (32 : Int))) > (wr ((64 : Int) - lba)))))), (29, (AV.fn (95 : Nat) [(AV.pt 3 0)]))] 61 [(30 : Nat)] (rfA Try.prog 71 0) (rfB Try.prog 71 0))), (3, (AObj.cells [(bys s4.2.2.1)])), (2, (AObj.cells [(AV.rf 6 5 0 s4.2.2.2.1.length)])), (1, (AObj.cells [(bys s4.2.2.2.2.1)])), (0, (AObj.cells [(AV.i s4.2.2.2.2.2)])), (6, (AObj.cells (s4.2.2.2.1.flatMap Ex.cells)))]) false)
noncomputable def pLay_L0_step (lba : Int) (b : List UInt8) (s4 : Bool × Int × List UInt8 × List Ex × List UInt8 × Int) : Option (Bool × Int × List UInt8 × List Ex × List UInt8 × Int) :=
 (tb ((decide ((s4.2.2.1.length : Int) ≥ (32 : Int)))) (tb ((!(((pad 32 s4.2.2.1) == (List.replicate (32 : Nat) (UInt8.ofNat (0 : Nat)))) == s4.1))) (tb ((decide (s4.2.1 > (0 : Int)))) (tc (pLay_B1 lba b s4) fun s8 => (some ((((pad 32 s4.2.2.1) == (List.replicate (32 : Nat) (UInt8.ofNat (0 : Nat)))), ((1 : Int), ((List.take ((s4.2.2.1.length - (32 : Nat)) * 1) (List.drop 32 s4.2.2.1)), (s8.1, (s8.2.1, s8.2.2)))))))) (some ((((pad 32 s4.2.2.1) == (List.replicate (32 : Nat) (UInt8.ofNat (0 : Nat)))), ((wr (s4.2.1 + (1 : Int))), ((List.take ((s4.2.2.1.length - (32 : Nat)) * 1) (List.drop 32 s4.2.2.1)), (s4.2.2.2.1, (s4.2.2.2.2.1, s4.2.2.2.2.2)))))))) (some ((((pad 32 s4.2.2.1) == (List.replicate (32 : Nat) (UInt8.ofNat (0 : Nat)))), ((wr (s4.2.1 + (1 : Int))), ((List.take ((s4.2.2.1.length - (32 : Nat)) * 1) (List.drop 32 s4.2.2.1)), (s4.2.2.2.1, (s4.2.2.2.2.1, s4.2.2.2.2.2)))))))) none)
theorem pLay_L0_ok (lba : Int) (b : List UInt8) (s4 zz : Bool × Int × List UInt8 × List Ex × List UInt8 × Int) : pLay_L0_step lba b s4 = some zz → EvStep Try.prog cf 6 (lp Try.prog 95 0) (pLay_L0_S lba b s4) (pLay_L0_S lba b zz) := by
  unfold pLay_L0_step
  exact tbD (fun h5 h5p => tb_ok (fun h6 => tbD (fun h7 h7p => tc_ok fun s8 h8 => by intro e; injection e with e; subst e; exact leafS vw_eq (k := 300) (r := []) (hs := hz [(4, [.yes]), (3, [.yes]), (1, [.yes, .cells ((List.map AV.y (pad 32 s4.2.2.1)))]), (1, [.yes, .truth (((pad 32 s4.2.2.1) == (List.replicate (32 : Nat) (UInt8.ofNat (0 : Nat)))))]), (7, [.yes]), (1, [.yes]), (2, [.yes]), (1, [.yes, .yes]), (2, [.fc]), (3, [.fc, .res .normal (pLay_B1_S lba b s4 s8)]), (4, [.fc]), (7, [.fc]), (3, [.yes]), (1, [.fc])]) (ks := [0, 1, 3]) (st1 := (St.mk [(0, (AV.yl 4)), (1, (AV.pt 3 0)), (3, (AV.pt 5 0))] 41 (AH.mk 9 [(7, (AObj.cells [(AV.b s4.1), (AV.i s4.2.1)])), (5, (AObj.cells [(AV.b ((pad 32 s4.2.2.1) == (List.replicate (32 : Nat) (UInt8.ofNat (0 : Nat))))), (AV.i 1)])), (4, (AObj.loop Go.LoopState.ready Option.none [(0, (AV.i lba)), (1, (bys b)), (2, (AV.pt 0 0)), (3, (AV.pt 1 0)), (4, (AV.pt 2 0)), (5, (AV.i 0)), (27, (AV.b (decide ((wr (Int.tdiv (b.length : Int) (32 : Int))) > (wr ((64 : Int) - lba)))))), (29, (AV.fn (95 : Nat) [(AV.pt 3 0)]))] 61 [(30 : Nat)] (rfA Try.prog 71 0) (rfB Try.prog 71 0))), (3, (AObj.cells [(AV.sl (s4.2.2.1.length - (32 : Nat)) (List.take ((s4.2.2.1.length - (32 : Nat)) * 1) (List.drop 32 (List.map AV.y s4.2.2.1))))])), (2, (AObj.cells [(AV.rf 8 5 0 s8.1.length)])), (1, (AObj.cells [(bys s8.2.1)])), (0, (AObj.cells [(AV.i s8.2.2)])), (8, (AObj.cells (s8.1.flatMap Ex.cells)))]) false)) kq (ac h5 (ac (fq (p := (((0 : Nat) ≤ (32 : Nat)) ∧ (((32 : Nat) ≤ s4.2.2.1.length) ∧ ((List.length (List.map AV.y s4.2.2.1)) = (s4.2.2.1.length * 1)))))) (ac (fq (p := ((32 : Nat) ≤ (List.length (List.take 32 (List.map AV.y s4.2.2.1)))))) (ac (show (List.take 32 (List.take 32 (List.map AV.y s4.2.2.1))) = (List.map AV.y (pad 32 s4.2.2.1)) from (pad_takeC (x := s4.2.2.1) tq bq)) (ac (tq (p := (((List.length (List.map AV.y (pad 32 s4.2.2.1))) = (32 : Nat)) ∧ ((32 : Nat) = (32 : Nat))))) (ac (show eqCells ((List.map AV.y (pad 32 s4.2.2.1))) ((List.replicate (32 : Nat) (AV.y (UInt8.ofNat (0 : Nat))))) = some (((pad 32 s4.2.2.1) == (List.replicate (32 : Nat) (UInt8.ofNat (0 : Nat))))) from (eqCells_of tq tq tq)) (ac h6 (ac h6 (ac h6 (ac h6 (ac h7 (ac (show Ev Try.prog cf ((rfB Try.prog 71 0)) (pLay_B1_I lba b s4) (.normal, pLay_B1_S lba b s4 s8) from (EvStep.ev (pLay_B1_ok lba b s4 _ h8) rfl)) (ac (fq (p := (((32 : Nat) ≤ s4.2.2.1.length) ∧ ((s4.2.2.1.length ≤ s4.2.2.1.length) ∧ ((List.length (List.map AV.y s4.2.2.1)) = (s4.2.2.1.length * 1)))))) an))))))))))))) (Nat.le_of_ble_eq_true rfl) (Nat.le_of_ble_eq_true rfl) (absB_of [8] [] kq (.consn kq (.yl rfl) (.consn kq (.pt rfl) (.consn kq (.pt rfl) .nil))) (.cons (.old rfl rfl (.cells (.cons (.eqv tq rfl) (.cons (.eqv tq rfl) .nil)))) (.cons (.old rfl rfl (.loop (.consn kq (.eqv tq rfl) (.consn kq (.eqv tq rfl) (.consn kq (.pt rfl) (.consn kq (.pt rfl) (.consn kq (.pt rfl) (.consn kq (.eqv tq rfl) (.consn kq (.eqv tq rfl) (.consn kq (.fn (.cons (.pt rfl) .nil)) .nil)))))))))) (.cons (.old rfl rfl (.cells (.cons (.eqv tq rfl) .nil))) (.cons (.old rfl rfl (.cells (.cons (.rfn (n := s8.1.length) rfl tq) .nil))) (.cons (.old rfl rfl (.cells (.cons (.eqv tq rfl) .nil))) (.cons (.old rfl rfl (.cells (.cons (.eqv tq rfl) .nil))) (.cons (.old rfl rfl (.cells (.pl tq pq))) .nil))))))))) fun h7 h7p => by intro e; injection e with e; subst e; exact leafS vw_eq (k := 300) (r := []) (hs := hz [(4, [.yes]), (3, [.yes]), (1, [.yes, .cells ((List.map AV.y (pad 32 s4.2.2.1)))]), (1, [.yes, .truth (((pad 32 s4.2.2.1) == (List.replicate (32 : Nat) (UInt8.ofNat (0 : Nat)))))]), (7, [.yes]), (1, [.yes]), (2, [.yes]), (1, [.yes, .no]), (7, [.fc]), (3, [.yes]), (1, [.fc])]) (ks := [0, 1, 3]) (st1 := (St.mk [(0, (AV.yl 4)), (1, (AV.pt 3 0)), (3, (AV.pt 5 0))] 41 (AH.mk 7 [(5, (AObj.cells [(AV.b ((pad 32 s4.2.2.1) == (List.replicate (32 : Nat) (UInt8.ofNat (0 : Nat))))), (AV.i (wr (s4.2.1 + (1 : Int))))])), (4, (AObj.loop Go.LoopState.ready Option.none [(0, (AV.i lba)), (1, (bys b)), (2, (AV.pt 0 0)), (3, (AV.pt 1 0)), (4, (AV.pt 2 0)), (5, (AV.i 0)), (27, (AV.b (decide ((wr (Int.tdiv (b.length : Int) (32 : Int))) > (wr ((64 : Int) - lba)))))), (29, (AV.fn (95 : Nat) [(AV.pt 3 0)]))] 61 [(30 : Nat)] (rfA Try.prog 71 0) (rfB Try.prog 71 0))), (3, (AObj.cells [(AV.sl (s4.2.2.1.length - (32 : Nat)) (List.take ((s4.2.2.1.length - (32 : Nat)) * 1) (List.drop 32 (List.map AV.y s4.2.2.1))))])), (2, (AObj.cells [(AV.rf 6 5 0 s4.2.2.2.1.length)])), (1, (AObj.cells [(bys s4.2.2.2.2.1)])), (0, (AObj.cells [(AV.i s4.2.2.2.2.2)])), (6, (AObj.cells (s4.2.2.2.1.flatMap Ex.cells)))]) false)) kq (ac h5 (ac (fq (p := (((0 : Nat) ≤ (32 : Nat)) ∧ (((32 : Nat) ≤ s4.2.2.1.length) ∧ ((List.length (List.map AV.y s4.2.2.1)) = (s4.2.2.1.length * 1)))))) (ac (fq (p := ((32 : Nat) ≤ (List.length (List.take 32 (List.map AV.y s4.2.2.1)))))) (ac (show (List.take 32 (List.take 32 (List.map AV.y s4.2.2.1))) = (List.map AV.y (pad 32 s4.2.2.1)) from (pad_takeC (x := s4.2.2.1) tq bq)) (ac (tq (p := (((List.length (List.map AV.y (pad 32 s4.2.2.1))) = (32 : Nat)) ∧ ((32 : Nat) = (32 : Nat))))) (ac (show eqCells ((List.map AV.y (pad 32 s4.2.2.1))) ((List.replicate (32 : Nat) (AV.y (UInt8.ofNat (0 : Nat))))) = some (((pad 32 s4.2.2.1) == (List.replicate (32 : Nat) (UInt8.ofNat (0 : Nat))))) from (eqCells_of tq tq tq)) (ac h6 (ac h6 (ac h6 (ac h6 (ac h7 (ac (fq (p := (((32 : Nat) ≤ s4.2.2.1.length) ∧ ((s4.2.2.1.length ≤ s4.2.2.1.length) ∧ ((List.length (List.map AV.y s4.2.2.1)) = (s4.2.2.1.length * 1)))))) an)))))))))))) (Nat.le_of_ble_eq_true rfl) (Nat.le_of_ble_eq_true rfl) (absB_of [6] [] kq (.consn kq (.yl rfl) (.consn kq (.pt rfl) (.consn kq (.pt rfl) .nil))) (.cons (.old rfl rfl (.cells (.cons (.eqv tq rfl) (.cons (.eqv tq rfl) .nil)))) (.cons (.old rfl rfl (.loop (.consn kq (.eqv tq rfl) (.consn kq (.eqv tq rfl) (.consn kq (.pt rfl) (.consn kq (.pt rfl) (.consn kq (.pt rfl) (.consn kq (.eqv tq rfl) (.consn kq (.eqv tq rfl) (.consn kq (.fn (.cons (.pt rfl) .nil)) .nil)))))))))) (.cons (.old rfl rfl (.cells (.cons (.eqv tq rfl) .nil))) (.cons (.old rfl rfl (.cells (.cons (.rfn (n := s4.2.2.2.1.length) rfl tq) .nil))) (.cons (.old rfl rfl (.cells (.cons (.eqv tq rfl) .nil))) (.cons (.old rfl rfl (.cells (.cons (.eqv tq rfl) .nil))) (.cons (.old rfl rfl (.cells (.pl tq pq))) .nil))))))))) fun h6 => by intro e; injection e with e; subst e; exact leafS vw_eq (k := 300) (r := []) (hs := hz [(4, [.yes]), (3, [.yes]), (1, [.yes, .cells ((List.map AV.y (pad 32 s4.2.2.1)))]), (1, [.yes, .truth (((pad 32 s4.2.2.1) == (List.replicate (32 : Nat) (UInt8.ofNat (0 : Nat)))))]), (7, [.no, .no, .no, .no]), (8, [.fc]), (3, [.yes]), (1, [.fc])]) (ks := [0, 1, 3]) (st1 := (St.mk [(0, (AV.yl 4)), (1, (AV.pt 3 0)), (3, (AV.pt 5 0))] 41 (AH.mk 7 [(5, (AObj.cells [(AV.b ((pad 32 s4.2.2.1) == (List.replicate (32 : Nat) (UInt8.ofNat (0 : Nat))))), (AV.i (wr (s4.2.1 + (1 : Int))))])), (4, (AObj.loop Go.LoopState.ready Option.none [(0, (AV.i lba)), (1, (bys b)), (2, (AV.pt 0 0)), (3, (AV.pt 1 0)), (4, (AV.pt 2 0)), (5, (AV.i 0)), (27, (AV.b (decide ((wr (Int.tdiv (b.length : Int) (32 : Int))) > (wr ((64 : Int) - lba)))))), (29, (AV.fn (95 : Nat) [(AV.pt 3 0)]))] 61 [(30 : Nat)] (rfA Try.prog 71 0) (rfB Try.prog 71 0))), (3, (AObj.cells [(AV.sl (s4.2.2.1.length - (32 : Nat)) (List.take ((s4.2.2.1.length - (32 : Nat)) * 1) (List.drop 32 (List.map AV.y s4.2.2.1))))])), (2, (AObj.cells [(AV.rf 6 5 0 s4.2.2.2.1.length)])), (1, (AObj.cells [(bys s4.2.2.2.2.1)])), (0, (AObj.cells [(AV.i s4.2.2.2.2.2)])), (6, (AObj.cells (s4.2.2.2.1.flatMap Ex.cells)))]) false)) kq (ac h5 (ac (fq (p := (((0 : Nat) ≤ (32 : Nat)) ∧ (((32 : Nat) ≤ s4.2.2.1.length) ∧ ((List.length (List.map AV.y s4.2.2.1)) = (s4.2.2.1.length * 1)))))) (ac (fq (p := ((32 : Nat) ≤ (List.length (List.take 32 (List.map AV.y s4.2.2.1)))))) (ac (show (List.take 32 (List.take 32 (List.map AV.y s4.2.2.1))) = (List.map AV.y (pad 32 s4.2.2.1)) from (pad_takeC (x := s4.2.2.1) tq bq)) (ac (tq (p := (((List.length (List.map AV.y (pad 32 s4.2.2.1))) = (32 : Nat)) ∧ ((32 : Nat) = (32 : Nat))))) (ac (show eqCells ((List.map AV.y (pad 32 s4.2.2.1))) ((List.replicate (32 : Nat) (AV.y (UInt8.ofNat (0 : Nat))))) = some (((pad 32 s4.2.2.1) == (List.replicate (32 : Nat) (UInt8.ofNat (0 : Nat))))) from (eqCells_of tq tq tq)) (ac h6 (ac h6 (ac h6 (ac h6 (ac (fq (p := (((32 : Nat) ≤ s4.2.2.1.length) ∧ ((s4.2.2.1.length ≤ s4.2.2.1.length) ∧ ((List.length (List.map AV.y s4.2.2.1)) = (s4.2.2.1.length * 1)))))) an))))))))))) (Nat.le_of_ble_eq_true rfl) (Nat.le_of_ble_eq_true rfl) (absB_of [6] [] kq (.consn kq (.yl rfl) (.consn kq (.pt rfl) (.consn kq (.pt rfl) .nil))) (.cons (.old rfl rfl (.cells (.cons (.eqv tq rfl) (.cons (.eqv tq rfl) .nil)))) (.cons (.old rfl rfl (.loop (.consn kq (.eqv tq rfl) (.consn kq (.eqv tq rfl) (.consn kq (.pt rfl) (.consn kq (.pt rfl) (.consn kq (.pt rfl) (.consn kq (.eqv tq rfl) (.consn kq (.eqv tq rfl) (.consn kq (.fn (.cons (.pt rfl) .nil)) .nil)))))))))) (.cons (.old rfl rfl (.cells (.cons (.eqv tq rfl) .nil))) (.cons (.old rfl rfl (.cells (.cons (.rfn (n := s4.2.2.2.1.length) rfl tq) .nil))) (.cons (.old rfl rfl (.cells (.cons (.eqv tq rfl) .nil))) (.cons (.old rfl rfl (.cells (.cons (.eqv tq rfl) .nil))) (.cons (.old rfl rfl (.cells (.pl tq pq))) .nil))))))))) fun h5 h5p => tn_ok
noncomputable abbrev pLay_B3_I (lba : Int) (b : List UInt8) (s4 : Bool × Int × List UInt8 × List Ex × List UInt8 × Int) : St := (St.mk [(0, (AV.i lba)), (1, (bys b)), (2, (AV.pt 0 0)), (3, (AV.pt 1 0)), (4, (AV.pt 2 0)), (5, (AV.i 0)), (27, (AV.b (decide ((wr (Int.tdiv (b.length : Int) (32 : Int))) > (wr ((64 : Int) - lba)))))), (29, (AV.fn (95 : Nat) [(AV.pt 3 0)])), (30, (AV.ag [(AV.b s4.1), (AV.i s4.2.1)])), (6, (AV.pt 7 0))] 61 (AH.mk 8 [(7, (AObj.cells [(AV.b s4.1), (AV.i s4.2.1)])), (5, (AObj.cells [(AV.b s4.1), (AV.i s4.2.1)])), (4, (AObj.loop Go.LoopState.busy Option.none [(0, (AV.i lba)), (1, (bys b)), (2, (AV.pt 0 0)), (3, (AV.pt 1 0)), (4, (AV.pt 2 0)), (5, (AV.i 0)), (27, (AV.b (decide ((wr (Int.tdiv (b.length : Int) (32 : Int))) > (wr ((64 : Int) - lba)))))), (29, (AV.fn (95 : Nat) [(AV.pt 3 0)]))] 61 [(30 : Nat)] (rfA Try.prog 71 0) (rfB Try.prog 71 0))), (3, (AObj.cells [(bys s4.2.2.1)])), (2, (AObj.cells [(AV.rf 6 5 0 s4.2.2.2.1.length)])), (1, (AObj.cells [(bys s4.2.2.2.2.1)])), (0, (AObj.cells [(AV.i s4.2.2.2.2.2)])), (6, (AObj.cells (s4.2.2.2.1.flatMap Ex.cells)))]) true)
noncomputable abbrev pLay_B3_S (lba : Int) (b : List UInt8) (s4 : Bool × Int × List UInt8 × List Ex × List UInt8 × Int) (s7 : List Ex × List UInt8 × Int) : St := (St.mk [(0, (AV.i lba)), (1, (bys b)), (2, (AV.pt 0 0)), (3, (AV.pt 1 0)), (4, (AV.pt 2 0)), (5, (AV.i 0)), (27, (AV.b (decide ((wr (Int.tdiv (b.length : Int) (32 : Int))) > (wr ((64 : Int) - lba)))))), (29, (AV.fn (95 : Nat) [(AV.pt 3 0)])), (30, (AV.ag [(AV.b s4.1), (AV.i s4.2.1)])), (6, (AV.pt 7 0))] 61 (AH.mk 9 [(7, (AObj.cells [(AV.b s4.1), (AV.i s4.2.1)])), (5, (AObj.cells [(AV.b s4.1), (AV.i s4.2.1)])), (4, (AObj.loop Go.LoopState.busy Option.none [(0, (AV.i lba)), (1, (bys b)), (2, (AV.pt 0 0)), (3, (AV.pt 1 0)), (4, (AV.pt 2 0)), (5, (AV.i 0)), (27, (AV.b (decide ((wr (Int.tdiv (b.length : Int) (32 : Int))) > (wr ((64 : Int) - lba)))))), (29, (AV.fn (95 : Nat) [(AV.pt 3 0)]))] 61 [(30 : Nat)] (rfA Try.prog 71 0) (rfB Try.prog 71 0))), (3, (AObj.cells [(bys s4.2.2.1)])), (2, (AObj.cells [(AV.rf 8 5 0 s7.1.length)])), (1, (AObj.cells [(bys s7.2.1)])), (0, (AObj.cells [(AV.i s7.2.2)])), (8, (AObj.cells (s7.1.flatMap Ex.cells)))]) true)
noncomputable def pLay_B3 (lba : Int) (b : List UInt8) (s4 : Bool × Int × List UInt8 × List Ex × List UInt8 × Int) : Option (List Ex × List UInt8 × Int) :=
 (tb ((!s4.1)) (tp (((0 : Int) ≤ (wr (s4.2.1 * (32 : Int))))) (tp ((((0 : Nat) ≤ (Int.toNat (wr (s4.2.1 * (32 : Int))))) ∧ (((Int.toNat (wr (s4.2.1 * (32 : Int)))) ≤ s4.2.2.2.2.1.length) ∧ ((List.length (List.map AV.y s4.2.2.2.2.1)) = (s4.2.2.2.2.1.length * 1))))) (tp ((((Int.toNat (wr (s4.2.1 * (32 : Int)))) - (0 : Nat)) ≤ (4294967296 : Nat))) (tp ((((List.length (s4.2.2.2.1.flatMap Ex.cells)) = (s4.2.2.2.1.length * 5)) ∧ ((s4.2.2.2.1.length + (1 : Nat)) ≤ (4294967296 : Nat)))) (some (((s4.2.2.2.1 ++ [(Ex.mk s4.2.2.2.2.2 s4.2.1 2 0 (List.take (((Int.toNat (wr (s4.2.1 * (32 : Int)))) - (0 : Nat)) * 1) (List.take (((Int.toNat (wr (s4.2.1 * (32 : Int)))) - (0 : Nat)) * 1) s4.2.2.2.2.1)))]), ((List.take ((s4.2.2.2.2.1.length - (Int.toNat (wr (s4.2.1 * (32 : Int))))) * 1) (List.drop ((Int.toNat (wr (s4.2.1 * (32 : Int)))) * 1) s4.2.2.2.2.1)), (wr (s4.2.2.2.2.2 + s4.2.1)))))))))) (tp ((((List.length (s4.2.2.2.1.flatMap Ex.cells)) = (s4.2.2.2.1.length * 5)) ∧ ((s4.2.2.2.1.length + (1 : Nat)) ≤ (4294967296 : Nat)))) (tp (((0 : Int) ≤ (wr (s4.2.1 * (32 : Int))))) (tp ((((Int.toNat (wr (s4.2.1 * (32 : Int)))) ≤ s4.2.2.2.2.1.length) ∧ ((s4.2.2.2.2.1.length ≤ s4.2.2.2.2.1.length) ∧ ((List.length (List.map AV.y s4.2.2.2.2.1)) = (s4.2.2.2.2.1.length * 1))))) (some (((s4.2.2.2.1 ++ [(Ex.mk s4.2.2.2.2.2 s4.2.1 1 0 ([] : List UInt8))]), ((List.take ((s4.2.2.2.2.1.length - (Int.toNat (wr (s4.2.1 * (32 : Int))))) * 1) (List.drop ((Int.toNat (wr (s4.2.1 * (32 : Int)))) * 1) s4.2.2.2.2.1)), (wr (s4.2.2.2.2.2 + s4.2.1))))))))))
theorem pLay_B3_ok (lba : Int) (b : List UInt8) (s4 : Bool × Int × List UInt8 × List Ex × List UInt8 × Int) (zz : List Ex × List UInt8 × Int) : pLay_B3 lba b s4 = some zz → EvStep Try.prog cf 8 ((rfB Try.prog 71 0)) (pLay_B3_I lba b s4) (pLay_B3_S lba b s4 zz) := by
  unfold pLay_B3
  exact tb_ok (fun h8 => tp_ok fun h9 => tp_ok fun h10 => tp_ok fun h11 => tp_ok fun h12 => by intro e; injection e with e; subst e; exact leafS vw_eq (k := 300) (r := []) (hs := hz [(8, [.fc]), (4, [.yes]), (7, [.yes, .yes, .yes, .yes]), (2, [.fc]), (2, [.fc]), (3, [.fc]), (1, [.fc, .fc, .yes, .yes]), (1, [.fc]), (12, [.yes, .yes]), (1, [.fc]), (1, [.fc, .yes])]) (ks := [0, 1, 2, 3, 4, 5, 27, 29, 30, 6]) (st1 := (St.mk [(0, (AV.i lba)), (1, (bys b)), (2, (AV.pt 0 0)), (3, (AV.pt 1 0)), (4, (AV.pt 2 0)), (5, (AV.i 0)), (27, (AV.b (decide ((wr (Int.tdiv (b.length : Int) (32 : Int))) > (wr ((64 : Int) - lba)))))), (29, (AV.fn (95 : Nat) [(AV.pt 3 0)])), (30, (AV.ag [(AV.b s4.1), (AV.i s4.2.1)])), (6, (AV.pt 7 0))] 61 (AH.mk 12 [(11, (AObj.cells ((s4.2.2.2.1.flatMap Ex.cells) ++ [(AV.i s4.2.2.2.2.2), (AV.i s4.2.1), (AV.i 2), (AV.i 0), (AV.rf 9 1 0 ((Int.toNat (wr (s4.2.1 * (32 : Int)))) - (0 : Nat)))]))), (10, (AObj.cells [(AV.i s4.2.2.2.2.2), (AV.i s4.2.1), (AV.i 2), (AV.i 0), (AV.rf 9 1 0 ((Int.toNat (wr (s4.2.1 * (32 : Int)))) - (0 : Nat)))])), (9, (AObj.cells (List.take (((Int.toNat (wr (s4.2.1 * (32 : Int)))) - (0 : Nat)) * 1) (List.map AV.y s4.2.2.2.2.1)))), (8, (AObj.cells [(AV.i s4.2.2.2.2.2), (AV.i s4.2.1), (AV.i 2), (AV.i 0), (AV.rf 9 1 0 ((Int.toNat (wr (s4.2.1 * (32 : Int)))) - (0 : Nat)))])), (7, (AObj.cells [(AV.b s4.1), (AV.i s4.2.1)])), (5, (AObj.cells [(AV.b s4.1), (AV.i s4.2.1)])), (4, (AObj.loop Go.LoopState.busy Option.none [(0, (AV.i lba)), (1, (bys b)), (2, (AV.pt 0 0)), (3, (AV.pt 1 0)), (4, (AV.pt 2 0)), (5, (AV.i 0)), (27, (AV.b (decide ((wr (Int.tdiv (b.length : Int) (32 : Int))) > (wr ((64 : Int) - lba)))))), (29, (AV.fn (95 : Nat) [(AV.pt 3 0)]))] 61 [(30 : Nat)] (rfA Try.prog 71 0) (rfB Try.prog 71 0))), (3, (AObj.cells [(bys s4.2.2.1)])), (2, (AObj.cells [(AV.rf 11 5 0 (s4.2.2.2.1.length + (1 : Nat)))])), (1, (AObj.cells [(AV.sl (s4.2.2.2.2.1.length - (Int.toNat (wr (s4.2.1 * (32 : Int))))) (List.take ((s4.2.2.2.2.1.length - (Int.toNat (wr (s4.2.1 * (32 : Int))))) * 1) (List.drop ((Int.toNat (wr (s4.2.1 * (32 : Int)))) * 1) (List.map AV.y s4.2.2.2.2.1))))])), (0, (AObj.cells [(AV.i (wr (s4.2.2.2.2.2 + s4.2.1)))])), (6, AObj.dead)]) true)) kq (ac h8 (ac h9 (ac h10 (ac (fq (p := ((List.length (List.take (((Int.toNat (wr (s4.2.1 * (32 : Int)))) - (0 : Nat)) * 1) (List.map AV.y s4.2.2.2.2.1))) = (((Int.toNat (wr (s4.2.1 * (32 : Int)))) - (0 : Nat)) * 1)))) (ac h11 (ac (tq (p := (((0 : Nat) = (0 : Nat)) ∧ ((List.length [(AV.i s4.2.2.2.2.2), (AV.i s4.2.1), (AV.i 2), (AV.i 0), (AV.rf 9 1 0 ((Int.toNat (wr (s4.2.1 * (32 : Int)))) - (0 : Nat)))]) = (5 : Nat))))) (ac h12 (ac h9 (ac (fq (p := (((Int.toNat (wr (s4.2.1 * (32 : Int)))) ≤ s4.2.2.2.2.1.length) ∧ ((s4.2.2.2.2.1.length ≤ s4.2.2.2.2.1.length) ∧ ((List.length (List.map AV.y s4.2.2.2.2.1)) = (s4.2.2.2.2.1.length * 1)))))) (ac (show orderOk (rg Try.prog 71 0) = true ∧ allOk (Region.before (rg Try.prog 71 0)) [] 0 [(some [0], some []), (some [], some []), (some [7], some []), (some [], some []), (some [1], some []), (some [], some []), (some [7], some []), (some [], some []), (some [], some []), (some [0], some [0]), (some [1], some [1])] = true from (ord_of ord_71_0 bef_71_0 kq)) an)))))))))) (Nat.le_of_ble_eq_true rfl) (Nat.le_of_ble_eq_true rfl) (absB_of [11] [9] kq (.consn kq (.eqv tq rfl) (.consn kq (.eqv tq rfl) (.consn kq (.pt rfl) (.consn kq (.pt rfl) (.consn kq (.pt rfl) (.consn kq (.eqv tq rfl) (.consn kq (.eqv tq rfl) (.consn kq (.fn (.cons (.pt rfl) .nil)) (.consn kq (.agp pq) (.consn kq (.pt rfl) .nil)))))))))) (.cons (.old rfl rfl (.cells (.pl rfl pq))) (.cons (.old rfl rfl (.cells (.pl rfl pq))) (.cons (.old rfl rfl (.loop (.consn kq (.eqv tq rfl) (.consn kq (.eqv tq rfl) (.consn kq (.pt rfl) (.consn kq (.pt rfl) (.consn kq (.pt rfl) (.consn kq (.eqv tq rfl) (.consn kq (.eqv tq rfl) (.consn kq (.fn (.cons (.pt rfl) .nil)) .nil)))))))))) (.cons (.old rfl rfl (.cells (.cons (.eqv tq rfl) .nil))) (.cons (.old rfl rfl (.cells (.cons (.rfn (n := (s4.2.2.2.1.length + (1 : Nat))) rfl tq) .nil))) (.cons (.old rfl rfl (.cells (.cons (.eqv tq rfl) .nil))) (.cons (.old rfl rfl (.cells (.cons (.eqv tq rfl) .nil))) (.cons (.old rfl rfl (.cells (.cast rfl tq (.app (.pl rfl pq) (.cons (.eqv rfl rfl) (.cons (.eqv rfl rfl) (.cons (.eqv rfl rfl) (.cons (.eqv rfl rfl) (.cons (.frzn rfl tq pq (by simp) rfl) .nil))))))))) .nil)))))))))) fun h8 => tp_ok fun h9 => tp_ok fun h10 => tp_ok fun h11 => by intro e; injection e with e; subst e; exact leafS vw_eq (k := 300) (r := []) (hs := hz [(8, [.fc]), (4, [.no]), (3, [.fc]), (1, [.fc, .fc, .yes, .yes]), (1, [.fc]), (12, [.yes, .yes]), (1, [.fc]), (1, [.fc, .yes])]) (ks := [0, 1, 2, 3, 4, 5, 27, 29, 30, 6]) (st1 := (St.mk [(0, (AV.i lba)), (1, (bys b)), (2, (AV.pt 0 0)), (3, (AV.pt 1 0)), (4, (AV.pt 2 0)), (5, (AV.i 0)), (27, (AV.b (decide ((wr (Int.tdiv (b.length : Int) (32 : Int))) > (wr ((64 : Int) - lba)))))), (29, (AV.fn (95 : Nat) [(AV.pt 3 0)])), (30, (AV.ag [(AV.b s4.1), (AV.i s4.2.1)])), (6, (AV.pt 7 0))] 61 (AH.mk 11 [(10, (AObj.cells ((s4.2.2.2.1.flatMap Ex.cells) ++ [(AV.i s4.2.2.2.2.2), (AV.i s4.2.1), (AV.i (Int.ofNat 1)), (AV.i (Int.ofNat 0)), AV.nl]))), (9, (AObj.cells [(AV.i s4.2.2.2.2.2), (AV.i s4.2.1), (AV.i 1), (AV.i 0), AV.nl])), (8, (AObj.cells [(AV.i s4.2.2.2.2.2), (AV.i s4.2.1), (AV.i 1), (AV.i 0), AV.nl])), (7, (AObj.cells [(AV.b s4.1), (AV.i s4.2.1)])), (5, (AObj.cells [(AV.b s4.1), (AV.i s4.2.1)])), (4, (AObj.loop Go.LoopState.busy Option.none [(0, (AV.i lba)), (1, (bys b)), (2, (AV.pt 0 0)), (3, (AV.pt 1 0)), (4, (AV.pt 2 0)), (5, (AV.i 0)), (27, (AV.b (decide ((wr (Int.tdiv (b.length : Int) (32 : Int))) > (wr ((64 : Int) - lba)))))), (29, (AV.fn (95 : Nat) [(AV.pt 3 0)]))] 61 [(30 : Nat)] (rfA Try.prog 71 0) (rfB Try.prog 71 0))), (3, (AObj.cells [(bys s4.2.2.1)])), (2, (AObj.cells [(AV.rf 10 5 0 (s4.2.2.2.1.length + (1 : Nat)))])), (1, (AObj.cells [(AV.sl (s4.2.2.2.2.1.length - (Int.toNat (wr (s4.2.1 * (32 : Int))))) (List.take ((s4.2.2.2.2.1.length - (Int.toNat (wr (s4.2.1 * (32 : Int))))) * 1) (List.drop ((Int.toNat (wr (s4.2.1 * (32 : Int)))) * 1) (List.map AV.y s4.2.2.2.2.1))))])), (0, (AObj.cells [(AV.i (wr (s4.2.2.2.2.2 + s4.2.1)))])), (6, AObj.dead)]) true)) kq (ac h8 (ac (tq (p := (((0 : Nat) = (0 : Nat)) ∧ ((List.length [(AV.i s4.2.2.2.2.2), (AV.i s4.2.1), (AV.i (Int.ofNat 1)), (AV.i (Int.ofNat 0)), AV.nl]) = (5 : Nat))))) (ac h9 (ac h10 (ac h11 (ac (show orderOk (rg Try.prog 71 0) = true ∧ allOk (Region.before (rg Try.prog 71 0)) [] 0 [(some [0], some []), (some [], some []), (some [7], some []), (some [], some []), (some [1], some []), (some [], some []), (some [7], some []), (some [], some []), (some [], some []), (some [0], some [0]), (some [1], some [1])] = true from (ord_of ord_71_0 bef_71_0 kq)) an)))))) (Nat.le_of_ble_eq_true rfl) (Nat.le_of_ble_eq_true rfl) (absB_of [10] [] kq (.consn kq (.eqv tq rfl) (.consn kq (.eqv tq rfl) (.consn kq (.pt rfl) (.consn kq (.pt rfl) (.consn kq (.pt rfl) (.consn kq (.eqv tq rfl) (.consn kq (.eqv tq rfl) (.consn kq (.fn (.cons (.pt rfl) .nil)) (.consn kq (.agp pq) (.consn kq (.pt rfl) .nil)))))))))) (.cons (.old rfl rfl (.cells (.pl rfl pq))) (.cons (.old rfl rfl (.cells (.pl rfl pq))) (.cons (.old rfl rfl (.loop (.consn kq (.eqv tq rfl) (.consn kq (.eqv tq rfl) (.consn kq (.pt rfl) (.consn kq (.pt rfl) (.consn kq (.pt rfl) (.consn kq (.eqv tq rfl) (.consn kq (.eqv tq rfl) (.consn kq (.fn (.cons (.pt rfl) .nil)) .nil)))))))))) (.cons (.old rfl rfl (.cells (.cons (.eqv tq rfl) .nil))) (.cons (.old rfl rfl (.cells (.cons (.rfn (n := (s4.2.2.2.1.length + (1 : Nat))) rfl tq) .nil))) (.cons (.old rfl rfl (.cells (.cons (.eqv tq rfl) .nil))) (.cons (.old rfl rfl (.cells (.cons (.eqv tq rfl) .nil))) (.cons (.old rfl rfl (.cells (.cast rfl tq (.app (.pl rfl pq) (.cons (.eqv rfl rfl) (.cons (.eqv rfl rfl) (.cons (.eqv rfl rfl) (.cons (.eqv rfl rfl) (.cons (.pur 1 rfl (by simp)) .nil))))))))) .nil)))))))))
noncomputable def pLay (lba : Int) (b : List UInt8) : Option (List Ex × Int) :=
 (tb (((Int.tmod (b.length : Int) (32 : Int)) != (0 : Int))) (some ((([] : List Ex), (150 : Int)))) (tb ((decide (lba < (0 : Int)))) (some ((([] : List Ex), (150 : Int)))) (tb ((decide (lba > (64 : Int)))) (some ((([] : List Ex), (150 : Int)))) (tb ((decide ((wr (Int.tdiv (b.length : Int) (32 : Int))) > (wr ((64 : Int) - lba))))) (some ((([] : List Ex), (150 : Int)))) (th (pLay_L0_step lba b) ((false, ((0 : Int), (b, (([] : List Ex), (b, lba)))))) fun s4 => (tb ((decide ((s4.2.2.1.length : Int) ≥ (32 : Int)))) none (tb ((decide (s4.2.1 > (0 : Int)))) (tc (pLay_B3 lba b s4) fun s7 => (tp ((((0 : Nat) = (0 : Nat)) ∧ ((List.length (s7.1.flatMap Ex.cells)) = (s7.1.length * 5)))) (some ((s7.1, (0 : Int)))))) (tp ((((0 : Nat) = (0 : Nat)) ∧ ((List.length (s4.2.2.2.1.flatMap Ex.cells)) = (s4.2.2.2.1.length * 5)))) (some ((s4.2.2.2.1, (0 : Int))))))))))))
abbrev pLay_G (lba : Int) (b : List UInt8) (r : List Ex × Int) : Prop := EvOw Try.prog cf false [[5], []] 71 [.i (lba), bys (b)] (.tu [exs (r.1), .i (r.2)])
theorem pLay_ok (lba : Int) (b : List UInt8) (r : List Ex × Int) : pLay lba b = some r → pLay_G lba b r := by
  unfold pLay
  exact tbN (fun h0 h0p => by intro e; injection e with e; subst e; exact leafO vw_eq (k := 300) (r := []) (hs := hz [(10, [.yes, .yes, .yes]), (14, [.fc]), (1, [])]) (R := fun H => ((AV.tu [(AV.rf (AH.nx H) 5 0 0), (AV.i 150)]), (AH.mk ((AH.nx H) + (1 : Nat)) (((AH.nx H), (AObj.cells ([] : List AV))) :: (AH.l H))))) (fun H => kq) (ac h0 (ac h0 (ac h0 an))) (fun H => oq)) fun h0 h0p => tbD (fun h1 h1p => by intro e; injection e with e; subst e; exact leafO vw_eq (k := 300) (r := []) (hs := hz [(10, [.no]), (2, [.no]), (1, [.no]), (1, [.yes, .yes, .yes]), (10, [.fc]), (1, [])]) (R := fun H => ((AV.tu [(AV.rf (AH.nx H) 5 0 0), (AV.i 150)]), (AH.mk ((AH.nx H) + (1 : Nat)) (((AH.nx H), (AObj.cells ([] : List AV))) :: (AH.l H))))) (fun H => kq) (ac h0 (ac h0 (ac h0 (ac h1 (ac h1 (ac h1 an)))))) (fun H => oq)) fun h1 h1p => tbD (fun h2 h2p => by intro e; injection e with e; subst e; exact leafO vw_eq (k := 300) (r := []) (hs := hz [(10, [.no]), (2, [.no]), (1, [.no]), (1, [.no]), (2, [.no]), (1, [.no]), (1, [.yes, .yes, .yes, .yes, .yes, .yes, .yes]), (2, [.fc]), (1, [])]) (R := fun H => ((AV.tu [(AV.rf (AH.nx H) 5 0 0), (AV.i 150)]), (AH.mk ((AH.nx H) + (1 : Nat)) (((AH.nx H), (AObj.cells ([] : List AV))) :: (AH.l H))))) (fun H => kq) (ac h0 (ac h0 (ac h0 (ac h1 (ac h1 (ac h1 (ac h2 (ac h2 (ac h2 (ac h2 (ac h2 (ac h2 (ac h2 an))))))))))))) (fun H => oq)) fun h2 h2p => tbD (fun h3 h3p => by intro e; injection e with e; subst e; exact leafO vw_eq (k := 300) (r := []) (hs := hz [(10, [.no]), (2, [.no]), (1, [.no]), (1, [.no]), (2, [.no]), (1, [.no]), (1, [.no]), (2, [.no]), (1, [.no]), (1, [.no]), (2, [.no]), (1, [.no]), (1, [.no, .yes]), (1, [.fc]), (1, [])]) (R := fun H => ((AV.tu [(AV.rf (AH.nx H) 5 0 0), (AV.i 150)]), (AH.mk ((AH.nx H) + (1 : Nat)) (((AH.nx H), (AObj.cells ([] : List AV))) :: (AH.l H))))) (fun H => kq) (ac h0 (ac h0 (ac h0 (ac h1 (ac h1 (ac h1 (ac h2 (ac h2 (ac h2 (ac h2 (ac h2 (ac h2 (ac h2 (ac h3 an)))))))))))))) (fun H => oq)) fun h3 h3p => th_ok fun s4 h4 => tbD (fun h5 h5p => tn_ok) fun h5 h5p => tbD (fun h6 h6p => tc_ok fun s7 h7 => tp_ok fun h8 => by intro e; injection e with e; subst e; exact leafO vw_eq (k := 300) (r := []) (hs := hz [(10, [.no]), (2, [.no]), (1, [.no]), (1, [.no]), (2, [.no]), (1, [.no]), (1, [.no]), (2, [.no]), (1, [.no]), (1, [.no]), (2, [.no]), (1, [.no]), (1, [.no, .no]), (8, [.head (pLay_L0_S lba b s4)]), (4, [.no]), (4, [.yes]), (2, [.fc]), (3, [.fc, .res .normal (pLay_B3_S lba b s4 s7)]), (3, [.fc]), (1, [.yes, .yes])]) (R := fun H => ((AV.tu [(AV.rf (AH.nx H) 5 0 s7.1.length), (AV.i 0)]), (AH.mk ((AH.nx H) + (1 : Nat)) (((AH.nx H), (AObj.cells (s7.1.flatMap Ex.cells))) :: (AH.l H))))) (fun H => kq) (ac h0 (ac h0 (ac h0 (ac h1 (ac h1 (ac h1 (ac h2 (ac h2 (ac h2 (ac h2 (ac h2 (ac h2 (ac h2 (ac h3 (ac (show EvHead Try.prog cf (lp Try.prog 95 0) (pLay_L0_I lba b) (pLay_L0_S lba b s4) from (EvHead.of (pLay_L0_ok lba b) (absB_of [6] [] kq (.consn kq (.yl rfl) (.consn kq (.pt rfl) (.consn kq (.pt rfl) .nil))) (.cons (.old rfl rfl (.cells (.cons (.eqv tq rfl) (.cons (.eqv tq rfl) .nil)))) (.cons (.old rfl rfl (.loop (.consn kq (.eqv tq rfl) (.consn kq (.eqv tq rfl) (.consn kq (.pt rfl) (.consn kq (.pt rfl) (.consn kq (.pt rfl) (.consn kq (.eqv tq rfl) (.consn kq (.eqv tq rfl) (.consn kq (.fn (.cons (.pt rfl) .nil)) .nil)))))))))) (.cons (.old rfl rfl (.cells (.cons (.eqv tq rfl) .nil))) (.cons (.old rfl rfl (.cells (.cons (.nln tq) .nil))) (.cons (.old rfl rfl (.cells (.cons (.eqv tq rfl) .nil))) (.cons (.old rfl rfl (.cells (.cons (.eqv tq rfl) .nil))) (.cons (.none rfl (Nat.le_refl _) rfl) .nil)))))))) h4)) (ac h5 (ac h6 (ac (show Ev Try.prog cf ((rfB Try.prog 71 0)) (pLay_B3_I lba b s4) (.normal, pLay_B3_S lba b s4 s7) from (EvStep.ev (pLay_B3_ok lba b s4 _ h7) rfl)) (ac h8 (ac (pq (p := Pl false ((s7.1.flatMap Ex.cells)))) an)))))))))))))))))))) (fun H => oq)) fun h6 h6p => tp_ok fun h7 => by intro e; injection e with e; subst e; exact leafO vw_eq (k := 300) (r := []) (hs := hz [(10, [.no]), (2, [.no]), (1, [.no]), (1, [.no]), (2, [.no]), (1, [.no]), (1, [.no]), (2, [.no]), (1, [.no]), (1, [.no]), (2, [.no]), (1, [.no]), (1, [.no, .no]), (8, [.head (pLay_L0_S lba b s4)]), (4, [.no]), (4, [.no]), (3, [.fc]), (1, [.yes, .yes])]) (R := fun H => ((AV.tu [(AV.rf (AH.nx H) 5 0 s4.2.2.2.1.length), (AV.i 0)]), (AH.mk ((AH.nx H) + (1 : Nat)) (((AH.nx H), (AObj.cells (s4.2.2.2.1.flatMap Ex.cells))) :: (AH.l H))))) (fun H => kq) (ac h0 (ac h0 (ac h0 (ac h1 (ac h1 (ac h1 (ac h2 (ac h2 (ac h2 (ac h2 (ac h2 (ac h2 (ac h2 (ac h3 (ac (show EvHead Try.prog cf (lp Try.prog 95 0) (pLay_L0_I lba b) (pLay_L0_S lba b s4) from (EvHead.of (pLay_L0_ok lba b) (absB_of [6] [] kq (.consn kq (.yl rfl) (.consn kq (.pt rfl) (.consn kq (.pt rfl) .nil))) (.cons (.old rfl rfl (.cells (.cons (.eqv tq rfl) (.cons (.eqv tq rfl) .nil)))) (.cons (.old rfl rfl (.loop (.consn kq (.eqv tq rfl) (.consn kq (.eqv tq rfl) (.consn kq (.pt rfl) (.consn kq (.pt rfl) (.consn kq (.pt rfl) (.consn kq (.eqv tq rfl) (.consn kq (.eqv tq rfl) (.consn kq (.fn (.cons (.pt rfl) .nil)) .nil)))))))))) (.cons (.old rfl rfl (.cells (.cons (.eqv tq rfl) .nil))) (.cons (.old rfl rfl (.cells (.cons (.nln tq) .nil))) (.cons (.old rfl rfl (.cells (.cons (.eqv tq rfl) .nil))) (.cons (.old rfl rfl (.cells (.cons (.eqv tq rfl) .nil))) (.cons (.none rfl (Nat.le_refl _) rfl) .nil)))))))) h4)) (ac h5 (ac h6 (ac h7 (ac (pq (p := Pl false ((s4.2.2.2.1.flatMap Ex.cells)))) an))))))))))))))))))) (fun H => oq)
noncomputable abbrev pTold_L0_I (x : Ex) (s1 : List Ex × Int) : St := (St.mk [(0, (AV.ag (xc x))), (1, (AV.pt 0 0)), (2, AV.nl), (6, (AV.pt 0 2)), (7, (AV.i x.kind)), (8, (AV.b (x.kind != (2 : Int)))), (13, (AV.pt 0 0)), (14, (AV.i x.lba)), (15, (AV.pt 0 4)), (16, (bys x.d)), (17, (AV.tu [(AV.rf 1 5 0 s1.1.length), (AV.i s1.2)])), (12, (AV.tu [(AV.rf 1 5 0 s1.1.length), (AV.i s1.2)])), (18, (AV.rf 1 5 0 s1.1.length)), (19, (AV.i s1.2)), (3, (AV.rf 1 5 0 s1.1.length)), (4, (AV.i s1.2)), (20, (AV.rf 1 5 0 s1.1.length)), (21, (AV.i (s1.1.length : Int))), (22, (AV.i 0))] 33 (AH.mk 2 [(1, (AObj.cells (s1.1.flatMap Ex.cells))), (0, (AObj.cells (xc x)))]) false)
noncomputable abbrev pTold_L0_S (x : Ex) (s1 : List Ex × Int) (s2 : Int × List Ex) : St := (St.mk [(0, (AV.ag (xc x))), (1, (AV.pt 0 0)), (2, AV.nl), (8, (AV.b (x.kind != (2 : Int)))), (3, (AV.rf 1 5 0 s1.1.length)), (21, (AV.i (s1.1.length : Int))), (22, (AV.i s2.1))] 33 (AH.mk 2 [(1, (AObj.cells (s2.2.flatMap Ex.cells))), (0, (AObj.cells (xc x)))]) false)
noncomputable def pTold_L0_step (x : Ex) (s1 : List Ex × Int) (s2 : Int × List Ex) : Option (Int × List Ex) :=
 (tb ((decide (s2.1 < (s1.1.length : Int)))) (tp ((((0 : Int) ≤ s2.1) ∧ (s2.1 < (s1.1.length : Int)))) (tp ((((List.length [(AV.i x.gen)]) = (1 : Nat)) ∧ (((((0 : Nat) + (s2.1.toNat * 5)) + (3 : Nat)) + (List.length [(AV.i x.gen)])) ≤ (List.length (s2.2.flatMap Ex.cells))))) (some (((wr (s2.1 + (1 : Int))), (List.set s2.2 s2.1.toNat (Ex.mk (exAt s2.2 s2.1.toNat).lba (exAt s2.2 s2.1.toNat).len (exAt s2.2 s2.1.toNat).kind x.gen (exAt s2.2 s2.1.toNat).d))))))) none)
theorem pTold_L0_ok (x : Ex) (s1 : List Ex × Int) (s2 zz : Int × List Ex) : pTold_L0_step x s1 s2 = some zz → EvStep Try.prog cf 2 (lp Try.prog 44 0) (pTold_L0_S x s1 s2) (pTold_L0_S x s1 zz) := by
  unfold pTold_L0_step
  exact tbD (fun h3 h3p => tp_ok fun h4 => tp_ok fun h5 => by intro e; injection e with e; subst e; exact leafS vw_eq (k := 300) (r := []) (hs := hz [(1, [.yes]), (7, [.yes]), (1, [.yes, .cells ((List.flatMap Ex.cells (List.set s2.2 s2.1.toNat (Ex.mk (exAt s2.2 s2.1.toNat).lba (exAt s2.2 s2.1.toNat).len (exAt s2.2 s2.1.toNat).kind x.gen (exAt s2.2 s2.1.toNat).d))))]), (2, [])]) (ks := [0, 1, 2, 8, 3, 21, 22]) (st1 := (St.mk [(0, (AV.ag (xc x))), (1, (AV.pt 0 0)), (2, AV.nl), (8, (AV.b (x.kind != (2 : Int)))), (3, (AV.rf 1 5 0 s1.1.length)), (21, (AV.i (s1.1.length : Int))), (22, (AV.i (wr (s2.1 + (1 : Int)))))] 33 (AH.mk 2 [(1, (AObj.cells (List.flatMap Ex.cells (List.set s2.2 s2.1.toNat (Ex.mk (exAt s2.2 s2.1.toNat).lba (exAt s2.2 s2.1.toNat).len (exAt s2.2 s2.1.toNat).kind x.gen (exAt s2.2 s2.1.toNat).d))))), (0, (AObj.cells (xc x)))]) false)) kq (ac h3 (ac h4 (ac h5 (ac (show (((List.take (((0 : Nat) + (s2.1.toNat * 5)) + (3 : Nat)) (s2.2.flatMap Ex.cells)) ++ [(AV.i x.gen)]) ++ (List.drop ((((0 : Nat) + (s2.1.toNat * 5)) + (3 : Nat)) + (List.length [(AV.i x.gen)])) (s2.2.flatMap Ex.cells))) = (List.flatMap Ex.cells (List.set s2.2 s2.1.toNat (Ex.mk (exAt s2.2 s2.1.toNat).lba (exAt s2.2 s2.1.toNat).len (exAt s2.2 s2.1.toNat).kind x.gen (exAt s2.2 s2.1.toNat).d))) from (by rw [show (((0 : Nat) + (s2.1.toNat * 5)) + (3 : Nat)) = (s2.1.toNat) * 5 + 3 by omega]; exact ex_setf _ _ 3 _ ((Ex.mk (exAt s2.2 s2.1.toNat).lba (exAt s2.2 s2.1.toNat).len (exAt s2.2 s2.1.toNat).kind x.gen (exAt s2.2 s2.1.toNat).d)) bq (by simp) rfl)) an)))) (Nat.le_of_ble_eq_true rfl) (Nat.le_of_ble_eq_true rfl) (absB_of [] [] kq (.consn kq (.agp pq) (.consn kq (.pt rfl) (.consn kq .nl0 (.consn kq (.eqv tq rfl) (.consn kq (.rf rfl) (.consn kq (.eqv tq rfl) (.consn kq (.eqv tq rfl) .nil))))))) (.cons (.old rfl rfl (.cells (.pl tq pq))) (.cons (.old rfl rfl (.cells (.pl rfl pq))) .nil)))) fun h3 h3p => tn_ok
noncomputable def pTold (x : Ex) : Option (List Ex) :=
 (tb ((x.kind != (2 : Int))) (some ([(Ex.mk x.lba x.len x.kind x.gen ([] : List UInt8))])) (tc (pLay (x.lba) (x.d)) fun s1 => (th (pTold_L0_step x s1) (((0 : Int), s1.1)) fun s2 => (tb ((decide (s2.1 < (s1.1.length : Int)))) none (tp ((((0 : Nat) = (0 : Nat)) ∧ ((List.length (s2.2.flatMap Ex.cells)) = (s1.1.length * 5)))) (some (s2.2)))))))
abbrev pTold_G (x : Ex) (r : List Ex) : Prop := EvFr Try.prog cf false 44 [Ex.av (x)] (exs (r))
theorem pTold_ok (x : Ex) (r : List Ex) : pTold x = some r → pTold_G x r := by
  unfold pTold
  exact tbN (fun h0 h0p => by intro e; injection e with e; subst e; exact leafR vw_eq (k := 300) (r := []) (hs := hz [(6, [.yes]), (2, [.fc]), (1, [.fc]), (1, [.fc, .fc]), (1, [.yes]), (1, [])]) (raw := (AV.sl 1 [(AV.i x.lba), (AV.i x.len), (AV.i x.kind), (AV.i x.gen), (AV.sl 0 ([] : List AV))])) kq (ac h0 (ac (tq (p := (((0 : Nat) = (0 : Nat)) ∧ ((List.length [(AV.i x.lba), (AV.i x.len), (AV.i x.kind), (AV.i x.gen), AV.nl]) = (5 : Nat))))) an)) tq) fun h0 h0p => tc_ok fun s1 h1 => th_ok fun s2 h2 => tbD (fun h3 h3p => tn_ok) fun h3 h3p => tp_ok fun h4 => by intro e; injection e with e; subst e; exact leafR vw_eq (k := 300) (r := []) (hs := hz [(6, [.no]), (7, [.fres (.tu [exs (s1.1), .i (s1.2)])]), (8, [.head (pTold_L0_S x s1 s2)]), (1, [.no]), (2, [.yes, .yes])]) (raw := (AV.sl s1.1.length (s2.2.flatMap Ex.cells))) kq (ac h0 (ac (pLay_ok (x.lba) (x.d) _ h1) (ac (show EvHead Try.prog cf (lp Try.prog 44 0) (pTold_L0_I x s1) (pTold_L0_S x s1 s2) from (EvHead.of (pTold_L0_ok x s1) (absB_of [] [] kq (.consn kq (.agp pq) (.consn kq (.pt rfl) (.consn kq .nl0 (.consn kq (.eqv tq rfl) (.consn kq (.rf rfl) (.consn kq (.eqv tq rfl) (.consn kq (.eqv tq rfl) .nil))))))) (.cons (.old rfl rfl (.cells (.pl tq pq))) (.cons (.old rfl rfl (.cells (.pl rfl pq))) .nil))) h2)) (ac h3 (ac h4 (ac (pq (p := Pl false ((s2.2.flatMap Ex.cells)))) an)))))) tq
noncomputable abbrev pPack_L1_I (l : List Ex) (s1 : List Ex × Int × Int) (s4 : Bool) (s7 : List Ex) : St := (St.mk [(0, (exs l)), (2, (AV.rf 0 5 0 s1.1.length)), (4, (AV.i (wr ((exAt l s1.2.2.toNat).lba + (exAt l s1.2.2.toNat).len)))), (14, (AV.b (decide ((l.length : Int) > (64 : Int))))), (15, (exs l)), (16, (AV.i (l.length : Int))), (17, (AV.i s1.2.2)), (18, (AV.b (decide (s1.2.2 < (l.length : Int))))), (19, (AV.ip (List.drop (s1.2.2.toNat * 5) (l.flatMap Ex.cells)))), (20, (AV.ag (xc (exAt l s1.2.2.toNat)))), (6, (AV.pt 1 0)), (21, (AV.ag (xc (exAt l s1.2.2.toNat)))), (22, (AV.b s4)), (23, (AV.b (!s4))), (24, (AV.b (!s4))), (25, (AV.pt 1 0)), (26, (AV.i (exAt l s1.2.2.toNat).lba)), (27, (AV.i s1.2.1)), (28, (AV.b (decide ((exAt l s1.2.2.toNat).lba < s1.2.1)))), (29, (AV.b (decide ((exAt l s1.2.2.toNat).lba < s1.2.1)))), (30, (AV.pt 1 0)), (31, (AV.i (exAt l s1.2.2.toNat).lba)), (32, (AV.pt 1 1)), (33, (AV.i (exAt l s1.2.2.toNat).len)), (34, (AV.i (wr ((exAt l s1.2.2.toNat).lba + (exAt l s1.2.2.toNat).len)))), (35, (AV.ag (xc (exAt l s1.2.2.toNat)))), (36, (exs s7)), (37, (AV.i (s7.length : Int))), (38, (AV.i 0))] 70 (AH.mk 2 [(1, (AObj.cells (xc (exAt l s1.2.2.toNat)))), (0, (AObj.cells (s1.1.flatMap Ex.cells)))]) false)
noncomputable abbrev pPack_L1_S (l : List Ex) (s1 : List Ex × Int × Int) (s4 : Bool) (s7 : List Ex) (s8 : Int × List Ex × List Ex) : St := (St.mk [(0, (exs l)), (2, (AV.rf 2 5 0 s8.2.2.length)), (4, (AV.i (wr ((exAt l s1.2.2.toNat).lba + (exAt l s1.2.2.toNat).len)))), (14, (AV.b (decide ((l.length : Int) > (64 : Int))))), (15, (exs l)), (16, (AV.i (l.length : Int))), (17, (AV.i s1.2.2)), (18, (AV.b (decide (s1.2.2 < (l.length : Int))))), (6, (AV.pt 1 0)), (29, (AV.b (decide ((exAt l s1.2.2.toNat).lba < s1.2.1)))), (36, (exs s7)), (37, (AV.i (s7.length : Int))), (38, (AV.i s8.1))] 70 (AH.mk 3 [(1, (AObj.cells (xc (exAt l s1.2.2.toNat)))), (2, (AObj.cells (s8.2.2.flatMap Ex.cells)))]) false)
noncomputable def pPack_L1_step (l : List Ex) (s1 : List Ex × Int × Int) (s4 : Bool) (s7 : List Ex) (s8 : Int × List Ex × List Ex) : Option (Int × List Ex × List Ex) :=
 (tb ((decide (s8.1 < (s7.length : Int)))) (tp ((((0 : Int) ≤ s8.1) ∧ (s8.1 < (s7.length : Int)))) (tb ((decide ((s8.2.2.length : Int) > (0 : Int)))) (tp ((((0 : Int) ≤ (wr ((s8.2.2.length : Int) - (1 : Int)))) ∧ ((wr ((s8.2.2.length : Int) - (1 : Int))) < (s8.2.2.length : Int)))) (tc (eJoin ((exAt s8.2.2 (Int.toNat (wr ((s8.2.2.length : Int) - (1 : Int)))))) ((exAt s7 s8.1.toNat))) fun s13 => (tb ((s13.2 == (0 : Int))) (tp ((((List.length (xc s13.1)) = (5 : Nat)) ∧ ((((0 : Nat) + ((Int.toNat (wr ((s8.2.2.length : Int) - (1 : Int)))) * 5)) + (List.length (xc s13.1))) ≤ (List.length (s8.2.2.flatMap Ex.cells))))) (some (((wr (s8.1 + (1 : Int))), (([] : List Ex), (List.set s8.2.2 (Int.toNat (wr ((s8.2.2.length : Int) - (1 : Int)))) s13.1)))))) (tp ((((List.length (s8.2.2.flatMap Ex.cells)) = (s8.2.2.length * 5)) ∧ ((s8.2.2.length + (1 : Nat)) ≤ (4294967296 : Nat)))) (some (((wr (s8.1 + (1 : Int))), (([] : List Ex), (s8.2.2 ++ [(exAt s7 s8.1.toNat)]))))))))) (tp ((((List.length (s8.2.2.flatMap Ex.cells)) = (s8.2.2.length * 5)) ∧ ((s8.2.2.length + (1 : Nat)) ≤ (4294967296 : Nat)))) (some (((wr (s8.1 + (1 : Int))), (([] : List Ex), (s8.2.2 ++ [(exAt s7 s8.1.toNat)])))))))) none)
theorem pPack_L1_ok (l : List Ex) (s1 : List Ex × Int × Int) (s4 : Bool) (s7 : List Ex) (s8 zz : Int × List Ex × List Ex) : pPack_L1_step l s1 s4 s7 s8 = some zz → EvStep Try.prog cf 2 (lp Try.prog 26 1) (pPack_L1_S l s1 s4 s7 s8) (pPack_L1_S l s1 s4 s7 zz) := by
  unfold pPack_L1_step
  exact tbD (fun h9 h9p => tp_ok fun h10 => tbD (fun h11 h11p => tp_ok fun h12 => tc_ok fun s13 h13 => tbE (fun h14 h14p => tp_ok fun h15 => by intro e; injection e with e; subst e; exact leafS vw_eq (k := 300) (r := []) (hs := hz [(1, [.yes, .yes, .yes, .cells ((Ex.cells (exAt s7 s8.1.toNat)))]), (2, [.fc]), (5, [.yes]), (3, [.yes, .yes, .cells ((Ex.cells (exAt s8.2.2 (Int.toNat (wr ((s8.2.2.length : Int) - (1 : Int)))))))]), (1, [.fc]), (1, [.fres (.tu [Ex.av (s13.1), .i (s13.2)])]), (5, [.fc]), (1, [.yes]), (2, [.yes]), (4, [.fc, .yes, .yes, .cells ((List.flatMap Ex.cells (List.set s8.2.2 (Int.toNat (wr ((s8.2.2.length : Int) - (1 : Int)))) s13.1)))]), (2, [])]) (ks := [0, 2, 4, 14, 15, 16, 17, 18, 6, 29, 36, 37, 38]) (st1 := (St.mk [(0, (exs l)), (2, (AV.rf 2 5 0 s8.2.2.length)), (4, (AV.i (wr ((exAt l s1.2.2.toNat).lba + (exAt l s1.2.2.toNat).len)))), (14, (AV.b (decide ((l.length : Int) > (64 : Int))))), (15, (exs l)), (16, (AV.i (l.length : Int))), (17, (AV.i s1.2.2)), (18, (AV.b (decide (s1.2.2 < (l.length : Int))))), (6, (AV.pt 1 0)), (29, (AV.b (decide ((exAt l s1.2.2.toNat).lba < s1.2.1)))), (36, (exs s7)), (37, (AV.i (s7.length : Int))), (38, (AV.i (wr (s8.1 + (1 : Int)))))] 70 (AH.mk 5 [(4, (AObj.cells (xc s13.1))), (3, (AObj.cells (xc (exAt s7 s8.1.toNat)))), (1, (AObj.cells (xc (exAt l s1.2.2.toNat)))), (2, (AObj.cells (List.flatMap Ex.cells (List.set s8.2.2 (Int.toNat (wr ((s8.2.2.length : Int) - (1 : Int)))) s13.1))))]) false)) kq (ac h9 (ac h10 (ac (fq (p := ((5 : Nat) ≤ (List.length (List.drop (s8.1.toNat * 5) (s7.flatMap Ex.cells)))))) (ac (show (List.take 5 (List.drop (s8.1.toNat * 5) (s7.flatMap Ex.cells))) = (Ex.cells (exAt s7 s8.1.toNat)) from (ex_takeO bq bq)) (ac h11 (ac h12 (ac (fq (p := ((((0 : Nat) + ((Int.toNat (wr ((s8.2.2.length : Int) - (1 : Int)))) * 5)) + (5 : Nat)) ≤ (List.length (s8.2.2.flatMap Ex.cells))))) (ac (show (List.take 5 (List.drop ((0 : Nat) + ((Int.toNat (wr ((s8.2.2.length : Int) - (1 : Int)))) * 5)) (s8.2.2.flatMap Ex.cells))) = (Ex.cells (exAt s8.2.2 (Int.toNat (wr ((s8.2.2.length : Int) - (1 : Int)))))) from (ex_takeO bq bq)) (ac (eJoin_ok ((exAt s8.2.2 (Int.toNat (wr ((s8.2.2.length : Int) - (1 : Int)))))) ((exAt s7 s8.1.toNat)) _ h13).any0 (ac (show orderOk (rg Try.prog 26 0) = true ∧ allOk (Region.before (rg Try.prog 26 0)) [] 0 [(some [], some []), (some [], some []), (some [], some []), (some [], some []), (some [2], some []), (some [3], some []), (some [], some []), (some [], some []), (some [], some []), (some [], some []), (some [], some [4]), (some [4], some [4]), (some [], some [])] = true from (ord_of ord_26_0 bef_26_0 kq)) (ac h14 (ac h12 (ac h15 (ac (show (((List.take ((0 : Nat) + ((Int.toNat (wr ((s8.2.2.length : Int) - (1 : Int)))) * 5)) (s8.2.2.flatMap Ex.cells)) ++ (xc s13.1)) ++ (List.drop (((0 : Nat) + ((Int.toNat (wr ((s8.2.2.length : Int) - (1 : Int)))) * 5)) + (List.length (xc s13.1))) (s8.2.2.flatMap Ex.cells))) = (List.flatMap Ex.cells (List.set s8.2.2 (Int.toNat (wr ((s8.2.2.length : Int) - (1 : Int)))) s13.1)) from (ex_setO (x := s13.1) bq bq tq)) an)))))))))))))) (Nat.le_of_ble_eq_true rfl) (Nat.le_of_ble_eq_true rfl) (absB_of [2] [] kq (.consn kq (.eqv tq rfl) (.consn kq (.rfn (n := s8.2.2.length) rfl tq) (.consn kq (.eqv tq rfl) (.consn kq (.eqv tq rfl) (.consn kq (.eqv tq rfl) (.consn kq (.eqv tq rfl) (.consn kq (.eqv tq rfl) (.consn kq (.eqv tq rfl) (.consn kq (.pt rfl) (.consn kq (.eqv tq rfl) (.consn kq (.eqv tq rfl) (.consn kq (.eqv tq rfl) (.consn kq (.eqv tq rfl) .nil))))))))))))) (.cons (.old rfl rfl (.cells (.pl rfl pq))) (.cons (.old rfl rfl (.cells (.pl tq pq))) .nil)))) fun h14 h14p => tp_ok fun h15 => by intro e; injection e with e; subst e; exact leafS vw_eq (k := 300) (r := []) (hs := hz [(1, [.yes, .yes, .yes, .cells ((Ex.cells (exAt s7 s8.1.toNat)))]), (2, [.fc]), (5, [.yes]), (3, [.yes, .yes, .cells ((Ex.cells (exAt s8.2.2 (Int.toNat (wr ((s8.2.2.length : Int) - (1 : Int)))))))]), (1, [.fc]), (1, [.fres (.tu [Ex.av (s13.1), .i (s13.2)])]), (5, [.fc]), (1, [.yes]), (2, [.no]), (2, [.fc]), (1, [.fc, .fc, .yes, .yes]), (3, [])]) (ks := [0, 2, 4, 14, 15, 16, 17, 18, 6, 29, 36, 37, 38]) (st1 := (St.mk [(0, (exs l)), (2, (AV.rf 6 5 0 (s8.2.2.length + (1 : Nat)))), (4, (AV.i (wr ((exAt l s1.2.2.toNat).lba + (exAt l s1.2.2.toNat).len)))), (14, (AV.b (decide ((l.length : Int) > (64 : Int))))), (15, (exs l)), (16, (AV.i (l.length : Int))), (17, (AV.i s1.2.2)), (18, (AV.b (decide (s1.2.2 < (l.length : Int))))), (6, (AV.pt 1 0)), (29, (AV.b (decide ((exAt l s1.2.2.toNat).lba < s1.2.1)))), (36, (exs s7)), (37, (AV.i (s7.length : Int))), (38, (AV.i (wr (s8.1 + (1 : Int)))))] 70 (AH.mk 7 [(6, (AObj.cells ((s8.2.2.flatMap Ex.cells) ++ (xc (exAt s7 s8.1.toNat))))), (5, (AObj.cells (xc (exAt s7 s8.1.toNat)))), (4, (AObj.cells (xc s13.1))), (3, (AObj.cells (xc (exAt s7 s8.1.toNat)))), (1, (AObj.cells (xc (exAt l s1.2.2.toNat)))), (2, AObj.dead)]) false)) kq (ac h9 (ac h10 (ac (fq (p := ((5 : Nat) ≤ (List.length (List.drop (s8.1.toNat * 5) (s7.flatMap Ex.cells)))))) (ac (show (List.take 5 (List.drop (s8.1.toNat * 5) (s7.flatMap Ex.cells))) = (Ex.cells (exAt s7 s8.1.toNat)) from (ex_takeO bq bq)) (ac h11 (ac h12 (ac (fq (p := ((((0 : Nat) + ((Int.toNat (wr ((s8.2.2.length : Int) - (1 : Int)))) * 5)) + (5 : Nat)) ≤ (List.length (s8.2.2.flatMap Ex.cells))))) (ac (show (List.take 5 (List.drop ((0 : Nat) + ((Int.toNat (wr ((s8.2.2.length : Int) - (1 : Int)))) * 5)) (s8.2.2.flatMap Ex.cells))) = (Ex.cells (exAt s8.2.2 (Int.toNat (wr ((s8.2.2.length : Int) - (1 : Int)))))) from (ex_takeO bq bq)) (ac (eJoin_ok ((exAt s8.2.2 (Int.toNat (wr ((s8.2.2.length : Int) - (1 : Int)))))) ((exAt s7 s8.1.toNat)) _ h13).any0 (ac (show orderOk (rg Try.prog 26 0) = true ∧ allOk (Region.before (rg Try.prog 26 0)) [] 0 [(some [], some []), (some [], some []), (some [], some []), (some [], some []), (some [2], some []), (some [3], some []), (some [], some []), (some [], some []), (some [], some []), (some [], some []), (some [], some [4]), (some [4], some [4]), (some [], some [])] = true from (ord_of ord_26_0 bef_26_0 kq)) (ac h14 (ac (tq (p := (((0 : Nat) = (0 : Nat)) ∧ ((List.length (xc (exAt s7 s8.1.toNat))) = (5 : Nat))))) (ac h15 an))))))))))))) (Nat.le_of_ble_eq_true rfl) (Nat.le_of_ble_eq_true rfl) (absB_of [6] [] kq (.consn kq (.eqv tq rfl) (.consn kq (.rfn (n := (s8.2.2.length + (1 : Nat))) rfl tq) (.consn kq (.eqv tq rfl) (.consn kq (.eqv tq rfl) (.consn kq (.eqv tq rfl) (.consn kq (.eqv tq rfl) (.consn kq (.eqv tq rfl) (.consn kq (.eqv tq rfl) (.consn kq (.pt rfl) (.consn kq (.eqv tq rfl) (.consn kq (.eqv tq rfl) (.consn kq (.eqv tq rfl) (.consn kq (.eqv tq rfl) .nil))))))))))))) (.cons (.old rfl rfl (.cells (.pl rfl pq))) (.cons (.old rfl rfl (.cells (.pl tq pq))) .nil)))) fun h11 h11p => tp_ok fun h12 => by intro e; injection e with e; subst e; exact leafS vw_eq (k := 300) (r := []) (hs := hz [(1, [.yes, .yes, .yes, .cells ((Ex.cells (exAt s7 s8.1.toNat)))]), (2, [.fc]), (5, [.no]), (2, [.fc]), (1, [.fc, .fc, .yes, .yes]), (3, [])]) (ks := [0, 2, 4, 14, 15, 16, 17, 18, 6, 29, 36, 37, 38]) (st1 := (St.mk [(0, (exs l)), (2, (AV.rf 5 5 0 (s8.2.2.length + (1 : Nat)))), (4, (AV.i (wr ((exAt l s1.2.2.toNat).lba + (exAt l s1.2.2.toNat).len)))), (14, (AV.b (decide ((l.length : Int) > (64 : Int))))), (15, (exs l)), (16, (AV.i (l.length : Int))), (17, (AV.i s1.2.2)), (18, (AV.b (decide (s1.2.2 < (l.length : Int))))), (6, (AV.pt 1 0)), (29, (AV.b (decide ((exAt l s1.2.2.toNat).lba < s1.2.1)))), (36, (exs s7)), (37, (AV.i (s7.length : Int))), (38, (AV.i (wr (s8.1 + (1 : Int)))))] 70 (AH.mk 6 [(5, (AObj.cells ((s8.2.2.flatMap Ex.cells) ++ (xc (exAt s7 s8.1.toNat))))), (4, (AObj.cells (xc (exAt s7 s8.1.toNat)))), (3, (AObj.cells (xc (exAt s7 s8.1.toNat)))), (1, (AObj.cells (xc (exAt l s1.2.2.toNat)))), (2, AObj.dead)]) false)) kq (ac h9 (ac h10 (ac (fq (p := ((5 : Nat) ≤ (List.length (List.drop (s8.1.toNat * 5) (s7.flatMap Ex.cells)))))) (ac (show (List.take 5 (List.drop (s8.1.toNat * 5) (s7.flatMap Ex.cells))) = (Ex.cells (exAt s7 s8.1.toNat)) from (ex_takeO bq bq)) (ac h11 (ac (tq (p := (((0 : Nat) = (0 : Nat)) ∧ ((List.length (xc (exAt s7 s8.1.toNat))) = (5 : Nat))))) (ac h12 an))))))) (Nat.le_of_ble_eq_true rfl) (Nat.le_of_ble_eq_true rfl) (absB_of [5] [] kq (.consn kq (.eqv tq rfl) (.consn kq (.rfn (n := (s8.2.2.length + (1 : Nat))) rfl tq) (.consn kq (.eqv tq rfl) (.consn kq (.eqv tq rfl) (.consn kq (.eqv tq rfl) (.consn kq (.eqv tq rfl) (.consn kq (.eqv tq rfl) (.consn kq (.eqv tq rfl) (.consn kq (.pt rfl) (.consn kq (.eqv tq rfl) (.consn kq (.eqv tq rfl) (.consn kq (.eqv tq rfl) (.consn kq (.eqv tq rfl) .nil))))))))))))) (.cons (.old rfl rfl (.cells (.pl rfl pq))) (.cons (.old rfl rfl (.cells (.pl tq pq))) .nil)))) fun h9 h9p => tn_ok
noncomputable abbrev pPack_L0_I (l : List Ex) : St := (St.mk [(0, (exs l)), (2, AV.nl), (3, (AV.i 0)), (4, (AV.i 0)), (12, (exs l)), (13, (AV.i (l.length : Int))), (14, (AV.b (decide ((l.length : Int) > (64 : Int))))), (15, (exs l)), (16, (AV.i (l.length : Int))), (17, (AV.i 0))] 70 (AH.mk 0 ([] : List (Prod Nat AObj))) false)
noncomputable abbrev pPack_L0_S (l : List Ex) (s1 : List Ex × Int × Int) : St := (St.mk [(0, (exs l)), (2, (AV.rf 0 5 0 s1.1.length)), (4, (AV.i s1.2.1)), (14, (AV.b (decide ((l.length : Int) > (64 : Int))))), (15, (exs l)), (16, (AV.i (l.length : Int))), (17, (AV.i s1.2.2))] 70 (AH.mk 1 [(0, (AObj.cells (s1.1.flatMap Ex.cells)))]) false)
noncomputable def pPack_L0_step (l : List Ex) (s1 : List Ex × Int × Int) : Option (List Ex × Int × Int) :=
 (tb ((decide (s1.2.2 < (l.length : Int)))) (tp ((((0 : Int) ≤ s1.2.2) ∧ (s1.2.2 < (l.length : Int)))) (tc (eCheck ((exAt l s1.2.2.toNat))) fun s4 => (tb ((!s4)) none (tb ((decide ((exAt l s1.2.2.toNat).lba < s1.2.1))) none (tc (pTold ((exAt l s1.2.2.toNat))) fun s7 => (th (pPack_L1_step l s1 s4 s7) (((0 : Int), (([] : List Ex), s1.1))) fun s8 => (tb ((decide (s8.1 < (s7.length : Int)))) none (some ((s8.2.2, ((wr ((exAt l s1.2.2.toNat).lba + (exAt l s1.2.2.toNat).len)), (wr (s1.2.2 + (1 : Int)))))))))))))) none)
theorem pPack_L0_ok (l : List Ex) (s1 zz : List Ex × Int × Int) : pPack_L0_step l s1 = some zz → EvStep Try.prog cf 0 (lp Try.prog 26 0) (pPack_L0_S l s1) (pPack_L0_S l zz) := by
  unfold pPack_L0_step
  exact tbD (fun h2 h2p => tp_ok fun h3 => tc_ok fun s4 h4 => tb_ok (fun h5 => tn_ok) fun h5 => tbD (fun h6 h6p => tn_ok) fun h6 h6p => tc_ok fun s7 h7 => th_ok fun s8 h8 => tbD (fun h9 h9p => tn_ok) fun h9 h9p => by intro e; injection e with e; subst e; exact leafS vw_eq (k := 300) (r := []) (hs := hz [(1, [.yes, .yes, .yes, .cells ((Ex.cells (exAt l s1.2.2.toNat)))]), (2, [.fc]), (1, [.fc]), (1, [.fres (.b (s4))]), (2, [.no]), (1, [.no]), (2, [.no]), (1, [.no]), (1, [.no, .no]), (9, [.fc]), (1, [.fres (exs (s7))]), (2, [.head (pPack_L1_S l s1 s4 s7 s8)]), (1, [.no]), (2, [])]) (ks := [0, 2, 4, 14, 15, 16, 17]) (st1 := (St.mk [(0, (exs l)), (2, (AV.rf 2 5 0 s8.2.2.length)), (4, (AV.i (wr ((exAt l s1.2.2.toNat).lba + (exAt l s1.2.2.toNat).len)))), (14, (AV.b (decide ((l.length : Int) > (64 : Int))))), (15, (exs l)), (16, (AV.i (l.length : Int))), (17, (AV.i (wr (s1.2.2 + (1 : Int)))))] 70 (AH.mk 3 [(1, (AObj.cells (xc (exAt l s1.2.2.toNat)))), (2, (AObj.cells (s8.2.2.flatMap Ex.cells)))]) false)) kq (ac h2 (ac h3 (ac (fq (p := ((5 : Nat) ≤ (List.length (List.drop (s1.2.2.toNat * 5) (l.flatMap Ex.cells)))))) (ac (show (List.take 5 (List.drop (s1.2.2.toNat * 5) (l.flatMap Ex.cells))) = (Ex.cells (exAt l s1.2.2.toNat)) from (ex_takeO bq bq)) (ac (eCheck_ok ((exAt l s1.2.2.toNat)) _ h4).any0 (ac h5 (ac h5 (ac h5 (ac h5 (ac h5 (ac h6 (ac (pTold_ok ((exAt l s1.2.2.toNat)) _ h7) (ac (show EvHead Try.prog cf (lp Try.prog 26 1) (pPack_L1_I l s1 s4 s7) (pPack_L1_S l s1 s4 s7 s8) from (EvHead.of (pPack_L1_ok l s1 s4 s7) (absB_of [0] [] kq (.consn kq (.eqv tq rfl) (.consn kq (.rfn (n := s1.1.length) rfl tq) (.consn kq (.eqv tq rfl) (.consn kq (.eqv tq rfl) (.consn kq (.eqv tq rfl) (.consn kq (.eqv tq rfl) (.consn kq (.eqv tq rfl) (.consn kq (.eqv tq rfl) (.consn kq (.pt rfl) (.consn kq (.eqv tq rfl) (.consn kq (.eqv tq rfl) (.consn kq (.eqv tq rfl) (.consn kq (.eqv tq rfl) .nil))))))))))))) (.cons (.old rfl rfl (.cells (.pl rfl pq))) (.cons (.old rfl rfl (.cells (.pl tq pq))) .nil))) h8)) (ac h9 an)))))))))))))) (Nat.le_of_ble_eq_true rfl) (Nat.le_of_ble_eq_true rfl) (absB_of [2] [] kq (.consn kq (.eqv tq rfl) (.consn kq (.rfn (n := s8.2.2.length) rfl tq) (.consn kq (.eqv tq rfl) (.consn kq (.eqv tq rfl) (.consn kq (.eqv tq rfl) (.consn kq (.eqv tq rfl) (.consn kq (.eqv tq rfl) .nil))))))) (.cons (.old rfl rfl (.cells (.pl tq pq))) .nil))) fun h2 h2p => tn_ok
noncomputable def pPack (l : List Ex) : Option (List Ex × Int) :=
 (tb ((decide ((l.length : Int) > (64 : Int)))) (some ((([] : List Ex), (70 : Int)))) (th (pPack_L0_step l) ((([] : List Ex), ((0 : Int), (0 : Int)))) fun s1 => (tb ((decide (s1.2.2 < (l.length : Int)))) (tp ((((0 : Int) ≤ s1.2.2) ∧ (s1.2.2 < (l.length : Int)))) (tc (eCheck ((exAt l s1.2.2.toNat))) fun s4 => (tb ((!s4)) (some ((([] : List Ex), (70 : Int)))) (tb ((decide ((exAt l s1.2.2.toNat).lba < s1.2.1))) (some ((([] : List Ex), (70 : Int)))) none)))) (tp ((((0 : Nat) = (0 : Nat)) ∧ ((List.length (s1.1.flatMap Ex.cells)) = (s1.1.length * 5)))) (some ((s1.1, (0 : Int))))))))
abbrev pPack_G (l : List Ex) (r : List Ex × Int) : Prop := EvFr Try.prog cf false 26 [exs (l)] (.tu [exs (r.1), .i (r.2)])
theorem pPack_ok (l : List Ex) (r : List Ex × Int) : pPack l = some r → pPack_G l r := by
  unfold pPack
  exact tbD (fun h0 h0p => by intro e; injection e with e; subst e; exact leafR vw_eq (k := 300) (r := []) (hs := hz [(6, [.yes]), (2, [])]) (raw := (AV.tu [(AV.sl 0 ([] : List AV)), (AV.i 70)])) kq (ac h0 an) tq) fun h0 h0p => th_ok fun s1 h1 => tbD (fun h2 h2p => tp_ok fun h3 => tc_ok fun s4 h4 => tb_ok (fun h5 => by intro e; injection e with e; subst e; exact leafR vw_eq (k := 300) (r := []) (hs := hz [(6, [.no]), (3, [.head (pPack_L0_S l s1)]), (1, [.yes, .yes, .yes, .cells ((Ex.cells (exAt l s1.2.2.toNat)))]), (2, [.fc]), (1, [.fc]), (1, [.fres (.b (s4))]), (2, [.yes, .yes, .yes, .yes, .yes]), (3, [])]) (raw := (AV.tu [(AV.sl 0 ([] : List AV)), (AV.i 70)])) kq (ac h0 (ac (show EvHead Try.prog cf (lp Try.prog 26 0) (pPack_L0_I l) (pPack_L0_S l s1) from (EvHead.of (pPack_L0_ok l) (absB_of [0] [] kq (.consn kq (.eqv tq rfl) (.consn kq (.nln tq) (.consn kq (.eqv tq rfl) (.consn kq (.eqv tq rfl) (.consn kq (.eqv tq rfl) (.consn kq (.eqv tq rfl) (.consn kq (.eqv tq rfl) .nil))))))) (.cons (.none rfl (Nat.le_refl _) rfl) .nil)) h1)) (ac h2 (ac h3 (ac (fq (p := ((5 : Nat) ≤ (List.length (List.drop (s1.2.2.toNat * 5) (l.flatMap Ex.cells)))))) (ac (show (List.take 5 (List.drop (s1.2.2.toNat * 5) (l.flatMap Ex.cells))) = (Ex.cells (exAt l s1.2.2.toNat)) from (ex_takeO bq bq)) (ac (eCheck_ok ((exAt l s1.2.2.toNat)) _ h4).any0 (ac h5 (ac h5 (ac h5 (ac h5 (ac h5 an)))))))))))) tq) fun h5 => tbD (fun h6 h6p => by intro e; injection e with e; subst e; exact leafR vw_eq (k := 300) (r := []) (hs := hz [(6, [.no]), (3, [.head (pPack_L0_S l s1)]), (1, [.yes, .yes, .yes, .cells ((Ex.cells (exAt l s1.2.2.toNat)))]), (2, [.fc]), (1, [.fc]), (1, [.fres (.b (s4))]), (2, [.no]), (1, [.no]), (2, [.no]), (1, [.no]), (1, [.no, .yes]), (2, [])]) (raw := (AV.tu [(AV.sl 0 ([] : List AV)), (AV.i 70)])) kq (ac h0 (ac (show EvHead Try.prog cf (lp Try.prog 26 0) (pPack_L0_I l) (pPack_L0_S l s1) from (EvHead.of (pPack_L0_ok l) (absB_of [0] [] kq (.consn kq (.eqv tq rfl) (.consn kq (.nln tq) (.consn kq (.eqv tq rfl) (.consn kq (.eqv tq rfl) (.consn kq (.eqv tq rfl) (.consn kq (.eqv tq rfl) (.consn kq (.eqv tq rfl) .nil))))))) (.cons (.none rfl (Nat.le_refl _) rfl) .nil)) h1)) (ac h2 (ac h3 (ac (fq (p := ((5 : Nat) ≤ (List.length (List.drop (s1.2.2.toNat * 5) (l.flatMap Ex.cells)))))) (ac (show (List.take 5 (List.drop (s1.2.2.toNat * 5) (l.flatMap Ex.cells))) = (Ex.cells (exAt l s1.2.2.toNat)) from (ex_takeO bq bq)) (ac (eCheck_ok ((exAt l s1.2.2.toNat)) _ h4).any0 (ac h5 (ac h5 (ac h5 (ac h5 (ac h5 (ac h6 an))))))))))))) tq) fun h6 h6p => tn_ok) fun h2 h2p => tp_ok fun h3 => by intro e; injection e with e; subst e; exact leafR vw_eq (k := 300) (r := []) (hs := hz [(6, [.no]), (3, [.head (pPack_L0_S l s1)]), (1, [.no]), (3, [.yes, .yes])]) (raw := (AV.tu [(exs s1.1), (AV.i 0)])) kq (ac h0 (ac (show EvHead Try.prog cf (lp Try.prog 26 0) (pPack_L0_I l) (pPack_L0_S l s1) from (EvHead.of (pPack_L0_ok l) (absB_of [0] [] kq (.consn kq (.eqv tq rfl) (.consn kq (.nln tq) (.consn kq (.eqv tq rfl) (.consn kq (.eqv tq rfl) (.consn kq (.eqv tq rfl) (.consn kq (.eqv tq rfl) (.consn kq (.eqv tq rfl) .nil))))))) (.cons (.none rfl (Nat.le_refl _) rfl) .nil)) h1)) (ac h2 (ac h3 (ac (pq (p := Pl false ((s1.1.flatMap Ex.cells)))) an))))) tq
end Ab
end Go.Proofs.Ytpflcogplhigcaa
namespace Go.Proofs.Ytpflcogplhigcaa
open Go Go.Proofs.Ytpflcogplhigcaa.Ab
set_option linter.unusedVariables false
set_option linter.unusedSimpArgs false
namespace Ab
theorem zb_eq (b : List UInt8) : (List.take 32 (List.take 32 b) == List.replicate (32 : Nat) (UInt8.ofNat 0)) = zb (b.take 32) := by
  unfold zb; rw [List.take_take]; rfl
theorem rest_eq {α : Type} (l : List α) (k : Nat) : List.take ((l.length - k) * 1) (l.drop k) = l.drop k := by
  rw [Nat.mul_one]; exact List.take_of_length_le (by simp)
theorem tmod32 (n : Nat) : (Int.tmod (n : Int) 32 = 0) ↔ n % 32 = 0 := by
  rw [Int.tmod_eq_emod_of_nonneg (by omega)]; omega
def yl (c : Bool) (n : Int) (out : List Int) : List Int := (if out = [] ∧ c = true then [0] else out) ++ [n]
end Ab
end Go.Proofs.Ytpflcogplhigcaa
namespace Go.Proofs.Ytpflcogplhigcaa
open Go Go.Proofs.Ytpflcogplhigcaa.Ab
set_option linter.unusedVariables false
set_option linter.unusedSimpArgs false
namespace Ab
def isz (b : List UInt8) : Bool := b.all (· == 0)
theorem isz_iff (b : List UInt8) : (∀ i, i < b.length → b.getD i 0 = 0) ↔ isz b = true := by
  rw [getD_all 0 b (fun x => x = 0)]; unfold isz; simp
theorem u0 (x : UInt8) : ((x.toNat : Int) = 0) ↔ x = 0 := by
  constructor
  · intro h; exact UInt8.toNat_inj.1 (by simpa using h)
  · rintro rfl; rfl
theorem pIs_eq (b : List UInt8) (h : b.length ≤ 4294967296) : pIs b = some (isz b) := by
  unfold pIs
  rw [th_all (some false) (some true) b.length (fun i => b.getD i 0 = 0) (isz b = true) (isz_iff b)]
  · cases isz b <;> rfl
  · intro i hi hp
    unfold pIs_L0_step
    simp only [tb_dec, tb_bne, Int.toNat_natCast, Nat.mul_one]
    have := (u0 _).2 hp
    rw [if_pos (by omega), tp_pos (by omega), if_pos this, wr_id (by omega) (by omega)]
  · intro i hi hp
    unfold pIs_L0_step
    simp only [tb_dec, tb_bne, Int.toNat_natCast, Nat.mul_one]
    have hn : ¬ (((b.getD i 0).toNat : Int) = 0) := fun h => hp ((u0 _).1 h)
    rw [if_pos (by omega), tp_pos (by omega), if_neg hn, if_pos (by omega), tp_pos (by omega), if_neg hn]
    exact ⟨rfl, rfl⟩
  · unfold pIs_L0_step
    simp only [tb_dec]
    rw [if_neg (by omega), if_neg (by omega)]
    exact ⟨rfl, rfl⟩
theorem isz_zb {b : List UInt8} (h : b.length = 32) : isz b = zb b := by
  unfold isz zb
  rw [Bool.eq_iff_iff, List.all_eq_true, beq_iff_eq, List.eq_replicate_iff]
  simp [h]
end Ab
end Go.Proofs.Ytpflcogplhigcaa
namespace Go.Proofs.Ytpflcogplhigcaa
open Go Go.Proofs.Ytpflcogplhigcaa.Ab
set_option linter.unusedVariables false
set_option linter.unusedSimpArgs false
namespace Ab
def mkx (lba : Int) (b : List UInt8) (c : Bool) (n : Int) : Ex := if c = true then ⟨lba, n, 1, 0, []⟩ else ⟨lba, n, 2, 0, b.take (32 * n).toNat⟩
def ly : Int → List UInt8 → Bool → Int → List Bool → List Ex
  | lba, b, c, n, [] => if n = 0 then [] else [mkx lba b c n]
  | lba, b, c, n, z :: zs => if z = c then ly lba b c (n + 1) zs else if n = 0 then ly lba b z 1 zs else mkx lba b c n :: ly (lba + n) (b.drop (32 * n).toNat) z 1 zs
def Lo (lba : Int) (b : List UInt8) : Prop := b.length % 32 = 0 ∧ 0 ≤ lba ∧ lba ≤ 64 ∧ (b.length : Int) / 32 ≤ 64 - lba
instance (lba : Int) (b : List UInt8) : Decidable (Lo lba b) := by unfold Lo; infer_instance
def lay (lba : Int) (b : List UInt8) : List Ex × Int := if Lo lba b then (ly lba b false 0 (flags b), 0) else ([], 150)
theorem tdiv32 (n : Nat) : Int.tdiv (n : Int) 32 = (n : Int) / 32 := Int.tdiv_eq_ediv_of_nonneg (by omega)
theorem pLay_B1_eq (lba0 : Int) (b0 : List UInt8) (c : Bool) (n : Int) (b' : List UInt8) (out : List Ex) (bc : List UInt8) (lba : Int) (h1 : 0 ≤ n) (h2 : n ≤ 64) (h3 : 32 * n ≤ bc.length) (h4 : 0 ≤ lba) (h5 : lba ≤ 64) (h6 : out.length ≤ 64) :
    pLay_B1 lba0 b0 (c, n, b', out, bc, lba) = some (out ++ [mkx lba bc c n], bc.drop (32 * n).toNat, lba + n) := by
  unfold pLay_B1
  simp only [tb_not]
  have w1 : wr (n * 32) = 32 * n := by rw [wr_id (by omega) (by omega)]; omega
  have w2 : wr (lba + n) = lba + n := wr_id (by omega) (by omega)
  rw [w1, w2]
  have hr : List.take ((bc.length - (32 * n).toNat) * 1) (bc.drop ((32 * n).toNat * 1)) = bc.drop (32 * n).toNat := by rw [Nat.mul_one, Nat.mul_one]; exact List.take_of_length_le (by simp)
  rw [hr]
  cases c with
  | true =>
    rw [tb_t, tp_pos ⟨exs_len _, by omega⟩, tp_pos (by omega), tp_pos (by rw [List.length_map]; omega)]
    rfl
  | false =>
    rw [tb_f, tp_pos (by omega), tp_pos (by rw [List.length_map]; omega), tp_pos (by omega), tp_pos ⟨exs_len _, by omega⟩]
    simp [mkx, List.take_take]
theorem pLay_B3_eq (lba0 : Int) (b0 : List UInt8) (c : Bool) (n : Int) (b' : List UInt8) (out : List Ex) (bc : List UInt8) (lba : Int) (h1 : 0 ≤ n) (h2 : n ≤ 64) (h3 : 32 * n ≤ bc.length) (h4 : 0 ≤ lba) (h5 : lba ≤ 64) (h6 : out.length ≤ 64) :
    pLay_B3 lba0 b0 (c, n, b', out, bc, lba) = some (out ++ [mkx lba bc c n], bc.drop (32 * n).toNat, lba + n) := pLay_B1_eq lba0 b0 c n b' out bc lba h1 h2 h3 h4 h5 h6
theorem pLay_eq (lba : Int) (b : List UInt8) (hb : b.length ≤ 4294967000) : pLay lba b = some (lay lba b) := by
  unfold pLay lay
  simp only [tb_bne, tb_dec, tdiv32]
  by_cases hm : b.length % 32 = 0
  case neg => rw [if_neg (fun h => hm ((tmod32 _).1 h)), if_neg fun h => hm h.1]
  rw [if_pos ((tmod32 _).2 hm)]
  by_cases h1 : lba < 0
  case pos => rw [if_pos h1, if_neg fun h => by have := h.2.1; omega]
  by_cases h2 : lba > 64
  case pos => rw [if_neg h1, if_pos h2, if_neg fun h => by have := h.2.2.1; omega]
  rw [if_neg h1, if_neg h2, wr_id (x := 64 - lba) (by omega) (by omega), wr_id (x := (b.length : Int) / 32) (by omega) (by omega)]
  by_cases h3 : (b.length : Int) / 32 > 64 - lba
  case pos => rw [if_pos h3, if_neg fun h => by have := h.2.2.2; omega]
  rw [if_neg h3, if_pos ⟨hm, by omega, by omega, by omega⟩]
  rw [th_rec (fun s : Bool × Int × List UInt8 × List Ex × List UInt8 × Int => some (s.2.2.2.1 ++ ly s.2.2.2.2.2 s.2.2.2.2.1 s.1 s.2.1 (flags s.2.2.1), (0 : Int)))
    (fun s => 0 ≤ s.2.1 ∧ (s.2.2.2.2.1.length : Int) = 32 * s.2.1 + s.2.2.1.length ∧ 0 ≤ s.2.2.2.2.2 ∧ s.2.2.2.2.2 + s.2.1 + (s.2.2.1.length : Int) / 32 ≤ 64 ∧ (s.2.2.2.1.length : Int) ≤ s.2.2.2.2.2) (fun s => s.2.2.1.length)]
  · simp
  · exact ⟨by simp, by simp, by simp only; omega, by simp only; omega, by simp only [List.length_nil]; omega⟩
  rintro ⟨c, n, b', out, bc, lb⟩ ⟨i1, i2, i3, i4, i5⟩
  simp only at i1 i2 i3 i4 i5 ⊢
  unfold pLay_L0_step
  rw [pLay_B1_eq _ _ _ _ _ _ _ _ i1 (by omega) (by omega) i3 (by omega) (by omega), pLay_B3_eq _ _ _ _ _ _ _ _ i1 (by omega) (by omega) i3 (by omega) (by omega)]
  simp only [tb_dec, zb_eq, rest_eq, tc_some]
  have hw : wr (n + 1) = n + 1 := wr_id (by omega) (by omega)
  rw [hw]
  by_cases hl : (b'.length : Int) ≥ 32
  · left
    have hzb : (pad 32 b' == List.replicate 32 (UInt8.ofNat 0)) = zb (b'.take 32) := by
      unfold zb pad; rw [List.take_append_of_le_length (by omega)]; rfl
    rw [if_pos hl]
    simp only [hzb]
    have hf := flags_cons (b := b') (by omega)
    have hdl : (b'.drop 32).length = b'.length - 32 := List.length_drop
    rw [hf]
    by_cases hz : zb (b'.take 32) = c
    · have e1 : (!(zb (b'.take 32) == c)) = false := by rw [hz]; simp
      rw [e1, tb_f]
      refine ⟨_, rfl, ⟨by simp only; omega, by simp only [hdl]; omega, i3, by simp only [hdl]; omega, i5⟩, by simp only [hdl]; omega, ?_⟩
      simp only [ly]
      rw [if_pos hz, hz]
    · have e1 : (!(zb (b'.take 32) == c)) = true := by simp [hz]
      rw [e1, tb_t]
      by_cases hn : n > 0
      · rw [if_pos hn]
        refine ⟨_, rfl, ⟨by simp, by simp only [hdl, List.length_drop]; omega, by simp only; omega, by simp only [hdl]; omega, by simp only [List.length_append, List.length_singleton]; omega⟩, by simp only [hdl]; omega, ?_⟩
        simp only [ly]
        rw [if_neg hz, if_neg (show ¬ n = 0 by omega)]
        simp
      · rw [if_neg hn]
        have hn0 : n = 0 := by omega
        subst hn0
        refine ⟨_, rfl, ⟨by simp, by simp only [hdl]; omega, i3, by simp only [hdl]; omega, i5⟩, by simp only [hdl]; omega, ?_⟩
        simp only [ly]
        rw [if_neg hz, if_pos trivial]
        rfl
  · right
    rw [if_neg hl, if_neg hl, flags_nil (b := b') (by omega)]
    refine ⟨rfl, ?_⟩
    simp only [ly]
    by_cases hn : n > 0
    · rw [if_pos hn, tp_pos (by first | exact ⟨rfl, exs_len _⟩ | exact ⟨trivial, exs_len _⟩), if_neg (show ¬ n = 0 by omega)]
    · rw [if_neg hn, tp_pos (by first | exact ⟨rfl, exs_len _⟩ | exact ⟨trivial, exs_len _⟩), if_pos (show n = 0 by omega), List.append_nil]
end Ab
end Go.Proofs.Ytpflcogplhigcaa
namespace Go.Proofs.Ytpflcogplhigcaa
open Go Go.Proofs.Ytpflcogplhigcaa.Ab
set_option linter.unusedVariables false
set_option linter.unusedSimpArgs false
namespace Ab
def jnx (a b : Ex) : Ex := ⟨a.lba, a.len + b.len, a.kind, a.gen, a.d ++ b.d⟩
def jnv (a b : Ex) : Ex × Int := if Jn a b then (jnx a b, 0) else (⟨0, 0, 0, 0, []⟩, 70)
theorem ck_dlen {x : Ex} (h : Ck x) : x.d.length ≤ 2048 := by
  unfold Ck at h
  by_cases hk : x.kind = 2
  · have := h.2.2.2.2.2.2.2.2.1 hk; omega
  · have := h.2.2.2.2.2.2.2.2.2 hk; rw [this]; simp
theorem eJoin_eq (a b : Ex) : eJoin a b = some (jnv a b) := by
  unfold eJoin jnv
  rw [eJoins_eq, tc_some, tb_not]
  by_cases h : Jn a b
  case neg => rw [jn_f h, tb_f, if_neg h]
  have ha := ck_dlen h.1
  have hb := ck_dlen h.2.1
  have ca := h.1
  have cb := h.2.1
  unfold Ck at ca cb
  rw [jn_t h, tb_t, if_pos h, wr_id (by omega) (by omega), tp_pos (by omega), tp_pos (by rw [List.length_map]; omega)]
  rfl
def add (out : List Ex) (y : Ex) : List Ex := if out ≠ [] ∧ Jn (out.getLastD ⟨0, 0, 0, 0, []⟩) y then out.dropLast ++ [jnx (out.getLastD ⟨0, 0, 0, 0, []⟩) y] else out ++ [y]
theorem add_nil (y : Ex) : add [] y = [y] := by unfold add; simp
theorem add_jn {out : List Ex} {y : Ex} (h0 : out ≠ []) (h : Jn (out.getLastD ⟨0, 0, 0, 0, []⟩) y) : add out y = out.dropLast ++ [jnx (out.getLastD ⟨0, 0, 0, 0, []⟩) y] := by unfold add; rw [if_pos ⟨h0, h⟩]
theorem add_no {out : List Ex} {y : Ex} (h : ¬ Jn (out.getLastD ⟨0, 0, 0, 0, []⟩) y) : add out y = out ++ [y] := by unfold add; rw [if_neg fun g => h g.2]
theorem add_len (out : List Ex) (y : Ex) : (add out y).length ≤ out.length + 1 := by
  unfold add
  split
  · first | (simp; done) | (simp; omega)
  · simp
theorem adds_len : ∀ (ys out : List Ex), (ys.foldl add out).length ≤ out.length + ys.length
  | [], out => by simp
  | y :: ys, out => by
    have := adds_len ys (add out y)
    have := add_len out y
    simp only [List.foldl_cons, List.length_cons]; omega
theorem last_at (out : List Ex) (h : out ≠ []) (k : Nat) (hk : k = out.length - 1) : exAt out k = out.getLastD ⟨0, 0, 0, 0, []⟩ := by
  subst hk
  have : 0 < out.length := List.length_pos_iff.2 h
  unfold exAt
  rw [List.getD_eq_getElem?_getD, List.getLastD_eq_getLast?, List.getLast?_eq_getElem?]
theorem set_last_ex (out : List Ex) (h : out ≠ []) (k : Nat) (hk : k = out.length - 1) (v : Ex) : out.set k v = out.dropLast ++ [v] := by
  subst hk
  have e : out = out.dropLast ++ [out.getLast h] := (List.dropLast_concat_getLast h).symm
  have hl : out.length - 1 = out.dropLast.length := by simp
  rw [hl]
  conv => lhs; rw [e]
  rw [List.set_append_right _ _ (by simp)]
  simp
end Ab
end Go.Proofs.Ytpflcogplhigcaa
namespace Go.Proofs.Ytpflcogplhigcaa
open Go Go.Proofs.Ytpflcogplhigcaa.Ab
set_option linter.unusedVariables false
set_option linter.unusedSimpArgs false
namespace Ab
theorem ly_len : ∀ (zs : List Bool) (lba : Int) (b : List UInt8) (c : Bool) (n : Int), (ly lba b c n zs).length ≤ zs.length + 1
  | [], lba, b, c, n => by simp only [ly]; split <;> simp
  | z :: zs, lba, b, c, n => by
    simp only [ly]
    have h1 := ly_len zs lba b c (n + 1)
    have h2 := ly_len zs lba b z 1
    have h3 := ly_len zs (lba + n) (b.drop (32 * n).toNat) z 1
    split
    · simp only [List.length_cons]; omega
    · split
      · simp only [List.length_cons]; omega
      · simp only [List.length_cons]; omega
def sg (g : Int) (x : Ex) : Ex := ⟨x.lba, x.len, x.kind, g, x.d⟩
def told (x : Ex) : List Ex := if x.kind = 2 then (ly x.lba x.d false 0 (flags x.d)).map (sg x.gen) else [⟨x.lba, x.len, x.kind, x.gen, []⟩]
theorem ck_lo {x : Ex} (h : Ck x) (hk : x.kind = 2) : Lo x.lba x.d := by
  unfold Ck at h
  have := h.2.2.2.2.2.2.2.2.1 hk
  exact ⟨by omega, h.1, h.2.1, by omega⟩
theorem told_len {x : Ex} (h : Ck x) : (told x).length ≤ 65 := by
  unfold told
  split
  · have h1 := ly_len (flags x.d) x.lba x.d false 0
    have h2 : (flags x.d).length = x.d.length / 32 := fl_length _ _
    have h3 := ck_dlen h
    rw [List.length_map]; omega
  · simp
theorem map_set (f : Ex → Ex) (l : List Ex) (i : Nat) (hi : i < l.length) : ((l.take i).map f ++ l.drop i).set i (f (exAt l i)) = (l.take (i + 1)).map f ++ l.drop (i + 1) := by
  have h1 : l.drop i = exAt l i :: l.drop (i + 1) := by unfold exAt; exact drop_at _ l i hi
  have h2 : l.take (i + 1) = l.take i ++ [exAt l i] := by unfold exAt; exact take_at _ l i hi
  have hl : ((l.take i).map f).length = i := by simp; omega
  rw [List.set_append_right _ _ (by omega), hl, Nat.sub_self, h1, h2]
  simp
theorem map_at (f : Ex → Ex) (l : List Ex) (i : Nat) (hi : i < l.length) : exAt ((l.take i).map f ++ l.drop i) i = exAt l i := by
  have hl : ((l.take i).map f).length = i := by simp; omega
  unfold exAt
  rw [List.getD_eq_getElem?_getD, List.getElem?_append_right (by omega), hl, Nat.sub_self, drop_at ⟨0, 0, 0, 0, []⟩ l i hi]
  rfl
theorem pTold_eq (x : Ex) (h : Ck x) : pTold x = some (told x) := by
  unfold pTold told
  rw [tb_bne]
  by_cases hk : x.kind = 2
  case neg => rw [if_neg hk, if_neg hk]
  rw [if_pos hk, if_pos hk, pLay_eq _ _ (by have := ck_dlen h; omega), tc_some]
  have hlay : lay x.lba x.d = (ly x.lba x.d false 0 (flags x.d), 0) := if_pos (ck_lo h hk)
  rw [hlay]
  have h1 := ly_len (flags x.d) x.lba x.d false 0
  have h2 : (flags x.d).length = x.d.length / 32 := fl_length _ _
  have h3 := ck_dlen h
  generalize ly x.lba x.d false 0 (flags x.d) = l at h1 ⊢
  have hS := fun f => th_run (α := List Ex) (f := f) (step := pTold_L0_step x (l, 0)) (fun i => ((i : Int), (l.take i).map (sg x.gen) ++ l.drop i)) l.length (fun i hi => ?_) ?_
  · simp only [List.take_zero, List.map_nil, List.nil_append, List.drop_zero, Int.natCast_zero] at hS
    rw [hS]
    simp only [tb_dec]
    rw [if_neg (by omega), tp_pos (by first | exact ⟨rfl, by rw [exs_len]; simp⟩ | exact ⟨trivial, by rw [exs_len]; simp⟩)]
    simp
  · unfold pTold_L0_step
    simp only [tb_dec, Int.toNat_natCast]
    have hlen : ((l.take i).map (sg x.gen) ++ l.drop i).length = l.length := by simp; omega
    rw [if_pos (by omega), tp_pos (by omega), tp_pos ⟨rfl, by rw [exs_len, hlen]; simp; omega⟩, wr_id (by omega) (by omega), map_at _ _ _ hi]
    have e := map_set (sg x.gen) l i hi
    unfold sg at e ⊢
    rw [e]
    simp
  · unfold pTold_L0_step
    simp only [tb_dec]
    rw [if_neg (by omega)]
end Ab
end Go.Proofs.Ytpflcogplhigcaa
namespace Go.Proofs.Ytpflcogplhigcaa
open Go Go.Proofs.Ytpflcogplhigcaa.Ab
set_option linter.unusedVariables false
set_option linter.unusedSimpArgs false
namespace Ab
theorem th_firstZ {σ α : Type} {step : σ → Option σ} {f : σ → Option α} (r1 r2 : Option α) (S : Nat → σ) (n : Nat) (P : Nat → Prop) (Q : Prop) [Decidable Q] (hQ : (∀ i, i < n → P i) ↔ Q)
    (hs : ∀ i : Nat, i < n → (∀ j, j < i → P j) → P i → step (S i) = some (S (i + 1))) (hf : ∀ i : Nat, i < n → (∀ j, j < i → P j) → ¬ P i → step (S i) = none ∧ f (S i) = r1) (he : (∀ j, j < n → P j) → step (S n) = none ∧ f (S n) = r2) :
    th step (S 0) f = if Q then r2 else r1 := by
  by_cases h : ∀ i, i < n → P i
  · rw [if_pos (hQ.1 h), th_run (step := step) (f := f) S n (fun i hi => hs i hi (fun j hj => h j (by omega)) (h i hi)) (he h).1]
    exact (he h).2
  · rw [if_neg (fun g => h (hQ.2 g))]
    have hex : ∃ i, i < n ∧ ¬ P i := Classical.byContradiction fun hn => h fun i hi => Classical.byContradiction fun hp => hn ⟨i, hi, hp⟩
    have key : ∀ k, (∃ i, i < k ∧ i < n ∧ ¬ P i) → ∃ i, i < n ∧ ¬ P i ∧ ∀ j, j < i → P j := by
      intro k
      induction k with
      | zero => rintro ⟨i, hi, _⟩; omega
      | succ k ih =>
        rintro ⟨i, h1, h2, h3⟩
        by_cases hk : ∃ i, i < k ∧ i < n ∧ ¬ P i
        · exact ih hk
        · have hik : i = k := by
            rcases Nat.lt_or_ge i k with g | g
            · exact absurd ⟨i, g, h2, h3⟩ hk
            · omega
          refine ⟨i, h2, h3, fun j hj => ?_⟩
          exact Classical.byContradiction fun hp => hk ⟨j, by omega, by omega, hp⟩
    obtain ⟨i, h1, h2⟩ := hex
    obtain ⟨k, k1, k2, k3⟩ := key (i + 1) ⟨i, by omega, h1, h2⟩
    rw [th_run (step := step) (f := f) S k (fun i hi => hs i (by omega) (fun j hj => k3 j (by omega)) (k3 i hi)) (hf k k1 k3 k2).1]
    exact (hf k k1 k3 k2).2
def atp (l : List Ex) (i : Nat) : Int := if i = 0 then 0 else (exAt l (i - 1)).lba + (exAt l (i - 1)).len
theorem atp_succ (l : List Ex) (i : Nat) : atp l (i + 1) = (exAt l i).lba + (exAt l i).len := by unfold atp; rw [if_neg (by omega)]; rfl
def LP (l : List Ex) (i : Nat) : Prop := Ck (exAt l i) ∧ atp l i ≤ (exAt l i).lba
instance (l : List Ex) (i : Nat) : Decidable (LP l i) := by unfold LP; infer_instance
def Ls (l : List Ex) : Prop := l.length ≤ 64 ∧ ∀ i, i < l.length → LP l i
instance (l : List Ex) : Decidable (Ls l) := by unfold Ls; infer_instance
theorem fold_take (l : List Ex) (out : List Ex) (i : Nat) (hi : i < l.length) : (l.take (i + 1)).foldl add out = add ((l.take i).foldl add out) (exAt l i) := by
  have h2 : l.take (i + 1) = l.take i ++ [exAt l i] := by unfold exAt; exact take_at _ l i hi
  rw [h2, List.foldl_append]; rfl
theorem pPack_L1_step_eq (l : List Ex) (s1 : List Ex × Int × Int) (s4 : Bool) (s7 : List Ex) (out : List Ex) (i : Nat) (hi : i < s7.length) (h7 : s7.length ≤ 4294967296) (ho : out.length + 1 ≤ 4294967296) :
    pPack_L1_step l s1 s4 s7 ((i : Int), [], out) = some ((i : Int) + 1, [], add out (exAt s7 i)) := by
  unfold pPack_L1_step
  simp only [tb_dec, tb_beq, Int.toNat_natCast]
  rw [if_pos (by omega), tp_pos (by omega), wr_id (x := (i : Int) + 1) (by omega) (by omega)]
  by_cases h0 : out = []
  · subst h0
    rw [if_neg (by simp), tp_pos ⟨by simp, by simp⟩, add_nil]; rfl
  · have hl : 0 < out.length := List.length_pos_iff.2 h0
    have hw : wr ((out.length : Int) - 1) = ((out.length - 1 : Nat) : Int) := by rw [wr_id (by omega) (by omega)]; omega
    rw [if_pos (by omega), hw, tp_pos (by omega), Int.toNat_natCast, last_at out h0 _ rfl, eJoin_eq, tc_some]
    by_cases hj : Jn (out.getLastD ⟨0, 0, 0, 0, []⟩) (exAt s7 i)
    · have e : jnv (out.getLastD ⟨0, 0, 0, 0, []⟩) (exAt s7 i) = (jnx (out.getLastD ⟨0, 0, 0, 0, []⟩) (exAt s7 i), 0) := if_pos hj
      rw [e, if_pos rfl, tp_pos ⟨rfl, by rw [exs_len]; simp; omega⟩, add_jn h0 hj, set_last_ex out h0 _ rfl]
    · have e : jnv (out.getLastD ⟨0, 0, 0, 0, []⟩) (exAt s7 i) = (⟨0, 0, 0, 0, []⟩, 70) := if_neg hj
      rw [e, if_neg (by simp), tp_pos ⟨exs_len _, ho⟩, add_no hj]
theorem pPack_L1_eq {α : Type} (l : List Ex) (s1 : List Ex × Int × Int) (s4 : Bool) (s7 : List Ex) (out : List Ex) (f : Int × List Ex × List Ex → Option α) (h7 : s7.length ≤ 1000000) (ho : out.length ≤ 1000000) :
    th (pPack_L1_step l s1 s4 s7) (0, [], out) f = f ((s7.length : Int), [], s7.foldl add out) := by
  have := th_run (f := f) (step := pPack_L1_step l s1 s4 s7) (fun i => ((i : Int), ([] : List Ex), (s7.take i).foldl add out)) s7.length (fun i hi => ?_) ?_
  · simpa using this
  · have hb := adds_len (s7.take i) out
    rw [List.length_take] at hb
    rw [pPack_L1_step_eq _ _ _ _ _ _ hi (by omega) (by omega), fold_take _ _ _ hi]
    simp
  · unfold pPack_L1_step
    simp only [tb_dec]
    rw [if_neg (by omega)]
theorem tolds_len : ∀ (l : List Ex), (∀ x ∈ l, Ck x) → (l.flatMap told).length ≤ 65 * l.length
  | [], _ => by simp
  | x :: l, h => by
    have h1 := told_len (h x (by simp))
    have h2 := tolds_len l fun y hy => h y (by simp [hy])
    rw [List.flatMap_cons, List.length_append, List.length_cons]; omega
theorem lp_ck {l : List Ex} {i : Nat} (hi : i ≤ l.length) (h : ∀ j, j < i → LP l j) : ∀ x ∈ l.take i, Ck x := by
  intro x hx
  obtain ⟨j, hj, e⟩ := List.getElem_of_mem hx
  rw [List.length_take] at hj
  have := (h j (by omega)).1
  rw [List.getElem_take] at e
  rw [← e]
  have e2 : exAt l j = l[j]'(by omega) := by unfold exAt; simp [show j < l.length by omega]
  rw [← e2]; exact this
def pk (l : List Ex) : List Ex × Int := if Ls l then ((l.flatMap told).foldl add [], 0) else ([], 70)
theorem flat_take (l : List Ex) (i : Nat) (hi : i < l.length) : (l.take (i + 1)).flatMap told = (l.take i).flatMap told ++ told (exAt l i) := by
  have h2 : l.take (i + 1) = l.take i ++ [exAt l i] := by unfold exAt; exact take_at _ l i hi
  rw [h2, List.flatMap_append]; simp
theorem pPack_eq (l : List Ex) : pPack l = some (pk l) := by
  unfold pPack pk
  rw [tb_dec]
  by_cases hl : (l.length : Int) > 64
  · rw [if_pos hl, if_neg fun h => by have := h.1; omega]
  rw [if_neg hl]
  have := th_firstZ (α := List Ex × Int) (step := pPack_L0_step l) (some ([], 70)) (some ((l.flatMap told).foldl add [], 0)) (fun i => (((l.take i).flatMap told).foldl add [], atp l i, (i : Int))) l.length (LP l) (∀ i, i < l.length → LP l i) Iff.rfl (fun i hi hpre hp => ?_) (f := fun s1 => tb (decide (s1.2.2 < (l.length : Int))) (tp ((0 : Int) ≤ s1.2.2 ∧ s1.2.2 < (l.length : Int)) (tc (eCheck (exAt l s1.2.2.toNat)) fun s4 => tb (!s4) (some ([], 70)) (tb (decide ((exAt l s1.2.2.toNat).lba < s1.2.1)) (some ([], 70)) none))) (tp ((0 : Nat) = (0 : Nat) ∧ (List.flatMap Ex.cells s1.1).length = s1.1.length * (5 : Nat)) (some (s1.1, 0)))) (fun i hi hpre hp => ?_) (fun hall => ?_)
  · refine this.trans ?_
    by_cases h : ∀ i, i < l.length → LP l i
    · rw [if_pos h, if_pos ⟨by omega, h⟩]
    · rw [if_neg h, if_neg fun g => h g.2]
  · have hc := hp.1
    have hb := hp.2
    have hbd := tolds_len _ (lp_ck (by omega) hpre)
    have hbd2 := adds_len ((l.take i).flatMap told) []
    have hbd3 := told_len hc
    rw [List.length_take] at hbd
    simp only [List.length_nil, Nat.zero_add] at hbd2
    unfold pPack_L0_step
    simp only [tb_dec, tb_not, eCheck_eq, tc_some, Int.toNat_natCast]
    unfold Ck at hc
    rw [if_pos (by omega), tp_pos (by omega), ck_t hp.1, tb_t, if_neg (by omega), pTold_eq _ hp.1, tc_some, pPack_L1_eq _ _ _ _ _ _ (by omega) (by omega)]
    simp only
    rw [if_neg (by omega), wr_id (by omega) (by omega), wr_id (by omega) (by omega), atp_succ, flat_take _ _ hi, List.foldl_append]
    simp
  · unfold pPack_L0_step
    simp only [tb_dec, tb_not, eCheck_eq, tc_some, Int.toNat_natCast]
    by_cases hc : Ck (exAt l i)
    case neg => refine ⟨?_, ?_⟩ <;> (rw [if_pos (by omega), tp_pos (by omega), ck_f hc]; rfl)
    have hlt : (exAt l i).lba < atp l i := by
      rcases Int.lt_or_le (exAt l i).lba (atp l i) with g | g
      · exact g
      · exact absurd ⟨hc, g⟩ hp
    refine ⟨?_, ?_⟩ <;> (rw [if_pos (by omega), tp_pos (by omega), ck_t hc, tb_t, if_pos hlt])
  · unfold pPack_L0_step
    simp only [tb_dec]
    rw [if_neg (by omega), if_neg (by omega), List.take_length, tp_pos (by first | exact ⟨rfl, exs_len _⟩ | exact ⟨trivial, exs_len _⟩)]
    exact ⟨rfl, rfl⟩
end Ab
end Go.Proofs.Ytpflcogplhigcaa
namespace Go.Proofs.Ytpflcogplhigcaa
open Go Go.Proofs.Ytpflcogplhigcaa.Ab
set_option linter.unusedVariables false
set_option linter.unusedSimpArgs false
namespace Ab
def eb (x : Ex) : List UInt8 := if x.kind = 2 then x.d else List.replicate (32 * x.len).toNat 0
theorem eb_len {x : Ex} (h : Ck x) : ((eb x).length : Int) = 32 * x.len := by
  unfold eb
  unfold Ck at h
  split
  · rename_i hk; exact h.2.2.2.2.2.2.2.2.1 hk
  · rw [List.length_replicate]; omega
end Ab
end Go.Proofs.Ytpflcogplhigcaa
namespace Go.Proofs.Ytpflcogplhigcaa
open Go Go.Proofs.Ytpflcogplhigcaa.Ab
set_option linter.unusedVariables false
set_option linter.unusedSimpArgs false
namespace Ab
def WL : Int → Int → List Ex → List UInt8 → Prop
  | _, _, [], b => b = []
  | lba, k, x :: l, b => Ck x ∧ x.lba = lba ∧ x.kind ≠ k ∧ ∃ b', b = eb x ++ b' ∧ WL (lba + x.len) x.kind l b'
def kd (c : Bool) : Int := if c = true then 1 else 2
theorem ck_mkx (lba : Int) (b : List UInt8) (c : Bool) (n : Nat) (h1 : 0 ≤ lba) (h2 : 1 ≤ n) (h3 : lba + n ≤ 64) (hb : 32 * n ≤ b.length) : Ck (mkx lba b c n) := by
  unfold mkx Ck
  cases c with
  | true => refine ⟨h1, by simp; omega, by simp; omega, by simp; omega, by simp, by simp, by simp, by simp, by simp, by simp⟩
  | false => refine ⟨h1, by simp; omega, by simp; omega, by simp; omega, by simp, by simp, by simp, by simp, fun _ => ?_, by simp⟩
             simp only [Bool.false_eq_true, if_false, List.length_take]; omega
theorem mkx_lba (lba : Int) (b : List UInt8) (c : Bool) (n : Int) : (mkx lba b c n).lba = lba := by unfold mkx; split <;> rfl
theorem mkx_len (lba : Int) (b : List UInt8) (c : Bool) (n : Int) : (mkx lba b c n).len = n := by unfold mkx; split <;> rfl
theorem mkx_kind (lba : Int) (b : List UInt8) (c : Bool) (n : Int) : (mkx lba b c n).kind = kd c := by unfold mkx kd; split <;> rfl
theorem eb_mkx (lba : Int) (b : List UInt8) (c : Bool) (n : Nat) (hz : c = true → b.take (32 * n) = List.replicate (32 * n) 0) : eb (mkx lba b c n) = b.take (32 * n) := by
  unfold eb mkx
  have e : (32 * (n : Int)).toNat = 32 * n := by omega
  cases c with
  | true => simp only [if_true]; rw [hz rfl]; simp [e]
  | false => simp [e]
theorem ly_wl : ∀ (zs : List Bool) (lba : Int) (b : List UInt8) (c : Bool) (m : Nat) (k : Int), 0 ≤ lba → 1 ≤ m → b.length = 32 * (m + zs.length) → lba + m + zs.length ≤ 64 → flags (b.drop (32 * m)) = zs → (c = true → b.take (32 * m) = List.replicate (32 * m) 0) → kd c ≠ k → WL lba k (ly lba b c m zs) b
  | [], lba, b, c, m, k, h1, h2, h3, h4, h5, h6, h7 => by
    simp only [List.length_nil, Nat.add_zero] at h3 h4
    unfold ly
    rw [if_neg (by omega)]
    refine ⟨ck_mkx _ _ _ _ h1 h2 (by omega) (by omega), mkx_lba _ _ _ _, by rw [mkx_kind]; exact h7, [], ?_, rfl⟩
    rw [eb_mkx _ _ _ _ h6, List.append_nil, List.take_of_length_le (by omega)]
  | z :: zs, lba, b, c, m, k, h1, h2, h3, h4, h5, h6, h7 => by
    simp only [List.length_cons] at h3 h4
    have hf := flags_cons (b := b.drop (32 * m)) (by rw [List.length_drop]; omega)
    rw [h5] at hf
    injection hf with hz hzs
    have hd : (b.drop (32 * m)).drop 32 = b.drop (32 * (m + 1)) := by rw [List.drop_drop]; congr 1
    rw [hd] at hzs
    unfold ly
    split
    · rename_i hc
      have := ly_wl zs lba b c (m + 1) k h1 (by omega) (by omega) (by omega) hzs.symm (fun ht => ?_) h7
      · rw [show ((m + 1 : Nat) : Int) = (m : Int) + 1 by omega] at this; exact this
      · have h8 : (b.drop (32 * m)).take 32 = List.replicate 32 0 := by
          have : zb ((b.drop (32 * m)).take 32) = true := by rw [← hz, hc, ht]
          exact eq_of_beq this
        rw [show 32 * (m + 1) = 32 * m + 32 by omega, List.take_add, h8, h6 ht, List.replicate_append_replicate]
    · rename_i hc
      rw [if_neg (by omega)]
      have e : (32 * (m : Int)).toNat = 32 * m := by omega
      refine ⟨ck_mkx _ _ _ _ h1 h2 (by omega) (by omega), mkx_lba _ _ _ _, by rw [mkx_kind]; exact h7, b.drop (32 * m), ?_, ?_⟩
      · rw [eb_mkx _ _ _ _ h6, List.take_append_drop]
      · rw [mkx_len, mkx_kind, e]
        refine ly_wl zs (lba + m) (b.drop (32 * m)) z 1 (kd c) (by omega) (by omega) (by rw [List.length_drop]; omega) (by omega) (by rw [Nat.mul_one, hd]; exact hzs.symm) (fun ht => ?_) ?_
        · have : zb ((b.drop (32 * m)).take 32) = true := by rw [← hz, ht]
          exact eq_of_beq this
        · unfold kd; cases z <;> cases c <;> simp_all
theorem lay_wl {lba : Int} {b : List UInt8} (h : Lo lba b) : WL lba 0 (ly lba b false 0 (flags b)) b := by
  unfold Lo at h
  by_cases hb : b.length < 32
  · have : b = [] := List.eq_nil_of_length_eq_zero (by omega)
    subst this
    rw [flags_nil (by simp)]; simp [ly, WL]
  have hf := flags_cons (b := b) (by omega)
  have hl : (flags (b.drop 32)).length = (b.length - 32) / 32 := by rw [show (flags (b.drop 32)).length = (b.drop 32).length / 32 from fl_length _ _, List.length_drop]
  rw [hf]
  have key : ly lba b false 0 (zb (b.take 32) :: flags (b.drop 32)) = ly lba b (zb (b.take 32)) ((1 : Nat) : Int) (flags (b.drop 32)) := by
    conv => lhs; unfold ly
    split
    · rename_i hz; rw [hz]; rfl
    · rfl
  rw [key]
  refine ly_wl _ _ _ _ 1 0 h.2.1 (by omega) (by omega) (by omega) rfl (fun ht => eq_of_beq ht) (by unfold kd; split <;> omega)
end Ab
end Go.Proofs.Ytpflcogplhigcaa
namespace Go.Proofs.Ytpflcogplhigcaa
open Go Go.Proofs.Ytpflcogplhigcaa.Ab
set_option linter.unusedVariables false
set_option linter.unusedSimpArgs false
namespace Ab
theorem th_first {σ α : Type} {step : σ → Option σ} {f : σ → Option α} (r1 r2 : Option α) (S : Nat → σ) (n : Nat) (P : Nat → Prop) (Q : Prop) [Decidable Q] (hQ : (∀ i, i < n → P i) ↔ Q)
    (hs : ∀ i : Nat, i < n → (∀ j, j < i → P j) → P i → step (S i) = some (S (i + 1))) (hf : ∀ i : Nat, i < n → (∀ j, j < i → P j) → ¬ P i → step (S i) = none ∧ f (S i) = r1) (he : (∀ j, j < n → P j) → step (S n) = none ∧ f (S n) = r2) :
    th step (S 0) f = if Q then r2 else r1 := by
  by_cases h : ∀ i, i < n → P i
  · rw [if_pos (hQ.1 h), th_run (step := step) (f := f) S n (fun i hi => hs i hi (fun j hj => h j (by omega)) (h i hi)) (he h).1]
    exact (he h).2
  · rw [if_neg (fun g => h (hQ.2 g))]
    have hex : ∃ i, i < n ∧ ¬ P i := Classical.byContradiction fun hn => h fun i hi => Classical.byContradiction fun hp => hn ⟨i, hi, hp⟩
    have key : ∀ k, (∃ i, i < k ∧ i < n ∧ ¬ P i) → ∃ i, i < n ∧ ¬ P i ∧ ∀ j, j < i → P j := by
      intro k
      induction k with
      | zero => rintro ⟨i, hi, _⟩; omega
      | succ k ih =>
        rintro ⟨i, h1, h2, h3⟩
        by_cases hk : ∃ i, i < k ∧ i < n ∧ ¬ P i
        · exact ih hk
        · have hik : i = k := by
            rcases Nat.lt_or_ge i k with g | g
            · exact absurd ⟨i, g, h2, h3⟩ hk
            · omega
          refine ⟨i, h2, h3, fun j hj => ?_⟩
          exact Classical.byContradiction fun hp => hk ⟨j, by omega, by omega, hp⟩
    obtain ⟨i, h1, h2⟩ := hex
    obtain ⟨k, k1, k2, k3⟩ := key (i + 1) ⟨i, by omega, h1, h2⟩
    rw [th_run (step := step) (f := f) S k (fun i hi => hs i (by omega) (fun j hj => k3 j (by omega)) (k3 i hi)) (hf k k1 k3 k2).1]
    exact (hf k k1 k3 k2).2
def sl : List Ex → Int
  | [] => 0
  | x :: l => x.len + sl l
theorem sl_append : ∀ a b : List Ex, sl (a ++ b) = sl a + sl b
  | [], b => by simp [sl]
  | x :: a, b => by simp only [List.cons_append, sl, sl_append a b]; omega
theorem sl_take (l : List Ex) (i : Nat) (h : i < l.length) : sl (l.take (i + 1)) = sl (l.take i) + (exAt l i).len := by
  rw [take_at ⟨0, 0, 0, 0, []⟩ l i h, sl_append]; simp [sl, exAt]
def MP (l : List Ex) (i : Nat) : Prop := Ck (exAt l i) ∧ (exAt l i).lba = sl (l.take i) ∧ (0 < i → ¬ Jn (exAt l (i - 1)) (exAt l i))
def Mk (blocks : Int) (l : List Ex) : Prop := l ≠ [] ∧ (∀ i, i < l.length → MP l i) ∧ sl l = blocks
instance (l : List Ex) (i : Nat) : Decidable (MP l i) := by unfold MP; infer_instance
instance (blocks : Int) (l : List Ex) : Decidable (Mk blocks l) := by unfold Mk; infer_instance
def mk (blocks : Int) (l : List Ex) : Bool := decide (Mk blocks l)
theorem mk_iff {blocks : Int} {l : List Ex} : mk blocks l = true ↔ Mk blocks l := decide_eq_true_iff
theorem mk_t {blocks : Int} {l : List Ex} (h : Mk blocks l) : mk blocks l = true := mk_iff.2 h
theorem mk_f {blocks : Int} {l : List Ex} (h : ¬ Mk blocks l) : mk blocks l = false := decide_eq_false_iff_not.2 h
theorem mp_bound {l : List Ex} {i : Nat} (hi : i ≤ l.length) (h : ∀ j, j < i → MP l j) : 0 ≤ sl (l.take i) ∧ sl (l.take i) ≤ 64 ∧ (0 < i → 1 ≤ sl (l.take i)) := by
  induction i with
  | zero => simp [sl]
  | succ i ih =>
    have h1 := ih (by omega) fun j hj => h j (by omega)
    have h2 := h i (by omega)
    have h3 := h2.1
    have h4 := h2.2.1
    unfold Ck at h3
    rw [sl_take l i (by omega)]
    omega
theorem mCheck_eq (blocks : Int) (l : List Ex) (hl : l.length ≤ 9223372036854775807) : mCheck blocks l = some (mk blocks l) := by
  unfold mCheck
  have hstep : ∀ i : Nat, i < l.length → (∀ j, j < i → MP l j) → MP l i → mCheck_L0_step blocks l (sl (l.take i), (i : Int)) = some (sl (l.take (i + 1)), ((i + 1 : Nat) : Int)) := by
    intro i hi hpre hp
    have hb := mp_bound (by omega) hpre
    have hck := hp.1
    have hlba := hp.2.1
    unfold mCheck_L0_step
    simp only [tb_dec, tb_bne, tb_not, eCheck_eq, eJoins_eq, tc_some, Int.toNat_natCast]
    unfold Ck at hck
    rw [if_pos (by omega), tp_pos (by omega), ck_t hp.1, tb_t, if_pos hlba, sl_take l i hi, wr_id (x := sl (l.take i) + (exAt l i).len) (by omega) (by omega), wr_id (x := (i : Int) + 1) (by omega) (by omega)]
    have e1 : ((i + 1 : Nat) : Int) = (i : Int) + 1 := by omega
    rw [e1]
    by_cases h0 : (i : Int) > 0
    · rw [if_pos h0, wr_id (x := (i : Int) - 1) (by omega) (by omega), tp_pos (by omega), show ((i : Int) - 1).toNat = i - 1 by omega, jn_f (hp.2.2 (by omega)), tb_f]
    · rw [if_neg h0]
  have := th_first (step := mCheck_L0_step blocks l) (some false) (if l ≠ [] ∧ sl l = blocks then some true else some false) (fun i => (sl (l.take i), (i : Int))) l.length (MP l) (∀ i, i < l.length → MP l i) Iff.rfl hstep (f := fun s0 =>
    tb (decide (s0.2 < (l.length : Int))) (tp ((0 : Int) ≤ s0.2 ∧ s0.2 < (l.length : Int)) (tc (eCheck (exAt l s0.2.toNat)) fun s3 => tb (!s3) (some false) (tb ((exAt l s0.2.toNat).lba != s0.1) (some false) (tb (decide (s0.2 > 0)) (tp ((0 : Int) ≤ wr (s0.2 - 1) ∧ wr (s0.2 - 1) < (l.length : Int)) (tc (eJoins (exAt l (wr (s0.2 - 1)).toNat) (exAt l s0.2.toNat)) fun s8 => tb s8 (some false) none)) none))))
      (tb (decide ((l.length : Int) > 0)) (some (s0.1 == blocks)) (some false))) ?_ ?_
  · simp only [List.take_zero, sl, Int.natCast_zero] at this
    rw [this]
    by_cases hall : ∀ i, i < l.length → MP l i
    · rw [if_pos hall]
      by_cases h : l ≠ [] ∧ sl l = blocks
      · rw [if_pos h, mk_t ⟨h.1, hall, h.2⟩]
      · rw [if_neg h, mk_f fun g => h ⟨g.1, g.2.2⟩]
    · rw [if_neg hall, mk_f fun g => hall g.2.1]
  · intro i hi hpre hp
    have hb := mp_bound (by omega) hpre
    unfold mCheck_L0_step
    simp only [tb_dec, tb_bne, tb_not, eCheck_eq, eJoins_eq, tc_some, Int.toNat_natCast]
    by_cases hck : Ck (exAt l i)
    case neg => refine ⟨?_, ?_⟩ <;> (rw [if_pos (by omega), tp_pos (by omega), ck_f hck]; rfl)
    by_cases hlba : (exAt l i).lba = sl (l.take i)
    case neg => refine ⟨?_, ?_⟩ <;> (rw [if_pos (by omega), tp_pos (by omega), ck_t hck, tb_t, if_neg hlba])
    have hj : 0 < i ∧ Jn (exAt l (i - 1)) (exAt l i) := by
      refine ⟨?_, ?_⟩
      · rcases Nat.eq_zero_or_pos i with h | h
        · subst h; exact absurd ⟨hck, hlba, fun h => by omega⟩ hp
        · exact h
      · exact Classical.byContradiction fun h => hp ⟨hck, hlba, fun _ => h⟩
    refine ⟨?_, ?_⟩ <;> (rw [if_pos (by omega), tp_pos (by omega), ck_t hck, tb_t, if_pos hlba, if_pos (by omega), wr_id (x := (i : Int) - 1) (by omega) (by omega), tp_pos (by omega), show ((i : Int) - 1).toNat = i - 1 by omega, jn_t hj.2]; rfl)
  · intro hall
    unfold mCheck_L0_step
    simp only [tb_dec]
    rw [if_neg (by omega), if_neg (by omega)]
    refine ⟨rfl, ?_⟩
    rw [List.take_length]
    by_cases h0 : l = []
    · subst h0; simp
    · have : 0 < l.length := List.length_pos_iff.2 h0
      rw [if_pos (by omega)]
      by_cases hb : sl l = blocks
      · rw [if_pos ⟨h0, hb⟩, hb]; simp
      · rw [if_neg (fun h => hb h.2)]; simp [hb]
theorem mk_blocks {blocks : Int} {l : List Ex} (h : Mk blocks l) : 1 ≤ blocks ∧ blocks ≤ 64 := by
  have hb := mp_bound (Nat.le_refl _) h.2.1
  rw [List.take_length, h.2.2] at hb
  have := List.length_pos_iff.2 h.1
  omega
end Ab
end Go.Proofs.Ytpflcogplhigcaa
namespace Go.Proofs.Ytpflcogplhigcaa
open Go Go.Proofs.Ytpflcogplhigcaa.Ab
set_option linter.unusedVariables false
set_option linter.unusedSimpArgs false
namespace Ab
def Cu (x : Ex) (lba n : Int) : Prop := Ck x ∧ 0 ≤ lba ∧ lba ≤ 64 ∧ 0 ≤ n ∧ n ≤ 64 ∧ max x.lba lba < min (x.lba + x.len) (lba + n)
instance (x : Ex) (lba n : Int) : Decidable (Cu x lba n) := by unfold Cu; infer_instance
def cu (x : Ex) (lba n : Int) : Ex :=
  ⟨max x.lba lba, min (x.lba + x.len) (lba + n) - max x.lba lba, x.kind, x.gen, if x.kind = 2 then (x.d.drop (32 * (max x.lba lba - x.lba)).toNat).take (32 * (min (x.lba + x.len) (lba + n) - max x.lba lba)).toNat else []⟩
def e0 : Ex := ⟨0, 0, 0, 0, []⟩
def cut (x : Ex) (lba n : Int) : Option Ex := if Cu x lba n then some (cu x lba n) else none
def cutv (x : Ex) (lba n : Int) : Ex × Bool := if Cu x lba n then (cu x lba n, true) else (e0, false)
theorem cut_pos {x : Ex} {lba n : Int} (h : Cu x lba n) : cut x lba n = some (cu x lba n) := if_pos h
theorem cut_neg {x : Ex} {lba n : Int} (h : ¬ Cu x lba n) : cut x lba n = none := if_neg h
theorem cutv_pos {x : Ex} {lba n : Int} (h : Cu x lba n) : cutv x lba n = (cu x lba n, true) := if_pos h
theorem cutv_neg {x : Ex} {lba n : Int} (h : ¬ Cu x lba n) : cutv x lba n = (e0, false) := if_neg h
theorem dslice (d : List UInt8) (x f t : Int) (h1 : 0 ≤ x) (h2 : x ≤ f) (h3 : f ≤ t) (h4 : t ≤ 64) (hd : 32 * (t - x) ≤ d.length) :
    List.take (((32 * (t - x)).toNat - (32 * (f - x)).toNat) * 1) (List.take (((32 * (t - x)).toNat - (32 * (f - x)).toNat) * 1) (List.drop ((32 * (f - x)).toNat * 1) d)) = (d.drop (32 * (f - x)).toNat).take (32 * (t - f)).toNat := by
  rw [Nat.mul_one, Nat.mul_one, List.take_take, Nat.min_self, show (32 * (t - x)).toNat - (32 * (f - x)).toNat = (32 * (t - f)).toNat by omega]
theorem eCut_eq (x : Ex) (lba n : Int) : eCut x lba n = some (cutv x lba n) := by
  unfold eCut
  simp only [eCheck_eq, tc_some, tb_not, tb_dec, tb_beq, imin_eq, imax_eq]
  by_cases hc : Ck x
  case neg => rw [ck_f hc, tb_f]; unfold cutv; rw [if_neg fun h => hc h.1]; rfl
  rw [ck_t hc, tb_t]
  by_cases h1 : lba ≥ 0
  case neg => rw [if_neg h1]; unfold cutv; rw [if_neg fun h => h1 h.2.1]; rfl
  by_cases h2 : lba ≤ 64
  case neg => rw [if_pos h1, if_neg h2]; unfold cutv; rw [if_neg fun h => h2 h.2.2.1]; rfl
  by_cases h3 : n ≥ 0
  case neg => rw [if_pos h1, if_pos h2, if_neg h3]; unfold cutv; rw [if_neg fun h => h3 h.2.2.2.1]; rfl
  by_cases h4 : n ≤ 64
  case neg => rw [if_pos h1, if_pos h2, if_pos h3, if_neg h4]; unfold cutv; rw [if_neg fun h => h4 h.2.2.2.2.1]; rfl
  have hcc := hc
  unfold Ck at hcc
  rw [if_pos h1, if_pos h2, if_pos h3, if_pos h4, wr_id (x := x.lba + x.len) (by omega) (by omega), wr_id (x := lba + n) (by omega) (by omega)]
  have hf1 : x.lba ≤ max x.lba lba := by omega
  have hf2 : max x.lba lba ≤ 64 := by omega
  have ht1 : min (x.lba + x.len) (lba + n) ≤ x.lba + x.len := by omega
  have hcu : (Cu x lba n) ↔ max x.lba lba < min (x.lba + x.len) (lba + n) := ⟨fun h => h.2.2.2.2.2, fun h => ⟨hc, h1, h2, h3, h4, h⟩⟩
  unfold cutv
  simp only [hcu]
  unfold cu
  generalize max x.lba lba = f at hf1 hf2 ⊢
  generalize min (x.lba + x.len) (lba + n) = t at ht1 ⊢
  by_cases h5 : f ≥ t
  · rw [if_pos h5, if_neg (show ¬ f < t by omega)]; rfl
  rw [if_neg h5, if_pos (show f < t by omega)]
  have w1 : wr (f - x.lba) = f - x.lba := wr_id (by omega) (by omega)
  have w2 : wr (t - x.lba) = t - x.lba := wr_id (by omega) (by omega)
  have w3 : wr (t - f) = t - f := wr_id (by omega) (by omega)
  have w4 : wr ((f - x.lba) * 32) = 32 * (f - x.lba) := by rw [wr_id (by omega) (by omega)]; omega
  have w5 : wr ((t - x.lba) * 32) = 32 * (t - x.lba) := by rw [wr_id (by omega) (by omega)]; omega
  rw [w1, w2, w3, w4, w5]
  by_cases hk : x.kind = 2
  · have hd := hcc.2.2.2.2.2.2.2.2.1 hk
    rw [if_pos hk, if_pos hk, tp_pos (by omega), tp_pos (by omega), tp_pos (by rw [List.length_map]; omega), tp_pos (by omega), dslice _ _ _ _ (by omega) (by omega) (by omega) (by omega) (by omega)]
  · rw [if_neg hk, if_neg hk]
theorem th_gath {σ α : Type} {step : σ × Int → Option (σ × Int)} {f : σ × Int → Option α} (A : Nat → σ) (n : Nat) (hs : ∀ i : Nat, i < n → step (A i, (i : Int)) = some (A (i + 1), (i : Int) + 1)) (he : step (A n, (n : Int)) = none) : th step (A 0, 0) f = f (A n, (n : Int)) := by
  have := th_run (step := step) (f := f) (fun i => (A i, (i : Int))) n (fun i hi => by rw [hs i hi]; simp) he
  simpa using this
def Ro (blocks lba n : Int) : Prop := 0 ≤ lba ∧ lba ≤ blocks ∧ 1 ≤ n ∧ n ≤ blocks - lba
instance (blocks lba n : Int) : Decidable (Ro blocks lba n) := by unfold Ro; infer_instance
theorem ex_take1 (l : List Ex) (i : Nat) (hi : i < l.length) : l.take (i + 1) = l.take i ++ [exAt l i] := by unfold exAt; exact take_at _ l i hi
end Ab
end Go.Proofs.Ytpflcogplhigcaa
namespace Go.Proofs.Ytpflcogplhigcaa
open Go Go.Proofs.Ytpflcogplhigcaa.Ab
set_option linter.unusedVariables false
set_option linter.unusedSimpArgs false
namespace Ab
def CH : Int → List Ex → Prop
  | _, [] => True
  | s, x :: l => Ck x ∧ x.lba = s ∧ (∀ y, l.head? = some y → ¬ Jn x y) ∧ CH (s + x.len) l
theorem mk_ch {blocks : Int} {l : List Ex} (h : Mk blocks l) : CH 0 l := by
  have key : ∀ j, j ≤ l.length → CH (sl (l.take (l.length - j))) (l.drop (l.length - j)) := by
    intro j
    induction j with
    | zero => intro _; rw [Nat.sub_zero, List.drop_length]; trivial
    | succ j ih =>
      intro hj
      have hi : l.length - (j + 1) < l.length := by omega
      have hm := h.2.1 (l.length - (j + 1)) hi
      have e : l.drop (l.length - (j + 1)) = exAt l (l.length - (j + 1)) :: l.drop (l.length - (j + 1) + 1) := by unfold exAt; exact drop_at _ l _ hi
      rw [e]
      have hs := sl_take l (l.length - (j + 1)) hi
      have e2 : l.length - (j + 1) + 1 = l.length - j := by omega
      rw [e2] at hs ⊢
      refine ⟨hm.1, hm.2.1, fun y hy => ?_, by rw [← hs]; exact ih (by omega)⟩
      have hy2 : l.length - j < l.length ∧ y = exAt l (l.length - j) := by
        rw [List.head?_drop] at hy
        obtain ⟨g, e3⟩ := List.getElem?_eq_some_iff.1 hy
        exact ⟨g, by unfold exAt; simp [g, e3]⟩
      have hm2 := (h.2.1 (l.length - j) hy2.1).2.2 (by omega)
      rw [show l.length - j - 1 = l.length - (j + 1) by omega, ← hy2.2] at hm2
      exact hm2
  have := key l.length (Nat.le_refl _)
  simpa [sl] using this
theorem ch_ck : ∀ {l : List Ex} {s : Int}, CH s l → ∀ z ∈ l, Ck z ∧ s ≤ z.lba
  | [], _, _, z, hz => by cases hz
  | x :: l, s, h, z, hz => by
    have hc := h.1
    unfold Ck at hc
    rcases List.mem_cons.1 hz with e | e
    · subst e; exact ⟨h.1, by have := h.2.1; omega⟩
    · have := ch_ck h.2.2.2 z e
      exact ⟨this.1, by omega⟩
theorem cu_ck {x : Ex} {lo n : Int} (h : Cu x lo n) : Ck (cu x lo n) := by
  obtain ⟨c1, c2, c3, c4, c5, c6⟩ := h
  unfold Ck at c1
  refine ⟨by simp only [cu]; omega, by simp only [cu]; omega, by simp only [cu]; omega, by simp only [cu]; omega, by simp only [cu]; omega, by simp only [cu]; omega, by simp only [cu]; omega, by simp only [cu]; omega, fun hk => ?_, fun hk => ?_⟩
  · have hk : x.kind = 2 := hk
    have := c1.2.2.2.2.2.2.2.2.1 hk
    simp only [cu, if_pos hk, List.length_take, List.length_drop]; omega
  · have hk : ¬ x.kind = 2 := hk
    simp only [cu, if_neg hk]
end Ab
end Go.Proofs.Ytpflcogplhigcaa
namespace Go.Proofs.Ytpflcogplhigcaa
open Go Go.Proofs.Ytpflcogplhigcaa.Ab
set_option linter.unusedVariables false
set_option linter.unusedSimpArgs false
namespace Ab
def bAt (x : Ex) (k : Int) : Int × Int × List UInt8 := (x.kind, x.gen, (x.d.drop (32 * (k - x.lba)).toNat).take 32)
def Cv (x : Ex) (k : Int) (c : Int × Int × List UInt8) : Prop := x.lba ≤ k ∧ k < x.lba + x.len ∧ c = bAt x k
def Den (l : List Ex) (k : Int) (c : Int × Int × List UInt8) : Prop := ∃ x ∈ l, Cv x k c
theorem den_nil {k : Int} {c : Int × Int × List UInt8} : ¬ Den [] k c := fun ⟨x, hx, _⟩ => by cases hx
theorem den_cons {x : Ex} {l : List Ex} {k : Int} {c : Int × Int × List UInt8} : Den (x :: l) k c ↔ Cv x k c ∨ Den l k c := by
  unfold Den; simp
theorem den_app {a b : List Ex} {k : Int} {c : Int × Int × List UInt8} : Den (a ++ b) k c ↔ Den a k c ∨ Den b k c := by
  unfold Den
  constructor
  · rintro ⟨x, hx, h⟩
    rcases List.mem_append.1 hx with e | e
    · exact .inl ⟨x, e, h⟩
    · exact .inr ⟨x, e, h⟩
  · rintro (⟨x, hx, h⟩ | ⟨x, hx, h⟩)
    · exact ⟨x, List.mem_append.2 (.inl hx), h⟩
    · exact ⟨x, List.mem_append.2 (.inr hx), h⟩
theorem den_one {x : Ex} {k : Int} {c : Int × Int × List UInt8} : Den [x] k c ↔ Cv x k c := by
  rw [den_cons]; exact or_iff_left den_nil
theorem ck_pos {x : Ex} (h : Ck x) : 0 ≤ x.lba ∧ x.lba ≤ 64 ∧ 1 ≤ x.len ∧ x.lba + x.len ≤ 64 := by
  unfold Ck at h; omega
theorem ck_d2 {x : Ex} (h : Ck x) (hk : x.kind = 2) : (x.d.length : Int) = 32 * x.len := by
  unfold Ck at h; exact h.2.2.2.2.2.2.2.2.1 hk
theorem ck_d0 {x : Ex} (h : Ck x) (hk : x.kind ≠ 2) : x.d = [] := by
  unfold Ck at h; exact h.2.2.2.2.2.2.2.2.2 hk
theorem bAt_cu {x : Ex} {lo n k : Int} (h : Ck x) (h1 : max x.lba lo ≤ k) (h2 : k < min (x.lba + x.len) (lo + n)) : bAt (cu x lo n) k = bAt x k := by
  have hp := ck_pos h
  simp only [bAt, cu, Prod.mk.injEq, true_and]
  split
  · rename_i hk
    have e : (32 * (k - x.lba)).toNat = (32 * (max x.lba lo - x.lba)).toNat + (32 * (k - max x.lba lo)).toNat := by omega
    rw [e, ← List.drop_drop, List.drop_take, List.take_take]
    congr 1
    omega
  · rename_i hk
    rw [ck_d0 h hk]; simp
theorem cv_cut {x : Ex} {lo n k : Int} {c : Int × Int × List UInt8} (h : Ck x) (h1 : 0 ≤ lo ∧ lo ≤ 64) (h2 : 0 ≤ n ∧ n ≤ 64) : Den (cut x lo n).toList k c ↔ lo ≤ k ∧ k < lo + n ∧ Cv x k c := by
  by_cases g : Cu x lo n
  · rw [cut_pos g]
    show Den [cu x lo n] k c ↔ _
    rw [den_one]
    unfold Cv
    have e1 : (cu x lo n).lba = max x.lba lo := rfl
    have e2 : (cu x lo n).len = min (x.lba + x.len) (lo + n) - max x.lba lo := rfl
    rw [e1, e2]
    constructor
    · rintro ⟨a, b, e⟩
      rw [bAt_cu h (by omega) (by omega)] at e
      exact ⟨by omega, by omega, by omega, by omega, e⟩
    · rintro ⟨a, b, c1, c2, e⟩
      exact ⟨by omega, by omega, by rw [bAt_cu h (by omega) (by omega)]; exact e⟩
  · rw [cut_neg g]
    refine ⟨fun hd => absurd hd den_nil, fun ⟨a, b, c1, c2, e⟩ => absurd ?_ g⟩
    exact ⟨h, by omega, by omega, by omega, by omega, by omega⟩
theorem ck_jnx {a b : Ex} (h : Jn a b) : Ck (jnx a b) := by
  obtain ⟨ha, hb, h1, h2, h3⟩ := h
  have pa := ck_pos ha
  have pb := ck_pos hb
  have ca := ha
  unfold Ck at ca
  refine ⟨by simp only [jnx]; omega, by simp only [jnx]; omega, by simp only [jnx]; omega, by simp only [jnx]; omega, by simp only [jnx]; omega, by simp only [jnx]; omega, by simp only [jnx]; omega, by simp only [jnx]; omega, fun hk => ?_, fun hk => ?_⟩
  · have hk : a.kind = 2 := hk
    have e1 := ck_d2 ha hk
    have e2 := ck_d2 hb (h2 ▸ hk)
    simp only [jnx, List.length_append]; omega
  · have hk : a.kind ≠ 2 := hk
    simp only [jnx, ck_d0 ha hk, ck_d0 hb (h2 ▸ hk), List.append_nil]
theorem cv_jnx {a b : Ex} (h : Jn a b) {k : Int} {c : Int × Int × List UInt8} : Cv (jnx a b) k c ↔ Cv a k c ∨ Cv b k c := by
  obtain ⟨ha, hb, h1, h2, h3⟩ := h
  have pa := ck_pos ha
  have pb := ck_pos hb
  have e0 : (jnx a b).lba = a.lba := rfl
  have e1 : (jnx a b).len = a.len + b.len := rfl
  have k1 : ∀ k, a.lba ≤ k → k < a.lba + a.len → bAt (jnx a b) k = bAt a k := by
    intro k g1 g2
    simp only [bAt, jnx, Prod.mk.injEq, true_and]
    by_cases hk : a.kind = 2
    · have d1 := ck_d2 ha hk
      rw [List.drop_append_of_le_length (by omega), List.take_append_of_le_length (by rw [List.length_drop]; omega)]
    · rw [ck_d0 ha hk, ck_d0 hb (h2 ▸ hk)]; rfl
  have k2 : ∀ k, b.lba ≤ k → k < b.lba + b.len → bAt (jnx a b) k = bAt b k := by
    intro k g1 g2
    simp only [bAt, jnx, Prod.mk.injEq]
    refine ⟨h2, h3, ?_⟩
    by_cases hk : a.kind = 2
    · have d1 := ck_d2 ha hk
      have e : (32 * (k - a.lba)).toNat = a.d.length + (32 * (k - b.lba)).toNat := by omega
      rw [e, ← List.drop_drop, List.drop_left]
    · rw [ck_d0 ha hk, ck_d0 hb (h2 ▸ hk)]; simp
  unfold Cv
  rw [e0, e1]
  constructor
  · rintro ⟨g1, g2, e⟩
    by_cases g : k < a.lba + a.len
    · exact .inl ⟨g1, g, by rw [← k1 k g1 g]; exact e⟩
    · exact .inr ⟨by omega, by omega, by rw [← k2 k (by omega) (by omega)]; exact e⟩
  · rintro (⟨g1, g2, e⟩ | ⟨g1, g2, e⟩)
    · exact ⟨by omega, by omega, by rw [k1 k g1 g2]; exact e⟩
    · exact ⟨by omega, by omega, by rw [k2 k g1 g2]; exact e⟩
theorem snoc_of {out : List Ex} (h : out ≠ []) : out = out.dropLast ++ [out.getLastD ⟨0, 0, 0, 0, []⟩] := by
  have e : out = out.dropLast ++ [out.getLast h] := (List.dropLast_concat_getLast h).symm
  have e2 : out.getLastD ⟨0, 0, 0, 0, []⟩ = out.getLast h := (congrArg (fun l => List.getLastD l ⟨0, 0, 0, 0, []⟩) e).trans (by simp)
  rw [e2]; exact e
theorem den_add {out : List Ex} {y : Ex} {k : Int} {c : Int × Int × List UInt8} : Den (add out y) k c ↔ Den out k c ∨ Cv y k c := by
  unfold add
  by_cases h : out ≠ [] ∧ Jn (out.getLastD ⟨0, 0, 0, 0, []⟩) y
  · rw [if_pos h]
    have e := snoc_of h.1
    generalize out.getLastD ⟨0, 0, 0, 0, []⟩ = a at h e ⊢
    generalize out.dropLast = o at e ⊢
    rw [e, den_app, den_app, den_one, den_one, cv_jnx h.2, or_assoc]
  · rw [if_neg h, den_app, den_one]
theorem den_adds : ∀ (ys out : List Ex) {k : Int} {c : Int × Int × List UInt8}, Den (ys.foldl add out) k c ↔ Den out k c ∨ Den ys k c
  | [], out, k, c => by simp only [List.foldl_nil]; exact (or_iff_left den_nil).symm
  | y :: ys, out, k, c => by rw [List.foldl_cons, den_adds ys, den_add, den_cons, or_assoc]
theorem ch_snoc : ∀ (o : List Ex) (s : Int) (y : Ex), CH s (o ++ [y]) ↔ CH s o ∧ Ck y ∧ y.lba = s + sl o ∧ (∀ a, o.getLast? = some a → ¬ Jn a y)
  | [], s, y => by simp [CH, sl]
  | x :: o, s, y => by
    have ih := ch_snoc o (s + x.len) y
    rw [List.cons_append]
    unfold CH
    rw [ih]
    cases o with
    | nil =>
      simp only [List.nil_append, List.head?_cons, List.head?_nil, Option.some.injEq, forall_eq', List.getLast?_singleton, List.getLast?_nil, CH, sl]
      constructor
      · rintro ⟨a, b, d, e, f, g, _⟩
        exact ⟨⟨a, b, (by intro y h; cases h), trivial⟩, f, by omega, d⟩
      · rintro ⟨⟨a, b, _, _⟩, f, g, d⟩
        exact ⟨a, b, d, trivial, f, by omega, (by intro a h; cases h)⟩
    | cons z o =>
      simp only [List.cons_append, List.head?_cons, Option.some.injEq, forall_eq', List.getLast?_cons_cons, sl]
      constructor
      · rintro ⟨a, b, d, e, f, g, i⟩
        exact ⟨⟨a, b, d, e⟩, f, by omega, i⟩
      · rintro ⟨⟨a, b, d, e⟩, f, g, i⟩
        exact ⟨a, b, d, e, f, by omega, i⟩
theorem ch_add {s : Int} {out : List Ex} {y : Ex} (h : CH s out) (hy : Ck y) (hl : y.lba = s + sl out) : CH s (add out y) ∧ sl (add out y) = sl out + y.len := by
  unfold add
  by_cases g : out ≠ [] ∧ Jn (out.getLastD ⟨0, 0, 0, 0, []⟩) y
  · rw [if_pos g]
    have e := snoc_of g.1
    generalize out.getLastD ⟨0, 0, 0, 0, []⟩ = a at g e ⊢
    generalize out.dropLast = o at e ⊢
    rw [e] at h hl ⊢
    obtain ⟨c1, c2, c3, c4⟩ := (ch_snoc o s a).1 h
    refine ⟨(ch_snoc o s _).2 ⟨c1, ck_jnx g.2, c3, fun b hb hj => c4 b hb ⟨hj.1, c2, hj.2.2.1, hj.2.2.2.1, hj.2.2.2.2⟩⟩, ?_⟩
    rw [sl_append, sl_append]
    simp only [sl, jnx]; omega
  · rw [if_neg g]
    refine ⟨(ch_snoc out s y).2 ⟨h, hy, hl, fun a ha hj => g ⟨?_, ?_⟩⟩, ?_⟩
    · intro e0; rw [e0] at ha; cases ha
    · rw [List.getLastD_eq_getLast?, ha]; exact hj
    · rw [sl_append]; simp only [sl]; omega
def Cg : Int → List Ex → Int → Prop
  | s, [], e => s = e
  | s, p :: ps, e => Ck p ∧ p.lba = s ∧ Cg (s + p.len) ps e
theorem cg_app : ∀ (a b : List Ex) {s m e : Int}, Cg s a m → Cg m b e → Cg s (a ++ b) e
  | [], b, s, m, e, h1, h2 => by rw [show s = m from h1]; exact h2
  | x :: a, b, s, m, e, h1, h2 => ⟨h1.1, h1.2.1, cg_app a b h1.2.2 h2⟩
theorem ch_adds : ∀ (ps out : List Ex) {e : Int}, CH 0 out → Cg (sl out) ps e → CH 0 (ps.foldl add out) ∧ sl (ps.foldl add out) = e
  | [], out, e, h, hg => ⟨h, hg⟩
  | p :: ps, out, e, h, hg => by
    obtain ⟨a, b⟩ := ch_add h hg.1 (by rw [Int.zero_add]; exact hg.2.1)
    rw [List.foldl_cons]
    exact ch_adds ps _ a (by rw [b]; exact hg.2.2)
theorem ch_cg : ∀ {l : List Ex} {s : Int}, CH s l → Cg s l (s + sl l)
  | [], s, _ => by simp [Cg, sl]
  | x :: l, s, h => ⟨h.1, h.2.1, by rw [show s + sl (x :: l) = s + x.len + sl l by simp only [sl]; omega]; exact ch_cg h.2.2.2⟩
theorem den_ge {l : List Ex} {s : Int} (h : CH s l) {k : Int} {c : Int × Int × List UInt8} (hd : Den l k c) : s ≤ k := by
  obtain ⟨x, hx, hc⟩ := hd
  have := (ch_ck h x hx).2
  have := hc.1
  omega
theorem d_ext {x y : Ex} (hx : Ck x) (hy : Ck y) (hb : x.lba = y.lba) (hl : x.len = y.len) (h : ∀ k, x.lba ≤ k → k < x.lba + x.len → bAt x k = bAt y k) : x = y := by
  have px := ck_pos hx
  have h0 := h x.lba (by omega) (by omega)
  simp only [bAt, Prod.mk.injEq] at h0
  have hd : x.d = y.d := by
    by_cases hk : x.kind = 2
    · have d1 := ck_d2 hx hk
      have d2 := ck_d2 hy (h0.1 ▸ hk)
      apply List.ext_getElem?
      intro j
      by_cases hj : j < x.d.length
      · have hq := h (x.lba + (j / 32 : Nat)) (by omega) (by omega)
        simp only [bAt, Prod.mk.injEq] at hq
        have hq : (List.take 32 (List.drop (32 * (x.lba + ((j / 32 : Nat) : Int) - x.lba)).toNat x.d))[j % 32]? = (List.take 32 (List.drop (32 * (x.lba + ((j / 32 : Nat) : Int) - y.lba)).toNat y.d))[j % 32]? := congrArg (fun l => l[j % 32]?) hq.2.2
        have hm : j % 32 < 32 := Nat.mod_lt _ (by omega)
        rw [List.getElem?_take_of_lt hm, List.getElem?_take_of_lt hm, List.getElem?_drop, List.getElem?_drop] at hq
        have e1 : (32 * (x.lba + ((j / 32 : Nat) : Int) - x.lba)).toNat + j % 32 = j := by omega
        have e2 : (32 * (x.lba + ((j / 32 : Nat) : Int) - y.lba)).toNat + j % 32 = j := by omega
        rw [e1, e2] at hq
        exact hq
      · rw [List.getElem?_eq_none (by omega), List.getElem?_eq_none (by omega)]
    · rw [ck_d0 hx hk, ck_d0 hy (h0.1 ▸ hk)]
  cases x; cases y
  simp_all
theorem sl_nn : ∀ {l : List Ex}, (∀ x ∈ l, Ck x) → 0 ≤ sl l
  | [], _ => by simp [sl]
  | x :: l, h => by
    have h1 := sl_nn fun y hy => h y (List.mem_cons_of_mem _ hy)
    have h2 := ck_pos (h x (by simp))
    simp only [sl]; omega
end Ab
end Go.Proofs.Ytpflcogplhigcaa
namespace Go.Proofs.Ytpflcogplhigcaa
open Go Go.Proofs.Ytpflcogplhigcaa.Ab
set_option linter.unusedVariables false
set_option linter.unusedSimpArgs false
namespace Ab
def P1 (x : Ex) (fl : Bool) (e : Ex) : List Ex := (cut e 0 x.lba).toList ++ ((if fl = false ∧ e.lba + e.len > x.lba then [x] else []) ++ (cut e (x.lba + x.len) 64).toList)
def F1 (x : Ex) (fl : Bool) (e : Ex) : Bool := fl || decide (e.lba + e.len > x.lba)
def pcs (x : Ex) : Bool → List Ex → List Ex
  | _, [] => []
  | fl, e :: l => P1 x fl e ++ pcs x (F1 x fl e) l
def stp (x : Ex) (p : Bool × List Ex) (e : Ex) : Bool × List Ex := (F1 x p.1 e, (P1 x p.1 e).foldl add p.2)
theorem stp_pcs (x : Ex) : ∀ (l : List Ex) (fl : Bool) (out : List Ex), (l.foldl (stp x) (fl, out)).2 = (pcs x fl l).foldl add out
  | [], _, _ => rfl
  | e :: l, fl, out => by
    rw [List.foldl_cons]
    show (l.foldl (stp x) (F1 x fl e, (P1 x fl e).foldl add out)).2 = _
    rw [stp_pcs x l, pcs, List.foldl_append]
def put (l : List Ex) (x : Ex) : List Ex := (pcs x false l).foldl add []
theorem den_P1 {x e : Ex} (hx : Ck x) (he : Ck e) {fl : Bool} {k : Int} {c : Int × Int × List UInt8} :
    Den (P1 x fl e) k c ↔ ((k < x.lba ∨ x.lba + x.len ≤ k) ∧ Cv e k c) ∨ (fl = false ∧ e.lba + e.len > x.lba ∧ Cv x k c) := by
  have px := ck_pos hx
  have pe := ck_pos he
  unfold P1
  rw [den_app, den_app, cv_cut he (by omega) (by omega), cv_cut he (by omega) (by omega)]
  have hm : Den (if fl = false ∧ e.lba + e.len > x.lba then [x] else []) k c ↔ fl = false ∧ e.lba + e.len > x.lba ∧ Cv x k c := by
    split
    · rename_i h
      rw [den_one]
      exact ⟨fun q => ⟨h.1, h.2, q⟩, fun q => q.2.2⟩
    · rename_i h
      exact ⟨fun q => absurd q den_nil, fun q => absurd ⟨q.1, q.2.1⟩ h⟩
  rw [hm]
  constructor
  · rintro (⟨a, b, q⟩ | q | ⟨a, b, q⟩)
    · exact .inl ⟨.inl (by omega), q⟩
    · exact .inr q
    · exact .inl ⟨.inr (by omega), q⟩
  · rintro (⟨a | a, q⟩ | q)
    · have := q.1; exact .inl ⟨by omega, by omega, q⟩
    · have := q.2.1; exact .inr (.inr ⟨by omega, by omega, q⟩)
    · exact .inr (.inl q)
theorem den_pcs_t {x : Ex} (hx : Ck x) : ∀ (l : List Ex), (∀ e ∈ l, Ck e) → ∀ {k : Int} {c : Int × Int × List UInt8}, Den (pcs x true l) k c ↔ (k < x.lba ∨ x.lba + x.len ≤ k) ∧ Den l k c
  | [], _, k, c => by simp only [pcs]; exact ⟨fun q => absurd q den_nil, fun q => absurd q.2 den_nil⟩
  | e :: l, h, k, c => by
    have ih := den_pcs_t hx l (fun y hy => h y (by simp [hy])) (k := k) (c := c)
    rw [pcs, den_app, den_P1 hx (h e (by simp)), den_cons]
    rw [show F1 x true e = true from rfl, ih]
    constructor
    · rintro ((⟨a, q⟩ | ⟨a, _⟩) | ⟨a, q⟩)
      · exact ⟨a, .inl q⟩
      · cases a
      · exact ⟨a, .inr q⟩
    · rintro ⟨a, q | q⟩
      · exact .inl (.inl ⟨a, q⟩)
      · exact .inr ⟨a, q⟩
theorem den_pcs_f {x : Ex} (hx : Ck x) : ∀ (l : List Ex), (∀ e ∈ l, Ck e) → ∀ {k : Int} {c : Int × Int × List UInt8}, Den (pcs x false l) k c ↔ ((k < x.lba ∨ x.lba + x.len ≤ k) ∧ Den l k c) ∨ (Cv x k c ∧ ∃ e ∈ l, e.lba + e.len > x.lba)
  | [], _, k, c => by
    simp only [pcs]
    refine ⟨fun q => absurd q den_nil, ?_⟩
    rintro (⟨_, q⟩ | ⟨_, e, he, _⟩)
    · exact absurd q den_nil
    · cases he
  | e :: l, h, k, c => by
    rw [pcs, den_app, den_P1 hx (h e (by simp)), den_cons]
    by_cases g : e.lba + e.len > x.lba
    · rw [show F1 x false e = true from decide_eq_true g, den_pcs_t hx l (fun y hy => h y (by simp [hy]))]
      constructor
      · rintro ((⟨a, q⟩ | ⟨_, _, q⟩) | ⟨a, q⟩)
        · exact .inl ⟨a, .inl q⟩
        · exact .inr ⟨q, e, by simp, g⟩
        · exact .inl ⟨a, .inr q⟩
      · rintro (⟨a, q | q⟩ | ⟨q, _⟩)
        · exact .inl (.inl ⟨a, q⟩)
        · exact .inr ⟨a, q⟩
        · exact .inl (.inr ⟨rfl, g, q⟩)
    · rw [show F1 x false e = false from decide_eq_false g, den_pcs_f hx l (fun y hy => h y (by simp [hy]))]
      constructor
      · rintro ((⟨a, q⟩ | ⟨_, q, _⟩) | ⟨a, q⟩ | ⟨q, y, hy, hg⟩)
        · exact .inl ⟨a, .inl q⟩
        · exact absurd q g
        · exact .inl ⟨a, .inr q⟩
        · exact .inr ⟨q, y, by simp [hy], hg⟩
      · rintro (⟨a, q | q⟩ | ⟨q, y, hy, hg⟩)
        · exact .inl (.inl ⟨a, q⟩)
        · exact .inr (.inl ⟨a, q⟩)
        · rcases List.mem_cons.1 hy with e1 | e1
          · subst e1; exact absurd hg g
          · exact .inr (.inr ⟨q, y, e1, hg⟩)
theorem cg_cut {e : Ex} {lo n a b : Int} (he : Ck e) (h1 : 0 ≤ lo ∧ lo ≤ 64) (h2 : 0 ≤ n ∧ n ≤ 64) (ha : a = max e.lba lo) (hb : b = min (e.lba + e.len) (lo + n)) (hab : a < b) : Cg a (cut e lo n).toList b := by
  have g : Cu e lo n := ⟨he, h1.1, h1.2, h2.1, h2.2, by omega⟩
  rw [cut_pos g]
  refine ⟨cu_ck g, ha.symm, ?_⟩
  show a + (min (e.lba + e.len) (lo + n) - max e.lba lo) = b
  omega
theorem cg_none {e : Ex} {lo n a : Int} (h : ¬ max e.lba lo < min (e.lba + e.len) (lo + n)) : Cg a (cut e lo n).toList a := by
  rw [cut_neg fun g => h g.2.2.2.2.2]; rfl
theorem cg_pcs_t {x : Ex} (hx : Ck x) : ∀ (l : List Ex) (s e : Int), Cg s l e → x.lba < s → Cg (max s (x.lba + x.len)) (pcs x true l) (max e (x.lba + x.len))
  | [], s, e, h, _ => by rw [show s = e from h]; rfl
  | y :: l, s, e, h, hs => by
    obtain ⟨h1, h2, h3⟩ := h
    have px := ck_pos hx
    have py := ck_pos h1
    rw [pcs, P1, if_neg (by simp), List.nil_append]
    have hr := cg_pcs_t hx l (s + y.len) e h3 (by omega)
    refine cg_app _ _ (cg_app _ _ (cg_none (a := max s (x.lba + x.len)) (by omega)) ?_) hr
    by_cases g : s + y.len > x.lba + x.len
    · exact cg_cut h1 (by omega) (by omega) (by omega) (by omega) (by omega)
    · have e1 : max (s + y.len) (x.lba + x.len) = x.lba + x.len := by omega
      have e2 : max s (x.lba + x.len) = x.lba + x.len := by omega
      rw [e1, e2]
      exact cg_none (by omega)
theorem cg_pcs_f {x : Ex} (hx : Ck x) : ∀ (l : List Ex) (s e : Int), 0 ≤ s → Cg s l e → s ≤ x.lba → x.lba < e → Cg s (pcs x false l) (max e (x.lba + x.len))
  | [], s, e, h0, h, hs, he => by have : s = e := h; omega
  | y :: l, s, e, h0, h, hs, he => by
    obtain ⟨h1, h2, h3⟩ := h
    have px := ck_pos hx
    have py := ck_pos h1
    rw [pcs, P1]
    by_cases g : y.lba + y.len > x.lba
    · rw [if_pos ⟨rfl, g⟩, show F1 x false y = true from decide_eq_true g]
      have hr := cg_pcs_t hx l (s + y.len) e h3 (by omega)
      have hleft : Cg s (cut y 0 x.lba).toList x.lba := by
        by_cases q : s < x.lba
        · exact cg_cut h1 (by omega) (by omega) (by omega) (by omega) q
        · rw [show s = x.lba by omega]; exact cg_none (by omega)
      have hright : Cg (x.lba + x.len) (cut y (x.lba + x.len) 64).toList (max (s + y.len) (x.lba + x.len)) := by
        by_cases q : s + y.len > x.lba + x.len
        · exact cg_cut h1 (by omega) (by omega) (by omega) (by omega) (by omega)
        · rw [show max (s + y.len) (x.lba + x.len) = x.lba + x.len by omega]; exact cg_none (by omega)
      exact cg_app _ _ (cg_app _ _ hleft (cg_app [x] _ (m := x.lba + x.len) ⟨hx, rfl, rfl⟩ hright)) hr
    · rw [if_neg (fun q => g q.2), show F1 x false y = false from decide_eq_false g, List.nil_append]
      have hr := cg_pcs_f hx l (s + y.len) e (by omega) h3 (by omega) he
      refine cg_app _ _ (cg_app _ _ (m := s + y.len) (cg_cut h1 (by omega) (by omega) (by omega) (by omega) (by omega)) (cg_none (by omega))) hr
theorem ch_mk {blocks : Int} {l : List Ex} (h : CH 0 l) (hs : sl l = blocks) (hb : 1 ≤ blocks) : Mk blocks l := by
  have hne : l ≠ [] := by intro e; subst e; simp only [sl] at hs; omega
  have key : ∀ (l : List Ex) (s : Int), CH s l → ∀ i, i < l.length → Ck (exAt l i) ∧ (exAt l i).lba = s + sl (l.take i) ∧ (0 < i → ¬ Jn (exAt l (i - 1)) (exAt l i)) := by
    intro l
    induction l with
    | nil => intro s _ i hi; simp at hi
    | cons x l ih =>
      intro s h i hi
      cases i with
      | zero => exact ⟨h.1, by rw [List.take_zero]; simp only [sl]; rw [Int.add_zero]; exact h.2.1, fun q => by omega⟩
      | succ i =>
        simp only [List.length_cons] at hi
        obtain ⟨a, b, d⟩ := ih _ h.2.2.2 i (by omega)
        refine ⟨a, ?_, fun _ => ?_⟩
        · show (exAt l i).lba = _
          rw [b, List.take_succ_cons]; simp only [sl]; omega
        · cases i with
          | zero =>
            cases l with
            | nil => simp at hi
            | cons y l => exact h.2.2.1 y rfl
          | succ j => exact d (by omega)
  refine ⟨hne, fun i hi => ?_, hs⟩
  obtain ⟨a, b, d⟩ := key l 0 h i hi
  exact ⟨a, by rw [b, Int.zero_add], d⟩
theorem put_spec {blocks : Int} {l : List Ex} {x : Ex} (h : Mk blocks l) (hx : Ck x) (hf : x.lba + x.len ≤ blocks) :
    Mk blocks (put l x) ∧ ∀ k c, Den (put l x) k c ↔ ((k < x.lba ∨ x.lba + x.len ≤ k) ∧ Den l k c) ∨ Cv x k c := by
  have hc := mk_ch h
  have hb := mk_blocks h
  have px := ck_pos hx
  have hg : Cg 0 l blocks := by
    have := ch_cg hc
    rwa [h.2.2, Int.zero_add] at this
  have hp := cg_pcs_f hx l 0 blocks (by omega) hg (by omega) (by omega)
  rw [show max blocks (x.lba + x.len) = blocks by omega] at hp
  obtain ⟨a, b⟩ := ch_adds (pcs x false l) [] (e := blocks) trivial hp
  refine ⟨ch_mk a b (by omega), fun k c => ?_⟩
  unfold put
  rw [den_adds, den_pcs_f hx l fun e he => (ch_ck hc e he).1]
  have hex : ∃ e ∈ l, e.lba + e.len > x.lba := by
    refine ⟨exAt l (l.length - 1), ?_, ?_⟩
    · have hl : 0 < l.length := List.length_pos_iff.2 h.1
      unfold exAt
      rw [List.getD_eq_getElem?_getD, List.getElem?_eq_getElem (by omega)]
      exact List.getElem_mem _
    · have hl : 0 < l.length := List.length_pos_iff.2 h.1
      have h1 := (h.2.1 (l.length - 1) (by omega)).2.1
      have h2 := sl_take l (l.length - 1) (by omega)
      rw [show l.length - 1 + 1 = l.length by omega, List.take_length, h.2.2] at h2
      omega
  constructor
  · rintro (q | q | q)
    · exact absurd q den_nil
    · exact .inl q
    · exact .inr q.1
  · rintro (q | q)
    · exact .inr (.inl q)
    · exact .inr (.inr ⟨q, hex⟩)
end Ab
end Go.Proofs.Ytpflcogplhigcaa
