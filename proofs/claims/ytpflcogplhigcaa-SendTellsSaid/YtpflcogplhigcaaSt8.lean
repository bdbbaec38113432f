/- The law 'SendTells': it returns true, and nothing that was there changes. No condition. (Part 8 of 12.) -/
import Derived.Test.YtpflcogplhigcaaSt7
import Derived.Test.YtpflcogplhigcaaRows
namespace Go.Proofs.Ytpflcogplhigcaa
open Go Go.Proofs.Ytpflcogplhigcaa.Ab
set_option linter.unusedVariables false
set_option linter.unusedSimpArgs false
set_option maxRecDepth 1000000
set_option maxHeartbeats 0
namespace Ab
def cf:Cfg:={inl:=[24,25,27,29,55,56,57,58,59,60,61,62,72,73,74,77,78,79,80,81,82,89,90,91,95],thaw:=[(22,[[0,0,5,3,0,1]]),(32,[[]]),(41,[[5]]),(65,[[0,0,0,0,1]]),(67,[[5],[]]),(71,[[5],[]])],move:=[10,11,12,14,15,17,20,21,22,26,28,35,37,41,44,47,48,65,67,68,71],clone:=[(42,3,40),(43,1,1),(83,3,5000)]}
noncomputable def vwT:List (Nat×TI):=[(1,(TI.mk 1 8 [(AV.sc Go.Value.nilFunc)] (AV.sc Go.Value.nilFunc) TK.func)),
 (2,(TI.mk 1 8 [(AV.i 0)] (AV.i 0) (TK.int Go.IntKind.i64))),
 (3,(TI.mk 1 8 [(AV.i 0)] (AV.i 0) (TK.int Go.IntKind.i64))),
 (4,(TI.mk 1 1 [(AV.b Bool.false)] (AV.b Bool.false) TK.bool)),
 (5,(TI.mk 1 1 [(AV.y (UInt8.ofNat (0:Nat)))] (AV.y (UInt8.ofNat (0:Nat))) (TK.int Go.IntKind.u8))),
 (6,(TI.mk 1 1 [(AV.y (UInt8.ofNat (0:Nat)))] (AV.y (UInt8.ofNat (0:Nat))) (TK.int Go.IntKind.u8))),
 (7,(TI.mk 4 24 [(AV.i 0),(AV.i 0),(AV.b Bool.false),(AV.y (UInt8.ofNat (0:Nat)))] (AV.ag [(AV.i 0),(AV.i 0),(AV.b Bool.false),(AV.y (UInt8.ofNat (0:Nat)))]) (TK.struct [((0:Nat),((1:Nat),Bool.false)),((1:Nat),((1:Nat),Bool.false)),((2:Nat),((1:Nat),Bool.false)),((3:Nat),((1:Nat),Bool.false))]))),
 (8,(TI.mk 4 24 [(AV.i 0),(AV.i 0),(AV.b Bool.false),(AV.y (UInt8.ofNat (0:Nat)))] (AV.ag [(AV.i 0),(AV.i 0),(AV.b Bool.false),(AV.y (UInt8.ofNat (0:Nat)))]) (TK.struct [((0:Nat),((1:Nat),Bool.false)),((1:Nat),((1:Nat),Bool.false)),((2:Nat),((1:Nat),Bool.false)),((3:Nat),((1:Nat),Bool.false))]))),
 (9,(TI.mk 1 16 [(AV.st ([]:List UInt8))] (AV.st ([]:List UInt8)) TK.string)),
 (10,(TI.mk 1 16 [(AV.st ([]:List UInt8))] (AV.st ([]:List UInt8)) TK.string)),
 (11,(TI.mk 1 16 [(AV.st ([]:List UInt8))] (AV.st ([]:List UInt8)) TK.string)),
 (12,(TI.mk 1 8 [(AV.sc (Go.Value.int Go.IntKind.u64 0))] (AV.sc (Go.Value.int Go.IntKind.u64 0)) (TK.int Go.IntKind.u64))),
 (13,(TI.mk 2 24 [(AV.st ([]:List UInt8)),(AV.sc (Go.Value.int Go.IntKind.u64 0))] (AV.ag [(AV.st ([]:List UInt8)),(AV.sc (Go.Value.int Go.IntKind.u64 0))]) (TK.struct [((0:Nat),((1:Nat),Bool.false)),((1:Nat),((1:Nat),Bool.false))]))),
 (14,(TI.mk 2 24 [(AV.st ([]:List UInt8)),(AV.sc (Go.Value.int Go.IntKind.u64 0))] (AV.ag [(AV.st ([]:List UInt8)),(AV.sc (Go.Value.int Go.IntKind.u64 0))]) (TK.struct [((0:Nat),((1:Nat),Bool.false)),((1:Nat),((1:Nat),Bool.false))]))),
 (15,(TI.mk 1 8 [(AV.sc (Go.Value.pointer Option.none))] (AV.sc (Go.Value.pointer Option.none)) (TK.ptr (128:Nat)))),
 (16,(TI.mk 1 8 [(AV.sc (Go.Value.pointer Option.none))] (AV.sc (Go.Value.pointer Option.none)) (TK.ptr (131:Nat)))),
 (17,(TI.mk 1 8 [(AV.sc (Go.Value.pointer Option.none))] (AV.sc (Go.Value.pointer Option.none)) (TK.ptr (141:Nat)))),
 (18,(TI.mk 1 8 [(AV.sc (Go.Value.pointer Option.none))] (AV.ag [(AV.sc (Go.Value.pointer Option.none))]) (TK.struct [((0:Nat),((1:Nat),Bool.false))]))),
 (19,(TI.mk 1 8 [(AV.sc (Go.Value.pointer Option.none))] (AV.ag [(AV.sc (Go.Value.pointer Option.none))]) (TK.struct [((0:Nat),((1:Nat),Bool.false))]))),
 (20,(TI.mk 1 16 [(AV.sc Go.Value.nilIface)] (AV.sc Go.Value.nilIface) TK.other)),
 (21,(TI.mk 1 4 [(AV.sc (Go.Value.int Go.IntKind.i32 0))] (AV.sc (Go.Value.int Go.IntKind.i32 0)) (TK.int Go.IntKind.i32))),
 (22,(TI.mk 1 24 [AV.nl] AV.nl (TK.slice (58:Nat)))),
 (23,(TI.mk 1 24 [AV.nl] AV.nl (TK.slice (45:Nat)))),
 (24,(TI.mk 1 24 [AV.nl] AV.nl (TK.slice (5:Nat)))),
 (25,(TI.mk 6 96 [(AV.i 0),(AV.i 0),AV.nl,AV.nl,(AV.i 0),AV.nl] (AV.ag [(AV.i 0),(AV.i 0),AV.nl,AV.nl,(AV.i 0),AV.nl]) (TK.struct [((0:Nat),((1:Nat),Bool.false)),((1:Nat),((1:Nat),Bool.false)),((2:Nat),((1:Nat),Bool.false)),((3:Nat),((1:Nat),Bool.false)),((4:Nat),((1:Nat),Bool.false)),((5:Nat),((1:Nat),Bool.false))]))),
 (26,(TI.mk 6 96 [(AV.i 0),(AV.i 0),AV.nl,AV.nl,(AV.i 0),AV.nl] (AV.ag [(AV.i 0),(AV.i 0),AV.nl,AV.nl,(AV.i 0),AV.nl]) (TK.struct [((0:Nat),((1:Nat),Bool.false)),((1:Nat),((1:Nat),Bool.false)),((2:Nat),((1:Nat),Bool.false)),((3:Nat),((1:Nat),Bool.false)),((4:Nat),((1:Nat),Bool.false)),((5:Nat),((1:Nat),Bool.false))]))),
 (27,(TI.mk 1 8 [(AV.sc Go.Value.nilFunc)] (AV.sc Go.Value.nilFunc) TK.func)),
 (28,(TI.mk 1 24 [AV.nl] AV.nl (TK.slice (3:Nat)))),
 (29,(TI.mk 1 8 [(AV.sc Go.Value.nilFunc)] (AV.sc Go.Value.nilFunc) TK.func)),
 (30,(TI.mk 1 8 [(AV.sc Go.Value.nilFunc)] (AV.sc Go.Value.nilFunc) TK.func)),
 (31,(TI.mk 4 48 [(AV.i 0),(AV.i 0),(AV.i 0),AV.nl] (AV.ag [(AV.i 0),(AV.i 0),(AV.i 0),AV.nl]) (TK.struct [((0:Nat),((1:Nat),Bool.false)),((1:Nat),((1:Nat),Bool.false)),((2:Nat),((1:Nat),Bool.false)),((3:Nat),((1:Nat),Bool.false))]))),
 (32,(TI.mk 4 48 [(AV.i 0),(AV.i 0),(AV.i 0),AV.nl] (AV.ag [(AV.i 0),(AV.i 0),(AV.i 0),AV.nl]) (TK.struct [((0:Nat),((1:Nat),Bool.false)),((1:Nat),((1:Nat),Bool.false)),((2:Nat),((1:Nat),Bool.false)),((3:Nat),((1:Nat),Bool.false))]))),
 (33,(TI.mk 1 8 [(AV.i 0)] (AV.i 0) (TK.int Go.IntKind.i64))),
 (35,(TI.mk 1 8 [(AV.sc Go.Value.nilFunc)] (AV.sc Go.Value.nilFunc) TK.func)),
 (37,(TI.mk 1 8 [(AV.sc Go.Value.nilFunc)] (AV.sc Go.Value.nilFunc) TK.func)),
 (39,(TI.mk 1 8 [(AV.sc Go.Value.nilFunc)] (AV.sc Go.Value.nilFunc) TK.func)),
 (40,(TI.mk 6 80 [(AV.i 0),(AV.i 0),(AV.i 0),(AV.i 0),AV.nl,AV.nl] (AV.ag [(AV.i 0),(AV.i 0),(AV.i 0),(AV.i 0),AV.nl,AV.nl]) (TK.struct [((0:Nat),((1:Nat),Bool.false)),((1:Nat),((1:Nat),Bool.false)),((2:Nat),((1:Nat),Bool.false)),((3:Nat),((1:Nat),Bool.false)),((4:Nat),((1:Nat),Bool.false)),((5:Nat),((1:Nat),Bool.false))]))),
 (41,(TI.mk 6 80 [(AV.i 0),(AV.i 0),(AV.i 0),(AV.i 0),AV.nl,AV.nl] (AV.ag [(AV.i 0),(AV.i 0),(AV.i 0),(AV.i 0),AV.nl,AV.nl]) (TK.struct [((0:Nat),((1:Nat),Bool.false)),((1:Nat),((1:Nat),Bool.false)),((2:Nat),((1:Nat),Bool.false)),((3:Nat),((1:Nat),Bool.false)),((4:Nat),((1:Nat),Bool.false)),((5:Nat),((1:Nat),Bool.false))]))),
 (42,(TI.mk 1 8 [(AV.sc Go.Value.nilFunc)] (AV.sc Go.Value.nilFunc) TK.func)),
 (43,(TI.mk 1 8 [(AV.sc Go.Value.nilFunc)] (AV.sc Go.Value.nilFunc) TK.func)),
 (44,(TI.mk 3 40 [(AV.i 0),(AV.i 0),AV.nl] (AV.ag [(AV.i 0),(AV.i 0),AV.nl]) (TK.struct [((0:Nat),((1:Nat),Bool.false)),((1:Nat),((1:Nat),Bool.false)),((2:Nat),((1:Nat),Bool.false))]))),
 (45,(TI.mk 3 40 [(AV.i 0),(AV.i 0),AV.nl] (AV.ag [(AV.i 0),(AV.i 0),AV.nl]) (TK.struct [((0:Nat),((1:Nat),Bool.false)),((1:Nat),((1:Nat),Bool.false)),((2:Nat),((1:Nat),Bool.false))]))),
 (47,(TI.mk 1 8 [(AV.sc Go.Value.nilFunc)] (AV.sc Go.Value.nilFunc) TK.func)),
 (48,(TI.mk 1 8 [(AV.sc Go.Value.nilFunc)] (AV.sc Go.Value.nilFunc) TK.func)),
 (49,(TI.mk 1 8 [(AV.sc Go.Value.nilFunc)] (AV.sc Go.Value.nilFunc) TK.func)),
 (50,(TI.mk 1 8 [(AV.sc Go.Value.nilFunc)] (AV.sc Go.Value.nilFunc) TK.func)),
 (51,(TI.mk 1 8 [(AV.sc Go.Value.nilFunc)] (AV.sc Go.Value.nilFunc) TK.func)),
 (52,(TI.mk 1 8 [(AV.sc Go.Value.nilFunc)] (AV.sc Go.Value.nilFunc) TK.func)),
 (53,(TI.mk 1 8 [(AV.sc Go.Value.nilFunc)] (AV.sc Go.Value.nilFunc) TK.func)),
 (54,(TI.mk 1 24 [AV.nl] AV.nl (TK.slice (41:Nat)))),
 (55,(TI.mk 1 8 [(AV.sc Go.Value.nilFunc)] (AV.sc Go.Value.nilFunc) TK.func)),
 (56,(TI.mk 64 64 (List.replicate (64:Nat) (AV.b Bool.false)) (AV.ag (List.replicate (64:Nat) (AV.b Bool.false))) (TK.array 64 (4:Nat)))),
 (57,(TI.mk 5 56 [(AV.i 0),(AV.i 0),(AV.i 0),(AV.i 0),AV.nl] (AV.ag [(AV.i 0),(AV.i 0),(AV.i 0),(AV.i 0),AV.nl]) (TK.struct [((0:Nat),((1:Nat),Bool.false)),((1:Nat),((1:Nat),Bool.false)),((2:Nat),((1:Nat),Bool.false)),((3:Nat),((1:Nat),Bool.false)),((4:Nat),((1:Nat),Bool.false))]))),
 (58,(TI.mk 5 56 [(AV.i 0),(AV.i 0),(AV.i 0),(AV.i 0),AV.nl] (AV.ag [(AV.i 0),(AV.i 0),(AV.i 0),(AV.i 0),AV.nl]) (TK.struct [((0:Nat),((1:Nat),Bool.false)),((1:Nat),((1:Nat),Bool.false)),((2:Nat),((1:Nat),Bool.false)),((3:Nat),((1:Nat),Bool.false)),((4:Nat),((1:Nat),Bool.false))]))),
 (59,(TI.mk 1 8 [(AV.sc Go.Value.nilFunc)] (AV.sc Go.Value.nilFunc) TK.func)),
 (61,(TI.mk 1 8 [(AV.sc Go.Value.nilFunc)] (AV.sc Go.Value.nilFunc) TK.func)),
 (62,(TI.mk 1 8 [(AV.sc Go.Value.nilFunc)] (AV.sc Go.Value.nilFunc) TK.func)),
 (63,(TI.mk 1 8 [(AV.sc Go.Value.nilFunc)] (AV.sc Go.Value.nilFunc) TK.func)),
 (64,(TI.mk 1 8 [(AV.sc Go.Value.nilFunc)] (AV.sc Go.Value.nilFunc) TK.func)),
 (65,(TI.mk 1 8 [(AV.sc Go.Value.nilFunc)] (AV.sc Go.Value.nilFunc) TK.func)),
 (66,(TI.mk 1 8 [(AV.sc Go.Value.nilFunc)] (AV.sc Go.Value.nilFunc) TK.func)),
 (67,(TI.mk 1 8 [(AV.sc Go.Value.nilFunc)] (AV.sc Go.Value.nilFunc) TK.func)),
 (68,(TI.mk 1 8 [(AV.sc Go.Value.nilFunc)] (AV.sc Go.Value.nilFunc) TK.func)),
 (69,(TI.mk 1 8 [(AV.sc Go.Value.nilFunc)] (AV.sc Go.Value.nilFunc) TK.func)),
 (70,(TI.mk 6 96 [(AV.i 0),(AV.i 0),AV.nl,AV.nl,(AV.i 0),AV.nl] (AV.ag [(AV.i 0),(AV.i 0),AV.nl,AV.nl,(AV.i 0),AV.nl]) (TK.struct [((0:Nat),((1:Nat),Bool.false)),((1:Nat),((1:Nat),Bool.false)),((2:Nat),((1:Nat),Bool.false)),((3:Nat),((1:Nat),Bool.false)),((4:Nat),((1:Nat),Bool.false)),((5:Nat),((1:Nat),Bool.false))]))),
 (71,(TI.mk 1 8 [(AV.sc Go.Value.nilFunc)] (AV.sc Go.Value.nilFunc) TK.func)),
 (72,(TI.mk 1 8 [(AV.sc (Go.Value.map Option.none))] (AV.sc (Go.Value.map Option.none)) (TK.map (3:Nat) (71:Nat)))),
 (73,(TI.mk 1 8 [(AV.sc Go.Value.nilFunc)] (AV.sc Go.Value.nilFunc) TK.func)),
 (74,(TI.mk 1 8 [(AV.sc (Go.Value.pointer Option.none))] (AV.sc (Go.Value.pointer Option.none)) (TK.ptr (70:Nat)))),
 (75,(TI.mk 1 8 [(AV.sc Go.Value.nilFunc)] (AV.sc Go.Value.nilFunc) TK.func)),
 (76,(TI.mk 1 24 [AV.nl] AV.nl (TK.slice (81:Nat)))),
 (78,(TI.mk 1 8 [(AV.sc Go.Value.nilFunc)] (AV.sc Go.Value.nilFunc) TK.func)),
 (79,(TI.mk 32 32 (List.replicate (32:Nat) (AV.y (UInt8.ofNat (0:Nat)))) (AV.ag (List.replicate (32:Nat) (AV.y (UInt8.ofNat (0:Nat))))) (TK.array 32 (5:Nat)))),
 (80,(TI.mk 34 48 ((AV.i 0)::(AV.i 0)::List.replicate (32:Nat) (AV.y (UInt8.ofNat (0:Nat)))) (AV.ag ((AV.i 0)::(AV.i 0)::List.replicate (32:Nat) (AV.y (UInt8.ofNat (0:Nat))))) (TK.struct [((0:Nat),((1:Nat),Bool.false)),((1:Nat),((1:Nat),Bool.false)),((2:Nat),((32:Nat),Bool.true))]))),
 (81,(TI.mk 34 48 ((AV.i 0)::(AV.i 0)::List.replicate (32:Nat) (AV.y (UInt8.ofNat (0:Nat)))) (AV.ag ((AV.i 0)::(AV.i 0)::List.replicate (32:Nat) (AV.y (UInt8.ofNat (0:Nat))))) (TK.struct [((0:Nat),((1:Nat),Bool.false)),((1:Nat),((1:Nat),Bool.false)),((2:Nat),((32:Nat),Bool.true))]))),
 (82,(TI.mk 1 8 [(AV.sc Go.Value.nilFunc)] (AV.sc Go.Value.nilFunc) TK.func)),
 (83,(TI.mk 1 8 [(AV.sc Go.Value.nilFunc)] (AV.sc Go.Value.nilFunc) TK.func)),
 (84,(TI.mk 1 8 [(AV.sc Go.Value.nilFunc)] (AV.sc Go.Value.nilFunc) TK.func)),
 (85,(TI.mk 1 8 [(AV.sc Go.Value.nilFunc)] (AV.sc Go.Value.nilFunc) TK.func)),
 (86,(TI.mk 1 8 [(AV.sc Go.Value.nilFunc)] (AV.sc Go.Value.nilFunc) TK.func)),
 (87,(TI.mk 1 8 [(AV.sc Go.Value.nilFunc)] (AV.sc Go.Value.nilFunc) TK.func)),
 (89,(TI.mk 1 8 [(AV.sc Go.Value.nilFunc)] (AV.sc Go.Value.nilFunc) TK.func)),
 (90,(TI.mk 1 8 [(AV.sc Go.Value.nilFunc)] (AV.sc Go.Value.nilFunc) TK.func)),
 (91,(TI.mk 1 8 [(AV.sc Go.Value.nilFunc)] (AV.sc Go.Value.nilFunc) TK.func)),
 (92,(TI.mk 1 8 [(AV.sc Go.Value.nilFunc)] (AV.sc Go.Value.nilFunc) TK.func)),
 (93,(TI.mk 1 8 [(AV.sc Go.Value.nilFunc)] (AV.sc Go.Value.nilFunc) TK.func)),
 (94,(TI.mk 1 8 [(AV.sc Go.Value.nilFunc)] (AV.sc Go.Value.nilFunc) TK.func)),
 (95,(TI.mk 4 16 [(AV.b Bool.false),(AV.b Bool.false),(AV.b Bool.false),(AV.sc Go.Value.nilFunc)] (AV.ag [(AV.b Bool.false),(AV.b Bool.false),(AV.b Bool.false),(AV.sc Go.Value.nilFunc)]) (TK.struct [((0:Nat),((1:Nat),Bool.false)),((1:Nat),((1:Nat),Bool.false)),((2:Nat),((1:Nat),Bool.false)),((3:Nat),((1:Nat),Bool.false))]))),
 (96,(TI.mk 4 16 [(AV.b Bool.false),(AV.b Bool.false),(AV.b Bool.false),(AV.sc Go.Value.nilFunc)] (AV.ag [(AV.b Bool.false),(AV.b Bool.false),(AV.b Bool.false),(AV.sc Go.Value.nilFunc)]) (TK.struct [((0:Nat),((1:Nat),Bool.false)),((1:Nat),((1:Nat),Bool.false)),((2:Nat),((1:Nat),Bool.false)),((3:Nat),((1:Nat),Bool.false))]))),
 (97,(TI.mk 36 144 [(AV.b Bool.false),(AV.b Bool.false),(AV.b Bool.false),(AV.sc Go.Value.nilFunc),(AV.b Bool.false),(AV.b Bool.false),(AV.b Bool.false),(AV.sc Go.Value.nilFunc),(AV.b Bool.false),(AV.b Bool.false),(AV.b Bool.false),(AV.sc Go.Value.nilFunc),(AV.b Bool.false),(AV.b Bool.false),(AV.b Bool.false),(AV.sc Go.Value.nilFunc),(AV.b Bool.false),(AV.b Bool.false),(AV.b Bool.false),(AV.sc Go.Value.nilFunc),(AV.b Bool.false),(AV.b Bool.false),(AV.b Bool.false),(AV.sc Go.Value.nilFunc),(AV.b Bool.false),(AV.b Bool.false),(AV.b Bool.false),(AV.sc Go.Value.nilFunc),(AV.b Bool.false),(AV.b Bool.false),(AV.b Bool.false),(AV.sc Go.Value.nilFunc),(AV.b Bool.false),(AV.b Bool.false),(AV.b Bool.false),(AV.sc Go.Value.nilFunc)] (AV.ag [(AV.b Bool.false),(AV.b Bool.false),(AV.b Bool.false),(AV.sc Go.Value.nilFunc),(AV.b Bool.false),(AV.b Bool.false),(AV.b Bool.false),(AV.sc Go.Value.nilFunc),(AV.b Bool.false),(AV.b Bool.false),(AV.b Bool.false),(AV.sc Go.Value.nilFunc),(AV.b Bool.false),(AV.b Bool.false),(AV.b Bool.false),(AV.sc Go.Value.nilFunc),(AV.b Bool.false),(AV.b Bool.false),(AV.b Bool.false),(AV.sc Go.Value.nilFunc),(AV.b Bool.false),(AV.b Bool.false),(AV.b Bool.false),(AV.sc Go.Value.nilFunc),(AV.b Bool.false),(AV.b Bool.false),(AV.b Bool.false),(AV.sc Go.Value.nilFunc),(AV.b Bool.false),(AV.b Bool.false),(AV.b Bool.false),(AV.sc Go.Value.nilFunc),(AV.b Bool.false),(AV.b Bool.false),(AV.b Bool.false),(AV.sc Go.Value.nilFunc)]) (TK.array 9 (96:Nat)))),
 (98,(TI.mk 1 8 [(AV.sc Go.Value.nilFunc)] (AV.sc Go.Value.nilFunc) TK.func)),
 (99,(TI.mk 1 8 [(AV.sc Go.Value.nilFunc)] (AV.sc Go.Value.nilFunc) TK.func)),
 (100,(TI.mk 1 8 [(AV.sc Go.Value.nilFunc)] (AV.sc Go.Value.nilFunc) TK.func)),
 (101,(TI.mk 1 8 [(AV.sc Go.Value.nilFunc)] (AV.sc Go.Value.nilFunc) TK.func)),
 (102,(TI.mk 1 8 [(AV.sc Go.Value.nilFunc)] (AV.sc Go.Value.nilFunc) TK.func)),
 (103,(TI.mk 1 8 [(AV.sc Go.Value.nilFunc)] (AV.sc Go.Value.nilFunc) TK.func)),
 (104,(TI.mk 1 8 [(AV.sc Go.Value.nilFunc)] (AV.sc Go.Value.nilFunc) TK.func)),
 (105,(TI.mk 1 8 [(AV.sc Go.Value.nilFunc)] (AV.sc Go.Value.nilFunc) TK.func)),
 (106,(TI.mk 1 8 [(AV.sc Go.Value.nilFunc)] (AV.sc Go.Value.nilFunc) TK.func)),
 (107,(TI.mk 1 8 [(AV.sc Go.Value.nilFunc)] (AV.sc Go.Value.nilFunc) TK.func)),
 (109,(TI.mk 1 8 [(AV.sc Go.Value.nilFunc)] (AV.sc Go.Value.nilFunc) TK.func)),
 (110,(TI.mk 1 8 [(AV.sc Go.Value.nilFunc)] (AV.sc Go.Value.nilFunc) TK.func)),
 (111,(TI.mk 1 8 [(AV.sc Go.Value.nilFunc)] (AV.sc Go.Value.nilFunc) TK.func)),
 (112,(TI.mk 1 8 [(AV.sc Go.Value.nilFunc)] (AV.sc Go.Value.nilFunc) TK.func)),
 (113,(TI.mk 1 8 [(AV.sc Go.Value.nilFunc)] (AV.sc Go.Value.nilFunc) TK.func)),
 (114,(TI.mk 1 8 [(AV.sc Go.Value.nilFunc)] (AV.sc Go.Value.nilFunc) TK.func)),
 (115,(TI.mk 1 8 [(AV.sc Go.Value.nilFunc)] (AV.sc Go.Value.nilFunc) TK.func)),
 (117,(TI.mk 1 8 [(AV.sc Go.Value.nilFunc)] (AV.sc Go.Value.nilFunc) TK.func)),
 (118,(TI.mk 1 8 [(AV.sc Go.Value.nilFunc)] (AV.sc Go.Value.nilFunc) TK.func)),
 (119,(TI.mk 1 8 [(AV.sc Go.Value.nilFunc)] (AV.sc Go.Value.nilFunc) TK.func)),
 (120,(TI.mk 1 8 [(AV.sc Go.Value.nilFunc)] (AV.sc Go.Value.nilFunc) TK.func)),
 (121,(TI.mk 2 16 [(AV.b Bool.false),(AV.i 0)] (AV.ag [(AV.b Bool.false),(AV.i 0)]) (TK.struct [((0:Nat),((1:Nat),Bool.false)),((1:Nat),((1:Nat),Bool.false))]))),
 (122,(TI.mk 2 16 [(AV.b Bool.false),(AV.i 0)] (AV.ag [(AV.b Bool.false),(AV.i 0)]) (TK.struct [((0:Nat),((1:Nat),Bool.false)),((1:Nat),((1:Nat),Bool.false))]))),
 (123,(TI.mk 1 8 [(AV.sc Go.Value.nilFunc)] (AV.sc Go.Value.nilFunc) TK.func)),
 (124,(TI.mk 1 8 [(AV.sc Go.Value.nilFunc)] (AV.sc Go.Value.nilFunc) TK.func)),
 (125,(TI.mk 1 8 [(AV.sc Go.Value.nilFunc)] (AV.sc Go.Value.nilFunc) TK.func)),
 (126,(TI.mk 1 8 [(AV.sc Go.Value.nilFunc)] (AV.sc Go.Value.nilFunc) TK.func)),
 (127,(TI.mk 4 40 [(AV.sc (Go.Value.pointer Option.none)),(AV.sc (Go.Value.pointer Option.none)),(AV.sc (Go.Value.pointer Option.none)),(AV.st ([]:List UInt8))] (AV.ag [(AV.sc (Go.Value.pointer Option.none)),(AV.sc (Go.Value.pointer Option.none)),(AV.sc (Go.Value.pointer Option.none)),(AV.st ([]:List UInt8))]) (TK.struct [((0:Nat),((1:Nat),Bool.false)),((1:Nat),((1:Nat),Bool.false)),((2:Nat),((1:Nat),Bool.false)),((3:Nat),((1:Nat),Bool.false))]))),
 (128,(TI.mk 4 40 [(AV.sc (Go.Value.pointer Option.none)),(AV.sc (Go.Value.pointer Option.none)),(AV.sc (Go.Value.pointer Option.none)),(AV.st ([]:List UInt8))] (AV.ag [(AV.sc (Go.Value.pointer Option.none)),(AV.sc (Go.Value.pointer Option.none)),(AV.sc (Go.Value.pointer Option.none)),(AV.st ([]:List UInt8))]) (TK.struct [((0:Nat),((1:Nat),Bool.false)),((1:Nat),((1:Nat),Bool.false)),((2:Nat),((1:Nat),Bool.false)),((3:Nat),((1:Nat),Bool.false))]))),
 (129,(TI.mk 0 0 ([]:List AV) (AV.ag ([]:List AV)) (TK.array 0 (16:Nat)))),
 (130,(TI.mk 0 0 ([]:List AV) (AV.ag ([]:List AV)) (TK.struct [((0:Nat),((0:Nat),Bool.true))]))),
 (131,(TI.mk 0 0 ([]:List AV) (AV.ag ([]:List AV)) (TK.struct [((0:Nat),((0:Nat),Bool.true))]))),
 (132,(TI.mk 1 8 [(AV.sc Go.Value.nilFunc)] (AV.sc Go.Value.nilFunc) TK.func)),
 (133,(TI.mk 1 4 [(AV.sc (Go.Value.int Go.IntKind.u32 0))] (AV.sc (Go.Value.int Go.IntKind.u32 0)) (TK.int Go.IntKind.u32))),
 (134,(TI.mk 1 1 [(AV.y (UInt8.ofNat (0:Nat)))] (AV.y (UInt8.ofNat (0:Nat))) (TK.int Go.IntKind.u8))),
 (135,(TI.mk 1 1 [(AV.y (UInt8.ofNat (0:Nat)))] (AV.y (UInt8.ofNat (0:Nat))) (TK.int Go.IntKind.u8))),
 (136,(TI.mk 1 8 [(AV.sc Go.Value.nilFunc)] (AV.sc Go.Value.nilFunc) TK.func)),
 (137,(TI.mk 1 8 [(AV.sc (Go.Value.pointer Option.none))] (AV.sc (Go.Value.pointer Option.none)) (TK.ptr (5:Nat)))),
 (138,(TI.mk 1 4 [(AV.sc (Go.Value.int Go.IntKind.i32 0))] (AV.sc (Go.Value.int Go.IntKind.i32 0)) (TK.int Go.IntKind.i32))),
 (139,(TI.mk 1 4 [(AV.sc (Go.Value.int Go.IntKind.i32 0))] (AV.sc (Go.Value.int Go.IntKind.i32 0)) (TK.int Go.IntKind.i32)))]
noncomputable def vwF:List (Nat×AF):=[(2,d5 Try.f2),(3,d5 Try.f3),(4,d5 Try.f4),(5,d5 Try.f5),(6,d5 Try.f6),(7,d5 Try.f7),(8,d5 Try.f8),(9,d5 Try.f9),(10,d5 Try.f10),(11,d5 Try.f11),(12,d5 Try.f12),(13,d5 Try.f13),(14,d5 Try.f14),(15,d5 Try.f15),(16,d5 Try.f16),(17,d5 Try.f17),(18,d5 Try.f18),(19,d5 Try.f19),(20,d5 Try.f20),(21,d5 Try.f21),(22,d5 Try.f22),(23,d5 Try.f23),(24,d5 Try.f24),(25,d5 Try.f25),(26,d5 Try.f26),(27,d5 Try.f27),(28,d5 Try.f28),(29,d5 Try.f29),(30,d5 Try.f30),(31,d5 Try.f31),(32,d5 Try.f32),(33,d5 Try.f33),(34,d5 Try.f34),(35,d5 Try.f35),(36,d5 Try.f36),(37,d5 Try.f37),(38,d5 Try.f38),(39,d5 Try.f39),(40,d5 Try.f40),(41,d5 Try.f41),(42,d5 Try.f42),(43,d5 Try.f43),(44,d5 Try.f44),(45,d5 Try.f45),(46,d5 Try.f46),(47,d5 Try.f47),(48,d5 Try.f48),(49,d5 Try.f49),(50,d5 Try.f50),(51,d5 Try.f51),(52,d5 Try.f52),(53,d5 Try.f53),(54,d5 Try.f54),(55,d5 Try.f55),(56,d5 Try.f56),(57,d5 Try.f57),(58,d5 Try.f58),(59,d5 Try.f59),(60,d5 Try.f60),(61,d5 Try.f61),(62,d5 Try.f62),(63,d5 Try.f63),(64,d5 Try.f64),(65,d5 Try.f65),(66,d5 Try.f66),(67,d5 Try.f67),(68,d5 Try.f68),(69,d5 Try.f69),(70,d5 Try.f70),(71,d5 Try.f71),(72,d5 Try.f72),(73,d5 Try.f73),(74,d5 Try.f74),(75,d5 Try.f75),(76,d5 Try.f76),(77,d5 Try.f77),(78,d5 Try.f78),(79,d5 Try.f79),(80,d5 Try.f80),(81,d5 Try.f81),(82,d5 Try.f82),(83,d5 Try.f83),(84,d5 Try.f84),(85,d5 Try.f85),(86,d5 Try.f86),(87,d5 Try.f87),(88,d5 Try.f88),(89,d5 Try.f89),(90,d5 Try.f90),(91,d5 Try.f91),(92,d5 Try.f92),(93,d5 Try.f93),(94,d5 Try.f94),(95,d5 Try.f95),(96,d5 Try.f96)]
noncomputable def vw:View:=View.mkT Try.prog vwT vwF
theorem zza:∀x∈vwT,t4 Try.prog x.1=some x.2:=(all_cons kq (all_cons kq (all_cons kq (all_cons kq (all_cons kq (all_cons kq (all_cons kq (all_cons kq (all_cons kq (all_cons kq (all_cons kq (all_cons kq (all_cons kq (all_cons kq (all_cons kq (all_cons kq (all_cons kq (all_cons kq (all_cons kq (all_cons kq (all_cons kq (all_cons kq (all_cons kq (all_cons kq (all_cons kq (all_cons kq (all_cons kq (all_cons kq (all_cons kq (all_cons kq (all_cons kq (all_cons kq (all_cons kq (all_cons kq (all_cons kq (all_cons kq (all_cons kq (all_cons kq (all_cons kq (all_cons kq (all_cons kq (all_cons kq (all_cons kq (all_cons kq (all_cons kq (all_cons kq (all_cons kq (all_cons kq (all_cons kq (all_cons kq (all_cons kq (all_cons kq (all_cons kq (all_cons kq (all_cons kq (all_cons kq (all_cons kq (all_cons kq (all_cons kq (all_cons kq (all_cons kq (all_cons kq (all_cons kq (all_cons kq (all_cons kq (all_cons kq (all_cons kq (all_cons kq (all_cons kq (all_cons kq (all_cons kq (all_cons kq (all_cons kq (all_cons kq (all_cons kq (all_cons kq (all_cons kq (all_cons kq (all_cons kq (all_cons kq (all_cons kq (all_cons kq (all_cons kq (all_cons kq (all_cons kq (all_cons kq (all_cons kq (all_cons kq (all_cons kq (all_cons kq (all_cons kq (all_cons kq (all_cons kq (all_cons kq (all_cons kq (all_cons kq (all_cons kq (all_cons kq (all_cons kq (all_cons kq (all_cons kq (all_cons kq (all_cons kq (all_cons kq (all_cons kq (all_cons kq (all_cons kq (all_cons kq (all_cons kq (all_cons kq (all_cons kq (all_cons kq (all_cons kq (all_cons kq (all_cons kq (all_cons kq (all_cons kq (all_cons kq (all_cons kq (all_cons kq (all_cons kq (all_cons kq (all_cons kq (all_cons kq (all_cons kq (all_cons kq (all_cons kq (all_cons kq (all_cons kq (all_cons kq zqs))))))))))))))))))))))))))))))))))))))))))))))))))))))))))))))))))))))))))))))))))))))))))))))))))))))))))))))))))))))))))))))))))
theorem zzc:∀x∈vwF,z9k Try.prog x.1=some x.2:=(all_cons kq (all_cons kq (all_cons kq (all_cons kq (all_cons kq (all_cons kq (all_cons kq (all_cons kq (all_cons kq (all_cons kq (all_cons kq (all_cons kq (all_cons kq (all_cons kq (all_cons kq (all_cons kq (all_cons kq (all_cons kq (all_cons kq (all_cons kq (all_cons kq (all_cons kq (all_cons kq (all_cons kq (all_cons kq (all_cons kq (all_cons kq (all_cons kq (all_cons kq (all_cons kq (all_cons kq (all_cons kq (all_cons kq (all_cons kq (all_cons kq (all_cons kq (all_cons kq (all_cons kq (all_cons kq (all_cons kq (all_cons kq (all_cons kq (all_cons kq (all_cons kq (all_cons kq (all_cons kq (all_cons kq (all_cons kq (all_cons kq (all_cons kq (all_cons kq (all_cons kq (all_cons kq (all_cons kq (all_cons kq (all_cons kq (all_cons kq (all_cons kq (all_cons kq (all_cons kq (all_cons kq (all_cons kq (all_cons kq (all_cons kq (all_cons kq (all_cons kq (all_cons kq (all_cons kq (all_cons kq (all_cons kq (all_cons kq (all_cons kq (all_cons kq (all_cons kq (all_cons kq (all_cons kq (all_cons kq (all_cons kq (all_cons kq (all_cons kq (all_cons kq (all_cons kq (all_cons kq (all_cons kq (all_cons kq (all_cons kq (all_cons kq (all_cons kq (all_cons kq (all_cons kq (all_cons kq (all_cons kq (all_cons kq (all_cons kq (all_cons kq zqs)))))))))))))))))))))))))))))))))))))))))))))))))))))))))))))))))))))))))))))))))))))))))))))))
theorem z9:vw=View.of Try.prog:=View.mkT_eq zza zzc
theorem zxo:z8 (rg Try.prog 6 0)=true:=by kernel_rfl
theorem zxt:Region.before (rg Try.prog 6 0)=#[0,0,0,6,14,31,63,127,127,0,767,2047]:=by kernel_rfl
theorem zea:z8 (rg Try.prog 6 1)=true:=by kernel_rfl
theorem ze0:Region.before (rg Try.prog 6 1)=#[0,0,0,6,14,31,63,127,127,0,767,2047]:=by kernel_rfl
theorem zbh:z8 (rg Try.prog 6 2)=true:=by kernel_rfl
theorem zbc:Region.before (rg Try.prog 6 2)=#[0,1,3,7,15,31,63,127,255,511,1023,2047,2047,2047,14335,30719,63487,2047,2047,395263,919551,1968127,4192255,8388607,16777215]:=by kernel_rfl
theorem zdz:z8 (rg Try.prog 6 3)=true:=by kernel_rfl
theorem zdi:Region.before (rg Try.prog 6 3)=#[0,1,3,7,15,31,63,127,127,383,127,1919,3967,8063,127,16511,127,114815,245887,508031,1048447,2097151,4194303]:=by kernel_rfl
theorem z0b:z8 (rg Try.prog 12 0)=true:=by kernel_rfl
theorem z0c:Region.before (rg Try.prog 12 0)=#[0,0,2,7,0,31,63]:=by kernel_rfl
theorem zud:z8 (rg Try.prog 22 0)=true:=by kernel_rfl
theorem zu6:Region.before (rg Try.prog 22 0)=#[0,1,3,0,8,31,0,64,255,223,1023,2047,4095,8191,16383]:=by kernel_rfl
theorem zui:z8 (rg Try.prog 22 1)=true:=by kernel_rfl
theorem zst:Region.before (rg Try.prog 22 1)=#[0,1,0,0,8,24,63,127,255]:=by kernel_rfl
theorem zm2:z8 (rg Try.prog 26 0)=true:=by kernel_rfl
theorem zmr:Region.before (rg Try.prog 26 0)=#[0,0,2,7,15,0,63,127,255,255,0,1535,4095]:=by kernel_rfl
theorem w9:z8 (rg Try.prog 31 0)=true:=by kernel_rfl
theorem w8:Region.before (rg Try.prog 31 0)=#[0,0,2,7,0,31]:=by kernel_rfl
theorem z3d:z8 (rg Try.prog 38 0)=true:=by kernel_rfl
theorem z39:Region.before (rg Try.prog 38 0)=#[0,1,3,7,15,31,15,79,207,511,1023,2047,4095,8191,16383,32767,65535,131071,262143,524287,1048575,2097151,4194303,8388607,16777215,4194303,37748735,134217727,268435455,536870911]:=by kernel_rfl
theorem ztn:z8 (rg Try.prog 45 0)=true:=by kernel_rfl
theorem zv2:Region.before (rg Try.prog 45 0)=#[0,1,3,0,8,31,63,127]:=by kernel_rfl
theorem z8m:z8 (rg Try.prog 46 0)=true:=by kernel_rfl
theorem z8b:Region.before (rg Try.prog 46 0)=#[0,1,3,7,15,31,15,127,255,511,1023,2047,4095,8191,8191,24575,65535,131071,8191,524287,1048575,2097151]:=by kernel_rfl
theorem z0s:z8 (rg Try.prog 48 0)=true:=by kernel_rfl
theorem z0t:Region.before (rg Try.prog 48 0)=#[0,0,2,7,15,0,63,127,255,255,0,1535,4095]:=by kernel_rfl
theorem z56:z8 (rg Try.prog 58 0)=true:=by kernel_rfl
theorem z58:Region.before (rg Try.prog 58 0)=#[0,1,0,4,12,28,63,127]:=by kernel_rfl
theorem zkx:z8 (rg Try.prog 58 1)=true:=by kernel_rfl
theorem zmd:Region.before (rg Try.prog 58 1)=#[0,0,2,6,14,0,32,0,128,384,896,0,2048,6144,14336,30720,65504,131040,262142,524287,1048575,2097151]:=by kernel_rfl
theorem zm8:z8 (rg Try.prog 60 0)=true:=by kernel_rfl
theorem zmg:Region.before (rg Try.prog 60 0)=#[0,1,3,0,8,24,56,120,248,511]:=by kernel_rfl
theorem zt1:z8 (rg Try.prog 60 1)=true:=by kernel_rfl
theorem ztg:Region.before (rg Try.prog 60 1)=#[0,0,2,6,14,0,32,126,255,511,1023]:=by kernel_rfl
theorem zbn:z8 (rg Try.prog 71 0)=true:=by kernel_rfl
theorem zbk:Region.before (rg Try.prog 71 0)=#[0,0,2,7,0,0,32,96,240,15,1023]:=by kernel_rfl
theorem zf6:z8 (rg Try.prog 75 0)=true:=by kernel_rfl
theorem zff:Region.before (rg Try.prog 75 0)=#[0,1,0,7,0,16,0,64,240,0,0,1536,4080,15,16383]:=by kernel_rfl
theorem z2w:z8 (rg Try.prog 80 0)=true:=by kernel_rfl
theorem z30:Region.before (rg Try.prog 80 0)=#[0,1,3,7,0,16,48,112,0,511,1023,2047,2047,4095,16383]:=by kernel_rfl
theorem clones:z3e Try.prog cf.clone:=
 (z7l (zmv Try.func42 rfl rfl rfl (by kernel_rfl) (t:=23) (by kernel_rfl)) (z7l (zmv Try.func43 rfl rfl rfl (by kernel_rfl) (t:=24) (by kernel_rfl)) (z7l (zzn (by kernel_rfl) Try.func83 rfl rfl rfl rfl (by kernel_rfl) (t:=23) (wd:=40) (by kernel_rfl)) (znc _))))
end Ab
end Go.Proofs.Ytpflcogplhigcaa
namespace Go.Proofs.Ytpflcogplhigcaa
open Go Go.Proofs.Ytpflcogplhigcaa.Ab
set_option linter.unusedVariables false
set_option linter.unusedSimpArgs false
namespace Ab
theorem t9 {x:Int} (h1: -9223372036854775808≤x) (h2:x≤9223372036854775807):wr x=x:=by
 simp [wr,IntKind.wrap,IntKind.bits,IntKind.signed]
 omega
section
variable {α β σ : Type}
@[simp] theorem z68 (x y:Option α):tb true x y=x:=rfl
@[simp] theorem zdf (x y:Option α):tb false x y=y:=rfl
theorem zk0 {c:Bool} {x y:Option α} (h:c=true):tb c x y=x:=by subst h;rfl
theorem zec {c:Bool} {x y:Option α} (h:c=false):tb c x y=y:=by subst h;rfl
theorem x6 {p:Prop} [Decidable p] {x:Option α} (h:p):tp p x=x:=if_pos h
@[simp] theorem v6 (s:β) (f:β→Option α):tc (some s) f=f s:=rfl
theorem zsh (c:Bool) (x y:Option α):tb c x y=if c=true then x else y:=by cases c <;> rfl
theorem x9 (p:Prop) [Decidable p] (x y:Option α):tb (decide p) x y=if p then x else y:=by
 by_cases h:p <;> simp [h]
theorem z1u (a b:Int) (x y:Option α):tb (a==b) x y=if a=b then x else y:=by
 by_cases h:a=b
 · rw [if_pos h];exact zk0 (beq_iff_eq.2 h)
 · rw [if_neg h];exact zec (beq_eq_false_iff_ne.2 h)
theorem z1c (a b:Int) (x y:Option α):tb (a !=b) x y=if a=b then y else x:=by
 by_cases h:a=b
 · rw [if_pos h];exact zec (bne_eq_false_iff_eq.2 h)
 · rw [if_neg h];exact zk0 (bne_iff_ne.2 h)
theorem z26 (c:Bool) (x y:Option α):tb (!c) x y=tb c y x:=by cases c <;> rfl
theorem y08 {step:σ→Option σ} {s0:σ} {f:σ→Option α} (g:σ→Option α) (I:σ→Prop) (m:σ→Nat) (h0:I s0)
 (h:∀s,I s→(∃s',step s=some s'∧I s'∧m s' < m s∧g s'=g s)∨(step s=none∧f s=g s)):th step s0 f=g s0:=by
 refine y0t (fun s=> I s∧g s=g s0) m ⟨h0,rfl⟩ (fun s s' hs e=> ?_) (fun s hs e=> ?_)
 · rcases h s hs.1 with ⟨s1,e1,i1,m1,g1⟩ | ⟨e1,_⟩
   · rw [e] at e1;injection e1 with e1;subst e1;exact ⟨⟨i1,g1.trans hs.2⟩,m1⟩
   · rw [e] at e1;cases e1
 · rcases h s hs.1 with ⟨s1,e1,_⟩ | ⟨_,e1⟩
   · rw [e] at e1;cases e1
   · rw [e1,hs.2]
theorem z15 {step:σ→Option σ} {f:σ→Option α} (S:Nat→σ) (k:Nat) (hs:∀i,i < k→step (S i)=some (S (i+1))) (he:step (S k)=none):th step (S 0) f=f (S k):=by
 have:∀n,n≤k→Runs step (S (k - n)) (S k):=by
  intro n
  induction n with
  | zero=> exact fun _=> .refl _
  | succ n ih=>
    intro hn
    refine .step (hs _ (by omega)) ?_
    rw [show k - (n+1)+1=k - n by omega]
    exact ih (by omega)
 have h:=this k (Nat.le_refl _)
 rw [Nat.sub_self] at h
 exact zy6 h he rfl
theorem zcp {step:Int→Option Int} {f:Int→Option α} (r1 r2:Option α) (n:Nat) (P:Nat→Prop) (Q:Prop) [Decidable Q] (hQ:(∀i,i < n→P i)↔Q) (hs:∀i:Nat,i < n→P i→step (i:Int)=some ((i:Int)+1)) (hf:∀i:Nat,i < n→¬P i→step (i:Int)=none∧f (i:Int)=r1) (he:step (n:Int)=none∧f (n:Int)=r2):
 th step 0 f=if Q then r2 else r1:=by
 by_cases h:∀i,i < n→P i
 · rw [if_pos (hQ.1 h)]
   have:=z15 (step:=step) (f:=f) (fun i=> (i:Int)) n (fun i hi=> hs i hi (h i hi)) he.1
   simp only [Int.natCast_zero] at this
   rw [this];exact he.2
 · rw [if_neg (fun g=> h (hQ.2 g))]
   have hex:∃i,i < n∧¬P i:=by
    refine Classical.byContradiction fun hn=> h fun i hi=> ?_
    exact Classical.byContradiction fun hp=> hn ⟨i,hi,hp⟩
   have key:∀k,(∃i,i < k∧i < n∧¬P i)→∃i,i < n∧¬P i∧∀j,j < i→P j:=by
    intro k
    induction k with
    | zero=> rintro ⟨i,hi,_⟩;omega
    | succ k ih=>
      rintro ⟨i,h1,h2,h3⟩
      by_cases hk:∃i,i < k∧i < n∧¬P i
      · exact ih hk
      · have hik:i=k:=by
         rcases Nat.lt_or_ge i k with g | g
         · exact absurd ⟨i,g,h2,h3⟩ hk
         · omega
        refine ⟨i,h2,h3,fun j hj=> ?_⟩
        exact Classical.byContradiction fun hp=> hk ⟨j,by omega,by omega,hp⟩
   obtain ⟨i,h1,h2⟩:=hex
   obtain ⟨k,k1,k2,k3⟩:=key (i+1) ⟨i,by omega,h1,h2⟩
   have:=z15 (step:=step) (f:=f) (fun i=> (i:Int)) k (fun i hi=> hs i (by omega) (k3 i hi)) (hf k k1 k2).1
   simp only [Int.natCast_zero] at this
   rw [this];exact (hf k k1 k2).2
end
theorem zb9 {α:Type} (d:α) (l:List α) (i:Nat) (h:i < l.length):l.drop i=l.getD i d::l.drop (i+1):=by
 rw [List.drop_eq_getElem_cons h];simp [h]
theorem z7h {α:Type} (d:α) (l:List α) (i:Nat) (h:i < l.length):l.take (i+1)=l.take i++[l.getD i d]:=by
 rw [List.take_succ_eq_append_getElem h];simp [h]
theorem zb2 {α:Type} (d:α) (l:List α) (p:α→Prop):(∀i,i < l.length→p (l.getD i d))↔∀x∈l,p x:=by
 refine ⟨fun h x hx=> ?_,fun h i hi=> h _ ?_⟩
 · obtain ⟨i,hi,e⟩:=List.getElem_of_mem hx
   have:=h i hi
   rw [←e]
   simpa [hi] using this
 · simp [hi]
end Ab
end Go.Proofs.Ytpflcogplhigcaa
namespace Go.Proofs.Ytpflcogplhigcaa.Ab
open Go
abbrev xc (x:Ex):List AV:=[AV.i x.lba,AV.i x.len,AV.i x.kind,AV.i x.gen,AV.sl (List.length x.d) (List.map AV.y x.d)]
end Go.Proofs.Ytpflcogplhigcaa.Ab
namespace Go.Proofs.Ytpflcogplhigcaa
open Go Go.Proofs.Ytpflcogplhigcaa.Ab
set_option linter.unusedVariables false
set_option linter.unusedSimpArgs false
set_option maxRecDepth 1000000
set_option maxHeartbeats 0
namespace Ab
noncomputable def z9e (n:Int) (low:Int) (high:Int):Option (Bool):=
 (tb ((decide (n≥low))) (some ((decide (n≤high)))) (some (false)))
abbrev zs7 (n:Int) (low:Int) (high:Int) (r:Bool):Prop:=z06 Try.prog cf true 50 [.i (n),.i (low),.i (high)] (.b (r))
theorem z1n (n:Int) (low:Int) (high:Int) (r:Bool):z9e n low high=some r→zs7 n low high r:=by
 unfold z9e
 exact tbD (fun h0 h0p=> by intro e;injection e with e;subst e;exact x4 z9 (k:=300) (r:=[]) (hs:=hz [(5,[.yes]),(1,[.yes]),(1,[.yes]),(1,[.yes]),(1,[])]) (raw:=(AV.b (decide (n≤high)))) kq (ac h0 (ac h0 (ac h0 (ac h0 an)))) tq) fun h0 h0p=> by intro e;injection e with e;subst e;exact x4 z9 (k:=300) (r:=[]) (hs:=hz [(5,[.no,.no,.no,.no]),(1,[])]) (raw:=(AV.b false)) kq (ac h0 (ac h0 (ac h0 (ac h0 an)))) tq
noncomputable def z2p (x:Ex):Option (Bool):=
 (tb ((decide (x.lba≥(0:Int)))) (tb ((decide (x.lba≤(64:Int)))) (tb ((decide (x.len≥(1:Int)))) (tb ((decide (x.len≤(wr ((64:Int) - x.lba))))) (tb ((decide (x.kind≥(0:Int)))) (tb ((decide (x.kind≤(2:Int)))) (tb ((decide (x.gen≥(0:Int)))) (tb ((decide (x.gen≤(2147483647:Int)))) (tb ((x.kind==(2:Int))) (some (((x.d.length:Int)==(wr (x.len*(32:Int)))))) (some (((x.d.length:Int)==(0:Int))))) (some (false))) (some (false))) (some (false))) (some (false))) (some (false))) (some (false))) (some (false))) (some (false)))
abbrev zut (x:Ex) (r:Bool):Prop:=z06 Try.prog cf true 38 [Ex.av (x)] (.b (r))
theorem j9 (x:Ex) (r:Bool):z2p x=some r→zut x r:=by
 unfold z2p
 exact tbD (fun h0 h0p=> tbD (fun h1 h1p=> tbD (fun h2 h2p=> tbD (fun h3 h3p=> tbD (fun h4 h4p=> tbD (fun h5 h5p=> tbD (fun h6 h6p=> tbD (fun h7 h7p=> tbE (fun h8 h8p=> by intro e;injection e with e;subst e;exact x4 z9 (k:=300) (r:=[]) (hs:=hz [(12,[.yes]),(1,[.yes]),(1,[.yes]),(1,[.yes]),(2,[.yes]),(1,[.yes]),(2,[.yes]),(1,[.yes]),(2,[.yes]),(1,[.yes]),(7,[.yes]),(1,[.yes]),(1,[.yes]),(1,[.yes]),(1,[.yes]),(1,[.yes]),(1,[.yes]),(2,[.yes]),(7,[.yes]),(1,[.yes]),(1,[.yes]),(1,[.yes]),(1,[.yes]),(1,[.yes]),(1,[.yes]),(2,[.yes]),(7,[.yes]),(1,[.yes]),(1,[.yes]),(1,[.yes]),(1,[.yes]),(1,[.yes]),(1,[.yes]),(2,[.yes]),(1,[.yes]),(1,[.fc,.yes]),(8,[.yes]),(5,[.yes]),(1,[.yes]),(1,[.yes])]) (raw:=(AV.b ((x.d.length:Int)==(wr (x.len*(32:Int)))))) kq (ac h0 (ac h0 (ac h0 (ac h0 (ac h1 (ac h1 (ac h1 (ac h1 (ac h1 (ac h1 (ac h2 (ac h2 (ac h2 (ac h2 (ac h1 (ac h3 (ac h3 (ac h3 (ac h4 (ac h4 (ac h4 (ac h4 (ac h3 (ac h5 (ac h5 (ac h5 (ac h6 (ac h6 (ac h6 (ac h6 (ac h5 (ac h7 (ac h7 (ac h7 (ac h7 (ac h7 (ac h8 (ac h7 (ac h7 (ac (show z8 (rg Try.prog 38 0)=true∧x7 (Region.before (rg Try.prog 38 0)) [] 0 [(some [],some []),(some [0],some []),(some [],some []),(some [],some []),(some [],some []),(some [0],some []),(some [],some []),(some [0],some []),(some [],some []),(some [],some []),(some [],some []),(some [],some []),(some [],some []),(some [0],some []),(some [],some []),(some [],some []),(some [],some []),(some [],some []),(some [0],some []),(some [],some []),(some [],some []),(some [],some []),(some [],some []),(some [0],some []),(some [],some []),(some [0],some []),(some [],some []),(some [],some []),(some [],some []),(some [],some [])]=true from (x0 z3d z39 kq)) an)))))))))))))))))))))))))))))))))))))))) tq) fun h8 h8p=> by intro e;injection e with e;subst e;exact x4 z9 (k:=300) (r:=[]) (hs:=hz [(12,[.yes]),(1,[.yes]),(1,[.yes]),(1,[.yes]),(2,[.yes]),(1,[.yes]),(2,[.yes]),(1,[.yes]),(2,[.yes]),(1,[.yes]),(7,[.yes]),(1,[.yes]),(1,[.yes]),(1,[.yes]),(1,[.yes]),(1,[.yes]),(1,[.yes]),(2,[.yes]),(7,[.yes]),(1,[.yes]),(1,[.yes]),(1,[.yes]),(1,[.yes]),(1,[.yes]),(1,[.yes]),(2,[.yes]),(7,[.yes]),(1,[.yes]),(1,[.yes]),(1,[.yes]),(1,[.yes]),(1,[.yes]),(1,[.yes]),(2,[.yes]),(1,[.yes]),(1,[.fc,.yes]),(8,[.no]),(1,[.yes]),(1,[.yes]),(1,[.yes])]) (raw:=(AV.b ((x.d.length:Int)==(0:Int)))) kq (ac h0 (ac h0 (ac h0 (ac h0 (ac h1 (ac h1 (ac h1 (ac h1 (ac h1 (ac h1 (ac h2 (ac h2 (ac h2 (ac h2 (ac h1 (ac h3 (ac h3 (ac h3 (ac h4 (ac h4 (ac h4 (ac h4 (ac h3 (ac h5 (ac h5 (ac h5 (ac h6 (ac h6 (ac h6 (ac h6 (ac h5 (ac h7 (ac h7 (ac h7 (ac h7 (ac h7 (ac h8 (ac h7 (ac h7 (ac (show z8 (rg Try.prog 38 0)=true∧x7 (Region.before (rg Try.prog 38 0)) [] 0 [(some [],some []),(some [0],some []),(some [],some []),(some [],some []),(some [],some []),(some [0],some []),(some [],some []),(some [0],some []),(some [],some []),(some [],some []),(some [],some []),(some [],some []),(some [],some []),(some [0],some []),(some [],some []),(some [],some []),(some [],some []),(some [],some []),(some [0],some []),(some [],some []),(some [],some []),(some [],some []),(some [],some []),(some [0],some []),(some [],some []),(some [0],some []),(some [],some []),(some [],some []),(some [],some []),(some [],some [])]=true from (x0 z3d z39 kq)) an)))))))))))))))))))))))))))))))))))))))) tq) fun h7 h7p=> by intro e;injection e with e;subst e;exact x4 z9 (k:=300) (r:=[]) (hs:=hz [(12,[.yes]),(1,[.yes]),(1,[.yes]),(1,[.yes]),(2,[.yes]),(1,[.yes]),(2,[.yes]),(1,[.yes]),(2,[.yes]),(1,[.yes]),(7,[.yes]),(1,[.yes]),(1,[.yes]),(1,[.yes]),(1,[.yes]),(1,[.yes]),(1,[.yes]),(2,[.yes]),(7,[.yes]),(1,[.yes]),(1,[.yes]),(1,[.yes]),(1,[.yes]),(1,[.yes]),(1,[.yes]),(2,[.yes]),(7,[.yes]),(1,[.yes]),(1,[.yes]),(1,[.yes]),(1,[.yes]),(1,[.no,.no,.no,.no,.no,.no,.no]),(1,[.yes])]) (raw:=(AV.b false)) kq (ac h0 (ac h0 (ac h0 (ac h0 (ac h1 (ac h1 (ac h1 (ac h1 (ac h1 (ac h1 (ac h2 (ac h2 (ac h2 (ac h2 (ac h1 (ac h3 (ac h3 (ac h3 (ac h4 (ac h4 (ac h4 (ac h4 (ac h3 (ac h5 (ac h5 (ac h5 (ac h6 (ac h6 (ac h6 (ac h6 (ac h5 (ac h7 (ac h7 (ac h7 (ac h7 (ac h7 (ac h7 (ac h7 (ac (show z8 (rg Try.prog 38 0)=true∧x7 (Region.before (rg Try.prog 38 0)) [] 0 [(some [],some []),(some [0],some []),(some [],some []),(some [],some []),(some [],some []),(some [0],some []),(some [],some []),(some [0],some []),(some [],some []),(some [],some []),(some [],some []),(some [],some []),(some [],some []),(some [0],some []),(some [],some []),(some [],some []),(some [],some []),(some [],some []),(some [0],some []),(some [],some []),(some [],some []),(some [],some []),(some [],some []),(some [],some []),(some [],some []),(some [],some []),(some [],some []),(some [],some []),(some [],some []),(some [],some [])]=true from (x0 z3d z39 kq)) an))))))))))))))))))))))))))))))))))))))) tq) fun h6 h6p=> by intro e;injection e with e;subst e;exact x4 z9 (k:=300) (r:=[]) (hs:=hz [(12,[.yes]),(1,[.yes]),(1,[.yes]),(1,[.yes]),(2,[.yes]),(1,[.yes]),(2,[.yes]),(1,[.yes]),(2,[.yes]),(1,[.yes]),(7,[.yes]),(1,[.yes]),(1,[.yes]),(1,[.yes]),(1,[.yes]),(1,[.yes]),(1,[.yes]),(2,[.yes]),(7,[.yes]),(1,[.yes]),(1,[.yes]),(1,[.yes]),(1,[.yes]),(1,[.yes]),(1,[.yes]),(2,[.yes]),(7,[.no,.no,.no,.no]),(1,[.yes]),(9,[.yes])]) (raw:=(AV.b false)) kq (ac h0 (ac h0 (ac h0 (ac h0 (ac h1 (ac h1 (ac h1 (ac h1 (ac h1 (ac h1 (ac h2 (ac h2 (ac h2 (ac h2 (ac h1 (ac h3 (ac h3 (ac h3 (ac h4 (ac h4 (ac h4 (ac h4 (ac h3 (ac h5 (ac h5 (ac h5 (ac h6 (ac h6 (ac h6 (ac h6 (ac h5 (ac (show z8 (rg Try.prog 38 0)=true∧x7 (Region.before (rg Try.prog 38 0)) [] 0 [(some [],some []),(some [0],some []),(some [],some []),(some [],some []),(some [],some []),(some [0],some []),(some [],some []),(some [0],some []),(some [],some []),(some [],some []),(some [],some []),(some [],some []),(some [],some []),(some [0],some []),(some [],some []),(some [],some []),(some [],some []),(some [],some []),(some [0],some []),(some [],some []),(some [],some []),(some [],some []),(some [],some []),(some [],some []),(some [],some []),(some [],some []),(some [],some []),(some [],some []),(some [],some []),(some [],some [])]=true from (x0 z3d z39 kq)) an)))))))))))))))))))))))))))))))) tq) fun h5 h5p=> by intro e;injection e with e;subst e;exact x4 z9 (k:=300) (r:=[]) (hs:=hz [(12,[.yes]),(1,[.yes]),(1,[.yes]),(1,[.yes]),(2,[.yes]),(1,[.yes]),(2,[.yes]),(1,[.yes]),(2,[.yes]),(1,[.yes]),(7,[.yes]),(1,[.yes]),(1,[.yes]),(1,[.yes]),(1,[.yes]),(1,[.yes]),(1,[.yes]),(2,[.yes]),(7,[.yes]),(1,[.yes]),(1,[.yes]),(1,[.yes]),(1,[.yes]),(1,[.no,.no,.no,.no]),(9,[.yes])]) (raw:=(AV.b false)) kq (ac h0 (ac h0 (ac h0 (ac h0 (ac h1 (ac h1 (ac h1 (ac h1 (ac h1 (ac h1 (ac h2 (ac h2 (ac h2 (ac h2 (ac h1 (ac h3 (ac h3 (ac h3 (ac h4 (ac h4 (ac h4 (ac h4 (ac h3 (ac h5 (ac h5 (ac h5 (ac h5 (ac (show z8 (rg Try.prog 38 0)=true∧x7 (Region.before (rg Try.prog 38 0)) [] 0 [(some [],some []),(some [0],some []),(some [],some []),(some [],some []),(some [],some []),(some [0],some []),(some [],some []),(some [0],some []),(some [],some []),(some [],some []),(some [],some []),(some [],some []),(some [],some []),(some [0],some []),(some [],some []),(some [],some []),(some [],some []),(some [],some []),(some [],some []),(some [],some []),(some [],some []),(some [],some []),(some [],some []),(some [],some []),(some [],some []),(some [],some []),(some [],some []),(some [],some []),(some [],some []),(some [],some [])]=true from (x0 z3d z39 kq)) an)))))))))))))))))))))))))))) tq) fun h4 h4p=> by intro e;injection e with e;subst e;exact x4 z9 (k:=300) (r:=[]) (hs:=hz [(12,[.yes]),(1,[.yes]),(1,[.yes]),(1,[.yes]),(2,[.yes]),(1,[.yes]),(2,[.yes]),(1,[.yes]),(2,[.yes]),(1,[.yes]),(7,[.yes]),(1,[.yes]),(1,[.yes]),(1,[.yes]),(1,[.yes]),(1,[.yes]),(1,[.yes]),(2,[.yes]),(7,[.no,.no,.no,.no]),(1,[.yes]),(14,[.yes])]) (raw:=(AV.b false)) kq (ac h0 (ac h0 (ac h0 (ac h0 (ac h1 (ac h1 (ac h1 (ac h1 (ac h1 (ac h1 (ac h2 (ac h2 (ac h2 (ac h2 (ac h1 (ac h3 (ac h3 (ac h3 (ac h4 (ac h4 (ac h4 (ac h4 (ac h3 (ac (show z8 (rg Try.prog 38 0)=true∧x7 (Region.before (rg Try.prog 38 0)) [] 0 [(some [],some []),(some [0],some []),(some [],some []),(some [],some []),(some [],some []),(some [0],some []),(some [],some []),(some [0],some []),(some [],some []),(some [],some []),(some [],some []),(some [],some []),(some [],some []),(some [0],some []),(some [],some []),(some [],some []),(some [],some []),(some [],some []),(some [],some []),(some [],some []),(some [],some []),(some [],some []),(some [],some []),(some [],some []),(some [],some []),(some [],some []),(some [],some []),(some [],some []),(some [],some []),(some [],some [])]=true from (x0 z3d z39 kq)) an)))))))))))))))))))))))) tq) fun h3 h3p=> by intro e;injection e with e;subst e;exact x4 z9 (k:=300) (r:=[]) (hs:=hz [(12,[.yes]),(1,[.yes]),(1,[.yes]),(1,[.yes]),(2,[.yes]),(1,[.yes]),(2,[.yes]),(1,[.yes]),(2,[.yes]),(1,[.yes]),(7,[.yes]),(1,[.yes]),(1,[.yes]),(1,[.yes]),(1,[.yes]),(1,[.no,.no,.no,.no]),(14,[.yes])]) (raw:=(AV.b false)) kq (ac h0 (ac h0 (ac h0 (ac h0 (ac h1 (ac h1 (ac h1 (ac h1 (ac h1 (ac h1 (ac h2 (ac h2 (ac h2 (ac h2 (ac h1 (ac h3 (ac h3 (ac h3 (ac h3 (ac (show z8 (rg Try.prog 38 0)=true∧x7 (Region.before (rg Try.prog 38 0)) [] 0 [(some [],some []),(some [0],some []),(some [],some []),(some [],some []),(some [],some []),(some [0],some []),(some [],some []),(some [0],some []),(some [],some []),(some [],some []),(some [],some []),(some [],some []),(some [],some []),(some [],some []),(some [],some []),(some [],some []),(some [],some []),(some [],some []),(some [],some []),(some [],some []),(some [],some []),(some [],some []),(some [],some []),(some [],some []),(some [],some []),(some [],some []),(some [],some []),(some [],some []),(some [],some []),(some [],some [])]=true from (x0 z3d z39 kq)) an)))))))))))))))))))) tq) fun h2 h2p=> by intro e;injection e with e;subst e;exact x4 z9 (k:=300) (r:=[]) (hs:=hz [(12,[.yes]),(1,[.yes]),(1,[.yes]),(1,[.yes]),(2,[.yes]),(1,[.yes]),(2,[.yes]),(1,[.yes]),(2,[.yes]),(1,[.yes]),(7,[.no,.no,.no,.no]),(1,[.yes]),(19,[.yes])]) (raw:=(AV.b false)) kq (ac h0 (ac h0 (ac h0 (ac h0 (ac h1 (ac h1 (ac h1 (ac h1 (ac h1 (ac h1 (ac h2 (ac h2 (ac h2 (ac h2 (ac h1 (ac (show z8 (rg Try.prog 38 0)=true∧x7 (Region.before (rg Try.prog 38 0)) [] 0 [(some [],some []),(some [0],some []),(some [],some []),(some [],some []),(some [],some []),(some [0],some []),(some [],some []),(some [0],some []),(some [],some []),(some [],some []),(some [],some []),(some [],some []),(some [],some []),(some [],some []),(some [],some []),(some [],some []),(some [],some []),(some [],some []),(some [],some []),(some [],some []),(some [],some []),(some [],some []),(some [],some []),(some [],some []),(some [],some []),(some [],some []),(some [],some []),(some [],some []),(some [],some []),(some [],some [])]=true from (x0 z3d z39 kq)) an)))))))))))))))) tq) fun h1 h1p=> by intro e;injection e with e;subst e;exact x4 z9 (k:=300) (r:=[]) (hs:=hz [(12,[.yes]),(1,[.yes]),(1,[.yes]),(1,[.yes]),(2,[.no,.no,.no,.no,.no,.no,.no]),(19,[.yes])]) (raw:=(AV.b false)) kq (ac h0 (ac h0 (ac h0 (ac h0 (ac h1 (ac h1 (ac h1 (ac h1 (ac h1 (ac h1 (ac h1 (ac (show z8 (rg Try.prog 38 0)=true∧x7 (Region.before (rg Try.prog 38 0)) [] 0 [(some [],some []),(some [0],some []),(some [],some []),(some [],some []),(some [],some []),(some [],some []),(some [],some []),(some [],some []),(some [],some []),(some [],some []),(some [],some []),(some [],some []),(some [],some []),(some [],some []),(some [],some []),(some [],some []),(some [],some []),(some [],some []),(some [],some []),(some [],some []),(some [],some []),(some [],some []),(some [],some []),(some [],some []),(some [],some []),(some [],some []),(some [],some []),(some [],some []),(some [],some []),(some [],some [])]=true from (x0 z3d z39 kq)) an)))))))))))) tq) fun h0 h0p=> by intro e;injection e with e;subst e;exact x4 z9 (k:=300) (r:=[]) (hs:=hz [(12,[.no,.no,.no,.no]),(28,[.yes])]) (raw:=(AV.b false)) kq (ac h0 (ac h0 (ac h0 (ac h0 (ac (show z8 (rg Try.prog 38 0)=true∧x7 (Region.before (rg Try.prog 38 0)) [] 0 [(some [],some []),(some [0],some []),(some [],some []),(some [],some []),(some [],some []),(some [],some []),(some [],some []),(some [],some []),(some [],some []),(some [],some []),(some [],some []),(some [],some []),(some [],some []),(some [],some []),(some [],some []),(some [],some []),(some [],some []),(some [],some []),(some [],some []),(some [],some []),(some [],some []),(some [],some []),(some [],some []),(some [],some []),(some [],some []),(some [],some []),(some [],some []),(some [],some []),(some [],some []),(some [],some [])]=true from (x0 z3d z39 kq)) an))))) tq
noncomputable def z6u (a:Ex) (b:Ex):Option (Bool):=
 (tc (z2p (a)) fun s0=> (tb (s0) (tc (z2p (b)) fun s2=> (tb (s2) (tb (((wr (a.lba+a.len))==b.lba)) (tb ((a.kind==b.kind)) (some ((a.gen==b.gen))) (some (false))) (some (false))) (some (false)))) (some (false))))
abbrev zuh (a:Ex) (b:Ex) (r:Bool):Prop:=z06 Try.prog cf true 39 [Ex.av (a),Ex.av (b)] (.b (r))
theorem z91 (a:Ex) (b:Ex) (r:Bool):z6u a b=some r→zuh a b r:=by
 unfold z6u
 exact w6 fun s0 h0=> t6 (fun h1=> w6 fun s2 h2=> t6 (fun h3=> tbE (fun h4 h4p=> tbE (fun h5 h5p=> by intro e;injection e with e;subst e;exact x4 z9 (k:=300) (r:=[]) (hs:=hz [(4,[.fc]),(1,[.fres (.b (s0))]),(1,[.yes]),(1,[.fc,.yes]),(1,[.fres (.b (s2)),.yes]),(1,[.yes]),(1,[.yes]),(2,[.yes]),(1,[.yes]),(2,[.yes]),(1,[.yes]),(1,[.yes]),(2,[.yes]),(1,[.yes]),(1,[.yes]),(1,[.yes]),(2,[.yes]),(1,[.yes]),(2,[.yes]),(1,[.yes]),(1,[.yes]),(1,[.yes]),(2,[.yes]),(1,[.yes]),(2,[.yes]),(1,[.yes]),(1,[])]) (raw:=(AV.b (a.gen==b.gen))) kq (ac (j9 (a) _ h0).any0 (ac h1 (ac h1 (ac (j9 (b) _ h2).any0 (ac h1 (ac h3 (ac h3 (ac h3 (ac h3 (ac h3 (ac h3 (ac h3 (ac h3 (ac h3 (ac h4 (ac h4 (ac h4 (ac h4 (ac h4 (ac h4 (ac h5 (ac h5 (ac h5 (ac h5 (ac h5 (ac h5 an)))))))))))))))))))))))))) tq) fun h5 h5p=> by intro e;injection e with e;subst e;exact x4 z9 (k:=300) (r:=[]) (hs:=hz [(4,[.fc]),(1,[.fres (.b (s0))]),(1,[.yes]),(1,[.fc,.yes]),(1,[.fres (.b (s2)),.yes]),(1,[.yes]),(1,[.yes]),(2,[.yes]),(1,[.yes]),(2,[.yes]),(1,[.yes]),(1,[.yes]),(2,[.yes]),(1,[.yes]),(1,[.yes]),(1,[.yes]),(2,[.yes]),(1,[.yes]),(2,[.yes]),(1,[.yes]),(1,[.no,.no,.no,.no,.no,.no]),(1,[])]) (raw:=(AV.b false)) kq (ac (j9 (a) _ h0).any0 (ac h1 (ac h1 (ac (j9 (b) _ h2).any0 (ac h1 (ac h3 (ac h3 (ac h3 (ac h3 (ac h3 (ac h3 (ac h3 (ac h3 (ac h3 (ac h4 (ac h4 (ac h4 (ac h4 (ac h4 (ac h4 (ac h5 (ac h5 (ac h5 (ac h5 (ac h5 (ac h5 an)))))))))))))))))))))))))) tq) fun h4 h4p=> by intro e;injection e with e;subst e;exact x4 z9 (k:=300) (r:=[]) (hs:=hz [(4,[.fc]),(1,[.fres (.b (s0))]),(1,[.yes]),(1,[.fc,.yes]),(1,[.fres (.b (s2)),.yes]),(1,[.yes]),(1,[.yes]),(2,[.yes]),(1,[.yes]),(2,[.yes]),(1,[.yes]),(1,[.yes]),(2,[.yes]),(1,[.yes]),(1,[.no,.no,.no,.no,.no,.no]),(8,[])]) (raw:=(AV.b false)) kq (ac (j9 (a) _ h0).any0 (ac h1 (ac h1 (ac (j9 (b) _ h2).any0 (ac h1 (ac h3 (ac h3 (ac h3 (ac h3 (ac h3 (ac h3 (ac h3 (ac h3 (ac h3 (ac h4 (ac h4 (ac h4 (ac h4 (ac h4 (ac h4 an)))))))))))))))))))) tq) fun h3=> by intro e;injection e with e;subst e;exact x4 z9 (k:=300) (r:=[]) (hs:=hz [(4,[.fc]),(1,[.fres (.b (s0))]),(1,[.yes]),(1,[.fc,.yes]),(1,[.fres (.b (s2)),.yes]),(1,[.no,.no,.no,.no,.no,.no,.no,.no,.no]),(15,[])]) (raw:=(AV.b false)) kq (ac (j9 (a) _ h0).any0 (ac h1 (ac h1 (ac (j9 (b) _ h2).any0 (ac h1 (ac h3 (ac h3 (ac h3 (ac h3 (ac h3 (ac h3 (ac h3 (ac h3 (ac h3 an)))))))))))))) tq) fun h1=> by intro e;injection e with e;subst e;exact x4 z9 (k:=300) (r:=[]) (hs:=hz [(4,[.fc]),(1,[.fres (.b (s0))]),(1,[.no,.no,.no]),(25,[])]) (raw:=(AV.b false)) kq (ac (j9 (a) _ h0).any0 (ac h1 (ac h1 (ac h1 an)))) tq
noncomputable abbrev z55 (blocks:Int) (l:List Ex):St:=(St.mk [(0,(AV.i blocks)),(1,(exs l)),(4,(AV.b false)),(5,(AV.i 0)),(8,(exs l)),(9,(AV.i (l.length:Int))),(10,(AV.i 0))] 50 (AH.mk 0 ([]:List (Prod Nat AObj))) false)
noncomputable abbrev z0m (blocks:Int) (l:List Ex) (s0:Int×Int):St:=(St.mk [(0,(AV.i blocks)),(1,(exs l)),(5,(AV.i s0.1)),(8,(exs l)),(9,(AV.i (l.length:Int))),(10,(AV.i s0.2))] 50 (AH.mk 0 ([]:List (Prod Nat AObj))) false)
noncomputable def z11 (blocks:Int) (l:List Ex) (s0:Int×Int):Option (Int×Int):=
 (tb ((decide (s0.2 < (l.length:Int)))) (tp ((((0:Int)≤s0.2)∧(s0.2 < (l.length:Int)))) (tc (z2p ((z0 l s0.2.toNat))) fun s3=> (tb ((!s3)) none (tb (((z0 l s0.2.toNat).lba !=s0.1)) none (tb ((decide (s0.2 > (0:Int)))) (tp ((((0:Int)≤(wr (s0.2 - (1:Int))))∧((wr (s0.2 - (1:Int))) < (l.length:Int)))) (tc (z6u ((z0 l (Int.toNat (wr (s0.2 - (1:Int)))))) ((z0 l s0.2.toNat))) fun s8=> (tb (s8) none (some (((wr (s0.1+(z0 l s0.2.toNat).len)),(wr (s0.2+(1:Int))))))))) (some (((wr (s0.1+(z0 l s0.2.toNat).len)),(wr (s0.2+(1:Int))))))))))) none)
theorem z49 (blocks:Int) (l:List Ex) (s0 zz:Int×Int):z11 blocks l s0=some zz→u7 Try.prog cf 0 (lp Try.prog 46 0) (z0m blocks l s0) (z0m blocks l zz):=by
 unfold z11
 exact tbD (fun h1 h1p=> x8 fun h2=> w6 fun s3 h3=> t6 (fun h4=> u6) fun h4=> tbN (fun h5 h5p=> u6) fun h5 h5p=> tbD (fun h6 h6p=> x8 fun h7=> w6 fun s8 h8=> t6 (fun h9=> u6) fun h9=> by intro e;injection e with e;subst e;exact z1f z9 (k:=300) (r:=[]) (hs:=hz [(1,[.yes]),(1,[.yes,.yes,.cells ((Ex.cells (z0 l s0.2.toNat)))]),(3,[.fc]),(1,[.fc]),(1,[.fres (.b (s3))]),(2,[.no]),(1,[.no]),(2,[.no]),(1,[.no]),(1,[.no]),(1,[.no]),(1,[.no]),(1,[.no]),(1,[.yes]),(1,[.yes]),(1,[.yes]),(1,[.yes,.yes,.yes,.yes,.cells ((Ex.cells (z0 l (Int.toNat (wr (s0.2 - (1:Int))))))),.yes]),(1,[.fc,.yes]),(1,[.fres (.b (s8)),.no,.yes,.no,.yes,.no]),(8,[])]) (ks:=[0,1,5,8,9,10]) (bs:=[]) kq (ac h1 (ac h2 (ac (fq (p:=((5:Nat)≤(List.length (List.drop (s0.2.toNat*5) (l.flatMap Ex.cells)))))) (ac (show (List.take 5 (List.drop (s0.2.toNat*5) (l.flatMap Ex.cells)))=(Ex.cells (z0 l s0.2.toNat)) from (w7 bq bq)) (ac (j9 ((z0 l s0.2.toNat)) _ h3).any0 (ac h4 (ac h4 (ac h4 (ac h4 (ac h4 (ac h5 (ac h5 (ac h5 (ac h6 (ac h6 (ac h6 (ac h6 (ac h7 (ac h6 (ac (fq (p:=((5:Nat)≤(List.length (List.drop ((Int.toNat (wr (s0.2 - (1:Int))))*5) (l.flatMap Ex.cells)))))) (ac (show (List.take 5 (List.drop ((Int.toNat (wr (s0.2 - (1:Int))))*5) (l.flatMap Ex.cells)))=(Ex.cells (z0 l (Int.toNat (wr (s0.2 - (1:Int)))))) from (w7 bq bq)) (ac h6 (ac h6 (ac (z91 ((z0 l (Int.toNat (wr (s0.2 - (1:Int)))))) ((z0 l s0.2.toNat)) _ h8).any0 (ac h5 (ac h6 (ac h5 (ac (show z8 (rg Try.prog 46 0)=true∧x7 (Region.before (rg Try.prog 46 0)) [] 0 [(some [0],some []),(some [],some []),(some [],some []),(some [],some []),(some [],some []),(some [0],some []),(some [],some []),(some [],some []),(some [],some []),(some [],some []),(some [],some []),(some [],some []),(some [],some []),(some [],some []),(some [],some []),(some [],some []),(some [],some []),(some [],some []),(some [0],some []),(some [],some []),(some [],some []),(some [],some [])]=true from (x0 z8m z8b kq)) (ac h9 an))))))))))))))))))))))))))))) kq) fun h6 h6p=> by intro e;injection e with e;subst e;exact z1f z9 (k:=300) (r:=[]) (hs:=hz [(1,[.yes]),(1,[.yes,.yes,.cells ((Ex.cells (z0 l s0.2.toNat)))]),(3,[.fc]),(1,[.fc]),(1,[.fres (.b (s3))]),(2,[.no]),(1,[.no]),(2,[.no]),(1,[.no]),(1,[.no]),(1,[.no]),(1,[.no]),(1,[.no]),(1,[.no,.no,.no,.no,.no,.no,.no,.no,.no,.no,.yes]),(9,[])]) (ks:=[0,1,5,8,9,10]) (bs:=[]) kq (ac h1 (ac h2 (ac (fq (p:=((5:Nat)≤(List.length (List.drop (s0.2.toNat*5) (l.flatMap Ex.cells)))))) (ac (show (List.take 5 (List.drop (s0.2.toNat*5) (l.flatMap Ex.cells)))=(Ex.cells (z0 l s0.2.toNat)) from (w7 bq bq)) (ac (j9 ((z0 l s0.2.toNat)) _ h3).any0 (ac h4 (ac h4 (ac h4 (ac h4 (ac h4 (ac h5 (ac h5 (ac h5 (ac h6 (ac h6 (ac h6 (ac h6 (ac h6 (ac h6 (ac h6 (ac h5 (ac h6 (ac h5 (ac (show z8 (rg Try.prog 46 0)=true∧x7 (Region.before (rg Try.prog 46 0)) [] 0 [(some [0],some []),(some [],some []),(some [],some []),(some [],some []),(some [],some []),(some [0],some []),(some [],some []),(some [],some []),(some [],some []),(some [],some []),(some [],some []),(some [],some []),(some [],some []),(some [],some []),(some [],some []),(some [],some []),(some [],some []),(some [],some []),(some [],some []),(some [],some []),(some [],some []),(some [],some [])]=true from (x0 z8m z8b kq)) an)))))))))))))))))))))))) kq) fun h1 h1p=> u6
noncomputable def z9w (blocks:Int) (l:List Ex):Option (Bool):=
 (th (z11 blocks l) (((0:Int),(0:Int))) fun s0=> (tb ((decide (s0.2 < (l.length:Int)))) (tp ((((0:Int)≤s0.2)∧(s0.2 < (l.length:Int)))) (tc (z2p ((z0 l s0.2.toNat))) fun s3=> (tb ((!s3)) (some (false)) (tb (((z0 l s0.2.toNat).lba !=s0.1)) (some (false)) (tb ((decide (s0.2 > (0:Int)))) (tp ((((0:Int)≤(wr (s0.2 - (1:Int))))∧((wr (s0.2 - (1:Int))) < (l.length:Int)))) (tc (z6u ((z0 l (Int.toNat (wr (s0.2 - (1:Int)))))) ((z0 l s0.2.toNat))) fun s8=> (tb (s8) (some (false)) none))) none))))) (tb ((decide ((l.length:Int) > (0:Int)))) (some ((s0.1==blocks))) (some (false)))))
abbrev zt8 (blocks:Int) (l:List Ex) (r:Bool):Prop:=z06 Try.prog cf true 46 [.i (blocks),exs (l)] (.b (r))
theorem z1h (blocks:Int) (l:List Ex) (r:Bool):z9w blocks l=some r→zt8 blocks l r:=by
 unfold z9w
 exact z13 fun s0 h0=> tbD (fun h1 h1p=> x8 fun h2=> w6 fun s3 h3=> t6 (fun h4=> by intro e;injection e with e;subst e;exact x4 z9 (k:=300) (r:=[]) (hs:=hz [(5,[.head (z0m blocks l s0)]),(1,[.yes]),(1,[.yes,.yes,.cells ((Ex.cells (z0 l s0.2.toNat)))]),(3,[.fc]),(1,[.fc]),(1,[.fres (.b (s3))]),(2,[.yes,.yes,.yes,.yes,.yes]),(6,[.yes]),(2,[])]) (raw:=(AV.b false)) kq (ac (show x5 Try.prog cf (lp Try.prog 46 0) (z55 blocks l) (z0m blocks l s0) from (x5.of (z49 blocks l) (y9 [] [] kq (.consn kq (.eqv tq rfl) (.consn kq (.eqv tq rfl) (.consn kq (.eqv tq rfl) (.consn kq (.eqv tq rfl) (.consn kq (.eqv tq rfl) (.consn kq (.eqv tq rfl) .nil)))))) .nil) h0)) (ac h1 (ac h2 (ac (fq (p:=((5:Nat)≤(List.length (List.drop (s0.2.toNat*5) (l.flatMap Ex.cells)))))) (ac (show (List.take 5 (List.drop (s0.2.toNat*5) (l.flatMap Ex.cells)))=(Ex.cells (z0 l s0.2.toNat)) from (w7 bq bq)) (ac (j9 ((z0 l s0.2.toNat)) _ h3).any0 (ac h4 (ac h4 (ac h4 (ac h4 (ac h4 (ac (show z8 (rg Try.prog 46 0)=true∧x7 (Region.before (rg Try.prog 46 0)) [] 0 [(some [0],some []),(some [],some []),(some [],some []),(some [],some []),(some [],some []),(some [],some []),(some [],some []),(some [],some []),(some [],some []),(some [],some []),(some [],some []),(some [],some []),(some [],some []),(some [],some []),(some [],some []),(some [],some []),(some [],some []),(some [],some []),(some [],some []),(some [],some []),(some [],some []),(some [],some [])]=true from (x0 z8m z8b kq)) an)))))))))))) tq) fun h4=> tbN (fun h5 h5p=> by intro e;injection e with e;subst e;exact x4 z9 (k:=300) (r:=[]) (hs:=hz [(5,[.head (z0m blocks l s0)]),(1,[.yes]),(1,[.yes,.yes,.cells ((Ex.cells (z0 l s0.2.toNat)))]),(3,[.fc]),(1,[.fc]),(1,[.fres (.b (s3))]),(2,[.no]),(1,[.no]),(2,[.no]),(1,[.no]),(1,[.no]),(1,[.yes,.yes,.yes,.yes,.yes,.yes]),(2,[])]) (raw:=(AV.b false)) kq (ac (show x5 Try.prog cf (lp Try.prog 46 0) (z55 blocks l) (z0m blocks l s0) from (x5.of (z49 blocks l) (y9 [] [] kq (.consn kq (.eqv tq rfl) (.consn kq (.eqv tq rfl) (.consn kq (.eqv tq rfl) (.consn kq (.eqv tq rfl) (.consn kq (.eqv tq rfl) (.consn kq (.eqv tq rfl) .nil)))))) .nil) h0)) (ac h1 (ac h2 (ac (fq (p:=((5:Nat)≤(List.length (List.drop (s0.2.toNat*5) (l.flatMap Ex.cells)))))) (ac (show (List.take 5 (List.drop (s0.2.toNat*5) (l.flatMap Ex.cells)))=(Ex.cells (z0 l s0.2.toNat)) from (w7 bq bq)) (ac (j9 ((z0 l s0.2.toNat)) _ h3).any0 (ac h4 (ac h4 (ac h4 (ac h4 (ac h4 (ac h5 (ac h5 (ac h5 (ac h5 (ac h5 (ac (show z8 (rg Try.prog 46 0)=true∧x7 (Region.before (rg Try.prog 46 0)) [] 0 [(some [0],some []),(some [],some []),(some [],some []),(some [],some []),(some [],some []),(some [0],some []),(some [],some []),(some [],some []),(some [],some []),(some [],some []),(some [],some []),(some [],some []),(some [],some []),(some [],some []),(some [],some []),(some [],some []),(some [],some []),(some [],some []),(some [],some []),(some [],some []),(some [],some []),(some [],some [])]=true from (x0 z8m z8b kq)) an))))))))))))))))) tq) fun h5 h5p=> tbD (fun h6 h6p=> x8 fun h7=> w6 fun s8 h8=> t6 (fun h9=> by intro e;injection e with e;subst e;exact x4 z9 (k:=300) (r:=[]) (hs:=hz [(5,[.head (z0m blocks l s0)]),(1,[.yes]),(1,[.yes,.yes,.cells ((Ex.cells (z0 l s0.2.toNat)))]),(3,[.fc]),(1,[.fc]),(1,[.fres (.b (s3))]),(2,[.no]),(1,[.no]),(2,[.no]),(1,[.no]),(1,[.no]),(1,[.no]),(1,[.no]),(1,[.no]),(1,[.yes]),(1,[.yes]),(1,[.yes]),(1,[.yes,.yes,.yes,.yes,.cells ((Ex.cells (z0 l (Int.toNat (wr (s0.2 - (1:Int))))))),.yes]),(1,[.fc,.yes]),(1,[.fres (.b (s8)),.no,.yes,.no,.yes,.yes]),(1,[])]) (raw:=(AV.b false)) kq (ac (show x5 Try.prog cf (lp Try.prog 46 0) (z55 blocks l) (z0m blocks l s0) from (x5.of (z49 blocks l) (y9 [] [] kq (.consn kq (.eqv tq rfl) (.consn kq (.eqv tq rfl) (.consn kq (.eqv tq rfl) (.consn kq (.eqv tq rfl) (.consn kq (.eqv tq rfl) (.consn kq (.eqv tq rfl) .nil)))))) .nil) h0)) (ac h1 (ac h2 (ac (fq (p:=((5:Nat)≤(List.length (List.drop (s0.2.toNat*5) (l.flatMap Ex.cells)))))) (ac (show (List.take 5 (List.drop (s0.2.toNat*5) (l.flatMap Ex.cells)))=(Ex.cells (z0 l s0.2.toNat)) from (w7 bq bq)) (ac (j9 ((z0 l s0.2.toNat)) _ h3).any0 (ac h4 (ac h4 (ac h4 (ac h4 (ac h4 (ac h5 (ac h5 (ac h5 (ac h6 (ac h6 (ac h6 (ac h6 (ac h7 (ac h6 (ac (fq (p:=((5:Nat)≤(List.length (List.drop ((Int.toNat (wr (s0.2 - (1:Int))))*5) (l.flatMap Ex.cells)))))) (ac (show (List.take 5 (List.drop ((Int.toNat (wr (s0.2 - (1:Int))))*5) (l.flatMap Ex.cells)))=(Ex.cells (z0 l (Int.toNat (wr (s0.2 - (1:Int)))))) from (w7 bq bq)) (ac h6 (ac h6 (ac (z91 ((z0 l (Int.toNat (wr (s0.2 - (1:Int)))))) ((z0 l s0.2.toNat)) _ h8).any0 (ac h5 (ac h6 (ac h5 (ac (show z8 (rg Try.prog 46 0)=true∧x7 (Region.before (rg Try.prog 46 0)) [] 0 [(some [0],some []),(some [],some []),(some [],some []),(some [],some []),(some [],some []),(some [0],some []),(some [],some []),(some [],some []),(some [],some []),(some [],some []),(some [],some []),(some [],some []),(some [],some []),(some [],some []),(some [],some []),(some [],some []),(some [],some []),(some [],some []),(some [0],some []),(some [],some []),(some [],some []),(some [],some [])]=true from (x0 z8m z8b kq)) (ac h9 an)))))))))))))))))))))))))))))) tq) fun h9=> u6) fun h6 h6p=> u6) fun h1 h1p=> tbD (fun h2 h2p=> by intro e;injection e with e;subst e;exact x4 z9 (k:=300) (r:=[]) (hs:=hz [(5,[.head (z0m blocks l s0)]),(1,[.no]),(4,[.yes]),(1,[.yes]),(1,[.yes]),(1,[.yes]),(1,[])]) (raw:=(AV.b (s0.1==blocks))) kq (ac (show x5 Try.prog cf (lp Try.prog 46 0) (z55 blocks l) (z0m blocks l s0) from (x5.of (z49 blocks l) (y9 [] [] kq (.consn kq (.eqv tq rfl) (.consn kq (.eqv tq rfl) (.consn kq (.eqv tq rfl) (.consn kq (.eqv tq rfl) (.consn kq (.eqv tq rfl) (.consn kq (.eqv tq rfl) .nil)))))) .nil) h0)) (ac h1 (ac h2 (ac h2 (ac h2 (ac h2 an)))))) tq) fun h2 h2p=> by intro e;injection e with e;subst e;exact x4 z9 (k:=300) (r:=[]) (hs:=hz [(5,[.head (z0m blocks l s0)]),(1,[.no]),(4,[.no,.no,.no,.no]),(1,[])]) (raw:=(AV.b false)) kq (ac (show x5 Try.prog cf (lp Try.prog 46 0) (z55 blocks l) (z0m blocks l s0) from (x5.of (z49 blocks l) (y9 [] [] kq (.consn kq (.eqv tq rfl) (.consn kq (.eqv tq rfl) (.consn kq (.eqv tq rfl) (.consn kq (.eqv tq rfl) (.consn kq (.eqv tq rfl) (.consn kq (.eqv tq rfl) .nil)))))) .nil) h0)) (ac h1 (ac h2 (ac h2 (ac h2 (ac h2 an)))))) tq
end Ab
end Go.Proofs.Ytpflcogplhigcaa
namespace Go.Proofs.Ytpflcogplhigcaa
open Go Go.Proofs.Ytpflcogplhigcaa.Ab
set_option linter.unusedVariables false
set_option linter.unusedSimpArgs false
namespace Ab
def Ck (x:Ex):Prop:=0≤x.lba∧x.lba≤64∧1≤x.len∧x.len≤64 - x.lba∧0≤x.kind∧x.kind≤2∧0≤x.gen∧x.gen≤2147483647∧(x.kind=2→(x.d.length:Int)=32*x.len)∧(x.kind≠2→x.d=[])
instance (x:Ex):Decidable (Ck x):=by unfold Ck;infer_instance
def ck (x:Ex):Bool:=decide (Ck x)
theorem znz {x:Ex}:ck x=true↔Ck x:=decide_eq_true_iff
theorem len0 {α:Type} {l:List α}:((l.length:Int)=0)↔l=[]:=by
 rw [←List.length_eq_zero_iff];omega
theorem zce {x:Ex} (h:Ck x):ck x=true:=znz.2 h
theorem zad {x:Ex} (h:¬Ck x):ck x=false:=decide_eq_false_iff_not.2 h
theorem z2m (x:Ex):z2p x=some (ck x):=by
 unfold z2p
 simp only [x9,z1u]
 by_cases h1:x.lba≥0
 case neg=> rw [if_neg h1,zad (by unfold Ck;omega)]
 by_cases h2:x.lba≤64
 case neg=> rw [if_pos h1,if_neg h2,zad (by unfold Ck;omega)]
 have hw:wr (64 - x.lba)=64 - x.lba:=t9 (by omega) (by omega)
 rw [hw,if_pos h1,if_pos h2]
 by_cases h3:x.len≥1
 case neg=> rw [if_neg h3,zad (by unfold Ck;omega)]
 by_cases h4:x.len≤64 - x.lba
 case neg=> rw [if_pos h3,if_neg h4,zad (by unfold Ck;omega)]
 have hw2:wr (x.len*32)=x.len*32:=t9 (by omega) (by omega)
 rw [hw2,if_pos h3,if_pos h4]
 by_cases h5:x.kind≥0
 case neg=> rw [if_neg h5,zad (by unfold Ck;omega)]
 by_cases h6:x.kind≤2
 case neg=> rw [if_pos h5,if_neg h6,zad (by unfold Ck;omega)]
 by_cases h7:x.gen≥0
 case neg=> rw [if_pos h5,if_pos h6,if_neg h7,zad (by unfold Ck;omega)]
 by_cases h8:x.gen≤2147483647
 case neg=> rw [if_pos h5,if_pos h6,if_pos h7,if_neg h8,zad (by unfold Ck;omega)]
 rw [if_pos h5,if_pos h6,if_pos h7,if_pos h8]
 by_cases h9:x.kind=2
 · rw [if_pos h9]
   congr 1
   rw [Bool.eq_iff_iff,znz,beq_iff_eq]
   exact ⟨fun h=> ⟨h1,h2,h3,h4,h5,h6,h7,h8,fun _=> by omega,fun h'=> absurd h9 h'⟩,fun h=> by have:=h.2.2.2.2.2.2.2.2.1 h9;omega⟩
 · rw [if_neg h9]
   congr 1
   rw [Bool.eq_iff_iff,znz,beq_iff_eq,len0]
   exact ⟨fun h=> ⟨h1,h2,h3,h4,h5,h6,h7,h8,fun h'=> absurd h' h9,fun _=> h⟩,fun h=> h.2.2.2.2.2.2.2.2.2 h9⟩
def Jn (a b:Ex):Prop:=Ck a∧Ck b∧a.lba+a.len=b.lba∧a.kind=b.kind∧a.gen=b.gen
instance (a b:Ex):Decidable (Jn a b):=by unfold Jn;infer_instance
def jn (a b:Ex):Bool:=decide (Jn a b)
theorem zv3 {a b:Ex}:jn a b=true↔Jn a b:=decide_eq_true_iff
theorem zp8 {a b:Ex} (h:¬Jn a b):jn a b=false:=decide_eq_false_iff_not.2 h
theorem jn_t {a b:Ex} (h:Jn a b):jn a b=true:=zv3.2 h
theorem z93 (a b:Ex):z6u a b=some (jn a b):=by
 unfold z6u
 simp only [z2m,v6]
 by_cases ha:Ck a
 case neg=> rw [zad ha,zp8 (fun h=> ha h.1)];first | rfl | (cases ck b <;> rfl)
 by_cases hb:Ck b
 case neg=> rw [zce ha,zad hb,zp8 (fun h=> hb h.2.1)];rfl
 have:wr (a.lba+a.len)=a.lba+a.len:=by unfold Ck at ha;exact t9 (by omega) (by omega)
 rw [zce ha,zce hb,this]
 simp only [z68,z1u]
 by_cases h1:a.lba+a.len=b.lba
 case neg=> rw [if_neg h1,zp8 (fun h=> h1 h.2.2.1)]
 by_cases h2:a.kind=b.kind
 case neg=> rw [if_pos h1,if_neg h2,zp8 (fun h=> h2 h.2.2.2.1)]
 rw [if_pos h1,if_pos h2]
 congr 1
 rw [Bool.eq_iff_iff,zv3,beq_iff_eq]
 exact ⟨fun h=> ⟨ha,hb,h1,h2,h⟩,fun h=> h.2.2.2.2⟩
theorem z1m (l:List Ex) (p:Ex→Prop):(∀i,i < l.length→p (z0 l i))↔∀x∈l,p x:=by
 unfold z0;exact zb2 _ l p
end Ab
end Go.Proofs.Ytpflcogplhigcaa
namespace Go.Proofs.Ytpflcogplhigcaa
open Go Go.Proofs.Ytpflcogplhigcaa.Ab
set_option linter.unusedVariables false
set_option linter.unusedSimpArgs false
set_option maxRecDepth 1000000
set_option maxHeartbeats 0
namespace Ab
noncomputable def z0i (n:Int) (low:Int) (high:Int):Option (Bool):=
 (tb ((decide (n≥low))) (some ((decide (n≤high)))) (some (false)))
abbrev zse (n:Int) (low:Int) (high:Int) (r:Bool):Prop:=z06 Try.prog cf true 52 [.i (n),.i (low),.i (high)] (.b (r))
theorem z7 (n:Int) (low:Int) (high:Int) (r:Bool):z0i n low high=some r→zse n low high r:=by
 unfold z0i
 exact tbD (fun h0 h0p=> by intro e;injection e with e;subst e;exact x4 z9 (k:=300) (r:=[]) (hs:=hz [(5,[.yes]),(1,[.yes]),(1,[.yes]),(1,[.yes]),(1,[])]) (raw:=(AV.b (decide (n≤high)))) kq (ac h0 (ac h0 (ac h0 (ac h0 an)))) tq) fun h0 h0p=> by intro e;injection e with e;subst e;exact x4 z9 (k:=300) (r:=[]) (hs:=hz [(5,[.no,.no,.no,.no]),(1,[])]) (raw:=(AV.b false)) kq (ac h0 (ac h0 (ac h0 (ac h0 an)))) tq
noncomputable abbrev z6r (l:List Ex):St:=(St.mk [(0,(exs l)),(2,(AV.b false)),(3,(AV.i 0)),(6,(exs l)),(7,(AV.i (l.length:Int))),(8,(AV.i 0))] 30 (AH.mk 0 ([]:List (Prod Nat AObj))) false)
noncomputable abbrev z16 (l:List Ex) (s0:Int×Int):St:=(St.mk [(0,(exs l)),(3,(AV.i s0.1)),(6,(exs l)),(7,(AV.i (l.length:Int))),(8,(AV.i s0.2))] 30 (AH.mk 0 ([]:List (Prod Nat AObj))) false)
noncomputable def z0v (l:List Ex) (s0:Int×Int):Option (Int×Int):=
 (tb ((decide (s0.2 < (l.length:Int)))) (tp ((((0:Int)≤s0.2)∧(s0.2 < (l.length:Int)))) (tc (z2p ((z0 l s0.2.toNat))) fun s3=> (tb ((!s3)) none (tb ((decide ((z0 l s0.2.toNat).lba < s0.1))) none (some (((wr ((z0 l s0.2.toNat).lba+(z0 l s0.2.toNat).len)),(wr (s0.2+(1:Int)))))))))) none)
theorem z5x (l:List Ex) (s0 zz:Int×Int):z0v l s0=some zz→u7 Try.prog cf 0 (lp Try.prog 54 0) (z16 l s0) (z16 l zz):=by
 unfold z0v
 exact tbD (fun h1 h1p=> x8 fun h2=> w6 fun s3 h3=> t6 (fun h4=> u6) fun h4=> tbD (fun h5 h5p=> u6) fun h5 h5p=> by intro e;injection e with e;subst e;exact z1f z9 (k:=300) (r:=[]) (hs:=hz [(1,[.yes,.yes,.yes,.cells ((Ex.cells (z0 l s0.2.toNat)))]),(2,[.fc]),(1,[.fc]),(1,[.fres (.b (s3))]),(2,[.no]),(1,[.no]),(2,[.no]),(1,[.no]),(1,[.no,.no]),(10,[])]) (ks:=[0,3,6,7,8]) (bs:=[]) kq (ac h1 (ac h2 (ac (fq (p:=((5:Nat)≤(List.length (List.drop (s0.2.toNat*5) (l.flatMap Ex.cells)))))) (ac (show (List.take 5 (List.drop (s0.2.toNat*5) (l.flatMap Ex.cells)))=(Ex.cells (z0 l s0.2.toNat)) from (w7 bq bq)) (ac (j9 ((z0 l s0.2.toNat)) _ h3).any0 (ac h4 (ac h4 (ac h4 (ac h4 (ac h4 (ac h5 an))))))))))) kq) fun h1 h1p=> u6
noncomputable def z8s (l:List Ex):Option (Bool):=
 (th (z0v l) (((0:Int),(0:Int))) fun s0=> (tb ((decide (s0.2 < (l.length:Int)))) (tp ((((0:Int)≤s0.2)∧(s0.2 < (l.length:Int)))) (tc (z2p ((z0 l s0.2.toNat))) fun s3=> (tb ((!s3)) (some (false)) (tb ((decide ((z0 l s0.2.toNat).lba < s0.1))) (some (false)) none)))) (some ((decide ((l.length:Int)≤(64:Int)))))))
abbrev zoj (l:List Ex) (r:Bool):Prop:=z06 Try.prog cf true 54 [exs (l)] (.b (r))
theorem zkf (l:List Ex) (r:Bool):z8s l=some r→zoj l r:=by
 unfold z8s
 exact z13 fun s0 h0=> tbD (fun h1 h1p=> x8 fun h2=> w6 fun s3 h3=> t6 (fun h4=> by intro e;injection e with e;subst e;exact x4 z9 (k:=300) (r:=[]) (hs:=hz [(5,[.head (z16 l s0)]),(1,[.yes,.yes,.yes,.cells ((Ex.cells (z0 l s0.2.toNat)))]),(2,[.fc]),(1,[.fc]),(1,[.fres (.b (s3))]),(2,[.yes,.yes,.yes,.yes,.yes]),(2,[])]) (raw:=(AV.b false)) kq (ac (show x5 Try.prog cf (lp Try.prog 54 0) (z6r l) (z16 l s0) from (x5.of (z5x l) (y9 [] [] kq (.consn kq (.eqv tq rfl) (.consn kq (.eqv tq rfl) (.consn kq (.eqv tq rfl) (.consn kq (.eqv tq rfl) (.consn kq (.eqv tq rfl) .nil))))) .nil) h0)) (ac h1 (ac h2 (ac (fq (p:=((5:Nat)≤(List.length (List.drop (s0.2.toNat*5) (l.flatMap Ex.cells)))))) (ac (show (List.take 5 (List.drop (s0.2.toNat*5) (l.flatMap Ex.cells)))=(Ex.cells (z0 l s0.2.toNat)) from (w7 bq bq)) (ac (j9 ((z0 l s0.2.toNat)) _ h3).any0 (ac h4 (ac h4 (ac h4 (ac h4 (ac h4 an))))))))))) tq) fun h4=> tbD (fun h5 h5p=> by intro e;injection e with e;subst e;exact x4 z9 (k:=300) (r:=[]) (hs:=hz [(5,[.head (z16 l s0)]),(1,[.yes,.yes,.yes,.cells ((Ex.cells (z0 l s0.2.toNat)))]),(2,[.fc]),(1,[.fc]),(1,[.fres (.b (s3))]),(2,[.no]),(1,[.no]),(2,[.no]),(1,[.no]),(1,[.no,.yes]),(1,[])]) (raw:=(AV.b false)) kq (ac (show x5 Try.prog cf (lp Try.prog 54 0) (z6r l) (z16 l s0) from (x5.of (z5x l) (y9 [] [] kq (.consn kq (.eqv tq rfl) (.consn kq (.eqv tq rfl) (.consn kq (.eqv tq rfl) (.consn kq (.eqv tq rfl) (.consn kq (.eqv tq rfl) .nil))))) .nil) h0)) (ac h1 (ac h2 (ac (fq (p:=((5:Nat)≤(List.length (List.drop (s0.2.toNat*5) (l.flatMap Ex.cells)))))) (ac (show (List.take 5 (List.drop (s0.2.toNat*5) (l.flatMap Ex.cells)))=(Ex.cells (z0 l s0.2.toNat)) from (w7 bq bq)) (ac (j9 ((z0 l s0.2.toNat)) _ h3).any0 (ac h4 (ac h4 (ac h4 (ac h4 (ac h4 (ac h5 an)))))))))))) tq) fun h5 h5p=> u6) fun h1 h1p=> by intro e;injection e with e;subst e;exact x4 z9 (k:=300) (r:=[]) (hs:=hz [(5,[.head (z16 l s0)]),(1,[.no]),(4,[])]) (raw:=(AV.b (decide ((l.length:Int)≤(64:Int))))) kq (ac (show x5 Try.prog cf (lp Try.prog 54 0) (z6r l) (z16 l s0) from (x5.of (z5x l) (y9 [] [] kq (.consn kq (.eqv tq rfl) (.consn kq (.eqv tq rfl) (.consn kq (.eqv tq rfl) (.consn kq (.eqv tq rfl) (.consn kq (.eqv tq rfl) .nil))))) .nil) h0)) (ac h1 an)) tq
noncomputable def zfo (c:Ch):Option (Bool):=
 (tc (z0i (c.kind) ((1:Int)) ((8:Int))) fun s0=> (tb ((!s0)) (some (false)) (tb ((decide (c.kind=(0:Int)))) (tb ((c.lba==(0:Int))) (tb ((c.n==(0:Int))) (tb ((c.id==(0:Int))) none (some (false))) (some (false))) (some (false))) (tb ((decide (c.kind=(1:Int)))) (tb ((c.lba==(0:Int))) (tc (z0i (c.lba) ((0:Int)) ((64:Int))) fun s5=> (tb (s5) (tc (z0i (c.n) ((1:Int)) ((wr ((64:Int) - c.lba)))) fun s7=> (tb (s7) (tb ((c.id==(0:Int))) (tb (((c.d.length:Int)==(wr (c.n*(32:Int))))) (tb (((c.list.length:Int)==(0:Int))) (some (true)) (some (false))) (some (false))) (some (false))) (some (false)))) (some (false)))) (tc (z0i (c.lba) ((0:Int)) ((64:Int))) fun s5=> (tb (s5) (tc (z0i (c.n) ((1:Int)) ((wr ((64:Int) - c.lba)))) fun s7=> (tb (s7) (tb ((c.id==(0:Int))) (tb (((c.d.length:Int)==(wr (c.n*(32:Int))))) (tb (((c.list.length:Int)==(0:Int))) (some (true)) (some (false))) (some (false))) (some (false))) (some (false)))) (some (false))))) (tb ((decide (c.kind=(2:Int)))) (tb ((c.lba==(0:Int))) (tc (z0i (c.lba) ((0:Int)) ((64:Int))) fun s6=> (tb (s6) (tc (z0i (c.n) ((1:Int)) ((wr ((64:Int) - c.lba)))) fun s8=> (tb (s8) (tb ((c.id==(0:Int))) (tb (((c.d.length:Int)==(0:Int))) (tb (((c.list.length:Int)==(0:Int))) (some (true)) (some (false))) (some (false))) (some (false))) (some (false)))) (some (false)))) (tc (z0i (c.lba) ((0:Int)) ((64:Int))) fun s6=> (tb (s6) (tc (z0i (c.n) ((1:Int)) ((wr ((64:Int) - c.lba)))) fun s8=> (tb (s8) (tb ((c.id==(0:Int))) (tb (((c.d.length:Int)==(0:Int))) (tb (((c.list.length:Int)==(0:Int))) (some (true)) (some (false))) (some (false))) (some (false))) (some (false)))) (some (false))))) (tb ((decide (c.kind=(3:Int)))) (tb ((c.lba==(0:Int))) (tc (z0i (c.lba) ((0:Int)) ((64:Int))) fun s7=> (tb (s7) (tc (z0i (c.n) ((1:Int)) ((wr ((64:Int) - c.lba)))) fun s9=> (tb (s9) (tb ((c.id==(0:Int))) (tb (((c.d.length:Int)==(0:Int))) (tb (((c.list.length:Int)==(0:Int))) (some (true)) (some (false))) (some (false))) (some (false))) (some (false)))) (some (false)))) (tc (z0i (c.lba) ((0:Int)) ((64:Int))) fun s7=> (tb (s7) (tc (z0i (c.n) ((1:Int)) ((wr ((64:Int) - c.lba)))) fun s9=> (tb (s9) (tb ((c.id==(0:Int))) (tb (((c.d.length:Int)==(0:Int))) (tb (((c.list.length:Int)==(0:Int))) (some (true)) (some (false))) (some (false))) (some (false))) (some (false)))) (some (false))))) (tb ((decide (c.kind=(4:Int)))) (tb ((c.lba==(0:Int))) (tc (z0i (c.id) ((1:Int)) ((2147483647:Int))) fun s8=> (tb ((c.n==(0:Int))) (tb (s8) (tb (((c.d.length:Int)==(0:Int))) (tb (((c.list.length:Int)==(0:Int))) (some (true)) (some (false))) (some (false))) (some (false))) (some (false)))) (tc (z0i (c.id) ((1:Int)) ((2147483647:Int))) fun s8=> (some (false)))) (tb ((decide (c.kind=(5:Int)))) (tb ((c.lba==(0:Int))) (tc (z0i (c.id) ((1:Int)) ((2147483647:Int))) fun s9=> (tb ((c.n==(0:Int))) (tb (s9) (tb (((c.d.length:Int)==(0:Int))) (tb (((c.list.length:Int)==(0:Int))) (some (true)) (some (false))) (some (false))) (some (false))) (some (false)))) (tc (z0i (c.id) ((1:Int)) ((2147483647:Int))) fun s9=> (some (false)))) (tb ((decide (c.kind=(6:Int)))) (tb ((c.lba==(0:Int))) (tb ((c.n==(0:Int))) (tb ((c.id==(0:Int))) (tc (z0i ((c.d.length:Int)) ((1:Int)) ((1000:Int))) fun s12=> (tb (s12) (tb (((c.list.length:Int)==(0:Int))) (some (true)) (some (false))) (some (false)))) (some (false))) (some (false))) (some (false))) (tb ((decide (c.kind=(7:Int)))) (tb ((c.lba==(0:Int))) (tb ((c.n==(0:Int))) (tb ((c.id==(0:Int))) (tb (((c.d.length:Int)==(0:Int))) (tb (((c.list.length:Int)==(0:Int))) (some (true)) (some (false))) (some (false))) (some (false))) (some (false))) (some (false))) (tb ((decide (c.kind=(8:Int)))) (tb ((c.lba==(0:Int))) (tc (z0i (c.id) ((1:Int)) ((2147483647:Int))) fun s12=> (tb ((c.n==(0:Int))) (tb (s12) (tb (((c.d.length:Int)==(0:Int))) (tb (((c.list.length:Int)==(0:Int))) (some (true)) (tc (z8s (c.list)) fun s17=> (some (s17)))) (some (false))) (some (false))) (some (false)))) (tc (z0i (c.id) ((1:Int)) ((2147483647:Int))) fun s12=> (some (false)))) none)))))))))))
abbrev zu9 (c:Ch) (r:Bool):Prop:=z06 Try.prog cf true 31 [Ch.av (c)] (.b (r))
theorem z03 (c:Ch) (r:Bool):zfo c=some r→zu9 c r:=by
 unfold zfo
 exact w6 fun s0 h0=> t6 (fun h1=> by intro e;injection e with e;subst e;exact x4 z9 (k:=300) (r:=[]) (hs:=hz [(6,[.fres (.b (s0))]),(1,[.yes]),(1,[])]) (raw:=(AV.b false)) kq (ac (z7 (c.kind) ((1:Int)) ((8:Int)) _ h0).any0 (ac h1 an)) tq) fun h1=> tbD (fun h2 h2p=> tbE (fun h3 h3p=> tbE (fun h4 h4p=> tbE (fun h5 h5p=> u6) fun h5 h5p=> by intro e;injection e with e;subst e;exact x4 z9 (k:=300) (r:=[]) (hs:=hz [(6,[.fres (.b (s0))]),(1,[.no]),(23,[.fc]),(1,[.fc]),(1,[.fc]),(1,[.fc]),(1,[.fc]),(1,[.fc]),(1,[.fc]),(1,[.fc,.fc]),(1,[.fc]),(1,[.fc]),(3,[.yes,.yes]),(2,[.fc,.yes]),(5,[.yes]),(1,[.yes]),(2,[.yes]),(1,[.yes]),(16,[.yes]),(1,[.yes]),(1,[.no,.no,.no,.no,.no]),(9,[])]) (raw:=(AV.b false)) kq (ac (z7 (c.kind) ((1:Int)) ((8:Int)) _ h0).any0 (ac h1 (ac h2 (ac (fq (p:=(((0:Int)≤c.kind)∧(c.kind < (9:Int))))) (ac (show z8 (rg Try.prog 31 0)=true∧x7 (Region.before (rg Try.prog 31 0)) [] 0 [(some [],some []),(some [],some []),(some [0],some []),(some [],some []),(some [],some [1]),(some [1],some [1])]=true from (x0 w9 w8 kq)) (ac h3 (ac h3 (ac h3 (ac h3 (ac h4 (ac h4 (ac h5 (ac h5 (ac h5 (ac h5 (ac h5 an)))))))))))))))) tq) fun h4 h4p=> by intro e;injection e with e;subst e;exact x4 z9 (k:=300) (r:=[]) (hs:=hz [(6,[.fres (.b (s0))]),(1,[.no]),(23,[.fc]),(1,[.fc]),(1,[.fc]),(1,[.fc]),(1,[.fc]),(1,[.fc]),(1,[.fc]),(1,[.fc,.fc]),(1,[.fc]),(1,[.fc]),(3,[.yes,.yes]),(2,[.fc,.yes]),(5,[.yes]),(1,[.yes]),(2,[.yes]),(1,[.yes]),(16,[.no,.no]),(15,[])]) (raw:=(AV.b false)) kq (ac (z7 (c.kind) ((1:Int)) ((8:Int)) _ h0).any0 (ac h1 (ac h2 (ac (fq (p:=(((0:Int)≤c.kind)∧(c.kind < (9:Int))))) (ac (show z8 (rg Try.prog 31 0)=true∧x7 (Region.before (rg Try.prog 31 0)) [] 0 [(some [],some []),(some [],some []),(some [0],some []),(some [],some []),(some [],some [1]),(some [1],some [1])]=true from (x0 w9 w8 kq)) (ac h3 (ac h3 (ac h3 (ac h3 (ac h4 (ac h4 an))))))))))) tq) fun h3 h3p=> by intro e;injection e with e;subst e;exact x4 z9 (k:=300) (r:=[]) (hs:=hz [(6,[.fres (.b (s0))]),(1,[.no]),(23,[.fc]),(1,[.fc]),(1,[.fc]),(1,[.fc]),(1,[.fc]),(1,[.fc]),(1,[.fc]),(1,[.fc,.fc]),(1,[.fc]),(1,[.fc]),(3,[.yes,.yes]),(2,[.fc,.yes]),(5,[.no,.no,.no,.no]),(33,[])]) (raw:=(AV.b false)) kq (ac (z7 (c.kind) ((1:Int)) ((8:Int)) _ h0).any0 (ac h1 (ac h2 (ac (fq (p:=(((0:Int)≤c.kind)∧(c.kind < (9:Int))))) (ac (show z8 (rg Try.prog 31 0)=true∧x7 (Region.before (rg Try.prog 31 0)) [] 0 [(some [],some []),(some [],some []),(some [0],some []),(some [],some []),(some [],some [1]),(some [1],some [1])]=true from (x0 w9 w8 kq)) (ac h3 (ac h3 (ac h3 (ac h3 an))))))))) tq) fun h2 h2p=> tbD (fun h3 h3p=> tbE (fun h4 h4p=> w6 fun s5 h5=> t6 (fun h6=> w6 fun s7 h7=> t6 (fun h8=> tbE (fun h9 h9p=> tbE (fun h10 h10p=> tbE (fun h11 h11p=> by intro e;injection e with e;subst e;exact x4 z9 (k:=300) (r:=[]) (hs:=hz [(6,[.fres (.b (s0))]),(1,[.no]),(23,[.fc]),(1,[.fc]),(1,[.fc]),(1,[.fc]),(1,[.fc]),(1,[.fc]),(1,[.fc]),(1,[.fc,.fc]),(1,[.fc]),(1,[.fc]),(3,[.no,.yes,.yes]),(2,[.fc,.yes]),(5,[.yes]),(1,[.yes]),(2,[.yes]),(1,[.yes]),(9,[.fres (.b (s5))]),(1,[.yes]),(1,[.yes]),(2,[.yes]),(1,[.yes]),(2,[.yes]),(1,[.yes]),(1,[.fres (.b (s7)),.yes]),(12,[.yes]),(1,[.yes]),(1,[.yes]),(1,[.yes]),(2,[.yes]),(1,[.fc,.yes]),(13,[.yes]),(1,[.yes]),(1,[.yes]),(2,[.yes]),(1,[.yes]),(1,[.yes]),(1,[.yes,.yes,.yes,.yes,.yes,.yes,.yes]),(1,[])]) (raw:=(AV.b true)) kq (ac (z7 (c.kind) ((1:Int)) ((8:Int)) _ h0).any0 (ac h1 (ac h2 (ac h3 (ac (fq (p:=(((0:Int)≤c.kind)∧(c.kind < (9:Int))))) (ac (show z8 (rg Try.prog 31 0)=true∧x7 (Region.before (rg Try.prog 31 0)) [] 0 [(some [],some []),(some [],some []),(some [0],some []),(some [],some []),(some [],some [1]),(some [1],some [1])]=true from (x0 w9 w8 kq)) (ac h4 (ac h4 (ac h4 (ac h4 (ac (z7 (c.lba) ((0:Int)) ((64:Int)) _ h5).any0 (ac h6 (ac h6 (ac h6 (ac h6 (ac h6 (ac h6 (ac (z7 (c.n) ((1:Int)) ((wr ((64:Int) - c.lba))) _ h7).any0 (ac h6 (ac h8 (ac h8 (ac h9 (ac h9 (ac h9 (ac h9 (ac h9 (ac h10 (ac h10 (ac h10 (ac h10 (ac h10 (ac h11 (ac h11 (ac h11 (ac h11 (ac h10 (ac h11 (ac h10 an)))))))))))))))))))))))))))))))))))))) tq) fun h11 h11p=> by intro e;injection e with e;subst e;exact x4 z9 (k:=300) (r:=[]) (hs:=hz [(6,[.fres (.b (s0))]),(1,[.no]),(23,[.fc]),(1,[.fc]),(1,[.fc]),(1,[.fc]),(1,[.fc]),(1,[.fc]),(1,[.fc]),(1,[.fc,.fc]),(1,[.fc]),(1,[.fc]),(3,[.no,.yes,.yes]),(2,[.fc,.yes]),(5,[.yes]),(1,[.yes]),(2,[.yes]),(1,[.yes]),(9,[.fres (.b (s5))]),(1,[.yes]),(1,[.yes]),(2,[.yes]),(1,[.yes]),(2,[.yes]),(1,[.yes]),(1,[.fres (.b (s7)),.yes]),(12,[.yes]),(1,[.yes]),(1,[.yes]),(1,[.yes]),(2,[.yes]),(1,[.fc,.yes]),(13,[.yes]),(1,[.yes]),(1,[.yes]),(2,[.yes]),(1,[.yes]),(1,[.yes]),(1,[.no]),(1,[.no]),(2,[.no]),(4,[.no]),(1,[.yes,.no,.yes]),(1,[])]) (raw:=(AV.b false)) kq (ac (z7 (c.kind) ((1:Int)) ((8:Int)) _ h0).any0 (ac h1 (ac h2 (ac h3 (ac (fq (p:=(((0:Int)≤c.kind)∧(c.kind < (9:Int))))) (ac (show z8 (rg Try.prog 31 0)=true∧x7 (Region.before (rg Try.prog 31 0)) [] 0 [(some [],some []),(some [],some []),(some [0],some []),(some [],some []),(some [],some [1]),(some [1],some [1])]=true from (x0 w9 w8 kq)) (ac h4 (ac h4 (ac h4 (ac h4 (ac (z7 (c.lba) ((0:Int)) ((64:Int)) _ h5).any0 (ac h6 (ac h6 (ac h6 (ac h6 (ac h6 (ac h6 (ac (z7 (c.n) ((1:Int)) ((wr ((64:Int) - c.lba))) _ h7).any0 (ac h6 (ac h8 (ac h8 (ac h9 (ac h9 (ac h9 (ac h9 (ac h9 (ac h10 (ac h10 (ac h10 (ac h10 (ac h10 (ac h11 (ac h11 (ac h11 (ac h11 (ac h10 (ac h11 (ac h10 an)))))))))))))))))))))))))))))))))))))) tq) fun h10 h10p=> by intro e;injection e with e;subst e;exact x4 z9 (k:=300) (r:=[]) (hs:=hz [(6,[.fres (.b (s0))]),(1,[.no]),(23,[.fc]),(1,[.fc]),(1,[.fc]),(1,[.fc]),(1,[.fc]),(1,[.fc]),(1,[.fc]),(1,[.fc,.fc]),(1,[.fc]),(1,[.fc]),(3,[.no,.yes,.yes]),(2,[.fc,.yes]),(5,[.yes]),(1,[.yes]),(2,[.yes]),(1,[.yes]),(9,[.fres (.b (s5))]),(1,[.yes]),(1,[.yes]),(2,[.yes]),(1,[.yes]),(2,[.yes]),(1,[.yes]),(1,[.fres (.b (s7)),.yes]),(12,[.yes]),(1,[.yes]),(1,[.yes]),(1,[.yes]),(2,[.yes]),(1,[.fc,.yes]),(13,[.yes]),(1,[.no,.no,.no,.no,.no,.no,.no]),(1,[])]) (raw:=(AV.b false)) kq (ac (z7 (c.kind) ((1:Int)) ((8:Int)) _ h0).any0 (ac h1 (ac h2 (ac h3 (ac (fq (p:=(((0:Int)≤c.kind)∧(c.kind < (9:Int))))) (ac (show z8 (rg Try.prog 31 0)=true∧x7 (Region.before (rg Try.prog 31 0)) [] 0 [(some [],some []),(some [],some []),(some [0],some []),(some [],some []),(some [],some [1]),(some [1],some [1])]=true from (x0 w9 w8 kq)) (ac h4 (ac h4 (ac h4 (ac h4 (ac (z7 (c.lba) ((0:Int)) ((64:Int)) _ h5).any0 (ac h6 (ac h6 (ac h6 (ac h6 (ac h6 (ac h6 (ac (z7 (c.n) ((1:Int)) ((wr ((64:Int) - c.lba))) _ h7).any0 (ac h6 (ac h8 (ac h8 (ac h9 (ac h9 (ac h9 (ac h9 (ac h9 (ac h10 (ac h10 (ac h10 (ac h10 (ac h10 (ac h10 (ac h10 an))))))))))))))))))))))))))))))))) tq) fun h9 h9p=> by intro e;injection e with e;subst e;exact x4 z9 (k:=300) (r:=[]) (hs:=hz [(6,[.fres (.b (s0))]),(1,[.no]),(23,[.fc]),(1,[.fc]),(1,[.fc]),(1,[.fc]),(1,[.fc]),(1,[.fc]),(1,[.fc]),(1,[.fc,.fc]),(1,[.fc]),(1,[.fc]),(3,[.no,.yes,.yes]),(2,[.fc,.yes]),(5,[.yes]),(1,[.yes]),(2,[.yes]),(1,[.yes]),(9,[.fres (.b (s5))]),(1,[.yes]),(1,[.yes]),(2,[.yes]),(1,[.yes]),(2,[.yes]),(1,[.yes]),(1,[.fres (.b (s7)),.yes]),(12,[.yes]),(1,[.yes]),(1,[.no,.no,.no,.no,.no]),(9,[])]) (raw:=(AV.b false)) kq (ac (z7 (c.kind) ((1:Int)) ((8:Int)) _ h0).any0 (ac h1 (ac h2 (ac h3 (ac (fq (p:=(((0:Int)≤c.kind)∧(c.kind < (9:Int))))) (ac (show z8 (rg Try.prog 31 0)=true∧x7 (Region.before (rg Try.prog 31 0)) [] 0 [(some [],some []),(some [],some []),(some [0],some []),(some [],some []),(some [],some [1]),(some [1],some [1])]=true from (x0 w9 w8 kq)) (ac h4 (ac h4 (ac h4 (ac h4 (ac (z7 (c.lba) ((0:Int)) ((64:Int)) _ h5).any0 (ac h6 (ac h6 (ac h6 (ac h6 (ac h6 (ac h6 (ac (z7 (c.n) ((1:Int)) ((wr ((64:Int) - c.lba))) _ h7).any0 (ac h6 (ac h8 (ac h8 (ac h9 (ac h9 (ac h9 (ac h9 (ac h9 an)))))))))))))))))))))))))) tq) fun h8=> by intro e;injection e with e;subst e;exact x4 z9 (k:=300) (r:=[]) (hs:=hz [(6,[.fres (.b (s0))]),(1,[.no]),(23,[.fc]),(1,[.fc]),(1,[.fc]),(1,[.fc]),(1,[.fc]),(1,[.fc]),(1,[.fc]),(1,[.fc,.fc]),(1,[.fc]),(1,[.fc]),(3,[.no,.yes,.yes]),(2,[.fc,.yes]),(5,[.yes]),(1,[.yes]),(2,[.yes]),(1,[.yes]),(9,[.fres (.b (s5))]),(1,[.yes]),(1,[.yes]),(2,[.yes]),(1,[.yes]),(2,[.yes]),(1,[.yes]),(1,[.fres (.b (s7)),.yes]),(12,[.no,.no]),(15,[])]) (raw:=(AV.b false)) kq (ac (z7 (c.kind) ((1:Int)) ((8:Int)) _ h0).any0 (ac h1 (ac h2 (ac h3 (ac (fq (p:=(((0:Int)≤c.kind)∧(c.kind < (9:Int))))) (ac (show z8 (rg Try.prog 31 0)=true∧x7 (Region.before (rg Try.prog 31 0)) [] 0 [(some [],some []),(some [],some []),(some [0],some []),(some [],some []),(some [],some [1]),(some [1],some [1])]=true from (x0 w9 w8 kq)) (ac h4 (ac h4 (ac h4 (ac h4 (ac (z7 (c.lba) ((0:Int)) ((64:Int)) _ h5).any0 (ac h6 (ac h6 (ac h6 (ac h6 (ac h6 (ac h6 (ac (z7 (c.n) ((1:Int)) ((wr ((64:Int) - c.lba))) _ h7).any0 (ac h6 (ac h8 (ac h8 an))))))))))))))))))))) tq) fun h6=> by intro e;injection e with e;subst e;exact x4 z9 (k:=300) (r:=[]) (hs:=hz [(6,[.fres (.b (s0))]),(1,[.no]),(23,[.fc]),(1,[.fc]),(1,[.fc]),(1,[.fc]),(1,[.fc]),(1,[.fc]),(1,[.fc]),(1,[.fc,.fc]),(1,[.fc]),(1,[.fc]),(3,[.no,.yes,.yes]),(2,[.fc,.yes]),(5,[.yes]),(1,[.yes]),(2,[.yes]),(1,[.yes]),(9,[.fres (.b (s5))]),(1,[.no,.no,.no,.no,.no,.no,.no]),(29,[])]) (raw:=(AV.b false)) kq (ac (z7 (c.kind) ((1:Int)) ((8:Int)) _ h0).any0 (ac h1 (ac h2 (ac h3 (ac (fq (p:=(((0:Int)≤c.kind)∧(c.kind < (9:Int))))) (ac (show z8 (rg Try.prog 31 0)=true∧x7 (Region.before (rg Try.prog 31 0)) [] 0 [(some [],some []),(some [],some []),(some [0],some []),(some [],some []),(some [],some [1]),(some [1],some [1])]=true from (x0 w9 w8 kq)) (ac h4 (ac h4 (ac h4 (ac h4 (ac (z7 (c.lba) ((0:Int)) ((64:Int)) _ h5).any0 (ac h6 (ac h6 (ac h6 (ac h6 (ac h6 (ac h6 (ac h6 an)))))))))))))))))) tq) fun h4 h4p=> w6 fun s5 h5=> t6 (fun h6=> w6 fun s7 h7=> t6 (fun h8=> tbE (fun h9 h9p=> tbE (fun h10 h10p=> tbE (fun h11 h11p=> by intro e;injection e with e;subst e;exact x4 z9 (k:=300) (r:=[]) (hs:=hz [(6,[.fres (.b (s0))]),(1,[.no]),(23,[.fc]),(1,[.fc]),(1,[.fc]),(1,[.fc]),(1,[.fc]),(1,[.fc]),(1,[.fc]),(1,[.fc,.fc]),(1,[.fc]),(1,[.fc]),(3,[.no,.yes,.yes]),(2,[.fc,.yes]),(5,[.no,.no,.no,.no]),(9,[.fres (.b (s5))]),(1,[.yes]),(1,[.yes]),(2,[.yes]),(1,[.yes]),(2,[.yes]),(1,[.yes]),(1,[.fres (.b (s7)),.yes]),(12,[.yes]),(1,[.yes]),(1,[.yes]),(1,[.yes]),(2,[.yes]),(1,[.fc,.yes]),(13,[.yes]),(1,[.yes]),(1,[.yes]),(2,[.yes]),(1,[.yes]),(1,[.yes]),(1,[.yes,.yes,.yes,.yes,.yes,.yes,.yes]),(1,[])]) (raw:=(AV.b true)) kq (ac (z7 (c.kind) ((1:Int)) ((8:Int)) _ h0).any0 (ac h1 (ac h2 (ac h3 (ac (fq (p:=(((0:Int)≤c.kind)∧(c.kind < (9:Int))))) (ac (show z8 (rg Try.prog 31 0)=true∧x7 (Region.before (rg Try.prog 31 0)) [] 0 [(some [],some []),(some [],some []),(some [0],some []),(some [],some []),(some [],some [1]),(some [1],some [1])]=true from (x0 w9 w8 kq)) (ac h4 (ac h4 (ac h4 (ac h4 (ac (z7 (c.lba) ((0:Int)) ((64:Int)) _ h5).any0 (ac h6 (ac h6 (ac h6 (ac h6 (ac h6 (ac h6 (ac (z7 (c.n) ((1:Int)) ((wr ((64:Int) - c.lba))) _ h7).any0 (ac h6 (ac h8 (ac h8 (ac h9 (ac h9 (ac h9 (ac h9 (ac h9 (ac h10 (ac h10 (ac h10 (ac h10 (ac h10 (ac h11 (ac h11 (ac h11 (ac h11 (ac h10 (ac h11 (ac h10 an)))))))))))))))))))))))))))))))))))))) tq) fun h11 h11p=> by intro e;injection e with e;subst e;exact x4 z9 (k:=300) (r:=[]) (hs:=hz [(6,[.fres (.b (s0))]),(1,[.no]),(23,[.fc]),(1,[.fc]),(1,[.fc]),(1,[.fc]),(1,[.fc]),(1,[.fc]),(1,[.fc]),(1,[.fc,.fc]),(1,[.fc]),(1,[.fc]),(3,[.no,.yes,.yes]),(2,[.fc,.yes]),(5,[.no,.no,.no,.no]),(9,[.fres (.b (s5))]),(1,[.yes]),(1,[.yes]),(2,[.yes]),(1,[.yes]),(2,[.yes]),(1,[.yes]),(1,[.fres (.b (s7)),.yes]),(12,[.yes]),(1,[.yes]),(1,[.yes]),(1,[.yes]),(2,[.yes]),(1,[.fc,.yes]),(13,[.yes]),(1,[.yes]),(1,[.yes]),(2,[.yes]),(1,[.yes]),(1,[.yes]),(1,[.no]),(1,[.no]),(2,[.no]),(4,[.no]),(1,[.yes,.no,.yes]),(1,[])]) (raw:=(AV.b false)) kq (ac (z7 (c.kind) ((1:Int)) ((8:Int)) _ h0).any0 (ac h1 (ac h2 (ac h3 (ac (fq (p:=(((0:Int)≤c.kind)∧(c.kind < (9:Int))))) (ac (show z8 (rg Try.prog 31 0)=true∧x7 (Region.before (rg Try.prog 31 0)) [] 0 [(some [],some []),(some [],some []),(some [0],some []),(some [],some []),(some [],some [1]),(some [1],some [1])]=true from (x0 w9 w8 kq)) (ac h4 (ac h4 (ac h4 (ac h4 (ac (z7 (c.lba) ((0:Int)) ((64:Int)) _ h5).any0 (ac h6 (ac h6 (ac h6 (ac h6 (ac h6 (ac h6 (ac (z7 (c.n) ((1:Int)) ((wr ((64:Int) - c.lba))) _ h7).any0 (ac h6 (ac h8 (ac h8 (ac h9 (ac h9 (ac h9 (ac h9 (ac h9 (ac h10 (ac h10 (ac h10 (ac h10 (ac h10 (ac h11 (ac h11 (ac h11 (ac h11 (ac h10 (ac h11 (ac h10 an)))))))))))))))))))))))))))))))))))))) tq) fun h10 h10p=> by intro e;injection e with e;subst e;exact x4 z9 (k:=300) (r:=[]) (hs:=hz [(6,[.fres (.b (s0))]),(1,[.no]),(23,[.fc]),(1,[.fc]),(1,[.fc]),(1,[.fc]),(1,[.fc]),(1,[.fc]),(1,[.fc]),(1,[.fc,.fc]),(1,[.fc]),(1,[.fc]),(3,[.no,.yes,.yes]),(2,[.fc,.yes]),(5,[.no,.no,.no,.no]),(9,[.fres (.b (s5))]),(1,[.yes]),(1,[.yes]),(2,[.yes]),(1,[.yes]),(2,[.yes]),(1,[.yes]),(1,[.fres (.b (s7)),.yes]),(12,[.yes]),(1,[.yes]),(1,[.yes]),(1,[.yes]),(2,[.yes]),(1,[.fc,.yes]),(13,[.yes]),(1,[.no,.no,.no,.no,.no,.no,.no]),(1,[])]) (raw:=(AV.b false)) kq (ac (z7 (c.kind) ((1:Int)) ((8:Int)) _ h0).any0 (ac h1 (ac h2 (ac h3 (ac (fq (p:=(((0:Int)≤c.kind)∧(c.kind < (9:Int))))) (ac (show z8 (rg Try.prog 31 0)=true∧x7 (Region.before (rg Try.prog 31 0)) [] 0 [(some [],some []),(some [],some []),(some [0],some []),(some [],some []),(some [],some [1]),(some [1],some [1])]=true from (x0 w9 w8 kq)) (ac h4 (ac h4 (ac h4 (ac h4 (ac (z7 (c.lba) ((0:Int)) ((64:Int)) _ h5).any0 (ac h6 (ac h6 (ac h6 (ac h6 (ac h6 (ac h6 (ac (z7 (c.n) ((1:Int)) ((wr ((64:Int) - c.lba))) _ h7).any0 (ac h6 (ac h8 (ac h8 (ac h9 (ac h9 (ac h9 (ac h9 (ac h9 (ac h10 (ac h10 (ac h10 (ac h10 (ac h10 (ac h10 (ac h10 an))))))))))))))))))))))))))))))))) tq) fun h9 h9p=> by intro e;injection e with e;subst e;exact x4 z9 (k:=300) (r:=[]) (hs:=hz [(6,[.fres (.b (s0))]),(1,[.no]),(23,[.fc]),(1,[.fc]),(1,[.fc]),(1,[.fc]),(1,[.fc]),(1,[.fc]),(1,[.fc]),(1,[.fc,.fc]),(1,[.fc]),(1,[.fc]),(3,[.no,.yes,.yes]),(2,[.fc,.yes]),(5,[.no,.no,.no,.no]),(9,[.fres (.b (s5))]),(1,[.yes]),(1,[.yes]),(2,[.yes]),(1,[.yes]),(2,[.yes]),(1,[.yes]),(1,[.fres (.b (s7)),.yes]),(12,[.yes]),(1,[.yes]),(1,[.no,.no,.no,.no,.no]),(9,[])]) (raw:=(AV.b false)) kq (ac (z7 (c.kind) ((1:Int)) ((8:Int)) _ h0).any0 (ac h1 (ac h2 (ac h3 (ac (fq (p:=(((0:Int)≤c.kind)∧(c.kind < (9:Int))))) (ac (show z8 (rg Try.prog 31 0)=true∧x7 (Region.before (rg Try.prog 31 0)) [] 0 [(some [],some []),(some [],some []),(some [0],some []),(some [],some []),(some [],some [1]),(some [1],some [1])]=true from (x0 w9 w8 kq)) (ac h4 (ac h4 (ac h4 (ac h4 (ac (z7 (c.lba) ((0:Int)) ((64:Int)) _ h5).any0 (ac h6 (ac h6 (ac h6 (ac h6 (ac h6 (ac h6 (ac (z7 (c.n) ((1:Int)) ((wr ((64:Int) - c.lba))) _ h7).any0 (ac h6 (ac h8 (ac h8 (ac h9 (ac h9 (ac h9 (ac h9 (ac h9 an)))))))))))))))))))))))))) tq) fun h8=> by intro e;injection e with e;subst e;exact x4 z9 (k:=300) (r:=[]) (hs:=hz [(6,[.fres (.b (s0))]),(1,[.no]),(23,[.fc]),(1,[.fc]),(1,[.fc]),(1,[.fc]),(1,[.fc]),(1,[.fc]),(1,[.fc]),(1,[.fc,.fc]),(1,[.fc]),(1,[.fc]),(3,[.no,.yes,.yes]),(2,[.fc,.yes]),(5,[.no,.no,.no,.no]),(9,[.fres (.b (s5))]),(1,[.yes]),(1,[.yes]),(2,[.yes]),(1,[.yes]),(2,[.yes]),(1,[.yes]),(1,[.fres (.b (s7)),.yes]),(12,[.no,.no]),(15,[])]) (raw:=(AV.b false)) kq (ac (z7 (c.kind) ((1:Int)) ((8:Int)) _ h0).any0 (ac h1 (ac h2 (ac h3 (ac (fq (p:=(((0:Int)≤c.kind)∧(c.kind < (9:Int))))) (ac (show z8 (rg Try.prog 31 0)=true∧x7 (Region.before (rg Try.prog 31 0)) [] 0 [(some [],some []),(some [],some []),(some [0],some []),(some [],some []),(some [],some [1]),(some [1],some [1])]=true from (x0 w9 w8 kq)) (ac h4 (ac h4 (ac h4 (ac h4 (ac (z7 (c.lba) ((0:Int)) ((64:Int)) _ h5).any0 (ac h6 (ac h6 (ac h6 (ac h6 (ac h6 (ac h6 (ac (z7 (c.n) ((1:Int)) ((wr ((64:Int) - c.lba))) _ h7).any0 (ac h6 (ac h8 (ac h8 an))))))))))))))))))))) tq) fun h6=> by intro e;injection e with e;subst e;exact x4 z9 (k:=300) (r:=[]) (hs:=hz [(6,[.fres (.b (s0))]),(1,[.no]),(23,[.fc]),(1,[.fc]),(1,[.fc]),(1,[.fc]),(1,[.fc]),(1,[.fc]),(1,[.fc]),(1,[.fc,.fc]),(1,[.fc]),(1,[.fc]),(3,[.no,.yes,.yes]),(2,[.fc,.yes]),(5,[.no,.no,.no,.no]),(9,[.fres (.b (s5))]),(1,[.no,.no,.no,.no,.no,.no,.no]),(29,[])]) (raw:=(AV.b false)) kq (ac (z7 (c.kind) ((1:Int)) ((8:Int)) _ h0).any0 (ac h1 (ac h2 (ac h3 (ac (fq (p:=(((0:Int)≤c.kind)∧(c.kind < (9:Int))))) (ac (show z8 (rg Try.prog 31 0)=true∧x7 (Region.before (rg Try.prog 31 0)) [] 0 [(some [],some []),(some [],some []),(some [0],some []),(some [],some []),(some [],some [1]),(some [1],some [1])]=true from (x0 w9 w8 kq)) (ac h4 (ac h4 (ac h4 (ac h4 (ac (z7 (c.lba) ((0:Int)) ((64:Int)) _ h5).any0 (ac h6 (ac h6 (ac h6 (ac h6 (ac h6 (ac h6 (ac h6 an)))))))))))))))))) tq) fun h3 h3p=> tbD (fun h4 h4p=> tbE (fun h5 h5p=> w6 fun s6 h6=> t6 (fun h7=> w6 fun s8 h8=> t6 (fun h9=> tbE (fun h10 h10p=> tbE (fun h11 h11p=> tbE (fun h12 h12p=> by intro e;injection e with e;subst e;exact x4 z9 (k:=300) (r:=[]) (hs:=hz [(6,[.fres (.b (s0))]),(1,[.no]),(23,[.fc]),(1,[.fc]),(1,[.fc]),(1,[.fc]),(1,[.fc]),(1,[.fc]),(1,[.fc]),(1,[.fc,.fc]),(1,[.fc]),(1,[.fc]),(3,[.no,.no,.yes,.yes]),(2,[.fc,.yes]),(5,[.yes]),(1,[.yes]),(2,[.yes]),(1,[.yes]),(9,[.fres (.b (s6))]),(1,[.yes]),(1,[.yes]),(2,[.yes]),(1,[.yes]),(2,[.yes]),(1,[.yes]),(1,[.fres (.b (s8)),.yes]),(12,[.yes]),(1,[.yes]),(1,[.yes]),(1,[.yes]),(2,[.yes]),(1,[.fc,.yes]),(9,[.yes]),(1,[.yes]),(1,[.yes]),(2,[.yes]),(1,[.yes]),(1,[.yes]),(1,[.yes,.yes,.yes,.yes,.yes,.yes,.yes]),(1,[])]) (raw:=(AV.b true)) kq (ac (z7 (c.kind) ((1:Int)) ((8:Int)) _ h0).any0 (ac h1 (ac h2 (ac h3 (ac h4 (ac (fq (p:=(((0:Int)≤c.kind)∧(c.kind < (9:Int))))) (ac (show z8 (rg Try.prog 31 0)=true∧x7 (Region.before (rg Try.prog 31 0)) [] 0 [(some [],some []),(some [],some []),(some [0],some []),(some [],some []),(some [],some [1]),(some [1],some [1])]=true from (x0 w9 w8 kq)) (ac h5 (ac h5 (ac h5 (ac h5 (ac (z7 (c.lba) ((0:Int)) ((64:Int)) _ h6).any0 (ac h7 (ac h7 (ac h7 (ac h7 (ac h7 (ac h7 (ac (z7 (c.n) ((1:Int)) ((wr ((64:Int) - c.lba))) _ h8).any0 (ac h7 (ac h9 (ac h9 (ac h10 (ac h10 (ac h10 (ac h10 (ac h10 (ac h11 (ac h11 (ac h11 (ac h11 (ac h11 (ac h12 (ac h12 (ac h12 (ac h12 (ac h11 (ac h12 (ac h11 an))))))))))))))))))))))))))))))))))))))) tq) fun h12 h12p=> by intro e;injection e with e;subst e;exact x4 z9 (k:=300) (r:=[]) (hs:=hz [(6,[.fres (.b (s0))]),(1,[.no]),(23,[.fc]),(1,[.fc]),(1,[.fc]),(1,[.fc]),(1,[.fc]),(1,[.fc]),(1,[.fc]),(1,[.fc,.fc]),(1,[.fc]),(1,[.fc]),(3,[.no,.no,.yes,.yes]),(2,[.fc,.yes]),(5,[.yes]),(1,[.yes]),(2,[.yes]),(1,[.yes]),(9,[.fres (.b (s6))]),(1,[.yes]),(1,[.yes]),(2,[.yes]),(1,[.yes]),(2,[.yes]),(1,[.yes]),(1,[.fres (.b (s8)),.yes]),(12,[.yes]),(1,[.yes]),(1,[.yes]),(1,[.yes]),(2,[.yes]),(1,[.fc,.yes]),(9,[.yes]),(1,[.yes]),(1,[.yes]),(2,[.yes]),(1,[.yes]),(1,[.yes]),(1,[.no]),(1,[.no]),(2,[.no]),(4,[.no]),(1,[.yes,.no,.yes]),(1,[])]) (raw:=(AV.b false)) kq (ac (z7 (c.kind) ((1:Int)) ((8:Int)) _ h0).any0 (ac h1 (ac h2 (ac h3 (ac h4 (ac (fq (p:=(((0:Int)≤c.kind)∧(c.kind < (9:Int))))) (ac (show z8 (rg Try.prog 31 0)=true∧x7 (Region.before (rg Try.prog 31 0)) [] 0 [(some [],some []),(some [],some []),(some [0],some []),(some [],some []),(some [],some [1]),(some [1],some [1])]=true from (x0 w9 w8 kq)) (ac h5 (ac h5 (ac h5 (ac h5 (ac (z7 (c.lba) ((0:Int)) ((64:Int)) _ h6).any0 (ac h7 (ac h7 (ac h7 (ac h7 (ac h7 (ac h7 (ac (z7 (c.n) ((1:Int)) ((wr ((64:Int) - c.lba))) _ h8).any0 (ac h7 (ac h9 (ac h9 (ac h10 (ac h10 (ac h10 (ac h10 (ac h10 (ac h11 (ac h11 (ac h11 (ac h11 (ac h11 (ac h12 (ac h12 (ac h12 (ac h12 (ac h11 (ac h12 (ac h11 an))))))))))))))))))))))))))))))))))))))) tq) fun h11 h11p=> by intro e;injection e with e;subst e;exact x4 z9 (k:=300) (r:=[]) (hs:=hz [(6,[.fres (.b (s0))]),(1,[.no]),(23,[.fc]),(1,[.fc]),(1,[.fc]),(1,[.fc]),(1,[.fc]),(1,[.fc]),(1,[.fc]),(1,[.fc,.fc]),(1,[.fc]),(1,[.fc]),(3,[.no,.no,.yes,.yes]),(2,[.fc,.yes]),(5,[.yes]),(1,[.yes]),(2,[.yes]),(1,[.yes]),(9,[.fres (.b (s6))]),(1,[.yes]),(1,[.yes]),(2,[.yes]),(1,[.yes]),(2,[.yes]),(1,[.yes]),(1,[.fres (.b (s8)),.yes]),(12,[.yes]),(1,[.yes]),(1,[.yes]),(1,[.yes]),(2,[.yes]),(1,[.fc,.yes]),(9,[.yes]),(1,[.no,.no,.no,.no,.no,.no,.no]),(1,[])]) (raw:=(AV.b false)) kq (ac (z7 (c.kind) ((1:Int)) ((8:Int)) _ h0).any0 (ac h1 (ac h2 (ac h3 (ac h4 (ac (fq (p:=(((0:Int)≤c.kind)∧(c.kind < (9:Int))))) (ac (show z8 (rg Try.prog 31 0)=true∧x7 (Region.before (rg Try.prog 31 0)) [] 0 [(some [],some []),(some [],some []),(some [0],some []),(some [],some []),(some [],some [1]),(some [1],some [1])]=true from (x0 w9 w8 kq)) (ac h5 (ac h5 (ac h5 (ac h5 (ac (z7 (c.lba) ((0:Int)) ((64:Int)) _ h6).any0 (ac h7 (ac h7 (ac h7 (ac h7 (ac h7 (ac h7 (ac (z7 (c.n) ((1:Int)) ((wr ((64:Int) - c.lba))) _ h8).any0 (ac h7 (ac h9 (ac h9 (ac h10 (ac h10 (ac h10 (ac h10 (ac h10 (ac h11 (ac h11 (ac h11 (ac h11 (ac h11 (ac h11 (ac h11 an)))))))))))))))))))))))))))))))))) tq) fun h10 h10p=> by intro e;injection e with e;subst e;exact x4 z9 (k:=300) (r:=[]) (hs:=hz [(6,[.fres (.b (s0))]),(1,[.no]),(23,[.fc]),(1,[.fc]),(1,[.fc]),(1,[.fc]),(1,[.fc]),(1,[.fc]),(1,[.fc]),(1,[.fc,.fc]),(1,[.fc]),(1,[.fc]),(3,[.no,.no,.yes,.yes]),(2,[.fc,.yes]),(5,[.yes]),(1,[.yes]),(2,[.yes]),(1,[.yes]),(9,[.fres (.b (s6))]),(1,[.yes]),(1,[.yes]),(2,[.yes]),(1,[.yes]),(2,[.yes]),(1,[.yes]),(1,[.fres (.b (s8)),.yes]),(12,[.yes]),(1,[.yes]),(1,[.no,.no,.no,.no,.no]),(9,[])]) (raw:=(AV.b false)) kq (ac (z7 (c.kind) ((1:Int)) ((8:Int)) _ h0).any0 (ac h1 (ac h2 (ac h3 (ac h4 (ac (fq (p:=(((0:Int)≤c.kind)∧(c.kind < (9:Int))))) (ac (show z8 (rg Try.prog 31 0)=true∧x7 (Region.before (rg Try.prog 31 0)) [] 0 [(some [],some []),(some [],some []),(some [0],some []),(some [],some []),(some [],some [1]),(some [1],some [1])]=true from (x0 w9 w8 kq)) (ac h5 (ac h5 (ac h5 (ac h5 (ac (z7 (c.lba) ((0:Int)) ((64:Int)) _ h6).any0 (ac h7 (ac h7 (ac h7 (ac h7 (ac h7 (ac h7 (ac (z7 (c.n) ((1:Int)) ((wr ((64:Int) - c.lba))) _ h8).any0 (ac h7 (ac h9 (ac h9 (ac h10 (ac h10 (ac h10 (ac h10 (ac h10 an))))))))))))))))))))))))))) tq) fun h9=> by intro e;injection e with e;subst e;exact x4 z9 (k:=300) (r:=[]) (hs:=hz [(6,[.fres (.b (s0))]),(1,[.no]),(23,[.fc]),(1,[.fc]),(1,[.fc]),(1,[.fc]),(1,[.fc]),(1,[.fc]),(1,[.fc]),(1,[.fc,.fc]),(1,[.fc]),(1,[.fc]),(3,[.no,.no,.yes,.yes]),(2,[.fc,.yes]),(5,[.yes]),(1,[.yes]),(2,[.yes]),(1,[.yes]),(9,[.fres (.b (s6))]),(1,[.yes]),(1,[.yes]),(2,[.yes]),(1,[.yes]),(2,[.yes]),(1,[.yes]),(1,[.fres (.b (s8)),.yes]),(12,[.no,.no]),(15,[])]) (raw:=(AV.b false)) kq (ac (z7 (c.kind) ((1:Int)) ((8:Int)) _ h0).any0 (ac h1 (ac h2 (ac h3 (ac h4 (ac (fq (p:=(((0:Int)≤c.kind)∧(c.kind < (9:Int))))) (ac (show z8 (rg Try.prog 31 0)=true∧x7 (Region.before (rg Try.prog 31 0)) [] 0 [(some [],some []),(some [],some []),(some [0],some []),(some [],some []),(some [],some [1]),(some [1],some [1])]=true from (x0 w9 w8 kq)) (ac h5 (ac h5 (ac h5 (ac h5 (ac (z7 (c.lba) ((0:Int)) ((64:Int)) _ h6).any0 (ac h7 (ac h7 (ac h7 (ac h7 (ac h7 (ac h7 (ac (z7 (c.n) ((1:Int)) ((wr ((64:Int) - c.lba))) _ h8).any0 (ac h7 (ac h9 (ac h9 an)))))))))))))))))))))) tq) fun h7=> by intro e;injection e with e;subst e;exact x4 z9 (k:=300) (r:=[]) (hs:=hz [(6,[.fres (.b (s0))]),(1,[.no]),(23,[.fc]),(1,[.fc]),(1,[.fc]),(1,[.fc]),(1,[.fc]),(1,[.fc]),(1,[.fc]),(1,[.fc,.fc]),(1,[.fc]),(1,[.fc]),(3,[.no,.no,.yes,.yes]),(2,[.fc,.yes]),(5,[.yes]),(1,[.yes]),(2,[.yes]),(1,[.yes]),(9,[.fres (.b (s6))]),(1,[.no,.no,.no,.no,.no,.no,.no]),(29,[])]) (raw:=(AV.b false)) kq (ac (z7 (c.kind) ((1:Int)) ((8:Int)) _ h0).any0 (ac h1 (ac h2 (ac h3 (ac h4 (ac (fq (p:=(((0:Int)≤c.kind)∧(c.kind < (9:Int))))) (ac (show z8 (rg Try.prog 31 0)=true∧x7 (Region.before (rg Try.prog 31 0)) [] 0 [(some [],some []),(some [],some []),(some [0],some []),(some [],some []),(some [],some [1]),(some [1],some [1])]=true from (x0 w9 w8 kq)) (ac h5 (ac h5 (ac h5 (ac h5 (ac (z7 (c.lba) ((0:Int)) ((64:Int)) _ h6).any0 (ac h7 (ac h7 (ac h7 (ac h7 (ac h7 (ac h7 (ac h7 an))))))))))))))))))) tq) fun h5 h5p=> w6 fun s6 h6=> t6 (fun h7=> w6 fun s8 h8=> t6 (fun h9=> tbE (fun h10 h10p=> tbE (fun h11 h11p=> tbE (fun h12 h12p=> by intro e;injection e with e;subst e;exact x4 z9 (k:=300) (r:=[]) (hs:=hz [(6,[.fres (.b (s0))]),(1,[.no]),(23,[.fc]),(1,[.fc]),(1,[.fc]),(1,[.fc]),(1,[.fc]),(1,[.fc]),(1,[.fc]),(1,[.fc,.fc]),(1,[.fc]),(1,[.fc]),(3,[.no,.no,.yes,.yes]),(2,[.fc,.yes]),(5,[.no,.no,.no,.no]),(9,[.fres (.b (s6))]),(1,[.yes]),(1,[.yes]),(2,[.yes]),(1,[.yes]),(2,[.yes]),(1,[.yes]),(1,[.fres (.b (s8)),.yes]),(12,[.yes]),(1,[.yes]),(1,[.yes]),(1,[.yes]),(2,[.yes]),(1,[.fc,.yes]),(9,[.yes]),(1,[.yes]),(1,[.yes]),(2,[.yes]),(1,[.yes]),(1,[.yes]),(1,[.yes,.yes,.yes,.yes,.yes,.yes,.yes]),(1,[])]) (raw:=(AV.b true)) kq (ac (z7 (c.kind) ((1:Int)) ((8:Int)) _ h0).any0 (ac h1 (ac h2 (ac h3 (ac h4 (ac (fq (p:=(((0:Int)≤c.kind)∧(c.kind < (9:Int))))) (ac (show z8 (rg Try.prog 31 0)=true∧x7 (Region.before (rg Try.prog 31 0)) [] 0 [(some [],some []),(some [],some []),(some [0],some []),(some [],some []),(some [],some [1]),(some [1],some [1])]=true from (x0 w9 w8 kq)) (ac h5 (ac h5 (ac h5 (ac h5 (ac (z7 (c.lba) ((0:Int)) ((64:Int)) _ h6).any0 (ac h7 (ac h7 (ac h7 (ac h7 (ac h7 (ac h7 (ac (z7 (c.n) ((1:Int)) ((wr ((64:Int) - c.lba))) _ h8).any0 (ac h7 (ac h9 (ac h9 (ac h10 (ac h10 (ac h10 (ac h10 (ac h10 (ac h11 (ac h11 (ac h11 (ac h11 (ac h11 (ac h12 (ac h12 (ac h12 (ac h12 (ac h11 (ac h12 (ac h11 an))))))))))))))))))))))))))))))))))))))) tq) fun h12 h12p=> by intro e;injection e with e;subst e;exact x4 z9 (k:=300) (r:=[]) (hs:=hz [(6,[.fres (.b (s0))]),(1,[.no]),(23,[.fc]),(1,[.fc]),(1,[.fc]),(1,[.fc]),(1,[.fc]),(1,[.fc]),(1,[.fc]),(1,[.fc,.fc]),(1,[.fc]),(1,[.fc]),(3,[.no,.no,.yes,.yes]),(2,[.fc,.yes]),(5,[.no,.no,.no,.no]),(9,[.fres (.b (s6))]),(1,[.yes]),(1,[.yes]),(2,[.yes]),(1,[.yes]),(2,[.yes]),(1,[.yes]),(1,[.fres (.b (s8)),.yes]),(12,[.yes]),(1,[.yes]),(1,[.yes]),(1,[.yes]),(2,[.yes]),(1,[.fc,.yes]),(9,[.yes]),(1,[.yes]),(1,[.yes]),(2,[.yes]),(1,[.yes]),(1,[.yes]),(1,[.no]),(1,[.no]),(2,[.no]),(4,[.no]),(1,[.yes,.no,.yes]),(1,[])]) (raw:=(AV.b false)) kq (ac (z7 (c.kind) ((1:Int)) ((8:Int)) _ h0).any0 (ac h1 (ac h2 (ac h3 (ac h4 (ac (fq (p:=(((0:Int)≤c.kind)∧(c.kind < (9:Int))))) (ac (show z8 (rg Try.prog 31 0)=true∧x7 (Region.before (rg Try.prog 31 0)) [] 0 [(some [],some []),(some [],some []),(some [0],some []),(some [],some []),(some [],some [1]),(some [1],some [1])]=true from (x0 w9 w8 kq)) (ac h5 (ac h5 (ac h5 (ac h5 (ac (z7 (c.lba) ((0:Int)) ((64:Int)) _ h6).any0 (ac h7 (ac h7 (ac h7 (ac h7 (ac h7 (ac h7 (ac (z7 (c.n) ((1:Int)) ((wr ((64:Int) - c.lba))) _ h8).any0 (ac h7 (ac h9 (ac h9 (ac h10 (ac h10 (ac h10 (ac h10 (ac h10 (ac h11 (ac h11 (ac h11 (ac h11 (ac h11 (ac h12 (ac h12 (ac h12 (ac h12 (ac h11 (ac h12 (ac h11 an))))))))))))))))))))))))))))))))))))))) tq) fun h11 h11p=> by intro e;injection e with e;subst e;exact x4 z9 (k:=300) (r:=[]) (hs:=hz [(6,[.fres (.b (s0))]),(1,[.no]),(23,[.fc]),(1,[.fc]),(1,[.fc]),(1,[.fc]),(1,[.fc]),(1,[.fc]),(1,[.fc]),(1,[.fc,.fc]),(1,[.fc]),(1,[.fc]),(3,[.no,.no,.yes,.yes]),(2,[.fc,.yes]),(5,[.no,.no,.no,.no]),(9,[.fres (.b (s6))]),(1,[.yes]),(1,[.yes]),(2,[.yes]),(1,[.yes]),(2,[.yes]),(1,[.yes]),(1,[.fres (.b (s8)),.yes]),(12,[.yes]),(1,[.yes]),(1,[.yes]),(1,[.yes]),(2,[.yes]),(1,[.fc,.yes]),(9,[.yes]),(1,[.no,.no,.no,.no,.no,.no,.no]),(1,[])]) (raw:=(AV.b false)) kq (ac (z7 (c.kind) ((1:Int)) ((8:Int)) _ h0).any0 (ac h1 (ac h2 (ac h3 (ac h4 (ac (fq (p:=(((0:Int)≤c.kind)∧(c.kind < (9:Int))))) (ac (show z8 (rg Try.prog 31 0)=true∧x7 (Region.before (rg Try.prog 31 0)) [] 0 [(some [],some []),(some [],some []),(some [0],some []),(some [],some []),(some [],some [1]),(some [1],some [1])]=true from (x0 w9 w8 kq)) (ac h5 (ac h5 (ac h5 (ac h5 (ac (z7 (c.lba) ((0:Int)) ((64:Int)) _ h6).any0 (ac h7 (ac h7 (ac h7 (ac h7 (ac h7 (ac h7 (ac (z7 (c.n) ((1:Int)) ((wr ((64:Int) - c.lba))) _ h8).any0 (ac h7 (ac h9 (ac h9 (ac h10 (ac h10 (ac h10 (ac h10 (ac h10 (ac h11 (ac h11 (ac h11 (ac h11 (ac h11 (ac h11 (ac h11 an)))))))))))))))))))))))))))))))))) tq) fun h10 h10p=> by intro e;injection e with e;subst e;exact x4 z9 (k:=300) (r:=[]) (hs:=hz [(6,[.fres (.b (s0))]),(1,[.no]),(23,[.fc]),(1,[.fc]),(1,[.fc]),(1,[.fc]),(1,[.fc]),(1,[.fc]),(1,[.fc]),(1,[.fc,.fc]),(1,[.fc]),(1,[.fc]),(3,[.no,.no,.yes,.yes]),(2,[.fc,.yes]),(5,[.no,.no,.no,.no]),(9,[.fres (.b (s6))]),(1,[.yes]),(1,[.yes]),(2,[.yes]),(1,[.yes]),(2,[.yes]),(1,[.yes]),(1,[.fres (.b (s8)),.yes]),(12,[.yes]),(1,[.yes]),(1,[.no,.no,.no,.no,.no]),(9,[])]) (raw:=(AV.b false)) kq (ac (z7 (c.kind) ((1:Int)) ((8:Int)) _ h0).any0 (ac h1 (ac h2 (ac h3 (ac h4 (ac (fq (p:=(((0:Int)≤c.kind)∧(c.kind < (9:Int))))) (ac (show z8 (rg Try.prog 31 0)=true∧x7 (Region.before (rg Try.prog 31 0)) [] 0 [(some [],some []),(some [],some []),(some [0],some []),(some [],some []),(some [],some [1]),(some [1],some [1])]=true from (x0 w9 w8 kq)) (ac h5 (ac h5 (ac h5 (ac h5 (ac (z7 (c.lba) ((0:Int)) ((64:Int)) _ h6).any0 (ac h7 (ac h7 (ac h7 (ac h7 (ac h7 (ac h7 (ac (z7 (c.n) ((1:Int)) ((wr ((64:Int) - c.lba))) _ h8).any0 (ac h7 (ac h9 (ac h9 (ac h10 (ac h10 (ac h10 (ac h10 (ac h10 an))))))))))))))))))))))))))) tq) fun h9=> by intro e;injection e with e;subst e;exact x4 z9 (k:=300) (r:=[]) (hs:=hz [(6,[.fres (.b (s0))]),(1,[.no]),(23,[.fc]),(1,[.fc]),(1,[.fc]),(1,[.fc]),(1,[.fc]),(1,[.fc]),(1,[.fc]),(1,[.fc,.fc]),(1,[.fc]),(1,[.fc]),(3,[.no,.no,.yes,.yes]),(2,[.fc,.yes]),(5,[.no,.no,.no,.no]),(9,[.fres (.b (s6))]),(1,[.yes]),(1,[.yes]),(2,[.yes]),(1,[.yes]),(2,[.yes]),(1,[.yes]),(1,[.fres (.b (s8)),.yes]),(12,[.no,.no]),(15,[])]) (raw:=(AV.b false)) kq (ac (z7 (c.kind) ((1:Int)) ((8:Int)) _ h0).any0 (ac h1 (ac h2 (ac h3 (ac h4 (ac (fq (p:=(((0:Int)≤c.kind)∧(c.kind < (9:Int))))) (ac (show z8 (rg Try.prog 31 0)=true∧x7 (Region.before (rg Try.prog 31 0)) [] 0 [(some [],some []),(some [],some []),(some [0],some []),(some [],some []),(some [],some [1]),(some [1],some [1])]=true from (x0 w9 w8 kq)) (ac h5 (ac h5 (ac h5 (ac h5 (ac (z7 (c.lba) ((0:Int)) ((64:Int)) _ h6).any0 (ac h7 (ac h7 (ac h7 (ac h7 (ac h7 (ac h7 (ac (z7 (c.n) ((1:Int)) ((wr ((64:Int) - c.lba))) _ h8).any0 (ac h7 (ac h9 (ac h9 an)))))))))))))))))))))) tq) fun h7=> by intro e;injection e with e;subst e;exact x4 z9 (k:=300) (r:=[]) (hs:=hz [(6,[.fres (.b (s0))]),(1,[.no]),(23,[.fc]),(1,[.fc]),(1,[.fc]),(1,[.fc]),(1,[.fc]),(1,[.fc]),(1,[.fc]),(1,[.fc,.fc]),(1,[.fc]),(1,[.fc]),(3,[.no,.no,.yes,.yes]),(2,[.fc,.yes]),(5,[.no,.no,.no,.no]),(9,[.fres (.b (s6))]),(1,[.no,.no,.no,.no,.no,.no,.no]),(29,[])]) (raw:=(AV.b false)) kq (ac (z7 (c.kind) ((1:Int)) ((8:Int)) _ h0).any0 (ac h1 (ac h2 (ac h3 (ac h4 (ac (fq (p:=(((0:Int)≤c.kind)∧(c.kind < (9:Int))))) (ac (show z8 (rg Try.prog 31 0)=true∧x7 (Region.before (rg Try.prog 31 0)) [] 0 [(some [],some []),(some [],some []),(some [0],some []),(some [],some []),(some [],some [1]),(some [1],some [1])]=true from (x0 w9 w8 kq)) (ac h5 (ac h5 (ac h5 (ac h5 (ac (z7 (c.lba) ((0:Int)) ((64:Int)) _ h6).any0 (ac h7 (ac h7 (ac h7 (ac h7 (ac h7 (ac h7 (ac h7 an))))))))))))))))))) tq) fun h4 h4p=> tbD (fun h5 h5p=> tbE (fun h6 h6p=> w6 fun s7 h7=> t6 (fun h8=> w6 fun s9 h9=> t6 (fun h10=> tbE (fun h11 h11p=> tbE (fun h12 h12p=> tbE (fun h13 h13p=> by intro e;injection e with e;subst e;exact x4 z9 (k:=300) (r:=[]) (hs:=hz [(6,[.fres (.b (s0))]),(1,[.no]),(23,[.fc]),(1,[.fc]),(1,[.fc]),(1,[.fc]),(1,[.fc]),(1,[.fc]),(1,[.fc]),(1,[.fc,.fc]),(1,[.fc]),(1,[.fc]),(3,[.no,.no,.no,.yes,.yes]),(2,[.fc,.yes]),(5,[.yes]),(1,[.yes]),(2,[.yes]),(1,[.yes]),(9,[.fres (.b (s7))]),(1,[.yes]),(1,[.yes]),(2,[.yes]),(1,[.yes]),(2,[.yes]),(1,[.yes]),(1,[.fres (.b (s9)),.yes]),(12,[.yes]),(1,[.yes]),(1,[.yes]),(1,[.yes]),(2,[.yes]),(1,[.fc,.yes]),(9,[.yes]),(1,[.yes]),(1,[.yes]),(2,[.yes]),(1,[.yes]),(1,[.yes]),(1,[.yes,.yes,.yes,.yes,.yes,.yes,.yes]),(1,[])]) (raw:=(AV.b true)) kq (ac (z7 (c.kind) ((1:Int)) ((8:Int)) _ h0).any0 (ac h1 (ac h2 (ac h3 (ac h4 (ac h5 (ac (fq (p:=(((0:Int)≤c.kind)∧(c.kind < (9:Int))))) (ac (show z8 (rg Try.prog 31 0)=true∧x7 (Region.before (rg Try.prog 31 0)) [] 0 [(some [],some []),(some [],some []),(some [0],some []),(some [],some []),(some [],some [1]),(some [1],some [1])]=true from (x0 w9 w8 kq)) (ac h6 (ac h6 (ac h6 (ac h6 (ac (z7 (c.lba) ((0:Int)) ((64:Int)) _ h7).any0 (ac h8 (ac h8 (ac h8 (ac h8 (ac h8 (ac h8 (ac (z7 (c.n) ((1:Int)) ((wr ((64:Int) - c.lba))) _ h9).any0 (ac h8 (ac h10 (ac h10 (ac h11 (ac h11 (ac h11 (ac h11 (ac h11 (ac h12 (ac h12 (ac h12 (ac h12 (ac h12 (ac h13 (ac h13 (ac h13 (ac h13 (ac h12 (ac h13 (ac h12 an)))))))))))))))))))))))))))))))))))))))) tq) fun h13 h13p=> by intro e;injection e with e;subst e;exact x4 z9 (k:=300) (r:=[]) (hs:=hz [(6,[.fres (.b (s0))]),(1,[.no]),(23,[.fc]),(1,[.fc]),(1,[.fc]),(1,[.fc]),(1,[.fc]),(1,[.fc]),(1,[.fc]),(1,[.fc,.fc]),(1,[.fc]),(1,[.fc]),(3,[.no,.no,.no,.yes,.yes]),(2,[.fc,.yes]),(5,[.yes]),(1,[.yes]),(2,[.yes]),(1,[.yes]),(9,[.fres (.b (s7))]),(1,[.yes]),(1,[.yes]),(2,[.yes]),(1,[.yes]),(2,[.yes]),(1,[.yes]),(1,[.fres (.b (s9)),.yes]),(12,[.yes]),(1,[.yes]),(1,[.yes]),(1,[.yes]),(2,[.yes]),(1,[.fc,.yes]),(9,[.yes]),(1,[.yes]),(1,[.yes]),(2,[.yes]),(1,[.yes]),(1,[.yes]),(1,[.no]),(1,[.no]),(2,[.no]),(4,[.no]),(1,[.yes,.no,.yes]),(1,[])]) (raw:=(AV.b false)) kq (ac (z7 (c.kind) ((1:Int)) ((8:Int)) _ h0).any0 (ac h1 (ac h2 (ac h3 (ac h4 (ac h5 (ac (fq (p:=(((0:Int)≤c.kind)∧(c.kind < (9:Int))))) (ac (show z8 (rg Try.prog 31 0)=true∧x7 (Region.before (rg Try.prog 31 0)) [] 0 [(some [],some []),(some [],some []),(some [0],some []),(some [],some []),(some [],some [1]),(some [1],some [1])]=true from (x0 w9 w8 kq)) (ac h6 (ac h6 (ac h6 (ac h6 (ac (z7 (c.lba) ((0:Int)) ((64:Int)) _ h7).any0 (ac h8 (ac h8 (ac h8 (ac h8 (ac h8 (ac h8 (ac (z7 (c.n) ((1:Int)) ((wr ((64:Int) - c.lba))) _ h9).any0 (ac h8 (ac h10 (ac h10 (ac h11 (ac h11 (ac h11 (ac h11 (ac h11 (ac h12 (ac h12 (ac h12 (ac h12 (ac h12 (ac h13 (ac h13 (ac h13 (ac h13 (ac h12 (ac h13 (ac h12 an)))))))))))))))))))))))))))))))))))))))) tq) fun h12 h12p=> by intro e;injection e with e;subst e;exact x4 z9 (k:=300) (r:=[]) (hs:=hz [(6,[.fres (.b (s0))]),(1,[.no]),(23,[.fc]),(1,[.fc]),(1,[.fc]),(1,[.fc]),(1,[.fc]),(1,[.fc]),(1,[.fc]),(1,[.fc,.fc]),(1,[.fc]),(1,[.fc]),(3,[.no,.no,.no,.yes,.yes]),(2,[.fc,.yes]),(5,[.yes]),(1,[.yes]),(2,[.yes]),(1,[.yes]),(9,[.fres (.b (s7))]),(1,[.yes]),(1,[.yes]),(2,[.yes]),(1,[.yes]),(2,[.yes]),(1,[.yes]),(1,[.fres (.b (s9)),.yes]),(12,[.yes]),(1,[.yes]),(1,[.yes]),(1,[.yes]),(2,[.yes]),(1,[.fc,.yes]),(9,[.yes]),(1,[.no,.no,.no,.no,.no,.no,.no]),(1,[])]) (raw:=(AV.b false)) kq (ac (z7 (c.kind) ((1:Int)) ((8:Int)) _ h0).any0 (ac h1 (ac h2 (ac h3 (ac h4 (ac h5 (ac (fq (p:=(((0:Int)≤c.kind)∧(c.kind < (9:Int))))) (ac (show z8 (rg Try.prog 31 0)=true∧x7 (Region.before (rg Try.prog 31 0)) [] 0 [(some [],some []),(some [],some []),(some [0],some []),(some [],some []),(some [],some [1]),(some [1],some [1])]=true from (x0 w9 w8 kq)) (ac h6 (ac h6 (ac h6 (ac h6 (ac (z7 (c.lba) ((0:Int)) ((64:Int)) _ h7).any0 (ac h8 (ac h8 (ac h8 (ac h8 (ac h8 (ac h8 (ac (z7 (c.n) ((1:Int)) ((wr ((64:Int) - c.lba))) _ h9).any0 (ac h8 (ac h10 (ac h10 (ac h11 (ac h11 (ac h11 (ac h11 (ac h11 (ac h12 (ac h12 (ac h12 (ac h12 (ac h12 (ac h12 (ac h12 an))))))))))))))))))))))))))))))))))) tq) fun h11 h11p=> by intro e;injection e with e;subst e;exact x4 z9 (k:=300) (r:=[]) (hs:=hz [(6,[.fres (.b (s0))]),(1,[.no]),(23,[.fc]),(1,[.fc]),(1,[.fc]),(1,[.fc]),(1,[.fc]),(1,[.fc]),(1,[.fc]),(1,[.fc,.fc]),(1,[.fc]),(1,[.fc]),(3,[.no,.no,.no,.yes,.yes]),(2,[.fc,.yes]),(5,[.yes]),(1,[.yes]),(2,[.yes]),(1,[.yes]),(9,[.fres (.b (s7))]),(1,[.yes]),(1,[.yes]),(2,[.yes]),(1,[.yes]),(2,[.yes]),(1,[.yes]),(1,[.fres (.b (s9)),.yes]),(12,[.yes]),(1,[.yes]),(1,[.no,.no,.no,.no,.no]),(9,[])]) (raw:=(AV.b false)) kq (ac (z7 (c.kind) ((1:Int)) ((8:Int)) _ h0).any0 (ac h1 (ac h2 (ac h3 (ac h4 (ac h5 (ac (fq (p:=(((0:Int)≤c.kind)∧(c.kind < (9:Int))))) (ac (show z8 (rg Try.prog 31 0)=true∧x7 (Region.before (rg Try.prog 31 0)) [] 0 [(some [],some []),(some [],some []),(some [0],some []),(some [],some []),(some [],some [1]),(some [1],some [1])]=true from (x0 w9 w8 kq)) (ac h6 (ac h6 (ac h6 (ac h6 (ac (z7 (c.lba) ((0:Int)) ((64:Int)) _ h7).any0 (ac h8 (ac h8 (ac h8 (ac h8 (ac h8 (ac h8 (ac (z7 (c.n) ((1:Int)) ((wr ((64:Int) - c.lba))) _ h9).any0 (ac h8 (ac h10 (ac h10 (ac h11 (ac h11 (ac h11 (ac h11 (ac h11 an)))))))))))))))))))))))))))) tq) fun h10=> by intro e;injection e with e;subst e;exact x4 z9 (k:=300) (r:=[]) (hs:=hz [(6,[.fres (.b (s0))]),(1,[.no]),(23,[.fc]),(1,[.fc]),(1,[.fc]),(1,[.fc]),(1,[.fc]),(1,[.fc]),(1,[.fc]),(1,[.fc,.fc]),(1,[.fc]),(1,[.fc]),(3,[.no,.no,.no,.yes,.yes]),(2,[.fc,.yes]),(5,[.yes]),(1,[.yes]),(2,[.yes]),(1,[.yes]),(9,[.fres (.b (s7))]),(1,[.yes]),(1,[.yes]),(2,[.yes]),(1,[.yes]),(2,[.yes]),(1,[.yes]),(1,[.fres (.b (s9)),.yes]),(12,[.no,.no]),(15,[])]) (raw:=(AV.b false)) kq (ac (z7 (c.kind) ((1:Int)) ((8:Int)) _ h0).any0 (ac h1 (ac h2 (ac h3 (ac h4 (ac h5 (ac (fq (p:=(((0:Int)≤c.kind)∧(c.kind < (9:Int))))) (ac (show z8 (rg Try.prog 31 0)=true∧x7 (Region.before (rg Try.prog 31 0)) [] 0 [(some [],some []),(some [],some []),(some [0],some []),(some [],some []),(some [],some [1]),(some [1],some [1])]=true from (x0 w9 w8 kq)) (ac h6 (ac h6 (ac h6 (ac h6 (ac (z7 (c.lba) ((0:Int)) ((64:Int)) _ h7).any0 (ac h8 (ac h8 (ac h8 (ac h8 (ac h8 (ac h8 (ac (z7 (c.n) ((1:Int)) ((wr ((64:Int) - c.lba))) _ h9).any0 (ac h8 (ac h10 (ac h10 an))))))))))))))))))))))) tq) fun h8=> by intro e;injection e with e;subst e;exact x4 z9 (k:=300) (r:=[]) (hs:=hz [(6,[.fres (.b (s0))]),(1,[.no]),(23,[.fc]),(1,[.fc]),(1,[.fc]),(1,[.fc]),(1,[.fc]),(1,[.fc]),(1,[.fc]),(1,[.fc,.fc]),(1,[.fc]),(1,[.fc]),(3,[.no,.no,.no,.yes,.yes]),(2,[.fc,.yes]),(5,[.yes]),(1,[.yes]),(2,[.yes]),(1,[.yes]),(9,[.fres (.b (s7))]),(1,[.no,.no,.no,.no,.no,.no,.no]),(29,[])]) (raw:=(AV.b false)) kq (ac (z7 (c.kind) ((1:Int)) ((8:Int)) _ h0).any0 (ac h1 (ac h2 (ac h3 (ac h4 (ac h5 (ac (fq (p:=(((0:Int)≤c.kind)∧(c.kind < (9:Int))))) (ac (show z8 (rg Try.prog 31 0)=true∧x7 (Region.before (rg Try.prog 31 0)) [] 0 [(some [],some []),(some [],some []),(some [0],some []),(some [],some []),(some [],some [1]),(some [1],some [1])]=true from (x0 w9 w8 kq)) (ac h6 (ac h6 (ac h6 (ac h6 (ac (z7 (c.lba) ((0:Int)) ((64:Int)) _ h7).any0 (ac h8 (ac h8 (ac h8 (ac h8 (ac h8 (ac h8 (ac h8 an)))))))))))))))))))) tq) fun h6 h6p=> w6 fun s7 h7=> t6 (fun h8=> w6 fun s9 h9=> t6 (fun h10=> tbE (fun h11 h11p=> tbE (fun h12 h12p=> tbE (fun h13 h13p=> by intro e;injection e with e;subst e;exact x4 z9 (k:=300) (r:=[]) (hs:=hz [(6,[.fres (.b (s0))]),(1,[.no]),(23,[.fc]),(1,[.fc]),(1,[.fc]),(1,[.fc]),(1,[.fc]),(1,[.fc]),(1,[.fc]),(1,[.fc,.fc]),(1,[.fc]),(1,[.fc]),(3,[.no,.no,.no,.yes,.yes]),(2,[.fc,.yes]),(5,[.no,.no,.no,.no]),(9,[.fres (.b (s7))]),(1,[.yes]),(1,[.yes]),(2,[.yes]),(1,[.yes]),(2,[.yes]),(1,[.yes]),(1,[.fres (.b (s9)),.yes]),(12,[.yes]),(1,[.yes]),(1,[.yes]),(1,[.yes]),(2,[.yes]),(1,[.fc,.yes]),(9,[.yes]),(1,[.yes]),(1,[.yes]),(2,[.yes]),(1,[.yes]),(1,[.yes]),(1,[.yes,.yes,.yes,.yes,.yes,.yes,.yes]),(1,[])]) (raw:=(AV.b true)) kq (ac (z7 (c.kind) ((1:Int)) ((8:Int)) _ h0).any0 (ac h1 (ac h2 (ac h3 (ac h4 (ac h5 (ac (fq (p:=(((0:Int)≤c.kind)∧(c.kind < (9:Int))))) (ac (show z8 (rg Try.prog 31 0)=true∧x7 (Region.before (rg Try.prog 31 0)) [] 0 [(some [],some []),(some [],some []),(some [0],some []),(some [],some []),(some [],some [1]),(some [1],some [1])]=true from (x0 w9 w8 kq)) (ac h6 (ac h6 (ac h6 (ac h6 (ac (z7 (c.lba) ((0:Int)) ((64:Int)) _ h7).any0 (ac h8 (ac h8 (ac h8 (ac h8 (ac h8 (ac h8 (ac (z7 (c.n) ((1:Int)) ((wr ((64:Int) - c.lba))) _ h9).any0 (ac h8 (ac h10 (ac h10 (ac h11 (ac h11 (ac h11 (ac h11 (ac h11 (ac h12 (ac h12 (ac h12 (ac h12 (ac h12 (ac h13 (ac h13 (ac h13 (ac h13 (ac h12 (ac h13 (ac h12 an)))))))))))))))))))))))))))))))))))))))) tq) fun h13 h13p=> by intro e;injection e with e;subst e;exact x4 z9 (k:=300) (r:=[]) (hs:=hz [(6,[.fres (.b (s0))]),(1,[.no]),(23,[.fc]),(1,[.fc]),(1,[.fc]),(1,[.fc]),(1,[.fc]),(1,[.fc]),(1,[.fc]),(1,[.fc,.fc]),(1,[.fc]),(1,[.fc]),(3,[.no,.no,.no,.yes,.yes]),(2,[.fc,.yes]),(5,[.no,.no,.no,.no]),(9,[.fres (.b (s7))]),(1,[.yes]),(1,[.yes]),(2,[.yes]),(1,[.yes]),(2,[.yes]),(1,[.yes]),(1,[.fres (.b (s9)),.yes]),(12,[.yes]),(1,[.yes]),(1,[.yes]),(1,[.yes]),(2,[.yes]),(1,[.fc,.yes]),(9,[.yes]),(1,[.yes]),(1,[.yes]),(2,[.yes]),(1,[.yes]),(1,[.yes]),(1,[.no]),(1,[.no]),(2,[.no]),(4,[.no]),(1,[.yes,.no,.yes]),(1,[])]) (raw:=(AV.b false)) kq (ac (z7 (c.kind) ((1:Int)) ((8:Int)) _ h0).any0 (ac h1 (ac h2 (ac h3 (ac h4 (ac h5 (ac (fq (p:=(((0:Int)≤c.kind)∧(c.kind < (9:Int))))) (ac (show z8 (rg Try.prog 31 0)=true∧x7 (Region.before (rg Try.prog 31 0)) [] 0 [(some [],some []),(some [],some []),(some [0],some []),(some [],some []),(some [],some [1]),(some [1],some [1])]=true from (x0 w9 w8 kq)) (ac h6 (ac h6 (ac h6 (ac h6 (ac (z7 (c.lba) ((0:Int)) ((64:Int)) _ h7).any0 (ac h8 (ac h8 (ac h8 (ac h8 (ac h8 (ac h8 (ac (z7 (c.n) ((1:Int)) ((wr ((64:Int) - c.lba))) _ h9).any0 (ac h8 (ac h10 (ac h10 (ac h11 (ac h11 (ac h11 (ac h11 (ac h11 (ac h12 (ac h12 (ac h12 (ac h12 (ac h12 (ac h13 (ac h13 (ac h13 (ac h13 (ac h12 (ac h13 (ac h12 an)))))))))))))))))))))))))))))))))))))))) tq) fun h12 h12p=> by intro e;injection e with e;subst e;exact x4 z9 (k:=300) (r:=[]) (hs:=hz [(6,[.fres (.b (s0))]),(1,[.no]),(23,[.fc]),(1,[.fc]),(1,[.fc]),(1,[.fc]),(1,[.fc]),(1,[.fc]),(1,[.fc]),(1,[.fc,.fc]),(1,[.fc]),(1,[.fc]),(3,[.no,.no,.no,.yes,.yes]),(2,[.fc,.yes]),(5,[.no,.no,.no,.no]),(9,[.fres (.b (s7))]),(1,[.yes]),(1,[.yes]),(2,[.yes]),(1,[.yes]),(2,[.yes]),(1,[.yes]),(1,[.fres (.b (s9)),.yes]),(12,[.yes]),(1,[.yes]),(1,[.yes]),(1,[.yes]),(2,[.yes]),(1,[.fc,.yes]),(9,[.yes]),(1,[.no,.no,.no,.no,.no,.no,.no]),(1,[])]) (raw:=(AV.b false)) kq (ac (z7 (c.kind) ((1:Int)) ((8:Int)) _ h0).any0 (ac h1 (ac h2 (ac h3 (ac h4 (ac h5 (ac (fq (p:=(((0:Int)≤c.kind)∧(c.kind < (9:Int))))) (ac (show z8 (rg Try.prog 31 0)=true∧x7 (Region.before (rg Try.prog 31 0)) [] 0 [(some [],some []),(some [],some []),(some [0],some []),(some [],some []),(some [],some [1]),(some [1],some [1])]=true from (x0 w9 w8 kq)) (ac h6 (ac h6 (ac h6 (ac h6 (ac (z7 (c.lba) ((0:Int)) ((64:Int)) _ h7).any0 (ac h8 (ac h8 (ac h8 (ac h8 (ac h8 (ac h8 (ac (z7 (c.n) ((1:Int)) ((wr ((64:Int) - c.lba))) _ h9).any0 (ac h8 (ac h10 (ac h10 (ac h11 (ac h11 (ac h11 (ac h11 (ac h11 (ac h12 (ac h12 (ac h12 (ac h12 (ac h12 (ac h12 (ac h12 an))))))))))))))))))))))))))))))))))) tq) fun h11 h11p=> by intro e;injection e with e;subst e;exact x4 z9 (k:=300) (r:=[]) (hs:=hz [(6,[.fres (.b (s0))]),(1,[.no]),(23,[.fc]),(1,[.fc]),(1,[.fc]),(1,[.fc]),(1,[.fc]),(1,[.fc]),(1,[.fc]),(1,[.fc,.fc]),(1,[.fc]),(1,[.fc]),(3,[.no,.no,.no,.yes,.yes]),(2,[.fc,.yes]),(5,[.no,.no,.no,.no]),(9,[.fres (.b (s7))]),(1,[.yes]),(1,[.yes]),(2,[.yes]),(1,[.yes]),(2,[.yes]),(1,[.yes]),(1,[.fres (.b (s9)),.yes]),(12,[.yes]),(1,[.yes]),(1,[.no,.no,.no,.no,.no]),(9,[])]) (raw:=(AV.b false)) kq (ac (z7 (c.kind) ((1:Int)) ((8:Int)) _ h0).any0 (ac h1 (ac h2 (ac h3 (ac h4 (ac h5 (ac (fq (p:=(((0:Int)≤c.kind)∧(c.kind < (9:Int))))) (ac (show z8 (rg Try.prog 31 0)=true∧x7 (Region.before (rg Try.prog 31 0)) [] 0 [(some [],some []),(some [],some []),(some [0],some []),(some [],some []),(some [],some [1]),(some [1],some [1])]=true from (x0 w9 w8 kq)) (ac h6 (ac h6 (ac h6 (ac h6 (ac (z7 (c.lba) ((0:Int)) ((64:Int)) _ h7).any0 (ac h8 (ac h8 (ac h8 (ac h8 (ac h8 (ac h8 (ac (z7 (c.n) ((1:Int)) ((wr ((64:Int) - c.lba))) _ h9).any0 (ac h8 (ac h10 (ac h10 (ac h11 (ac h11 (ac h11 (ac h11 (ac h11 an)))))))))))))))))))))))))))) tq) fun h10=> by intro e;injection e with e;subst e;exact x4 z9 (k:=300) (r:=[]) (hs:=hz [(6,[.fres (.b (s0))]),(1,[.no]),(23,[.fc]),(1,[.fc]),(1,[.fc]),(1,[.fc]),(1,[.fc]),(1,[.fc]),(1,[.fc]),(1,[.fc,.fc]),(1,[.fc]),(1,[.fc]),(3,[.no,.no,.no,.yes,.yes]),(2,[.fc,.yes]),(5,[.no,.no,.no,.no]),(9,[.fres (.b (s7))]),(1,[.yes]),(1,[.yes]),(2,[.yes]),(1,[.yes]),(2,[.yes]),(1,[.yes]),(1,[.fres (.b (s9)),.yes]),(12,[.no,.no]),(15,[])]) (raw:=(AV.b false)) kq (ac (z7 (c.kind) ((1:Int)) ((8:Int)) _ h0).any0 (ac h1 (ac h2 (ac h3 (ac h4 (ac h5 (ac (fq (p:=(((0:Int)≤c.kind)∧(c.kind < (9:Int))))) (ac (show z8 (rg Try.prog 31 0)=true∧x7 (Region.before (rg Try.prog 31 0)) [] 0 [(some [],some []),(some [],some []),(some [0],some []),(some [],some []),(some [],some [1]),(some [1],some [1])]=true from (x0 w9 w8 kq)) (ac h6 (ac h6 (ac h6 (ac h6 (ac (z7 (c.lba) ((0:Int)) ((64:Int)) _ h7).any0 (ac h8 (ac h8 (ac h8 (ac h8 (ac h8 (ac h8 (ac (z7 (c.n) ((1:Int)) ((wr ((64:Int) - c.lba))) _ h9).any0 (ac h8 (ac h10 (ac h10 an))))))))))))))))))))))) tq) fun h8=> by intro e;injection e with e;subst e;exact x4 z9 (k:=300) (r:=[]) (hs:=hz [(6,[.fres (.b (s0))]),(1,[.no]),(23,[.fc]),(1,[.fc]),(1,[.fc]),(1,[.fc]),(1,[.fc]),(1,[.fc]),(1,[.fc]),(1,[.fc,.fc]),(1,[.fc]),(1,[.fc]),(3,[.no,.no,.no,.yes,.yes]),(2,[.fc,.yes]),(5,[.no,.no,.no,.no]),(9,[.fres (.b (s7))]),(1,[.no,.no,.no,.no,.no,.no,.no]),(29,[])]) (raw:=(AV.b false)) kq (ac (z7 (c.kind) ((1:Int)) ((8:Int)) _ h0).any0 (ac h1 (ac h2 (ac h3 (ac h4 (ac h5 (ac (fq (p:=(((0:Int)≤c.kind)∧(c.kind < (9:Int))))) (ac (show z8 (rg Try.prog 31 0)=true∧x7 (Region.before (rg Try.prog 31 0)) [] 0 [(some [],some []),(some [],some []),(some [0],some []),(some [],some []),(some [],some [1]),(some [1],some [1])]=true from (x0 w9 w8 kq)) (ac h6 (ac h6 (ac h6 (ac h6 (ac (z7 (c.lba) ((0:Int)) ((64:Int)) _ h7).any0 (ac h8 (ac h8 (ac h8 (ac h8 (ac h8 (ac h8 (ac h8 an)))))))))))))))))))) tq) fun h5 h5p=> tbD (fun h6 h6p=> tbE (fun h7 h7p=> w6 fun s8 h8=> tbE (fun h9 h9p=> t6 (fun h10=> tbE (fun h11 h11p=> tbE (fun h12 h12p=> by intro e;injection e with e;subst e;exact x4 z9 (k:=300) (r:=[]) (hs:=hz [(6,[.fres (.b (s0))]),(1,[.no]),(23,[.fc]),(1,[.fc]),(1,[.fc]),(1,[.fc]),(1,[.fc]),(1,[.fc]),(1,[.fc]),(1,[.fc,.fc]),(1,[.fc]),(1,[.fc]),(3,[.no,.no,.no,.no,.yes,.yes]),(2,[.fc,.yes]),(5,[.yes]),(1,[.yes]),(2,[.yes]),(1,[.yes]),(18,[.fres (.b (s8))]),(3,[.yes]),(1,[.yes]),(1,[.yes]),(1,[.yes]),(2,[.yes]),(1,[.fc,.yes]),(9,[.yes]),(1,[.yes]),(1,[.yes]),(2,[.yes]),(1,[.yes]),(1,[.yes]),(1,[.yes,.yes,.yes,.yes,.yes,.yes,.yes]),(1,[])]) (raw:=(AV.b true)) kq (ac (z7 (c.kind) ((1:Int)) ((8:Int)) _ h0).any0 (ac h1 (ac h2 (ac h3 (ac h4 (ac h5 (ac h6 (ac (fq (p:=(((0:Int)≤c.kind)∧(c.kind < (9:Int))))) (ac (show z8 (rg Try.prog 31 0)=true∧x7 (Region.before (rg Try.prog 31 0)) [] 0 [(some [],some []),(some [],some []),(some [0],some []),(some [],some []),(some [],some [1]),(some [1],some [1])]=true from (x0 w9 w8 kq)) (ac h7 (ac h7 (ac h7 (ac h7 (ac (z7 (c.id) ((1:Int)) ((2147483647:Int)) _ h8).any0 (ac h9 (ac h9 (ac h10 (ac h10 (ac h10 (ac h10 (ac h10 (ac h11 (ac h11 (ac h11 (ac h11 (ac h11 (ac h12 (ac h12 (ac h12 (ac h12 (ac h11 (ac h12 (ac h11 an))))))))))))))))))))))))))))))))) tq) fun h12 h12p=> by intro e;injection e with e;subst e;exact x4 z9 (k:=300) (r:=[]) (hs:=hz [(6,[.fres (.b (s0))]),(1,[.no]),(23,[.fc]),(1,[.fc]),(1,[.fc]),(1,[.fc]),(1,[.fc]),(1,[.fc]),(1,[.fc]),(1,[.fc,.fc]),(1,[.fc]),(1,[.fc]),(3,[.no,.no,.no,.no,.yes,.yes]),(2,[.fc,.yes]),(5,[.yes]),(1,[.yes]),(2,[.yes]),(1,[.yes]),(18,[.fres (.b (s8))]),(3,[.yes]),(1,[.yes]),(1,[.yes]),(1,[.yes]),(2,[.yes]),(1,[.fc,.yes]),(9,[.yes]),(1,[.yes]),(1,[.yes]),(2,[.yes]),(1,[.yes]),(1,[.yes]),(1,[.no]),(1,[.no]),(2,[.no]),(4,[.no]),(1,[.yes,.no,.yes]),(1,[])]) (raw:=(AV.b false)) kq (ac (z7 (c.kind) ((1:Int)) ((8:Int)) _ h0).any0 (ac h1 (ac h2 (ac h3 (ac h4 (ac h5 (ac h6 (ac (fq (p:=(((0:Int)≤c.kind)∧(c.kind < (9:Int))))) (ac (show z8 (rg Try.prog 31 0)=true∧x7 (Region.before (rg Try.prog 31 0)) [] 0 [(some [],some []),(some [],some []),(some [0],some []),(some [],some []),(some [],some [1]),(some [1],some [1])]=true from (x0 w9 w8 kq)) (ac h7 (ac h7 (ac h7 (ac h7 (ac (z7 (c.id) ((1:Int)) ((2147483647:Int)) _ h8).any0 (ac h9 (ac h9 (ac h10 (ac h10 (ac h10 (ac h10 (ac h10 (ac h11 (ac h11 (ac h11 (ac h11 (ac h11 (ac h12 (ac h12 (ac h12 (ac h12 (ac h11 (ac h12 (ac h11 an))))))))))))))))))))))))))))))))) tq) fun h11 h11p=> by intro e;injection e with e;subst e;exact x4 z9 (k:=300) (r:=[]) (hs:=hz [(6,[.fres (.b (s0))]),(1,[.no]),(23,[.fc]),(1,[.fc]),(1,[.fc]),(1,[.fc]),(1,[.fc]),(1,[.fc]),(1,[.fc]),(1,[.fc,.fc]),(1,[.fc]),(1,[.fc]),(3,[.no,.no,.no,.no,.yes,.yes]),(2,[.fc,.yes]),(5,[.yes]),(1,[.yes]),(2,[.yes]),(1,[.yes]),(18,[.fres (.b (s8))]),(3,[.yes]),(1,[.yes]),(1,[.yes]),(1,[.yes]),(2,[.yes]),(1,[.fc,.yes]),(9,[.yes]),(1,[.no,.no,.no,.no,.no,.no,.no]),(1,[])]) (raw:=(AV.b false)) kq (ac (z7 (c.kind) ((1:Int)) ((8:Int)) _ h0).any0 (ac h1 (ac h2 (ac h3 (ac h4 (ac h5 (ac h6 (ac (fq (p:=(((0:Int)≤c.kind)∧(c.kind < (9:Int))))) (ac (show z8 (rg Try.prog 31 0)=true∧x7 (Region.before (rg Try.prog 31 0)) [] 0 [(some [],some []),(some [],some []),(some [0],some []),(some [],some []),(some [],some [1]),(some [1],some [1])]=true from (x0 w9 w8 kq)) (ac h7 (ac h7 (ac h7 (ac h7 (ac (z7 (c.id) ((1:Int)) ((2147483647:Int)) _ h8).any0 (ac h9 (ac h9 (ac h10 (ac h10 (ac h10 (ac h10 (ac h10 (ac h11 (ac h11 (ac h11 (ac h11 (ac h11 (ac h11 (ac h11 an)))))))))))))))))))))))))))) tq) fun h10=> by intro e;injection e with e;subst e;exact x4 z9 (k:=300) (r:=[]) (hs:=hz [(6,[.fres (.b (s0))]),(1,[.no]),(23,[.fc]),(1,[.fc]),(1,[.fc]),(1,[.fc]),(1,[.fc]),(1,[.fc]),(1,[.fc]),(1,[.fc,.fc]),(1,[.fc]),(1,[.fc]),(3,[.no,.no,.no,.no,.yes,.yes]),(2,[.fc,.yes]),(5,[.yes]),(1,[.yes]),(2,[.yes]),(1,[.yes]),(18,[.fres (.b (s8))]),(3,[.yes]),(1,[.yes]),(1,[.no,.no,.no,.no,.no]),(9,[])]) (raw:=(AV.b false)) kq (ac (z7 (c.kind) ((1:Int)) ((8:Int)) _ h0).any0 (ac h1 (ac h2 (ac h3 (ac h4 (ac h5 (ac h6 (ac (fq (p:=(((0:Int)≤c.kind)∧(c.kind < (9:Int))))) (ac (show z8 (rg Try.prog 31 0)=true∧x7 (Region.before (rg Try.prog 31 0)) [] 0 [(some [],some []),(some [],some []),(some [0],some []),(some [],some []),(some [],some [1]),(some [1],some [1])]=true from (x0 w9 w8 kq)) (ac h7 (ac h7 (ac h7 (ac h7 (ac (z7 (c.id) ((1:Int)) ((2147483647:Int)) _ h8).any0 (ac h9 (ac h9 (ac h10 (ac h10 (ac h10 (ac h10 (ac h10 an))))))))))))))))))))) tq) fun h9 h9p=> by intro e;injection e with e;subst e;exact x4 z9 (k:=300) (r:=[]) (hs:=hz [(6,[.fres (.b (s0))]),(1,[.no]),(23,[.fc]),(1,[.fc]),(1,[.fc]),(1,[.fc]),(1,[.fc]),(1,[.fc]),(1,[.fc]),(1,[.fc,.fc]),(1,[.fc]),(1,[.fc]),(3,[.no,.no,.no,.no,.yes,.yes]),(2,[.fc,.yes]),(5,[.yes]),(1,[.yes]),(2,[.yes]),(1,[.yes]),(18,[.fres (.b (s8))]),(3,[.no,.no]),(15,[])]) (raw:=(AV.b false)) kq (ac (z7 (c.kind) ((1:Int)) ((8:Int)) _ h0).any0 (ac h1 (ac h2 (ac h3 (ac h4 (ac h5 (ac h6 (ac (fq (p:=(((0:Int)≤c.kind)∧(c.kind < (9:Int))))) (ac (show z8 (rg Try.prog 31 0)=true∧x7 (Region.before (rg Try.prog 31 0)) [] 0 [(some [],some []),(some [],some []),(some [0],some []),(some [],some []),(some [],some [1]),(some [1],some [1])]=true from (x0 w9 w8 kq)) (ac h7 (ac h7 (ac h7 (ac h7 (ac (z7 (c.id) ((1:Int)) ((2147483647:Int)) _ h8).any0 (ac h9 (ac h9 an)))))))))))))))) tq) fun h7 h7p=> w6 fun s8 h8=> by intro e;injection e with e;subst e;exact x4 z9 (k:=300) (r:=[]) (hs:=hz [(6,[.fres (.b (s0))]),(1,[.no]),(23,[.fc]),(1,[.fc]),(1,[.fc]),(1,[.fc]),(1,[.fc]),(1,[.fc]),(1,[.fc]),(1,[.fc,.fc]),(1,[.fc]),(1,[.fc]),(3,[.no,.no,.no,.no,.yes,.yes]),(2,[.fc,.yes]),(5,[.no,.no,.no,.no]),(18,[.fres (.b (s8))]),(20,[])]) (raw:=(AV.b false)) kq (ac (z7 (c.kind) ((1:Int)) ((8:Int)) _ h0).any0 (ac h1 (ac h2 (ac h3 (ac h4 (ac h5 (ac h6 (ac (fq (p:=(((0:Int)≤c.kind)∧(c.kind < (9:Int))))) (ac (show z8 (rg Try.prog 31 0)=true∧x7 (Region.before (rg Try.prog 31 0)) [] 0 [(some [],some []),(some [],some []),(some [0],some []),(some [],some []),(some [],some [1]),(some [1],some [1])]=true from (x0 w9 w8 kq)) (ac h7 (ac h7 (ac h7 (ac h7 (ac (z7 (c.id) ((1:Int)) ((2147483647:Int)) _ h8).any0 an)))))))))))))) tq) fun h6 h6p=> tbD (fun h7 h7p=> tbE (fun h8 h8p=> w6 fun s9 h9=> tbE (fun h10 h10p=> t6 (fun h11=> tbE (fun h12 h12p=> tbE (fun h13 h13p=> by intro e;injection e with e;subst e;exact x4 z9 (k:=300) (r:=[]) (hs:=hz [(6,[.fres (.b (s0))]),(1,[.no]),(23,[.fc]),(1,[.fc]),(1,[.fc]),(1,[.fc]),(1,[.fc]),(1,[.fc]),(1,[.fc]),(1,[.fc,.fc]),(1,[.fc]),(1,[.fc]),(3,[.no,.no,.no,.no,.no,.yes,.yes]),(2,[.fc,.yes]),(5,[.yes]),(1,[.yes]),(2,[.yes]),(1,[.yes]),(18,[.fres (.b (s9))]),(3,[.yes]),(1,[.yes]),(1,[.yes]),(1,[.yes]),(2,[.yes]),(1,[.fc,.yes]),(9,[.yes]),(1,[.yes]),(1,[.yes]),(2,[.yes]),(1,[.yes]),(1,[.yes]),(1,[.yes,.yes,.yes,.yes,.yes,.yes,.yes]),(1,[])]) (raw:=(AV.b true)) kq (ac (z7 (c.kind) ((1:Int)) ((8:Int)) _ h0).any0 (ac h1 (ac h2 (ac h3 (ac h4 (ac h5 (ac h6 (ac h7 (ac (fq (p:=(((0:Int)≤c.kind)∧(c.kind < (9:Int))))) (ac (show z8 (rg Try.prog 31 0)=true∧x7 (Region.before (rg Try.prog 31 0)) [] 0 [(some [],some []),(some [],some []),(some [0],some []),(some [],some []),(some [],some [1]),(some [1],some [1])]=true from (x0 w9 w8 kq)) (ac h8 (ac h8 (ac h8 (ac h8 (ac (z7 (c.id) ((1:Int)) ((2147483647:Int)) _ h9).any0 (ac h10 (ac h10 (ac h11 (ac h11 (ac h11 (ac h11 (ac h11 (ac h12 (ac h12 (ac h12 (ac h12 (ac h12 (ac h13 (ac h13 (ac h13 (ac h13 (ac h12 (ac h13 (ac h12 an)))))))))))))))))))))))))))))))))) tq) fun h13 h13p=> by intro e;injection e with e;subst e;exact x4 z9 (k:=300) (r:=[]) (hs:=hz [(6,[.fres (.b (s0))]),(1,[.no]),(23,[.fc]),(1,[.fc]),(1,[.fc]),(1,[.fc]),(1,[.fc]),(1,[.fc]),(1,[.fc]),(1,[.fc,.fc]),(1,[.fc]),(1,[.fc]),(3,[.no,.no,.no,.no,.no,.yes,.yes]),(2,[.fc,.yes]),(5,[.yes]),(1,[.yes]),(2,[.yes]),(1,[.yes]),(18,[.fres (.b (s9))]),(3,[.yes]),(1,[.yes]),(1,[.yes]),(1,[.yes]),(2,[.yes]),(1,[.fc,.yes]),(9,[.yes]),(1,[.yes]),(1,[.yes]),(2,[.yes]),(1,[.yes]),(1,[.yes]),(1,[.no]),(1,[.no]),(2,[.no]),(4,[.no]),(1,[.yes,.no,.yes]),(1,[])]) (raw:=(AV.b false)) kq (ac (z7 (c.kind) ((1:Int)) ((8:Int)) _ h0).any0 (ac h1 (ac h2 (ac h3 (ac h4 (ac h5 (ac h6 (ac h7 (ac (fq (p:=(((0:Int)≤c.kind)∧(c.kind < (9:Int))))) (ac (show z8 (rg Try.prog 31 0)=true∧x7 (Region.before (rg Try.prog 31 0)) [] 0 [(some [],some []),(some [],some []),(some [0],some []),(some [],some []),(some [],some [1]),(some [1],some [1])]=true from (x0 w9 w8 kq)) (ac h8 (ac h8 (ac h8 (ac h8 (ac (z7 (c.id) ((1:Int)) ((2147483647:Int)) _ h9).any0 (ac h10 (ac h10 (ac h11 (ac h11 (ac h11 (ac h11 (ac h11 (ac h12 (ac h12 (ac h12 (ac h12 (ac h12 (ac h13 (ac h13 (ac h13 (ac h13 (ac h12 (ac h13 (ac h12 an)))))))))))))))))))))))))))))))))) tq) fun h12 h12p=> by intro e;injection e with e;subst e;exact x4 z9 (k:=300) (r:=[]) (hs:=hz [(6,[.fres (.b (s0))]),(1,[.no]),(23,[.fc]),(1,[.fc]),(1,[.fc]),(1,[.fc]),(1,[.fc]),(1,[.fc]),(1,[.fc]),(1,[.fc,.fc]),(1,[.fc]),(1,[.fc]),(3,[.no,.no,.no,.no,.no,.yes,.yes]),(2,[.fc,.yes]),(5,[.yes]),(1,[.yes]),(2,[.yes]),(1,[.yes]),(18,[.fres (.b (s9))]),(3,[.yes]),(1,[.yes]),(1,[.yes]),(1,[.yes]),(2,[.yes]),(1,[.fc,.yes]),(9,[.yes]),(1,[.no,.no,.no,.no,.no,.no,.no]),(1,[])]) (raw:=(AV.b false)) kq (ac (z7 (c.kind) ((1:Int)) ((8:Int)) _ h0).any0 (ac h1 (ac h2 (ac h3 (ac h4 (ac h5 (ac h6 (ac h7 (ac (fq (p:=(((0:Int)≤c.kind)∧(c.kind < (9:Int))))) (ac (show z8 (rg Try.prog 31 0)=true∧x7 (Region.before (rg Try.prog 31 0)) [] 0 [(some [],some []),(some [],some []),(some [0],some []),(some [],some []),(some [],some [1]),(some [1],some [1])]=true from (x0 w9 w8 kq)) (ac h8 (ac h8 (ac h8 (ac h8 (ac (z7 (c.id) ((1:Int)) ((2147483647:Int)) _ h9).any0 (ac h10 (ac h10 (ac h11 (ac h11 (ac h11 (ac h11 (ac h11 (ac h12 (ac h12 (ac h12 (ac h12 (ac h12 (ac h12 (ac h12 an))))))))))))))))))))))))))))) tq) fun h11=> by intro e;injection e with e;subst e;exact x4 z9 (k:=300) (r:=[]) (hs:=hz [(6,[.fres (.b (s0))]),(1,[.no]),(23,[.fc]),(1,[.fc]),(1,[.fc]),(1,[.fc]),(1,[.fc]),(1,[.fc]),(1,[.fc]),(1,[.fc,.fc]),(1,[.fc]),(1,[.fc]),(3,[.no,.no,.no,.no,.no,.yes,.yes]),(2,[.fc,.yes]),(5,[.yes]),(1,[.yes]),(2,[.yes]),(1,[.yes]),(18,[.fres (.b (s9))]),(3,[.yes]),(1,[.yes]),(1,[.no,.no,.no,.no,.no]),(9,[])]) (raw:=(AV.b false)) kq (ac (z7 (c.kind) ((1:Int)) ((8:Int)) _ h0).any0 (ac h1 (ac h2 (ac h3 (ac h4 (ac h5 (ac h6 (ac h7 (ac (fq (p:=(((0:Int)≤c.kind)∧(c.kind < (9:Int))))) (ac (show z8 (rg Try.prog 31 0)=true∧x7 (Region.before (rg Try.prog 31 0)) [] 0 [(some [],some []),(some [],some []),(some [0],some []),(some [],some []),(some [],some [1]),(some [1],some [1])]=true from (x0 w9 w8 kq)) (ac h8 (ac h8 (ac h8 (ac h8 (ac (z7 (c.id) ((1:Int)) ((2147483647:Int)) _ h9).any0 (ac h10 (ac h10 (ac h11 (ac h11 (ac h11 (ac h11 (ac h11 an)))))))))))))))))))))) tq) fun h10 h10p=> by intro e;injection e with e;subst e;exact x4 z9 (k:=300) (r:=[]) (hs:=hz [(6,[.fres (.b (s0))]),(1,[.no]),(23,[.fc]),(1,[.fc]),(1,[.fc]),(1,[.fc]),(1,[.fc]),(1,[.fc]),(1,[.fc]),(1,[.fc,.fc]),(1,[.fc]),(1,[.fc]),(3,[.no,.no,.no,.no,.no,.yes,.yes]),(2,[.fc,.yes]),(5,[.yes]),(1,[.yes]),(2,[.yes]),(1,[.yes]),(18,[.fres (.b (s9))]),(3,[.no,.no]),(15,[])]) (raw:=(AV.b false)) kq (ac (z7 (c.kind) ((1:Int)) ((8:Int)) _ h0).any0 (ac h1 (ac h2 (ac h3 (ac h4 (ac h5 (ac h6 (ac h7 (ac (fq (p:=(((0:Int)≤c.kind)∧(c.kind < (9:Int))))) (ac (show z8 (rg Try.prog 31 0)=true∧x7 (Region.before (rg Try.prog 31 0)) [] 0 [(some [],some []),(some [],some []),(some [0],some []),(some [],some []),(some [],some [1]),(some [1],some [1])]=true from (x0 w9 w8 kq)) (ac h8 (ac h8 (ac h8 (ac h8 (ac (z7 (c.id) ((1:Int)) ((2147483647:Int)) _ h9).any0 (ac h10 (ac h10 an))))))))))))))))) tq) fun h8 h8p=> w6 fun s9 h9=> by intro e;injection e with e;subst e;exact x4 z9 (k:=300) (r:=[]) (hs:=hz [(6,[.fres (.b (s0))]),(1,[.no]),(23,[.fc]),(1,[.fc]),(1,[.fc]),(1,[.fc]),(1,[.fc]),(1,[.fc]),(1,[.fc]),(1,[.fc,.fc]),(1,[.fc]),(1,[.fc]),(3,[.no,.no,.no,.no,.no,.yes,.yes]),(2,[.fc,.yes]),(5,[.no,.no,.no,.no]),(18,[.fres (.b (s9))]),(20,[])]) (raw:=(AV.b false)) kq (ac (z7 (c.kind) ((1:Int)) ((8:Int)) _ h0).any0 (ac h1 (ac h2 (ac h3 (ac h4 (ac h5 (ac h6 (ac h7 (ac (fq (p:=(((0:Int)≤c.kind)∧(c.kind < (9:Int))))) (ac (show z8 (rg Try.prog 31 0)=true∧x7 (Region.before (rg Try.prog 31 0)) [] 0 [(some [],some []),(some [],some []),(some [0],some []),(some [],some []),(some [],some [1]),(some [1],some [1])]=true from (x0 w9 w8 kq)) (ac h8 (ac h8 (ac h8 (ac h8 (ac (z7 (c.id) ((1:Int)) ((2147483647:Int)) _ h9).any0 an))))))))))))))) tq) fun h7 h7p=> tbD (fun h8 h8p=> tbE (fun h9 h9p=> tbE (fun h10 h10p=> tbE (fun h11 h11p=> w6 fun s12 h12=> t6 (fun h13=> tbE (fun h14 h14p=> by intro e;injection e with e;subst e;exact x4 z9 (k:=300) (r:=[]) (hs:=hz [(6,[.fres (.b (s0))]),(1,[.no]),(23,[.fc]),(1,[.fc]),(1,[.fc]),(1,[.fc]),(1,[.fc]),(1,[.fc]),(1,[.fc]),(1,[.fc,.fc]),(1,[.fc]),(1,[.fc]),(3,[.no,.no,.no,.no,.no,.no,.yes,.yes]),(2,[.fc,.yes]),(5,[.yes]),(1,[.yes]),(2,[.yes]),(1,[.yes]),(16,[.yes]),(1,[.yes]),(1,[.yes]),(1,[.yes]),(2,[.yes]),(1,[.fc,.yes]),(8,[.fres (.b (s12))]),(1,[.yes]),(1,[.yes]),(1,[.yes]),(2,[.yes]),(1,[.yes]),(1,[.yes]),(1,[.yes,.yes,.yes,.yes,.yes,.yes,.yes]),(1,[])]) (raw:=(AV.b true)) kq (ac (z7 (c.kind) ((1:Int)) ((8:Int)) _ h0).any0 (ac h1 (ac h2 (ac h3 (ac h4 (ac h5 (ac h6 (ac h7 (ac h8 (ac (fq (p:=(((0:Int)≤c.kind)∧(c.kind < (9:Int))))) (ac (show z8 (rg Try.prog 31 0)=true∧x7 (Region.before (rg Try.prog 31 0)) [] 0 [(some [],some []),(some [],some []),(some [0],some []),(some [],some []),(some [],some [1]),(some [1],some [1])]=true from (x0 w9 w8 kq)) (ac h9 (ac h9 (ac h9 (ac h9 (ac h10 (ac h10 (ac h11 (ac h11 (ac h11 (ac h11 (ac (z7 ((c.d.length:Int)) ((1:Int)) ((1000:Int)) _ h12).any0 (ac h11 (ac h13 (ac h13 (ac h13 (ac h13 (ac h13 (ac h14 (ac h14 (ac h14 (ac h14 (ac h13 (ac h14 (ac h13 an))))))))))))))))))))))))))))))))))) tq) fun h14 h14p=> by intro e;injection e with e;subst e;exact x4 z9 (k:=300) (r:=[]) (hs:=hz [(6,[.fres (.b (s0))]),(1,[.no]),(23,[.fc]),(1,[.fc]),(1,[.fc]),(1,[.fc]),(1,[.fc]),(1,[.fc]),(1,[.fc]),(1,[.fc,.fc]),(1,[.fc]),(1,[.fc]),(3,[.no,.no,.no,.no,.no,.no,.yes,.yes]),(2,[.fc,.yes]),(5,[.yes]),(1,[.yes]),(2,[.yes]),(1,[.yes]),(16,[.yes]),(1,[.yes]),(1,[.yes]),(1,[.yes]),(2,[.yes]),(1,[.fc,.yes]),(8,[.fres (.b (s12))]),(1,[.yes]),(1,[.yes]),(1,[.yes]),(2,[.yes]),(1,[.yes]),(1,[.yes]),(1,[.no]),(1,[.no]),(2,[.no]),(4,[.no]),(1,[.yes,.no,.yes]),(1,[])]) (raw:=(AV.b false)) kq (ac (z7 (c.kind) ((1:Int)) ((8:Int)) _ h0).any0 (ac h1 (ac h2 (ac h3 (ac h4 (ac h5 (ac h6 (ac h7 (ac h8 (ac (fq (p:=(((0:Int)≤c.kind)∧(c.kind < (9:Int))))) (ac (show z8 (rg Try.prog 31 0)=true∧x7 (Region.before (rg Try.prog 31 0)) [] 0 [(some [],some []),(some [],some []),(some [0],some []),(some [],some []),(some [],some [1]),(some [1],some [1])]=true from (x0 w9 w8 kq)) (ac h9 (ac h9 (ac h9 (ac h9 (ac h10 (ac h10 (ac h11 (ac h11 (ac h11 (ac h11 (ac (z7 ((c.d.length:Int)) ((1:Int)) ((1000:Int)) _ h12).any0 (ac h11 (ac h13 (ac h13 (ac h13 (ac h13 (ac h13 (ac h14 (ac h14 (ac h14 (ac h14 (ac h13 (ac h14 (ac h13 an))))))))))))))))))))))))))))))))))) tq) fun h13=> by intro e;injection e with e;subst e;exact x4 z9 (k:=300) (r:=[]) (hs:=hz [(6,[.fres (.b (s0))]),(1,[.no]),(23,[.fc]),(1,[.fc]),(1,[.fc]),(1,[.fc]),(1,[.fc]),(1,[.fc]),(1,[.fc]),(1,[.fc,.fc]),(1,[.fc]),(1,[.fc]),(3,[.no,.no,.no,.no,.no,.no,.yes,.yes]),(2,[.fc,.yes]),(5,[.yes]),(1,[.yes]),(2,[.yes]),(1,[.yes]),(16,[.yes]),(1,[.yes]),(1,[.yes]),(1,[.yes]),(2,[.yes]),(1,[.fc,.yes]),(8,[.fres (.b (s12))]),(1,[.yes]),(1,[.no,.no,.no,.no,.no,.no,.no]),(1,[])]) (raw:=(AV.b false)) kq (ac (z7 (c.kind) ((1:Int)) ((8:Int)) _ h0).any0 (ac h1 (ac h2 (ac h3 (ac h4 (ac h5 (ac h6 (ac h7 (ac h8 (ac (fq (p:=(((0:Int)≤c.kind)∧(c.kind < (9:Int))))) (ac (show z8 (rg Try.prog 31 0)=true∧x7 (Region.before (rg Try.prog 31 0)) [] 0 [(some [],some []),(some [],some []),(some [0],some []),(some [],some []),(some [],some [1]),(some [1],some [1])]=true from (x0 w9 w8 kq)) (ac h9 (ac h9 (ac h9 (ac h9 (ac h10 (ac h10 (ac h11 (ac h11 (ac h11 (ac h11 (ac (z7 ((c.d.length:Int)) ((1:Int)) ((1000:Int)) _ h12).any0 (ac h11 (ac h13 (ac h13 (ac h13 (ac h13 (ac h13 (ac h13 (ac h13 an)))))))))))))))))))))))))))))) tq) fun h11 h11p=> by intro e;injection e with e;subst e;exact x4 z9 (k:=300) (r:=[]) (hs:=hz [(6,[.fres (.b (s0))]),(1,[.no]),(23,[.fc]),(1,[.fc]),(1,[.fc]),(1,[.fc]),(1,[.fc]),(1,[.fc]),(1,[.fc]),(1,[.fc,.fc]),(1,[.fc]),(1,[.fc]),(3,[.no,.no,.no,.no,.no,.no,.yes,.yes]),(2,[.fc,.yes]),(5,[.yes]),(1,[.yes]),(2,[.yes]),(1,[.yes]),(16,[.yes]),(1,[.yes]),(1,[.no,.no,.no,.no,.no]),(9,[])]) (raw:=(AV.b false)) kq (ac (z7 (c.kind) ((1:Int)) ((8:Int)) _ h0).any0 (ac h1 (ac h2 (ac h3 (ac h4 (ac h5 (ac h6 (ac h7 (ac h8 (ac (fq (p:=(((0:Int)≤c.kind)∧(c.kind < (9:Int))))) (ac (show z8 (rg Try.prog 31 0)=true∧x7 (Region.before (rg Try.prog 31 0)) [] 0 [(some [],some []),(some [],some []),(some [0],some []),(some [],some []),(some [],some [1]),(some [1],some [1])]=true from (x0 w9 w8 kq)) (ac h9 (ac h9 (ac h9 (ac h9 (ac h10 (ac h10 (ac h11 (ac h11 (ac h11 (ac h11 (ac h11 an)))))))))))))))))))))) tq) fun h10 h10p=> by intro e;injection e with e;subst e;exact x4 z9 (k:=300) (r:=[]) (hs:=hz [(6,[.fres (.b (s0))]),(1,[.no]),(23,[.fc]),(1,[.fc]),(1,[.fc]),(1,[.fc]),(1,[.fc]),(1,[.fc]),(1,[.fc]),(1,[.fc,.fc]),(1,[.fc]),(1,[.fc]),(3,[.no,.no,.no,.no,.no,.no,.yes,.yes]),(2,[.fc,.yes]),(5,[.yes]),(1,[.yes]),(2,[.yes]),(1,[.yes]),(16,[.no,.no]),(15,[])]) (raw:=(AV.b false)) kq (ac (z7 (c.kind) ((1:Int)) ((8:Int)) _ h0).any0 (ac h1 (ac h2 (ac h3 (ac h4 (ac h5 (ac h6 (ac h7 (ac h8 (ac (fq (p:=(((0:Int)≤c.kind)∧(c.kind < (9:Int))))) (ac (show z8 (rg Try.prog 31 0)=true∧x7 (Region.before (rg Try.prog 31 0)) [] 0 [(some [],some []),(some [],some []),(some [0],some []),(some [],some []),(some [],some [1]),(some [1],some [1])]=true from (x0 w9 w8 kq)) (ac h9 (ac h9 (ac h9 (ac h9 (ac h10 (ac h10 an))))))))))))))))) tq) fun h9 h9p=> by intro e;injection e with e;subst e;exact x4 z9 (k:=300) (r:=[]) (hs:=hz [(6,[.fres (.b (s0))]),(1,[.no]),(23,[.fc]),(1,[.fc]),(1,[.fc]),(1,[.fc]),(1,[.fc]),(1,[.fc]),(1,[.fc]),(1,[.fc,.fc]),(1,[.fc]),(1,[.fc]),(3,[.no,.no,.no,.no,.no,.no,.yes,.yes]),(2,[.fc,.yes]),(5,[.no,.no,.no,.no]),(33,[])]) (raw:=(AV.b false)) kq (ac (z7 (c.kind) ((1:Int)) ((8:Int)) _ h0).any0 (ac h1 (ac h2 (ac h3 (ac h4 (ac h5 (ac h6 (ac h7 (ac h8 (ac (fq (p:=(((0:Int)≤c.kind)∧(c.kind < (9:Int))))) (ac (show z8 (rg Try.prog 31 0)=true∧x7 (Region.before (rg Try.prog 31 0)) [] 0 [(some [],some []),(some [],some []),(some [0],some []),(some [],some []),(some [],some [1]),(some [1],some [1])]=true from (x0 w9 w8 kq)) (ac h9 (ac h9 (ac h9 (ac h9 an))))))))))))))) tq) fun h8 h8p=> tbD (fun h9 h9p=> tbE (fun h10 h10p=> tbE (fun h11 h11p=> tbE (fun h12 h12p=> tbE (fun h13 h13p=> tbE (fun h14 h14p=> by intro e;injection e with e;subst e;exact x4 z9 (k:=300) (r:=[]) (hs:=hz [(6,[.fres (.b (s0))]),(1,[.no]),(23,[.fc]),(1,[.fc]),(1,[.fc]),(1,[.fc]),(1,[.fc]),(1,[.fc]),(1,[.fc]),(1,[.fc,.fc]),(1,[.fc]),(1,[.fc]),(3,[.no,.no,.no,.no,.no,.no,.no,.yes,.yes]),(2,[.fc,.yes]),(5,[.yes]),(1,[.yes]),(2,[.yes]),(1,[.yes]),(16,[.yes]),(1,[.yes]),(1,[.yes]),(1,[.yes]),(2,[.yes]),(1,[.fc,.yes]),(9,[.yes]),(1,[.yes]),(1,[.yes]),(2,[.yes]),(1,[.yes]),(1,[.yes]),(1,[.yes,.yes,.yes,.yes,.yes,.yes,.yes]),(1,[])]) (raw:=(AV.b true)) kq (ac (z7 (c.kind) ((1:Int)) ((8:Int)) _ h0).any0 (ac h1 (ac h2 (ac h3 (ac h4 (ac h5 (ac h6 (ac h7 (ac h8 (ac h9 (ac (fq (p:=(((0:Int)≤c.kind)∧(c.kind < (9:Int))))) (ac (show z8 (rg Try.prog 31 0)=true∧x7 (Region.before (rg Try.prog 31 0)) [] 0 [(some [],some []),(some [],some []),(some [0],some []),(some [],some []),(some [],some [1]),(some [1],some [1])]=true from (x0 w9 w8 kq)) (ac h10 (ac h10 (ac h10 (ac h10 (ac h11 (ac h11 (ac h12 (ac h12 (ac h12 (ac h12 (ac h12 (ac h13 (ac h13 (ac h13 (ac h13 (ac h13 (ac h14 (ac h14 (ac h14 (ac h14 (ac h13 (ac h14 (ac h13 an))))))))))))))))))))))))))))))))))) tq) fun h14 h14p=> by intro e;injection e with e;subst e;exact x4 z9 (k:=300) (r:=[]) (hs:=hz [(6,[.fres (.b (s0))]),(1,[.no]),(23,[.fc]),(1,[.fc]),(1,[.fc]),(1,[.fc]),(1,[.fc]),(1,[.fc]),(1,[.fc]),(1,[.fc,.fc]),(1,[.fc]),(1,[.fc]),(3,[.no,.no,.no,.no,.no,.no,.no,.yes,.yes]),(2,[.fc,.yes]),(5,[.yes]),(1,[.yes]),(2,[.yes]),(1,[.yes]),(16,[.yes]),(1,[.yes]),(1,[.yes]),(1,[.yes]),(2,[.yes]),(1,[.fc,.yes]),(9,[.yes]),(1,[.yes]),(1,[.yes]),(2,[.yes]),(1,[.yes]),(1,[.yes]),(1,[.no]),(1,[.no]),(2,[.no]),(4,[.no]),(1,[.yes,.no,.yes]),(1,[])]) (raw:=(AV.b false)) kq (ac (z7 (c.kind) ((1:Int)) ((8:Int)) _ h0).any0 (ac h1 (ac h2 (ac h3 (ac h4 (ac h5 (ac h6 (ac h7 (ac h8 (ac h9 (ac (fq (p:=(((0:Int)≤c.kind)∧(c.kind < (9:Int))))) (ac (show z8 (rg Try.prog 31 0)=true∧x7 (Region.before (rg Try.prog 31 0)) [] 0 [(some [],some []),(some [],some []),(some [0],some []),(some [],some []),(some [],some [1]),(some [1],some [1])]=true from (x0 w9 w8 kq)) (ac h10 (ac h10 (ac h10 (ac h10 (ac h11 (ac h11 (ac h12 (ac h12 (ac h12 (ac h12 (ac h12 (ac h13 (ac h13 (ac h13 (ac h13 (ac h13 (ac h14 (ac h14 (ac h14 (ac h14 (ac h13 (ac h14 (ac h13 an))))))))))))))))))))))))))))))))))) tq) fun h13 h13p=> by intro e;injection e with e;subst e;exact x4 z9 (k:=300) (r:=[]) (hs:=hz [(6,[.fres (.b (s0))]),(1,[.no]),(23,[.fc]),(1,[.fc]),(1,[.fc]),(1,[.fc]),(1,[.fc]),(1,[.fc]),(1,[.fc]),(1,[.fc,.fc]),(1,[.fc]),(1,[.fc]),(3,[.no,.no,.no,.no,.no,.no,.no,.yes,.yes]),(2,[.fc,.yes]),(5,[.yes]),(1,[.yes]),(2,[.yes]),(1,[.yes]),(16,[.yes]),(1,[.yes]),(1,[.yes]),(1,[.yes]),(2,[.yes]),(1,[.fc,.yes]),(9,[.yes]),(1,[.no,.no,.no,.no,.no,.no,.no]),(1,[])]) (raw:=(AV.b false)) kq (ac (z7 (c.kind) ((1:Int)) ((8:Int)) _ h0).any0 (ac h1 (ac h2 (ac h3 (ac h4 (ac h5 (ac h6 (ac h7 (ac h8 (ac h9 (ac (fq (p:=(((0:Int)≤c.kind)∧(c.kind < (9:Int))))) (ac (show z8 (rg Try.prog 31 0)=true∧x7 (Region.before (rg Try.prog 31 0)) [] 0 [(some [],some []),(some [],some []),(some [0],some []),(some [],some []),(some [],some [1]),(some [1],some [1])]=true from (x0 w9 w8 kq)) (ac h10 (ac h10 (ac h10 (ac h10 (ac h11 (ac h11 (ac h12 (ac h12 (ac h12 (ac h12 (ac h12 (ac h13 (ac h13 (ac h13 (ac h13 (ac h13 (ac h13 (ac h13 an)))))))))))))))))))))))))))))) tq) fun h12 h12p=> by intro e;injection e with e;subst e;exact x4 z9 (k:=300) (r:=[]) (hs:=hz [(6,[.fres (.b (s0))]),(1,[.no]),(23,[.fc]),(1,[.fc]),(1,[.fc]),(1,[.fc]),(1,[.fc]),(1,[.fc]),(1,[.fc]),(1,[.fc,.fc]),(1,[.fc]),(1,[.fc]),(3,[.no,.no,.no,.no,.no,.no,.no,.yes,.yes]),(2,[.fc,.yes]),(5,[.yes]),(1,[.yes]),(2,[.yes]),(1,[.yes]),(16,[.yes]),(1,[.yes]),(1,[.no,.no,.no,.no,.no]),(9,[])]) (raw:=(AV.b false)) kq (ac (z7 (c.kind) ((1:Int)) ((8:Int)) _ h0).any0 (ac h1 (ac h2 (ac h3 (ac h4 (ac h5 (ac h6 (ac h7 (ac h8 (ac h9 (ac (fq (p:=(((0:Int)≤c.kind)∧(c.kind < (9:Int))))) (ac (show z8 (rg Try.prog 31 0)=true∧x7 (Region.before (rg Try.prog 31 0)) [] 0 [(some [],some []),(some [],some []),(some [0],some []),(some [],some []),(some [],some [1]),(some [1],some [1])]=true from (x0 w9 w8 kq)) (ac h10 (ac h10 (ac h10 (ac h10 (ac h11 (ac h11 (ac h12 (ac h12 (ac h12 (ac h12 (ac h12 an))))))))))))))))))))))) tq) fun h11 h11p=> by intro e;injection e with e;subst e;exact x4 z9 (k:=300) (r:=[]) (hs:=hz [(6,[.fres (.b (s0))]),(1,[.no]),(23,[.fc]),(1,[.fc]),(1,[.fc]),(1,[.fc]),(1,[.fc]),(1,[.fc]),(1,[.fc]),(1,[.fc,.fc]),(1,[.fc]),(1,[.fc]),(3,[.no,.no,.no,.no,.no,.no,.no,.yes,.yes]),(2,[.fc,.yes]),(5,[.yes]),(1,[.yes]),(2,[.yes]),(1,[.yes]),(16,[.no,.no]),(15,[])]) (raw:=(AV.b false)) kq (ac (z7 (c.kind) ((1:Int)) ((8:Int)) _ h0).any0 (ac h1 (ac h2 (ac h3 (ac h4 (ac h5 (ac h6 (ac h7 (ac h8 (ac h9 (ac (fq (p:=(((0:Int)≤c.kind)∧(c.kind < (9:Int))))) (ac (show z8 (rg Try.prog 31 0)=true∧x7 (Region.before (rg Try.prog 31 0)) [] 0 [(some [],some []),(some [],some []),(some [0],some []),(some [],some []),(some [],some [1]),(some [1],some [1])]=true from (x0 w9 w8 kq)) (ac h10 (ac h10 (ac h10 (ac h10 (ac h11 (ac h11 an)))))))))))))))))) tq) fun h10 h10p=> by intro e;injection e with e;subst e;exact x4 z9 (k:=300) (r:=[]) (hs:=hz [(6,[.fres (.b (s0))]),(1,[.no]),(23,[.fc]),(1,[.fc]),(1,[.fc]),(1,[.fc]),(1,[.fc]),(1,[.fc]),(1,[.fc]),(1,[.fc,.fc]),(1,[.fc]),(1,[.fc]),(3,[.no,.no,.no,.no,.no,.no,.no,.yes,.yes]),(2,[.fc,.yes]),(5,[.no,.no,.no,.no]),(33,[])]) (raw:=(AV.b false)) kq (ac (z7 (c.kind) ((1:Int)) ((8:Int)) _ h0).any0 (ac h1 (ac h2 (ac h3 (ac h4 (ac h5 (ac h6 (ac h7 (ac h8 (ac h9 (ac (fq (p:=(((0:Int)≤c.kind)∧(c.kind < (9:Int))))) (ac (show z8 (rg Try.prog 31 0)=true∧x7 (Region.before (rg Try.prog 31 0)) [] 0 [(some [],some []),(some [],some []),(some [0],some []),(some [],some []),(some [],some [1]),(some [1],some [1])]=true from (x0 w9 w8 kq)) (ac h10 (ac h10 (ac h10 (ac h10 an)))))))))))))))) tq) fun h9 h9p=> tbD (fun h10 h10p=> tbE (fun h11 h11p=> w6 fun s12 h12=> tbE (fun h13 h13p=> t6 (fun h14=> tbE (fun h15 h15p=> tbE (fun h16 h16p=> by intro e;injection e with e;subst e;exact x4 z9 (k:=300) (r:=[]) (hs:=hz [(6,[.fres (.b (s0))]),(1,[.no]),(23,[.fc]),(1,[.fc]),(1,[.fc]),(1,[.fc]),(1,[.fc]),(1,[.fc]),(1,[.fc]),(1,[.fc,.fc]),(1,[.fc]),(1,[.fc]),(3,[.no,.no,.no,.no,.no,.no,.no,.no,.yes,.yes]),(2,[.fc,.yes]),(5,[.yes]),(1,[.yes]),(2,[.yes]),(1,[.yes]),(18,[.fres (.b (s12))]),(3,[.yes]),(1,[.yes]),(1,[.yes]),(1,[.yes]),(2,[.yes]),(1,[.fc,.yes]),(9,[.yes]),(1,[.yes]),(1,[.yes]),(2,[.yes]),(1,[.yes]),(1,[.yes]),(1,[.yes,.yes,.yes,.yes,.yes,.yes,.yes]),(1,[])]) (raw:=(AV.b true)) kq (ac (z7 (c.kind) ((1:Int)) ((8:Int)) _ h0).any0 (ac h1 (ac h2 (ac h3 (ac h4 (ac h5 (ac h6 (ac h7 (ac h8 (ac h9 (ac h10 (ac (fq (p:=(((0:Int)≤c.kind)∧(c.kind < (9:Int))))) (ac (show z8 (rg Try.prog 31 0)=true∧x7 (Region.before (rg Try.prog 31 0)) [] 0 [(some [],some []),(some [],some []),(some [0],some []),(some [],some []),(some [],some [1]),(some [1],some [1])]=true from (x0 w9 w8 kq)) (ac h11 (ac h11 (ac h11 (ac h11 (ac (z7 (c.id) ((1:Int)) ((2147483647:Int)) _ h12).any0 (ac h13 (ac h13 (ac h14 (ac h14 (ac h14 (ac h14 (ac h14 (ac h15 (ac h15 (ac h15 (ac h15 (ac h15 (ac h16 (ac h16 (ac h16 (ac h16 (ac h15 (ac h16 (ac h15 an))))))))))))))))))))))))))))))))))))) tq) fun h16 h16p=> w6 fun s17 h17=> by intro e;injection e with e;subst e;exact x4 z9 (k:=300) (r:=[]) (hs:=hz [(6,[.fres (.b (s0))]),(1,[.no]),(23,[.fc]),(1,[.fc]),(1,[.fc]),(1,[.fc]),(1,[.fc]),(1,[.fc]),(1,[.fc]),(1,[.fc,.fc]),(1,[.fc]),(1,[.fc]),(3,[.no,.no,.no,.no,.no,.no,.no,.no,.yes,.yes]),(2,[.fc,.yes]),(5,[.yes]),(1,[.yes]),(2,[.yes]),(1,[.yes]),(18,[.fres (.b (s12))]),(3,[.yes]),(1,[.yes]),(1,[.yes]),(1,[.yes]),(2,[.yes]),(1,[.fc,.yes]),(9,[.yes]),(1,[.yes]),(1,[.yes]),(2,[.yes]),(1,[.yes]),(1,[.yes]),(1,[.no]),(1,[.no]),(2,[.no]),(8,[.fres (.b (s17)),.no]),(1,[.yes,.no,.yes]),(1,[])]) (raw:=(AV.b s17)) kq (ac (z7 (c.kind) ((1:Int)) ((8:Int)) _ h0).any0 (ac h1 (ac h2 (ac h3 (ac h4 (ac h5 (ac h6 (ac h7 (ac h8 (ac h9 (ac h10 (ac (fq (p:=(((0:Int)≤c.kind)∧(c.kind < (9:Int))))) (ac (show z8 (rg Try.prog 31 0)=true∧x7 (Region.before (rg Try.prog 31 0)) [] 0 [(some [],some []),(some [],some []),(some [0],some []),(some [],some []),(some [],some [1]),(some [1],some [1])]=true from (x0 w9 w8 kq)) (ac h11 (ac h11 (ac h11 (ac h11 (ac (z7 (c.id) ((1:Int)) ((2147483647:Int)) _ h12).any0 (ac h13 (ac h13 (ac h14 (ac h14 (ac h14 (ac h14 (ac h14 (ac h15 (ac h15 (ac h15 (ac h15 (ac h15 (ac h16 (ac h16 (ac h16 (ac (zkf (c.list) _ h17).any0 (ac h16 (ac h15 (ac h16 (ac h15 an)))))))))))))))))))))))))))))))))))))) tq) fun h15 h15p=> by intro e;injection e with e;subst e;exact x4 z9 (k:=300) (r:=[]) (hs:=hz [(6,[.fres (.b (s0))]),(1,[.no]),(23,[.fc]),(1,[.fc]),(1,[.fc]),(1,[.fc]),(1,[.fc]),(1,[.fc]),(1,[.fc]),(1,[.fc,.fc]),(1,[.fc]),(1,[.fc]),(3,[.no,.no,.no,.no,.no,.no,.no,.no,.yes,.yes]),(2,[.fc,.yes]),(5,[.yes]),(1,[.yes]),(2,[.yes]),(1,[.yes]),(18,[.fres (.b (s12))]),(3,[.yes]),(1,[.yes]),(1,[.yes]),(1,[.yes]),(2,[.yes]),(1,[.fc,.yes]),(9,[.yes]),(1,[.no,.no,.no,.no,.no,.no,.no]),(1,[])]) (raw:=(AV.b false)) kq (ac (z7 (c.kind) ((1:Int)) ((8:Int)) _ h0).any0 (ac h1 (ac h2 (ac h3 (ac h4 (ac h5 (ac h6 (ac h7 (ac h8 (ac h9 (ac h10 (ac (fq (p:=(((0:Int)≤c.kind)∧(c.kind < (9:Int))))) (ac (show z8 (rg Try.prog 31 0)=true∧x7 (Region.before (rg Try.prog 31 0)) [] 0 [(some [],some []),(some [],some []),(some [0],some []),(some [],some []),(some [],some [1]),(some [1],some [1])]=true from (x0 w9 w8 kq)) (ac h11 (ac h11 (ac h11 (ac h11 (ac (z7 (c.id) ((1:Int)) ((2147483647:Int)) _ h12).any0 (ac h13 (ac h13 (ac h14 (ac h14 (ac h14 (ac h14 (ac h14 (ac h15 (ac h15 (ac h15 (ac h15 (ac h15 (ac h15 (ac h15 an)))))))))))))))))))))))))))))))) tq) fun h14=> by intro e;injection e with e;subst e;exact x4 z9 (k:=300) (r:=[]) (hs:=hz [(6,[.fres (.b (s0))]),(1,[.no]),(23,[.fc]),(1,[.fc]),(1,[.fc]),(1,[.fc]),(1,[.fc]),(1,[.fc]),(1,[.fc]),(1,[.fc,.fc]),(1,[.fc]),(1,[.fc]),(3,[.no,.no,.no,.no,.no,.no,.no,.no,.yes,.yes]),(2,[.fc,.yes]),(5,[.yes]),(1,[.yes]),(2,[.yes]),(1,[.yes]),(18,[.fres (.b (s12))]),(3,[.yes]),(1,[.yes]),(1,[.no,.no,.no,.no,.no]),(9,[])]) (raw:=(AV.b false)) kq (ac (z7 (c.kind) ((1:Int)) ((8:Int)) _ h0).any0 (ac h1 (ac h2 (ac h3 (ac h4 (ac h5 (ac h6 (ac h7 (ac h8 (ac h9 (ac h10 (ac (fq (p:=(((0:Int)≤c.kind)∧(c.kind < (9:Int))))) (ac (show z8 (rg Try.prog 31 0)=true∧x7 (Region.before (rg Try.prog 31 0)) [] 0 [(some [],some []),(some [],some []),(some [0],some []),(some [],some []),(some [],some [1]),(some [1],some [1])]=true from (x0 w9 w8 kq)) (ac h11 (ac h11 (ac h11 (ac h11 (ac (z7 (c.id) ((1:Int)) ((2147483647:Int)) _ h12).any0 (ac h13 (ac h13 (ac h14 (ac h14 (ac h14 (ac h14 (ac h14 an))))))))))))))))))))))))) tq) fun h13 h13p=> by intro e;injection e with e;subst e;exact x4 z9 (k:=300) (r:=[]) (hs:=hz [(6,[.fres (.b (s0))]),(1,[.no]),(23,[.fc]),(1,[.fc]),(1,[.fc]),(1,[.fc]),(1,[.fc]),(1,[.fc]),(1,[.fc]),(1,[.fc,.fc]),(1,[.fc]),(1,[.fc]),(3,[.no,.no,.no,.no,.no,.no,.no,.no,.yes,.yes]),(2,[.fc,.yes]),(5,[.yes]),(1,[.yes]),(2,[.yes]),(1,[.yes]),(18,[.fres (.b (s12))]),(3,[.no,.no]),(15,[])]) (raw:=(AV.b false)) kq (ac (z7 (c.kind) ((1:Int)) ((8:Int)) _ h0).any0 (ac h1 (ac h2 (ac h3 (ac h4 (ac h5 (ac h6 (ac h7 (ac h8 (ac h9 (ac h10 (ac (fq (p:=(((0:Int)≤c.kind)∧(c.kind < (9:Int))))) (ac (show z8 (rg Try.prog 31 0)=true∧x7 (Region.before (rg Try.prog 31 0)) [] 0 [(some [],some []),(some [],some []),(some [0],some []),(some [],some []),(some [],some [1]),(some [1],some [1])]=true from (x0 w9 w8 kq)) (ac h11 (ac h11 (ac h11 (ac h11 (ac (z7 (c.id) ((1:Int)) ((2147483647:Int)) _ h12).any0 (ac h13 (ac h13 an)))))))))))))))))))) tq) fun h11 h11p=> w6 fun s12 h12=> by intro e;injection e with e;subst e;exact x4 z9 (k:=300) (r:=[]) (hs:=hz [(6,[.fres (.b (s0))]),(1,[.no]),(23,[.fc]),(1,[.fc]),(1,[.fc]),(1,[.fc]),(1,[.fc]),(1,[.fc]),(1,[.fc]),(1,[.fc,.fc]),(1,[.fc]),(1,[.fc]),(3,[.no,.no,.no,.no,.no,.no,.no,.no,.yes,.yes]),(2,[.fc,.yes]),(5,[.no,.no,.no,.no]),(18,[.fres (.b (s12))]),(20,[])]) (raw:=(AV.b false)) kq (ac (z7 (c.kind) ((1:Int)) ((8:Int)) _ h0).any0 (ac h1 (ac h2 (ac h3 (ac h4 (ac h5 (ac h6 (ac h7 (ac h8 (ac h9 (ac h10 (ac (fq (p:=(((0:Int)≤c.kind)∧(c.kind < (9:Int))))) (ac (show z8 (rg Try.prog 31 0)=true∧x7 (Region.before (rg Try.prog 31 0)) [] 0 [(some [],some []),(some [],some []),(some [0],some []),(some [],some []),(some [],some [1]),(some [1],some [1])]=true from (x0 w9 w8 kq)) (ac h11 (ac h11 (ac h11 (ac h11 (ac (z7 (c.id) ((1:Int)) ((2147483647:Int)) _ h12).any0 an)))))))))))))))))) tq) fun h10 h10p=> u6
end Ab
end Go.Proofs.Ytpflcogplhigcaa
namespace Go.Proofs.Ytpflcogplhigcaa
open Go Go.Proofs.Ytpflcogplhigcaa.Ab
set_option linter.unusedVariables false
set_option linter.unusedSimpArgs false
namespace Ab
theorem zfc {σ α:Type} {step:σ→Option σ} {f:σ→Option α} (r1 r2:Option α) (S:Nat→σ) (n:Nat) (P:Nat→Prop) (Q:Prop) [Decidable Q] (hQ:(∀i,i < n→P i)↔Q)
 (hs:∀i:Nat,i < n→(∀j,j < i→P j)→P i→step (S i)=some (S (i+1))) (hf:∀i:Nat,i < n→(∀j,j < i→P j)→¬P i→step (S i)=none∧f (S i)=r1) (he:(∀j,j < n→P j)→step (S n)=none∧f (S n)=r2):
 th step (S 0) f=if Q then r2 else r1:=by
 by_cases h:∀i,i < n→P i
 · rw [if_pos (hQ.1 h),z15 (step:=step) (f:=f) S n (fun i hi=> hs i hi (fun j hj=> h j (by omega)) (h i hi)) (he h).1]
   exact (he h).2
 · rw [if_neg (fun g=> h (hQ.2 g))]
   have hex:∃i,i < n∧¬P i:=Classical.byContradiction fun hn=> h fun i hi=> Classical.byContradiction fun hp=> hn ⟨i,hi,hp⟩
   have key:∀k,(∃i,i < k∧i < n∧¬P i)→∃i,i < n∧¬P i∧∀j,j < i→P j:=by
    intro k
    induction k with
    | zero=> rintro ⟨i,hi,_⟩;omega
    | succ k ih=>
      rintro ⟨i,h1,h2,h3⟩
      by_cases hk:∃i,i < k∧i < n∧¬P i
      · exact ih hk
      · have hik:i=k:=by
         rcases Nat.lt_or_ge i k with g | g
         · exact absurd ⟨i,g,h2,h3⟩ hk
         · omega
        refine ⟨i,h2,h3,fun j hj=> ?_⟩
        exact Classical.byContradiction fun hp=> hk ⟨j,by omega,by omega,hp⟩
   obtain ⟨i,h1,h2⟩:=hex
   obtain ⟨k,k1,k2,k3⟩:=key (i+1) ⟨i,by omega,h1,h2⟩
   rw [z15 (step:=step) (f:=f) S k (fun i hi=> hs i (by omega) (fun j hj=> k3 j (by omega)) (k3 i hi)) (hf k k1 k3 k2).1]
   exact (hf k k1 k3 k2).2
def sl:List Ex→Int
 | []=> 0
 | x::l=> x.len+sl l
theorem z78:∀a b:List Ex,sl (a++b)=sl a+sl b
 | [],b=> by simp [sl]
 | x::a,b=> by simp only [List.cons_append,sl,z78 a b];omega
theorem zdl (l:List Ex) (i:Nat) (h:i < l.length):sl (l.take (i+1))=sl (l.take i)+(z0 l i).len:=by
 rw [z7h ⟨0,0,0,0,[]⟩ l i h,z78];simp [sl,z0]
def MP (l:List Ex) (i:Nat):Prop:=Ck (z0 l i)∧(z0 l i).lba=sl (l.take i)∧(0 < i→¬Jn (z0 l (i - 1)) (z0 l i))
def Mk (blocks:Int) (l:List Ex):Prop:=l≠[]∧(∀i,i < l.length→MP l i)∧sl l=blocks
instance (l:List Ex) (i:Nat):Decidable (MP l i):=by unfold MP;infer_instance
instance (blocks:Int) (l:List Ex):Decidable (Mk blocks l):=by unfold Mk;infer_instance
def mk (blocks:Int) (l:List Ex):Bool:=decide (Mk blocks l)
theorem y00 {blocks:Int} {l:List Ex}:mk blocks l=true↔Mk blocks l:=decide_eq_true_iff
theorem mk_t {blocks:Int} {l:List Ex} (h:Mk blocks l):mk blocks l=true:=y00.2 h
theorem zuc {blocks:Int} {l:List Ex} (h:¬Mk blocks l):mk blocks l=false:=decide_eq_false_iff_not.2 h
theorem zfb {l:List Ex} {i:Nat} (hi:i≤l.length) (h:∀j,j < i→MP l j):0≤sl (l.take i)∧sl (l.take i)≤64∧(0 < i→1≤sl (l.take i)):=by
 induction i with
 | zero=> simp [sl]
 | succ i ih=>
   have h1:=ih (by omega) fun j hj=> h j (by omega)
   have h2:=h i (by omega)
   have h3:=h2.1
   have h4:=h2.2.1
   unfold Ck at h3
   rw [zdl l i (by omega)]
   omega
theorem zbz (blocks:Int) (l:List Ex) (hl:l.length≤9223372036854775807):z9w blocks l=some (mk blocks l):=by
 unfold z9w
 have hstep:∀i:Nat,i < l.length→(∀j,j < i→MP l j)→MP l i→z11 blocks l (sl (l.take i),(i:Int))=some (sl (l.take (i+1)),((i+1:Nat):Int)):=by
  intro i hi hpre hp
  have hb:=zfb (by omega) hpre
  have hck:=hp.1
  have hlba:=hp.2.1
  unfold z11
  simp only [x9,z1c,z26,z2m,z93,v6,Int.toNat_natCast]
  unfold Ck at hck
  rw [if_pos (by omega),x6 (by omega),zce hp.1,z68,if_pos hlba,zdl l i hi,t9 (x:=sl (l.take i)+(z0 l i).len) (by omega) (by omega),t9 (x:=(i:Int)+1) (by omega) (by omega)]
  have e1:((i+1:Nat):Int)=(i:Int)+1:=by omega
  rw [e1]
  by_cases h0:(i:Int) > 0
  · rw [if_pos h0,t9 (x:=(i:Int) - 1) (by omega) (by omega),x6 (by omega),show ((i:Int) - 1).toNat=i - 1 by omega,zp8 (hp.2.2 (by omega)),zdf]
  · rw [if_neg h0]
 have:=zfc (step:=z11 blocks l) (some false) (if l≠[]∧sl l=blocks then some true else some false) (fun i=> (sl (l.take i),(i:Int))) l.length (MP l) (∀i,i < l.length→MP l i) Iff.rfl hstep (f:=fun s0=>
  tb (decide (s0.2 < (l.length:Int))) (tp ((0:Int)≤s0.2∧s0.2 < (l.length:Int)) (tc (z2p (z0 l s0.2.toNat)) fun s3=> tb (!s3) (some false) (tb ((z0 l s0.2.toNat).lba !=s0.1) (some false) (tb (decide (s0.2 > 0)) (tp ((0:Int)≤wr (s0.2 - 1)∧wr (s0.2 - 1) < (l.length:Int)) (tc (z6u (z0 l (wr (s0.2 - 1)).toNat) (z0 l s0.2.toNat)) fun s8=> tb s8 (some false) none)) none))))
   (tb (decide ((l.length:Int) > 0)) (some (s0.1==blocks)) (some false))) ?_ ?_
 · simp only [List.take_zero,sl,Int.natCast_zero] at this
   rw [this]
   by_cases hall:∀i,i < l.length→MP l i
   · rw [if_pos hall]
     by_cases h:l≠[]∧sl l=blocks
     · rw [if_pos h,mk_t ⟨h.1,hall,h.2⟩]
     · rw [if_neg h,zuc fun g=> h ⟨g.1,g.2.2⟩]
   · rw [if_neg hall,zuc fun g=> hall g.2.1]
 · intro i hi hpre hp
   have hb:=zfb (by omega) hpre
   unfold z11
   simp only [x9,z1c,z26,z2m,z93,v6,Int.toNat_natCast]
   by_cases hck:Ck (z0 l i)
   case neg=> refine ⟨?_,?_⟩ <;> (rw [if_pos (by omega),x6 (by omega),zad hck];rfl)
   by_cases hlba:(z0 l i).lba=sl (l.take i)
   case neg=> refine ⟨?_,?_⟩ <;> (rw [if_pos (by omega),x6 (by omega),zce hck,z68,if_neg hlba])
   have hj:0 < i∧Jn (z0 l (i - 1)) (z0 l i):=by
    refine ⟨?_,?_⟩
    · rcases Nat.eq_zero_or_pos i with h | h
      · subst h;exact absurd ⟨hck,hlba,fun h=> by omega⟩ hp
      · exact h
    · exact Classical.byContradiction fun h=> hp ⟨hck,hlba,fun _=> h⟩
   refine ⟨?_,?_⟩ <;> (rw [if_pos (by omega),x6 (by omega),zce hck,z68,if_pos hlba,if_pos (by omega),t9 (x:=(i:Int) - 1) (by omega) (by omega),x6 (by omega),show ((i:Int) - 1).toNat=i - 1 by omega,jn_t hj.2];rfl)
 · intro hall
   unfold z11
   simp only [x9]
   rw [if_neg (by omega),if_neg (by omega)]
   refine ⟨rfl,?_⟩
   rw [List.take_length]
   by_cases h0:l=[]
   · subst h0;simp
   · have:0 < l.length:=List.length_pos_iff.2 h0
     rw [if_pos (by omega)]
     by_cases hb:sl l=blocks
     · rw [if_pos ⟨h0,hb⟩,hb];simp
     · rw [if_neg (fun h=> hb h.2)];simp [hb]
theorem z97 {blocks:Int} {l:List Ex} (h:Mk blocks l):1≤blocks∧blocks≤64:=by
 have hb:=zfb (Nat.le_refl _) h.2.1
 rw [List.take_length,h.2.2] at hb
 have:=List.length_pos_iff.2 h.1
 omega
end Ab
end Go.Proofs.Ytpflcogplhigcaa
namespace Go.Proofs.Ytpflcogplhigcaa
open Go Go.Proofs.Ytpflcogplhigcaa.Ab
set_option linter.unusedVariables false
set_option linter.unusedSimpArgs false
set_option maxRecDepth 1000000
set_option maxHeartbeats 0
namespace Ab
noncomputable def z7y (x:Ex) (lba:Int) (n:Int):Option (Ex×Bool):=
 (tc (z2p (x)) fun s0=> (tb ((!s0)) (some (((Ex.mk 0 0 0 0 ([]:List UInt8)),false))) (tb ((decide (lba≥(0:Int)))) (tb ((!(decide (lba≤(64:Int))))) (some (((Ex.mk 0 0 0 0 ([]:List UInt8)),false))) (tb ((decide (n≥(0:Int)))) (tb ((!(decide (n≤(64:Int))))) (some (((Ex.mk 0 0 0 0 ([]:List UInt8)),false))) (tb ((decide ((z3p x.lba lba)≥(z5y (wr (x.lba+x.len)) (wr (lba+n)))))) (some (((Ex.mk 0 0 0 0 ([]:List UInt8)),false))) (tb ((x.kind==(2:Int))) (tp (((0:Int)≤(wr ((wr ((z3p x.lba lba) - x.lba))*(32:Int))))) (tp (((0:Int)≤(wr ((wr ((z5y (wr (x.lba+x.len)) (wr (lba+n))) - x.lba))*(32:Int))))) (tp ((((Int.toNat (wr ((wr ((z3p x.lba lba) - x.lba))*(32:Int))))≤(Int.toNat (wr ((wr ((z5y (wr (x.lba+x.len)) (wr (lba+n))) - x.lba))*(32:Int)))))∧(((Int.toNat (wr ((wr ((z5y (wr (x.lba+x.len)) (wr (lba+n))) - x.lba))*(32:Int))))≤x.d.length)∧((List.length (List.map AV.y x.d))=(x.d.length*1))))) (tp ((((Int.toNat (wr ((wr ((z5y (wr (x.lba+x.len)) (wr (lba+n))) - x.lba))*(32:Int)))) - (Int.toNat (wr ((wr ((z3p x.lba lba) - x.lba))*(32:Int)))))≤(4294967296:Nat))) (some (((Ex.mk (z3p x.lba lba) (wr ((z5y (wr (x.lba+x.len)) (wr (lba+n))) - (z3p x.lba lba))) x.kind x.gen (List.take (((Int.toNat (wr ((wr ((z5y (wr (x.lba+x.len)) (wr (lba+n))) - x.lba))*(32:Int)))) - (Int.toNat (wr ((wr ((z3p x.lba lba) - x.lba))*(32:Int)))))*1) (List.take (((Int.toNat (wr ((wr ((z5y (wr (x.lba+x.len)) (wr (lba+n))) - x.lba))*(32:Int)))) - (Int.toNat (wr ((wr ((z3p x.lba lba) - x.lba))*(32:Int)))))*1) (List.drop ((Int.toNat (wr ((wr ((z3p x.lba lba) - x.lba))*(32:Int))))*1) x.d)))),true))))))) (some (((Ex.mk (z3p x.lba lba) (wr ((z5y (wr (x.lba+x.len)) (wr (lba+n))) - (z3p x.lba lba))) x.kind x.gen ([]:List UInt8)),true)))))) (some (((Ex.mk 0 0 0 0 ([]:List UInt8)),false))))) (some (((Ex.mk 0 0 0 0 ([]:List UInt8)),false))))))
abbrev zz3 (x:Ex) (lba:Int) (n:Int) (r:Ex×Bool):Prop:=z06 Try.prog cf true 75 [Ex.av (x),.i (lba),.i (n)] (.tu [Ex.av (r.1),.b (r.2)])
theorem d6 (x:Ex) (lba:Int) (n:Int) (r:Ex×Bool):z7y x lba n=some r→zz3 x lba n r:=by
 unfold z7y
 exact w6 fun s0 h0=> t6 (fun h1=> by intro e;injection e with e;subst e;exact x4 z9 (k:=300) (r:=[]) (hs:=hz [(4,[.fc]),(1,[.fres (.b (s0))]),(2,[.yes,.yes,.yes,.yes]),(8,[.fc]),(2,[.fc])]) (raw:=(AV.tu [(AV.ag [(AV.i 0),(AV.i 0),(AV.i 0),(AV.i 0),(AV.sl 0 ([]:List AV))]),(AV.b false)])) kq (ac (j9 (x) _ h0).any0 (ac h1 (ac h1 (ac h1 (ac h1 an))))) tq) fun h1=> tbD (fun h2 h2p=> t6 (fun h3=> by intro e;injection e with e;subst e;exact x4 z9 (k:=300) (r:=[]) (hs:=hz [(4,[.fc]),(1,[.fres (.b (s0))]),(2,[.no]),(1,[.no]),(7,[.yes]),(1,[.yes]),(1,[.yes]),(1,[.yes]),(1,[.no]),(1,[.no]),(1,[.yes,.yes,.yes,.yes]),(3,[.fc]),(2,[.fc])]) (raw:=(AV.tu [(AV.ag [(AV.i 0),(AV.i 0),(AV.i 0),(AV.i 0),(AV.sl 0 ([]:List AV))]),(AV.b false)])) kq (ac (j9 (x) _ h0).any0 (ac h1 (ac h1 (ac h2 (ac h2 (ac h2 (ac h2 (ac h1 (ac h1 (ac h3 (ac h3 (ac h3 (ac h3 an))))))))))))) tq) fun h3=> tbD (fun h4 h4p=> t6 (fun h5=> by intro e;injection e with e;subst e;exact x4 z9 (k:=300) (r:=[]) (hs:=hz [(4,[.fc]),(1,[.fres (.b (s0))]),(2,[.no]),(1,[.no]),(7,[.yes]),(1,[.yes]),(1,[.yes]),(1,[.yes]),(1,[.no]),(1,[.no]),(1,[.no]),(1,[.no]),(7,[.yes]),(1,[.yes]),(1,[.yes]),(1,[.yes]),(1,[.no]),(1,[.no,.yes]),(2,[.fc]),(2,[.fc])]) (raw:=(AV.tu [(AV.ag [(AV.i 0),(AV.i 0),(AV.i 0),(AV.i 0),(AV.sl 0 ([]:List AV))]),(AV.b false)])) kq (ac (j9 (x) _ h0).any0 (ac h1 (ac h1 (ac h2 (ac h2 (ac h2 (ac h2 (ac h1 (ac h1 (ac h3 (ac h3 (ac h4 (ac h4 (ac h4 (ac h4 (ac h3 (ac h3 (ac h5 an)))))))))))))))))) tq) fun h5=> tbD (fun h6 h6p=> by intro e;injection e with e;subst e;exact x4 z9 (k:=300) (r:=[]) (hs:=hz [(4,[.fc]),(1,[.fres (.b (s0))]),(2,[.no]),(1,[.no]),(7,[.yes]),(1,[.yes]),(1,[.yes]),(1,[.yes]),(1,[.no]),(1,[.no]),(1,[.no]),(1,[.no]),(7,[.yes]),(1,[.yes]),(1,[.yes]),(1,[.yes]),(1,[.no]),(1,[.no,.no]),(18,[.yes]),(3,[.yes]),(2,[.fc]),(2,[.fc])]) (raw:=(AV.tu [(AV.ag [(AV.i 0),(AV.i 0),(AV.i 0),(AV.i 0),(AV.sl 0 ([]:List AV))]),(AV.b false)])) kq (ac (j9 (x) _ h0).any0 (ac h1 (ac h1 (ac h2 (ac h2 (ac h2 (ac h2 (ac h1 (ac h1 (ac h3 (ac h3 (ac h4 (ac h4 (ac h4 (ac h4 (ac h3 (ac h3 (ac h5 (ac (show z8 (rg Try.prog 75 0)=true∧x7 (Region.before (rg Try.prog 75 0)) [] 0 [(some [],some []),(some [0],some []),(some [],some []),(some [],some []),(some [],some []),(some [0],some []),(some [],some []),(some [0],some []),(some [],some []),(some [],some []),(some [],some []),(some [],some []),(some [],some []),(some [],some []),(some [],some [])]=true from (x0 zf6 zff kq)) (ac h6 an)))))))))))))))))))) tq) fun h6 h6p=> tbE (fun h7 h7p=> x8 fun h8=> x8 fun h9=> x8 fun h10=> x8 fun h11=> by intro e;injection e with e;subst e;exact x4 z9 (k:=300) (r:=[]) (hs:=hz [(4,[.fc]),(1,[.fres (.b (s0))]),(2,[.no]),(1,[.no]),(7,[.yes]),(1,[.yes]),(1,[.yes]),(1,[.yes]),(1,[.no]),(1,[.no]),(1,[.no]),(1,[.no]),(7,[.yes]),(1,[.yes]),(1,[.yes]),(1,[.yes]),(1,[.no]),(1,[.no,.no]),(18,[.yes]),(3,[.no]),(6,[.fc]),(4,[.yes]),(13,[.yes,.yes,.yes]),(1,[.yes,.yes]),(2,[.fc]),(6,[.fc]),(2,[.fc]),(1,[.fc]),(1,[.fc]),(2,[.fc,.no,.yes,.yes])]) (raw:=(AV.tu [(AV.ag [(AV.i (z3p x.lba lba)),(AV.i (wr ((z5y (wr (x.lba+x.len)) (wr (lba+n))) - (z3p x.lba lba)))),(AV.i x.kind),(AV.i x.gen),(AV.sl ((Int.toNat (wr ((wr ((z5y (wr (x.lba+x.len)) (wr (lba+n))) - x.lba))*(32:Int)))) - (Int.toNat (wr ((wr ((z3p x.lba lba) - x.lba))*(32:Int))))) (List.take (((Int.toNat (wr ((wr ((z5y (wr (x.lba+x.len)) (wr (lba+n))) - x.lba))*(32:Int)))) - (Int.toNat (wr ((wr ((z3p x.lba lba) - x.lba))*(32:Int)))))*1) (List.take (((Int.toNat (wr ((wr ((z5y (wr (x.lba+x.len)) (wr (lba+n))) - x.lba))*(32:Int)))) - (Int.toNat (wr ((wr ((z3p x.lba lba) - x.lba))*(32:Int)))))*1) (List.drop ((Int.toNat (wr ((wr ((z3p x.lba lba) - x.lba))*(32:Int))))*1) (List.map AV.y x.d)))))]),(AV.b true)])) kq (ac (j9 (x) _ h0).any0 (ac h1 (ac h1 (ac h2 (ac h2 (ac h2 (ac h2 (ac h1 (ac h1 (ac h3 (ac h3 (ac h4 (ac h4 (ac h4 (ac h4 (ac h3 (ac h3 (ac h5 (ac (show z8 (rg Try.prog 75 0)=true∧x7 (Region.before (rg Try.prog 75 0)) [] 0 [(some [],some []),(some [0],some []),(some [],some []),(some [],some []),(some [],some []),(some [0],some []),(some [],some []),(some [0],some []),(some [],some []),(some [],some []),(some [],some []),(some [],some []),(some [],some []),(some [],some []),(some [],some [])]=true from (x0 zf6 zff kq)) (ac h6 (ac h7 (ac h8 (ac h9 (ac h10 (ac (fq (p:=((List.length (List.take (((Int.toNat (wr ((wr ((z5y (wr (x.lba+x.len)) (wr (lba+n))) - x.lba))*(32:Int)))) - (Int.toNat (wr ((wr ((z3p x.lba lba) - x.lba))*(32:Int)))))*1) (List.drop ((Int.toNat (wr ((wr ((z3p x.lba lba) - x.lba))*(32:Int))))*1) (List.map AV.y x.d))))=(((Int.toNat (wr ((wr ((z5y (wr (x.lba+x.len)) (wr (lba+n))) - x.lba))*(32:Int)))) - (Int.toNat (wr ((wr ((z3p x.lba lba) - x.lba))*(32:Int)))))*1)))) (ac h11 (ac (fq (p:=(((0:Nat)+(((Int.toNat (wr ((wr ((z5y (wr (x.lba+x.len)) (wr (lba+n))) - x.lba))*(32:Int)))) - (Int.toNat (wr ((wr ((z3p x.lba lba) - x.lba))*(32:Int)))))*1))≤(List.length (List.take (((Int.toNat (wr ((wr ((z5y (wr (x.lba+x.len)) (wr (lba+n))) - x.lba))*(32:Int)))) - (Int.toNat (wr ((wr ((z3p x.lba lba) - x.lba))*(32:Int)))))*1) (List.drop ((Int.toNat (wr ((wr ((z3p x.lba lba) - x.lba))*(32:Int))))*1) (List.map AV.y x.d))))))) (ac (pq (p:=Pl true ((List.take (((Int.toNat (wr ((wr ((z5y (wr (x.lba+x.len)) (wr (lba+n))) - x.lba))*(32:Int)))) - (Int.toNat (wr ((wr ((z3p x.lba lba) - x.lba))*(32:Int)))))*1) (List.take (((Int.toNat (wr ((wr ((z5y (wr (x.lba+x.len)) (wr (lba+n))) - x.lba))*(32:Int)))) - (Int.toNat (wr ((wr ((z3p x.lba lba) - x.lba))*(32:Int)))))*1) (List.drop ((Int.toNat (wr ((wr ((z3p x.lba lba) - x.lba))*(32:Int))))*1) (List.map AV.y x.d))))))) an)))))))))))))))))))))))))))) tq) fun h7 h7p=> by intro e;injection e with e;subst e;exact x4 z9 (k:=300) (r:=[]) (hs:=hz [(4,[.fc]),(1,[.fres (.b (s0))]),(2,[.no]),(1,[.no]),(7,[.yes]),(1,[.yes]),(1,[.yes]),(1,[.yes]),(1,[.no]),(1,[.no]),(1,[.no]),(1,[.no]),(7,[.yes]),(1,[.yes]),(1,[.yes]),(1,[.yes]),(1,[.no]),(1,[.no,.no]),(18,[.yes]),(3,[.no]),(6,[.fc]),(4,[.no]),(6,[.fc]),(2,[.fc]),(1,[.fc]),(1,[.fc]),(2,[.fc])]) (raw:=(AV.tu [(AV.ag [(AV.i (z3p x.lba lba)),(AV.i (wr ((z5y (wr (x.lba+x.len)) (wr (lba+n))) - (z3p x.lba lba)))),(AV.i x.kind),(AV.i x.gen),(AV.sl 0 ([]:List AV))]),(AV.b true)])) kq (ac (j9 (x) _ h0).any0 (ac h1 (ac h1 (ac h2 (ac h2 (ac h2 (ac h2 (ac h1 (ac h1 (ac h3 (ac h3 (ac h4 (ac h4 (ac h4 (ac h4 (ac h3 (ac h3 (ac h5 (ac (show z8 (rg Try.prog 75 0)=true∧x7 (Region.before (rg Try.prog 75 0)) [] 0 [(some [],some []),(some [0],some []),(some [],some []),(some [],some []),(some [],some []),(some [0],some []),(some [],some []),(some [0],some []),(some [],some []),(some [],some []),(some [],some []),(some [],some []),(some [],some []),(some [],some []),(some [],some [])]=true from (x0 zf6 zff kq)) (ac h6 (ac h7 an))))))))))))))))))))) tq) fun h4 h4p=> by intro e;injection e with e;subst e;exact x4 z9 (k:=300) (r:=[]) (hs:=hz [(4,[.fc]),(1,[.fres (.b (s0))]),(2,[.no]),(1,[.no]),(7,[.yes]),(1,[.yes]),(1,[.yes]),(1,[.yes]),(1,[.no]),(1,[.no]),(1,[.no]),(1,[.no]),(7,[.no,.no,.no,.no]),(1,[.no]),(1,[.no]),(3,[.fc]),(2,[.fc])]) (raw:=(AV.tu [(AV.ag [(AV.i 0),(AV.i 0),(AV.i 0),(AV.i 0),(AV.sl 0 ([]:List AV))]),(AV.b false)])) kq (ac (j9 (x) _ h0).any0 (ac h1 (ac h1 (ac h2 (ac h2 (ac h2 (ac h2 (ac h1 (ac h1 (ac h3 (ac h3 (ac h4 (ac h4 (ac h4 (ac h4 (ac h3 (ac h3 an))))))))))))))))) tq) fun h2 h2p=> by intro e;injection e with e;subst e;exact x4 z9 (k:=300) (r:=[]) (hs:=hz [(4,[.fc]),(1,[.fres (.b (s0))]),(2,[.no]),(1,[.no]),(7,[.no,.no,.no,.no]),(1,[.no]),(1,[.no]),(8,[.fc]),(2,[.fc])]) (raw:=(AV.tu [(AV.ag [(AV.i 0),(AV.i 0),(AV.i 0),(AV.i 0),(AV.sl 0 ([]:List AV))]),(AV.b false)])) kq (ac (j9 (x) _ h0).any0 (ac h1 (ac h1 (ac h2 (ac h2 (ac h2 (ac h2 (ac h1 (ac h1 an))))))))) tq
noncomputable def z64 (a:Ex) (b:Ex):Option (Ex×Int):=
 (tc (z6u (a) (b)) fun s0=> (tb ((!s0)) (some (((Ex.mk 0 0 0 0 ([]:List UInt8)),(70:Int)))) (tp ((a.d.length≤(4294967296:Nat))) (tp ((((List.length (List.map AV.y a.d))=(a.d.length*1))∧((a.d.length+b.d.length)≤(4294967296:Nat)))) (some (((Ex.mk a.lba (wr (a.len+b.len)) a.kind a.gen (a.d++b.d)),(0:Int))))))))
abbrev zx1 (a:Ex) (b:Ex) (r:Ex×Int):Prop:=z06 Try.prog cf true 45 [Ex.av (a),Ex.av (b)] (.tu [Ex.av (r.1),.i (r.2)])
theorem z0h (a:Ex) (b:Ex) (r:Ex×Int):z64 a b=some r→zx1 a b r:=by
 unfold z64
 exact w6 fun s0 h0=> t6 (fun h1=> by intro e;injection e with e;subst e;exact x4 z9 (k:=300) (r:=[]) (hs:=hz [(5,[.fc]),(1,[.fc]),(1,[.fres (.b (s0))]),(1,[.yes]),(2,[.fc]),(2,[.fc])]) (raw:=(AV.tu [(AV.ag [(AV.i 0),(AV.i 0),(AV.i 0),(AV.i 0),(AV.sl 0 ([]:List AV))]),(AV.i 70)])) kq (ac (z91 (a) (b) _ h0).any0 (ac h1 an)) tq) fun h1=> x8 fun h2=> x8 fun h3=> by intro e;injection e with e;subst e;exact x4 z9 (k:=300) (r:=[]) (hs:=hz [(5,[.fc]),(1,[.fc]),(1,[.fres (.b (s0))]),(1,[.no]),(9,[.fc]),(4,[.yes,.yes]),(3,[.yes,.yes]),(2,[.fc,.yes]),(1,[.fc]),(1,[.fc]),(2,[.fc,.yes,.yes])]) (raw:=(AV.tu [(AV.ag [(AV.i a.lba),(AV.i (wr (a.len+b.len))),(AV.i a.kind),(AV.i a.gen),(AV.sl (a.d.length+b.d.length) ((List.map AV.y a.d)++(List.map AV.y b.d)))]),(AV.i 0)])) kq (ac (z91 (a) (b) _ h0).any0 (ac h1 (ac (tq (p:=((List.length (List.map AV.y a.d))=(a.d.length*1)))) (ac h2 (ac (tq (p:=((List.length (List.map AV.y b.d))=(b.d.length*1)))) (ac h3 (ac (show z8 (rg Try.prog 45 0)=true∧x7 (Region.before (rg Try.prog 45 0)) [] 0 [(some [],some []),(some [0],some []),(some [],some [3]),(some [],some []),(some [1],some []),(some [3],some [3,4]),(some [],some []),(some [0],some [0])]=true from (x0 ztn zv2 kq)) (ac (tq (p:=(((0:Nat)=(0:Nat))∧((List.length ((List.map AV.y a.d)++(List.map AV.y b.d)))=((a.d.length+b.d.length)*1))))) (ac (pq (p:=Pl true (((List.map AV.y a.d)++(List.map AV.y b.d))))) an))))))))) tq
noncomputable abbrev zeq (blocks:Int) (l:List Ex) (gen:Int) (s0:Bool):St:=(St.mk [(0,(exs l)),(1,(AV.fn (74:Nat) [(AV.pt 0 0)])),(4,(AV.i 0)),(6,(exs l)),(7,(AV.i (l.length:Int))),(8,(AV.i 0))] 19 (AH.mk 1 [(0,(AObj.cells [(AV.i gen)]))]) false)
noncomputable abbrev z4o (blocks:Int) (l:List Ex) (gen:Int) (s0:Bool) (s2:Int):St:=(St.mk [(0,(exs l)),(1,(AV.fn (74:Nat) [(AV.pt 0 0)])),(7,(AV.i (l.length:Int))),(8,(AV.i s2))] 19 (AH.mk 1 [(0,(AObj.cells [(AV.i gen)]))]) false)
noncomputable def z2k (blocks:Int) (l:List Ex) (gen:Int) (s0:Bool) (s2:Int):Option (Int):=
 (tb ((decide (s2 < (l.length:Int)))) (tp ((((0:Int)≤s2)∧(s2 < (l.length:Int)))) (tb ((decide ((z0 l s2.toNat).gen > gen))) none (some ((wr (s2+(1:Int))))))) none)
theorem zcr (blocks:Int) (l:List Ex) (gen:Int) (s0:Bool) (s2 zz:Int):z2k blocks l gen s0 s2=some zz→u7 Try.prog cf 1 (lp Try.prog 91 0) (z4o blocks l gen s0 s2) (z4o blocks l gen s0 zz):=by
 unfold z2k
 exact tbD (fun h3 h3p=> x8 fun h4=> tbD (fun h5 h5p=> u6) fun h5 h5p=> by intro e;injection e with e;subst e;exact z1f z9 (k:=300) (r:=[]) (hs:=hz [(1,[.yes]),(5,[.yes,.yes,.cells ((Ex.cells (z0 l s2.toNat)))]),(10,[.no]),(2,[])]) (ks:=[0,1,7,8]) (bs:=[0]) kq (ac h3 (ac h4 (ac (fq (p:=((5:Nat)≤(List.length (List.drop (s2.toNat*5) (l.flatMap Ex.cells)))))) (ac (show (List.take 5 (List.drop (s2.toNat*5) (l.flatMap Ex.cells)))=(Ex.cells (z0 l s2.toNat)) from (w7 bq bq)) (ac h5 an))))) kq) fun h3 h3p=> u6
noncomputable def zhw (blocks:Int) (l:List Ex) (gen:Int):Option (Bool):=
 (tc (z9w (blocks) (l)) fun s0=> (tb (s0) (th (z2k blocks l gen s0) ((0:Int)) fun s2=> (tb ((decide (s2 < (l.length:Int)))) (tp ((((0:Int)≤s2)∧(s2 < (l.length:Int)))) (tb ((decide ((z0 l s2.toNat).gen > gen))) (some ((!(decide (s2≥(0:Int)))))) none)) (some (true)))) (some (false))))
abbrev zwv (blocks:Int) (l:List Ex) (gen:Int) (r:Bool):Prop:=z06 Try.prog cf true 49 [.i (blocks),exs (l),.i (gen)] (.b (r))
theorem z1z (blocks:Int) (l:List Ex) (gen:Int) (r:Bool):zhw blocks l gen=some r→zwv blocks l gen r:=by
 unfold zhw
 exact w6 fun s0 h0=> t6 (fun h1=> z13 fun s2 h2=> tbD (fun h3 h3p=> x8 fun h4=> tbD (fun h5 h5p=> by intro e;injection e with e;subst e;exact x4 z9 (k:=300) (r:=[]) (hs:=hz [(5,[.fres (.b (s0))]),(1,[.yes]),(1,[.yes]),(1,[.yes]),(9,[.head (z4o blocks l gen s0 s2)]),(1,[.yes]),(5,[.yes,.yes,.cells ((Ex.cells (z0 l s2.toNat)))]),(10,[.yes]),(4,[.yes]),(1,[.yes]),(1,[])]) (raw:=(AV.b (!(decide (s2≥(0:Int)))))) kq (ac (z1h (blocks) (l) _ h0).any0 (ac h1 (ac h1 (ac h1 (ac (show x5 Try.prog cf (lp Try.prog 91 0) (zeq blocks l gen s0) (z4o blocks l gen s0 s2) from (x5.of (zcr blocks l gen s0) (y9 [] [] kq (.consn kq (.eqv tq rfl) (.consn kq (.fn (.cons (.pt rfl) .nil)) (.consn kq (.eqv tq rfl) (.consn kq (.eqv tq rfl) .nil)))) (.cons (.old rfl rfl (.cells (.cons (.eqv tq rfl) .nil))) .nil)) h2)) (ac h3 (ac h4 (ac (fq (p:=((5:Nat)≤(List.length (List.drop (s2.toNat*5) (l.flatMap Ex.cells)))))) (ac (show (List.take 5 (List.drop (s2.toNat*5) (l.flatMap Ex.cells)))=(Ex.cells (z0 l s2.toNat)) from (w7 bq bq)) (ac h5 (ac h1 (ac h1 an)))))))))))) tq) fun h5 h5p=> u6) fun h3 h3p=> by intro e;injection e with e;subst e;exact x4 z9 (k:=300) (r:=[]) (hs:=hz [(5,[.fres (.b (s0))]),(1,[.yes]),(1,[.yes]),(1,[.yes]),(9,[.head (z4o blocks l gen s0 s2)]),(1,[.no]),(3,[.yes]),(1,[.yes]),(1,[])]) (raw:=(AV.b true)) kq (ac (z1h (blocks) (l) _ h0).any0 (ac h1 (ac h1 (ac h1 (ac (show x5 Try.prog cf (lp Try.prog 91 0) (zeq blocks l gen s0) (z4o blocks l gen s0 s2) from (x5.of (zcr blocks l gen s0) (y9 [] [] kq (.consn kq (.eqv tq rfl) (.consn kq (.fn (.cons (.pt rfl) .nil)) (.consn kq (.eqv tq rfl) (.consn kq (.eqv tq rfl) .nil)))) (.cons (.old rfl rfl (.cells (.cons (.eqv tq rfl) .nil))) .nil)) h2)) (ac h3 (ac h1 (ac h1 an)))))))) tq) fun h1=> by intro e;injection e with e;subst e;exact x4 z9 (k:=300) (r:=[]) (hs:=hz [(5,[.fres (.b (s0))]),(1,[.no,.no,.no,.no,.no]),(1,[])]) (raw:=(AV.b false)) kq (ac (z1h (blocks) (l) _ h0).any0 (ac h1 (ac h1 (ac h1 (ac h1 (ac h1 an)))))) tq
noncomputable abbrev zh3 (l:List Ex):St:=(St.mk [(0,(exs l)),(2,AV.nl),(5,(exs l)),(6,(AV.i (l.length:Int))),(7,(AV.i 0))] 21 (AH.mk 0 ([]:List (Prod Nat AObj))) false)
noncomputable abbrev z4w (l:List Ex) (s0:List Ex×Int):St:=(St.mk [(2,(AV.rf 0 5 0 s0.1.length)),(5,(exs l)),(6,(AV.i (l.length:Int))),(7,(AV.i s0.2))] 21 (AH.mk 1 [(0,(AObj.cells (s0.1.flatMap Ex.cells)))]) false)
noncomputable def z19 (l:List Ex) (s0:List Ex×Int):Option (List Ex×Int):=
 (tb ((decide (s0.2 < (l.length:Int)))) (tp ((((0:Int)≤s0.2)∧(s0.2 < (l.length:Int)))) (tp (((List.length (z0 l s0.2.toNat).d)≤(4294967296:Nat))) (tp ((((List.length (s0.1.flatMap Ex.cells))=(s0.1.length*5))∧((s0.1.length+(1:Nat))≤(4294967296:Nat)))) (some (((s0.1++[(z0 l s0.2.toNat)]),(wr (s0.2+(1:Int))))))))) none)
theorem zeu (l:List Ex) (s0 zz:List Ex×Int):z19 l s0=some zz→u7 Try.prog cf 0 (lp Try.prog 41 0) (z4w l s0) (z4w l zz):=by
 unfold z19
 exact tbD (fun h1 h1p=> x8 fun h2=> x8 fun h3=> x8 fun h4=> by intro e;injection e with e;subst e;exact j0 z9 (k:=300) (r:=[]) (hs:=hz [(1,[.yes,.yes,.yes,.cells ((Ex.cells (z0 l s0.2.toNat)))]),(2,[.fc]),(4,[.yes,.yes]),(2,[.fc]),(2,[.fc]),(1,[.fc,.fc,.yes,.yes]),(3,[])]) (ks:=[2,5,6,7]) (st1:=(St.mk [(2,(AV.rf 4 5 0 (s0.1.length+(1:Nat)))),(5,(exs l)),(6,(AV.i (l.length:Int))),(7,(AV.i (wr (s0.2+(1:Int)))))] 21 (AH.mk 5 [(4,(AObj.cells ((s0.1.flatMap Ex.cells)++[(AV.i (z0 l s0.2.toNat).lba),(AV.i (z0 l s0.2.toNat).len),(AV.i (z0 l s0.2.toNat).kind),(AV.i (z0 l s0.2.toNat).gen),(AV.rf 2 1 0 (List.length (z0 l s0.2.toNat).d))]))),(3,(AObj.cells [(AV.i (z0 l s0.2.toNat).lba),(AV.i (z0 l s0.2.toNat).len),(AV.i (z0 l s0.2.toNat).kind),(AV.i (z0 l s0.2.toNat).gen),(AV.rf 2 1 0 (List.length (z0 l s0.2.toNat).d))])),(2,(AObj.cells (List.map AV.y (z0 l s0.2.toNat).d))),(1,(AObj.cells [(AV.i (z0 l s0.2.toNat).lba),(AV.i (z0 l s0.2.toNat).len),(AV.i (z0 l s0.2.toNat).kind),(AV.i (z0 l s0.2.toNat).gen),(AV.rf 2 1 0 (List.length (z0 l s0.2.toNat).d))])),(0,AObj.dead)]) false)) kq (ac h1 (ac h2 (ac (fq (p:=((5:Nat)≤(List.length (List.drop (s0.2.toNat*5) (l.flatMap Ex.cells)))))) (ac (show (List.take 5 (List.drop (s0.2.toNat*5) (l.flatMap Ex.cells)))=(Ex.cells (z0 l s0.2.toNat)) from (w7 bq bq)) (ac (tq (p:=((List.length (List.map AV.y (z0 l s0.2.toNat).d))=((List.length (z0 l s0.2.toNat).d)*1)))) (ac h3 (ac (tq (p:=(((0:Nat)=(0:Nat))∧((List.length [(AV.i (z0 l s0.2.toNat).lba),(AV.i (z0 l s0.2.toNat).len),(AV.i (z0 l s0.2.toNat).kind),(AV.i (z0 l s0.2.toNat).gen),(AV.rf 2 1 0 (List.length (z0 l s0.2.toNat).d))])=(5:Nat))))) (ac h4 an)))))))) (Nat.le_of_ble_eq_true rfl) (Nat.le_of_ble_eq_true rfl) (y9 [4] [2] kq (.consn kq (.rfn (n:=(s0.1.length+(1:Nat))) rfl tq) (.consn kq (.eqv tq rfl) (.consn kq (.eqv tq rfl) (.consn kq (.eqv tq rfl) .nil)))) (.cons (.old rfl rfl (.cells (.cast rfl tq (.app (.pl rfl pq) (.cons (.eqv rfl rfl) (.cons (.eqv rfl rfl) (.cons (.eqv rfl rfl) (.cons (.eqv rfl rfl) (.cons (.frzn rfl tq pq (by simp) tq) .nil))))))))) .nil))) fun h1 h1p=> u6
noncomputable def z2g (l:List Ex):Option (List Ex):=
 (th (z19 l) ((([]:List Ex),(0:Int))) fun s0=> (tb ((decide (s0.2 < (l.length:Int)))) none (tp ((((0:Nat)=(0:Nat))∧((List.length (s0.1.flatMap Ex.cells))=(s0.1.length*5)))) (some (s0.1)))))
abbrev zp9 (l:List Ex) (r:List Ex):Prop:=zbm Try.prog cf false [[5]] 41 [exs (l)] (exs (r))
theorem z07 (l:List Ex) (r:List Ex):z2g l=some r→zp9 l r:=by
 unfold z2g
 exact z13 fun s0 h0=> tbD (fun h1 h1p=> u6) fun h1 h1p=> x8 fun h2=> by intro e;injection e with e;subst e;exact zas z9 (k:=300) (r:=[]) (hs:=hz [(4,[.head (z4w l s0)]),(1,[.no]),(2,[.yes,.yes])]) (R:=fun H=> ((AV.rf (AH.nx H) 5 0 s0.1.length),(AH.mk ((AH.nx H)+(1:Nat)) (((AH.nx H),(AObj.cells (s0.1.flatMap Ex.cells)))::(AH.l H))))) (fun H=> kq) (ac (show x5 Try.prog cf (lp Try.prog 41 0) (zh3 l) (z4w l s0) from (x5.of (zeu l) (y9 [0] [] kq (.consn kq (.nln tq) (.consn kq (.eqv tq rfl) (.consn kq (.eqv tq rfl) (.consn kq (.eqv tq rfl) .nil)))) (.cons (.none rfl (Nat.le_refl _) rfl) .nil)) h0)) (ac h1 (ac h2 (ac (pq (p:=Pl false ((s0.1.flatMap Ex.cells)))) an)))) (fun H=> oq)
end Ab
end Go.Proofs.Ytpflcogplhigcaa
namespace Go.Proofs.Ytpflcogplhigcaa
open Go Go.Proofs.Ytpflcogplhigcaa.Ab
set_option linter.unusedVariables false
set_option linter.unusedSimpArgs false
namespace Ab
def Cu (x:Ex) (lba n:Int):Prop:=Ck x∧0≤lba∧lba≤64∧0≤n∧n≤64∧max x.lba lba < min (x.lba+x.len) (lba+n)
instance (x:Ex) (lba n:Int):Decidable (Cu x lba n):=by unfold Cu;infer_instance
def cu (x:Ex) (lba n:Int):Ex:=
 ⟨max x.lba lba,min (x.lba+x.len) (lba+n) - max x.lba lba,x.kind,x.gen,if x.kind=2 then (x.d.drop (32*(max x.lba lba - x.lba)).toNat).take (32*(min (x.lba+x.len) (lba+n) - max x.lba lba)).toNat else []⟩
def e0:Ex:=⟨0,0,0,0,[]⟩
def cut (x:Ex) (lba n:Int):Option Ex:=if Cu x lba n then some (cu x lba n) else none
def zk5 (x:Ex) (lba n:Int):Ex×Bool:=if Cu x lba n then (cu x lba n,true) else (e0,false)
theorem zk1 {x:Ex} {lba n:Int} (h:Cu x lba n):cut x lba n=some (cu x lba n):=if_pos h
theorem zjw {x:Ex} {lba n:Int} (h:¬Cu x lba n):cut x lba n=none:=if_neg h
theorem zgo {x:Ex} {lba n:Int} (h:Cu x lba n):zk5 x lba n=(cu x lba n,true):=if_pos h
theorem zne {x:Ex} {lba n:Int} (h:¬Cu x lba n):zk5 x lba n=(e0,false):=if_neg h
theorem y01 (d:List UInt8) (x f t:Int) (h1:0≤x) (h2:x≤f) (h3:f≤t) (h4:t≤64) (hd:32*(t - x)≤d.length):
 List.take (((32*(t - x)).toNat - (32*(f - x)).toNat)*1) (List.take (((32*(t - x)).toNat - (32*(f - x)).toNat)*1) (List.drop ((32*(f - x)).toNat*1) d))=(d.drop (32*(f - x)).toNat).take (32*(t - f)).toNat:=by
 rw [Nat.mul_one,Nat.mul_one,List.take_take,Nat.min_self,show (32*(t - x)).toNat - (32*(f - x)).toNat=(32*(t - f)).toNat by omega]
theorem zjh (x:Ex) (lba n:Int):z7y x lba n=some (zk5 x lba n):=by
 unfold z7y
 simp only [z2m,v6,z26,x9,z1u,zwz,zwy]
 by_cases hc:Ck x
 case neg=> rw [zad hc,zdf];unfold zk5;rw [if_neg fun h=> hc h.1];rfl
 rw [zce hc,z68]
 by_cases h1:lba≥0
 case neg=> rw [if_neg h1];unfold zk5;rw [if_neg fun h=> h1 h.2.1];rfl
 by_cases h2:lba≤64
 case neg=> rw [if_pos h1,if_neg h2];unfold zk5;rw [if_neg fun h=> h2 h.2.2.1];rfl
 by_cases h3:n≥0
 case neg=> rw [if_pos h1,if_pos h2,if_neg h3];unfold zk5;rw [if_neg fun h=> h3 h.2.2.2.1];rfl
 by_cases h4:n≤64
 case neg=> rw [if_pos h1,if_pos h2,if_pos h3,if_neg h4];unfold zk5;rw [if_neg fun h=> h4 h.2.2.2.2.1];rfl
 have hcc:=hc
 unfold Ck at hcc
 rw [if_pos h1,if_pos h2,if_pos h3,if_pos h4,t9 (x:=x.lba+x.len) (by omega) (by omega),t9 (x:=lba+n) (by omega) (by omega)]
 have hf1:x.lba≤max x.lba lba:=by omega
 have hf2:max x.lba lba≤64:=by omega
 have ht1:min (x.lba+x.len) (lba+n)≤x.lba+x.len:=by omega
 have hcu:(Cu x lba n)↔max x.lba lba < min (x.lba+x.len) (lba+n):=⟨fun h=> h.2.2.2.2.2,fun h=> ⟨hc,h1,h2,h3,h4,h⟩⟩
 unfold zk5
 simp only [hcu]
 unfold cu
 generalize max x.lba lba=f at hf1 hf2⊢
 generalize min (x.lba+x.len) (lba+n)=t at ht1⊢
 by_cases h5:f≥t
 · rw [if_pos h5,if_neg (show ¬f < t by omega)];rfl
 rw [if_neg h5,if_pos (show f < t by omega)]
 have w1:wr (f - x.lba)=f - x.lba:=t9 (by omega) (by omega)
 have w2:wr (t - x.lba)=t - x.lba:=t9 (by omega) (by omega)
 have w3:wr (t - f)=t - f:=t9 (by omega) (by omega)
 have w4:wr ((f - x.lba)*32)=32*(f - x.lba):=by rw [t9 (by omega) (by omega)];omega
 have w5:wr ((t - x.lba)*32)=32*(t - x.lba):=by rw [t9 (by omega) (by omega)];omega
 rw [w1,w2,w3,w4,w5]
 by_cases hk:x.kind=2
 · have hd:=hcc.2.2.2.2.2.2.2.2.1 hk
   rw [if_pos hk,if_pos hk,x6 (by omega),x6 (by omega),x6 (by rw [List.length_map];omega),x6 (by omega),y01 _ _ _ _ (by omega) (by omega) (by omega) (by omega) (by omega)]
 · rw [if_neg hk,if_neg hk]
theorem zjd {σ α:Type} {step:σ×Int→Option (σ×Int)} {f:σ×Int→Option α} (A:Nat→σ) (n:Nat) (hs:∀i:Nat,i < n→step (A i,(i:Int))=some (A (i+1),(i:Int)+1)) (he:step (A n,(n:Int))=none):th step (A 0,0) f=f (A n,(n:Int)):=by
 have:=z15 (step:=step) (f:=f) (fun i=> (A i,(i:Int))) n (fun i hi=> by rw [hs i hi];simp) he
 simpa using this
def Ro (blocks lba n:Int):Prop:=0≤lba∧lba≤blocks∧1≤n∧n≤blocks - lba
instance (blocks lba n:Int):Decidable (Ro blocks lba n):=by unfold Ro;infer_instance
theorem z8j (l:List Ex) (i:Nat) (hi:i < l.length):l.take (i+1)=l.take i++[z0 l i]:=by unfold z0;exact z7h _ l i hi
end Ab
end Go.Proofs.Ytpflcogplhigcaa
namespace Go.Proofs.Ytpflcogplhigcaa
open Go Go.Proofs.Ytpflcogplhigcaa.Ab
set_option linter.unusedVariables false
set_option linter.unusedSimpArgs false
namespace Ab
def jnx (a b:Ex):Ex:=⟨a.lba,a.len+b.len,a.kind,a.gen,a.d++b.d⟩
def jnv (a b:Ex):Ex×Int:=if Jn a b then (jnx a b,0) else (⟨0,0,0,0,[]⟩,70)
theorem z43 {x:Ex} (h:Ck x):x.d.length≤2048:=by
 unfold Ck at h
 by_cases hk:x.kind=2
 · have:=h.2.2.2.2.2.2.2.2.1 hk;omega
 · have:=h.2.2.2.2.2.2.2.2.2 hk;rw [this];simp
theorem zks (a b:Ex):z64 a b=some (jnv a b):=by
 unfold z64 jnv
 rw [z93,v6,z26]
 by_cases h:Jn a b
 case neg=> rw [zp8 h,zdf,if_neg h]
 have ha:=z43 h.1
 have hb:=z43 h.2.1
 have ca:=h.1
 have cb:=h.2.1
 unfold Ck at ca cb
 rw [jn_t h,z68,if_pos h,t9 (by omega) (by omega),x6 (by omega),x6 (by rw [List.length_map];omega)]
 rfl
def add (out:List Ex) (y:Ex):List Ex:=if out≠[]∧Jn (out.getLastD ⟨0,0,0,0,[]⟩) y then out.dropLast++[jnx (out.getLastD ⟨0,0,0,0,[]⟩) y] else out++[y]
theorem zqx (y:Ex):add [] y=[y]:=by unfold add;simp
theorem zvo {out:List Ex} {y:Ex} (h0:out≠[]) (h:Jn (out.getLastD ⟨0,0,0,0,[]⟩) y):add out y=out.dropLast++[jnx (out.getLastD ⟨0,0,0,0,[]⟩) y]:=by unfold add;rw [if_pos ⟨h0,h⟩]
theorem zsv {out:List Ex} {y:Ex} (h:¬Jn (out.getLastD ⟨0,0,0,0,[]⟩) y):add out y=out++[y]:=by unfold add;rw [if_neg fun g=> h g.2]
theorem zeb (out:List Ex) (y:Ex):(add out y).length≤out.length+1:=by
 unfold add
 split
 · first | (simp;done) | (simp;omega)
 · simp
theorem zai:∀(ys out:List Ex),(ys.foldl add out).length≤out.length+ys.length
 | [],out=> by simp
 | y::ys,out=> by
   have:=zai ys (add out y)
   have:=zeb out y
   simp only [List.foldl_cons,List.length_cons];omega
theorem zq0 (out:List Ex) (h:out≠[]) (k:Nat) (hk:k=out.length - 1):z0 out k=out.getLastD ⟨0,0,0,0,[]⟩:=by
 subst hk
 have:0 < out.length:=List.length_pos_iff.2 h
 unfold z0
 rw [List.getD_eq_getElem?_getD,List.getLastD_eq_getLast?,List.getLast?_eq_getElem?]
theorem zd4 (out:List Ex) (h:out≠[]) (k:Nat) (hk:k=out.length - 1) (v:Ex):out.set k v=out.dropLast++[v]:=by
 subst hk
 have e:out=out.dropLast++[out.getLast h]:=(List.dropLast_concat_getLast h).symm
 have hl:out.length - 1=out.dropLast.length:=by simp
 rw [hl]
 conv=> lhs;rw [e]
 rw [List.set_append_right _ _ (by simp)]
 simp
end Ab
end Go.Proofs.Ytpflcogplhigcaa
namespace Go.Proofs.Ytpflcogplhigcaa
open Go Go.Proofs.Ytpflcogplhigcaa.Ab
set_option linter.unusedVariables false
set_option linter.unusedSimpArgs false
namespace Ab
def CH:Int→List Ex→Prop
 | _,[]=> True
 | s,x::l=> Ck x∧x.lba=s∧(∀y,l.head? =some y→¬Jn x y)∧CH (s+x.len) l
theorem z89 {blocks:Int} {l:List Ex} (h:Mk blocks l):CH 0 l:=by
 have key:∀j,j≤l.length→CH (sl (l.take (l.length - j))) (l.drop (l.length - j)):=by
  intro j
  induction j with
  | zero=> intro _;rw [Nat.sub_zero,List.drop_length];trivial
  | succ j ih=>
    intro hj
    have hi:l.length - (j+1) < l.length:=by omega
    have hm:=h.2.1 (l.length - (j+1)) hi
    have e:l.drop (l.length - (j+1))=z0 l (l.length - (j+1))::l.drop (l.length - (j+1)+1):=by unfold z0;exact zb9 _ l _ hi
    rw [e]
    have hs:=zdl l (l.length - (j+1)) hi
    have e2:l.length - (j+1)+1=l.length - j:=by omega
    rw [e2] at hs⊢
    refine ⟨hm.1,hm.2.1,fun y hy=> ?_,by rw [←hs];exact ih (by omega)⟩
    have hy2:l.length - j < l.length∧y=z0 l (l.length - j):=by
     rw [List.head?_drop] at hy
     obtain ⟨g,e3⟩:=List.getElem?_eq_some_iff.1 hy
     exact ⟨g,by unfold z0;simp [g,e3]⟩
    have hm2:=(h.2.1 (l.length - j) hy2.1).2.2 (by omega)
    rw [show l.length - j - 1=l.length - (j+1) by omega,←hy2.2] at hm2
    exact hm2
 have:=key l.length (Nat.le_refl _)
 simpa [sl] using this
theorem zcz:∀{l:List Ex} {s:Int},CH s l→∀z∈l,Ck z∧s≤z.lba
 | [],_,_,z,hz=> by cases hz
 | x::l,s,h,z,hz=> by
   have hc:=h.1
   unfold Ck at hc
   rcases List.mem_cons.1 hz with e | e
   · subst e;exact ⟨h.1,by have:=h.2.1;omega⟩
   · have:=zcz h.2.2.2 z e
     exact ⟨this.1,by omega⟩
theorem zua {x:Ex} {lo n:Int} (h:Cu x lo n):Ck (cu x lo n):=by
 obtain ⟨c1,c2,c3,c4,c5,c6⟩:=h
 unfold Ck at c1
 refine ⟨by simp only [cu];omega,by simp only [cu];omega,by simp only [cu];omega,by simp only [cu];omega,by simp only [cu];omega,by simp only [cu];omega,by simp only [cu];omega,by simp only [cu];omega,fun hk=> ?_,fun hk=> ?_⟩
 · have hk:x.kind=2:=hk
   have:=c1.2.2.2.2.2.2.2.2.1 hk
   simp only [cu,if_pos hk,List.length_take,List.length_drop];omega
 · have hk:¬x.kind=2:=hk
   simp only [cu,if_neg hk]
end Ab
end Go.Proofs.Ytpflcogplhigcaa
namespace Go.Proofs.Ytpflcogplhigcaa
open Go Go.Proofs.Ytpflcogplhigcaa.Ab
set_option linter.unusedVariables false
set_option linter.unusedSimpArgs false
namespace Ab
def bAt (x:Ex) (k:Int):Int×Int×List UInt8:=(x.kind,x.gen,(x.d.drop (32*(k - x.lba)).toNat).take 32)
def Cv (x:Ex) (k:Int) (c:Int×Int×List UInt8):Prop:=x.lba≤k∧k < x.lba+x.len∧c=bAt x k
def Den (l:List Ex) (k:Int) (c:Int×Int×List UInt8):Prop:=∃x∈l,Cv x k c
theorem z46 {k:Int} {c:Int×Int×List UInt8}:¬Den [] k c:=fun ⟨x,hx,_⟩=> by cases hx
theorem z51 {x:Ex} {l:List Ex} {k:Int} {c:Int×Int×List UInt8}:Den (x::l) k c↔Cv x k c∨Den l k c:=by
 unfold Den;simp
theorem z80 {a b:List Ex} {k:Int} {c:Int×Int×List UInt8}:Den (a++b) k c↔Den a k c∨Den b k c:=by
 unfold Den
 constructor
 · rintro ⟨x,hx,h⟩
   rcases List.mem_append.1 hx with e | e
   · exact .inl ⟨x,e,h⟩
   · exact .inr ⟨x,e,h⟩
 · rintro (⟨x,hx,h⟩ | ⟨x,hx,h⟩)
   · exact ⟨x,List.mem_append.2 (.inl hx),h⟩
   · exact ⟨x,List.mem_append.2 (.inr hx),h⟩
theorem z95 {x:Ex} {k:Int} {c:Int×Int×List UInt8}:Den [x] k c↔Cv x k c:=by
 rw [z51];exact or_iff_left z46
theorem z08 {x:Ex} (h:Ck x):0≤x.lba∧x.lba≤64∧1≤x.len∧x.lba+x.len≤64:=by
 unfold Ck at h;omega
theorem z9m {x:Ex} (h:Ck x) (hk:x.kind=2):(x.d.length:Int)=32*x.len:=by
 unfold Ck at h;exact h.2.2.2.2.2.2.2.2.1 hk
theorem z82 {x:Ex} (h:Ck x) (hk:x.kind≠2):x.d=[]:=by
 unfold Ck at h;exact h.2.2.2.2.2.2.2.2.2 hk
theorem zj2 {x:Ex} {lo n k:Int} (h:Ck x) (h1:max x.lba lo≤k) (h2:k < min (x.lba+x.len) (lo+n)):bAt (cu x lo n) k=bAt x k:=by
 have hp:=z08 h
 simp only [bAt,cu,Prod.mk.injEq,true_and]
 split
 · rename_i hk
   have e:(32*(k - x.lba)).toNat=(32*(max x.lba lo - x.lba)).toNat+(32*(k - max x.lba lo)).toNat:=by omega
   rw [e,←List.drop_drop,List.drop_take,List.take_take]
   congr 1
   omega
 · rename_i hk
   rw [z82 h hk];simp
theorem zvn {x:Ex} {lo n k:Int} {c:Int×Int×List UInt8} (h:Ck x) (h1:0≤lo∧lo≤64) (h2:0≤n∧n≤64):Den (cut x lo n).toList k c↔lo≤k∧k < lo+n∧Cv x k c:=by
 by_cases g:Cu x lo n
 · rw [zk1 g]
   show Den [cu x lo n] k c↔_
   rw [z95]
   unfold Cv
   have e1:(cu x lo n).lba=max x.lba lo:=rfl
   have e2:(cu x lo n).len=min (x.lba+x.len) (lo+n) - max x.lba lo:=rfl
   rw [e1,e2]
   constructor
   · rintro ⟨a,b,e⟩
     rw [zj2 h (by omega) (by omega)] at e
     exact ⟨by omega,by omega,by omega,by omega,e⟩
   · rintro ⟨a,b,c1,c2,e⟩
     exact ⟨by omega,by omega,by rw [zj2 h (by omega) (by omega)];exact e⟩
 · rw [zjw g]
   refine ⟨fun hd=> absurd hd z46,fun ⟨a,b,c1,c2,e⟩=> absurd ?_ g⟩
   exact ⟨h,by omega,by omega,by omega,by omega,by omega⟩
theorem zue {a b:Ex} (h:Jn a b):Ck (jnx a b):=by
 obtain ⟨ha,hb,h1,h2,h3⟩:=h
 have pa:=z08 ha
 have pb:=z08 hb
 have ca:=ha
 unfold Ck at ca
 refine ⟨by simp only [jnx];omega,by simp only [jnx];omega,by simp only [jnx];omega,by simp only [jnx];omega,by simp only [jnx];omega,by simp only [jnx];omega,by simp only [jnx];omega,by simp only [jnx];omega,fun hk=> ?_,fun hk=> ?_⟩
 · have hk:a.kind=2:=hk
   have e1:=z9m ha hk
   have e2:=z9m hb (h2▸hk)
   simp only [jnx,List.length_append];omega
 · have hk:a.kind≠2:=hk
   simp only [jnx,z82 ha hk,z82 hb (h2▸hk),List.append_nil]
theorem zzs {a b:Ex} (h:Jn a b) {k:Int} {c:Int×Int×List UInt8}:Cv (jnx a b) k c↔Cv a k c∨Cv b k c:=by
 obtain ⟨ha,hb,h1,h2,h3⟩:=h
 have pa:=z08 ha
 have pb:=z08 hb
 have e0:(jnx a b).lba=a.lba:=rfl
 have e1:(jnx a b).len=a.len+b.len:=rfl
 have k1:∀k,a.lba≤k→k < a.lba+a.len→bAt (jnx a b) k=bAt a k:=by
  intro k g1 g2
  simp only [bAt,jnx,Prod.mk.injEq,true_and]
  by_cases hk:a.kind=2
  · have d1:=z9m ha hk
    rw [List.drop_append_of_le_length (by omega),List.take_append_of_le_length (by rw [List.length_drop];omega)]
  · rw [z82 ha hk,z82 hb (h2▸hk)];rfl
 have k2:∀k,b.lba≤k→k < b.lba+b.len→bAt (jnx a b) k=bAt b k:=by
  intro k g1 g2
  simp only [bAt,jnx,Prod.mk.injEq]
  refine ⟨h2,h3,?_⟩
  by_cases hk:a.kind=2
  · have d1:=z9m ha hk
    have e:(32*(k - a.lba)).toNat=a.d.length+(32*(k - b.lba)).toNat:=by omega
    rw [e,←List.drop_drop,List.drop_left]
  · rw [z82 ha hk,z82 hb (h2▸hk)];simp
 unfold Cv
 rw [e0,e1]
 constructor
 · rintro ⟨g1,g2,e⟩
   by_cases g:k < a.lba+a.len
   · exact .inl ⟨g1,g,by rw [←k1 k g1 g];exact e⟩
   · exact .inr ⟨by omega,by omega,by rw [←k2 k (by omega) (by omega)];exact e⟩
 · rintro (⟨g1,g2,e⟩ | ⟨g1,g2,e⟩)
   · exact ⟨by omega,by omega,by rw [k1 k g1 g2];exact e⟩
   · exact ⟨by omega,by omega,by rw [k2 k g1 g2];exact e⟩
theorem zdr {out:List Ex} (h:out≠[]):out=out.dropLast++[out.getLastD ⟨0,0,0,0,[]⟩]:=by
 have e:out=out.dropLast++[out.getLast h]:=(List.dropLast_concat_getLast h).symm
 have e2:out.getLastD ⟨0,0,0,0,[]⟩=out.getLast h:=(congrArg (fun l=> List.getLastD l ⟨0,0,0,0,[]⟩) e).trans (by simp)
 rw [e2];exact e
theorem zxd {out:List Ex} {y:Ex} {k:Int} {c:Int×Int×List UInt8}:Den (add out y) k c↔Den out k c∨Cv y k c:=by
 unfold add
 by_cases h:out≠[]∧Jn (out.getLastD ⟨0,0,0,0,[]⟩) y
 · rw [if_pos h]
   have e:=zdr h.1
   generalize out.getLastD ⟨0,0,0,0,[]⟩=a at h e⊢
   generalize out.dropLast=o at e⊢
   rw [e,z80,z80,z95,z95,zzs h.2,or_assoc]
 · rw [if_neg h,z80,z95]
theorem zax:∀(ys out:List Ex) {k:Int} {c:Int×Int×List UInt8},Den (ys.foldl add out) k c↔Den out k c∨Den ys k c
 | [],out,k,c=> by simp only [List.foldl_nil];exact (or_iff_left z46).symm
 | y::ys,out,k,c=> by rw [List.foldl_cons,zax ys,zxd,z51,or_assoc]
theorem ze8:∀(o:List Ex) (s:Int) (y:Ex),CH s (o++[y])↔CH s o∧Ck y∧y.lba=s+sl o∧(∀a,o.getLast? =some a→¬Jn a y)
 | [],s,y=> by simp [CH,sl]
 | x::o,s,y=> by
   have ih:=ze8 o (s+x.len) y
   rw [List.cons_append]
   unfold CH
   rw [ih]
   cases o with
   | nil=>
     simp only [List.nil_append,List.head?_cons,List.head?_nil,Option.some.injEq,forall_eq',List.getLast?_singleton,List.getLast?_nil,CH,sl]
     constructor
     · rintro ⟨a,b,d,e,f,g,_⟩
       exact ⟨⟨a,b,(by intro y h;cases h),trivial⟩,f,by omega,d⟩
     · rintro ⟨⟨a,b,_,_⟩,f,g,d⟩
       exact ⟨a,b,d,trivial,f,by omega,(by intro a h;cases h)⟩
   | cons z o=>
     simp only [List.cons_append,List.head?_cons,Option.some.injEq,forall_eq',List.getLast?_cons_cons,sl]
     constructor
     · rintro ⟨a,b,d,e,f,g,i⟩
       exact ⟨⟨a,b,d,e⟩,f,by omega,i⟩
     · rintro ⟨⟨a,b,d,e⟩,f,g,i⟩
       exact ⟨a,b,d,e,f,by omega,i⟩
theorem y0w {s:Int} {out:List Ex} {y:Ex} (h:CH s out) (hy:Ck y) (hl:y.lba=s+sl out):CH s (add out y)∧sl (add out y)=sl out+y.len:=by
 unfold add
 by_cases g:out≠[]∧Jn (out.getLastD ⟨0,0,0,0,[]⟩) y
 · rw [if_pos g]
   have e:=zdr g.1
   generalize out.getLastD ⟨0,0,0,0,[]⟩=a at g e⊢
   generalize out.dropLast=o at e⊢
   rw [e] at h hl⊢
   obtain ⟨c1,c2,c3,c4⟩:=(ze8 o s a).1 h
   refine ⟨(ze8 o s _).2 ⟨c1,zue g.2,c3,fun b hb hj=> c4 b hb ⟨hj.1,c2,hj.2.2.1,hj.2.2.2.1,hj.2.2.2.2⟩⟩,?_⟩
   rw [z78,z78]
   simp only [sl,jnx];omega
 · rw [if_neg g]
   refine ⟨(ze8 out s y).2 ⟨h,hy,hl,fun a ha hj=> g ⟨?_,?_⟩⟩,?_⟩
   · intro e0;rw [e0] at ha;cases ha
   · rw [List.getLastD_eq_getLast?,ha];exact hj
   · rw [z78];simp only [sl];omega
def Cg:Int→List Ex→Int→Prop
 | s,[],e=> s=e
 | s,p::ps,e=> Ck p∧p.lba=s∧Cg (s+p.len) ps e
theorem z8x:∀(a b:List Ex) {s m e:Int},Cg s a m→Cg m b e→Cg s (a++b) e
 | [],b,s,m,e,h1,h2=> by rw [show s=m from h1];exact h2
 | x::a,b,s,m,e,h1,h2=> ⟨h1.1,h1.2.1,z8x a b h1.2.2 h2⟩
theorem zqv:∀(ps out:List Ex) {e:Int},CH 0 out→Cg (sl out) ps e→CH 0 (ps.foldl add out)∧sl (ps.foldl add out)=e
 | [],out,e,h,hg=> ⟨h,hg⟩
 | p::ps,out,e,h,hg=> by
   obtain ⟨a,b⟩:=y0w h hg.1 (by rw [Int.zero_add];exact hg.2.1)
   rw [List.foldl_cons]
   exact zqv ps _ a (by rw [b];exact hg.2.2)
theorem zy9:∀{l:List Ex} {s:Int},CH s l→Cg s l (s+sl l)
 | [],s,_=> by simp [Cg,sl]
 | x::l,s,h=> ⟨h.1,h.2.1,by rw [show s+sl (x::l)=s+x.len+sl l by simp only [sl];omega];exact zy9 h.2.2.2⟩
theorem zt5 {l:List Ex} {s:Int} (h:CH s l) {k:Int} {c:Int×Int×List UInt8} (hd:Den l k c):s≤k:=by
 obtain ⟨x,hx,hc⟩:=hd
 have:=(zcz h x hx).2
 have:=hc.1
 omega
theorem d_ext {x y:Ex} (hx:Ck x) (hy:Ck y) (hb:x.lba=y.lba) (hl:x.len=y.len) (h:∀k,x.lba≤k→k < x.lba+x.len→bAt x k=bAt y k):x=y:=by
 have px:=z08 hx
 have h0:=h x.lba (by omega) (by omega)
 simp only [bAt,Prod.mk.injEq] at h0
 have hd:x.d=y.d:=by
  by_cases hk:x.kind=2
  · have d1:=z9m hx hk
    have d2:=z9m hy (h0.1▸hk)
    apply List.ext_getElem?
    intro j
    by_cases hj:j < x.d.length
    · have hq:=h (x.lba+(j / 32:Nat)) (by omega) (by omega)
      simp only [bAt,Prod.mk.injEq] at hq
      have hq:(List.take 32 (List.drop (32*(x.lba+((j / 32:Nat):Int) - x.lba)).toNat x.d))[j % 32]? =(List.take 32 (List.drop (32*(x.lba+((j / 32:Nat):Int) - y.lba)).toNat y.d))[j % 32]? :=congrArg (fun l=> l[j % 32]?) hq.2.2
      have hm:j % 32 < 32:=Nat.mod_lt _ (by omega)
      rw [List.getElem?_take_of_lt hm,List.getElem?_take_of_lt hm,List.getElem?_drop,List.getElem?_drop] at hq
      have e1:(32*(x.lba+((j / 32:Nat):Int) - x.lba)).toNat+j % 32=j:=by omega
      have e2:(32*(x.lba+((j / 32:Nat):Int) - y.lba)).toNat+j % 32=j:=by omega
      rw [e1,e2] at hq
      exact hq
    · rw [List.getElem?_eq_none (by omega),List.getElem?_eq_none (by omega)]
  · rw [z82 hx hk,z82 hy (h0.1▸hk)]
 cases x;cases y
 simp_all
theorem zy8:∀{l:List Ex},(∀x∈l,Ck x)→0≤sl l
 | [],_=> by simp [sl]
 | x::l,h=> by
   have h1:=zy8 fun y hy=> h y (List.mem_cons_of_mem _ hy)
   have h2:=z08 (h x (by simp))
   simp only [sl];omega
end Ab
end Go.Proofs.Ytpflcogplhigcaa
namespace Go.Proofs.Ytpflcogplhigcaa
open Go Go.Proofs.Ytpflcogplhigcaa.Ab
set_option linter.unusedVariables false
set_option linter.unusedSimpArgs false
namespace Ab
def P1 (x:Ex) (fl:Bool) (e:Ex):List Ex:=(cut e 0 x.lba).toList++((if fl=false∧e.lba+e.len > x.lba then [x] else [])++(cut e (x.lba+x.len) 64).toList)
def F1 (x:Ex) (fl:Bool) (e:Ex):Bool:=fl || decide (e.lba+e.len > x.lba)
def pcs (x:Ex):Bool→List Ex→List Ex
 | _,[]=> []
 | fl,e::l=> P1 x fl e++pcs x (F1 x fl e) l
def stp (x:Ex) (p:Bool×List Ex) (e:Ex):Bool×List Ex:=(F1 x p.1 e,(P1 x p.1 e).foldl add p.2)
theorem zqg (x:Ex):∀(l:List Ex) (fl:Bool) (out:List Ex),(l.foldl (stp x) (fl,out)).2=(pcs x fl l).foldl add out
 | [],_,_=> rfl
 | e::l,fl,out=> by
   rw [List.foldl_cons]
   show (l.foldl (stp x) (F1 x fl e,(P1 x fl e).foldl add out)).2=_
   rw [zqg x l,pcs,List.foldl_append]
def put (l:List Ex) (x:Ex):List Ex:=(pcs x false l).foldl add []
theorem zvf {x e:Ex} (hx:Ck x) (he:Ck e) {fl:Bool} {k:Int} {c:Int×Int×List UInt8}:
 Den (P1 x fl e) k c↔((k < x.lba∨x.lba+x.len≤k)∧Cv e k c)∨(fl=false∧e.lba+e.len > x.lba∧Cv x k c):=by
 have px:=z08 hx
 have pe:=z08 he
 unfold P1
 rw [z80,z80,zvn he (by omega) (by omega),zvn he (by omega) (by omega)]
 have hm:Den (if fl=false∧e.lba+e.len > x.lba then [x] else []) k c↔fl=false∧e.lba+e.len > x.lba∧Cv x k c:=by
  split
  · rename_i h
    rw [z95]
    exact ⟨fun q=> ⟨h.1,h.2,q⟩,fun q=> q.2.2⟩
  · rename_i h
    exact ⟨fun q=> absurd q z46,fun q=> absurd ⟨q.1,q.2.1⟩ h⟩
 rw [hm]
 constructor
 · rintro (⟨a,b,q⟩ | q | ⟨a,b,q⟩)
   · exact .inl ⟨.inl (by omega),q⟩
   · exact .inr q
   · exact .inl ⟨.inr (by omega),q⟩
 · rintro (⟨a | a,q⟩ | q)
   · have:=q.1;exact .inl ⟨by omega,by omega,q⟩
   · have:=q.2.1;exact .inr (.inr ⟨by omega,by omega,q⟩)
   · exact .inr (.inl q)
theorem zhu {x:Ex} (hx:Ck x):∀(l:List Ex),(∀e∈l,Ck e)→∀{k:Int} {c:Int×Int×List UInt8},Den (pcs x true l) k c↔(k < x.lba∨x.lba+x.len≤k)∧Den l k c
 | [],_,k,c=> by simp only [pcs];exact ⟨fun q=> absurd q z46,fun q=> absurd q.2 z46⟩
 | e::l,h,k,c=> by
   have ih:=zhu hx l (fun y hy=> h y (by simp [hy])) (k:=k) (c:=c)
   rw [pcs,z80,zvf hx (h e (by simp)),z51]
   rw [show F1 x true e=true from rfl,ih]
   constructor
   · rintro ((⟨a,q⟩ | ⟨a,_⟩) | ⟨a,q⟩)
     · exact ⟨a,.inl q⟩
     · cases a
     · exact ⟨a,.inr q⟩
   · rintro ⟨a,q | q⟩
     · exact .inl (.inl ⟨a,q⟩)
     · exact .inr ⟨a,q⟩
theorem zie {x:Ex} (hx:Ck x):∀(l:List Ex),(∀e∈l,Ck e)→∀{k:Int} {c:Int×Int×List UInt8},Den (pcs x false l) k c↔((k < x.lba∨x.lba+x.len≤k)∧Den l k c)∨(Cv x k c∧∃e∈l,e.lba+e.len > x.lba)
 | [],_,k,c=> by
   simp only [pcs]
   refine ⟨fun q=> absurd q z46,?_⟩
   rintro (⟨_,q⟩ | ⟨_,e,he,_⟩)
   · exact absurd q z46
   · cases he
 | e::l,h,k,c=> by
   rw [pcs,z80,zvf hx (h e (by simp)),z51]
   by_cases g:e.lba+e.len > x.lba
   · rw [show F1 x false e=true from decide_eq_true g,zhu hx l (fun y hy=> h y (by simp [hy]))]
     constructor
     · rintro ((⟨a,q⟩ | ⟨_,_,q⟩) | ⟨a,q⟩)
       · exact .inl ⟨a,.inl q⟩
       · exact .inr ⟨q,e,by simp,g⟩
       · exact .inl ⟨a,.inr q⟩
     · rintro (⟨a,q | q⟩ | ⟨q,_⟩)
       · exact .inl (.inl ⟨a,q⟩)
       · exact .inr ⟨a,q⟩
       · exact .inl (.inr ⟨rfl,g,q⟩)
   · rw [show F1 x false e=false from decide_eq_false g,zie hx l (fun y hy=> h y (by simp [hy]))]
     constructor
     · rintro ((⟨a,q⟩ | ⟨_,q,_⟩) | ⟨a,q⟩ | ⟨q,y,hy,hg⟩)
       · exact .inl ⟨a,.inl q⟩
       · exact absurd q g
       · exact .inl ⟨a,.inr q⟩
       · exact .inr ⟨q,y,by simp [hy],hg⟩
     · rintro (⟨a,q | q⟩ | ⟨q,y,hy,hg⟩)
       · exact .inl (.inl ⟨a,q⟩)
       · exact .inr (.inl ⟨a,q⟩)
       · rcases List.mem_cons.1 hy with e1 | e1
         · subst e1;exact absurd hg g
         · exact .inr (.inr ⟨q,y,e1,hg⟩)
theorem zj5 {e:Ex} {lo n a b:Int} (he:Ck e) (h1:0≤lo∧lo≤64) (h2:0≤n∧n≤64) (ha:a=max e.lba lo) (hb:b=min (e.lba+e.len) (lo+n)) (hab:a < b):Cg a (cut e lo n).toList b:=by
 have g:Cu e lo n:=⟨he,h1.1,h1.2,h2.1,h2.2,by omega⟩
 rw [zk1 g]
 refine ⟨zua g,ha.symm,?_⟩
 show a+(min (e.lba+e.len) (lo+n) - max e.lba lo)=b
 omega
theorem zb6 {e:Ex} {lo n a:Int} (h:¬max e.lba lo < min (e.lba+e.len) (lo+n)):Cg a (cut e lo n).toList a:=by
 rw [zjw fun g=> h g.2.2.2.2.2];rfl
theorem zn0 {x:Ex} (hx:Ck x):∀(l:List Ex) (s e:Int),Cg s l e→x.lba < s→Cg (max s (x.lba+x.len)) (pcs x true l) (max e (x.lba+x.len))
 | [],s,e,h,_=> by rw [show s=e from h];rfl
 | y::l,s,e,h,hs=> by
   obtain ⟨h1,h2,h3⟩:=h
   have px:=z08 hx
   have py:=z08 h1
   rw [pcs,P1,if_neg (by simp),List.nil_append]
   have hr:=zn0 hx l (s+y.len) e h3 (by omega)
   refine z8x _ _ (z8x _ _ (zb6 (a:=max s (x.lba+x.len)) (by omega)) ?_) hr
   by_cases g:s+y.len > x.lba+x.len
   · exact zj5 h1 (by omega) (by omega) (by omega) (by omega) (by omega)
   · have e1:max (s+y.len) (x.lba+x.len)=x.lba+x.len:=by omega
     have e2:max s (x.lba+x.len)=x.lba+x.len:=by omega
     rw [e1,e2]
     exact zb6 (by omega)
theorem zkm {x:Ex} (hx:Ck x):∀(l:List Ex) (s e:Int),0≤s→Cg s l e→s≤x.lba→x.lba < e→Cg s (pcs x false l) (max e (x.lba+x.len))
 | [],s,e,h0,h,hs,he=> by have:s=e:=h;omega
 | y::l,s,e,h0,h,hs,he=> by
   obtain ⟨h1,h2,h3⟩:=h
   have px:=z08 hx
   have py:=z08 h1
   rw [pcs,P1]
   by_cases g:y.lba+y.len > x.lba
   · rw [if_pos ⟨rfl,g⟩,show F1 x false y=true from decide_eq_true g]
     have hr:=zn0 hx l (s+y.len) e h3 (by omega)
     have hleft:Cg s (cut y 0 x.lba).toList x.lba:=by
      by_cases q:s < x.lba
      · exact zj5 h1 (by omega) (by omega) (by omega) (by omega) q
      · rw [show s=x.lba by omega];exact zb6 (by omega)
     have hright:Cg (x.lba+x.len) (cut y (x.lba+x.len) 64).toList (max (s+y.len) (x.lba+x.len)):=by
      by_cases q:s+y.len > x.lba+x.len
      · exact zj5 h1 (by omega) (by omega) (by omega) (by omega) (by omega)
      · rw [show max (s+y.len) (x.lba+x.len)=x.lba+x.len by omega];exact zb6 (by omega)
     exact z8x _ _ (z8x _ _ hleft (z8x [x] _ (m:=x.lba+x.len) ⟨hx,rfl,rfl⟩ hright)) hr
   · rw [if_neg (fun q=> g q.2),show F1 x false y=false from decide_eq_false g,List.nil_append]
     have hr:=zkm hx l (s+y.len) e (by omega) h3 (by omega) he
     refine z8x _ _ (z8x _ _ (m:=s+y.len) (zj5 h1 (by omega) (by omega) (by omega) (by omega) (by omega)) (zb6 (by omega))) hr
theorem zy7 {blocks:Int} {l:List Ex} (h:CH 0 l) (hs:sl l=blocks) (hb:1≤blocks):Mk blocks l:=by
 have hne:l≠[]:=by intro e;subst e;simp only [sl] at hs;omega
 have key:∀(l:List Ex) (s:Int),CH s l→∀i,i < l.length→Ck (z0 l i)∧(z0 l i).lba=s+sl (l.take i)∧(0 < i→¬Jn (z0 l (i - 1)) (z0 l i)):=by
  intro l
  induction l with
  | nil=> intro s _ i hi;simp at hi
  | cons x l ih=>
    intro s h i hi
    cases i with
    | zero=> exact ⟨h.1,by rw [List.take_zero];simp only [sl];rw [Int.add_zero];exact h.2.1,fun q=> by omega⟩
    | succ i=>
      simp only [List.length_cons] at hi
      obtain ⟨a,b,d⟩:=ih _ h.2.2.2 i (by omega)
      refine ⟨a,?_,fun _=> ?_⟩
      · show (z0 l i).lba=_
        rw [b,List.take_succ_cons];simp only [sl];omega
      · cases i with
        | zero=>
          cases l with
          | nil=> simp at hi
          | cons y l=> exact h.2.2.1 y rfl
        | succ j=> exact d (by omega)
 refine ⟨hne,fun i hi=> ?_,hs⟩
 obtain ⟨a,b,d⟩:=key l 0 h i hi
 exact ⟨a,by rw [b,Int.zero_add],d⟩
theorem z66 {blocks:Int} {l:List Ex} {x:Ex} (h:Mk blocks l) (hx:Ck x) (hf:x.lba+x.len≤blocks):
 Mk blocks (put l x)∧∀k c,Den (put l x) k c↔((k < x.lba∨x.lba+x.len≤k)∧Den l k c)∨Cv x k c:=by
 have hc:=z89 h
 have hb:=z97 h
 have px:=z08 hx
 have hg:Cg 0 l blocks:=by
  have:=zy9 hc
  rwa [h.2.2,Int.zero_add] at this
 have hp:=zkm hx l 0 blocks (by omega) hg (by omega) (by omega)
 rw [show max blocks (x.lba+x.len)=blocks by omega] at hp
 obtain ⟨a,b⟩:=zqv (pcs x false l) [] (e:=blocks) trivial hp
 refine ⟨zy7 a b (by omega),fun k c=> ?_⟩
 unfold put
 rw [zax,zie hx l fun e he=> (zcz hc e he).1]
 have hex:∃e∈l,e.lba+e.len > x.lba:=by
  refine ⟨z0 l (l.length - 1),?_,?_⟩
  · have hl:0 < l.length:=List.length_pos_iff.2 h.1
    unfold z0
    rw [List.getD_eq_getElem?_getD,List.getElem?_eq_getElem (by omega)]
    exact List.getElem_mem _
  · have hl:0 < l.length:=List.length_pos_iff.2 h.1
    have h1:=(h.2.1 (l.length - 1) (by omega)).2.1
    have h2:=zdl l (l.length - 1) (by omega)
    rw [show l.length - 1+1=l.length by omega,List.take_length,h.2.2] at h2
    omega
 constructor
 · rintro (q | q | q)
   · exact absurd q z46
   · exact .inl q
   · exact .inr q.1
 · rintro (q | q)
   · exact .inr (.inl q)
   · exact .inr (.inr ⟨q,hex⟩)
end Ab
end Go.Proofs.Ytpflcogplhigcaa
namespace Go.Proofs.Ytpflcogplhigcaa
open Go Go.Proofs.Ytpflcogplhigcaa.Ab
set_option linter.unusedVariables false
set_option linter.unusedSimpArgs false
namespace Ab
theorem zvs:∀{l:List Ex} {s:Int},CH s l→(l.length:Int)≤sl l
 | [],_,_=> by simp [sl]
 | x::l,s,h=> by
   have:=zvs h.2.2.2
   have:=z08 h.1
   simp only [sl,List.length_cons];omega
theorem zc8 {blocks:Int} {l:List Ex} (h:Mk blocks l):l.length≤64:=by
 have h1:=zvs (z89 h)
 have h2:=z97 h
 have h3:=h.2.2
 omega
theorem zpj:∀{l:List Ex} {s:Int},CH s l→∀{k:Int} {c c':Int×Int×List UInt8},Den l k c→Den l k c'→c=c'
 | [],_,_,_,_,_,h1,_=> absurd h1 z46
 | x::l,s,h,k,c,c',h1,h2=> by
   have bx:=h.2.1
   rcases z51.1 h1 with a | a <;> rcases z51.1 h2 with b | b
   · rw [a.2.2,b.2.2]
   · have:=zt5 h.2.2.2 b;have:=a.2.1;omega
   · have:=zt5 h.2.2.2 a;have:=b.2.1;omega
   · exact zpj h.2.2.2 a b
theorem zsq:∀{l:List Ex} {s:Int},CH s l→∀{k:Int},s≤k→k < s+sl l→∃x∈l,x.lba≤k∧k < x.lba+x.len
 | [],s,_,k,h1,h2=> by simp only [sl] at h2;omega
 | x::l,s,h,k,h1,h2=> by
   have bx:=h.2.1
   simp only [sl] at h2
   by_cases g:k < x.lba+x.len
   · exact ⟨x,by simp,by omega,g⟩
   · obtain ⟨y,hy,q⟩:=zsq h.2.2.2 (k:=k) (by omega) (by omega)
     exact ⟨y,by simp [hy],q⟩
theorem zu5:∀{l:List Ex} {s:Int},CH s l→∀x∈l,x.lba+x.len≤s+sl l
 | [],_,_,x,hx=> by cases hx
 | y::l,s,h,x,hx=> by
   have by_:=h.2.1
   have h0:0≤sl l:=zy8 fun z hz=> (zcz h.2.2.2 z hz).1
   simp only [sl]
   rcases List.mem_cons.1 hx with e | e
   · subst e;omega
   · have:=zu5 h.2.2.2 x e
     omega
end Ab
end Go.Proofs.Ytpflcogplhigcaa
namespace Go.Proofs.Ytpflcogplhigcaa
open Go Go.Proofs.Ytpflcogplhigcaa.Ab
set_option linter.unusedVariables false
set_option linter.unusedSimpArgs false
namespace Ab
def eb (x:Ex):List UInt8:=if x.kind=2 then x.d else List.replicate (32*x.len).toNat 0
theorem zvr {x:Ex} (h:Ck x):((eb x).length:Int)=32*x.len:=by
 unfold eb
 unfold Ck at h
 split
 · rename_i hk;exact h.2.2.2.2.2.2.2.2.1 hk
 · rw [List.length_replicate];omega
end Ab
end Go.Proofs.Ytpflcogplhigcaa
namespace Go.Proofs.Ytpflcogplhigcaa
open Go Go.Proofs.Ytpflcogplhigcaa.Ab
set_option linter.unusedVariables false
set_option linter.unusedSimpArgs false
namespace Ab
theorem zqj (n m:Nat):pad n (List.replicate m 0)=List.replicate n 0:=by
 unfold pad
 rw [List.replicate_append_replicate,List.take_replicate]
 congr 1;omega
theorem zwf (n:Nat):pad n []=List.replicate n 0:=zqj n 0
def CkC (c:Ce):Prop:=0≤c.kind∧c.kind≤2∧0≤c.gen∧c.gen≤2147483647∧(c.kind≠2→pad 32 c.d=List.replicate 32 0)
instance (c:Ce):Decidable (CkC c):=by unfold CkC;infer_instance
def CkI (l:List Ce):Prop:=1≤l.length∧l.length≤64∧∀c∈l,CkC c
instance (l:List Ce):Decidable (CkI l):=by unfold CkI;infer_instance
end Ab
end Go.Proofs.Ytpflcogplhigcaa
namespace Go.Proofs.Ytpflcogplhigcaa
open Go Go.Proofs.Ytpflcogplhigcaa.Ab
set_option linter.unusedVariables false
set_option linter.unusedSimpArgs false
namespace Ab
def cb (c:Int×Int×List UInt8):Ce:=⟨c.1,c.2.1,pad 32 c.2.2⟩
/-! Blocks of a map. -/
theorem zal (l:List UInt8):pad 32 (l.take 32)=pad 32 l:=by
 unfold pad
 rw [List.take_append,List.take_append,List.take_take,Nat.min_self,List.take_replicate,List.take_replicate,List.length_take]
 congr 2
 omega
end Ab
end Go.Proofs.Ytpflcogplhigcaa
namespace Go.Proofs.Ytpflcogplhigcaa
open Go Go.Proofs.Ytpflcogplhigcaa.Ab
set_option linter.unusedVariables false
set_option linter.unusedSimpArgs false
namespace Ab
def Fits (l:List Ce) (lba n:Int):Prop:=0≤lba∧lba≤l.length∧1≤n∧n≤l.length - lba
instance (l:List Ce) (lba n:Int):Decidable (Fits l lba n):=by unfold Fits;infer_instance
end Ab
end Go.Proofs.Ytpflcogplhigcaa
