/- The law 'StateTells': it returns true, and nothing that was there changes. No condition. (Part 8 of 12.) -/
import Derived.Test.YtimcbhhebnikiaaSt7
import Derived.Test.YtimcbhhebnikiaaRows
namespace Go.Proofs.Ytimcbhhebnikiaa
open Go Go.Proofs.Ytimcbhhebnikiaa.Ab
set_option linter.unusedVariables false
set_option linter.unusedSimpArgs false
set_option maxRecDepth 1000000
namespace Ab
def cf : Cfg := { inl := [60, 62, 63, 66, 67, 75, 76, 77, 78, 79, 80, 81, 82, 89, 94, 95, 96, 97, 98, 99, 100, 103, 104, 107, 109, 111], thaw := [(18, [[0, 0, 5, 3, 0, 1]]), (19, [[0, 0, 5, 3, 0, 1]]), (41, [[5]]), (44, [[5]]), (52, [[]]), (65, [[0, 0, 0, 0, 1]])], move := [13, 15, 16, 18, 19, 27, 28, 29, 30, 32, 39, 41, 44, 54, 55, 56, 59, 65, 84, 101, 105, 106, 108], clone := [(42, 3, 40), (43, 1, 1), (88, 34, 48)] }
noncomputable def vwT : List (Nat × TI) := [(1, (TI.mk 1 8 [(AV.sc Go.Value.nilFunc)] (AV.sc Go.Value.nilFunc) TK.func)),
  (2, (TI.mk 1 8 [(AV.i 0)] (AV.i 0) (TK.int Go.IntKind.i64))),
  (3, (TI.mk 1 8 [(AV.i 0)] (AV.i 0) (TK.int Go.IntKind.i64))),
  (4, (TI.mk 1 1 [(AV.b Bool.false)] (AV.b Bool.false) TK.bool)),
  (5, (TI.mk 1 1 [(AV.y (UInt8.ofNat (0 : Nat)))] (AV.y (UInt8.ofNat (0 : Nat))) (TK.int Go.IntKind.u8))),
  (6, (TI.mk 1 1 [(AV.y (UInt8.ofNat (0 : Nat)))] (AV.y (UInt8.ofNat (0 : Nat))) (TK.int Go.IntKind.u8))),
  (7, (TI.mk 4 24 [(AV.i 0), (AV.i 0), (AV.b Bool.false), (AV.y (UInt8.ofNat (0 : Nat)))] (AV.ag [(AV.i 0), (AV.i 0), (AV.b Bool.false), (AV.y (UInt8.ofNat (0 : Nat)))]) (TK.struct [((0 : Nat), ((1 : Nat), Bool.false)), ((1 : Nat), ((1 : Nat), Bool.false)), ((2 : Nat), ((1 : Nat), Bool.false)), ((3 : Nat), ((1 : Nat), Bool.false))]))),
  (8, (TI.mk 4 24 [(AV.i 0), (AV.i 0), (AV.b Bool.false), (AV.y (UInt8.ofNat (0 : Nat)))] (AV.ag [(AV.i 0), (AV.i 0), (AV.b Bool.false), (AV.y (UInt8.ofNat (0 : Nat)))]) (TK.struct [((0 : Nat), ((1 : Nat), Bool.false)), ((1 : Nat), ((1 : Nat), Bool.false)), ((2 : Nat), ((1 : Nat), Bool.false)), ((3 : Nat), ((1 : Nat), Bool.false))]))),
  (9, (TI.mk 1 16 [(AV.st ([] : List UInt8))] (AV.st ([] : List UInt8)) TK.string)),
  (10, (TI.mk 1 16 [(AV.st ([] : List UInt8))] (AV.st ([] : List UInt8)) TK.string)),
  (11, (TI.mk 1 16 [(AV.st ([] : List UInt8))] (AV.st ([] : List UInt8)) TK.string)),
  (12, (TI.mk 1 8 [(AV.sc (Go.Value.int Go.IntKind.u64 0))] (AV.sc (Go.Value.int Go.IntKind.u64 0)) (TK.int Go.IntKind.u64))),
  (13, (TI.mk 2 24 [(AV.st ([] : List UInt8)), (AV.sc (Go.Value.int Go.IntKind.u64 0))] (AV.ag [(AV.st ([] : List UInt8)), (AV.sc (Go.Value.int Go.IntKind.u64 0))]) (TK.struct [((0 : Nat), ((1 : Nat), Bool.false)), ((1 : Nat), ((1 : Nat), Bool.false))]))),
  (14, (TI.mk 2 24 [(AV.st ([] : List UInt8)), (AV.sc (Go.Value.int Go.IntKind.u64 0))] (AV.ag [(AV.st ([] : List UInt8)), (AV.sc (Go.Value.int Go.IntKind.u64 0))]) (TK.struct [((0 : Nat), ((1 : Nat), Bool.false)), ((1 : Nat), ((1 : Nat), Bool.false))]))),
  (15, (TI.mk 1 8 [(AV.sc (Go.Value.pointer Option.none))] (AV.sc (Go.Value.pointer Option.none)) (TK.ptr (130 : Nat)))),
  (16, (TI.mk 1 8 [(AV.sc (Go.Value.pointer Option.none))] (AV.sc (Go.Value.pointer Option.none)) (TK.ptr (133 : Nat)))),
  (17, (TI.mk 1 8 [(AV.sc (Go.Value.pointer Option.none))] (AV.sc (Go.Value.pointer Option.none)) (TK.ptr (143 : Nat)))),
  (18, (TI.mk 1 8 [(AV.sc (Go.Value.pointer Option.none))] (AV.ag [(AV.sc (Go.Value.pointer Option.none))]) (TK.struct [((0 : Nat), ((1 : Nat), Bool.false))]))),
  (19, (TI.mk 1 8 [(AV.sc (Go.Value.pointer Option.none))] (AV.ag [(AV.sc (Go.Value.pointer Option.none))]) (TK.struct [((0 : Nat), ((1 : Nat), Bool.false))]))),
  (20, (TI.mk 1 16 [(AV.sc Go.Value.nilIface)] (AV.sc Go.Value.nilIface) TK.other)),
  (21, (TI.mk 1 4 [(AV.sc (Go.Value.int Go.IntKind.i32 0))] (AV.sc (Go.Value.int Go.IntKind.i32 0)) (TK.int Go.IntKind.i32))),
  (22, (TI.mk 1 8 [(AV.sc Go.Value.nilFunc)] (AV.sc Go.Value.nilFunc) TK.func)),
  (23, (TI.mk 1 24 [AV.nl] AV.nl (TK.slice (59 : Nat)))),
  (24, (TI.mk 1 24 [AV.nl] AV.nl (TK.slice (33 : Nat)))),
  (25, (TI.mk 1 24 [AV.nl] AV.nl (TK.slice (5 : Nat)))),
  (26, (TI.mk 6 96 [(AV.i 0), (AV.i 0), AV.nl, AV.nl, (AV.i 0), AV.nl] (AV.ag [(AV.i 0), (AV.i 0), AV.nl, AV.nl, (AV.i 0), AV.nl]) (TK.struct [((0 : Nat), ((1 : Nat), Bool.false)), ((1 : Nat), ((1 : Nat), Bool.false)), ((2 : Nat), ((1 : Nat), Bool.false)), ((3 : Nat), ((1 : Nat), Bool.false)), ((4 : Nat), ((1 : Nat), Bool.false)), ((5 : Nat), ((1 : Nat), Bool.false))]))),
  (27, (TI.mk 6 96 [(AV.i 0), (AV.i 0), AV.nl, AV.nl, (AV.i 0), AV.nl] (AV.ag [(AV.i 0), (AV.i 0), AV.nl, AV.nl, (AV.i 0), AV.nl]) (TK.struct [((0 : Nat), ((1 : Nat), Bool.false)), ((1 : Nat), ((1 : Nat), Bool.false)), ((2 : Nat), ((1 : Nat), Bool.false)), ((3 : Nat), ((1 : Nat), Bool.false)), ((4 : Nat), ((1 : Nat), Bool.false)), ((5 : Nat), ((1 : Nat), Bool.false))]))),
  (28, (TI.mk 1 8 [(AV.sc Go.Value.nilFunc)] (AV.sc Go.Value.nilFunc) TK.func)),
  (29, (TI.mk 1 8 [(AV.i 0)] (AV.i 0) (TK.int Go.IntKind.i64))),
  (31, (TI.mk 1 8 [(AV.sc Go.Value.nilFunc)] (AV.sc Go.Value.nilFunc) TK.func)),
  (32, (TI.mk 3 40 [(AV.i 0), (AV.i 0), AV.nl] (AV.ag [(AV.i 0), (AV.i 0), AV.nl]) (TK.struct [((0 : Nat), ((1 : Nat), Bool.false)), ((1 : Nat), ((1 : Nat), Bool.false)), ((2 : Nat), ((1 : Nat), Bool.false))]))),
  (33, (TI.mk 3 40 [(AV.i 0), (AV.i 0), AV.nl] (AV.ag [(AV.i 0), (AV.i 0), AV.nl]) (TK.struct [((0 : Nat), ((1 : Nat), Bool.false)), ((1 : Nat), ((1 : Nat), Bool.false)), ((2 : Nat), ((1 : Nat), Bool.false))]))),
  (35, (TI.mk 1 8 [(AV.sc Go.Value.nilFunc)] (AV.sc Go.Value.nilFunc) TK.func)),
  (36, (TI.mk 1 8 [(AV.sc Go.Value.nilFunc)] (AV.sc Go.Value.nilFunc) TK.func)),
  (37, (TI.mk 1 8 [(AV.sc Go.Value.nilFunc)] (AV.sc Go.Value.nilFunc) TK.func)),
  (38, (TI.mk 1 8 [(AV.sc Go.Value.nilFunc)] (AV.sc Go.Value.nilFunc) TK.func)),
  (39, (TI.mk 1 8 [(AV.sc Go.Value.nilFunc)] (AV.sc Go.Value.nilFunc) TK.func)),
  (40, (TI.mk 1 8 [(AV.sc Go.Value.nilFunc)] (AV.sc Go.Value.nilFunc) TK.func)),
  (41, (TI.mk 1 24 [AV.nl] AV.nl (TK.slice (3 : Nat)))),
  (42, (TI.mk 1 8 [(AV.sc Go.Value.nilFunc)] (AV.sc Go.Value.nilFunc) TK.func)),
  (43, (TI.mk 1 8 [(AV.sc Go.Value.nilFunc)] (AV.sc Go.Value.nilFunc) TK.func)),
  (44, (TI.mk 1 24 [AV.nl] AV.nl (TK.slice (51 : Nat)))),
  (45, (TI.mk 1 8 [(AV.sc Go.Value.nilFunc)] (AV.sc Go.Value.nilFunc) TK.func)),
  (47, (TI.mk 1 8 [(AV.sc Go.Value.nilFunc)] (AV.sc Go.Value.nilFunc) TK.func)),
  (48, (TI.mk 1 8 [(AV.sc Go.Value.nilFunc)] (AV.sc Go.Value.nilFunc) TK.func)),
  (49, (TI.mk 1 8 [(AV.sc Go.Value.nilFunc)] (AV.sc Go.Value.nilFunc) TK.func)),
  (50, (TI.mk 6 80 [(AV.i 0), (AV.i 0), (AV.i 0), (AV.i 0), AV.nl, AV.nl] (AV.ag [(AV.i 0), (AV.i 0), (AV.i 0), (AV.i 0), AV.nl, AV.nl]) (TK.struct [((0 : Nat), ((1 : Nat), Bool.false)), ((1 : Nat), ((1 : Nat), Bool.false)), ((2 : Nat), ((1 : Nat), Bool.false)), ((3 : Nat), ((1 : Nat), Bool.false)), ((4 : Nat), ((1 : Nat), Bool.false)), ((5 : Nat), ((1 : Nat), Bool.false))]))),
  (51, (TI.mk 6 80 [(AV.i 0), (AV.i 0), (AV.i 0), (AV.i 0), AV.nl, AV.nl] (AV.ag [(AV.i 0), (AV.i 0), (AV.i 0), (AV.i 0), AV.nl, AV.nl]) (TK.struct [((0 : Nat), ((1 : Nat), Bool.false)), ((1 : Nat), ((1 : Nat), Bool.false)), ((2 : Nat), ((1 : Nat), Bool.false)), ((3 : Nat), ((1 : Nat), Bool.false)), ((4 : Nat), ((1 : Nat), Bool.false)), ((5 : Nat), ((1 : Nat), Bool.false))]))),
  (52, (TI.mk 1 8 [(AV.sc Go.Value.nilFunc)] (AV.sc Go.Value.nilFunc) TK.func)),
  (53, (TI.mk 1 8 [(AV.sc Go.Value.nilFunc)] (AV.sc Go.Value.nilFunc) TK.func)),
  (54, (TI.mk 1 8 [(AV.sc Go.Value.nilFunc)] (AV.sc Go.Value.nilFunc) TK.func)),
  (55, (TI.mk 1 8 [(AV.sc Go.Value.nilFunc)] (AV.sc Go.Value.nilFunc) TK.func)),
  (56, (TI.mk 1 8 [(AV.sc Go.Value.nilFunc)] (AV.sc Go.Value.nilFunc) TK.func)),
  (57, (TI.mk 64 64 (List.replicate (64 : Nat) (AV.b Bool.false)) (AV.ag (List.replicate (64 : Nat) (AV.b Bool.false))) (TK.array 64 (4 : Nat)))),
  (58, (TI.mk 5 56 [(AV.i 0), (AV.i 0), (AV.i 0), (AV.i 0), AV.nl] (AV.ag [(AV.i 0), (AV.i 0), (AV.i 0), (AV.i 0), AV.nl]) (TK.struct [((0 : Nat), ((1 : Nat), Bool.false)), ((1 : Nat), ((1 : Nat), Bool.false)), ((2 : Nat), ((1 : Nat), Bool.false)), ((3 : Nat), ((1 : Nat), Bool.false)), ((4 : Nat), ((1 : Nat), Bool.false))]))),
  (59, (TI.mk 5 56 [(AV.i 0), (AV.i 0), (AV.i 0), (AV.i 0), AV.nl] (AV.ag [(AV.i 0), (AV.i 0), (AV.i 0), (AV.i 0), AV.nl]) (TK.struct [((0 : Nat), ((1 : Nat), Bool.false)), ((1 : Nat), ((1 : Nat), Bool.false)), ((2 : Nat), ((1 : Nat), Bool.false)), ((3 : Nat), ((1 : Nat), Bool.false)), ((4 : Nat), ((1 : Nat), Bool.false))]))),
  (61, (TI.mk 1 8 [(AV.sc Go.Value.nilFunc)] (AV.sc Go.Value.nilFunc) TK.func)),
  (62, (TI.mk 1 8 [(AV.sc Go.Value.nilFunc)] (AV.sc Go.Value.nilFunc) TK.func)),
  (63, (TI.mk 1 24 [AV.nl] AV.nl (TK.slice (93 : Nat)))),
  (65, (TI.mk 1 8 [(AV.sc Go.Value.nilFunc)] (AV.sc Go.Value.nilFunc) TK.func)),
  (66, (TI.mk 1 8 [(AV.sc Go.Value.nilFunc)] (AV.sc Go.Value.nilFunc) TK.func)),
  (67, (TI.mk 1 8 [(AV.sc Go.Value.nilFunc)] (AV.sc Go.Value.nilFunc) TK.func)),
  (68, (TI.mk 1 8 [(AV.sc Go.Value.nilFunc)] (AV.sc Go.Value.nilFunc) TK.func)),
  (69, (TI.mk 1 8 [(AV.sc Go.Value.nilFunc)] (AV.sc Go.Value.nilFunc) TK.func)),
  (70, (TI.mk 1 8 [(AV.sc Go.Value.nilFunc)] (AV.sc Go.Value.nilFunc) TK.func)),
  (71, (TI.mk 1 8 [(AV.sc Go.Value.nilFunc)] (AV.sc Go.Value.nilFunc) TK.func)),
  (72, (TI.mk 1 8 [(AV.sc Go.Value.nilFunc)] (AV.sc Go.Value.nilFunc) TK.func)),
  (73, (TI.mk 1 8 [(AV.sc Go.Value.nilFunc)] (AV.sc Go.Value.nilFunc) TK.func)),
  (74, (TI.mk 1 8 [(AV.sc Go.Value.nilFunc)] (AV.sc Go.Value.nilFunc) TK.func)),
  (75, (TI.mk 1 8 [(AV.sc Go.Value.nilFunc)] (AV.sc Go.Value.nilFunc) TK.func)),
  (76, (TI.mk 1 8 [(AV.sc Go.Value.nilFunc)] (AV.sc Go.Value.nilFunc) TK.func)),
  (77, (TI.mk 1 8 [(AV.sc Go.Value.nilFunc)] (AV.sc Go.Value.nilFunc) TK.func)),
  (78, (TI.mk 1 8 [(AV.sc Go.Value.nilFunc)] (AV.sc Go.Value.nilFunc) TK.func)),
  (79, (TI.mk 1 8 [(AV.sc Go.Value.nilFunc)] (AV.sc Go.Value.nilFunc) TK.func)),
  (80, (TI.mk 1 8 [(AV.sc Go.Value.nilFunc)] (AV.sc Go.Value.nilFunc) TK.func)),
  (81, (TI.mk 6 96 [(AV.i 0), (AV.i 0), AV.nl, AV.nl, (AV.i 0), AV.nl] (AV.ag [(AV.i 0), (AV.i 0), AV.nl, AV.nl, (AV.i 0), AV.nl]) (TK.struct [((0 : Nat), ((1 : Nat), Bool.false)), ((1 : Nat), ((1 : Nat), Bool.false)), ((2 : Nat), ((1 : Nat), Bool.false)), ((3 : Nat), ((1 : Nat), Bool.false)), ((4 : Nat), ((1 : Nat), Bool.false)), ((5 : Nat), ((1 : Nat), Bool.false))]))),
  (82, (TI.mk 1 8 [(AV.sc Go.Value.nilFunc)] (AV.sc Go.Value.nilFunc) TK.func)),
  (83, (TI.mk 1 8 [(AV.sc (Go.Value.map Option.none))] (AV.sc (Go.Value.map Option.none)) (TK.map (3 : Nat) (82 : Nat)))),
  (84, (TI.mk 1 8 [(AV.sc Go.Value.nilFunc)] (AV.sc Go.Value.nilFunc) TK.func)),
  (85, (TI.mk 1 8 [(AV.sc (Go.Value.pointer Option.none))] (AV.sc (Go.Value.pointer Option.none)) (TK.ptr (81 : Nat)))),
  (86, (TI.mk 1 8 [(AV.sc Go.Value.nilFunc)] (AV.sc Go.Value.nilFunc) TK.func)),
  (87, (TI.mk 1 8 [(AV.sc Go.Value.nilFunc)] (AV.sc Go.Value.nilFunc) TK.func)),
  (88, (TI.mk 1 8 [(AV.sc Go.Value.nilFunc)] (AV.sc Go.Value.nilFunc) TK.func)),
  (89, (TI.mk 1 8 [(AV.sc Go.Value.nilFunc)] (AV.sc Go.Value.nilFunc) TK.func))]
noncomputable def vwF : List (Nat × AF) := [(2, afOf Try.f2), (3, afOf Try.f3), (4, afOf Try.f4), (5, afOf Try.f5), (6, afOf Try.f6), (7, afOf Try.f7), (8, afOf Try.f8), (9, afOf Try.f9), (10, afOf Try.f10), (11, afOf Try.f11), (12, afOf Try.f12), (13, afOf Try.f13), (14, afOf Try.f14), (15, afOf Try.f15), (16, afOf Try.f16), (17, afOf Try.f17), (18, afOf Try.f18), (19, afOf Try.f19), (20, afOf Try.f20), (21, afOf Try.f21), (22, afOf Try.f22), (23, afOf Try.f23), (24, afOf Try.f24), (25, afOf Try.f25), (26, afOf Try.f26), (27, afOf Try.f27), (28, afOf Try.f28), (29, afOf Try.f29), (30, afOf Try.f30), (31, afOf Try.f31), (32, afOf Try.f32), (33, afOf Try.f33), (34, afOf Try.f34), (35, afOf Try.f35), (36, afOf Try.f36), (37, afOf Try.f37), (38, afOf Try.f38), (39, afOf Try.f39), (40, afOf Try.f40), (41, afOf Try.f41), (42, afOf Try.f42), (43, afOf Try.f43), (44, afOf Try.f44), (45, afOf Try.f45), (46, afOf Try.f46), (47, afOf Try.f47), (48, afOf Try.f48), (49, afOf Try.f49), (50, afOf Try.f50), (51, afOf Try.f51), (52, afOf Try.f52), (53, afOf Try.f53), (54, afOf Try.f54), (55, afOf Try.f55), (56, afOf Try.f56), (57, afOf Try.f57), (58, afOf Try.f58), (59, afOf Try.f59), (60, afOf Try.f60), (61, afOf Try.f61), (62, afOf Try.f62), (63, afOf Try.f63), (64, afOf Try.f64), (65, afOf Try.f65), (66, afOf Try.f66), (67, afOf Try.f67), (68, afOf Try.f68), (69, afOf Try.f69), (70, afOf Try.f70), (71, afOf Try.f71), (72, afOf Try.f72), (73, afOf Try.f73), (74, afOf Try.f74), (75, afOf Try.f75), (76, afOf Try.f76), (77, afOf Try.f77), (78, afOf Try.f78), (79, afOf Try.f79), (80, afOf Try.f80), (81, afOf Try.f81), (82, afOf Try.f82), (83, afOf Try.f83), (84, afOf Try.f84), (85, afOf Try.f85), (86, afOf Try.f86), (87, afOf Try.f87), (88, afOf Try.f88), (89, afOf Try.f89), (90, afOf Try.f90), (91, afOf Try.f91), (92, afOf Try.f92), (93, afOf Try.f93), (94, afOf Try.f94), (95, afOf Try.f95), (96, afOf Try.f96), (97, afOf Try.f97), (98, afOf Try.f98), (99, afOf Try.f99), (100, afOf Try.f100), (101, afOf Try.f101), (102, afOf Try.f102), (103, afOf Try.f103), (104, afOf Try.f104), (105, afOf Try.f105), (106, afOf Try.f106), (107, afOf Try.f107), (108, afOf Try.f108), (109, afOf Try.f109), (110, afOf Try.f110), (111, afOf Try.f111)]
noncomputable def vw : View := View.mkT Try.prog vwT vwF
theorem vwT_ok : ∀ x ∈ vwT, tinfo Try.prog x.1 = some x.2 := (all_cons kq (all_cons kq (all_cons kq (all_cons kq (all_cons kq (all_cons kq (all_cons kq (all_cons kq (all_cons kq (all_cons kq (all_cons kq (all_cons kq (all_cons kq (all_cons kq (all_cons kq (all_cons kq (all_cons kq (all_cons kq (all_cons kq (all_cons kq (all_cons kq (all_cons kq (all_cons kq (all_cons kq (all_cons kq (all_cons kq (all_cons kq (all_cons kq (all_cons kq (all_cons kq (all_cons kq (all_cons kq (all_cons kq (all_cons kq (all_cons kq (all_cons kq (all_cons kq (all_cons kq (all_cons kq (all_cons kq (all_cons kq (all_cons kq (all_cons kq (all_cons kq (all_cons kq (all_cons kq (all_cons kq (all_cons kq (all_cons kq (all_cons kq (all_cons kq (all_cons kq (all_cons kq (all_cons kq (all_cons kq (all_cons kq (all_cons kq (all_cons kq (all_cons kq (all_cons kq (all_cons kq (all_cons kq (all_cons kq (all_cons kq (all_cons kq (all_cons kq (all_cons kq (all_cons kq (all_cons kq (all_cons kq (all_cons kq (all_cons kq (all_cons kq (all_cons kq (all_cons kq (all_cons kq (all_cons kq (all_cons kq (all_cons kq (all_cons kq (all_cons kq (all_cons kq (all_cons kq (all_cons kq all_nil))))))))))))))))))))))))))))))))))))))))))))))))))))))))))))))))))))))))))))))))))))
theorem vwF_ok : ∀ x ∈ vwF, afun Try.prog x.1 = some x.2 := (all_cons kq (all_cons kq (all_cons kq (all_cons kq (all_cons kq (all_cons kq (all_cons kq (all_cons kq (all_cons kq (all_cons kq (all_cons kq (all_cons kq (all_cons kq (all_cons kq (all_cons kq (all_cons kq (all_cons kq (all_cons kq (all_cons kq (all_cons kq (all_cons kq (all_cons kq (all_cons kq (all_cons kq (all_cons kq (all_cons kq (all_cons kq (all_cons kq (all_cons kq (all_cons kq (all_cons kq (all_cons kq (all_cons kq (all_cons kq (all_cons kq (all_cons kq (all_cons kq (all_cons kq (all_cons kq (all_cons kq (all_cons kq (all_cons kq (all_cons kq (all_cons kq (all_cons kq (all_cons kq (all_cons kq (all_cons kq (all_cons kq (all_cons kq (all_cons kq (all_cons kq (all_cons kq (all_cons kq (all_cons kq (all_cons kq (all_cons kq (all_cons kq (all_cons kq (all_cons kq (all_cons kq (all_cons kq (all_cons kq (all_cons kq (all_cons kq (all_cons kq (all_cons kq (all_cons kq (all_cons kq (all_cons kq (all_cons kq (all_cons kq (all_cons kq (all_cons kq (all_cons kq (all_cons kq (all_cons kq (all_cons kq (all_cons kq (all_cons kq (all_cons kq (all_cons kq (all_cons kq (all_cons kq (all_cons kq (all_cons kq (all_cons kq (all_cons kq (all_cons kq (all_cons kq (all_cons kq (all_cons kq (all_cons kq (all_cons kq (all_cons kq (all_cons kq (all_cons kq (all_cons kq (all_cons kq (all_cons kq (all_cons kq (all_cons kq (all_cons kq (all_cons kq (all_cons kq (all_cons kq (all_cons kq (all_cons kq (all_cons kq (all_cons kq all_nil))))))))))))))))))))))))))))))))))))))))))))))))))))))))))))))))))))))))))))))))))))))))))))))))))))))))))))))
theorem vw_eq : vw = View.of Try.prog := View.mkT_eq vwT_ok vwF_ok
theorem ord_4_0 : orderOk (rg Try.prog 4 0) = true := by kernel_rfl
theorem bef_4_0 : Region.before (rg Try.prog 4 0) = #[0, 0, 3, 7, 15, 31, 15, 127, 255, 511, 1023, 2047, 2047, 8191, 16383, 32767] := by kernel_rfl
theorem ord_4_1 : orderOk (rg Try.prog 4 1) = true := by kernel_rfl
theorem bef_4_1 : Region.before (rg Try.prog 4 1) = #[0, 1, 3, 7, 3, 31, 63, 127, 255, 511, 1023, 2047, 4095, 4095, 16383, 32767, 65535, 131071, 131071, 524287, 1048575, 2097151, 4194303, 8388607, 4194303, 33554431, 67108863, 134217727, 268435455] := by kernel_rfl
theorem ord_17_0 : orderOk (rg Try.prog 17 0) = true := by kernel_rfl
theorem bef_17_0 : Region.before (rg Try.prog 17 0) = #[0, 1, 0, 7, 15, 0, 32, 0, 224, 480, 1023, 2047] := by kernel_rfl
theorem ord_18_0 : orderOk (rg Try.prog 18 0) = true := by kernel_rfl
theorem bef_18_0 : Region.before (rg Try.prog 18 0) = #[0, 1, 3, 0, 8, 31, 0, 64, 255, 223, 1023, 2047, 4095, 8191, 16383] := by kernel_rfl
theorem ord_18_1 : orderOk (rg Try.prog 18 1) = true := by kernel_rfl
theorem bef_18_1 : Region.before (rg Try.prog 18 1) = #[0, 1, 0, 0, 8, 24, 63, 127, 255] := by kernel_rfl
theorem ord_19_0 : orderOk (rg Try.prog 19 0) = true := by kernel_rfl
theorem bef_19_0 : Region.before (rg Try.prog 19 0) = #[0, 1, 0, 4, 0, 16, 48, 0, 128, 0, 0, 1024, 3696, 8191, 0, 32767] := by kernel_rfl
theorem ord_19_1 : orderOk (rg Try.prog 19 1) = true := by kernel_rfl
theorem bef_19_1 : Region.before (rg Try.prog 19 1) = #[0, 1, 0, 4, 0, 28, 60, 124, 0, 256, 0, 1792, 3840, 7936, 0, 16384, 0, 114688, 245760, 507904, 1032192, 2097148, 4194300, 8388607, 16777215, 33554431] := by kernel_rfl
theorem ord_22_0 : orderOk (rg Try.prog 22 0) = true := by kernel_rfl
theorem bef_22_0 : Region.before (rg Try.prog 22 0) = #[0, 1, 0, 4, 0, 16, 60, 124, 252, 0, 512, 0, 4095, 8191] := by kernel_rfl
theorem ord_22_1 : orderOk (rg Try.prog 22 1) = true := by kernel_rfl
theorem bef_22_1 : Region.before (rg Try.prog 22 1) = #[0, 1, 0, 4, 0, 16, 48, 112, 252, 508, 1020, 0, 2048, 0, 16383, 32767] := by kernel_rfl
theorem ord_23_0 : orderOk (rg Try.prog 23 0) = true := by kernel_rfl
theorem bef_23_0 : Region.before (rg Try.prog 23 0) = #[0, 0, 3, 7, 0, 0, 48, 112, 255] := by kernel_rfl
theorem ord_31_0 : orderOk (rg Try.prog 31 0) = true := by kernel_rfl
theorem bef_31_0 : Region.before (rg Try.prog 31 0) = #[0, 0, 3, 7, 0, 0, 48, 112, 255, 511] := by kernel_rfl
theorem ord_49_0 : orderOk (rg Try.prog 49 0) = true := by kernel_rfl
theorem bef_49_0 : Region.before (rg Try.prog 49 0) = #[0, 0, 3, 7, 15, 0, 63, 127, 255, 255, 1023, 2047, 255, 255, 12543, 28927, 65535, 131071] := by kernel_rfl
theorem ord_58_0 : orderOk (rg Try.prog 58 0) = true := by kernel_rfl
theorem bef_58_0 : Region.before (rg Try.prog 58 0) = #[0, 1, 3, 7, 15, 31, 15, 127, 255, 511, 1023, 2047, 4095, 8191, 8191, 24575, 65535, 131071, 8191, 524287, 1048575, 2097151] := by kernel_rfl
theorem ord_65_0 : orderOk (rg Try.prog 65 0) = true := by kernel_rfl
theorem bef_65_0 : Region.before (rg Try.prog 65 0) = #[0, 1, 0, 4, 0, 16, 0, 64, 0, 0, 512, 1792, 4095, 8191] := by kernel_rfl
theorem ord_68_0 : orderOk (rg Try.prog 68 0) = true := by kernel_rfl
theorem bef_68_0 : Region.before (rg Try.prog 68 0) = #[0, 1, 0, 7, 0, 16, 0, 64, 240, 0, 0, 1536, 4080, 15, 16383] := by kernel_rfl
theorem ord_70_0 : orderOk (rg Try.prog 70 0) = true := by kernel_rfl
theorem bef_70_0 : Region.before (rg Try.prog 70 0) = #[0, 0, 2, 7, 15, 0, 0, 96, 224, 511, 1023] := by kernel_rfl
theorem ord_71_0 : orderOk (rg Try.prog 71 0) = true := by kernel_rfl
theorem bef_71_0 : Region.before (rg Try.prog 71 0) = #[0, 0, 3, 7, 15, 0, 0, 96, 224, 480, 1023, 0, 4095] := by kernel_rfl
theorem ord_71_1 : orderOk (rg Try.prog 71 1) = true := by kernel_rfl
theorem bef_71_1 : Region.before (rg Try.prog 71 1) = #[0, 0, 0, 6, 14, 30, 0, 126, 0, 511, 1023] := by kernel_rfl
theorem ord_85_0 : orderOk (rg Try.prog 85 0) = true := by kernel_rfl
theorem bef_85_0 : Region.before (rg Try.prog 85 0) = #[0, 1, 3, 7, 15, 31, 15, 79, 207, 511, 1023, 2047, 4095, 8191, 16383, 32767, 65535, 131071, 262143, 524287, 1048575, 2097151, 4194303, 8388607, 16777215, 4194303, 37748735, 134217727, 268435455, 536870911] := by kernel_rfl
theorem clones : CloneOk Try.prog cf.clone :=
  (cloneOk_cons (clone_at Try.func42 rfl rfl rfl (by kernel_rfl) (t := 24) (by kernel_rfl)) (cloneOk_cons (clone_at Try.func43 rfl rfl rfl (by kernel_rfl) (t := 25) (by kernel_rfl)) (cloneOk_cons (clone_at Try.func88 rfl rfl rfl (by kernel_rfl) (t := 63) (by kernel_rfl)) (cloneOk_nil _))))
end Ab
end Go.Proofs.Ytimcbhhebnikiaa
namespace Go.Proofs.Ytimcbhhebnikiaa
open Go Go.Proofs.Ytimcbhhebnikiaa.Ab
set_option linter.unusedVariables false
set_option linter.unusedSimpArgs false
set_option maxRecDepth 1000000
namespace Ab
noncomputable abbrev few_L0_I (l : List Ex) : St := (St.mk [((0 : Nat), (AV.sl (List.length l) (List.flatMap Ex.cells l))), ((2 : Nat), (AV.b Bool.false)), ((4 : Nat), (AV.sl (List.length l) (List.flatMap Ex.cells l))), ((5 : Nat), (AV.i (↑(List.length l) : Int))), ((6 : Nat), (AV.b (decide ((↑(List.length l) : Int) > (70 : Int))))), ((3 : Nat), (AV.i 0))] 20 (AH.mk 0 ([] : List (Prod Nat AObj))) Bool.false)
noncomputable abbrev few_L0_S (l : List Ex) (s1 : Int) : St := (St.mk [((0 : Nat), (AV.sl (List.length l) (List.flatMap Ex.cells l))), ((6 : Nat), (AV.b (decide ((↑(List.length l) : Int) > (70 : Int))))), ((3 : Nat), (AV.i s1))] 20 (AH.mk 0 ([] : List (Prod Nat AObj))) Bool.false)
noncomputable def few_L0_step (l : List Ex) (s1 : Int) : Option (Int) :=
 (tb ((decide (s1 < (↑(List.length l) : Int))))
  (tp ((((0 : Int) ≤ s1) ∧ (s1 < (↑(List.length l) : Int))))
   (tb ((decide ((↑(List.length (exAt l (Int.toNat s1)).d) : Int) > (3000 : Int))))
    none /- exit -/
    (some ((wr (s1 + (1 : Int)))))))
  none /- exit -/)
theorem few_L0_s0 (l : List Ex) (s1 : Int) (h2 : ((decide (s1 < (↑(List.length l) : Int)))) = true) (h2p : (s1 < (↑(List.length l) : Int))) (h3 : (((0 : Int) ≤ s1) ∧ (s1 < (↑(List.length l) : Int)))) (h4 : ((decide ((↑(List.length (exAt l (Int.toNat s1)).d) : Int) > (3000 : Int)))) = false) (h4p : ¬ ((↑(List.length (exAt l (Int.toNat s1)).d) : Int) > (3000 : Int))) : EvStep Try.prog cf 0 (lp Try.prog 38 0) (few_L0_S l s1) (few_L0_S l ((wr (s1 + (1 : Int))))) :=
  leafS vw_eq (k := 300) (r := []) (hs := hz [(4, [.yes]), (2, [.yes]), (1, [.yes, .val ((bys (exAt l (Int.toNat s1)).d))]), (2, [.no]), (3, [])]) (st1 := (St.mk [((0 : Nat), (AV.sl (List.length l) (List.flatMap Ex.cells l))), ((6 : Nat), (AV.b (decide ((↑(List.length l) : Int) > (70 : Int))))), ((3 : Nat), (AV.i (wr (s1 + (1 : Int))))), ((7 : Nat), (AV.i s1)), ((8 : Nat), (AV.sl (List.length l) (List.flatMap Ex.cells l))), ((9 : Nat), (AV.i (↑(List.length l) : Int))), ((10 : Nat), (AV.b (decide (s1 < (↑(List.length l) : Int))))), ((13 : Nat), (AV.sl (List.length l) (List.flatMap Ex.cells l))), ((14 : Nat), (AV.i s1)), ((15 : Nat), (AV.ip (List.drop ((Int.toNat s1) * (5 : Nat)) (List.flatMap Ex.cells l)))), ((16 : Nat), (AV.ip (List.drop 4 (List.drop ((Int.toNat s1) * (5 : Nat)) (List.flatMap Ex.cells l))))), ((17 : Nat), (AV.sl (List.length (exAt l (Int.toNat s1)).d) (List.map AV.y (exAt l (Int.toNat s1)).d))), ((18 : Nat), (AV.i (↑(List.length (exAt l (Int.toNat s1)).d) : Int))), ((19 : Nat), (AV.b (decide ((↑(List.length (exAt l (Int.toNat s1)).d) : Int) > (3000 : Int))))), ((11 : Nat), (AV.i s1)), ((12 : Nat), (AV.i (wr (s1 + (1 : Int)))))] 20 (AH.mk 0 ([] : List (Prod Nat AObj))) Bool.false)) kq (ac h2 (ac h3 (ac (fq (p := ((1 : Nat) ≤ (List.length (List.drop 4 (List.drop ((Int.toNat s1) * (5 : Nat)) (List.flatMap Ex.cells l))))))) (ac (show (List.take 1 (List.drop 4 (List.drop ((Int.toNat s1) * (5 : Nat)) (List.flatMap Ex.cells l)))) = [(bys (exAt l (Int.toNat s1)).d)] from (by first | exact ex_one _ _ _ _ bq rfl | exact ex_oneA _ _ _ _ bq rfl | (simpa using ex_one (l) ((Int.toNat s1)) 4 _ bq rfl) | ((try simp only [List.drop_drop]); rw [show ((4 : Nat) + ((Int.toNat s1) * (5 : Nat))) = ((Int.toNat s1)) * 5 + 4 by omega]; exact ex_oneA (l) ((Int.toNat s1)) 4 _ bq rfl))) (ac h4 an))))) (Nat.le_of_ble_eq_true rfl) (absB_of [] [] kq (.consn kq (.eqv tq rfl) (.consn kq (.eqv tq rfl) (.consn kq (.eqv tq rfl) .nil))) .nil)
theorem few_L0_ok (l : List Ex) (s1 zz : Int) : few_L0_step l s1 = some zz → EvStep Try.prog cf 0 (lp Try.prog 38 0) (few_L0_S l s1) (few_L0_S l zz) := by
  unfold few_L0_step
  refine tb_ok (fun h2 => ?_) (fun h2 => ?_)
  ·
    have h2p := of_decide_eq_true h2
    refine tp_ok (fun h3 => ?_)
    refine tb_ok (fun h4 => ?_) (fun h4 => ?_)
    ·
      have h4p := of_decide_eq_true h4
      exact fun e => nomatch e
    ·
      have h4p := of_decide_eq_false h4
      exact fun e => tl_ok (G := (fun zz => EvStep Try.prog cf 0 (lp Try.prog 38 0) (few_L0_S l s1) (few_L0_S l zz))) (few_L0_s0 l s1 h2 h2p h3 h4 h4p) e
  ·
    have h2p := of_decide_eq_false h2
    exact fun e => nomatch e
/-- Function 38, as it answers. -/
noncomputable def few (l : List Ex) : Option (Bool) :=
 (tb ((decide ((↑(List.length l) : Int) > (70 : Int))))
  (some (Bool.false))
  (th (few_L0_step l) ((0 : Int)) fun s1 =>
   (tb ((decide (s1 < (↑(List.length l) : Int))))
    (tp ((((0 : Int) ≤ s1) ∧ (s1 < (↑(List.length l) : Int))))
     (tb ((decide ((↑(List.length (exAt l (Int.toNat s1)).d) : Int) > (3000 : Int))))
      (some (Bool.false))
      none /- stop behind an operation -/))
    (some (Bool.true)))))
abbrev few_G (l : List Ex) (r : Bool) : Prop := EvFr Try.prog cf true 38 [exs (l)] (.b (r))
theorem few_l0 (l : List Ex) (h0 : ((decide ((↑(List.length l) : Int) > (70 : Int)))) = true) (h0p : ((↑(List.length l) : Int) > (70 : Int))) : few_G l (Bool.false) :=
  leafR vw_eq (k := 300) (r := []) (hs := hz [(4, [.yes]), (1, [])]) (raw := (AV.b Bool.false)) kq (ac h0 an) tq
theorem few_l1 (l : List Ex) (h0 : ((decide ((↑(List.length l) : Int) > (70 : Int)))) = false) (h0p : ¬ ((↑(List.length l) : Int) > (70 : Int))) (s1 : Int) (h1 : Runs (few_L0_step l) ((0 : Int)) s1) (h2 : ((decide (s1 < (↑(List.length l) : Int)))) = true) (h2p : (s1 < (↑(List.length l) : Int))) (h3 : (((0 : Int) ≤ s1) ∧ (s1 < (↑(List.length l) : Int)))) (h4 : ((decide ((↑(List.length (exAt l (Int.toNat s1)).d) : Int) > (3000 : Int)))) = true) (h4p : ((↑(List.length (exAt l (Int.toNat s1)).d) : Int) > (3000 : Int))) : few_G l (Bool.false) :=
  leafR vw_eq (k := 300) (r := []) (hs := hz [(4, [.no]), (1, [.head (few_L0_S l s1)]), (4, [.yes]), (2, [.yes]), (1, [.yes, .val ((bys (exAt l (Int.toNat s1)).d))]), (2, [.yes]), (1, [])]) (raw := (AV.b Bool.false)) kq (ac h0 (ac (show EvHead Try.prog cf (lp Try.prog 38 0) (few_L0_I l) (few_L0_S l s1) from (EvHead.of (few_L0_ok l) (absB_of [] [] kq (.consn kq (.eqv tq rfl) (.consn kq (.eqv tq rfl) (.consn kq (.eqv tq rfl) .nil))) .nil) h1)) (ac h2 (ac h3 (ac (fq (p := ((1 : Nat) ≤ (List.length (List.drop 4 (List.drop ((Int.toNat s1) * (5 : Nat)) (List.flatMap Ex.cells l))))))) (ac (show (List.take 1 (List.drop 4 (List.drop ((Int.toNat s1) * (5 : Nat)) (List.flatMap Ex.cells l)))) = [(bys (exAt l (Int.toNat s1)).d)] from (by first | exact ex_one _ _ _ _ bq rfl | exact ex_oneA _ _ _ _ bq rfl | (simpa using ex_one (l) ((Int.toNat s1)) 4 _ bq rfl) | ((try simp only [List.drop_drop]); rw [show ((4 : Nat) + ((Int.toNat s1) * (5 : Nat))) = ((Int.toNat s1)) * 5 + 4 by omega]; exact ex_oneA (l) ((Int.toNat s1)) 4 _ bq rfl))) (ac h4 an))))))) tq
theorem few_l2 (l : List Ex) (h0 : ((decide ((↑(List.length l) : Int) > (70 : Int)))) = false) (h0p : ¬ ((↑(List.length l) : Int) > (70 : Int))) (s1 : Int) (h1 : Runs (few_L0_step l) ((0 : Int)) s1) (h2 : ((decide (s1 < (↑(List.length l) : Int)))) = false) (h2p : ¬ (s1 < (↑(List.length l) : Int))) : few_G l (Bool.true) :=
  leafR vw_eq (k := 300) (r := []) (hs := hz [(4, [.no]), (1, [.head (few_L0_S l s1)]), (4, [.no]), (1, [])]) (raw := (AV.b Bool.true)) kq (ac h0 (ac (show EvHead Try.prog cf (lp Try.prog 38 0) (few_L0_I l) (few_L0_S l s1) from (EvHead.of (few_L0_ok l) (absB_of [] [] kq (.consn kq (.eqv tq rfl) (.consn kq (.eqv tq rfl) (.consn kq (.eqv tq rfl) .nil))) .nil) h1)) (ac h2 an))) tq
theorem few_ok (l : List Ex) (r : Bool) : few l = some r → few_G l r := by
  unfold few
  refine tb_ok (fun h0 => ?_) (fun h0 => ?_)
  ·
    have h0p := of_decide_eq_true h0
    exact fun e => tl_ok (G := few_G l) (few_l0 l h0 h0p) e
  ·
    have h0p := of_decide_eq_false h0
    refine th_ok (fun s1 h1 => ?_)
    refine tb_ok (fun h2 => ?_) (fun h2 => ?_)
    ·
      have h2p := of_decide_eq_true h2
      refine tp_ok (fun h3 => ?_)
      refine tb_ok (fun h4 => ?_) (fun h4 => ?_)
      ·
        have h4p := of_decide_eq_true h4
        exact fun e => tl_ok (G := few_G l) (few_l1 l h0 h0p s1 h1 h2 h2p h3 h4 h4p) e
      ·
        have h4p := of_decide_eq_false h4
        exact fun e => nomatch e
    ·
      have h2p := of_decide_eq_false h2
      exact fun e => tl_ok (G := few_G l) (few_l2 l h0 h0p s1 h1 h2 h2p) e
/-- Function 46, as it answers. -/
noncomputable def sWithin (n : Int) (low : Int) (high : Int) : Option (Bool) :=
 (tb ((decide (n ≥ low)))
  (some ((decide (n ≤ high))))
  (some (Bool.false)))
abbrev sWithin_G (n : Int) (low : Int) (high : Int) (r : Bool) : Prop := EvFr Try.prog cf true 46 [.i (n), .i (low), .i (high)] (.b (r))
theorem sWithin_l0 (n : Int) (low : Int) (high : Int) (h0 : ((decide (n ≥ low))) = true) (h0p : (n ≥ low)) : sWithin_G n low high ((decide (n ≤ high))) :=
  leafR vw_eq (k := 300) (r := []) (hs := hz [(5, [.yes]), (1, [.yes]), (1, [.yes]), (1, [.yes]), (1, [])]) (raw := (AV.b (decide (n ≤ high)))) kq (ac h0 (ac h0 (ac h0 (ac h0 an)))) tq
theorem sWithin_l1 (n : Int) (low : Int) (high : Int) (h0 : ((decide (n ≥ low))) = false) (h0p : ¬ (n ≥ low)) : sWithin_G n low high (Bool.false) :=
  leafR vw_eq (k := 300) (r := []) (hs := hz [(5, [.no, .no, .no, .no]), (1, [])]) (raw := (AV.b Bool.false)) kq (ac h0 (ac h0 (ac h0 (ac h0 an)))) tq
theorem sWithin_ok (n : Int) (low : Int) (high : Int) (r : Bool) : sWithin n low high = some r → sWithin_G n low high r := by
  unfold sWithin
  refine tb_ok (fun h0 => ?_) (fun h0 => ?_)
  ·
    have h0p := of_decide_eq_true h0
    exact fun e => tl_ok (G := sWithin_G n low high) (sWithin_l0 n low high h0 h0p) e
  ·
    have h0p := of_decide_eq_false h0
    exact fun e => tl_ok (G := sWithin_G n low high) (sWithin_l1 n low high h0 h0p) e
/-- Function 85, as it answers. -/
noncomputable def eCheck (x : Ex) : Option (Bool) :=
 (tb ((decide (x.lba ≥ (0 : Int))))
  (tb ((decide (x.lba ≤ (64 : Int))))
   (tb ((decide (x.len ≥ (1 : Int))))
    (tb ((decide (x.len ≤ (wr ((64 : Int) - x.lba)))))
     (tb ((decide (x.kind ≥ (0 : Int))))
      (tb ((decide (x.kind ≤ (2 : Int))))
       (tb ((decide (x.gen ≥ (0 : Int))))
        (tb ((decide (x.gen ≤ (2147483647 : Int))))
         (tb ((x.kind == (2 : Int)))
          (some (((↑(List.length x.d) : Int) == (wr (x.len * (32 : Int))))))
          (some (((↑(List.length x.d) : Int) == (0 : Int)))))
         (some (Bool.false)))
        (some (Bool.false)))
       (some (Bool.false)))
      (some (Bool.false)))
     (some (Bool.false)))
    (some (Bool.false)))
   (some (Bool.false)))
  (some (Bool.false)))
abbrev eCheck_G (x : Ex) (r : Bool) : Prop := EvFr Try.prog cf true 85 [Ex.av (x)] (.b (r))
theorem eCheck_l0 (x : Ex) (h0 : ((decide (x.lba ≥ (0 : Int)))) = true) (h0p : (x.lba ≥ (0 : Int))) (h1 : ((decide (x.lba ≤ (64 : Int)))) = true) (h1p : (x.lba ≤ (64 : Int))) (h2 : ((decide (x.len ≥ (1 : Int)))) = true) (h2p : (x.len ≥ (1 : Int))) (h3 : ((decide (x.len ≤ (wr ((64 : Int) - x.lba))))) = true) (h3p : (x.len ≤ (wr ((64 : Int) - x.lba)))) (h4 : ((decide (x.kind ≥ (0 : Int)))) = true) (h4p : (x.kind ≥ (0 : Int))) (h5 : ((decide (x.kind ≤ (2 : Int)))) = true) (h5p : (x.kind ≤ (2 : Int))) (h6 : ((decide (x.gen ≥ (0 : Int)))) = true) (h6p : (x.gen ≥ (0 : Int))) (h7 : ((decide (x.gen ≤ (2147483647 : Int)))) = true) (h7p : (x.gen ≤ (2147483647 : Int))) (h8 : ((x.kind == (2 : Int))) = true) (h8p : (x.kind = (2 : Int))) : eCheck_G x (((↑(List.length x.d) : Int) == (wr (x.len * (32 : Int))))) :=
  leafR vw_eq (k := 300) (r := []) (hs := hz [(12, [.yes]), (1, [.yes]), (1, [.yes]), (1, [.yes]), (2, [.yes]), (1, [.yes]), (2, [.yes]), (1, [.yes]), (2, [.yes]), (1, [.yes]), (7, [.yes]), (1, [.yes]), (1, [.yes]), (1, [.yes]), (1, [.yes]), (1, [.yes]), (1, [.yes]), (2, [.yes]), (7, [.yes]), (1, [.yes]), (1, [.yes]), (1, [.yes]), (1, [.yes]), (1, [.yes]), (1, [.yes]), (2, [.yes]), (7, [.yes]), (1, [.yes]), (1, [.yes]), (1, [.yes]), (1, [.yes]), (1, [.yes]), (1, [.yes]), (2, [.yes]), (1, [.yes]), (1, [.cells ([(AV.i x.lba), (AV.i x.len), (AV.i x.kind), (AV.i x.gen), (AV.sl (List.length x.d) (List.map AV.y x.d))]), .yes]), (8, [.yes]), (5, [.yes]), (1, [.yes]), (1, [.yes])]) (raw := (AV.b ((↑(List.length x.d) : Int) == (wr (x.len * (32 : Int)))))) kq (ac h0 (ac h0 (ac h0 (ac h0 (ac h1 (ac h1 (ac h1 (ac h1 (ac h1 (ac h1 (ac h2 (ac h2 (ac h2 (ac h2 (ac h1 (ac h3 (ac h3 (ac h3 (ac h4 (ac h4 (ac h4 (ac h4 (ac h3 (ac h5 (ac h5 (ac h5 (ac h6 (ac h6 (ac h6 (ac h6 (ac h5 (ac h7 (ac h7 (ac h7 (ac h7 (ac (Eq.refl ([(AV.i x.lba), (AV.i x.len), (AV.i x.kind), (AV.i x.gen), (AV.sl (List.length x.d) (List.map AV.y x.d))] : List AV)) (ac h7 (ac h8 (ac h7 (ac h7 (ac (show orderOk (rg Try.prog 85 0) = true ∧ allOk (Region.before (rg Try.prog 85 0)) [] 0 [(some [], some []), (some [0], some []), (some [], some []), (some [], some []), (some [], some []), (some [0], some []), (some [], some []), (some [0], some []), (some [], some []), (some [], some []), (some [], some []), (some [], some []), (some [], some []), (some [0], some []), (some [], some []), (some [], some []), (some [], some []), (some [], some []), (some [0], some []), (some [], some []), (some [], some []), (some [], some []), (some [], some []), (some [0], some []), (some [], some []), (some [0], some []), (some [], some []), (some [], some []), (some [], some []), (some [], some [])] = true from (ord_of ord_85_0 bef_85_0 kq)) an))))))))))))))))))))))))))))))))))))))))) tq
theorem eCheck_l1 (x : Ex) (h0 : ((decide (x.lba ≥ (0 : Int)))) = true) (h0p : (x.lba ≥ (0 : Int))) (h1 : ((decide (x.lba ≤ (64 : Int)))) = true) (h1p : (x.lba ≤ (64 : Int))) (h2 : ((decide (x.len ≥ (1 : Int)))) = true) (h2p : (x.len ≥ (1 : Int))) (h3 : ((decide (x.len ≤ (wr ((64 : Int) - x.lba))))) = true) (h3p : (x.len ≤ (wr ((64 : Int) - x.lba)))) (h4 : ((decide (x.kind ≥ (0 : Int)))) = true) (h4p : (x.kind ≥ (0 : Int))) (h5 : ((decide (x.kind ≤ (2 : Int)))) = true) (h5p : (x.kind ≤ (2 : Int))) (h6 : ((decide (x.gen ≥ (0 : Int)))) = true) (h6p : (x.gen ≥ (0 : Int))) (h7 : ((decide (x.gen ≤ (2147483647 : Int)))) = true) (h7p : (x.gen ≤ (2147483647 : Int))) (h8 : ((x.kind == (2 : Int))) = false) (h8p : ¬ (x.kind = (2 : Int))) : eCheck_G x (((↑(List.length x.d) : Int) == (0 : Int))) :=
  leafR vw_eq (k := 300) (r := []) (hs := hz [(12, [.yes]), (1, [.yes]), (1, [.yes]), (1, [.yes]), (2, [.yes]), (1, [.yes]), (2, [.yes]), (1, [.yes]), (2, [.yes]), (1, [.yes]), (7, [.yes]), (1, [.yes]), (1, [.yes]), (1, [.yes]), (1, [.yes]), (1, [.yes]), (1, [.yes]), (2, [.yes]), (7, [.yes]), (1, [.yes]), (1, [.yes]), (1, [.yes]), (1, [.yes]), (1, [.yes]), (1, [.yes]), (2, [.yes]), (7, [.yes]), (1, [.yes]), (1, [.yes]), (1, [.yes]), (1, [.yes]), (1, [.yes]), (1, [.yes]), (2, [.yes]), (1, [.yes]), (1, [.cells ([(AV.i x.lba), (AV.i x.len), (AV.i x.kind), (AV.i x.gen), (AV.sl (List.length x.d) (List.map AV.y x.d))]), .yes]), (8, [.no]), (1, [.yes]), (1, [.yes]), (1, [.yes])]) (raw := (AV.b ((↑(List.length x.d) : Int) == (0 : Int)))) kq (ac h0 (ac h0 (ac h0 (ac h0 (ac h1 (ac h1 (ac h1 (ac h1 (ac h1 (ac h1 (ac h2 (ac h2 (ac h2 (ac h2 (ac h1 (ac h3 (ac h3 (ac h3 (ac h4 (ac h4 (ac h4 (ac h4 (ac h3 (ac h5 (ac h5 (ac h5 (ac h6 (ac h6 (ac h6 (ac h6 (ac h5 (ac h7 (ac h7 (ac h7 (ac h7 (ac (Eq.refl ([(AV.i x.lba), (AV.i x.len), (AV.i x.kind), (AV.i x.gen), (AV.sl (List.length x.d) (List.map AV.y x.d))] : List AV)) (ac h7 (ac h8 (ac h7 (ac h7 (ac (show orderOk (rg Try.prog 85 0) = true ∧ allOk (Region.before (rg Try.prog 85 0)) [] 0 [(some [], some []), (some [0], some []), (some [], some []), (some [], some []), (some [], some []), (some [0], some []), (some [], some []), (some [0], some []), (some [], some []), (some [], some []), (some [], some []), (some [], some []), (some [], some []), (some [0], some []), (some [], some []), (some [], some []), (some [], some []), (some [], some []), (some [0], some []), (some [], some []), (some [], some []), (some [], some []), (some [], some []), (some [0], some []), (some [], some []), (some [0], some []), (some [], some []), (some [], some []), (some [], some []), (some [], some [])] = true from (ord_of ord_85_0 bef_85_0 kq)) an))))))))))))))))))))))))))))))))))))))))) tq
theorem eCheck_l2 (x : Ex) (h0 : ((decide (x.lba ≥ (0 : Int)))) = true) (h0p : (x.lba ≥ (0 : Int))) (h1 : ((decide (x.lba ≤ (64 : Int)))) = true) (h1p : (x.lba ≤ (64 : Int))) (h2 : ((decide (x.len ≥ (1 : Int)))) = true) (h2p : (x.len ≥ (1 : Int))) (h3 : ((decide (x.len ≤ (wr ((64 : Int) - x.lba))))) = true) (h3p : (x.len ≤ (wr ((64 : Int) - x.lba)))) (h4 : ((decide (x.kind ≥ (0 : Int)))) = true) (h4p : (x.kind ≥ (0 : Int))) (h5 : ((decide (x.kind ≤ (2 : Int)))) = true) (h5p : (x.kind ≤ (2 : Int))) (h6 : ((decide (x.gen ≥ (0 : Int)))) = true) (h6p : (x.gen ≥ (0 : Int))) (h7 : ((decide (x.gen ≤ (2147483647 : Int)))) = false) (h7p : ¬ (x.gen ≤ (2147483647 : Int))) : eCheck_G x (Bool.false) :=
  leafR vw_eq (k := 300) (r := []) (hs := hz [(12, [.yes]), (1, [.yes]), (1, [.yes]), (1, [.yes]), (2, [.yes]), (1, [.yes]), (2, [.yes]), (1, [.yes]), (2, [.yes]), (1, [.yes]), (7, [.yes]), (1, [.yes]), (1, [.yes]), (1, [.yes]), (1, [.yes]), (1, [.yes]), (1, [.yes]), (2, [.yes]), (7, [.yes]), (1, [.yes]), (1, [.yes]), (1, [.yes]), (1, [.yes]), (1, [.yes]), (1, [.yes]), (2, [.yes]), (7, [.yes]), (1, [.yes]), (1, [.yes]), (1, [.yes]), (1, [.yes]), (1, [.no, .no, .no, .no, .no, .no, .no]), (1, [.yes])]) (raw := (AV.b Bool.false)) kq (ac h0 (ac h0 (ac h0 (ac h0 (ac h1 (ac h1 (ac h1 (ac h1 (ac h1 (ac h1 (ac h2 (ac h2 (ac h2 (ac h2 (ac h1 (ac h3 (ac h3 (ac h3 (ac h4 (ac h4 (ac h4 (ac h4 (ac h3 (ac h5 (ac h5 (ac h5 (ac h6 (ac h6 (ac h6 (ac h6 (ac h5 (ac h7 (ac h7 (ac h7 (ac h7 (ac h7 (ac h7 (ac h7 (ac (show orderOk (rg Try.prog 85 0) = true ∧ allOk (Region.before (rg Try.prog 85 0)) [] 0 [(some [], some []), (some [0], some []), (some [], some []), (some [], some []), (some [], some []), (some [0], some []), (some [], some []), (some [0], some []), (some [], some []), (some [], some []), (some [], some []), (some [], some []), (some [], some []), (some [0], some []), (some [], some []), (some [], some []), (some [], some []), (some [], some []), (some [0], some []), (some [], some []), (some [], some []), (some [], some []), (some [], some []), (some [], some []), (some [], some []), (some [], some []), (some [], some []), (some [], some []), (some [], some []), (some [], some [])] = true from (ord_of ord_85_0 bef_85_0 kq)) an))))))))))))))))))))))))))))))))))))))) tq
theorem eCheck_l3 (x : Ex) (h0 : ((decide (x.lba ≥ (0 : Int)))) = true) (h0p : (x.lba ≥ (0 : Int))) (h1 : ((decide (x.lba ≤ (64 : Int)))) = true) (h1p : (x.lba ≤ (64 : Int))) (h2 : ((decide (x.len ≥ (1 : Int)))) = true) (h2p : (x.len ≥ (1 : Int))) (h3 : ((decide (x.len ≤ (wr ((64 : Int) - x.lba))))) = true) (h3p : (x.len ≤ (wr ((64 : Int) - x.lba)))) (h4 : ((decide (x.kind ≥ (0 : Int)))) = true) (h4p : (x.kind ≥ (0 : Int))) (h5 : ((decide (x.kind ≤ (2 : Int)))) = true) (h5p : (x.kind ≤ (2 : Int))) (h6 : ((decide (x.gen ≥ (0 : Int)))) = false) (h6p : ¬ (x.gen ≥ (0 : Int))) : eCheck_G x (Bool.false) :=
  leafR vw_eq (k := 300) (r := []) (hs := hz [(12, [.yes]), (1, [.yes]), (1, [.yes]), (1, [.yes]), (2, [.yes]), (1, [.yes]), (2, [.yes]), (1, [.yes]), (2, [.yes]), (1, [.yes]), (7, [.yes]), (1, [.yes]), (1, [.yes]), (1, [.yes]), (1, [.yes]), (1, [.yes]), (1, [.yes]), (2, [.yes]), (7, [.yes]), (1, [.yes]), (1, [.yes]), (1, [.yes]), (1, [.yes]), (1, [.yes]), (1, [.yes]), (2, [.yes]), (7, [.no, .no, .no, .no]), (1, [.yes]), (9, [.yes])]) (raw := (AV.b Bool.false)) kq (ac h0 (ac h0 (ac h0 (ac h0 (ac h1 (ac h1 (ac h1 (ac h1 (ac h1 (ac h1 (ac h2 (ac h2 (ac h2 (ac h2 (ac h1 (ac h3 (ac h3 (ac h3 (ac h4 (ac h4 (ac h4 (ac h4 (ac h3 (ac h5 (ac h5 (ac h5 (ac h6 (ac h6 (ac h6 (ac h6 (ac h5 (ac (show orderOk (rg Try.prog 85 0) = true ∧ allOk (Region.before (rg Try.prog 85 0)) [] 0 [(some [], some []), (some [0], some []), (some [], some []), (some [], some []), (some [], some []), (some [0], some []), (some [], some []), (some [0], some []), (some [], some []), (some [], some []), (some [], some []), (some [], some []), (some [], some []), (some [0], some []), (some [], some []), (some [], some []), (some [], some []), (some [], some []), (some [0], some []), (some [], some []), (some [], some []), (some [], some []), (some [], some []), (some [], some []), (some [], some []), (some [], some []), (some [], some []), (some [], some []), (some [], some []), (some [], some [])] = true from (ord_of ord_85_0 bef_85_0 kq)) an)))))))))))))))))))))))))))))))) tq
theorem eCheck_l4 (x : Ex) (h0 : ((decide (x.lba ≥ (0 : Int)))) = true) (h0p : (x.lba ≥ (0 : Int))) (h1 : ((decide (x.lba ≤ (64 : Int)))) = true) (h1p : (x.lba ≤ (64 : Int))) (h2 : ((decide (x.len ≥ (1 : Int)))) = true) (h2p : (x.len ≥ (1 : Int))) (h3 : ((decide (x.len ≤ (wr ((64 : Int) - x.lba))))) = true) (h3p : (x.len ≤ (wr ((64 : Int) - x.lba)))) (h4 : ((decide (x.kind ≥ (0 : Int)))) = true) (h4p : (x.kind ≥ (0 : Int))) (h5 : ((decide (x.kind ≤ (2 : Int)))) = false) (h5p : ¬ (x.kind ≤ (2 : Int))) : eCheck_G x (Bool.false) :=
  leafR vw_eq (k := 300) (r := []) (hs := hz [(12, [.yes]), (1, [.yes]), (1, [.yes]), (1, [.yes]), (2, [.yes]), (1, [.yes]), (2, [.yes]), (1, [.yes]), (2, [.yes]), (1, [.yes]), (7, [.yes]), (1, [.yes]), (1, [.yes]), (1, [.yes]), (1, [.yes]), (1, [.yes]), (1, [.yes]), (2, [.yes]), (7, [.yes]), (1, [.yes]), (1, [.yes]), (1, [.yes]), (1, [.yes]), (1, [.no, .no, .no, .no]), (9, [.yes])]) (raw := (AV.b Bool.false)) kq (ac h0 (ac h0 (ac h0 (ac h0 (ac h1 (ac h1 (ac h1 (ac h1 (ac h1 (ac h1 (ac h2 (ac h2 (ac h2 (ac h2 (ac h1 (ac h3 (ac h3 (ac h3 (ac h4 (ac h4 (ac h4 (ac h4 (ac h3 (ac h5 (ac h5 (ac h5 (ac h5 (ac (show orderOk (rg Try.prog 85 0) = true ∧ allOk (Region.before (rg Try.prog 85 0)) [] 0 [(some [], some []), (some [0], some []), (some [], some []), (some [], some []), (some [], some []), (some [0], some []), (some [], some []), (some [0], some []), (some [], some []), (some [], some []), (some [], some []), (some [], some []), (some [], some []), (some [0], some []), (some [], some []), (some [], some []), (some [], some []), (some [], some []), (some [], some []), (some [], some []), (some [], some []), (some [], some []), (some [], some []), (some [], some []), (some [], some []), (some [], some []), (some [], some []), (some [], some []), (some [], some []), (some [], some [])] = true from (ord_of ord_85_0 bef_85_0 kq)) an)))))))))))))))))))))))))))) tq
theorem eCheck_l5 (x : Ex) (h0 : ((decide (x.lba ≥ (0 : Int)))) = true) (h0p : (x.lba ≥ (0 : Int))) (h1 : ((decide (x.lba ≤ (64 : Int)))) = true) (h1p : (x.lba ≤ (64 : Int))) (h2 : ((decide (x.len ≥ (1 : Int)))) = true) (h2p : (x.len ≥ (1 : Int))) (h3 : ((decide (x.len ≤ (wr ((64 : Int) - x.lba))))) = true) (h3p : (x.len ≤ (wr ((64 : Int) - x.lba)))) (h4 : ((decide (x.kind ≥ (0 : Int)))) = false) (h4p : ¬ (x.kind ≥ (0 : Int))) : eCheck_G x (Bool.false) :=
  leafR vw_eq (k := 300) (r := []) (hs := hz [(12, [.yes]), (1, [.yes]), (1, [.yes]), (1, [.yes]), (2, [.yes]), (1, [.yes]), (2, [.yes]), (1, [.yes]), (2, [.yes]), (1, [.yes]), (7, [.yes]), (1, [.yes]), (1, [.yes]), (1, [.yes]), (1, [.yes]), (1, [.yes]), (1, [.yes]), (2, [.yes]), (7, [.no, .no, .no, .no]), (1, [.yes]), (14, [.yes])]) (raw := (AV.b Bool.false)) kq (ac h0 (ac h0 (ac h0 (ac h0 (ac h1 (ac h1 (ac h1 (ac h1 (ac h1 (ac h1 (ac h2 (ac h2 (ac h2 (ac h2 (ac h1 (ac h3 (ac h3 (ac h3 (ac h4 (ac h4 (ac h4 (ac h4 (ac h3 (ac (show orderOk (rg Try.prog 85 0) = true ∧ allOk (Region.before (rg Try.prog 85 0)) [] 0 [(some [], some []), (some [0], some []), (some [], some []), (some [], some []), (some [], some []), (some [0], some []), (some [], some []), (some [0], some []), (some [], some []), (some [], some []), (some [], some []), (some [], some []), (some [], some []), (some [0], some []), (some [], some []), (some [], some []), (some [], some []), (some [], some []), (some [], some []), (some [], some []), (some [], some []), (some [], some []), (some [], some []), (some [], some []), (some [], some []), (some [], some []), (some [], some []), (some [], some []), (some [], some []), (some [], some [])] = true from (ord_of ord_85_0 bef_85_0 kq)) an)))))))))))))))))))))))) tq
theorem eCheck_l6 (x : Ex) (h0 : ((decide (x.lba ≥ (0 : Int)))) = true) (h0p : (x.lba ≥ (0 : Int))) (h1 : ((decide (x.lba ≤ (64 : Int)))) = true) (h1p : (x.lba ≤ (64 : Int))) (h2 : ((decide (x.len ≥ (1 : Int)))) = true) (h2p : (x.len ≥ (1 : Int))) (h3 : ((decide (x.len ≤ (wr ((64 : Int) - x.lba))))) = false) (h3p : ¬ (x.len ≤ (wr ((64 : Int) - x.lba)))) : eCheck_G x (Bool.false) :=
  leafR vw_eq (k := 300) (r := []) (hs := hz [(12, [.yes]), (1, [.yes]), (1, [.yes]), (1, [.yes]), (2, [.yes]), (1, [.yes]), (2, [.yes]), (1, [.yes]), (2, [.yes]), (1, [.yes]), (7, [.yes]), (1, [.yes]), (1, [.yes]), (1, [.yes]), (1, [.yes]), (1, [.no, .no, .no, .no]), (14, [.yes])]) (raw := (AV.b Bool.false)) kq (ac h0 (ac h0 (ac h0 (ac h0 (ac h1 (ac h1 (ac h1 (ac h1 (ac h1 (ac h1 (ac h2 (ac h2 (ac h2 (ac h2 (ac h1 (ac h3 (ac h3 (ac h3 (ac h3 (ac (show orderOk (rg Try.prog 85 0) = true ∧ allOk (Region.before (rg Try.prog 85 0)) [] 0 [(some [], some []), (some [0], some []), (some [], some []), (some [], some []), (some [], some []), (some [0], some []), (some [], some []), (some [0], some []), (some [], some []), (some [], some []), (some [], some []), (some [], some []), (some [], some []), (some [], some []), (some [], some []), (some [], some []), (some [], some []), (some [], some []), (some [], some []), (some [], some []), (some [], some []), (some [], some []), (some [], some []), (some [], some []), (some [], some []), (some [], some []), (some [], some []), (some [], some []), (some [], some []), (some [], some [])] = true from (ord_of ord_85_0 bef_85_0 kq)) an)))))))))))))))))))) tq
theorem eCheck_l7 (x : Ex) (h0 : ((decide (x.lba ≥ (0 : Int)))) = true) (h0p : (x.lba ≥ (0 : Int))) (h1 : ((decide (x.lba ≤ (64 : Int)))) = true) (h1p : (x.lba ≤ (64 : Int))) (h2 : ((decide (x.len ≥ (1 : Int)))) = false) (h2p : ¬ (x.len ≥ (1 : Int))) : eCheck_G x (Bool.false) :=
  leafR vw_eq (k := 300) (r := []) (hs := hz [(12, [.yes]), (1, [.yes]), (1, [.yes]), (1, [.yes]), (2, [.yes]), (1, [.yes]), (2, [.yes]), (1, [.yes]), (2, [.yes]), (1, [.yes]), (7, [.no, .no, .no, .no]), (1, [.yes]), (19, [.yes])]) (raw := (AV.b Bool.false)) kq (ac h0 (ac h0 (ac h0 (ac h0 (ac h1 (ac h1 (ac h1 (ac h1 (ac h1 (ac h1 (ac h2 (ac h2 (ac h2 (ac h2 (ac h1 (ac (show orderOk (rg Try.prog 85 0) = true ∧ allOk (Region.before (rg Try.prog 85 0)) [] 0 [(some [], some []), (some [0], some []), (some [], some []), (some [], some []), (some [], some []), (some [0], some []), (some [], some []), (some [0], some []), (some [], some []), (some [], some []), (some [], some []), (some [], some []), (some [], some []), (some [], some []), (some [], some []), (some [], some []), (some [], some []), (some [], some []), (some [], some []), (some [], some []), (some [], some []), (some [], some []), (some [], some []), (some [], some []), (some [], some []), (some [], some []), (some [], some []), (some [], some []), (some [], some []), (some [], some [])] = true from (ord_of ord_85_0 bef_85_0 kq)) an)))))))))))))))) tq
theorem eCheck_l8 (x : Ex) (h0 : ((decide (x.lba ≥ (0 : Int)))) = true) (h0p : (x.lba ≥ (0 : Int))) (h1 : ((decide (x.lba ≤ (64 : Int)))) = false) (h1p : ¬ (x.lba ≤ (64 : Int))) : eCheck_G x (Bool.false) :=
  leafR vw_eq (k := 300) (r := []) (hs := hz [(12, [.yes]), (1, [.yes]), (1, [.yes]), (1, [.yes]), (2, [.no, .no, .no, .no, .no, .no, .no]), (19, [.yes])]) (raw := (AV.b Bool.false)) kq (ac h0 (ac h0 (ac h0 (ac h0 (ac h1 (ac h1 (ac h1 (ac h1 (ac h1 (ac h1 (ac h1 (ac (show orderOk (rg Try.prog 85 0) = true ∧ allOk (Region.before (rg Try.prog 85 0)) [] 0 [(some [], some []), (some [0], some []), (some [], some []), (some [], some []), (some [], some []), (some [], some []), (some [], some []), (some [], some []), (some [], some []), (some [], some []), (some [], some []), (some [], some []), (some [], some []), (some [], some []), (some [], some []), (some [], some []), (some [], some []), (some [], some []), (some [], some []), (some [], some []), (some [], some []), (some [], some []), (some [], some []), (some [], some []), (some [], some []), (some [], some []), (some [], some []), (some [], some []), (some [], some []), (some [], some [])] = true from (ord_of ord_85_0 bef_85_0 kq)) an)))))))))))) tq
theorem eCheck_l9 (x : Ex) (h0 : ((decide (x.lba ≥ (0 : Int)))) = false) (h0p : ¬ (x.lba ≥ (0 : Int))) : eCheck_G x (Bool.false) :=
  leafR vw_eq (k := 300) (r := []) (hs := hz [(12, [.no, .no, .no, .no]), (28, [.yes])]) (raw := (AV.b Bool.false)) kq (ac h0 (ac h0 (ac h0 (ac h0 (ac (show orderOk (rg Try.prog 85 0) = true ∧ allOk (Region.before (rg Try.prog 85 0)) [] 0 [(some [], some []), (some [0], some []), (some [], some []), (some [], some []), (some [], some []), (some [], some []), (some [], some []), (some [], some []), (some [], some []), (some [], some []), (some [], some []), (some [], some []), (some [], some []), (some [], some []), (some [], some []), (some [], some []), (some [], some []), (some [], some []), (some [], some []), (some [], some []), (some [], some []), (some [], some []), (some [], some []), (some [], some []), (some [], some []), (some [], some []), (some [], some []), (some [], some []), (some [], some []), (some [], some [])] = true from (ord_of ord_85_0 bef_85_0 kq)) an))))) tq
theorem eCheck_ok (x : Ex) (r : Bool) : eCheck x = some r → eCheck_G x r := by
  unfold eCheck
  refine tb_ok (fun h0 => ?_) (fun h0 => ?_)
  ·
    have h0p := of_decide_eq_true h0
    refine tb_ok (fun h1 => ?_) (fun h1 => ?_)
    ·
      have h1p := of_decide_eq_true h1
      refine tb_ok (fun h2 => ?_) (fun h2 => ?_)
      ·
        have h2p := of_decide_eq_true h2
        refine tb_ok (fun h3 => ?_) (fun h3 => ?_)
        ·
          have h3p := of_decide_eq_true h3
          refine tb_ok (fun h4 => ?_) (fun h4 => ?_)
          ·
            have h4p := of_decide_eq_true h4
            refine tb_ok (fun h5 => ?_) (fun h5 => ?_)
            ·
              have h5p := of_decide_eq_true h5
              refine tb_ok (fun h6 => ?_) (fun h6 => ?_)
              ·
                have h6p := of_decide_eq_true h6
                refine tb_ok (fun h7 => ?_) (fun h7 => ?_)
                ·
                  have h7p := of_decide_eq_true h7
                  refine tb_ok (fun h8 => ?_) (fun h8 => ?_)
                  ·
                    have h8p := eq_of_beq h8
                    exact fun e => tl_ok (G := eCheck_G x) (eCheck_l0 x h0 h0p h1 h1p h2 h2p h3 h3p h4 h4p h5 h5p h6 h6p h7 h7p h8 h8p) e
                  ·
                    have h8p := ne_of_beq_false h8
                    exact fun e => tl_ok (G := eCheck_G x) (eCheck_l1 x h0 h0p h1 h1p h2 h2p h3 h3p h4 h4p h5 h5p h6 h6p h7 h7p h8 h8p) e
                ·
                  have h7p := of_decide_eq_false h7
                  exact fun e => tl_ok (G := eCheck_G x) (eCheck_l2 x h0 h0p h1 h1p h2 h2p h3 h3p h4 h4p h5 h5p h6 h6p h7 h7p) e
              ·
                have h6p := of_decide_eq_false h6
                exact fun e => tl_ok (G := eCheck_G x) (eCheck_l3 x h0 h0p h1 h1p h2 h2p h3 h3p h4 h4p h5 h5p h6 h6p) e
            ·
              have h5p := of_decide_eq_false h5
              exact fun e => tl_ok (G := eCheck_G x) (eCheck_l4 x h0 h0p h1 h1p h2 h2p h3 h3p h4 h4p h5 h5p) e
          ·
            have h4p := of_decide_eq_false h4
            exact fun e => tl_ok (G := eCheck_G x) (eCheck_l5 x h0 h0p h1 h1p h2 h2p h3 h3p h4 h4p) e
        ·
          have h3p := of_decide_eq_false h3
          exact fun e => tl_ok (G := eCheck_G x) (eCheck_l6 x h0 h0p h1 h1p h2 h2p h3 h3p) e
      ·
        have h2p := of_decide_eq_false h2
        exact fun e => tl_ok (G := eCheck_G x) (eCheck_l7 x h0 h0p h1 h1p h2 h2p) e
    ·
      have h1p := of_decide_eq_false h1
      exact fun e => tl_ok (G := eCheck_G x) (eCheck_l8 x h0 h0p h1 h1p) e
  ·
    have h0p := of_decide_eq_false h0
    exact fun e => tl_ok (G := eCheck_G x) (eCheck_l9 x h0 h0p) e
/-- Function 86, as it answers. -/
noncomputable def eJoins (a : Ex) (b : Ex) : Option (Bool) :=
 (tc (eCheck (a)) fun s0 =>
  (tb (s0)
   (tc (eCheck (b)) fun s2 =>
    (tb (s2)
     (tb (((wr (a.lba + a.len)) == b.lba))
      (tb ((a.kind == b.kind))
       (some ((a.gen == b.gen)))
       (some (Bool.false)))
      (some (Bool.false)))
     (some (Bool.false))))
   (some (Bool.false))))
abbrev eJoins_G (a : Ex) (b : Ex) (r : Bool) : Prop := EvFr Try.prog cf true 86 [Ex.av (a), Ex.av (b)] (.b (r))
theorem eJoins_l0 (a : Ex) (b : Ex) (s0 : Bool) (h0 : eCheck (a) = some s0) (h1 : (s0) = true) (s2 : Bool) (h2 : eCheck (b) = some s2) (h3 : (s2) = true) (h4 : (((wr (a.lba + a.len)) == b.lba)) = true) (h4p : ((wr (a.lba + a.len)) = b.lba)) (h5 : ((a.kind == b.kind)) = true) (h5p : (a.kind = b.kind)) : eJoins_G a b ((a.gen == b.gen)) :=
  leafR vw_eq (k := 300) (r := []) (hs := hz [(4, [.cells ([(AV.i a.lba), (AV.i a.len), (AV.i a.kind), (AV.i a.gen), (AV.sl (List.length a.d) (List.map AV.y a.d))])]), (1, [.fres (.b (s0))]), (1, [.yes]), (1, [.cells ([(AV.i b.lba), (AV.i b.len), (AV.i b.kind), (AV.i b.gen), (AV.sl (List.length b.d) (List.map AV.y b.d))]), .yes]), (1, [.fres (.b (s2)), .yes]), (1, [.yes]), (1, [.yes]), (2, [.yes]), (1, [.yes]), (2, [.yes]), (1, [.yes]), (1, [.yes]), (2, [.yes]), (1, [.yes]), (1, [.yes]), (1, [.yes]), (2, [.yes]), (1, [.yes]), (2, [.yes]), (1, [.yes]), (1, [.yes]), (1, [.yes]), (2, [.yes]), (1, [.yes]), (2, [.yes]), (1, [.yes]), (1, [])]) (raw := (AV.b (a.gen == b.gen))) kq (ac (Eq.refl ([(AV.i a.lba), (AV.i a.len), (AV.i a.kind), (AV.i a.gen), (AV.sl (List.length a.d) (List.map AV.y a.d))] : List AV)) (ac (eCheck_ok (a) _ h0).any0 (ac h1 (ac (Eq.refl ([(AV.i b.lba), (AV.i b.len), (AV.i b.kind), (AV.i b.gen), (AV.sl (List.length b.d) (List.map AV.y b.d))] : List AV)) (ac h1 (ac (eCheck_ok (b) _ h2).any0 (ac h1 (ac h3 (ac h3 (ac h3 (ac h3 (ac h3 (ac h3 (ac h3 (ac h3 (ac h3 (ac h4 (ac h4 (ac h4 (ac h4 (ac h4 (ac h4 (ac h5 (ac h5 (ac h5 (ac h5 (ac h5 (ac h5 an)))))))))))))))))))))))))))) tq
theorem eJoins_l1 (a : Ex) (b : Ex) (s0 : Bool) (h0 : eCheck (a) = some s0) (h1 : (s0) = true) (s2 : Bool) (h2 : eCheck (b) = some s2) (h3 : (s2) = true) (h4 : (((wr (a.lba + a.len)) == b.lba)) = true) (h4p : ((wr (a.lba + a.len)) = b.lba)) (h5 : ((a.kind == b.kind)) = false) (h5p : ¬ (a.kind = b.kind)) : eJoins_G a b (Bool.false) :=
  leafR vw_eq (k := 300) (r := []) (hs := hz [(4, [.cells ([(AV.i a.lba), (AV.i a.len), (AV.i a.kind), (AV.i a.gen), (AV.sl (List.length a.d) (List.map AV.y a.d))])]), (1, [.fres (.b (s0))]), (1, [.yes]), (1, [.cells ([(AV.i b.lba), (AV.i b.len), (AV.i b.kind), (AV.i b.gen), (AV.sl (List.length b.d) (List.map AV.y b.d))]), .yes]), (1, [.fres (.b (s2)), .yes]), (1, [.yes]), (1, [.yes]), (2, [.yes]), (1, [.yes]), (2, [.yes]), (1, [.yes]), (1, [.yes]), (2, [.yes]), (1, [.yes]), (1, [.yes]), (1, [.yes]), (2, [.yes]), (1, [.yes]), (2, [.yes]), (1, [.yes]), (1, [.no, .no, .no, .no, .no, .no]), (1, [])]) (raw := (AV.b Bool.false)) kq (ac (Eq.refl ([(AV.i a.lba), (AV.i a.len), (AV.i a.kind), (AV.i a.gen), (AV.sl (List.length a.d) (List.map AV.y a.d))] : List AV)) (ac (eCheck_ok (a) _ h0).any0 (ac h1 (ac (Eq.refl ([(AV.i b.lba), (AV.i b.len), (AV.i b.kind), (AV.i b.gen), (AV.sl (List.length b.d) (List.map AV.y b.d))] : List AV)) (ac h1 (ac (eCheck_ok (b) _ h2).any0 (ac h1 (ac h3 (ac h3 (ac h3 (ac h3 (ac h3 (ac h3 (ac h3 (ac h3 (ac h3 (ac h4 (ac h4 (ac h4 (ac h4 (ac h4 (ac h4 (ac h5 (ac h5 (ac h5 (ac h5 (ac h5 (ac h5 an)))))))))))))))))))))))))))) tq
theorem eJoins_l2 (a : Ex) (b : Ex) (s0 : Bool) (h0 : eCheck (a) = some s0) (h1 : (s0) = true) (s2 : Bool) (h2 : eCheck (b) = some s2) (h3 : (s2) = true) (h4 : (((wr (a.lba + a.len)) == b.lba)) = false) (h4p : ¬ ((wr (a.lba + a.len)) = b.lba)) : eJoins_G a b (Bool.false) :=
  leafR vw_eq (k := 300) (r := []) (hs := hz [(4, [.cells ([(AV.i a.lba), (AV.i a.len), (AV.i a.kind), (AV.i a.gen), (AV.sl (List.length a.d) (List.map AV.y a.d))])]), (1, [.fres (.b (s0))]), (1, [.yes]), (1, [.cells ([(AV.i b.lba), (AV.i b.len), (AV.i b.kind), (AV.i b.gen), (AV.sl (List.length b.d) (List.map AV.y b.d))]), .yes]), (1, [.fres (.b (s2)), .yes]), (1, [.yes]), (1, [.yes]), (2, [.yes]), (1, [.yes]), (2, [.yes]), (1, [.yes]), (1, [.yes]), (2, [.yes]), (1, [.yes]), (1, [.no, .no, .no, .no, .no, .no]), (8, [])]) (raw := (AV.b Bool.false)) kq (ac (Eq.refl ([(AV.i a.lba), (AV.i a.len), (AV.i a.kind), (AV.i a.gen), (AV.sl (List.length a.d) (List.map AV.y a.d))] : List AV)) (ac (eCheck_ok (a) _ h0).any0 (ac h1 (ac (Eq.refl ([(AV.i b.lba), (AV.i b.len), (AV.i b.kind), (AV.i b.gen), (AV.sl (List.length b.d) (List.map AV.y b.d))] : List AV)) (ac h1 (ac (eCheck_ok (b) _ h2).any0 (ac h1 (ac h3 (ac h3 (ac h3 (ac h3 (ac h3 (ac h3 (ac h3 (ac h3 (ac h3 (ac h4 (ac h4 (ac h4 (ac h4 (ac h4 (ac h4 an)))))))))))))))))))))) tq
theorem eJoins_l3 (a : Ex) (b : Ex) (s0 : Bool) (h0 : eCheck (a) = some s0) (h1 : (s0) = true) (s2 : Bool) (h2 : eCheck (b) = some s2) (h3 : (s2) = false) : eJoins_G a b (Bool.false) :=
  leafR vw_eq (k := 300) (r := []) (hs := hz [(4, [.cells ([(AV.i a.lba), (AV.i a.len), (AV.i a.kind), (AV.i a.gen), (AV.sl (List.length a.d) (List.map AV.y a.d))])]), (1, [.fres (.b (s0))]), (1, [.yes]), (1, [.cells ([(AV.i b.lba), (AV.i b.len), (AV.i b.kind), (AV.i b.gen), (AV.sl (List.length b.d) (List.map AV.y b.d))]), .yes]), (1, [.fres (.b (s2)), .yes]), (1, [.no, .no, .no, .no, .no, .no, .no, .no, .no]), (15, [])]) (raw := (AV.b Bool.false)) kq (ac (Eq.refl ([(AV.i a.lba), (AV.i a.len), (AV.i a.kind), (AV.i a.gen), (AV.sl (List.length a.d) (List.map AV.y a.d))] : List AV)) (ac (eCheck_ok (a) _ h0).any0 (ac h1 (ac (Eq.refl ([(AV.i b.lba), (AV.i b.len), (AV.i b.kind), (AV.i b.gen), (AV.sl (List.length b.d) (List.map AV.y b.d))] : List AV)) (ac h1 (ac (eCheck_ok (b) _ h2).any0 (ac h1 (ac h3 (ac h3 (ac h3 (ac h3 (ac h3 (ac h3 (ac h3 (ac h3 (ac h3 an)))))))))))))))) tq
theorem eJoins_l4 (a : Ex) (b : Ex) (s0 : Bool) (h0 : eCheck (a) = some s0) (h1 : (s0) = false) : eJoins_G a b (Bool.false) :=
  leafR vw_eq (k := 300) (r := []) (hs := hz [(4, [.cells ([(AV.i a.lba), (AV.i a.len), (AV.i a.kind), (AV.i a.gen), (AV.sl (List.length a.d) (List.map AV.y a.d))])]), (1, [.fres (.b (s0))]), (1, [.no, .no, .no]), (25, [])]) (raw := (AV.b Bool.false)) kq (ac (Eq.refl ([(AV.i a.lba), (AV.i a.len), (AV.i a.kind), (AV.i a.gen), (AV.sl (List.length a.d) (List.map AV.y a.d))] : List AV)) (ac (eCheck_ok (a) _ h0).any0 (ac h1 (ac h1 (ac h1 an))))) tq
theorem eJoins_ok (a : Ex) (b : Ex) (r : Bool) : eJoins a b = some r → eJoins_G a b r := by
  unfold eJoins
  refine tc_ok (fun s0 h0 => ?_)
  refine tb_ok (fun h1 => ?_) (fun h1 => ?_)
  ·
    refine tc_ok (fun s2 h2 => ?_)
    refine tb_ok (fun h3 => ?_) (fun h3 => ?_)
    ·
      refine tb_ok (fun h4 => ?_) (fun h4 => ?_)
      ·
        have h4p := eq_of_beq h4
        refine tb_ok (fun h5 => ?_) (fun h5 => ?_)
        ·
          have h5p := eq_of_beq h5
          exact fun e => tl_ok (G := eJoins_G a b) (eJoins_l0 a b s0 h0 h1 s2 h2 h3 h4 h4p h5 h5p) e
        ·
          have h5p := ne_of_beq_false h5
          exact fun e => tl_ok (G := eJoins_G a b) (eJoins_l1 a b s0 h0 h1 s2 h2 h3 h4 h4p h5 h5p) e
      ·
        have h4p := ne_of_beq_false h4
        exact fun e => tl_ok (G := eJoins_G a b) (eJoins_l2 a b s0 h0 h1 s2 h2 h3 h4 h4p) e
    ·
      exact fun e => tl_ok (G := eJoins_G a b) (eJoins_l3 a b s0 h0 h1 s2 h2 h3) e
  ·
    exact fun e => tl_ok (G := eJoins_G a b) (eJoins_l4 a b s0 h0 h1) e
noncomputable abbrev mCheck_L0_I (blocks : Int) (l : List Ex) : St := (St.mk [((0 : Nat), (AV.i blocks)), ((1 : Nat), (AV.sl (List.length l) (List.flatMap Ex.cells l))), ((4 : Nat), (AV.b Bool.false)), ((5 : Nat), (AV.i 0)), ((8 : Nat), (AV.sl (List.length l) (List.flatMap Ex.cells l))), ((9 : Nat), (AV.i (↑(List.length l) : Int))), ((10 : Nat), (AV.i 0))] 50 (AH.mk 0 ([] : List (Prod Nat AObj))) Bool.false)
noncomputable abbrev mCheck_L0_S (blocks : Int) (l : List Ex) (s0 : Int × Int) : St := (St.mk [((0 : Nat), (AV.i blocks)), ((1 : Nat), (AV.sl (List.length l) (List.flatMap Ex.cells l))), ((5 : Nat), (AV.i s0.1)), ((8 : Nat), (AV.sl (List.length l) (List.flatMap Ex.cells l))), ((9 : Nat), (AV.i (↑(List.length l) : Int))), ((10 : Nat), (AV.i s0.2))] 50 (AH.mk 0 ([] : List (Prod Nat AObj))) Bool.false)
noncomputable def mCheck_L0_step (blocks : Int) (l : List Ex) (s0 : Int × Int) : Option (Int × Int) :=
 (tb ((decide (s0.2 < (↑(List.length l) : Int))))
  (tp ((((0 : Int) ≤ s0.2) ∧ (s0.2 < (↑(List.length l) : Int))))
   (tc (eCheck ((exAt l (Int.toNat s0.2)))) fun s3 =>
    (tb ((!s3))
     none /- exit -/
     (tb (((exAt l (Int.toNat s0.2)).lba != s0.1))
      none /- exit -/
      (tb ((decide (s0.2 > (0 : Int))))
       (tp ((((0 : Int) ≤ (wr (s0.2 - (1 : Int)))) ∧ ((wr (s0.2 - (1 : Int))) < (↑(List.length l) : Int))))
        (tc (eJoins ((exAt l (Int.toNat (wr (s0.2 - (1 : Int)))))) ((exAt l (Int.toNat s0.2)))) fun s8 =>
         (tb (s8)
          none /- exit -/
          (some (((wr (s0.1 + (exAt l (Int.toNat s0.2)).len)), (wr (s0.2 + (1 : Int)))))))))
       (some (((wr (s0.1 + (exAt l (Int.toNat s0.2)).len)), (wr (s0.2 + (1 : Int)))))))))))
  none /- exit -/)
theorem mCheck_L0_s0 (blocks : Int) (l : List Ex) (s0 : Int × Int) (h1 : ((decide (s0.2 < (↑(List.length l) : Int)))) = true) (h1p : (s0.2 < (↑(List.length l) : Int))) (h2 : (((0 : Int) ≤ s0.2) ∧ (s0.2 < (↑(List.length l) : Int)))) (s3 : Bool) (h3 : eCheck ((exAt l (Int.toNat s0.2))) = some s3) (h4 : ((!s3)) = false) (h5 : (((exAt l (Int.toNat s0.2)).lba != s0.1)) = false) (h5p : ((exAt l (Int.toNat s0.2)).lba = s0.1)) (h6 : ((decide (s0.2 > (0 : Int)))) = true) (h6p : (s0.2 > (0 : Int))) (h7 : (((0 : Int) ≤ (wr (s0.2 - (1 : Int)))) ∧ ((wr (s0.2 - (1 : Int))) < (↑(List.length l) : Int)))) (s8 : Bool) (h8 : eJoins ((exAt l (Int.toNat (wr (s0.2 - (1 : Int)))))) ((exAt l (Int.toNat s0.2))) = some s8) (h9 : (s8) = false) : EvStep Try.prog cf 0 (lp Try.prog 58 0) (mCheck_L0_S blocks l s0) (mCheck_L0_S blocks l (((wr (s0.1 + (exAt l (Int.toNat s0.2)).len)), (wr (s0.2 + (1 : Int)))))) :=
  leafS vw_eq (k := 300) (r := []) (hs := hz [(1, [.yes]), (1, [.yes, .yes, .cells ((Ex.cells (exAt l (Int.toNat s0.2))))]), (3, [.cells ([(AV.i (exAt l (Int.toNat s0.2)).lba), (AV.i (exAt l (Int.toNat s0.2)).len), (AV.i (exAt l (Int.toNat s0.2)).kind), (AV.i (exAt l (Int.toNat s0.2)).gen), (AV.sl (List.length (exAt l (Int.toNat s0.2)).d) (List.map AV.y (exAt l (Int.toNat s0.2)).d))])]), (1, [.cells ([(AV.i (exAt l (Int.toNat s0.2)).lba), (AV.i (exAt l (Int.toNat s0.2)).len), (AV.i (exAt l (Int.toNat s0.2)).kind), (AV.i (exAt l (Int.toNat s0.2)).gen), (AV.sl (List.length (exAt l (Int.toNat s0.2)).d) (List.map AV.y (exAt l (Int.toNat s0.2)).d))])]), (1, [.fres (.b (s3))]), (2, [.no]), (1, [.no]), (2, [.no]), (1, [.no]), (1, [.no]), (1, [.no]), (1, [.no]), (1, [.no]), (1, [.yes]), (1, [.yes]), (1, [.yes]), (1, [.yes, .yes, .yes, .yes, .cells ((Ex.cells (exAt l (Int.toNat (wr (s0.2 - (1 : Int))))))), .yes]), (1, [.cells ([(AV.i (exAt l (Int.toNat s0.2)).lba), (AV.i (exAt l (Int.toNat s0.2)).len), (AV.i (exAt l (Int.toNat s0.2)).kind), (AV.i (exAt l (Int.toNat s0.2)).gen), (AV.sl (List.length (exAt l (Int.toNat s0.2)).d) (List.map AV.y (exAt l (Int.toNat s0.2)).d))]), .yes]), (1, [.fres (.b (s8)), .no, .yes, .no, .yes, .no]), (8, [])]) (st1 := (St.mk [((0 : Nat), (AV.i blocks)), ((1 : Nat), (AV.sl (List.length l) (List.flatMap Ex.cells l))), ((5 : Nat), (AV.i (wr (s0.1 + (exAt l (Int.toNat s0.2)).len)))), ((8 : Nat), (AV.sl (List.length l) (List.flatMap Ex.cells l))), ((9 : Nat), (AV.i (↑(List.length l) : Int))), ((10 : Nat), (AV.i (wr (s0.2 + (1 : Int))))), ((11 : Nat), (AV.b (decide (s0.2 < (↑(List.length l) : Int))))), ((12 : Nat), (AV.i s0.2)), ((13 : Nat), (AV.ip (List.drop ((Int.toNat s0.2) * (5 : Nat)) (List.flatMap Ex.cells l)))), ((14 : Nat), (AV.ag [(AV.i (exAt l (Int.toNat s0.2)).lba), (AV.i (exAt l (Int.toNat s0.2)).len), (AV.i (exAt l (Int.toNat s0.2)).kind), (AV.i (exAt l (Int.toNat s0.2)).gen), (AV.sl (List.length (exAt l (Int.toNat s0.2)).d) (List.map AV.y (exAt l (Int.toNat s0.2)).d))])), ((7 : Nat), (AV.pt 0 0)), ((6 : Nat), (AV.i s0.2)), ((15 : Nat), (AV.ag [(AV.i (exAt l (Int.toNat s0.2)).lba), (AV.i (exAt l (Int.toNat s0.2)).len), (AV.i (exAt l (Int.toNat s0.2)).kind), (AV.i (exAt l (Int.toNat s0.2)).gen), (AV.sl (List.length (exAt l (Int.toNat s0.2)).d) (List.map AV.y (exAt l (Int.toNat s0.2)).d))])), ((16 : Nat), (AV.b s3)), ((17 : Nat), (AV.b (!s3))), ((18 : Nat), (AV.b (!s3))), ((19 : Nat), (AV.pt 0 0)), ((20 : Nat), (AV.i (exAt l (Int.toNat s0.2)).lba)), ((21 : Nat), (AV.i s0.1)), ((22 : Nat), (AV.b ((exAt l (Int.toNat s0.2)).lba != s0.1))), ((23 : Nat), (AV.b ((exAt l (Int.toNat s0.2)).lba != s0.1))), ((24 : Nat), (AV.b ((exAt l (Int.toNat s0.2)).lba != s0.1))), ((25 : Nat), (AV.i s0.2)), ((26 : Nat), (AV.b (decide (s0.2 > (0 : Int))))), ((27 : Nat), (AV.b (decide (s0.2 > (0 : Int))))), ((28 : Nat), (AV.sl (List.length l) (List.flatMap Ex.cells l))), ((29 : Nat), (AV.i s0.2)), ((30 : Nat), (AV.i (wr (s0.2 - (1 : Int))))), ((31 : Nat), (AV.ip (List.drop ((Int.toNat (wr (s0.2 - (1 : Int)))) * (5 : Nat)) (List.flatMap Ex.cells l)))), ((32 : Nat), (AV.ag [(AV.i (exAt l (Int.toNat (wr (s0.2 - (1 : Int))))).lba), (AV.i (exAt l (Int.toNat (wr (s0.2 - (1 : Int))))).len), (AV.i (exAt l (Int.toNat (wr (s0.2 - (1 : Int))))).kind), (AV.i (exAt l (Int.toNat (wr (s0.2 - (1 : Int))))).gen), (AV.sl (List.length (exAt l (Int.toNat (wr (s0.2 - (1 : Int))))).d) (List.map AV.y (exAt l (Int.toNat (wr (s0.2 - (1 : Int))))).d))])), ((33 : Nat), (AV.ag [(AV.i (exAt l (Int.toNat s0.2)).lba), (AV.i (exAt l (Int.toNat s0.2)).len), (AV.i (exAt l (Int.toNat s0.2)).kind), (AV.i (exAt l (Int.toNat s0.2)).gen), (AV.sl (List.length (exAt l (Int.toNat s0.2)).d) (List.map AV.y (exAt l (Int.toNat s0.2)).d))])), ((34 : Nat), (AV.b s8)), ((35 : Nat), (AV.b s8)), ((36 : Nat), (AV.b s8)), ((37 : Nat), (AV.i s0.1)), ((38 : Nat), (AV.pt 0 1)), ((39 : Nat), (AV.i (exAt l (Int.toNat s0.2)).len)), ((40 : Nat), (AV.i (wr (s0.1 + (exAt l (Int.toNat s0.2)).len)))), ((41 : Nat), (AV.i (wr (s0.2 + (1 : Int)))))] 50 (AH.mk 1 [((0 : Nat), (AObj.cells [(AV.i (exAt l (Int.toNat s0.2)).lba), (AV.i (exAt l (Int.toNat s0.2)).len), (AV.i (exAt l (Int.toNat s0.2)).kind), (AV.i (exAt l (Int.toNat s0.2)).gen), (AV.sl (List.length (exAt l (Int.toNat s0.2)).d) (List.map AV.y (exAt l (Int.toNat s0.2)).d))]))]) Bool.false)) kq (ac h1 (ac h2 (ac (fq (p := ((5 : Nat) ≤ (List.length (List.drop ((Int.toNat s0.2) * (5 : Nat)) (List.flatMap Ex.cells l)))))) (ac (show (List.take 5 (List.drop ((Int.toNat s0.2) * (5 : Nat)) (List.flatMap Ex.cells l))) = (Ex.cells (exAt l (Int.toNat s0.2))) from (ex_takeO bq bq)) (ac (Eq.refl ([(AV.i (exAt l (Int.toNat s0.2)).lba), (AV.i (exAt l (Int.toNat s0.2)).len), (AV.i (exAt l (Int.toNat s0.2)).kind), (AV.i (exAt l (Int.toNat s0.2)).gen), (AV.sl (List.length (exAt l (Int.toNat s0.2)).d) (List.map AV.y (exAt l (Int.toNat s0.2)).d))] : List AV)) (ac (Eq.refl ([(AV.i (exAt l (Int.toNat s0.2)).lba), (AV.i (exAt l (Int.toNat s0.2)).len), (AV.i (exAt l (Int.toNat s0.2)).kind), (AV.i (exAt l (Int.toNat s0.2)).gen), (AV.sl (List.length (exAt l (Int.toNat s0.2)).d) (List.map AV.y (exAt l (Int.toNat s0.2)).d))] : List AV)) (ac (eCheck_ok ((exAt l (Int.toNat s0.2))) _ h3).any0 (ac h4 (ac h4 (ac h4 (ac h4 (ac h4 (ac h5 (ac h5 (ac h5 (ac h6 (ac h6 (ac h6 (ac h6 (ac h7 (ac h6 (ac (fq (p := ((5 : Nat) ≤ (List.length (List.drop ((Int.toNat (wr (s0.2 - (1 : Int)))) * (5 : Nat)) (List.flatMap Ex.cells l)))))) (ac (show (List.take 5 (List.drop ((Int.toNat (wr (s0.2 - (1 : Int)))) * (5 : Nat)) (List.flatMap Ex.cells l))) = (Ex.cells (exAt l (Int.toNat (wr (s0.2 - (1 : Int)))))) from (ex_takeO bq bq)) (ac h6 (ac (Eq.refl ([(AV.i (exAt l (Int.toNat s0.2)).lba), (AV.i (exAt l (Int.toNat s0.2)).len), (AV.i (exAt l (Int.toNat s0.2)).kind), (AV.i (exAt l (Int.toNat s0.2)).gen), (AV.sl (List.length (exAt l (Int.toNat s0.2)).d) (List.map AV.y (exAt l (Int.toNat s0.2)).d))] : List AV)) (ac h6 (ac (eJoins_ok ((exAt l (Int.toNat (wr (s0.2 - (1 : Int)))))) ((exAt l (Int.toNat s0.2))) _ h8).any0 (ac h5 (ac h6 (ac h5 (ac (show orderOk (rg Try.prog 58 0) = true ∧ allOk (Region.before (rg Try.prog 58 0)) [] 0 [(some [0], some []), (some [], some []), (some [], some []), (some [], some []), (some [], some []), (some [0], some []), (some [], some []), (some [], some []), (some [], some []), (some [], some []), (some [], some []), (some [], some []), (some [], some []), (some [], some []), (some [], some []), (some [], some []), (some [], some []), (some [], some []), (some [0], some []), (some [], some []), (some [], some []), (some [], some [])] = true from (ord_of ord_58_0 bef_58_0 kq)) (ac h9 an)))))))))))))))))))))))))))))))) (Nat.le_of_ble_eq_true rfl) (absB_of [] [] kq (.consn kq (.eqv tq rfl) (.consn kq (.eqv tq rfl) (.consn kq (.eqv tq rfl) (.consn kq (.eqv tq rfl) (.consn kq (.eqv tq rfl) (.consn kq (.eqv tq rfl) .nil)))))) .nil)
theorem mCheck_L0_s1 (blocks : Int) (l : List Ex) (s0 : Int × Int) (h1 : ((decide (s0.2 < (↑(List.length l) : Int)))) = true) (h1p : (s0.2 < (↑(List.length l) : Int))) (h2 : (((0 : Int) ≤ s0.2) ∧ (s0.2 < (↑(List.length l) : Int)))) (s3 : Bool) (h3 : eCheck ((exAt l (Int.toNat s0.2))) = some s3) (h4 : ((!s3)) = false) (h5 : (((exAt l (Int.toNat s0.2)).lba != s0.1)) = false) (h5p : ((exAt l (Int.toNat s0.2)).lba = s0.1)) (h6 : ((decide (s0.2 > (0 : Int)))) = false) (h6p : ¬ (s0.2 > (0 : Int))) : EvStep Try.prog cf 0 (lp Try.prog 58 0) (mCheck_L0_S blocks l s0) (mCheck_L0_S blocks l (((wr (s0.1 + (exAt l (Int.toNat s0.2)).len)), (wr (s0.2 + (1 : Int)))))) :=
  leafS vw_eq (k := 300) (r := []) (hs := hz [(1, [.yes]), (1, [.yes, .yes, .cells ((Ex.cells (exAt l (Int.toNat s0.2))))]), (3, [.cells ([(AV.i (exAt l (Int.toNat s0.2)).lba), (AV.i (exAt l (Int.toNat s0.2)).len), (AV.i (exAt l (Int.toNat s0.2)).kind), (AV.i (exAt l (Int.toNat s0.2)).gen), (AV.sl (List.length (exAt l (Int.toNat s0.2)).d) (List.map AV.y (exAt l (Int.toNat s0.2)).d))])]), (1, [.cells ([(AV.i (exAt l (Int.toNat s0.2)).lba), (AV.i (exAt l (Int.toNat s0.2)).len), (AV.i (exAt l (Int.toNat s0.2)).kind), (AV.i (exAt l (Int.toNat s0.2)).gen), (AV.sl (List.length (exAt l (Int.toNat s0.2)).d) (List.map AV.y (exAt l (Int.toNat s0.2)).d))])]), (1, [.fres (.b (s3))]), (2, [.no]), (1, [.no]), (2, [.no]), (1, [.no]), (1, [.no]), (1, [.no]), (1, [.no]), (1, [.no]), (1, [.no, .no, .no, .no, .no, .no, .no, .no, .no, .no, .yes]), (9, [])]) (st1 := (St.mk [((0 : Nat), (AV.i blocks)), ((1 : Nat), (AV.sl (List.length l) (List.flatMap Ex.cells l))), ((5 : Nat), (AV.i (wr (s0.1 + (exAt l (Int.toNat s0.2)).len)))), ((8 : Nat), (AV.sl (List.length l) (List.flatMap Ex.cells l))), ((9 : Nat), (AV.i (↑(List.length l) : Int))), ((10 : Nat), (AV.i (wr (s0.2 + (1 : Int))))), ((11 : Nat), (AV.b (decide (s0.2 < (↑(List.length l) : Int))))), ((12 : Nat), (AV.i s0.2)), ((13 : Nat), (AV.ip (List.drop ((Int.toNat s0.2) * (5 : Nat)) (List.flatMap Ex.cells l)))), ((14 : Nat), (AV.ag [(AV.i (exAt l (Int.toNat s0.2)).lba), (AV.i (exAt l (Int.toNat s0.2)).len), (AV.i (exAt l (Int.toNat s0.2)).kind), (AV.i (exAt l (Int.toNat s0.2)).gen), (AV.sl (List.length (exAt l (Int.toNat s0.2)).d) (List.map AV.y (exAt l (Int.toNat s0.2)).d))])), ((7 : Nat), (AV.pt 0 0)), ((6 : Nat), (AV.i s0.2)), ((15 : Nat), (AV.ag [(AV.i (exAt l (Int.toNat s0.2)).lba), (AV.i (exAt l (Int.toNat s0.2)).len), (AV.i (exAt l (Int.toNat s0.2)).kind), (AV.i (exAt l (Int.toNat s0.2)).gen), (AV.sl (List.length (exAt l (Int.toNat s0.2)).d) (List.map AV.y (exAt l (Int.toNat s0.2)).d))])), ((16 : Nat), (AV.b s3)), ((17 : Nat), (AV.b (!s3))), ((18 : Nat), (AV.b (!s3))), ((19 : Nat), (AV.pt 0 0)), ((20 : Nat), (AV.i (exAt l (Int.toNat s0.2)).lba)), ((21 : Nat), (AV.i s0.1)), ((22 : Nat), (AV.b ((exAt l (Int.toNat s0.2)).lba != s0.1))), ((23 : Nat), (AV.b ((exAt l (Int.toNat s0.2)).lba != s0.1))), ((24 : Nat), (AV.b ((exAt l (Int.toNat s0.2)).lba != s0.1))), ((25 : Nat), (AV.i s0.2)), ((26 : Nat), (AV.b (decide (s0.2 > (0 : Int))))), ((27 : Nat), (AV.b (decide (s0.2 > (0 : Int))))), ((28 : Nat), (AV.tu ([] : List AV))), ((29 : Nat), (AV.tu ([] : List AV))), ((30 : Nat), (AV.tu ([] : List AV))), ((31 : Nat), (AV.tu ([] : List AV))), ((32 : Nat), (AV.tu ([] : List AV))), ((33 : Nat), (AV.tu ([] : List AV))), ((34 : Nat), (AV.tu ([] : List AV))), ((35 : Nat), (AV.b Bool.false)), ((36 : Nat), (AV.b Bool.false)), ((37 : Nat), (AV.i s0.1)), ((38 : Nat), (AV.pt 0 1)), ((39 : Nat), (AV.i (exAt l (Int.toNat s0.2)).len)), ((40 : Nat), (AV.i (wr (s0.1 + (exAt l (Int.toNat s0.2)).len)))), ((41 : Nat), (AV.i (wr (s0.2 + (1 : Int)))))] 50 (AH.mk 1 [((0 : Nat), (AObj.cells [(AV.i (exAt l (Int.toNat s0.2)).lba), (AV.i (exAt l (Int.toNat s0.2)).len), (AV.i (exAt l (Int.toNat s0.2)).kind), (AV.i (exAt l (Int.toNat s0.2)).gen), (AV.sl (List.length (exAt l (Int.toNat s0.2)).d) (List.map AV.y (exAt l (Int.toNat s0.2)).d))]))]) Bool.false)) kq (ac h1 (ac h2 (ac (fq (p := ((5 : Nat) ≤ (List.length (List.drop ((Int.toNat s0.2) * (5 : Nat)) (List.flatMap Ex.cells l)))))) (ac (show (List.take 5 (List.drop ((Int.toNat s0.2) * (5 : Nat)) (List.flatMap Ex.cells l))) = (Ex.cells (exAt l (Int.toNat s0.2))) from (ex_takeO bq bq)) (ac (Eq.refl ([(AV.i (exAt l (Int.toNat s0.2)).lba), (AV.i (exAt l (Int.toNat s0.2)).len), (AV.i (exAt l (Int.toNat s0.2)).kind), (AV.i (exAt l (Int.toNat s0.2)).gen), (AV.sl (List.length (exAt l (Int.toNat s0.2)).d) (List.map AV.y (exAt l (Int.toNat s0.2)).d))] : List AV)) (ac (Eq.refl ([(AV.i (exAt l (Int.toNat s0.2)).lba), (AV.i (exAt l (Int.toNat s0.2)).len), (AV.i (exAt l (Int.toNat s0.2)).kind), (AV.i (exAt l (Int.toNat s0.2)).gen), (AV.sl (List.length (exAt l (Int.toNat s0.2)).d) (List.map AV.y (exAt l (Int.toNat s0.2)).d))] : List AV)) (ac (eCheck_ok ((exAt l (Int.toNat s0.2))) _ h3).any0 (ac h4 (ac h4 (ac h4 (ac h4 (ac h4 (ac h5 (ac h5 (ac h5 (ac h6 (ac h6 (ac h6 (ac h6 (ac h6 (ac h6 (ac h6 (ac h5 (ac h6 (ac h5 (ac (show orderOk (rg Try.prog 58 0) = true ∧ allOk (Region.before (rg Try.prog 58 0)) [] 0 [(some [0], some []), (some [], some []), (some [], some []), (some [], some []), (some [], some []), (some [0], some []), (some [], some []), (some [], some []), (some [], some []), (some [], some []), (some [], some []), (some [], some []), (some [], some []), (some [], some []), (some [], some []), (some [], some []), (some [], some []), (some [], some []), (some [], some []), (some [], some []), (some [], some []), (some [], some [])] = true from (ord_of ord_58_0 bef_58_0 kq)) an)))))))))))))))))))))))))) (Nat.le_of_ble_eq_true rfl) (absB_of [] [] kq (.consn kq (.eqv tq rfl) (.consn kq (.eqv tq rfl) (.consn kq (.eqv tq rfl) (.consn kq (.eqv tq rfl) (.consn kq (.eqv tq rfl) (.consn kq (.eqv tq rfl) .nil)))))) .nil)
theorem mCheck_L0_ok (blocks : Int) (l : List Ex) (s0 zz : Int × Int) : mCheck_L0_step blocks l s0 = some zz → EvStep Try.prog cf 0 (lp Try.prog 58 0) (mCheck_L0_S blocks l s0) (mCheck_L0_S blocks l zz) := by
  unfold mCheck_L0_step
  refine tb_ok (fun h1 => ?_) (fun h1 => ?_)
  ·
    have h1p := of_decide_eq_true h1
    refine tp_ok (fun h2 => ?_)
    refine tc_ok (fun s3 h3 => ?_)
    refine tb_ok (fun h4 => ?_) (fun h4 => ?_)
    ·
      exact fun e => nomatch e
    ·
      refine tb_ok (fun h5 => ?_) (fun h5 => ?_)
      ·
        have h5p := bne_iff_ne.1 h5
        exact fun e => nomatch e
      ·
        have h5p := bne_eq_false_iff_eq.1 h5
        refine tb_ok (fun h6 => ?_) (fun h6 => ?_)
        ·
          have h6p := of_decide_eq_true h6
          refine tp_ok (fun h7 => ?_)
          refine tc_ok (fun s8 h8 => ?_)
          refine tb_ok (fun h9 => ?_) (fun h9 => ?_)
          ·
            exact fun e => nomatch e
          ·
            exact fun e => tl_ok (G := (fun zz => EvStep Try.prog cf 0 (lp Try.prog 58 0) (mCheck_L0_S blocks l s0) (mCheck_L0_S blocks l zz))) (mCheck_L0_s0 blocks l s0 h1 h1p h2 s3 h3 h4 h5 h5p h6 h6p h7 s8 h8 h9) e
        ·
          have h6p := of_decide_eq_false h6
          exact fun e => tl_ok (G := (fun zz => EvStep Try.prog cf 0 (lp Try.prog 58 0) (mCheck_L0_S blocks l s0) (mCheck_L0_S blocks l zz))) (mCheck_L0_s1 blocks l s0 h1 h1p h2 s3 h3 h4 h5 h5p h6 h6p) e
  ·
    have h1p := of_decide_eq_false h1
    exact fun e => nomatch e
/-- Function 58, as it answers. -/
noncomputable def mCheck (blocks : Int) (l : List Ex) : Option (Bool) :=
 (th (mCheck_L0_step blocks l) (((0 : Int), (0 : Int))) fun s0 =>
  (tb ((decide (s0.2 < (↑(List.length l) : Int))))
   (tp ((((0 : Int) ≤ s0.2) ∧ (s0.2 < (↑(List.length l) : Int))))
    (tc (eCheck ((exAt l (Int.toNat s0.2)))) fun s3 =>
     (tb ((!s3))
      (some (Bool.false))
      (tb (((exAt l (Int.toNat s0.2)).lba != s0.1))
       (some (Bool.false))
       (tb ((decide (s0.2 > (0 : Int))))
        (tp ((((0 : Int) ≤ (wr (s0.2 - (1 : Int)))) ∧ ((wr (s0.2 - (1 : Int))) < (↑(List.length l) : Int))))
         (tc (eJoins ((exAt l (Int.toNat (wr (s0.2 - (1 : Int)))))) ((exAt l (Int.toNat s0.2)))) fun s8 =>
          (tb (s8)
           (some (Bool.false))
           none /- stop behind an operation -/)))
        none /- stop behind an operation -/)))))
   (tb ((decide ((↑(List.length l) : Int) > (0 : Int))))
    (some ((s0.1 == blocks)))
    (some (Bool.false)))))
abbrev mCheck_G (blocks : Int) (l : List Ex) (r : Bool) : Prop := EvFr Try.prog cf true 58 [.i (blocks), exs (l)] (.b (r))
theorem mCheck_l0 (blocks : Int) (l : List Ex) (s0 : Int × Int) (h0 : Runs (mCheck_L0_step blocks l) (((0 : Int), (0 : Int))) s0) (h1 : ((decide (s0.2 < (↑(List.length l) : Int)))) = true) (h1p : (s0.2 < (↑(List.length l) : Int))) (h2 : (((0 : Int) ≤ s0.2) ∧ (s0.2 < (↑(List.length l) : Int)))) (s3 : Bool) (h3 : eCheck ((exAt l (Int.toNat s0.2))) = some s3) (h4 : ((!s3)) = true) : mCheck_G blocks l (Bool.false) :=
  leafR vw_eq (k := 300) (r := []) (hs := hz [(5, [.head (mCheck_L0_S blocks l s0)]), (1, [.yes]), (1, [.yes, .yes, .cells ((Ex.cells (exAt l (Int.toNat s0.2))))]), (3, [.cells ([(AV.i (exAt l (Int.toNat s0.2)).lba), (AV.i (exAt l (Int.toNat s0.2)).len), (AV.i (exAt l (Int.toNat s0.2)).kind), (AV.i (exAt l (Int.toNat s0.2)).gen), (AV.sl (List.length (exAt l (Int.toNat s0.2)).d) (List.map AV.y (exAt l (Int.toNat s0.2)).d))])]), (1, [.cells ([(AV.i (exAt l (Int.toNat s0.2)).lba), (AV.i (exAt l (Int.toNat s0.2)).len), (AV.i (exAt l (Int.toNat s0.2)).kind), (AV.i (exAt l (Int.toNat s0.2)).gen), (AV.sl (List.length (exAt l (Int.toNat s0.2)).d) (List.map AV.y (exAt l (Int.toNat s0.2)).d))])]), (1, [.fres (.b (s3))]), (2, [.yes, .yes, .yes, .yes, .yes]), (6, [.yes]), (2, [])]) (raw := (AV.b Bool.false)) kq (ac (show EvHead Try.prog cf (lp Try.prog 58 0) (mCheck_L0_I blocks l) (mCheck_L0_S blocks l s0) from (EvHead.of (mCheck_L0_ok blocks l) (absB_of [] [] kq (.consn kq (.eqv tq rfl) (.consn kq (.eqv tq rfl) (.consn kq (.eqv tq rfl) (.consn kq (.eqv tq rfl) (.consn kq (.eqv tq rfl) (.consn kq (.eqv tq rfl) .nil)))))) .nil) h0)) (ac h1 (ac h2 (ac (fq (p := ((5 : Nat) ≤ (List.length (List.drop ((Int.toNat s0.2) * (5 : Nat)) (List.flatMap Ex.cells l)))))) (ac (show (List.take 5 (List.drop ((Int.toNat s0.2) * (5 : Nat)) (List.flatMap Ex.cells l))) = (Ex.cells (exAt l (Int.toNat s0.2))) from (ex_takeO bq bq)) (ac (Eq.refl ([(AV.i (exAt l (Int.toNat s0.2)).lba), (AV.i (exAt l (Int.toNat s0.2)).len), (AV.i (exAt l (Int.toNat s0.2)).kind), (AV.i (exAt l (Int.toNat s0.2)).gen), (AV.sl (List.length (exAt l (Int.toNat s0.2)).d) (List.map AV.y (exAt l (Int.toNat s0.2)).d))] : List AV)) (ac (Eq.refl ([(AV.i (exAt l (Int.toNat s0.2)).lba), (AV.i (exAt l (Int.toNat s0.2)).len), (AV.i (exAt l (Int.toNat s0.2)).kind), (AV.i (exAt l (Int.toNat s0.2)).gen), (AV.sl (List.length (exAt l (Int.toNat s0.2)).d) (List.map AV.y (exAt l (Int.toNat s0.2)).d))] : List AV)) (ac (eCheck_ok ((exAt l (Int.toNat s0.2))) _ h3).any0 (ac h4 (ac h4 (ac h4 (ac h4 (ac h4 (ac (show orderOk (rg Try.prog 58 0) = true ∧ allOk (Region.before (rg Try.prog 58 0)) [] 0 [(some [0], some []), (some [], some []), (some [], some []), (some [], some []), (some [], some []), (some [], some []), (some [], some []), (some [], some []), (some [], some []), (some [], some []), (some [], some []), (some [], some []), (some [], some []), (some [], some []), (some [], some []), (some [], some []), (some [], some []), (some [], some []), (some [], some []), (some [], some []), (some [], some []), (some [], some [])] = true from (ord_of ord_58_0 bef_58_0 kq)) an)))))))))))))) tq
theorem mCheck_l1 (blocks : Int) (l : List Ex) (s0 : Int × Int) (h0 : Runs (mCheck_L0_step blocks l) (((0 : Int), (0 : Int))) s0) (h1 : ((decide (s0.2 < (↑(List.length l) : Int)))) = true) (h1p : (s0.2 < (↑(List.length l) : Int))) (h2 : (((0 : Int) ≤ s0.2) ∧ (s0.2 < (↑(List.length l) : Int)))) (s3 : Bool) (h3 : eCheck ((exAt l (Int.toNat s0.2))) = some s3) (h4 : ((!s3)) = false) (h5 : (((exAt l (Int.toNat s0.2)).lba != s0.1)) = true) (h5p : ¬ ((exAt l (Int.toNat s0.2)).lba = s0.1)) : mCheck_G blocks l (Bool.false) :=
  leafR vw_eq (k := 300) (r := []) (hs := hz [(5, [.head (mCheck_L0_S blocks l s0)]), (1, [.yes]), (1, [.yes, .yes, .cells ((Ex.cells (exAt l (Int.toNat s0.2))))]), (3, [.cells ([(AV.i (exAt l (Int.toNat s0.2)).lba), (AV.i (exAt l (Int.toNat s0.2)).len), (AV.i (exAt l (Int.toNat s0.2)).kind), (AV.i (exAt l (Int.toNat s0.2)).gen), (AV.sl (List.length (exAt l (Int.toNat s0.2)).d) (List.map AV.y (exAt l (Int.toNat s0.2)).d))])]), (1, [.cells ([(AV.i (exAt l (Int.toNat s0.2)).lba), (AV.i (exAt l (Int.toNat s0.2)).len), (AV.i (exAt l (Int.toNat s0.2)).kind), (AV.i (exAt l (Int.toNat s0.2)).gen), (AV.sl (List.length (exAt l (Int.toNat s0.2)).d) (List.map AV.y (exAt l (Int.toNat s0.2)).d))])]), (1, [.fres (.b (s3))]), (2, [.no]), (1, [.no]), (2, [.no]), (1, [.no]), (1, [.no]), (1, [.yes, .yes, .yes, .yes, .yes, .yes]), (2, [])]) (raw := (AV.b Bool.false)) kq (ac (show EvHead Try.prog cf (lp Try.prog 58 0) (mCheck_L0_I blocks l) (mCheck_L0_S blocks l s0) from (EvHead.of (mCheck_L0_ok blocks l) (absB_of [] [] kq (.consn kq (.eqv tq rfl) (.consn kq (.eqv tq rfl) (.consn kq (.eqv tq rfl) (.consn kq (.eqv tq rfl) (.consn kq (.eqv tq rfl) (.consn kq (.eqv tq rfl) .nil)))))) .nil) h0)) (ac h1 (ac h2 (ac (fq (p := ((5 : Nat) ≤ (List.length (List.drop ((Int.toNat s0.2) * (5 : Nat)) (List.flatMap Ex.cells l)))))) (ac (show (List.take 5 (List.drop ((Int.toNat s0.2) * (5 : Nat)) (List.flatMap Ex.cells l))) = (Ex.cells (exAt l (Int.toNat s0.2))) from (ex_takeO bq bq)) (ac (Eq.refl ([(AV.i (exAt l (Int.toNat s0.2)).lba), (AV.i (exAt l (Int.toNat s0.2)).len), (AV.i (exAt l (Int.toNat s0.2)).kind), (AV.i (exAt l (Int.toNat s0.2)).gen), (AV.sl (List.length (exAt l (Int.toNat s0.2)).d) (List.map AV.y (exAt l (Int.toNat s0.2)).d))] : List AV)) (ac (Eq.refl ([(AV.i (exAt l (Int.toNat s0.2)).lba), (AV.i (exAt l (Int.toNat s0.2)).len), (AV.i (exAt l (Int.toNat s0.2)).kind), (AV.i (exAt l (Int.toNat s0.2)).gen), (AV.sl (List.length (exAt l (Int.toNat s0.2)).d) (List.map AV.y (exAt l (Int.toNat s0.2)).d))] : List AV)) (ac (eCheck_ok ((exAt l (Int.toNat s0.2))) _ h3).any0 (ac h4 (ac h4 (ac h4 (ac h4 (ac h4 (ac h5 (ac h5 (ac h5 (ac h5 (ac h5 (ac (show orderOk (rg Try.prog 58 0) = true ∧ allOk (Region.before (rg Try.prog 58 0)) [] 0 [(some [0], some []), (some [], some []), (some [], some []), (some [], some []), (some [], some []), (some [0], some []), (some [], some []), (some [], some []), (some [], some []), (some [], some []), (some [], some []), (some [], some []), (some [], some []), (some [], some []), (some [], some []), (some [], some []), (some [], some []), (some [], some []), (some [], some []), (some [], some []), (some [], some []), (some [], some [])] = true from (ord_of ord_58_0 bef_58_0 kq)) an))))))))))))))))))) tq
theorem mCheck_l2 (blocks : Int) (l : List Ex) (s0 : Int × Int) (h0 : Runs (mCheck_L0_step blocks l) (((0 : Int), (0 : Int))) s0) (h1 : ((decide (s0.2 < (↑(List.length l) : Int)))) = true) (h1p : (s0.2 < (↑(List.length l) : Int))) (h2 : (((0 : Int) ≤ s0.2) ∧ (s0.2 < (↑(List.length l) : Int)))) (s3 : Bool) (h3 : eCheck ((exAt l (Int.toNat s0.2))) = some s3) (h4 : ((!s3)) = false) (h5 : (((exAt l (Int.toNat s0.2)).lba != s0.1)) = false) (h5p : ((exAt l (Int.toNat s0.2)).lba = s0.1)) (h6 : ((decide (s0.2 > (0 : Int)))) = true) (h6p : (s0.2 > (0 : Int))) (h7 : (((0 : Int) ≤ (wr (s0.2 - (1 : Int)))) ∧ ((wr (s0.2 - (1 : Int))) < (↑(List.length l) : Int)))) (s8 : Bool) (h8 : eJoins ((exAt l (Int.toNat (wr (s0.2 - (1 : Int)))))) ((exAt l (Int.toNat s0.2))) = some s8) (h9 : (s8) = true) : mCheck_G blocks l (Bool.false) :=
  leafR vw_eq (k := 300) (r := []) (hs := hz [(5, [.head (mCheck_L0_S blocks l s0)]), (1, [.yes]), (1, [.yes, .yes, .cells ((Ex.cells (exAt l (Int.toNat s0.2))))]), (3, [.cells ([(AV.i (exAt l (Int.toNat s0.2)).lba), (AV.i (exAt l (Int.toNat s0.2)).len), (AV.i (exAt l (Int.toNat s0.2)).kind), (AV.i (exAt l (Int.toNat s0.2)).gen), (AV.sl (List.length (exAt l (Int.toNat s0.2)).d) (List.map AV.y (exAt l (Int.toNat s0.2)).d))])]), (1, [.cells ([(AV.i (exAt l (Int.toNat s0.2)).lba), (AV.i (exAt l (Int.toNat s0.2)).len), (AV.i (exAt l (Int.toNat s0.2)).kind), (AV.i (exAt l (Int.toNat s0.2)).gen), (AV.sl (List.length (exAt l (Int.toNat s0.2)).d) (List.map AV.y (exAt l (Int.toNat s0.2)).d))])]), (1, [.fres (.b (s3))]), (2, [.no]), (1, [.no]), (2, [.no]), (1, [.no]), (1, [.no]), (1, [.no]), (1, [.no]), (1, [.no]), (1, [.yes]), (1, [.yes]), (1, [.yes]), (1, [.yes, .yes, .yes, .yes, .cells ((Ex.cells (exAt l (Int.toNat (wr (s0.2 - (1 : Int))))))), .yes]), (1, [.cells ([(AV.i (exAt l (Int.toNat s0.2)).lba), (AV.i (exAt l (Int.toNat s0.2)).len), (AV.i (exAt l (Int.toNat s0.2)).kind), (AV.i (exAt l (Int.toNat s0.2)).gen), (AV.sl (List.length (exAt l (Int.toNat s0.2)).d) (List.map AV.y (exAt l (Int.toNat s0.2)).d))]), .yes]), (1, [.fres (.b (s8)), .no, .yes, .no, .yes, .yes]), (1, [])]) (raw := (AV.b Bool.false)) kq (ac (show EvHead Try.prog cf (lp Try.prog 58 0) (mCheck_L0_I blocks l) (mCheck_L0_S blocks l s0) from (EvHead.of (mCheck_L0_ok blocks l) (absB_of [] [] kq (.consn kq (.eqv tq rfl) (.consn kq (.eqv tq rfl) (.consn kq (.eqv tq rfl) (.consn kq (.eqv tq rfl) (.consn kq (.eqv tq rfl) (.consn kq (.eqv tq rfl) .nil)))))) .nil) h0)) (ac h1 (ac h2 (ac (fq (p := ((5 : Nat) ≤ (List.length (List.drop ((Int.toNat s0.2) * (5 : Nat)) (List.flatMap Ex.cells l)))))) (ac (show (List.take 5 (List.drop ((Int.toNat s0.2) * (5 : Nat)) (List.flatMap Ex.cells l))) = (Ex.cells (exAt l (Int.toNat s0.2))) from (ex_takeO bq bq)) (ac (Eq.refl ([(AV.i (exAt l (Int.toNat s0.2)).lba), (AV.i (exAt l (Int.toNat s0.2)).len), (AV.i (exAt l (Int.toNat s0.2)).kind), (AV.i (exAt l (Int.toNat s0.2)).gen), (AV.sl (List.length (exAt l (Int.toNat s0.2)).d) (List.map AV.y (exAt l (Int.toNat s0.2)).d))] : List AV)) (ac (Eq.refl ([(AV.i (exAt l (Int.toNat s0.2)).lba), (AV.i (exAt l (Int.toNat s0.2)).len), (AV.i (exAt l (Int.toNat s0.2)).kind), (AV.i (exAt l (Int.toNat s0.2)).gen), (AV.sl (List.length (exAt l (Int.toNat s0.2)).d) (List.map AV.y (exAt l (Int.toNat s0.2)).d))] : List AV)) (ac (eCheck_ok ((exAt l (Int.toNat s0.2))) _ h3).any0 (ac h4 (ac h4 (ac h4 (ac h4 (ac h4 (ac h5 (ac h5 (ac h5 (ac h6 (ac h6 (ac h6 (ac h6 (ac h7 (ac h6 (ac (fq (p := ((5 : Nat) ≤ (List.length (List.drop ((Int.toNat (wr (s0.2 - (1 : Int)))) * (5 : Nat)) (List.flatMap Ex.cells l)))))) (ac (show (List.take 5 (List.drop ((Int.toNat (wr (s0.2 - (1 : Int)))) * (5 : Nat)) (List.flatMap Ex.cells l))) = (Ex.cells (exAt l (Int.toNat (wr (s0.2 - (1 : Int)))))) from (ex_takeO bq bq)) (ac h6 (ac (Eq.refl ([(AV.i (exAt l (Int.toNat s0.2)).lba), (AV.i (exAt l (Int.toNat s0.2)).len), (AV.i (exAt l (Int.toNat s0.2)).kind), (AV.i (exAt l (Int.toNat s0.2)).gen), (AV.sl (List.length (exAt l (Int.toNat s0.2)).d) (List.map AV.y (exAt l (Int.toNat s0.2)).d))] : List AV)) (ac h6 (ac (eJoins_ok ((exAt l (Int.toNat (wr (s0.2 - (1 : Int)))))) ((exAt l (Int.toNat s0.2))) _ h8).any0 (ac h5 (ac h6 (ac h5 (ac (show orderOk (rg Try.prog 58 0) = true ∧ allOk (Region.before (rg Try.prog 58 0)) [] 0 [(some [0], some []), (some [], some []), (some [], some []), (some [], some []), (some [], some []), (some [0], some []), (some [], some []), (some [], some []), (some [], some []), (some [], some []), (some [], some []), (some [], some []), (some [], some []), (some [], some []), (some [], some []), (some [], some []), (some [], some []), (some [], some []), (some [0], some []), (some [], some []), (some [], some []), (some [], some [])] = true from (ord_of ord_58_0 bef_58_0 kq)) (ac h9 an))))))))))))))))))))))))))))))))) tq
theorem mCheck_l3 (blocks : Int) (l : List Ex) (s0 : Int × Int) (h0 : Runs (mCheck_L0_step blocks l) (((0 : Int), (0 : Int))) s0) (h1 : ((decide (s0.2 < (↑(List.length l) : Int)))) = false) (h1p : ¬ (s0.2 < (↑(List.length l) : Int))) (h2 : ((decide ((↑(List.length l) : Int) > (0 : Int)))) = true) (h2p : ((↑(List.length l) : Int) > (0 : Int))) : mCheck_G blocks l ((s0.1 == blocks)) :=
  leafR vw_eq (k := 300) (r := []) (hs := hz [(5, [.head (mCheck_L0_S blocks l s0)]), (1, [.no]), (4, [.yes]), (1, [.yes]), (1, [.yes]), (1, [.yes]), (1, [])]) (raw := (AV.b (s0.1 == blocks))) kq (ac (show EvHead Try.prog cf (lp Try.prog 58 0) (mCheck_L0_I blocks l) (mCheck_L0_S blocks l s0) from (EvHead.of (mCheck_L0_ok blocks l) (absB_of [] [] kq (.consn kq (.eqv tq rfl) (.consn kq (.eqv tq rfl) (.consn kq (.eqv tq rfl) (.consn kq (.eqv tq rfl) (.consn kq (.eqv tq rfl) (.consn kq (.eqv tq rfl) .nil)))))) .nil) h0)) (ac h1 (ac h2 (ac h2 (ac h2 (ac h2 an)))))) tq
theorem mCheck_l4 (blocks : Int) (l : List Ex) (s0 : Int × Int) (h0 : Runs (mCheck_L0_step blocks l) (((0 : Int), (0 : Int))) s0) (h1 : ((decide (s0.2 < (↑(List.length l) : Int)))) = false) (h1p : ¬ (s0.2 < (↑(List.length l) : Int))) (h2 : ((decide ((↑(List.length l) : Int) > (0 : Int)))) = false) (h2p : ¬ ((↑(List.length l) : Int) > (0 : Int))) : mCheck_G blocks l (Bool.false) :=
  leafR vw_eq (k := 300) (r := []) (hs := hz [(5, [.head (mCheck_L0_S blocks l s0)]), (1, [.no]), (4, [.no, .no, .no, .no]), (1, [])]) (raw := (AV.b Bool.false)) kq (ac (show EvHead Try.prog cf (lp Try.prog 58 0) (mCheck_L0_I blocks l) (mCheck_L0_S blocks l s0) from (EvHead.of (mCheck_L0_ok blocks l) (absB_of [] [] kq (.consn kq (.eqv tq rfl) (.consn kq (.eqv tq rfl) (.consn kq (.eqv tq rfl) (.consn kq (.eqv tq rfl) (.consn kq (.eqv tq rfl) (.consn kq (.eqv tq rfl) .nil)))))) .nil) h0)) (ac h1 (ac h2 (ac h2 (ac h2 (ac h2 an)))))) tq
theorem mCheck_ok (blocks : Int) (l : List Ex) (r : Bool) : mCheck blocks l = some r → mCheck_G blocks l r := by
  unfold mCheck
  refine th_ok (fun s0 h0 => ?_)
  refine tb_ok (fun h1 => ?_) (fun h1 => ?_)
  ·
    have h1p := of_decide_eq_true h1
    refine tp_ok (fun h2 => ?_)
    refine tc_ok (fun s3 h3 => ?_)
    refine tb_ok (fun h4 => ?_) (fun h4 => ?_)
    ·
      exact fun e => tl_ok (G := mCheck_G blocks l) (mCheck_l0 blocks l s0 h0 h1 h1p h2 s3 h3 h4) e
    ·
      refine tb_ok (fun h5 => ?_) (fun h5 => ?_)
      ·
        have h5p := bne_iff_ne.1 h5
        exact fun e => tl_ok (G := mCheck_G blocks l) (mCheck_l1 blocks l s0 h0 h1 h1p h2 s3 h3 h4 h5 h5p) e
      ·
        have h5p := bne_eq_false_iff_eq.1 h5
        refine tb_ok (fun h6 => ?_) (fun h6 => ?_)
        ·
          have h6p := of_decide_eq_true h6
          refine tp_ok (fun h7 => ?_)
          refine tc_ok (fun s8 h8 => ?_)
          refine tb_ok (fun h9 => ?_) (fun h9 => ?_)
          ·
            exact fun e => tl_ok (G := mCheck_G blocks l) (mCheck_l2 blocks l s0 h0 h1 h1p h2 s3 h3 h4 h5 h5p h6 h6p h7 s8 h8 h9) e
          ·
            exact fun e => nomatch e
        ·
          have h6p := of_decide_eq_false h6
          exact fun e => nomatch e
  ·
    have h1p := of_decide_eq_false h1
    refine tb_ok (fun h2 => ?_) (fun h2 => ?_)
    ·
      have h2p := of_decide_eq_true h2
      exact fun e => tl_ok (G := mCheck_G blocks l) (mCheck_l3 blocks l s0 h0 h1 h1p h2 h2p) e
    ·
      have h2p := of_decide_eq_false h2
      exact fun e => tl_ok (G := mCheck_G blocks l) (mCheck_l4 blocks l s0 h0 h1 h1p h2 h2p) e
/-- Function 91, as it answers. -/
noncomputable def r7Check (x : Ex) : Option (Bool) :=
 (tb ((decide (x.lba < (0 : Int))))
  (some (Bool.false))
  (tb ((decide (x.lba > (64 : Int))))
   (some (Bool.false))
   (tb ((decide (x.len < (1 : Int))))
    (some (Bool.false))
    (tb ((decide (x.len > (wr ((64 : Int) - x.lba)))))
     (some (Bool.false))
     (tb ((decide (x.kind < (0 : Int))))
      (some (Bool.false))
      (tb ((decide (x.kind > (2 : Int))))
       (some (Bool.false))
       (tb ((decide (x.gen < (0 : Int))))
        (some (Bool.false))
        (tb ((decide (x.gen ≥ (2147483648 : Int))))
         (some (Bool.false))
         (tb ((x.kind == (2 : Int)))
          (some (((↑(List.length x.d) : Int) == (wr ((32 : Int) * x.len)))))
          (some (((↑(List.length x.d) : Int) == (0 : Int)))))))))))))
abbrev r7Check_G (x : Ex) (r : Bool) : Prop := EvFr Try.prog cf true 91 [Ex.av (x)] (.b (r))
theorem r7Check_l0 (x : Ex) (h0 : ((decide (x.lba < (0 : Int)))) = true) (h0p : (x.lba < (0 : Int))) : r7Check_G x (Bool.false) :=
  leafR vw_eq (k := 300) (r := []) (hs := hz [(7, [.yes, .yes, .yes, .yes]), (35, [])]) (raw := (AV.b Bool.false)) kq (ac h0 (ac h0 (ac h0 (ac h0 an)))) tq
theorem r7Check_l1 (x : Ex) (h0 : ((decide (x.lba < (0 : Int)))) = false) (h0p : ¬ (x.lba < (0 : Int))) (h1 : ((decide (x.lba > (64 : Int)))) = true) (h1p : (x.lba > (64 : Int))) : r7Check_G x (Bool.false) :=
  leafR vw_eq (k := 300) (r := []) (hs := hz [(7, [.no]), (1, [.no]), (2, [.no]), (1, [.no]), (1, [.yes, .yes, .yes, .yes]), (30, [])]) (raw := (AV.b Bool.false)) kq (ac h0 (ac h0 (ac h0 (ac h0 (ac h1 (ac h1 (ac h1 (ac h1 an)))))))) tq
theorem r7Check_l2 (x : Ex) (h0 : ((decide (x.lba < (0 : Int)))) = false) (h0p : ¬ (x.lba < (0 : Int))) (h1 : ((decide (x.lba > (64 : Int)))) = false) (h1p : ¬ (x.lba > (64 : Int))) (h2 : ((decide (x.len < (1 : Int)))) = true) (h2p : (x.len < (1 : Int))) : r7Check_G x (Bool.false) :=
  leafR vw_eq (k := 300) (r := []) (hs := hz [(7, [.no]), (1, [.no]), (2, [.no]), (1, [.no]), (1, [.no]), (1, [.no]), (2, [.no]), (1, [.no]), (1, [.yes, .yes, .yes, .yes, .yes, .yes, .yes]), (22, [])]) (raw := (AV.b Bool.false)) kq (ac h0 (ac h0 (ac h0 (ac h0 (ac h1 (ac h1 (ac h1 (ac h1 (ac h2 (ac h2 (ac h2 (ac h2 (ac h2 (ac h2 (ac h2 an))))))))))))))) tq
theorem r7Check_l3 (x : Ex) (h0 : ((decide (x.lba < (0 : Int)))) = false) (h0p : ¬ (x.lba < (0 : Int))) (h1 : ((decide (x.lba > (64 : Int)))) = false) (h1p : ¬ (x.lba > (64 : Int))) (h2 : ((decide (x.len < (1 : Int)))) = false) (h2p : ¬ (x.len < (1 : Int))) (h3 : ((decide (x.len > (wr ((64 : Int) - x.lba))))) = true) (h3p : (x.len > (wr ((64 : Int) - x.lba)))) : r7Check_G x (Bool.false) :=
  leafR vw_eq (k := 300) (r := []) (hs := hz [(7, [.no]), (1, [.no]), (2, [.no]), (1, [.no]), (1, [.no]), (1, [.no]), (2, [.no]), (1, [.no]), (1, [.no]), (1, [.no]), (2, [.no]), (1, [.no]), (2, [.no]), (1, [.no]), (1, [.no]), (1, [.yes, .yes, .yes, .yes]), (17, [])]) (raw := (AV.b Bool.false)) kq (ac h0 (ac h0 (ac h0 (ac h0 (ac h1 (ac h1 (ac h1 (ac h1 (ac h2 (ac h2 (ac h2 (ac h2 (ac h2 (ac h2 (ac h2 (ac h3 (ac h3 (ac h3 (ac h3 an))))))))))))))))))) tq
theorem r7Check_l4 (x : Ex) (h0 : ((decide (x.lba < (0 : Int)))) = false) (h0p : ¬ (x.lba < (0 : Int))) (h1 : ((decide (x.lba > (64 : Int)))) = false) (h1p : ¬ (x.lba > (64 : Int))) (h2 : ((decide (x.len < (1 : Int)))) = false) (h2p : ¬ (x.len < (1 : Int))) (h3 : ((decide (x.len > (wr ((64 : Int) - x.lba))))) = false) (h3p : ¬ (x.len > (wr ((64 : Int) - x.lba)))) (h4 : ((decide (x.kind < (0 : Int)))) = true) (h4p : (x.kind < (0 : Int))) : r7Check_G x (Bool.false) :=
  leafR vw_eq (k := 300) (r := []) (hs := hz [(7, [.no]), (1, [.no]), (2, [.no]), (1, [.no]), (1, [.no]), (1, [.no]), (2, [.no]), (1, [.no]), (1, [.no]), (1, [.no]), (2, [.no]), (1, [.no]), (2, [.no]), (1, [.no]), (1, [.no]), (1, [.no]), (1, [.no]), (2, [.no]), (1, [.no]), (1, [.yes, .yes, .yes, .yes]), (12, [])]) (raw := (AV.b Bool.false)) kq (ac h0 (ac h0 (ac h0 (ac h0 (ac h1 (ac h1 (ac h1 (ac h1 (ac h2 (ac h2 (ac h2 (ac h2 (ac h2 (ac h2 (ac h2 (ac h3 (ac h3 (ac h3 (ac h3 (ac h4 (ac h4 (ac h4 (ac h4 an))))))))))))))))))))))) tq
theorem r7Check_l5 (x : Ex) (h0 : ((decide (x.lba < (0 : Int)))) = false) (h0p : ¬ (x.lba < (0 : Int))) (h1 : ((decide (x.lba > (64 : Int)))) = false) (h1p : ¬ (x.lba > (64 : Int))) (h2 : ((decide (x.len < (1 : Int)))) = false) (h2p : ¬ (x.len < (1 : Int))) (h3 : ((decide (x.len > (wr ((64 : Int) - x.lba))))) = false) (h3p : ¬ (x.len > (wr ((64 : Int) - x.lba)))) (h4 : ((decide (x.kind < (0 : Int)))) = false) (h4p : ¬ (x.kind < (0 : Int))) (h5 : ((decide (x.kind > (2 : Int)))) = true) (h5p : (x.kind > (2 : Int))) : r7Check_G x (Bool.false) :=
  leafR vw_eq (k := 300) (r := []) (hs := hz [(7, [.no]), (1, [.no]), (2, [.no]), (1, [.no]), (1, [.no]), (1, [.no]), (2, [.no]), (1, [.no]), (1, [.no]), (1, [.no]), (2, [.no]), (1, [.no]), (2, [.no]), (1, [.no]), (1, [.no]), (1, [.no]), (1, [.no]), (2, [.no]), (1, [.no]), (1, [.no]), (1, [.no]), (2, [.no]), (1, [.no]), (1, [.yes, .yes, .yes, .yes]), (7, [])]) (raw := (AV.b Bool.false)) kq (ac h0 (ac h0 (ac h0 (ac h0 (ac h1 (ac h1 (ac h1 (ac h1 (ac h2 (ac h2 (ac h2 (ac h2 (ac h2 (ac h2 (ac h2 (ac h3 (ac h3 (ac h3 (ac h3 (ac h4 (ac h4 (ac h4 (ac h4 (ac h5 (ac h5 (ac h5 (ac h5 an))))))))))))))))))))))))))) tq
theorem r7Check_l6 (x : Ex) (h0 : ((decide (x.lba < (0 : Int)))) = false) (h0p : ¬ (x.lba < (0 : Int))) (h1 : ((decide (x.lba > (64 : Int)))) = false) (h1p : ¬ (x.lba > (64 : Int))) (h2 : ((decide (x.len < (1 : Int)))) = false) (h2p : ¬ (x.len < (1 : Int))) (h3 : ((decide (x.len > (wr ((64 : Int) - x.lba))))) = false) (h3p : ¬ (x.len > (wr ((64 : Int) - x.lba)))) (h4 : ((decide (x.kind < (0 : Int)))) = false) (h4p : ¬ (x.kind < (0 : Int))) (h5 : ((decide (x.kind > (2 : Int)))) = false) (h5p : ¬ (x.kind > (2 : Int))) (h6 : ((decide (x.gen < (0 : Int)))) = true) (h6p : (x.gen < (0 : Int))) : r7Check_G x (Bool.false) :=
  leafR vw_eq (k := 300) (r := []) (hs := hz [(7, [.no]), (1, [.no]), (2, [.no]), (1, [.no]), (1, [.no]), (1, [.no]), (2, [.no]), (1, [.no]), (1, [.no]), (1, [.no]), (2, [.no]), (1, [.no]), (2, [.no]), (1, [.no]), (1, [.no]), (1, [.no]), (1, [.no]), (2, [.no]), (1, [.no]), (1, [.no]), (1, [.no]), (2, [.no]), (1, [.no]), (1, [.no]), (1, [.no]), (2, [.no]), (1, [.no]), (1, [.yes, .yes, .yes, .yes]), (2, [])]) (raw := (AV.b Bool.false)) kq (ac h0 (ac h0 (ac h0 (ac h0 (ac h1 (ac h1 (ac h1 (ac h1 (ac h2 (ac h2 (ac h2 (ac h2 (ac h2 (ac h2 (ac h2 (ac h3 (ac h3 (ac h3 (ac h3 (ac h4 (ac h4 (ac h4 (ac h4 (ac h5 (ac h5 (ac h5 (ac h5 (ac h6 (ac h6 (ac h6 (ac h6 an))))))))))))))))))))))))))))))) tq
theorem r7Check_l7 (x : Ex) (h0 : ((decide (x.lba < (0 : Int)))) = false) (h0p : ¬ (x.lba < (0 : Int))) (h1 : ((decide (x.lba > (64 : Int)))) = false) (h1p : ¬ (x.lba > (64 : Int))) (h2 : ((decide (x.len < (1 : Int)))) = false) (h2p : ¬ (x.len < (1 : Int))) (h3 : ((decide (x.len > (wr ((64 : Int) - x.lba))))) = false) (h3p : ¬ (x.len > (wr ((64 : Int) - x.lba)))) (h4 : ((decide (x.kind < (0 : Int)))) = false) (h4p : ¬ (x.kind < (0 : Int))) (h5 : ((decide (x.kind > (2 : Int)))) = false) (h5p : ¬ (x.kind > (2 : Int))) (h6 : ((decide (x.gen < (0 : Int)))) = false) (h6p : ¬ (x.gen < (0 : Int))) (h7 : ((decide (x.gen ≥ (2147483648 : Int)))) = true) (h7p : (x.gen ≥ (2147483648 : Int))) : r7Check_G x (Bool.false) :=
  leafR vw_eq (k := 300) (r := []) (hs := hz [(7, [.no]), (1, [.no]), (2, [.no]), (1, [.no]), (1, [.no]), (1, [.no]), (2, [.no]), (1, [.no]), (1, [.no]), (1, [.no]), (2, [.no]), (1, [.no]), (2, [.no]), (1, [.no]), (1, [.no]), (1, [.no]), (1, [.no]), (2, [.no]), (1, [.no]), (1, [.no]), (1, [.no]), (2, [.no]), (1, [.no]), (1, [.no]), (1, [.no]), (2, [.no]), (1, [.no]), (1, [.no]), (1, [.no]), (2, [.no]), (1, [.no, .yes]), (1, [])]) (raw := (AV.b Bool.false)) kq (ac h0 (ac h0 (ac h0 (ac h0 (ac h1 (ac h1 (ac h1 (ac h1 (ac h2 (ac h2 (ac h2 (ac h2 (ac h2 (ac h2 (ac h2 (ac h3 (ac h3 (ac h3 (ac h3 (ac h4 (ac h4 (ac h4 (ac h4 (ac h5 (ac h5 (ac h5 (ac h5 (ac h6 (ac h6 (ac h6 (ac h6 (ac h7 an)))))))))))))))))))))))))))))))) tq
theorem r7Check_l8 (x : Ex) (h0 : ((decide (x.lba < (0 : Int)))) = false) (h0p : ¬ (x.lba < (0 : Int))) (h1 : ((decide (x.lba > (64 : Int)))) = false) (h1p : ¬ (x.lba > (64 : Int))) (h2 : ((decide (x.len < (1 : Int)))) = false) (h2p : ¬ (x.len < (1 : Int))) (h3 : ((decide (x.len > (wr ((64 : Int) - x.lba))))) = false) (h3p : ¬ (x.len > (wr ((64 : Int) - x.lba)))) (h4 : ((decide (x.kind < (0 : Int)))) = false) (h4p : ¬ (x.kind < (0 : Int))) (h5 : ((decide (x.kind > (2 : Int)))) = false) (h5p : ¬ (x.kind > (2 : Int))) (h6 : ((decide (x.gen < (0 : Int)))) = false) (h6p : ¬ (x.gen < (0 : Int))) (h7 : ((decide (x.gen ≥ (2147483648 : Int)))) = false) (h7p : ¬ (x.gen ≥ (2147483648 : Int))) (h8 : ((x.kind == (2 : Int))) = true) (h8p : (x.kind = (2 : Int))) : r7Check_G x (((↑(List.length x.d) : Int) == (wr ((32 : Int) * x.len)))) :=
  leafR vw_eq (k := 300) (r := []) (hs := hz [(7, [.no]), (1, [.no]), (2, [.no]), (1, [.no]), (1, [.no]), (1, [.no]), (2, [.no]), (1, [.no]), (1, [.no]), (1, [.no]), (2, [.no]), (1, [.no]), (2, [.no]), (1, [.no]), (1, [.no]), (1, [.no]), (1, [.no]), (2, [.no]), (1, [.no]), (1, [.no]), (1, [.no]), (2, [.no]), (1, [.no]), (1, [.no]), (1, [.no]), (2, [.no]), (1, [.no]), (1, [.no]), (1, [.no]), (2, [.no]), (1, [.no, .no]), (4, [.yes]), (10, [])]) (raw := (AV.b ((↑(List.length x.d) : Int) == (wr ((32 : Int) * x.len))))) kq (ac h0 (ac h0 (ac h0 (ac h0 (ac h1 (ac h1 (ac h1 (ac h1 (ac h2 (ac h2 (ac h2 (ac h2 (ac h2 (ac h2 (ac h2 (ac h3 (ac h3 (ac h3 (ac h3 (ac h4 (ac h4 (ac h4 (ac h4 (ac h5 (ac h5 (ac h5 (ac h5 (ac h6 (ac h6 (ac h6 (ac h6 (ac h7 (ac h8 an))))))))))))))))))))))))))))))))) tq
theorem r7Check_l9 (x : Ex) (h0 : ((decide (x.lba < (0 : Int)))) = false) (h0p : ¬ (x.lba < (0 : Int))) (h1 : ((decide (x.lba > (64 : Int)))) = false) (h1p : ¬ (x.lba > (64 : Int))) (h2 : ((decide (x.len < (1 : Int)))) = false) (h2p : ¬ (x.len < (1 : Int))) (h3 : ((decide (x.len > (wr ((64 : Int) - x.lba))))) = false) (h3p : ¬ (x.len > (wr ((64 : Int) - x.lba)))) (h4 : ((decide (x.kind < (0 : Int)))) = false) (h4p : ¬ (x.kind < (0 : Int))) (h5 : ((decide (x.kind > (2 : Int)))) = false) (h5p : ¬ (x.kind > (2 : Int))) (h6 : ((decide (x.gen < (0 : Int)))) = false) (h6p : ¬ (x.gen < (0 : Int))) (h7 : ((decide (x.gen ≥ (2147483648 : Int)))) = false) (h7p : ¬ (x.gen ≥ (2147483648 : Int))) (h8 : ((x.kind == (2 : Int))) = false) (h8p : ¬ (x.kind = (2 : Int))) : r7Check_G x (((↑(List.length x.d) : Int) == (0 : Int))) :=
  leafR vw_eq (k := 300) (r := []) (hs := hz [(7, [.no]), (1, [.no]), (2, [.no]), (1, [.no]), (1, [.no]), (1, [.no]), (2, [.no]), (1, [.no]), (1, [.no]), (1, [.no]), (2, [.no]), (1, [.no]), (2, [.no]), (1, [.no]), (1, [.no]), (1, [.no]), (1, [.no]), (2, [.no]), (1, [.no]), (1, [.no]), (1, [.no]), (2, [.no]), (1, [.no]), (1, [.no]), (1, [.no]), (2, [.no]), (1, [.no]), (1, [.no]), (1, [.no]), (2, [.no]), (1, [.no, .no]), (4, [.no]), (6, [])]) (raw := (AV.b ((↑(List.length x.d) : Int) == (0 : Int)))) kq (ac h0 (ac h0 (ac h0 (ac h0 (ac h1 (ac h1 (ac h1 (ac h1 (ac h2 (ac h2 (ac h2 (ac h2 (ac h2 (ac h2 (ac h2 (ac h3 (ac h3 (ac h3 (ac h3 (ac h4 (ac h4 (ac h4 (ac h4 (ac h5 (ac h5 (ac h5 (ac h5 (ac h6 (ac h6 (ac h6 (ac h6 (ac h7 (ac h8 an))))))))))))))))))))))))))))))))) tq
theorem r7Check_ok (x : Ex) (r : Bool) : r7Check x = some r → r7Check_G x r := by
  unfold r7Check
  refine tb_ok (fun h0 => ?_) (fun h0 => ?_)
  ·
    have h0p := of_decide_eq_true h0
    exact fun e => tl_ok (G := r7Check_G x) (r7Check_l0 x h0 h0p) e
  ·
    have h0p := of_decide_eq_false h0
    refine tb_ok (fun h1 => ?_) (fun h1 => ?_)
    ·
      have h1p := of_decide_eq_true h1
      exact fun e => tl_ok (G := r7Check_G x) (r7Check_l1 x h0 h0p h1 h1p) e
    ·
      have h1p := of_decide_eq_false h1
      refine tb_ok (fun h2 => ?_) (fun h2 => ?_)
      ·
        have h2p := of_decide_eq_true h2
        exact fun e => tl_ok (G := r7Check_G x) (r7Check_l2 x h0 h0p h1 h1p h2 h2p) e
      ·
        have h2p := of_decide_eq_false h2
        refine tb_ok (fun h3 => ?_) (fun h3 => ?_)
        ·
          have h3p := of_decide_eq_true h3
          exact fun e => tl_ok (G := r7Check_G x) (r7Check_l3 x h0 h0p h1 h1p h2 h2p h3 h3p) e
        ·
          have h3p := of_decide_eq_false h3
          refine tb_ok (fun h4 => ?_) (fun h4 => ?_)
          ·
            have h4p := of_decide_eq_true h4
            exact fun e => tl_ok (G := r7Check_G x) (r7Check_l4 x h0 h0p h1 h1p h2 h2p h3 h3p h4 h4p) e
          ·
            have h4p := of_decide_eq_false h4
            refine tb_ok (fun h5 => ?_) (fun h5 => ?_)
            ·
              have h5p := of_decide_eq_true h5
              exact fun e => tl_ok (G := r7Check_G x) (r7Check_l5 x h0 h0p h1 h1p h2 h2p h3 h3p h4 h4p h5 h5p) e
            ·
              have h5p := of_decide_eq_false h5
              refine tb_ok (fun h6 => ?_) (fun h6 => ?_)
              ·
                have h6p := of_decide_eq_true h6
                exact fun e => tl_ok (G := r7Check_G x) (r7Check_l6 x h0 h0p h1 h1p h2 h2p h3 h3p h4 h4p h5 h5p h6 h6p) e
              ·
                have h6p := of_decide_eq_false h6
                refine tb_ok (fun h7 => ?_) (fun h7 => ?_)
                ·
                  have h7p := of_decide_eq_true h7
                  exact fun e => tl_ok (G := r7Check_G x) (r7Check_l7 x h0 h0p h1 h1p h2 h2p h3 h3p h4 h4p h5 h5p h6 h6p h7 h7p) e
                ·
                  have h7p := of_decide_eq_false h7
                  refine tb_ok (fun h8 => ?_) (fun h8 => ?_)
                  ·
                    have h8p := eq_of_beq h8
                    exact fun e => tl_ok (G := r7Check_G x) (r7Check_l8 x h0 h0p h1 h1p h2 h2p h3 h3p h4 h4p h5 h5p h6 h6p h7 h7p h8 h8p) e
                  ·
                    have h8p := ne_of_beq_false h8
                    exact fun e => tl_ok (G := r7Check_G x) (r7Check_l9 x h0 h0p h1 h1p h2 h2p h3 h3p h4 h4p h5 h5p h6 h6p h7 h7p h8 h8p) e
/-- Function 92, as it answers. -/
noncomputable def r7Joins (a : Ex) (b : Ex) : Option (Bool) :=
 (tc (r7Check (a)) fun s0 =>
  (tc (r7Check (b)) fun s1 =>
   (tb (s0)
    (tb (s1)
     (tb (((wr (a.lba + a.len)) == b.lba))
      (tb ((a.kind == b.kind))
       (some ((a.gen == b.gen)))
       (some (Bool.false)))
      (some (Bool.false)))
     (some (Bool.false)))
    (some (Bool.false)))))
abbrev r7Joins_G (a : Ex) (b : Ex) (r : Bool) : Prop := EvFr Try.prog cf true 92 [Ex.av (a), Ex.av (b)] (.b (r))
theorem r7Joins_l0 (a : Ex) (b : Ex) (s0 : Bool) (h0 : r7Check (a) = some s0) (s1 : Bool) (h1 : r7Check (b) = some s1) (h2 : (s0) = true) (h3 : (s1) = true) (h4 : (((wr (a.lba + a.len)) == b.lba)) = true) (h4p : ((wr (a.lba + a.len)) = b.lba)) (h5 : ((a.kind == b.kind)) = true) (h5p : (a.kind = b.kind)) : r7Joins_G a b ((a.gen == b.gen)) :=
  leafR vw_eq (k := 300) (r := []) (hs := hz [(4, [.cells ([(AV.i a.lba), (AV.i a.len), (AV.i a.kind), (AV.i a.gen), (AV.sl (List.length a.d) (List.map AV.y a.d))])]), (1, [.fres (.b (s0))]), (2, [.cells ([(AV.i b.lba), (AV.i b.len), (AV.i b.kind), (AV.i b.gen), (AV.sl (List.length b.d) (List.map AV.y b.d))])]), (1, [.fres (.b (s1))]), (3, [.yes]), (1, [.yes]), (1, [.yes]), (1, [.yes]), (2, [.yes]), (1, [.yes]), (2, [.yes]), (1, [.yes]), (1, [.yes]), (2, [.yes]), (1, [.yes]), (1, [.yes]), (1, [.yes]), (2, [.yes]), (1, [.yes]), (2, [.yes]), (1, [.yes]), (1, [.yes]), (1, [.yes]), (2, [.yes]), (1, [.yes]), (2, [.yes]), (1, [.yes]), (1, [])]) (raw := (AV.b (a.gen == b.gen))) kq (ac (Eq.refl ([(AV.i a.lba), (AV.i a.len), (AV.i a.kind), (AV.i a.gen), (AV.sl (List.length a.d) (List.map AV.y a.d))] : List AV)) (ac (r7Check_ok (a) _ h0).any0 (ac (Eq.refl ([(AV.i b.lba), (AV.i b.len), (AV.i b.kind), (AV.i b.gen), (AV.sl (List.length b.d) (List.map AV.y b.d))] : List AV)) (ac (r7Check_ok (b) _ h1).any0 (ac h2 (ac h2 (ac h3 (ac h3 (ac h3 (ac h3 (ac h3 (ac h3 (ac h3 (ac h3 (ac h3 (ac h4 (ac h4 (ac h4 (ac h4 (ac h4 (ac h4 (ac h5 (ac h5 (ac h5 (ac h5 (ac h5 (ac h5 an))))))))))))))))))))))))))) tq
theorem r7Joins_l1 (a : Ex) (b : Ex) (s0 : Bool) (h0 : r7Check (a) = some s0) (s1 : Bool) (h1 : r7Check (b) = some s1) (h2 : (s0) = true) (h3 : (s1) = true) (h4 : (((wr (a.lba + a.len)) == b.lba)) = true) (h4p : ((wr (a.lba + a.len)) = b.lba)) (h5 : ((a.kind == b.kind)) = false) (h5p : ¬ (a.kind = b.kind)) : r7Joins_G a b (Bool.false) :=
  leafR vw_eq (k := 300) (r := []) (hs := hz [(4, [.cells ([(AV.i a.lba), (AV.i a.len), (AV.i a.kind), (AV.i a.gen), (AV.sl (List.length a.d) (List.map AV.y a.d))])]), (1, [.fres (.b (s0))]), (2, [.cells ([(AV.i b.lba), (AV.i b.len), (AV.i b.kind), (AV.i b.gen), (AV.sl (List.length b.d) (List.map AV.y b.d))])]), (1, [.fres (.b (s1))]), (3, [.yes]), (1, [.yes]), (1, [.yes]), (1, [.yes]), (2, [.yes]), (1, [.yes]), (2, [.yes]), (1, [.yes]), (1, [.yes]), (2, [.yes]), (1, [.yes]), (1, [.yes]), (1, [.yes]), (2, [.yes]), (1, [.yes]), (2, [.yes]), (1, [.yes]), (1, [.no, .no, .no, .no, .no, .no]), (1, [])]) (raw := (AV.b Bool.false)) kq (ac (Eq.refl ([(AV.i a.lba), (AV.i a.len), (AV.i a.kind), (AV.i a.gen), (AV.sl (List.length a.d) (List.map AV.y a.d))] : List AV)) (ac (r7Check_ok (a) _ h0).any0 (ac (Eq.refl ([(AV.i b.lba), (AV.i b.len), (AV.i b.kind), (AV.i b.gen), (AV.sl (List.length b.d) (List.map AV.y b.d))] : List AV)) (ac (r7Check_ok (b) _ h1).any0 (ac h2 (ac h2 (ac h3 (ac h3 (ac h3 (ac h3 (ac h3 (ac h3 (ac h3 (ac h3 (ac h3 (ac h4 (ac h4 (ac h4 (ac h4 (ac h4 (ac h4 (ac h5 (ac h5 (ac h5 (ac h5 (ac h5 (ac h5 an))))))))))))))))))))))))))) tq
theorem r7Joins_l2 (a : Ex) (b : Ex) (s0 : Bool) (h0 : r7Check (a) = some s0) (s1 : Bool) (h1 : r7Check (b) = some s1) (h2 : (s0) = true) (h3 : (s1) = true) (h4 : (((wr (a.lba + a.len)) == b.lba)) = false) (h4p : ¬ ((wr (a.lba + a.len)) = b.lba)) : r7Joins_G a b (Bool.false) :=
  leafR vw_eq (k := 300) (r := []) (hs := hz [(4, [.cells ([(AV.i a.lba), (AV.i a.len), (AV.i a.kind), (AV.i a.gen), (AV.sl (List.length a.d) (List.map AV.y a.d))])]), (1, [.fres (.b (s0))]), (2, [.cells ([(AV.i b.lba), (AV.i b.len), (AV.i b.kind), (AV.i b.gen), (AV.sl (List.length b.d) (List.map AV.y b.d))])]), (1, [.fres (.b (s1))]), (3, [.yes]), (1, [.yes]), (1, [.yes]), (1, [.yes]), (2, [.yes]), (1, [.yes]), (2, [.yes]), (1, [.yes]), (1, [.yes]), (2, [.yes]), (1, [.yes]), (1, [.no, .no, .no, .no, .no, .no]), (8, [])]) (raw := (AV.b Bool.false)) kq (ac (Eq.refl ([(AV.i a.lba), (AV.i a.len), (AV.i a.kind), (AV.i a.gen), (AV.sl (List.length a.d) (List.map AV.y a.d))] : List AV)) (ac (r7Check_ok (a) _ h0).any0 (ac (Eq.refl ([(AV.i b.lba), (AV.i b.len), (AV.i b.kind), (AV.i b.gen), (AV.sl (List.length b.d) (List.map AV.y b.d))] : List AV)) (ac (r7Check_ok (b) _ h1).any0 (ac h2 (ac h2 (ac h3 (ac h3 (ac h3 (ac h3 (ac h3 (ac h3 (ac h3 (ac h3 (ac h3 (ac h4 (ac h4 (ac h4 (ac h4 (ac h4 (ac h4 an))))))))))))))))))))) tq
theorem r7Joins_l3 (a : Ex) (b : Ex) (s0 : Bool) (h0 : r7Check (a) = some s0) (s1 : Bool) (h1 : r7Check (b) = some s1) (h2 : (s0) = true) (h3 : (s1) = false) : r7Joins_G a b (Bool.false) :=
  leafR vw_eq (k := 300) (r := []) (hs := hz [(4, [.cells ([(AV.i a.lba), (AV.i a.len), (AV.i a.kind), (AV.i a.gen), (AV.sl (List.length a.d) (List.map AV.y a.d))])]), (1, [.fres (.b (s0))]), (2, [.cells ([(AV.i b.lba), (AV.i b.len), (AV.i b.kind), (AV.i b.gen), (AV.sl (List.length b.d) (List.map AV.y b.d))])]), (1, [.fres (.b (s1))]), (3, [.yes]), (1, [.yes]), (1, [.no, .no, .no, .no, .no, .no, .no, .no, .no]), (15, [])]) (raw := (AV.b Bool.false)) kq (ac (Eq.refl ([(AV.i a.lba), (AV.i a.len), (AV.i a.kind), (AV.i a.gen), (AV.sl (List.length a.d) (List.map AV.y a.d))] : List AV)) (ac (r7Check_ok (a) _ h0).any0 (ac (Eq.refl ([(AV.i b.lba), (AV.i b.len), (AV.i b.kind), (AV.i b.gen), (AV.sl (List.length b.d) (List.map AV.y b.d))] : List AV)) (ac (r7Check_ok (b) _ h1).any0 (ac h2 (ac h2 (ac h3 (ac h3 (ac h3 (ac h3 (ac h3 (ac h3 (ac h3 (ac h3 (ac h3 an))))))))))))))) tq
theorem r7Joins_l4 (a : Ex) (b : Ex) (s0 : Bool) (h0 : r7Check (a) = some s0) (s1 : Bool) (h1 : r7Check (b) = some s1) (h2 : (s0) = false) : r7Joins_G a b (Bool.false) :=
  leafR vw_eq (k := 300) (r := []) (hs := hz [(4, [.cells ([(AV.i a.lba), (AV.i a.len), (AV.i a.kind), (AV.i a.gen), (AV.sl (List.length a.d) (List.map AV.y a.d))])]), (1, [.fres (.b (s0))]), (2, [.cells ([(AV.i b.lba), (AV.i b.len), (AV.i b.kind), (AV.i b.gen), (AV.sl (List.length b.d) (List.map AV.y b.d))])]), (1, [.fres (.b (s1))]), (3, [.no, .no]), (25, [])]) (raw := (AV.b Bool.false)) kq (ac (Eq.refl ([(AV.i a.lba), (AV.i a.len), (AV.i a.kind), (AV.i a.gen), (AV.sl (List.length a.d) (List.map AV.y a.d))] : List AV)) (ac (r7Check_ok (a) _ h0).any0 (ac (Eq.refl ([(AV.i b.lba), (AV.i b.len), (AV.i b.kind), (AV.i b.gen), (AV.sl (List.length b.d) (List.map AV.y b.d))] : List AV)) (ac (r7Check_ok (b) _ h1).any0 (ac h2 (ac h2 an)))))) tq
theorem r7Joins_ok (a : Ex) (b : Ex) (r : Bool) : r7Joins a b = some r → r7Joins_G a b r := by
  unfold r7Joins
  refine tc_ok (fun s0 h0 => ?_)
  refine tc_ok (fun s1 h1 => ?_)
  refine tb_ok (fun h2 => ?_) (fun h2 => ?_)
  ·
    refine tb_ok (fun h3 => ?_) (fun h3 => ?_)
    ·
      refine tb_ok (fun h4 => ?_) (fun h4 => ?_)
      ·
        have h4p := eq_of_beq h4
        refine tb_ok (fun h5 => ?_) (fun h5 => ?_)
        ·
          have h5p := eq_of_beq h5
          exact fun e => tl_ok (G := r7Joins_G a b) (r7Joins_l0 a b s0 h0 s1 h1 h2 h3 h4 h4p h5 h5p) e
        ·
          have h5p := ne_of_beq_false h5
          exact fun e => tl_ok (G := r7Joins_G a b) (r7Joins_l1 a b s0 h0 s1 h1 h2 h3 h4 h4p h5 h5p) e
      ·
        have h4p := ne_of_beq_false h4
        exact fun e => tl_ok (G := r7Joins_G a b) (r7Joins_l2 a b s0 h0 s1 h1 h2 h3 h4 h4p) e
    ·
      exact fun e => tl_ok (G := r7Joins_G a b) (r7Joins_l3 a b s0 h0 s1 h1 h2 h3) e
  ·
    exact fun e => tl_ok (G := r7Joins_G a b) (r7Joins_l4 a b s0 h0 s1 h1 h2) e
/-- Function 57, as it answers. -/
noncomputable def r7Same (a : Ex) (b : Ex) : Option (Bool) :=
 (tb ((a.lba == b.lba))
  (tb ((a.len == b.len))
   (tb ((a.kind == b.kind))
    (tb ((a.gen == b.gen))
     (some ((a.d == b.d)))
     (some (Bool.false)))
    (some (Bool.false)))
   (some (Bool.false)))
  (some (Bool.false)))
abbrev r7Same_G (a : Ex) (b : Ex) (r : Bool) : Prop := EvFr Try.prog cf true 57 [Ex.av (a), Ex.av (b)] (.b (r))
theorem r7Same_l0 (a : Ex) (b : Ex) (h0 : ((a.lba == b.lba)) = true) (h0p : (a.lba = b.lba)) (h1 : ((a.len == b.len)) = true) (h1p : (a.len = b.len)) (h2 : ((a.kind == b.kind)) = true) (h2p : (a.kind = b.kind)) (h3 : ((a.gen == b.gen)) = true) (h3p : (a.gen = b.gen)) : r7Same_G a b ((a.d == b.d)) :=
  leafR vw_eq (k := 300) (r := []) (hs := hz [(11, [.yes]), (1, [.yes]), (2, [.yes]), (1, [.yes]), (2, [.yes]), (1, [.yes]), (1, [.yes]), (1, [.yes]), (2, [.yes]), (1, [.yes]), (2, [.yes]), (1, [.yes]), (1, [.yes]), (1, [.yes]), (2, [.yes]), (1, [.yes]), (2, [.yes]), (1, [.yes]), (1, [.yes]), (1, [.yes]), (2, [.yes, .yes, .str (a.d), .yes]), (1, [.yes]), (2, [.yes, .yes, .str (b.d), .yes]), (1, [.yes]), (1, [])]) (raw := (AV.b (a.d == b.d))) kq (ac h0 (ac h0 (ac h0 (ac h0 (ac h0 (ac h0 (ac h1 (ac h1 (ac h1 (ac h1 (ac h1 (ac h1 (ac h2 (ac h2 (ac h2 (ac h2 (ac h2 (ac h2 (ac h3 (ac h3 (ac h3 (ac (tq (p := ((List.length (List.map AV.y a.d)) = ((List.length a.d) * (1 : Nat))))) (ac (tq (p := bytesOf ((List.map AV.y a.d)) = some (a.d))) (ac h3 (ac h3 (ac h3 (ac (tq (p := ((List.length (List.map AV.y b.d)) = ((List.length b.d) * (1 : Nat))))) (ac (tq (p := bytesOf ((List.map AV.y b.d)) = some (b.d))) (ac h3 (ac h3 an)))))))))))))))))))))))))))))) tq
theorem r7Same_l1 (a : Ex) (b : Ex) (h0 : ((a.lba == b.lba)) = true) (h0p : (a.lba = b.lba)) (h1 : ((a.len == b.len)) = true) (h1p : (a.len = b.len)) (h2 : ((a.kind == b.kind)) = true) (h2p : (a.kind = b.kind)) (h3 : ((a.gen == b.gen)) = false) (h3p : ¬ (a.gen = b.gen)) : r7Same_G a b (Bool.false) :=
  leafR vw_eq (k := 300) (r := []) (hs := hz [(11, [.yes]), (1, [.yes]), (2, [.yes]), (1, [.yes]), (2, [.yes]), (1, [.yes]), (1, [.yes]), (1, [.yes]), (2, [.yes]), (1, [.yes]), (2, [.yes]), (1, [.yes]), (1, [.yes]), (1, [.yes]), (2, [.yes]), (1, [.yes]), (2, [.yes]), (1, [.yes]), (1, [.no, .no, .no, .no, .no, .no, .no, .no]), (1, [])]) (raw := (AV.b Bool.false)) kq (ac h0 (ac h0 (ac h0 (ac h0 (ac h0 (ac h0 (ac h1 (ac h1 (ac h1 (ac h1 (ac h1 (ac h1 (ac h2 (ac h2 (ac h2 (ac h2 (ac h2 (ac h2 (ac h3 (ac h3 (ac h3 (ac h3 (ac h3 (ac h3 (ac h3 (ac h3 an)))))))))))))))))))))))))) tq
theorem r7Same_l2 (a : Ex) (b : Ex) (h0 : ((a.lba == b.lba)) = true) (h0p : (a.lba = b.lba)) (h1 : ((a.len == b.len)) = true) (h1p : (a.len = b.len)) (h2 : ((a.kind == b.kind)) = false) (h2p : ¬ (a.kind = b.kind)) : r7Same_G a b (Bool.false) :=
  leafR vw_eq (k := 300) (r := []) (hs := hz [(11, [.yes]), (1, [.yes]), (2, [.yes]), (1, [.yes]), (2, [.yes]), (1, [.yes]), (1, [.yes]), (1, [.yes]), (2, [.yes]), (1, [.yes]), (2, [.yes]), (1, [.yes]), (1, [.no, .no, .no, .no, .no, .no]), (10, [])]) (raw := (AV.b Bool.false)) kq (ac h0 (ac h0 (ac h0 (ac h0 (ac h0 (ac h0 (ac h1 (ac h1 (ac h1 (ac h1 (ac h1 (ac h1 (ac h2 (ac h2 (ac h2 (ac h2 (ac h2 (ac h2 an)))))))))))))))))) tq
theorem r7Same_l3 (a : Ex) (b : Ex) (h0 : ((a.lba == b.lba)) = true) (h0p : (a.lba = b.lba)) (h1 : ((a.len == b.len)) = false) (h1p : ¬ (a.len = b.len)) : r7Same_G a b (Bool.false) :=
  leafR vw_eq (k := 300) (r := []) (hs := hz [(11, [.yes]), (1, [.yes]), (2, [.yes]), (1, [.yes]), (2, [.yes]), (1, [.yes]), (1, [.no, .no, .no, .no, .no, .no]), (17, [])]) (raw := (AV.b Bool.false)) kq (ac h0 (ac h0 (ac h0 (ac h0 (ac h0 (ac h0 (ac h1 (ac h1 (ac h1 (ac h1 (ac h1 (ac h1 an)))))))))))) tq
theorem r7Same_l4 (a : Ex) (b : Ex) (h0 : ((a.lba == b.lba)) = false) (h0p : ¬ (a.lba = b.lba)) : r7Same_G a b (Bool.false) :=
  leafR vw_eq (k := 300) (r := []) (hs := hz [(11, [.no, .no, .no, .no, .no, .no]), (24, [])]) (raw := (AV.b Bool.false)) kq (ac h0 (ac h0 (ac h0 (ac h0 (ac h0 (ac h0 an)))))) tq
theorem r7Same_ok (a : Ex) (b : Ex) (r : Bool) : r7Same a b = some r → r7Same_G a b r := by
  unfold r7Same
  refine tb_ok (fun h0 => ?_) (fun h0 => ?_)
  ·
    have h0p := eq_of_beq h0
    refine tb_ok (fun h1 => ?_) (fun h1 => ?_)
    ·
      have h1p := eq_of_beq h1
      refine tb_ok (fun h2 => ?_) (fun h2 => ?_)
      ·
        have h2p := eq_of_beq h2
        refine tb_ok (fun h3 => ?_) (fun h3 => ?_)
        ·
          have h3p := eq_of_beq h3
          exact fun e => tl_ok (G := r7Same_G a b) (r7Same_l0 a b h0 h0p h1 h1p h2 h2p h3 h3p) e
        ·
          have h3p := ne_of_beq_false h3
          exact fun e => tl_ok (G := r7Same_G a b) (r7Same_l1 a b h0 h0p h1 h1p h2 h2p h3 h3p) e
      ·
        have h2p := ne_of_beq_false h2
        exact fun e => tl_ok (G := r7Same_G a b) (r7Same_l2 a b h0 h0p h1 h1p h2 h2p) e
    ·
      have h1p := ne_of_beq_false h1
      exact fun e => tl_ok (G := r7Same_G a b) (r7Same_l3 a b h0 h0p h1 h1p) e
  ·
    have h0p := ne_of_beq_false h0
    exact fun e => tl_ok (G := r7Same_G a b) (r7Same_l4 a b h0 h0p) e
noncomputable abbrev r7All_L0_I (a : List Ex) (b : List Ex) : St := (St.mk [((0 : Nat), (AV.sl (List.length a) (List.flatMap Ex.cells a))), ((1 : Nat), (AV.sl (List.length b) (List.flatMap Ex.cells b))), ((4 : Nat), (AV.b Bool.false)), ((7 : Nat), (AV.sl (List.length a) (List.flatMap Ex.cells a))), ((8 : Nat), (AV.i (↑(List.length a) : Int))), ((9 : Nat), (AV.sl (List.length b) (List.flatMap Ex.cells b))), ((10 : Nat), (AV.i (↑(List.length b) : Int))), ((11 : Nat), (AV.b ((↑(List.length a) : Int) != (↑(List.length b) : Int)))), ((5 : Nat), (AV.i 0))] 29 (AH.mk 0 ([] : List (Prod Nat AObj))) Bool.false)
noncomputable abbrev r7All_L0_S (a : List Ex) (b : List Ex) (s1 : Int) : St := (St.mk [((0 : Nat), (AV.sl (List.length a) (List.flatMap Ex.cells a))), ((1 : Nat), (AV.sl (List.length b) (List.flatMap Ex.cells b))), ((11 : Nat), (AV.b ((↑(List.length a) : Int) != (↑(List.length b) : Int)))), ((5 : Nat), (AV.i s1))] 29 (AH.mk 0 ([] : List (Prod Nat AObj))) Bool.false)
noncomputable def r7All_L0_step (a : List Ex) (b : List Ex) (s1 : Int) : Option (Int) :=
 (tb ((decide (s1 < (↑(List.length a) : Int))))
  (tp ((((0 : Int) ≤ s1) ∧ (s1 < (↑(List.length a) : Int))))
   (tp ((((0 : Int) ≤ s1) ∧ (s1 < (↑(List.length b) : Int))))
    (tc (r7Same ((exAt a (Int.toNat s1))) ((exAt b (Int.toNat s1)))) fun s5 =>
     (tb ((!s5))
      none /- exit -/
      (some ((wr (s1 + (1 : Int)))))))))
  none /- exit -/)
theorem r7All_L0_s0 (a : List Ex) (b : List Ex) (s1 : Int) (h2 : ((decide (s1 < (↑(List.length a) : Int)))) = true) (h2p : (s1 < (↑(List.length a) : Int))) (h3 : (((0 : Int) ≤ s1) ∧ (s1 < (↑(List.length a) : Int)))) (h4 : (((0 : Int) ≤ s1) ∧ (s1 < (↑(List.length b) : Int)))) (s5 : Bool) (h5 : r7Same ((exAt a (Int.toNat s1))) ((exAt b (Int.toNat s1))) = some s5) (h6 : ((!s5)) = false) : EvStep Try.prog cf 0 (lp Try.prog 31 0) (r7All_L0_S a b s1) (r7All_L0_S a b ((wr (s1 + (1 : Int))))) :=
  leafS vw_eq (k := 300) (r := []) (hs := hz [(4, [.yes]), (2, [.yes, .yes, .cells ((Ex.cells (exAt a (Int.toNat s1))))]), (2, [.yes, .yes, .cells ((Ex.cells (exAt b (Int.toNat s1))))]), (1, [.fres (.b (s5))]), (1, [.yes]), (2, [.no]), (3, [])]) (st1 := (St.mk [((0 : Nat), (AV.sl (List.length a) (List.flatMap Ex.cells a))), ((1 : Nat), (AV.sl (List.length b) (List.flatMap Ex.cells b))), ((11 : Nat), (AV.b ((↑(List.length a) : Int) != (↑(List.length b) : Int)))), ((5 : Nat), (AV.i (wr (s1 + (1 : Int))))), ((12 : Nat), (AV.i s1)), ((13 : Nat), (AV.sl (List.length a) (List.flatMap Ex.cells a))), ((14 : Nat), (AV.i (↑(List.length a) : Int))), ((15 : Nat), (AV.b (decide (s1 < (↑(List.length a) : Int))))), ((18 : Nat), (AV.sl (List.length a) (List.flatMap Ex.cells a))), ((19 : Nat), (AV.i s1)), ((20 : Nat), (AV.ip (List.drop ((Int.toNat s1) * (5 : Nat)) (List.flatMap Ex.cells a)))), ((21 : Nat), (AV.ag [(AV.i (exAt a (Int.toNat s1)).lba), (AV.i (exAt a (Int.toNat s1)).len), (AV.i (exAt a (Int.toNat s1)).kind), (AV.i (exAt a (Int.toNat s1)).gen), (AV.sl (List.length (exAt a (Int.toNat s1)).d) (List.map AV.y (exAt a (Int.toNat s1)).d))])), ((22 : Nat), (AV.sl (List.length b) (List.flatMap Ex.cells b))), ((23 : Nat), (AV.i s1)), ((24 : Nat), (AV.ip (List.drop ((Int.toNat s1) * (5 : Nat)) (List.flatMap Ex.cells b)))), ((25 : Nat), (AV.ag [(AV.i (exAt b (Int.toNat s1)).lba), (AV.i (exAt b (Int.toNat s1)).len), (AV.i (exAt b (Int.toNat s1)).kind), (AV.i (exAt b (Int.toNat s1)).gen), (AV.sl (List.length (exAt b (Int.toNat s1)).d) (List.map AV.y (exAt b (Int.toNat s1)).d))])), ((26 : Nat), (AV.b s5)), ((6 : Nat), (AV.b s5)), ((27 : Nat), (AV.b s5)), ((28 : Nat), (AV.b (!s5))), ((16 : Nat), (AV.i s1)), ((17 : Nat), (AV.i (wr (s1 + (1 : Int)))))] 29 (AH.mk 0 ([] : List (Prod Nat AObj))) Bool.false)) kq (ac h2 (ac h3 (ac (fq (p := ((5 : Nat) ≤ (List.length (List.drop ((Int.toNat s1) * (5 : Nat)) (List.flatMap Ex.cells a)))))) (ac (show (List.take 5 (List.drop ((Int.toNat s1) * (5 : Nat)) (List.flatMap Ex.cells a))) = (Ex.cells (exAt a (Int.toNat s1))) from (ex_takeO bq bq)) (ac h4 (ac (fq (p := ((5 : Nat) ≤ (List.length (List.drop ((Int.toNat s1) * (5 : Nat)) (List.flatMap Ex.cells b)))))) (ac (show (List.take 5 (List.drop ((Int.toNat s1) * (5 : Nat)) (List.flatMap Ex.cells b))) = (Ex.cells (exAt b (Int.toNat s1))) from (ex_takeO bq bq)) (ac (r7Same_ok ((exAt a (Int.toNat s1))) ((exAt b (Int.toNat s1))) _ h5).any0 (ac (show orderOk (rg Try.prog 31 0) = true ∧ allOk (Region.before (rg Try.prog 31 0)) [] 0 [(some [], some []), (some [], some []), (some [], some []), (some [], some []), (some [], some []), (some [], some []), (some [], some []), (some [], some []), (some [], some []), (some [], some [])] = true from (ord_of ord_31_0 bef_31_0 kq)) (ac h6 an)))))))))) (Nat.le_of_ble_eq_true rfl) (absB_of [] [] kq (.consn kq (.eqv tq rfl) (.consn kq (.eqv tq rfl) (.consn kq (.eqv tq rfl) (.consn kq (.eqv tq rfl) .nil)))) .nil)
theorem r7All_L0_ok (a : List Ex) (b : List Ex) (s1 zz : Int) : r7All_L0_step a b s1 = some zz → EvStep Try.prog cf 0 (lp Try.prog 31 0) (r7All_L0_S a b s1) (r7All_L0_S a b zz) := by
  unfold r7All_L0_step
  refine tb_ok (fun h2 => ?_) (fun h2 => ?_)
  ·
    have h2p := of_decide_eq_true h2
    refine tp_ok (fun h3 => ?_)
    refine tp_ok (fun h4 => ?_)
    refine tc_ok (fun s5 h5 => ?_)
    refine tb_ok (fun h6 => ?_) (fun h6 => ?_)
    ·
      exact fun e => nomatch e
    ·
      exact fun e => tl_ok (G := (fun zz => EvStep Try.prog cf 0 (lp Try.prog 31 0) (r7All_L0_S a b s1) (r7All_L0_S a b zz))) (r7All_L0_s0 a b s1 h2 h2p h3 h4 s5 h5 h6) e
  ·
    have h2p := of_decide_eq_false h2
    exact fun e => nomatch e
/-- Function 31, as it answers. -/
noncomputable def r7All (a : List Ex) (b : List Ex) : Option (Bool) :=
 (tb (((↑(List.length a) : Int) != (↑(List.length b) : Int)))
  (some (Bool.false))
  (th (r7All_L0_step a b) ((0 : Int)) fun s1 =>
   (tb ((decide (s1 < (↑(List.length a) : Int))))
    (tp ((((0 : Int) ≤ s1) ∧ (s1 < (↑(List.length a) : Int))))
     (tc (r7Same ((exAt a (Int.toNat s1))) ((exAt b (Int.toNat s1)))) fun s4 =>
      (tb ((!s4))
       (some (Bool.false))
       none /- stop behind an operation -/)))
    (some (Bool.true)))))
abbrev r7All_G (a : List Ex) (b : List Ex) (r : Bool) : Prop := EvFr Try.prog cf true 31 [exs (a), exs (b)] (.b (r))
theorem r7All_l0 (a : List Ex) (b : List Ex) (h0 : (((↑(List.length a) : Int) != (↑(List.length b) : Int))) = true) (h0p : ¬ ((↑(List.length a) : Int) = (↑(List.length b) : Int))) : r7All_G a b (Bool.false) :=
  leafR vw_eq (k := 300) (r := []) (hs := hz [(6, [.yes]), (1, [])]) (raw := (AV.b Bool.false)) kq (ac h0 an) tq
theorem r7All_l1 (a : List Ex) (b : List Ex) (h0 : (((↑(List.length a) : Int) != (↑(List.length b) : Int))) = false) (h0p : ((↑(List.length a) : Int) = (↑(List.length b) : Int))) (s1 : Int) (h1 : Runs (r7All_L0_step a b) ((0 : Int)) s1) (h2 : ((decide (s1 < (↑(List.length a) : Int)))) = true) (h2p : (s1 < (↑(List.length a) : Int))) (h3 : (((0 : Int) ≤ s1) ∧ (s1 < (↑(List.length a) : Int)))) (s4 : Bool) (h4 : r7Same ((exAt a (Int.toNat s1))) ((exAt b (Int.toNat s1))) = some s4) (h5 : ((!s4)) = true) : r7All_G a b (Bool.false) :=
  leafR vw_eq (k := 300) (r := []) (hs := hz [(6, [.no]), (1, [.head (r7All_L0_S a b s1)]), (4, [.yes]), (2, [.yes, .yes, .cells ((Ex.cells (exAt a (Int.toNat s1))))]), (2, [.yes, .yes, .cells ((Ex.cells (exAt b (Int.toNat s1))))]), (1, [.fres (.b (s4))]), (1, [.yes]), (2, [.yes]), (1, [])]) (raw := (AV.b Bool.false)) kq (ac h0 (ac (show EvHead Try.prog cf (lp Try.prog 31 0) (r7All_L0_I a b) (r7All_L0_S a b s1) from (EvHead.of (r7All_L0_ok a b) (absB_of [] [] kq (.consn kq (.eqv tq rfl) (.consn kq (.eqv tq rfl) (.consn kq (.eqv tq rfl) (.consn kq (.eqv tq rfl) .nil)))) .nil) h1)) (ac h2 (ac h3 (ac (fq (p := ((5 : Nat) ≤ (List.length (List.drop ((Int.toNat s1) * (5 : Nat)) (List.flatMap Ex.cells a)))))) (ac (show (List.take 5 (List.drop ((Int.toNat s1) * (5 : Nat)) (List.flatMap Ex.cells a))) = (Ex.cells (exAt a (Int.toNat s1))) from (ex_takeO bq bq)) (ac (fq (p := (((0 : Int) ≤ s1) ∧ (s1 < (↑(List.length b) : Int))))) (ac (fq (p := ((5 : Nat) ≤ (List.length (List.drop ((Int.toNat s1) * (5 : Nat)) (List.flatMap Ex.cells b)))))) (ac (show (List.take 5 (List.drop ((Int.toNat s1) * (5 : Nat)) (List.flatMap Ex.cells b))) = (Ex.cells (exAt b (Int.toNat s1))) from (ex_takeO bq bq)) (ac (r7Same_ok ((exAt a (Int.toNat s1))) ((exAt b (Int.toNat s1))) _ h4).any0 (ac (show orderOk (rg Try.prog 31 0) = true ∧ allOk (Region.before (rg Try.prog 31 0)) [] 0 [(some [], some []), (some [], some []), (some [], some []), (some [], some []), (some [], some []), (some [], some []), (some [], some []), (some [], some []), (some [], some []), (some [], some [])] = true from (ord_of ord_31_0 bef_31_0 kq)) (ac h5 an)))))))))))) tq
theorem r7All_l2 (a : List Ex) (b : List Ex) (h0 : (((↑(List.length a) : Int) != (↑(List.length b) : Int))) = false) (h0p : ((↑(List.length a) : Int) = (↑(List.length b) : Int))) (s1 : Int) (h1 : Runs (r7All_L0_step a b) ((0 : Int)) s1) (h2 : ((decide (s1 < (↑(List.length a) : Int)))) = false) (h2p : ¬ (s1 < (↑(List.length a) : Int))) : r7All_G a b (Bool.true) :=
  leafR vw_eq (k := 300) (r := []) (hs := hz [(6, [.no]), (1, [.head (r7All_L0_S a b s1)]), (4, [.no]), (1, [])]) (raw := (AV.b Bool.true)) kq (ac h0 (ac (show EvHead Try.prog cf (lp Try.prog 31 0) (r7All_L0_I a b) (r7All_L0_S a b s1) from (EvHead.of (r7All_L0_ok a b) (absB_of [] [] kq (.consn kq (.eqv tq rfl) (.consn kq (.eqv tq rfl) (.consn kq (.eqv tq rfl) (.consn kq (.eqv tq rfl) .nil)))) .nil) h1)) (ac h2 an))) tq
theorem r7All_ok (a : List Ex) (b : List Ex) (r : Bool) : r7All a b = some r → r7All_G a b r := by
  unfold r7All
  refine tb_ok (fun h0 => ?_) (fun h0 => ?_)
  ·
    have h0p := bne_iff_ne.1 h0
    exact fun e => tl_ok (G := r7All_G a b) (r7All_l0 a b h0 h0p) e
  ·
    have h0p := bne_eq_false_iff_eq.1 h0
    refine th_ok (fun s1 h1 => ?_)
    refine tb_ok (fun h2 => ?_) (fun h2 => ?_)
    ·
      have h2p := of_decide_eq_true h2
      refine tp_ok (fun h3 => ?_)
      refine tc_ok (fun s4 h4 => ?_)
      refine tb_ok (fun h5 => ?_) (fun h5 => ?_)
      ·
        exact fun e => tl_ok (G := r7All_G a b) (r7All_l1 a b h0 h0p s1 h1 h2 h2p h3 s4 h4 h5) e
      ·
        exact fun e => nomatch e
    ·
      have h2p := of_decide_eq_false h2
      exact fun e => tl_ok (G := r7All_G a b) (r7All_l2 a b h0 h0p s1 h1 h2 h2p) e
noncomputable abbrev r8Check_L0_I (blocks : Int) (l : List Ex) : St := (St.mk [((0 : Nat), (AV.i blocks)), ((1 : Nat), (AV.sl (List.length l) (List.flatMap Ex.cells l))), ((4 : Nat), (AV.b Bool.false)), ((9 : Nat), (AV.i blocks)), ((10 : Nat), (AV.b (decide (blocks < (1 : Int))))), ((11 : Nat), (AV.b (decide (blocks < (1 : Int))))), ((12 : Nat), (AV.i blocks)), ((13 : Nat), (AV.b (decide (blocks > (64 : Int))))), ((14 : Nat), (AV.b (decide (blocks > (64 : Int))))), ((5 : Nat), (AV.i 0)), ((6 : Nat), (AV.i 0))] 60 (AH.mk 0 ([] : List (Prod Nat AObj))) Bool.false)
noncomputable abbrev r8Check_L0_S (blocks : Int) (l : List Ex) (s2 : Int × Int) : St := (St.mk [((0 : Nat), (AV.i blocks)), ((1 : Nat), (AV.sl (List.length l) (List.flatMap Ex.cells l))), ((14 : Nat), (AV.b (decide (blocks > (64 : Int))))), ((5 : Nat), (AV.i s2.1)), ((6 : Nat), (AV.i s2.2))] 60 (AH.mk 0 ([] : List (Prod Nat AObj))) Bool.false)
noncomputable def r8Check_L0_step (blocks : Int) (l : List Ex) (s2 : Int × Int) : Option (Int × Int) :=
 (tb ((decide (s2.2 < (↑(List.length l) : Int))))
  (tp ((((0 : Int) ≤ s2.2) ∧ (s2.2 < (↑(List.length l) : Int))))
   (tc (r7Check ((exAt l (Int.toNat s2.2)))) fun s5 =>
    (tb ((!s5))
     none /- exit -/
     (tb (((exAt l (Int.toNat s2.2)).lba != s2.1))
      none /- exit -/
      (tb ((decide (s2.2 > (0 : Int))))
       (tp ((((0 : Int) ≤ (wr (s2.2 - (1 : Int)))) ∧ ((wr (s2.2 - (1 : Int))) < (↑(List.length l) : Int))))
        (tc (r7Joins ((exAt l (Int.toNat (wr (s2.2 - (1 : Int)))))) ((exAt l (Int.toNat s2.2)))) fun s10 =>
         (tb (s10)
          none /- exit -/
          (some (((wr (s2.1 + (exAt l (Int.toNat s2.2)).len)), (wr (s2.2 + (1 : Int)))))))))
       (some (((wr (s2.1 + (exAt l (Int.toNat s2.2)).len)), (wr (s2.2 + (1 : Int)))))))))))
  none /- exit -/)
theorem r8Check_L0_s0 (blocks : Int) (l : List Ex) (s2 : Int × Int) (h3 : ((decide (s2.2 < (↑(List.length l) : Int)))) = true) (h3p : (s2.2 < (↑(List.length l) : Int))) (h4 : (((0 : Int) ≤ s2.2) ∧ (s2.2 < (↑(List.length l) : Int)))) (s5 : Bool) (h5 : r7Check ((exAt l (Int.toNat s2.2))) = some s5) (h6 : ((!s5)) = false) (h7 : (((exAt l (Int.toNat s2.2)).lba != s2.1)) = false) (h7p : ((exAt l (Int.toNat s2.2)).lba = s2.1)) (h8 : ((decide (s2.2 > (0 : Int)))) = true) (h8p : (s2.2 > (0 : Int))) (h9 : (((0 : Int) ≤ (wr (s2.2 - (1 : Int)))) ∧ ((wr (s2.2 - (1 : Int))) < (↑(List.length l) : Int)))) (s10 : Bool) (h10 : r7Joins ((exAt l (Int.toNat (wr (s2.2 - (1 : Int)))))) ((exAt l (Int.toNat s2.2))) = some s10) (h11 : (s10) = false) : EvStep Try.prog cf 0 (lp Try.prog 70 0) (r8Check_L0_S blocks l s2) (r8Check_L0_S blocks l (((wr (s2.1 + (exAt l (Int.toNat s2.2)).len)), (wr (s2.2 + (1 : Int)))))) :=
  leafS vw_eq (k := 300) (r := []) (hs := hz [(4, [.yes]), (2, [.yes, .yes, .cells ((Ex.cells (exAt l (Int.toNat s2.2))))]), (1, [.fres (.b (s5))]), (4, [.no]), (1, [.no]), (1, [.no, .yes, .no]), (1, [.no, .yes, .val ((AV.i (exAt l (Int.toNat s2.2)).lba)), .no]), (1, [.no]), (1, [.no, .no]), (2, [.yes]), (3, [.yes, .yes, .cells ((Ex.cells (exAt l (Int.toNat (wr (s2.2 - (1 : Int)))))))]), (2, [.yes, .yes, .cells ((Ex.cells (exAt l (Int.toNat s2.2))))]), (1, [.fres (.b (s10))]), (1, [.yes]), (1, [.no]), (3, [.yes]), (1, [.yes, .val ((AV.i (exAt l (Int.toNat s2.2)).len))]), (5, [])]) (st1 := (St.mk [((0 : Nat), (AV.i blocks)), ((1 : Nat), (AV.sl (List.length l) (List.flatMap Ex.cells l))), ((14 : Nat), (AV.b (decide (blocks > (64 : Int))))), ((5 : Nat), (AV.i (wr (s2.1 + (exAt l (Int.toNat s2.2)).len)))), ((6 : Nat), (AV.i (wr (s2.2 + (1 : Int))))), ((15 : Nat), (AV.i s2.2)), ((16 : Nat), (AV.sl (List.length l) (List.flatMap Ex.cells l))), ((17 : Nat), (AV.i (↑(List.length l) : Int))), ((18 : Nat), (AV.b (decide (s2.2 < (↑(List.length l) : Int))))), ((21 : Nat), (AV.sl (List.length l) (List.flatMap Ex.cells l))), ((22 : Nat), (AV.i s2.2)), ((23 : Nat), (AV.ip (List.drop ((Int.toNat s2.2) * (5 : Nat)) (List.flatMap Ex.cells l)))), ((24 : Nat), (AV.ag [(AV.i (exAt l (Int.toNat s2.2)).lba), (AV.i (exAt l (Int.toNat s2.2)).len), (AV.i (exAt l (Int.toNat s2.2)).kind), (AV.i (exAt l (Int.toNat s2.2)).gen), (AV.sl (List.length (exAt l (Int.toNat s2.2)).d) (List.map AV.y (exAt l (Int.toNat s2.2)).d))])), ((25 : Nat), (AV.b s5)), ((7 : Nat), (AV.b s5)), ((26 : Nat), (AV.b s5)), ((27 : Nat), (AV.b (!s5))), ((28 : Nat), (AV.b (!s5))), ((29 : Nat), (AV.sl (List.length l) (List.flatMap Ex.cells l))), ((30 : Nat), (AV.i s2.2)), ((31 : Nat), (AV.ip (List.drop ((Int.toNat s2.2) * (5 : Nat)) (List.flatMap Ex.cells l)))), ((32 : Nat), (AV.ip (List.drop ((Int.toNat s2.2) * (5 : Nat)) (List.flatMap Ex.cells l)))), ((33 : Nat), (AV.i (exAt l (Int.toNat s2.2)).lba)), ((34 : Nat), (AV.i s2.1)), ((35 : Nat), (AV.b ((exAt l (Int.toNat s2.2)).lba != s2.1))), ((36 : Nat), (AV.b ((exAt l (Int.toNat s2.2)).lba != s2.1))), ((37 : Nat), (AV.i s2.2)), ((38 : Nat), (AV.b (decide (s2.2 > (0 : Int))))), ((39 : Nat), (AV.sl (List.length l) (List.flatMap Ex.cells l))), ((40 : Nat), (AV.i s2.2)), ((41 : Nat), (AV.i (wr (s2.2 - (1 : Int))))), ((42 : Nat), (AV.ip (List.drop ((Int.toNat (wr (s2.2 - (1 : Int)))) * (5 : Nat)) (List.flatMap Ex.cells l)))), ((43 : Nat), (AV.ag [(AV.i (exAt l (Int.toNat (wr (s2.2 - (1 : Int))))).lba), (AV.i (exAt l (Int.toNat (wr (s2.2 - (1 : Int))))).len), (AV.i (exAt l (Int.toNat (wr (s2.2 - (1 : Int))))).kind), (AV.i (exAt l (Int.toNat (wr (s2.2 - (1 : Int))))).gen), (AV.sl (List.length (exAt l (Int.toNat (wr (s2.2 - (1 : Int))))).d) (List.map AV.y (exAt l (Int.toNat (wr (s2.2 - (1 : Int))))).d))])), ((44 : Nat), (AV.sl (List.length l) (List.flatMap Ex.cells l))), ((45 : Nat), (AV.i s2.2)), ((46 : Nat), (AV.ip (List.drop ((Int.toNat s2.2) * (5 : Nat)) (List.flatMap Ex.cells l)))), ((47 : Nat), (AV.ag [(AV.i (exAt l (Int.toNat s2.2)).lba), (AV.i (exAt l (Int.toNat s2.2)).len), (AV.i (exAt l (Int.toNat s2.2)).kind), (AV.i (exAt l (Int.toNat s2.2)).gen), (AV.sl (List.length (exAt l (Int.toNat s2.2)).d) (List.map AV.y (exAt l (Int.toNat s2.2)).d))])), ((48 : Nat), (AV.b s10)), ((8 : Nat), (AV.b s10)), ((49 : Nat), (AV.b s10)), ((50 : Nat), (AV.i s2.1)), ((51 : Nat), (AV.sl (List.length l) (List.flatMap Ex.cells l))), ((52 : Nat), (AV.i s2.2)), ((53 : Nat), (AV.ip (List.drop ((Int.toNat s2.2) * (5 : Nat)) (List.flatMap Ex.cells l)))), ((54 : Nat), (AV.ip (List.drop 1 (List.drop ((Int.toNat s2.2) * (5 : Nat)) (List.flatMap Ex.cells l))))), ((55 : Nat), (AV.i (exAt l (Int.toNat s2.2)).len)), ((56 : Nat), (AV.i (wr (s2.1 + (exAt l (Int.toNat s2.2)).len)))), ((19 : Nat), (AV.i s2.2)), ((20 : Nat), (AV.i (wr (s2.2 + (1 : Int)))))] 60 (AH.mk 0 ([] : List (Prod Nat AObj))) Bool.false)) kq (ac h3 (ac h4 (ac (fq (p := ((5 : Nat) ≤ (List.length (List.drop ((Int.toNat s2.2) * (5 : Nat)) (List.flatMap Ex.cells l)))))) (ac (show (List.take 5 (List.drop ((Int.toNat s2.2) * (5 : Nat)) (List.flatMap Ex.cells l))) = (Ex.cells (exAt l (Int.toNat s2.2))) from (ex_takeO bq bq)) (ac (r7Check_ok ((exAt l (Int.toNat s2.2))) _ h5).any0 (ac h6 (ac h6 (ac h6 (ac h4 (ac h6 (ac h6 (ac (fq (p := ((1 : Nat) ≤ (List.length (List.drop ((Int.toNat s2.2) * (5 : Nat)) (List.flatMap Ex.cells l)))))) (ac (show (List.take 1 (List.drop ((Int.toNat s2.2) * (5 : Nat)) (List.flatMap Ex.cells l))) = [(AV.i (exAt l (Int.toNat s2.2)).lba)] from (by first | exact ex_one0 _ _ _ bq rfl | (simpa using ex_one (l) ((Int.toNat s2.2)) 0 _ bq rfl))) (ac h6 (ac h6 (ac h6 (ac h7 (ac h8 (ac h9 (ac (fq (p := ((5 : Nat) ≤ (List.length (List.drop ((Int.toNat (wr (s2.2 - (1 : Int)))) * (5 : Nat)) (List.flatMap Ex.cells l)))))) (ac (show (List.take 5 (List.drop ((Int.toNat (wr (s2.2 - (1 : Int)))) * (5 : Nat)) (List.flatMap Ex.cells l))) = (Ex.cells (exAt l (Int.toNat (wr (s2.2 - (1 : Int)))))) from (ex_takeO bq bq)) (ac h4 (ac (fq (p := ((5 : Nat) ≤ (List.length (List.drop ((Int.toNat s2.2) * (5 : Nat)) (List.flatMap Ex.cells l)))))) (ac (show (List.take 5 (List.drop ((Int.toNat s2.2) * (5 : Nat)) (List.flatMap Ex.cells l))) = (Ex.cells (exAt l (Int.toNat s2.2))) from (ex_takeO bq bq)) (ac (r7Joins_ok ((exAt l (Int.toNat (wr (s2.2 - (1 : Int)))))) ((exAt l (Int.toNat s2.2))) _ h10).any0 (ac (show orderOk (rg Try.prog 70 0) = true ∧ allOk (Region.before (rg Try.prog 70 0)) [] 0 [(some [], some []), (some [], some []), (some [], some []), (some [], some []), (some [], some []), (some [], some []), (some [], some []), (some [], some []), (some [], some []), (some [], some []), (some [], some [])] = true from (ord_of ord_70_0 bef_70_0 kq)) (ac h11 (ac h4 (ac (fq (p := ((1 : Nat) ≤ (List.length (List.drop 1 (List.drop ((Int.toNat s2.2) * (5 : Nat)) (List.flatMap Ex.cells l))))))) (ac (show (List.take 1 (List.drop 1 (List.drop ((Int.toNat s2.2) * (5 : Nat)) (List.flatMap Ex.cells l)))) = [(AV.i (exAt l (Int.toNat s2.2)).len)] from (by first | exact ex_one _ _ _ _ bq rfl | exact ex_oneA _ _ _ _ bq rfl | (simpa using ex_one (l) ((Int.toNat s2.2)) 1 _ bq rfl) | ((try simp only [List.drop_drop]); rw [show ((1 : Nat) + ((Int.toNat s2.2) * (5 : Nat))) = ((Int.toNat s2.2)) * 5 + 1 by omega]; exact ex_oneA (l) ((Int.toNat s2.2)) 1 _ bq rfl))) an)))))))))))))))))))))))))))))) (Nat.le_of_ble_eq_true rfl) (absB_of [] [] kq (.consn kq (.eqv tq rfl) (.consn kq (.eqv tq rfl) (.consn kq (.eqv tq rfl) (.consn kq (.eqv tq rfl) (.consn kq (.eqv tq rfl) .nil))))) .nil)
theorem r8Check_L0_s1 (blocks : Int) (l : List Ex) (s2 : Int × Int) (h3 : ((decide (s2.2 < (↑(List.length l) : Int)))) = true) (h3p : (s2.2 < (↑(List.length l) : Int))) (h4 : (((0 : Int) ≤ s2.2) ∧ (s2.2 < (↑(List.length l) : Int)))) (s5 : Bool) (h5 : r7Check ((exAt l (Int.toNat s2.2))) = some s5) (h6 : ((!s5)) = false) (h7 : (((exAt l (Int.toNat s2.2)).lba != s2.1)) = false) (h7p : ((exAt l (Int.toNat s2.2)).lba = s2.1)) (h8 : ((decide (s2.2 > (0 : Int)))) = false) (h8p : ¬ (s2.2 > (0 : Int))) : EvStep Try.prog cf 0 (lp Try.prog 70 0) (r8Check_L0_S blocks l s2) (r8Check_L0_S blocks l (((wr (s2.1 + (exAt l (Int.toNat s2.2)).len)), (wr (s2.2 + (1 : Int)))))) :=
  leafS vw_eq (k := 300) (r := []) (hs := hz [(4, [.yes]), (2, [.yes, .yes, .cells ((Ex.cells (exAt l (Int.toNat s2.2))))]), (1, [.fres (.b (s5))]), (4, [.no]), (1, [.no]), (1, [.no, .yes, .no]), (1, [.no, .yes, .val ((AV.i (exAt l (Int.toNat s2.2)).lba)), .no]), (1, [.no]), (1, [.no, .no]), (2, [.no]), (3, [.yes]), (1, [.yes, .val ((AV.i (exAt l (Int.toNat s2.2)).len))]), (5, [])]) (st1 := (St.mk [((0 : Nat), (AV.i blocks)), ((1 : Nat), (AV.sl (List.length l) (List.flatMap Ex.cells l))), ((14 : Nat), (AV.b (decide (blocks > (64 : Int))))), ((5 : Nat), (AV.i (wr (s2.1 + (exAt l (Int.toNat s2.2)).len)))), ((6 : Nat), (AV.i (wr (s2.2 + (1 : Int))))), ((15 : Nat), (AV.i s2.2)), ((16 : Nat), (AV.sl (List.length l) (List.flatMap Ex.cells l))), ((17 : Nat), (AV.i (↑(List.length l) : Int))), ((18 : Nat), (AV.b (decide (s2.2 < (↑(List.length l) : Int))))), ((21 : Nat), (AV.sl (List.length l) (List.flatMap Ex.cells l))), ((22 : Nat), (AV.i s2.2)), ((23 : Nat), (AV.ip (List.drop ((Int.toNat s2.2) * (5 : Nat)) (List.flatMap Ex.cells l)))), ((24 : Nat), (AV.ag [(AV.i (exAt l (Int.toNat s2.2)).lba), (AV.i (exAt l (Int.toNat s2.2)).len), (AV.i (exAt l (Int.toNat s2.2)).kind), (AV.i (exAt l (Int.toNat s2.2)).gen), (AV.sl (List.length (exAt l (Int.toNat s2.2)).d) (List.map AV.y (exAt l (Int.toNat s2.2)).d))])), ((25 : Nat), (AV.b s5)), ((7 : Nat), (AV.b s5)), ((26 : Nat), (AV.b s5)), ((27 : Nat), (AV.b (!s5))), ((28 : Nat), (AV.b (!s5))), ((29 : Nat), (AV.sl (List.length l) (List.flatMap Ex.cells l))), ((30 : Nat), (AV.i s2.2)), ((31 : Nat), (AV.ip (List.drop ((Int.toNat s2.2) * (5 : Nat)) (List.flatMap Ex.cells l)))), ((32 : Nat), (AV.ip (List.drop ((Int.toNat s2.2) * (5 : Nat)) (List.flatMap Ex.cells l)))), ((33 : Nat), (AV.i (exAt l (Int.toNat s2.2)).lba)), ((34 : Nat), (AV.i s2.1)), ((35 : Nat), (AV.b ((exAt l (Int.toNat s2.2)).lba != s2.1))), ((36 : Nat), (AV.b ((exAt l (Int.toNat s2.2)).lba != s2.1))), ((37 : Nat), (AV.i s2.2)), ((38 : Nat), (AV.b (decide (s2.2 > (0 : Int))))), ((50 : Nat), (AV.i s2.1)), ((51 : Nat), (AV.sl (List.length l) (List.flatMap Ex.cells l))), ((52 : Nat), (AV.i s2.2)), ((53 : Nat), (AV.ip (List.drop ((Int.toNat s2.2) * (5 : Nat)) (List.flatMap Ex.cells l)))), ((54 : Nat), (AV.ip (List.drop 1 (List.drop ((Int.toNat s2.2) * (5 : Nat)) (List.flatMap Ex.cells l))))), ((55 : Nat), (AV.i (exAt l (Int.toNat s2.2)).len)), ((56 : Nat), (AV.i (wr (s2.1 + (exAt l (Int.toNat s2.2)).len)))), ((19 : Nat), (AV.i s2.2)), ((20 : Nat), (AV.i (wr (s2.2 + (1 : Int)))))] 60 (AH.mk 0 ([] : List (Prod Nat AObj))) Bool.false)) kq (ac h3 (ac h4 (ac (fq (p := ((5 : Nat) ≤ (List.length (List.drop ((Int.toNat s2.2) * (5 : Nat)) (List.flatMap Ex.cells l)))))) (ac (show (List.take 5 (List.drop ((Int.toNat s2.2) * (5 : Nat)) (List.flatMap Ex.cells l))) = (Ex.cells (exAt l (Int.toNat s2.2))) from (ex_takeO bq bq)) (ac (r7Check_ok ((exAt l (Int.toNat s2.2))) _ h5).any0 (ac h6 (ac h6 (ac h6 (ac h4 (ac h6 (ac h6 (ac (fq (p := ((1 : Nat) ≤ (List.length (List.drop ((Int.toNat s2.2) * (5 : Nat)) (List.flatMap Ex.cells l)))))) (ac (show (List.take 1 (List.drop ((Int.toNat s2.2) * (5 : Nat)) (List.flatMap Ex.cells l))) = [(AV.i (exAt l (Int.toNat s2.2)).lba)] from (by first | exact ex_one0 _ _ _ bq rfl | (simpa using ex_one (l) ((Int.toNat s2.2)) 0 _ bq rfl))) (ac h6 (ac h6 (ac h6 (ac h7 (ac h8 (ac h4 (ac (fq (p := ((1 : Nat) ≤ (List.length (List.drop 1 (List.drop ((Int.toNat s2.2) * (5 : Nat)) (List.flatMap Ex.cells l))))))) (ac (show (List.take 1 (List.drop 1 (List.drop ((Int.toNat s2.2) * (5 : Nat)) (List.flatMap Ex.cells l)))) = [(AV.i (exAt l (Int.toNat s2.2)).len)] from (by first | exact ex_one _ _ _ _ bq rfl | exact ex_oneA _ _ _ _ bq rfl | (simpa using ex_one (l) ((Int.toNat s2.2)) 1 _ bq rfl) | ((try simp only [List.drop_drop]); rw [show ((1 : Nat) + ((Int.toNat s2.2) * (5 : Nat))) = ((Int.toNat s2.2)) * 5 + 1 by omega]; exact ex_oneA (l) ((Int.toNat s2.2)) 1 _ bq rfl))) an))))))))))))))))))))) (Nat.le_of_ble_eq_true rfl) (absB_of [] [] kq (.consn kq (.eqv tq rfl) (.consn kq (.eqv tq rfl) (.consn kq (.eqv tq rfl) (.consn kq (.eqv tq rfl) (.consn kq (.eqv tq rfl) .nil))))) .nil)
theorem r8Check_L0_ok (blocks : Int) (l : List Ex) (s2 zz : Int × Int) : r8Check_L0_step blocks l s2 = some zz → EvStep Try.prog cf 0 (lp Try.prog 70 0) (r8Check_L0_S blocks l s2) (r8Check_L0_S blocks l zz) := by
  unfold r8Check_L0_step
  refine tb_ok (fun h3 => ?_) (fun h3 => ?_)
  ·
    have h3p := of_decide_eq_true h3
    refine tp_ok (fun h4 => ?_)
    refine tc_ok (fun s5 h5 => ?_)
    refine tb_ok (fun h6 => ?_) (fun h6 => ?_)
    ·
      exact fun e => nomatch e
    ·
      refine tb_ok (fun h7 => ?_) (fun h7 => ?_)
      ·
        have h7p := bne_iff_ne.1 h7
        exact fun e => nomatch e
      ·
        have h7p := bne_eq_false_iff_eq.1 h7
        refine tb_ok (fun h8 => ?_) (fun h8 => ?_)
        ·
          have h8p := of_decide_eq_true h8
          refine tp_ok (fun h9 => ?_)
          refine tc_ok (fun s10 h10 => ?_)
          refine tb_ok (fun h11 => ?_) (fun h11 => ?_)
          ·
            exact fun e => nomatch e
          ·
            exact fun e => tl_ok (G := (fun zz => EvStep Try.prog cf 0 (lp Try.prog 70 0) (r8Check_L0_S blocks l s2) (r8Check_L0_S blocks l zz))) (r8Check_L0_s0 blocks l s2 h3 h3p h4 s5 h5 h6 h7 h7p h8 h8p h9 s10 h10 h11) e
        ·
          have h8p := of_decide_eq_false h8
          exact fun e => tl_ok (G := (fun zz => EvStep Try.prog cf 0 (lp Try.prog 70 0) (r8Check_L0_S blocks l s2) (r8Check_L0_S blocks l zz))) (r8Check_L0_s1 blocks l s2 h3 h3p h4 s5 h5 h6 h7 h7p h8 h8p) e
  ·
    have h3p := of_decide_eq_false h3
    exact fun e => nomatch e
/-- Function 70, as it answers. -/
noncomputable def r8Check (blocks : Int) (l : List Ex) : Option (Bool) :=
 (tb ((decide (blocks < (1 : Int))))
  (some (Bool.false))
  (tb ((decide (blocks > (64 : Int))))
   (some (Bool.false))
   (th (r8Check_L0_step blocks l) (((0 : Int), (0 : Int))) fun s2 =>
    (tb ((decide (s2.2 < (↑(List.length l) : Int))))
     (tp ((((0 : Int) ≤ s2.2) ∧ (s2.2 < (↑(List.length l) : Int))))
      (tc (r7Check ((exAt l (Int.toNat s2.2)))) fun s5 =>
       (tb ((!s5))
        (some (Bool.false))
        (tb (((exAt l (Int.toNat s2.2)).lba != s2.1))
         (some (Bool.false))
         (tb ((decide (s2.2 > (0 : Int))))
          (tp ((((0 : Int) ≤ (wr (s2.2 - (1 : Int)))) ∧ ((wr (s2.2 - (1 : Int))) < (↑(List.length l) : Int))))
           (tc (r7Joins ((exAt l (Int.toNat (wr (s2.2 - (1 : Int)))))) ((exAt l (Int.toNat s2.2)))) fun s10 =>
            (tb (s10)
             (some (Bool.false))
             none /- stop behind an operation -/)))
          none /- stop behind an operation -/)))))
     (some ((s2.1 == blocks)))))))
abbrev r8Check_G (blocks : Int) (l : List Ex) (r : Bool) : Prop := EvFr Try.prog cf true 70 [.i (blocks), exs (l)] (.b (r))
theorem r8Check_l0 (blocks : Int) (l : List Ex) (h0 : ((decide (blocks < (1 : Int)))) = true) (h0p : (blocks < (1 : Int))) : r8Check_G blocks l (Bool.false) :=
  leafR vw_eq (k := 300) (r := []) (hs := hz [(4, [.yes, .yes, .yes]), (2, [])]) (raw := (AV.b Bool.false)) kq (ac h0 (ac h0 (ac h0 an))) tq
theorem r8Check_l1 (blocks : Int) (l : List Ex) (h0 : ((decide (blocks < (1 : Int)))) = false) (h0p : ¬ (blocks < (1 : Int))) (h1 : ((decide (blocks > (64 : Int)))) = true) (h1p : (blocks > (64 : Int))) : r8Check_G blocks l (Bool.false) :=
  leafR vw_eq (k := 300) (r := []) (hs := hz [(4, [.no]), (1, [.no]), (1, [.no, .yes]), (1, [])]) (raw := (AV.b Bool.false)) kq (ac h0 (ac h0 (ac h0 (ac h1 an)))) tq
theorem r8Check_l2 (blocks : Int) (l : List Ex) (h0 : ((decide (blocks < (1 : Int)))) = false) (h0p : ¬ (blocks < (1 : Int))) (h1 : ((decide (blocks > (64 : Int)))) = false) (h1p : ¬ (blocks > (64 : Int))) (s2 : Int × Int) (h2 : Runs (r8Check_L0_step blocks l) (((0 : Int), (0 : Int))) s2) (h3 : ((decide (s2.2 < (↑(List.length l) : Int)))) = true) (h3p : (s2.2 < (↑(List.length l) : Int))) (h4 : (((0 : Int) ≤ s2.2) ∧ (s2.2 < (↑(List.length l) : Int)))) (s5 : Bool) (h5 : r7Check ((exAt l (Int.toNat s2.2))) = some s5) (h6 : ((!s5)) = true) : r8Check_G blocks l (Bool.false) :=
  leafR vw_eq (k := 300) (r := []) (hs := hz [(4, [.no]), (1, [.no]), (1, [.no, .no]), (2, [.head (r8Check_L0_S blocks l s2)]), (4, [.yes]), (2, [.yes, .yes, .cells ((Ex.cells (exAt l (Int.toNat s2.2))))]), (1, [.fres (.b (s5))]), (4, [.yes, .yes, .yes, .yes, .yes, .yes, .yes, .yes]), (2, [])]) (raw := (AV.b Bool.false)) kq (ac h0 (ac h0 (ac h0 (ac h1 (ac (show EvHead Try.prog cf (lp Try.prog 70 0) (r8Check_L0_I blocks l) (r8Check_L0_S blocks l s2) from (EvHead.of (r8Check_L0_ok blocks l) (absB_of [] [] kq (.consn kq (.eqv tq rfl) (.consn kq (.eqv tq rfl) (.consn kq (.eqv tq rfl) (.consn kq (.eqv tq rfl) (.consn kq (.eqv tq rfl) .nil))))) .nil) h2)) (ac h3 (ac h4 (ac (fq (p := ((5 : Nat) ≤ (List.length (List.drop ((Int.toNat s2.2) * (5 : Nat)) (List.flatMap Ex.cells l)))))) (ac (show (List.take 5 (List.drop ((Int.toNat s2.2) * (5 : Nat)) (List.flatMap Ex.cells l))) = (Ex.cells (exAt l (Int.toNat s2.2))) from (ex_takeO bq bq)) (ac (r7Check_ok ((exAt l (Int.toNat s2.2))) _ h5).any0 (ac h6 (ac h6 (ac h6 (ac h6 (ac h6 (ac h6 (ac h6 (ac h6 an)))))))))))))))))) tq
theorem r8Check_l3 (blocks : Int) (l : List Ex) (h0 : ((decide (blocks < (1 : Int)))) = false) (h0p : ¬ (blocks < (1 : Int))) (h1 : ((decide (blocks > (64 : Int)))) = false) (h1p : ¬ (blocks > (64 : Int))) (s2 : Int × Int) (h2 : Runs (r8Check_L0_step blocks l) (((0 : Int), (0 : Int))) s2) (h3 : ((decide (s2.2 < (↑(List.length l) : Int)))) = true) (h3p : (s2.2 < (↑(List.length l) : Int))) (h4 : (((0 : Int) ≤ s2.2) ∧ (s2.2 < (↑(List.length l) : Int)))) (s5 : Bool) (h5 : r7Check ((exAt l (Int.toNat s2.2))) = some s5) (h6 : ((!s5)) = false) (h7 : (((exAt l (Int.toNat s2.2)).lba != s2.1)) = true) (h7p : ¬ ((exAt l (Int.toNat s2.2)).lba = s2.1)) : r8Check_G blocks l (Bool.false) :=
  leafR vw_eq (k := 300) (r := []) (hs := hz [(4, [.no]), (1, [.no]), (1, [.no, .no]), (2, [.head (r8Check_L0_S blocks l s2)]), (4, [.yes]), (2, [.yes, .yes, .cells ((Ex.cells (exAt l (Int.toNat s2.2))))]), (1, [.fres (.b (s5))]), (4, [.no]), (1, [.no]), (1, [.no, .yes, .no]), (1, [.no, .yes, .val ((AV.i (exAt l (Int.toNat s2.2)).lba)), .no]), (1, [.no]), (1, [.no, .yes]), (1, [])]) (raw := (AV.b Bool.false)) kq (ac h0 (ac h0 (ac h0 (ac h1 (ac (show EvHead Try.prog cf (lp Try.prog 70 0) (r8Check_L0_I blocks l) (r8Check_L0_S blocks l s2) from (EvHead.of (r8Check_L0_ok blocks l) (absB_of [] [] kq (.consn kq (.eqv tq rfl) (.consn kq (.eqv tq rfl) (.consn kq (.eqv tq rfl) (.consn kq (.eqv tq rfl) (.consn kq (.eqv tq rfl) .nil))))) .nil) h2)) (ac h3 (ac h4 (ac (fq (p := ((5 : Nat) ≤ (List.length (List.drop ((Int.toNat s2.2) * (5 : Nat)) (List.flatMap Ex.cells l)))))) (ac (show (List.take 5 (List.drop ((Int.toNat s2.2) * (5 : Nat)) (List.flatMap Ex.cells l))) = (Ex.cells (exAt l (Int.toNat s2.2))) from (ex_takeO bq bq)) (ac (r7Check_ok ((exAt l (Int.toNat s2.2))) _ h5).any0 (ac h6 (ac h6 (ac h6 (ac h4 (ac h6 (ac h6 (ac (fq (p := ((1 : Nat) ≤ (List.length (List.drop ((Int.toNat s2.2) * (5 : Nat)) (List.flatMap Ex.cells l)))))) (ac (show (List.take 1 (List.drop ((Int.toNat s2.2) * (5 : Nat)) (List.flatMap Ex.cells l))) = [(AV.i (exAt l (Int.toNat s2.2)).lba)] from (by first | exact ex_one0 _ _ _ bq rfl | (simpa using ex_one (l) ((Int.toNat s2.2)) 0 _ bq rfl))) (ac h6 (ac h6 (ac h6 (ac h7 an)))))))))))))))))))))) tq
theorem r8Check_l4 (blocks : Int) (l : List Ex) (h0 : ((decide (blocks < (1 : Int)))) = false) (h0p : ¬ (blocks < (1 : Int))) (h1 : ((decide (blocks > (64 : Int)))) = false) (h1p : ¬ (blocks > (64 : Int))) (s2 : Int × Int) (h2 : Runs (r8Check_L0_step blocks l) (((0 : Int), (0 : Int))) s2) (h3 : ((decide (s2.2 < (↑(List.length l) : Int)))) = true) (h3p : (s2.2 < (↑(List.length l) : Int))) (h4 : (((0 : Int) ≤ s2.2) ∧ (s2.2 < (↑(List.length l) : Int)))) (s5 : Bool) (h5 : r7Check ((exAt l (Int.toNat s2.2))) = some s5) (h6 : ((!s5)) = false) (h7 : (((exAt l (Int.toNat s2.2)).lba != s2.1)) = false) (h7p : ((exAt l (Int.toNat s2.2)).lba = s2.1)) (h8 : ((decide (s2.2 > (0 : Int)))) = true) (h8p : (s2.2 > (0 : Int))) (h9 : (((0 : Int) ≤ (wr (s2.2 - (1 : Int)))) ∧ ((wr (s2.2 - (1 : Int))) < (↑(List.length l) : Int)))) (s10 : Bool) (h10 : r7Joins ((exAt l (Int.toNat (wr (s2.2 - (1 : Int)))))) ((exAt l (Int.toNat s2.2))) = some s10) (h11 : (s10) = true) : r8Check_G blocks l (Bool.false) :=
  leafR vw_eq (k := 300) (r := []) (hs := hz [(4, [.no]), (1, [.no]), (1, [.no, .no]), (2, [.head (r8Check_L0_S blocks l s2)]), (4, [.yes]), (2, [.yes, .yes, .cells ((Ex.cells (exAt l (Int.toNat s2.2))))]), (1, [.fres (.b (s5))]), (4, [.no]), (1, [.no]), (1, [.no, .yes, .no]), (1, [.no, .yes, .val ((AV.i (exAt l (Int.toNat s2.2)).lba)), .no]), (1, [.no]), (1, [.no, .no]), (2, [.yes]), (3, [.yes, .yes, .cells ((Ex.cells (exAt l (Int.toNat (wr (s2.2 - (1 : Int)))))))]), (2, [.yes, .yes, .cells ((Ex.cells (exAt l (Int.toNat s2.2))))]), (1, [.fres (.b (s10))]), (1, [.yes]), (1, [.yes]), (1, [])]) (raw := (AV.b Bool.false)) kq (ac h0 (ac h0 (ac h0 (ac h1 (ac (show EvHead Try.prog cf (lp Try.prog 70 0) (r8Check_L0_I blocks l) (r8Check_L0_S blocks l s2) from (EvHead.of (r8Check_L0_ok blocks l) (absB_of [] [] kq (.consn kq (.eqv tq rfl) (.consn kq (.eqv tq rfl) (.consn kq (.eqv tq rfl) (.consn kq (.eqv tq rfl) (.consn kq (.eqv tq rfl) .nil))))) .nil) h2)) (ac h3 (ac h4 (ac (fq (p := ((5 : Nat) ≤ (List.length (List.drop ((Int.toNat s2.2) * (5 : Nat)) (List.flatMap Ex.cells l)))))) (ac (show (List.take 5 (List.drop ((Int.toNat s2.2) * (5 : Nat)) (List.flatMap Ex.cells l))) = (Ex.cells (exAt l (Int.toNat s2.2))) from (ex_takeO bq bq)) (ac (r7Check_ok ((exAt l (Int.toNat s2.2))) _ h5).any0 (ac h6 (ac h6 (ac h6 (ac h4 (ac h6 (ac h6 (ac (fq (p := ((1 : Nat) ≤ (List.length (List.drop ((Int.toNat s2.2) * (5 : Nat)) (List.flatMap Ex.cells l)))))) (ac (show (List.take 1 (List.drop ((Int.toNat s2.2) * (5 : Nat)) (List.flatMap Ex.cells l))) = [(AV.i (exAt l (Int.toNat s2.2)).lba)] from (by first | exact ex_one0 _ _ _ bq rfl | (simpa using ex_one (l) ((Int.toNat s2.2)) 0 _ bq rfl))) (ac h6 (ac h6 (ac h6 (ac h7 (ac h8 (ac h9 (ac (fq (p := ((5 : Nat) ≤ (List.length (List.drop ((Int.toNat (wr (s2.2 - (1 : Int)))) * (5 : Nat)) (List.flatMap Ex.cells l)))))) (ac (show (List.take 5 (List.drop ((Int.toNat (wr (s2.2 - (1 : Int)))) * (5 : Nat)) (List.flatMap Ex.cells l))) = (Ex.cells (exAt l (Int.toNat (wr (s2.2 - (1 : Int)))))) from (ex_takeO bq bq)) (ac h4 (ac (fq (p := ((5 : Nat) ≤ (List.length (List.drop ((Int.toNat s2.2) * (5 : Nat)) (List.flatMap Ex.cells l)))))) (ac (show (List.take 5 (List.drop ((Int.toNat s2.2) * (5 : Nat)) (List.flatMap Ex.cells l))) = (Ex.cells (exAt l (Int.toNat s2.2))) from (ex_takeO bq bq)) (ac (r7Joins_ok ((exAt l (Int.toNat (wr (s2.2 - (1 : Int)))))) ((exAt l (Int.toNat s2.2))) _ h10).any0 (ac (show orderOk (rg Try.prog 70 0) = true ∧ allOk (Region.before (rg Try.prog 70 0)) [] 0 [(some [], some []), (some [], some []), (some [], some []), (some [], some []), (some [], some []), (some [], some []), (some [], some []), (some [], some []), (some [], some []), (some [], some []), (some [], some [])] = true from (ord_of ord_70_0 bef_70_0 kq)) (ac h11 an)))))))))))))))))))))))))))))))) tq
theorem r8Check_l5 (blocks : Int) (l : List Ex) (h0 : ((decide (blocks < (1 : Int)))) = false) (h0p : ¬ (blocks < (1 : Int))) (h1 : ((decide (blocks > (64 : Int)))) = false) (h1p : ¬ (blocks > (64 : Int))) (s2 : Int × Int) (h2 : Runs (r8Check_L0_step blocks l) (((0 : Int), (0 : Int))) s2) (h3 : ((decide (s2.2 < (↑(List.length l) : Int)))) = false) (h3p : ¬ (s2.2 < (↑(List.length l) : Int))) : r8Check_G blocks l ((s2.1 == blocks)) :=
  leafR vw_eq (k := 300) (r := []) (hs := hz [(4, [.no]), (1, [.no]), (1, [.no, .no]), (2, [.head (r8Check_L0_S blocks l s2)]), (4, [.no]), (4, [])]) (raw := (AV.b (s2.1 == blocks))) kq (ac h0 (ac h0 (ac h0 (ac h1 (ac (show EvHead Try.prog cf (lp Try.prog 70 0) (r8Check_L0_I blocks l) (r8Check_L0_S blocks l s2) from (EvHead.of (r8Check_L0_ok blocks l) (absB_of [] [] kq (.consn kq (.eqv tq rfl) (.consn kq (.eqv tq rfl) (.consn kq (.eqv tq rfl) (.consn kq (.eqv tq rfl) (.consn kq (.eqv tq rfl) .nil))))) .nil) h2)) (ac h3 an)))))) tq
theorem r8Check_ok (blocks : Int) (l : List Ex) (r : Bool) : r8Check blocks l = some r → r8Check_G blocks l r := by
  unfold r8Check
  refine tb_ok (fun h0 => ?_) (fun h0 => ?_)
  ·
    have h0p := of_decide_eq_true h0
    exact fun e => tl_ok (G := r8Check_G blocks l) (r8Check_l0 blocks l h0 h0p) e
  ·
    have h0p := of_decide_eq_false h0
    refine tb_ok (fun h1 => ?_) (fun h1 => ?_)
    ·
      have h1p := of_decide_eq_true h1
      exact fun e => tl_ok (G := r8Check_G blocks l) (r8Check_l1 blocks l h0 h0p h1 h1p) e
    ·
      have h1p := of_decide_eq_false h1
      refine th_ok (fun s2 h2 => ?_)
      refine tb_ok (fun h3 => ?_) (fun h3 => ?_)
      ·
        have h3p := of_decide_eq_true h3
        refine tp_ok (fun h4 => ?_)
        refine tc_ok (fun s5 h5 => ?_)
        refine tb_ok (fun h6 => ?_) (fun h6 => ?_)
        ·
          exact fun e => tl_ok (G := r8Check_G blocks l) (r8Check_l2 blocks l h0 h0p h1 h1p s2 h2 h3 h3p h4 s5 h5 h6) e
        ·
          refine tb_ok (fun h7 => ?_) (fun h7 => ?_)
          ·
            have h7p := bne_iff_ne.1 h7
            exact fun e => tl_ok (G := r8Check_G blocks l) (r8Check_l3 blocks l h0 h0p h1 h1p s2 h2 h3 h3p h4 s5 h5 h6 h7 h7p) e
          ·
            have h7p := bne_eq_false_iff_eq.1 h7
            refine tb_ok (fun h8 => ?_) (fun h8 => ?_)
            ·
              have h8p := of_decide_eq_true h8
              refine tp_ok (fun h9 => ?_)
              refine tc_ok (fun s10 h10 => ?_)
              refine tb_ok (fun h11 => ?_) (fun h11 => ?_)
              ·
                exact fun e => tl_ok (G := r8Check_G blocks l) (r8Check_l4 blocks l h0 h0p h1 h1p s2 h2 h3 h3p h4 s5 h5 h6 h7 h7p h8 h8p h9 s10 h10 h11) e
              ·
                exact fun e => nomatch e
            ·
              have h8p := of_decide_eq_false h8
              exact fun e => nomatch e
      ·
        have h3p := of_decide_eq_false h3
        exact fun e => tl_ok (G := r8Check_G blocks l) (r8Check_l5 blocks l h0 h0p h1 h1p s2 h2 h3 h3p) e
noncomputable abbrev numbers_L0_I (a : List Int) (b : List Int) : St := (St.mk [((0 : Nat), (AV.sl (List.length a) (List.map AV.i a))), ((1 : Nat), (AV.sl (List.length b) (List.map AV.i b))), ((4 : Nat), (AV.b Bool.false)), ((6 : Nat), (AV.sl (List.length a) (List.map AV.i a))), ((7 : Nat), (AV.i (↑(List.length a) : Int))), ((8 : Nat), (AV.sl (List.length b) (List.map AV.i b))), ((9 : Nat), (AV.i (↑(List.length b) : Int))), ((10 : Nat), (AV.b ((↑(List.length a) : Int) != (↑(List.length b) : Int)))), ((5 : Nat), (AV.i 0))] 26 (AH.mk 0 ([] : List (Prod Nat AObj))) Bool.false)
noncomputable abbrev numbers_L0_S (a : List Int) (b : List Int) (s1 : Int) : St := (St.mk [((0 : Nat), (AV.sl (List.length a) (List.map AV.i a))), ((1 : Nat), (AV.sl (List.length b) (List.map AV.i b))), ((10 : Nat), (AV.b ((↑(List.length a) : Int) != (↑(List.length b) : Int)))), ((5 : Nat), (AV.i s1))] 26 (AH.mk 0 ([] : List (Prod Nat AObj))) Bool.false)
noncomputable def numbers_L0_step (a : List Int) (b : List Int) (s1 : Int) : Option (Int) :=
 (tb ((decide (s1 < (↑(List.length a) : Int))))
  (tp ((((0 : Int) ≤ s1) ∧ (s1 < (↑(List.length a) : Int))))
   (tp ((((0 : Int) ≤ s1) ∧ (s1 < (↑(List.length b) : Int))))
    (tb (((List.getD a ((Int.toNat s1) * (1 : Nat)) (0 : Int)) != (List.getD b ((Int.toNat s1) * (1 : Nat)) (0 : Int))))
     none /- exit -/
     (some ((wr (s1 + (1 : Int))))))))
  none /- exit -/)
theorem numbers_L0_s0 (a : List Int) (b : List Int) (s1 : Int) (h2 : ((decide (s1 < (↑(List.length a) : Int)))) = true) (h2p : (s1 < (↑(List.length a) : Int))) (h3 : (((0 : Int) ≤ s1) ∧ (s1 < (↑(List.length a) : Int)))) (h4 : (((0 : Int) ≤ s1) ∧ (s1 < (↑(List.length b) : Int)))) (h5 : (((List.getD a ((Int.toNat s1) * (1 : Nat)) (0 : Int)) != (List.getD b ((Int.toNat s1) * (1 : Nat)) (0 : Int)))) = false) (h5p : ((List.getD a ((Int.toNat s1) * (1 : Nat)) (0 : Int)) = (List.getD b ((Int.toNat s1) * (1 : Nat)) (0 : Int)))) : EvStep Try.prog cf 0 (lp Try.prog 23 0) (numbers_L0_S a b s1) (numbers_L0_S a b ((wr (s1 + (1 : Int))))) :=
  leafS vw_eq (k := 300) (r := []) (hs := hz [(4, [.yes]), (2, [.yes, .yes, .val ((AV.i (List.getD a ((Int.toNat s1) * (1 : Nat)) (0 : Int))))]), (2, [.yes, .yes, .val ((AV.i (List.getD b ((Int.toNat s1) * (1 : Nat)) (0 : Int))))]), (1, [.yes, .no]), (3, [])]) (st1 := (St.mk [((0 : Nat), (AV.sl (List.length a) (List.map AV.i a))), ((1 : Nat), (AV.sl (List.length b) (List.map AV.i b))), ((10 : Nat), (AV.b ((↑(List.length a) : Int) != (↑(List.length b) : Int)))), ((5 : Nat), (AV.i (wr (s1 + (1 : Int))))), ((11 : Nat), (AV.i s1)), ((12 : Nat), (AV.sl (List.length a) (List.map AV.i a))), ((13 : Nat), (AV.i (↑(List.length a) : Int))), ((14 : Nat), (AV.b (decide (s1 < (↑(List.length a) : Int))))), ((17 : Nat), (AV.sl (List.length a) (List.map AV.i a))), ((18 : Nat), (AV.i s1)), ((19 : Nat), (AV.ip (List.drop ((Int.toNat s1) * (1 : Nat)) (List.map AV.i a)))), ((20 : Nat), (AV.i (List.getD a ((Int.toNat s1) * (1 : Nat)) (0 : Int)))), ((21 : Nat), (AV.sl (List.length b) (List.map AV.i b))), ((22 : Nat), (AV.i s1)), ((23 : Nat), (AV.ip (List.drop ((Int.toNat s1) * (1 : Nat)) (List.map AV.i b)))), ((24 : Nat), (AV.i (List.getD b ((Int.toNat s1) * (1 : Nat)) (0 : Int)))), ((25 : Nat), (AV.b ((List.getD a ((Int.toNat s1) * (1 : Nat)) (0 : Int)) != (List.getD b ((Int.toNat s1) * (1 : Nat)) (0 : Int))))), ((15 : Nat), (AV.i s1)), ((16 : Nat), (AV.i (wr (s1 + (1 : Int)))))] 26 (AH.mk 0 ([] : List (Prod Nat AObj))) Bool.false)) kq (ac h2 (ac h3 (ac (fq (p := ((1 : Nat) ≤ (List.length (List.drop ((Int.toNat s1) * (1 : Nat)) (List.map AV.i a)))))) (ac (show (List.take 1 (List.drop ((Int.toNat s1) * (1 : Nat)) (List.map AV.i a))) = [(AV.i (List.getD a ((Int.toNat s1) * (1 : Nat)) (0 : Int)))] from (by (try simp only [List.drop_drop]); exact one_drop_iC (l := a) tq bq)) (ac h4 (ac (fq (p := ((1 : Nat) ≤ (List.length (List.drop ((Int.toNat s1) * (1 : Nat)) (List.map AV.i b)))))) (ac (show (List.take 1 (List.drop ((Int.toNat s1) * (1 : Nat)) (List.map AV.i b))) = [(AV.i (List.getD b ((Int.toNat s1) * (1 : Nat)) (0 : Int)))] from (by (try simp only [List.drop_drop]); exact one_drop_iC (l := b) tq bq)) (ac (show orderOk (rg Try.prog 23 0) = true ∧ allOk (Region.before (rg Try.prog 23 0)) [] 0 [(some [], some []), (some [], some []), (some [], some []), (some [], some []), (some [], some []), (some [], some []), (some [], some []), (some [], some []), (some [], some [])] = true from (ord_of ord_23_0 bef_23_0 kq)) (ac h5 an))))))))) (Nat.le_of_ble_eq_true rfl) (absB_of [] [] kq (.consn kq (.eqv tq rfl) (.consn kq (.eqv tq rfl) (.consn kq (.eqv tq rfl) (.consn kq (.eqv tq rfl) .nil)))) .nil)
theorem numbers_L0_ok (a : List Int) (b : List Int) (s1 zz : Int) : numbers_L0_step a b s1 = some zz → EvStep Try.prog cf 0 (lp Try.prog 23 0) (numbers_L0_S a b s1) (numbers_L0_S a b zz) := by
  unfold numbers_L0_step
  refine tb_ok (fun h2 => ?_) (fun h2 => ?_)
  ·
    have h2p := of_decide_eq_true h2
    refine tp_ok (fun h3 => ?_)
    refine tp_ok (fun h4 => ?_)
    refine tb_ok (fun h5 => ?_) (fun h5 => ?_)
    ·
      have h5p := bne_iff_ne.1 h5
      exact fun e => nomatch e
    ·
      have h5p := bne_eq_false_iff_eq.1 h5
      exact fun e => tl_ok (G := (fun zz => EvStep Try.prog cf 0 (lp Try.prog 23 0) (numbers_L0_S a b s1) (numbers_L0_S a b zz))) (numbers_L0_s0 a b s1 h2 h2p h3 h4 h5 h5p) e
  ·
    have h2p := of_decide_eq_false h2
    exact fun e => nomatch e
/-- Function 23, as it answers. -/
noncomputable def numbers (a : List Int) (b : List Int) : Option (Bool) :=
 (tb (((↑(List.length a) : Int) != (↑(List.length b) : Int)))
  (some (Bool.false))
  (th (numbers_L0_step a b) ((0 : Int)) fun s1 =>
   (tb ((decide (s1 < (↑(List.length a) : Int))))
    (tp ((((0 : Int) ≤ s1) ∧ (s1 < (↑(List.length a) : Int))))
     (tb (((List.getD a ((Int.toNat s1) * (1 : Nat)) (0 : Int)) != (List.getD b ((Int.toNat s1) * (1 : Nat)) (0 : Int))))
      (some (Bool.false))
      none /- stop behind an operation -/))
    (some (Bool.true)))))
abbrev numbers_G (a : List Int) (b : List Int) (r : Bool) : Prop := EvFr Try.prog cf true 23 [ints (a), ints (b)] (.b (r))
theorem numbers_l0 (a : List Int) (b : List Int) (h0 : (((↑(List.length a) : Int) != (↑(List.length b) : Int))) = true) (h0p : ¬ ((↑(List.length a) : Int) = (↑(List.length b) : Int))) : numbers_G a b (Bool.false) :=
  leafR vw_eq (k := 300) (r := []) (hs := hz [(6, [.yes]), (1, [])]) (raw := (AV.b Bool.false)) kq (ac h0 an) tq
theorem numbers_l1 (a : List Int) (b : List Int) (h0 : (((↑(List.length a) : Int) != (↑(List.length b) : Int))) = false) (h0p : ((↑(List.length a) : Int) = (↑(List.length b) : Int))) (s1 : Int) (h1 : Runs (numbers_L0_step a b) ((0 : Int)) s1) (h2 : ((decide (s1 < (↑(List.length a) : Int)))) = true) (h2p : (s1 < (↑(List.length a) : Int))) (h3 : (((0 : Int) ≤ s1) ∧ (s1 < (↑(List.length a) : Int)))) (h4 : (((List.getD a ((Int.toNat s1) * (1 : Nat)) (0 : Int)) != (List.getD b ((Int.toNat s1) * (1 : Nat)) (0 : Int)))) = true) (h4p : ¬ ((List.getD a ((Int.toNat s1) * (1 : Nat)) (0 : Int)) = (List.getD b ((Int.toNat s1) * (1 : Nat)) (0 : Int)))) : numbers_G a b (Bool.false) :=
  leafR vw_eq (k := 300) (r := []) (hs := hz [(6, [.no]), (1, [.head (numbers_L0_S a b s1)]), (4, [.yes]), (2, [.yes, .yes, .val ((AV.i (List.getD a ((Int.toNat s1) * (1 : Nat)) (0 : Int))))]), (2, [.yes, .yes, .val ((AV.i (List.getD b ((Int.toNat s1) * (1 : Nat)) (0 : Int))))]), (1, [.yes, .yes]), (1, [])]) (raw := (AV.b Bool.false)) kq (ac h0 (ac (show EvHead Try.prog cf (lp Try.prog 23 0) (numbers_L0_I a b) (numbers_L0_S a b s1) from (EvHead.of (numbers_L0_ok a b) (absB_of [] [] kq (.consn kq (.eqv tq rfl) (.consn kq (.eqv tq rfl) (.consn kq (.eqv tq rfl) (.consn kq (.eqv tq rfl) .nil)))) .nil) h1)) (ac h2 (ac h3 (ac (fq (p := ((1 : Nat) ≤ (List.length (List.drop ((Int.toNat s1) * (1 : Nat)) (List.map AV.i a)))))) (ac (show (List.take 1 (List.drop ((Int.toNat s1) * (1 : Nat)) (List.map AV.i a))) = [(AV.i (List.getD a ((Int.toNat s1) * (1 : Nat)) (0 : Int)))] from (by (try simp only [List.drop_drop]); exact one_drop_iC (l := a) tq bq)) (ac (fq (p := (((0 : Int) ≤ s1) ∧ (s1 < (↑(List.length b) : Int))))) (ac (fq (p := ((1 : Nat) ≤ (List.length (List.drop ((Int.toNat s1) * (1 : Nat)) (List.map AV.i b)))))) (ac (show (List.take 1 (List.drop ((Int.toNat s1) * (1 : Nat)) (List.map AV.i b))) = [(AV.i (List.getD b ((Int.toNat s1) * (1 : Nat)) (0 : Int)))] from (by (try simp only [List.drop_drop]); exact one_drop_iC (l := b) tq bq)) (ac (show orderOk (rg Try.prog 23 0) = true ∧ allOk (Region.before (rg Try.prog 23 0)) [] 0 [(some [], some []), (some [], some []), (some [], some []), (some [], some []), (some [], some []), (some [], some []), (some [], some []), (some [], some []), (some [], some [])] = true from (ord_of ord_23_0 bef_23_0 kq)) (ac h4 an))))))))))) tq
theorem numbers_l2 (a : List Int) (b : List Int) (h0 : (((↑(List.length a) : Int) != (↑(List.length b) : Int))) = false) (h0p : ((↑(List.length a) : Int) = (↑(List.length b) : Int))) (s1 : Int) (h1 : Runs (numbers_L0_step a b) ((0 : Int)) s1) (h2 : ((decide (s1 < (↑(List.length a) : Int)))) = false) (h2p : ¬ (s1 < (↑(List.length a) : Int))) : numbers_G a b (Bool.true) :=
  leafR vw_eq (k := 300) (r := []) (hs := hz [(6, [.no]), (1, [.head (numbers_L0_S a b s1)]), (4, [.no]), (1, [])]) (raw := (AV.b Bool.true)) kq (ac h0 (ac (show EvHead Try.prog cf (lp Try.prog 23 0) (numbers_L0_I a b) (numbers_L0_S a b s1) from (EvHead.of (numbers_L0_ok a b) (absB_of [] [] kq (.consn kq (.eqv tq rfl) (.consn kq (.eqv tq rfl) (.consn kq (.eqv tq rfl) (.consn kq (.eqv tq rfl) .nil)))) .nil) h1)) (ac h2 an))) tq
theorem numbers_ok (a : List Int) (b : List Int) (r : Bool) : numbers a b = some r → numbers_G a b r := by
  unfold numbers
  refine tb_ok (fun h0 => ?_) (fun h0 => ?_)
  ·
    have h0p := bne_iff_ne.1 h0
    exact fun e => tl_ok (G := numbers_G a b) (numbers_l0 a b h0 h0p) e
  ·
    have h0p := bne_eq_false_iff_eq.1 h0
    refine th_ok (fun s1 h1 => ?_)
    refine tb_ok (fun h2 => ?_) (fun h2 => ?_)
    ·
      have h2p := of_decide_eq_true h2
      refine tp_ok (fun h3 => ?_)
      refine tb_ok (fun h4 => ?_) (fun h4 => ?_)
      ·
        have h4p := bne_iff_ne.1 h4
        exact fun e => tl_ok (G := numbers_G a b) (numbers_l1 a b h0 h0p s1 h1 h2 h2p h3 h4 h4p) e
      ·
        have h4p := bne_eq_false_iff_eq.1 h4
        exact fun e => nomatch e
    ·
      have h2p := of_decide_eq_false h2
      exact fun e => tl_ok (G := numbers_G a b) (numbers_l2 a b h0 h0p s1 h1 h2 h2p) e
end Ab
end Go.Proofs.Ytimcbhhebnikiaa
namespace Go.Proofs.Ytimcbhhebnikiaa
open Go Go.Proofs.Ytimcbhhebnikiaa.Ab
set_option linter.unusedVariables false
set_option linter.unusedSimpArgs false
namespace Ab
theorem wr_id {x : Int} (h1 : -9223372036854775808 ≤ x) (h2 : x ≤ 9223372036854775807) : wr x = x := by
  simp [wr, IntKind.wrap, IntKind.bits, IntKind.signed]
  omega
section
variable {α β σ : Type}
@[simp] theorem tb_t (x y : Option α) : tb true x y = x := rfl
@[simp] theorem tb_f (x y : Option α) : tb false x y = y := rfl
theorem tb_pos {c : Bool} {x y : Option α} (h : c = true) : tb c x y = x := by subst h; rfl
theorem tb_neg {c : Bool} {x y : Option α} (h : c = false) : tb c x y = y := by subst h; rfl
theorem tp_pos {p : Prop} [Decidable p] {x : Option α} (h : p) : tp p x = x := if_pos h
@[simp] theorem tc_some (s : β) (f : β → Option α) : tc (some s) f = f s := rfl
theorem tb_dec (p : Prop) [Decidable p] (x y : Option α) : tb (decide p) x y = if p then x else y := by
  by_cases h : p <;> simp [h]
theorem tb_beq (a b : Int) (x y : Option α) : tb (a == b) x y = if a = b then x else y := by
  by_cases h : a = b
  · rw [if_pos h]; exact tb_pos (beq_iff_eq.2 h)
  · rw [if_neg h]; exact tb_neg (beq_eq_false_iff_ne.2 h)
theorem tb_bne (a b : Int) (x y : Option α) : tb (a != b) x y = if a = b then y else x := by
  by_cases h : a = b
  · rw [if_pos h]; exact tb_neg (bne_eq_false_iff_eq.2 h)
  · rw [if_neg h]; exact tb_pos (bne_iff_ne.2 h)
theorem tb_not (c : Bool) (x y : Option α) : tb (!c) x y = tb c y x := by cases c <;> rfl
theorem th_run {step : σ → Option σ} {f : σ → Option α} (S : Nat → σ) (k : Nat) (hs : ∀ i, i < k → step (S i) = some (S (i + 1))) (he : step (S k) = none) : th step (S 0) f = f (S k) := by
  have : ∀ n, n ≤ k → Runs step (S (k - n)) (S k) := by
    intro n
    induction n with
    | zero => exact fun _ => .refl _
    | succ n ih =>
      intro hn
      refine .step (hs _ (by omega)) ?_
      rw [show k - (n + 1) + 1 = k - n by omega]
      exact ih (by omega)
  have h := this k (Nat.le_refl _)
  rw [Nat.sub_self] at h
  exact th_of h he rfl
/-- A loop that asks something of each place. -/
theorem th_all {step : Int → Option Int} {f : Int → Option α} (r1 r2 : Option α) (n : Nat) (P : Nat → Prop) (Q : Prop) [Decidable Q] (hQ : (∀ i, i < n → P i) ↔ Q) (hs : ∀ i : Nat, i < n → P i → step (i : Int) = some ((i : Int) + 1)) (hf : ∀ i : Nat, i < n → ¬ P i → step (i : Int) = none ∧ f (i : Int) = r1) (he : step (n : Int) = none ∧ f (n : Int) = r2) :
    th step 0 f = if Q then r2 else r1 := by
  by_cases h : ∀ i, i < n → P i
  · rw [if_pos (hQ.1 h)]
    have := th_run (step := step) (f := f) (fun i => (i : Int)) n (fun i hi => hs i hi (h i hi)) he.1
    simp only [Int.natCast_zero] at this
    rw [this]; exact he.2
  · rw [if_neg (fun g => h (hQ.2 g))]
    have hex : ∃ i, i < n ∧ ¬ P i := by
      refine Classical.byContradiction fun hn => h fun i hi => ?_
      exact Classical.byContradiction fun hp => hn ⟨i, hi, hp⟩
    have key : ∀ k, (∃ i, i < k ∧ i < n ∧ ¬ P i) → ∃ i, i < n ∧ ¬ P i ∧ ∀ j, j < i → P j := by
      intro k
      induction k with
      | zero => rintro ⟨i, hi, _⟩; omega
      | succ k ih =>
        rintro ⟨i, h1, h2, h3⟩
        by_cases hk : ∃ i, i < k ∧ i < n ∧ ¬ P i
        · exact ih hk
        · have hik : i = k := by
            rcases Nat.lt_or_ge i k with g | g
            · exact absurd ⟨i, g, h2, h3⟩ hk
            · omega
          refine ⟨i, h2, h3, fun j hj => ?_⟩
          exact Classical.byContradiction fun hp => hk ⟨j, by omega, by omega, hp⟩
    obtain ⟨i, h1, h2⟩ := hex
    obtain ⟨k, k1, k2, k3⟩ := key (i + 1) ⟨i, by omega, h1, h2⟩
    have := th_run (step := step) (f := f) (fun i => (i : Int)) k (fun i hi => hs i (by omega) (k3 i hi)) (hf k k1 k2).1
    simp only [Int.natCast_zero] at this
    rw [this]; exact (hf k k1 k2).2
end
theorem drop_at {α : Type} (d : α) (l : List α) (i : Nat) (h : i < l.length) : l.drop i = l.getD i d :: l.drop (i + 1) := by
  rw [List.drop_eq_getElem_cons h]; simp [h]
theorem take_at {α : Type} (d : α) (l : List α) (i : Nat) (h : i < l.length) : l.take (i + 1) = l.take i ++ [l.getD i d] := by
  rw [List.take_succ_eq_append_getElem h]; simp [h]
theorem getD_all {α : Type} (d : α) (l : List α) (p : α → Prop) : (∀ i, i < l.length → p (l.getD i d)) ↔ ∀ x ∈ l, p x := by
  refine ⟨fun h x hx => ?_, fun h i hi => h _ ?_⟩
  · obtain ⟨i, hi, e⟩ := List.getElem_of_mem hx
    have := h i hi
    rw [← e]
    simpa [hi] using this
  · simp [hi]
end Ab
end Go.Proofs.Ytimcbhhebnikiaa
namespace Go.Proofs.Ytimcbhhebnikiaa
open Go Go.Proofs.Ytimcbhhebnikiaa.Ab
set_option linter.unusedVariables false
set_option linter.unusedSimpArgs false
namespace Ab
/-- May an extent be? -/
def Ck (x : Ex) : Prop := 0 ≤ x.lba ∧ x.lba ≤ 64 ∧ 1 ≤ x.len ∧ x.len ≤ 64 - x.lba ∧ 0 ≤ x.kind ∧ x.kind ≤ 2 ∧ 0 ≤ x.gen ∧ x.gen ≤ 2147483647 ∧ (x.kind = 2 → (x.d.length : Int) = 32 * x.len) ∧ (x.kind ≠ 2 → x.d = [])
instance (x : Ex) : Decidable (Ck x) := by unfold Ck; infer_instance
def ck (x : Ex) : Bool := decide (Ck x)
theorem ck_iff {x : Ex} : ck x = true ↔ Ck x := decide_eq_true_iff
theorem len0 {α : Type} {l : List α} : ((l.length : Int) = 0) ↔ l = [] := by
  rw [← List.length_eq_zero_iff]; omega
theorem ck_t {x : Ex} (h : Ck x) : ck x = true := ck_iff.2 h
theorem ck_f {x : Ex} (h : ¬ Ck x) : ck x = false := decide_eq_false_iff_not.2 h
theorem eCheck_eq (x : Ex) : eCheck x = some (ck x) := by
  unfold eCheck
  simp only [tb_dec, tb_beq]
  by_cases h1 : x.lba ≥ 0
  case neg => rw [if_neg h1, ck_f (by unfold Ck; omega)]
  by_cases h2 : x.lba ≤ 64
  case neg => rw [if_pos h1, if_neg h2, ck_f (by unfold Ck; omega)]
  have hw : wr (64 - x.lba) = 64 - x.lba := wr_id (by omega) (by omega)
  rw [hw, if_pos h1, if_pos h2]
  by_cases h3 : x.len ≥ 1
  case neg => rw [if_neg h3, ck_f (by unfold Ck; omega)]
  by_cases h4 : x.len ≤ 64 - x.lba
  case neg => rw [if_pos h3, if_neg h4, ck_f (by unfold Ck; omega)]
  have hw2 : wr (x.len * 32) = x.len * 32 := wr_id (by omega) (by omega)
  rw [hw2, if_pos h3, if_pos h4]
  by_cases h5 : x.kind ≥ 0
  case neg => rw [if_neg h5, ck_f (by unfold Ck; omega)]
  by_cases h6 : x.kind ≤ 2
  case neg => rw [if_pos h5, if_neg h6, ck_f (by unfold Ck; omega)]
  by_cases h7 : x.gen ≥ 0
  case neg => rw [if_pos h5, if_pos h6, if_neg h7, ck_f (by unfold Ck; omega)]
  by_cases h8 : x.gen ≤ 2147483647
  case neg => rw [if_pos h5, if_pos h6, if_pos h7, if_neg h8, ck_f (by unfold Ck; omega)]
  rw [if_pos h5, if_pos h6, if_pos h7, if_pos h8]
  by_cases h9 : x.kind = 2
  · rw [if_pos h9]
    congr 1
    rw [Bool.eq_iff_iff, ck_iff, beq_iff_eq]
    exact ⟨fun h => ⟨h1, h2, h3, h4, h5, h6, h7, h8, fun _ => by omega, fun h' => absurd h9 h'⟩, fun h => by have := h.2.2.2.2.2.2.2.2.1 h9; omega⟩
  · rw [if_neg h9]
    congr 1
    rw [Bool.eq_iff_iff, ck_iff, beq_iff_eq, len0]
    exact ⟨fun h => ⟨h1, h2, h3, h4, h5, h6, h7, h8, fun h' => absurd h' h9, fun _ => h⟩, fun h => h.2.2.2.2.2.2.2.2.2 h9⟩
theorem r7Check_eq (x : Ex) : r7Check x = some (ck x) := by
  unfold r7Check
  simp only [tb_dec, tb_beq]
  by_cases h1 : x.lba < 0
  case pos => rw [if_pos h1, ck_f (by unfold Ck; omega)]
  by_cases h2 : x.lba > 64
  case pos => rw [if_neg h1, if_pos h2, ck_f (by unfold Ck; omega)]
  have hw : wr (64 - x.lba) = 64 - x.lba := wr_id (by omega) (by omega)
  rw [hw, if_neg h1, if_neg h2]
  by_cases h3 : x.len < 1
  case pos => rw [if_pos h3, ck_f (by unfold Ck; omega)]
  by_cases h4 : x.len > 64 - x.lba
  case pos => rw [if_neg h3, if_pos h4, ck_f (by unfold Ck; omega)]
  have hw2 : wr (32 * x.len) = 32 * x.len := wr_id (by omega) (by omega)
  rw [hw2, if_neg h3, if_neg h4]
  by_cases h5 : x.kind < 0
  case pos => rw [if_pos h5, ck_f (by unfold Ck; omega)]
  by_cases h6 : x.kind > 2
  case pos => rw [if_neg h5, if_pos h6, ck_f (by unfold Ck; omega)]
  by_cases h7 : x.gen < 0
  case pos => rw [if_neg h5, if_neg h6, if_pos h7, ck_f (by unfold Ck; omega)]
  by_cases h8 : x.gen ≥ 2147483648
  case pos => rw [if_neg h5, if_neg h6, if_neg h7, if_pos h8, ck_f (by unfold Ck; omega)]
  rw [if_neg h5, if_neg h6, if_neg h7, if_neg h8]
  by_cases h9 : x.kind = 2
  · rw [if_pos h9]
    congr 1
    rw [Bool.eq_iff_iff, ck_iff, beq_iff_eq]
    exact ⟨fun h => ⟨by omega, by omega, by omega, by omega, by omega, by omega, by omega, by omega, fun _ => by omega, fun h' => absurd h9 h'⟩, fun h => by have := h.2.2.2.2.2.2.2.2.1 h9; omega⟩
  · rw [if_neg h9]
    congr 1
    rw [Bool.eq_iff_iff, ck_iff, beq_iff_eq, len0]
    exact ⟨fun h => ⟨by omega, by omega, by omega, by omega, by omega, by omega, by omega, by omega, fun h' => absurd h' h9, fun _ => h⟩, fun h => h.2.2.2.2.2.2.2.2.2 h9⟩
/-- Does one go on another one? -/
def Jn (a b : Ex) : Prop := Ck a ∧ Ck b ∧ a.lba + a.len = b.lba ∧ a.kind = b.kind ∧ a.gen = b.gen
instance (a b : Ex) : Decidable (Jn a b) := by unfold Jn; infer_instance
def jn (a b : Ex) : Bool := decide (Jn a b)
theorem jn_iff {a b : Ex} : jn a b = true ↔ Jn a b := decide_eq_true_iff
theorem jn_f {a b : Ex} (h : ¬ Jn a b) : jn a b = false := decide_eq_false_iff_not.2 h
theorem jn_t {a b : Ex} (h : Jn a b) : jn a b = true := jn_iff.2 h
theorem eJoins_eq (a b : Ex) : eJoins a b = some (jn a b) := by
  unfold eJoins
  simp only [eCheck_eq, tc_some]
  by_cases ha : Ck a
  case neg => rw [ck_f ha, jn_f (fun h => ha h.1)]; first | rfl | (cases ck b <;> rfl)
  by_cases hb : Ck b
  case neg => rw [ck_t ha, ck_f hb, jn_f (fun h => hb h.2.1)]; rfl
  have : wr (a.lba + a.len) = a.lba + a.len := by unfold Ck at ha; exact wr_id (by omega) (by omega)
  rw [ck_t ha, ck_t hb, this]
  simp only [tb_t, tb_beq]
  by_cases h1 : a.lba + a.len = b.lba
  case neg => rw [if_neg h1, jn_f (fun h => h1 h.2.2.1)]
  by_cases h2 : a.kind = b.kind
  case neg => rw [if_pos h1, if_neg h2, jn_f (fun h => h2 h.2.2.2.1)]
  rw [if_pos h1, if_pos h2]
  congr 1
  rw [Bool.eq_iff_iff, jn_iff, beq_iff_eq]
  exact ⟨fun h => ⟨ha, hb, h1, h2, h⟩, fun h => h.2.2.2.2⟩
theorem r7Joins_eq (a b : Ex) : r7Joins a b = some (jn a b) := by
  unfold r7Joins
  simp only [r7Check_eq, tc_some]
  by_cases ha : Ck a
  case neg => rw [ck_f ha, jn_f (fun h => ha h.1)]; first | rfl | (cases ck b <;> rfl)
  by_cases hb : Ck b
  case neg => rw [ck_t ha, ck_f hb, jn_f (fun h => hb h.2.1)]; rfl
  have : wr (a.lba + a.len) = a.lba + a.len := by unfold Ck at ha; exact wr_id (by omega) (by omega)
  rw [ck_t ha, ck_t hb, this]
  simp only [tb_t, tb_beq]
  by_cases h1 : a.lba + a.len = b.lba
  case neg => rw [if_neg h1, jn_f (fun h => h1 h.2.2.1)]
  by_cases h2 : a.kind = b.kind
  case neg => rw [if_pos h1, if_neg h2, jn_f (fun h => h2 h.2.2.2.1)]
  rw [if_pos h1, if_pos h2]
  congr 1
  rw [Bool.eq_iff_iff, jn_iff, beq_iff_eq]
  exact ⟨fun h => ⟨ha, hb, h1, h2, h⟩, fun h => h.2.2.2.2⟩
theorem r7Same_eq (a b : Ex) : r7Same a b = some (decide (a = b)) := by
  unfold r7Same
  simp only [tb_beq]
  obtain ⟨a1, a2, a3, a4, a5⟩ := a
  obtain ⟨b1, b2, b3, b4, b5⟩ := b
  simp only [Ex.mk.injEq]
  repeat' split
  all_goals (congr 1; rw [Bool.eq_iff_iff]; simp_all)
theorem exAt_all (l : List Ex) (p : Ex → Prop) : (∀ i, i < l.length → p (exAt l i)) ↔ ∀ x ∈ l, p x := by
  unfold exAt; exact getD_all _ l p
theorem few_eq (l : List Ex) : few l = some (decide (l.length ≤ 70 ∧ ∀ x ∈ l, x.d.length ≤ 3000)) := by
  unfold few
  rw [tb_dec]
  by_cases hl : (l.length : Int) > 70
  · rw [if_pos hl]; congr 1; symm; rw [decide_eq_false_iff_not]; omega
  rw [if_neg hl]
  rw [th_all (some false) (some true) l.length (fun i => (exAt l i).d.length ≤ 3000) (∀ x ∈ l, x.d.length ≤ 3000) (exAt_all l (fun x => x.d.length ≤ 3000))]
  · split
    · rename_i h; congr 1; symm; rw [decide_eq_true_iff]; exact ⟨by omega, h⟩
    · rename_i h; congr 1; symm; rw [decide_eq_false_iff_not]; exact fun g => h g.2
  · intro i hi hp
    unfold few_L0_step
    simp only [tb_dec, Int.toNat_natCast]
    rw [if_pos (by omega), tp_pos (by omega), if_neg (by omega), wr_id (by omega) (by omega)]
  · intro i hi hp
    unfold few_L0_step
    simp only [tb_dec, Int.toNat_natCast]
    rw [if_pos (by omega), tp_pos (by omega), if_pos (by omega), if_pos (by omega), tp_pos (by omega), if_pos (by omega)]
    exact ⟨rfl, rfl⟩
  · unfold few_L0_step
    simp only [tb_dec]
    rw [if_neg (by omega), if_neg (by omega)]
    exact ⟨rfl, rfl⟩
theorem r7All_eq (a b : List Ex) (ha : a.length ≤ 4294967296) : r7All a b = some (decide (a = b)) := by
  unfold r7All
  rw [tb_bne]
  by_cases hl : (a.length : Int) = b.length
  · rw [if_pos hl]
    rw [th_all (some false) (some true) a.length (fun i => exAt a i = exAt b i) (a = b)]
    · split <;> rename_i h <;> simp [h]
    · constructor
      · intro h
        refine List.ext_getElem (by omega) fun i h1 h2 => ?_
        have := h i h1
        simpa [exAt, h1, h2] using this
      · rintro rfl; exact fun _ _ => rfl
    · intro i hi hp
      unfold r7All_L0_step
      simp only [tb_dec, Int.toNat_natCast, r7Same_eq, tc_some]
      rw [if_pos (by omega), tp_pos (by omega), tp_pos (by omega), hp, wr_id (by omega) (by omega)]
      simp
    · intro i hi hp
      unfold r7All_L0_step
      simp only [tb_dec, Int.toNat_natCast, r7Same_eq, tc_some]
      rw [if_pos (by omega), tp_pos (by omega), tp_pos (by omega), if_pos (by omega), tp_pos (by omega)]
      simp [hp]
    · unfold r7All_L0_step
      simp only [tb_dec]
      rw [if_neg (by omega), if_neg (by omega)]
      exact ⟨rfl, rfl⟩
  · rw [if_neg hl]
    congr 1; symm; rw [decide_eq_false_iff_not]; rintro rfl; exact hl rfl
end Ab
end Go.Proofs.Ytimcbhhebnikiaa
namespace Go.Proofs.Ytimcbhhebnikiaa
open Go Go.Proofs.Ytimcbhhebnikiaa.Ab
set_option linter.unusedVariables false
set_option linter.unusedSimpArgs false
namespace Ab
/-- A loop that asks something of each place, with a state of its own. -/
theorem th_first {σ α : Type} {step : σ → Option σ} {f : σ → Option α} (r1 r2 : Option α) (S : Nat → σ) (n : Nat) (P : Nat → Prop) (Q : Prop) [Decidable Q] (hQ : (∀ i, i < n → P i) ↔ Q)
    (hs : ∀ i : Nat, i < n → (∀ j, j < i → P j) → P i → step (S i) = some (S (i + 1))) (hf : ∀ i : Nat, i < n → (∀ j, j < i → P j) → ¬ P i → step (S i) = none ∧ f (S i) = r1) (he : (∀ j, j < n → P j) → step (S n) = none ∧ f (S n) = r2) :
    th step (S 0) f = if Q then r2 else r1 := by
  by_cases h : ∀ i, i < n → P i
  · rw [if_pos (hQ.1 h), th_run (step := step) (f := f) S n (fun i hi => hs i hi (fun j hj => h j (by omega)) (h i hi)) (he h).1]
    exact (he h).2
  · rw [if_neg (fun g => h (hQ.2 g))]
    have hex : ∃ i, i < n ∧ ¬ P i := Classical.byContradiction fun hn => h fun i hi => Classical.byContradiction fun hp => hn ⟨i, hi, hp⟩
    have key : ∀ k, (∃ i, i < k ∧ i < n ∧ ¬ P i) → ∃ i, i < n ∧ ¬ P i ∧ ∀ j, j < i → P j := by
      intro k
      induction k with
      | zero => rintro ⟨i, hi, _⟩; omega
      | succ k ih =>
        rintro ⟨i, h1, h2, h3⟩
        by_cases hk : ∃ i, i < k ∧ i < n ∧ ¬ P i
        · exact ih hk
        · have hik : i = k := by
            rcases Nat.lt_or_ge i k with g | g
            · exact absurd ⟨i, g, h2, h3⟩ hk
            · omega
          refine ⟨i, h2, h3, fun j hj => ?_⟩
          exact Classical.byContradiction fun hp => hk ⟨j, by omega, by omega, hp⟩
    obtain ⟨i, h1, h2⟩ := hex
    obtain ⟨k, k1, k2, k3⟩ := key (i + 1) ⟨i, by omega, h1, h2⟩
    rw [th_run (step := step) (f := f) S k (fun i hi => hs i (by omega) (fun j hj => k3 j (by omega)) (k3 i hi)) (hf k k1 k3 k2).1]
    exact (hf k k1 k3 k2).2
/-- How many blocks extents are. -/
def sl : List Ex → Int
  | [] => 0
  | x :: l => x.len + sl l
theorem sl_append : ∀ a b : List Ex, sl (a ++ b) = sl a + sl b
  | [], b => by simp [sl]
  | x :: a, b => by simp only [List.cons_append, sl, sl_append a b]; omega
theorem sl_take (l : List Ex) (i : Nat) (h : i < l.length) : sl (l.take (i + 1)) = sl (l.take i) + (exAt l i).len := by
  rw [take_at ⟨0, 0, 0, 0, []⟩ l i h, sl_append]; simp [sl, exAt]
def MP (l : List Ex) (i : Nat) : Prop := Ck (exAt l i) ∧ (exAt l i).lba = sl (l.take i) ∧ (0 < i → ¬ Jn (exAt l (i - 1)) (exAt l i))
/-- Is it a map of so many blocks? -/
def Mk (blocks : Int) (l : List Ex) : Prop := l ≠ [] ∧ (∀ i, i < l.length → MP l i) ∧ sl l = blocks
instance (l : List Ex) (i : Nat) : Decidable (MP l i) := by unfold MP; infer_instance
instance (blocks : Int) (l : List Ex) : Decidable (Mk blocks l) := by unfold Mk; infer_instance
def mk (blocks : Int) (l : List Ex) : Bool := decide (Mk blocks l)
theorem mk_iff {blocks : Int} {l : List Ex} : mk blocks l = true ↔ Mk blocks l := decide_eq_true_iff
theorem mk_t {blocks : Int} {l : List Ex} (h : Mk blocks l) : mk blocks l = true := mk_iff.2 h
theorem mk_f {blocks : Int} {l : List Ex} (h : ¬ Mk blocks l) : mk blocks l = false := decide_eq_false_iff_not.2 h
theorem mp_bound {l : List Ex} {i : Nat} (hi : i ≤ l.length) (h : ∀ j, j < i → MP l j) : 0 ≤ sl (l.take i) ∧ sl (l.take i) ≤ 64 ∧ (0 < i → 1 ≤ sl (l.take i)) := by
  induction i with
  | zero => simp [sl]
  | succ i ih =>
    have h1 := ih (by omega) fun j hj => h j (by omega)
    have h2 := h i (by omega)
    have h3 := h2.1
    have h4 := h2.2.1
    unfold Ck at h3
    rw [sl_take l i (by omega)]
    omega
theorem mCheck_eq (blocks : Int) (l : List Ex) (hl : l.length ≤ 4294967296) : mCheck blocks l = some (mk blocks l) := by
  unfold mCheck
  have hstep : ∀ i : Nat, i < l.length → (∀ j, j < i → MP l j) → MP l i → mCheck_L0_step blocks l (sl (l.take i), (i : Int)) = some (sl (l.take (i + 1)), ((i + 1 : Nat) : Int)) := by
    intro i hi hpre hp
    have hb := mp_bound (by omega) hpre
    have hck := hp.1
    have hlba := hp.2.1
    unfold mCheck_L0_step
    simp only [tb_dec, tb_bne, tb_not, eCheck_eq, eJoins_eq, tc_some, Int.toNat_natCast]
    unfold Ck at hck
    rw [if_pos (by omega), tp_pos (by omega), ck_t hp.1, tb_t, if_pos hlba, sl_take l i hi, wr_id (x := sl (l.take i) + (exAt l i).len) (by omega) (by omega), wr_id (x := (i : Int) + 1) (by omega) (by omega)]
    have e1 : ((i + 1 : Nat) : Int) = (i : Int) + 1 := by omega
    rw [e1]
    by_cases h0 : (i : Int) > 0
    · rw [if_pos h0, wr_id (x := (i : Int) - 1) (by omega) (by omega), tp_pos (by omega), show ((i : Int) - 1).toNat = i - 1 by omega, jn_f (hp.2.2 (by omega)), tb_f]
    · rw [if_neg h0]
  have := th_first (step := mCheck_L0_step blocks l) (some false) (if l ≠ [] ∧ sl l = blocks then some true else some false) (fun i => (sl (l.take i), (i : Int))) l.length (MP l) (∀ i, i < l.length → MP l i) Iff.rfl hstep (f := fun s0 =>
    tb (decide (s0.2 < (l.length : Int))) (tp ((0 : Int) ≤ s0.2 ∧ s0.2 < (l.length : Int)) (tc (eCheck (exAt l s0.2.toNat)) fun s3 => tb (!s3) (some false) (tb ((exAt l s0.2.toNat).lba != s0.1) (some false) (tb (decide (s0.2 > 0)) (tp ((0 : Int) ≤ wr (s0.2 - 1) ∧ wr (s0.2 - 1) < (l.length : Int)) (tc (eJoins (exAt l (wr (s0.2 - 1)).toNat) (exAt l s0.2.toNat)) fun s8 => tb s8 (some false) none)) none))))
      (tb (decide ((l.length : Int) > 0)) (some (s0.1 == blocks)) (some false))) ?_ ?_
  · simp only [List.take_zero, sl, Int.natCast_zero] at this
    rw [this]
    by_cases hall : ∀ i, i < l.length → MP l i
    · rw [if_pos hall]
      by_cases h : l ≠ [] ∧ sl l = blocks
      · rw [if_pos h, mk_t ⟨h.1, hall, h.2⟩]
      · rw [if_neg h, mk_f fun g => h ⟨g.1, g.2.2⟩]
    · rw [if_neg hall, mk_f fun g => hall g.2.1]
  · intro i hi hpre hp
    have hb := mp_bound (by omega) hpre
    unfold mCheck_L0_step
    simp only [tb_dec, tb_bne, tb_not, eCheck_eq, eJoins_eq, tc_some, Int.toNat_natCast]
    by_cases hck : Ck (exAt l i)
    case neg => refine ⟨?_, ?_⟩ <;> (rw [if_pos (by omega), tp_pos (by omega), ck_f hck]; rfl)
    by_cases hlba : (exAt l i).lba = sl (l.take i)
    case neg => refine ⟨?_, ?_⟩ <;> (rw [if_pos (by omega), tp_pos (by omega), ck_t hck, tb_t, if_neg hlba])
    have hj : 0 < i ∧ Jn (exAt l (i - 1)) (exAt l i) := by
      refine ⟨?_, ?_⟩
      · rcases Nat.eq_zero_or_pos i with h | h
        · subst h; exact absurd ⟨hck, hlba, fun h => by omega⟩ hp
        · exact h
      · exact Classical.byContradiction fun h => hp ⟨hck, hlba, fun _ => h⟩
    refine ⟨?_, ?_⟩ <;> (rw [if_pos (by omega), tp_pos (by omega), ck_t hck, tb_t, if_pos hlba, if_pos (by omega), wr_id (x := (i : Int) - 1) (by omega) (by omega), tp_pos (by omega), show ((i : Int) - 1).toNat = i - 1 by omega, jn_t hj.2]; rfl)
  · intro hall
    unfold mCheck_L0_step
    simp only [tb_dec]
    rw [if_neg (by omega), if_neg (by omega)]
    refine ⟨rfl, ?_⟩
    rw [List.take_length]
    by_cases h0 : l = []
    · subst h0; simp
    · have : 0 < l.length := List.length_pos_iff.2 h0
      rw [if_pos (by omega)]
      by_cases hb : sl l = blocks
      · rw [if_pos ⟨h0, hb⟩, hb]; simp
      · rw [if_neg (fun h => hb h.2)]; simp [hb]
theorem mk_blocks {blocks : Int} {l : List Ex} (h : Mk blocks l) : 1 ≤ blocks ∧ blocks ≤ 64 := by
  have hb := mp_bound (Nat.le_refl _) h.2.1
  rw [List.take_length, h.2.2] at hb
  have := List.length_pos_iff.2 h.1
  omega
theorem r8Check_eq (blocks : Int) (l : List Ex) (hl : l.length ≤ 4294967296) : r8Check blocks l = some (mk blocks l) := by
  unfold r8Check
  simp only [tb_dec]
  by_cases hb1 : blocks < 1
  · rw [if_pos hb1, mk_f fun h => by have := mk_blocks h; omega]
  by_cases hb2 : blocks > 64
  · rw [if_neg hb1, if_pos hb2, mk_f fun h => by have := mk_blocks h; omega]
  rw [if_neg hb1, if_neg hb2]
  have hstep : ∀ i : Nat, i < l.length → (∀ j, j < i → MP l j) → MP l i → r8Check_L0_step blocks l (sl (l.take i), (i : Int)) = some (sl (l.take (i + 1)), ((i + 1 : Nat) : Int)) := by
    intro i hi hpre hp
    have hb := mp_bound (by omega) hpre
    have hck := hp.1
    have hlba := hp.2.1
    unfold r8Check_L0_step
    simp only [tb_dec, tb_bne, tb_not, r7Check_eq, r7Joins_eq, tc_some, Int.toNat_natCast]
    unfold Ck at hck
    rw [if_pos (by omega), tp_pos (by omega), ck_t hp.1, tb_t, if_pos hlba, sl_take l i hi, wr_id (x := sl (l.take i) + (exAt l i).len) (by omega) (by omega), wr_id (x := (i : Int) + 1) (by omega) (by omega)]
    have e1 : ((i + 1 : Nat) : Int) = (i : Int) + 1 := by omega
    rw [e1]
    by_cases h0 : (i : Int) > 0
    · rw [if_pos h0, wr_id (x := (i : Int) - 1) (by omega) (by omega), tp_pos (by omega), show ((i : Int) - 1).toNat = i - 1 by omega, jn_f (hp.2.2 (by omega)), tb_f]
    · rw [if_neg h0]
  have := th_first (step := r8Check_L0_step blocks l) (some false) (some (sl l == blocks)) (fun i => (sl (l.take i), (i : Int))) l.length (MP l) (∀ i, i < l.length → MP l i) Iff.rfl hstep (f := fun s0 =>
    if s0.2 < (l.length : Int) then (tp ((0 : Int) ≤ s0.2 ∧ s0.2 < (l.length : Int)) (tc (r7Check (exAt l s0.2.toNat)) fun s3 => tb (!s3) (some false) (tb ((exAt l s0.2.toNat).lba != s0.1) (some false) (if s0.2 > 0 then (tp ((0 : Int) ≤ wr (s0.2 - 1) ∧ wr (s0.2 - 1) < (l.length : Int)) (tc (r7Joins (exAt l (wr (s0.2 - 1)).toNat) (exAt l s0.2.toNat)) fun s8 => tb s8 (some false) none)) else none))))
      else (some (s0.1 == blocks))) ?_ ?_
  · simp only [List.take_zero, sl, Int.natCast_zero] at this
    rw [this]
    by_cases hall : ∀ i, i < l.length → MP l i
    · rw [if_pos hall]
      congr 1
      rw [Bool.eq_iff_iff, beq_iff_eq, mk_iff]
      refine ⟨fun h => ⟨fun h0 => ?_, hall, h⟩, fun h => h.2.2⟩
      subst h0; simp [sl] at h; omega
    · rw [if_neg hall, mk_f fun g => hall g.2.1]
  · intro i hi hpre hp
    have hb := mp_bound (by omega) hpre
    unfold r8Check_L0_step
    simp only [tb_dec, tb_bne, tb_not, r7Check_eq, r7Joins_eq, tc_some, Int.toNat_natCast]
    by_cases hck : Ck (exAt l i)
    case neg => refine ⟨?_, ?_⟩ <;> (rw [if_pos (by omega), tp_pos (by omega), ck_f hck]; rfl)
    by_cases hlba : (exAt l i).lba = sl (l.take i)
    case neg => refine ⟨?_, ?_⟩ <;> (rw [if_pos (by omega), tp_pos (by omega), ck_t hck, tb_t, if_neg hlba])
    have hj : 0 < i ∧ Jn (exAt l (i - 1)) (exAt l i) := by
      refine ⟨?_, ?_⟩
      · rcases Nat.eq_zero_or_pos i with h | h
        · subst h; exact absurd ⟨hck, hlba, fun h => by omega⟩ hp
        · exact h
      · exact Classical.byContradiction fun h => hp ⟨hck, hlba, fun _ => h⟩
    refine ⟨?_, ?_⟩ <;> (rw [if_pos (by omega), tp_pos (by omega), ck_t hck, tb_t, if_pos hlba, if_pos (by omega), wr_id (x := (i : Int) - 1) (by omega) (by omega), tp_pos (by omega), show ((i : Int) - 1).toNat = i - 1 by omega, jn_t hj.2]; rfl)
  · intro hall
    unfold r8Check_L0_step
    simp only [tb_dec]
    rw [if_neg (by omega), if_neg (by omega)]
    rw [List.take_length]
    exact ⟨rfl, rfl⟩
end Ab
end Go.Proofs.Ytimcbhhebnikiaa
namespace Go.Proofs.Ytimcbhhebnikiaa
open Go Go.Proofs.Ytimcbhhebnikiaa.Ab
set_option linter.unusedVariables false
set_option linter.unusedSimpArgs false
set_option maxRecDepth 1000000
namespace Ab
/-- Function 68, as it answers. -/
noncomputable def eCut (x : Ex) (lba : Int) (n : Int) : Option (Ex × Bool) :=
 (tc (eCheck (x)) fun s0 =>
  (tb ((!s0))
   (some (((Ex.mk 0 0 0 0 ([] : List UInt8)), Bool.false)))
   (tb ((decide (lba ≥ (0 : Int))))
    (tb ((!(decide (lba ≤ (64 : Int)))))
     (some (((Ex.mk 0 0 0 0 ([] : List UInt8)), Bool.false)))
     (tb ((decide (n ≥ (0 : Int))))
      (tb ((!(decide (n ≤ (64 : Int)))))
       (some (((Ex.mk 0 0 0 0 ([] : List UInt8)), Bool.false)))
       (tb ((decide ((imax x.lba lba) ≥ (imin (wr (x.lba + x.len)) (wr (lba + n))))))
        (some (((Ex.mk 0 0 0 0 ([] : List UInt8)), Bool.false)))
        (tb ((x.kind == (2 : Int)))
         (tp (((0 : Int) ≤ (wr ((wr ((imax x.lba lba) - x.lba)) * (32 : Int)))))
          (tp (((0 : Int) ≤ (wr ((wr ((imin (wr (x.lba + x.len)) (wr (lba + n))) - x.lba)) * (32 : Int)))))
           (tp ((((Int.toNat (wr ((wr ((imax x.lba lba) - x.lba)) * (32 : Int)))) ≤ (Int.toNat (wr ((wr ((imin (wr (x.lba + x.len)) (wr (lba + n))) - x.lba)) * (32 : Int))))) ∧ (((Int.toNat (wr ((wr ((imin (wr (x.lba + x.len)) (wr (lba + n))) - x.lba)) * (32 : Int)))) ≤ (List.length x.d)) ∧ ((List.length (List.map AV.y x.d)) = ((List.length x.d) * (1 : Nat))))))
            (tp ((((Int.toNat (wr ((wr ((imin (wr (x.lba + x.len)) (wr (lba + n))) - x.lba)) * (32 : Int)))) - (Int.toNat (wr ((wr ((imax x.lba lba) - x.lba)) * (32 : Int))))) ≤ (4294967296 : Nat)))
             (some (((Ex.mk (imax x.lba lba) (wr ((imin (wr (x.lba + x.len)) (wr (lba + n))) - (imax x.lba lba))) x.kind x.gen (List.take (((Int.toNat (wr ((wr ((imin (wr (x.lba + x.len)) (wr (lba + n))) - x.lba)) * (32 : Int)))) - (Int.toNat (wr ((wr ((imax x.lba lba) - x.lba)) * (32 : Int))))) * (1 : Nat)) (List.take (((Int.toNat (wr ((wr ((imin (wr (x.lba + x.len)) (wr (lba + n))) - x.lba)) * (32 : Int)))) - (Int.toNat (wr ((wr ((imax x.lba lba) - x.lba)) * (32 : Int))))) * (1 : Nat)) (List.drop ((Int.toNat (wr ((wr ((imax x.lba lba) - x.lba)) * (32 : Int)))) * (1 : Nat)) x.d)))), Bool.true)))))))
         (some (((Ex.mk (imax x.lba lba) (wr ((imin (wr (x.lba + x.len)) (wr (lba + n))) - (imax x.lba lba))) x.kind x.gen ([] : List UInt8)), Bool.true))))))
      (some (((Ex.mk 0 0 0 0 ([] : List UInt8)), Bool.false)))))
    (some (((Ex.mk 0 0 0 0 ([] : List UInt8)), Bool.false))))))
abbrev eCut_G (x : Ex) (lba : Int) (n : Int) (r : Ex × Bool) : Prop := EvFr Try.prog cf true 68 [Ex.av (x), .i (lba), .i (n)] (.tu [Ex.av (r.1), .b (r.2)])
theorem eCut_l0 (x : Ex) (lba : Int) (n : Int) (s0 : Bool) (h0 : eCheck (x) = some s0) (h1 : ((!s0)) = true) : eCut_G x lba n (((Ex.mk 0 0 0 0 ([] : List UInt8)), Bool.false)) :=
  leafR vw_eq (k := 300) (r := []) (hs := hz [(4, [.cells ([(AV.i x.lba), (AV.i x.len), (AV.i x.kind), (AV.i x.gen), (AV.sl (List.length x.d) (List.map AV.y x.d))])]), (1, [.fres (.b (s0))]), (2, [.yes, .yes, .yes, .yes]), (8, [.cells ([(AV.i 0), (AV.i 0), (AV.i 0), (AV.i 0), AV.nl])]), (2, [.cells ([(AV.i 0), (AV.i 0), (AV.i 0), (AV.i 0), AV.nl])])]) (raw := (AV.tu [(AV.ag [(AV.i 0), (AV.i 0), (AV.i 0), (AV.i 0), (AV.sl 0 ([] : List AV))]), (AV.b Bool.false)])) kq (ac (Eq.refl ([(AV.i x.lba), (AV.i x.len), (AV.i x.kind), (AV.i x.gen), (AV.sl (List.length x.d) (List.map AV.y x.d))] : List AV)) (ac (eCheck_ok (x) _ h0).any0 (ac h1 (ac h1 (ac h1 (ac h1 (ac (Eq.refl ([(AV.i 0), (AV.i 0), (AV.i 0), (AV.i 0), AV.nl] : List AV)) (ac (Eq.refl ([(AV.i 0), (AV.i 0), (AV.i 0), (AV.i 0), AV.nl] : List AV)) an)))))))) tq
theorem eCut_l1 (x : Ex) (lba : Int) (n : Int) (s0 : Bool) (h0 : eCheck (x) = some s0) (h1 : ((!s0)) = false) (h2 : ((decide (lba ≥ (0 : Int)))) = true) (h2p : (lba ≥ (0 : Int))) (h3 : ((!(decide (lba ≤ (64 : Int))))) = true) : eCut_G x lba n (((Ex.mk 0 0 0 0 ([] : List UInt8)), Bool.false)) :=
  leafR vw_eq (k := 300) (r := []) (hs := hz [(4, [.cells ([(AV.i x.lba), (AV.i x.len), (AV.i x.kind), (AV.i x.gen), (AV.sl (List.length x.d) (List.map AV.y x.d))])]), (1, [.fres (.b (s0))]), (2, [.no]), (1, [.no]), (7, [.yes]), (1, [.yes]), (1, [.yes]), (1, [.yes]), (1, [.no]), (1, [.no]), (1, [.yes, .yes, .yes, .yes]), (3, [.cells ([(AV.i 0), (AV.i 0), (AV.i 0), (AV.i 0), AV.nl])]), (2, [.cells ([(AV.i 0), (AV.i 0), (AV.i 0), (AV.i 0), AV.nl])])]) (raw := (AV.tu [(AV.ag [(AV.i 0), (AV.i 0), (AV.i 0), (AV.i 0), (AV.sl 0 ([] : List AV))]), (AV.b Bool.false)])) kq (ac (Eq.refl ([(AV.i x.lba), (AV.i x.len), (AV.i x.kind), (AV.i x.gen), (AV.sl (List.length x.d) (List.map AV.y x.d))] : List AV)) (ac (eCheck_ok (x) _ h0).any0 (ac h1 (ac h1 (ac h2 (ac h2 (ac h2 (ac h2 (ac h1 (ac h1 (ac h3 (ac h3 (ac h3 (ac h3 (ac (Eq.refl ([(AV.i 0), (AV.i 0), (AV.i 0), (AV.i 0), AV.nl] : List AV)) (ac (Eq.refl ([(AV.i 0), (AV.i 0), (AV.i 0), (AV.i 0), AV.nl] : List AV)) an)))))))))))))))) tq
theorem eCut_l2 (x : Ex) (lba : Int) (n : Int) (s0 : Bool) (h0 : eCheck (x) = some s0) (h1 : ((!s0)) = false) (h2 : ((decide (lba ≥ (0 : Int)))) = true) (h2p : (lba ≥ (0 : Int))) (h3 : ((!(decide (lba ≤ (64 : Int))))) = false) (h4 : ((decide (n ≥ (0 : Int)))) = true) (h4p : (n ≥ (0 : Int))) (h5 : ((!(decide (n ≤ (64 : Int))))) = true) : eCut_G x lba n (((Ex.mk 0 0 0 0 ([] : List UInt8)), Bool.false)) :=
  leafR vw_eq (k := 300) (r := []) (hs := hz [(4, [.cells ([(AV.i x.lba), (AV.i x.len), (AV.i x.kind), (AV.i x.gen), (AV.sl (List.length x.d) (List.map AV.y x.d))])]), (1, [.fres (.b (s0))]), (2, [.no]), (1, [.no]), (7, [.yes]), (1, [.yes]), (1, [.yes]), (1, [.yes]), (1, [.no]), (1, [.no]), (1, [.no]), (1, [.no]), (7, [.yes]), (1, [.yes]), (1, [.yes]), (1, [.yes]), (1, [.no]), (1, [.no, .yes]), (2, [.cells ([(AV.i 0), (AV.i 0), (AV.i 0), (AV.i 0), AV.nl])]), (2, [.cells ([(AV.i 0), (AV.i 0), (AV.i 0), (AV.i 0), AV.nl])])]) (raw := (AV.tu [(AV.ag [(AV.i 0), (AV.i 0), (AV.i 0), (AV.i 0), (AV.sl 0 ([] : List AV))]), (AV.b Bool.false)])) kq (ac (Eq.refl ([(AV.i x.lba), (AV.i x.len), (AV.i x.kind), (AV.i x.gen), (AV.sl (List.length x.d) (List.map AV.y x.d))] : List AV)) (ac (eCheck_ok (x) _ h0).any0 (ac h1 (ac h1 (ac h2 (ac h2 (ac h2 (ac h2 (ac h1 (ac h1 (ac h3 (ac h3 (ac h4 (ac h4 (ac h4 (ac h4 (ac h3 (ac h3 (ac h5 (ac (Eq.refl ([(AV.i 0), (AV.i 0), (AV.i 0), (AV.i 0), AV.nl] : List AV)) (ac (Eq.refl ([(AV.i 0), (AV.i 0), (AV.i 0), (AV.i 0), AV.nl] : List AV)) an))))))))))))))))))))) tq
theorem eCut_l3 (x : Ex) (lba : Int) (n : Int) (s0 : Bool) (h0 : eCheck (x) = some s0) (h1 : ((!s0)) = false) (h2 : ((decide (lba ≥ (0 : Int)))) = true) (h2p : (lba ≥ (0 : Int))) (h3 : ((!(decide (lba ≤ (64 : Int))))) = false) (h4 : ((decide (n ≥ (0 : Int)))) = true) (h4p : (n ≥ (0 : Int))) (h5 : ((!(decide (n ≤ (64 : Int))))) = false) (h6 : ((decide ((imax x.lba lba) ≥ (imin (wr (x.lba + x.len)) (wr (lba + n)))))) = true) (h6p : ((imax x.lba lba) ≥ (imin (wr (x.lba + x.len)) (wr (lba + n))))) : eCut_G x lba n (((Ex.mk 0 0 0 0 ([] : List UInt8)), Bool.false)) :=
  leafR vw_eq (k := 300) (r := []) (hs := hz [(4, [.cells ([(AV.i x.lba), (AV.i x.len), (AV.i x.kind), (AV.i x.gen), (AV.sl (List.length x.d) (List.map AV.y x.d))])]), (1, [.fres (.b (s0))]), (2, [.no]), (1, [.no]), (7, [.yes]), (1, [.yes]), (1, [.yes]), (1, [.yes]), (1, [.no]), (1, [.no]), (1, [.no]), (1, [.no]), (7, [.yes]), (1, [.yes]), (1, [.yes]), (1, [.yes]), (1, [.no]), (1, [.no, .no]), (18, [.yes]), (3, [.yes]), (2, [.cells ([(AV.i 0), (AV.i 0), (AV.i 0), (AV.i 0), AV.nl])]), (2, [.cells ([(AV.i 0), (AV.i 0), (AV.i 0), (AV.i 0), AV.nl])])]) (raw := (AV.tu [(AV.ag [(AV.i 0), (AV.i 0), (AV.i 0), (AV.i 0), (AV.sl 0 ([] : List AV))]), (AV.b Bool.false)])) kq (ac (Eq.refl ([(AV.i x.lba), (AV.i x.len), (AV.i x.kind), (AV.i x.gen), (AV.sl (List.length x.d) (List.map AV.y x.d))] : List AV)) (ac (eCheck_ok (x) _ h0).any0 (ac h1 (ac h1 (ac h2 (ac h2 (ac h2 (ac h2 (ac h1 (ac h1 (ac h3 (ac h3 (ac h4 (ac h4 (ac h4 (ac h4 (ac h3 (ac h3 (ac h5 (ac (show orderOk (rg Try.prog 68 0) = true ∧ allOk (Region.before (rg Try.prog 68 0)) [] 0 [(some [], some []), (some [0], some []), (some [], some []), (some [], some []), (some [], some []), (some [0], some []), (some [], some []), (some [0], some []), (some [], some []), (some [], some []), (some [], some []), (some [], some []), (some [], some []), (some [], some []), (some [], some [])] = true from (ord_of ord_68_0 bef_68_0 kq)) (ac h6 (ac (Eq.refl ([(AV.i 0), (AV.i 0), (AV.i 0), (AV.i 0), AV.nl] : List AV)) (ac (Eq.refl ([(AV.i 0), (AV.i 0), (AV.i 0), (AV.i 0), AV.nl] : List AV)) an))))))))))))))))))))))) tq
theorem eCut_l4 (x : Ex) (lba : Int) (n : Int) (s0 : Bool) (h0 : eCheck (x) = some s0) (h1 : ((!s0)) = false) (h2 : ((decide (lba ≥ (0 : Int)))) = true) (h2p : (lba ≥ (0 : Int))) (h3 : ((!(decide (lba ≤ (64 : Int))))) = false) (h4 : ((decide (n ≥ (0 : Int)))) = true) (h4p : (n ≥ (0 : Int))) (h5 : ((!(decide (n ≤ (64 : Int))))) = false) (h6 : ((decide ((imax x.lba lba) ≥ (imin (wr (x.lba + x.len)) (wr (lba + n)))))) = false) (h6p : ¬ ((imax x.lba lba) ≥ (imin (wr (x.lba + x.len)) (wr (lba + n))))) (h7 : ((x.kind == (2 : Int))) = true) (h7p : (x.kind = (2 : Int))) (h8 : ((0 : Int) ≤ (wr ((wr ((imax x.lba lba) - x.lba)) * (32 : Int))))) (h9 : ((0 : Int) ≤ (wr ((wr ((imin (wr (x.lba + x.len)) (wr (lba + n))) - x.lba)) * (32 : Int))))) (h10 : (((Int.toNat (wr ((wr ((imax x.lba lba) - x.lba)) * (32 : Int)))) ≤ (Int.toNat (wr ((wr ((imin (wr (x.lba + x.len)) (wr (lba + n))) - x.lba)) * (32 : Int))))) ∧ (((Int.toNat (wr ((wr ((imin (wr (x.lba + x.len)) (wr (lba + n))) - x.lba)) * (32 : Int)))) ≤ (List.length x.d)) ∧ ((List.length (List.map AV.y x.d)) = ((List.length x.d) * (1 : Nat)))))) (h11 : (((Int.toNat (wr ((wr ((imin (wr (x.lba + x.len)) (wr (lba + n))) - x.lba)) * (32 : Int)))) - (Int.toNat (wr ((wr ((imax x.lba lba) - x.lba)) * (32 : Int))))) ≤ (4294967296 : Nat))) : eCut_G x lba n (((Ex.mk (imax x.lba lba) (wr ((imin (wr (x.lba + x.len)) (wr (lba + n))) - (imax x.lba lba))) x.kind x.gen (List.take (((Int.toNat (wr ((wr ((imin (wr (x.lba + x.len)) (wr (lba + n))) - x.lba)) * (32 : Int)))) - (Int.toNat (wr ((wr ((imax x.lba lba) - x.lba)) * (32 : Int))))) * (1 : Nat)) (List.take (((Int.toNat (wr ((wr ((imin (wr (x.lba + x.len)) (wr (lba + n))) - x.lba)) * (32 : Int)))) - (Int.toNat (wr ((wr ((imax x.lba lba) - x.lba)) * (32 : Int))))) * (1 : Nat)) (List.drop ((Int.toNat (wr ((wr ((imax x.lba lba) - x.lba)) * (32 : Int)))) * (1 : Nat)) x.d)))), Bool.true)) :=
  leafR vw_eq (k := 300) (r := []) (hs := hz [(4, [.cells ([(AV.i x.lba), (AV.i x.len), (AV.i x.kind), (AV.i x.gen), (AV.sl (List.length x.d) (List.map AV.y x.d))])]), (1, [.fres (.b (s0))]), (2, [.no]), (1, [.no]), (7, [.yes]), (1, [.yes]), (1, [.yes]), (1, [.yes]), (1, [.no]), (1, [.no]), (1, [.no]), (1, [.no]), (7, [.yes]), (1, [.yes]), (1, [.yes]), (1, [.yes]), (1, [.no]), (1, [.no, .no]), (18, [.yes]), (3, [.no]), (6, [.cells ([(AV.i x.lba), (AV.i x.len), (AV.i x.kind), (AV.i x.gen), AV.nl])]), (4, [.yes]), (13, [.yes, .yes, .yes]), (1, [.yes, .yes]), (2, [.cells ([(AV.i x.lba), (AV.i x.len), (AV.i x.kind), (AV.i x.gen), (AV.rf 2 1 0 ((Int.toNat (wr ((wr ((imin (wr (x.lba + x.len)) (wr (lba + n))) - x.lba)) * (32 : Int)))) - (Int.toNat (wr ((wr ((imax x.lba lba) - x.lba)) * (32 : Int))))))])]), (6, [.cells ([(AV.i (imax x.lba lba)), (AV.i x.len), (AV.i x.kind), (AV.i x.gen), (AV.rf 2 1 0 ((Int.toNat (wr ((wr ((imin (wr (x.lba + x.len)) (wr (lba + n))) - x.lba)) * (32 : Int)))) - (Int.toNat (wr ((wr ((imax x.lba lba) - x.lba)) * (32 : Int))))))])]), (2, [.cells ([(AV.i (imax x.lba lba)), (AV.i (wr ((imin (wr (x.lba + x.len)) (wr (lba + n))) - (imax x.lba lba)))), (AV.i x.kind), (AV.i x.gen), (AV.rf 2 1 0 ((Int.toNat (wr ((wr ((imin (wr (x.lba + x.len)) (wr (lba + n))) - x.lba)) * (32 : Int)))) - (Int.toNat (wr ((wr ((imax x.lba lba) - x.lba)) * (32 : Int))))))])]), (1, [.cells ([(AV.i (imax x.lba lba)), (AV.i (wr ((imin (wr (x.lba + x.len)) (wr (lba + n))) - (imax x.lba lba)))), (AV.i x.kind), (AV.i x.gen), (AV.rf 2 1 0 ((Int.toNat (wr ((wr ((imin (wr (x.lba + x.len)) (wr (lba + n))) - x.lba)) * (32 : Int)))) - (Int.toNat (wr ((wr ((imax x.lba lba) - x.lba)) * (32 : Int))))))])]), (1, [.cells ([(AV.i (imax x.lba lba)), (AV.i (wr ((imin (wr (x.lba + x.len)) (wr (lba + n))) - (imax x.lba lba)))), (AV.i x.kind), (AV.i x.gen), (AV.rf 2 1 0 ((Int.toNat (wr ((wr ((imin (wr (x.lba + x.len)) (wr (lba + n))) - x.lba)) * (32 : Int)))) - (Int.toNat (wr ((wr ((imax x.lba lba) - x.lba)) * (32 : Int))))))])]), (2, [.cells ([(AV.i (imax x.lba lba)), (AV.i (wr ((imin (wr (x.lba + x.len)) (wr (lba + n))) - (imax x.lba lba)))), (AV.i x.kind), (AV.i x.gen), (AV.rf 2 1 0 ((Int.toNat (wr ((wr ((imin (wr (x.lba + x.len)) (wr (lba + n))) - x.lba)) * (32 : Int)))) - (Int.toNat (wr ((wr ((imax x.lba lba) - x.lba)) * (32 : Int))))))]), .no, .yes, .yes])]) (raw := (AV.tu [(AV.ag [(AV.i (imax x.lba lba)), (AV.i (wr ((imin (wr (x.lba + x.len)) (wr (lba + n))) - (imax x.lba lba)))), (AV.i x.kind), (AV.i x.gen), (AV.sl ((Int.toNat (wr ((wr ((imin (wr (x.lba + x.len)) (wr (lba + n))) - x.lba)) * (32 : Int)))) - (Int.toNat (wr ((wr ((imax x.lba lba) - x.lba)) * (32 : Int))))) (List.take (((Int.toNat (wr ((wr ((imin (wr (x.lba + x.len)) (wr (lba + n))) - x.lba)) * (32 : Int)))) - (Int.toNat (wr ((wr ((imax x.lba lba) - x.lba)) * (32 : Int))))) * (1 : Nat)) (List.take (((Int.toNat (wr ((wr ((imin (wr (x.lba + x.len)) (wr (lba + n))) - x.lba)) * (32 : Int)))) - (Int.toNat (wr ((wr ((imax x.lba lba) - x.lba)) * (32 : Int))))) * (1 : Nat)) (List.drop ((Int.toNat (wr ((wr ((imax x.lba lba) - x.lba)) * (32 : Int)))) * (1 : Nat)) (List.map AV.y x.d)))))]), (AV.b Bool.true)])) kq (ac (Eq.refl ([(AV.i x.lba), (AV.i x.len), (AV.i x.kind), (AV.i x.gen), (AV.sl (List.length x.d) (List.map AV.y x.d))] : List AV)) (ac (eCheck_ok (x) _ h0).any0 (ac h1 (ac h1 (ac h2 (ac h2 (ac h2 (ac h2 (ac h1 (ac h1 (ac h3 (ac h3 (ac h4 (ac h4 (ac h4 (ac h4 (ac h3 (ac h3 (ac h5 (ac (show orderOk (rg Try.prog 68 0) = true ∧ allOk (Region.before (rg Try.prog 68 0)) [] 0 [(some [], some []), (some [0], some []), (some [], some []), (some [], some []), (some [], some []), (some [0], some []), (some [], some []), (some [0], some []), (some [], some []), (some [], some []), (some [], some []), (some [], some []), (some [], some []), (some [], some []), (some [], some [])] = true from (ord_of ord_68_0 bef_68_0 kq)) (ac h6 (ac (Eq.refl ([(AV.i x.lba), (AV.i x.len), (AV.i x.kind), (AV.i x.gen), AV.nl] : List AV)) (ac h7 (ac h8 (ac h9 (ac h10 (ac (fq (p := ((List.length (List.take (((Int.toNat (wr ((wr ((imin (wr (x.lba + x.len)) (wr (lba + n))) - x.lba)) * (32 : Int)))) - (Int.toNat (wr ((wr ((imax x.lba lba) - x.lba)) * (32 : Int))))) * (1 : Nat)) (List.drop ((Int.toNat (wr ((wr ((imax x.lba lba) - x.lba)) * (32 : Int)))) * (1 : Nat)) (List.map AV.y x.d)))) = (((Int.toNat (wr ((wr ((imin (wr (x.lba + x.len)) (wr (lba + n))) - x.lba)) * (32 : Int)))) - (Int.toNat (wr ((wr ((imax x.lba lba) - x.lba)) * (32 : Int))))) * (1 : Nat))))) (ac h11 (ac (Eq.refl ([(AV.i x.lba), (AV.i x.len), (AV.i x.kind), (AV.i x.gen), (AV.rf 2 1 0 ((Int.toNat (wr ((wr ((imin (wr (x.lba + x.len)) (wr (lba + n))) - x.lba)) * (32 : Int)))) - (Int.toNat (wr ((wr ((imax x.lba lba) - x.lba)) * (32 : Int))))))] : List AV)) (ac (Eq.refl ([(AV.i (imax x.lba lba)), (AV.i x.len), (AV.i x.kind), (AV.i x.gen), (AV.rf 2 1 0 ((Int.toNat (wr ((wr ((imin (wr (x.lba + x.len)) (wr (lba + n))) - x.lba)) * (32 : Int)))) - (Int.toNat (wr ((wr ((imax x.lba lba) - x.lba)) * (32 : Int))))))] : List AV)) (ac (Eq.refl ([(AV.i (imax x.lba lba)), (AV.i (wr ((imin (wr (x.lba + x.len)) (wr (lba + n))) - (imax x.lba lba)))), (AV.i x.kind), (AV.i x.gen), (AV.rf 2 1 0 ((Int.toNat (wr ((wr ((imin (wr (x.lba + x.len)) (wr (lba + n))) - x.lba)) * (32 : Int)))) - (Int.toNat (wr ((wr ((imax x.lba lba) - x.lba)) * (32 : Int))))))] : List AV)) (ac (Eq.refl ([(AV.i (imax x.lba lba)), (AV.i (wr ((imin (wr (x.lba + x.len)) (wr (lba + n))) - (imax x.lba lba)))), (AV.i x.kind), (AV.i x.gen), (AV.rf 2 1 0 ((Int.toNat (wr ((wr ((imin (wr (x.lba + x.len)) (wr (lba + n))) - x.lba)) * (32 : Int)))) - (Int.toNat (wr ((wr ((imax x.lba lba) - x.lba)) * (32 : Int))))))] : List AV)) (ac (Eq.refl ([(AV.i (imax x.lba lba)), (AV.i (wr ((imin (wr (x.lba + x.len)) (wr (lba + n))) - (imax x.lba lba)))), (AV.i x.kind), (AV.i x.gen), (AV.rf 2 1 0 ((Int.toNat (wr ((wr ((imin (wr (x.lba + x.len)) (wr (lba + n))) - x.lba)) * (32 : Int)))) - (Int.toNat (wr ((wr ((imax x.lba lba) - x.lba)) * (32 : Int))))))] : List AV)) (ac (Eq.refl ([(AV.i (imax x.lba lba)), (AV.i (wr ((imin (wr (x.lba + x.len)) (wr (lba + n))) - (imax x.lba lba)))), (AV.i x.kind), (AV.i x.gen), (AV.rf 2 1 0 ((Int.toNat (wr ((wr ((imin (wr (x.lba + x.len)) (wr (lba + n))) - x.lba)) * (32 : Int)))) - (Int.toNat (wr ((wr ((imax x.lba lba) - x.lba)) * (32 : Int))))))] : List AV)) (ac (fq (p := (((0 : Nat) + (((Int.toNat (wr ((wr ((imin (wr (x.lba + x.len)) (wr (lba + n))) - x.lba)) * (32 : Int)))) - (Int.toNat (wr ((wr ((imax x.lba lba) - x.lba)) * (32 : Int))))) * (1 : Nat))) ≤ (List.length (List.take (((Int.toNat (wr ((wr ((imin (wr (x.lba + x.len)) (wr (lba + n))) - x.lba)) * (32 : Int)))) - (Int.toNat (wr ((wr ((imax x.lba lba) - x.lba)) * (32 : Int))))) * (1 : Nat)) (List.drop ((Int.toNat (wr ((wr ((imax x.lba lba) - x.lba)) * (32 : Int)))) * (1 : Nat)) (List.map AV.y x.d))))))) (ac (pq (p := Pl Bool.true ((List.take (((Int.toNat (wr ((wr ((imin (wr (x.lba + x.len)) (wr (lba + n))) - x.lba)) * (32 : Int)))) - (Int.toNat (wr ((wr ((imax x.lba lba) - x.lba)) * (32 : Int))))) * (1 : Nat)) (List.take (((Int.toNat (wr ((wr ((imin (wr (x.lba + x.len)) (wr (lba + n))) - x.lba)) * (32 : Int)))) - (Int.toNat (wr ((wr ((imax x.lba lba) - x.lba)) * (32 : Int))))) * (1 : Nat)) (List.drop ((Int.toNat (wr ((wr ((imax x.lba lba) - x.lba)) * (32 : Int)))) * (1 : Nat)) (List.map AV.y x.d))))))) an)))))))))))))))))))))))))))))))))))) tq
theorem eCut_l5 (x : Ex) (lba : Int) (n : Int) (s0 : Bool) (h0 : eCheck (x) = some s0) (h1 : ((!s0)) = false) (h2 : ((decide (lba ≥ (0 : Int)))) = true) (h2p : (lba ≥ (0 : Int))) (h3 : ((!(decide (lba ≤ (64 : Int))))) = false) (h4 : ((decide (n ≥ (0 : Int)))) = true) (h4p : (n ≥ (0 : Int))) (h5 : ((!(decide (n ≤ (64 : Int))))) = false) (h6 : ((decide ((imax x.lba lba) ≥ (imin (wr (x.lba + x.len)) (wr (lba + n)))))) = false) (h6p : ¬ ((imax x.lba lba) ≥ (imin (wr (x.lba + x.len)) (wr (lba + n))))) (h7 : ((x.kind == (2 : Int))) = false) (h7p : ¬ (x.kind = (2 : Int))) : eCut_G x lba n (((Ex.mk (imax x.lba lba) (wr ((imin (wr (x.lba + x.len)) (wr (lba + n))) - (imax x.lba lba))) x.kind x.gen ([] : List UInt8)), Bool.true)) :=
  leafR vw_eq (k := 300) (r := []) (hs := hz [(4, [.cells ([(AV.i x.lba), (AV.i x.len), (AV.i x.kind), (AV.i x.gen), (AV.sl (List.length x.d) (List.map AV.y x.d))])]), (1, [.fres (.b (s0))]), (2, [.no]), (1, [.no]), (7, [.yes]), (1, [.yes]), (1, [.yes]), (1, [.yes]), (1, [.no]), (1, [.no]), (1, [.no]), (1, [.no]), (7, [.yes]), (1, [.yes]), (1, [.yes]), (1, [.yes]), (1, [.no]), (1, [.no, .no]), (18, [.yes]), (3, [.no]), (6, [.cells ([(AV.i x.lba), (AV.i x.len), (AV.i x.kind), (AV.i x.gen), AV.nl])]), (4, [.no]), (6, [.cells ([(AV.i (imax x.lba lba)), (AV.i x.len), (AV.i x.kind), (AV.i x.gen), AV.nl])]), (2, [.cells ([(AV.i (imax x.lba lba)), (AV.i (wr ((imin (wr (x.lba + x.len)) (wr (lba + n))) - (imax x.lba lba)))), (AV.i x.kind), (AV.i x.gen), AV.nl])]), (1, [.cells ([(AV.i (imax x.lba lba)), (AV.i (wr ((imin (wr (x.lba + x.len)) (wr (lba + n))) - (imax x.lba lba)))), (AV.i x.kind), (AV.i x.gen), AV.nl])]), (1, [.cells ([(AV.i (imax x.lba lba)), (AV.i (wr ((imin (wr (x.lba + x.len)) (wr (lba + n))) - (imax x.lba lba)))), (AV.i x.kind), (AV.i x.gen), AV.nl])]), (2, [.cells ([(AV.i (imax x.lba lba)), (AV.i (wr ((imin (wr (x.lba + x.len)) (wr (lba + n))) - (imax x.lba lba)))), (AV.i x.kind), (AV.i x.gen), AV.nl])])]) (raw := (AV.tu [(AV.ag [(AV.i (imax x.lba lba)), (AV.i (wr ((imin (wr (x.lba + x.len)) (wr (lba + n))) - (imax x.lba lba)))), (AV.i x.kind), (AV.i x.gen), (AV.sl 0 ([] : List AV))]), (AV.b Bool.true)])) kq (ac (Eq.refl ([(AV.i x.lba), (AV.i x.len), (AV.i x.kind), (AV.i x.gen), (AV.sl (List.length x.d) (List.map AV.y x.d))] : List AV)) (ac (eCheck_ok (x) _ h0).any0 (ac h1 (ac h1 (ac h2 (ac h2 (ac h2 (ac h2 (ac h1 (ac h1 (ac h3 (ac h3 (ac h4 (ac h4 (ac h4 (ac h4 (ac h3 (ac h3 (ac h5 (ac (show orderOk (rg Try.prog 68 0) = true ∧ allOk (Region.before (rg Try.prog 68 0)) [] 0 [(some [], some []), (some [0], some []), (some [], some []), (some [], some []), (some [], some []), (some [0], some []), (some [], some []), (some [0], some []), (some [], some []), (some [], some []), (some [], some []), (some [], some []), (some [], some []), (some [], some []), (some [], some [])] = true from (ord_of ord_68_0 bef_68_0 kq)) (ac h6 (ac (Eq.refl ([(AV.i x.lba), (AV.i x.len), (AV.i x.kind), (AV.i x.gen), AV.nl] : List AV)) (ac h7 (ac (Eq.refl ([(AV.i (imax x.lba lba)), (AV.i x.len), (AV.i x.kind), (AV.i x.gen), AV.nl] : List AV)) (ac (Eq.refl ([(AV.i (imax x.lba lba)), (AV.i (wr ((imin (wr (x.lba + x.len)) (wr (lba + n))) - (imax x.lba lba)))), (AV.i x.kind), (AV.i x.gen), AV.nl] : List AV)) (ac (Eq.refl ([(AV.i (imax x.lba lba)), (AV.i (wr ((imin (wr (x.lba + x.len)) (wr (lba + n))) - (imax x.lba lba)))), (AV.i x.kind), (AV.i x.gen), AV.nl] : List AV)) (ac (Eq.refl ([(AV.i (imax x.lba lba)), (AV.i (wr ((imin (wr (x.lba + x.len)) (wr (lba + n))) - (imax x.lba lba)))), (AV.i x.kind), (AV.i x.gen), AV.nl] : List AV)) (ac (Eq.refl ([(AV.i (imax x.lba lba)), (AV.i (wr ((imin (wr (x.lba + x.len)) (wr (lba + n))) - (imax x.lba lba)))), (AV.i x.kind), (AV.i x.gen), AV.nl] : List AV)) an)))))))))))))))))))))))))))) tq
theorem eCut_l6 (x : Ex) (lba : Int) (n : Int) (s0 : Bool) (h0 : eCheck (x) = some s0) (h1 : ((!s0)) = false) (h2 : ((decide (lba ≥ (0 : Int)))) = true) (h2p : (lba ≥ (0 : Int))) (h3 : ((!(decide (lba ≤ (64 : Int))))) = false) (h4 : ((decide (n ≥ (0 : Int)))) = false) (h4p : ¬ (n ≥ (0 : Int))) : eCut_G x lba n (((Ex.mk 0 0 0 0 ([] : List UInt8)), Bool.false)) :=
  leafR vw_eq (k := 300) (r := []) (hs := hz [(4, [.cells ([(AV.i x.lba), (AV.i x.len), (AV.i x.kind), (AV.i x.gen), (AV.sl (List.length x.d) (List.map AV.y x.d))])]), (1, [.fres (.b (s0))]), (2, [.no]), (1, [.no]), (7, [.yes]), (1, [.yes]), (1, [.yes]), (1, [.yes]), (1, [.no]), (1, [.no]), (1, [.no]), (1, [.no]), (7, [.no, .no, .no, .no]), (1, [.no]), (1, [.no]), (3, [.cells ([(AV.i 0), (AV.i 0), (AV.i 0), (AV.i 0), AV.nl])]), (2, [.cells ([(AV.i 0), (AV.i 0), (AV.i 0), (AV.i 0), AV.nl])])]) (raw := (AV.tu [(AV.ag [(AV.i 0), (AV.i 0), (AV.i 0), (AV.i 0), (AV.sl 0 ([] : List AV))]), (AV.b Bool.false)])) kq (ac (Eq.refl ([(AV.i x.lba), (AV.i x.len), (AV.i x.kind), (AV.i x.gen), (AV.sl (List.length x.d) (List.map AV.y x.d))] : List AV)) (ac (eCheck_ok (x) _ h0).any0 (ac h1 (ac h1 (ac h2 (ac h2 (ac h2 (ac h2 (ac h1 (ac h1 (ac h3 (ac h3 (ac h4 (ac h4 (ac h4 (ac h4 (ac h3 (ac h3 (ac (Eq.refl ([(AV.i 0), (AV.i 0), (AV.i 0), (AV.i 0), AV.nl] : List AV)) (ac (Eq.refl ([(AV.i 0), (AV.i 0), (AV.i 0), (AV.i 0), AV.nl] : List AV)) an)))))))))))))))))))) tq
theorem eCut_l7 (x : Ex) (lba : Int) (n : Int) (s0 : Bool) (h0 : eCheck (x) = some s0) (h1 : ((!s0)) = false) (h2 : ((decide (lba ≥ (0 : Int)))) = false) (h2p : ¬ (lba ≥ (0 : Int))) : eCut_G x lba n (((Ex.mk 0 0 0 0 ([] : List UInt8)), Bool.false)) :=
  leafR vw_eq (k := 300) (r := []) (hs := hz [(4, [.cells ([(AV.i x.lba), (AV.i x.len), (AV.i x.kind), (AV.i x.gen), (AV.sl (List.length x.d) (List.map AV.y x.d))])]), (1, [.fres (.b (s0))]), (2, [.no]), (1, [.no]), (7, [.no, .no, .no, .no]), (1, [.no]), (1, [.no]), (8, [.cells ([(AV.i 0), (AV.i 0), (AV.i 0), (AV.i 0), AV.nl])]), (2, [.cells ([(AV.i 0), (AV.i 0), (AV.i 0), (AV.i 0), AV.nl])])]) (raw := (AV.tu [(AV.ag [(AV.i 0), (AV.i 0), (AV.i 0), (AV.i 0), (AV.sl 0 ([] : List AV))]), (AV.b Bool.false)])) kq (ac (Eq.refl ([(AV.i x.lba), (AV.i x.len), (AV.i x.kind), (AV.i x.gen), (AV.sl (List.length x.d) (List.map AV.y x.d))] : List AV)) (ac (eCheck_ok (x) _ h0).any0 (ac h1 (ac h1 (ac h2 (ac h2 (ac h2 (ac h2 (ac h1 (ac h1 (ac (Eq.refl ([(AV.i 0), (AV.i 0), (AV.i 0), (AV.i 0), AV.nl] : List AV)) (ac (Eq.refl ([(AV.i 0), (AV.i 0), (AV.i 0), (AV.i 0), AV.nl] : List AV)) an)))))))))))) tq
theorem eCut_ok (x : Ex) (lba : Int) (n : Int) (r : Ex × Bool) : eCut x lba n = some r → eCut_G x lba n r := by
  unfold eCut
  refine tc_ok (fun s0 h0 => ?_)
  refine tb_ok (fun h1 => ?_) (fun h1 => ?_)
  ·
    exact fun e => tl_ok (G := eCut_G x lba n) (eCut_l0 x lba n s0 h0 h1) e
  ·
    refine tb_ok (fun h2 => ?_) (fun h2 => ?_)
    ·
      have h2p := of_decide_eq_true h2
      refine tb_ok (fun h3 => ?_) (fun h3 => ?_)
      ·
        exact fun e => tl_ok (G := eCut_G x lba n) (eCut_l1 x lba n s0 h0 h1 h2 h2p h3) e
      ·
        refine tb_ok (fun h4 => ?_) (fun h4 => ?_)
        ·
          have h4p := of_decide_eq_true h4
          refine tb_ok (fun h5 => ?_) (fun h5 => ?_)
          ·
            exact fun e => tl_ok (G := eCut_G x lba n) (eCut_l2 x lba n s0 h0 h1 h2 h2p h3 h4 h4p h5) e
          ·
            refine tb_ok (fun h6 => ?_) (fun h6 => ?_)
            ·
              have h6p := of_decide_eq_true h6
              exact fun e => tl_ok (G := eCut_G x lba n) (eCut_l3 x lba n s0 h0 h1 h2 h2p h3 h4 h4p h5 h6 h6p) e
            ·
              have h6p := of_decide_eq_false h6
              refine tb_ok (fun h7 => ?_) (fun h7 => ?_)
              ·
                have h7p := eq_of_beq h7
                refine tp_ok (fun h8 => ?_)
                refine tp_ok (fun h9 => ?_)
                refine tp_ok (fun h10 => ?_)
                refine tp_ok (fun h11 => ?_)
                exact fun e => tl_ok (G := eCut_G x lba n) (eCut_l4 x lba n s0 h0 h1 h2 h2p h3 h4 h4p h5 h6 h6p h7 h7p h8 h9 h10 h11) e
              ·
                have h7p := ne_of_beq_false h7
                exact fun e => tl_ok (G := eCut_G x lba n) (eCut_l5 x lba n s0 h0 h1 h2 h2p h3 h4 h4p h5 h6 h6p h7 h7p) e
        ·
          have h4p := of_decide_eq_false h4
          exact fun e => tl_ok (G := eCut_G x lba n) (eCut_l6 x lba n s0 h0 h1 h2 h2p h3 h4 h4p) e
    ·
      have h2p := of_decide_eq_false h2
      exact fun e => tl_ok (G := eCut_G x lba n) (eCut_l7 x lba n s0 h0 h1 h2 h2p) e
/-- Function 93, as it answers. -/
noncomputable def r7Bytes (x : Ex) : Option (List UInt8) :=
 (tc (r7Check (x)) fun s0 =>
  (tb ((!s0))
   (some (([] : List UInt8)))
   (tb ((x.kind == (2 : Int)))
    (tp (((List.length x.d) ≤ (4294967296 : Nat)))
     (some (x.d)))
    (tp ((((wr ((32 : Int) * x.len)) = (wr ((32 : Int) * x.len))) ∧ (((0 : Int) ≤ (wr ((32 : Int) * x.len))) ∧ ((wr ((32 : Int) * x.len)) ≤ (4294967296 : Int)))))
     (some ((List.replicate (Int.toNat (wr ((32 : Int) * x.len))) (UInt8.ofNat (0 : Nat)))))))))
abbrev r7Bytes_G (x : Ex) (r : List UInt8) : Prop := EvFr Try.prog cf true 93 [Ex.av (x)] (bys (r))
theorem r7Bytes_l0 (x : Ex) (s0 : Bool) (h0 : r7Check (x) = some s0) (h1 : ((!s0)) = true) : r7Bytes_G x (([] : List UInt8)) :=
  leafR vw_eq (k := 300) (r := []) (hs := hz [(3, [.cells ([(AV.i x.lba), (AV.i x.len), (AV.i x.kind), (AV.i x.gen), (AV.sl (List.length x.d) (List.map AV.y x.d))])]), (1, [.fres (.b (s0))]), (3, [.yes]), (1, [])]) (raw := (AV.sl 0 ([] : List AV))) kq (ac (Eq.refl ([(AV.i x.lba), (AV.i x.len), (AV.i x.kind), (AV.i x.gen), (AV.sl (List.length x.d) (List.map AV.y x.d))] : List AV)) (ac (r7Check_ok (x) _ h0).any0 (ac h1 an))) tq
theorem r7Bytes_l1 (x : Ex) (s0 : Bool) (h0 : r7Check (x) = some s0) (h1 : ((!s0)) = false) (h2 : ((x.kind == (2 : Int))) = true) (h2p : (x.kind = (2 : Int))) (h3 : ((List.length x.d) ≤ (4294967296 : Nat))) : r7Bytes_G x (x.d) :=
  leafR vw_eq (k := 300) (r := []) (hs := hz [(3, [.cells ([(AV.i x.lba), (AV.i x.len), (AV.i x.kind), (AV.i x.gen), (AV.sl (List.length x.d) (List.map AV.y x.d))])]), (1, [.fres (.b (s0))]), (3, [.no]), (4, [.yes]), (4, [.yes, .yes]), (1, [.yes, .yes])]) (raw := (AV.sl (List.length x.d) (List.map AV.y x.d))) kq (ac (Eq.refl ([(AV.i x.lba), (AV.i x.len), (AV.i x.kind), (AV.i x.gen), (AV.sl (List.length x.d) (List.map AV.y x.d))] : List AV)) (ac (r7Check_ok (x) _ h0).any0 (ac h1 (ac h2 (ac (tq (p := ((List.length (List.map AV.y x.d)) = ((List.length x.d) * (1 : Nat))))) (ac h3 (ac (tq (p := (((0 : Nat) = (0 : Nat)) ∧ ((List.length (List.map AV.y x.d)) = ((List.length x.d) * (1 : Nat)))))) (ac (pq (p := Pl Bool.true ((List.map AV.y x.d)))) an)))))))) tq
theorem r7Bytes_l2 (x : Ex) (s0 : Bool) (h0 : r7Check (x) = some s0) (h1 : ((!s0)) = false) (h2 : ((x.kind == (2 : Int))) = false) (h2p : ¬ (x.kind = (2 : Int))) (h3 : (((wr ((32 : Int) * x.len)) = (wr ((32 : Int) * x.len))) ∧ (((0 : Int) ≤ (wr ((32 : Int) * x.len))) ∧ ((wr ((32 : Int) * x.len)) ≤ (4294967296 : Int))))) : r7Bytes_G x ((List.replicate (Int.toNat (wr ((32 : Int) * x.len))) (UInt8.ofNat (0 : Nat)))) :=
  leafR vw_eq (k := 300) (r := []) (hs := hz [(3, [.cells ([(AV.i x.lba), (AV.i x.len), (AV.i x.kind), (AV.i x.gen), (AV.sl (List.length x.d) (List.map AV.y x.d))])]), (1, [.fres (.b (s0))]), (3, [.no]), (4, [.no]), (4, [.yes]), (1, [.yes, .yes])]) (raw := (AV.sl (Int.toNat (wr ((32 : Int) * x.len))) (List.flatten (List.replicate (Int.toNat (wr ((32 : Int) * x.len))) [(AV.y (UInt8.ofNat (0 : Nat)))])))) kq (ac (Eq.refl ([(AV.i x.lba), (AV.i x.len), (AV.i x.kind), (AV.i x.gen), (AV.sl (List.length x.d) (List.map AV.y x.d))] : List AV)) (ac (r7Check_ok (x) _ h0).any0 (ac h1 (ac h2 (ac h3 (ac (tq (p := (((0 : Nat) = (0 : Nat)) ∧ ((List.length (List.flatten (List.replicate (Int.toNat (wr ((32 : Int) * x.len))) [(AV.y (UInt8.ofNat (0 : Nat)))]))) = ((Int.toNat (wr ((32 : Int) * x.len))) * (1 : Nat)))))) (ac (pq (p := Pl Bool.true ((List.flatten (List.replicate (Int.toNat (wr ((32 : Int) * x.len))) [(AV.y (UInt8.ofNat (0 : Nat)))]))))) an))))))) tq
theorem r7Bytes_ok (x : Ex) (r : List UInt8) : r7Bytes x = some r → r7Bytes_G x r := by
  unfold r7Bytes
  refine tc_ok (fun s0 h0 => ?_)
  refine tb_ok (fun h1 => ?_) (fun h1 => ?_)
  ·
    exact fun e => tl_ok (G := r7Bytes_G x) (r7Bytes_l0 x s0 h0 h1) e
  ·
    refine tb_ok (fun h2 => ?_) (fun h2 => ?_)
    ·
      have h2p := eq_of_beq h2
      refine tp_ok (fun h3 => ?_)
      exact fun e => tl_ok (G := r7Bytes_G x) (r7Bytes_l1 x s0 h0 h1 h2 h2p h3) e
    ·
      have h2p := ne_of_beq_false h2
      refine tp_ok (fun h3 => ?_)
      exact fun e => tl_ok (G := r7Bytes_G x) (r7Bytes_l2 x s0 h0 h1 h2 h2p h3) e
/-- Function 65, as it answers. -/
noncomputable def r7Copy (x : Ex) : Option (Ex) :=
 (tp (((List.length x.d) ≤ (4294967296 : Nat)))
  (some (x)))
abbrev r7Copy_G (x : Ex) (r : Ex) : Prop := EvOw Try.prog cf true [[0, 0, 0, 0, 1]] 65 [Ex.av (x)] (Ex.av (r))
theorem r7Copy_l0 (x : Ex) (h0 : ((List.length x.d) ≤ (4294967296 : Nat))) : r7Copy_G x (x) :=
  leafO vw_eq (k := 300) (r := []) (hs := hz [(18, [.yes, .yes]), (2, [.cells ([(AV.i x.lba), (AV.i x.len), (AV.i x.kind), (AV.i x.gen), (AV.rf 2 1 0 (List.length x.d))]), .yes]), (1, [.cells ([(AV.i x.lba), (AV.i x.len), (AV.i x.kind), (AV.i x.gen), (AV.rf 2 1 0 (List.length x.d))]), .yes, .yes])]) (R := fun H => ((AV.ag [(AV.i x.lba), (AV.i x.len), (AV.i x.kind), (AV.i x.gen), (AV.rf (AH.nx H) 1 0 (List.length x.d))]), (AH.mk ((AH.nx H) + (1 : Nat)) (((AH.nx H), (AObj.cells (List.map AV.y x.d))) :: (AH.l H))))) (fun H => kq) (ac (tq (p := ((List.length (List.map AV.y x.d)) = ((List.length x.d) * (1 : Nat))))) (ac h0 (ac (Eq.refl ([(AV.i x.lba), (AV.i x.len), (AV.i x.kind), (AV.i x.gen), (AV.rf 2 1 0 (List.length x.d))] : List AV)) (ac (show orderOk (rg Try.prog 65 0) = true ∧ allOk (Region.before (rg Try.prog 65 0)) [] 0 [(some [], some []), (some [0], some []), (some [], some []), (some [0], some []), (some [], some []), (some [0], some []), (some [], some []), (some [0], some []), (some [], some []), (some [], some []), (some [0], some []), (some [], some [2]), (some [], some []), (some [1], some [1])] = true from (ord_of ord_65_0 bef_65_0 kq)) (ac (Eq.refl ([(AV.i x.lba), (AV.i x.len), (AV.i x.kind), (AV.i x.gen), (AV.rf 2 1 0 (List.length x.d))] : List AV)) (ac (tq (p := (((0 : Nat) = (0 : Nat)) ∧ ((List.length (List.map AV.y x.d)) = ((List.length x.d) * (1 : Nat)))))) (ac (pq (p := Pl Bool.true ((List.map AV.y x.d)))) an))))))) (fun H => oq)
theorem r7Copy_ok (x : Ex) (r : Ex) : r7Copy x = some r → r7Copy_G x r := by
  unfold r7Copy
  refine tp_ok (fun h0 => ?_)
  exact fun e => tl_ok (G := r7Copy_G x) (r7Copy_l0 x h0) e
noncomputable abbrev sUpto_L0_I (blocks : Int) (l : List Ex) (gen : Int) (s0 : Bool) : St := (St.mk [((0 : Nat), (AV.sl (List.length l) (List.flatMap Ex.cells l))), ((1 : Nat), (AV.fn (67 : Nat) [(AV.pt 0 0)])), ((4 : Nat), (AV.i 0)), ((6 : Nat), (AV.sl (List.length l) (List.flatMap Ex.cells l))), ((7 : Nat), (AV.i (↑(List.length l) : Int))), ((8 : Nat), (AV.i 0))] 19 (AH.mk 1 [((0 : Nat), (AObj.cells [(AV.i gen)]))]) Bool.false)
noncomputable abbrev sUpto_L0_S (blocks : Int) (l : List Ex) (gen : Int) (s0 : Bool) (s2 : Int) : St := (St.mk [((0 : Nat), (AV.sl (List.length l) (List.flatMap Ex.cells l))), ((1 : Nat), (AV.fn (67 : Nat) [(AV.pt 0 0)])), ((7 : Nat), (AV.i (↑(List.length l) : Int))), ((8 : Nat), (AV.i s2))] 19 (AH.mk 1 [((0 : Nat), (AObj.cells [(AV.i gen)]))]) Bool.false)
noncomputable def sUpto_L0_step (blocks : Int) (l : List Ex) (gen : Int) (s0 : Bool) (s2 : Int) : Option (Int) :=
 (tb ((decide (s2 < (↑(List.length l) : Int))))
  (tp ((((0 : Int) ≤ s2) ∧ (s2 < (↑(List.length l) : Int))))
   (tb ((decide ((exAt l (Int.toNat s2)).gen > gen)))
    none /- exit -/
    (some ((wr (s2 + (1 : Int)))))))
  none /- exit -/)
theorem sUpto_L0_s0 (blocks : Int) (l : List Ex) (gen : Int) (s0 : Bool) (s2 : Int) (h3 : ((decide (s2 < (↑(List.length l) : Int)))) = true) (h3p : (s2 < (↑(List.length l) : Int))) (h4 : (((0 : Int) ≤ s2) ∧ (s2 < (↑(List.length l) : Int)))) (h5 : ((decide ((exAt l (Int.toNat s2)).gen > gen))) = false) (h5p : ¬ ((exAt l (Int.toNat s2)).gen > gen)) : EvStep Try.prog cf 1 (lp Try.prog 89 0) (sUpto_L0_S blocks l gen s0 s2) (sUpto_L0_S blocks l gen s0 ((wr (s2 + (1 : Int))))) :=
  leafS vw_eq (k := 300) (r := []) (hs := hz [(1, [.yes]), (5, [.yes, .yes, .cells ((Ex.cells (exAt l (Int.toNat s2))))]), (10, [.no]), (2, [])]) (st1 := (St.mk [((0 : Nat), (AV.sl (List.length l) (List.flatMap Ex.cells l))), ((1 : Nat), (AV.fn (67 : Nat) [(AV.pt 0 0)])), ((7 : Nat), (AV.i (↑(List.length l) : Int))), ((8 : Nat), (AV.i (wr (s2 + (1 : Int))))), ((9 : Nat), (AV.b (decide (s2 < (↑(List.length l) : Int))))), ((10 : Nat), (AV.i s2)), ((5 : Nat), (AV.i s2)), ((11 : Nat), (AV.fn (67 : Nat) [(AV.pt 0 0)])), ((12 : Nat), (AV.sl (List.length l) (List.flatMap Ex.cells l))), ((13 : Nat), (AV.i s2)), ((14 : Nat), (AV.ip (List.drop ((Int.toNat s2) * (5 : Nat)) (List.flatMap Ex.cells l)))), ((15 : Nat), (AV.ag [(AV.i (exAt l (Int.toNat s2)).lba), (AV.i (exAt l (Int.toNat s2)).len), (AV.i (exAt l (Int.toNat s2)).kind), (AV.i (exAt l (Int.toNat s2)).gen), (AV.sl (List.length (exAt l (Int.toNat s2)).d) (List.map AV.y (exAt l (Int.toNat s2)).d))])), ((16 : Nat), (AV.b (decide ((exAt l (Int.toNat s2)).gen > gen)))), ((18 : Nat), (AV.i (wr (s2 + (1 : Int)))))] 19 (AH.mk 2 [((1 : Nat), (AObj.cells [(AV.i (exAt l (Int.toNat s2)).lba), (AV.i (exAt l (Int.toNat s2)).len), (AV.i (exAt l (Int.toNat s2)).kind), (AV.i (exAt l (Int.toNat s2)).gen), (AV.sl (List.length (exAt l (Int.toNat s2)).d) (List.map AV.y (exAt l (Int.toNat s2)).d))])), ((0 : Nat), (AObj.cells [(AV.i gen)]))]) Bool.false)) kq (ac h3 (ac h4 (ac (fq (p := ((5 : Nat) ≤ (List.length (List.drop ((Int.toNat s2) * (5 : Nat)) (List.flatMap Ex.cells l)))))) (ac (show (List.take 5 (List.drop ((Int.toNat s2) * (5 : Nat)) (List.flatMap Ex.cells l))) = (Ex.cells (exAt l (Int.toNat s2))) from (ex_takeO bq bq)) (ac h5 an))))) (Nat.le_of_ble_eq_true rfl) (absB_of [] [] kq (.consn kq (.eqv tq rfl) (.consn kq (.fn (.cons (.pt rfl) .nil)) (.consn kq (.eqv tq rfl) (.consn kq (.eqv tq rfl) .nil)))) (.cons (.old rfl rfl (.cells (.cons (.eqv tq rfl) .nil))) .nil))
theorem sUpto_L0_ok (blocks : Int) (l : List Ex) (gen : Int) (s0 : Bool) (s2 zz : Int) : sUpto_L0_step blocks l gen s0 s2 = some zz → EvStep Try.prog cf 1 (lp Try.prog 89 0) (sUpto_L0_S blocks l gen s0 s2) (sUpto_L0_S blocks l gen s0 zz) := by
  unfold sUpto_L0_step
  refine tb_ok (fun h3 => ?_) (fun h3 => ?_)
  ·
    have h3p := of_decide_eq_true h3
    refine tp_ok (fun h4 => ?_)
    refine tb_ok (fun h5 => ?_) (fun h5 => ?_)
    ·
      have h5p := of_decide_eq_true h5
      exact fun e => nomatch e
    ·
      have h5p := of_decide_eq_false h5
      exact fun e => tl_ok (G := (fun zz => EvStep Try.prog cf 1 (lp Try.prog 89 0) (sUpto_L0_S blocks l gen s0 s2) (sUpto_L0_S blocks l gen s0 zz))) (sUpto_L0_s0 blocks l gen s0 s2 h3 h3p h4 h5 h5p) e
  ·
    have h3p := of_decide_eq_false h3
    exact fun e => nomatch e
/-- Function 45, as it answers. -/
noncomputable def sUpto (blocks : Int) (l : List Ex) (gen : Int) : Option (Bool) :=
 (tc (mCheck (blocks) (l)) fun s0 =>
  (tb (s0)
   (th (sUpto_L0_step blocks l gen s0) ((0 : Int)) fun s2 =>
    (tb ((decide (s2 < (↑(List.length l) : Int))))
     (tp ((((0 : Int) ≤ s2) ∧ (s2 < (↑(List.length l) : Int))))
      (tb ((decide ((exAt l (Int.toNat s2)).gen > gen)))
       (some ((!(decide (s2 ≥ (0 : Int))))))
       none /- stop behind an operation -/))
     (some (Bool.true))))
   (some (Bool.false))))
abbrev sUpto_G (blocks : Int) (l : List Ex) (gen : Int) (r : Bool) : Prop := EvFr Try.prog cf true 45 [.i (blocks), exs (l), .i (gen)] (.b (r))
theorem sUpto_l0 (blocks : Int) (l : List Ex) (gen : Int) (s0 : Bool) (h0 : mCheck (blocks) (l) = some s0) (h1 : (s0) = true) (s2 : Int) (h2 : Runs (sUpto_L0_step blocks l gen s0) ((0 : Int)) s2) (h3 : ((decide (s2 < (↑(List.length l) : Int)))) = true) (h3p : (s2 < (↑(List.length l) : Int))) (h4 : (((0 : Int) ≤ s2) ∧ (s2 < (↑(List.length l) : Int)))) (h5 : ((decide ((exAt l (Int.toNat s2)).gen > gen))) = true) (h5p : ((exAt l (Int.toNat s2)).gen > gen)) : sUpto_G blocks l gen ((!(decide (s2 ≥ (0 : Int))))) :=
  leafR vw_eq (k := 300) (r := []) (hs := hz [(5, [.fres (.b (s0))]), (1, [.yes]), (1, [.yes]), (1, [.yes]), (9, [.head (sUpto_L0_S blocks l gen s0 s2)]), (1, [.yes]), (5, [.yes, .yes, .cells ((Ex.cells (exAt l (Int.toNat s2))))]), (10, [.yes]), (4, [.yes]), (1, [.yes]), (1, [])]) (raw := (AV.b (!(decide (s2 ≥ (0 : Int)))))) kq (ac (mCheck_ok (blocks) (l) _ h0).any0 (ac h1 (ac h1 (ac h1 (ac (show EvHead Try.prog cf (lp Try.prog 89 0) (sUpto_L0_I blocks l gen s0) (sUpto_L0_S blocks l gen s0 s2) from (EvHead.of (sUpto_L0_ok blocks l gen s0) (absB_of [] [] kq (.consn kq (.eqv tq rfl) (.consn kq (.fn (.cons (.pt rfl) .nil)) (.consn kq (.eqv tq rfl) (.consn kq (.eqv tq rfl) .nil)))) (.cons (.old rfl rfl (.cells (.cons (.eqv tq rfl) .nil))) .nil)) h2)) (ac h3 (ac h4 (ac (fq (p := ((5 : Nat) ≤ (List.length (List.drop ((Int.toNat s2) * (5 : Nat)) (List.flatMap Ex.cells l)))))) (ac (show (List.take 5 (List.drop ((Int.toNat s2) * (5 : Nat)) (List.flatMap Ex.cells l))) = (Ex.cells (exAt l (Int.toNat s2))) from (ex_takeO bq bq)) (ac h5 (ac h1 (ac h1 an)))))))))))) tq
theorem sUpto_l1 (blocks : Int) (l : List Ex) (gen : Int) (s0 : Bool) (h0 : mCheck (blocks) (l) = some s0) (h1 : (s0) = true) (s2 : Int) (h2 : Runs (sUpto_L0_step blocks l gen s0) ((0 : Int)) s2) (h3 : ((decide (s2 < (↑(List.length l) : Int)))) = false) (h3p : ¬ (s2 < (↑(List.length l) : Int))) : sUpto_G blocks l gen (Bool.true) :=
  leafR vw_eq (k := 300) (r := []) (hs := hz [(5, [.fres (.b (s0))]), (1, [.yes]), (1, [.yes]), (1, [.yes]), (9, [.head (sUpto_L0_S blocks l gen s0 s2)]), (1, [.no]), (3, [.yes]), (1, [.yes]), (1, [])]) (raw := (AV.b Bool.true)) kq (ac (mCheck_ok (blocks) (l) _ h0).any0 (ac h1 (ac h1 (ac h1 (ac (show EvHead Try.prog cf (lp Try.prog 89 0) (sUpto_L0_I blocks l gen s0) (sUpto_L0_S blocks l gen s0 s2) from (EvHead.of (sUpto_L0_ok blocks l gen s0) (absB_of [] [] kq (.consn kq (.eqv tq rfl) (.consn kq (.fn (.cons (.pt rfl) .nil)) (.consn kq (.eqv tq rfl) (.consn kq (.eqv tq rfl) .nil)))) (.cons (.old rfl rfl (.cells (.cons (.eqv tq rfl) .nil))) .nil)) h2)) (ac h3 (ac h1 (ac h1 an)))))))) tq
theorem sUpto_l2 (blocks : Int) (l : List Ex) (gen : Int) (s0 : Bool) (h0 : mCheck (blocks) (l) = some s0) (h1 : (s0) = false) : sUpto_G blocks l gen (Bool.false) :=
  leafR vw_eq (k := 300) (r := []) (hs := hz [(5, [.fres (.b (s0))]), (1, [.no, .no, .no, .no, .no]), (1, [])]) (raw := (AV.b Bool.false)) kq (ac (mCheck_ok (blocks) (l) _ h0).any0 (ac h1 (ac h1 (ac h1 (ac h1 (ac h1 an)))))) tq
theorem sUpto_ok (blocks : Int) (l : List Ex) (gen : Int) (r : Bool) : sUpto blocks l gen = some r → sUpto_G blocks l gen r := by
  unfold sUpto
  refine tc_ok (fun s0 h0 => ?_)
  refine tb_ok (fun h1 => ?_) (fun h1 => ?_)
  ·
    refine th_ok (fun s2 h2 => ?_)
    refine tb_ok (fun h3 => ?_) (fun h3 => ?_)
    ·
      have h3p := of_decide_eq_true h3
      refine tp_ok (fun h4 => ?_)
      refine tb_ok (fun h5 => ?_) (fun h5 => ?_)
      ·
        have h5p := of_decide_eq_true h5
        exact fun e => tl_ok (G := sUpto_G blocks l gen) (sUpto_l0 blocks l gen s0 h0 h1 s2 h2 h3 h3p h4 h5 h5p) e
      ·
        have h5p := of_decide_eq_false h5
        exact fun e => nomatch e
    ·
      have h3p := of_decide_eq_false h3
      exact fun e => tl_ok (G := sUpto_G blocks l gen) (sUpto_l1 blocks l gen s0 h0 h1 s2 h2 h3 h3p) e
  ·
    exact fun e => tl_ok (G := sUpto_G blocks l gen) (sUpto_l2 blocks l gen s0 h0 h1) e
noncomputable abbrev r11upto_L0_I (blocks : Int) (l : List Ex) (gen : Int) (s0 : Bool) : St := (St.mk [((0 : Nat), (AV.i blocks)), ((1 : Nat), (AV.sl (List.length l) (List.flatMap Ex.cells l))), ((2 : Nat), (AV.i gen)), ((6 : Nat), (AV.b Bool.false)), ((9 : Nat), (AV.i blocks)), ((10 : Nat), (AV.sl (List.length l) (List.flatMap Ex.cells l))), ((11 : Nat), (AV.b s0)), ((7 : Nat), (AV.b s0)), ((8 : Nat), (AV.i 0))] 26 (AH.mk 0 ([] : List (Prod Nat AObj))) Bool.false)
noncomputable abbrev r11upto_L0_S (blocks : Int) (l : List Ex) (gen : Int) (s0 : Bool) (s1 : Int) : St := (St.mk [((0 : Nat), (AV.i blocks)), ((1 : Nat), (AV.sl (List.length l) (List.flatMap Ex.cells l))), ((2 : Nat), (AV.i gen)), ((7 : Nat), (AV.b s0)), ((8 : Nat), (AV.i s1))] 26 (AH.mk 0 ([] : List (Prod Nat AObj))) Bool.false)
noncomputable def r11upto_L0_step (blocks : Int) (l : List Ex) (gen : Int) (s0 : Bool) (s1 : Int) : Option (Int) :=
 (tb ((decide (s1 < (↑(List.length l) : Int))))
  (tp ((((0 : Int) ≤ s1) ∧ (s1 < (↑(List.length l) : Int))))
   (tb ((decide ((exAt l (Int.toNat s1)).gen > gen)))
    none /- exit -/
    (some ((wr (s1 + (1 : Int)))))))
  none /- exit -/)
theorem r11upto_L0_s0 (blocks : Int) (l : List Ex) (gen : Int) (s0 : Bool) (s1 : Int) (h2 : ((decide (s1 < (↑(List.length l) : Int)))) = true) (h2p : (s1 < (↑(List.length l) : Int))) (h3 : (((0 : Int) ≤ s1) ∧ (s1 < (↑(List.length l) : Int)))) (h4 : ((decide ((exAt l (Int.toNat s1)).gen > gen))) = false) (h4p : ¬ ((exAt l (Int.toNat s1)).gen > gen)) : EvStep Try.prog cf 0 (lp Try.prog 48 0) (r11upto_L0_S blocks l gen s0 s1) (r11upto_L0_S blocks l gen s0 ((wr (s1 + (1 : Int))))) :=
  leafS vw_eq (k := 300) (r := []) (hs := hz [(4, [.yes]), (2, [.yes]), (1, [.yes, .val ((AV.i (exAt l (Int.toNat s1)).gen))]), (2, [.no]), (3, [])]) (st1 := (St.mk [((0 : Nat), (AV.i blocks)), ((1 : Nat), (AV.sl (List.length l) (List.flatMap Ex.cells l))), ((2 : Nat), (AV.i gen)), ((7 : Nat), (AV.b s0)), ((8 : Nat), (AV.i (wr (s1 + (1 : Int))))), ((12 : Nat), (AV.i s1)), ((13 : Nat), (AV.sl (List.length l) (List.flatMap Ex.cells l))), ((14 : Nat), (AV.i (↑(List.length l) : Int))), ((15 : Nat), (AV.b (decide (s1 < (↑(List.length l) : Int))))), ((18 : Nat), (AV.sl (List.length l) (List.flatMap Ex.cells l))), ((19 : Nat), (AV.i s1)), ((20 : Nat), (AV.ip (List.drop ((Int.toNat s1) * (5 : Nat)) (List.flatMap Ex.cells l)))), ((21 : Nat), (AV.ip (List.drop 3 (List.drop ((Int.toNat s1) * (5 : Nat)) (List.flatMap Ex.cells l))))), ((22 : Nat), (AV.i (exAt l (Int.toNat s1)).gen)), ((23 : Nat), (AV.i gen)), ((24 : Nat), (AV.b (decide ((exAt l (Int.toNat s1)).gen > gen)))), ((16 : Nat), (AV.i s1)), ((17 : Nat), (AV.i (wr (s1 + (1 : Int)))))] 26 (AH.mk 0 ([] : List (Prod Nat AObj))) Bool.false)) kq (ac h2 (ac h3 (ac (fq (p := ((1 : Nat) ≤ (List.length (List.drop 3 (List.drop ((Int.toNat s1) * (5 : Nat)) (List.flatMap Ex.cells l))))))) (ac (show (List.take 1 (List.drop 3 (List.drop ((Int.toNat s1) * (5 : Nat)) (List.flatMap Ex.cells l)))) = [(AV.i (exAt l (Int.toNat s1)).gen)] from (by first | exact ex_one _ _ _ _ bq rfl | exact ex_oneA _ _ _ _ bq rfl | (simpa using ex_one (l) ((Int.toNat s1)) 3 _ bq rfl) | ((try simp only [List.drop_drop]); rw [show ((3 : Nat) + ((Int.toNat s1) * (5 : Nat))) = ((Int.toNat s1)) * 5 + 3 by omega]; exact ex_oneA (l) ((Int.toNat s1)) 3 _ bq rfl))) (ac h4 an))))) (Nat.le_of_ble_eq_true rfl) (absB_of [] [] kq (.consn kq (.eqv tq rfl) (.consn kq (.eqv tq rfl) (.consn kq (.eqv tq rfl) (.consn kq (.eqv tq rfl) (.consn kq (.eqv tq rfl) .nil))))) .nil)
theorem r11upto_L0_ok (blocks : Int) (l : List Ex) (gen : Int) (s0 : Bool) (s1 zz : Int) : r11upto_L0_step blocks l gen s0 s1 = some zz → EvStep Try.prog cf 0 (lp Try.prog 48 0) (r11upto_L0_S blocks l gen s0 s1) (r11upto_L0_S blocks l gen s0 zz) := by
  unfold r11upto_L0_step
  refine tb_ok (fun h2 => ?_) (fun h2 => ?_)
  ·
    have h2p := of_decide_eq_true h2
    refine tp_ok (fun h3 => ?_)
    refine tb_ok (fun h4 => ?_) (fun h4 => ?_)
    ·
      have h4p := of_decide_eq_true h4
      exact fun e => nomatch e
    ·
      have h4p := of_decide_eq_false h4
      exact fun e => tl_ok (G := (fun zz => EvStep Try.prog cf 0 (lp Try.prog 48 0) (r11upto_L0_S blocks l gen s0 s1) (r11upto_L0_S blocks l gen s0 zz))) (r11upto_L0_s0 blocks l gen s0 s1 h2 h2p h3 h4 h4p) e
  ·
    have h2p := of_decide_eq_false h2
    exact fun e => nomatch e
/-- Function 48, as it answers. -/
noncomputable def r11upto (blocks : Int) (l : List Ex) (gen : Int) : Option (Bool) :=
 (tc (r8Check (blocks) (l)) fun s0 =>
  (th (r11upto_L0_step blocks l gen s0) ((0 : Int)) fun s1 =>
   (tb ((decide (s1 < (↑(List.length l) : Int))))
    (tp ((((0 : Int) ≤ s1) ∧ (s1 < (↑(List.length l) : Int))))
     (tb ((decide ((exAt l (Int.toNat s1)).gen > gen)))
      (some (Bool.false))
      none /- stop behind an operation -/))
    (some (s0)))))
abbrev r11upto_G (blocks : Int) (l : List Ex) (gen : Int) (r : Bool) : Prop := EvFr Try.prog cf true 48 [.i (blocks), exs (l), .i (gen)] (.b (r))
theorem r11upto_l0 (blocks : Int) (l : List Ex) (gen : Int) (s0 : Bool) (h0 : r8Check (blocks) (l) = some s0) (s1 : Int) (h1 : Runs (r11upto_L0_step blocks l gen s0) ((0 : Int)) s1) (h2 : ((decide (s1 < (↑(List.length l) : Int)))) = true) (h2p : (s1 < (↑(List.length l) : Int))) (h3 : (((0 : Int) ≤ s1) ∧ (s1 < (↑(List.length l) : Int)))) (h4 : ((decide ((exAt l (Int.toNat s1)).gen > gen))) = true) (h4p : ((exAt l (Int.toNat s1)).gen > gen)) : r11upto_G blocks l gen (Bool.false) :=
  leafR vw_eq (k := 300) (r := []) (hs := hz [(4, [.fres (.b (s0))]), (2, [.head (r11upto_L0_S blocks l gen s0 s1)]), (4, [.yes]), (2, [.yes]), (1, [.yes, .val ((AV.i (exAt l (Int.toNat s1)).gen))]), (2, [.yes]), (1, [])]) (raw := (AV.b Bool.false)) kq (ac (r8Check_ok (blocks) (l) _ h0).any0 (ac (show EvHead Try.prog cf (lp Try.prog 48 0) (r11upto_L0_I blocks l gen s0) (r11upto_L0_S blocks l gen s0 s1) from (EvHead.of (r11upto_L0_ok blocks l gen s0) (absB_of [] [] kq (.consn kq (.eqv tq rfl) (.consn kq (.eqv tq rfl) (.consn kq (.eqv tq rfl) (.consn kq (.eqv tq rfl) (.consn kq (.eqv tq rfl) .nil))))) .nil) h1)) (ac h2 (ac h3 (ac (fq (p := ((1 : Nat) ≤ (List.length (List.drop 3 (List.drop ((Int.toNat s1) * (5 : Nat)) (List.flatMap Ex.cells l))))))) (ac (show (List.take 1 (List.drop 3 (List.drop ((Int.toNat s1) * (5 : Nat)) (List.flatMap Ex.cells l)))) = [(AV.i (exAt l (Int.toNat s1)).gen)] from (by first | exact ex_one _ _ _ _ bq rfl | exact ex_oneA _ _ _ _ bq rfl | (simpa using ex_one (l) ((Int.toNat s1)) 3 _ bq rfl) | ((try simp only [List.drop_drop]); rw [show ((3 : Nat) + ((Int.toNat s1) * (5 : Nat))) = ((Int.toNat s1)) * 5 + 3 by omega]; exact ex_oneA (l) ((Int.toNat s1)) 3 _ bq rfl))) (ac h4 an))))))) tq
theorem r11upto_l1 (blocks : Int) (l : List Ex) (gen : Int) (s0 : Bool) (h0 : r8Check (blocks) (l) = some s0) (s1 : Int) (h1 : Runs (r11upto_L0_step blocks l gen s0) ((0 : Int)) s1) (h2 : ((decide (s1 < (↑(List.length l) : Int)))) = false) (h2p : ¬ (s1 < (↑(List.length l) : Int))) : r11upto_G blocks l gen (s0) :=
  leafR vw_eq (k := 300) (r := []) (hs := hz [(4, [.fres (.b (s0))]), (2, [.head (r11upto_L0_S blocks l gen s0 s1)]), (4, [.no]), (2, [])]) (raw := (AV.b s0)) kq (ac (r8Check_ok (blocks) (l) _ h0).any0 (ac (show EvHead Try.prog cf (lp Try.prog 48 0) (r11upto_L0_I blocks l gen s0) (r11upto_L0_S blocks l gen s0 s1) from (EvHead.of (r11upto_L0_ok blocks l gen s0) (absB_of [] [] kq (.consn kq (.eqv tq rfl) (.consn kq (.eqv tq rfl) (.consn kq (.eqv tq rfl) (.consn kq (.eqv tq rfl) (.consn kq (.eqv tq rfl) .nil))))) .nil) h1)) (ac h2 an))) tq
theorem r11upto_ok (blocks : Int) (l : List Ex) (gen : Int) (r : Bool) : r11upto blocks l gen = some r → r11upto_G blocks l gen r := by
  unfold r11upto
  refine tc_ok (fun s0 h0 => ?_)
  refine th_ok (fun s1 h1 => ?_)
  refine tb_ok (fun h2 => ?_) (fun h2 => ?_)
  ·
    have h2p := of_decide_eq_true h2
    refine tp_ok (fun h3 => ?_)
    refine tb_ok (fun h4 => ?_) (fun h4 => ?_)
    ·
      have h4p := of_decide_eq_true h4
      exact fun e => tl_ok (G := r11upto_G blocks l gen) (r11upto_l0 blocks l gen s0 h0 s1 h1 h2 h2p h3 h4 h4p) e
    ·
      have h4p := of_decide_eq_false h4
      exact fun e => nomatch e
  ·
    have h2p := of_decide_eq_false h2
    exact fun e => tl_ok (G := r11upto_G blocks l gen) (r11upto_l1 blocks l gen s0 h0 s1 h1 h2 h2p) e
noncomputable abbrev few11_L0_I (s : Sa) (s2 : Bool) : St := (St.mk [((0 : Nat), (AV.ag [(AV.i s.blocks), (AV.i s.gen), (AV.sl (List.length s.map) (List.flatMap Ex.cells s.map)), (AV.sl (List.length s.points) (List.flatMap Po.cells s.points)), (AV.i s.last), (AV.sl (List.length s.staged) (List.map AV.y s.staged))])), ((1 : Nat), (AV.pt 0 0)), ((2 : Nat), (AV.b Bool.false)), ((4 : Nat), (AV.pt 0 3)), ((5 : Nat), (AV.sl (List.length s.points) (List.flatMap Po.cells s.points))), ((6 : Nat), (AV.i (↑(List.length s.points) : Int))), ((7 : Nat), (AV.b (decide ((↑(List.length s.points) : Int) > (10 : Int))))), ((8 : Nat), (AV.b (decide ((↑(List.length s.points) : Int) > (10 : Int))))), ((9 : Nat), (AV.pt 0 5)), ((10 : Nat), (AV.sl (List.length s.staged) (List.map AV.y s.staged))), ((11 : Nat), (AV.i (↑(List.length s.staged) : Int))), ((12 : Nat), (AV.b (decide ((↑(List.length s.staged) : Int) > (6000 : Int))))), ((13 : Nat), (AV.b (decide ((↑(List.length s.staged) : Int) > (6000 : Int))))), ((14 : Nat), (AV.b (decide ((↑(List.length s.staged) : Int) > (6000 : Int))))), ((15 : Nat), (AV.pt 0 2)), ((16 : Nat), (AV.sl (List.length s.map) (List.flatMap Ex.cells s.map))), ((17 : Nat), (AV.b s2)), ((18 : Nat), (AV.b (!s2))), ((19 : Nat), (AV.b (!s2))), ((3 : Nat), (AV.i 0))] 35 (AH.mk 1 [((0 : Nat), (AObj.cells [(AV.i s.blocks), (AV.i s.gen), (AV.sl (List.length s.map) (List.flatMap Ex.cells s.map)), (AV.sl (List.length s.points) (List.flatMap Po.cells s.points)), (AV.i s.last), (AV.sl (List.length s.staged) (List.map AV.y s.staged))]))]) Bool.false)
noncomputable abbrev few11_L0_S (s : Sa) (s2 : Bool) (s4 : Int) : St := (St.mk [((0 : Nat), (AV.ag [(AV.i s.blocks), (AV.i s.gen), (AV.sl (List.length s.map) (List.flatMap Ex.cells s.map)), (AV.sl (List.length s.points) (List.flatMap Po.cells s.points)), (AV.i s.last), (AV.sl (List.length s.staged) (List.map AV.y s.staged))])), ((1 : Nat), (AV.pt 0 0)), ((19 : Nat), (AV.b (!s2))), ((3 : Nat), (AV.i s4))] 35 (AH.mk 1 [((0 : Nat), (AObj.cells [(AV.i s.blocks), (AV.i s.gen), (AV.sl (List.length s.map) (List.flatMap Ex.cells s.map)), (AV.sl (List.length s.points) (List.flatMap Po.cells s.points)), (AV.i s.last), (AV.sl (List.length s.staged) (List.map AV.y s.staged))]))]) Bool.false)
noncomputable def few11_L0_step (s : Sa) (s2 : Bool) (s4 : Int) : Option (Int) :=
 (tb ((decide (s4 < (↑(List.length s.points) : Int))))
  (tp ((((0 : Int) ≤ s4) ∧ (s4 < (↑(List.length s.points) : Int))))
   (tc (few ((poAt s.points (Int.toNat s4)).map)) fun s7 =>
    (tb ((!s7))
     none /- exit -/
     (some ((wr (s4 + (1 : Int))))))))
  none /- exit -/)
theorem few11_L0_s0 (s : Sa) (s2 : Bool) (s4 : Int) (h5 : ((decide (s4 < (↑(List.length s.points) : Int)))) = true) (h5p : (s4 < (↑(List.length s.points) : Int))) (h6 : (((0 : Int) ≤ s4) ∧ (s4 < (↑(List.length s.points) : Int)))) (s7 : Bool) (h7 : few ((poAt s.points (Int.toNat s4)).map) = some s7) (h8 : ((!s7)) = false) : EvStep Try.prog cf 1 (lp Try.prog 12 0) (few11_L0_S s s2 s4) (few11_L0_S s s2 ((wr (s4 + (1 : Int))))) :=
  leafS vw_eq (k := 300) (r := []) (hs := hz [(6, [.yes]), (4, [.yes]), (1, [.yes, .val ((exs (poAt s.points (Int.toNat s4)).map))]), (1, [.fres (.b (s7))]), (1, [.no]), (3, [])]) (st1 := (St.mk [((0 : Nat), (AV.ag [(AV.i s.blocks), (AV.i s.gen), (AV.sl (List.length s.map) (List.flatMap Ex.cells s.map)), (AV.sl (List.length s.points) (List.flatMap Po.cells s.points)), (AV.i s.last), (AV.sl (List.length s.staged) (List.map AV.y s.staged))])), ((1 : Nat), (AV.pt 0 0)), ((19 : Nat), (AV.b (!s2))), ((3 : Nat), (AV.i (wr (s4 + (1 : Int))))), ((20 : Nat), (AV.i s4)), ((21 : Nat), (AV.pt 0 3)), ((22 : Nat), (AV.sl (List.length s.points) (List.flatMap Po.cells s.points))), ((23 : Nat), (AV.i (↑(List.length s.points) : Int))), ((24 : Nat), (AV.b (decide (s4 < (↑(List.length s.points) : Int))))), ((27 : Nat), (AV.pt 0 3)), ((28 : Nat), (AV.sl (List.length s.points) (List.flatMap Po.cells s.points))), ((29 : Nat), (AV.i s4)), ((30 : Nat), (AV.ip (List.drop ((Int.toNat s4) * (3 : Nat)) (List.flatMap Po.cells s.points)))), ((31 : Nat), (AV.ip (List.drop 2 (List.drop ((Int.toNat s4) * (3 : Nat)) (List.flatMap Po.cells s.points))))), ((32 : Nat), (AV.sl (List.length (poAt s.points (Int.toNat s4)).map) (List.flatMap Ex.cells (poAt s.points (Int.toNat s4)).map))), ((33 : Nat), (AV.b s7)), ((34 : Nat), (AV.b (!s7))), ((25 : Nat), (AV.i s4)), ((26 : Nat), (AV.i (wr (s4 + (1 : Int)))))] 35 (AH.mk 1 [((0 : Nat), (AObj.cells [(AV.i s.blocks), (AV.i s.gen), (AV.sl (List.length s.map) (List.flatMap Ex.cells s.map)), (AV.sl (List.length s.points) (List.flatMap Po.cells s.points)), (AV.i s.last), (AV.sl (List.length s.staged) (List.map AV.y s.staged))]))]) Bool.false)) kq (ac h5 (ac h6 (ac (fq (p := ((1 : Nat) ≤ (List.length (List.drop 2 (List.drop ((Int.toNat s4) * (3 : Nat)) (List.flatMap Po.cells s.points))))))) (ac (show (List.take 1 (List.drop 2 (List.drop ((Int.toNat s4) * (3 : Nat)) (List.flatMap Po.cells s.points)))) = [(exs (poAt s.points (Int.toNat s4)).map)] from (by first | exact po_one _ _ _ _ bq rfl | exact po_oneA _ _ _ _ bq rfl | (simpa using po_one (s.points) ((Int.toNat s4)) 2 _ bq rfl) | ((try simp only [List.drop_drop]); rw [show ((2 : Nat) + ((Int.toNat s4) * (3 : Nat))) = ((Int.toNat s4)) * 3 + 2 by omega]; exact po_oneA (s.points) ((Int.toNat s4)) 2 _ bq rfl))) (ac (few_ok ((poAt s.points (Int.toNat s4)).map) _ h7).any0 (ac h8 an)))))) (Nat.le_of_ble_eq_true rfl) (absB_of [] [] kq (.consn kq (.agp pq) (.consn kq (.pt rfl) (.consn kq (.eqv tq rfl) (.consn kq (.eqv tq rfl) .nil)))) (.cons (.old rfl rfl (.cells (.pl rfl pq))) .nil))
theorem few11_L0_ok (s : Sa) (s2 : Bool) (s4 zz : Int) : few11_L0_step s s2 s4 = some zz → EvStep Try.prog cf 1 (lp Try.prog 12 0) (few11_L0_S s s2 s4) (few11_L0_S s s2 zz) := by
  unfold few11_L0_step
  refine tb_ok (fun h5 => ?_) (fun h5 => ?_)
  ·
    have h5p := of_decide_eq_true h5
    refine tp_ok (fun h6 => ?_)
    refine tc_ok (fun s7 h7 => ?_)
    refine tb_ok (fun h8 => ?_) (fun h8 => ?_)
    ·
      exact fun e => nomatch e
    ·
      exact fun e => tl_ok (G := (fun zz => EvStep Try.prog cf 1 (lp Try.prog 12 0) (few11_L0_S s s2 s4) (few11_L0_S s s2 zz))) (few11_L0_s0 s s2 s4 h5 h5p h6 s7 h7 h8) e
  ·
    have h5p := of_decide_eq_false h5
    exact fun e => nomatch e
/-- Function 12, as it answers. -/
noncomputable def few11 (s : Sa) : Option (Bool) :=
 (tb ((decide ((↑(List.length s.points) : Int) > (10 : Int))))
  (some (Bool.false))
  (tb ((decide ((↑(List.length s.staged) : Int) > (6000 : Int))))
   (some (Bool.false))
   (tc (few (s.map)) fun s2 =>
    (tb ((!s2))
     (some (Bool.false))
     (th (few11_L0_step s s2) ((0 : Int)) fun s4 =>
      (tb ((decide (s4 < (↑(List.length s.points) : Int))))
       (tp ((((0 : Int) ≤ s4) ∧ (s4 < (↑(List.length s.points) : Int))))
        (tc (few ((poAt s.points (Int.toNat s4)).map)) fun s7 =>
         (tb ((!s7))
          (some (Bool.false))
          none /- stop behind an operation -/)))
       (some (Bool.true))))))))
abbrev few11_G (s : Sa) (r : Bool) : Prop := EvFr Try.prog cf true 12 [Sa.av (s)] (.b (r))
theorem few11_l0 (s : Sa) (h0 : ((decide ((↑(List.length s.points) : Int) > (10 : Int)))) = true) (h0p : ((↑(List.length s.points) : Int) > (10 : Int))) : few11_G s (Bool.false) :=
  leafR vw_eq (k := 300) (r := []) (hs := hz [(8, [.yes, .yes, .yes, .yes, .yes]), (8, [])]) (raw := (AV.b Bool.false)) kq (ac h0 (ac h0 (ac h0 (ac h0 (ac h0 an))))) tq
theorem few11_l1 (s : Sa) (h0 : ((decide ((↑(List.length s.points) : Int) > (10 : Int)))) = false) (h0p : ¬ ((↑(List.length s.points) : Int) > (10 : Int))) (h1 : ((decide ((↑(List.length s.staged) : Int) > (6000 : Int)))) = true) (h1p : ((↑(List.length s.staged) : Int) > (6000 : Int))) : few11_G s (Bool.false) :=
  leafR vw_eq (k := 300) (r := []) (hs := hz [(8, [.no]), (1, [.no]), (2, [.no]), (1, [.no]), (1, [.no]), (1, [.yes, .yes, .yes, .yes, .yes]), (2, [])]) (raw := (AV.b Bool.false)) kq (ac h0 (ac h0 (ac h0 (ac h0 (ac h0 (ac h1 (ac h1 (ac h1 (ac h1 (ac h1 an)))))))))) tq
theorem few11_l2 (s : Sa) (h0 : ((decide ((↑(List.length s.points) : Int) > (10 : Int)))) = false) (h0p : ¬ ((↑(List.length s.points) : Int) > (10 : Int))) (h1 : ((decide ((↑(List.length s.staged) : Int) > (6000 : Int)))) = false) (h1p : ¬ ((↑(List.length s.staged) : Int) > (6000 : Int))) (s2 : Bool) (h2 : few (s.map) = some s2) (h3 : ((!s2)) = true) : few11_G s (Bool.false) :=
  leafR vw_eq (k := 300) (r := []) (hs := hz [(8, [.no]), (1, [.no]), (2, [.no]), (1, [.no]), (1, [.no]), (1, [.no]), (1, [.no]), (2, [.no]), (1, [.fres (.b (s2)), .no]), (1, [.no, .yes]), (1, [])]) (raw := (AV.b Bool.false)) kq (ac h0 (ac h0 (ac h0 (ac h0 (ac h0 (ac h1 (ac h1 (ac h1 (ac (few_ok (s.map) _ h2).any0 (ac h1 (ac h1 (ac h3 an)))))))))))) tq
theorem few11_l3 (s : Sa) (h0 : ((decide ((↑(List.length s.points) : Int) > (10 : Int)))) = false) (h0p : ¬ ((↑(List.length s.points) : Int) > (10 : Int))) (h1 : ((decide ((↑(List.length s.staged) : Int) > (6000 : Int)))) = false) (h1p : ¬ ((↑(List.length s.staged) : Int) > (6000 : Int))) (s2 : Bool) (h2 : few (s.map) = some s2) (h3 : ((!s2)) = false) (s4 : Int) (h4 : Runs (few11_L0_step s s2) ((0 : Int)) s4) (h5 : ((decide (s4 < (↑(List.length s.points) : Int)))) = true) (h5p : (s4 < (↑(List.length s.points) : Int))) (h6 : (((0 : Int) ≤ s4) ∧ (s4 < (↑(List.length s.points) : Int)))) (s7 : Bool) (h7 : few ((poAt s.points (Int.toNat s4)).map) = some s7) (h8 : ((!s7)) = true) : few11_G s (Bool.false) :=
  leafR vw_eq (k := 300) (r := []) (hs := hz [(8, [.no]), (1, [.no]), (2, [.no]), (1, [.no]), (1, [.no]), (1, [.no]), (1, [.no]), (2, [.no]), (1, [.fres (.b (s2)), .no]), (1, [.no, .no]), (1, [.head (few11_L0_S s s2 s4)]), (6, [.yes]), (4, [.yes]), (1, [.yes, .val ((exs (poAt s.points (Int.toNat s4)).map))]), (1, [.fres (.b (s7))]), (1, [.yes]), (1, [])]) (raw := (AV.b Bool.false)) kq (ac h0 (ac h0 (ac h0 (ac h0 (ac h0 (ac h1 (ac h1 (ac h1 (ac (few_ok (s.map) _ h2).any0 (ac h1 (ac h1 (ac h3 (ac (show EvHead Try.prog cf (lp Try.prog 12 0) (few11_L0_I s s2) (few11_L0_S s s2 s4) from (EvHead.of (few11_L0_ok s s2) (absB_of [] [] kq (.consn kq (.agp pq) (.consn kq (.pt rfl) (.consn kq (.eqv tq rfl) (.consn kq (.eqv tq rfl) .nil)))) (.cons (.old rfl rfl (.cells (.pl rfl pq))) .nil)) h4)) (ac h5 (ac h6 (ac (fq (p := ((1 : Nat) ≤ (List.length (List.drop 2 (List.drop ((Int.toNat s4) * (3 : Nat)) (List.flatMap Po.cells s.points))))))) (ac (show (List.take 1 (List.drop 2 (List.drop ((Int.toNat s4) * (3 : Nat)) (List.flatMap Po.cells s.points)))) = [(exs (poAt s.points (Int.toNat s4)).map)] from (by first | exact po_one _ _ _ _ bq rfl | exact po_oneA _ _ _ _ bq rfl | (simpa using po_one (s.points) ((Int.toNat s4)) 2 _ bq rfl) | ((try simp only [List.drop_drop]); rw [show ((2 : Nat) + ((Int.toNat s4) * (3 : Nat))) = ((Int.toNat s4)) * 3 + 2 by omega]; exact po_oneA (s.points) ((Int.toNat s4)) 2 _ bq rfl))) (ac (few_ok ((poAt s.points (Int.toNat s4)).map) _ h7).any0 (ac h8 an))))))))))))))))))) tq
theorem few11_l4 (s : Sa) (h0 : ((decide ((↑(List.length s.points) : Int) > (10 : Int)))) = false) (h0p : ¬ ((↑(List.length s.points) : Int) > (10 : Int))) (h1 : ((decide ((↑(List.length s.staged) : Int) > (6000 : Int)))) = false) (h1p : ¬ ((↑(List.length s.staged) : Int) > (6000 : Int))) (s2 : Bool) (h2 : few (s.map) = some s2) (h3 : ((!s2)) = false) (s4 : Int) (h4 : Runs (few11_L0_step s s2) ((0 : Int)) s4) (h5 : ((decide (s4 < (↑(List.length s.points) : Int)))) = false) (h5p : ¬ (s4 < (↑(List.length s.points) : Int))) : few11_G s (Bool.true) :=
  leafR vw_eq (k := 300) (r := []) (hs := hz [(8, [.no]), (1, [.no]), (2, [.no]), (1, [.no]), (1, [.no]), (1, [.no]), (1, [.no]), (2, [.no]), (1, [.fres (.b (s2)), .no]), (1, [.no, .no]), (1, [.head (few11_L0_S s s2 s4)]), (6, [.no]), (1, [])]) (raw := (AV.b Bool.true)) kq (ac h0 (ac h0 (ac h0 (ac h0 (ac h0 (ac h1 (ac h1 (ac h1 (ac (few_ok (s.map) _ h2).any0 (ac h1 (ac h1 (ac h3 (ac (show EvHead Try.prog cf (lp Try.prog 12 0) (few11_L0_I s s2) (few11_L0_S s s2 s4) from (EvHead.of (few11_L0_ok s s2) (absB_of [] [] kq (.consn kq (.agp pq) (.consn kq (.pt rfl) (.consn kq (.eqv tq rfl) (.consn kq (.eqv tq rfl) .nil)))) (.cons (.old rfl rfl (.cells (.pl rfl pq))) .nil)) h4)) (ac h5 an)))))))))))))) tq
theorem few11_ok (s : Sa) (r : Bool) : few11 s = some r → few11_G s r := by
  unfold few11
  refine tb_ok (fun h0 => ?_) (fun h0 => ?_)
  ·
    have h0p := of_decide_eq_true h0
    exact fun e => tl_ok (G := few11_G s) (few11_l0 s h0 h0p) e
  ·
    have h0p := of_decide_eq_false h0
    refine tb_ok (fun h1 => ?_) (fun h1 => ?_)
    ·
      have h1p := of_decide_eq_true h1
      exact fun e => tl_ok (G := few11_G s) (few11_l1 s h0 h0p h1 h1p) e
    ·
      have h1p := of_decide_eq_false h1
      refine tc_ok (fun s2 h2 => ?_)
      refine tb_ok (fun h3 => ?_) (fun h3 => ?_)
      ·
        exact fun e => tl_ok (G := few11_G s) (few11_l2 s h0 h0p h1 h1p s2 h2 h3) e
      ·
        refine th_ok (fun s4 h4 => ?_)
        refine tb_ok (fun h5 => ?_) (fun h5 => ?_)
        ·
          have h5p := of_decide_eq_true h5
          refine tp_ok (fun h6 => ?_)
          refine tc_ok (fun s7 h7 => ?_)
          refine tb_ok (fun h8 => ?_) (fun h8 => ?_)
          ·
            exact fun e => tl_ok (G := few11_G s) (few11_l3 s h0 h0p h1 h1p s2 h2 h3 s4 h4 h5 h5p h6 s7 h7 h8) e
          ·
            exact fun e => nomatch e
        ·
          have h5p := of_decide_eq_false h5
          exact fun e => tl_ok (G := few11_G s) (few11_l4 s h0 h0p h1 h1p s2 h2 h3 s4 h4 h5 h5p) e
noncomputable abbrev sExtents_L0_I (l : List Ex) : St := (St.mk [((0 : Nat), (AV.sl (List.length l) (List.flatMap Ex.cells l))), ((2 : Nat), AV.nl), ((5 : Nat), (AV.sl (List.length l) (List.flatMap Ex.cells l))), ((6 : Nat), (AV.i (↑(List.length l) : Int))), ((7 : Nat), (AV.i 0))] 21 (AH.mk 0 ([] : List (Prod Nat AObj))) Bool.false)
noncomputable abbrev sExtents_L0_S (l : List Ex) (s0 : List Ex × Int) : St := (St.mk [((0 : Nat), (AV.sl (List.length l) (List.flatMap Ex.cells l))), ((2 : Nat), (AV.rf 0 5 0 (List.length s0.1))), ((5 : Nat), (AV.sl (List.length l) (List.flatMap Ex.cells l))), ((6 : Nat), (AV.i (↑(List.length l) : Int))), ((7 : Nat), (AV.i s0.2))] 21 (AH.mk 1 [((0 : Nat), (AObj.cells (List.flatMap Ex.cells s0.1)))]) Bool.false)
noncomputable def sExtents_L0_step (l : List Ex) (s0 : List Ex × Int) : Option (List Ex × Int) :=
 (tb ((decide (s0.2 < (↑(List.length l) : Int))))
  (tp ((((0 : Int) ≤ s0.2) ∧ (s0.2 < (↑(List.length l) : Int))))
   (tp (((List.length (exAt l (Int.toNat s0.2)).d) ≤ (4294967296 : Nat)))
    (tp ((((List.length (List.flatMap Ex.cells s0.1)) = ((List.length s0.1) * (5 : Nat))) ∧ (((List.length s0.1) + (1 : Nat)) ≤ (4294967296 : Nat))))
     (some (((s0.1 ++ [(exAt l (Int.toNat s0.2))]), (wr (s0.2 + (1 : Int)))))))))
  none /- exit -/)
theorem sExtents_L0_s0 (l : List Ex) (s0 : List Ex × Int) (h1 : ((decide (s0.2 < (↑(List.length l) : Int)))) = true) (h1p : (s0.2 < (↑(List.length l) : Int))) (h2 : (((0 : Int) ≤ s0.2) ∧ (s0.2 < (↑(List.length l) : Int)))) (h3 : ((List.length (exAt l (Int.toNat s0.2)).d) ≤ (4294967296 : Nat))) (h4 : (((List.length (List.flatMap Ex.cells s0.1)) = ((List.length s0.1) * (5 : Nat))) ∧ (((List.length s0.1) + (1 : Nat)) ≤ (4294967296 : Nat)))) : EvStep Try.prog cf 0 (lp Try.prog 41 0) (sExtents_L0_S l s0) (sExtents_L0_S l (((s0.1 ++ [(exAt l (Int.toNat s0.2))]), (wr (s0.2 + (1 : Int)))))) :=
  leafS vw_eq (k := 300) (r := []) (hs := hz [(1, [.yes, .yes, .yes, .cells ((Ex.cells (exAt l (Int.toNat s0.2))))]), (2, [.cells ([(AV.i (exAt l (Int.toNat s0.2)).lba), (AV.i (exAt l (Int.toNat s0.2)).len), (AV.i (exAt l (Int.toNat s0.2)).kind), (AV.i (exAt l (Int.toNat s0.2)).gen), (AV.sl (List.length (exAt l (Int.toNat s0.2)).d) (List.map AV.y (exAt l (Int.toNat s0.2)).d))])]), (4, [.yes, .yes]), (2, [.cells ([(AV.i (exAt l (Int.toNat s0.2)).lba), (AV.i (exAt l (Int.toNat s0.2)).len), (AV.i (exAt l (Int.toNat s0.2)).kind), (AV.i (exAt l (Int.toNat s0.2)).gen), (AV.rf 2 1 0 (List.length (exAt l (Int.toNat s0.2)).d))])]), (2, [.cells ([(AV.i (exAt l (Int.toNat s0.2)).lba), (AV.i (exAt l (Int.toNat s0.2)).len), (AV.i (exAt l (Int.toNat s0.2)).kind), (AV.i (exAt l (Int.toNat s0.2)).gen), (AV.rf 2 1 0 (List.length (exAt l (Int.toNat s0.2)).d))])]), (1, [.cells ([(AV.i (exAt l (Int.toNat s0.2)).lba), (AV.i (exAt l (Int.toNat s0.2)).len), (AV.i (exAt l (Int.toNat s0.2)).kind), (AV.i (exAt l (Int.toNat s0.2)).gen), (AV.rf 2 1 0 (List.length (exAt l (Int.toNat s0.2)).d))]), .cells ([(AV.i (exAt l (Int.toNat s0.2)).lba), (AV.i (exAt l (Int.toNat s0.2)).len), (AV.i (exAt l (Int.toNat s0.2)).kind), (AV.i (exAt l (Int.toNat s0.2)).gen), (AV.rf 2 1 0 (List.length (exAt l (Int.toNat s0.2)).d))]), .yes, .yes]), (3, [])]) (st1 := (St.mk [((0 : Nat), (AV.sl (List.length l) (List.flatMap Ex.cells l))), ((2 : Nat), (AV.rf 4 5 0 ((List.length s0.1) + (1 : Nat)))), ((5 : Nat), (AV.sl (List.length l) (List.flatMap Ex.cells l))), ((6 : Nat), (AV.i (↑(List.length l) : Int))), ((7 : Nat), (AV.i (wr (s0.2 + (1 : Int))))), ((8 : Nat), (AV.b (decide (s0.2 < (↑(List.length l) : Int))))), ((9 : Nat), (AV.ip (List.drop ((Int.toNat s0.2) * (5 : Nat)) (List.flatMap Ex.cells l)))), ((10 : Nat), (AV.ag [(AV.i (exAt l (Int.toNat s0.2)).lba), (AV.i (exAt l (Int.toNat s0.2)).len), (AV.i (exAt l (Int.toNat s0.2)).kind), (AV.i (exAt l (Int.toNat s0.2)).gen), (AV.sl (List.length (exAt l (Int.toNat s0.2)).d) (List.map AV.y (exAt l (Int.toNat s0.2)).d))])), ((4 : Nat), (AV.pt 1 0)), ((11 : Nat), (AV.pt 1 4)), ((12 : Nat), (AV.sl (List.length (exAt l (Int.toNat s0.2)).d) (List.map AV.y (exAt l (Int.toNat s0.2)).d))), ((13 : Nat), (AV.rf 2 1 0 (List.length (exAt l (Int.toNat s0.2)).d))), ((14 : Nat), (AV.pt 1 4)), ((15 : Nat), (AV.rf 0 5 0 (List.length s0.1))), ((16 : Nat), (AV.ag [(AV.i (exAt l (Int.toNat s0.2)).lba), (AV.i (exAt l (Int.toNat s0.2)).len), (AV.i (exAt l (Int.toNat s0.2)).kind), (AV.i (exAt l (Int.toNat s0.2)).gen), (AV.rf 2 1 0 (List.length (exAt l (Int.toNat s0.2)).d))])), ((17 : Nat), (AV.rf 3 5 0 1)), ((18 : Nat), (AV.rf 4 5 0 ((List.length s0.1) + (1 : Nat)))), ((19 : Nat), (AV.i (wr (s0.2 + (1 : Int)))))] 21 (AH.mk 5 [((4 : Nat), (AObj.cells ((List.flatMap Ex.cells s0.1) ++ [(AV.i (exAt l (Int.toNat s0.2)).lba), (AV.i (exAt l (Int.toNat s0.2)).len), (AV.i (exAt l (Int.toNat s0.2)).kind), (AV.i (exAt l (Int.toNat s0.2)).gen), (AV.rf 2 1 0 (List.length (exAt l (Int.toNat s0.2)).d))]))), ((3 : Nat), (AObj.cells [(AV.i (exAt l (Int.toNat s0.2)).lba), (AV.i (exAt l (Int.toNat s0.2)).len), (AV.i (exAt l (Int.toNat s0.2)).kind), (AV.i (exAt l (Int.toNat s0.2)).gen), (AV.rf 2 1 0 (List.length (exAt l (Int.toNat s0.2)).d))])), ((2 : Nat), (AObj.cells (List.map AV.y (exAt l (Int.toNat s0.2)).d))), ((1 : Nat), (AObj.cells [(AV.i (exAt l (Int.toNat s0.2)).lba), (AV.i (exAt l (Int.toNat s0.2)).len), (AV.i (exAt l (Int.toNat s0.2)).kind), (AV.i (exAt l (Int.toNat s0.2)).gen), (AV.rf 2 1 0 (List.length (exAt l (Int.toNat s0.2)).d))])), ((0 : Nat), AObj.dead)]) Bool.false)) kq (ac h1 (ac h2 (ac (fq (p := ((5 : Nat) ≤ (List.length (List.drop ((Int.toNat s0.2) * (5 : Nat)) (List.flatMap Ex.cells l)))))) (ac (show (List.take 5 (List.drop ((Int.toNat s0.2) * (5 : Nat)) (List.flatMap Ex.cells l))) = (Ex.cells (exAt l (Int.toNat s0.2))) from (ex_takeO bq bq)) (ac (Eq.refl ([(AV.i (exAt l (Int.toNat s0.2)).lba), (AV.i (exAt l (Int.toNat s0.2)).len), (AV.i (exAt l (Int.toNat s0.2)).kind), (AV.i (exAt l (Int.toNat s0.2)).gen), (AV.sl (List.length (exAt l (Int.toNat s0.2)).d) (List.map AV.y (exAt l (Int.toNat s0.2)).d))] : List AV)) (ac (tq (p := ((List.length (List.map AV.y (exAt l (Int.toNat s0.2)).d)) = ((List.length (exAt l (Int.toNat s0.2)).d) * (1 : Nat))))) (ac h3 (ac (Eq.refl ([(AV.i (exAt l (Int.toNat s0.2)).lba), (AV.i (exAt l (Int.toNat s0.2)).len), (AV.i (exAt l (Int.toNat s0.2)).kind), (AV.i (exAt l (Int.toNat s0.2)).gen), (AV.rf 2 1 0 (List.length (exAt l (Int.toNat s0.2)).d))] : List AV)) (ac (Eq.refl ([(AV.i (exAt l (Int.toNat s0.2)).lba), (AV.i (exAt l (Int.toNat s0.2)).len), (AV.i (exAt l (Int.toNat s0.2)).kind), (AV.i (exAt l (Int.toNat s0.2)).gen), (AV.rf 2 1 0 (List.length (exAt l (Int.toNat s0.2)).d))] : List AV)) (ac (Eq.refl ([(AV.i (exAt l (Int.toNat s0.2)).lba), (AV.i (exAt l (Int.toNat s0.2)).len), (AV.i (exAt l (Int.toNat s0.2)).kind), (AV.i (exAt l (Int.toNat s0.2)).gen), (AV.rf 2 1 0 (List.length (exAt l (Int.toNat s0.2)).d))] : List AV)) (ac (Eq.refl ([(AV.i (exAt l (Int.toNat s0.2)).lba), (AV.i (exAt l (Int.toNat s0.2)).len), (AV.i (exAt l (Int.toNat s0.2)).kind), (AV.i (exAt l (Int.toNat s0.2)).gen), (AV.rf 2 1 0 (List.length (exAt l (Int.toNat s0.2)).d))] : List AV)) (ac (tq (p := (((0 : Nat) = (0 : Nat)) ∧ ((List.length [(AV.i (exAt l (Int.toNat s0.2)).lba), (AV.i (exAt l (Int.toNat s0.2)).len), (AV.i (exAt l (Int.toNat s0.2)).kind), (AV.i (exAt l (Int.toNat s0.2)).gen), (AV.rf 2 1 0 (List.length (exAt l (Int.toNat s0.2)).d))]) = (5 : Nat))))) (ac h4 an))))))))))))) (Nat.le_of_ble_eq_true rfl) (absB_of [4] [2] kq (.consn kq (.eqv tq rfl) (.consn kq (.rfn (n := ((List.length s0.1) + (1 : Nat))) rfl tq) (.consn kq (.eqv tq rfl) (.consn kq (.eqv tq rfl) (.consn kq (.eqv tq rfl) .nil))))) (.cons (.old rfl rfl (.cells (.cast rfl tq (.app (.pl rfl pq) (.cons (.eqv rfl rfl) (.cons (.eqv rfl rfl) (.cons (.eqv rfl rfl) (.cons (.eqv rfl rfl) (.cons (.frzn rfl tq pq (by simp) tq) .nil))))))))) .nil))
theorem sExtents_L0_ok (l : List Ex) (s0 zz : List Ex × Int) : sExtents_L0_step l s0 = some zz → EvStep Try.prog cf 0 (lp Try.prog 41 0) (sExtents_L0_S l s0) (sExtents_L0_S l zz) := by
  unfold sExtents_L0_step
  refine tb_ok (fun h1 => ?_) (fun h1 => ?_)
  ·
    have h1p := of_decide_eq_true h1
    refine tp_ok (fun h2 => ?_)
    refine tp_ok (fun h3 => ?_)
    refine tp_ok (fun h4 => ?_)
    exact fun e => tl_ok (G := (fun zz => EvStep Try.prog cf 0 (lp Try.prog 41 0) (sExtents_L0_S l s0) (sExtents_L0_S l zz))) (sExtents_L0_s0 l s0 h1 h1p h2 h3 h4) e
  ·
    have h1p := of_decide_eq_false h1
    exact fun e => nomatch e
/-- Function 41, as it answers. -/
noncomputable def sExtents (l : List Ex) : Option (List Ex) :=
 (th (sExtents_L0_step l) ((([] : List Ex), (0 : Int))) fun s0 =>
  (tb ((decide (s0.2 < (↑(List.length l) : Int))))
   none /- stop behind an operation -/
   (tp ((((0 : Nat) = (0 : Nat)) ∧ ((List.length (List.flatMap Ex.cells s0.1)) = ((List.length s0.1) * (5 : Nat)))))
    (some (s0.1)))))
abbrev sExtents_G (l : List Ex) (r : List Ex) : Prop := EvOw Try.prog cf false [[5]] 41 [exs (l)] (exs (r))
theorem sExtents_l0 (l : List Ex) (s0 : List Ex × Int) (h0 : Runs (sExtents_L0_step l) ((([] : List Ex), (0 : Int))) s0) (h1 : ((decide (s0.2 < (↑(List.length l) : Int)))) = false) (h1p : ¬ (s0.2 < (↑(List.length l) : Int))) (h2 : (((0 : Nat) = (0 : Nat)) ∧ ((List.length (List.flatMap Ex.cells s0.1)) = ((List.length s0.1) * (5 : Nat))))) : sExtents_G l (s0.1) :=
  leafO vw_eq (k := 300) (r := []) (hs := hz [(4, [.head (sExtents_L0_S l s0)]), (1, [.no]), (2, [.yes, .yes])]) (R := fun H => ((AV.rf (AH.nx H) 5 0 (List.length s0.1)), (AH.mk ((AH.nx H) + (1 : Nat)) (((AH.nx H), (AObj.cells (List.flatMap Ex.cells s0.1))) :: (AH.l H))))) (fun H => kq) (ac (show EvHead Try.prog cf (lp Try.prog 41 0) (sExtents_L0_I l) (sExtents_L0_S l s0) from (EvHead.of (sExtents_L0_ok l) (absB_of [0] [] kq (.consn kq (.eqv tq rfl) (.consn kq (.nln tq) (.consn kq (.eqv tq rfl) (.consn kq (.eqv tq rfl) (.consn kq (.eqv tq rfl) .nil))))) (.cons (.none rfl (Nat.le_refl _) rfl) .nil)) h0)) (ac h1 (ac h2 (ac (pq (p := Pl Bool.false ((List.flatMap Ex.cells s0.1)))) an)))) (fun H => oq)
theorem sExtents_ok (l : List Ex) (r : List Ex) : sExtents l = some r → sExtents_G l r := by
  unfold sExtents
  refine th_ok (fun s0 h0 => ?_)
  refine tb_ok (fun h1 => ?_) (fun h1 => ?_)
  ·
    have h1p := of_decide_eq_true h1
    exact fun e => nomatch e
  ·
    have h1p := of_decide_eq_false h1
    refine tp_ok (fun h2 => ?_)
    exact fun e => tl_ok (G := sExtents_G l) (sExtents_l0 l s0 h0 h1 h1p h2) e
noncomputable abbrev r11extents_L0_I (l : List Ex) : St := (St.mk [((0 : Nat), (AV.sl (List.length l) (List.flatMap Ex.cells l))), ((2 : Nat), AV.nl), ((3 : Nat), AV.nl), ((4 : Nat), (AV.i 0))] 20 (AH.mk 0 ([] : List (Prod Nat AObj))) Bool.false)
noncomputable abbrev r11extents_L0_S (l : List Ex) (s0 : List Ex × Int) : St := (St.mk [((0 : Nat), (AV.sl (List.length l) (List.flatMap Ex.cells l))), ((2 : Nat), AV.nl), ((3 : Nat), (AV.rf 0 5 0 (List.length s0.1))), ((4 : Nat), (AV.i s0.2))] 20 (AH.mk 1 [((0 : Nat), (AObj.cells (List.flatMap Ex.cells s0.1)))]) Bool.false)
noncomputable def r11extents_L0_step (l : List Ex) (s0 : List Ex × Int) : Option (List Ex × Int) :=
 (tb ((decide (s0.2 < (↑(List.length l) : Int))))
  (tp ((((0 : Int) ≤ s0.2) ∧ (s0.2 < (↑(List.length l) : Int))))
   (tc (r7Copy ((exAt l (Int.toNat s0.2)))) fun s3 =>
    (tp ((((List.length (List.flatMap Ex.cells s0.1)) = ((List.length s0.1) * (5 : Nat))) ∧ (((List.length s0.1) + (1 : Nat)) ≤ (4294967296 : Nat))))
     (some (((s0.1 ++ [s3]), (wr (s0.2 + (1 : Int)))))))))
  none /- exit -/)
theorem r11extents_L0_s0 (l : List Ex) (s0 : List Ex × Int) (h1 : ((decide (s0.2 < (↑(List.length l) : Int)))) = true) (h1p : (s0.2 < (↑(List.length l) : Int))) (h2 : (((0 : Int) ≤ s0.2) ∧ (s0.2 < (↑(List.length l) : Int)))) (s3 : Ex) (h3 : r7Copy ((exAt l (Int.toNat s0.2))) = some s3) (h4 : (((List.length (List.flatMap Ex.cells s0.1)) = ((List.length s0.1) * (5 : Nat))) ∧ (((List.length s0.1) + (1 : Nat)) ≤ (4294967296 : Nat)))) : EvStep Try.prog cf 0 (lp Try.prog 44 0) (r11extents_L0_S l s0) (r11extents_L0_S l (((s0.1 ++ [s3]), (wr (s0.2 + (1 : Int)))))) :=
  leafS vw_eq (k := 300) (r := []) (hs := hz [(4, [.yes]), (3, [.yes, .yes, .cells ((Ex.cells (exAt l (Int.toNat s0.2))))]), (1, [.fres (Ex.av (s3))]), (1, [.cells ([(AV.i s3.lba), (AV.i s3.len), (AV.i s3.kind), (AV.i s3.gen), (AV.rf 1 1 0 (List.length s3.d))]), .cells ([(AV.i s3.lba), (AV.i s3.len), (AV.i s3.kind), (AV.i s3.gen), (AV.rf 1 1 0 (List.length s3.d))]), .yes, .yes]), (4, [])]) (st1 := (St.mk [((0 : Nat), (AV.sl (List.length l) (List.flatMap Ex.cells l))), ((2 : Nat), AV.nl), ((3 : Nat), (AV.rf 3 5 0 ((List.length s0.1) + (1 : Nat)))), ((4 : Nat), (AV.i (wr (s0.2 + (1 : Int))))), ((5 : Nat), (AV.i s0.2)), ((6 : Nat), (AV.sl (List.length l) (List.flatMap Ex.cells l))), ((7 : Nat), (AV.i (↑(List.length l) : Int))), ((8 : Nat), (AV.b (decide (s0.2 < (↑(List.length l) : Int))))), ((11 : Nat), (AV.rf 0 5 0 (List.length s0.1))), ((12 : Nat), (AV.sl (List.length l) (List.flatMap Ex.cells l))), ((13 : Nat), (AV.i s0.2)), ((14 : Nat), (AV.ip (List.drop ((Int.toNat s0.2) * (5 : Nat)) (List.flatMap Ex.cells l)))), ((15 : Nat), (AV.ag [(AV.i (exAt l (Int.toNat s0.2)).lba), (AV.i (exAt l (Int.toNat s0.2)).len), (AV.i (exAt l (Int.toNat s0.2)).kind), (AV.i (exAt l (Int.toNat s0.2)).gen), (AV.sl (List.length (exAt l (Int.toNat s0.2)).d) (List.map AV.y (exAt l (Int.toNat s0.2)).d))])), ((16 : Nat), (AV.ag [(AV.i s3.lba), (AV.i s3.len), (AV.i s3.kind), (AV.i s3.gen), (AV.rf 1 1 0 (List.length s3.d))])), ((17 : Nat), (AV.rf 2 5 0 1)), ((18 : Nat), (AV.rf 3 5 0 ((List.length s0.1) + (1 : Nat)))), ((9 : Nat), (AV.i s0.2)), ((10 : Nat), (AV.i (wr (s0.2 + (1 : Int)))))] 20 (AH.mk 4 [((3 : Nat), (AObj.cells ((List.flatMap Ex.cells s0.1) ++ [(AV.i s3.lba), (AV.i s3.len), (AV.i s3.kind), (AV.i s3.gen), (AV.rf 1 1 0 (List.length s3.d))]))), ((2 : Nat), (AObj.cells [(AV.i s3.lba), (AV.i s3.len), (AV.i s3.kind), (AV.i s3.gen), (AV.rf 1 1 0 (List.length s3.d))])), ((1 : Nat), (AObj.cells (List.map AV.y s3.d))), ((0 : Nat), AObj.dead)]) Bool.false)) kq (ac h1 (ac h2 (ac (fq (p := ((5 : Nat) ≤ (List.length (List.drop ((Int.toNat s0.2) * (5 : Nat)) (List.flatMap Ex.cells l)))))) (ac (show (List.take 5 (List.drop ((Int.toNat s0.2) * (5 : Nat)) (List.flatMap Ex.cells l))) = (Ex.cells (exAt l (Int.toNat s0.2))) from (ex_takeO bq bq)) (ac (r7Copy_ok ((exAt l (Int.toNat s0.2))) _ h3).any0 (ac (Eq.refl ([(AV.i s3.lba), (AV.i s3.len), (AV.i s3.kind), (AV.i s3.gen), (AV.rf 1 1 0 (List.length s3.d))] : List AV)) (ac (Eq.refl ([(AV.i s3.lba), (AV.i s3.len), (AV.i s3.kind), (AV.i s3.gen), (AV.rf 1 1 0 (List.length s3.d))] : List AV)) (ac (tq (p := (((0 : Nat) = (0 : Nat)) ∧ ((List.length [(AV.i s3.lba), (AV.i s3.len), (AV.i s3.kind), (AV.i s3.gen), (AV.rf 1 1 0 (List.length s3.d))]) = (5 : Nat))))) (ac h4 an))))))))) (Nat.le_of_ble_eq_true rfl) (absB_of [3] [1] kq (.consn kq (.eqv tq rfl) (.consn kq .nl0 (.consn kq (.rfn (n := ((List.length s0.1) + (1 : Nat))) rfl tq) (.consn kq (.eqv tq rfl) .nil)))) (.cons (.old rfl rfl (.cells (.cast rfl tq (.app (.pl rfl pq) (.cons (.eqv rfl rfl) (.cons (.eqv rfl rfl) (.cons (.eqv rfl rfl) (.cons (.eqv rfl rfl) (.cons (.frzn rfl tq pq (by simp) tq) .nil))))))))) .nil))
theorem r11extents_L0_ok (l : List Ex) (s0 zz : List Ex × Int) : r11extents_L0_step l s0 = some zz → EvStep Try.prog cf 0 (lp Try.prog 44 0) (r11extents_L0_S l s0) (r11extents_L0_S l zz) := by
  unfold r11extents_L0_step
  refine tb_ok (fun h1 => ?_) (fun h1 => ?_)
  ·
    have h1p := of_decide_eq_true h1
    refine tp_ok (fun h2 => ?_)
    refine tc_ok (fun s3 h3 => ?_)
    refine tp_ok (fun h4 => ?_)
    exact fun e => tl_ok (G := (fun zz => EvStep Try.prog cf 0 (lp Try.prog 44 0) (r11extents_L0_S l s0) (r11extents_L0_S l zz))) (r11extents_L0_s0 l s0 h1 h1p h2 s3 h3 h4) e
  ·
    have h1p := of_decide_eq_false h1
    exact fun e => nomatch e
/-- Function 44, as it answers. -/
noncomputable def r11extents (l : List Ex) : Option (List Ex) :=
 (th (r11extents_L0_step l) ((([] : List Ex), (0 : Int))) fun s0 =>
  (tb ((decide (s0.2 < (↑(List.length l) : Int))))
   none /- stop behind an operation -/
   (tp ((((0 : Nat) = (0 : Nat)) ∧ ((List.length (List.flatMap Ex.cells s0.1)) = ((List.length s0.1) * (5 : Nat)))))
    (some (s0.1)))))
abbrev r11extents_G (l : List Ex) (r : List Ex) : Prop := EvOw Try.prog cf false [[5]] 44 [exs (l)] (exs (r))
theorem r11extents_l0 (l : List Ex) (s0 : List Ex × Int) (h0 : Runs (r11extents_L0_step l) ((([] : List Ex), (0 : Int))) s0) (h1 : ((decide (s0.2 < (↑(List.length l) : Int)))) = false) (h1p : ¬ (s0.2 < (↑(List.length l) : Int))) (h2 : (((0 : Nat) = (0 : Nat)) ∧ ((List.length (List.flatMap Ex.cells s0.1)) = ((List.length s0.1) * (5 : Nat))))) : r11extents_G l (s0.1) :=
  leafO vw_eq (k := 300) (r := []) (hs := hz [(3, [.head (r11extents_L0_S l s0)]), (4, [.no]), (2, [.yes, .yes])]) (R := fun H => ((AV.rf (AH.nx H) 5 0 (List.length s0.1)), (AH.mk ((AH.nx H) + (1 : Nat)) (((AH.nx H), (AObj.cells (List.flatMap Ex.cells s0.1))) :: (AH.l H))))) (fun H => kq) (ac (show EvHead Try.prog cf (lp Try.prog 44 0) (r11extents_L0_I l) (r11extents_L0_S l s0) from (EvHead.of (r11extents_L0_ok l) (absB_of [0] [] kq (.consn kq (.eqv tq rfl) (.consn kq .nl0 (.consn kq (.nln tq) (.consn kq (.eqv tq rfl) .nil)))) (.cons (.none rfl (Nat.le_refl _) rfl) .nil)) h0)) (ac h1 (ac h2 (ac (pq (p := Pl Bool.false ((List.flatMap Ex.cells s0.1)))) an)))) (fun H => oq)
theorem r11extents_ok (l : List Ex) (r : List Ex) : r11extents l = some r → r11extents_G l r := by
  unfold r11extents
  refine th_ok (fun s0 h0 => ?_)
  refine tb_ok (fun h1 => ?_) (fun h1 => ?_)
  ·
    have h1p := of_decide_eq_true h1
    exact fun e => nomatch e
  ·
    have h1p := of_decide_eq_false h1
    refine tp_ok (fun h2 => ?_)
    exact fun e => tl_ok (G := r11extents_G l) (r11extents_l0 l s0 h0 h1 h1p h2) e
end Ab
end Go.Proofs.Ytimcbhhebnikiaa
namespace Go.Proofs.Ytimcbhhebnikiaa
open Go Go.Proofs.Ytimcbhhebnikiaa.Ab
set_option linter.unusedVariables false
set_option linter.unusedSimpArgs false
namespace Ab
/-- The part of an extent within so many blocks, if there is one. -/
def Cu (x : Ex) (lba n : Int) : Prop := Ck x ∧ 0 ≤ lba ∧ lba ≤ 64 ∧ 0 ≤ n ∧ n ≤ 64 ∧ max x.lba lba < min (x.lba + x.len) (lba + n)
instance (x : Ex) (lba n : Int) : Decidable (Cu x lba n) := by unfold Cu; infer_instance
def cu (x : Ex) (lba n : Int) : Ex :=
  ⟨max x.lba lba, min (x.lba + x.len) (lba + n) - max x.lba lba, x.kind, x.gen, if x.kind = 2 then (x.d.drop (32 * (max x.lba lba - x.lba)).toNat).take (32 * (min (x.lba + x.len) (lba + n) - max x.lba lba)).toNat else []⟩
def e0 : Ex := ⟨0, 0, 0, 0, []⟩
def cut (x : Ex) (lba n : Int) : Option Ex := if Cu x lba n then some (cu x lba n) else none
def cutv (x : Ex) (lba n : Int) : Ex × Bool := if Cu x lba n then (cu x lba n, true) else (e0, false)
theorem cutv_pos {x : Ex} {lba n : Int} (h : Cu x lba n) : cutv x lba n = (cu x lba n, true) := if_pos h
theorem cutv_neg {x : Ex} {lba n : Int} (h : ¬ Cu x lba n) : cutv x lba n = (e0, false) := if_neg h
theorem dslice (d : List UInt8) (x f t : Int) (h1 : 0 ≤ x) (h2 : x ≤ f) (h3 : f ≤ t) (h4 : t ≤ 64) (hd : 32 * (t - x) ≤ d.length) :
    List.take (((32 * (t - x)).toNat - (32 * (f - x)).toNat) * 1) (List.take (((32 * (t - x)).toNat - (32 * (f - x)).toNat) * 1) (List.drop ((32 * (f - x)).toNat * 1) d)) = (d.drop (32 * (f - x)).toNat).take (32 * (t - f)).toNat := by
  rw [Nat.mul_one, Nat.mul_one, List.take_take, Nat.min_self, show (32 * (t - x)).toNat - (32 * (f - x)).toNat = (32 * (t - f)).toNat by omega]
theorem eCut_eq (x : Ex) (lba n : Int) : eCut x lba n = some (cutv x lba n) := by
  unfold eCut
  simp only [eCheck_eq, tc_some, tb_not, tb_dec, tb_beq, imin_eq, imax_eq]
  by_cases hc : Ck x
  case neg => rw [ck_f hc, tb_f]; unfold cutv; rw [if_neg fun h => hc h.1]; rfl
  rw [ck_t hc, tb_t]
  by_cases h1 : lba ≥ 0
  case neg => rw [if_neg h1]; unfold cutv; rw [if_neg fun h => h1 h.2.1]; rfl
  by_cases h2 : lba ≤ 64
  case neg => rw [if_pos h1, if_neg h2]; unfold cutv; rw [if_neg fun h => h2 h.2.2.1]; rfl
  by_cases h3 : n ≥ 0
  case neg => rw [if_pos h1, if_pos h2, if_neg h3]; unfold cutv; rw [if_neg fun h => h3 h.2.2.2.1]; rfl
  by_cases h4 : n ≤ 64
  case neg => rw [if_pos h1, if_pos h2, if_pos h3, if_neg h4]; unfold cutv; rw [if_neg fun h => h4 h.2.2.2.2.1]; rfl
  have hcc := hc
  unfold Ck at hcc
  rw [if_pos h1, if_pos h2, if_pos h3, if_pos h4, wr_id (x := x.lba + x.len) (by omega) (by omega), wr_id (x := lba + n) (by omega) (by omega)]
  have hf1 : x.lba ≤ max x.lba lba := by omega
  have hf2 : max x.lba lba ≤ 64 := by omega
  have ht1 : min (x.lba + x.len) (lba + n) ≤ x.lba + x.len := by omega
  have hcu : (Cu x lba n) ↔ max x.lba lba < min (x.lba + x.len) (lba + n) := ⟨fun h => h.2.2.2.2.2, fun h => ⟨hc, h1, h2, h3, h4, h⟩⟩
  unfold cutv
  simp only [hcu]
  unfold cu
  generalize max x.lba lba = f at hf1 hf2 ⊢
  generalize min (x.lba + x.len) (lba + n) = t at ht1 ⊢
  by_cases h5 : f ≥ t
  · rw [if_pos h5, if_neg (show ¬ f < t by omega)]; rfl
  rw [if_neg h5, if_pos (show f < t by omega)]
  have w1 : wr (f - x.lba) = f - x.lba := wr_id (by omega) (by omega)
  have w2 : wr (t - x.lba) = t - x.lba := wr_id (by omega) (by omega)
  have w3 : wr (t - f) = t - f := wr_id (by omega) (by omega)
  have w4 : wr ((f - x.lba) * 32) = 32 * (f - x.lba) := by rw [wr_id (by omega) (by omega)]; omega
  have w5 : wr ((t - x.lba) * 32) = 32 * (t - x.lba) := by rw [wr_id (by omega) (by omega)]; omega
  rw [w1, w2, w3, w4, w5]
  by_cases hk : x.kind = 2
  · have hd := hcc.2.2.2.2.2.2.2.2.1 hk
    rw [if_pos hk, if_pos hk, tp_pos (by omega), tp_pos (by omega), tp_pos (by rw [List.length_map]; omega), tp_pos (by omega), dslice _ _ _ _ (by omega) (by omega) (by omega) (by omega) (by omega)]
  · rw [if_neg hk, if_neg hk]
def Ro (blocks lba n : Int) : Prop := 0 ≤ lba ∧ lba ≤ blocks ∧ 1 ≤ n ∧ n ≤ blocks - lba
instance (blocks lba n : Int) : Decidable (Ro blocks lba n) := by unfold Ro; infer_instance
theorem ex_take1 (l : List Ex) (i : Nat) (hi : i < l.length) : l.take (i + 1) = l.take i ++ [exAt l i] := by unfold exAt; exact take_at _ l i hi
end Ab
end Go.Proofs.Ytimcbhhebnikiaa
namespace Go.Proofs.Ytimcbhhebnikiaa
open Go Go.Proofs.Ytimcbhhebnikiaa.Ab
set_option linter.unusedVariables false
set_option linter.unusedSimpArgs false
namespace Ab
def jnx (a b : Ex) : Ex := ⟨a.lba, a.len + b.len, a.kind, a.gen, a.d ++ b.d⟩
/-- Behind others: joined with the last one, if it goes on it. -/
def add (out : List Ex) (y : Ex) : List Ex := if out ≠ [] ∧ Jn (out.getLastD ⟨0, 0, 0, 0, []⟩) y then out.dropLast ++ [jnx (out.getLastD ⟨0, 0, 0, 0, []⟩) y] else out ++ [y]
end Ab
end Go.Proofs.Ytimcbhhebnikiaa
namespace Go.Proofs.Ytimcbhhebnikiaa
open Go Go.Proofs.Ytimcbhhebnikiaa.Ab
set_option linter.unusedVariables false
set_option linter.unusedSimpArgs false
namespace Ab
/-- Extents one behind the other, from a block on, none of which goes on the one before it. -/
def CH : Int → List Ex → Prop
  | _, [] => True
  | s, x :: l => Ck x ∧ x.lba = s ∧ (∀ y, l.head? = some y → ¬ Jn x y) ∧ CH (s + x.len) l
theorem mk_ch {blocks : Int} {l : List Ex} (h : Mk blocks l) : CH 0 l := by
  have key : ∀ j, j ≤ l.length → CH (sl (l.take (l.length - j))) (l.drop (l.length - j)) := by
    intro j
    induction j with
    | zero => intro _; rw [Nat.sub_zero, List.drop_length]; trivial
    | succ j ih =>
      intro hj
      have hi : l.length - (j + 1) < l.length := by omega
      have hm := h.2.1 (l.length - (j + 1)) hi
      have e : l.drop (l.length - (j + 1)) = exAt l (l.length - (j + 1)) :: l.drop (l.length - (j + 1) + 1) := by unfold exAt; exact drop_at _ l _ hi
      rw [e]
      have hs := sl_take l (l.length - (j + 1)) hi
      have e2 : l.length - (j + 1) + 1 = l.length - j := by omega
      rw [e2] at hs ⊢
      refine ⟨hm.1, hm.2.1, fun y hy => ?_, by rw [← hs]; exact ih (by omega)⟩
      have hy2 : l.length - j < l.length ∧ y = exAt l (l.length - j) := by
        rw [List.head?_drop] at hy
        obtain ⟨g, e3⟩ := List.getElem?_eq_some_iff.1 hy
        exact ⟨g, by unfold exAt; simp [g, e3]⟩
      have hm2 := (h.2.1 (l.length - j) hy2.1).2.2 (by omega)
      rw [show l.length - j - 1 = l.length - (j + 1) by omega, ← hy2.2] at hm2
      exact hm2
  have := key l.length (Nat.le_refl _)
  simpa [sl] using this
theorem ch_ck : ∀ {l : List Ex} {s : Int}, CH s l → ∀ z ∈ l, Ck z ∧ s ≤ z.lba
  | [], _, _, z, hz => by cases hz
  | x :: l, s, h, z, hz => by
    have hc := h.1
    unfold Ck at hc
    rcases List.mem_cons.1 hz with e | e
    · subst e; exact ⟨h.1, by have := h.2.1; omega⟩
    · have := ch_ck h.2.2.2 z e
      exact ⟨this.1, by omega⟩
theorem cu_ck {x : Ex} {lo n : Int} (h : Cu x lo n) : Ck (cu x lo n) := by
  obtain ⟨c1, c2, c3, c4, c5, c6⟩ := h
  unfold Ck at c1
  refine ⟨by simp only [cu]; omega, by simp only [cu]; omega, by simp only [cu]; omega, by simp only [cu]; omega, by simp only [cu]; omega, by simp only [cu]; omega, by simp only [cu]; omega, by simp only [cu]; omega, fun hk => ?_, fun hk => ?_⟩
  · have hk : x.kind = 2 := hk
    have := c1.2.2.2.2.2.2.2.2.1 hk
    simp only [cu, if_pos hk, List.length_take, List.length_drop]; omega
  · have hk : ¬ x.kind = 2 := hk
    simp only [cu, if_neg hk]
end Ab
end Go.Proofs.Ytimcbhhebnikiaa
