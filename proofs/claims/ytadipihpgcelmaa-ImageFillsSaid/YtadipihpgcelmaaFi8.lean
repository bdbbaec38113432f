/- The law 'ImageFills': it returns true, and nothing that was there changes. No condition. (Part 8 of 9.) -/
import Derived.Test.YtadipihpgcelmaaFi7
import Derived.Test.YtadipihpgcelmaaRows
namespace Go.Proofs.Ytadipihpgcelmaa
open Go Go.Proofs.Ytadipihpgcelmaa.Ab
set_option linter.unusedVariables false
set_option linter.unusedSimpArgs false
set_option maxRecDepth 1000000
namespace Ab
def cf : Cfg := { inl := [37, 38, 39, 40, 41, 42, 44, 48, 54, 58], thaw := [(60, [[0, 0, 0, 0, 1]])], move := [12, 13, 14, 28, 34, 47, 53, 60], clone := [(32, 1, 1), (52, 1, 1), (55, 34, 48)] }
noncomputable def vwT : List (Nat × TI) := [(1, (TI.mk 1 8 [(AV.sc Go.Value.nilFunc)] (AV.sc Go.Value.nilFunc) TK.func)),
  (2, (TI.mk 1 8 [(AV.i 0)] (AV.i 0) (TK.int Go.IntKind.i64))),
  (3, (TI.mk 1 8 [(AV.i 0)] (AV.i 0) (TK.int Go.IntKind.i64))),
  (4, (TI.mk 1 1 [(AV.b Bool.false)] (AV.b Bool.false) TK.bool)),
  (5, (TI.mk 1 1 [(AV.y (UInt8.ofNat (0 : Nat)))] (AV.y (UInt8.ofNat (0 : Nat))) (TK.int Go.IntKind.u8))),
  (6, (TI.mk 1 1 [(AV.y (UInt8.ofNat (0 : Nat)))] (AV.y (UInt8.ofNat (0 : Nat))) (TK.int Go.IntKind.u8))),
  (7, (TI.mk 4 24 [(AV.i 0), (AV.i 0), (AV.b Bool.false), (AV.y (UInt8.ofNat (0 : Nat)))] (AV.ag [(AV.i 0), (AV.i 0), (AV.b Bool.false), (AV.y (UInt8.ofNat (0 : Nat)))]) (TK.struct [((0 : Nat), ((1 : Nat), Bool.false)), ((1 : Nat), ((1 : Nat), Bool.false)), ((2 : Nat), ((1 : Nat), Bool.false)), ((3 : Nat), ((1 : Nat), Bool.false))]))),
  (8, (TI.mk 4 24 [(AV.i 0), (AV.i 0), (AV.b Bool.false), (AV.y (UInt8.ofNat (0 : Nat)))] (AV.ag [(AV.i 0), (AV.i 0), (AV.b Bool.false), (AV.y (UInt8.ofNat (0 : Nat)))]) (TK.struct [((0 : Nat), ((1 : Nat), Bool.false)), ((1 : Nat), ((1 : Nat), Bool.false)), ((2 : Nat), ((1 : Nat), Bool.false)), ((3 : Nat), ((1 : Nat), Bool.false))]))),
  (9, (TI.mk 1 16 [(AV.st ([] : List UInt8))] (AV.st ([] : List UInt8)) TK.string)),
  (10, (TI.mk 1 16 [(AV.st ([] : List UInt8))] (AV.st ([] : List UInt8)) TK.string)),
  (11, (TI.mk 1 16 [(AV.st ([] : List UInt8))] (AV.st ([] : List UInt8)) TK.string)),
  (12, (TI.mk 1 8 [(AV.sc (Go.Value.int Go.IntKind.u64 0))] (AV.sc (Go.Value.int Go.IntKind.u64 0)) (TK.int Go.IntKind.u64))),
  (13, (TI.mk 2 24 [(AV.st ([] : List UInt8)), (AV.sc (Go.Value.int Go.IntKind.u64 0))] (AV.ag [(AV.st ([] : List UInt8)), (AV.sc (Go.Value.int Go.IntKind.u64 0))]) (TK.struct [((0 : Nat), ((1 : Nat), Bool.false)), ((1 : Nat), ((1 : Nat), Bool.false))]))),
  (14, (TI.mk 2 24 [(AV.st ([] : List UInt8)), (AV.sc (Go.Value.int Go.IntKind.u64 0))] (AV.ag [(AV.st ([] : List UInt8)), (AV.sc (Go.Value.int Go.IntKind.u64 0))]) (TK.struct [((0 : Nat), ((1 : Nat), Bool.false)), ((1 : Nat), ((1 : Nat), Bool.false))]))),
  (15, (TI.mk 1 8 [(AV.sc (Go.Value.pointer Option.none))] (AV.sc (Go.Value.pointer Option.none)) (TK.ptr (80 : Nat)))),
  (16, (TI.mk 1 8 [(AV.sc (Go.Value.pointer Option.none))] (AV.sc (Go.Value.pointer Option.none)) (TK.ptr (83 : Nat)))),
  (17, (TI.mk 1 8 [(AV.sc (Go.Value.pointer Option.none))] (AV.sc (Go.Value.pointer Option.none)) (TK.ptr (93 : Nat)))),
  (18, (TI.mk 1 8 [(AV.sc (Go.Value.pointer Option.none))] (AV.ag [(AV.sc (Go.Value.pointer Option.none))]) (TK.struct [((0 : Nat), ((1 : Nat), Bool.false))]))),
  (19, (TI.mk 1 8 [(AV.sc (Go.Value.pointer Option.none))] (AV.ag [(AV.sc (Go.Value.pointer Option.none))]) (TK.struct [((0 : Nat), ((1 : Nat), Bool.false))]))),
  (20, (TI.mk 1 16 [(AV.sc Go.Value.nilIface)] (AV.sc Go.Value.nilIface) TK.other)),
  (21, (TI.mk 1 4 [(AV.sc (Go.Value.int Go.IntKind.i32 0))] (AV.sc (Go.Value.int Go.IntKind.i32 0)) (TK.int Go.IntKind.i32))),
  (22, (TI.mk 1 24 [AV.nl] AV.nl (TK.slice (43 : Nat)))),
  (23, (TI.mk 1 24 [AV.nl] AV.nl (TK.slice (50 : Nat)))),
  (24, (TI.mk 1 8 [(AV.sc Go.Value.nilFunc)] (AV.sc Go.Value.nilFunc) TK.func)),
  (25, (TI.mk 1 8 [(AV.sc Go.Value.nilFunc)] (AV.sc Go.Value.nilFunc) TK.func)),
  (26, (TI.mk 1 8 [(AV.i 0)] (AV.i 0) (TK.int Go.IntKind.i64))),
  (28, (TI.mk 1 8 [(AV.sc Go.Value.nilFunc)] (AV.sc Go.Value.nilFunc) TK.func)),
  (30, (TI.mk 1 8 [(AV.sc Go.Value.nilFunc)] (AV.sc Go.Value.nilFunc) TK.func)),
  (31, (TI.mk 1 8 [(AV.sc Go.Value.nilFunc)] (AV.sc Go.Value.nilFunc) TK.func)),
  (32, (TI.mk 1 8 [(AV.sc Go.Value.nilFunc)] (AV.sc Go.Value.nilFunc) TK.func)),
  (33, (TI.mk 1 8 [(AV.sc Go.Value.nilFunc)] (AV.sc Go.Value.nilFunc) TK.func)),
  (34, (TI.mk 1 8 [(AV.sc Go.Value.nilFunc)] (AV.sc Go.Value.nilFunc) TK.func)),
  (35, (TI.mk 1 24 [AV.nl] AV.nl (TK.slice (5 : Nat)))),
  (36, (TI.mk 1 8 [(AV.sc Go.Value.nilFunc)] (AV.sc Go.Value.nilFunc) TK.func)),
  (37, (TI.mk 1 8 [(AV.sc Go.Value.nilFunc)] (AV.sc Go.Value.nilFunc) TK.func)),
  (39, (TI.mk 1 8 [(AV.sc Go.Value.nilFunc)] (AV.sc Go.Value.nilFunc) TK.func)),
  (40, (TI.mk 1 8 [(AV.sc Go.Value.nilFunc)] (AV.sc Go.Value.nilFunc) TK.func)),
  (41, (TI.mk 32 32 (List.replicate (32 : Nat) (AV.y (UInt8.ofNat (0 : Nat)))) (AV.ag (List.replicate (32 : Nat) (AV.y (UInt8.ofNat (0 : Nat))))) (TK.array 32 (5 : Nat)))),
  (42, (TI.mk 34 48 ((AV.i 0) :: (AV.i 0) :: List.replicate (32 : Nat) (AV.y (UInt8.ofNat (0 : Nat)))) (AV.ag ((AV.i 0) :: (AV.i 0) :: List.replicate (32 : Nat) (AV.y (UInt8.ofNat (0 : Nat))))) (TK.struct [((0 : Nat), ((1 : Nat), Bool.false)), ((1 : Nat), ((1 : Nat), Bool.false)), ((2 : Nat), ((32 : Nat), Bool.true))]))),
  (43, (TI.mk 34 48 ((AV.i 0) :: (AV.i 0) :: List.replicate (32 : Nat) (AV.y (UInt8.ofNat (0 : Nat)))) (AV.ag ((AV.i 0) :: (AV.i 0) :: List.replicate (32 : Nat) (AV.y (UInt8.ofNat (0 : Nat))))) (TK.struct [((0 : Nat), ((1 : Nat), Bool.false)), ((1 : Nat), ((1 : Nat), Bool.false)), ((2 : Nat), ((32 : Nat), Bool.true))]))),
  (44, (TI.mk 1 8 [(AV.sc Go.Value.nilFunc)] (AV.sc Go.Value.nilFunc) TK.func)),
  (45, (TI.mk 1 8 [(AV.sc Go.Value.nilFunc)] (AV.sc Go.Value.nilFunc) TK.func)),
  (46, (TI.mk 1 8 [(AV.sc Go.Value.nilFunc)] (AV.sc Go.Value.nilFunc) TK.func)),
  (47, (TI.mk 1 8 [(AV.sc Go.Value.nilFunc)] (AV.sc Go.Value.nilFunc) TK.func)),
  (48, (TI.mk 1 8 [(AV.sc Go.Value.nilFunc)] (AV.sc Go.Value.nilFunc) TK.func)),
  (49, (TI.mk 5 56 [(AV.i 0), (AV.i 0), (AV.i 0), (AV.i 0), AV.nl] (AV.ag [(AV.i 0), (AV.i 0), (AV.i 0), (AV.i 0), AV.nl]) (TK.struct [((0 : Nat), ((1 : Nat), Bool.false)), ((1 : Nat), ((1 : Nat), Bool.false)), ((2 : Nat), ((1 : Nat), Bool.false)), ((3 : Nat), ((1 : Nat), Bool.false)), ((4 : Nat), ((1 : Nat), Bool.false))]))),
  (50, (TI.mk 5 56 [(AV.i 0), (AV.i 0), (AV.i 0), (AV.i 0), AV.nl] (AV.ag [(AV.i 0), (AV.i 0), (AV.i 0), (AV.i 0), AV.nl]) (TK.struct [((0 : Nat), ((1 : Nat), Bool.false)), ((1 : Nat), ((1 : Nat), Bool.false)), ((2 : Nat), ((1 : Nat), Bool.false)), ((3 : Nat), ((1 : Nat), Bool.false)), ((4 : Nat), ((1 : Nat), Bool.false))]))),
  (51, (TI.mk 1 8 [(AV.sc Go.Value.nilFunc)] (AV.sc Go.Value.nilFunc) TK.func)),
  (52, (TI.mk 1 8 [(AV.sc Go.Value.nilFunc)] (AV.sc Go.Value.nilFunc) TK.func)),
  (53, (TI.mk 1 8 [(AV.sc Go.Value.nilFunc)] (AV.sc Go.Value.nilFunc) TK.func)),
  (54, (TI.mk 1 8 [(AV.sc Go.Value.nilFunc)] (AV.sc Go.Value.nilFunc) TK.func)),
  (56, (TI.mk 1 8 [(AV.sc Go.Value.nilFunc)] (AV.sc Go.Value.nilFunc) TK.func)),
  (57, (TI.mk 1 8 [(AV.sc Go.Value.nilFunc)] (AV.sc Go.Value.nilFunc) TK.func)),
  (58, (TI.mk 1 8 [(AV.sc Go.Value.nilFunc)] (AV.sc Go.Value.nilFunc) TK.func)),
  (59, (TI.mk 1 8 [(AV.sc Go.Value.nilFunc)] (AV.sc Go.Value.nilFunc) TK.func)),
  (60, (TI.mk 1 8 [(AV.sc Go.Value.nilFunc)] (AV.sc Go.Value.nilFunc) TK.func)),
  (61, (TI.mk 1 8 [(AV.sc Go.Value.nilFunc)] (AV.sc Go.Value.nilFunc) TK.func)),
  (62, (TI.mk 1 8 [(AV.sc Go.Value.nilFunc)] (AV.sc Go.Value.nilFunc) TK.func)),
  (63, (TI.mk 1 8 [(AV.sc Go.Value.nilFunc)] (AV.sc Go.Value.nilFunc) TK.func)),
  (64, (TI.mk 1 8 [(AV.sc Go.Value.nilFunc)] (AV.sc Go.Value.nilFunc) TK.func)),
  (65, (TI.mk 1 8 [(AV.sc Go.Value.nilFunc)] (AV.sc Go.Value.nilFunc) TK.func)),
  (66, (TI.mk 1 8 [(AV.sc Go.Value.nilFunc)] (AV.sc Go.Value.nilFunc) TK.func)),
  (67, (TI.mk 1 8 [(AV.sc Go.Value.nilFunc)] (AV.sc Go.Value.nilFunc) TK.func)),
  (68, (TI.mk 1 8 [(AV.sc Go.Value.nilFunc)] (AV.sc Go.Value.nilFunc) TK.func)),
  (69, (TI.mk 1 8 [(AV.sc Go.Value.nilFunc)] (AV.sc Go.Value.nilFunc) TK.func)),
  (70, (TI.mk 1 8 [(AV.sc Go.Value.nilFunc)] (AV.sc Go.Value.nilFunc) TK.func)),
  (71, (TI.mk 1 8 [(AV.sc Go.Value.nilFunc)] (AV.sc Go.Value.nilFunc) TK.func)),
  (72, (TI.mk 1 8 [(AV.sc Go.Value.nilFunc)] (AV.sc Go.Value.nilFunc) TK.func)),
  (73, (TI.mk 1 8 [(AV.sc Go.Value.nilFunc)] (AV.sc Go.Value.nilFunc) TK.func)),
  (74, (TI.mk 1 8 [(AV.sc Go.Value.nilFunc)] (AV.sc Go.Value.nilFunc) TK.func)),
  (76, (TI.mk 1 8 [(AV.sc Go.Value.nilFunc)] (AV.sc Go.Value.nilFunc) TK.func)),
  (77, (TI.mk 1 8 [(AV.sc Go.Value.nilFunc)] (AV.sc Go.Value.nilFunc) TK.func)),
  (78, (TI.mk 1 8 [(AV.sc Go.Value.nilFunc)] (AV.sc Go.Value.nilFunc) TK.func)),
  (79, (TI.mk 4 40 [(AV.sc (Go.Value.pointer Option.none)), (AV.sc (Go.Value.pointer Option.none)), (AV.sc (Go.Value.pointer Option.none)), (AV.st ([] : List UInt8))] (AV.ag [(AV.sc (Go.Value.pointer Option.none)), (AV.sc (Go.Value.pointer Option.none)), (AV.sc (Go.Value.pointer Option.none)), (AV.st ([] : List UInt8))]) (TK.struct [((0 : Nat), ((1 : Nat), Bool.false)), ((1 : Nat), ((1 : Nat), Bool.false)), ((2 : Nat), ((1 : Nat), Bool.false)), ((3 : Nat), ((1 : Nat), Bool.false))]))),
  (80, (TI.mk 4 40 [(AV.sc (Go.Value.pointer Option.none)), (AV.sc (Go.Value.pointer Option.none)), (AV.sc (Go.Value.pointer Option.none)), (AV.st ([] : List UInt8))] (AV.ag [(AV.sc (Go.Value.pointer Option.none)), (AV.sc (Go.Value.pointer Option.none)), (AV.sc (Go.Value.pointer Option.none)), (AV.st ([] : List UInt8))]) (TK.struct [((0 : Nat), ((1 : Nat), Bool.false)), ((1 : Nat), ((1 : Nat), Bool.false)), ((2 : Nat), ((1 : Nat), Bool.false)), ((3 : Nat), ((1 : Nat), Bool.false))]))),
  (81, (TI.mk 0 0 ([] : List AV) (AV.ag ([] : List AV)) (TK.array 0 (16 : Nat)))),
  (82, (TI.mk 0 0 ([] : List AV) (AV.ag ([] : List AV)) (TK.struct [((0 : Nat), ((0 : Nat), Bool.true))]))),
  (83, (TI.mk 0 0 ([] : List AV) (AV.ag ([] : List AV)) (TK.struct [((0 : Nat), ((0 : Nat), Bool.true))]))),
  (84, (TI.mk 1 8 [(AV.sc Go.Value.nilFunc)] (AV.sc Go.Value.nilFunc) TK.func)),
  (85, (TI.mk 1 4 [(AV.sc (Go.Value.int Go.IntKind.u32 0))] (AV.sc (Go.Value.int Go.IntKind.u32 0)) (TK.int Go.IntKind.u32))),
  (86, (TI.mk 1 1 [(AV.y (UInt8.ofNat (0 : Nat)))] (AV.y (UInt8.ofNat (0 : Nat))) (TK.int Go.IntKind.u8))),
  (87, (TI.mk 1 1 [(AV.y (UInt8.ofNat (0 : Nat)))] (AV.y (UInt8.ofNat (0 : Nat))) (TK.int Go.IntKind.u8))),
  (88, (TI.mk 1 8 [(AV.sc Go.Value.nilFunc)] (AV.sc Go.Value.nilFunc) TK.func)),
  (89, (TI.mk 1 8 [(AV.sc (Go.Value.pointer Option.none))] (AV.sc (Go.Value.pointer Option.none)) (TK.ptr (5 : Nat))))]
noncomputable def vwF : List (Nat × AF) := [(2, afOf Try.f2), (3, afOf Try.f3), (4, afOf Try.f4), (5, afOf Try.f5), (6, afOf Try.f6), (7, afOf Try.f7), (8, afOf Try.f8), (9, afOf Try.f9), (10, afOf Try.f10), (11, afOf Try.f11), (12, afOf Try.f12), (13, afOf Try.f13), (14, afOf Try.f14), (15, afOf Try.f15), (16, afOf Try.f16), (17, afOf Try.f17), (18, afOf Try.f18), (19, afOf Try.f19), (20, afOf Try.f20), (21, afOf Try.f21), (22, afOf Try.f22), (23, afOf Try.f23), (24, afOf Try.f24), (25, afOf Try.f25), (26, afOf Try.f26), (27, afOf Try.f27), (28, afOf Try.f28), (29, afOf Try.f29), (30, afOf Try.f30), (31, afOf Try.f31), (32, afOf Try.f32), (33, afOf Try.f33), (34, afOf Try.f34), (35, afOf Try.f35), (36, afOf Try.f36), (37, afOf Try.f37), (38, afOf Try.f38), (39, afOf Try.f39), (40, afOf Try.f40), (41, afOf Try.f41), (42, afOf Try.f42), (43, afOf Try.f43), (44, afOf Try.f44), (45, afOf Try.f45), (46, afOf Try.f46), (47, afOf Try.f47), (48, afOf Try.f48), (49, afOf Try.f49), (50, afOf Try.f50), (51, afOf Try.f51), (52, afOf Try.f52), (53, afOf Try.f53), (54, afOf Try.f54), (55, afOf Try.f55), (56, afOf Try.f56), (57, afOf Try.f57), (58, afOf Try.f58), (59, afOf Try.f59), (60, afOf Try.f60)]
noncomputable def vw : View := View.mkT Try.prog vwT vwF
theorem vwT_ok : ∀ x ∈ vwT, tinfo Try.prog x.1 = some x.2 := (all_cons (by kernel_rfl) (all_cons (by kernel_rfl) (all_cons (by kernel_rfl) (all_cons (by kernel_rfl) (all_cons (by kernel_rfl) (all_cons (by kernel_rfl) (all_cons (by kernel_rfl) (all_cons (by kernel_rfl) (all_cons (by kernel_rfl) (all_cons (by kernel_rfl) (all_cons (by kernel_rfl) (all_cons (by kernel_rfl) (all_cons (by kernel_rfl) (all_cons (by kernel_rfl) (all_cons (by kernel_rfl) (all_cons (by kernel_rfl) (all_cons (by kernel_rfl) (all_cons (by kernel_rfl) (all_cons (by kernel_rfl) (all_cons (by kernel_rfl) (all_cons (by kernel_rfl) (all_cons (by kernel_rfl) (all_cons (by kernel_rfl) (all_cons (by kernel_rfl) (all_cons (by kernel_rfl) (all_cons (by kernel_rfl) (all_cons (by kernel_rfl) (all_cons (by kernel_rfl) (all_cons (by kernel_rfl) (all_cons (by kernel_rfl) (all_cons (by kernel_rfl) (all_cons (by kernel_rfl) (all_cons (by kernel_rfl) (all_cons (by kernel_rfl) (all_cons (by kernel_rfl) (all_cons (by kernel_rfl) (all_cons (by kernel_rfl) (all_cons (by kernel_rfl) (all_cons (by kernel_rfl) (all_cons (by kernel_rfl) (all_cons (by kernel_rfl) (all_cons (by kernel_rfl) (all_cons (by kernel_rfl) (all_cons (by kernel_rfl) (all_cons (by kernel_rfl) (all_cons (by kernel_rfl) (all_cons (by kernel_rfl) (all_cons (by kernel_rfl) (all_cons (by kernel_rfl) (all_cons (by kernel_rfl) (all_cons (by kernel_rfl) (all_cons (by kernel_rfl) (all_cons (by kernel_rfl) (all_cons (by kernel_rfl) (all_cons (by kernel_rfl) (all_cons (by kernel_rfl) (all_cons (by kernel_rfl) (all_cons (by kernel_rfl) (all_cons (by kernel_rfl) (all_cons (by kernel_rfl) (all_cons (by kernel_rfl) (all_cons (by kernel_rfl) (all_cons (by kernel_rfl) (all_cons (by kernel_rfl) (all_cons (by kernel_rfl) (all_cons (by kernel_rfl) (all_cons (by kernel_rfl) (all_cons (by kernel_rfl) (all_cons (by kernel_rfl) (all_cons (by kernel_rfl) (all_cons (by kernel_rfl) (all_cons (by kernel_rfl) (all_cons (by kernel_rfl) (all_cons (by kernel_rfl) (all_cons (by kernel_rfl) (all_cons (by kernel_rfl) (all_cons (by kernel_rfl) (all_cons (by kernel_rfl) (all_cons (by kernel_rfl) (all_cons (by kernel_rfl) (all_cons (by kernel_rfl) (all_cons (by kernel_rfl) (all_cons (by kernel_rfl) (all_cons (by kernel_rfl) all_nil))))))))))))))))))))))))))))))))))))))))))))))))))))))))))))))))))))))))))))))))))))
theorem vwF_ok : ∀ x ∈ vwF, afun Try.prog x.1 = some x.2 := (all_cons (by kernel_rfl) (all_cons (by kernel_rfl) (all_cons (by kernel_rfl) (all_cons (by kernel_rfl) (all_cons (by kernel_rfl) (all_cons (by kernel_rfl) (all_cons (by kernel_rfl) (all_cons (by kernel_rfl) (all_cons (by kernel_rfl) (all_cons (by kernel_rfl) (all_cons (by kernel_rfl) (all_cons (by kernel_rfl) (all_cons (by kernel_rfl) (all_cons (by kernel_rfl) (all_cons (by kernel_rfl) (all_cons (by kernel_rfl) (all_cons (by kernel_rfl) (all_cons (by kernel_rfl) (all_cons (by kernel_rfl) (all_cons (by kernel_rfl) (all_cons (by kernel_rfl) (all_cons (by kernel_rfl) (all_cons (by kernel_rfl) (all_cons (by kernel_rfl) (all_cons (by kernel_rfl) (all_cons (by kernel_rfl) (all_cons (by kernel_rfl) (all_cons (by kernel_rfl) (all_cons (by kernel_rfl) (all_cons (by kernel_rfl) (all_cons (by kernel_rfl) (all_cons (by kernel_rfl) (all_cons (by kernel_rfl) (all_cons (by kernel_rfl) (all_cons (by kernel_rfl) (all_cons (by kernel_rfl) (all_cons (by kernel_rfl) (all_cons (by kernel_rfl) (all_cons (by kernel_rfl) (all_cons (by kernel_rfl) (all_cons (by kernel_rfl) (all_cons (by kernel_rfl) (all_cons (by kernel_rfl) (all_cons (by kernel_rfl) (all_cons (by kernel_rfl) (all_cons (by kernel_rfl) (all_cons (by kernel_rfl) (all_cons (by kernel_rfl) (all_cons (by kernel_rfl) (all_cons (by kernel_rfl) (all_cons (by kernel_rfl) (all_cons (by kernel_rfl) (all_cons (by kernel_rfl) (all_cons (by kernel_rfl) (all_cons (by kernel_rfl) (all_cons (by kernel_rfl) (all_cons (by kernel_rfl) (all_cons (by kernel_rfl) (all_cons (by kernel_rfl) all_nil)))))))))))))))))))))))))))))))))))))))))))))))))))))))))))
theorem vw_eq : vw = View.of Try.prog := View.mkT_eq vwT_ok vwF_ok
theorem ord_7_0 : orderOk (rg Try.prog 7 0) = true := by kernel_rfl
theorem bef_7_0 : Region.before (rg Try.prog 7 0) = #[0, 1, 3, 3, 15, 31, 63, 127, 255, 511, 1023, 2047, 4095, 4095, 16383, 32767, 4095, 4095, 200703, 462847, 1048575, 2097151, 4194303] := by kernel_rfl
theorem clones : CloneOk Try.prog cf.clone :=
  (cloneOk_cons (clone_at Try.func32 rfl rfl rfl (by kernel_rfl) (t := 35) (by kernel_rfl)) (cloneOk_cons (clone_at Try.func52 rfl rfl rfl (by kernel_rfl) (t := 35) (by kernel_rfl)) (cloneOk_cons (clone_at Try.func55 rfl rfl rfl (by kernel_rfl) (t := 22) (by kernel_rfl)) (cloneOk_nil _))))
end Ab
end Go.Proofs.Ytadipihpgcelmaa
namespace Go.Proofs.Ytadipihpgcelmaa
open Go Go.Proofs.Ytadipihpgcelmaa.Ab
set_option linter.unusedVariables false
set_option linter.unusedSimpArgs false
namespace Ab
theorem wr_id {x : Int} (h1 : -9223372036854775808 ≤ x) (h2 : x ≤ 9223372036854775807) : wr x = x := by
  simp [wr, IntKind.wrap, IntKind.bits, IntKind.signed]
  omega
section
variable {α β σ : Type}
@[simp] theorem tb_t (x y : Option α) : tb true x y = x := rfl
@[simp] theorem tb_f (x y : Option α) : tb false x y = y := rfl
theorem tb_pos {c : Bool} {x y : Option α} (h : c = true) : tb c x y = x := by subst h; rfl
theorem tb_neg {c : Bool} {x y : Option α} (h : c = false) : tb c x y = y := by subst h; rfl
theorem tp_pos {p : Prop} [Decidable p] {x : Option α} (h : p) : tp p x = x := if_pos h
@[simp] theorem tc_some (s : β) (f : β → Option α) : tc (some s) f = f s := rfl
theorem tb_dec (p : Prop) [Decidable p] (x y : Option α) : tb (decide p) x y = if p then x else y := by
  by_cases h : p <;> simp [h]
theorem tb_beq (a b : Int) (x y : Option α) : tb (a == b) x y = if a = b then x else y := by
  by_cases h : a = b
  · rw [if_pos h]; exact tb_pos (beq_iff_eq.2 h)
  · rw [if_neg h]; exact tb_neg (beq_eq_false_iff_ne.2 h)
theorem tb_bne (a b : Int) (x y : Option α) : tb (a != b) x y = if a = b then y else x := by
  by_cases h : a = b
  · rw [if_pos h]; exact tb_neg (bne_eq_false_iff_eq.2 h)
  · rw [if_neg h]; exact tb_pos (bne_iff_ne.2 h)
theorem tb_not (c : Bool) (x y : Option α) : tb (!c) x y = tb c y x := by cases c <;> rfl
theorem th_run {step : σ → Option σ} {f : σ → Option α} (S : Nat → σ) (k : Nat) (hs : ∀ i, i < k → step (S i) = some (S (i + 1))) (he : step (S k) = none) : th step (S 0) f = f (S k) := by
  have : ∀ n, n ≤ k → Runs step (S (k - n)) (S k) := by
    intro n
    induction n with
    | zero => exact fun _ => .refl _
    | succ n ih =>
      intro hn
      refine .step (hs _ (by omega)) ?_
      rw [show k - (n + 1) + 1 = k - n by omega]
      exact ih (by omega)
  have h := this k (Nat.le_refl _)
  rw [Nat.sub_self] at h
  exact th_of h he rfl
/-- A loop that asks something of each place. -/
theorem th_all {step : Int → Option Int} {f : Int → Option α} (r1 r2 : Option α) (n : Nat) (P : Nat → Prop) (Q : Prop) [Decidable Q] (hQ : (∀ i, i < n → P i) ↔ Q) (hs : ∀ i : Nat, i < n → P i → step (i : Int) = some ((i : Int) + 1)) (hf : ∀ i : Nat, i < n → ¬ P i → step (i : Int) = none ∧ f (i : Int) = r1) (he : step (n : Int) = none ∧ f (n : Int) = r2) :
    th step 0 f = if Q then r2 else r1 := by
  by_cases h : ∀ i, i < n → P i
  · rw [if_pos (hQ.1 h)]
    have := th_run (step := step) (f := f) (fun i => (i : Int)) n (fun i hi => hs i hi (h i hi)) he.1
    simp only [Int.natCast_zero] at this
    rw [this]; exact he.2
  · rw [if_neg (fun g => h (hQ.2 g))]
    have hex : ∃ i, i < n ∧ ¬ P i := by
      refine Classical.byContradiction fun hn => h fun i hi => ?_
      exact Classical.byContradiction fun hp => hn ⟨i, hi, hp⟩
    have key : ∀ k, (∃ i, i < k ∧ i < n ∧ ¬ P i) → ∃ i, i < n ∧ ¬ P i ∧ ∀ j, j < i → P j := by
      intro k
      induction k with
      | zero => rintro ⟨i, hi, _⟩; omega
      | succ k ih =>
        rintro ⟨i, h1, h2, h3⟩
        by_cases hk : ∃ i, i < k ∧ i < n ∧ ¬ P i
        · exact ih hk
        · have hik : i = k := by
            rcases Nat.lt_or_ge i k with g | g
            · exact absurd ⟨i, g, h2, h3⟩ hk
            · omega
          refine ⟨i, h2, h3, fun j hj => ?_⟩
          exact Classical.byContradiction fun hp => hk ⟨j, by omega, by omega, hp⟩
    obtain ⟨i, h1, h2⟩ := hex
    obtain ⟨k, k1, k2, k3⟩ := key (i + 1) ⟨i, by omega, h1, h2⟩
    have := th_run (step := step) (f := f) (fun i => (i : Int)) k (fun i hi => hs i (by omega) (k3 i hi)) (hf k k1 k2).1
    simp only [Int.natCast_zero] at this
    rw [this]; exact (hf k k1 k2).2
end
theorem take_at {α : Type} (d : α) (l : List α) (i : Nat) (h : i < l.length) : l.take (i + 1) = l.take i ++ [l.getD i d] := by
  rw [List.take_succ_eq_append_getElem h]; simp [h]
theorem getD_all {α : Type} (d : α) (l : List α) (p : α → Prop) : (∀ i, i < l.length → p (l.getD i d)) ↔ ∀ x ∈ l, p x := by
  refine ⟨fun h x hx => ?_, fun h i hi => h _ ?_⟩
  · obtain ⟨i, hi, e⟩ := List.getElem_of_mem hx
    have := h i hi
    rw [← e]
    simpa [hi] using this
  · simp [hi]
end Ab
end Go.Proofs.Ytadipihpgcelmaa
namespace Go.Proofs.Ytadipihpgcelmaa
open Go Go.Proofs.Ytadipihpgcelmaa.Ab
set_option linter.unusedVariables false
set_option linter.unusedSimpArgs false
namespace Ab
theorem th_run_at {σ α : Type} {step : σ → Option σ} {f : σ → Option α} (S : Nat → σ) (k : Nat) {s0 : σ} (h0 : s0 = S 0) (hs : ∀ i, i < k → step (S i) = some (S (i + 1))) (he : step (S k) = none) : th step s0 f = f (S k) := by
  subst h0; exact th_run S k hs he
def CkC (c : Ce) : Prop := 0 ≤ c.kind ∧ c.kind ≤ 2 ∧ 0 ≤ c.gen ∧ c.gen ≤ 2147483647 ∧ (c.kind ≠ 2 → pad 32 c.d = List.replicate 32 0)
instance (c : Ce) : Decidable (CkC c) := by unfold CkC; infer_instance
/-- May blocks be? -/
def CkI (l : List Ce) : Prop := 1 ≤ l.length ∧ l.length ≤ 64 ∧ ∀ c ∈ l, CkC c
instance (l : List Ce) : Decidable (CkI l) := by unfold CkI; infer_instance
theorem ceAt_all (l : List Ce) (p : Ce → Prop) : (∀ i, i < l.length → p (ceAt l i)) ↔ ∀ x ∈ l, p x := by
  unfold ceAt; exact getD_all _ l p
end Ab
end Go.Proofs.Ytadipihpgcelmaa
namespace Go.Proofs.Ytadipihpgcelmaa.Ab
open Go
theorem kq {p : Prop} (h : p := by kernel_rfl) : p := h
end Go.Proofs.Ytadipihpgcelmaa.Ab
namespace Go.Proofs.Ytadipihpgcelmaa
open Go Go.Proofs.Ytadipihpgcelmaa.Ab
set_option linter.unusedVariables false
set_option linter.unusedSimpArgs false
set_option maxRecDepth 1000000
namespace Ab
/-- Function 36, as it answers. -/
noncomputable def iWithin (n : Int) (low : Int) (high : Int) : Option (Bool) :=
 (tb ((decide (n ≥ low)))
  (some ((decide (n ≤ high))))
  (some (Bool.false)))
abbrev iWithin_G (n : Int) (low : Int) (high : Int) (r : Bool) : Prop := EvFr Try.prog cf true 36 [.i (n), .i (low), .i (high)] (.b (r))
theorem iWithin_l0 (n : Int) (low : Int) (high : Int) (h0 : ((decide (n ≥ low))) = true) (h0p : (n ≥ low)) : iWithin_G n low high ((decide (n ≤ high))) :=
  leafR vw_eq (k := 300) (r := []) (hs := hz [(5, [.yes]), (1, [.yes]), (1, [.yes]), (1, [.yes]), (1, [])]) (raw := (AV.b (decide (n ≤ high)))) (ps := [((decide (n ≥ low))) = true, ((decide (n ≥ low))) = true, ((decide (n ≥ low))) = true, ((decide (n ≥ low))) = true]) kq ⟨h0, h0, h0, h0, trivial⟩ tq
theorem iWithin_l1 (n : Int) (low : Int) (high : Int) (h0 : ((decide (n ≥ low))) = false) (h0p : ¬ (n ≥ low)) : iWithin_G n low high (Bool.false) :=
  leafR vw_eq (k := 300) (r := []) (hs := hz [(5, [.no, .no, .no, .no]), (1, [])]) (raw := (AV.b Bool.false)) (ps := [((decide (n ≥ low))) = false, ((decide (n ≥ low))) = false, ((decide (n ≥ low))) = false, ((decide (n ≥ low))) = false]) kq ⟨h0, h0, h0, h0, trivial⟩ tq
theorem iWithin_ok (n : Int) (low : Int) (high : Int) (r : Bool) : iWithin n low high = some r → iWithin_G n low high r := by
  unfold iWithin
  refine tb_ok (fun h0 => ?_) (fun h0 => ?_)
  ·
    have h0p := of_decide_eq_true h0
    exact fun e => tl_ok (G := iWithin_G n low high) (iWithin_l0 n low high h0 h0p) e
  ·
    have h0p := of_decide_eq_false h0
    exact fun e => tl_ok (G := iWithin_G n low high) (iWithin_l1 n low high h0 h0p) e
noncomputable abbrev iCheck_L0_I (l : List Ce) (s0 : Bool) : St := (St.mk [(0, (AV.sl (List.length l) (List.flatMap Ce.cells l))), (1, (AV.fn (38 : Nat) ([] : List AV))), (4, (AV.i 0)), (6, (AV.sl (List.length l) (List.flatMap Ce.cells l))), (7, (AV.i (↑(List.length l) : Int))), (8, (AV.i 0))] 19 (AH.mk 0 ([] : List (Prod Nat AObj))) Bool.false)
noncomputable abbrev iCheck_L0_S (l : List Ce) (s0 : Bool) (s2 : Int) : St := (St.mk [(0, (AV.sl (List.length l) (List.flatMap Ce.cells l))), (1, (AV.fn (38 : Nat) ([] : List AV))), (7, (AV.i (↑(List.length l) : Int))), (8, (AV.i s2))] 19 (AH.mk 0 ([] : List (Prod Nat AObj))) Bool.false)
noncomputable def iCheck_L0_step (l : List Ce) (s0 : Bool) (s2 : Int) : Option (Int) :=
 (tb ((decide (s2 < (↑(List.length l) : Int))))
  (tp ((((0 : Int) ≤ s2) ∧ (s2 < (↑(List.length l) : Int))))
   (tc (iWithin ((ceAt l (Int.toNat s2)).kind) ((0 : Int)) ((2 : Int))) fun s5 =>
    (tb ((!s5))
     none /- exit -/
     (tc (iWithin ((ceAt l (Int.toNat s2)).gen) ((0 : Int)) ((2147483647 : Int))) fun s7 =>
      (tb ((!s7))
       none /- exit -/
       (tb (((ceAt l (Int.toNat s2)).kind != (2 : Int)))
        (tb ((!((pad 32 (ceAt l (Int.toNat s2)).d) == (List.replicate (32 : Nat) (UInt8.ofNat (0 : Nat))))))
         none /- exit -/
         (some ((wr (s2 + (1 : Int))))))
        (some ((wr (s2 + (1 : Int)))))))))))
  none /- exit -/)
theorem iCheck_L0_s0 (l : List Ce) (s0 : Bool) (s2 : Int) (h3 : ((decide (s2 < (↑(List.length l) : Int)))) = true) (h3p : (s2 < (↑(List.length l) : Int))) (h4 : (((0 : Int) ≤ s2) ∧ (s2 < (↑(List.length l) : Int)))) (s5 : Bool) (h5 : iWithin ((ceAt l (Int.toNat s2)).kind) ((0 : Int)) ((2 : Int)) = some s5) (h6 : ((!s5)) = false) (s7 : Bool) (h7 : iWithin ((ceAt l (Int.toNat s2)).gen) ((0 : Int)) ((2147483647 : Int)) = some s7) (h8 : ((!s7)) = false) (h9 : (((ceAt l (Int.toNat s2)).kind != (2 : Int))) = true) (h9p : ¬ ((ceAt l (Int.toNat s2)).kind = (2 : Int))) (h10 : ((!((pad 32 (ceAt l (Int.toNat s2)).d) == (List.replicate (32 : Nat) (UInt8.ofNat (0 : Nat)))))) = false) : EvStep Try.prog cf 0 (lp Try.prog 54 0) (iCheck_L0_S l s0 s2) (iCheck_L0_S l s0 ((wr (s2 + (1 : Int))))) :=
  leafS vw_eq (k := 300) (r := []) (hs := hz [(1, [.yes]), (5, [.yes, .yes, .cells ((Ce.cells (ceAt l (Int.toNat s2))))]), (7, [.fres (.b (s5))]), (2, [.no]), (1, [.no]), (2, [.no]), (1, [.fres (.b (s7)), .no]), (1, [.no]), (1, [.no]), (1, [.no]), (2, [.no]), (1, [.no]), (1, [.yes]), (1, [.yes, .yes]), (1, [.yes]), (1, [.yes, .yes, .truth (((pad 32 (ceAt l (Int.toNat s2)).d) == (List.replicate (32 : Nat) (UInt8.ofNat (0 : Nat))))), .no, .yes, .no]), (1, [.no]), (2, [])]) (st1 := (St.mk [(0, (AV.sl (List.length l) (List.flatMap Ce.cells l))), (1, (AV.fn (38 : Nat) ([] : List AV))), (7, (AV.i (↑(List.length l) : Int))), (8, (AV.i (wr (s2 + (1 : Int))))), (9, (AV.b (decide (s2 < (↑(List.length l) : Int))))), (10, (AV.i s2)), (5, (AV.i s2)), (11, (AV.fn (38 : Nat) ([] : List AV))), (12, (AV.sl (List.length l) (List.flatMap Ce.cells l))), (13, (AV.i s2)), (14, (AV.ip (List.drop ((Int.toNat s2) * (34 : Nat)) (List.flatMap Ce.cells l)))), (15, (AV.ag (Ce.cells (ceAt l (Int.toNat s2))))), (16, (AV.b (!((pad 32 (ceAt l (Int.toNat s2)).d) == (List.replicate (32 : Nat) (UInt8.ofNat (0 : Nat))))))), (18, (AV.i (wr (s2 + (1 : Int)))))] 19 (AH.mk 1 [(0, (AObj.cells ((AV.i (ceAt l (Int.toNat s2)).kind) :: (AV.i (ceAt l (Int.toNat s2)).gen) :: (List.map AV.y (pad 32 (ceAt l (Int.toNat s2)).d)))))]) Bool.false)) (ps := [((decide (s2 < (↑(List.length l) : Int)))) = true, (((0 : Int) ≤ s2) ∧ (s2 < (↑(List.length l) : Int))), ((34 : Nat) ≤ (List.length (List.drop ((Int.toNat s2) * (34 : Nat)) (List.flatMap Ce.cells l)))), (List.take 34 (List.drop ((Int.toNat s2) * (34 : Nat)) (List.flatMap Ce.cells l))) = (Ce.cells (ceAt l (Int.toNat s2))), EvFr Try.prog cf Bool.false 36 [(AV.i (ceAt l (Int.toNat s2)).kind), (AV.i 0), (AV.i 2)] (.b (s5)), ((!s5)) = false, ((!s5)) = false, ((!s5)) = false, EvFr Try.prog cf Bool.false 36 [(AV.i (ceAt l (Int.toNat s2)).gen), (AV.i 0), (AV.i 2147483647)] (.b (s7)), ((!s5)) = false, ((!s5)) = false, ((!s7)) = false, ((!s7)) = false, ((!s7)) = false, ((!s7)) = false, (((ceAt l (Int.toNat s2)).kind != (2 : Int))) = true, (((ceAt l (Int.toNat s2)).kind != (2 : Int))) = true, ((34 : Nat) ≤ (List.length ((AV.i (ceAt l (Int.toNat s2)).kind) :: (AV.i (ceAt l (Int.toNat s2)).gen) :: (List.map AV.y (pad 32 (ceAt l (Int.toNat s2)).d))))), (((ceAt l (Int.toNat s2)).kind != (2 : Int))) = true, (((ceAt l (Int.toNat s2)).kind != (2 : Int))) = true, (((List.length (List.take 32 (List.map AV.y (pad 32 (ceAt l (Int.toNat s2)).d)))) = (32 : Nat)) ∧ ((32 : Nat) = (32 : Nat))), eqCells ((List.take 32 (List.map AV.y (pad 32 (ceAt l (Int.toNat s2)).d)))) ((List.replicate (32 : Nat) (AV.y (UInt8.ofNat (0 : Nat))))) = some (((pad 32 (ceAt l (Int.toNat s2)).d) == (List.replicate (32 : Nat) (UInt8.ofNat (0 : Nat))))), ((!s7)) = false, (((ceAt l (Int.toNat s2)).kind != (2 : Int))) = true, ((!s7)) = false, ((!((pad 32 (ceAt l (Int.toNat s2)).d) == (List.replicate (32 : Nat) (UInt8.ofNat (0 : Nat)))))) = false]) kq ⟨h3, h4, fq, (by first | exact ce_take _ _ bq | (simpa using ce_take _ _ bq) | ((try simp only [List.drop_drop]); rw [show ((Int.toNat s2) * (34 : Nat)) = ((Int.toNat s2)) * 34 by omega]; exact ce_take _ _ bq)), ((iWithin_ok ((ceAt l (Int.toNat s2)).kind) ((0 : Int)) ((2 : Int)) _ h5).any.cast tq), h6, h6, h6, ((iWithin_ok ((ceAt l (Int.toNat s2)).gen) ((0 : Int)) ((2147483647 : Int)) _ h7).any.cast tq), h6, h6, h8, h8, h8, h8, h9, h9, tq, h9, h9, tq, (eqCells_of tq tq tq), h8, h9, h8, h10, trivial⟩ (Nat.le_of_ble_eq_true rfl) (absB_of [] [] kq (.consn kq (.eqv tq rfl) (.consn kq (.fn .nil) (.consn kq (.eqv tq rfl) (.consn kq (.eqv tq rfl) .nil)))) .nil)
theorem iCheck_L0_s1 (l : List Ce) (s0 : Bool) (s2 : Int) (h3 : ((decide (s2 < (↑(List.length l) : Int)))) = true) (h3p : (s2 < (↑(List.length l) : Int))) (h4 : (((0 : Int) ≤ s2) ∧ (s2 < (↑(List.length l) : Int)))) (s5 : Bool) (h5 : iWithin ((ceAt l (Int.toNat s2)).kind) ((0 : Int)) ((2 : Int)) = some s5) (h6 : ((!s5)) = false) (s7 : Bool) (h7 : iWithin ((ceAt l (Int.toNat s2)).gen) ((0 : Int)) ((2147483647 : Int)) = some s7) (h8 : ((!s7)) = false) (h9 : (((ceAt l (Int.toNat s2)).kind != (2 : Int))) = false) (h9p : ((ceAt l (Int.toNat s2)).kind = (2 : Int))) : EvStep Try.prog cf 0 (lp Try.prog 54 0) (iCheck_L0_S l s0 s2) (iCheck_L0_S l s0 ((wr (s2 + (1 : Int))))) :=
  leafS vw_eq (k := 300) (r := []) (hs := hz [(1, [.yes]), (5, [.yes, .yes, .cells ((Ce.cells (ceAt l (Int.toNat s2))))]), (7, [.fres (.b (s5))]), (2, [.no]), (1, [.no]), (2, [.no]), (1, [.fres (.b (s7)), .no]), (1, [.no]), (1, [.no]), (1, [.no]), (2, [.no]), (1, [.no]), (1, [.no, .no, .no, .no, .no, .no, .no]), (4, [])]) (st1 := (St.mk [(0, (AV.sl (List.length l) (List.flatMap Ce.cells l))), (1, (AV.fn (38 : Nat) ([] : List AV))), (7, (AV.i (↑(List.length l) : Int))), (8, (AV.i (wr (s2 + (1 : Int))))), (9, (AV.b (decide (s2 < (↑(List.length l) : Int))))), (10, (AV.i s2)), (5, (AV.i s2)), (11, (AV.fn (38 : Nat) ([] : List AV))), (12, (AV.sl (List.length l) (List.flatMap Ce.cells l))), (13, (AV.i s2)), (14, (AV.ip (List.drop ((Int.toNat s2) * (34 : Nat)) (List.flatMap Ce.cells l)))), (15, (AV.ag (Ce.cells (ceAt l (Int.toNat s2))))), (16, (AV.b Bool.false)), (18, (AV.i (wr (s2 + (1 : Int)))))] 19 (AH.mk 1 [(0, (AObj.cells ((AV.i (ceAt l (Int.toNat s2)).kind) :: (AV.i (ceAt l (Int.toNat s2)).gen) :: (List.map AV.y (pad 32 (ceAt l (Int.toNat s2)).d)))))]) Bool.false)) (ps := [((decide (s2 < (↑(List.length l) : Int)))) = true, (((0 : Int) ≤ s2) ∧ (s2 < (↑(List.length l) : Int))), ((34 : Nat) ≤ (List.length (List.drop ((Int.toNat s2) * (34 : Nat)) (List.flatMap Ce.cells l)))), (List.take 34 (List.drop ((Int.toNat s2) * (34 : Nat)) (List.flatMap Ce.cells l))) = (Ce.cells (ceAt l (Int.toNat s2))), EvFr Try.prog cf Bool.false 36 [(AV.i (ceAt l (Int.toNat s2)).kind), (AV.i 0), (AV.i 2)] (.b (s5)), ((!s5)) = false, ((!s5)) = false, ((!s5)) = false, EvFr Try.prog cf Bool.false 36 [(AV.i (ceAt l (Int.toNat s2)).gen), (AV.i 0), (AV.i 2147483647)] (.b (s7)), ((!s5)) = false, ((!s5)) = false, ((!s7)) = false, ((!s7)) = false, ((!s7)) = false, ((!s7)) = false, (((ceAt l (Int.toNat s2)).kind != (2 : Int))) = false, (((ceAt l (Int.toNat s2)).kind != (2 : Int))) = false, (((ceAt l (Int.toNat s2)).kind != (2 : Int))) = false, (((ceAt l (Int.toNat s2)).kind != (2 : Int))) = false, ((!s7)) = false, (((ceAt l (Int.toNat s2)).kind != (2 : Int))) = false, ((!s7)) = false]) kq ⟨h3, h4, fq, (by first | exact ce_take _ _ bq | (simpa using ce_take _ _ bq) | ((try simp only [List.drop_drop]); rw [show ((Int.toNat s2) * (34 : Nat)) = ((Int.toNat s2)) * 34 by omega]; exact ce_take _ _ bq)), ((iWithin_ok ((ceAt l (Int.toNat s2)).kind) ((0 : Int)) ((2 : Int)) _ h5).any.cast tq), h6, h6, h6, ((iWithin_ok ((ceAt l (Int.toNat s2)).gen) ((0 : Int)) ((2147483647 : Int)) _ h7).any.cast tq), h6, h6, h8, h8, h8, h8, h9, h9, h9, h9, h8, h9, h8, trivial⟩ (Nat.le_of_ble_eq_true rfl) (absB_of [] [] kq (.consn kq (.eqv tq rfl) (.consn kq (.fn .nil) (.consn kq (.eqv tq rfl) (.consn kq (.eqv tq rfl) .nil)))) .nil)
theorem iCheck_L0_ok (l : List Ce) (s0 : Bool) (s2 zz : Int) : iCheck_L0_step l s0 s2 = some zz → EvStep Try.prog cf 0 (lp Try.prog 54 0) (iCheck_L0_S l s0 s2) (iCheck_L0_S l s0 zz) := by
  unfold iCheck_L0_step
  refine tb_ok (fun h3 => ?_) (fun h3 => ?_)
  ·
    have h3p := of_decide_eq_true h3
    refine tp_ok (fun h4 => ?_)
    refine tc_ok (fun s5 h5 => ?_)
    refine tb_ok (fun h6 => ?_) (fun h6 => ?_)
    ·
      exact fun e => nomatch e
    ·
      refine tc_ok (fun s7 h7 => ?_)
      refine tb_ok (fun h8 => ?_) (fun h8 => ?_)
      ·
        exact fun e => nomatch e
      ·
        refine tb_ok (fun h9 => ?_) (fun h9 => ?_)
        ·
          have h9p := bne_iff_ne.1 h9
          refine tb_ok (fun h10 => ?_) (fun h10 => ?_)
          ·
            exact fun e => nomatch e
          ·
            exact fun e => tl_ok (G := (fun zz => EvStep Try.prog cf 0 (lp Try.prog 54 0) (iCheck_L0_S l s0 s2) (iCheck_L0_S l s0 zz))) (iCheck_L0_s0 l s0 s2 h3 h3p h4 s5 h5 h6 s7 h7 h8 h9 h9p h10) e
        ·
          have h9p := bne_eq_false_iff_eq.1 h9
          exact fun e => tl_ok (G := (fun zz => EvStep Try.prog cf 0 (lp Try.prog 54 0) (iCheck_L0_S l s0 s2) (iCheck_L0_S l s0 zz))) (iCheck_L0_s1 l s0 s2 h3 h3p h4 s5 h5 h6 s7 h7 h8 h9 h9p) e
  ·
    have h3p := of_decide_eq_false h3
    exact fun e => nomatch e
/-- Function 17, as it answers. -/
noncomputable def iCheck (l : List Ce) : Option (Bool) :=
 (tc (iWithin ((↑(List.length l) : Int)) ((1 : Int)) ((64 : Int))) fun s0 =>
  (tb (s0)
   (th (iCheck_L0_step l s0) ((0 : Int)) fun s2 =>
    (tb ((decide (s2 < (↑(List.length l) : Int))))
     (tp ((((0 : Int) ≤ s2) ∧ (s2 < (↑(List.length l) : Int))))
      (tc (iWithin ((ceAt l (Int.toNat s2)).kind) ((0 : Int)) ((2 : Int))) fun s5 =>
       (tb ((!s5))
        (some ((!(decide (s2 ≥ (0 : Int))))))
        (tc (iWithin ((ceAt l (Int.toNat s2)).gen) ((0 : Int)) ((2147483647 : Int))) fun s7 =>
         (tb ((!s7))
          (some ((!(decide (s2 ≥ (0 : Int))))))
          (tb (((ceAt l (Int.toNat s2)).kind != (2 : Int)))
           (tb ((!((pad 32 (ceAt l (Int.toNat s2)).d) == (List.replicate (32 : Nat) (UInt8.ofNat (0 : Nat))))))
            (some ((!(decide (s2 ≥ (0 : Int))))))
            none /- stop behind an operation -/)
           none /- stop behind an operation -/))))))
     (some (Bool.true))))
   (some (Bool.false))))
abbrev iCheck_G (l : List Ce) (r : Bool) : Prop := EvFr Try.prog cf true 17 [ces (l)] (.b (r))
theorem iCheck_l0 (l : List Ce) (s0 : Bool) (h0 : iWithin ((↑(List.length l) : Int)) ((1 : Int)) ((64 : Int)) = some s0) (h1 : (s0) = true) (s2 : Int) (h2 : Runs (iCheck_L0_step l s0) ((0 : Int)) s2) (h3 : ((decide (s2 < (↑(List.length l) : Int)))) = true) (h3p : (s2 < (↑(List.length l) : Int))) (h4 : (((0 : Int) ≤ s2) ∧ (s2 < (↑(List.length l) : Int)))) (s5 : Bool) (h5 : iWithin ((ceAt l (Int.toNat s2)).kind) ((0 : Int)) ((2 : Int)) = some s5) (h6 : ((!s5)) = true) : iCheck_G l ((!(decide (s2 ≥ (0 : Int))))) :=
  leafR vw_eq (k := 300) (r := []) (hs := hz [(4, [.fres (.b (s0))]), (1, [.yes]), (1, [.yes]), (9, [.head (iCheck_L0_S l s0 s2)]), (1, [.yes]), (5, [.yes, .yes, .cells ((Ce.cells (ceAt l (Int.toNat s2))))]), (7, [.fres (.b (s5))]), (2, [.yes, .yes, .yes, .yes, .yes]), (13, [.yes]), (1, [.yes]), (1, [])]) (raw := (AV.b (!(decide (s2 ≥ (0 : Int)))))) (ps := [EvFr Try.prog cf Bool.false 36 [(AV.i (↑(List.length l) : Int)), (AV.i 1), (AV.i 64)] (.b (s0)), (s0) = true, (s0) = true, EvHead Try.prog cf (lp Try.prog 54 0) (iCheck_L0_I l s0) (iCheck_L0_S l s0 s2), ((decide (s2 < (↑(List.length l) : Int)))) = true, (((0 : Int) ≤ s2) ∧ (s2 < (↑(List.length l) : Int))), ((34 : Nat) ≤ (List.length (List.drop ((Int.toNat s2) * (34 : Nat)) (List.flatMap Ce.cells l)))), (List.take 34 (List.drop ((Int.toNat s2) * (34 : Nat)) (List.flatMap Ce.cells l))) = (Ce.cells (ceAt l (Int.toNat s2))), EvFr Try.prog cf Bool.false 36 [(AV.i (ceAt l (Int.toNat s2)).kind), (AV.i 0), (AV.i 2)] (.b (s5)), ((!s5)) = true, ((!s5)) = true, ((!s5)) = true, ((!s5)) = true, ((!s5)) = true, (s0) = true, (s0) = true]) kq ⟨((iWithin_ok ((↑(List.length l) : Int)) ((1 : Int)) ((64 : Int)) _ h0).any.cast tq), h1, h1, (EvHead.of (iCheck_L0_ok l s0) (absB_of [] [] kq (.consn kq (.eqv tq rfl) (.consn kq (.fn .nil) (.consn kq (.eqv tq rfl) (.consn kq (.eqv tq rfl) .nil)))) .nil) h2), h3, h4, fq, (by first | exact ce_take _ _ bq | (simpa using ce_take _ _ bq) | ((try simp only [List.drop_drop]); rw [show ((Int.toNat s2) * (34 : Nat)) = ((Int.toNat s2)) * 34 by omega]; exact ce_take _ _ bq)), ((iWithin_ok ((ceAt l (Int.toNat s2)).kind) ((0 : Int)) ((2 : Int)) _ h5).any.cast tq), h6, h6, h6, h6, h6, h1, h1, trivial⟩ tq
theorem iCheck_l1 (l : List Ce) (s0 : Bool) (h0 : iWithin ((↑(List.length l) : Int)) ((1 : Int)) ((64 : Int)) = some s0) (h1 : (s0) = true) (s2 : Int) (h2 : Runs (iCheck_L0_step l s0) ((0 : Int)) s2) (h3 : ((decide (s2 < (↑(List.length l) : Int)))) = true) (h3p : (s2 < (↑(List.length l) : Int))) (h4 : (((0 : Int) ≤ s2) ∧ (s2 < (↑(List.length l) : Int)))) (s5 : Bool) (h5 : iWithin ((ceAt l (Int.toNat s2)).kind) ((0 : Int)) ((2 : Int)) = some s5) (h6 : ((!s5)) = false) (s7 : Bool) (h7 : iWithin ((ceAt l (Int.toNat s2)).gen) ((0 : Int)) ((2147483647 : Int)) = some s7) (h8 : ((!s7)) = true) : iCheck_G l ((!(decide (s2 ≥ (0 : Int))))) :=
  leafR vw_eq (k := 300) (r := []) (hs := hz [(4, [.fres (.b (s0))]), (1, [.yes]), (1, [.yes]), (9, [.head (iCheck_L0_S l s0 s2)]), (1, [.yes]), (5, [.yes, .yes, .cells ((Ce.cells (ceAt l (Int.toNat s2))))]), (7, [.fres (.b (s5))]), (2, [.no]), (1, [.no]), (2, [.no]), (1, [.fres (.b (s7)), .no]), (1, [.no]), (1, [.yes, .yes, .yes, .yes, .yes, .yes]), (6, [.yes]), (1, [.yes]), (1, [])]) (raw := (AV.b (!(decide (s2 ≥ (0 : Int)))))) (ps := [EvFr Try.prog cf Bool.false 36 [(AV.i (↑(List.length l) : Int)), (AV.i 1), (AV.i 64)] (.b (s0)), (s0) = true, (s0) = true, EvHead Try.prog cf (lp Try.prog 54 0) (iCheck_L0_I l s0) (iCheck_L0_S l s0 s2), ((decide (s2 < (↑(List.length l) : Int)))) = true, (((0 : Int) ≤ s2) ∧ (s2 < (↑(List.length l) : Int))), ((34 : Nat) ≤ (List.length (List.drop ((Int.toNat s2) * (34 : Nat)) (List.flatMap Ce.cells l)))), (List.take 34 (List.drop ((Int.toNat s2) * (34 : Nat)) (List.flatMap Ce.cells l))) = (Ce.cells (ceAt l (Int.toNat s2))), EvFr Try.prog cf Bool.false 36 [(AV.i (ceAt l (Int.toNat s2)).kind), (AV.i 0), (AV.i 2)] (.b (s5)), ((!s5)) = false, ((!s5)) = false, ((!s5)) = false, EvFr Try.prog cf Bool.false 36 [(AV.i (ceAt l (Int.toNat s2)).gen), (AV.i 0), (AV.i 2147483647)] (.b (s7)), ((!s5)) = false, ((!s5)) = false, ((!s7)) = true, ((!s7)) = true, ((!s7)) = true, ((!s7)) = true, ((!s7)) = true, ((!s7)) = true, (s0) = true, (s0) = true]) kq ⟨((iWithin_ok ((↑(List.length l) : Int)) ((1 : Int)) ((64 : Int)) _ h0).any.cast tq), h1, h1, (EvHead.of (iCheck_L0_ok l s0) (absB_of [] [] kq (.consn kq (.eqv tq rfl) (.consn kq (.fn .nil) (.consn kq (.eqv tq rfl) (.consn kq (.eqv tq rfl) .nil)))) .nil) h2), h3, h4, fq, (by first | exact ce_take _ _ bq | (simpa using ce_take _ _ bq) | ((try simp only [List.drop_drop]); rw [show ((Int.toNat s2) * (34 : Nat)) = ((Int.toNat s2)) * 34 by omega]; exact ce_take _ _ bq)), ((iWithin_ok ((ceAt l (Int.toNat s2)).kind) ((0 : Int)) ((2 : Int)) _ h5).any.cast tq), h6, h6, h6, ((iWithin_ok ((ceAt l (Int.toNat s2)).gen) ((0 : Int)) ((2147483647 : Int)) _ h7).any.cast tq), h6, h6, h8, h8, h8, h8, h8, h8, h1, h1, trivial⟩ tq
theorem iCheck_l2 (l : List Ce) (s0 : Bool) (h0 : iWithin ((↑(List.length l) : Int)) ((1 : Int)) ((64 : Int)) = some s0) (h1 : (s0) = true) (s2 : Int) (h2 : Runs (iCheck_L0_step l s0) ((0 : Int)) s2) (h3 : ((decide (s2 < (↑(List.length l) : Int)))) = true) (h3p : (s2 < (↑(List.length l) : Int))) (h4 : (((0 : Int) ≤ s2) ∧ (s2 < (↑(List.length l) : Int)))) (s5 : Bool) (h5 : iWithin ((ceAt l (Int.toNat s2)).kind) ((0 : Int)) ((2 : Int)) = some s5) (h6 : ((!s5)) = false) (s7 : Bool) (h7 : iWithin ((ceAt l (Int.toNat s2)).gen) ((0 : Int)) ((2147483647 : Int)) = some s7) (h8 : ((!s7)) = false) (h9 : (((ceAt l (Int.toNat s2)).kind != (2 : Int))) = true) (h9p : ¬ ((ceAt l (Int.toNat s2)).kind = (2 : Int))) (h10 : ((!((pad 32 (ceAt l (Int.toNat s2)).d) == (List.replicate (32 : Nat) (UInt8.ofNat (0 : Nat)))))) = true) : iCheck_G l ((!(decide (s2 ≥ (0 : Int))))) :=
  leafR vw_eq (k := 300) (r := []) (hs := hz [(4, [.fres (.b (s0))]), (1, [.yes]), (1, [.yes]), (9, [.head (iCheck_L0_S l s0 s2)]), (1, [.yes]), (5, [.yes, .yes, .cells ((Ce.cells (ceAt l (Int.toNat s2))))]), (7, [.fres (.b (s5))]), (2, [.no]), (1, [.no]), (2, [.no]), (1, [.fres (.b (s7)), .no]), (1, [.no]), (1, [.no]), (1, [.no]), (2, [.no]), (1, [.no]), (1, [.yes]), (1, [.yes, .yes]), (1, [.yes]), (1, [.yes, .yes, .truth (((pad 32 (ceAt l (Int.toNat s2)).d) == (List.replicate (32 : Nat) (UInt8.ofNat (0 : Nat))))), .no, .yes, .no]), (1, [.yes]), (4, [.yes]), (1, [.yes]), (1, [])]) (raw := (AV.b (!(decide (s2 ≥ (0 : Int)))))) (ps := [EvFr Try.prog cf Bool.false 36 [(AV.i (↑(List.length l) : Int)), (AV.i 1), (AV.i 64)] (.b (s0)), (s0) = true, (s0) = true, EvHead Try.prog cf (lp Try.prog 54 0) (iCheck_L0_I l s0) (iCheck_L0_S l s0 s2), ((decide (s2 < (↑(List.length l) : Int)))) = true, (((0 : Int) ≤ s2) ∧ (s2 < (↑(List.length l) : Int))), ((34 : Nat) ≤ (List.length (List.drop ((Int.toNat s2) * (34 : Nat)) (List.flatMap Ce.cells l)))), (List.take 34 (List.drop ((Int.toNat s2) * (34 : Nat)) (List.flatMap Ce.cells l))) = (Ce.cells (ceAt l (Int.toNat s2))), EvFr Try.prog cf Bool.false 36 [(AV.i (ceAt l (Int.toNat s2)).kind), (AV.i 0), (AV.i 2)] (.b (s5)), ((!s5)) = false, ((!s5)) = false, ((!s5)) = false, EvFr Try.prog cf Bool.false 36 [(AV.i (ceAt l (Int.toNat s2)).gen), (AV.i 0), (AV.i 2147483647)] (.b (s7)), ((!s5)) = false, ((!s5)) = false, ((!s7)) = false, ((!s7)) = false, ((!s7)) = false, ((!s7)) = false, (((ceAt l (Int.toNat s2)).kind != (2 : Int))) = true, (((ceAt l (Int.toNat s2)).kind != (2 : Int))) = true, ((34 : Nat) ≤ (List.length ((AV.i (ceAt l (Int.toNat s2)).kind) :: (AV.i (ceAt l (Int.toNat s2)).gen) :: (List.map AV.y (pad 32 (ceAt l (Int.toNat s2)).d))))), (((ceAt l (Int.toNat s2)).kind != (2 : Int))) = true, (((ceAt l (Int.toNat s2)).kind != (2 : Int))) = true, (((List.length (List.take 32 (List.map AV.y (pad 32 (ceAt l (Int.toNat s2)).d)))) = (32 : Nat)) ∧ ((32 : Nat) = (32 : Nat))), eqCells ((List.take 32 (List.map AV.y (pad 32 (ceAt l (Int.toNat s2)).d)))) ((List.replicate (32 : Nat) (AV.y (UInt8.ofNat (0 : Nat))))) = some (((pad 32 (ceAt l (Int.toNat s2)).d) == (List.replicate (32 : Nat) (UInt8.ofNat (0 : Nat))))), ((!s7)) = false, (((ceAt l (Int.toNat s2)).kind != (2 : Int))) = true, ((!s7)) = false, ((!((pad 32 (ceAt l (Int.toNat s2)).d) == (List.replicate (32 : Nat) (UInt8.ofNat (0 : Nat)))))) = true, (s0) = true, (s0) = true]) kq ⟨((iWithin_ok ((↑(List.length l) : Int)) ((1 : Int)) ((64 : Int)) _ h0).any.cast tq), h1, h1, (EvHead.of (iCheck_L0_ok l s0) (absB_of [] [] kq (.consn kq (.eqv tq rfl) (.consn kq (.fn .nil) (.consn kq (.eqv tq rfl) (.consn kq (.eqv tq rfl) .nil)))) .nil) h2), h3, h4, fq, (by first | exact ce_take _ _ bq | (simpa using ce_take _ _ bq) | ((try simp only [List.drop_drop]); rw [show ((Int.toNat s2) * (34 : Nat)) = ((Int.toNat s2)) * 34 by omega]; exact ce_take _ _ bq)), ((iWithin_ok ((ceAt l (Int.toNat s2)).kind) ((0 : Int)) ((2 : Int)) _ h5).any.cast tq), h6, h6, h6, ((iWithin_ok ((ceAt l (Int.toNat s2)).gen) ((0 : Int)) ((2147483647 : Int)) _ h7).any.cast tq), h6, h6, h8, h8, h8, h8, h9, h9, tq, h9, h9, tq, (eqCells_of tq tq tq), h8, h9, h8, h10, h1, h1, trivial⟩ tq
theorem iCheck_l3 (l : List Ce) (s0 : Bool) (h0 : iWithin ((↑(List.length l) : Int)) ((1 : Int)) ((64 : Int)) = some s0) (h1 : (s0) = true) (s2 : Int) (h2 : Runs (iCheck_L0_step l s0) ((0 : Int)) s2) (h3 : ((decide (s2 < (↑(List.length l) : Int)))) = false) (h3p : ¬ (s2 < (↑(List.length l) : Int))) : iCheck_G l (Bool.true) :=
  leafR vw_eq (k := 300) (r := []) (hs := hz [(4, [.fres (.b (s0))]), (1, [.yes]), (1, [.yes]), (9, [.head (iCheck_L0_S l s0 s2)]), (1, [.no]), (3, [.yes]), (1, [.yes]), (1, [])]) (raw := (AV.b Bool.true)) (ps := [EvFr Try.prog cf Bool.false 36 [(AV.i (↑(List.length l) : Int)), (AV.i 1), (AV.i 64)] (.b (s0)), (s0) = true, (s0) = true, EvHead Try.prog cf (lp Try.prog 54 0) (iCheck_L0_I l s0) (iCheck_L0_S l s0 s2), ((decide (s2 < (↑(List.length l) : Int)))) = false, (s0) = true, (s0) = true]) kq ⟨((iWithin_ok ((↑(List.length l) : Int)) ((1 : Int)) ((64 : Int)) _ h0).any.cast tq), h1, h1, (EvHead.of (iCheck_L0_ok l s0) (absB_of [] [] kq (.consn kq (.eqv tq rfl) (.consn kq (.fn .nil) (.consn kq (.eqv tq rfl) (.consn kq (.eqv tq rfl) .nil)))) .nil) h2), h3, h1, h1, trivial⟩ tq
theorem iCheck_l4 (l : List Ce) (s0 : Bool) (h0 : iWithin ((↑(List.length l) : Int)) ((1 : Int)) ((64 : Int)) = some s0) (h1 : (s0) = false) : iCheck_G l (Bool.false) :=
  leafR vw_eq (k := 300) (r := []) (hs := hz [(4, [.fres (.b (s0))]), (1, [.no, .no, .no, .no]), (1, [])]) (raw := (AV.b Bool.false)) (ps := [EvFr Try.prog cf Bool.false 36 [(AV.i (↑(List.length l) : Int)), (AV.i 1), (AV.i 64)] (.b (s0)), (s0) = false, (s0) = false, (s0) = false, (s0) = false]) kq ⟨((iWithin_ok ((↑(List.length l) : Int)) ((1 : Int)) ((64 : Int)) _ h0).any.cast tq), h1, h1, h1, h1, trivial⟩ tq
theorem iCheck_ok (l : List Ce) (r : Bool) : iCheck l = some r → iCheck_G l r := by
  unfold iCheck
  refine tc_ok (fun s0 h0 => ?_)
  refine tb_ok (fun h1 => ?_) (fun h1 => ?_)
  ·
    refine th_ok (fun s2 h2 => ?_)
    refine tb_ok (fun h3 => ?_) (fun h3 => ?_)
    ·
      have h3p := of_decide_eq_true h3
      refine tp_ok (fun h4 => ?_)
      refine tc_ok (fun s5 h5 => ?_)
      refine tb_ok (fun h6 => ?_) (fun h6 => ?_)
      ·
        exact fun e => tl_ok (G := iCheck_G l) (iCheck_l0 l s0 h0 h1 s2 h2 h3 h3p h4 s5 h5 h6) e
      ·
        refine tc_ok (fun s7 h7 => ?_)
        refine tb_ok (fun h8 => ?_) (fun h8 => ?_)
        ·
          exact fun e => tl_ok (G := iCheck_G l) (iCheck_l1 l s0 h0 h1 s2 h2 h3 h3p h4 s5 h5 h6 s7 h7 h8) e
        ·
          refine tb_ok (fun h9 => ?_) (fun h9 => ?_)
          ·
            have h9p := bne_iff_ne.1 h9
            refine tb_ok (fun h10 => ?_) (fun h10 => ?_)
            ·
              exact fun e => tl_ok (G := iCheck_G l) (iCheck_l2 l s0 h0 h1 s2 h2 h3 h3p h4 s5 h5 h6 s7 h7 h8 h9 h9p h10) e
            ·
              exact fun e => nomatch e
          ·
            have h9p := bne_eq_false_iff_eq.1 h9
            exact fun e => nomatch e
    ·
      have h3p := of_decide_eq_false h3
      exact fun e => tl_ok (G := iCheck_G l) (iCheck_l3 l s0 h0 h1 s2 h2 h3 h3p) e
  ·
    exact fun e => tl_ok (G := iCheck_G l) (iCheck_l4 l s0 h0 h1) e
end Ab
end Go.Proofs.Ytadipihpgcelmaa
namespace Go.Proofs.Ytadipihpgcelmaa
open Go Go.Proofs.Ytadipihpgcelmaa.Ab
set_option linter.unusedVariables false
set_option linter.unusedSimpArgs false
namespace Ab
theorem u8z : UInt8.ofNat 0 = 0 := rfl
theorem ceAt_one (c : Ce) : ceAt [c] 0 = c := rfl
theorem tb_lb {α : Type} (a b : List UInt8) (x y : Option α) : tb (a == b) x y = if a = b then x else y := by
  by_cases h : a = b
  · rw [if_pos h]; exact tb_pos (beq_iff_eq.2 h)
  · rw [if_neg h]; exact tb_neg (beq_eq_false_iff_ne.2 h)
theorem iWithin_eq (n lo hi : Int) : iWithin n lo hi = some (decide (lo ≤ n ∧ n ≤ hi)) := by
  unfold iWithin
  rw [tb_dec]
  by_cases h : n ≥ lo
  · rw [if_pos h]; congr 1; exact decide_eq_decide.2 ⟨fun q => ⟨h, q⟩, fun q => q.2⟩
  · rw [if_neg h]; congr 1; symm; rw [decide_eq_false_iff_not]; exact fun q => h q.1
theorem key_i (c : Ce) {α : Type} (x y : Option α) : (if 0 ≤ c.kind ∧ c.kind ≤ 2 then (if 0 ≤ c.gen ∧ c.gen ≤ 2147483647 then (if c.kind = 2 then x else if pad 32 c.d = List.replicate 32 0 then x else y) else y) else y) = if CkC c then x else y := by
  by_cases h1 : 0 ≤ c.kind ∧ c.kind ≤ 2
  case neg => rw [if_neg h1, if_neg fun q : CkC c => h1 ⟨q.1, q.2.1⟩]
  by_cases h2 : 0 ≤ c.gen ∧ c.gen ≤ 2147483647
  case neg => rw [if_pos h1, if_neg h2, if_neg fun q : CkC c => h2 ⟨q.2.2.1, q.2.2.2.1⟩]
  rw [if_pos h1, if_pos h2]
  by_cases h3 : c.kind = 2
  · rw [if_pos h3, if_pos (show CkC c from ⟨h1.1, h1.2, h2.1, h2.2, fun q => absurd h3 q⟩)]
  rw [if_neg h3]
  by_cases h4 : pad 32 c.d = List.replicate 32 0
  · rw [if_pos h4, if_pos (show CkC c from ⟨h1.1, h1.2, h2.1, h2.2, fun _ => h4⟩)]
  · rw [if_neg h4, if_neg fun q : CkC c => h4 (q.2.2.2.2 h3)]
theorem iCheck_eq (l : List Ce) (hl : l.length ≤ 4294967296) : iCheck l = some (decide (CkI l)) := by
  unfold iCheck
  rw [iWithin_eq, tc_some, tb_dec]
  by_cases h1 : (1 : Int) ≤ l.length ∧ (l.length : Int) ≤ 64
  case neg => rw [if_neg h1]; congr 1; symm; rw [decide_eq_false_iff_not]; rintro ⟨q1, q2, _⟩; exact h1 (by omega)
  rw [if_pos h1]
  rw [th_all (some false) (some true) l.length (fun i => CkC (ceAt l i)) (∀ c ∈ l, CkC c) (ceAt_all l CkC)]
  · by_cases h : ∀ c ∈ l, CkC c
    · rw [if_pos h]; congr 1; symm; rw [decide_eq_true_iff]; exact ⟨by omega, by omega, h⟩
    · rw [if_neg h]; congr 1; symm; rw [decide_eq_false_iff_not]; exact fun q => h q.2.2
  · intro i hi hp
    unfold iCheck_L0_step
    simp only [iWithin_eq, tc_some, tb_not, tb_dec, tb_bne, tb_lb, u8z, ceAt_one, Int.toNat_natCast]
    rw [if_pos (by omega), tp_pos (by omega), key_i, if_pos hp, wr_id (by omega) (by omega)]
  · intro i hi hp
    unfold iCheck_L0_step
    simp only [iWithin_eq, tc_some, tb_not, tb_dec, tb_bne, tb_lb, u8z, ceAt_one, Int.toNat_natCast]
    refine ⟨by rw [if_pos (by omega), tp_pos (by omega), key_i, if_neg hp], ?_⟩
    rw [if_pos (by omega), tp_pos (by omega), key_i, if_neg hp, decide_eq_true (by omega)]; rfl
  · unfold iCheck_L0_step
    simp only [tb_dec]
    rw [if_neg (by omega), if_neg (by omega)]
    exact ⟨rfl, rfl⟩
theorem all_eq {α β : Type} (d : α) (f : α → β) (a b : List α) (h : a.length = b.length) : (∀ i, i < a.length → f (a.getD i d) = f (b.getD i d)) ↔ a.map f = b.map f := by
  constructor
  · intro g
    refine List.ext_getElem (by simp [h]) fun i h1 h2 => ?_
    simp only [List.length_map] at h1 h2
    have := g i h1
    simp only [List.getElem_map]
    simpa [h1, h2] using this
  · intro g i hi
    have : (a.map f)[i]? = (b.map f)[i]? := by rw [g]
    rw [List.getElem?_map, List.getElem?_map, List.getElem?_eq_getElem hi, List.getElem?_eq_getElem (by omega)] at this
    simp only [Option.map_some, Option.some.injEq] at this
    simp only [List.getD_eq_getElem?_getD, List.getElem?_eq_getElem hi, List.getElem?_eq_getElem (show i < b.length by omega), Option.getD_some]
    exact this
/-- What two blocks that are alike have. -/
def al (c : Ce) : Int × List UInt8 := (c.kind, pad 32 c.d)
/-- Are so many blocks there? -/
def Fits (l : List Ce) (lba n : Int) : Prop := 0 ≤ lba ∧ lba ≤ l.length ∧ 1 ≤ n ∧ n ≤ l.length - lba
instance (l : List Ce) (lba n : Int) : Decidable (Fits l lba n) := by unfold Fits; infer_instance
end Ab
end Go.Proofs.Ytadipihpgcelmaa
namespace Go.Proofs.Ytadipihpgcelmaa
open Go Go.Proofs.Ytadipihpgcelmaa.Ab
set_option linter.unusedVariables false
set_option linter.unusedSimpArgs false
set_option maxRecDepth 1000000
namespace Ab
noncomputable abbrev iFill_L0_I (l : List Ce) (lba : Int) (n : Int) (kind : Int) (gen : Int) (s0 : Bool) (s2 : Bool) (s3 : Bool) (s8 : Bool) (s10 : Bool) : St := (St.mk [(0, (AV.sl (List.length l) (List.flatMap Ce.cells l))), (1, (AV.i lba)), (2, (AV.i n)), (3, (AV.b s2)), (4, (AV.fn (42 : Nat) [(AV.pt 0 0), (AV.pt 1 0)])), (10, AV.nl), (11, (AV.i 0)), (14, (AV.sl (List.length l) (List.flatMap Ce.cells l))), (15, (AV.b s3)), (16, (AV.b (!s3))), (17, (AV.sl (List.length l) (List.flatMap Ce.cells l))), (18, (AV.rf 2 34 0 (List.length l))), (12, (AV.rf 2 34 0 (List.length l))), (19, (AV.b s2)), (20, (AV.b (!s2))), (21, (AV.b (!s2))), (22, (AV.i lba)), (23, (AV.sl (List.length l) (List.flatMap Ce.cells l))), (24, (AV.i (↑(List.length l) : Int))), (25, (AV.b s8)), (26, (AV.b (!s8))), (27, (AV.b (!s8))), (28, (AV.b (!s8))), (29, (AV.i n)), (30, (AV.sl (List.length l) (List.flatMap Ce.cells l))), (31, (AV.i (↑(List.length l) : Int))), (32, (AV.i lba)), (33, (AV.i (wr ((↑(List.length l) : Int) - lba)))), (34, (AV.b s10)), (35, (AV.b (!s10))), (36, (AV.b (!s10))), (38, (AV.i n)), (39, (AV.i 0))] 52 (AH.mk 3 [(2, (AObj.cells (List.flatMap Ce.cells l))), (1, (AObj.cells [(AV.i gen)])), (0, (AObj.cells [(AV.i kind)]))]) Bool.false)
noncomputable abbrev iFill_L0_S (l : List Ce) (lba : Int) (n : Int) (kind : Int) (gen : Int) (s0 : Bool) (s2 : Bool) (s3 : Bool) (s8 : Bool) (s10 : Bool) (s12 : Int × List Ce) : St := (St.mk [(0, (AV.sl (List.length l) (List.flatMap Ce.cells l))), (1, (AV.i lba)), (2, (AV.i n)), (3, (AV.b s2)), (4, (AV.fn (42 : Nat) [(AV.pt 0 0), (AV.pt 1 0)])), (10, AV.nl), (11, (AV.i 0)), (16, (AV.b (!s3))), (12, (AV.rf 2 34 0 (List.length l))), (36, (AV.b (!s10))), (38, (AV.i n)), (39, (AV.i s12.1))] 52 (AH.mk 3 [(2, (AObj.cells (List.flatMap Ce.cells s12.2))), (1, (AObj.cells [(AV.i gen)])), (0, (AObj.cells [(AV.i kind)]))]) Bool.false)
noncomputable def iFill_L0_step (l : List Ce) (lba : Int) (n : Int) (kind : Int) (gen : Int) (s0 : Bool) (s2 : Bool) (s3 : Bool) (s8 : Bool) (s10 : Bool) (s12 : Int × List Ce) : Option (Int × List Ce) :=
 (tb ((decide (s12.1 < n)))
  (tp ((((0 : Int) ≤ (wr (lba + s12.1))) ∧ ((wr (lba + s12.1)) < (↑(List.length l) : Int))))
   (tp ((((List.length ((AV.i kind) :: (AV.i gen) :: List.replicate (32 : Nat) (AV.y (UInt8.ofNat (0 : Nat))))) = (34 : Nat)) ∧ ((((0 : Nat) + ((Int.toNat (wr (lba + s12.1))) * (34 : Nat))) + (List.length ((AV.i kind) :: (AV.i gen) :: List.replicate (32 : Nat) (AV.y (UInt8.ofNat (0 : Nat)))))) ≤ (List.length (List.flatMap Ce.cells s12.2)))))
    (some (((wr (s12.1 + (1 : Int))), (List.set s12.2 (Int.toNat (wr (lba + s12.1))) (Ce.mk kind gen (List.replicate (32 : Nat) (UInt8.ofNat (0 : Nat))))))))))
  none /- exit -/)
theorem iFill_L0_s0 (l : List Ce) (lba : Int) (n : Int) (kind : Int) (gen : Int) (s0 : Bool) (s2 : Bool) (s3 : Bool) (s8 : Bool) (s10 : Bool) (s12 : Int × List Ce) (h13 : ((decide (s12.1 < n))) = true) (h13p : (s12.1 < n)) (h14 : (((0 : Int) ≤ (wr (lba + s12.1))) ∧ ((wr (lba + s12.1)) < (↑(List.length l) : Int)))) (h15 : (((List.length ((AV.i kind) :: (AV.i gen) :: List.replicate (32 : Nat) (AV.y (UInt8.ofNat (0 : Nat))))) = (34 : Nat)) ∧ ((((0 : Nat) + ((Int.toNat (wr (lba + s12.1))) * (34 : Nat))) + (List.length ((AV.i kind) :: (AV.i gen) :: List.replicate (32 : Nat) (AV.y (UInt8.ofNat (0 : Nat)))))) ≤ (List.length (List.flatMap Ce.cells s12.2))))) : EvStep Try.prog cf 3 (lp Try.prog 41 0) (iFill_L0_S l lba n kind gen s0 s2 s3 s8 s10 s12) (iFill_L0_S l lba n kind gen s0 s2 s3 s8 s10 (((wr (s12.1 + (1 : Int))), (List.set s12.2 (Int.toNat (wr (lba + s12.1))) (Ce.mk kind gen (List.replicate (32 : Nat) (UInt8.ofNat (0 : Nat)))))))) :=
  leafS vw_eq (k := 300) (r := []) (hs := hz [(1, [.yes]), (16, [.cells (((AV.i kind) :: (AV.i gen) :: List.replicate (32 : Nat) (AV.y (UInt8.ofNat (0 : Nat)))))]), (1, [.cells (((AV.i kind) :: (AV.i gen) :: List.replicate (32 : Nat) (AV.y (UInt8.ofNat (0 : Nat))))), .yes, .yes, .cells ((List.flatMap Ce.cells (List.set s12.2 (Int.toNat (wr (lba + s12.1))) (Ce.mk kind gen (List.replicate (32 : Nat) (UInt8.ofNat (0 : Nat)))))))]), (2, [])]) (st1 := (St.mk [(0, (AV.sl (List.length l) (List.flatMap Ce.cells l))), (1, (AV.i lba)), (2, (AV.i n)), (3, (AV.b s2)), (4, (AV.fn (42 : Nat) [(AV.pt 0 0), (AV.pt 1 0)])), (10, AV.nl), (11, (AV.i 0)), (16, (AV.b (!s3))), (12, (AV.rf 2 34 0 (List.length l))), (36, (AV.b (!s10))), (38, (AV.i n)), (39, (AV.i (wr (s12.1 + (1 : Int))))), (40, (AV.b (decide (s12.1 < n)))), (41, (AV.i s12.1)), (13, (AV.i s12.1)), (42, (AV.rf 2 34 0 (List.length l))), (43, (AV.i lba)), (44, (AV.i s12.1)), (45, (AV.i (wr (lba + s12.1)))), (46, (AV.fn (42 : Nat) [(AV.pt 0 0), (AV.pt 1 0)])), (47, (AV.i s12.1)), (48, (AV.ag ((AV.i kind) :: (AV.i gen) :: List.replicate (32 : Nat) (AV.y (UInt8.ofNat (0 : Nat)))))), (49, (AV.pt 2 ((0 : Nat) + ((Int.toNat (wr (lba + s12.1))) * (34 : Nat))))), (50, (AV.i (wr (s12.1 + (1 : Int)))))] 52 (AH.mk 4 [(3, (AObj.cells ((AV.i kind) :: (AV.i gen) :: List.replicate (32 : Nat) (AV.y (UInt8.ofNat (0 : Nat)))))), (2, (AObj.cells (List.flatMap Ce.cells (List.set s12.2 (Int.toNat (wr (lba + s12.1))) (Ce.mk kind gen (List.replicate (32 : Nat) (UInt8.ofNat (0 : Nat)))))))), (1, (AObj.cells [(AV.i gen)])), (0, (AObj.cells [(AV.i kind)]))]) Bool.false)) (ps := [((decide (s12.1 < n))) = true, (((AV.i kind) :: (AV.i gen) :: List.replicate (32 : Nat) (AV.y (UInt8.ofNat (0 : Nat)))) : List AV) = ((AV.i kind) :: (AV.i gen) :: List.replicate (32 : Nat) (AV.y (UInt8.ofNat (0 : Nat)))), (((AV.i kind) :: (AV.i gen) :: List.replicate (32 : Nat) (AV.y (UInt8.ofNat (0 : Nat)))) : List AV) = ((AV.i kind) :: (AV.i gen) :: List.replicate (32 : Nat) (AV.y (UInt8.ofNat (0 : Nat)))), (((0 : Int) ≤ (wr (lba + s12.1))) ∧ ((wr (lba + s12.1)) < (↑(List.length l) : Int))), (((List.length ((AV.i kind) :: (AV.i gen) :: List.replicate (32 : Nat) (AV.y (UInt8.ofNat (0 : Nat))))) = (34 : Nat)) ∧ ((((0 : Nat) + ((Int.toNat (wr (lba + s12.1))) * (34 : Nat))) + (List.length ((AV.i kind) :: (AV.i gen) :: List.replicate (32 : Nat) (AV.y (UInt8.ofNat (0 : Nat)))))) ≤ (List.length (List.flatMap Ce.cells s12.2)))), (((List.take ((0 : Nat) + ((Int.toNat (wr (lba + s12.1))) * (34 : Nat))) (List.flatMap Ce.cells s12.2)) ++ ((AV.i kind) :: (AV.i gen) :: List.replicate (32 : Nat) (AV.y (UInt8.ofNat (0 : Nat))))) ++ (List.drop (((0 : Nat) + ((Int.toNat (wr (lba + s12.1))) * (34 : Nat))) + (List.length ((AV.i kind) :: (AV.i gen) :: List.replicate (32 : Nat) (AV.y (UInt8.ofNat (0 : Nat)))))) (List.flatMap Ce.cells s12.2))) = (List.flatMap Ce.cells (List.set s12.2 (Int.toNat (wr (lba + s12.1))) (Ce.mk kind gen (List.replicate (32 : Nat) (UInt8.ofNat (0 : Nat))))))]) kq ⟨h13, rfl, rfl, h14, h15, (by rw [show ((0 : Nat) + ((Int.toNat (wr (lba + s12.1))) * (34 : Nat))) = ((Int.toNat (wr (lba + s12.1)))) * 34 by omega]; exact ce_setE _ _ ((Ce.mk kind gen (List.replicate (32 : Nat) (UInt8.ofNat (0 : Nat))))) bq tq), trivial⟩ (Nat.le_of_ble_eq_true rfl) (absB_of [] [] kq (.consn kq (.eqv tq rfl) (.consn kq (.eqv tq rfl) (.consn kq (.eqv tq rfl) (.consn kq (.eqv tq rfl) (.consn kq (.fn (.cons (.pt rfl) (.cons (.pt rfl) .nil))) (.consn kq .nl0 (.consn kq (.eqv tq rfl) (.consn kq (.eqv tq rfl) (.consn kq (.rf rfl) (.consn kq (.eqv tq rfl) (.consn kq (.eqv tq rfl) (.consn kq (.eqv tq rfl) .nil)))))))))))) (.cons (.old rfl rfl (.cells (.pl tq pq))) (.cons (.old rfl rfl (.cells (.cons (.eqv tq rfl) .nil))) (.cons (.old rfl rfl (.cells (.cons (.eqv tq rfl) .nil))) .nil))))
theorem iFill_L0_ok (l : List Ce) (lba : Int) (n : Int) (kind : Int) (gen : Int) (s0 : Bool) (s2 : Bool) (s3 : Bool) (s8 : Bool) (s10 : Bool) (s12 zz : Int × List Ce) : iFill_L0_step l lba n kind gen s0 s2 s3 s8 s10 s12 = some zz → EvStep Try.prog cf 3 (lp Try.prog 41 0) (iFill_L0_S l lba n kind gen s0 s2 s3 s8 s10 s12) (iFill_L0_S l lba n kind gen s0 s2 s3 s8 s10 zz) := by
  unfold iFill_L0_step
  refine tb_ok (fun h13 => ?_) (fun h13 => ?_)
  ·
    have h13p := of_decide_eq_true h13
    refine tp_ok (fun h14 => ?_)
    refine tp_ok (fun h15 => ?_)
    exact fun e => tl_ok (G := (fun zz => EvStep Try.prog cf 3 (lp Try.prog 41 0) (iFill_L0_S l lba n kind gen s0 s2 s3 s8 s10 s12) (iFill_L0_S l lba n kind gen s0 s2 s3 s8 s10 zz))) (iFill_L0_s0 l lba n kind gen s0 s2 s3 s8 s10 s12 h13 h13p h14 h15) e
  ·
    have h13p := of_decide_eq_false h13
    exact fun e => nomatch e
/-- Function 21, as it answers. -/
noncomputable def iFill (l : List Ce) (lba : Int) (n : Int) (kind : Int) (gen : Int) : Option (List Ce × Int) :=
 (tc (iWithin (kind) ((0 : Int)) ((1 : Int))) fun s0 =>
  (tb (s0)
   (tc (iWithin (gen) ((0 : Int)) ((2147483647 : Int))) fun s2 =>
    (tc (iCheck (l)) fun s3 =>
     (tb ((!s3))
      (some ((([] : List Ce), (90 : Int))))
      (tp (((List.length (List.flatMap Ce.cells l)) = ((List.length l) * (34 : Nat))))
       (tp (((List.length l) ≤ (4294967296 : Nat)))
        (tb ((!s2))
         (tp ((((0 : Nat) = (0 : Nat)) ∧ ((List.length (List.flatMap Ce.cells l)) = ((List.length l) * (34 : Nat)))))
          (some ((l, (81 : Int)))))
         (tc (iWithin (lba) ((0 : Int)) ((↑(List.length l) : Int))) fun s8 =>
          (tb ((!s8))
           (tp ((((0 : Nat) = (0 : Nat)) ∧ ((List.length (List.flatMap Ce.cells l)) = ((List.length l) * (34 : Nat)))))
            (some ((l, (81 : Int)))))
           (tc (iWithin (n) ((1 : Int)) ((wr ((↑(List.length l) : Int) - lba)))) fun s10 =>
            (tb ((!s10))
             (tp ((((0 : Nat) = (0 : Nat)) ∧ ((List.length (List.flatMap Ce.cells l)) = ((List.length l) * (34 : Nat)))))
              (some ((l, (81 : Int)))))
             (th (iFill_L0_step l lba n kind gen s0 s2 s3 s8 s10) (((0 : Int), l)) fun s12 =>
              (tb ((decide (s12.1 < n)))
               none /- stop behind an operation -/
               (tp ((((0 : Nat) = (0 : Nat)) ∧ ((List.length (List.flatMap Ce.cells s12.2)) = ((List.length l) * (34 : Nat)))))
                (some ((s12.2, (0 : Int)))))))))))))))))
   (tc (iCheck (l)) fun s2 =>
    (tb ((!s2))
     (some ((([] : List Ce), (90 : Int))))
     (tp (((List.length (List.flatMap Ce.cells l)) = ((List.length l) * (34 : Nat))))
      (tp (((List.length l) ≤ (4294967296 : Nat)))
       (tp ((((0 : Nat) = (0 : Nat)) ∧ ((List.length (List.flatMap Ce.cells l)) = ((List.length l) * (34 : Nat)))))
        (some ((l, (81 : Int)))))))))))
abbrev iFill_G (l : List Ce) (lba : Int) (n : Int) (kind : Int) (gen : Int) (r : List Ce × Int) : Prop := EvFr Try.prog cf true 21 [ces (l), .i (lba), .i (n), .i (kind), .i (gen)] (.tu [ces (r.1), .i (r.2)])
theorem iFill_l0 (l : List Ce) (lba : Int) (n : Int) (kind : Int) (gen : Int) (s0 : Bool) (h0 : iWithin (kind) ((0 : Int)) ((1 : Int)) = some s0) (h1 : (s0) = true) (s2 : Bool) (h2 : iWithin (gen) ((0 : Int)) ((2147483647 : Int)) = some s2) (s3 : Bool) (h3 : iCheck (l) = some s3) (h4 : ((!s3)) = true) : iFill_G l lba n kind gen ((([] : List Ce), (90 : Int))) :=
  leafR vw_eq (k := 300) (r := []) (hs := hz [(10, [.fres (.b (s0))]), (1, [.yes]), (2, [.yes]), (1, [.fres (.b (s2)), .yes]), (6, [.fres (.b (s3))]), (1, [.yes]), (6, [])]) (raw := (AV.tu [(AV.sl 0 ([] : List AV)), (AV.i 90)])) (ps := [EvFr Try.prog cf Bool.false 36 [(AV.i kind), (AV.i 0), (AV.i 1)] (.b (s0)), (s0) = true, (s0) = true, EvFr Try.prog cf Bool.false 36 [(AV.i gen), (AV.i 0), (AV.i 2147483647)] (.b (s2)), (s0) = true, EvFr Try.prog cf Bool.false 17 [(AV.sl (List.length l) (List.flatMap Ce.cells l))] (.b (s3)), ((!s3)) = true]) kq ⟨((iWithin_ok (kind) ((0 : Int)) ((1 : Int)) _ h0).any.cast tq), h1, h1, ((iWithin_ok (gen) ((0 : Int)) ((2147483647 : Int)) _ h2).any.cast tq), h1, ((iCheck_ok (l) _ h3).any.cast tq), h4, trivial⟩ tq
theorem iFill_l1 (l : List Ce) (lba : Int) (n : Int) (kind : Int) (gen : Int) (s0 : Bool) (h0 : iWithin (kind) ((0 : Int)) ((1 : Int)) = some s0) (h1 : (s0) = true) (s2 : Bool) (h2 : iWithin (gen) ((0 : Int)) ((2147483647 : Int)) = some s2) (s3 : Bool) (h3 : iCheck (l) = some s3) (h4 : ((!s3)) = false) (h5 : ((List.length (List.flatMap Ce.cells l)) = ((List.length l) * (34 : Nat)))) (h6 : ((List.length l) ≤ (4294967296 : Nat))) (h7 : ((!s2)) = true) (h8 : (((0 : Nat) = (0 : Nat)) ∧ ((List.length (List.flatMap Ce.cells l)) = ((List.length l) * (34 : Nat))))) : iFill_G l lba n kind gen ((l, (81 : Int))) :=
  leafR vw_eq (k := 300) (r := []) (hs := hz [(10, [.fres (.b (s0))]), (1, [.yes]), (2, [.yes]), (1, [.fres (.b (s2)), .yes]), (6, [.fres (.b (s3))]), (1, [.no]), (2, [.yes, .yes]), (4, [.yes, .yes, .yes, .yes, .yes, .yes]), (17, [.yes, .yes])]) (raw := (AV.tu [(AV.sl (List.length l) (List.flatMap Ce.cells l)), (AV.i 81)])) (ps := [EvFr Try.prog cf Bool.false 36 [(AV.i kind), (AV.i 0), (AV.i 1)] (.b (s0)), (s0) = true, (s0) = true, EvFr Try.prog cf Bool.false 36 [(AV.i gen), (AV.i 0), (AV.i 2147483647)] (.b (s2)), (s0) = true, EvFr Try.prog cf Bool.false 17 [(AV.sl (List.length l) (List.flatMap Ce.cells l))] (.b (s3)), ((!s3)) = false, ((List.length (List.flatMap Ce.cells l)) = ((List.length l) * (34 : Nat))), ((List.length l) ≤ (4294967296 : Nat)), ((!s2)) = true, ((!s2)) = true, ((!s2)) = true, ((!s2)) = true, ((!s2)) = true, ((!s2)) = true, (((0 : Nat) = (0 : Nat)) ∧ ((List.length (List.flatMap Ce.cells l)) = ((List.length l) * (34 : Nat)))), Pl Bool.true ((List.flatMap Ce.cells l))]) kq ⟨((iWithin_ok (kind) ((0 : Int)) ((1 : Int)) _ h0).any.cast tq), h1, h1, ((iWithin_ok (gen) ((0 : Int)) ((2147483647 : Int)) _ h2).any.cast tq), h1, ((iCheck_ok (l) _ h3).any.cast tq), h4, h5, h6, h7, h7, h7, h7, h7, h7, h8, pq, trivial⟩ tq
theorem iFill_l2 (l : List Ce) (lba : Int) (n : Int) (kind : Int) (gen : Int) (s0 : Bool) (h0 : iWithin (kind) ((0 : Int)) ((1 : Int)) = some s0) (h1 : (s0) = true) (s2 : Bool) (h2 : iWithin (gen) ((0 : Int)) ((2147483647 : Int)) = some s2) (s3 : Bool) (h3 : iCheck (l) = some s3) (h4 : ((!s3)) = false) (h5 : ((List.length (List.flatMap Ce.cells l)) = ((List.length l) * (34 : Nat)))) (h6 : ((List.length l) ≤ (4294967296 : Nat))) (h7 : ((!s2)) = false) (s8 : Bool) (h8 : iWithin (lba) ((0 : Int)) ((↑(List.length l) : Int)) = some s8) (h9 : ((!s8)) = true) (h10 : (((0 : Nat) = (0 : Nat)) ∧ ((List.length (List.flatMap Ce.cells l)) = ((List.length l) * (34 : Nat))))) : iFill_G l lba n kind gen ((l, (81 : Int))) :=
  leafR vw_eq (k := 300) (r := []) (hs := hz [(10, [.fres (.b (s0))]), (1, [.yes]), (2, [.yes]), (1, [.fres (.b (s2)), .yes]), (6, [.fres (.b (s3))]), (1, [.no]), (2, [.yes, .yes]), (4, [.no]), (1, [.no]), (1, [.no]), (1, [.no]), (1, [.fres (.b (s8)), .no]), (1, [.no]), (1, [.yes, .yes, .yes, .yes, .yes, .yes, .yes, .yes]), (8, [.yes, .yes])]) (raw := (AV.tu [(AV.sl (List.length l) (List.flatMap Ce.cells l)), (AV.i 81)])) (ps := [EvFr Try.prog cf Bool.false 36 [(AV.i kind), (AV.i 0), (AV.i 1)] (.b (s0)), (s0) = true, (s0) = true, EvFr Try.prog cf Bool.false 36 [(AV.i gen), (AV.i 0), (AV.i 2147483647)] (.b (s2)), (s0) = true, EvFr Try.prog cf Bool.false 17 [(AV.sl (List.length l) (List.flatMap Ce.cells l))] (.b (s3)), ((!s3)) = false, ((List.length (List.flatMap Ce.cells l)) = ((List.length l) * (34 : Nat))), ((List.length l) ≤ (4294967296 : Nat)), ((!s2)) = false, ((!s2)) = false, ((!s2)) = false, ((!s2)) = false, EvFr Try.prog cf Bool.false 36 [(AV.i lba), (AV.i 0), (AV.i (↑(List.length l) : Int))] (.b (s8)), ((!s2)) = false, ((!s2)) = false, ((!s8)) = true, ((!s8)) = true, ((!s8)) = true, ((!s8)) = true, ((!s8)) = true, ((!s8)) = true, ((!s8)) = true, ((!s8)) = true, (((0 : Nat) = (0 : Nat)) ∧ ((List.length (List.flatMap Ce.cells l)) = ((List.length l) * (34 : Nat)))), Pl Bool.true ((List.flatMap Ce.cells l))]) kq ⟨((iWithin_ok (kind) ((0 : Int)) ((1 : Int)) _ h0).any.cast tq), h1, h1, ((iWithin_ok (gen) ((0 : Int)) ((2147483647 : Int)) _ h2).any.cast tq), h1, ((iCheck_ok (l) _ h3).any.cast tq), h4, h5, h6, h7, h7, h7, h7, ((iWithin_ok (lba) ((0 : Int)) ((↑(List.length l) : Int)) _ h8).any.cast tq), h7, h7, h9, h9, h9, h9, h9, h9, h9, h9, h10, pq, trivial⟩ tq
theorem iFill_l3 (l : List Ce) (lba : Int) (n : Int) (kind : Int) (gen : Int) (s0 : Bool) (h0 : iWithin (kind) ((0 : Int)) ((1 : Int)) = some s0) (h1 : (s0) = true) (s2 : Bool) (h2 : iWithin (gen) ((0 : Int)) ((2147483647 : Int)) = some s2) (s3 : Bool) (h3 : iCheck (l) = some s3) (h4 : ((!s3)) = false) (h5 : ((List.length (List.flatMap Ce.cells l)) = ((List.length l) * (34 : Nat)))) (h6 : ((List.length l) ≤ (4294967296 : Nat))) (h7 : ((!s2)) = false) (s8 : Bool) (h8 : iWithin (lba) ((0 : Int)) ((↑(List.length l) : Int)) = some s8) (h9 : ((!s8)) = false) (s10 : Bool) (h10 : iWithin (n) ((1 : Int)) ((wr ((↑(List.length l) : Int) - lba))) = some s10) (h11 : ((!s10)) = true) (h12 : (((0 : Nat) = (0 : Nat)) ∧ ((List.length (List.flatMap Ce.cells l)) = ((List.length l) * (34 : Nat))))) : iFill_G l lba n kind gen ((l, (81 : Int))) :=
  leafR vw_eq (k := 300) (r := []) (hs := hz [(10, [.fres (.b (s0))]), (1, [.yes]), (2, [.yes]), (1, [.fres (.b (s2)), .yes]), (6, [.fres (.b (s3))]), (1, [.no]), (2, [.yes, .yes]), (4, [.no]), (1, [.no]), (1, [.no]), (1, [.no]), (1, [.fres (.b (s8)), .no]), (1, [.no]), (1, [.no]), (1, [.no]), (1, [.no]), (1, [.no]), (1, [.no]), (1, [.no]), (1, [.fres (.b (s10)), .no]), (1, [.no, .yes]), (7, [.yes, .yes])]) (raw := (AV.tu [(AV.sl (List.length l) (List.flatMap Ce.cells l)), (AV.i 81)])) (ps := [EvFr Try.prog cf Bool.false 36 [(AV.i kind), (AV.i 0), (AV.i 1)] (.b (s0)), (s0) = true, (s0) = true, EvFr Try.prog cf Bool.false 36 [(AV.i gen), (AV.i 0), (AV.i 2147483647)] (.b (s2)), (s0) = true, EvFr Try.prog cf Bool.false 17 [(AV.sl (List.length l) (List.flatMap Ce.cells l))] (.b (s3)), ((!s3)) = false, ((List.length (List.flatMap Ce.cells l)) = ((List.length l) * (34 : Nat))), ((List.length l) ≤ (4294967296 : Nat)), ((!s2)) = false, ((!s2)) = false, ((!s2)) = false, ((!s2)) = false, EvFr Try.prog cf Bool.false 36 [(AV.i lba), (AV.i 0), (AV.i (↑(List.length l) : Int))] (.b (s8)), ((!s2)) = false, ((!s2)) = false, ((!s8)) = false, ((!s8)) = false, ((!s8)) = false, ((!s8)) = false, ((!s8)) = false, ((!s8)) = false, EvFr Try.prog cf Bool.false 36 [(AV.i n), (AV.i 1), (AV.i (wr ((↑(List.length l) : Int) - lba)))] (.b (s10)), ((!s8)) = false, ((!s8)) = false, ((!s10)) = true, (((0 : Nat) = (0 : Nat)) ∧ ((List.length (List.flatMap Ce.cells l)) = ((List.length l) * (34 : Nat)))), Pl Bool.true ((List.flatMap Ce.cells l))]) kq ⟨((iWithin_ok (kind) ((0 : Int)) ((1 : Int)) _ h0).any.cast tq), h1, h1, ((iWithin_ok (gen) ((0 : Int)) ((2147483647 : Int)) _ h2).any.cast tq), h1, ((iCheck_ok (l) _ h3).any.cast tq), h4, h5, h6, h7, h7, h7, h7, ((iWithin_ok (lba) ((0 : Int)) ((↑(List.length l) : Int)) _ h8).any.cast tq), h7, h7, h9, h9, h9, h9, h9, h9, ((iWithin_ok (n) ((1 : Int)) ((wr ((↑(List.length l) : Int) - lba))) _ h10).any.cast tq), h9, h9, h11, h12, pq, trivial⟩ tq
theorem iFill_l4 (l : List Ce) (lba : Int) (n : Int) (kind : Int) (gen : Int) (s0 : Bool) (h0 : iWithin (kind) ((0 : Int)) ((1 : Int)) = some s0) (h1 : (s0) = true) (s2 : Bool) (h2 : iWithin (gen) ((0 : Int)) ((2147483647 : Int)) = some s2) (s3 : Bool) (h3 : iCheck (l) = some s3) (h4 : ((!s3)) = false) (h5 : ((List.length (List.flatMap Ce.cells l)) = ((List.length l) * (34 : Nat)))) (h6 : ((List.length l) ≤ (4294967296 : Nat))) (h7 : ((!s2)) = false) (s8 : Bool) (h8 : iWithin (lba) ((0 : Int)) ((↑(List.length l) : Int)) = some s8) (h9 : ((!s8)) = false) (s10 : Bool) (h10 : iWithin (n) ((1 : Int)) ((wr ((↑(List.length l) : Int) - lba))) = some s10) (h11 : ((!s10)) = false) (s12 : Int × List Ce) (h12 : Runs (iFill_L0_step l lba n kind gen s0 s2 s3 s8 s10) (((0 : Int), l)) s12) (h13 : ((decide (s12.1 < n))) = false) (h13p : ¬ (s12.1 < n)) (h14 : (((0 : Nat) = (0 : Nat)) ∧ ((List.length (List.flatMap Ce.cells s12.2)) = ((List.length l) * (34 : Nat))))) : iFill_G l lba n kind gen ((s12.2, (0 : Int))) :=
  leafR vw_eq (k := 300) (r := []) (hs := hz [(10, [.fres (.b (s0))]), (1, [.yes]), (2, [.yes]), (1, [.fres (.b (s2)), .yes]), (6, [.fres (.b (s3))]), (1, [.no]), (2, [.yes, .yes]), (4, [.no]), (1, [.no]), (1, [.no]), (1, [.no]), (1, [.fres (.b (s8)), .no]), (1, [.no]), (1, [.no]), (1, [.no]), (1, [.no]), (1, [.no]), (1, [.no]), (1, [.no]), (1, [.fres (.b (s10)), .no]), (1, [.no, .no]), (2, [.head (iFill_L0_S l lba n kind gen s0 s2 s3 s8 s10 s12)]), (1, [.no]), (7, [.yes, .yes])]) (raw := (AV.tu [(AV.sl (List.length l) (List.flatMap Ce.cells s12.2)), (AV.i 0)])) (ps := [EvFr Try.prog cf Bool.false 36 [(AV.i kind), (AV.i 0), (AV.i 1)] (.b (s0)), (s0) = true, (s0) = true, EvFr Try.prog cf Bool.false 36 [(AV.i gen), (AV.i 0), (AV.i 2147483647)] (.b (s2)), (s0) = true, EvFr Try.prog cf Bool.false 17 [(AV.sl (List.length l) (List.flatMap Ce.cells l))] (.b (s3)), ((!s3)) = false, ((List.length (List.flatMap Ce.cells l)) = ((List.length l) * (34 : Nat))), ((List.length l) ≤ (4294967296 : Nat)), ((!s2)) = false, ((!s2)) = false, ((!s2)) = false, ((!s2)) = false, EvFr Try.prog cf Bool.false 36 [(AV.i lba), (AV.i 0), (AV.i (↑(List.length l) : Int))] (.b (s8)), ((!s2)) = false, ((!s2)) = false, ((!s8)) = false, ((!s8)) = false, ((!s8)) = false, ((!s8)) = false, ((!s8)) = false, ((!s8)) = false, EvFr Try.prog cf Bool.false 36 [(AV.i n), (AV.i 1), (AV.i (wr ((↑(List.length l) : Int) - lba)))] (.b (s10)), ((!s8)) = false, ((!s8)) = false, ((!s10)) = false, EvHead Try.prog cf (lp Try.prog 41 0) (iFill_L0_I l lba n kind gen s0 s2 s3 s8 s10) (iFill_L0_S l lba n kind gen s0 s2 s3 s8 s10 s12), ((decide (s12.1 < n))) = false, (((0 : Nat) = (0 : Nat)) ∧ ((List.length (List.flatMap Ce.cells s12.2)) = ((List.length l) * (34 : Nat)))), Pl Bool.true ((List.flatMap Ce.cells s12.2))]) kq ⟨((iWithin_ok (kind) ((0 : Int)) ((1 : Int)) _ h0).any.cast tq), h1, h1, ((iWithin_ok (gen) ((0 : Int)) ((2147483647 : Int)) _ h2).any.cast tq), h1, ((iCheck_ok (l) _ h3).any.cast tq), h4, h5, h6, h7, h7, h7, h7, ((iWithin_ok (lba) ((0 : Int)) ((↑(List.length l) : Int)) _ h8).any.cast tq), h7, h7, h9, h9, h9, h9, h9, h9, ((iWithin_ok (n) ((1 : Int)) ((wr ((↑(List.length l) : Int) - lba))) _ h10).any.cast tq), h9, h9, h11, (EvHead.of (iFill_L0_ok l lba n kind gen s0 s2 s3 s8 s10) (absB_of [] [] kq (.consn kq (.eqv tq rfl) (.consn kq (.eqv tq rfl) (.consn kq (.eqv tq rfl) (.consn kq (.eqv tq rfl) (.consn kq (.fn (.cons (.pt rfl) (.cons (.pt rfl) .nil))) (.consn kq .nl0 (.consn kq (.eqv tq rfl) (.consn kq (.eqv tq rfl) (.consn kq (.rf rfl) (.consn kq (.eqv tq rfl) (.consn kq (.eqv tq rfl) (.consn kq (.eqv tq rfl) .nil)))))))))))) (.cons (.old rfl rfl (.cells (.pl tq pq))) (.cons (.old rfl rfl (.cells (.cons (.eqv tq rfl) .nil))) (.cons (.old rfl rfl (.cells (.cons (.eqv tq rfl) .nil))) .nil)))) h12), h13, h14, pq, trivial⟩ tq
theorem iFill_l5 (l : List Ce) (lba : Int) (n : Int) (kind : Int) (gen : Int) (s0 : Bool) (h0 : iWithin (kind) ((0 : Int)) ((1 : Int)) = some s0) (h1 : (s0) = false) (s2 : Bool) (h2 : iCheck (l) = some s2) (h3 : ((!s2)) = true) : iFill_G l lba n kind gen ((([] : List Ce), (90 : Int))) :=
  leafR vw_eq (k := 300) (r := []) (hs := hz [(10, [.fres (.b (s0))]), (1, [.no, .no, .no]), (6, [.fres (.b (s2))]), (1, [.yes]), (6, [])]) (raw := (AV.tu [(AV.sl 0 ([] : List AV)), (AV.i 90)])) (ps := [EvFr Try.prog cf Bool.false 36 [(AV.i kind), (AV.i 0), (AV.i 1)] (.b (s0)), (s0) = false, (s0) = false, (s0) = false, EvFr Try.prog cf Bool.false 17 [(AV.sl (List.length l) (List.flatMap Ce.cells l))] (.b (s2)), ((!s2)) = true]) kq ⟨((iWithin_ok (kind) ((0 : Int)) ((1 : Int)) _ h0).any.cast tq), h1, h1, h1, ((iCheck_ok (l) _ h2).any.cast tq), h3, trivial⟩ tq
theorem iFill_l6 (l : List Ce) (lba : Int) (n : Int) (kind : Int) (gen : Int) (s0 : Bool) (h0 : iWithin (kind) ((0 : Int)) ((1 : Int)) = some s0) (h1 : (s0) = false) (s2 : Bool) (h2 : iCheck (l) = some s2) (h3 : ((!s2)) = false) (h4 : ((List.length (List.flatMap Ce.cells l)) = ((List.length l) * (34 : Nat)))) (h5 : ((List.length l) ≤ (4294967296 : Nat))) (h6 : (((0 : Nat) = (0 : Nat)) ∧ ((List.length (List.flatMap Ce.cells l)) = ((List.length l) * (34 : Nat))))) : iFill_G l lba n kind gen ((l, (81 : Int))) :=
  leafR vw_eq (k := 300) (r := []) (hs := hz [(10, [.fres (.b (s0))]), (1, [.no, .no, .no]), (6, [.fres (.b (s2))]), (1, [.no]), (2, [.yes, .yes]), (27, [.yes, .yes])]) (raw := (AV.tu [(AV.sl (List.length l) (List.flatMap Ce.cells l)), (AV.i 81)])) (ps := [EvFr Try.prog cf Bool.false 36 [(AV.i kind), (AV.i 0), (AV.i 1)] (.b (s0)), (s0) = false, (s0) = false, (s0) = false, EvFr Try.prog cf Bool.false 17 [(AV.sl (List.length l) (List.flatMap Ce.cells l))] (.b (s2)), ((!s2)) = false, ((List.length (List.flatMap Ce.cells l)) = ((List.length l) * (34 : Nat))), ((List.length l) ≤ (4294967296 : Nat)), (((0 : Nat) = (0 : Nat)) ∧ ((List.length (List.flatMap Ce.cells l)) = ((List.length l) * (34 : Nat)))), Pl Bool.true ((List.flatMap Ce.cells l))]) kq ⟨((iWithin_ok (kind) ((0 : Int)) ((1 : Int)) _ h0).any.cast tq), h1, h1, h1, ((iCheck_ok (l) _ h2).any.cast tq), h3, h4, h5, h6, pq, trivial⟩ tq
theorem iFill_ok (l : List Ce) (lba : Int) (n : Int) (kind : Int) (gen : Int) (r : List Ce × Int) : iFill l lba n kind gen = some r → iFill_G l lba n kind gen r := by
  unfold iFill
  refine tc_ok (fun s0 h0 => ?_)
  refine tb_ok (fun h1 => ?_) (fun h1 => ?_)
  ·
    refine tc_ok (fun s2 h2 => ?_)
    refine tc_ok (fun s3 h3 => ?_)
    refine tb_ok (fun h4 => ?_) (fun h4 => ?_)
    ·
      exact fun e => tl_ok (G := iFill_G l lba n kind gen) (iFill_l0 l lba n kind gen s0 h0 h1 s2 h2 s3 h3 h4) e
    ·
      refine tp_ok (fun h5 => ?_)
      refine tp_ok (fun h6 => ?_)
      refine tb_ok (fun h7 => ?_) (fun h7 => ?_)
      ·
        refine tp_ok (fun h8 => ?_)
        exact fun e => tl_ok (G := iFill_G l lba n kind gen) (iFill_l1 l lba n kind gen s0 h0 h1 s2 h2 s3 h3 h4 h5 h6 h7 h8) e
      ·
        refine tc_ok (fun s8 h8 => ?_)
        refine tb_ok (fun h9 => ?_) (fun h9 => ?_)
        ·
          refine tp_ok (fun h10 => ?_)
          exact fun e => tl_ok (G := iFill_G l lba n kind gen) (iFill_l2 l lba n kind gen s0 h0 h1 s2 h2 s3 h3 h4 h5 h6 h7 s8 h8 h9 h10) e
        ·
          refine tc_ok (fun s10 h10 => ?_)
          refine tb_ok (fun h11 => ?_) (fun h11 => ?_)
          ·
            refine tp_ok (fun h12 => ?_)
            exact fun e => tl_ok (G := iFill_G l lba n kind gen) (iFill_l3 l lba n kind gen s0 h0 h1 s2 h2 s3 h3 h4 h5 h6 h7 s8 h8 h9 s10 h10 h11 h12) e
          ·
            refine th_ok (fun s12 h12 => ?_)
            refine tb_ok (fun h13 => ?_) (fun h13 => ?_)
            ·
              have h13p := of_decide_eq_true h13
              exact fun e => nomatch e
            ·
              have h13p := of_decide_eq_false h13
              refine tp_ok (fun h14 => ?_)
              exact fun e => tl_ok (G := iFill_G l lba n kind gen) (iFill_l4 l lba n kind gen s0 h0 h1 s2 h2 s3 h3 h4 h5 h6 h7 s8 h8 h9 s10 h10 h11 s12 h12 h13 h13p h14) e
  ·
    refine tc_ok (fun s2 h2 => ?_)
    refine tb_ok (fun h3 => ?_) (fun h3 => ?_)
    ·
      exact fun e => tl_ok (G := iFill_G l lba n kind gen) (iFill_l5 l lba n kind gen s0 h0 h1 s2 h2 h3) e
    ·
      refine tp_ok (fun h4 => ?_)
      refine tp_ok (fun h5 => ?_)
      refine tp_ok (fun h6 => ?_)
      exact fun e => tl_ok (G := iFill_G l lba n kind gen) (iFill_l6 l lba n kind gen s0 h0 h1 s2 h2 h3 h4 h5 h6) e
noncomputable abbrev iRead_L0_I (l : List Ce) (lba : Int) (n : Int) (s0 : List Ce × Int) : St := (St.mk [(0, (AV.sl (List.length l) (List.flatMap Ce.cells l))), (1, (AV.i lba)), (2, (AV.i n)), (6, AV.nl), (7, (AV.i 0)), (13, (AV.sl (List.length l) (List.flatMap Ce.cells l))), (14, (AV.i lba)), (15, (AV.i n)), (16, (AV.tu [(AV.sl (List.length s0.1) (List.flatMap Ce.cells s0.1)), (AV.i s0.2)])), (12, (AV.tu [(AV.sl (List.length s0.1) (List.flatMap Ce.cells s0.1)), (AV.i s0.2)])), (17, (AV.sl (List.length s0.1) (List.flatMap Ce.cells s0.1))), (18, (AV.i s0.2)), (8, (AV.sl (List.length s0.1) (List.flatMap Ce.cells s0.1))), (9, (AV.i s0.2)), (19, (AV.i s0.2)), (20, (AV.b (s0.2 != (0 : Int)))), (22, (AV.sl (List.length l) (List.flatMap Ce.cells l))), (23, (AV.i lba)), (24, (AV.i lba)), (25, (AV.i n)), (26, (AV.i (wr (lba + n)))), (27, (AV.sl ((Int.toNat (wr (lba + n))) - (Int.toNat lba)) (List.take (((Int.toNat (wr (lba + n))) - (Int.toNat lba)) * (34 : Nat)) (List.drop ((Int.toNat lba) * (34 : Nat)) (List.flatMap Ce.cells l))))), (28, (AV.i (↑((Int.toNat (wr (lba + n))) - (Int.toNat lba)) : Int))), (29, (AV.i 0))] 39 (AH.mk 0 ([] : List (Prod Nat AObj))) Bool.false)
noncomputable abbrev iRead_L0_S (l : List Ce) (lba : Int) (n : Int) (s0 : List Ce × Int) (s5 : List UInt8 × Int) : St := (St.mk [(0, (AV.sl (List.length l) (List.flatMap Ce.cells l))), (1, (AV.i lba)), (2, (AV.i n)), (6, (AV.rf 0 1 0 (List.length s5.1))), (7, (AV.i 0)), (9, (AV.i s0.2)), (20, (AV.b (s0.2 != (0 : Int)))), (27, (AV.sl ((Int.toNat (wr (lba + n))) - (Int.toNat lba)) (List.take (((Int.toNat (wr (lba + n))) - (Int.toNat lba)) * (34 : Nat)) (List.drop ((Int.toNat lba) * (34 : Nat)) (List.flatMap Ce.cells l))))), (28, (AV.i (↑((Int.toNat (wr (lba + n))) - (Int.toNat lba)) : Int))), (29, (AV.i s5.2))] 39 (AH.mk 1 [(0, (AObj.cells (List.map AV.y s5.1)))]) Bool.false)
noncomputable def iRead_L0_step (l : List Ce) (lba : Int) (n : Int) (s0 : List Ce × Int) (s5 : List UInt8 × Int) : Option (List UInt8 × Int) :=
 (tb ((decide (s5.2 < (↑((Int.toNat (wr (lba + n))) - (Int.toNat lba)) : Int))))
  (tp ((((0 : Int) ≤ s5.2) ∧ (s5.2 < (↑((Int.toNat (wr (lba + n))) - (Int.toNat lba)) : Int))))
   (tp (((34 : Nat) ≤ (List.length (List.drop ((Int.toNat s5.2) * (34 : Nat)) (List.take (((Int.toNat (wr (lba + n))) - (Int.toNat lba)) * (34 : Nat)) (List.drop ((Int.toNat lba) * (34 : Nat)) (List.flatMap Ce.cells l)))))))
    (tp ((((List.length (List.map AV.y s5.1)) = ((List.length s5.1) * (1 : Nat))) ∧ (((List.length s5.1) + (32 : Nat)) ≤ (4294967296 : Nat))))
     (some (((s5.1 ++ (pad 32 (ceAt (List.take ((Int.toNat (wr (lba + n))) - (Int.toNat lba)) (List.drop (Int.toNat lba) l)) (Int.toNat s5.2)).d)), (wr (s5.2 + (1 : Int)))))))))
  none /- exit -/)
theorem iRead_L0_s0 (l : List Ce) (lba : Int) (n : Int) (s0 : List Ce × Int) (s5 : List UInt8 × Int) (h6 : ((decide (s5.2 < (↑((Int.toNat (wr (lba + n))) - (Int.toNat lba)) : Int)))) = true) (h6p : (s5.2 < (↑((Int.toNat (wr (lba + n))) - (Int.toNat lba)) : Int))) (h7 : (((0 : Int) ≤ s5.2) ∧ (s5.2 < (↑((Int.toNat (wr (lba + n))) - (Int.toNat lba)) : Int)))) (h8 : ((34 : Nat) ≤ (List.length (List.drop ((Int.toNat s5.2) * (34 : Nat)) (List.take (((Int.toNat (wr (lba + n))) - (Int.toNat lba)) * (34 : Nat)) (List.drop ((Int.toNat lba) * (34 : Nat)) (List.flatMap Ce.cells l))))))) (h9 : (((List.length (List.map AV.y s5.1)) = ((List.length s5.1) * (1 : Nat))) ∧ (((List.length s5.1) + (32 : Nat)) ≤ (4294967296 : Nat)))) : EvStep Try.prog cf 0 (lp Try.prog 25 0) (iRead_L0_S l lba n s0 s5) (iRead_L0_S l lba n s0 (((s5.1 ++ (pad 32 (ceAt (List.take ((Int.toNat (wr (lba + n))) - (Int.toNat lba)) (List.drop (Int.toNat lba) l)) (Int.toNat s5.2)).d)), (wr (s5.2 + (1 : Int)))))) :=
  leafS vw_eq (k := 300) (r := []) (hs := hz [(1, [.yes, .yes, .yes, .cells ((Ce.cells (ceAt (List.take ((Int.toNat (wr (lba + n))) - (Int.toNat lba)) (List.drop (Int.toNat lba) l)) (Int.toNat s5.2))))]), (1, [.yes, .cells (((AV.i (ceAt (List.take ((Int.toNat (wr (lba + n))) - (Int.toNat lba)) (List.drop (Int.toNat lba) l)) (Int.toNat s5.2)).kind) :: (AV.i (ceAt (List.take ((Int.toNat (wr (lba + n))) - (Int.toNat lba)) (List.drop (Int.toNat lba) l)) (Int.toNat s5.2)).gen) :: (List.map AV.y (pad 32 (ceAt (List.take ((Int.toNat (wr (lba + n))) - (Int.toNat lba)) (List.drop (Int.toNat lba) l)) (Int.toNat s5.2)).d))))]), (2, [.yes, .no, .yes, .yes]), (3, [])]) (st1 := (St.mk [(0, (AV.sl (List.length l) (List.flatMap Ce.cells l))), (1, (AV.i lba)), (2, (AV.i n)), (6, (AV.rf 2 1 0 ((List.length s5.1) + (32 : Nat)))), (7, (AV.i 0)), (9, (AV.i s0.2)), (20, (AV.b (s0.2 != (0 : Int)))), (27, (AV.sl ((Int.toNat (wr (lba + n))) - (Int.toNat lba)) (List.take (((Int.toNat (wr (lba + n))) - (Int.toNat lba)) * (34 : Nat)) (List.drop ((Int.toNat lba) * (34 : Nat)) (List.flatMap Ce.cells l))))), (28, (AV.i (↑((Int.toNat (wr (lba + n))) - (Int.toNat lba)) : Int))), (29, (AV.i (wr (s5.2 + (1 : Int))))), (30, (AV.b (decide (s5.2 < (↑((Int.toNat (wr (lba + n))) - (Int.toNat lba)) : Int))))), (31, (AV.ip (List.drop ((Int.toNat s5.2) * (34 : Nat)) (List.take (((Int.toNat (wr (lba + n))) - (Int.toNat lba)) * (34 : Nat)) (List.drop ((Int.toNat lba) * (34 : Nat)) (List.flatMap Ce.cells l)))))), (32, (AV.ag (Ce.cells (ceAt (List.take ((Int.toNat (wr (lba + n))) - (Int.toNat lba)) (List.drop (Int.toNat lba) l)) (Int.toNat s5.2))))), (11, (AV.pt 1 0)), (33, (AV.rf 0 1 0 (List.length s5.1))), (34, (AV.pt 1 2)), (35, (AV.rf 1 1 2 32)), (36, (AV.rf 2 1 0 ((List.length s5.1) + (32 : Nat)))), (37, (AV.i (wr (s5.2 + (1 : Int)))))] 39 (AH.mk 3 [(2, (AObj.cells ((List.map AV.y s5.1) ++ (List.take 32 (List.map AV.y (pad 32 (ceAt (List.take ((Int.toNat (wr (lba + n))) - (Int.toNat lba)) (List.drop (Int.toNat lba) l)) (Int.toNat s5.2)).d)))))), (1, (AObj.cells ((AV.i (ceAt (List.take ((Int.toNat (wr (lba + n))) - (Int.toNat lba)) (List.drop (Int.toNat lba) l)) (Int.toNat s5.2)).kind) :: (AV.i (ceAt (List.take ((Int.toNat (wr (lba + n))) - (Int.toNat lba)) (List.drop (Int.toNat lba) l)) (Int.toNat s5.2)).gen) :: (List.map AV.y (pad 32 (ceAt (List.take ((Int.toNat (wr (lba + n))) - (Int.toNat lba)) (List.drop (Int.toNat lba) l)) (Int.toNat s5.2)).d))))), (0, AObj.dead)]) Bool.false)) (ps := [((decide (s5.2 < (↑((Int.toNat (wr (lba + n))) - (Int.toNat lba)) : Int)))) = true, (((0 : Int) ≤ s5.2) ∧ (s5.2 < (↑((Int.toNat (wr (lba + n))) - (Int.toNat lba)) : Int))), ((34 : Nat) ≤ (List.length (List.drop ((Int.toNat s5.2) * (34 : Nat)) (List.take (((Int.toNat (wr (lba + n))) - (Int.toNat lba)) * (34 : Nat)) (List.drop ((Int.toNat lba) * (34 : Nat)) (List.flatMap Ce.cells l)))))), (List.take 34 (List.drop ((Int.toNat s5.2) * (34 : Nat)) (List.take (((Int.toNat (wr (lba + n))) - (Int.toNat lba)) * (34 : Nat)) (List.drop ((Int.toNat lba) * (34 : Nat)) (List.flatMap Ce.cells l))))) = (Ce.cells (ceAt (List.take ((Int.toNat (wr (lba + n))) - (Int.toNat lba)) (List.drop (Int.toNat lba) l)) (Int.toNat s5.2))), (((List.length ((AV.i (ceAt (List.take ((Int.toNat (wr (lba + n))) - (Int.toNat lba)) (List.drop (Int.toNat lba) l)) (Int.toNat s5.2)).kind) :: (AV.i (ceAt (List.take ((Int.toNat (wr (lba + n))) - (Int.toNat lba)) (List.drop (Int.toNat lba) l)) (Int.toNat s5.2)).gen) :: (List.map AV.y (pad 32 (ceAt (List.take ((Int.toNat (wr (lba + n))) - (Int.toNat lba)) (List.drop (Int.toNat lba) l)) (Int.toNat s5.2)).d)))) = (34 : Nat)) ∧ (((0 : Nat) + (List.length ((AV.i (ceAt (List.take ((Int.toNat (wr (lba + n))) - (Int.toNat lba)) (List.drop (Int.toNat lba) l)) (Int.toNat s5.2)).kind) :: (AV.i (ceAt (List.take ((Int.toNat (wr (lba + n))) - (Int.toNat lba)) (List.drop (Int.toNat lba) l)) (Int.toNat s5.2)).gen) :: (List.map AV.y (pad 32 (ceAt (List.take ((Int.toNat (wr (lba + n))) - (Int.toNat lba)) (List.drop (Int.toNat lba) l)) (Int.toNat s5.2)).d))))) ≤ (34 : Nat))), (over ((AV.i (Int.ofNat 0)) :: (AV.i (Int.ofNat 0)) :: List.replicate (32 : Nat) (AV.y (UInt8.ofNat (0 : Nat)))) 0 ((AV.i (ceAt (List.take ((Int.toNat (wr (lba + n))) - (Int.toNat lba)) (List.drop (Int.toNat lba) l)) (Int.toNat s5.2)).kind) :: (AV.i (ceAt (List.take ((Int.toNat (wr (lba + n))) - (Int.toNat lba)) (List.drop (Int.toNat lba) l)) (Int.toNat s5.2)).gen) :: (List.map AV.y (pad 32 (ceAt (List.take ((Int.toNat (wr (lba + n))) - (Int.toNat lba)) (List.drop (Int.toNat lba) l)) (Int.toNat s5.2)).d)))) = ((AV.i (ceAt (List.take ((Int.toNat (wr (lba + n))) - (Int.toNat lba)) (List.drop (Int.toNat lba) l)) (Int.toNat s5.2)).kind) :: (AV.i (ceAt (List.take ((Int.toNat (wr (lba + n))) - (Int.toNat lba)) (List.drop (Int.toNat lba) l)) (Int.toNat s5.2)).gen) :: (List.map AV.y (pad 32 (ceAt (List.take ((Int.toNat (wr (lba + n))) - (Int.toNat lba)) (List.drop (Int.toNat lba) l)) (Int.toNat s5.2)).d))), (((0 : Nat) ≤ (32 : Nat)) ∧ (((32 : Nat) ≤ (32 : Nat)) ∧ ((34 : Nat) ≤ (List.length ((AV.i (ceAt (List.take ((Int.toNat (wr (lba + n))) - (Int.toNat lba)) (List.drop (Int.toNat lba) l)) (Int.toNat s5.2)).kind) :: (AV.i (ceAt (List.take ((Int.toNat (wr (lba + n))) - (Int.toNat lba)) (List.drop (Int.toNat lba) l)) (Int.toNat s5.2)).gen) :: (List.map AV.y (pad 32 (ceAt (List.take ((Int.toNat (wr (lba + n))) - (Int.toNat lba)) (List.drop (Int.toNat lba) l)) (Int.toNat s5.2)).d))))))), ((34 : Nat) ≤ (List.length ((AV.i (ceAt (List.take ((Int.toNat (wr (lba + n))) - (Int.toNat lba)) (List.drop (Int.toNat lba) l)) (Int.toNat s5.2)).kind) :: (AV.i (ceAt (List.take ((Int.toNat (wr (lba + n))) - (Int.toNat lba)) (List.drop (Int.toNat lba) l)) (Int.toNat s5.2)).gen) :: (List.map AV.y (pad 32 (ceAt (List.take ((Int.toNat (wr (lba + n))) - (Int.toNat lba)) (List.drop (Int.toNat lba) l)) (Int.toNat s5.2)).d))))), (((List.length (List.map AV.y s5.1)) = ((List.length s5.1) * (1 : Nat))) ∧ (((List.length s5.1) + (32 : Nat)) ≤ (4294967296 : Nat)))]) kq ⟨h6, h7, h8, (by (try simp only [List.drop_drop]); rw [show ((Int.toNat s5.2) * (34 : Nat)) = ((Int.toNat s5.2)) * 34 by omega]; exact ce_takeC (l := (List.take ((Int.toNat (wr (lba + n))) - (Int.toNat lba)) (List.drop (Int.toNat lba) l))) tq _ bq), tq, (over_all tq), tq, tq, h9, trivial⟩ (Nat.le_of_ble_eq_true rfl) (absB_of [2] [] kq (.consn kq (.eqv tq rfl) (.consn kq (.eqv tq rfl) (.consn kq (.eqv tq rfl) (.consn kq (.rfn (n := ((List.length s5.1) + (32 : Nat))) rfl tq) (.consn kq (.eqv tq rfl) (.consn kq (.eqv tq rfl) (.consn kq (.eqv tq rfl) (.consn kq (.eqv tq rfl) (.consn kq (.eqv tq rfl) (.consn kq (.eqv tq rfl) .nil)))))))))) (.cons (.old rfl rfl (.cells (.pl tq pq))) .nil))
theorem iRead_L0_ok (l : List Ce) (lba : Int) (n : Int) (s0 : List Ce × Int) (s5 zz : List UInt8 × Int) : iRead_L0_step l lba n s0 s5 = some zz → EvStep Try.prog cf 0 (lp Try.prog 25 0) (iRead_L0_S l lba n s0 s5) (iRead_L0_S l lba n s0 zz) := by
  unfold iRead_L0_step
  refine tb_ok (fun h6 => ?_) (fun h6 => ?_)
  ·
    have h6p := of_decide_eq_true h6
    refine tp_ok (fun h7 => ?_)
    refine tp_ok (fun h8 => ?_)
    refine tp_ok (fun h9 => ?_)
    exact fun e => tl_ok (G := (fun zz => EvStep Try.prog cf 0 (lp Try.prog 25 0) (iRead_L0_S l lba n s0 s5) (iRead_L0_S l lba n s0 zz))) (iRead_L0_s0 l lba n s0 s5 h6 h6p h7 h8 h9) e
  ·
    have h6p := of_decide_eq_false h6
    exact fun e => nomatch e
/-- Function 25, as it answers. -/
noncomputable def iRead (l : List Ce) (lba : Int) (n : Int) : Option (List UInt8 × Int) :=
 (tc (iFill (l) (lba) (n) ((1 : Int)) ((0 : Int))) fun s0 =>
  (tb ((s0.2 != (0 : Int)))
   (some ((([] : List UInt8), s0.2)))
   (tp (((0 : Int) ≤ lba))
    (tp (((0 : Int) ≤ (wr (lba + n))))
     (tp ((((Int.toNat lba) ≤ (Int.toNat (wr (lba + n)))) ∧ (((Int.toNat (wr (lba + n))) ≤ (List.length l)) ∧ ((List.length (List.flatMap Ce.cells l)) = ((List.length l) * (34 : Nat))))))
      (th (iRead_L0_step l lba n s0) ((([] : List UInt8), (0 : Int))) fun s5 =>
       (tb ((decide (s5.2 < (↑((Int.toNat (wr (lba + n))) - (Int.toNat lba)) : Int))))
        none /- stop behind an operation -/
        (some ((s5.1, (0 : Int)))))))))))
abbrev iRead_G (l : List Ce) (lba : Int) (n : Int) (r : List UInt8 × Int) : Prop := EvFr Try.prog cf true 25 [ces (l), .i (lba), .i (n)] (.tu [bys (r.1), .i (r.2)])
theorem iRead_l0 (l : List Ce) (lba : Int) (n : Int) (s0 : List Ce × Int) (h0 : iFill (l) (lba) (n) ((1 : Int)) ((0 : Int)) = some s0) (h1 : ((s0.2 != (0 : Int))) = true) (h1p : ¬ (s0.2 = (0 : Int))) : iRead_G l lba n ((([] : List UInt8), s0.2)) :=
  leafR vw_eq (k := 300) (r := []) (hs := hz [(6, [.fres (.tu [ces (s0.1), .i (s0.2)])]), (7, [.yes]), (3, [])]) (raw := (AV.tu [(AV.sl 0 ([] : List AV)), (AV.i s0.2)])) (ps := [EvFr Try.prog cf Bool.false 21 [(AV.sl (List.length l) (List.flatMap Ce.cells l)), (AV.i lba), (AV.i n), (AV.i 1), (AV.i 0)] (.tu [ces (s0.1), .i (s0.2)]), ((s0.2 != (0 : Int))) = true]) kq ⟨((iFill_ok (l) (lba) (n) ((1 : Int)) ((0 : Int)) _ h0).any.cast tq), h1, trivial⟩ tq
theorem iRead_l1 (l : List Ce) (lba : Int) (n : Int) (s0 : List Ce × Int) (h0 : iFill (l) (lba) (n) ((1 : Int)) ((0 : Int)) = some s0) (h1 : ((s0.2 != (0 : Int))) = false) (h1p : (s0.2 = (0 : Int))) (h2 : ((0 : Int) ≤ lba)) (h3 : ((0 : Int) ≤ (wr (lba + n)))) (h4 : (((Int.toNat lba) ≤ (Int.toNat (wr (lba + n)))) ∧ (((Int.toNat (wr (lba + n))) ≤ (List.length l)) ∧ ((List.length (List.flatMap Ce.cells l)) = ((List.length l) * (34 : Nat)))))) (s5 : List UInt8 × Int) (h5 : Runs (iRead_L0_step l lba n s0) ((([] : List UInt8), (0 : Int))) s5) (h6 : ((decide (s5.2 < (↑((Int.toNat (wr (lba + n))) - (Int.toNat lba)) : Int)))) = false) (h6p : ¬ (s5.2 < (↑((Int.toNat (wr (lba + n))) - (Int.toNat lba)) : Int))) : iRead_G l lba n ((s5.1, (0 : Int))) :=
  leafR vw_eq (k := 300) (r := []) (hs := hz [(6, [.fres (.tu [ces (s0.1), .i (s0.2)])]), (7, [.no]), (5, [.yes, .yes, .yes]), (2, [.head (iRead_L0_S l lba n s0 s5)]), (1, [.no]), (3, [.yes, .yes])]) (raw := (AV.tu [(AV.sl (List.length s5.1) (List.map AV.y s5.1)), (AV.i 0)])) (ps := [EvFr Try.prog cf Bool.false 21 [(AV.sl (List.length l) (List.flatMap Ce.cells l)), (AV.i lba), (AV.i n), (AV.i 1), (AV.i 0)] (.tu [ces (s0.1), .i (s0.2)]), ((s0.2 != (0 : Int))) = false, ((0 : Int) ≤ lba), ((0 : Int) ≤ (wr (lba + n))), (((Int.toNat lba) ≤ (Int.toNat (wr (lba + n)))) ∧ (((Int.toNat (wr (lba + n))) ≤ (List.length l)) ∧ ((List.length (List.flatMap Ce.cells l)) = ((List.length l) * (34 : Nat))))), EvHead Try.prog cf (lp Try.prog 25 0) (iRead_L0_I l lba n s0) (iRead_L0_S l lba n s0 s5), ((decide (s5.2 < (↑((Int.toNat (wr (lba + n))) - (Int.toNat lba)) : Int)))) = false, (((0 : Nat) = (0 : Nat)) ∧ ((List.length (List.map AV.y s5.1)) = ((List.length s5.1) * (1 : Nat)))), Pl Bool.true ((List.map AV.y s5.1))]) kq ⟨((iFill_ok (l) (lba) (n) ((1 : Int)) ((0 : Int)) _ h0).any.cast tq), h1, h2, h3, h4, (EvHead.of (iRead_L0_ok l lba n s0) (absB_of [0] [] kq (.consn kq (.eqv tq rfl) (.consn kq (.eqv tq rfl) (.consn kq (.eqv tq rfl) (.consn kq (.nln tq) (.consn kq (.eqv tq rfl) (.consn kq (.eqv tq rfl) (.consn kq (.eqv tq rfl) (.consn kq (.eqv tq rfl) (.consn kq (.eqv tq rfl) (.consn kq (.eqv tq rfl) .nil)))))))))) (.cons (.none rfl (Nat.le_refl _) rfl) .nil)) h5), h6, tq, pq, trivial⟩ tq
theorem iRead_ok (l : List Ce) (lba : Int) (n : Int) (r : List UInt8 × Int) : iRead l lba n = some r → iRead_G l lba n r := by
  unfold iRead
  refine tc_ok (fun s0 h0 => ?_)
  refine tb_ok (fun h1 => ?_) (fun h1 => ?_)
  ·
    have h1p := bne_iff_ne.1 h1
    exact fun e => tl_ok (G := iRead_G l lba n) (iRead_l0 l lba n s0 h0 h1 h1p) e
  ·
    have h1p := bne_eq_false_iff_eq.1 h1
    refine tp_ok (fun h2 => ?_)
    refine tp_ok (fun h3 => ?_)
    refine tp_ok (fun h4 => ?_)
    refine th_ok (fun s5 h5 => ?_)
    refine tb_ok (fun h6 => ?_) (fun h6 => ?_)
    ·
      have h6p := of_decide_eq_true h6
      exact fun e => nomatch e
    ·
      have h6p := of_decide_eq_false h6
      exact fun e => tl_ok (G := iRead_G l lba n) (iRead_l1 l lba n s0 h0 h1 h1p h2 h3 h4 s5 h5 h6 h6p) e
noncomputable abbrev iAlike_L0_I (a : List Ce) (b : List Ce) : St := (St.mk [(0, (AV.sl (List.length a) (List.flatMap Ce.cells a))), (1, (AV.sl (List.length b) (List.flatMap Ce.cells b))), (2, (AV.fn (40 : Nat) ([] : List AV))), (6, (AV.b Bool.false)), (10, (AV.sl (List.length a) (List.flatMap Ce.cells a))), (11, (AV.i (↑(List.length a) : Int))), (12, (AV.sl (List.length b) (List.flatMap Ce.cells b))), (13, (AV.i (↑(List.length b) : Int))), (14, (AV.b ((↑(List.length a) : Int) != (↑(List.length b) : Int)))), (15, (AV.sl (List.length a) (List.flatMap Ce.cells a))), (16, (AV.i (↑(List.length a) : Int))), (17, (AV.i 0))] 32 (AH.mk 0 ([] : List (Prod Nat AObj))) Bool.false)
noncomputable abbrev iAlike_L0_S (a : List Ce) (b : List Ce) (s1 : Int) : St := (St.mk [(0, (AV.sl (List.length a) (List.flatMap Ce.cells a))), (1, (AV.sl (List.length b) (List.flatMap Ce.cells b))), (2, (AV.fn (40 : Nat) ([] : List AV))), (14, (AV.b ((↑(List.length a) : Int) != (↑(List.length b) : Int)))), (15, (AV.sl (List.length a) (List.flatMap Ce.cells a))), (16, (AV.i (↑(List.length a) : Int))), (17, (AV.i s1))] 32 (AH.mk 0 ([] : List (Prod Nat AObj))) Bool.false)
noncomputable def iAlike_L0_step (a : List Ce) (b : List Ce) (s1 : Int) : Option (Int) :=
 (tb ((decide (s1 < (↑(List.length a) : Int))))
  (tp ((((0 : Int) ≤ s1) ∧ (s1 < (↑(List.length a) : Int))))
   (tp ((((0 : Int) ≤ s1) ∧ (s1 < (↑(List.length b) : Int))))
    (tb ((!(((ceAt a (Int.toNat s1)).kind == (ceAt b (Int.toNat s1)).kind) && (((ceAt a (Int.toNat s1)).gen == (ceAt a (Int.toNat s1)).gen) && ((pad 32 (ceAt a (Int.toNat s1)).d) == (pad 32 (ceAt b (Int.toNat s1)).d))))))
     none /- exit -/
     (some ((wr (s1 + (1 : Int))))))))
  none /- exit -/)
theorem iAlike_L0_s0 (a : List Ce) (b : List Ce) (s1 : Int) (h2 : ((decide (s1 < (↑(List.length a) : Int)))) = true) (h2p : (s1 < (↑(List.length a) : Int))) (h3 : (((0 : Int) ≤ s1) ∧ (s1 < (↑(List.length a) : Int)))) (h4 : (((0 : Int) ≤ s1) ∧ (s1 < (↑(List.length b) : Int)))) (h5 : ((!(((ceAt a (Int.toNat s1)).kind == (ceAt b (Int.toNat s1)).kind) && (((ceAt a (Int.toNat s1)).gen == (ceAt a (Int.toNat s1)).gen) && ((pad 32 (ceAt a (Int.toNat s1)).d) == (pad 32 (ceAt b (Int.toNat s1)).d)))))) = false) : EvStep Try.prog cf 0 (lp Try.prog 39 0) (iAlike_L0_S a b s1) (iAlike_L0_S a b ((wr (s1 + (1 : Int))))) :=
  leafS vw_eq (k := 300) (r := []) (hs := hz [(1, [.yes]), (1, [.yes, .yes, .cells ((Ce.cells (ceAt a (Int.toNat s1))))]), (2, [.yes, .cells (((AV.i (ceAt a (Int.toNat s1)).kind) :: (AV.i (ceAt a (Int.toNat s1)).gen) :: (List.map AV.y (pad 32 (ceAt a (Int.toNat s1)).d))))]), (2, [.yes, .yes, .cells ((Ce.cells (ceAt b (Int.toNat s1))))]), (1, [.yes, .cells (((AV.i (ceAt b (Int.toNat s1)).kind) :: (AV.i (ceAt b (Int.toNat s1)).gen) :: (List.map AV.y (pad 32 (ceAt b (Int.toNat s1)).d))))]), (1, [.yes, .cells (((AV.i (ceAt a (Int.toNat s1)).kind) :: (AV.i (ceAt a (Int.toNat s1)).gen) :: (List.map AV.y (pad 32 (ceAt a (Int.toNat s1)).d)))), .yes, .cells (((AV.i (ceAt b (Int.toNat s1)).kind) :: (AV.i (ceAt b (Int.toNat s1)).gen) :: (List.map AV.y (pad 32 (ceAt b (Int.toNat s1)).d))))]), (9, [.cells (((AV.i (ceAt b (Int.toNat s1)).kind) :: (AV.i (ceAt a (Int.toNat s1)).gen) :: (List.map AV.y (pad 32 (ceAt b (Int.toNat s1)).d)))), .yes, .cells (((AV.i (ceAt a (Int.toNat s1)).kind) :: (AV.i (ceAt a (Int.toNat s1)).gen) :: (List.map AV.y (pad 32 (ceAt a (Int.toNat s1)).d)))), .yes, .cells (((AV.i (ceAt b (Int.toNat s1)).kind) :: (AV.i (ceAt a (Int.toNat s1)).gen) :: (List.map AV.y (pad 32 (ceAt b (Int.toNat s1)).d)))), .yes, .truth ((((ceAt a (Int.toNat s1)).kind == (ceAt b (Int.toNat s1)).kind) && (((ceAt a (Int.toNat s1)).gen == (ceAt a (Int.toNat s1)).gen) && ((pad 32 (ceAt a (Int.toNat s1)).d) == (pad 32 (ceAt b (Int.toNat s1)).d)))))]), (2, [.no]), (2, [])]) (st1 := (St.mk [(0, (AV.sl (List.length a) (List.flatMap Ce.cells a))), (1, (AV.sl (List.length b) (List.flatMap Ce.cells b))), (2, (AV.fn (40 : Nat) ([] : List AV))), (14, (AV.b ((↑(List.length a) : Int) != (↑(List.length b) : Int)))), (15, (AV.sl (List.length a) (List.flatMap Ce.cells a))), (16, (AV.i (↑(List.length a) : Int))), (17, (AV.i (wr (s1 + (1 : Int))))), (18, (AV.b (decide (s1 < (↑(List.length a) : Int))))), (19, (AV.i s1)), (20, (AV.ip (List.drop ((Int.toNat s1) * (34 : Nat)) (List.flatMap Ce.cells a)))), (21, (AV.ag (Ce.cells (ceAt a (Int.toNat s1))))), (8, (AV.pt 0 0)), (7, (AV.i s1)), (22, (AV.sl (List.length b) (List.flatMap Ce.cells b))), (23, (AV.i s1)), (24, (AV.ip (List.drop ((Int.toNat s1) * (34 : Nat)) (List.flatMap Ce.cells b)))), (25, (AV.ag (Ce.cells (ceAt b (Int.toNat s1))))), (9, (AV.pt 1 0)), (26, (AV.fn (40 : Nat) ([] : List AV))), (27, (AV.ag ((AV.i (ceAt a (Int.toNat s1)).kind) :: (AV.i (ceAt a (Int.toNat s1)).gen) :: (List.map AV.y (pad 32 (ceAt a (Int.toNat s1)).d))))), (28, (AV.ag ((AV.i (ceAt b (Int.toNat s1)).kind) :: (AV.i (ceAt b (Int.toNat s1)).gen) :: (List.map AV.y (pad 32 (ceAt b (Int.toNat s1)).d))))), (29, (AV.b (((ceAt a (Int.toNat s1)).kind == (ceAt b (Int.toNat s1)).kind) && (((ceAt a (Int.toNat s1)).gen == (ceAt a (Int.toNat s1)).gen) && ((pad 32 (ceAt a (Int.toNat s1)).d) == (pad 32 (ceAt b (Int.toNat s1)).d)))))), (30, (AV.b (!(((ceAt a (Int.toNat s1)).kind == (ceAt b (Int.toNat s1)).kind) && (((ceAt a (Int.toNat s1)).gen == (ceAt a (Int.toNat s1)).gen) && ((pad 32 (ceAt a (Int.toNat s1)).d) == (pad 32 (ceAt b (Int.toNat s1)).d))))))), (31, (AV.i (wr (s1 + (1 : Int)))))] 32 (AH.mk 4 [(3, (AObj.cells ((AV.i (ceAt b (Int.toNat s1)).kind) :: (AV.i (ceAt a (Int.toNat s1)).gen) :: (List.map AV.y (pad 32 (ceAt b (Int.toNat s1)).d))))), (2, (AObj.cells ((AV.i (ceAt a (Int.toNat s1)).kind) :: (AV.i (ceAt a (Int.toNat s1)).gen) :: (List.map AV.y (pad 32 (ceAt a (Int.toNat s1)).d))))), (1, (AObj.cells ((AV.i (ceAt b (Int.toNat s1)).kind) :: (AV.i (ceAt b (Int.toNat s1)).gen) :: (List.map AV.y (pad 32 (ceAt b (Int.toNat s1)).d))))), (0, (AObj.cells ((AV.i (ceAt a (Int.toNat s1)).kind) :: (AV.i (ceAt a (Int.toNat s1)).gen) :: (List.map AV.y (pad 32 (ceAt a (Int.toNat s1)).d)))))]) Bool.false)) (ps := [((decide (s1 < (↑(List.length a) : Int)))) = true, (((0 : Int) ≤ s1) ∧ (s1 < (↑(List.length a) : Int))), ((34 : Nat) ≤ (List.length (List.drop ((Int.toNat s1) * (34 : Nat)) (List.flatMap Ce.cells a)))), (List.take 34 (List.drop ((Int.toNat s1) * (34 : Nat)) (List.flatMap Ce.cells a))) = (Ce.cells (ceAt a (Int.toNat s1))), (((List.length ((AV.i (ceAt a (Int.toNat s1)).kind) :: (AV.i (ceAt a (Int.toNat s1)).gen) :: (List.map AV.y (pad 32 (ceAt a (Int.toNat s1)).d)))) = (34 : Nat)) ∧ (((0 : Nat) + (List.length ((AV.i (ceAt a (Int.toNat s1)).kind) :: (AV.i (ceAt a (Int.toNat s1)).gen) :: (List.map AV.y (pad 32 (ceAt a (Int.toNat s1)).d))))) ≤ (34 : Nat))), (over ((AV.i (Int.ofNat 0)) :: (AV.i (Int.ofNat 0)) :: List.replicate (32 : Nat) (AV.y (UInt8.ofNat (0 : Nat)))) 0 ((AV.i (ceAt a (Int.toNat s1)).kind) :: (AV.i (ceAt a (Int.toNat s1)).gen) :: (List.map AV.y (pad 32 (ceAt a (Int.toNat s1)).d)))) = ((AV.i (ceAt a (Int.toNat s1)).kind) :: (AV.i (ceAt a (Int.toNat s1)).gen) :: (List.map AV.y (pad 32 (ceAt a (Int.toNat s1)).d))), (((0 : Int) ≤ s1) ∧ (s1 < (↑(List.length b) : Int))), ((34 : Nat) ≤ (List.length (List.drop ((Int.toNat s1) * (34 : Nat)) (List.flatMap Ce.cells b)))), (List.take 34 (List.drop ((Int.toNat s1) * (34 : Nat)) (List.flatMap Ce.cells b))) = (Ce.cells (ceAt b (Int.toNat s1))), (((List.length ((AV.i (ceAt b (Int.toNat s1)).kind) :: (AV.i (ceAt b (Int.toNat s1)).gen) :: (List.map AV.y (pad 32 (ceAt b (Int.toNat s1)).d)))) = (34 : Nat)) ∧ (((0 : Nat) + (List.length ((AV.i (ceAt b (Int.toNat s1)).kind) :: (AV.i (ceAt b (Int.toNat s1)).gen) :: (List.map AV.y (pad 32 (ceAt b (Int.toNat s1)).d))))) ≤ (34 : Nat))), (over ((AV.i (Int.ofNat 0)) :: (AV.i (Int.ofNat 0)) :: List.replicate (32 : Nat) (AV.y (UInt8.ofNat (0 : Nat)))) 0 ((AV.i (ceAt b (Int.toNat s1)).kind) :: (AV.i (ceAt b (Int.toNat s1)).gen) :: (List.map AV.y (pad 32 (ceAt b (Int.toNat s1)).d)))) = ((AV.i (ceAt b (Int.toNat s1)).kind) :: (AV.i (ceAt b (Int.toNat s1)).gen) :: (List.map AV.y (pad 32 (ceAt b (Int.toNat s1)).d))), ((34 : Nat) ≤ (List.length ((AV.i (ceAt a (Int.toNat s1)).kind) :: (AV.i (ceAt a (Int.toNat s1)).gen) :: (List.map AV.y (pad 32 (ceAt a (Int.toNat s1)).d))))), (List.take 34 ((AV.i (ceAt a (Int.toNat s1)).kind) :: (AV.i (ceAt a (Int.toNat s1)).gen) :: (List.map AV.y (pad 32 (ceAt a (Int.toNat s1)).d)))) = ((AV.i (ceAt a (Int.toNat s1)).kind) :: (AV.i (ceAt a (Int.toNat s1)).gen) :: (List.map AV.y (pad 32 (ceAt a (Int.toNat s1)).d))), ((34 : Nat) ≤ (List.length ((AV.i (ceAt b (Int.toNat s1)).kind) :: (AV.i (ceAt b (Int.toNat s1)).gen) :: (List.map AV.y (pad 32 (ceAt b (Int.toNat s1)).d))))), (List.take 34 ((AV.i (ceAt b (Int.toNat s1)).kind) :: (AV.i (ceAt b (Int.toNat s1)).gen) :: (List.map AV.y (pad 32 (ceAt b (Int.toNat s1)).d)))) = ((AV.i (ceAt b (Int.toNat s1)).kind) :: (AV.i (ceAt b (Int.toNat s1)).gen) :: (List.map AV.y (pad 32 (ceAt b (Int.toNat s1)).d))), (over ((AV.i (ceAt b (Int.toNat s1)).kind) :: (AV.i (ceAt b (Int.toNat s1)).gen) :: (List.map AV.y (pad 32 (ceAt b (Int.toNat s1)).d))) 1 [(AV.i (ceAt a (Int.toNat s1)).gen)]) = ((AV.i (ceAt b (Int.toNat s1)).kind) :: (AV.i (ceAt a (Int.toNat s1)).gen) :: (List.map AV.y (pad 32 (ceAt b (Int.toNat s1)).d))), ((34 : Nat) ≤ (List.length ((AV.i (ceAt a (Int.toNat s1)).kind) :: (AV.i (ceAt a (Int.toNat s1)).gen) :: (List.map AV.y (pad 32 (ceAt a (Int.toNat s1)).d))))), (List.take 34 ((AV.i (ceAt a (Int.toNat s1)).kind) :: (AV.i (ceAt a (Int.toNat s1)).gen) :: (List.map AV.y (pad 32 (ceAt a (Int.toNat s1)).d)))) = ((AV.i (ceAt a (Int.toNat s1)).kind) :: (AV.i (ceAt a (Int.toNat s1)).gen) :: (List.map AV.y (pad 32 (ceAt a (Int.toNat s1)).d))), ((34 : Nat) ≤ (List.length ((AV.i (ceAt b (Int.toNat s1)).kind) :: (AV.i (ceAt a (Int.toNat s1)).gen) :: (List.map AV.y (pad 32 (ceAt b (Int.toNat s1)).d))))), (List.take 34 ((AV.i (ceAt b (Int.toNat s1)).kind) :: (AV.i (ceAt a (Int.toNat s1)).gen) :: (List.map AV.y (pad 32 (ceAt b (Int.toNat s1)).d)))) = ((AV.i (ceAt b (Int.toNat s1)).kind) :: (AV.i (ceAt a (Int.toNat s1)).gen) :: (List.map AV.y (pad 32 (ceAt b (Int.toNat s1)).d))), (((List.length ((AV.i (ceAt a (Int.toNat s1)).kind) :: (AV.i (ceAt a (Int.toNat s1)).gen) :: (List.map AV.y (pad 32 (ceAt a (Int.toNat s1)).d)))) = (34 : Nat)) ∧ ((List.length ((AV.i (ceAt b (Int.toNat s1)).kind) :: (AV.i (ceAt a (Int.toNat s1)).gen) :: (List.map AV.y (pad 32 (ceAt b (Int.toNat s1)).d)))) = (34 : Nat))), eqCells (((AV.i (ceAt a (Int.toNat s1)).kind) :: (AV.i (ceAt a (Int.toNat s1)).gen) :: (List.map AV.y (pad 32 (ceAt a (Int.toNat s1)).d)))) (((AV.i (ceAt b (Int.toNat s1)).kind) :: (AV.i (ceAt a (Int.toNat s1)).gen) :: (List.map AV.y (pad 32 (ceAt b (Int.toNat s1)).d)))) = some ((((ceAt a (Int.toNat s1)).kind == (ceAt b (Int.toNat s1)).kind) && (((ceAt a (Int.toNat s1)).gen == (ceAt a (Int.toNat s1)).gen) && ((pad 32 (ceAt a (Int.toNat s1)).d) == (pad 32 (ceAt b (Int.toNat s1)).d))))), ((!(((ceAt a (Int.toNat s1)).kind == (ceAt b (Int.toNat s1)).kind) && (((ceAt a (Int.toNat s1)).gen == (ceAt a (Int.toNat s1)).gen) && ((pad 32 (ceAt a (Int.toNat s1)).d) == (pad 32 (ceAt b (Int.toNat s1)).d)))))) = false]) kq ⟨h2, h3, fq, (by first | exact ce_take _ _ bq | (simpa using ce_take _ _ bq) | ((try simp only [List.drop_drop]); rw [show ((Int.toNat s1) * (34 : Nat)) = ((Int.toNat s1)) * 34 by omega]; exact ce_take _ _ bq)), tq, (over_all tq), h4, fq, (by first | exact ce_take _ _ bq | (simpa using ce_take _ _ bq) | ((try simp only [List.drop_drop]); rw [show ((Int.toNat s1) * (34 : Nat)) = ((Int.toNat s1)) * 34 by omega]; exact ce_take _ _ bq)), tq, (over_all tq), tq, (List.take_of_length_le tq), tq, (List.take_of_length_le tq), rfl, tq, (List.take_of_length_le tq), tq, (List.take_of_length_le tq), tq, (eqCells_ci (eqCells_ci (eqCells_of tq tq tq))), h5, trivial⟩ (Nat.le_of_ble_eq_true rfl) (absB_of [] [] kq (.consn kq (.eqv tq rfl) (.consn kq (.eqv tq rfl) (.consn kq (.fn .nil) (.consn kq (.eqv tq rfl) (.consn kq (.eqv tq rfl) (.consn kq (.eqv tq rfl) (.consn kq (.eqv tq rfl) .nil))))))) .nil)
theorem iAlike_L0_ok (a : List Ce) (b : List Ce) (s1 zz : Int) : iAlike_L0_step a b s1 = some zz → EvStep Try.prog cf 0 (lp Try.prog 39 0) (iAlike_L0_S a b s1) (iAlike_L0_S a b zz) := by
  unfold iAlike_L0_step
  refine tb_ok (fun h2 => ?_) (fun h2 => ?_)
  ·
    have h2p := of_decide_eq_true h2
    refine tp_ok (fun h3 => ?_)
    refine tp_ok (fun h4 => ?_)
    refine tb_ok (fun h5 => ?_) (fun h5 => ?_)
    ·
      exact fun e => nomatch e
    ·
      exact fun e => tl_ok (G := (fun zz => EvStep Try.prog cf 0 (lp Try.prog 39 0) (iAlike_L0_S a b s1) (iAlike_L0_S a b zz))) (iAlike_L0_s0 a b s1 h2 h2p h3 h4 h5) e
  ·
    have h2p := of_decide_eq_false h2
    exact fun e => nomatch e
/-- Function 19, as it answers. -/
noncomputable def iAlike (a : List Ce) (b : List Ce) : Option (Bool) :=
 (tb (((↑(List.length a) : Int) != (↑(List.length b) : Int)))
  (some (Bool.false))
  (th (iAlike_L0_step a b) ((0 : Int)) fun s1 =>
   (tb ((decide (s1 < (↑(List.length a) : Int))))
    (tp ((((0 : Int) ≤ s1) ∧ (s1 < (↑(List.length a) : Int))))
     (tb ((!(((ceAt a (Int.toNat s1)).kind == (ceAt b (Int.toNat s1)).kind) && (((ceAt a (Int.toNat s1)).gen == (ceAt a (Int.toNat s1)).gen) && ((pad 32 (ceAt a (Int.toNat s1)).d) == (pad 32 (ceAt b (Int.toNat s1)).d))))))
      (some (Bool.false))
      none /- stop behind an operation -/))
    (some (Bool.true)))))
abbrev iAlike_G (a : List Ce) (b : List Ce) (r : Bool) : Prop := EvFr Try.prog cf true 19 [ces (a), ces (b)] (.b (r))
theorem iAlike_l0 (a : List Ce) (b : List Ce) (h0 : (((↑(List.length a) : Int) != (↑(List.length b) : Int))) = true) (h0p : ¬ ((↑(List.length a) : Int) = (↑(List.length b) : Int))) : iAlike_G a b (Bool.false) :=
  leafR vw_eq (k := 300) (r := []) (hs := hz [(10, [.yes]), (2, [])]) (raw := (AV.b Bool.false)) (ps := [(((↑(List.length a) : Int) != (↑(List.length b) : Int))) = true]) kq ⟨h0, trivial⟩ tq
theorem iAlike_l1 (a : List Ce) (b : List Ce) (h0 : (((↑(List.length a) : Int) != (↑(List.length b) : Int))) = false) (h0p : ((↑(List.length a) : Int) = (↑(List.length b) : Int))) (s1 : Int) (h1 : Runs (iAlike_L0_step a b) ((0 : Int)) s1) (h2 : ((decide (s1 < (↑(List.length a) : Int)))) = true) (h2p : (s1 < (↑(List.length a) : Int))) (h3 : (((0 : Int) ≤ s1) ∧ (s1 < (↑(List.length a) : Int)))) (h4 : ((!(((ceAt a (Int.toNat s1)).kind == (ceAt b (Int.toNat s1)).kind) && (((ceAt a (Int.toNat s1)).gen == (ceAt a (Int.toNat s1)).gen) && ((pad 32 (ceAt a (Int.toNat s1)).d) == (pad 32 (ceAt b (Int.toNat s1)).d)))))) = true) : iAlike_G a b (Bool.false) :=
  leafR vw_eq (k := 300) (r := []) (hs := hz [(10, [.no]), (3, [.head (iAlike_L0_S a b s1)]), (1, [.yes]), (1, [.yes, .yes, .cells ((Ce.cells (ceAt a (Int.toNat s1))))]), (2, [.yes, .cells (((AV.i (ceAt a (Int.toNat s1)).kind) :: (AV.i (ceAt a (Int.toNat s1)).gen) :: (List.map AV.y (pad 32 (ceAt a (Int.toNat s1)).d))))]), (2, [.yes, .yes, .cells ((Ce.cells (ceAt b (Int.toNat s1))))]), (1, [.yes, .cells (((AV.i (ceAt b (Int.toNat s1)).kind) :: (AV.i (ceAt b (Int.toNat s1)).gen) :: (List.map AV.y (pad 32 (ceAt b (Int.toNat s1)).d))))]), (1, [.yes, .cells (((AV.i (ceAt a (Int.toNat s1)).kind) :: (AV.i (ceAt a (Int.toNat s1)).gen) :: (List.map AV.y (pad 32 (ceAt a (Int.toNat s1)).d)))), .yes, .cells (((AV.i (ceAt b (Int.toNat s1)).kind) :: (AV.i (ceAt b (Int.toNat s1)).gen) :: (List.map AV.y (pad 32 (ceAt b (Int.toNat s1)).d))))]), (9, [.cells (((AV.i (ceAt b (Int.toNat s1)).kind) :: (AV.i (ceAt a (Int.toNat s1)).gen) :: (List.map AV.y (pad 32 (ceAt b (Int.toNat s1)).d)))), .yes, .cells (((AV.i (ceAt a (Int.toNat s1)).kind) :: (AV.i (ceAt a (Int.toNat s1)).gen) :: (List.map AV.y (pad 32 (ceAt a (Int.toNat s1)).d)))), .yes, .cells (((AV.i (ceAt b (Int.toNat s1)).kind) :: (AV.i (ceAt a (Int.toNat s1)).gen) :: (List.map AV.y (pad 32 (ceAt b (Int.toNat s1)).d)))), .yes, .truth ((((ceAt a (Int.toNat s1)).kind == (ceAt b (Int.toNat s1)).kind) && (((ceAt a (Int.toNat s1)).gen == (ceAt a (Int.toNat s1)).gen) && ((pad 32 (ceAt a (Int.toNat s1)).d) == (pad 32 (ceAt b (Int.toNat s1)).d)))))]), (2, [.yes]), (2, [])]) (raw := (AV.b Bool.false)) (ps := [(((↑(List.length a) : Int) != (↑(List.length b) : Int))) = false, EvHead Try.prog cf (lp Try.prog 39 0) (iAlike_L0_I a b) (iAlike_L0_S a b s1), ((decide (s1 < (↑(List.length a) : Int)))) = true, (((0 : Int) ≤ s1) ∧ (s1 < (↑(List.length a) : Int))), ((34 : Nat) ≤ (List.length (List.drop ((Int.toNat s1) * (34 : Nat)) (List.flatMap Ce.cells a)))), (List.take 34 (List.drop ((Int.toNat s1) * (34 : Nat)) (List.flatMap Ce.cells a))) = (Ce.cells (ceAt a (Int.toNat s1))), (((List.length ((AV.i (ceAt a (Int.toNat s1)).kind) :: (AV.i (ceAt a (Int.toNat s1)).gen) :: (List.map AV.y (pad 32 (ceAt a (Int.toNat s1)).d)))) = (34 : Nat)) ∧ (((0 : Nat) + (List.length ((AV.i (ceAt a (Int.toNat s1)).kind) :: (AV.i (ceAt a (Int.toNat s1)).gen) :: (List.map AV.y (pad 32 (ceAt a (Int.toNat s1)).d))))) ≤ (34 : Nat))), (over ((AV.i (Int.ofNat 0)) :: (AV.i (Int.ofNat 0)) :: List.replicate (32 : Nat) (AV.y (UInt8.ofNat (0 : Nat)))) 0 ((AV.i (ceAt a (Int.toNat s1)).kind) :: (AV.i (ceAt a (Int.toNat s1)).gen) :: (List.map AV.y (pad 32 (ceAt a (Int.toNat s1)).d)))) = ((AV.i (ceAt a (Int.toNat s1)).kind) :: (AV.i (ceAt a (Int.toNat s1)).gen) :: (List.map AV.y (pad 32 (ceAt a (Int.toNat s1)).d))), (((0 : Int) ≤ s1) ∧ (s1 < (↑(List.length b) : Int))), ((34 : Nat) ≤ (List.length (List.drop ((Int.toNat s1) * (34 : Nat)) (List.flatMap Ce.cells b)))), (List.take 34 (List.drop ((Int.toNat s1) * (34 : Nat)) (List.flatMap Ce.cells b))) = (Ce.cells (ceAt b (Int.toNat s1))), (((List.length ((AV.i (ceAt b (Int.toNat s1)).kind) :: (AV.i (ceAt b (Int.toNat s1)).gen) :: (List.map AV.y (pad 32 (ceAt b (Int.toNat s1)).d)))) = (34 : Nat)) ∧ (((0 : Nat) + (List.length ((AV.i (ceAt b (Int.toNat s1)).kind) :: (AV.i (ceAt b (Int.toNat s1)).gen) :: (List.map AV.y (pad 32 (ceAt b (Int.toNat s1)).d))))) ≤ (34 : Nat))), (over ((AV.i (Int.ofNat 0)) :: (AV.i (Int.ofNat 0)) :: List.replicate (32 : Nat) (AV.y (UInt8.ofNat (0 : Nat)))) 0 ((AV.i (ceAt b (Int.toNat s1)).kind) :: (AV.i (ceAt b (Int.toNat s1)).gen) :: (List.map AV.y (pad 32 (ceAt b (Int.toNat s1)).d)))) = ((AV.i (ceAt b (Int.toNat s1)).kind) :: (AV.i (ceAt b (Int.toNat s1)).gen) :: (List.map AV.y (pad 32 (ceAt b (Int.toNat s1)).d))), ((34 : Nat) ≤ (List.length ((AV.i (ceAt a (Int.toNat s1)).kind) :: (AV.i (ceAt a (Int.toNat s1)).gen) :: (List.map AV.y (pad 32 (ceAt a (Int.toNat s1)).d))))), (List.take 34 ((AV.i (ceAt a (Int.toNat s1)).kind) :: (AV.i (ceAt a (Int.toNat s1)).gen) :: (List.map AV.y (pad 32 (ceAt a (Int.toNat s1)).d)))) = ((AV.i (ceAt a (Int.toNat s1)).kind) :: (AV.i (ceAt a (Int.toNat s1)).gen) :: (List.map AV.y (pad 32 (ceAt a (Int.toNat s1)).d))), ((34 : Nat) ≤ (List.length ((AV.i (ceAt b (Int.toNat s1)).kind) :: (AV.i (ceAt b (Int.toNat s1)).gen) :: (List.map AV.y (pad 32 (ceAt b (Int.toNat s1)).d))))), (List.take 34 ((AV.i (ceAt b (Int.toNat s1)).kind) :: (AV.i (ceAt b (Int.toNat s1)).gen) :: (List.map AV.y (pad 32 (ceAt b (Int.toNat s1)).d)))) = ((AV.i (ceAt b (Int.toNat s1)).kind) :: (AV.i (ceAt b (Int.toNat s1)).gen) :: (List.map AV.y (pad 32 (ceAt b (Int.toNat s1)).d))), (over ((AV.i (ceAt b (Int.toNat s1)).kind) :: (AV.i (ceAt b (Int.toNat s1)).gen) :: (List.map AV.y (pad 32 (ceAt b (Int.toNat s1)).d))) 1 [(AV.i (ceAt a (Int.toNat s1)).gen)]) = ((AV.i (ceAt b (Int.toNat s1)).kind) :: (AV.i (ceAt a (Int.toNat s1)).gen) :: (List.map AV.y (pad 32 (ceAt b (Int.toNat s1)).d))), ((34 : Nat) ≤ (List.length ((AV.i (ceAt a (Int.toNat s1)).kind) :: (AV.i (ceAt a (Int.toNat s1)).gen) :: (List.map AV.y (pad 32 (ceAt a (Int.toNat s1)).d))))), (List.take 34 ((AV.i (ceAt a (Int.toNat s1)).kind) :: (AV.i (ceAt a (Int.toNat s1)).gen) :: (List.map AV.y (pad 32 (ceAt a (Int.toNat s1)).d)))) = ((AV.i (ceAt a (Int.toNat s1)).kind) :: (AV.i (ceAt a (Int.toNat s1)).gen) :: (List.map AV.y (pad 32 (ceAt a (Int.toNat s1)).d))), ((34 : Nat) ≤ (List.length ((AV.i (ceAt b (Int.toNat s1)).kind) :: (AV.i (ceAt a (Int.toNat s1)).gen) :: (List.map AV.y (pad 32 (ceAt b (Int.toNat s1)).d))))), (List.take 34 ((AV.i (ceAt b (Int.toNat s1)).kind) :: (AV.i (ceAt a (Int.toNat s1)).gen) :: (List.map AV.y (pad 32 (ceAt b (Int.toNat s1)).d)))) = ((AV.i (ceAt b (Int.toNat s1)).kind) :: (AV.i (ceAt a (Int.toNat s1)).gen) :: (List.map AV.y (pad 32 (ceAt b (Int.toNat s1)).d))), (((List.length ((AV.i (ceAt a (Int.toNat s1)).kind) :: (AV.i (ceAt a (Int.toNat s1)).gen) :: (List.map AV.y (pad 32 (ceAt a (Int.toNat s1)).d)))) = (34 : Nat)) ∧ ((List.length ((AV.i (ceAt b (Int.toNat s1)).kind) :: (AV.i (ceAt a (Int.toNat s1)).gen) :: (List.map AV.y (pad 32 (ceAt b (Int.toNat s1)).d)))) = (34 : Nat))), eqCells (((AV.i (ceAt a (Int.toNat s1)).kind) :: (AV.i (ceAt a (Int.toNat s1)).gen) :: (List.map AV.y (pad 32 (ceAt a (Int.toNat s1)).d)))) (((AV.i (ceAt b (Int.toNat s1)).kind) :: (AV.i (ceAt a (Int.toNat s1)).gen) :: (List.map AV.y (pad 32 (ceAt b (Int.toNat s1)).d)))) = some ((((ceAt a (Int.toNat s1)).kind == (ceAt b (Int.toNat s1)).kind) && (((ceAt a (Int.toNat s1)).gen == (ceAt a (Int.toNat s1)).gen) && ((pad 32 (ceAt a (Int.toNat s1)).d) == (pad 32 (ceAt b (Int.toNat s1)).d))))), ((!(((ceAt a (Int.toNat s1)).kind == (ceAt b (Int.toNat s1)).kind) && (((ceAt a (Int.toNat s1)).gen == (ceAt a (Int.toNat s1)).gen) && ((pad 32 (ceAt a (Int.toNat s1)).d) == (pad 32 (ceAt b (Int.toNat s1)).d)))))) = true]) kq ⟨h0, (EvHead.of (iAlike_L0_ok a b) (absB_of [] [] kq (.consn kq (.eqv tq rfl) (.consn kq (.eqv tq rfl) (.consn kq (.fn .nil) (.consn kq (.eqv tq rfl) (.consn kq (.eqv tq rfl) (.consn kq (.eqv tq rfl) (.consn kq (.eqv tq rfl) .nil))))))) .nil) h1), h2, h3, fq, (by first | exact ce_take _ _ bq | (simpa using ce_take _ _ bq) | ((try simp only [List.drop_drop]); rw [show ((Int.toNat s1) * (34 : Nat)) = ((Int.toNat s1)) * 34 by omega]; exact ce_take _ _ bq)), tq, (over_all tq), fq, fq, (by first | exact ce_take _ _ bq | (simpa using ce_take _ _ bq) | ((try simp only [List.drop_drop]); rw [show ((Int.toNat s1) * (34 : Nat)) = ((Int.toNat s1)) * 34 by omega]; exact ce_take _ _ bq)), tq, (over_all tq), tq, (List.take_of_length_le tq), tq, (List.take_of_length_le tq), rfl, tq, (List.take_of_length_le tq), tq, (List.take_of_length_le tq), tq, (eqCells_ci (eqCells_ci (eqCells_of tq tq tq))), h4, trivial⟩ tq
theorem iAlike_l2 (a : List Ce) (b : List Ce) (h0 : (((↑(List.length a) : Int) != (↑(List.length b) : Int))) = false) (h0p : ((↑(List.length a) : Int) = (↑(List.length b) : Int))) (s1 : Int) (h1 : Runs (iAlike_L0_step a b) ((0 : Int)) s1) (h2 : ((decide (s1 < (↑(List.length a) : Int)))) = false) (h2p : ¬ (s1 < (↑(List.length a) : Int))) : iAlike_G a b (Bool.true) :=
  leafR vw_eq (k := 300) (r := []) (hs := hz [(10, [.no]), (3, [.head (iAlike_L0_S a b s1)]), (1, [.no]), (2, [])]) (raw := (AV.b Bool.true)) (ps := [(((↑(List.length a) : Int) != (↑(List.length b) : Int))) = false, EvHead Try.prog cf (lp Try.prog 39 0) (iAlike_L0_I a b) (iAlike_L0_S a b s1), ((decide (s1 < (↑(List.length a) : Int)))) = false]) kq ⟨h0, (EvHead.of (iAlike_L0_ok a b) (absB_of [] [] kq (.consn kq (.eqv tq rfl) (.consn kq (.eqv tq rfl) (.consn kq (.fn .nil) (.consn kq (.eqv tq rfl) (.consn kq (.eqv tq rfl) (.consn kq (.eqv tq rfl) (.consn kq (.eqv tq rfl) .nil))))))) .nil) h1), h2, trivial⟩ tq
theorem iAlike_ok (a : List Ce) (b : List Ce) (r : Bool) : iAlike a b = some r → iAlike_G a b r := by
  unfold iAlike
  refine tb_ok (fun h0 => ?_) (fun h0 => ?_)
  ·
    have h0p := bne_iff_ne.1 h0
    exact fun e => tl_ok (G := iAlike_G a b) (iAlike_l0 a b h0 h0p) e
  ·
    have h0p := bne_eq_false_iff_eq.1 h0
    refine th_ok (fun s1 h1 => ?_)
    refine tb_ok (fun h2 => ?_) (fun h2 => ?_)
    ·
      have h2p := of_decide_eq_true h2
      refine tp_ok (fun h3 => ?_)
      refine tb_ok (fun h4 => ?_) (fun h4 => ?_)
      ·
        exact fun e => tl_ok (G := iAlike_G a b) (iAlike_l1 a b h0 h0p s1 h1 h2 h2p h3 h4) e
      ·
        exact fun e => nomatch e
    ·
      have h2p := of_decide_eq_false h2
      exact fun e => tl_ok (G := iAlike_G a b) (iAlike_l2 a b h0 h0p s1 h1 h2 h2p) e
end Ab
end Go.Proofs.Ytadipihpgcelmaa
namespace Go.Proofs.Ytadipihpgcelmaa
open Go Go.Proofs.Ytadipihpgcelmaa.Ab
set_option linter.unusedVariables false
set_option linter.unusedSimpArgs false
namespace Ab
/-- Blocks of which some, one behind the other, are others. -/
def putN (l : List Ce) (s : Nat) (f : Nat → Ce) : Nat → List Ce
  | 0 => l
  | i + 1 => (putN l s f i).set (s + i) (f i)
theorem putN_len (l : List Ce) (s : Nat) (f : Nat → Ce) : ∀ i, (putN l s f i).length = l.length
  | 0 => rfl
  | i + 1 => by rw [putN, List.length_set, putN_len l s f i]
theorem putN_get (l : List Ce) (s : Nat) (f : Nat → Ce) : ∀ n, s + n ≤ l.length → ∀ j, (putN l s f n)[j]? = if s ≤ j ∧ j < s + n then some (f (j - s)) else l[j]?
  | 0, _, j => by rw [putN, if_neg (by omega)]
  | n + 1, h, j => by
    rw [putN, List.getElem?_set, putN_get l s f n (by omega) j, putN_len]
    by_cases h1 : s + n = j
    · subst h1
      rw [if_pos rfl, if_pos (by omega), if_pos (by omega)]
      congr 2; omega
    · rw [if_neg h1]
      by_cases h2 : s ≤ j ∧ j < s + n
      · rw [if_pos h2, if_pos (by omega)]
      · rw [if_neg h2, if_neg (by omega)]
theorem putN_at (l : List Ce) (s : Nat) (f : Nat → Ce) (n : Nat) (h : s + n ≤ l.length) (j : Nat) : ceAt (putN l s f n) j = if s ≤ j ∧ j < s + n then f (j - s) else ceAt l j := by
  unfold ceAt
  rw [List.getD_eq_getElem?_getD, putN_get l s f n h j]
  split
  · rfl
  · rw [List.getD_eq_getElem?_getD]
theorem putN_mem {l : List Ce} {s : Nat} {f : Nat → Ce} {n : Nat} (P : Ce → Prop) (hl : ∀ c ∈ l, P c) (hf : ∀ i, i < n → P (f i)) (h : s + n ≤ l.length) : ∀ c ∈ putN l s f n, P c := by
  refine (ceAt_all _ P).1 fun i hi => ?_
  rw [putN_len] at hi
  rw [putN_at l s f n h i]
  split
  · exact hf _ (by omega)
  · exact (ceAt_all l P).2 hl i hi
def z32 : List UInt8 := List.replicate 32 0
def fillF_ (kind gen : Int) : Nat → Ce := fun _ => ⟨kind, gen, z32⟩
def fillS (l : List Ce) (lba n kind gen : Int) : List Ce × Int :=
  if CkI l then (if Fits l lba n ∧ (0 ≤ kind ∧ kind ≤ 1) ∧ (0 ≤ gen ∧ gen ≤ 2147483647) then (putN l lba.toNat (fillF_ kind gen) n.toNat, 0) else (l, 81)) else ([], 90)
theorem iFill_eq (l : List Ce) (lba n kind gen : Int) (hl : l.length ≤ 4294967296) : iFill l lba n kind gen = some (fillS l lba n kind gen) := by
  unfold iFill fillS
  simp only [iWithin_eq, iCheck_eq l hl, tc_some, tb_not, tb_dec, ces_len]
  have p1 : l.length * 34 = l.length * 34 := rfl
  by_cases hc : CkI l
  case neg =>
    by_cases hk : 0 ≤ kind ∧ kind ≤ 1
    · simp only [if_pos hk, if_neg hc]
    · simp only [if_neg hk, if_neg hc]
  have h64 := hc.2.1
  simp only [if_pos hc]
  by_cases hk : 0 ≤ kind ∧ kind ≤ 1
  case neg =>
    rw [if_neg hk, if_neg fun q => hk q.2.1, tp_pos (by first | rfl | trivial), tp_pos (by omega), tp_pos (by simp)]
  rw [if_pos hk, tp_pos (by first | rfl | trivial), tp_pos (by omega)]
  by_cases hg : 0 ≤ gen ∧ gen ≤ 2147483647
  case neg => rw [if_neg hg, if_neg fun q => hg q.2.2, tp_pos (by simp)]
  rw [if_pos hg]
  by_cases h1 : 0 ≤ lba ∧ lba ≤ l.length
  case neg => rw [if_neg h1, if_neg fun q => h1 ⟨q.1.1, q.1.2.1⟩, tp_pos (by simp)]
  rw [if_pos h1, wr_id (x := (l.length : Int) - lba) (by omega) (by omega)]
  by_cases h2 : 1 ≤ n ∧ n ≤ l.length - lba
  case neg => rw [if_neg h2, if_neg fun q => h2 q.1.2.2, tp_pos (by simp)]
  rw [if_pos h2, if_pos ⟨⟨h1.1, h1.2, h2.1, h2.2⟩, hk, hg⟩]
  have := th_run (step := iFill_L0_step l lba n kind gen true true true true true) (f := fun s12 => if s12.1 < n then none else tp (0 = 0 ∧ s12.2.length * 34 = l.length * 34) (some (s12.2, (0 : Int)))) (fun i => ((i : Int), putN l lba.toNat (fillF_ kind gen) i)) n.toNat ?_ ?_
  · simp only [Int.natCast_zero, putN] at this
    rw [decide_eq_true hk, decide_eq_true hg, decide_eq_true hc, decide_eq_true h1, decide_eq_true h2, this, if_neg (by omega), tp_pos (by simp [putN_len])]
  · intro i hi
    unfold iFill_L0_step
    simp only [tb_dec, ces_len, putN_len, u8z]
    rw [wr_id (x := lba + (i : Int)) (by omega) (by omega), wr_id (x := (i : Int) + 1) (by omega) (by omega), if_pos (by omega), tp_pos (by omega), tp_pos (by constructor <;> simp <;> omega)]
    have e1 : (lba + (i : Int)).toNat = lba.toNat + i := by omega
    rw [e1]
    rfl
  · unfold iFill_L0_step
    simp only [tb_dec]
    rw [if_neg (by omega)]
/-- Some of a block's bytes, the others 0. -/
def part (d : List UInt8) (k : Nat) : List UInt8 := (pad 32 d).take k ++ List.replicate (32 - k) 0
/-- The bytes of blocks. -/
def byt (l : List Ce) : List UInt8 := l.flatMap fun c => pad 32 c.d
theorem byt_len (l : List Ce) : (byt l).length = 32 * l.length := by
  induction l with
  | nil => rfl
  | cons c l ih => simp only [byt, List.flatMap_cons, List.length_append, pad_len, List.length_cons] at ih ⊢; omega
theorem byt_take (l : List Ce) (i : Nat) (h : i < l.length) : byt (l.take (i + 1)) = byt (l.take i) ++ pad 32 (ceAt l i).d := by
  have e : l.take (i + 1) = l.take i ++ [ceAt l i] := take_at _ l i h
  rw [e]; simp [byt]
def readS (l : List Ce) (lba n : Int) : List UInt8 × Int :=
  if CkI l then (if Fits l lba n then (byt ((l.drop lba.toNat).take n.toNat), 0) else ([], 81)) else ([], 90)
theorem iRead_eq (l : List Ce) (lba n : Int) (hl : l.length ≤ 4294967296) : iRead l lba n = some (readS l lba n) := by
  unfold iRead readS
  simp only [iFill_eq l lba n 1 0 hl, tc_some, tb_bne, tb_dec, ces_len]
  unfold fillS
  by_cases hc : CkI l
  case neg => simp only [if_neg hc]; rfl
  have h64 := hc.2.1
  simp only [if_pos hc]
  by_cases hf : Fits l lba n
  case neg =>
    have hn : ¬ (Fits l lba n ∧ ((0 : Int) ≤ 1 ∧ (1 : Int) ≤ 1) ∧ ((0 : Int) ≤ 0 ∧ (0 : Int) ≤ 2147483647)) := fun q => hf q.1
    simp only [if_neg hn, if_neg hf]; rfl
  have hp : Fits l lba n ∧ ((0 : Int) ≤ 1 ∧ (1 : Int) ≤ 1) ∧ ((0 : Int) ≤ 0 ∧ (0 : Int) ≤ 2147483647) := ⟨hf, by omega, by omega⟩
  have hff := hf
  unfold Fits at hff
  have w : wr (lba + n) = lba + n := wr_id (by omega) (by omega)
  simp only [w, if_pos hp, if_pos hf]
  rw [if_pos trivial, tp_pos (by omega), tp_pos (by omega), tp_pos (by refine ⟨by omega, by omega, ?_⟩; first | trivial | rfl)]
  have e0 : (lba + n).toNat - lba.toNat = n.toNat := by omega
  rw [e0]
  rw [th_run_at (S := fun i => (byt ((l.drop lba.toNat).take i), (i : Int))) (k := n.toNat) (by simp [byt]) ?_ ?_]
  · simp only; rw [if_neg (by omega)]
  · intro i hi
    unfold iRead_L0_step
    have hbl : (byt ((l.drop lba.toNat).take i)).length ≤ 32 * i := by rw [byt_len, List.length_take]; omega
    simp only [tb_dec, w, e0, Int.toNat_natCast]
    rw [if_pos (by omega), tp_pos (by omega), tp_pos (by rw [List.length_drop, List.length_take, List.length_drop, ces_len]; omega), tp_pos (by refine ⟨by simp, by omega⟩), wr_id (by omega) (by omega)]
    have e1 : ceAt (List.take n.toNat (List.drop lba.toNat l)) i = ceAt (l.drop lba.toNat) i := by
      unfold ceAt
      rw [List.getD_eq_getElem?_getD, List.getD_eq_getElem?_getD, List.getElem?_take_of_lt (by omega)]
    rw [e1, byt_take (l.drop lba.toNat) i (by rw [List.length_drop]; omega)]
    rfl
  · unfold iRead_L0_step
    simp only [tb_dec, w, e0]
    rw [if_neg (by omega)]
theorem iAlike_eq (a b : List Ce) (ha : a.length ≤ 4294967296) : iAlike a b = some (decide (a.map al = b.map al)) := by
  unfold iAlike
  rw [tb_bne]
  by_cases hl : (a.length : Int) = b.length
  case neg =>
    rw [if_neg hl]; congr 1; symm; rw [decide_eq_false_iff_not]
    intro h
    have := congrArg List.length h
    simp only [List.length_map] at this; omega
  rw [if_pos hl]
  have hl2 : a.length = b.length := by omega
  have hs : ∀ (c e : Ce) {β : Type} (x y : Option β), tb (c.kind == e.kind && (c.gen == c.gen && (pad 32 c.d == pad 32 e.d))) x y = if al c = al e then x else y := by
    intro c e β x y
    simp only [al, Prod.mk.injEq]
    by_cases g1 : c.kind = e.kind
    · by_cases g2 : pad 32 c.d = pad 32 e.d
      · rw [if_pos ⟨g1, g2⟩, g1, g2]; simp
      · rw [if_neg fun q => g2 q.2]; exact tb_neg (by simp [g2])
    · rw [if_neg fun q => g1 q.1]; exact tb_neg (by simp [g1])
  rw [th_all (some false) (some true) a.length (fun i => al (ceAt a i) = al (ceAt b i)) (a.map al = b.map al) (all_eq _ al a b hl2)]
  · by_cases h : a.map al = b.map al
    · rw [if_pos h, decide_eq_true h]
    · rw [if_neg h, decide_eq_false h]
  · intro i hi hp
    unfold iAlike_L0_step
    simp only [tb_dec, tb_not, hs, Int.toNat_natCast]
    rw [if_pos (by omega), tp_pos (by omega), tp_pos (by omega), if_pos hp, wr_id (by omega) (by omega)]
  · intro i hi hp
    unfold iAlike_L0_step
    simp only [tb_dec, tb_not, hs, Int.toNat_natCast]
    refine ⟨by rw [if_pos (by omega), tp_pos (by omega), tp_pos (by omega), if_neg hp], ?_⟩
    rw [if_pos (by omega), tp_pos (by omega), if_neg hp]
  · unfold iAlike_L0_step
    simp only [tb_dec]
    rw [if_neg (by omega), if_neg (by omega)]
    exact ⟨rfl, rfl⟩
end Ab
end Go.Proofs.Ytadipihpgcelmaa
namespace Go.Proofs.Ytadipihpgcelmaa
open Go Go.Proofs.Ytadipihpgcelmaa.Ab
set_option linter.unusedVariables false
set_option linter.unusedSimpArgs false
set_option maxRecDepth 1000000
namespace Ab
def aw9 : Option Bool := some true
theorem aw9_eval : aCall Try.prog cf 4000 9 [] = some (.b true) := by kernel_rfl
theorem aw9_ok (r : Bool) : aw9 = some r → EvFr Try.prog cf true 9 [] (.b r) := fun h => by
  cases h
  exact EvFr.of_bool aw9_eval
end Ab
end Go.Proofs.Ytadipihpgcelmaa
namespace Go.Proofs.Ytadipihpgcelmaa
open Go Go.Proofs.Ytadipihpgcelmaa.Ab
set_option linter.unusedVariables false
set_option linter.unusedSimpArgs false
set_option maxRecDepth 1000000
namespace Ab
noncomputable abbrev lImageFills_L0_I (l : List Ce) (lba : Int) (n : Int) (kind : Int) (gen : Int) (s0 : Bool) (s2 : Bool) (s4 : List Ce × Int) (s6 : List Ce × Int) (s7 : List UInt8 × Int) (s8 : List UInt8 × Int) (s9 : List UInt8 × Int) : St := (St.mk [(0, (AV.sl (List.length l) (List.flatMap Ce.cells l))), (1, (AV.i lba)), (2, (AV.i n)), (3, (AV.i kind)), (4, (AV.i gen)), (10, (AV.b Bool.false)), (24, (AV.b s0)), (11, (AV.b s0)), (25, (AV.sl (List.length l) (List.flatMap Ce.cells l))), (26, (AV.i (↑(List.length l) : Int))), (27, (AV.b (decide ((↑(List.length l) : Int) > (64 : Int))))), (28, (AV.b (decide ((↑(List.length l) : Int) > (64 : Int))))), (29, (AV.sl (List.length l) (List.flatMap Ce.cells l))), (30, (AV.b s2)), (31, (AV.b (!s2))), (32, (AV.b (!s2))), (35, (AV.sl (List.length l) (List.flatMap Ce.cells l))), (36, (AV.i lba)), (37, (AV.i n)), (38, (AV.i kind)), (39, (AV.i gen)), (40, (AV.tu [(AV.sl (List.length s4.1) (List.flatMap Ce.cells s4.1)), (AV.i s4.2)])), (34, (AV.tu [(AV.sl (List.length s4.1) (List.flatMap Ce.cells s4.1)), (AV.i s4.2)])), (41, (AV.sl (List.length s4.1) (List.flatMap Ce.cells s4.1))), (42, (AV.i s4.2)), (12, (AV.sl (List.length s4.1) (List.flatMap Ce.cells s4.1))), (13, (AV.i s4.2)), (43, (AV.i s4.2)), (44, (AV.b (s4.2 != (0 : Int)))), (52, (AV.sl (List.length s4.1) (List.flatMap Ce.cells s4.1))), (53, (AV.i lba)), (54, (AV.i n)), (55, (AV.i kind)), (56, (AV.i gen)), (57, (AV.tu [(AV.sl (List.length s6.1) (List.flatMap Ce.cells s6.1)), (AV.i s6.2)])), (51, (AV.tu [(AV.sl (List.length s6.1) (List.flatMap Ce.cells s6.1)), (AV.i s6.2)])), (58, (AV.sl (List.length s6.1) (List.flatMap Ce.cells s6.1))), (59, (AV.i s6.2)), (14, (AV.sl (List.length s6.1) (List.flatMap Ce.cells s6.1))), (15, (AV.i s6.2)), (61, (AV.sl (List.length s4.1) (List.flatMap Ce.cells s4.1))), (62, (AV.i lba)), (63, (AV.i n)), (64, (AV.tu [(AV.sl (List.length s7.1) (List.map AV.y s7.1)), (AV.i s7.2)])), (60, (AV.tu [(AV.sl (List.length s7.1) (List.map AV.y s7.1)), (AV.i s7.2)])), (65, (AV.sl (List.length s7.1) (List.map AV.y s7.1))), (66, (AV.i s7.2)), (16, (AV.sl (List.length s7.1) (List.map AV.y s7.1))), (17, (AV.i s7.2)), (68, (AV.sl (List.length l) (List.flatMap Ce.cells l))), (69, (AV.sl (List.length l) (List.flatMap Ce.cells l))), (70, (AV.i (↑(List.length l) : Int))), (71, (AV.tu [(AV.sl (List.length s8.1) (List.map AV.y s8.1)), (AV.i s8.2)])), (67, (AV.tu [(AV.sl (List.length s8.1) (List.map AV.y s8.1)), (AV.i s8.2)])), (72, (AV.sl (List.length s8.1) (List.map AV.y s8.1))), (73, (AV.i s8.2)), (18, (AV.sl (List.length s8.1) (List.map AV.y s8.1))), (19, (AV.i s8.2)), (75, (AV.sl (List.length s4.1) (List.flatMap Ce.cells s4.1))), (76, (AV.sl (List.length s4.1) (List.flatMap Ce.cells s4.1))), (77, (AV.i (↑(List.length s4.1) : Int))), (78, (AV.tu [(AV.sl (List.length s9.1) (List.map AV.y s9.1)), (AV.i s9.2)])), (74, (AV.tu [(AV.sl (List.length s9.1) (List.map AV.y s9.1)), (AV.i s9.2)])), (79, (AV.sl (List.length s9.1) (List.map AV.y s9.1))), (80, (AV.i s9.2)), (20, (AV.sl (List.length s9.1) (List.map AV.y s9.1))), (21, (AV.i s9.2)), (81, (AV.i s7.2)), (82, (AV.b (s7.2 != (0 : Int)))), (83, (AV.b (s7.2 != (0 : Int)))), (84, (AV.i s8.2)), (85, (AV.b (s8.2 != (0 : Int)))), (86, (AV.b (s8.2 != (0 : Int)))), (87, (AV.b (s8.2 != (0 : Int)))), (88, (AV.i s9.2)), (89, (AV.b (s9.2 != (0 : Int)))), (90, (AV.b (s9.2 != (0 : Int)))), (91, (AV.b (s9.2 != (0 : Int)))), (92, (AV.sl (List.length s7.1) (List.map AV.y s7.1))), (93, (AV.i (↑(List.length s7.1) : Int))), (94, (AV.i n)), (95, (AV.i (wr ((32 : Int) * n)))), (96, (AV.b ((↑(List.length s7.1) : Int) != (wr ((32 : Int) * n))))), (97, (AV.b ((↑(List.length s7.1) : Int) != (wr ((32 : Int) * n))))), (98, (AV.b ((↑(List.length s7.1) : Int) != (wr ((32 : Int) * n))))), (99, (AV.sl (List.length s8.1) (List.map AV.y s8.1))), (100, (AV.i (↑(List.length s8.1) : Int))), (101, (AV.sl (List.length s9.1) (List.map AV.y s9.1))), (102, (AV.i (↑(List.length s9.1) : Int))), (103, (AV.b ((↑(List.length s8.1) : Int) != (↑(List.length s9.1) : Int)))), (104, (AV.b ((↑(List.length s8.1) : Int) != (↑(List.length s9.1) : Int)))), (22, (AV.i 0))] 160 (AH.mk 0 ([] : List (Prod Nat AObj))) Bool.false)
noncomputable abbrev lImageFills_L0_S (l : List Ce) (lba : Int) (n : Int) (kind : Int) (gen : Int) (s0 : Bool) (s2 : Bool) (s4 : List Ce × Int) (s6 : List Ce × Int) (s7 : List UInt8 × Int) (s8 : List UInt8 × Int) (s9 : List UInt8 × Int) (s15 : Int) : St := (St.mk [(0, (AV.sl (List.length l) (List.flatMap Ce.cells l))), (1, (AV.i lba)), (2, (AV.i n)), (3, (AV.i kind)), (4, (AV.i gen)), (11, (AV.b s0)), (32, (AV.b (!s2))), (12, (AV.sl (List.length s4.1) (List.flatMap Ce.cells s4.1))), (13, (AV.i s4.2)), (44, (AV.b (s4.2 != (0 : Int)))), (14, (AV.sl (List.length s6.1) (List.flatMap Ce.cells s6.1))), (15, (AV.i s6.2)), (16, (AV.sl (List.length s7.1) (List.map AV.y s7.1))), (17, (AV.i s7.2)), (18, (AV.sl (List.length s8.1) (List.map AV.y s8.1))), (19, (AV.i s8.2)), (20, (AV.sl (List.length s9.1) (List.map AV.y s9.1))), (21, (AV.i s9.2)), (104, (AV.b ((↑(List.length s8.1) : Int) != (↑(List.length s9.1) : Int)))), (22, (AV.i s15))] 160 (AH.mk 0 ([] : List (Prod Nat AObj))) Bool.false)
noncomputable def lImageFills_L0_step (l : List Ce) (lba : Int) (n : Int) (kind : Int) (gen : Int) (s0 : Bool) (s2 : Bool) (s4 : List Ce × Int) (s6 : List Ce × Int) (s7 : List UInt8 × Int) (s8 : List UInt8 × Int) (s9 : List UInt8 × Int) (s15 : Int) : Option (Int) :=
 (tb ((decide (s15 < (↑(List.length s9.1) : Int))))
  (tb ((decide ((wr (Int.tdiv s15 (32 : Int))) ≥ lba)))
   (tb ((decide ((wr (Int.tdiv s15 (32 : Int))) < (wr (lba + n)))))
    (tp ((((0 : Int) ≤ s15) ∧ (s15 < (↑(List.length s9.1) : Int))))
     (tb (((↑(UInt8.toNat (List.getD s9.1 ((Int.toNat s15) * (1 : Nat)) (OfNat.ofNat 0))) : Int) != (0 : Int)))
      none /- exit -/
      (tb ((!(decide ((wr (Int.tdiv s15 (32 : Int))) < (wr (lba + n))))))
       (tp ((((0 : Int) ≤ s15) ∧ (s15 < (↑(List.length s8.1) : Int))))
        (tb (((↑(UInt8.toNat (List.getD s9.1 ((Int.toNat s15) * (1 : Nat)) (OfNat.ofNat 0))) : Int) != (↑(UInt8.toNat (List.getD s8.1 ((Int.toNat s15) * (1 : Nat)) (OfNat.ofNat 0))) : Int)))
         none /- exit -/
         (some ((wr (s15 + (1 : Int)))))))
       (some ((wr (s15 + (1 : Int))))))))
    (tb ((!(decide ((wr (Int.tdiv s15 (32 : Int))) < (wr (lba + n))))))
     (tp ((((0 : Int) ≤ s15) ∧ (s15 < (↑(List.length s9.1) : Int))))
      (tp ((((0 : Int) ≤ s15) ∧ (s15 < (↑(List.length s8.1) : Int))))
       (tb (((↑(UInt8.toNat (List.getD s9.1 ((Int.toNat s15) * (1 : Nat)) (OfNat.ofNat 0))) : Int) != (↑(UInt8.toNat (List.getD s8.1 ((Int.toNat s15) * (1 : Nat)) (OfNat.ofNat 0))) : Int)))
        none /- exit -/
        (some ((wr (s15 + (1 : Int))))))))
     (some ((wr (s15 + (1 : Int)))))))
   (tp ((((0 : Int) ≤ s15) ∧ (s15 < (↑(List.length s9.1) : Int))))
    (tp ((((0 : Int) ≤ s15) ∧ (s15 < (↑(List.length s8.1) : Int))))
     (tb (((↑(UInt8.toNat (List.getD s9.1 ((Int.toNat s15) * (1 : Nat)) (OfNat.ofNat 0))) : Int) != (↑(UInt8.toNat (List.getD s8.1 ((Int.toNat s15) * (1 : Nat)) (OfNat.ofNat 0))) : Int)))
      none /- exit -/
      (some ((wr (s15 + (1 : Int)))))))))
  none /- exit -/)
theorem lImageFills_L0_s0 (l : List Ce) (lba : Int) (n : Int) (kind : Int) (gen : Int) (s0 : Bool) (s2 : Bool) (s4 : List Ce × Int) (s6 : List Ce × Int) (s7 : List UInt8 × Int) (s8 : List UInt8 × Int) (s9 : List UInt8 × Int) (s15 : Int) (h16 : ((decide (s15 < (↑(List.length s9.1) : Int)))) = true) (h16p : (s15 < (↑(List.length s9.1) : Int))) (h17 : ((decide ((wr (Int.tdiv s15 (32 : Int))) ≥ lba))) = true) (h17p : ((wr (Int.tdiv s15 (32 : Int))) ≥ lba)) (h18 : ((decide ((wr (Int.tdiv s15 (32 : Int))) < (wr (lba + n))))) = true) (h18p : ((wr (Int.tdiv s15 (32 : Int))) < (wr (lba + n)))) (h19 : (((0 : Int) ≤ s15) ∧ (s15 < (↑(List.length s9.1) : Int)))) (h20 : (((↑(UInt8.toNat (List.getD s9.1 ((Int.toNat s15) * (1 : Nat)) (OfNat.ofNat 0))) : Int) != (0 : Int))) = false) (h20p : ((↑(UInt8.toNat (List.getD s9.1 ((Int.toNat s15) * (1 : Nat)) (OfNat.ofNat 0))) : Int) = (0 : Int))) (h21 : ((!(decide ((wr (Int.tdiv s15 (32 : Int))) < (wr (lba + n)))))) = true) (h22 : (((0 : Int) ≤ s15) ∧ (s15 < (↑(List.length s8.1) : Int)))) (h23 : (((↑(UInt8.toNat (List.getD s9.1 ((Int.toNat s15) * (1 : Nat)) (OfNat.ofNat 0))) : Int) != (↑(UInt8.toNat (List.getD s8.1 ((Int.toNat s15) * (1 : Nat)) (OfNat.ofNat 0))) : Int))) = false) (h23p : ((↑(UInt8.toNat (List.getD s9.1 ((Int.toNat s15) * (1 : Nat)) (OfNat.ofNat 0))) : Int) = (↑(UInt8.toNat (List.getD s8.1 ((Int.toNat s15) * (1 : Nat)) (OfNat.ofNat 0))) : Int))) : EvStep Try.prog cf 0 (lp Try.prog 7 0) (lImageFills_L0_S l lba n kind gen s0 s2 s4 s6 s7 s8 s9 s15) (lImageFills_L0_S l lba n kind gen s0 s2 s4 s6 s7 s8 s9 ((wr (s15 + (1 : Int))))) :=
  leafS vw_eq (k := 300) (r := []) (hs := hz [(4, [.yes]), (5, [.yes]), (1, [.yes]), (1, [.yes]), (1, [.yes]), (1, [.yes]), (1, [.yes]), (1, [.yes]), (3, [.yes]), (1, [.yes]), (1, [.yes, .yes, .yes, .yes, .val ((AV.y (List.getD s9.1 ((Int.toNat s15) * (1 : Nat)) (0 : UInt8)))), .yes]), (1, [.yes]), (1, [.no]), (1, [.no]), (1, [.no]), (1, [.yes]), (1, [.yes]), (1, [.yes, .yes, .yes, .yes, .val ((AV.y (List.getD s9.1 ((Int.toNat s15) * (1 : Nat)) (0 : UInt8)))), .yes]), (1, [.yes]), (1, [.yes, .yes, .yes, .yes, .val ((AV.y (List.getD s8.1 ((Int.toNat s15) * (1 : Nat)) (0 : UInt8)))), .yes]), (1, [.no, .yes, .no, .yes, .no]), (3, [])]) (st1 := (St.mk [(0, (AV.sl (List.length l) (List.flatMap Ce.cells l))), (1, (AV.i lba)), (2, (AV.i n)), (3, (AV.i kind)), (4, (AV.i gen)), (11, (AV.b s0)), (32, (AV.b (!s2))), (12, (AV.sl (List.length s4.1) (List.flatMap Ce.cells s4.1))), (13, (AV.i s4.2)), (44, (AV.b (s4.2 != (0 : Int)))), (14, (AV.sl (List.length s6.1) (List.flatMap Ce.cells s6.1))), (15, (AV.i s6.2)), (16, (AV.sl (List.length s7.1) (List.map AV.y s7.1))), (17, (AV.i s7.2)), (18, (AV.sl (List.length s8.1) (List.map AV.y s8.1))), (19, (AV.i s8.2)), (20, (AV.sl (List.length s9.1) (List.map AV.y s9.1))), (21, (AV.i s9.2)), (104, (AV.b ((↑(List.length s8.1) : Int) != (↑(List.length s9.1) : Int)))), (22, (AV.i (wr (s15 + (1 : Int))))), (105, (AV.i s15)), (106, (AV.sl (List.length s9.1) (List.map AV.y s9.1))), (107, (AV.i (↑(List.length s9.1) : Int))), (108, (AV.b (decide (s15 < (↑(List.length s9.1) : Int))))), (111, (AV.i s15)), (112, (AV.i (wr (Int.tdiv s15 (32 : Int))))), (113, (AV.i lba)), (114, (AV.b (decide ((wr (Int.tdiv s15 (32 : Int))) ≥ lba)))), (115, (AV.b (decide ((wr (Int.tdiv s15 (32 : Int))) ≥ lba)))), (116, (AV.i s15)), (117, (AV.i (wr (Int.tdiv s15 (32 : Int))))), (118, (AV.i lba)), (119, (AV.i n)), (120, (AV.i (wr (lba + n)))), (121, (AV.b (decide ((wr (Int.tdiv s15 (32 : Int))) < (wr (lba + n)))))), (122, (AV.b (decide ((wr (Int.tdiv s15 (32 : Int))) < (wr (lba + n)))))), (23, (AV.b (decide ((wr (Int.tdiv s15 (32 : Int))) < (wr (lba + n)))))), (123, (AV.b (decide ((wr (Int.tdiv s15 (32 : Int))) < (wr (lba + n)))))), (124, (AV.b (decide ((wr (Int.tdiv s15 (32 : Int))) < (wr (lba + n)))))), (125, (AV.sl (List.length s9.1) (List.map AV.y s9.1))), (126, (AV.i s15)), (127, (AV.ip (List.drop ((Int.toNat s15) * (1 : Nat)) (List.map AV.y s9.1)))), (128, (AV.y (List.getD s9.1 ((Int.toNat s15) * (1 : Nat)) (OfNat.ofNat 0)))), (129, (AV.b ((↑(UInt8.toNat (List.getD s9.1 ((Int.toNat s15) * (1 : Nat)) (OfNat.ofNat 0))) : Int) != (0 : Int)))), (130, (AV.b ((↑(UInt8.toNat (List.getD s9.1 ((Int.toNat s15) * (1 : Nat)) (OfNat.ofNat 0))) : Int) != (0 : Int)))), (131, (AV.b ((↑(UInt8.toNat (List.getD s9.1 ((Int.toNat s15) * (1 : Nat)) (OfNat.ofNat 0))) : Int) != (0 : Int)))), (132, (AV.b (decide ((wr (Int.tdiv s15 (32 : Int))) < (wr (lba + n)))))), (133, (AV.b (!(decide ((wr (Int.tdiv s15 (32 : Int))) < (wr (lba + n))))))), (134, (AV.b (!(decide ((wr (Int.tdiv s15 (32 : Int))) < (wr (lba + n))))))), (135, (AV.sl (List.length s9.1) (List.map AV.y s9.1))), (136, (AV.i s15)), (137, (AV.ip (List.drop ((Int.toNat s15) * (1 : Nat)) (List.map AV.y s9.1)))), (138, (AV.y (List.getD s9.1 ((Int.toNat s15) * (1 : Nat)) (OfNat.ofNat 0)))), (139, (AV.sl (List.length s8.1) (List.map AV.y s8.1))), (140, (AV.i s15)), (141, (AV.ip (List.drop ((Int.toNat s15) * (1 : Nat)) (List.map AV.y s8.1)))), (142, (AV.y (List.getD s8.1 ((Int.toNat s15) * (1 : Nat)) (OfNat.ofNat 0)))), (143, (AV.b ((↑(UInt8.toNat (List.getD s9.1 ((Int.toNat s15) * (1 : Nat)) (OfNat.ofNat 0))) : Int) != (↑(UInt8.toNat (List.getD s8.1 ((Int.toNat s15) * (1 : Nat)) (OfNat.ofNat 0))) : Int)))), (144, (AV.b ((↑(UInt8.toNat (List.getD s9.1 ((Int.toNat s15) * (1 : Nat)) (OfNat.ofNat 0))) : Int) != (↑(UInt8.toNat (List.getD s8.1 ((Int.toNat s15) * (1 : Nat)) (OfNat.ofNat 0))) : Int)))), (145, (AV.b ((↑(UInt8.toNat (List.getD s9.1 ((Int.toNat s15) * (1 : Nat)) (OfNat.ofNat 0))) : Int) != (↑(UInt8.toNat (List.getD s8.1 ((Int.toNat s15) * (1 : Nat)) (OfNat.ofNat 0))) : Int)))), (109, (AV.i s15)), (110, (AV.i (wr (s15 + (1 : Int)))))] 160 (AH.mk 0 ([] : List (Prod Nat AObj))) Bool.false)) (ps := [((decide (s15 < (↑(List.length s9.1) : Int)))) = true, ((decide ((wr (Int.tdiv s15 (32 : Int))) ≥ lba))) = true, ((decide ((wr (Int.tdiv s15 (32 : Int))) ≥ lba))) = true, ((decide ((wr (Int.tdiv s15 (32 : Int))) ≥ lba))) = true, ((decide ((wr (Int.tdiv s15 (32 : Int))) ≥ lba))) = true, ((decide ((wr (Int.tdiv s15 (32 : Int))) ≥ lba))) = true, ((decide ((wr (Int.tdiv s15 (32 : Int))) ≥ lba))) = true, ((decide ((wr (Int.tdiv s15 (32 : Int))) ≥ lba))) = true, ((decide ((wr (Int.tdiv s15 (32 : Int))) < (wr (lba + n))))) = true, ((decide ((wr (Int.tdiv s15 (32 : Int))) < (wr (lba + n))))) = true, ((decide ((wr (Int.tdiv s15 (32 : Int))) < (wr (lba + n))))) = true, (((0 : Int) ≤ s15) ∧ (s15 < (↑(List.length s9.1) : Int))), ((decide ((wr (Int.tdiv s15 (32 : Int))) < (wr (lba + n))))) = true, ((1 : Nat) ≤ (List.length (List.drop ((Int.toNat s15) * (1 : Nat)) (List.map AV.y s9.1)))), (List.take 1 (List.drop ((Int.toNat s15) * (1 : Nat)) (List.map AV.y s9.1))) = [(AV.y (List.getD s9.1 ((Int.toNat s15) * (1 : Nat)) (0 : UInt8)))], ((decide ((wr (Int.tdiv s15 (32 : Int))) < (wr (lba + n))))) = true, ((decide ((wr (Int.tdiv s15 (32 : Int))) < (wr (lba + n))))) = true, (((↑(UInt8.toNat (List.getD s9.1 ((Int.toNat s15) * (1 : Nat)) (OfNat.ofNat 0))) : Int) != (0 : Int))) = false, (((↑(UInt8.toNat (List.getD s9.1 ((Int.toNat s15) * (1 : Nat)) (OfNat.ofNat 0))) : Int) != (0 : Int))) = false, (((↑(UInt8.toNat (List.getD s9.1 ((Int.toNat s15) * (1 : Nat)) (OfNat.ofNat 0))) : Int) != (0 : Int))) = false, ((!(decide ((wr (Int.tdiv s15 (32 : Int))) < (wr (lba + n)))))) = true, ((!(decide ((wr (Int.tdiv s15 (32 : Int))) < (wr (lba + n)))))) = true, ((!(decide ((wr (Int.tdiv s15 (32 : Int))) < (wr (lba + n)))))) = true, (((0 : Int) ≤ s15) ∧ (s15 < (↑(List.length s9.1) : Int))), ((!(decide ((wr (Int.tdiv s15 (32 : Int))) < (wr (lba + n)))))) = true, ((1 : Nat) ≤ (List.length (List.drop ((Int.toNat s15) * (1 : Nat)) (List.map AV.y s9.1)))), (List.take 1 (List.drop ((Int.toNat s15) * (1 : Nat)) (List.map AV.y s9.1))) = [(AV.y (List.getD s9.1 ((Int.toNat s15) * (1 : Nat)) (0 : UInt8)))], ((!(decide ((wr (Int.tdiv s15 (32 : Int))) < (wr (lba + n)))))) = true, ((!(decide ((wr (Int.tdiv s15 (32 : Int))) < (wr (lba + n)))))) = true, ((!(decide ((wr (Int.tdiv s15 (32 : Int))) < (wr (lba + n)))))) = true, (((0 : Int) ≤ s15) ∧ (s15 < (↑(List.length s8.1) : Int))), ((!(decide ((wr (Int.tdiv s15 (32 : Int))) < (wr (lba + n)))))) = true, ((1 : Nat) ≤ (List.length (List.drop ((Int.toNat s15) * (1 : Nat)) (List.map AV.y s8.1)))), (List.take 1 (List.drop ((Int.toNat s15) * (1 : Nat)) (List.map AV.y s8.1))) = [(AV.y (List.getD s8.1 ((Int.toNat s15) * (1 : Nat)) (0 : UInt8)))], ((!(decide ((wr (Int.tdiv s15 (32 : Int))) < (wr (lba + n)))))) = true, (((↑(UInt8.toNat (List.getD s9.1 ((Int.toNat s15) * (1 : Nat)) (OfNat.ofNat 0))) : Int) != (0 : Int))) = false, ((!(decide ((wr (Int.tdiv s15 (32 : Int))) < (wr (lba + n)))))) = true, (((↑(UInt8.toNat (List.getD s9.1 ((Int.toNat s15) * (1 : Nat)) (OfNat.ofNat 0))) : Int) != (0 : Int))) = false, orderOk (rg Try.prog 7 0) = true ∧ allOk (Region.before (rg Try.prog 7 0)) [] 0 [(some [], some []), (some [], some []), (some [], some []), (some [], some []), (some [], some []), (some [], some []), (some [], some []), (some [], some []), (some [], some []), (some [], some []), (some [], some []), (some [], some []), (some [], some []), (some [], some []), (some [], some []), (some [], some []), (some [], some []), (some [], some []), (some [], some []), (some [], some []), (some [], some []), (some [], some []), (some [], some [])] = true, (((↑(UInt8.toNat (List.getD s9.1 ((Int.toNat s15) * (1 : Nat)) (OfNat.ofNat 0))) : Int) != (↑(UInt8.toNat (List.getD s8.1 ((Int.toNat s15) * (1 : Nat)) (OfNat.ofNat 0))) : Int))) = false]) kq ⟨h16, h17, h17, h17, h17, h17, h17, h17, h18, h18, h18, h19, h18, fq, (by (try simp only [List.drop_drop]); exact one_drop_yC (l := s9.1) tq bq), h18, h18, h20, h20, h20, h21, h21, h21, h19, h21, fq, (by (try simp only [List.drop_drop]); exact one_drop_yC (l := s9.1) tq bq), h21, h21, h21, h22, h21, fq, (by (try simp only [List.drop_drop]); exact one_drop_yC (l := s8.1) tq bq), h21, h20, h21, h20, (ord_of ord_7_0 bef_7_0 kq), h23, trivial⟩ (Nat.le_of_ble_eq_true rfl) (absB_of [] [] kq (.consn kq (.eqv tq rfl) (.consn kq (.eqv tq rfl) (.consn kq (.eqv tq rfl) (.consn kq (.eqv tq rfl) (.consn kq (.eqv tq rfl) (.consn kq (.eqv tq rfl) (.consn kq (.eqv tq rfl) (.consn kq (.eqv tq rfl) (.consn kq (.eqv tq rfl) (.consn kq (.eqv tq rfl) (.consn kq (.eqv tq rfl) (.consn kq (.eqv tq rfl) (.consn kq (.eqv tq rfl) (.consn kq (.eqv tq rfl) (.consn kq (.eqv tq rfl) (.consn kq (.eqv tq rfl) (.consn kq (.eqv tq rfl) (.consn kq (.eqv tq rfl) (.consn kq (.eqv tq rfl) (.consn kq (.eqv tq rfl) .nil)))))))))))))))))))) .nil)
theorem lImageFills_L0_s1 (l : List Ce) (lba : Int) (n : Int) (kind : Int) (gen : Int) (s0 : Bool) (s2 : Bool) (s4 : List Ce × Int) (s6 : List Ce × Int) (s7 : List UInt8 × Int) (s8 : List UInt8 × Int) (s9 : List UInt8 × Int) (s15 : Int) (h16 : ((decide (s15 < (↑(List.length s9.1) : Int)))) = true) (h16p : (s15 < (↑(List.length s9.1) : Int))) (h17 : ((decide ((wr (Int.tdiv s15 (32 : Int))) ≥ lba))) = true) (h17p : ((wr (Int.tdiv s15 (32 : Int))) ≥ lba)) (h18 : ((decide ((wr (Int.tdiv s15 (32 : Int))) < (wr (lba + n))))) = true) (h18p : ((wr (Int.tdiv s15 (32 : Int))) < (wr (lba + n)))) (h19 : (((0 : Int) ≤ s15) ∧ (s15 < (↑(List.length s9.1) : Int)))) (h20 : (((↑(UInt8.toNat (List.getD s9.1 ((Int.toNat s15) * (1 : Nat)) (OfNat.ofNat 0))) : Int) != (0 : Int))) = false) (h20p : ((↑(UInt8.toNat (List.getD s9.1 ((Int.toNat s15) * (1 : Nat)) (OfNat.ofNat 0))) : Int) = (0 : Int))) (h21 : ((!(decide ((wr (Int.tdiv s15 (32 : Int))) < (wr (lba + n)))))) = false) : EvStep Try.prog cf 0 (lp Try.prog 7 0) (lImageFills_L0_S l lba n kind gen s0 s2 s4 s6 s7 s8 s9 s15) (lImageFills_L0_S l lba n kind gen s0 s2 s4 s6 s7 s8 s9 ((wr (s15 + (1 : Int))))) :=
  leafS vw_eq (k := 300) (r := []) (hs := hz [(4, [.yes]), (5, [.yes]), (1, [.yes]), (1, [.yes]), (1, [.yes]), (1, [.yes]), (1, [.yes]), (1, [.yes]), (3, [.yes]), (1, [.yes]), (1, [.yes, .yes, .yes, .yes, .val ((AV.y (List.getD s9.1 ((Int.toNat s15) * (1 : Nat)) (0 : UInt8)))), .yes]), (1, [.yes]), (1, [.no]), (1, [.no]), (1, [.no]), (1, [.no, .no, .no, .no, .no, .no, .no, .no, .no, .no, .no, .no, .yes]), (4, [])]) (st1 := (St.mk [(0, (AV.sl (List.length l) (List.flatMap Ce.cells l))), (1, (AV.i lba)), (2, (AV.i n)), (3, (AV.i kind)), (4, (AV.i gen)), (11, (AV.b s0)), (32, (AV.b (!s2))), (12, (AV.sl (List.length s4.1) (List.flatMap Ce.cells s4.1))), (13, (AV.i s4.2)), (44, (AV.b (s4.2 != (0 : Int)))), (14, (AV.sl (List.length s6.1) (List.flatMap Ce.cells s6.1))), (15, (AV.i s6.2)), (16, (AV.sl (List.length s7.1) (List.map AV.y s7.1))), (17, (AV.i s7.2)), (18, (AV.sl (List.length s8.1) (List.map AV.y s8.1))), (19, (AV.i s8.2)), (20, (AV.sl (List.length s9.1) (List.map AV.y s9.1))), (21, (AV.i s9.2)), (104, (AV.b ((↑(List.length s8.1) : Int) != (↑(List.length s9.1) : Int)))), (22, (AV.i (wr (s15 + (1 : Int))))), (105, (AV.i s15)), (106, (AV.sl (List.length s9.1) (List.map AV.y s9.1))), (107, (AV.i (↑(List.length s9.1) : Int))), (108, (AV.b (decide (s15 < (↑(List.length s9.1) : Int))))), (111, (AV.i s15)), (112, (AV.i (wr (Int.tdiv s15 (32 : Int))))), (113, (AV.i lba)), (114, (AV.b (decide ((wr (Int.tdiv s15 (32 : Int))) ≥ lba)))), (115, (AV.b (decide ((wr (Int.tdiv s15 (32 : Int))) ≥ lba)))), (116, (AV.i s15)), (117, (AV.i (wr (Int.tdiv s15 (32 : Int))))), (118, (AV.i lba)), (119, (AV.i n)), (120, (AV.i (wr (lba + n)))), (121, (AV.b (decide ((wr (Int.tdiv s15 (32 : Int))) < (wr (lba + n)))))), (122, (AV.b (decide ((wr (Int.tdiv s15 (32 : Int))) < (wr (lba + n)))))), (23, (AV.b (decide ((wr (Int.tdiv s15 (32 : Int))) < (wr (lba + n)))))), (123, (AV.b (decide ((wr (Int.tdiv s15 (32 : Int))) < (wr (lba + n)))))), (124, (AV.b (decide ((wr (Int.tdiv s15 (32 : Int))) < (wr (lba + n)))))), (125, (AV.sl (List.length s9.1) (List.map AV.y s9.1))), (126, (AV.i s15)), (127, (AV.ip (List.drop ((Int.toNat s15) * (1 : Nat)) (List.map AV.y s9.1)))), (128, (AV.y (List.getD s9.1 ((Int.toNat s15) * (1 : Nat)) (OfNat.ofNat 0)))), (129, (AV.b ((↑(UInt8.toNat (List.getD s9.1 ((Int.toNat s15) * (1 : Nat)) (OfNat.ofNat 0))) : Int) != (0 : Int)))), (130, (AV.b ((↑(UInt8.toNat (List.getD s9.1 ((Int.toNat s15) * (1 : Nat)) (OfNat.ofNat 0))) : Int) != (0 : Int)))), (131, (AV.b ((↑(UInt8.toNat (List.getD s9.1 ((Int.toNat s15) * (1 : Nat)) (OfNat.ofNat 0))) : Int) != (0 : Int)))), (132, (AV.b (decide ((wr (Int.tdiv s15 (32 : Int))) < (wr (lba + n)))))), (133, (AV.b (!(decide ((wr (Int.tdiv s15 (32 : Int))) < (wr (lba + n))))))), (134, (AV.b (!(decide ((wr (Int.tdiv s15 (32 : Int))) < (wr (lba + n))))))), (135, (AV.tu ([] : List AV))), (136, (AV.tu ([] : List AV))), (137, (AV.tu ([] : List AV))), (138, (AV.tu ([] : List AV))), (139, (AV.tu ([] : List AV))), (140, (AV.tu ([] : List AV))), (141, (AV.tu ([] : List AV))), (142, (AV.tu ([] : List AV))), (143, (AV.tu ([] : List AV))), (144, (AV.b Bool.false)), (145, (AV.b Bool.false)), (109, (AV.i s15)), (110, (AV.i (wr (s15 + (1 : Int)))))] 160 (AH.mk 0 ([] : List (Prod Nat AObj))) Bool.false)) (ps := [((decide (s15 < (↑(List.length s9.1) : Int)))) = true, ((decide ((wr (Int.tdiv s15 (32 : Int))) ≥ lba))) = true, ((decide ((wr (Int.tdiv s15 (32 : Int))) ≥ lba))) = true, ((decide ((wr (Int.tdiv s15 (32 : Int))) ≥ lba))) = true, ((decide ((wr (Int.tdiv s15 (32 : Int))) ≥ lba))) = true, ((decide ((wr (Int.tdiv s15 (32 : Int))) ≥ lba))) = true, ((decide ((wr (Int.tdiv s15 (32 : Int))) ≥ lba))) = true, ((decide ((wr (Int.tdiv s15 (32 : Int))) ≥ lba))) = true, ((decide ((wr (Int.tdiv s15 (32 : Int))) < (wr (lba + n))))) = true, ((decide ((wr (Int.tdiv s15 (32 : Int))) < (wr (lba + n))))) = true, ((decide ((wr (Int.tdiv s15 (32 : Int))) < (wr (lba + n))))) = true, (((0 : Int) ≤ s15) ∧ (s15 < (↑(List.length s9.1) : Int))), ((decide ((wr (Int.tdiv s15 (32 : Int))) < (wr (lba + n))))) = true, ((1 : Nat) ≤ (List.length (List.drop ((Int.toNat s15) * (1 : Nat)) (List.map AV.y s9.1)))), (List.take 1 (List.drop ((Int.toNat s15) * (1 : Nat)) (List.map AV.y s9.1))) = [(AV.y (List.getD s9.1 ((Int.toNat s15) * (1 : Nat)) (0 : UInt8)))], ((decide ((wr (Int.tdiv s15 (32 : Int))) < (wr (lba + n))))) = true, ((decide ((wr (Int.tdiv s15 (32 : Int))) < (wr (lba + n))))) = true, (((↑(UInt8.toNat (List.getD s9.1 ((Int.toNat s15) * (1 : Nat)) (OfNat.ofNat 0))) : Int) != (0 : Int))) = false, (((↑(UInt8.toNat (List.getD s9.1 ((Int.toNat s15) * (1 : Nat)) (OfNat.ofNat 0))) : Int) != (0 : Int))) = false, (((↑(UInt8.toNat (List.getD s9.1 ((Int.toNat s15) * (1 : Nat)) (OfNat.ofNat 0))) : Int) != (0 : Int))) = false, ((!(decide ((wr (Int.tdiv s15 (32 : Int))) < (wr (lba + n)))))) = false, ((!(decide ((wr (Int.tdiv s15 (32 : Int))) < (wr (lba + n)))))) = false, ((!(decide ((wr (Int.tdiv s15 (32 : Int))) < (wr (lba + n)))))) = false, ((!(decide ((wr (Int.tdiv s15 (32 : Int))) < (wr (lba + n)))))) = false, ((!(decide ((wr (Int.tdiv s15 (32 : Int))) < (wr (lba + n)))))) = false, ((!(decide ((wr (Int.tdiv s15 (32 : Int))) < (wr (lba + n)))))) = false, ((!(decide ((wr (Int.tdiv s15 (32 : Int))) < (wr (lba + n)))))) = false, ((!(decide ((wr (Int.tdiv s15 (32 : Int))) < (wr (lba + n)))))) = false, ((!(decide ((wr (Int.tdiv s15 (32 : Int))) < (wr (lba + n)))))) = false, (((↑(UInt8.toNat (List.getD s9.1 ((Int.toNat s15) * (1 : Nat)) (OfNat.ofNat 0))) : Int) != (0 : Int))) = false, ((!(decide ((wr (Int.tdiv s15 (32 : Int))) < (wr (lba + n)))))) = false, (((↑(UInt8.toNat (List.getD s9.1 ((Int.toNat s15) * (1 : Nat)) (OfNat.ofNat 0))) : Int) != (0 : Int))) = false, orderOk (rg Try.prog 7 0) = true ∧ allOk (Region.before (rg Try.prog 7 0)) [] 0 [(some [], some []), (some [], some []), (some [], some []), (some [], some []), (some [], some []), (some [], some []), (some [], some []), (some [], some []), (some [], some []), (some [], some []), (some [], some []), (some [], some []), (some [], some []), (some [], some []), (some [], some []), (some [], some []), (some [], some []), (some [], some []), (some [], some []), (some [], some []), (some [], some []), (some [], some []), (some [], some [])] = true]) kq ⟨h16, h17, h17, h17, h17, h17, h17, h17, h18, h18, h18, h19, h18, fq, (by (try simp only [List.drop_drop]); exact one_drop_yC (l := s9.1) tq bq), h18, h18, h20, h20, h20, h21, h21, h21, h21, h21, h21, h21, h21, h21, h20, h21, h20, (ord_of ord_7_0 bef_7_0 kq), trivial⟩ (Nat.le_of_ble_eq_true rfl) (absB_of [] [] kq (.consn kq (.eqv tq rfl) (.consn kq (.eqv tq rfl) (.consn kq (.eqv tq rfl) (.consn kq (.eqv tq rfl) (.consn kq (.eqv tq rfl) (.consn kq (.eqv tq rfl) (.consn kq (.eqv tq rfl) (.consn kq (.eqv tq rfl) (.consn kq (.eqv tq rfl) (.consn kq (.eqv tq rfl) (.consn kq (.eqv tq rfl) (.consn kq (.eqv tq rfl) (.consn kq (.eqv tq rfl) (.consn kq (.eqv tq rfl) (.consn kq (.eqv tq rfl) (.consn kq (.eqv tq rfl) (.consn kq (.eqv tq rfl) (.consn kq (.eqv tq rfl) (.consn kq (.eqv tq rfl) (.consn kq (.eqv tq rfl) .nil)))))))))))))))))))) .nil)
theorem lImageFills_L0_s2 (l : List Ce) (lba : Int) (n : Int) (kind : Int) (gen : Int) (s0 : Bool) (s2 : Bool) (s4 : List Ce × Int) (s6 : List Ce × Int) (s7 : List UInt8 × Int) (s8 : List UInt8 × Int) (s9 : List UInt8 × Int) (s15 : Int) (h16 : ((decide (s15 < (↑(List.length s9.1) : Int)))) = true) (h16p : (s15 < (↑(List.length s9.1) : Int))) (h17 : ((decide ((wr (Int.tdiv s15 (32 : Int))) ≥ lba))) = true) (h17p : ((wr (Int.tdiv s15 (32 : Int))) ≥ lba)) (h18 : ((decide ((wr (Int.tdiv s15 (32 : Int))) < (wr (lba + n))))) = false) (h18p : ¬ ((wr (Int.tdiv s15 (32 : Int))) < (wr (lba + n)))) (h19 : ((!(decide ((wr (Int.tdiv s15 (32 : Int))) < (wr (lba + n)))))) = true) (h20 : (((0 : Int) ≤ s15) ∧ (s15 < (↑(List.length s9.1) : Int)))) (h21 : (((0 : Int) ≤ s15) ∧ (s15 < (↑(List.length s8.1) : Int)))) (h22 : (((↑(UInt8.toNat (List.getD s9.1 ((Int.toNat s15) * (1 : Nat)) (OfNat.ofNat 0))) : Int) != (↑(UInt8.toNat (List.getD s8.1 ((Int.toNat s15) * (1 : Nat)) (OfNat.ofNat 0))) : Int))) = false) (h22p : ((↑(UInt8.toNat (List.getD s9.1 ((Int.toNat s15) * (1 : Nat)) (OfNat.ofNat 0))) : Int) = (↑(UInt8.toNat (List.getD s8.1 ((Int.toNat s15) * (1 : Nat)) (OfNat.ofNat 0))) : Int))) : EvStep Try.prog cf 0 (lp Try.prog 7 0) (lImageFills_L0_S l lba n kind gen s0 s2 s4 s6 s7 s8 s9 s15) (lImageFills_L0_S l lba n kind gen s0 s2 s4 s6 s7 s8 s9 ((wr (s15 + (1 : Int))))) :=
  leafS vw_eq (k := 300) (r := []) (hs := hz [(4, [.yes]), (5, [.yes]), (1, [.yes]), (1, [.yes]), (1, [.yes]), (1, [.yes]), (1, [.yes]), (1, [.yes]), (3, [.no, .no, .no, .no, .no, .no]), (7, [.yes]), (1, [.yes]), (1, [.yes, .yes, .yes, .yes, .val ((AV.y (List.getD s9.1 ((Int.toNat s15) * (1 : Nat)) (0 : UInt8)))), .yes]), (1, [.yes]), (1, [.yes, .yes, .yes, .yes, .val ((AV.y (List.getD s8.1 ((Int.toNat s15) * (1 : Nat)) (0 : UInt8)))), .yes]), (2, [.yes]), (1, [.yes, .no]), (3, [])]) (st1 := (St.mk [(0, (AV.sl (List.length l) (List.flatMap Ce.cells l))), (1, (AV.i lba)), (2, (AV.i n)), (3, (AV.i kind)), (4, (AV.i gen)), (11, (AV.b s0)), (32, (AV.b (!s2))), (12, (AV.sl (List.length s4.1) (List.flatMap Ce.cells s4.1))), (13, (AV.i s4.2)), (44, (AV.b (s4.2 != (0 : Int)))), (14, (AV.sl (List.length s6.1) (List.flatMap Ce.cells s6.1))), (15, (AV.i s6.2)), (16, (AV.sl (List.length s7.1) (List.map AV.y s7.1))), (17, (AV.i s7.2)), (18, (AV.sl (List.length s8.1) (List.map AV.y s8.1))), (19, (AV.i s8.2)), (20, (AV.sl (List.length s9.1) (List.map AV.y s9.1))), (21, (AV.i s9.2)), (104, (AV.b ((↑(List.length s8.1) : Int) != (↑(List.length s9.1) : Int)))), (22, (AV.i (wr (s15 + (1 : Int))))), (105, (AV.i s15)), (106, (AV.sl (List.length s9.1) (List.map AV.y s9.1))), (107, (AV.i (↑(List.length s9.1) : Int))), (108, (AV.b (decide (s15 < (↑(List.length s9.1) : Int))))), (111, (AV.i s15)), (112, (AV.i (wr (Int.tdiv s15 (32 : Int))))), (113, (AV.i lba)), (114, (AV.b (decide ((wr (Int.tdiv s15 (32 : Int))) ≥ lba)))), (115, (AV.b (decide ((wr (Int.tdiv s15 (32 : Int))) ≥ lba)))), (116, (AV.i s15)), (117, (AV.i (wr (Int.tdiv s15 (32 : Int))))), (118, (AV.i lba)), (119, (AV.i n)), (120, (AV.i (wr (lba + n)))), (121, (AV.b (decide ((wr (Int.tdiv s15 (32 : Int))) < (wr (lba + n)))))), (122, (AV.b (decide ((wr (Int.tdiv s15 (32 : Int))) < (wr (lba + n)))))), (23, (AV.b (decide ((wr (Int.tdiv s15 (32 : Int))) < (wr (lba + n)))))), (123, (AV.b (decide ((wr (Int.tdiv s15 (32 : Int))) < (wr (lba + n)))))), (124, (AV.b (decide ((wr (Int.tdiv s15 (32 : Int))) < (wr (lba + n)))))), (125, (AV.tu ([] : List AV))), (126, (AV.tu ([] : List AV))), (127, (AV.tu ([] : List AV))), (128, (AV.tu ([] : List AV))), (129, (AV.tu ([] : List AV))), (130, (AV.b Bool.false)), (131, (AV.b Bool.false)), (132, (AV.b (decide ((wr (Int.tdiv s15 (32 : Int))) < (wr (lba + n)))))), (133, (AV.b (!(decide ((wr (Int.tdiv s15 (32 : Int))) < (wr (lba + n))))))), (134, (AV.b (!(decide ((wr (Int.tdiv s15 (32 : Int))) < (wr (lba + n))))))), (135, (AV.sl (List.length s9.1) (List.map AV.y s9.1))), (136, (AV.i s15)), (137, (AV.ip (List.drop ((Int.toNat s15) * (1 : Nat)) (List.map AV.y s9.1)))), (138, (AV.y (List.getD s9.1 ((Int.toNat s15) * (1 : Nat)) (OfNat.ofNat 0)))), (139, (AV.sl (List.length s8.1) (List.map AV.y s8.1))), (140, (AV.i s15)), (141, (AV.ip (List.drop ((Int.toNat s15) * (1 : Nat)) (List.map AV.y s8.1)))), (142, (AV.y (List.getD s8.1 ((Int.toNat s15) * (1 : Nat)) (OfNat.ofNat 0)))), (143, (AV.b ((↑(UInt8.toNat (List.getD s9.1 ((Int.toNat s15) * (1 : Nat)) (OfNat.ofNat 0))) : Int) != (↑(UInt8.toNat (List.getD s8.1 ((Int.toNat s15) * (1 : Nat)) (OfNat.ofNat 0))) : Int)))), (144, (AV.b ((↑(UInt8.toNat (List.getD s9.1 ((Int.toNat s15) * (1 : Nat)) (OfNat.ofNat 0))) : Int) != (↑(UInt8.toNat (List.getD s8.1 ((Int.toNat s15) * (1 : Nat)) (OfNat.ofNat 0))) : Int)))), (145, (AV.b ((↑(UInt8.toNat (List.getD s9.1 ((Int.toNat s15) * (1 : Nat)) (OfNat.ofNat 0))) : Int) != (↑(UInt8.toNat (List.getD s8.1 ((Int.toNat s15) * (1 : Nat)) (OfNat.ofNat 0))) : Int)))), (109, (AV.i s15)), (110, (AV.i (wr (s15 + (1 : Int)))))] 160 (AH.mk 0 ([] : List (Prod Nat AObj))) Bool.false)) (ps := [((decide (s15 < (↑(List.length s9.1) : Int)))) = true, ((decide ((wr (Int.tdiv s15 (32 : Int))) ≥ lba))) = true, ((decide ((wr (Int.tdiv s15 (32 : Int))) ≥ lba))) = true, ((decide ((wr (Int.tdiv s15 (32 : Int))) ≥ lba))) = true, ((decide ((wr (Int.tdiv s15 (32 : Int))) ≥ lba))) = true, ((decide ((wr (Int.tdiv s15 (32 : Int))) ≥ lba))) = true, ((decide ((wr (Int.tdiv s15 (32 : Int))) ≥ lba))) = true, ((decide ((wr (Int.tdiv s15 (32 : Int))) ≥ lba))) = true, ((decide ((wr (Int.tdiv s15 (32 : Int))) < (wr (lba + n))))) = false, ((decide ((wr (Int.tdiv s15 (32 : Int))) < (wr (lba + n))))) = false, ((decide ((wr (Int.tdiv s15 (32 : Int))) < (wr (lba + n))))) = false, ((decide ((wr (Int.tdiv s15 (32 : Int))) < (wr (lba + n))))) = false, ((decide ((wr (Int.tdiv s15 (32 : Int))) < (wr (lba + n))))) = false, ((decide ((wr (Int.tdiv s15 (32 : Int))) < (wr (lba + n))))) = false, ((!(decide ((wr (Int.tdiv s15 (32 : Int))) < (wr (lba + n)))))) = true, ((!(decide ((wr (Int.tdiv s15 (32 : Int))) < (wr (lba + n)))))) = true, ((!(decide ((wr (Int.tdiv s15 (32 : Int))) < (wr (lba + n)))))) = true, (((0 : Int) ≤ s15) ∧ (s15 < (↑(List.length s9.1) : Int))), ((!(decide ((wr (Int.tdiv s15 (32 : Int))) < (wr (lba + n)))))) = true, ((1 : Nat) ≤ (List.length (List.drop ((Int.toNat s15) * (1 : Nat)) (List.map AV.y s9.1)))), (List.take 1 (List.drop ((Int.toNat s15) * (1 : Nat)) (List.map AV.y s9.1))) = [(AV.y (List.getD s9.1 ((Int.toNat s15) * (1 : Nat)) (0 : UInt8)))], ((!(decide ((wr (Int.tdiv s15 (32 : Int))) < (wr (lba + n)))))) = true, ((!(decide ((wr (Int.tdiv s15 (32 : Int))) < (wr (lba + n)))))) = true, ((!(decide ((wr (Int.tdiv s15 (32 : Int))) < (wr (lba + n)))))) = true, (((0 : Int) ≤ s15) ∧ (s15 < (↑(List.length s8.1) : Int))), ((!(decide ((wr (Int.tdiv s15 (32 : Int))) < (wr (lba + n)))))) = true, ((1 : Nat) ≤ (List.length (List.drop ((Int.toNat s15) * (1 : Nat)) (List.map AV.y s8.1)))), (List.take 1 (List.drop ((Int.toNat s15) * (1 : Nat)) (List.map AV.y s8.1))) = [(AV.y (List.getD s8.1 ((Int.toNat s15) * (1 : Nat)) (0 : UInt8)))], ((!(decide ((wr (Int.tdiv s15 (32 : Int))) < (wr (lba + n)))))) = true, ((!(decide ((wr (Int.tdiv s15 (32 : Int))) < (wr (lba + n)))))) = true, orderOk (rg Try.prog 7 0) = true ∧ allOk (Region.before (rg Try.prog 7 0)) [] 0 [(some [], some []), (some [], some []), (some [], some []), (some [], some []), (some [], some []), (some [], some []), (some [], some []), (some [], some []), (some [], some []), (some [], some []), (some [], some []), (some [], some []), (some [], some []), (some [], some []), (some [], some []), (some [], some []), (some [], some []), (some [], some []), (some [], some []), (some [], some []), (some [], some []), (some [], some []), (some [], some [])] = true, (((↑(UInt8.toNat (List.getD s9.1 ((Int.toNat s15) * (1 : Nat)) (OfNat.ofNat 0))) : Int) != (↑(UInt8.toNat (List.getD s8.1 ((Int.toNat s15) * (1 : Nat)) (OfNat.ofNat 0))) : Int))) = false]) kq ⟨h16, h17, h17, h17, h17, h17, h17, h17, h18, h18, h18, h18, h18, h18, h19, h19, h19, h20, h19, fq, (by (try simp only [List.drop_drop]); exact one_drop_yC (l := s9.1) tq bq), h19, h19, h19, h21, h19, fq, (by (try simp only [List.drop_drop]); exact one_drop_yC (l := s8.1) tq bq), h19, h19, (ord_of ord_7_0 bef_7_0 kq), h22, trivial⟩ (Nat.le_of_ble_eq_true rfl) (absB_of [] [] kq (.consn kq (.eqv tq rfl) (.consn kq (.eqv tq rfl) (.consn kq (.eqv tq rfl) (.consn kq (.eqv tq rfl) (.consn kq (.eqv tq rfl) (.consn kq (.eqv tq rfl) (.consn kq (.eqv tq rfl) (.consn kq (.eqv tq rfl) (.consn kq (.eqv tq rfl) (.consn kq (.eqv tq rfl) (.consn kq (.eqv tq rfl) (.consn kq (.eqv tq rfl) (.consn kq (.eqv tq rfl) (.consn kq (.eqv tq rfl) (.consn kq (.eqv tq rfl) (.consn kq (.eqv tq rfl) (.consn kq (.eqv tq rfl) (.consn kq (.eqv tq rfl) (.consn kq (.eqv tq rfl) (.consn kq (.eqv tq rfl) .nil)))))))))))))))))))) .nil)
theorem lImageFills_L0_s3 (l : List Ce) (lba : Int) (n : Int) (kind : Int) (gen : Int) (s0 : Bool) (s2 : Bool) (s4 : List Ce × Int) (s6 : List Ce × Int) (s7 : List UInt8 × Int) (s8 : List UInt8 × Int) (s9 : List UInt8 × Int) (s15 : Int) (h16 : ((decide (s15 < (↑(List.length s9.1) : Int)))) = true) (h16p : (s15 < (↑(List.length s9.1) : Int))) (h17 : ((decide ((wr (Int.tdiv s15 (32 : Int))) ≥ lba))) = true) (h17p : ((wr (Int.tdiv s15 (32 : Int))) ≥ lba)) (h18 : ((decide ((wr (Int.tdiv s15 (32 : Int))) < (wr (lba + n))))) = false) (h18p : ¬ ((wr (Int.tdiv s15 (32 : Int))) < (wr (lba + n)))) (h19 : ((!(decide ((wr (Int.tdiv s15 (32 : Int))) < (wr (lba + n)))))) = false) : EvStep Try.prog cf 0 (lp Try.prog 7 0) (lImageFills_L0_S l lba n kind gen s0 s2 s4 s6 s7 s8 s9 s15) (lImageFills_L0_S l lba n kind gen s0 s2 s4 s6 s7 s8 s9 ((wr (s15 + (1 : Int))))) :=
  leafS vw_eq (k := 300) (r := []) (hs := hz [(4, [.yes]), (5, [.yes]), (1, [.yes]), (1, [.yes]), (1, [.yes]), (1, [.yes]), (1, [.yes]), (1, [.yes]), (3, [.no, .no, .no, .no, .no, .no]), (7, [.no, .no, .no, .no, .no, .no, .no, .no, .no]), (1, [.no]), (1, [.yes]), (4, [])]) (st1 := (St.mk [(0, (AV.sl (List.length l) (List.flatMap Ce.cells l))), (1, (AV.i lba)), (2, (AV.i n)), (3, (AV.i kind)), (4, (AV.i gen)), (11, (AV.b s0)), (32, (AV.b (!s2))), (12, (AV.sl (List.length s4.1) (List.flatMap Ce.cells s4.1))), (13, (AV.i s4.2)), (44, (AV.b (s4.2 != (0 : Int)))), (14, (AV.sl (List.length s6.1) (List.flatMap Ce.cells s6.1))), (15, (AV.i s6.2)), (16, (AV.sl (List.length s7.1) (List.map AV.y s7.1))), (17, (AV.i s7.2)), (18, (AV.sl (List.length s8.1) (List.map AV.y s8.1))), (19, (AV.i s8.2)), (20, (AV.sl (List.length s9.1) (List.map AV.y s9.1))), (21, (AV.i s9.2)), (104, (AV.b ((↑(List.length s8.1) : Int) != (↑(List.length s9.1) : Int)))), (22, (AV.i (wr (s15 + (1 : Int))))), (105, (AV.i s15)), (106, (AV.sl (List.length s9.1) (List.map AV.y s9.1))), (107, (AV.i (↑(List.length s9.1) : Int))), (108, (AV.b (decide (s15 < (↑(List.length s9.1) : Int))))), (111, (AV.i s15)), (112, (AV.i (wr (Int.tdiv s15 (32 : Int))))), (113, (AV.i lba)), (114, (AV.b (decide ((wr (Int.tdiv s15 (32 : Int))) ≥ lba)))), (115, (AV.b (decide ((wr (Int.tdiv s15 (32 : Int))) ≥ lba)))), (116, (AV.i s15)), (117, (AV.i (wr (Int.tdiv s15 (32 : Int))))), (118, (AV.i lba)), (119, (AV.i n)), (120, (AV.i (wr (lba + n)))), (121, (AV.b (decide ((wr (Int.tdiv s15 (32 : Int))) < (wr (lba + n)))))), (122, (AV.b (decide ((wr (Int.tdiv s15 (32 : Int))) < (wr (lba + n)))))), (23, (AV.b (decide ((wr (Int.tdiv s15 (32 : Int))) < (wr (lba + n)))))), (123, (AV.b (decide ((wr (Int.tdiv s15 (32 : Int))) < (wr (lba + n)))))), (124, (AV.b (decide ((wr (Int.tdiv s15 (32 : Int))) < (wr (lba + n)))))), (125, (AV.tu ([] : List AV))), (126, (AV.tu ([] : List AV))), (127, (AV.tu ([] : List AV))), (128, (AV.tu ([] : List AV))), (129, (AV.tu ([] : List AV))), (130, (AV.b Bool.false)), (131, (AV.b Bool.false)), (132, (AV.b (decide ((wr (Int.tdiv s15 (32 : Int))) < (wr (lba + n)))))), (133, (AV.b (!(decide ((wr (Int.tdiv s15 (32 : Int))) < (wr (lba + n))))))), (134, (AV.b (!(decide ((wr (Int.tdiv s15 (32 : Int))) < (wr (lba + n))))))), (135, (AV.tu ([] : List AV))), (136, (AV.tu ([] : List AV))), (137, (AV.tu ([] : List AV))), (138, (AV.tu ([] : List AV))), (139, (AV.tu ([] : List AV))), (140, (AV.tu ([] : List AV))), (141, (AV.tu ([] : List AV))), (142, (AV.tu ([] : List AV))), (143, (AV.tu ([] : List AV))), (144, (AV.b Bool.false)), (145, (AV.b Bool.false)), (109, (AV.i s15)), (110, (AV.i (wr (s15 + (1 : Int)))))] 160 (AH.mk 0 ([] : List (Prod Nat AObj))) Bool.false)) (ps := [((decide (s15 < (↑(List.length s9.1) : Int)))) = true, ((decide ((wr (Int.tdiv s15 (32 : Int))) ≥ lba))) = true, ((decide ((wr (Int.tdiv s15 (32 : Int))) ≥ lba))) = true, ((decide ((wr (Int.tdiv s15 (32 : Int))) ≥ lba))) = true, ((decide ((wr (Int.tdiv s15 (32 : Int))) ≥ lba))) = true, ((decide ((wr (Int.tdiv s15 (32 : Int))) ≥ lba))) = true, ((decide ((wr (Int.tdiv s15 (32 : Int))) ≥ lba))) = true, ((decide ((wr (Int.tdiv s15 (32 : Int))) ≥ lba))) = true, ((decide ((wr (Int.tdiv s15 (32 : Int))) < (wr (lba + n))))) = false, ((decide ((wr (Int.tdiv s15 (32 : Int))) < (wr (lba + n))))) = false, ((decide ((wr (Int.tdiv s15 (32 : Int))) < (wr (lba + n))))) = false, ((decide ((wr (Int.tdiv s15 (32 : Int))) < (wr (lba + n))))) = false, ((decide ((wr (Int.tdiv s15 (32 : Int))) < (wr (lba + n))))) = false, ((decide ((wr (Int.tdiv s15 (32 : Int))) < (wr (lba + n))))) = false, ((!(decide ((wr (Int.tdiv s15 (32 : Int))) < (wr (lba + n)))))) = false, ((!(decide ((wr (Int.tdiv s15 (32 : Int))) < (wr (lba + n)))))) = false, ((!(decide ((wr (Int.tdiv s15 (32 : Int))) < (wr (lba + n)))))) = false, ((!(decide ((wr (Int.tdiv s15 (32 : Int))) < (wr (lba + n)))))) = false, ((!(decide ((wr (Int.tdiv s15 (32 : Int))) < (wr (lba + n)))))) = false, ((!(decide ((wr (Int.tdiv s15 (32 : Int))) < (wr (lba + n)))))) = false, ((!(decide ((wr (Int.tdiv s15 (32 : Int))) < (wr (lba + n)))))) = false, ((!(decide ((wr (Int.tdiv s15 (32 : Int))) < (wr (lba + n)))))) = false, ((!(decide ((wr (Int.tdiv s15 (32 : Int))) < (wr (lba + n)))))) = false, ((!(decide ((wr (Int.tdiv s15 (32 : Int))) < (wr (lba + n)))))) = false, orderOk (rg Try.prog 7 0) = true ∧ allOk (Region.before (rg Try.prog 7 0)) [] 0 [(some [], some []), (some [], some []), (some [], some []), (some [], some []), (some [], some []), (some [], some []), (some [], some []), (some [], some []), (some [], some []), (some [], some []), (some [], some []), (some [], some []), (some [], some []), (some [], some []), (some [], some []), (some [], some []), (some [], some []), (some [], some []), (some [], some []), (some [], some []), (some [], some []), (some [], some []), (some [], some [])] = true]) kq ⟨h16, h17, h17, h17, h17, h17, h17, h17, h18, h18, h18, h18, h18, h18, h19, h19, h19, h19, h19, h19, h19, h19, h19, h19, (ord_of ord_7_0 bef_7_0 kq), trivial⟩ (Nat.le_of_ble_eq_true rfl) (absB_of [] [] kq (.consn kq (.eqv tq rfl) (.consn kq (.eqv tq rfl) (.consn kq (.eqv tq rfl) (.consn kq (.eqv tq rfl) (.consn kq (.eqv tq rfl) (.consn kq (.eqv tq rfl) (.consn kq (.eqv tq rfl) (.consn kq (.eqv tq rfl) (.consn kq (.eqv tq rfl) (.consn kq (.eqv tq rfl) (.consn kq (.eqv tq rfl) (.consn kq (.eqv tq rfl) (.consn kq (.eqv tq rfl) (.consn kq (.eqv tq rfl) (.consn kq (.eqv tq rfl) (.consn kq (.eqv tq rfl) (.consn kq (.eqv tq rfl) (.consn kq (.eqv tq rfl) (.consn kq (.eqv tq rfl) (.consn kq (.eqv tq rfl) .nil)))))))))))))))))))) .nil)
theorem lImageFills_L0_s4 (l : List Ce) (lba : Int) (n : Int) (kind : Int) (gen : Int) (s0 : Bool) (s2 : Bool) (s4 : List Ce × Int) (s6 : List Ce × Int) (s7 : List UInt8 × Int) (s8 : List UInt8 × Int) (s9 : List UInt8 × Int) (s15 : Int) (h16 : ((decide (s15 < (↑(List.length s9.1) : Int)))) = true) (h16p : (s15 < (↑(List.length s9.1) : Int))) (h17 : ((decide ((wr (Int.tdiv s15 (32 : Int))) ≥ lba))) = false) (h17p : ¬ ((wr (Int.tdiv s15 (32 : Int))) ≥ lba)) (h18 : (((0 : Int) ≤ s15) ∧ (s15 < (↑(List.length s9.1) : Int)))) (h19 : (((0 : Int) ≤ s15) ∧ (s15 < (↑(List.length s8.1) : Int)))) (h20 : (((↑(UInt8.toNat (List.getD s9.1 ((Int.toNat s15) * (1 : Nat)) (OfNat.ofNat 0))) : Int) != (↑(UInt8.toNat (List.getD s8.1 ((Int.toNat s15) * (1 : Nat)) (OfNat.ofNat 0))) : Int))) = false) (h20p : ((↑(UInt8.toNat (List.getD s9.1 ((Int.toNat s15) * (1 : Nat)) (OfNat.ofNat 0))) : Int) = (↑(UInt8.toNat (List.getD s8.1 ((Int.toNat s15) * (1 : Nat)) (OfNat.ofNat 0))) : Int))) : EvStep Try.prog cf 0 (lp Try.prog 7 0) (lImageFills_L0_S l lba n kind gen s0 s2 s4 s6 s7 s8 s9 s15) (lImageFills_L0_S l lba n kind gen s0 s2 s4 s6 s7 s8 s9 ((wr (s15 + (1 : Int))))) :=
  leafS vw_eq (k := 300) (r := []) (hs := hz [(4, [.yes]), (5, [.no, .no, .no, .no, .no, .no, .no]), (21, [.yes]), (1, [.yes, .val ((AV.y (List.getD s9.1 ((Int.toNat s15) * (1 : Nat)) (0 : UInt8))))]), (5, [.yes]), (1, [.yes, .val ((AV.y (List.getD s8.1 ((Int.toNat s15) * (1 : Nat)) (0 : UInt8))))]), (5, [.yes, .no]), (3, [])]) (st1 := (St.mk [(0, (AV.sl (List.length l) (List.flatMap Ce.cells l))), (1, (AV.i lba)), (2, (AV.i n)), (3, (AV.i kind)), (4, (AV.i gen)), (11, (AV.b s0)), (32, (AV.b (!s2))), (12, (AV.sl (List.length s4.1) (List.flatMap Ce.cells s4.1))), (13, (AV.i s4.2)), (44, (AV.b (s4.2 != (0 : Int)))), (14, (AV.sl (List.length s6.1) (List.flatMap Ce.cells s6.1))), (15, (AV.i s6.2)), (16, (AV.sl (List.length s7.1) (List.map AV.y s7.1))), (17, (AV.i s7.2)), (18, (AV.sl (List.length s8.1) (List.map AV.y s8.1))), (19, (AV.i s8.2)), (20, (AV.sl (List.length s9.1) (List.map AV.y s9.1))), (21, (AV.i s9.2)), (104, (AV.b ((↑(List.length s8.1) : Int) != (↑(List.length s9.1) : Int)))), (22, (AV.i (wr (s15 + (1 : Int))))), (105, (AV.i s15)), (106, (AV.sl (List.length s9.1) (List.map AV.y s9.1))), (107, (AV.i (↑(List.length s9.1) : Int))), (108, (AV.b (decide (s15 < (↑(List.length s9.1) : Int))))), (111, (AV.i s15)), (112, (AV.i (wr (Int.tdiv s15 (32 : Int))))), (113, (AV.i lba)), (114, (AV.b (decide ((wr (Int.tdiv s15 (32 : Int))) ≥ lba)))), (115, (AV.b (decide ((wr (Int.tdiv s15 (32 : Int))) ≥ lba)))), (116, (AV.tu ([] : List AV))), (117, (AV.tu ([] : List AV))), (118, (AV.tu ([] : List AV))), (119, (AV.tu ([] : List AV))), (120, (AV.tu ([] : List AV))), (121, (AV.tu ([] : List AV))), (122, (AV.b Bool.false)), (23, (AV.b Bool.false)), (123, (AV.b Bool.false)), (124, (AV.b Bool.false)), (125, (AV.tu ([] : List AV))), (126, (AV.tu ([] : List AV))), (127, (AV.tu ([] : List AV))), (128, (AV.tu ([] : List AV))), (129, (AV.tu ([] : List AV))), (130, (AV.b Bool.false)), (131, (AV.b Bool.false)), (132, (AV.b Bool.false)), (133, (AV.b Bool.true)), (134, (AV.b Bool.true)), (135, (AV.sl (List.length s9.1) (List.map AV.y s9.1))), (136, (AV.i s15)), (137, (AV.ip (List.drop ((Int.toNat s15) * (1 : Nat)) (List.map AV.y s9.1)))), (138, (AV.y (List.getD s9.1 ((Int.toNat s15) * (1 : Nat)) (OfNat.ofNat 0)))), (139, (AV.sl (List.length s8.1) (List.map AV.y s8.1))), (140, (AV.i s15)), (141, (AV.ip (List.drop ((Int.toNat s15) * (1 : Nat)) (List.map AV.y s8.1)))), (142, (AV.y (List.getD s8.1 ((Int.toNat s15) * (1 : Nat)) (OfNat.ofNat 0)))), (143, (AV.b ((↑(UInt8.toNat (List.getD s9.1 ((Int.toNat s15) * (1 : Nat)) (OfNat.ofNat 0))) : Int) != (↑(UInt8.toNat (List.getD s8.1 ((Int.toNat s15) * (1 : Nat)) (OfNat.ofNat 0))) : Int)))), (144, (AV.b ((↑(UInt8.toNat (List.getD s9.1 ((Int.toNat s15) * (1 : Nat)) (OfNat.ofNat 0))) : Int) != (↑(UInt8.toNat (List.getD s8.1 ((Int.toNat s15) * (1 : Nat)) (OfNat.ofNat 0))) : Int)))), (145, (AV.b ((↑(UInt8.toNat (List.getD s9.1 ((Int.toNat s15) * (1 : Nat)) (OfNat.ofNat 0))) : Int) != (↑(UInt8.toNat (List.getD s8.1 ((Int.toNat s15) * (1 : Nat)) (OfNat.ofNat 0))) : Int)))), (109, (AV.i s15)), (110, (AV.i (wr (s15 + (1 : Int)))))] 160 (AH.mk 0 ([] : List (Prod Nat AObj))) Bool.false)) (ps := [((decide (s15 < (↑(List.length s9.1) : Int)))) = true, ((decide ((wr (Int.tdiv s15 (32 : Int))) ≥ lba))) = false, ((decide ((wr (Int.tdiv s15 (32 : Int))) ≥ lba))) = false, ((decide ((wr (Int.tdiv s15 (32 : Int))) ≥ lba))) = false, ((decide ((wr (Int.tdiv s15 (32 : Int))) ≥ lba))) = false, ((decide ((wr (Int.tdiv s15 (32 : Int))) ≥ lba))) = false, ((decide ((wr (Int.tdiv s15 (32 : Int))) ≥ lba))) = false, ((decide ((wr (Int.tdiv s15 (32 : Int))) ≥ lba))) = false, (((0 : Int) ≤ s15) ∧ (s15 < (↑(List.length s9.1) : Int))), ((1 : Nat) ≤ (List.length (List.drop ((Int.toNat s15) * (1 : Nat)) (List.map AV.y s9.1)))), (List.take 1 (List.drop ((Int.toNat s15) * (1 : Nat)) (List.map AV.y s9.1))) = [(AV.y (List.getD s9.1 ((Int.toNat s15) * (1 : Nat)) (0 : UInt8)))], (((0 : Int) ≤ s15) ∧ (s15 < (↑(List.length s8.1) : Int))), ((1 : Nat) ≤ (List.length (List.drop ((Int.toNat s15) * (1 : Nat)) (List.map AV.y s8.1)))), (List.take 1 (List.drop ((Int.toNat s15) * (1 : Nat)) (List.map AV.y s8.1))) = [(AV.y (List.getD s8.1 ((Int.toNat s15) * (1 : Nat)) (0 : UInt8)))], orderOk (rg Try.prog 7 0) = true ∧ allOk (Region.before (rg Try.prog 7 0)) [] 0 [(some [], some []), (some [], some []), (some [], some []), (some [], some []), (some [], some []), (some [], some []), (some [], some []), (some [], some []), (some [], some []), (some [], some []), (some [], some []), (some [], some []), (some [], some []), (some [], some []), (some [], some []), (some [], some []), (some [], some []), (some [], some []), (some [], some []), (some [], some []), (some [], some []), (some [], some []), (some [], some [])] = true, (((↑(UInt8.toNat (List.getD s9.1 ((Int.toNat s15) * (1 : Nat)) (OfNat.ofNat 0))) : Int) != (↑(UInt8.toNat (List.getD s8.1 ((Int.toNat s15) * (1 : Nat)) (OfNat.ofNat 0))) : Int))) = false]) kq ⟨h16, h17, h17, h17, h17, h17, h17, h17, h18, fq, (by (try simp only [List.drop_drop]); exact one_drop_yC (l := s9.1) tq bq), h19, fq, (by (try simp only [List.drop_drop]); exact one_drop_yC (l := s8.1) tq bq), (ord_of ord_7_0 bef_7_0 kq), h20, trivial⟩ (Nat.le_of_ble_eq_true rfl) (absB_of [] [] kq (.consn kq (.eqv tq rfl) (.consn kq (.eqv tq rfl) (.consn kq (.eqv tq rfl) (.consn kq (.eqv tq rfl) (.consn kq (.eqv tq rfl) (.consn kq (.eqv tq rfl) (.consn kq (.eqv tq rfl) (.consn kq (.eqv tq rfl) (.consn kq (.eqv tq rfl) (.consn kq (.eqv tq rfl) (.consn kq (.eqv tq rfl) (.consn kq (.eqv tq rfl) (.consn kq (.eqv tq rfl) (.consn kq (.eqv tq rfl) (.consn kq (.eqv tq rfl) (.consn kq (.eqv tq rfl) (.consn kq (.eqv tq rfl) (.consn kq (.eqv tq rfl) (.consn kq (.eqv tq rfl) (.consn kq (.eqv tq rfl) .nil)))))))))))))))))))) .nil)
theorem lImageFills_L0_ok (l : List Ce) (lba : Int) (n : Int) (kind : Int) (gen : Int) (s0 : Bool) (s2 : Bool) (s4 : List Ce × Int) (s6 : List Ce × Int) (s7 : List UInt8 × Int) (s8 : List UInt8 × Int) (s9 : List UInt8 × Int) (s15 zz : Int) : lImageFills_L0_step l lba n kind gen s0 s2 s4 s6 s7 s8 s9 s15 = some zz → EvStep Try.prog cf 0 (lp Try.prog 7 0) (lImageFills_L0_S l lba n kind gen s0 s2 s4 s6 s7 s8 s9 s15) (lImageFills_L0_S l lba n kind gen s0 s2 s4 s6 s7 s8 s9 zz) := by
  unfold lImageFills_L0_step
  refine tb_ok (fun h16 => ?_) (fun h16 => ?_)
  ·
    have h16p := of_decide_eq_true h16
    refine tb_ok (fun h17 => ?_) (fun h17 => ?_)
    ·
      have h17p := of_decide_eq_true h17
      refine tb_ok (fun h18 => ?_) (fun h18 => ?_)
      ·
        have h18p := of_decide_eq_true h18
        refine tp_ok (fun h19 => ?_)
        refine tb_ok (fun h20 => ?_) (fun h20 => ?_)
        ·
          have h20p := bne_iff_ne.1 h20
          exact fun e => nomatch e
        ·
          have h20p := bne_eq_false_iff_eq.1 h20
          refine tb_ok (fun h21 => ?_) (fun h21 => ?_)
          ·
            refine tp_ok (fun h22 => ?_)
            refine tb_ok (fun h23 => ?_) (fun h23 => ?_)
            ·
              have h23p := bne_iff_ne.1 h23
              exact fun e => nomatch e
            ·
              have h23p := bne_eq_false_iff_eq.1 h23
              exact fun e => tl_ok (G := (fun zz => EvStep Try.prog cf 0 (lp Try.prog 7 0) (lImageFills_L0_S l lba n kind gen s0 s2 s4 s6 s7 s8 s9 s15) (lImageFills_L0_S l lba n kind gen s0 s2 s4 s6 s7 s8 s9 zz))) (lImageFills_L0_s0 l lba n kind gen s0 s2 s4 s6 s7 s8 s9 s15 h16 h16p h17 h17p h18 h18p h19 h20 h20p h21 h22 h23 h23p) e
          ·
            exact fun e => tl_ok (G := (fun zz => EvStep Try.prog cf 0 (lp Try.prog 7 0) (lImageFills_L0_S l lba n kind gen s0 s2 s4 s6 s7 s8 s9 s15) (lImageFills_L0_S l lba n kind gen s0 s2 s4 s6 s7 s8 s9 zz))) (lImageFills_L0_s1 l lba n kind gen s0 s2 s4 s6 s7 s8 s9 s15 h16 h16p h17 h17p h18 h18p h19 h20 h20p h21) e
      ·
        have h18p := of_decide_eq_false h18
        refine tb_ok (fun h19 => ?_) (fun h19 => ?_)
        ·
          refine tp_ok (fun h20 => ?_)
          refine tp_ok (fun h21 => ?_)
          refine tb_ok (fun h22 => ?_) (fun h22 => ?_)
          ·
            have h22p := bne_iff_ne.1 h22
            exact fun e => nomatch e
          ·
            have h22p := bne_eq_false_iff_eq.1 h22
            exact fun e => tl_ok (G := (fun zz => EvStep Try.prog cf 0 (lp Try.prog 7 0) (lImageFills_L0_S l lba n kind gen s0 s2 s4 s6 s7 s8 s9 s15) (lImageFills_L0_S l lba n kind gen s0 s2 s4 s6 s7 s8 s9 zz))) (lImageFills_L0_s2 l lba n kind gen s0 s2 s4 s6 s7 s8 s9 s15 h16 h16p h17 h17p h18 h18p h19 h20 h21 h22 h22p) e
        ·
          exact fun e => tl_ok (G := (fun zz => EvStep Try.prog cf 0 (lp Try.prog 7 0) (lImageFills_L0_S l lba n kind gen s0 s2 s4 s6 s7 s8 s9 s15) (lImageFills_L0_S l lba n kind gen s0 s2 s4 s6 s7 s8 s9 zz))) (lImageFills_L0_s3 l lba n kind gen s0 s2 s4 s6 s7 s8 s9 s15 h16 h16p h17 h17p h18 h18p h19) e
    ·
      have h17p := of_decide_eq_false h17
      refine tp_ok (fun h18 => ?_)
      refine tp_ok (fun h19 => ?_)
      refine tb_ok (fun h20 => ?_) (fun h20 => ?_)
      ·
        have h20p := bne_iff_ne.1 h20
        exact fun e => nomatch e
      ·
        have h20p := bne_eq_false_iff_eq.1 h20
        exact fun e => tl_ok (G := (fun zz => EvStep Try.prog cf 0 (lp Try.prog 7 0) (lImageFills_L0_S l lba n kind gen s0 s2 s4 s6 s7 s8 s9 s15) (lImageFills_L0_S l lba n kind gen s0 s2 s4 s6 s7 s8 s9 zz))) (lImageFills_L0_s4 l lba n kind gen s0 s2 s4 s6 s7 s8 s9 s15 h16 h16p h17 h17p h18 h19 h20 h20p) e
  ·
    have h16p := of_decide_eq_false h16
    exact fun e => nomatch e
/-- Function 7, as it answers. -/
noncomputable def lImageFills (l : List Ce) (lba : Int) (n : Int) (kind : Int) (gen : Int) : Option (Bool) :=
 (tc (aw9) fun s0 =>
  (tb ((decide ((↑(List.length l) : Int) > (64 : Int))))
   (some (s0))
   (tc (iCheck (l)) fun s2 =>
    (tb ((!s2))
     (some (s0))
     (tc (iFill (l) (lba) (n) (kind) (gen)) fun s4 =>
      (tb ((s4.2 != (0 : Int)))
       (tb (s0)
        (tc (iAlike (s4.1) (l)) fun s7 =>
         (some (s7)))
        none /- false -/)
       (tc (iFill (s4.1) (lba) (n) (kind) (gen)) fun s6 =>
        (tc (iRead (s4.1) (lba) (n)) fun s7 =>
         (tc (iRead (l) ((0 : Int)) ((↑(List.length l) : Int))) fun s8 =>
          (tc (iRead (s4.1) ((0 : Int)) ((↑(List.length s4.1) : Int))) fun s9 =>
           (tb ((s7.2 != (0 : Int)))
            none /- false -/
            (tb ((s8.2 != (0 : Int)))
             none /- false -/
             (tb ((s9.2 != (0 : Int)))
              none /- false -/
              (tb (((↑(List.length s7.1) : Int) != (wr ((32 : Int) * n))))
               none /- false -/
               (tb (((↑(List.length s8.1) : Int) != (↑(List.length s9.1) : Int)))
                none /- false -/
                (th (lImageFills_L0_step l lba n kind gen s0 s2 s4 s6 s7 s8 s9) ((0 : Int)) fun s15 =>
                 (tb ((decide (s15 < (↑(List.length s9.1) : Int))))
                  none /- dead -/
                  (tb (s0)
                   (tb ((s6.2 == (0 : Int)))
                    (tc (iAlike (s6.1) (s4.1)) fun s19 =>
                     (tb (s19)
                      (tc (iCheck (s4.1)) fun s21 =>
                       (some (s21)))
                      none /- false -/))
                    none /- false -/)
                   none /- false -/))))))))))))))))))
abbrev lImageFills_G (l : List Ce) (lba : Int) (n : Int) (kind : Int) (gen : Int) (r : Bool) : Prop := EvFr Try.prog cf false 7 [ces (l), .i (lba), .i (n), .i (kind), .i (gen)] (.b (r))
theorem lImageFills_l0 (l : List Ce) (lba : Int) (n : Int) (kind : Int) (gen : Int) (s0 : Bool) (h0 : aw9 = some s0) (h1 : ((decide ((↑(List.length l) : Int) > (64 : Int)))) = true) (h1p : ((↑(List.length l) : Int) > (64 : Int))) : lImageFills_G l lba n kind gen (s0) :=
  leafR vw_eq (k := 300) (r := []) (hs := hz [(2, [.fres (.b (s0))]), (5, [.yes, .yes, .yes, .yes]), (3, [])]) (raw := (AV.b s0)) (ps := [EvFr Try.prog cf Bool.false 9 ([] : List AV) (.b (s0)), ((decide ((↑(List.length l) : Int) > (64 : Int)))) = true, ((decide ((↑(List.length l) : Int) > (64 : Int)))) = true, ((decide ((↑(List.length l) : Int) > (64 : Int)))) = true, ((decide ((↑(List.length l) : Int) > (64 : Int)))) = true]) kq ⟨((aw9_ok  _ h0).any.cast tq), h1, h1, h1, h1, trivial⟩ tq
theorem lImageFills_l1 (l : List Ce) (lba : Int) (n : Int) (kind : Int) (gen : Int) (s0 : Bool) (h0 : aw9 = some s0) (h1 : ((decide ((↑(List.length l) : Int) > (64 : Int)))) = false) (h1p : ¬ ((↑(List.length l) : Int) > (64 : Int))) (s2 : Bool) (h2 : iCheck (l) = some s2) (h3 : ((!s2)) = true) : lImageFills_G l lba n kind gen (s0) :=
  leafR vw_eq (k := 300) (r := []) (hs := hz [(2, [.fres (.b (s0))]), (5, [.no]), (1, [.no]), (1, [.fres (.b (s2)), .no]), (1, [.no, .yes]), (2, [])]) (raw := (AV.b s0)) (ps := [EvFr Try.prog cf Bool.false 9 ([] : List AV) (.b (s0)), ((decide ((↑(List.length l) : Int) > (64 : Int)))) = false, ((decide ((↑(List.length l) : Int) > (64 : Int)))) = false, EvFr Try.prog cf Bool.false 17 [(AV.sl (List.length l) (List.flatMap Ce.cells l))] (.b (s2)), ((decide ((↑(List.length l) : Int) > (64 : Int)))) = false, ((decide ((↑(List.length l) : Int) > (64 : Int)))) = false, ((!s2)) = true]) kq ⟨((aw9_ok  _ h0).any.cast tq), h1, h1, ((iCheck_ok (l) _ h2).any.cast tq), h1, h1, h3, trivial⟩ tq
theorem lImageFills_l2 (l : List Ce) (lba : Int) (n : Int) (kind : Int) (gen : Int) (s0 : Bool) (h0 : aw9 = some s0) (h1 : ((decide ((↑(List.length l) : Int) > (64 : Int)))) = false) (h1p : ¬ ((↑(List.length l) : Int) > (64 : Int))) (s2 : Bool) (h2 : iCheck (l) = some s2) (h3 : ((!s2)) = false) (s4 : List Ce × Int) (h4 : iFill (l) (lba) (n) (kind) (gen) = some s4) (h5 : ((s4.2 != (0 : Int))) = true) (h5p : ¬ (s4.2 = (0 : Int))) (h6 : (s0) = true) (s7 : Bool) (h7 : iAlike (s4.1) (l) = some s7) : lImageFills_G l lba n kind gen (s7) :=
  leafR vw_eq (k := 300) (r := []) (hs := hz [(2, [.fres (.b (s0))]), (5, [.no]), (1, [.no]), (1, [.fres (.b (s2)), .no]), (1, [.no, .no]), (6, [.fres (.tu [ces (s4.1), .i (s4.2)])]), (7, [.yes]), (2, [.yes]), (1, [.yes]), (1, [.yes]), (1, [.fres (.b (s7)), .yes]), (1, [])]) (raw := (AV.b s7)) (ps := [EvFr Try.prog cf Bool.false 9 ([] : List AV) (.b (s0)), ((decide ((↑(List.length l) : Int) > (64 : Int)))) = false, ((decide ((↑(List.length l) : Int) > (64 : Int)))) = false, EvFr Try.prog cf Bool.false 17 [(AV.sl (List.length l) (List.flatMap Ce.cells l))] (.b (s2)), ((decide ((↑(List.length l) : Int) > (64 : Int)))) = false, ((decide ((↑(List.length l) : Int) > (64 : Int)))) = false, ((!s2)) = false, EvFr Try.prog cf Bool.false 21 [(AV.sl (List.length l) (List.flatMap Ce.cells l)), (AV.i lba), (AV.i n), (AV.i kind), (AV.i gen)] (.tu [ces (s4.1), .i (s4.2)]), ((s4.2 != (0 : Int))) = true, (s0) = true, (s0) = true, (s0) = true, EvFr Try.prog cf Bool.false 19 [(AV.sl (List.length s4.1) (List.flatMap Ce.cells s4.1)), (AV.sl (List.length l) (List.flatMap Ce.cells l))] (.b (s7)), (s0) = true]) kq ⟨((aw9_ok  _ h0).any.cast tq), h1, h1, ((iCheck_ok (l) _ h2).any.cast tq), h1, h1, h3, ((iFill_ok (l) (lba) (n) (kind) (gen) _ h4).any.cast tq), h5, h6, h6, h6, ((iAlike_ok (s4.1) (l) _ h7).any.cast tq), h6, trivial⟩ tq
theorem lImageFills_l3 (l : List Ce) (lba : Int) (n : Int) (kind : Int) (gen : Int) (s0 : Bool) (h0 : aw9 = some s0) (h1 : ((decide ((↑(List.length l) : Int) > (64 : Int)))) = false) (h1p : ¬ ((↑(List.length l) : Int) > (64 : Int))) (s2 : Bool) (h2 : iCheck (l) = some s2) (h3 : ((!s2)) = false) (s4 : List Ce × Int) (h4 : iFill (l) (lba) (n) (kind) (gen) = some s4) (h5 : ((s4.2 != (0 : Int))) = false) (h5p : (s4.2 = (0 : Int))) (s6 : List Ce × Int) (h6 : iFill (s4.1) (lba) (n) (kind) (gen) = some s6) (s7 : List UInt8 × Int) (h7 : iRead (s4.1) (lba) (n) = some s7) (s8 : List UInt8 × Int) (h8 : iRead (l) ((0 : Int)) ((↑(List.length l) : Int)) = some s8) (s9 : List UInt8 × Int) (h9 : iRead (s4.1) ((0 : Int)) ((↑(List.length s4.1) : Int)) = some s9) (h10 : ((s7.2 != (0 : Int))) = false) (h10p : (s7.2 = (0 : Int))) (h11 : ((s8.2 != (0 : Int))) = false) (h11p : (s8.2 = (0 : Int))) (h12 : ((s9.2 != (0 : Int))) = false) (h12p : (s9.2 = (0 : Int))) (h13 : (((↑(List.length s7.1) : Int) != (wr ((32 : Int) * n)))) = false) (h13p : ((↑(List.length s7.1) : Int) = (wr ((32 : Int) * n)))) (h14 : (((↑(List.length s8.1) : Int) != (↑(List.length s9.1) : Int))) = false) (h14p : ((↑(List.length s8.1) : Int) = (↑(List.length s9.1) : Int))) (s15 : Int) (h15 : Runs (lImageFills_L0_step l lba n kind gen s0 s2 s4 s6 s7 s8 s9) ((0 : Int)) s15) (h16 : ((decide (s15 < (↑(List.length s9.1) : Int)))) = false) (h16p : ¬ (s15 < (↑(List.length s9.1) : Int))) (h17 : (s0) = true) (h18 : ((s6.2 == (0 : Int))) = true) (h18p : (s6.2 = (0 : Int))) (s19 : Bool) (h19 : iAlike (s6.1) (s4.1) = some s19) (h20 : (s19) = true) (s21 : Bool) (h21 : iCheck (s4.1) = some s21) : lImageFills_G l lba n kind gen (s21) :=
  leafR vw_eq (k := 300) (r := []) (hs := hz [(2, [.fres (.b (s0))]), (5, [.no]), (1, [.no]), (1, [.fres (.b (s2)), .no]), (1, [.no, .no]), (6, [.fres (.tu [ces (s4.1), .i (s4.2)])]), (7, [.no]), (6, [.fres (.tu [ces (s6.1), .i (s6.2)])]), (9, [.fres (.tu [bys (s7.1), .i (s7.2)])]), (9, [.fres (.tu [bys (s8.1), .i (s8.2)])]), (9, [.fres (.tu [bys (s9.1), .i (s9.2)])]), (8, [.no]), (1, [.no]), (1, [.no]), (1, [.no]), (1, [.no]), (1, [.no]), (1, [.no]), (1, [.no]), (1, [.no]), (1, [.no]), (1, [.no]), (1, [.no]), (1, [.no]), (1, [.no]), (1, [.no]), (1, [.no]), (1, [.no]), (1, [.no, .no]), (1, [.head (lImageFills_L0_S l lba n kind gen s0 s2 s4 s6 s7 s8 s9 s15)]), (4, [.no]), (2, [.yes]), (1, [.yes]), (1, [.yes]), (1, [.yes]), (1, [.yes]), (1, [.yes]), (1, [.fres (.b (s19)), .yes]), (1, [.yes]), (1, [.yes]), (1, [.fres (.b (s21)), .yes]), (1, [])]) (raw := (AV.b s21)) (ps := [EvFr Try.prog cf Bool.false 9 ([] : List AV) (.b (s0)), ((decide ((↑(List.length l) : Int) > (64 : Int)))) = false, ((decide ((↑(List.length l) : Int) > (64 : Int)))) = false, EvFr Try.prog cf Bool.false 17 [(AV.sl (List.length l) (List.flatMap Ce.cells l))] (.b (s2)), ((decide ((↑(List.length l) : Int) > (64 : Int)))) = false, ((decide ((↑(List.length l) : Int) > (64 : Int)))) = false, ((!s2)) = false, EvFr Try.prog cf Bool.false 21 [(AV.sl (List.length l) (List.flatMap Ce.cells l)), (AV.i lba), (AV.i n), (AV.i kind), (AV.i gen)] (.tu [ces (s4.1), .i (s4.2)]), ((s4.2 != (0 : Int))) = false, EvFr Try.prog cf Bool.false 21 [(AV.sl (List.length s4.1) (List.flatMap Ce.cells s4.1)), (AV.i lba), (AV.i n), (AV.i kind), (AV.i gen)] (.tu [ces (s6.1), .i (s6.2)]), EvFr Try.prog cf Bool.false 25 [(AV.sl (List.length s4.1) (List.flatMap Ce.cells s4.1)), (AV.i lba), (AV.i n)] (.tu [bys (s7.1), .i (s7.2)]), EvFr Try.prog cf Bool.false 25 [(AV.sl (List.length l) (List.flatMap Ce.cells l)), (AV.i 0), (AV.i (↑(List.length l) : Int))] (.tu [bys (s8.1), .i (s8.2)]), EvFr Try.prog cf Bool.false 25 [(AV.sl (List.length s4.1) (List.flatMap Ce.cells s4.1)), (AV.i 0), (AV.i (↑(List.length s4.1) : Int))] (.tu [bys (s9.1), .i (s9.2)]), ((s7.2 != (0 : Int))) = false, ((s7.2 != (0 : Int))) = false, ((s7.2 != (0 : Int))) = false, ((s8.2 != (0 : Int))) = false, ((s8.2 != (0 : Int))) = false, ((s8.2 != (0 : Int))) = false, ((s9.2 != (0 : Int))) = false, ((s9.2 != (0 : Int))) = false, ((s9.2 != (0 : Int))) = false, ((s9.2 != (0 : Int))) = false, ((s9.2 != (0 : Int))) = false, ((s9.2 != (0 : Int))) = false, (((↑(List.length s7.1) : Int) != (wr ((32 : Int) * n)))) = false, (((↑(List.length s7.1) : Int) != (wr ((32 : Int) * n)))) = false, (((↑(List.length s7.1) : Int) != (wr ((32 : Int) * n)))) = false, (((↑(List.length s7.1) : Int) != (wr ((32 : Int) * n)))) = false, (((↑(List.length s7.1) : Int) != (wr ((32 : Int) * n)))) = false, (((↑(List.length s7.1) : Int) != (wr ((32 : Int) * n)))) = false, (((↑(List.length s8.1) : Int) != (↑(List.length s9.1) : Int))) = false, EvHead Try.prog cf (lp Try.prog 7 0) (lImageFills_L0_I l lba n kind gen s0 s2 s4 s6 s7 s8 s9) (lImageFills_L0_S l lba n kind gen s0 s2 s4 s6 s7 s8 s9 s15), ((decide (s15 < (↑(List.length s9.1) : Int)))) = false, (s0) = true, (s0) = true, (s0) = true, ((s6.2 == (0 : Int))) = true, ((s6.2 == (0 : Int))) = true, ((s6.2 == (0 : Int))) = true, EvFr Try.prog cf Bool.false 19 [(AV.sl (List.length s6.1) (List.flatMap Ce.cells s6.1)), (AV.sl (List.length s4.1) (List.flatMap Ce.cells s4.1))] (.b (s19)), ((s6.2 == (0 : Int))) = true, (s19) = true, (s19) = true, EvFr Try.prog cf Bool.false 17 [(AV.sl (List.length s4.1) (List.flatMap Ce.cells s4.1))] (.b (s21)), (s19) = true]) kq ⟨((aw9_ok  _ h0).any.cast tq), h1, h1, ((iCheck_ok (l) _ h2).any.cast tq), h1, h1, h3, ((iFill_ok (l) (lba) (n) (kind) (gen) _ h4).any.cast tq), h5, ((iFill_ok (s4.1) (lba) (n) (kind) (gen) _ h6).any.cast tq), ((iRead_ok (s4.1) (lba) (n) _ h7).any.cast tq), ((iRead_ok (l) ((0 : Int)) ((↑(List.length l) : Int)) _ h8).any.cast tq), ((iRead_ok (s4.1) ((0 : Int)) ((↑(List.length s4.1) : Int)) _ h9).any.cast tq), h10, h10, h10, h11, h11, h11, h12, h12, h12, h12, h12, h12, h13, h13, h13, h13, h13, h13, h14, (EvHead.of (lImageFills_L0_ok l lba n kind gen s0 s2 s4 s6 s7 s8 s9) (absB_of [] [] kq (.consn kq (.eqv tq rfl) (.consn kq (.eqv tq rfl) (.consn kq (.eqv tq rfl) (.consn kq (.eqv tq rfl) (.consn kq (.eqv tq rfl) (.consn kq (.eqv tq rfl) (.consn kq (.eqv tq rfl) (.consn kq (.eqv tq rfl) (.consn kq (.eqv tq rfl) (.consn kq (.eqv tq rfl) (.consn kq (.eqv tq rfl) (.consn kq (.eqv tq rfl) (.consn kq (.eqv tq rfl) (.consn kq (.eqv tq rfl) (.consn kq (.eqv tq rfl) (.consn kq (.eqv tq rfl) (.consn kq (.eqv tq rfl) (.consn kq (.eqv tq rfl) (.consn kq (.eqv tq rfl) (.consn kq (.eqv tq rfl) .nil)))))))))))))))))))) .nil) h15), h16, h17, h17, h17, h18, h18, h18, ((iAlike_ok (s6.1) (s4.1) _ h19).any.cast tq), h18, h20, h20, ((iCheck_ok (s4.1) _ h21).any.cast tq), h20, trivial⟩ tq
theorem lImageFills_ok (l : List Ce) (lba : Int) (n : Int) (kind : Int) (gen : Int) (r : Bool) : lImageFills l lba n kind gen = some r → lImageFills_G l lba n kind gen r := by
  unfold lImageFills
  refine tc_ok (fun s0 h0 => ?_)
  refine tb_ok (fun h1 => ?_) (fun h1 => ?_)
  ·
    have h1p := of_decide_eq_true h1
    exact fun e => tl_ok (G := lImageFills_G l lba n kind gen) (lImageFills_l0 l lba n kind gen s0 h0 h1 h1p) e
  ·
    have h1p := of_decide_eq_false h1
    refine tc_ok (fun s2 h2 => ?_)
    refine tb_ok (fun h3 => ?_) (fun h3 => ?_)
    ·
      exact fun e => tl_ok (G := lImageFills_G l lba n kind gen) (lImageFills_l1 l lba n kind gen s0 h0 h1 h1p s2 h2 h3) e
    ·
      refine tc_ok (fun s4 h4 => ?_)
      refine tb_ok (fun h5 => ?_) (fun h5 => ?_)
      ·
        have h5p := bne_iff_ne.1 h5
        refine tb_ok (fun h6 => ?_) (fun h6 => ?_)
        ·
          refine tc_ok (fun s7 h7 => ?_)
          exact fun e => tl_ok (G := lImageFills_G l lba n kind gen) (lImageFills_l2 l lba n kind gen s0 h0 h1 h1p s2 h2 h3 s4 h4 h5 h5p h6 s7 h7) e
        ·
          exact fun e => nomatch e
      ·
        have h5p := bne_eq_false_iff_eq.1 h5
        refine tc_ok (fun s6 h6 => ?_)
        refine tc_ok (fun s7 h7 => ?_)
        refine tc_ok (fun s8 h8 => ?_)
        refine tc_ok (fun s9 h9 => ?_)
        refine tb_ok (fun h10 => ?_) (fun h10 => ?_)
        ·
          have h10p := bne_iff_ne.1 h10
          exact fun e => nomatch e
        ·
          have h10p := bne_eq_false_iff_eq.1 h10
          refine tb_ok (fun h11 => ?_) (fun h11 => ?_)
          ·
            have h11p := bne_iff_ne.1 h11
            exact fun e => nomatch e
          ·
            have h11p := bne_eq_false_iff_eq.1 h11
            refine tb_ok (fun h12 => ?_) (fun h12 => ?_)
            ·
              have h12p := bne_iff_ne.1 h12
              exact fun e => nomatch e
            ·
              have h12p := bne_eq_false_iff_eq.1 h12
              refine tb_ok (fun h13 => ?_) (fun h13 => ?_)
              ·
                have h13p := bne_iff_ne.1 h13
                exact fun e => nomatch e
              ·
                have h13p := bne_eq_false_iff_eq.1 h13
                refine tb_ok (fun h14 => ?_) (fun h14 => ?_)
                ·
                  have h14p := bne_iff_ne.1 h14
                  exact fun e => nomatch e
                ·
                  have h14p := bne_eq_false_iff_eq.1 h14
                  refine th_ok (fun s15 h15 => ?_)
                  refine tb_ok (fun h16 => ?_) (fun h16 => ?_)
                  ·
                    have h16p := of_decide_eq_true h16
                    exact fun e => nomatch e
                  ·
                    have h16p := of_decide_eq_false h16
                    refine tb_ok (fun h17 => ?_) (fun h17 => ?_)
                    ·
                      refine tb_ok (fun h18 => ?_) (fun h18 => ?_)
                      ·
                        have h18p := eq_of_beq h18
                        refine tc_ok (fun s19 h19 => ?_)
                        refine tb_ok (fun h20 => ?_) (fun h20 => ?_)
                        ·
                          refine tc_ok (fun s21 h21 => ?_)
                          exact fun e => tl_ok (G := lImageFills_G l lba n kind gen) (lImageFills_l3 l lba n kind gen s0 h0 h1 h1p s2 h2 h3 s4 h4 h5 h5p s6 h6 s7 h7 s8 h8 s9 h9 h10 h10p h11 h11p h12 h12p h13 h13p h14 h14p s15 h15 h16 h16p h17 h18 h18p s19 h19 h20 s21 h21) e
                        ·
                          exact fun e => nomatch e
                      ·
                        have h18p := ne_of_beq_false h18
                        exact fun e => nomatch e
                    ·
                      exact fun e => nomatch e
end Ab
end Go.Proofs.Ytadipihpgcelmaa
namespace Go.Proofs.Ytadipihpgcelmaa
open Go Go.Proofs.Ytadipihpgcelmaa.Ab
set_option linter.unusedVariables false
set_option linter.unusedSimpArgs false
namespace Ab
theorem ckc_fl {kind gen : Int} (hk : 0 ≤ kind ∧ kind ≤ 1) (hg : 0 ≤ gen ∧ gen ≤ 2147483647) (i : Nat) : CkC (fillF_ kind gen i) := by
  refine ⟨by simp only [fillF_]; omega, by simp only [fillF_]; omega, hg.1, hg.2, fun _ => ?_⟩
  simp only [fillF_, z32]; exact pad_of (by simp)
theorem put_ck {l : List Ce} (h : CkI l) {s : Nat} {f : Nat → Ce} {n : Nat} (hf : ∀ i, i < n → CkC (f i)) (hn : s + n ≤ l.length) : CkI (putN l s f n) := ⟨by rw [putN_len]; exact h.1, by rw [putN_len]; exact h.2.1, putN_mem CkC h.2.2 hf hn⟩
theorem fill_over {l : List Ce} {s n : Nat} {f g : Nat → Ce} (h : s + n ≤ l.length) : putN (putN l s f n) s g n = putN l s g n := by
  refine List.ext_getElem? fun j => ?_
  rw [putN_get _ _ _ _ (by rw [putN_len]; omega), putN_get _ _ _ _ h, putN_get _ _ _ _ h]
  by_cases h1 : s ≤ j ∧ j < s + n
  · rw [if_pos h1, if_pos h1]
  · rw [if_neg h1, if_neg h1, if_neg h1]
theorem byt_at : ∀ (l : List Ce) (k : Nat), k < 32 * l.length → (byt l).getD k 0 = (pad 32 (ceAt l (k / 32)).d).getD (k % 32) 0
  | [], k, h => by simp at h
  | c :: l, k, h => by
    simp only [byt, List.flatMap_cons]
    by_cases hk : k < 32
    · rw [List.getD_eq_getElem?_getD, List.getElem?_append_left (by simpa using hk), show k / 32 = 0 by omega, show k % 32 = k by omega]
      rfl
    · have ih := byt_at l (k - 32) (by simp only [List.length_cons] at h; omega)
      unfold byt at ih
      rw [List.getD_eq_getElem?_getD] at ih
      rw [List.getD_eq_getElem?_getD, List.getElem?_append_right (by simp; omega), pad_len, ih, show k / 32 = (k - 32) / 32 + 1 by omega, show (k - 32) % 32 = k % 32 by omega]
      rfl
theorem lImageFills_true (l : List Ce) (lba n kind gen : Int) : lImageFills l lba n kind gen = some true := by
  unfold lImageFills
  rw [show aw9 = some true from rfl, tc_some]
  simp only [tb_dec]
  by_cases h1 : (l.length : Int) > 64
  · rw [if_pos h1]
  rw [if_neg h1, iCheck_eq l (by omega), tc_some, tb_not, tb_dec]
  by_cases hc : CkI l
  case neg => rw [if_neg hc]
  rw [if_pos hc, iFill_eq l lba n kind gen (by omega), tc_some]
  simp only [tb_bne]
  by_cases hf : Fits l lba n ∧ (0 ≤ kind ∧ kind ≤ 1) ∧ (0 ≤ gen ∧ gen ≤ 2147483647)
  case neg =>
    have e : fillS l lba n kind gen = (l, 81) := by unfold fillS; rw [if_pos hc, if_neg hf]
    rw [e, if_neg (by simp), tb_t]
    show tc (iAlike l l) _ = _
    rw [iAlike_eq l l (by omega), tc_some, decide_eq_true rfl]
  have hff := hf.1
  unfold Fits at hff
  have hn : lba.toNat + n.toNat ≤ l.length := by omega
  have e : fillS l lba n kind gen = (putN l lba.toNat (fillF_ kind gen) n.toNat, 0) := by unfold fillS; rw [if_pos hc, if_pos hf]
  generalize hM : putN l lba.toNat (fillF_ kind gen) n.toNat = M at e
  have hML : M.length = l.length := by rw [← hM, putN_len]
  have ckM : CkI M := by rw [← hM]; exact put_ck hc (fun i _ => ckc_fl hf.2.1 hf.2.2 i) hn
  have fM : Fits M lba n := by unfold Fits; rw [hML]; exact hf.1
  have e2 : fillS M lba n kind gen = (M, 0) := by
    unfold fillS; rw [if_pos ckM, if_pos ⟨fM, hf.2⟩, ← hM, fill_over hn]
  have r1 : readS M lba n = (byt ((M.drop lba.toNat).take n.toNat), 0) := by unfold readS; rw [if_pos ckM, if_pos fM]
  have h0 := hc.1
  have r2 : readS l 0 (l.length : Int) = (byt l, 0) := by
    unfold readS; rw [if_pos hc, if_pos (by unfold Fits; omega)]; simp
  have r3 : readS M 0 (M.length : Int) = (byt M, 0) := by
    unfold readS; rw [if_pos ckM, if_pos (by unfold Fits; omega)]; simp
  rw [e]
  simp only
  rw [if_pos trivial, iFill_eq M lba n kind gen (by omega), tc_some, e2, iRead_eq M lba n (by omega), tc_some, r1, iRead_eq l _ _ (by omega), tc_some, r2, iRead_eq M _ _ (by omega), tc_some, r3]
  simp only
  have w32 : wr (32 * n) = 32 * n := wr_id (by omega) (by omega)
  iterate 3 (first | rw [if_pos trivial] | rw [if_pos rfl])
  rw [w32, if_pos (by rw [byt_len, List.length_take, List.length_drop]; omega), if_pos (by rw [byt_len, byt_len, hML])]
  have bl1 := byt_len M
  have bl2 := byt_len l
  have hat : ∀ k : Nat, k < 32 * l.length → (if lba.toNat ≤ k / 32 ∧ k / 32 < lba.toNat + n.toNat then (byt M).getD k 0 = 0 else (byt M).getD k 0 = (byt l).getD k 0) := by
    intro k hk
    rw [byt_at M k (by omega), ← hM, putN_at l _ _ _ hn]
    split
    · simp only [fillF_, z32]
      rw [pad_of (by simp), List.getD_eq_getElem?_getD, List.getElem?_replicate]
      split <;> rfl
    · rw [byt_at l k hk]
  have u0 : ∀ (x : UInt8), x = 0 → ((x.toNat : Nat) : Int) = 0 := fun x h => by rw [h]; rfl
  rw [th_run_at (s0 := (0 : Int)) (S := fun i => (i : Int)) (k := (byt M).length) rfl ?_ ?_]
  · rw [if_neg (by omega), tb_t]
    simp only [tb_beq]
    rw [if_pos trivial, iAlike_eq M M (by omega), tc_some, decide_eq_true rfl, tb_t, iCheck_eq M (by omega), tc_some, decide_eq_true ckM]
  · intro i hi
    have hd : wr (Int.tdiv (i : Int) 32) = ((i / 32 : Nat) : Int) := by
      rw [Int.tdiv_eq_ediv_of_nonneg (by omega), wr_id (by omega) (by omega)]; omega
    have wl : wr (lba + n) = lba + n := wr_id (by omega) (by omega)
    have wi : wr ((i : Int) + 1) = ((i + 1 : Nat) : Int) := by rw [wr_id (by omega) (by omega)]; omega
    have hk := hat i (by omega)
    unfold lImageFills_L0_step
    simp only [tb_dec, tb_not, tb_bne, hd, wl, wi, Int.toNat_natCast, Nat.mul_one]
    rw [if_pos (by omega)]
    by_cases g1 : ((i / 32 : Nat) : Int) ≥ lba
    · rw [if_pos g1]
      by_cases g2 : ((i / 32 : Nat) : Int) < lba + n
      · rw [if_pos (show lba.toNat ≤ i / 32 ∧ i / 32 < lba.toNat + n.toNat by omega)] at hk
        rw [if_pos g2, tp_pos (by omega), if_pos (u0 _ hk), if_pos g2]
      · rw [if_neg (show ¬ (lba.toNat ≤ i / 32 ∧ i / 32 < lba.toNat + n.toNat) by omega)] at hk
        rw [if_neg g2, if_neg g2, tp_pos (by omega), tp_pos (by omega), if_pos (congrArg (fun x : UInt8 => ((x.toNat : Nat) : Int)) hk)]
    · rw [if_neg (show ¬ (lba.toNat ≤ i / 32 ∧ i / 32 < lba.toNat + n.toNat) by omega)] at hk
      rw [if_neg g1, tp_pos (by omega), tp_pos (by omega), if_pos (congrArg (fun x : UInt8 => ((x.toNat : Nat) : Int)) hk)]
  · unfold lImageFills_L0_step
    simp only [tb_dec]
    rw [if_neg (by omega)]
theorem imageFills_call (l : List Ce) (lba n kind gen : Int) (_ : ∀ c ∈ l, Ce.ok c) (_ : I64 lba) (_ : I64 n) (_ : I64 kind) (_ : I64 gen) : EvFr Try.prog cf false 7 [.sl l.length (l.flatMap Ce.cells), .i lba, .i n, .i kind, .i gen] (.b true) := lImageFills_ok l lba n kind gen true (lImageFills_true l lba n kind gen)
end Ab
end Go.Proofs.Ytadipihpgcelmaa
