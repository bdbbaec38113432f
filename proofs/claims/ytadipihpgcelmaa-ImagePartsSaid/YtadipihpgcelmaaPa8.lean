/- The law 'ImageParts': it returns true, and nothing that was there changes. No condition. (Part 8 of 9.) -/
import Derived.Test.YtadipihpgcelmaaPa7
import Derived.Test.YtadipihpgcelmaaRows
namespace Go.Proofs.Ytadipihpgcelmaa
open Go Go.Proofs.Ytadipihpgcelmaa.Ab
set_option linter.unusedVariables false
set_option linter.unusedSimpArgs false
set_option maxRecDepth 1000000
namespace Ab
def cf : Cfg := { inl := [37, 38, 39, 40, 41, 42, 44, 48, 54, 58], thaw := [(60, [[0, 0, 0, 0, 1]])], move := [12, 13, 14, 28, 34, 47, 53, 60], clone := [(32, 1, 1), (52, 1, 1), (55, 34, 48)] }
noncomputable def vwT : List (Nat × TI) := [(1, (TI.mk 1 8 [(AV.sc Go.Value.nilFunc)] (AV.sc Go.Value.nilFunc) TK.func)),
  (2, (TI.mk 1 8 [(AV.i 0)] (AV.i 0) (TK.int Go.IntKind.i64))),
  (3, (TI.mk 1 8 [(AV.i 0)] (AV.i 0) (TK.int Go.IntKind.i64))),
  (4, (TI.mk 1 1 [(AV.b Bool.false)] (AV.b Bool.false) TK.bool)),
  (5, (TI.mk 1 1 [(AV.y (UInt8.ofNat (0 : Nat)))] (AV.y (UInt8.ofNat (0 : Nat))) (TK.int Go.IntKind.u8))),
  (6, (TI.mk 1 1 [(AV.y (UInt8.ofNat (0 : Nat)))] (AV.y (UInt8.ofNat (0 : Nat))) (TK.int Go.IntKind.u8))),
  (7, (TI.mk 4 24 [(AV.i 0), (AV.i 0), (AV.b Bool.false), (AV.y (UInt8.ofNat (0 : Nat)))] (AV.ag [(AV.i 0), (AV.i 0), (AV.b Bool.false), (AV.y (UInt8.ofNat (0 : Nat)))]) (TK.struct [((0 : Nat), ((1 : Nat), Bool.false)), ((1 : Nat), ((1 : Nat), Bool.false)), ((2 : Nat), ((1 : Nat), Bool.false)), ((3 : Nat), ((1 : Nat), Bool.false))]))),
  (8, (TI.mk 4 24 [(AV.i 0), (AV.i 0), (AV.b Bool.false), (AV.y (UInt8.ofNat (0 : Nat)))] (AV.ag [(AV.i 0), (AV.i 0), (AV.b Bool.false), (AV.y (UInt8.ofNat (0 : Nat)))]) (TK.struct [((0 : Nat), ((1 : Nat), Bool.false)), ((1 : Nat), ((1 : Nat), Bool.false)), ((2 : Nat), ((1 : Nat), Bool.false)), ((3 : Nat), ((1 : Nat), Bool.false))]))),
  (9, (TI.mk 1 16 [(AV.st ([] : List UInt8))] (AV.st ([] : List UInt8)) TK.string)),
  (10, (TI.mk 1 16 [(AV.st ([] : List UInt8))] (AV.st ([] : List UInt8)) TK.string)),
  (11, (TI.mk 1 16 [(AV.st ([] : List UInt8))] (AV.st ([] : List UInt8)) TK.string)),
  (12, (TI.mk 1 8 [(AV.sc (Go.Value.int Go.IntKind.u64 0))] (AV.sc (Go.Value.int Go.IntKind.u64 0)) (TK.int Go.IntKind.u64))),
  (13, (TI.mk 2 24 [(AV.st ([] : List UInt8)), (AV.sc (Go.Value.int Go.IntKind.u64 0))] (AV.ag [(AV.st ([] : List UInt8)), (AV.sc (Go.Value.int Go.IntKind.u64 0))]) (TK.struct [((0 : Nat), ((1 : Nat), Bool.false)), ((1 : Nat), ((1 : Nat), Bool.false))]))),
  (14, (TI.mk 2 24 [(AV.st ([] : List UInt8)), (AV.sc (Go.Value.int Go.IntKind.u64 0))] (AV.ag [(AV.st ([] : List UInt8)), (AV.sc (Go.Value.int Go.IntKind.u64 0))]) (TK.struct [((0 : Nat), ((1 : Nat), Bool.false)), ((1 : Nat), ((1 : Nat), Bool.false))]))),
  (15, (TI.mk 1 8 [(AV.sc (Go.Value.pointer Option.none))] (AV.sc (Go.Value.pointer Option.none)) (TK.ptr (80 : Nat)))),
  (16, (TI.mk 1 8 [(AV.sc (Go.Value.pointer Option.none))] (AV.sc (Go.Value.pointer Option.none)) (TK.ptr (83 : Nat)))),
  (17, (TI.mk 1 8 [(AV.sc (Go.Value.pointer Option.none))] (AV.sc (Go.Value.pointer Option.none)) (TK.ptr (93 : Nat)))),
  (18, (TI.mk 1 8 [(AV.sc (Go.Value.pointer Option.none))] (AV.ag [(AV.sc (Go.Value.pointer Option.none))]) (TK.struct [((0 : Nat), ((1 : Nat), Bool.false))]))),
  (19, (TI.mk 1 8 [(AV.sc (Go.Value.pointer Option.none))] (AV.ag [(AV.sc (Go.Value.pointer Option.none))]) (TK.struct [((0 : Nat), ((1 : Nat), Bool.false))]))),
  (20, (TI.mk 1 16 [(AV.sc Go.Value.nilIface)] (AV.sc Go.Value.nilIface) TK.other)),
  (21, (TI.mk 1 4 [(AV.sc (Go.Value.int Go.IntKind.i32 0))] (AV.sc (Go.Value.int Go.IntKind.i32 0)) (TK.int Go.IntKind.i32))),
  (22, (TI.mk 1 24 [AV.nl] AV.nl (TK.slice (43 : Nat)))),
  (23, (TI.mk 1 24 [AV.nl] AV.nl (TK.slice (50 : Nat)))),
  (24, (TI.mk 1 8 [(AV.sc Go.Value.nilFunc)] (AV.sc Go.Value.nilFunc) TK.func)),
  (25, (TI.mk 1 8 [(AV.sc Go.Value.nilFunc)] (AV.sc Go.Value.nilFunc) TK.func)),
  (26, (TI.mk 1 8 [(AV.i 0)] (AV.i 0) (TK.int Go.IntKind.i64))),
  (28, (TI.mk 1 8 [(AV.sc Go.Value.nilFunc)] (AV.sc Go.Value.nilFunc) TK.func)),
  (30, (TI.mk 1 8 [(AV.sc Go.Value.nilFunc)] (AV.sc Go.Value.nilFunc) TK.func)),
  (31, (TI.mk 1 8 [(AV.sc Go.Value.nilFunc)] (AV.sc Go.Value.nilFunc) TK.func)),
  (32, (TI.mk 1 8 [(AV.sc Go.Value.nilFunc)] (AV.sc Go.Value.nilFunc) TK.func)),
  (33, (TI.mk 1 8 [(AV.sc Go.Value.nilFunc)] (AV.sc Go.Value.nilFunc) TK.func)),
  (34, (TI.mk 1 8 [(AV.sc Go.Value.nilFunc)] (AV.sc Go.Value.nilFunc) TK.func)),
  (35, (TI.mk 1 24 [AV.nl] AV.nl (TK.slice (5 : Nat)))),
  (36, (TI.mk 1 8 [(AV.sc Go.Value.nilFunc)] (AV.sc Go.Value.nilFunc) TK.func)),
  (37, (TI.mk 1 8 [(AV.sc Go.Value.nilFunc)] (AV.sc Go.Value.nilFunc) TK.func)),
  (39, (TI.mk 1 8 [(AV.sc Go.Value.nilFunc)] (AV.sc Go.Value.nilFunc) TK.func)),
  (40, (TI.mk 1 8 [(AV.sc Go.Value.nilFunc)] (AV.sc Go.Value.nilFunc) TK.func)),
  (41, (TI.mk 32 32 (List.replicate (32 : Nat) (AV.y (UInt8.ofNat (0 : Nat)))) (AV.ag (List.replicate (32 : Nat) (AV.y (UInt8.ofNat (0 : Nat))))) (TK.array 32 (5 : Nat)))),
  (42, (TI.mk 34 48 ((AV.i 0) :: (AV.i 0) :: List.replicate (32 : Nat) (AV.y (UInt8.ofNat (0 : Nat)))) (AV.ag ((AV.i 0) :: (AV.i 0) :: List.replicate (32 : Nat) (AV.y (UInt8.ofNat (0 : Nat))))) (TK.struct [((0 : Nat), ((1 : Nat), Bool.false)), ((1 : Nat), ((1 : Nat), Bool.false)), ((2 : Nat), ((32 : Nat), Bool.true))]))),
  (43, (TI.mk 34 48 ((AV.i 0) :: (AV.i 0) :: List.replicate (32 : Nat) (AV.y (UInt8.ofNat (0 : Nat)))) (AV.ag ((AV.i 0) :: (AV.i 0) :: List.replicate (32 : Nat) (AV.y (UInt8.ofNat (0 : Nat))))) (TK.struct [((0 : Nat), ((1 : Nat), Bool.false)), ((1 : Nat), ((1 : Nat), Bool.false)), ((2 : Nat), ((32 : Nat), Bool.true))]))),
  (44, (TI.mk 1 8 [(AV.sc Go.Value.nilFunc)] (AV.sc Go.Value.nilFunc) TK.func)),
  (45, (TI.mk 1 8 [(AV.sc Go.Value.nilFunc)] (AV.sc Go.Value.nilFunc) TK.func)),
  (46, (TI.mk 1 8 [(AV.sc Go.Value.nilFunc)] (AV.sc Go.Value.nilFunc) TK.func)),
  (47, (TI.mk 1 8 [(AV.sc Go.Value.nilFunc)] (AV.sc Go.Value.nilFunc) TK.func)),
  (48, (TI.mk 1 8 [(AV.sc Go.Value.nilFunc)] (AV.sc Go.Value.nilFunc) TK.func)),
  (49, (TI.mk 5 56 [(AV.i 0), (AV.i 0), (AV.i 0), (AV.i 0), AV.nl] (AV.ag [(AV.i 0), (AV.i 0), (AV.i 0), (AV.i 0), AV.nl]) (TK.struct [((0 : Nat), ((1 : Nat), Bool.false)), ((1 : Nat), ((1 : Nat), Bool.false)), ((2 : Nat), ((1 : Nat), Bool.false)), ((3 : Nat), ((1 : Nat), Bool.false)), ((4 : Nat), ((1 : Nat), Bool.false))]))),
  (50, (TI.mk 5 56 [(AV.i 0), (AV.i 0), (AV.i 0), (AV.i 0), AV.nl] (AV.ag [(AV.i 0), (AV.i 0), (AV.i 0), (AV.i 0), AV.nl]) (TK.struct [((0 : Nat), ((1 : Nat), Bool.false)), ((1 : Nat), ((1 : Nat), Bool.false)), ((2 : Nat), ((1 : Nat), Bool.false)), ((3 : Nat), ((1 : Nat), Bool.false)), ((4 : Nat), ((1 : Nat), Bool.false))]))),
  (51, (TI.mk 1 8 [(AV.sc Go.Value.nilFunc)] (AV.sc Go.Value.nilFunc) TK.func)),
  (52, (TI.mk 1 8 [(AV.sc Go.Value.nilFunc)] (AV.sc Go.Value.nilFunc) TK.func)),
  (53, (TI.mk 1 8 [(AV.sc Go.Value.nilFunc)] (AV.sc Go.Value.nilFunc) TK.func)),
  (54, (TI.mk 1 8 [(AV.sc Go.Value.nilFunc)] (AV.sc Go.Value.nilFunc) TK.func)),
  (56, (TI.mk 1 8 [(AV.sc Go.Value.nilFunc)] (AV.sc Go.Value.nilFunc) TK.func)),
  (57, (TI.mk 1 8 [(AV.sc Go.Value.nilFunc)] (AV.sc Go.Value.nilFunc) TK.func)),
  (58, (TI.mk 1 8 [(AV.sc Go.Value.nilFunc)] (AV.sc Go.Value.nilFunc) TK.func)),
  (59, (TI.mk 1 8 [(AV.sc Go.Value.nilFunc)] (AV.sc Go.Value.nilFunc) TK.func)),
  (60, (TI.mk 1 8 [(AV.sc Go.Value.nilFunc)] (AV.sc Go.Value.nilFunc) TK.func)),
  (61, (TI.mk 1 8 [(AV.sc Go.Value.nilFunc)] (AV.sc Go.Value.nilFunc) TK.func)),
  (62, (TI.mk 1 8 [(AV.sc Go.Value.nilFunc)] (AV.sc Go.Value.nilFunc) TK.func)),
  (63, (TI.mk 1 8 [(AV.sc Go.Value.nilFunc)] (AV.sc Go.Value.nilFunc) TK.func)),
  (64, (TI.mk 1 8 [(AV.sc Go.Value.nilFunc)] (AV.sc Go.Value.nilFunc) TK.func)),
  (65, (TI.mk 1 8 [(AV.sc Go.Value.nilFunc)] (AV.sc Go.Value.nilFunc) TK.func)),
  (66, (TI.mk 1 8 [(AV.sc Go.Value.nilFunc)] (AV.sc Go.Value.nilFunc) TK.func)),
  (67, (TI.mk 1 8 [(AV.sc Go.Value.nilFunc)] (AV.sc Go.Value.nilFunc) TK.func)),
  (68, (TI.mk 1 8 [(AV.sc Go.Value.nilFunc)] (AV.sc Go.Value.nilFunc) TK.func)),
  (69, (TI.mk 1 8 [(AV.sc Go.Value.nilFunc)] (AV.sc Go.Value.nilFunc) TK.func)),
  (70, (TI.mk 1 8 [(AV.sc Go.Value.nilFunc)] (AV.sc Go.Value.nilFunc) TK.func)),
  (71, (TI.mk 1 8 [(AV.sc Go.Value.nilFunc)] (AV.sc Go.Value.nilFunc) TK.func)),
  (72, (TI.mk 1 8 [(AV.sc Go.Value.nilFunc)] (AV.sc Go.Value.nilFunc) TK.func)),
  (73, (TI.mk 1 8 [(AV.sc Go.Value.nilFunc)] (AV.sc Go.Value.nilFunc) TK.func)),
  (74, (TI.mk 1 8 [(AV.sc Go.Value.nilFunc)] (AV.sc Go.Value.nilFunc) TK.func)),
  (76, (TI.mk 1 8 [(AV.sc Go.Value.nilFunc)] (AV.sc Go.Value.nilFunc) TK.func)),
  (77, (TI.mk 1 8 [(AV.sc Go.Value.nilFunc)] (AV.sc Go.Value.nilFunc) TK.func)),
  (78, (TI.mk 1 8 [(AV.sc Go.Value.nilFunc)] (AV.sc Go.Value.nilFunc) TK.func)),
  (79, (TI.mk 4 40 [(AV.sc (Go.Value.pointer Option.none)), (AV.sc (Go.Value.pointer Option.none)), (AV.sc (Go.Value.pointer Option.none)), (AV.st ([] : List UInt8))] (AV.ag [(AV.sc (Go.Value.pointer Option.none)), (AV.sc (Go.Value.pointer Option.none)), (AV.sc (Go.Value.pointer Option.none)), (AV.st ([] : List UInt8))]) (TK.struct [((0 : Nat), ((1 : Nat), Bool.false)), ((1 : Nat), ((1 : Nat), Bool.false)), ((2 : Nat), ((1 : Nat), Bool.false)), ((3 : Nat), ((1 : Nat), Bool.false))]))),
  (80, (TI.mk 4 40 [(AV.sc (Go.Value.pointer Option.none)), (AV.sc (Go.Value.pointer Option.none)), (AV.sc (Go.Value.pointer Option.none)), (AV.st ([] : List UInt8))] (AV.ag [(AV.sc (Go.Value.pointer Option.none)), (AV.sc (Go.Value.pointer Option.none)), (AV.sc (Go.Value.pointer Option.none)), (AV.st ([] : List UInt8))]) (TK.struct [((0 : Nat), ((1 : Nat), Bool.false)), ((1 : Nat), ((1 : Nat), Bool.false)), ((2 : Nat), ((1 : Nat), Bool.false)), ((3 : Nat), ((1 : Nat), Bool.false))]))),
  (81, (TI.mk 0 0 ([] : List AV) (AV.ag ([] : List AV)) (TK.array 0 (16 : Nat)))),
  (82, (TI.mk 0 0 ([] : List AV) (AV.ag ([] : List AV)) (TK.struct [((0 : Nat), ((0 : Nat), Bool.true))]))),
  (83, (TI.mk 0 0 ([] : List AV) (AV.ag ([] : List AV)) (TK.struct [((0 : Nat), ((0 : Nat), Bool.true))]))),
  (84, (TI.mk 1 8 [(AV.sc Go.Value.nilFunc)] (AV.sc Go.Value.nilFunc) TK.func)),
  (85, (TI.mk 1 4 [(AV.sc (Go.Value.int Go.IntKind.u32 0))] (AV.sc (Go.Value.int Go.IntKind.u32 0)) (TK.int Go.IntKind.u32))),
  (86, (TI.mk 1 1 [(AV.y (UInt8.ofNat (0 : Nat)))] (AV.y (UInt8.ofNat (0 : Nat))) (TK.int Go.IntKind.u8))),
  (87, (TI.mk 1 1 [(AV.y (UInt8.ofNat (0 : Nat)))] (AV.y (UInt8.ofNat (0 : Nat))) (TK.int Go.IntKind.u8))),
  (88, (TI.mk 1 8 [(AV.sc Go.Value.nilFunc)] (AV.sc Go.Value.nilFunc) TK.func)),
  (89, (TI.mk 1 8 [(AV.sc (Go.Value.pointer Option.none))] (AV.sc (Go.Value.pointer Option.none)) (TK.ptr (5 : Nat))))]
noncomputable def vwF : List (Nat × AF) := [(2, afOf Try.f2), (3, afOf Try.f3), (4, afOf Try.f4), (5, afOf Try.f5), (6, afOf Try.f6), (7, afOf Try.f7), (8, afOf Try.f8), (9, afOf Try.f9), (10, afOf Try.f10), (11, afOf Try.f11), (12, afOf Try.f12), (13, afOf Try.f13), (14, afOf Try.f14), (15, afOf Try.f15), (16, afOf Try.f16), (17, afOf Try.f17), (18, afOf Try.f18), (19, afOf Try.f19), (20, afOf Try.f20), (21, afOf Try.f21), (22, afOf Try.f22), (23, afOf Try.f23), (24, afOf Try.f24), (25, afOf Try.f25), (26, afOf Try.f26), (27, afOf Try.f27), (28, afOf Try.f28), (29, afOf Try.f29), (30, afOf Try.f30), (31, afOf Try.f31), (32, afOf Try.f32), (33, afOf Try.f33), (34, afOf Try.f34), (35, afOf Try.f35), (36, afOf Try.f36), (37, afOf Try.f37), (38, afOf Try.f38), (39, afOf Try.f39), (40, afOf Try.f40), (41, afOf Try.f41), (42, afOf Try.f42), (43, afOf Try.f43), (44, afOf Try.f44), (45, afOf Try.f45), (46, afOf Try.f46), (47, afOf Try.f47), (48, afOf Try.f48), (49, afOf Try.f49), (50, afOf Try.f50), (51, afOf Try.f51), (52, afOf Try.f52), (53, afOf Try.f53), (54, afOf Try.f54), (55, afOf Try.f55), (56, afOf Try.f56), (57, afOf Try.f57), (58, afOf Try.f58), (59, afOf Try.f59), (60, afOf Try.f60)]
noncomputable def vw : View := View.mkT Try.prog vwT vwF
theorem vwT_ok : ∀ x ∈ vwT, tinfo Try.prog x.1 = some x.2 := (all_cons (by kernel_rfl) (all_cons (by kernel_rfl) (all_cons (by kernel_rfl) (all_cons (by kernel_rfl) (all_cons (by kernel_rfl) (all_cons (by kernel_rfl) (all_cons (by kernel_rfl) (all_cons (by kernel_rfl) (all_cons (by kernel_rfl) (all_cons (by kernel_rfl) (all_cons (by kernel_rfl) (all_cons (by kernel_rfl) (all_cons (by kernel_rfl) (all_cons (by kernel_rfl) (all_cons (by kernel_rfl) (all_cons (by kernel_rfl) (all_cons (by kernel_rfl) (all_cons (by kernel_rfl) (all_cons (by kernel_rfl) (all_cons (by kernel_rfl) (all_cons (by kernel_rfl) (all_cons (by kernel_rfl) (all_cons (by kernel_rfl) (all_cons (by kernel_rfl) (all_cons (by kernel_rfl) (all_cons (by kernel_rfl) (all_cons (by kernel_rfl) (all_cons (by kernel_rfl) (all_cons (by kernel_rfl) (all_cons (by kernel_rfl) (all_cons (by kernel_rfl) (all_cons (by kernel_rfl) (all_cons (by kernel_rfl) (all_cons (by kernel_rfl) (all_cons (by kernel_rfl) (all_cons (by kernel_rfl) (all_cons (by kernel_rfl) (all_cons (by kernel_rfl) (all_cons (by kernel_rfl) (all_cons (by kernel_rfl) (all_cons (by kernel_rfl) (all_cons (by kernel_rfl) (all_cons (by kernel_rfl) (all_cons (by kernel_rfl) (all_cons (by kernel_rfl) (all_cons (by kernel_rfl) (all_cons (by kernel_rfl) (all_cons (by kernel_rfl) (all_cons (by kernel_rfl) (all_cons (by kernel_rfl) (all_cons (by kernel_rfl) (all_cons (by kernel_rfl) (all_cons (by kernel_rfl) (all_cons (by kernel_rfl) (all_cons (by kernel_rfl) (all_cons (by kernel_rfl) (all_cons (by kernel_rfl) (all_cons (by kernel_rfl) (all_cons (by kernel_rfl) (all_cons (by kernel_rfl) (all_cons (by kernel_rfl) (all_cons (by kernel_rfl) (all_cons (by kernel_rfl) (all_cons (by kernel_rfl) (all_cons (by kernel_rfl) (all_cons (by kernel_rfl) (all_cons (by kernel_rfl) (all_cons (by kernel_rfl) (all_cons (by kernel_rfl) (all_cons (by kernel_rfl) (all_cons (by kernel_rfl) (all_cons (by kernel_rfl) (all_cons (by kernel_rfl) (all_cons (by kernel_rfl) (all_cons (by kernel_rfl) (all_cons (by kernel_rfl) (all_cons (by kernel_rfl) (all_cons (by kernel_rfl) (all_cons (by kernel_rfl) (all_cons (by kernel_rfl) (all_cons (by kernel_rfl) (all_cons (by kernel_rfl) (all_cons (by kernel_rfl) (all_cons (by kernel_rfl) all_nil))))))))))))))))))))))))))))))))))))))))))))))))))))))))))))))))))))))))))))))))))))
theorem vwF_ok : ∀ x ∈ vwF, afun Try.prog x.1 = some x.2 := (all_cons (by kernel_rfl) (all_cons (by kernel_rfl) (all_cons (by kernel_rfl) (all_cons (by kernel_rfl) (all_cons (by kernel_rfl) (all_cons (by kernel_rfl) (all_cons (by kernel_rfl) (all_cons (by kernel_rfl) (all_cons (by kernel_rfl) (all_cons (by kernel_rfl) (all_cons (by kernel_rfl) (all_cons (by kernel_rfl) (all_cons (by kernel_rfl) (all_cons (by kernel_rfl) (all_cons (by kernel_rfl) (all_cons (by kernel_rfl) (all_cons (by kernel_rfl) (all_cons (by kernel_rfl) (all_cons (by kernel_rfl) (all_cons (by kernel_rfl) (all_cons (by kernel_rfl) (all_cons (by kernel_rfl) (all_cons (by kernel_rfl) (all_cons (by kernel_rfl) (all_cons (by kernel_rfl) (all_cons (by kernel_rfl) (all_cons (by kernel_rfl) (all_cons (by kernel_rfl) (all_cons (by kernel_rfl) (all_cons (by kernel_rfl) (all_cons (by kernel_rfl) (all_cons (by kernel_rfl) (all_cons (by kernel_rfl) (all_cons (by kernel_rfl) (all_cons (by kernel_rfl) (all_cons (by kernel_rfl) (all_cons (by kernel_rfl) (all_cons (by kernel_rfl) (all_cons (by kernel_rfl) (all_cons (by kernel_rfl) (all_cons (by kernel_rfl) (all_cons (by kernel_rfl) (all_cons (by kernel_rfl) (all_cons (by kernel_rfl) (all_cons (by kernel_rfl) (all_cons (by kernel_rfl) (all_cons (by kernel_rfl) (all_cons (by kernel_rfl) (all_cons (by kernel_rfl) (all_cons (by kernel_rfl) (all_cons (by kernel_rfl) (all_cons (by kernel_rfl) (all_cons (by kernel_rfl) (all_cons (by kernel_rfl) (all_cons (by kernel_rfl) (all_cons (by kernel_rfl) (all_cons (by kernel_rfl) (all_cons (by kernel_rfl) (all_cons (by kernel_rfl) all_nil)))))))))))))))))))))))))))))))))))))))))))))))))))))))))))
theorem vw_eq : vw = View.of Try.prog := View.mkT_eq vwT_ok vwF_ok
theorem ord_15_0 : orderOk (rg Try.prog 15 0) = true := by kernel_rfl
theorem bef_15_0 : Region.before (rg Try.prog 15 0) = #[0, 0, 3, 7, 0, 0, 48, 112, 255] := by kernel_rfl
theorem ord_44_0 : orderOk (rg Try.prog 44 0) = true := by kernel_rfl
theorem bef_44_0 : Region.before (rg Try.prog 44 0) = #[0, 1, 0, 0, 8, 28, 63] := by kernel_rfl
theorem clones : CloneOk Try.prog cf.clone :=
  (cloneOk_cons (clone_at Try.func32 rfl rfl rfl (by kernel_rfl) (t := 35) (by kernel_rfl)) (cloneOk_cons (clone_at Try.func52 rfl rfl rfl (by kernel_rfl) (t := 35) (by kernel_rfl)) (cloneOk_cons (clone_at Try.func55 rfl rfl rfl (by kernel_rfl) (t := 22) (by kernel_rfl)) (cloneOk_nil _))))
end Ab
end Go.Proofs.Ytadipihpgcelmaa
namespace Go.Proofs.Ytadipihpgcelmaa
open Go Go.Proofs.Ytadipihpgcelmaa.Ab
set_option linter.unusedVariables false
set_option linter.unusedSimpArgs false
namespace Ab
theorem wr_id {x : Int} (h1 : -9223372036854775808 ≤ x) (h2 : x ≤ 9223372036854775807) : wr x = x := by
  simp [wr, IntKind.wrap, IntKind.bits, IntKind.signed]
  omega
section
variable {α β σ : Type}
@[simp] theorem tb_t (x y : Option α) : tb true x y = x := rfl
@[simp] theorem tb_f (x y : Option α) : tb false x y = y := rfl
theorem tb_pos {c : Bool} {x y : Option α} (h : c = true) : tb c x y = x := by subst h; rfl
theorem tb_neg {c : Bool} {x y : Option α} (h : c = false) : tb c x y = y := by subst h; rfl
theorem tp_pos {p : Prop} [Decidable p] {x : Option α} (h : p) : tp p x = x := if_pos h
@[simp] theorem tc_some (s : β) (f : β → Option α) : tc (some s) f = f s := rfl
theorem tb_dec (p : Prop) [Decidable p] (x y : Option α) : tb (decide p) x y = if p then x else y := by
  by_cases h : p <;> simp [h]
theorem tb_beq (a b : Int) (x y : Option α) : tb (a == b) x y = if a = b then x else y := by
  by_cases h : a = b
  · rw [if_pos h]; exact tb_pos (beq_iff_eq.2 h)
  · rw [if_neg h]; exact tb_neg (beq_eq_false_iff_ne.2 h)
theorem tb_bne (a b : Int) (x y : Option α) : tb (a != b) x y = if a = b then y else x := by
  by_cases h : a = b
  · rw [if_pos h]; exact tb_neg (bne_eq_false_iff_eq.2 h)
  · rw [if_neg h]; exact tb_pos (bne_iff_ne.2 h)
theorem tb_not (c : Bool) (x y : Option α) : tb (!c) x y = tb c y x := by cases c <;> rfl
theorem th_run {step : σ → Option σ} {f : σ → Option α} (S : Nat → σ) (k : Nat) (hs : ∀ i, i < k → step (S i) = some (S (i + 1))) (he : step (S k) = none) : th step (S 0) f = f (S k) := by
  have : ∀ n, n ≤ k → Runs step (S (k - n)) (S k) := by
    intro n
    induction n with
    | zero => exact fun _ => .refl _
    | succ n ih =>
      intro hn
      refine .step (hs _ (by omega)) ?_
      rw [show k - (n + 1) + 1 = k - n by omega]
      exact ih (by omega)
  have h := this k (Nat.le_refl _)
  rw [Nat.sub_self] at h
  exact th_of h he rfl
/-- A loop that asks something of each place. -/
theorem th_all {step : Int → Option Int} {f : Int → Option α} (r1 r2 : Option α) (n : Nat) (P : Nat → Prop) (Q : Prop) [Decidable Q] (hQ : (∀ i, i < n → P i) ↔ Q) (hs : ∀ i : Nat, i < n → P i → step (i : Int) = some ((i : Int) + 1)) (hf : ∀ i : Nat, i < n → ¬ P i → step (i : Int) = none ∧ f (i : Int) = r1) (he : step (n : Int) = none ∧ f (n : Int) = r2) :
    th step 0 f = if Q then r2 else r1 := by
  by_cases h : ∀ i, i < n → P i
  · rw [if_pos (hQ.1 h)]
    have := th_run (step := step) (f := f) (fun i => (i : Int)) n (fun i hi => hs i hi (h i hi)) he.1
    simp only [Int.natCast_zero] at this
    rw [this]; exact he.2
  · rw [if_neg (fun g => h (hQ.2 g))]
    have hex : ∃ i, i < n ∧ ¬ P i := by
      refine Classical.byContradiction fun hn => h fun i hi => ?_
      exact Classical.byContradiction fun hp => hn ⟨i, hi, hp⟩
    have key : ∀ k, (∃ i, i < k ∧ i < n ∧ ¬ P i) → ∃ i, i < n ∧ ¬ P i ∧ ∀ j, j < i → P j := by
      intro k
      induction k with
      | zero => rintro ⟨i, hi, _⟩; omega
      | succ k ih =>
        rintro ⟨i, h1, h2, h3⟩
        by_cases hk : ∃ i, i < k ∧ i < n ∧ ¬ P i
        · exact ih hk
        · have hik : i = k := by
            rcases Nat.lt_or_ge i k with g | g
            · exact absurd ⟨i, g, h2, h3⟩ hk
            · omega
          refine ⟨i, h2, h3, fun j hj => ?_⟩
          exact Classical.byContradiction fun hp => hk ⟨j, by omega, by omega, hp⟩
    obtain ⟨i, h1, h2⟩ := hex
    obtain ⟨k, k1, k2, k3⟩ := key (i + 1) ⟨i, by omega, h1, h2⟩
    have := th_run (step := step) (f := f) (fun i => (i : Int)) k (fun i hi => hs i (by omega) (k3 i hi)) (hf k k1 k2).1
    simp only [Int.natCast_zero] at this
    rw [this]; exact (hf k k1 k2).2
end
theorem getD_all {α : Type} (d : α) (l : List α) (p : α → Prop) : (∀ i, i < l.length → p (l.getD i d)) ↔ ∀ x ∈ l, p x := by
  refine ⟨fun h x hx => ?_, fun h i hi => h _ ?_⟩
  · obtain ⟨i, hi, e⟩ := List.getElem_of_mem hx
    have := h i hi
    rw [← e]
    simpa [hi] using this
  · simp [hi]
end Ab
end Go.Proofs.Ytadipihpgcelmaa
namespace Go.Proofs.Ytadipihpgcelmaa
open Go Go.Proofs.Ytadipihpgcelmaa.Ab
set_option linter.unusedVariables false
set_option linter.unusedSimpArgs false
namespace Ab
def CkC (c : Ce) : Prop := 0 ≤ c.kind ∧ c.kind ≤ 2 ∧ 0 ≤ c.gen ∧ c.gen ≤ 2147483647 ∧ (c.kind ≠ 2 → pad 32 c.d = List.replicate 32 0)
instance (c : Ce) : Decidable (CkC c) := by unfold CkC; infer_instance
/-- May blocks be? -/
def CkI (l : List Ce) : Prop := 1 ≤ l.length ∧ l.length ≤ 64 ∧ ∀ c ∈ l, CkC c
instance (l : List Ce) : Decidable (CkI l) := by unfold CkI; infer_instance
theorem ceAt_all (l : List Ce) (p : Ce → Prop) : (∀ i, i < l.length → p (ceAt l i)) ↔ ∀ x ∈ l, p x := by
  unfold ceAt; exact getD_all _ l p
end Ab
end Go.Proofs.Ytadipihpgcelmaa
namespace Go.Proofs.Ytadipihpgcelmaa.Ab
open Go
theorem kq {p : Prop} (h : p := by kernel_rfl) : p := h
end Go.Proofs.Ytadipihpgcelmaa.Ab
namespace Go.Proofs.Ytadipihpgcelmaa
open Go Go.Proofs.Ytadipihpgcelmaa.Ab
set_option linter.unusedVariables false
set_option linter.unusedSimpArgs false
set_option maxRecDepth 1000000
namespace Ab
/-- Function 36, as it answers. -/
noncomputable def iWithin (n : Int) (low : Int) (high : Int) : Option (Bool) :=
 (tb ((decide (n ≥ low)))
  (some ((decide (n ≤ high))))
  (some (Bool.false)))
abbrev iWithin_G (n : Int) (low : Int) (high : Int) (r : Bool) : Prop := EvFr Try.prog cf true 36 [.i (n), .i (low), .i (high)] (.b (r))
theorem iWithin_l0 (n : Int) (low : Int) (high : Int) (h0 : ((decide (n ≥ low))) = true) (h0p : (n ≥ low)) : iWithin_G n low high ((decide (n ≤ high))) :=
  leafR vw_eq (k := 300) (r := []) (hs := hz [(5, [.yes]), (1, [.yes]), (1, [.yes]), (1, [.yes]), (1, [])]) (raw := (AV.b (decide (n ≤ high)))) (ps := [((decide (n ≥ low))) = true, ((decide (n ≥ low))) = true, ((decide (n ≥ low))) = true, ((decide (n ≥ low))) = true]) kq ⟨h0, h0, h0, h0, trivial⟩ tq
theorem iWithin_l1 (n : Int) (low : Int) (high : Int) (h0 : ((decide (n ≥ low))) = false) (h0p : ¬ (n ≥ low)) : iWithin_G n low high (Bool.false) :=
  leafR vw_eq (k := 300) (r := []) (hs := hz [(5, [.no, .no, .no, .no]), (1, [])]) (raw := (AV.b Bool.false)) (ps := [((decide (n ≥ low))) = false, ((decide (n ≥ low))) = false, ((decide (n ≥ low))) = false, ((decide (n ≥ low))) = false]) kq ⟨h0, h0, h0, h0, trivial⟩ tq
theorem iWithin_ok (n : Int) (low : Int) (high : Int) (r : Bool) : iWithin n low high = some r → iWithin_G n low high r := by
  unfold iWithin
  refine tb_ok (fun h0 => ?_) (fun h0 => ?_)
  ·
    have h0p := of_decide_eq_true h0
    exact fun e => tl_ok (G := iWithin_G n low high) (iWithin_l0 n low high h0 h0p) e
  ·
    have h0p := of_decide_eq_false h0
    exact fun e => tl_ok (G := iWithin_G n low high) (iWithin_l1 n low high h0 h0p) e
noncomputable abbrev iCheck_L0_I (l : List Ce) (s0 : Bool) : St := (St.mk [(0, (AV.sl (List.length l) (List.flatMap Ce.cells l))), (1, (AV.fn (38 : Nat) ([] : List AV))), (4, (AV.i 0)), (6, (AV.sl (List.length l) (List.flatMap Ce.cells l))), (7, (AV.i (↑(List.length l) : Int))), (8, (AV.i 0))] 19 (AH.mk 0 ([] : List (Prod Nat AObj))) Bool.false)
noncomputable abbrev iCheck_L0_S (l : List Ce) (s0 : Bool) (s2 : Int) : St := (St.mk [(0, (AV.sl (List.length l) (List.flatMap Ce.cells l))), (1, (AV.fn (38 : Nat) ([] : List AV))), (7, (AV.i (↑(List.length l) : Int))), (8, (AV.i s2))] 19 (AH.mk 0 ([] : List (Prod Nat AObj))) Bool.false)
noncomputable def iCheck_L0_step (l : List Ce) (s0 : Bool) (s2 : Int) : Option (Int) :=
 (tb ((decide (s2 < (↑(List.length l) : Int))))
  (tp ((((0 : Int) ≤ s2) ∧ (s2 < (↑(List.length l) : Int))))
   (tc (iWithin ((ceAt l (Int.toNat s2)).kind) ((0 : Int)) ((2 : Int))) fun s5 =>
    (tb ((!s5))
     none /- exit -/
     (tc (iWithin ((ceAt l (Int.toNat s2)).gen) ((0 : Int)) ((2147483647 : Int))) fun s7 =>
      (tb ((!s7))
       none /- exit -/
       (tb (((ceAt l (Int.toNat s2)).kind != (2 : Int)))
        (tb ((!((pad 32 (ceAt l (Int.toNat s2)).d) == (List.replicate (32 : Nat) (UInt8.ofNat (0 : Nat))))))
         none /- exit -/
         (some ((wr (s2 + (1 : Int))))))
        (some ((wr (s2 + (1 : Int)))))))))))
  none /- exit -/)
theorem iCheck_L0_s0 (l : List Ce) (s0 : Bool) (s2 : Int) (h3 : ((decide (s2 < (↑(List.length l) : Int)))) = true) (h3p : (s2 < (↑(List.length l) : Int))) (h4 : (((0 : Int) ≤ s2) ∧ (s2 < (↑(List.length l) : Int)))) (s5 : Bool) (h5 : iWithin ((ceAt l (Int.toNat s2)).kind) ((0 : Int)) ((2 : Int)) = some s5) (h6 : ((!s5)) = false) (s7 : Bool) (h7 : iWithin ((ceAt l (Int.toNat s2)).gen) ((0 : Int)) ((2147483647 : Int)) = some s7) (h8 : ((!s7)) = false) (h9 : (((ceAt l (Int.toNat s2)).kind != (2 : Int))) = true) (h9p : ¬ ((ceAt l (Int.toNat s2)).kind = (2 : Int))) (h10 : ((!((pad 32 (ceAt l (Int.toNat s2)).d) == (List.replicate (32 : Nat) (UInt8.ofNat (0 : Nat)))))) = false) : EvStep Try.prog cf 0 (lp Try.prog 54 0) (iCheck_L0_S l s0 s2) (iCheck_L0_S l s0 ((wr (s2 + (1 : Int))))) :=
  leafS vw_eq (k := 300) (r := []) (hs := hz [(1, [.yes]), (5, [.yes, .yes, .cells ((Ce.cells (ceAt l (Int.toNat s2))))]), (7, [.fres (.b (s5))]), (2, [.no]), (1, [.no]), (2, [.no]), (1, [.fres (.b (s7)), .no]), (1, [.no]), (1, [.no]), (1, [.no]), (2, [.no]), (1, [.no]), (1, [.yes]), (1, [.yes, .yes]), (1, [.yes]), (1, [.yes, .yes, .truth (((pad 32 (ceAt l (Int.toNat s2)).d) == (List.replicate (32 : Nat) (UInt8.ofNat (0 : Nat))))), .no, .yes, .no]), (1, [.no]), (2, [])]) (st1 := (St.mk [(0, (AV.sl (List.length l) (List.flatMap Ce.cells l))), (1, (AV.fn (38 : Nat) ([] : List AV))), (7, (AV.i (↑(List.length l) : Int))), (8, (AV.i (wr (s2 + (1 : Int))))), (9, (AV.b (decide (s2 < (↑(List.length l) : Int))))), (10, (AV.i s2)), (5, (AV.i s2)), (11, (AV.fn (38 : Nat) ([] : List AV))), (12, (AV.sl (List.length l) (List.flatMap Ce.cells l))), (13, (AV.i s2)), (14, (AV.ip (List.drop ((Int.toNat s2) * (34 : Nat)) (List.flatMap Ce.cells l)))), (15, (AV.ag (Ce.cells (ceAt l (Int.toNat s2))))), (16, (AV.b (!((pad 32 (ceAt l (Int.toNat s2)).d) == (List.replicate (32 : Nat) (UInt8.ofNat (0 : Nat))))))), (18, (AV.i (wr (s2 + (1 : Int)))))] 19 (AH.mk 1 [(0, (AObj.cells ((AV.i (ceAt l (Int.toNat s2)).kind) :: (AV.i (ceAt l (Int.toNat s2)).gen) :: (List.map AV.y (pad 32 (ceAt l (Int.toNat s2)).d)))))]) Bool.false)) (ps := [((decide (s2 < (↑(List.length l) : Int)))) = true, (((0 : Int) ≤ s2) ∧ (s2 < (↑(List.length l) : Int))), ((34 : Nat) ≤ (List.length (List.drop ((Int.toNat s2) * (34 : Nat)) (List.flatMap Ce.cells l)))), (List.take 34 (List.drop ((Int.toNat s2) * (34 : Nat)) (List.flatMap Ce.cells l))) = (Ce.cells (ceAt l (Int.toNat s2))), EvFr Try.prog cf Bool.false 36 [(AV.i (ceAt l (Int.toNat s2)).kind), (AV.i 0), (AV.i 2)] (.b (s5)), ((!s5)) = false, ((!s5)) = false, ((!s5)) = false, EvFr Try.prog cf Bool.false 36 [(AV.i (ceAt l (Int.toNat s2)).gen), (AV.i 0), (AV.i 2147483647)] (.b (s7)), ((!s5)) = false, ((!s5)) = false, ((!s7)) = false, ((!s7)) = false, ((!s7)) = false, ((!s7)) = false, (((ceAt l (Int.toNat s2)).kind != (2 : Int))) = true, (((ceAt l (Int.toNat s2)).kind != (2 : Int))) = true, ((34 : Nat) ≤ (List.length ((AV.i (ceAt l (Int.toNat s2)).kind) :: (AV.i (ceAt l (Int.toNat s2)).gen) :: (List.map AV.y (pad 32 (ceAt l (Int.toNat s2)).d))))), (((ceAt l (Int.toNat s2)).kind != (2 : Int))) = true, (((ceAt l (Int.toNat s2)).kind != (2 : Int))) = true, (((List.length (List.take 32 (List.map AV.y (pad 32 (ceAt l (Int.toNat s2)).d)))) = (32 : Nat)) ∧ ((32 : Nat) = (32 : Nat))), eqCells ((List.take 32 (List.map AV.y (pad 32 (ceAt l (Int.toNat s2)).d)))) ((List.replicate (32 : Nat) (AV.y (UInt8.ofNat (0 : Nat))))) = some (((pad 32 (ceAt l (Int.toNat s2)).d) == (List.replicate (32 : Nat) (UInt8.ofNat (0 : Nat))))), ((!s7)) = false, (((ceAt l (Int.toNat s2)).kind != (2 : Int))) = true, ((!s7)) = false, ((!((pad 32 (ceAt l (Int.toNat s2)).d) == (List.replicate (32 : Nat) (UInt8.ofNat (0 : Nat)))))) = false]) kq ⟨h3, h4, fq, (by first | exact ce_take _ _ bq | (simpa using ce_take _ _ bq) | ((try simp only [List.drop_drop]); rw [show ((Int.toNat s2) * (34 : Nat)) = ((Int.toNat s2)) * 34 by omega]; exact ce_take _ _ bq)), ((iWithin_ok ((ceAt l (Int.toNat s2)).kind) ((0 : Int)) ((2 : Int)) _ h5).any.cast tq), h6, h6, h6, ((iWithin_ok ((ceAt l (Int.toNat s2)).gen) ((0 : Int)) ((2147483647 : Int)) _ h7).any.cast tq), h6, h6, h8, h8, h8, h8, h9, h9, tq, h9, h9, tq, (eqCells_of tq tq tq), h8, h9, h8, h10, trivial⟩ (Nat.le_of_ble_eq_true rfl) (absB_of [] [] kq (.consn kq (.eqv tq rfl) (.consn kq (.fn .nil) (.consn kq (.eqv tq rfl) (.consn kq (.eqv tq rfl) .nil)))) .nil)
theorem iCheck_L0_s1 (l : List Ce) (s0 : Bool) (s2 : Int) (h3 : ((decide (s2 < (↑(List.length l) : Int)))) = true) (h3p : (s2 < (↑(List.length l) : Int))) (h4 : (((0 : Int) ≤ s2) ∧ (s2 < (↑(List.length l) : Int)))) (s5 : Bool) (h5 : iWithin ((ceAt l (Int.toNat s2)).kind) ((0 : Int)) ((2 : Int)) = some s5) (h6 : ((!s5)) = false) (s7 : Bool) (h7 : iWithin ((ceAt l (Int.toNat s2)).gen) ((0 : Int)) ((2147483647 : Int)) = some s7) (h8 : ((!s7)) = false) (h9 : (((ceAt l (Int.toNat s2)).kind != (2 : Int))) = false) (h9p : ((ceAt l (Int.toNat s2)).kind = (2 : Int))) : EvStep Try.prog cf 0 (lp Try.prog 54 0) (iCheck_L0_S l s0 s2) (iCheck_L0_S l s0 ((wr (s2 + (1 : Int))))) :=
  leafS vw_eq (k := 300) (r := []) (hs := hz [(1, [.yes]), (5, [.yes, .yes, .cells ((Ce.cells (ceAt l (Int.toNat s2))))]), (7, [.fres (.b (s5))]), (2, [.no]), (1, [.no]), (2, [.no]), (1, [.fres (.b (s7)), .no]), (1, [.no]), (1, [.no]), (1, [.no]), (2, [.no]), (1, [.no]), (1, [.no, .no, .no, .no, .no, .no, .no]), (4, [])]) (st1 := (St.mk [(0, (AV.sl (List.length l) (List.flatMap Ce.cells l))), (1, (AV.fn (38 : Nat) ([] : List AV))), (7, (AV.i (↑(List.length l) : Int))), (8, (AV.i (wr (s2 + (1 : Int))))), (9, (AV.b (decide (s2 < (↑(List.length l) : Int))))), (10, (AV.i s2)), (5, (AV.i s2)), (11, (AV.fn (38 : Nat) ([] : List AV))), (12, (AV.sl (List.length l) (List.flatMap Ce.cells l))), (13, (AV.i s2)), (14, (AV.ip (List.drop ((Int.toNat s2) * (34 : Nat)) (List.flatMap Ce.cells l)))), (15, (AV.ag (Ce.cells (ceAt l (Int.toNat s2))))), (16, (AV.b Bool.false)), (18, (AV.i (wr (s2 + (1 : Int)))))] 19 (AH.mk 1 [(0, (AObj.cells ((AV.i (ceAt l (Int.toNat s2)).kind) :: (AV.i (ceAt l (Int.toNat s2)).gen) :: (List.map AV.y (pad 32 (ceAt l (Int.toNat s2)).d)))))]) Bool.false)) (ps := [((decide (s2 < (↑(List.length l) : Int)))) = true, (((0 : Int) ≤ s2) ∧ (s2 < (↑(List.length l) : Int))), ((34 : Nat) ≤ (List.length (List.drop ((Int.toNat s2) * (34 : Nat)) (List.flatMap Ce.cells l)))), (List.take 34 (List.drop ((Int.toNat s2) * (34 : Nat)) (List.flatMap Ce.cells l))) = (Ce.cells (ceAt l (Int.toNat s2))), EvFr Try.prog cf Bool.false 36 [(AV.i (ceAt l (Int.toNat s2)).kind), (AV.i 0), (AV.i 2)] (.b (s5)), ((!s5)) = false, ((!s5)) = false, ((!s5)) = false, EvFr Try.prog cf Bool.false 36 [(AV.i (ceAt l (Int.toNat s2)).gen), (AV.i 0), (AV.i 2147483647)] (.b (s7)), ((!s5)) = false, ((!s5)) = false, ((!s7)) = false, ((!s7)) = false, ((!s7)) = false, ((!s7)) = false, (((ceAt l (Int.toNat s2)).kind != (2 : Int))) = false, (((ceAt l (Int.toNat s2)).kind != (2 : Int))) = false, (((ceAt l (Int.toNat s2)).kind != (2 : Int))) = false, (((ceAt l (Int.toNat s2)).kind != (2 : Int))) = false, ((!s7)) = false, (((ceAt l (Int.toNat s2)).kind != (2 : Int))) = false, ((!s7)) = false]) kq ⟨h3, h4, fq, (by first | exact ce_take _ _ bq | (simpa using ce_take _ _ bq) | ((try simp only [List.drop_drop]); rw [show ((Int.toNat s2) * (34 : Nat)) = ((Int.toNat s2)) * 34 by omega]; exact ce_take _ _ bq)), ((iWithin_ok ((ceAt l (Int.toNat s2)).kind) ((0 : Int)) ((2 : Int)) _ h5).any.cast tq), h6, h6, h6, ((iWithin_ok ((ceAt l (Int.toNat s2)).gen) ((0 : Int)) ((2147483647 : Int)) _ h7).any.cast tq), h6, h6, h8, h8, h8, h8, h9, h9, h9, h9, h8, h9, h8, trivial⟩ (Nat.le_of_ble_eq_true rfl) (absB_of [] [] kq (.consn kq (.eqv tq rfl) (.consn kq (.fn .nil) (.consn kq (.eqv tq rfl) (.consn kq (.eqv tq rfl) .nil)))) .nil)
theorem iCheck_L0_ok (l : List Ce) (s0 : Bool) (s2 zz : Int) : iCheck_L0_step l s0 s2 = some zz → EvStep Try.prog cf 0 (lp Try.prog 54 0) (iCheck_L0_S l s0 s2) (iCheck_L0_S l s0 zz) := by
  unfold iCheck_L0_step
  refine tb_ok (fun h3 => ?_) (fun h3 => ?_)
  ·
    have h3p := of_decide_eq_true h3
    refine tp_ok (fun h4 => ?_)
    refine tc_ok (fun s5 h5 => ?_)
    refine tb_ok (fun h6 => ?_) (fun h6 => ?_)
    ·
      exact fun e => nomatch e
    ·
      refine tc_ok (fun s7 h7 => ?_)
      refine tb_ok (fun h8 => ?_) (fun h8 => ?_)
      ·
        exact fun e => nomatch e
      ·
        refine tb_ok (fun h9 => ?_) (fun h9 => ?_)
        ·
          have h9p := bne_iff_ne.1 h9
          refine tb_ok (fun h10 => ?_) (fun h10 => ?_)
          ·
            exact fun e => nomatch e
          ·
            exact fun e => tl_ok (G := (fun zz => EvStep Try.prog cf 0 (lp Try.prog 54 0) (iCheck_L0_S l s0 s2) (iCheck_L0_S l s0 zz))) (iCheck_L0_s0 l s0 s2 h3 h3p h4 s5 h5 h6 s7 h7 h8 h9 h9p h10) e
        ·
          have h9p := bne_eq_false_iff_eq.1 h9
          exact fun e => tl_ok (G := (fun zz => EvStep Try.prog cf 0 (lp Try.prog 54 0) (iCheck_L0_S l s0 s2) (iCheck_L0_S l s0 zz))) (iCheck_L0_s1 l s0 s2 h3 h3p h4 s5 h5 h6 s7 h7 h8 h9 h9p) e
  ·
    have h3p := of_decide_eq_false h3
    exact fun e => nomatch e
/-- Function 17, as it answers. -/
noncomputable def iCheck (l : List Ce) : Option (Bool) :=
 (tc (iWithin ((↑(List.length l) : Int)) ((1 : Int)) ((64 : Int))) fun s0 =>
  (tb (s0)
   (th (iCheck_L0_step l s0) ((0 : Int)) fun s2 =>
    (tb ((decide (s2 < (↑(List.length l) : Int))))
     (tp ((((0 : Int) ≤ s2) ∧ (s2 < (↑(List.length l) : Int))))
      (tc (iWithin ((ceAt l (Int.toNat s2)).kind) ((0 : Int)) ((2 : Int))) fun s5 =>
       (tb ((!s5))
        (some ((!(decide (s2 ≥ (0 : Int))))))
        (tc (iWithin ((ceAt l (Int.toNat s2)).gen) ((0 : Int)) ((2147483647 : Int))) fun s7 =>
         (tb ((!s7))
          (some ((!(decide (s2 ≥ (0 : Int))))))
          (tb (((ceAt l (Int.toNat s2)).kind != (2 : Int)))
           (tb ((!((pad 32 (ceAt l (Int.toNat s2)).d) == (List.replicate (32 : Nat) (UInt8.ofNat (0 : Nat))))))
            (some ((!(decide (s2 ≥ (0 : Int))))))
            none /- stop behind an operation -/)
           none /- stop behind an operation -/))))))
     (some (Bool.true))))
   (some (Bool.false))))
abbrev iCheck_G (l : List Ce) (r : Bool) : Prop := EvFr Try.prog cf true 17 [ces (l)] (.b (r))
theorem iCheck_l0 (l : List Ce) (s0 : Bool) (h0 : iWithin ((↑(List.length l) : Int)) ((1 : Int)) ((64 : Int)) = some s0) (h1 : (s0) = true) (s2 : Int) (h2 : Runs (iCheck_L0_step l s0) ((0 : Int)) s2) (h3 : ((decide (s2 < (↑(List.length l) : Int)))) = true) (h3p : (s2 < (↑(List.length l) : Int))) (h4 : (((0 : Int) ≤ s2) ∧ (s2 < (↑(List.length l) : Int)))) (s5 : Bool) (h5 : iWithin ((ceAt l (Int.toNat s2)).kind) ((0 : Int)) ((2 : Int)) = some s5) (h6 : ((!s5)) = true) : iCheck_G l ((!(decide (s2 ≥ (0 : Int))))) :=
  leafR vw_eq (k := 300) (r := []) (hs := hz [(4, [.fres (.b (s0))]), (1, [.yes]), (1, [.yes]), (9, [.head (iCheck_L0_S l s0 s2)]), (1, [.yes]), (5, [.yes, .yes, .cells ((Ce.cells (ceAt l (Int.toNat s2))))]), (7, [.fres (.b (s5))]), (2, [.yes, .yes, .yes, .yes, .yes]), (13, [.yes]), (1, [.yes]), (1, [])]) (raw := (AV.b (!(decide (s2 ≥ (0 : Int)))))) (ps := [EvFr Try.prog cf Bool.false 36 [(AV.i (↑(List.length l) : Int)), (AV.i 1), (AV.i 64)] (.b (s0)), (s0) = true, (s0) = true, EvHead Try.prog cf (lp Try.prog 54 0) (iCheck_L0_I l s0) (iCheck_L0_S l s0 s2), ((decide (s2 < (↑(List.length l) : Int)))) = true, (((0 : Int) ≤ s2) ∧ (s2 < (↑(List.length l) : Int))), ((34 : Nat) ≤ (List.length (List.drop ((Int.toNat s2) * (34 : Nat)) (List.flatMap Ce.cells l)))), (List.take 34 (List.drop ((Int.toNat s2) * (34 : Nat)) (List.flatMap Ce.cells l))) = (Ce.cells (ceAt l (Int.toNat s2))), EvFr Try.prog cf Bool.false 36 [(AV.i (ceAt l (Int.toNat s2)).kind), (AV.i 0), (AV.i 2)] (.b (s5)), ((!s5)) = true, ((!s5)) = true, ((!s5)) = true, ((!s5)) = true, ((!s5)) = true, (s0) = true, (s0) = true]) kq ⟨((iWithin_ok ((↑(List.length l) : Int)) ((1 : Int)) ((64 : Int)) _ h0).any.cast tq), h1, h1, (EvHead.of (iCheck_L0_ok l s0) (absB_of [] [] kq (.consn kq (.eqv tq rfl) (.consn kq (.fn .nil) (.consn kq (.eqv tq rfl) (.consn kq (.eqv tq rfl) .nil)))) .nil) h2), h3, h4, fq, (by first | exact ce_take _ _ bq | (simpa using ce_take _ _ bq) | ((try simp only [List.drop_drop]); rw [show ((Int.toNat s2) * (34 : Nat)) = ((Int.toNat s2)) * 34 by omega]; exact ce_take _ _ bq)), ((iWithin_ok ((ceAt l (Int.toNat s2)).kind) ((0 : Int)) ((2 : Int)) _ h5).any.cast tq), h6, h6, h6, h6, h6, h1, h1, trivial⟩ tq
theorem iCheck_l1 (l : List Ce) (s0 : Bool) (h0 : iWithin ((↑(List.length l) : Int)) ((1 : Int)) ((64 : Int)) = some s0) (h1 : (s0) = true) (s2 : Int) (h2 : Runs (iCheck_L0_step l s0) ((0 : Int)) s2) (h3 : ((decide (s2 < (↑(List.length l) : Int)))) = true) (h3p : (s2 < (↑(List.length l) : Int))) (h4 : (((0 : Int) ≤ s2) ∧ (s2 < (↑(List.length l) : Int)))) (s5 : Bool) (h5 : iWithin ((ceAt l (Int.toNat s2)).kind) ((0 : Int)) ((2 : Int)) = some s5) (h6 : ((!s5)) = false) (s7 : Bool) (h7 : iWithin ((ceAt l (Int.toNat s2)).gen) ((0 : Int)) ((2147483647 : Int)) = some s7) (h8 : ((!s7)) = true) : iCheck_G l ((!(decide (s2 ≥ (0 : Int))))) :=
  leafR vw_eq (k := 300) (r := []) (hs := hz [(4, [.fres (.b (s0))]), (1, [.yes]), (1, [.yes]), (9, [.head (iCheck_L0_S l s0 s2)]), (1, [.yes]), (5, [.yes, .yes, .cells ((Ce.cells (ceAt l (Int.toNat s2))))]), (7, [.fres (.b (s5))]), (2, [.no]), (1, [.no]), (2, [.no]), (1, [.fres (.b (s7)), .no]), (1, [.no]), (1, [.yes, .yes, .yes, .yes, .yes, .yes]), (6, [.yes]), (1, [.yes]), (1, [])]) (raw := (AV.b (!(decide (s2 ≥ (0 : Int)))))) (ps := [EvFr Try.prog cf Bool.false 36 [(AV.i (↑(List.length l) : Int)), (AV.i 1), (AV.i 64)] (.b (s0)), (s0) = true, (s0) = true, EvHead Try.prog cf (lp Try.prog 54 0) (iCheck_L0_I l s0) (iCheck_L0_S l s0 s2), ((decide (s2 < (↑(List.length l) : Int)))) = true, (((0 : Int) ≤ s2) ∧ (s2 < (↑(List.length l) : Int))), ((34 : Nat) ≤ (List.length (List.drop ((Int.toNat s2) * (34 : Nat)) (List.flatMap Ce.cells l)))), (List.take 34 (List.drop ((Int.toNat s2) * (34 : Nat)) (List.flatMap Ce.cells l))) = (Ce.cells (ceAt l (Int.toNat s2))), EvFr Try.prog cf Bool.false 36 [(AV.i (ceAt l (Int.toNat s2)).kind), (AV.i 0), (AV.i 2)] (.b (s5)), ((!s5)) = false, ((!s5)) = false, ((!s5)) = false, EvFr Try.prog cf Bool.false 36 [(AV.i (ceAt l (Int.toNat s2)).gen), (AV.i 0), (AV.i 2147483647)] (.b (s7)), ((!s5)) = false, ((!s5)) = false, ((!s7)) = true, ((!s7)) = true, ((!s7)) = true, ((!s7)) = true, ((!s7)) = true, ((!s7)) = true, (s0) = true, (s0) = true]) kq ⟨((iWithin_ok ((↑(List.length l) : Int)) ((1 : Int)) ((64 : Int)) _ h0).any.cast tq), h1, h1, (EvHead.of (iCheck_L0_ok l s0) (absB_of [] [] kq (.consn kq (.eqv tq rfl) (.consn kq (.fn .nil) (.consn kq (.eqv tq rfl) (.consn kq (.eqv tq rfl) .nil)))) .nil) h2), h3, h4, fq, (by first | exact ce_take _ _ bq | (simpa using ce_take _ _ bq) | ((try simp only [List.drop_drop]); rw [show ((Int.toNat s2) * (34 : Nat)) = ((Int.toNat s2)) * 34 by omega]; exact ce_take _ _ bq)), ((iWithin_ok ((ceAt l (Int.toNat s2)).kind) ((0 : Int)) ((2 : Int)) _ h5).any.cast tq), h6, h6, h6, ((iWithin_ok ((ceAt l (Int.toNat s2)).gen) ((0 : Int)) ((2147483647 : Int)) _ h7).any.cast tq), h6, h6, h8, h8, h8, h8, h8, h8, h1, h1, trivial⟩ tq
theorem iCheck_l2 (l : List Ce) (s0 : Bool) (h0 : iWithin ((↑(List.length l) : Int)) ((1 : Int)) ((64 : Int)) = some s0) (h1 : (s0) = true) (s2 : Int) (h2 : Runs (iCheck_L0_step l s0) ((0 : Int)) s2) (h3 : ((decide (s2 < (↑(List.length l) : Int)))) = true) (h3p : (s2 < (↑(List.length l) : Int))) (h4 : (((0 : Int) ≤ s2) ∧ (s2 < (↑(List.length l) : Int)))) (s5 : Bool) (h5 : iWithin ((ceAt l (Int.toNat s2)).kind) ((0 : Int)) ((2 : Int)) = some s5) (h6 : ((!s5)) = false) (s7 : Bool) (h7 : iWithin ((ceAt l (Int.toNat s2)).gen) ((0 : Int)) ((2147483647 : Int)) = some s7) (h8 : ((!s7)) = false) (h9 : (((ceAt l (Int.toNat s2)).kind != (2 : Int))) = true) (h9p : ¬ ((ceAt l (Int.toNat s2)).kind = (2 : Int))) (h10 : ((!((pad 32 (ceAt l (Int.toNat s2)).d) == (List.replicate (32 : Nat) (UInt8.ofNat (0 : Nat)))))) = true) : iCheck_G l ((!(decide (s2 ≥ (0 : Int))))) :=
  leafR vw_eq (k := 300) (r := []) (hs := hz [(4, [.fres (.b (s0))]), (1, [.yes]), (1, [.yes]), (9, [.head (iCheck_L0_S l s0 s2)]), (1, [.yes]), (5, [.yes, .yes, .cells ((Ce.cells (ceAt l (Int.toNat s2))))]), (7, [.fres (.b (s5))]), (2, [.no]), (1, [.no]), (2, [.no]), (1, [.fres (.b (s7)), .no]), (1, [.no]), (1, [.no]), (1, [.no]), (2, [.no]), (1, [.no]), (1, [.yes]), (1, [.yes, .yes]), (1, [.yes]), (1, [.yes, .yes, .truth (((pad 32 (ceAt l (Int.toNat s2)).d) == (List.replicate (32 : Nat) (UInt8.ofNat (0 : Nat))))), .no, .yes, .no]), (1, [.yes]), (4, [.yes]), (1, [.yes]), (1, [])]) (raw := (AV.b (!(decide (s2 ≥ (0 : Int)))))) (ps := [EvFr Try.prog cf Bool.false 36 [(AV.i (↑(List.length l) : Int)), (AV.i 1), (AV.i 64)] (.b (s0)), (s0) = true, (s0) = true, EvHead Try.prog cf (lp Try.prog 54 0) (iCheck_L0_I l s0) (iCheck_L0_S l s0 s2), ((decide (s2 < (↑(List.length l) : Int)))) = true, (((0 : Int) ≤ s2) ∧ (s2 < (↑(List.length l) : Int))), ((34 : Nat) ≤ (List.length (List.drop ((Int.toNat s2) * (34 : Nat)) (List.flatMap Ce.cells l)))), (List.take 34 (List.drop ((Int.toNat s2) * (34 : Nat)) (List.flatMap Ce.cells l))) = (Ce.cells (ceAt l (Int.toNat s2))), EvFr Try.prog cf Bool.false 36 [(AV.i (ceAt l (Int.toNat s2)).kind), (AV.i 0), (AV.i 2)] (.b (s5)), ((!s5)) = false, ((!s5)) = false, ((!s5)) = false, EvFr Try.prog cf Bool.false 36 [(AV.i (ceAt l (Int.toNat s2)).gen), (AV.i 0), (AV.i 2147483647)] (.b (s7)), ((!s5)) = false, ((!s5)) = false, ((!s7)) = false, ((!s7)) = false, ((!s7)) = false, ((!s7)) = false, (((ceAt l (Int.toNat s2)).kind != (2 : Int))) = true, (((ceAt l (Int.toNat s2)).kind != (2 : Int))) = true, ((34 : Nat) ≤ (List.length ((AV.i (ceAt l (Int.toNat s2)).kind) :: (AV.i (ceAt l (Int.toNat s2)).gen) :: (List.map AV.y (pad 32 (ceAt l (Int.toNat s2)).d))))), (((ceAt l (Int.toNat s2)).kind != (2 : Int))) = true, (((ceAt l (Int.toNat s2)).kind != (2 : Int))) = true, (((List.length (List.take 32 (List.map AV.y (pad 32 (ceAt l (Int.toNat s2)).d)))) = (32 : Nat)) ∧ ((32 : Nat) = (32 : Nat))), eqCells ((List.take 32 (List.map AV.y (pad 32 (ceAt l (Int.toNat s2)).d)))) ((List.replicate (32 : Nat) (AV.y (UInt8.ofNat (0 : Nat))))) = some (((pad 32 (ceAt l (Int.toNat s2)).d) == (List.replicate (32 : Nat) (UInt8.ofNat (0 : Nat))))), ((!s7)) = false, (((ceAt l (Int.toNat s2)).kind != (2 : Int))) = true, ((!s7)) = false, ((!((pad 32 (ceAt l (Int.toNat s2)).d) == (List.replicate (32 : Nat) (UInt8.ofNat (0 : Nat)))))) = true, (s0) = true, (s0) = true]) kq ⟨((iWithin_ok ((↑(List.length l) : Int)) ((1 : Int)) ((64 : Int)) _ h0).any.cast tq), h1, h1, (EvHead.of (iCheck_L0_ok l s0) (absB_of [] [] kq (.consn kq (.eqv tq rfl) (.consn kq (.fn .nil) (.consn kq (.eqv tq rfl) (.consn kq (.eqv tq rfl) .nil)))) .nil) h2), h3, h4, fq, (by first | exact ce_take _ _ bq | (simpa using ce_take _ _ bq) | ((try simp only [List.drop_drop]); rw [show ((Int.toNat s2) * (34 : Nat)) = ((Int.toNat s2)) * 34 by omega]; exact ce_take _ _ bq)), ((iWithin_ok ((ceAt l (Int.toNat s2)).kind) ((0 : Int)) ((2 : Int)) _ h5).any.cast tq), h6, h6, h6, ((iWithin_ok ((ceAt l (Int.toNat s2)).gen) ((0 : Int)) ((2147483647 : Int)) _ h7).any.cast tq), h6, h6, h8, h8, h8, h8, h9, h9, tq, h9, h9, tq, (eqCells_of tq tq tq), h8, h9, h8, h10, h1, h1, trivial⟩ tq
theorem iCheck_l3 (l : List Ce) (s0 : Bool) (h0 : iWithin ((↑(List.length l) : Int)) ((1 : Int)) ((64 : Int)) = some s0) (h1 : (s0) = true) (s2 : Int) (h2 : Runs (iCheck_L0_step l s0) ((0 : Int)) s2) (h3 : ((decide (s2 < (↑(List.length l) : Int)))) = false) (h3p : ¬ (s2 < (↑(List.length l) : Int))) : iCheck_G l (Bool.true) :=
  leafR vw_eq (k := 300) (r := []) (hs := hz [(4, [.fres (.b (s0))]), (1, [.yes]), (1, [.yes]), (9, [.head (iCheck_L0_S l s0 s2)]), (1, [.no]), (3, [.yes]), (1, [.yes]), (1, [])]) (raw := (AV.b Bool.true)) (ps := [EvFr Try.prog cf Bool.false 36 [(AV.i (↑(List.length l) : Int)), (AV.i 1), (AV.i 64)] (.b (s0)), (s0) = true, (s0) = true, EvHead Try.prog cf (lp Try.prog 54 0) (iCheck_L0_I l s0) (iCheck_L0_S l s0 s2), ((decide (s2 < (↑(List.length l) : Int)))) = false, (s0) = true, (s0) = true]) kq ⟨((iWithin_ok ((↑(List.length l) : Int)) ((1 : Int)) ((64 : Int)) _ h0).any.cast tq), h1, h1, (EvHead.of (iCheck_L0_ok l s0) (absB_of [] [] kq (.consn kq (.eqv tq rfl) (.consn kq (.fn .nil) (.consn kq (.eqv tq rfl) (.consn kq (.eqv tq rfl) .nil)))) .nil) h2), h3, h1, h1, trivial⟩ tq
theorem iCheck_l4 (l : List Ce) (s0 : Bool) (h0 : iWithin ((↑(List.length l) : Int)) ((1 : Int)) ((64 : Int)) = some s0) (h1 : (s0) = false) : iCheck_G l (Bool.false) :=
  leafR vw_eq (k := 300) (r := []) (hs := hz [(4, [.fres (.b (s0))]), (1, [.no, .no, .no, .no]), (1, [])]) (raw := (AV.b Bool.false)) (ps := [EvFr Try.prog cf Bool.false 36 [(AV.i (↑(List.length l) : Int)), (AV.i 1), (AV.i 64)] (.b (s0)), (s0) = false, (s0) = false, (s0) = false, (s0) = false]) kq ⟨((iWithin_ok ((↑(List.length l) : Int)) ((1 : Int)) ((64 : Int)) _ h0).any.cast tq), h1, h1, h1, h1, trivial⟩ tq
theorem iCheck_ok (l : List Ce) (r : Bool) : iCheck l = some r → iCheck_G l r := by
  unfold iCheck
  refine tc_ok (fun s0 h0 => ?_)
  refine tb_ok (fun h1 => ?_) (fun h1 => ?_)
  ·
    refine th_ok (fun s2 h2 => ?_)
    refine tb_ok (fun h3 => ?_) (fun h3 => ?_)
    ·
      have h3p := of_decide_eq_true h3
      refine tp_ok (fun h4 => ?_)
      refine tc_ok (fun s5 h5 => ?_)
      refine tb_ok (fun h6 => ?_) (fun h6 => ?_)
      ·
        exact fun e => tl_ok (G := iCheck_G l) (iCheck_l0 l s0 h0 h1 s2 h2 h3 h3p h4 s5 h5 h6) e
      ·
        refine tc_ok (fun s7 h7 => ?_)
        refine tb_ok (fun h8 => ?_) (fun h8 => ?_)
        ·
          exact fun e => tl_ok (G := iCheck_G l) (iCheck_l1 l s0 h0 h1 s2 h2 h3 h3p h4 s5 h5 h6 s7 h7 h8) e
        ·
          refine tb_ok (fun h9 => ?_) (fun h9 => ?_)
          ·
            have h9p := bne_iff_ne.1 h9
            refine tb_ok (fun h10 => ?_) (fun h10 => ?_)
            ·
              exact fun e => tl_ok (G := iCheck_G l) (iCheck_l2 l s0 h0 h1 s2 h2 h3 h3p h4 s5 h5 h6 s7 h7 h8 h9 h9p h10) e
            ·
              exact fun e => nomatch e
          ·
            have h9p := bne_eq_false_iff_eq.1 h9
            exact fun e => nomatch e
    ·
      have h3p := of_decide_eq_false h3
      exact fun e => tl_ok (G := iCheck_G l) (iCheck_l3 l s0 h0 h1 s2 h2 h3 h3p) e
  ·
    exact fun e => tl_ok (G := iCheck_G l) (iCheck_l4 l s0 h0 h1) e
noncomputable abbrev r9Same_L0_I (a : List Ce) (b : List Ce) : St := (St.mk [(0, (AV.sl (List.length a) (List.flatMap Ce.cells a))), (1, (AV.sl (List.length b) (List.flatMap Ce.cells b))), (4, (AV.b Bool.false)), (6, (AV.sl (List.length a) (List.flatMap Ce.cells a))), (7, (AV.i (↑(List.length a) : Int))), (8, (AV.sl (List.length b) (List.flatMap Ce.cells b))), (9, (AV.i (↑(List.length b) : Int))), (10, (AV.b ((↑(List.length a) : Int) != (↑(List.length b) : Int)))), (5, (AV.i 0))] 26 (AH.mk 0 ([] : List (Prod Nat AObj))) Bool.false)
noncomputable abbrev r9Same_L0_S (a : List Ce) (b : List Ce) (s1 : Int) : St := (St.mk [(0, (AV.sl (List.length a) (List.flatMap Ce.cells a))), (1, (AV.sl (List.length b) (List.flatMap Ce.cells b))), (10, (AV.b ((↑(List.length a) : Int) != (↑(List.length b) : Int)))), (5, (AV.i s1))] 26 (AH.mk 0 ([] : List (Prod Nat AObj))) Bool.false)
noncomputable def r9Same_L0_step (a : List Ce) (b : List Ce) (s1 : Int) : Option (Int) :=
 (tb ((decide (s1 < (↑(List.length a) : Int))))
  (tp ((((0 : Int) ≤ s1) ∧ (s1 < (↑(List.length a) : Int))))
   (tp ((((0 : Int) ≤ s1) ∧ (s1 < (↑(List.length b) : Int))))
    (tb ((!(((ceAt a (Int.toNat s1)).kind == (ceAt b (Int.toNat s1)).kind) && (((ceAt a (Int.toNat s1)).gen == (ceAt b (Int.toNat s1)).gen) && ((pad 32 (ceAt a (Int.toNat s1)).d) == (pad 32 (ceAt b (Int.toNat s1)).d))))))
     none /- exit -/
     (some ((wr (s1 + (1 : Int))))))))
  none /- exit -/)
theorem r9Same_L0_s0 (a : List Ce) (b : List Ce) (s1 : Int) (h2 : ((decide (s1 < (↑(List.length a) : Int)))) = true) (h2p : (s1 < (↑(List.length a) : Int))) (h3 : (((0 : Int) ≤ s1) ∧ (s1 < (↑(List.length a) : Int)))) (h4 : (((0 : Int) ≤ s1) ∧ (s1 < (↑(List.length b) : Int)))) (h5 : ((!(((ceAt a (Int.toNat s1)).kind == (ceAt b (Int.toNat s1)).kind) && (((ceAt a (Int.toNat s1)).gen == (ceAt b (Int.toNat s1)).gen) && ((pad 32 (ceAt a (Int.toNat s1)).d) == (pad 32 (ceAt b (Int.toNat s1)).d)))))) = false) : EvStep Try.prog cf 0 (lp Try.prog 15 0) (r9Same_L0_S a b s1) (r9Same_L0_S a b ((wr (s1 + (1 : Int))))) :=
  leafS vw_eq (k := 300) (r := []) (hs := hz [(4, [.yes]), (2, [.yes, .yes, .cells ((Ce.cells (ceAt a (Int.toNat s1))))]), (2, [.yes, .yes, .cells ((Ce.cells (ceAt b (Int.toNat s1)))), .yes, .truth ((((ceAt a (Int.toNat s1)).kind == (ceAt b (Int.toNat s1)).kind) && (((ceAt a (Int.toNat s1)).gen == (ceAt b (Int.toNat s1)).gen) && ((pad 32 (ceAt a (Int.toNat s1)).d) == (pad 32 (ceAt b (Int.toNat s1)).d))))), .yes, .no]), (3, [])]) (st1 := (St.mk [(0, (AV.sl (List.length a) (List.flatMap Ce.cells a))), (1, (AV.sl (List.length b) (List.flatMap Ce.cells b))), (10, (AV.b ((↑(List.length a) : Int) != (↑(List.length b) : Int)))), (5, (AV.i (wr (s1 + (1 : Int))))), (11, (AV.i s1)), (12, (AV.sl (List.length a) (List.flatMap Ce.cells a))), (13, (AV.i (↑(List.length a) : Int))), (14, (AV.b (decide (s1 < (↑(List.length a) : Int))))), (17, (AV.sl (List.length a) (List.flatMap Ce.cells a))), (18, (AV.i s1)), (19, (AV.ip (List.drop ((Int.toNat s1) * (34 : Nat)) (List.flatMap Ce.cells a)))), (20, (AV.ag (Ce.cells (ceAt a (Int.toNat s1))))), (21, (AV.sl (List.length b) (List.flatMap Ce.cells b))), (22, (AV.i s1)), (23, (AV.ip (List.drop ((Int.toNat s1) * (34 : Nat)) (List.flatMap Ce.cells b)))), (24, (AV.ag (Ce.cells (ceAt b (Int.toNat s1))))), (25, (AV.b (!(((ceAt a (Int.toNat s1)).kind == (ceAt b (Int.toNat s1)).kind) && (((ceAt a (Int.toNat s1)).gen == (ceAt b (Int.toNat s1)).gen) && ((pad 32 (ceAt a (Int.toNat s1)).d) == (pad 32 (ceAt b (Int.toNat s1)).d))))))), (15, (AV.i s1)), (16, (AV.i (wr (s1 + (1 : Int)))))] 26 (AH.mk 0 ([] : List (Prod Nat AObj))) Bool.false)) (ps := [((decide (s1 < (↑(List.length a) : Int)))) = true, (((0 : Int) ≤ s1) ∧ (s1 < (↑(List.length a) : Int))), ((34 : Nat) ≤ (List.length (List.drop ((Int.toNat s1) * (34 : Nat)) (List.flatMap Ce.cells a)))), (List.take 34 (List.drop ((Int.toNat s1) * (34 : Nat)) (List.flatMap Ce.cells a))) = (Ce.cells (ceAt a (Int.toNat s1))), (((0 : Int) ≤ s1) ∧ (s1 < (↑(List.length b) : Int))), ((34 : Nat) ≤ (List.length (List.drop ((Int.toNat s1) * (34 : Nat)) (List.flatMap Ce.cells b)))), (List.take 34 (List.drop ((Int.toNat s1) * (34 : Nat)) (List.flatMap Ce.cells b))) = (Ce.cells (ceAt b (Int.toNat s1))), (((List.length ((AV.i (ceAt a (Int.toNat s1)).kind) :: (AV.i (ceAt a (Int.toNat s1)).gen) :: (List.map AV.y (pad 32 (ceAt a (Int.toNat s1)).d)))) = (34 : Nat)) ∧ ((List.length ((AV.i (ceAt b (Int.toNat s1)).kind) :: (AV.i (ceAt b (Int.toNat s1)).gen) :: (List.map AV.y (pad 32 (ceAt b (Int.toNat s1)).d)))) = (34 : Nat))), eqCells (((AV.i (ceAt a (Int.toNat s1)).kind) :: (AV.i (ceAt a (Int.toNat s1)).gen) :: (List.map AV.y (pad 32 (ceAt a (Int.toNat s1)).d)))) (((AV.i (ceAt b (Int.toNat s1)).kind) :: (AV.i (ceAt b (Int.toNat s1)).gen) :: (List.map AV.y (pad 32 (ceAt b (Int.toNat s1)).d)))) = some ((((ceAt a (Int.toNat s1)).kind == (ceAt b (Int.toNat s1)).kind) && (((ceAt a (Int.toNat s1)).gen == (ceAt b (Int.toNat s1)).gen) && ((pad 32 (ceAt a (Int.toNat s1)).d) == (pad 32 (ceAt b (Int.toNat s1)).d))))), orderOk (rg Try.prog 15 0) = true ∧ allOk (Region.before (rg Try.prog 15 0)) [] 0 [(some [], some []), (some [], some []), (some [], some []), (some [], some []), (some [], some []), (some [], some []), (some [], some []), (some [], some []), (some [], some [])] = true, ((!(((ceAt a (Int.toNat s1)).kind == (ceAt b (Int.toNat s1)).kind) && (((ceAt a (Int.toNat s1)).gen == (ceAt b (Int.toNat s1)).gen) && ((pad 32 (ceAt a (Int.toNat s1)).d) == (pad 32 (ceAt b (Int.toNat s1)).d)))))) = false]) kq ⟨h2, h3, fq, (by first | exact ce_take _ _ bq | (simpa using ce_take _ _ bq) | ((try simp only [List.drop_drop]); rw [show ((Int.toNat s1) * (34 : Nat)) = ((Int.toNat s1)) * 34 by omega]; exact ce_take _ _ bq)), h4, fq, (by first | exact ce_take _ _ bq | (simpa using ce_take _ _ bq) | ((try simp only [List.drop_drop]); rw [show ((Int.toNat s1) * (34 : Nat)) = ((Int.toNat s1)) * 34 by omega]; exact ce_take _ _ bq)), tq, (eqCells_ci (eqCells_ci (eqCells_of tq tq tq))), (ord_of ord_15_0 bef_15_0 kq), h5, trivial⟩ (Nat.le_of_ble_eq_true rfl) (absB_of [] [] kq (.consn kq (.eqv tq rfl) (.consn kq (.eqv tq rfl) (.consn kq (.eqv tq rfl) (.consn kq (.eqv tq rfl) .nil)))) .nil)
theorem r9Same_L0_ok (a : List Ce) (b : List Ce) (s1 zz : Int) : r9Same_L0_step a b s1 = some zz → EvStep Try.prog cf 0 (lp Try.prog 15 0) (r9Same_L0_S a b s1) (r9Same_L0_S a b zz) := by
  unfold r9Same_L0_step
  refine tb_ok (fun h2 => ?_) (fun h2 => ?_)
  ·
    have h2p := of_decide_eq_true h2
    refine tp_ok (fun h3 => ?_)
    refine tp_ok (fun h4 => ?_)
    refine tb_ok (fun h5 => ?_) (fun h5 => ?_)
    ·
      exact fun e => nomatch e
    ·
      exact fun e => tl_ok (G := (fun zz => EvStep Try.prog cf 0 (lp Try.prog 15 0) (r9Same_L0_S a b s1) (r9Same_L0_S a b zz))) (r9Same_L0_s0 a b s1 h2 h2p h3 h4 h5) e
  ·
    have h2p := of_decide_eq_false h2
    exact fun e => nomatch e
/-- Function 15, as it answers. -/
noncomputable def r9Same (a : List Ce) (b : List Ce) : Option (Bool) :=
 (tb (((↑(List.length a) : Int) != (↑(List.length b) : Int)))
  (some (Bool.false))
  (th (r9Same_L0_step a b) ((0 : Int)) fun s1 =>
   (tb ((decide (s1 < (↑(List.length a) : Int))))
    (tp ((((0 : Int) ≤ s1) ∧ (s1 < (↑(List.length a) : Int))))
     (tb ((!(((ceAt a (Int.toNat s1)).kind == (ceAt b (Int.toNat s1)).kind) && (((ceAt a (Int.toNat s1)).gen == (ceAt b (Int.toNat s1)).gen) && ((pad 32 (ceAt a (Int.toNat s1)).d) == (pad 32 (ceAt b (Int.toNat s1)).d))))))
      (some (Bool.false))
      none /- stop behind an operation -/))
    (some (Bool.true)))))
abbrev r9Same_G (a : List Ce) (b : List Ce) (r : Bool) : Prop := EvFr Try.prog cf true 15 [ces (a), ces (b)] (.b (r))
theorem r9Same_l0 (a : List Ce) (b : List Ce) (h0 : (((↑(List.length a) : Int) != (↑(List.length b) : Int))) = true) (h0p : ¬ ((↑(List.length a) : Int) = (↑(List.length b) : Int))) : r9Same_G a b (Bool.false) :=
  leafR vw_eq (k := 300) (r := []) (hs := hz [(6, [.yes]), (1, [])]) (raw := (AV.b Bool.false)) (ps := [(((↑(List.length a) : Int) != (↑(List.length b) : Int))) = true]) kq ⟨h0, trivial⟩ tq
theorem r9Same_l1 (a : List Ce) (b : List Ce) (h0 : (((↑(List.length a) : Int) != (↑(List.length b) : Int))) = false) (h0p : ((↑(List.length a) : Int) = (↑(List.length b) : Int))) (s1 : Int) (h1 : Runs (r9Same_L0_step a b) ((0 : Int)) s1) (h2 : ((decide (s1 < (↑(List.length a) : Int)))) = true) (h2p : (s1 < (↑(List.length a) : Int))) (h3 : (((0 : Int) ≤ s1) ∧ (s1 < (↑(List.length a) : Int)))) (h4 : ((!(((ceAt a (Int.toNat s1)).kind == (ceAt b (Int.toNat s1)).kind) && (((ceAt a (Int.toNat s1)).gen == (ceAt b (Int.toNat s1)).gen) && ((pad 32 (ceAt a (Int.toNat s1)).d) == (pad 32 (ceAt b (Int.toNat s1)).d)))))) = true) : r9Same_G a b (Bool.false) :=
  leafR vw_eq (k := 300) (r := []) (hs := hz [(6, [.no]), (1, [.head (r9Same_L0_S a b s1)]), (4, [.yes]), (2, [.yes, .yes, .cells ((Ce.cells (ceAt a (Int.toNat s1))))]), (2, [.yes, .yes, .cells ((Ce.cells (ceAt b (Int.toNat s1)))), .yes, .truth ((((ceAt a (Int.toNat s1)).kind == (ceAt b (Int.toNat s1)).kind) && (((ceAt a (Int.toNat s1)).gen == (ceAt b (Int.toNat s1)).gen) && ((pad 32 (ceAt a (Int.toNat s1)).d) == (pad 32 (ceAt b (Int.toNat s1)).d))))), .yes, .yes]), (1, [])]) (raw := (AV.b Bool.false)) (ps := [(((↑(List.length a) : Int) != (↑(List.length b) : Int))) = false, EvHead Try.prog cf (lp Try.prog 15 0) (r9Same_L0_I a b) (r9Same_L0_S a b s1), ((decide (s1 < (↑(List.length a) : Int)))) = true, (((0 : Int) ≤ s1) ∧ (s1 < (↑(List.length a) : Int))), ((34 : Nat) ≤ (List.length (List.drop ((Int.toNat s1) * (34 : Nat)) (List.flatMap Ce.cells a)))), (List.take 34 (List.drop ((Int.toNat s1) * (34 : Nat)) (List.flatMap Ce.cells a))) = (Ce.cells (ceAt a (Int.toNat s1))), (((0 : Int) ≤ s1) ∧ (s1 < (↑(List.length b) : Int))), ((34 : Nat) ≤ (List.length (List.drop ((Int.toNat s1) * (34 : Nat)) (List.flatMap Ce.cells b)))), (List.take 34 (List.drop ((Int.toNat s1) * (34 : Nat)) (List.flatMap Ce.cells b))) = (Ce.cells (ceAt b (Int.toNat s1))), (((List.length ((AV.i (ceAt a (Int.toNat s1)).kind) :: (AV.i (ceAt a (Int.toNat s1)).gen) :: (List.map AV.y (pad 32 (ceAt a (Int.toNat s1)).d)))) = (34 : Nat)) ∧ ((List.length ((AV.i (ceAt b (Int.toNat s1)).kind) :: (AV.i (ceAt b (Int.toNat s1)).gen) :: (List.map AV.y (pad 32 (ceAt b (Int.toNat s1)).d)))) = (34 : Nat))), eqCells (((AV.i (ceAt a (Int.toNat s1)).kind) :: (AV.i (ceAt a (Int.toNat s1)).gen) :: (List.map AV.y (pad 32 (ceAt a (Int.toNat s1)).d)))) (((AV.i (ceAt b (Int.toNat s1)).kind) :: (AV.i (ceAt b (Int.toNat s1)).gen) :: (List.map AV.y (pad 32 (ceAt b (Int.toNat s1)).d)))) = some ((((ceAt a (Int.toNat s1)).kind == (ceAt b (Int.toNat s1)).kind) && (((ceAt a (Int.toNat s1)).gen == (ceAt b (Int.toNat s1)).gen) && ((pad 32 (ceAt a (Int.toNat s1)).d) == (pad 32 (ceAt b (Int.toNat s1)).d))))), orderOk (rg Try.prog 15 0) = true ∧ allOk (Region.before (rg Try.prog 15 0)) [] 0 [(some [], some []), (some [], some []), (some [], some []), (some [], some []), (some [], some []), (some [], some []), (some [], some []), (some [], some []), (some [], some [])] = true, ((!(((ceAt a (Int.toNat s1)).kind == (ceAt b (Int.toNat s1)).kind) && (((ceAt a (Int.toNat s1)).gen == (ceAt b (Int.toNat s1)).gen) && ((pad 32 (ceAt a (Int.toNat s1)).d) == (pad 32 (ceAt b (Int.toNat s1)).d)))))) = true]) kq ⟨h0, (EvHead.of (r9Same_L0_ok a b) (absB_of [] [] kq (.consn kq (.eqv tq rfl) (.consn kq (.eqv tq rfl) (.consn kq (.eqv tq rfl) (.consn kq (.eqv tq rfl) .nil)))) .nil) h1), h2, h3, fq, (by first | exact ce_take _ _ bq | (simpa using ce_take _ _ bq) | ((try simp only [List.drop_drop]); rw [show ((Int.toNat s1) * (34 : Nat)) = ((Int.toNat s1)) * 34 by omega]; exact ce_take _ _ bq)), fq, fq, (by first | exact ce_take _ _ bq | (simpa using ce_take _ _ bq) | ((try simp only [List.drop_drop]); rw [show ((Int.toNat s1) * (34 : Nat)) = ((Int.toNat s1)) * 34 by omega]; exact ce_take _ _ bq)), tq, (eqCells_ci (eqCells_ci (eqCells_of tq tq tq))), (ord_of ord_15_0 bef_15_0 kq), h4, trivial⟩ tq
theorem r9Same_l2 (a : List Ce) (b : List Ce) (h0 : (((↑(List.length a) : Int) != (↑(List.length b) : Int))) = false) (h0p : ((↑(List.length a) : Int) = (↑(List.length b) : Int))) (s1 : Int) (h1 : Runs (r9Same_L0_step a b) ((0 : Int)) s1) (h2 : ((decide (s1 < (↑(List.length a) : Int)))) = false) (h2p : ¬ (s1 < (↑(List.length a) : Int))) : r9Same_G a b (Bool.true) :=
  leafR vw_eq (k := 300) (r := []) (hs := hz [(6, [.no]), (1, [.head (r9Same_L0_S a b s1)]), (4, [.no]), (1, [])]) (raw := (AV.b Bool.true)) (ps := [(((↑(List.length a) : Int) != (↑(List.length b) : Int))) = false, EvHead Try.prog cf (lp Try.prog 15 0) (r9Same_L0_I a b) (r9Same_L0_S a b s1), ((decide (s1 < (↑(List.length a) : Int)))) = false]) kq ⟨h0, (EvHead.of (r9Same_L0_ok a b) (absB_of [] [] kq (.consn kq (.eqv tq rfl) (.consn kq (.eqv tq rfl) (.consn kq (.eqv tq rfl) (.consn kq (.eqv tq rfl) .nil)))) .nil) h1), h2, trivial⟩ tq
theorem r9Same_ok (a : List Ce) (b : List Ce) (r : Bool) : r9Same a b = some r → r9Same_G a b r := by
  unfold r9Same
  refine tb_ok (fun h0 => ?_) (fun h0 => ?_)
  ·
    have h0p := bne_iff_ne.1 h0
    exact fun e => tl_ok (G := r9Same_G a b) (r9Same_l0 a b h0 h0p) e
  ·
    have h0p := bne_eq_false_iff_eq.1 h0
    refine th_ok (fun s1 h1 => ?_)
    refine tb_ok (fun h2 => ?_) (fun h2 => ?_)
    ·
      have h2p := of_decide_eq_true h2
      refine tp_ok (fun h3 => ?_)
      refine tb_ok (fun h4 => ?_) (fun h4 => ?_)
      ·
        exact fun e => tl_ok (G := r9Same_G a b) (r9Same_l1 a b h0 h0p s1 h1 h2 h2p h3 h4) e
      ·
        exact fun e => nomatch e
    ·
      have h2p := of_decide_eq_false h2
      exact fun e => tl_ok (G := r9Same_G a b) (r9Same_l2 a b h0 h0p s1 h1 h2 h2p) e
end Ab
end Go.Proofs.Ytadipihpgcelmaa
namespace Go.Proofs.Ytadipihpgcelmaa
open Go Go.Proofs.Ytadipihpgcelmaa.Ab
set_option linter.unusedVariables false
set_option linter.unusedSimpArgs false
namespace Ab
theorem u8z : UInt8.ofNat 0 = 0 := rfl
theorem ceAt_one (c : Ce) : ceAt [c] 0 = c := rfl
theorem tb_lb {α : Type} (a b : List UInt8) (x y : Option α) : tb (a == b) x y = if a = b then x else y := by
  by_cases h : a = b
  · rw [if_pos h]; exact tb_pos (beq_iff_eq.2 h)
  · rw [if_neg h]; exact tb_neg (beq_eq_false_iff_ne.2 h)
theorem iWithin_eq (n lo hi : Int) : iWithin n lo hi = some (decide (lo ≤ n ∧ n ≤ hi)) := by
  unfold iWithin
  rw [tb_dec]
  by_cases h : n ≥ lo
  · rw [if_pos h]; congr 1; exact decide_eq_decide.2 ⟨fun q => ⟨h, q⟩, fun q => q.2⟩
  · rw [if_neg h]; congr 1; symm; rw [decide_eq_false_iff_not]; exact fun q => h q.1
theorem key_i (c : Ce) {α : Type} (x y : Option α) : (if 0 ≤ c.kind ∧ c.kind ≤ 2 then (if 0 ≤ c.gen ∧ c.gen ≤ 2147483647 then (if c.kind = 2 then x else if pad 32 c.d = List.replicate 32 0 then x else y) else y) else y) = if CkC c then x else y := by
  by_cases h1 : 0 ≤ c.kind ∧ c.kind ≤ 2
  case neg => rw [if_neg h1, if_neg fun q : CkC c => h1 ⟨q.1, q.2.1⟩]
  by_cases h2 : 0 ≤ c.gen ∧ c.gen ≤ 2147483647
  case neg => rw [if_pos h1, if_neg h2, if_neg fun q : CkC c => h2 ⟨q.2.2.1, q.2.2.2.1⟩]
  rw [if_pos h1, if_pos h2]
  by_cases h3 : c.kind = 2
  · rw [if_pos h3, if_pos (show CkC c from ⟨h1.1, h1.2, h2.1, h2.2, fun q => absurd h3 q⟩)]
  rw [if_neg h3]
  by_cases h4 : pad 32 c.d = List.replicate 32 0
  · rw [if_pos h4, if_pos (show CkC c from ⟨h1.1, h1.2, h2.1, h2.2, fun _ => h4⟩)]
  · rw [if_neg h4, if_neg fun q : CkC c => h4 (q.2.2.2.2 h3)]
theorem iCheck_eq (l : List Ce) (hl : l.length ≤ 4294967296) : iCheck l = some (decide (CkI l)) := by
  unfold iCheck
  rw [iWithin_eq, tc_some, tb_dec]
  by_cases h1 : (1 : Int) ≤ l.length ∧ (l.length : Int) ≤ 64
  case neg => rw [if_neg h1]; congr 1; symm; rw [decide_eq_false_iff_not]; rintro ⟨q1, q2, _⟩; exact h1 (by omega)
  rw [if_pos h1]
  rw [th_all (some false) (some true) l.length (fun i => CkC (ceAt l i)) (∀ c ∈ l, CkC c) (ceAt_all l CkC)]
  · by_cases h : ∀ c ∈ l, CkC c
    · rw [if_pos h]; congr 1; symm; rw [decide_eq_true_iff]; exact ⟨by omega, by omega, h⟩
    · rw [if_neg h]; congr 1; symm; rw [decide_eq_false_iff_not]; exact fun q => h q.2.2
  · intro i hi hp
    unfold iCheck_L0_step
    simp only [iWithin_eq, tc_some, tb_not, tb_dec, tb_bne, tb_lb, u8z, ceAt_one, Int.toNat_natCast]
    rw [if_pos (by omega), tp_pos (by omega), key_i, if_pos hp, wr_id (by omega) (by omega)]
  · intro i hi hp
    unfold iCheck_L0_step
    simp only [iWithin_eq, tc_some, tb_not, tb_dec, tb_bne, tb_lb, u8z, ceAt_one, Int.toNat_natCast]
    refine ⟨by rw [if_pos (by omega), tp_pos (by omega), key_i, if_neg hp], ?_⟩
    rw [if_pos (by omega), tp_pos (by omega), key_i, if_neg hp, decide_eq_true (by omega)]; rfl
  · unfold iCheck_L0_step
    simp only [tb_dec]
    rw [if_neg (by omega), if_neg (by omega)]
    exact ⟨rfl, rfl⟩
/-- A block with just as many bytes as one has. -/
def cn (c : Ce) : Ce := ⟨c.kind, c.gen, pad 32 c.d⟩
theorem all_eq {α β : Type} (d : α) (f : α → β) (a b : List α) (h : a.length = b.length) : (∀ i, i < a.length → f (a.getD i d) = f (b.getD i d)) ↔ a.map f = b.map f := by
  constructor
  · intro g
    refine List.ext_getElem (by simp [h]) fun i h1 h2 => ?_
    simp only [List.length_map] at h1 h2
    have := g i h1
    simp only [List.getElem_map]
    simpa [h1, h2] using this
  · intro g i hi
    have : (a.map f)[i]? = (b.map f)[i]? := by rw [g]
    rw [List.getElem?_map, List.getElem?_map, List.getElem?_eq_getElem hi, List.getElem?_eq_getElem (by omega)] at this
    simp only [Option.map_some, Option.some.injEq] at this
    simp only [List.getD_eq_getElem?_getD, List.getElem?_eq_getElem hi, List.getElem?_eq_getElem (show i < b.length by omega), Option.getD_some]
    exact this
theorem same_c (a b : Ce) {α : Type} (x y : Option α) : tb (a.kind == b.kind && (a.gen == b.gen && (pad 32 a.d == pad 32 b.d))) x y = if cn a = cn b then x else y := by
  by_cases h : cn a = cn b
  · rw [if_pos h]
    simp only [cn, Ce.mk.injEq] at h
    rw [h.1, h.2.1, h.2.2]; simp
  · rw [if_neg h]
    refine tb_neg ?_
    simp only [cn, Ce.mk.injEq] at h
    simp only [Bool.and_eq_false_iff, beq_eq_false_iff_ne, ne_eq]
    by_cases h1 : a.kind = b.kind
    · by_cases h2 : a.gen = b.gen
      · exact .inr (.inr fun h3 => h ⟨h1, h2, h3⟩)
      · exact .inr (.inl h2)
    · exact .inl h1
theorem r9Same_eq0 (a b : List Ce) (ha : a.length ≤ 4294967296) : r9Same a b = some (decide (a.map cn = b.map cn)) := by
  unfold r9Same
  rw [tb_bne]
  by_cases hl : (a.length : Int) = b.length
  case neg =>
    rw [if_neg hl]; congr 1; symm; rw [decide_eq_false_iff_not]
    intro h
    have := congrArg List.length h
    simp only [List.length_map] at this; omega
  rw [if_pos hl]
  have hl2 : a.length = b.length := by omega
  rw [th_all (some false) (some true) a.length (fun i => cn (ceAt a i) = cn (ceAt b i)) (a.map cn = b.map cn) (all_eq _ cn a b hl2)]
  · by_cases h : a.map cn = b.map cn
    · rw [if_pos h, decide_eq_true h]
    · rw [if_neg h, decide_eq_false h]
  · intro i hi hp
    unfold r9Same_L0_step
    simp only [tb_dec, tb_not, same_c, Int.toNat_natCast]
    rw [if_pos (by omega), tp_pos (by omega), tp_pos (by omega), if_pos hp, wr_id (by omega) (by omega)]
  · intro i hi hp
    unfold r9Same_L0_step
    simp only [tb_dec, tb_not, same_c, Int.toNat_natCast]
    refine ⟨by rw [if_pos (by omega), tp_pos (by omega), tp_pos (by omega), if_neg hp], ?_⟩
    rw [if_pos (by omega), tp_pos (by omega), if_neg hp]
  · unfold r9Same_L0_step
    simp only [tb_dec]
    rw [if_neg (by omega), if_neg (by omega)]
    exact ⟨rfl, rfl⟩
/-- What two blocks that are alike have. -/
def al (c : Ce) : Int × List UInt8 := (c.kind, pad 32 c.d)
/-- Are so many blocks there? -/
def Fits (l : List Ce) (lba n : Int) : Prop := 0 ≤ lba ∧ lba ≤ l.length ∧ 1 ≤ n ∧ n ≤ l.length - lba
instance (l : List Ce) (lba n : Int) : Decidable (Fits l lba n) := by unfold Fits; infer_instance
end Ab
end Go.Proofs.Ytadipihpgcelmaa
namespace Go.Proofs.Ytadipihpgcelmaa
open Go Go.Proofs.Ytadipihpgcelmaa.Ab
set_option linter.unusedVariables false
set_option linter.unusedSimpArgs false
set_option maxRecDepth 1000000
namespace Ab
noncomputable abbrev iFill_L0_I (l : List Ce) (lba : Int) (n : Int) (kind : Int) (gen : Int) (s0 : Bool) (s2 : Bool) (s3 : Bool) (s8 : Bool) (s10 : Bool) : St := (St.mk [(0, (AV.sl (List.length l) (List.flatMap Ce.cells l))), (1, (AV.i lba)), (2, (AV.i n)), (3, (AV.b s2)), (4, (AV.fn (42 : Nat) [(AV.pt 0 0), (AV.pt 1 0)])), (10, AV.nl), (11, (AV.i 0)), (14, (AV.sl (List.length l) (List.flatMap Ce.cells l))), (15, (AV.b s3)), (16, (AV.b (!s3))), (17, (AV.sl (List.length l) (List.flatMap Ce.cells l))), (18, (AV.rf 2 34 0 (List.length l))), (12, (AV.rf 2 34 0 (List.length l))), (19, (AV.b s2)), (20, (AV.b (!s2))), (21, (AV.b (!s2))), (22, (AV.i lba)), (23, (AV.sl (List.length l) (List.flatMap Ce.cells l))), (24, (AV.i (↑(List.length l) : Int))), (25, (AV.b s8)), (26, (AV.b (!s8))), (27, (AV.b (!s8))), (28, (AV.b (!s8))), (29, (AV.i n)), (30, (AV.sl (List.length l) (List.flatMap Ce.cells l))), (31, (AV.i (↑(List.length l) : Int))), (32, (AV.i lba)), (33, (AV.i (wr ((↑(List.length l) : Int) - lba)))), (34, (AV.b s10)), (35, (AV.b (!s10))), (36, (AV.b (!s10))), (38, (AV.i n)), (39, (AV.i 0))] 52 (AH.mk 3 [(2, (AObj.cells (List.flatMap Ce.cells l))), (1, (AObj.cells [(AV.i gen)])), (0, (AObj.cells [(AV.i kind)]))]) Bool.false)
noncomputable abbrev iFill_L0_S (l : List Ce) (lba : Int) (n : Int) (kind : Int) (gen : Int) (s0 : Bool) (s2 : Bool) (s3 : Bool) (s8 : Bool) (s10 : Bool) (s12 : Int × List Ce) : St := (St.mk [(0, (AV.sl (List.length l) (List.flatMap Ce.cells l))), (1, (AV.i lba)), (2, (AV.i n)), (3, (AV.b s2)), (4, (AV.fn (42 : Nat) [(AV.pt 0 0), (AV.pt 1 0)])), (10, AV.nl), (11, (AV.i 0)), (16, (AV.b (!s3))), (12, (AV.rf 2 34 0 (List.length l))), (36, (AV.b (!s10))), (38, (AV.i n)), (39, (AV.i s12.1))] 52 (AH.mk 3 [(2, (AObj.cells (List.flatMap Ce.cells s12.2))), (1, (AObj.cells [(AV.i gen)])), (0, (AObj.cells [(AV.i kind)]))]) Bool.false)
noncomputable def iFill_L0_step (l : List Ce) (lba : Int) (n : Int) (kind : Int) (gen : Int) (s0 : Bool) (s2 : Bool) (s3 : Bool) (s8 : Bool) (s10 : Bool) (s12 : Int × List Ce) : Option (Int × List Ce) :=
 (tb ((decide (s12.1 < n)))
  (tp ((((0 : Int) ≤ (wr (lba + s12.1))) ∧ ((wr (lba + s12.1)) < (↑(List.length l) : Int))))
   (tp ((((List.length ((AV.i kind) :: (AV.i gen) :: List.replicate (32 : Nat) (AV.y (UInt8.ofNat (0 : Nat))))) = (34 : Nat)) ∧ ((((0 : Nat) + ((Int.toNat (wr (lba + s12.1))) * (34 : Nat))) + (List.length ((AV.i kind) :: (AV.i gen) :: List.replicate (32 : Nat) (AV.y (UInt8.ofNat (0 : Nat)))))) ≤ (List.length (List.flatMap Ce.cells s12.2)))))
    (some (((wr (s12.1 + (1 : Int))), (List.set s12.2 (Int.toNat (wr (lba + s12.1))) (Ce.mk kind gen (List.replicate (32 : Nat) (UInt8.ofNat (0 : Nat))))))))))
  none /- exit -/)
theorem iFill_L0_s0 (l : List Ce) (lba : Int) (n : Int) (kind : Int) (gen : Int) (s0 : Bool) (s2 : Bool) (s3 : Bool) (s8 : Bool) (s10 : Bool) (s12 : Int × List Ce) (h13 : ((decide (s12.1 < n))) = true) (h13p : (s12.1 < n)) (h14 : (((0 : Int) ≤ (wr (lba + s12.1))) ∧ ((wr (lba + s12.1)) < (↑(List.length l) : Int)))) (h15 : (((List.length ((AV.i kind) :: (AV.i gen) :: List.replicate (32 : Nat) (AV.y (UInt8.ofNat (0 : Nat))))) = (34 : Nat)) ∧ ((((0 : Nat) + ((Int.toNat (wr (lba + s12.1))) * (34 : Nat))) + (List.length ((AV.i kind) :: (AV.i gen) :: List.replicate (32 : Nat) (AV.y (UInt8.ofNat (0 : Nat)))))) ≤ (List.length (List.flatMap Ce.cells s12.2))))) : EvStep Try.prog cf 3 (lp Try.prog 41 0) (iFill_L0_S l lba n kind gen s0 s2 s3 s8 s10 s12) (iFill_L0_S l lba n kind gen s0 s2 s3 s8 s10 (((wr (s12.1 + (1 : Int))), (List.set s12.2 (Int.toNat (wr (lba + s12.1))) (Ce.mk kind gen (List.replicate (32 : Nat) (UInt8.ofNat (0 : Nat)))))))) :=
  leafS vw_eq (k := 300) (r := []) (hs := hz [(1, [.yes]), (16, [.cells (((AV.i kind) :: (AV.i gen) :: List.replicate (32 : Nat) (AV.y (UInt8.ofNat (0 : Nat)))))]), (1, [.cells (((AV.i kind) :: (AV.i gen) :: List.replicate (32 : Nat) (AV.y (UInt8.ofNat (0 : Nat))))), .yes, .yes, .cells ((List.flatMap Ce.cells (List.set s12.2 (Int.toNat (wr (lba + s12.1))) (Ce.mk kind gen (List.replicate (32 : Nat) (UInt8.ofNat (0 : Nat)))))))]), (2, [])]) (st1 := (St.mk [(0, (AV.sl (List.length l) (List.flatMap Ce.cells l))), (1, (AV.i lba)), (2, (AV.i n)), (3, (AV.b s2)), (4, (AV.fn (42 : Nat) [(AV.pt 0 0), (AV.pt 1 0)])), (10, AV.nl), (11, (AV.i 0)), (16, (AV.b (!s3))), (12, (AV.rf 2 34 0 (List.length l))), (36, (AV.b (!s10))), (38, (AV.i n)), (39, (AV.i (wr (s12.1 + (1 : Int))))), (40, (AV.b (decide (s12.1 < n)))), (41, (AV.i s12.1)), (13, (AV.i s12.1)), (42, (AV.rf 2 34 0 (List.length l))), (43, (AV.i lba)), (44, (AV.i s12.1)), (45, (AV.i (wr (lba + s12.1)))), (46, (AV.fn (42 : Nat) [(AV.pt 0 0), (AV.pt 1 0)])), (47, (AV.i s12.1)), (48, (AV.ag ((AV.i kind) :: (AV.i gen) :: List.replicate (32 : Nat) (AV.y (UInt8.ofNat (0 : Nat)))))), (49, (AV.pt 2 ((0 : Nat) + ((Int.toNat (wr (lba + s12.1))) * (34 : Nat))))), (50, (AV.i (wr (s12.1 + (1 : Int)))))] 52 (AH.mk 4 [(3, (AObj.cells ((AV.i kind) :: (AV.i gen) :: List.replicate (32 : Nat) (AV.y (UInt8.ofNat (0 : Nat)))))), (2, (AObj.cells (List.flatMap Ce.cells (List.set s12.2 (Int.toNat (wr (lba + s12.1))) (Ce.mk kind gen (List.replicate (32 : Nat) (UInt8.ofNat (0 : Nat)))))))), (1, (AObj.cells [(AV.i gen)])), (0, (AObj.cells [(AV.i kind)]))]) Bool.false)) (ps := [((decide (s12.1 < n))) = true, (((AV.i kind) :: (AV.i gen) :: List.replicate (32 : Nat) (AV.y (UInt8.ofNat (0 : Nat)))) : List AV) = ((AV.i kind) :: (AV.i gen) :: List.replicate (32 : Nat) (AV.y (UInt8.ofNat (0 : Nat)))), (((AV.i kind) :: (AV.i gen) :: List.replicate (32 : Nat) (AV.y (UInt8.ofNat (0 : Nat)))) : List AV) = ((AV.i kind) :: (AV.i gen) :: List.replicate (32 : Nat) (AV.y (UInt8.ofNat (0 : Nat)))), (((0 : Int) ≤ (wr (lba + s12.1))) ∧ ((wr (lba + s12.1)) < (↑(List.length l) : Int))), (((List.length ((AV.i kind) :: (AV.i gen) :: List.replicate (32 : Nat) (AV.y (UInt8.ofNat (0 : Nat))))) = (34 : Nat)) ∧ ((((0 : Nat) + ((Int.toNat (wr (lba + s12.1))) * (34 : Nat))) + (List.length ((AV.i kind) :: (AV.i gen) :: List.replicate (32 : Nat) (AV.y (UInt8.ofNat (0 : Nat)))))) ≤ (List.length (List.flatMap Ce.cells s12.2)))), (((List.take ((0 : Nat) + ((Int.toNat (wr (lba + s12.1))) * (34 : Nat))) (List.flatMap Ce.cells s12.2)) ++ ((AV.i kind) :: (AV.i gen) :: List.replicate (32 : Nat) (AV.y (UInt8.ofNat (0 : Nat))))) ++ (List.drop (((0 : Nat) + ((Int.toNat (wr (lba + s12.1))) * (34 : Nat))) + (List.length ((AV.i kind) :: (AV.i gen) :: List.replicate (32 : Nat) (AV.y (UInt8.ofNat (0 : Nat)))))) (List.flatMap Ce.cells s12.2))) = (List.flatMap Ce.cells (List.set s12.2 (Int.toNat (wr (lba + s12.1))) (Ce.mk kind gen (List.replicate (32 : Nat) (UInt8.ofNat (0 : Nat))))))]) kq ⟨h13, rfl, rfl, h14, h15, (by rw [show ((0 : Nat) + ((Int.toNat (wr (lba + s12.1))) * (34 : Nat))) = ((Int.toNat (wr (lba + s12.1)))) * 34 by omega]; exact ce_setE _ _ ((Ce.mk kind gen (List.replicate (32 : Nat) (UInt8.ofNat (0 : Nat))))) bq tq), trivial⟩ (Nat.le_of_ble_eq_true rfl) (absB_of [] [] kq (.consn kq (.eqv tq rfl) (.consn kq (.eqv tq rfl) (.consn kq (.eqv tq rfl) (.consn kq (.eqv tq rfl) (.consn kq (.fn (.cons (.pt rfl) (.cons (.pt rfl) .nil))) (.consn kq .nl0 (.consn kq (.eqv tq rfl) (.consn kq (.eqv tq rfl) (.consn kq (.rf rfl) (.consn kq (.eqv tq rfl) (.consn kq (.eqv tq rfl) (.consn kq (.eqv tq rfl) .nil)))))))))))) (.cons (.old rfl rfl (.cells (.pl tq pq))) (.cons (.old rfl rfl (.cells (.cons (.eqv tq rfl) .nil))) (.cons (.old rfl rfl (.cells (.cons (.eqv tq rfl) .nil))) .nil))))
theorem iFill_L0_ok (l : List Ce) (lba : Int) (n : Int) (kind : Int) (gen : Int) (s0 : Bool) (s2 : Bool) (s3 : Bool) (s8 : Bool) (s10 : Bool) (s12 zz : Int × List Ce) : iFill_L0_step l lba n kind gen s0 s2 s3 s8 s10 s12 = some zz → EvStep Try.prog cf 3 (lp Try.prog 41 0) (iFill_L0_S l lba n kind gen s0 s2 s3 s8 s10 s12) (iFill_L0_S l lba n kind gen s0 s2 s3 s8 s10 zz) := by
  unfold iFill_L0_step
  refine tb_ok (fun h13 => ?_) (fun h13 => ?_)
  ·
    have h13p := of_decide_eq_true h13
    refine tp_ok (fun h14 => ?_)
    refine tp_ok (fun h15 => ?_)
    exact fun e => tl_ok (G := (fun zz => EvStep Try.prog cf 3 (lp Try.prog 41 0) (iFill_L0_S l lba n kind gen s0 s2 s3 s8 s10 s12) (iFill_L0_S l lba n kind gen s0 s2 s3 s8 s10 zz))) (iFill_L0_s0 l lba n kind gen s0 s2 s3 s8 s10 s12 h13 h13p h14 h15) e
  ·
    have h13p := of_decide_eq_false h13
    exact fun e => nomatch e
/-- Function 21, as it answers. -/
noncomputable def iFill (l : List Ce) (lba : Int) (n : Int) (kind : Int) (gen : Int) : Option (List Ce × Int) :=
 (tc (iWithin (kind) ((0 : Int)) ((1 : Int))) fun s0 =>
  (tb (s0)
   (tc (iWithin (gen) ((0 : Int)) ((2147483647 : Int))) fun s2 =>
    (tc (iCheck (l)) fun s3 =>
     (tb ((!s3))
      (some ((([] : List Ce), (90 : Int))))
      (tp (((List.length (List.flatMap Ce.cells l)) = ((List.length l) * (34 : Nat))))
       (tp (((List.length l) ≤ (4294967296 : Nat)))
        (tb ((!s2))
         (tp ((((0 : Nat) = (0 : Nat)) ∧ ((List.length (List.flatMap Ce.cells l)) = ((List.length l) * (34 : Nat)))))
          (some ((l, (81 : Int)))))
         (tc (iWithin (lba) ((0 : Int)) ((↑(List.length l) : Int))) fun s8 =>
          (tb ((!s8))
           (tp ((((0 : Nat) = (0 : Nat)) ∧ ((List.length (List.flatMap Ce.cells l)) = ((List.length l) * (34 : Nat)))))
            (some ((l, (81 : Int)))))
           (tc (iWithin (n) ((1 : Int)) ((wr ((↑(List.length l) : Int) - lba)))) fun s10 =>
            (tb ((!s10))
             (tp ((((0 : Nat) = (0 : Nat)) ∧ ((List.length (List.flatMap Ce.cells l)) = ((List.length l) * (34 : Nat)))))
              (some ((l, (81 : Int)))))
             (th (iFill_L0_step l lba n kind gen s0 s2 s3 s8 s10) (((0 : Int), l)) fun s12 =>
              (tb ((decide (s12.1 < n)))
               none /- stop behind an operation -/
               (tp ((((0 : Nat) = (0 : Nat)) ∧ ((List.length (List.flatMap Ce.cells s12.2)) = ((List.length l) * (34 : Nat)))))
                (some ((s12.2, (0 : Int)))))))))))))))))
   (tc (iCheck (l)) fun s2 =>
    (tb ((!s2))
     (some ((([] : List Ce), (90 : Int))))
     (tp (((List.length (List.flatMap Ce.cells l)) = ((List.length l) * (34 : Nat))))
      (tp (((List.length l) ≤ (4294967296 : Nat)))
       (tp ((((0 : Nat) = (0 : Nat)) ∧ ((List.length (List.flatMap Ce.cells l)) = ((List.length l) * (34 : Nat)))))
        (some ((l, (81 : Int)))))))))))
abbrev iFill_G (l : List Ce) (lba : Int) (n : Int) (kind : Int) (gen : Int) (r : List Ce × Int) : Prop := EvFr Try.prog cf true 21 [ces (l), .i (lba), .i (n), .i (kind), .i (gen)] (.tu [ces (r.1), .i (r.2)])
theorem iFill_l0 (l : List Ce) (lba : Int) (n : Int) (kind : Int) (gen : Int) (s0 : Bool) (h0 : iWithin (kind) ((0 : Int)) ((1 : Int)) = some s0) (h1 : (s0) = true) (s2 : Bool) (h2 : iWithin (gen) ((0 : Int)) ((2147483647 : Int)) = some s2) (s3 : Bool) (h3 : iCheck (l) = some s3) (h4 : ((!s3)) = true) : iFill_G l lba n kind gen ((([] : List Ce), (90 : Int))) :=
  leafR vw_eq (k := 300) (r := []) (hs := hz [(10, [.fres (.b (s0))]), (1, [.yes]), (2, [.yes]), (1, [.fres (.b (s2)), .yes]), (6, [.fres (.b (s3))]), (1, [.yes]), (6, [])]) (raw := (AV.tu [(AV.sl 0 ([] : List AV)), (AV.i 90)])) (ps := [EvFr Try.prog cf Bool.false 36 [(AV.i kind), (AV.i 0), (AV.i 1)] (.b (s0)), (s0) = true, (s0) = true, EvFr Try.prog cf Bool.false 36 [(AV.i gen), (AV.i 0), (AV.i 2147483647)] (.b (s2)), (s0) = true, EvFr Try.prog cf Bool.false 17 [(AV.sl (List.length l) (List.flatMap Ce.cells l))] (.b (s3)), ((!s3)) = true]) kq ⟨((iWithin_ok (kind) ((0 : Int)) ((1 : Int)) _ h0).any.cast tq), h1, h1, ((iWithin_ok (gen) ((0 : Int)) ((2147483647 : Int)) _ h2).any.cast tq), h1, ((iCheck_ok (l) _ h3).any.cast tq), h4, trivial⟩ tq
theorem iFill_l1 (l : List Ce) (lba : Int) (n : Int) (kind : Int) (gen : Int) (s0 : Bool) (h0 : iWithin (kind) ((0 : Int)) ((1 : Int)) = some s0) (h1 : (s0) = true) (s2 : Bool) (h2 : iWithin (gen) ((0 : Int)) ((2147483647 : Int)) = some s2) (s3 : Bool) (h3 : iCheck (l) = some s3) (h4 : ((!s3)) = false) (h5 : ((List.length (List.flatMap Ce.cells l)) = ((List.length l) * (34 : Nat)))) (h6 : ((List.length l) ≤ (4294967296 : Nat))) (h7 : ((!s2)) = true) (h8 : (((0 : Nat) = (0 : Nat)) ∧ ((List.length (List.flatMap Ce.cells l)) = ((List.length l) * (34 : Nat))))) : iFill_G l lba n kind gen ((l, (81 : Int))) :=
  leafR vw_eq (k := 300) (r := []) (hs := hz [(10, [.fres (.b (s0))]), (1, [.yes]), (2, [.yes]), (1, [.fres (.b (s2)), .yes]), (6, [.fres (.b (s3))]), (1, [.no]), (2, [.yes, .yes]), (4, [.yes, .yes, .yes, .yes, .yes, .yes]), (17, [.yes, .yes])]) (raw := (AV.tu [(AV.sl (List.length l) (List.flatMap Ce.cells l)), (AV.i 81)])) (ps := [EvFr Try.prog cf Bool.false 36 [(AV.i kind), (AV.i 0), (AV.i 1)] (.b (s0)), (s0) = true, (s0) = true, EvFr Try.prog cf Bool.false 36 [(AV.i gen), (AV.i 0), (AV.i 2147483647)] (.b (s2)), (s0) = true, EvFr Try.prog cf Bool.false 17 [(AV.sl (List.length l) (List.flatMap Ce.cells l))] (.b (s3)), ((!s3)) = false, ((List.length (List.flatMap Ce.cells l)) = ((List.length l) * (34 : Nat))), ((List.length l) ≤ (4294967296 : Nat)), ((!s2)) = true, ((!s2)) = true, ((!s2)) = true, ((!s2)) = true, ((!s2)) = true, ((!s2)) = true, (((0 : Nat) = (0 : Nat)) ∧ ((List.length (List.flatMap Ce.cells l)) = ((List.length l) * (34 : Nat)))), Pl Bool.true ((List.flatMap Ce.cells l))]) kq ⟨((iWithin_ok (kind) ((0 : Int)) ((1 : Int)) _ h0).any.cast tq), h1, h1, ((iWithin_ok (gen) ((0 : Int)) ((2147483647 : Int)) _ h2).any.cast tq), h1, ((iCheck_ok (l) _ h3).any.cast tq), h4, h5, h6, h7, h7, h7, h7, h7, h7, h8, pq, trivial⟩ tq
theorem iFill_l2 (l : List Ce) (lba : Int) (n : Int) (kind : Int) (gen : Int) (s0 : Bool) (h0 : iWithin (kind) ((0 : Int)) ((1 : Int)) = some s0) (h1 : (s0) = true) (s2 : Bool) (h2 : iWithin (gen) ((0 : Int)) ((2147483647 : Int)) = some s2) (s3 : Bool) (h3 : iCheck (l) = some s3) (h4 : ((!s3)) = false) (h5 : ((List.length (List.flatMap Ce.cells l)) = ((List.length l) * (34 : Nat)))) (h6 : ((List.length l) ≤ (4294967296 : Nat))) (h7 : ((!s2)) = false) (s8 : Bool) (h8 : iWithin (lba) ((0 : Int)) ((↑(List.length l) : Int)) = some s8) (h9 : ((!s8)) = true) (h10 : (((0 : Nat) = (0 : Nat)) ∧ ((List.length (List.flatMap Ce.cells l)) = ((List.length l) * (34 : Nat))))) : iFill_G l lba n kind gen ((l, (81 : Int))) :=
  leafR vw_eq (k := 300) (r := []) (hs := hz [(10, [.fres (.b (s0))]), (1, [.yes]), (2, [.yes]), (1, [.fres (.b (s2)), .yes]), (6, [.fres (.b (s3))]), (1, [.no]), (2, [.yes, .yes]), (4, [.no]), (1, [.no]), (1, [.no]), (1, [.no]), (1, [.fres (.b (s8)), .no]), (1, [.no]), (1, [.yes, .yes, .yes, .yes, .yes, .yes, .yes, .yes]), (8, [.yes, .yes])]) (raw := (AV.tu [(AV.sl (List.length l) (List.flatMap Ce.cells l)), (AV.i 81)])) (ps := [EvFr Try.prog cf Bool.false 36 [(AV.i kind), (AV.i 0), (AV.i 1)] (.b (s0)), (s0) = true, (s0) = true, EvFr Try.prog cf Bool.false 36 [(AV.i gen), (AV.i 0), (AV.i 2147483647)] (.b (s2)), (s0) = true, EvFr Try.prog cf Bool.false 17 [(AV.sl (List.length l) (List.flatMap Ce.cells l))] (.b (s3)), ((!s3)) = false, ((List.length (List.flatMap Ce.cells l)) = ((List.length l) * (34 : Nat))), ((List.length l) ≤ (4294967296 : Nat)), ((!s2)) = false, ((!s2)) = false, ((!s2)) = false, ((!s2)) = false, EvFr Try.prog cf Bool.false 36 [(AV.i lba), (AV.i 0), (AV.i (↑(List.length l) : Int))] (.b (s8)), ((!s2)) = false, ((!s2)) = false, ((!s8)) = true, ((!s8)) = true, ((!s8)) = true, ((!s8)) = true, ((!s8)) = true, ((!s8)) = true, ((!s8)) = true, ((!s8)) = true, (((0 : Nat) = (0 : Nat)) ∧ ((List.length (List.flatMap Ce.cells l)) = ((List.length l) * (34 : Nat)))), Pl Bool.true ((List.flatMap Ce.cells l))]) kq ⟨((iWithin_ok (kind) ((0 : Int)) ((1 : Int)) _ h0).any.cast tq), h1, h1, ((iWithin_ok (gen) ((0 : Int)) ((2147483647 : Int)) _ h2).any.cast tq), h1, ((iCheck_ok (l) _ h3).any.cast tq), h4, h5, h6, h7, h7, h7, h7, ((iWithin_ok (lba) ((0 : Int)) ((↑(List.length l) : Int)) _ h8).any.cast tq), h7, h7, h9, h9, h9, h9, h9, h9, h9, h9, h10, pq, trivial⟩ tq
theorem iFill_l3 (l : List Ce) (lba : Int) (n : Int) (kind : Int) (gen : Int) (s0 : Bool) (h0 : iWithin (kind) ((0 : Int)) ((1 : Int)) = some s0) (h1 : (s0) = true) (s2 : Bool) (h2 : iWithin (gen) ((0 : Int)) ((2147483647 : Int)) = some s2) (s3 : Bool) (h3 : iCheck (l) = some s3) (h4 : ((!s3)) = false) (h5 : ((List.length (List.flatMap Ce.cells l)) = ((List.length l) * (34 : Nat)))) (h6 : ((List.length l) ≤ (4294967296 : Nat))) (h7 : ((!s2)) = false) (s8 : Bool) (h8 : iWithin (lba) ((0 : Int)) ((↑(List.length l) : Int)) = some s8) (h9 : ((!s8)) = false) (s10 : Bool) (h10 : iWithin (n) ((1 : Int)) ((wr ((↑(List.length l) : Int) - lba))) = some s10) (h11 : ((!s10)) = true) (h12 : (((0 : Nat) = (0 : Nat)) ∧ ((List.length (List.flatMap Ce.cells l)) = ((List.length l) * (34 : Nat))))) : iFill_G l lba n kind gen ((l, (81 : Int))) :=
  leafR vw_eq (k := 300) (r := []) (hs := hz [(10, [.fres (.b (s0))]), (1, [.yes]), (2, [.yes]), (1, [.fres (.b (s2)), .yes]), (6, [.fres (.b (s3))]), (1, [.no]), (2, [.yes, .yes]), (4, [.no]), (1, [.no]), (1, [.no]), (1, [.no]), (1, [.fres (.b (s8)), .no]), (1, [.no]), (1, [.no]), (1, [.no]), (1, [.no]), (1, [.no]), (1, [.no]), (1, [.no]), (1, [.fres (.b (s10)), .no]), (1, [.no, .yes]), (7, [.yes, .yes])]) (raw := (AV.tu [(AV.sl (List.length l) (List.flatMap Ce.cells l)), (AV.i 81)])) (ps := [EvFr Try.prog cf Bool.false 36 [(AV.i kind), (AV.i 0), (AV.i 1)] (.b (s0)), (s0) = true, (s0) = true, EvFr Try.prog cf Bool.false 36 [(AV.i gen), (AV.i 0), (AV.i 2147483647)] (.b (s2)), (s0) = true, EvFr Try.prog cf Bool.false 17 [(AV.sl (List.length l) (List.flatMap Ce.cells l))] (.b (s3)), ((!s3)) = false, ((List.length (List.flatMap Ce.cells l)) = ((List.length l) * (34 : Nat))), ((List.length l) ≤ (4294967296 : Nat)), ((!s2)) = false, ((!s2)) = false, ((!s2)) = false, ((!s2)) = false, EvFr Try.prog cf Bool.false 36 [(AV.i lba), (AV.i 0), (AV.i (↑(List.length l) : Int))] (.b (s8)), ((!s2)) = false, ((!s2)) = false, ((!s8)) = false, ((!s8)) = false, ((!s8)) = false, ((!s8)) = false, ((!s8)) = false, ((!s8)) = false, EvFr Try.prog cf Bool.false 36 [(AV.i n), (AV.i 1), (AV.i (wr ((↑(List.length l) : Int) - lba)))] (.b (s10)), ((!s8)) = false, ((!s8)) = false, ((!s10)) = true, (((0 : Nat) = (0 : Nat)) ∧ ((List.length (List.flatMap Ce.cells l)) = ((List.length l) * (34 : Nat)))), Pl Bool.true ((List.flatMap Ce.cells l))]) kq ⟨((iWithin_ok (kind) ((0 : Int)) ((1 : Int)) _ h0).any.cast tq), h1, h1, ((iWithin_ok (gen) ((0 : Int)) ((2147483647 : Int)) _ h2).any.cast tq), h1, ((iCheck_ok (l) _ h3).any.cast tq), h4, h5, h6, h7, h7, h7, h7, ((iWithin_ok (lba) ((0 : Int)) ((↑(List.length l) : Int)) _ h8).any.cast tq), h7, h7, h9, h9, h9, h9, h9, h9, ((iWithin_ok (n) ((1 : Int)) ((wr ((↑(List.length l) : Int) - lba))) _ h10).any.cast tq), h9, h9, h11, h12, pq, trivial⟩ tq
theorem iFill_l4 (l : List Ce) (lba : Int) (n : Int) (kind : Int) (gen : Int) (s0 : Bool) (h0 : iWithin (kind) ((0 : Int)) ((1 : Int)) = some s0) (h1 : (s0) = true) (s2 : Bool) (h2 : iWithin (gen) ((0 : Int)) ((2147483647 : Int)) = some s2) (s3 : Bool) (h3 : iCheck (l) = some s3) (h4 : ((!s3)) = false) (h5 : ((List.length (List.flatMap Ce.cells l)) = ((List.length l) * (34 : Nat)))) (h6 : ((List.length l) ≤ (4294967296 : Nat))) (h7 : ((!s2)) = false) (s8 : Bool) (h8 : iWithin (lba) ((0 : Int)) ((↑(List.length l) : Int)) = some s8) (h9 : ((!s8)) = false) (s10 : Bool) (h10 : iWithin (n) ((1 : Int)) ((wr ((↑(List.length l) : Int) - lba))) = some s10) (h11 : ((!s10)) = false) (s12 : Int × List Ce) (h12 : Runs (iFill_L0_step l lba n kind gen s0 s2 s3 s8 s10) (((0 : Int), l)) s12) (h13 : ((decide (s12.1 < n))) = false) (h13p : ¬ (s12.1 < n)) (h14 : (((0 : Nat) = (0 : Nat)) ∧ ((List.length (List.flatMap Ce.cells s12.2)) = ((List.length l) * (34 : Nat))))) : iFill_G l lba n kind gen ((s12.2, (0 : Int))) :=
  leafR vw_eq (k := 300) (r := []) (hs := hz [(10, [.fres (.b (s0))]), (1, [.yes]), (2, [.yes]), (1, [.fres (.b (s2)), .yes]), (6, [.fres (.b (s3))]), (1, [.no]), (2, [.yes, .yes]), (4, [.no]), (1, [.no]), (1, [.no]), (1, [.no]), (1, [.fres (.b (s8)), .no]), (1, [.no]), (1, [.no]), (1, [.no]), (1, [.no]), (1, [.no]), (1, [.no]), (1, [.no]), (1, [.fres (.b (s10)), .no]), (1, [.no, .no]), (2, [.head (iFill_L0_S l lba n kind gen s0 s2 s3 s8 s10 s12)]), (1, [.no]), (7, [.yes, .yes])]) (raw := (AV.tu [(AV.sl (List.length l) (List.flatMap Ce.cells s12.2)), (AV.i 0)])) (ps := [EvFr Try.prog cf Bool.false 36 [(AV.i kind), (AV.i 0), (AV.i 1)] (.b (s0)), (s0) = true, (s0) = true, EvFr Try.prog cf Bool.false 36 [(AV.i gen), (AV.i 0), (AV.i 2147483647)] (.b (s2)), (s0) = true, EvFr Try.prog cf Bool.false 17 [(AV.sl (List.length l) (List.flatMap Ce.cells l))] (.b (s3)), ((!s3)) = false, ((List.length (List.flatMap Ce.cells l)) = ((List.length l) * (34 : Nat))), ((List.length l) ≤ (4294967296 : Nat)), ((!s2)) = false, ((!s2)) = false, ((!s2)) = false, ((!s2)) = false, EvFr Try.prog cf Bool.false 36 [(AV.i lba), (AV.i 0), (AV.i (↑(List.length l) : Int))] (.b (s8)), ((!s2)) = false, ((!s2)) = false, ((!s8)) = false, ((!s8)) = false, ((!s8)) = false, ((!s8)) = false, ((!s8)) = false, ((!s8)) = false, EvFr Try.prog cf Bool.false 36 [(AV.i n), (AV.i 1), (AV.i (wr ((↑(List.length l) : Int) - lba)))] (.b (s10)), ((!s8)) = false, ((!s8)) = false, ((!s10)) = false, EvHead Try.prog cf (lp Try.prog 41 0) (iFill_L0_I l lba n kind gen s0 s2 s3 s8 s10) (iFill_L0_S l lba n kind gen s0 s2 s3 s8 s10 s12), ((decide (s12.1 < n))) = false, (((0 : Nat) = (0 : Nat)) ∧ ((List.length (List.flatMap Ce.cells s12.2)) = ((List.length l) * (34 : Nat)))), Pl Bool.true ((List.flatMap Ce.cells s12.2))]) kq ⟨((iWithin_ok (kind) ((0 : Int)) ((1 : Int)) _ h0).any.cast tq), h1, h1, ((iWithin_ok (gen) ((0 : Int)) ((2147483647 : Int)) _ h2).any.cast tq), h1, ((iCheck_ok (l) _ h3).any.cast tq), h4, h5, h6, h7, h7, h7, h7, ((iWithin_ok (lba) ((0 : Int)) ((↑(List.length l) : Int)) _ h8).any.cast tq), h7, h7, h9, h9, h9, h9, h9, h9, ((iWithin_ok (n) ((1 : Int)) ((wr ((↑(List.length l) : Int) - lba))) _ h10).any.cast tq), h9, h9, h11, (EvHead.of (iFill_L0_ok l lba n kind gen s0 s2 s3 s8 s10) (absB_of [] [] kq (.consn kq (.eqv tq rfl) (.consn kq (.eqv tq rfl) (.consn kq (.eqv tq rfl) (.consn kq (.eqv tq rfl) (.consn kq (.fn (.cons (.pt rfl) (.cons (.pt rfl) .nil))) (.consn kq .nl0 (.consn kq (.eqv tq rfl) (.consn kq (.eqv tq rfl) (.consn kq (.rf rfl) (.consn kq (.eqv tq rfl) (.consn kq (.eqv tq rfl) (.consn kq (.eqv tq rfl) .nil)))))))))))) (.cons (.old rfl rfl (.cells (.pl tq pq))) (.cons (.old rfl rfl (.cells (.cons (.eqv tq rfl) .nil))) (.cons (.old rfl rfl (.cells (.cons (.eqv tq rfl) .nil))) .nil)))) h12), h13, h14, pq, trivial⟩ tq
theorem iFill_l5 (l : List Ce) (lba : Int) (n : Int) (kind : Int) (gen : Int) (s0 : Bool) (h0 : iWithin (kind) ((0 : Int)) ((1 : Int)) = some s0) (h1 : (s0) = false) (s2 : Bool) (h2 : iCheck (l) = some s2) (h3 : ((!s2)) = true) : iFill_G l lba n kind gen ((([] : List Ce), (90 : Int))) :=
  leafR vw_eq (k := 300) (r := []) (hs := hz [(10, [.fres (.b (s0))]), (1, [.no, .no, .no]), (6, [.fres (.b (s2))]), (1, [.yes]), (6, [])]) (raw := (AV.tu [(AV.sl 0 ([] : List AV)), (AV.i 90)])) (ps := [EvFr Try.prog cf Bool.false 36 [(AV.i kind), (AV.i 0), (AV.i 1)] (.b (s0)), (s0) = false, (s0) = false, (s0) = false, EvFr Try.prog cf Bool.false 17 [(AV.sl (List.length l) (List.flatMap Ce.cells l))] (.b (s2)), ((!s2)) = true]) kq ⟨((iWithin_ok (kind) ((0 : Int)) ((1 : Int)) _ h0).any.cast tq), h1, h1, h1, ((iCheck_ok (l) _ h2).any.cast tq), h3, trivial⟩ tq
theorem iFill_l6 (l : List Ce) (lba : Int) (n : Int) (kind : Int) (gen : Int) (s0 : Bool) (h0 : iWithin (kind) ((0 : Int)) ((1 : Int)) = some s0) (h1 : (s0) = false) (s2 : Bool) (h2 : iCheck (l) = some s2) (h3 : ((!s2)) = false) (h4 : ((List.length (List.flatMap Ce.cells l)) = ((List.length l) * (34 : Nat)))) (h5 : ((List.length l) ≤ (4294967296 : Nat))) (h6 : (((0 : Nat) = (0 : Nat)) ∧ ((List.length (List.flatMap Ce.cells l)) = ((List.length l) * (34 : Nat))))) : iFill_G l lba n kind gen ((l, (81 : Int))) :=
  leafR vw_eq (k := 300) (r := []) (hs := hz [(10, [.fres (.b (s0))]), (1, [.no, .no, .no]), (6, [.fres (.b (s2))]), (1, [.no]), (2, [.yes, .yes]), (27, [.yes, .yes])]) (raw := (AV.tu [(AV.sl (List.length l) (List.flatMap Ce.cells l)), (AV.i 81)])) (ps := [EvFr Try.prog cf Bool.false 36 [(AV.i kind), (AV.i 0), (AV.i 1)] (.b (s0)), (s0) = false, (s0) = false, (s0) = false, EvFr Try.prog cf Bool.false 17 [(AV.sl (List.length l) (List.flatMap Ce.cells l))] (.b (s2)), ((!s2)) = false, ((List.length (List.flatMap Ce.cells l)) = ((List.length l) * (34 : Nat))), ((List.length l) ≤ (4294967296 : Nat)), (((0 : Nat) = (0 : Nat)) ∧ ((List.length (List.flatMap Ce.cells l)) = ((List.length l) * (34 : Nat)))), Pl Bool.true ((List.flatMap Ce.cells l))]) kq ⟨((iWithin_ok (kind) ((0 : Int)) ((1 : Int)) _ h0).any.cast tq), h1, h1, h1, ((iCheck_ok (l) _ h2).any.cast tq), h3, h4, h5, h6, pq, trivial⟩ tq
theorem iFill_ok (l : List Ce) (lba : Int) (n : Int) (kind : Int) (gen : Int) (r : List Ce × Int) : iFill l lba n kind gen = some r → iFill_G l lba n kind gen r := by
  unfold iFill
  refine tc_ok (fun s0 h0 => ?_)
  refine tb_ok (fun h1 => ?_) (fun h1 => ?_)
  ·
    refine tc_ok (fun s2 h2 => ?_)
    refine tc_ok (fun s3 h3 => ?_)
    refine tb_ok (fun h4 => ?_) (fun h4 => ?_)
    ·
      exact fun e => tl_ok (G := iFill_G l lba n kind gen) (iFill_l0 l lba n kind gen s0 h0 h1 s2 h2 s3 h3 h4) e
    ·
      refine tp_ok (fun h5 => ?_)
      refine tp_ok (fun h6 => ?_)
      refine tb_ok (fun h7 => ?_) (fun h7 => ?_)
      ·
        refine tp_ok (fun h8 => ?_)
        exact fun e => tl_ok (G := iFill_G l lba n kind gen) (iFill_l1 l lba n kind gen s0 h0 h1 s2 h2 s3 h3 h4 h5 h6 h7 h8) e
      ·
        refine tc_ok (fun s8 h8 => ?_)
        refine tb_ok (fun h9 => ?_) (fun h9 => ?_)
        ·
          refine tp_ok (fun h10 => ?_)
          exact fun e => tl_ok (G := iFill_G l lba n kind gen) (iFill_l2 l lba n kind gen s0 h0 h1 s2 h2 s3 h3 h4 h5 h6 h7 s8 h8 h9 h10) e
        ·
          refine tc_ok (fun s10 h10 => ?_)
          refine tb_ok (fun h11 => ?_) (fun h11 => ?_)
          ·
            refine tp_ok (fun h12 => ?_)
            exact fun e => tl_ok (G := iFill_G l lba n kind gen) (iFill_l3 l lba n kind gen s0 h0 h1 s2 h2 s3 h3 h4 h5 h6 h7 s8 h8 h9 s10 h10 h11 h12) e
          ·
            refine th_ok (fun s12 h12 => ?_)
            refine tb_ok (fun h13 => ?_) (fun h13 => ?_)
            ·
              have h13p := of_decide_eq_true h13
              exact fun e => nomatch e
            ·
              have h13p := of_decide_eq_false h13
              refine tp_ok (fun h14 => ?_)
              exact fun e => tl_ok (G := iFill_G l lba n kind gen) (iFill_l4 l lba n kind gen s0 h0 h1 s2 h2 s3 h3 h4 h5 h6 h7 s8 h8 h9 s10 h10 h11 s12 h12 h13 h13p h14) e
  ·
    refine tc_ok (fun s2 h2 => ?_)
    refine tb_ok (fun h3 => ?_) (fun h3 => ?_)
    ·
      exact fun e => tl_ok (G := iFill_G l lba n kind gen) (iFill_l5 l lba n kind gen s0 h0 h1 s2 h2 h3) e
    ·
      refine tp_ok (fun h4 => ?_)
      refine tp_ok (fun h5 => ?_)
      refine tp_ok (fun h6 => ?_)
      exact fun e => tl_ok (G := iFill_G l lba n kind gen) (iFill_l6 l lba n kind gen s0 h0 h1 s2 h2 h3 h4 h5 h6) e
noncomputable abbrev iWrite_L0_I (l : List Ce) (lba : Int) (gen : Int) (b : List UInt8) (s1 : Bool) (s2 : Bool) (s7 : Bool) (s9 : Bool) : St := (St.mk [(0, (AV.sl (List.length l) (List.flatMap Ce.cells l))), (1, (AV.i lba)), (2, (AV.i (wr (Int.tdiv (↑(List.length b) : Int) (32 : Int))))), (3, (AV.b s1)), (4, (AV.fn (44 : Nat) [(AV.pt 0 0), (AV.pt 1 0)])), (10, AV.nl), (11, (AV.i 0)), (14, (AV.sl (List.length l) (List.flatMap Ce.cells l))), (15, (AV.b s2)), (16, (AV.b (!s2))), (17, (AV.sl (List.length l) (List.flatMap Ce.cells l))), (18, (AV.rf 2 34 0 (List.length l))), (12, (AV.rf 2 34 0 (List.length l))), (19, (AV.b s1)), (20, (AV.b (!s1))), (21, (AV.b (!s1))), (22, (AV.i lba)), (23, (AV.sl (List.length l) (List.flatMap Ce.cells l))), (24, (AV.i (↑(List.length l) : Int))), (25, (AV.b s7)), (26, (AV.b (!s7))), (27, (AV.b (!s7))), (28, (AV.b (!s7))), (29, (AV.i (wr (Int.tdiv (↑(List.length b) : Int) (32 : Int))))), (30, (AV.sl (List.length l) (List.flatMap Ce.cells l))), (31, (AV.i (↑(List.length l) : Int))), (32, (AV.i lba)), (33, (AV.i (wr ((↑(List.length l) : Int) - lba)))), (34, (AV.b s9)), (35, (AV.b (!s9))), (36, (AV.b (!s9))), (38, (AV.i (wr (Int.tdiv (↑(List.length b) : Int) (32 : Int))))), (39, (AV.i 0))] 52 (AH.mk 3 [(2, (AObj.cells (List.flatMap Ce.cells l))), (1, (AObj.cells [(AV.sl (List.length b) (List.map AV.y b))])), (0, (AObj.cells [(AV.i gen)]))]) Bool.false)
noncomputable abbrev iWrite_L0_S (l : List Ce) (lba : Int) (gen : Int) (b : List UInt8) (s1 : Bool) (s2 : Bool) (s7 : Bool) (s9 : Bool) (s11 : Int × List Ce) : St := (St.mk [(0, (AV.sl (List.length l) (List.flatMap Ce.cells l))), (1, (AV.i lba)), (2, (AV.i (wr (Int.tdiv (↑(List.length b) : Int) (32 : Int))))), (3, (AV.b s1)), (4, (AV.fn (44 : Nat) [(AV.pt 0 0), (AV.pt 1 0)])), (10, AV.nl), (11, (AV.i 0)), (16, (AV.b (!s2))), (12, (AV.rf 2 34 0 (List.length l))), (36, (AV.b (!s9))), (38, (AV.i (wr (Int.tdiv (↑(List.length b) : Int) (32 : Int))))), (39, (AV.i s11.1))] 52 (AH.mk 3 [(2, (AObj.cells (List.flatMap Ce.cells s11.2))), (1, (AObj.cells [(AV.sl (List.length b) (List.map AV.y b))])), (0, (AObj.cells [(AV.i gen)]))]) Bool.false)
noncomputable def iWrite_L0_step (l : List Ce) (lba : Int) (gen : Int) (b : List UInt8) (s1 : Bool) (s2 : Bool) (s7 : Bool) (s9 : Bool) (s11 : Int × List Ce) : Option (Int × List Ce) :=
 (tb ((decide (s11.1 < (wr (Int.tdiv (↑(List.length b) : Int) (32 : Int))))))
  (tp (((0 : Int) ≤ (wr (s11.1 * (32 : Int)))))
   (tp ((((Int.toNat (wr (s11.1 * (32 : Int)))) ≤ (List.length b)) ∧ (((List.length b) ≤ (List.length b)) ∧ ((List.length (List.map AV.y b)) = ((List.length b) * (1 : Nat))))))
    (tp ((((0 : Int) ≤ (wr (lba + s11.1))) ∧ ((wr (lba + s11.1)) < (↑(List.length l) : Int))))
     (tp ((((List.length ((AV.i 2) :: (AV.i gen) :: (List.map AV.y (pad 32 (List.take (((List.length b) - (Int.toNat (wr (s11.1 * (32 : Int))))) * (1 : Nat)) (List.drop ((Int.toNat (wr (s11.1 * (32 : Int)))) * (1 : Nat)) b)))))) = (34 : Nat)) ∧ ((((0 : Nat) + ((Int.toNat (wr (lba + s11.1))) * (34 : Nat))) + (List.length ((AV.i 2) :: (AV.i gen) :: (List.map AV.y (pad 32 (List.take (((List.length b) - (Int.toNat (wr (s11.1 * (32 : Int))))) * (1 : Nat)) (List.drop ((Int.toNat (wr (s11.1 * (32 : Int)))) * (1 : Nat)) b))))))) ≤ (List.length (List.flatMap Ce.cells s11.2)))))
      (some (((wr (s11.1 + (1 : Int))), (List.set s11.2 (Int.toNat (wr (lba + s11.1))) (Ce.mk 2 gen (pad 32 (List.take (((List.length b) - (Int.toNat (wr (s11.1 * (32 : Int))))) * (1 : Nat)) (List.drop ((Int.toNat (wr (s11.1 * (32 : Int)))) * (1 : Nat)) b))))))))))))
  none /- exit -/)
theorem iWrite_L0_s0 (l : List Ce) (lba : Int) (gen : Int) (b : List UInt8) (s1 : Bool) (s2 : Bool) (s7 : Bool) (s9 : Bool) (s11 : Int × List Ce) (h12 : ((decide (s11.1 < (wr (Int.tdiv (↑(List.length b) : Int) (32 : Int)))))) = true) (h12p : (s11.1 < (wr (Int.tdiv (↑(List.length b) : Int) (32 : Int))))) (h13 : ((0 : Int) ≤ (wr (s11.1 * (32 : Int))))) (h14 : (((Int.toNat (wr (s11.1 * (32 : Int)))) ≤ (List.length b)) ∧ (((List.length b) ≤ (List.length b)) ∧ ((List.length (List.map AV.y b)) = ((List.length b) * (1 : Nat)))))) (h15 : (((0 : Int) ≤ (wr (lba + s11.1))) ∧ ((wr (lba + s11.1)) < (↑(List.length l) : Int)))) (h16 : (((List.length ((AV.i 2) :: (AV.i gen) :: (List.map AV.y (pad 32 (List.take (((List.length b) - (Int.toNat (wr (s11.1 * (32 : Int))))) * (1 : Nat)) (List.drop ((Int.toNat (wr (s11.1 * (32 : Int)))) * (1 : Nat)) b)))))) = (34 : Nat)) ∧ ((((0 : Nat) + ((Int.toNat (wr (lba + s11.1))) * (34 : Nat))) + (List.length ((AV.i 2) :: (AV.i gen) :: (List.map AV.y (pad 32 (List.take (((List.length b) - (Int.toNat (wr (s11.1 * (32 : Int))))) * (1 : Nat)) (List.drop ((Int.toNat (wr (s11.1 * (32 : Int)))) * (1 : Nat)) b))))))) ≤ (List.length (List.flatMap Ce.cells s11.2))))) : EvStep Try.prog cf 3 (lp Try.prog 41 0) (iWrite_L0_S l lba gen b s1 s2 s7 s9 s11) (iWrite_L0_S l lba gen b s1 s2 s7 s9 (((wr (s11.1 + (1 : Int))), (List.set s11.2 (Int.toNat (wr (lba + s11.1))) (Ce.mk 2 gen (pad 32 (List.take (((List.length b) - (Int.toNat (wr (s11.1 * (32 : Int))))) * (1 : Nat)) (List.drop ((Int.toNat (wr (s11.1 * (32 : Int)))) * (1 : Nat)) b)))))))) :=
  leafS vw_eq (k := 300) (r := []) (hs := hz [(1, [.yes]), (15, [.cells (((AV.i 2) :: (AV.i gen) :: List.replicate (32 : Nat) (AV.y (UInt8.ofNat (0 : Nat)))))]), (6, [.yes, .yes, .yes]), (1, [.cells (((AV.i 2) :: (AV.i gen) :: (List.map AV.y (pad 32 (List.take (((List.length b) - (Int.toNat (wr (s11.1 * (32 : Int))))) * (1 : Nat)) (List.drop ((Int.toNat (wr (s11.1 * (32 : Int)))) * (1 : Nat)) b)))))), .yes, .yes, .cells (((AV.i 2) :: (AV.i gen) :: (List.map AV.y (pad 32 (List.take (((List.length b) - (Int.toNat (wr (s11.1 * (32 : Int))))) * (1 : Nat)) (List.drop ((Int.toNat (wr (s11.1 * (32 : Int)))) * (1 : Nat)) b)))))), .yes, .cells (((AV.i 2) :: (AV.i gen) :: (List.map AV.y (pad 32 (List.take (((List.length b) - (Int.toNat (wr (s11.1 * (32 : Int))))) * (1 : Nat)) (List.drop ((Int.toNat (wr (s11.1 * (32 : Int)))) * (1 : Nat)) b)))))), .yes, .cells (((AV.i 2) :: (AV.i gen) :: (List.map AV.y (pad 32 (List.take (((List.length b) - (Int.toNat (wr (s11.1 * (32 : Int))))) * (1 : Nat)) (List.drop ((Int.toNat (wr (s11.1 * (32 : Int)))) * (1 : Nat)) b)))))), .yes, .yes, .cells ((List.flatMap Ce.cells (List.set s11.2 (Int.toNat (wr (lba + s11.1))) (Ce.mk 2 gen (pad 32 (List.take (((List.length b) - (Int.toNat (wr (s11.1 * (32 : Int))))) * (1 : Nat)) (List.drop ((Int.toNat (wr (s11.1 * (32 : Int)))) * (1 : Nat)) b)))))))]), (2, [])]) (st1 := (St.mk [(0, (AV.sl (List.length l) (List.flatMap Ce.cells l))), (1, (AV.i lba)), (2, (AV.i (wr (Int.tdiv (↑(List.length b) : Int) (32 : Int))))), (3, (AV.b s1)), (4, (AV.fn (44 : Nat) [(AV.pt 0 0), (AV.pt 1 0)])), (10, AV.nl), (11, (AV.i 0)), (16, (AV.b (!s2))), (12, (AV.rf 2 34 0 (List.length l))), (36, (AV.b (!s9))), (38, (AV.i (wr (Int.tdiv (↑(List.length b) : Int) (32 : Int))))), (39, (AV.i (wr (s11.1 + (1 : Int))))), (40, (AV.b (decide (s11.1 < (wr (Int.tdiv (↑(List.length b) : Int) (32 : Int))))))), (41, (AV.i s11.1)), (13, (AV.i s11.1)), (42, (AV.rf 2 34 0 (List.length l))), (43, (AV.i lba)), (44, (AV.i s11.1)), (45, (AV.i (wr (lba + s11.1)))), (46, (AV.fn (44 : Nat) [(AV.pt 0 0), (AV.pt 1 0)])), (47, (AV.i s11.1)), (48, (AV.ag ((AV.i 2) :: (AV.i gen) :: (List.map AV.y (pad 32 (List.take (((List.length b) - (Int.toNat (wr (s11.1 * (32 : Int))))) * (1 : Nat)) (List.drop ((Int.toNat (wr (s11.1 * (32 : Int)))) * (1 : Nat)) b))))))), (49, (AV.pt 2 ((0 : Nat) + ((Int.toNat (wr (lba + s11.1))) * (34 : Nat))))), (50, (AV.i (wr (s11.1 + (1 : Int)))))] 52 (AH.mk 5 [(4, (AObj.cells ((AV.i 2) :: (AV.i gen) :: (List.map AV.y (pad 32 (List.take (((List.length b) - (Int.toNat (wr (s11.1 * (32 : Int))))) * (1 : Nat)) (List.drop ((Int.toNat (wr (s11.1 * (32 : Int)))) * (1 : Nat)) b))))))), (3, (AObj.cells ((AV.i 2) :: (AV.i gen) :: (List.map AV.y (pad 32 (List.take (((List.length b) - (Int.toNat (wr (s11.1 * (32 : Int))))) * (1 : Nat)) (List.drop ((Int.toNat (wr (s11.1 * (32 : Int)))) * (1 : Nat)) b))))))), (2, (AObj.cells (List.flatMap Ce.cells (List.set s11.2 (Int.toNat (wr (lba + s11.1))) (Ce.mk 2 gen (pad 32 (List.take (((List.length b) - (Int.toNat (wr (s11.1 * (32 : Int))))) * (1 : Nat)) (List.drop ((Int.toNat (wr (s11.1 * (32 : Int)))) * (1 : Nat)) b)))))))), (1, (AObj.cells [(AV.sl (List.length b) (List.map AV.y b))])), (0, (AObj.cells [(AV.i gen)]))]) Bool.false)) (ps := [((decide (s11.1 < (wr (Int.tdiv (↑(List.length b) : Int) (32 : Int)))))) = true, (((AV.i 2) :: (AV.i gen) :: List.replicate (32 : Nat) (AV.y (UInt8.ofNat (0 : Nat)))) : List AV) = ((AV.i 2) :: (AV.i gen) :: List.replicate (32 : Nat) (AV.y (UInt8.ofNat (0 : Nat)))), ((0 : Int) ≤ (wr (s11.1 * (32 : Int)))), (((Int.toNat (wr (s11.1 * (32 : Int)))) ≤ (List.length b)) ∧ (((List.length b) ≤ (List.length b)) ∧ ((List.length (List.map AV.y b)) = ((List.length b) * (1 : Nat))))), ((List.length (List.take (((List.length b) - (Int.toNat (wr (s11.1 * (32 : Int))))) * (1 : Nat)) (List.drop ((Int.toNat (wr (s11.1 * (32 : Int)))) * (1 : Nat)) (List.map AV.y b)))) = (((List.length b) - (Int.toNat (wr (s11.1 * (32 : Int))))) * (1 : Nat))), (over ((AV.i 2) :: (AV.i gen) :: List.replicate (32 : Nat) (AV.y (UInt8.ofNat (0 : Nat)))) 2 (List.take ((Min.min ((List.length b) - (Int.toNat (wr (s11.1 * (32 : Int))))) (32 : Nat)) * (1 : Nat)) (List.take (((List.length b) - (Int.toNat (wr (s11.1 * (32 : Int))))) * (1 : Nat)) (List.drop ((Int.toNat (wr (s11.1 * (32 : Int)))) * (1 : Nat)) (List.map AV.y b))))) = ((AV.i 2) :: (AV.i gen) :: (List.map AV.y (pad 32 (List.take (((List.length b) - (Int.toNat (wr (s11.1 * (32 : Int))))) * (1 : Nat)) (List.drop ((Int.toNat (wr (s11.1 * (32 : Int)))) * (1 : Nat)) b))))), orderOk (rg Try.prog 44 0) = true ∧ allOk (Region.before (rg Try.prog 44 0)) [] 0 [(some [], some []), (some [4], some []), (some [1], some []), (some [], some []), (some [], some []), (some [], some []), (some [4], some [4])] = true, ((34 : Nat) ≤ (List.length ((AV.i 2) :: (AV.i gen) :: (List.map AV.y (pad 32 (List.take (((List.length b) - (Int.toNat (wr (s11.1 * (32 : Int))))) * (1 : Nat)) (List.drop ((Int.toNat (wr (s11.1 * (32 : Int)))) * (1 : Nat)) b))))))), (List.take 34 ((AV.i 2) :: (AV.i gen) :: (List.map AV.y (pad 32 (List.take (((List.length b) - (Int.toNat (wr (s11.1 * (32 : Int))))) * (1 : Nat)) (List.drop ((Int.toNat (wr (s11.1 * (32 : Int)))) * (1 : Nat)) b)))))) = ((AV.i 2) :: (AV.i gen) :: (List.map AV.y (pad 32 (List.take (((List.length b) - (Int.toNat (wr (s11.1 * (32 : Int))))) * (1 : Nat)) (List.drop ((Int.toNat (wr (s11.1 * (32 : Int)))) * (1 : Nat)) b))))), (((List.length ((AV.i 2) :: (AV.i gen) :: (List.map AV.y (pad 32 (List.take (((List.length b) - (Int.toNat (wr (s11.1 * (32 : Int))))) * (1 : Nat)) (List.drop ((Int.toNat (wr (s11.1 * (32 : Int)))) * (1 : Nat)) b)))))) = (34 : Nat)) ∧ (((0 : Nat) + (List.length ((AV.i 2) :: (AV.i gen) :: (List.map AV.y (pad 32 (List.take (((List.length b) - (Int.toNat (wr (s11.1 * (32 : Int))))) * (1 : Nat)) (List.drop ((Int.toNat (wr (s11.1 * (32 : Int)))) * (1 : Nat)) b))))))) ≤ (34 : Nat))), (over ((AV.i (Int.ofNat 0)) :: (AV.i (Int.ofNat 0)) :: List.replicate (32 : Nat) (AV.y (UInt8.ofNat (0 : Nat)))) 0 ((AV.i 2) :: (AV.i gen) :: (List.map AV.y (pad 32 (List.take (((List.length b) - (Int.toNat (wr (s11.1 * (32 : Int))))) * (1 : Nat)) (List.drop ((Int.toNat (wr (s11.1 * (32 : Int)))) * (1 : Nat)) b)))))) = ((AV.i 2) :: (AV.i gen) :: (List.map AV.y (pad 32 (List.take (((List.length b) - (Int.toNat (wr (s11.1 * (32 : Int))))) * (1 : Nat)) (List.drop ((Int.toNat (wr (s11.1 * (32 : Int)))) * (1 : Nat)) b))))), ((34 : Nat) ≤ (List.length ((AV.i 2) :: (AV.i gen) :: (List.map AV.y (pad 32 (List.take (((List.length b) - (Int.toNat (wr (s11.1 * (32 : Int))))) * (1 : Nat)) (List.drop ((Int.toNat (wr (s11.1 * (32 : Int)))) * (1 : Nat)) b))))))), (List.take 34 ((AV.i 2) :: (AV.i gen) :: (List.map AV.y (pad 32 (List.take (((List.length b) - (Int.toNat (wr (s11.1 * (32 : Int))))) * (1 : Nat)) (List.drop ((Int.toNat (wr (s11.1 * (32 : Int)))) * (1 : Nat)) b)))))) = ((AV.i 2) :: (AV.i gen) :: (List.map AV.y (pad 32 (List.take (((List.length b) - (Int.toNat (wr (s11.1 * (32 : Int))))) * (1 : Nat)) (List.drop ((Int.toNat (wr (s11.1 * (32 : Int)))) * (1 : Nat)) b))))), (((0 : Int) ≤ (wr (lba + s11.1))) ∧ ((wr (lba + s11.1)) < (↑(List.length l) : Int))), (((List.length ((AV.i 2) :: (AV.i gen) :: (List.map AV.y (pad 32 (List.take (((List.length b) - (Int.toNat (wr (s11.1 * (32 : Int))))) * (1 : Nat)) (List.drop ((Int.toNat (wr (s11.1 * (32 : Int)))) * (1 : Nat)) b)))))) = (34 : Nat)) ∧ ((((0 : Nat) + ((Int.toNat (wr (lba + s11.1))) * (34 : Nat))) + (List.length ((AV.i 2) :: (AV.i gen) :: (List.map AV.y (pad 32 (List.take (((List.length b) - (Int.toNat (wr (s11.1 * (32 : Int))))) * (1 : Nat)) (List.drop ((Int.toNat (wr (s11.1 * (32 : Int)))) * (1 : Nat)) b))))))) ≤ (List.length (List.flatMap Ce.cells s11.2)))), (((List.take ((0 : Nat) + ((Int.toNat (wr (lba + s11.1))) * (34 : Nat))) (List.flatMap Ce.cells s11.2)) ++ ((AV.i 2) :: (AV.i gen) :: (List.map AV.y (pad 32 (List.take (((List.length b) - (Int.toNat (wr (s11.1 * (32 : Int))))) * (1 : Nat)) (List.drop ((Int.toNat (wr (s11.1 * (32 : Int)))) * (1 : Nat)) b)))))) ++ (List.drop (((0 : Nat) + ((Int.toNat (wr (lba + s11.1))) * (34 : Nat))) + (List.length ((AV.i 2) :: (AV.i gen) :: (List.map AV.y (pad 32 (List.take (((List.length b) - (Int.toNat (wr (s11.1 * (32 : Int))))) * (1 : Nat)) (List.drop ((Int.toNat (wr (s11.1 * (32 : Int)))) * (1 : Nat)) b))))))) (List.flatMap Ce.cells s11.2))) = (List.flatMap Ce.cells (List.set s11.2 (Int.toNat (wr (lba + s11.1))) (Ce.mk 2 gen (pad 32 (List.take (((List.length b) - (Int.toNat (wr (s11.1 * (32 : Int))))) * (1 : Nat)) (List.drop ((Int.toNat (wr (s11.1 * (32 : Int)))) * (1 : Nat)) b))))))]) kq ⟨h12, rfl, h13, h14, tq, (over_padC (a := [(AV.i 2), (AV.i gen)]) (x := (List.take (((List.length b) - (Int.toNat (wr (s11.1 * (32 : Int))))) * (1 : Nat)) (List.drop ((Int.toNat (wr (s11.1 * (32 : Int)))) * (1 : Nat)) b))) (n := 32) (by simp [List.replicate]) rfl tq), (ord_of ord_44_0 bef_44_0 kq), tq, (List.take_of_length_le tq), tq, (over_all tq), tq, (List.take_of_length_le tq), h15, h16, (by rw [show ((0 : Nat) + ((Int.toNat (wr (lba + s11.1))) * (34 : Nat))) = ((Int.toNat (wr (lba + s11.1)))) * 34 by omega]; exact ce_setE _ _ ((Ce.mk 2 gen (pad 32 (List.take (((List.length b) - (Int.toNat (wr (s11.1 * (32 : Int))))) * (1 : Nat)) (List.drop ((Int.toNat (wr (s11.1 * (32 : Int)))) * (1 : Nat)) b))))) bq tq), trivial⟩ (Nat.le_of_ble_eq_true rfl) (absB_of [] [] kq (.consn kq (.eqv tq rfl) (.consn kq (.eqv tq rfl) (.consn kq (.eqv tq rfl) (.consn kq (.eqv tq rfl) (.consn kq (.fn (.cons (.pt rfl) (.cons (.pt rfl) .nil))) (.consn kq .nl0 (.consn kq (.eqv tq rfl) (.consn kq (.eqv tq rfl) (.consn kq (.rf rfl) (.consn kq (.eqv tq rfl) (.consn kq (.eqv tq rfl) (.consn kq (.eqv tq rfl) .nil)))))))))))) (.cons (.old rfl rfl (.cells (.pl tq pq))) (.cons (.old rfl rfl (.cells (.cons (.eqv tq rfl) .nil))) (.cons (.old rfl rfl (.cells (.cons (.eqv tq rfl) .nil))) .nil))))
theorem iWrite_L0_ok (l : List Ce) (lba : Int) (gen : Int) (b : List UInt8) (s1 : Bool) (s2 : Bool) (s7 : Bool) (s9 : Bool) (s11 zz : Int × List Ce) : iWrite_L0_step l lba gen b s1 s2 s7 s9 s11 = some zz → EvStep Try.prog cf 3 (lp Try.prog 41 0) (iWrite_L0_S l lba gen b s1 s2 s7 s9 s11) (iWrite_L0_S l lba gen b s1 s2 s7 s9 zz) := by
  unfold iWrite_L0_step
  refine tb_ok (fun h12 => ?_) (fun h12 => ?_)
  ·
    have h12p := of_decide_eq_true h12
    refine tp_ok (fun h13 => ?_)
    refine tp_ok (fun h14 => ?_)
    refine tp_ok (fun h15 => ?_)
    refine tp_ok (fun h16 => ?_)
    exact fun e => tl_ok (G := (fun zz => EvStep Try.prog cf 3 (lp Try.prog 41 0) (iWrite_L0_S l lba gen b s1 s2 s7 s9 s11) (iWrite_L0_S l lba gen b s1 s2 s7 s9 zz))) (iWrite_L0_s0 l lba gen b s1 s2 s7 s9 s11 h12 h12p h13 h14 h15 h16) e
  ·
    have h12p := of_decide_eq_false h12
    exact fun e => nomatch e
/-- Function 23, as it answers. -/
noncomputable def iWrite (l : List Ce) (lba : Int) (gen : Int) (b : List UInt8) : Option (List Ce × Int) :=
 (tb (((wr ((wr (Int.tdiv (↑(List.length b) : Int) (32 : Int))) * (32 : Int))) == (↑(List.length b) : Int)))
  (tc (iWithin (gen) ((0 : Int)) ((2147483647 : Int))) fun s1 =>
   (tc (iCheck (l)) fun s2 =>
    (tb ((!s2))
     (some ((([] : List Ce), (90 : Int))))
     (tp (((List.length (List.flatMap Ce.cells l)) = ((List.length l) * (34 : Nat))))
      (tp (((List.length l) ≤ (4294967296 : Nat)))
       (tb ((!s1))
        (tp ((((0 : Nat) = (0 : Nat)) ∧ ((List.length (List.flatMap Ce.cells l)) = ((List.length l) * (34 : Nat)))))
         (some ((l, (81 : Int)))))
        (tc (iWithin (lba) ((0 : Int)) ((↑(List.length l) : Int))) fun s7 =>
         (tb ((!s7))
          (tp ((((0 : Nat) = (0 : Nat)) ∧ ((List.length (List.flatMap Ce.cells l)) = ((List.length l) * (34 : Nat)))))
           (some ((l, (81 : Int)))))
          (tc (iWithin ((wr (Int.tdiv (↑(List.length b) : Int) (32 : Int)))) ((1 : Int)) ((wr ((↑(List.length l) : Int) - lba)))) fun s9 =>
           (tb ((!s9))
            (tp ((((0 : Nat) = (0 : Nat)) ∧ ((List.length (List.flatMap Ce.cells l)) = ((List.length l) * (34 : Nat)))))
             (some ((l, (81 : Int)))))
            (th (iWrite_L0_step l lba gen b s1 s2 s7 s9) (((0 : Int), l)) fun s11 =>
             (tb ((decide (s11.1 < (wr (Int.tdiv (↑(List.length b) : Int) (32 : Int))))))
              none /- stop behind an operation -/
              (tp ((((0 : Nat) = (0 : Nat)) ∧ ((List.length (List.flatMap Ce.cells s11.2)) = ((List.length l) * (34 : Nat)))))
               (some ((s11.2, (0 : Int)))))))))))))))))
  (tc (iCheck (l)) fun s1 =>
   (tb ((!s1))
    (some ((([] : List Ce), (90 : Int))))
    (tp (((List.length (List.flatMap Ce.cells l)) = ((List.length l) * (34 : Nat))))
     (tp (((List.length l) ≤ (4294967296 : Nat)))
      (tp ((((0 : Nat) = (0 : Nat)) ∧ ((List.length (List.flatMap Ce.cells l)) = ((List.length l) * (34 : Nat)))))
       (some ((l, (81 : Int))))))))))
abbrev iWrite_G (l : List Ce) (lba : Int) (gen : Int) (b : List UInt8) (r : List Ce × Int) : Prop := EvFr Try.prog cf true 23 [ces (l), .i (lba), .i (gen), bys (b)] (.tu [ces (r.1), .i (r.2)])
theorem iWrite_l0 (l : List Ce) (lba : Int) (gen : Int) (b : List UInt8) (h0 : (((wr ((wr (Int.tdiv (↑(List.length b) : Int) (32 : Int))) * (32 : Int))) == (↑(List.length b) : Int))) = true) (h0p : ((wr ((wr (Int.tdiv (↑(List.length b) : Int) (32 : Int))) * (32 : Int))) = (↑(List.length b) : Int))) (s1 : Bool) (h1 : iWithin (gen) ((0 : Int)) ((2147483647 : Int)) = some s1) (s2 : Bool) (h2 : iCheck (l) = some s2) (h3 : ((!s2)) = true) : iWrite_G l lba gen b ((([] : List Ce), (90 : Int))) :=
  leafR vw_eq (k := 300) (r := []) (hs := hz [(19, [.yes]), (2, [.yes]), (1, [.fres (.b (s1)), .yes]), (6, [.fres (.b (s2))]), (1, [.yes]), (6, [])]) (raw := (AV.tu [(AV.sl 0 ([] : List AV)), (AV.i 90)])) (ps := [(((wr ((wr (Int.tdiv (↑(List.length b) : Int) (32 : Int))) * (32 : Int))) == (↑(List.length b) : Int))) = true, (((wr ((wr (Int.tdiv (↑(List.length b) : Int) (32 : Int))) * (32 : Int))) == (↑(List.length b) : Int))) = true, EvFr Try.prog cf Bool.false 36 [(AV.i gen), (AV.i 0), (AV.i 2147483647)] (.b (s1)), (((wr ((wr (Int.tdiv (↑(List.length b) : Int) (32 : Int))) * (32 : Int))) == (↑(List.length b) : Int))) = true, EvFr Try.prog cf Bool.false 17 [(AV.sl (List.length l) (List.flatMap Ce.cells l))] (.b (s2)), ((!s2)) = true]) kq ⟨h0, h0, ((iWithin_ok (gen) ((0 : Int)) ((2147483647 : Int)) _ h1).any.cast tq), h0, ((iCheck_ok (l) _ h2).any.cast tq), h3, trivial⟩ tq
theorem iWrite_l1 (l : List Ce) (lba : Int) (gen : Int) (b : List UInt8) (h0 : (((wr ((wr (Int.tdiv (↑(List.length b) : Int) (32 : Int))) * (32 : Int))) == (↑(List.length b) : Int))) = true) (h0p : ((wr ((wr (Int.tdiv (↑(List.length b) : Int) (32 : Int))) * (32 : Int))) = (↑(List.length b) : Int))) (s1 : Bool) (h1 : iWithin (gen) ((0 : Int)) ((2147483647 : Int)) = some s1) (s2 : Bool) (h2 : iCheck (l) = some s2) (h3 : ((!s2)) = false) (h4 : ((List.length (List.flatMap Ce.cells l)) = ((List.length l) * (34 : Nat)))) (h5 : ((List.length l) ≤ (4294967296 : Nat))) (h6 : ((!s1)) = true) (h7 : (((0 : Nat) = (0 : Nat)) ∧ ((List.length (List.flatMap Ce.cells l)) = ((List.length l) * (34 : Nat))))) : iWrite_G l lba gen b ((l, (81 : Int))) :=
  leafR vw_eq (k := 300) (r := []) (hs := hz [(19, [.yes]), (2, [.yes]), (1, [.fres (.b (s1)), .yes]), (6, [.fres (.b (s2))]), (1, [.no]), (2, [.yes, .yes]), (4, [.yes, .yes, .yes, .yes, .yes, .yes]), (17, [.yes, .yes])]) (raw := (AV.tu [(AV.sl (List.length l) (List.flatMap Ce.cells l)), (AV.i 81)])) (ps := [(((wr ((wr (Int.tdiv (↑(List.length b) : Int) (32 : Int))) * (32 : Int))) == (↑(List.length b) : Int))) = true, (((wr ((wr (Int.tdiv (↑(List.length b) : Int) (32 : Int))) * (32 : Int))) == (↑(List.length b) : Int))) = true, EvFr Try.prog cf Bool.false 36 [(AV.i gen), (AV.i 0), (AV.i 2147483647)] (.b (s1)), (((wr ((wr (Int.tdiv (↑(List.length b) : Int) (32 : Int))) * (32 : Int))) == (↑(List.length b) : Int))) = true, EvFr Try.prog cf Bool.false 17 [(AV.sl (List.length l) (List.flatMap Ce.cells l))] (.b (s2)), ((!s2)) = false, ((List.length (List.flatMap Ce.cells l)) = ((List.length l) * (34 : Nat))), ((List.length l) ≤ (4294967296 : Nat)), ((!s1)) = true, ((!s1)) = true, ((!s1)) = true, ((!s1)) = true, ((!s1)) = true, ((!s1)) = true, (((0 : Nat) = (0 : Nat)) ∧ ((List.length (List.flatMap Ce.cells l)) = ((List.length l) * (34 : Nat)))), Pl Bool.true ((List.flatMap Ce.cells l))]) kq ⟨h0, h0, ((iWithin_ok (gen) ((0 : Int)) ((2147483647 : Int)) _ h1).any.cast tq), h0, ((iCheck_ok (l) _ h2).any.cast tq), h3, h4, h5, h6, h6, h6, h6, h6, h6, h7, pq, trivial⟩ tq
theorem iWrite_l2 (l : List Ce) (lba : Int) (gen : Int) (b : List UInt8) (h0 : (((wr ((wr (Int.tdiv (↑(List.length b) : Int) (32 : Int))) * (32 : Int))) == (↑(List.length b) : Int))) = true) (h0p : ((wr ((wr (Int.tdiv (↑(List.length b) : Int) (32 : Int))) * (32 : Int))) = (↑(List.length b) : Int))) (s1 : Bool) (h1 : iWithin (gen) ((0 : Int)) ((2147483647 : Int)) = some s1) (s2 : Bool) (h2 : iCheck (l) = some s2) (h3 : ((!s2)) = false) (h4 : ((List.length (List.flatMap Ce.cells l)) = ((List.length l) * (34 : Nat)))) (h5 : ((List.length l) ≤ (4294967296 : Nat))) (h6 : ((!s1)) = false) (s7 : Bool) (h7 : iWithin (lba) ((0 : Int)) ((↑(List.length l) : Int)) = some s7) (h8 : ((!s7)) = true) (h9 : (((0 : Nat) = (0 : Nat)) ∧ ((List.length (List.flatMap Ce.cells l)) = ((List.length l) * (34 : Nat))))) : iWrite_G l lba gen b ((l, (81 : Int))) :=
  leafR vw_eq (k := 300) (r := []) (hs := hz [(19, [.yes]), (2, [.yes]), (1, [.fres (.b (s1)), .yes]), (6, [.fres (.b (s2))]), (1, [.no]), (2, [.yes, .yes]), (4, [.no]), (1, [.no]), (1, [.no]), (1, [.no]), (1, [.fres (.b (s7)), .no]), (1, [.no]), (1, [.yes, .yes, .yes, .yes, .yes, .yes, .yes, .yes]), (8, [.yes, .yes])]) (raw := (AV.tu [(AV.sl (List.length l) (List.flatMap Ce.cells l)), (AV.i 81)])) (ps := [(((wr ((wr (Int.tdiv (↑(List.length b) : Int) (32 : Int))) * (32 : Int))) == (↑(List.length b) : Int))) = true, (((wr ((wr (Int.tdiv (↑(List.length b) : Int) (32 : Int))) * (32 : Int))) == (↑(List.length b) : Int))) = true, EvFr Try.prog cf Bool.false 36 [(AV.i gen), (AV.i 0), (AV.i 2147483647)] (.b (s1)), (((wr ((wr (Int.tdiv (↑(List.length b) : Int) (32 : Int))) * (32 : Int))) == (↑(List.length b) : Int))) = true, EvFr Try.prog cf Bool.false 17 [(AV.sl (List.length l) (List.flatMap Ce.cells l))] (.b (s2)), ((!s2)) = false, ((List.length (List.flatMap Ce.cells l)) = ((List.length l) * (34 : Nat))), ((List.length l) ≤ (4294967296 : Nat)), ((!s1)) = false, ((!s1)) = false, ((!s1)) = false, ((!s1)) = false, EvFr Try.prog cf Bool.false 36 [(AV.i lba), (AV.i 0), (AV.i (↑(List.length l) : Int))] (.b (s7)), ((!s1)) = false, ((!s1)) = false, ((!s7)) = true, ((!s7)) = true, ((!s7)) = true, ((!s7)) = true, ((!s7)) = true, ((!s7)) = true, ((!s7)) = true, ((!s7)) = true, (((0 : Nat) = (0 : Nat)) ∧ ((List.length (List.flatMap Ce.cells l)) = ((List.length l) * (34 : Nat)))), Pl Bool.true ((List.flatMap Ce.cells l))]) kq ⟨h0, h0, ((iWithin_ok (gen) ((0 : Int)) ((2147483647 : Int)) _ h1).any.cast tq), h0, ((iCheck_ok (l) _ h2).any.cast tq), h3, h4, h5, h6, h6, h6, h6, ((iWithin_ok (lba) ((0 : Int)) ((↑(List.length l) : Int)) _ h7).any.cast tq), h6, h6, h8, h8, h8, h8, h8, h8, h8, h8, h9, pq, trivial⟩ tq
theorem iWrite_l3 (l : List Ce) (lba : Int) (gen : Int) (b : List UInt8) (h0 : (((wr ((wr (Int.tdiv (↑(List.length b) : Int) (32 : Int))) * (32 : Int))) == (↑(List.length b) : Int))) = true) (h0p : ((wr ((wr (Int.tdiv (↑(List.length b) : Int) (32 : Int))) * (32 : Int))) = (↑(List.length b) : Int))) (s1 : Bool) (h1 : iWithin (gen) ((0 : Int)) ((2147483647 : Int)) = some s1) (s2 : Bool) (h2 : iCheck (l) = some s2) (h3 : ((!s2)) = false) (h4 : ((List.length (List.flatMap Ce.cells l)) = ((List.length l) * (34 : Nat)))) (h5 : ((List.length l) ≤ (4294967296 : Nat))) (h6 : ((!s1)) = false) (s7 : Bool) (h7 : iWithin (lba) ((0 : Int)) ((↑(List.length l) : Int)) = some s7) (h8 : ((!s7)) = false) (s9 : Bool) (h9 : iWithin ((wr (Int.tdiv (↑(List.length b) : Int) (32 : Int)))) ((1 : Int)) ((wr ((↑(List.length l) : Int) - lba))) = some s9) (h10 : ((!s9)) = true) (h11 : (((0 : Nat) = (0 : Nat)) ∧ ((List.length (List.flatMap Ce.cells l)) = ((List.length l) * (34 : Nat))))) : iWrite_G l lba gen b ((l, (81 : Int))) :=
  leafR vw_eq (k := 300) (r := []) (hs := hz [(19, [.yes]), (2, [.yes]), (1, [.fres (.b (s1)), .yes]), (6, [.fres (.b (s2))]), (1, [.no]), (2, [.yes, .yes]), (4, [.no]), (1, [.no]), (1, [.no]), (1, [.no]), (1, [.fres (.b (s7)), .no]), (1, [.no]), (1, [.no]), (1, [.no]), (1, [.no]), (1, [.no]), (1, [.no]), (1, [.no]), (1, [.fres (.b (s9)), .no]), (1, [.no, .yes]), (7, [.yes, .yes])]) (raw := (AV.tu [(AV.sl (List.length l) (List.flatMap Ce.cells l)), (AV.i 81)])) (ps := [(((wr ((wr (Int.tdiv (↑(List.length b) : Int) (32 : Int))) * (32 : Int))) == (↑(List.length b) : Int))) = true, (((wr ((wr (Int.tdiv (↑(List.length b) : Int) (32 : Int))) * (32 : Int))) == (↑(List.length b) : Int))) = true, EvFr Try.prog cf Bool.false 36 [(AV.i gen), (AV.i 0), (AV.i 2147483647)] (.b (s1)), (((wr ((wr (Int.tdiv (↑(List.length b) : Int) (32 : Int))) * (32 : Int))) == (↑(List.length b) : Int))) = true, EvFr Try.prog cf Bool.false 17 [(AV.sl (List.length l) (List.flatMap Ce.cells l))] (.b (s2)), ((!s2)) = false, ((List.length (List.flatMap Ce.cells l)) = ((List.length l) * (34 : Nat))), ((List.length l) ≤ (4294967296 : Nat)), ((!s1)) = false, ((!s1)) = false, ((!s1)) = false, ((!s1)) = false, EvFr Try.prog cf Bool.false 36 [(AV.i lba), (AV.i 0), (AV.i (↑(List.length l) : Int))] (.b (s7)), ((!s1)) = false, ((!s1)) = false, ((!s7)) = false, ((!s7)) = false, ((!s7)) = false, ((!s7)) = false, ((!s7)) = false, ((!s7)) = false, EvFr Try.prog cf Bool.false 36 [(AV.i (wr (Int.tdiv (↑(List.length b) : Int) (32 : Int)))), (AV.i 1), (AV.i (wr ((↑(List.length l) : Int) - lba)))] (.b (s9)), ((!s7)) = false, ((!s7)) = false, ((!s9)) = true, (((0 : Nat) = (0 : Nat)) ∧ ((List.length (List.flatMap Ce.cells l)) = ((List.length l) * (34 : Nat)))), Pl Bool.true ((List.flatMap Ce.cells l))]) kq ⟨h0, h0, ((iWithin_ok (gen) ((0 : Int)) ((2147483647 : Int)) _ h1).any.cast tq), h0, ((iCheck_ok (l) _ h2).any.cast tq), h3, h4, h5, h6, h6, h6, h6, ((iWithin_ok (lba) ((0 : Int)) ((↑(List.length l) : Int)) _ h7).any.cast tq), h6, h6, h8, h8, h8, h8, h8, h8, ((iWithin_ok ((wr (Int.tdiv (↑(List.length b) : Int) (32 : Int)))) ((1 : Int)) ((wr ((↑(List.length l) : Int) - lba))) _ h9).any.cast tq), h8, h8, h10, h11, pq, trivial⟩ tq
theorem iWrite_l4 (l : List Ce) (lba : Int) (gen : Int) (b : List UInt8) (h0 : (((wr ((wr (Int.tdiv (↑(List.length b) : Int) (32 : Int))) * (32 : Int))) == (↑(List.length b) : Int))) = true) (h0p : ((wr ((wr (Int.tdiv (↑(List.length b) : Int) (32 : Int))) * (32 : Int))) = (↑(List.length b) : Int))) (s1 : Bool) (h1 : iWithin (gen) ((0 : Int)) ((2147483647 : Int)) = some s1) (s2 : Bool) (h2 : iCheck (l) = some s2) (h3 : ((!s2)) = false) (h4 : ((List.length (List.flatMap Ce.cells l)) = ((List.length l) * (34 : Nat)))) (h5 : ((List.length l) ≤ (4294967296 : Nat))) (h6 : ((!s1)) = false) (s7 : Bool) (h7 : iWithin (lba) ((0 : Int)) ((↑(List.length l) : Int)) = some s7) (h8 : ((!s7)) = false) (s9 : Bool) (h9 : iWithin ((wr (Int.tdiv (↑(List.length b) : Int) (32 : Int)))) ((1 : Int)) ((wr ((↑(List.length l) : Int) - lba))) = some s9) (h10 : ((!s9)) = false) (s11 : Int × List Ce) (h11 : Runs (iWrite_L0_step l lba gen b s1 s2 s7 s9) (((0 : Int), l)) s11) (h12 : ((decide (s11.1 < (wr (Int.tdiv (↑(List.length b) : Int) (32 : Int)))))) = false) (h12p : ¬ (s11.1 < (wr (Int.tdiv (↑(List.length b) : Int) (32 : Int))))) (h13 : (((0 : Nat) = (0 : Nat)) ∧ ((List.length (List.flatMap Ce.cells s11.2)) = ((List.length l) * (34 : Nat))))) : iWrite_G l lba gen b ((s11.2, (0 : Int))) :=
  leafR vw_eq (k := 300) (r := []) (hs := hz [(19, [.yes]), (2, [.yes]), (1, [.fres (.b (s1)), .yes]), (6, [.fres (.b (s2))]), (1, [.no]), (2, [.yes, .yes]), (4, [.no]), (1, [.no]), (1, [.no]), (1, [.no]), (1, [.fres (.b (s7)), .no]), (1, [.no]), (1, [.no]), (1, [.no]), (1, [.no]), (1, [.no]), (1, [.no]), (1, [.no]), (1, [.fres (.b (s9)), .no]), (1, [.no, .no]), (2, [.head (iWrite_L0_S l lba gen b s1 s2 s7 s9 s11)]), (1, [.no]), (7, [.yes, .yes])]) (raw := (AV.tu [(AV.sl (List.length l) (List.flatMap Ce.cells s11.2)), (AV.i 0)])) (ps := [(((wr ((wr (Int.tdiv (↑(List.length b) : Int) (32 : Int))) * (32 : Int))) == (↑(List.length b) : Int))) = true, (((wr ((wr (Int.tdiv (↑(List.length b) : Int) (32 : Int))) * (32 : Int))) == (↑(List.length b) : Int))) = true, EvFr Try.prog cf Bool.false 36 [(AV.i gen), (AV.i 0), (AV.i 2147483647)] (.b (s1)), (((wr ((wr (Int.tdiv (↑(List.length b) : Int) (32 : Int))) * (32 : Int))) == (↑(List.length b) : Int))) = true, EvFr Try.prog cf Bool.false 17 [(AV.sl (List.length l) (List.flatMap Ce.cells l))] (.b (s2)), ((!s2)) = false, ((List.length (List.flatMap Ce.cells l)) = ((List.length l) * (34 : Nat))), ((List.length l) ≤ (4294967296 : Nat)), ((!s1)) = false, ((!s1)) = false, ((!s1)) = false, ((!s1)) = false, EvFr Try.prog cf Bool.false 36 [(AV.i lba), (AV.i 0), (AV.i (↑(List.length l) : Int))] (.b (s7)), ((!s1)) = false, ((!s1)) = false, ((!s7)) = false, ((!s7)) = false, ((!s7)) = false, ((!s7)) = false, ((!s7)) = false, ((!s7)) = false, EvFr Try.prog cf Bool.false 36 [(AV.i (wr (Int.tdiv (↑(List.length b) : Int) (32 : Int)))), (AV.i 1), (AV.i (wr ((↑(List.length l) : Int) - lba)))] (.b (s9)), ((!s7)) = false, ((!s7)) = false, ((!s9)) = false, EvHead Try.prog cf (lp Try.prog 41 0) (iWrite_L0_I l lba gen b s1 s2 s7 s9) (iWrite_L0_S l lba gen b s1 s2 s7 s9 s11), ((decide (s11.1 < (wr (Int.tdiv (↑(List.length b) : Int) (32 : Int)))))) = false, (((0 : Nat) = (0 : Nat)) ∧ ((List.length (List.flatMap Ce.cells s11.2)) = ((List.length l) * (34 : Nat)))), Pl Bool.true ((List.flatMap Ce.cells s11.2))]) kq ⟨h0, h0, ((iWithin_ok (gen) ((0 : Int)) ((2147483647 : Int)) _ h1).any.cast tq), h0, ((iCheck_ok (l) _ h2).any.cast tq), h3, h4, h5, h6, h6, h6, h6, ((iWithin_ok (lba) ((0 : Int)) ((↑(List.length l) : Int)) _ h7).any.cast tq), h6, h6, h8, h8, h8, h8, h8, h8, ((iWithin_ok ((wr (Int.tdiv (↑(List.length b) : Int) (32 : Int)))) ((1 : Int)) ((wr ((↑(List.length l) : Int) - lba))) _ h9).any.cast tq), h8, h8, h10, (EvHead.of (iWrite_L0_ok l lba gen b s1 s2 s7 s9) (absB_of [] [] kq (.consn kq (.eqv tq rfl) (.consn kq (.eqv tq rfl) (.consn kq (.eqv tq rfl) (.consn kq (.eqv tq rfl) (.consn kq (.fn (.cons (.pt rfl) (.cons (.pt rfl) .nil))) (.consn kq .nl0 (.consn kq (.eqv tq rfl) (.consn kq (.eqv tq rfl) (.consn kq (.rf rfl) (.consn kq (.eqv tq rfl) (.consn kq (.eqv tq rfl) (.consn kq (.eqv tq rfl) .nil)))))))))))) (.cons (.old rfl rfl (.cells (.pl tq pq))) (.cons (.old rfl rfl (.cells (.cons (.eqv tq rfl) .nil))) (.cons (.old rfl rfl (.cells (.cons (.eqv tq rfl) .nil))) .nil)))) h11), h12, h13, pq, trivial⟩ tq
theorem iWrite_l5 (l : List Ce) (lba : Int) (gen : Int) (b : List UInt8) (h0 : (((wr ((wr (Int.tdiv (↑(List.length b) : Int) (32 : Int))) * (32 : Int))) == (↑(List.length b) : Int))) = false) (h0p : ¬ ((wr ((wr (Int.tdiv (↑(List.length b) : Int) (32 : Int))) * (32 : Int))) = (↑(List.length b) : Int))) (s1 : Bool) (h1 : iCheck (l) = some s1) (h2 : ((!s1)) = true) : iWrite_G l lba gen b ((([] : List Ce), (90 : Int))) :=
  leafR vw_eq (k := 300) (r := []) (hs := hz [(19, [.no, .no, .no]), (6, [.fres (.b (s1))]), (1, [.yes]), (6, [])]) (raw := (AV.tu [(AV.sl 0 ([] : List AV)), (AV.i 90)])) (ps := [(((wr ((wr (Int.tdiv (↑(List.length b) : Int) (32 : Int))) * (32 : Int))) == (↑(List.length b) : Int))) = false, (((wr ((wr (Int.tdiv (↑(List.length b) : Int) (32 : Int))) * (32 : Int))) == (↑(List.length b) : Int))) = false, (((wr ((wr (Int.tdiv (↑(List.length b) : Int) (32 : Int))) * (32 : Int))) == (↑(List.length b) : Int))) = false, EvFr Try.prog cf Bool.false 17 [(AV.sl (List.length l) (List.flatMap Ce.cells l))] (.b (s1)), ((!s1)) = true]) kq ⟨h0, h0, h0, ((iCheck_ok (l) _ h1).any.cast tq), h2, trivial⟩ tq
theorem iWrite_l6 (l : List Ce) (lba : Int) (gen : Int) (b : List UInt8) (h0 : (((wr ((wr (Int.tdiv (↑(List.length b) : Int) (32 : Int))) * (32 : Int))) == (↑(List.length b) : Int))) = false) (h0p : ¬ ((wr ((wr (Int.tdiv (↑(List.length b) : Int) (32 : Int))) * (32 : Int))) = (↑(List.length b) : Int))) (s1 : Bool) (h1 : iCheck (l) = some s1) (h2 : ((!s1)) = false) (h3 : ((List.length (List.flatMap Ce.cells l)) = ((List.length l) * (34 : Nat)))) (h4 : ((List.length l) ≤ (4294967296 : Nat))) (h5 : (((0 : Nat) = (0 : Nat)) ∧ ((List.length (List.flatMap Ce.cells l)) = ((List.length l) * (34 : Nat))))) : iWrite_G l lba gen b ((l, (81 : Int))) :=
  leafR vw_eq (k := 300) (r := []) (hs := hz [(19, [.no, .no, .no]), (6, [.fres (.b (s1))]), (1, [.no]), (2, [.yes, .yes]), (27, [.yes, .yes])]) (raw := (AV.tu [(AV.sl (List.length l) (List.flatMap Ce.cells l)), (AV.i 81)])) (ps := [(((wr ((wr (Int.tdiv (↑(List.length b) : Int) (32 : Int))) * (32 : Int))) == (↑(List.length b) : Int))) = false, (((wr ((wr (Int.tdiv (↑(List.length b) : Int) (32 : Int))) * (32 : Int))) == (↑(List.length b) : Int))) = false, (((wr ((wr (Int.tdiv (↑(List.length b) : Int) (32 : Int))) * (32 : Int))) == (↑(List.length b) : Int))) = false, EvFr Try.prog cf Bool.false 17 [(AV.sl (List.length l) (List.flatMap Ce.cells l))] (.b (s1)), ((!s1)) = false, ((List.length (List.flatMap Ce.cells l)) = ((List.length l) * (34 : Nat))), ((List.length l) ≤ (4294967296 : Nat)), (((0 : Nat) = (0 : Nat)) ∧ ((List.length (List.flatMap Ce.cells l)) = ((List.length l) * (34 : Nat)))), Pl Bool.true ((List.flatMap Ce.cells l))]) kq ⟨h0, h0, h0, ((iCheck_ok (l) _ h1).any.cast tq), h2, h3, h4, h5, pq, trivial⟩ tq
theorem iWrite_ok (l : List Ce) (lba : Int) (gen : Int) (b : List UInt8) (r : List Ce × Int) : iWrite l lba gen b = some r → iWrite_G l lba gen b r := by
  unfold iWrite
  refine tb_ok (fun h0 => ?_) (fun h0 => ?_)
  ·
    have h0p := eq_of_beq h0
    refine tc_ok (fun s1 h1 => ?_)
    refine tc_ok (fun s2 h2 => ?_)
    refine tb_ok (fun h3 => ?_) (fun h3 => ?_)
    ·
      exact fun e => tl_ok (G := iWrite_G l lba gen b) (iWrite_l0 l lba gen b h0 h0p s1 h1 s2 h2 h3) e
    ·
      refine tp_ok (fun h4 => ?_)
      refine tp_ok (fun h5 => ?_)
      refine tb_ok (fun h6 => ?_) (fun h6 => ?_)
      ·
        refine tp_ok (fun h7 => ?_)
        exact fun e => tl_ok (G := iWrite_G l lba gen b) (iWrite_l1 l lba gen b h0 h0p s1 h1 s2 h2 h3 h4 h5 h6 h7) e
      ·
        refine tc_ok (fun s7 h7 => ?_)
        refine tb_ok (fun h8 => ?_) (fun h8 => ?_)
        ·
          refine tp_ok (fun h9 => ?_)
          exact fun e => tl_ok (G := iWrite_G l lba gen b) (iWrite_l2 l lba gen b h0 h0p s1 h1 s2 h2 h3 h4 h5 h6 s7 h7 h8 h9) e
        ·
          refine tc_ok (fun s9 h9 => ?_)
          refine tb_ok (fun h10 => ?_) (fun h10 => ?_)
          ·
            refine tp_ok (fun h11 => ?_)
            exact fun e => tl_ok (G := iWrite_G l lba gen b) (iWrite_l3 l lba gen b h0 h0p s1 h1 s2 h2 h3 h4 h5 h6 s7 h7 h8 s9 h9 h10 h11) e
          ·
            refine th_ok (fun s11 h11 => ?_)
            refine tb_ok (fun h12 => ?_) (fun h12 => ?_)
            ·
              have h12p := of_decide_eq_true h12
              exact fun e => nomatch e
            ·
              have h12p := of_decide_eq_false h12
              refine tp_ok (fun h13 => ?_)
              exact fun e => tl_ok (G := iWrite_G l lba gen b) (iWrite_l4 l lba gen b h0 h0p s1 h1 s2 h2 h3 h4 h5 h6 s7 h7 h8 s9 h9 h10 s11 h11 h12 h12p h13) e
  ·
    have h0p := ne_of_beq_false h0
    refine tc_ok (fun s1 h1 => ?_)
    refine tb_ok (fun h2 => ?_) (fun h2 => ?_)
    ·
      exact fun e => tl_ok (G := iWrite_G l lba gen b) (iWrite_l5 l lba gen b h0 h0p s1 h1 h2) e
    ·
      refine tp_ok (fun h3 => ?_)
      refine tp_ok (fun h4 => ?_)
      refine tp_ok (fun h5 => ?_)
      exact fun e => tl_ok (G := iWrite_G l lba gen b) (iWrite_l6 l lba gen b h0 h0p s1 h1 h2 h3 h4 h5) e
noncomputable abbrev iAlike_L0_I (a : List Ce) (b : List Ce) : St := (St.mk [(0, (AV.sl (List.length a) (List.flatMap Ce.cells a))), (1, (AV.sl (List.length b) (List.flatMap Ce.cells b))), (2, (AV.fn (40 : Nat) ([] : List AV))), (6, (AV.b Bool.false)), (10, (AV.sl (List.length a) (List.flatMap Ce.cells a))), (11, (AV.i (↑(List.length a) : Int))), (12, (AV.sl (List.length b) (List.flatMap Ce.cells b))), (13, (AV.i (↑(List.length b) : Int))), (14, (AV.b ((↑(List.length a) : Int) != (↑(List.length b) : Int)))), (15, (AV.sl (List.length a) (List.flatMap Ce.cells a))), (16, (AV.i (↑(List.length a) : Int))), (17, (AV.i 0))] 32 (AH.mk 0 ([] : List (Prod Nat AObj))) Bool.false)
noncomputable abbrev iAlike_L0_S (a : List Ce) (b : List Ce) (s1 : Int) : St := (St.mk [(0, (AV.sl (List.length a) (List.flatMap Ce.cells a))), (1, (AV.sl (List.length b) (List.flatMap Ce.cells b))), (2, (AV.fn (40 : Nat) ([] : List AV))), (14, (AV.b ((↑(List.length a) : Int) != (↑(List.length b) : Int)))), (15, (AV.sl (List.length a) (List.flatMap Ce.cells a))), (16, (AV.i (↑(List.length a) : Int))), (17, (AV.i s1))] 32 (AH.mk 0 ([] : List (Prod Nat AObj))) Bool.false)
noncomputable def iAlike_L0_step (a : List Ce) (b : List Ce) (s1 : Int) : Option (Int) :=
 (tb ((decide (s1 < (↑(List.length a) : Int))))
  (tp ((((0 : Int) ≤ s1) ∧ (s1 < (↑(List.length a) : Int))))
   (tp ((((0 : Int) ≤ s1) ∧ (s1 < (↑(List.length b) : Int))))
    (tb ((!(((ceAt a (Int.toNat s1)).kind == (ceAt b (Int.toNat s1)).kind) && (((ceAt a (Int.toNat s1)).gen == (ceAt a (Int.toNat s1)).gen) && ((pad 32 (ceAt a (Int.toNat s1)).d) == (pad 32 (ceAt b (Int.toNat s1)).d))))))
     none /- exit -/
     (some ((wr (s1 + (1 : Int))))))))
  none /- exit -/)
theorem iAlike_L0_s0 (a : List Ce) (b : List Ce) (s1 : Int) (h2 : ((decide (s1 < (↑(List.length a) : Int)))) = true) (h2p : (s1 < (↑(List.length a) : Int))) (h3 : (((0 : Int) ≤ s1) ∧ (s1 < (↑(List.length a) : Int)))) (h4 : (((0 : Int) ≤ s1) ∧ (s1 < (↑(List.length b) : Int)))) (h5 : ((!(((ceAt a (Int.toNat s1)).kind == (ceAt b (Int.toNat s1)).kind) && (((ceAt a (Int.toNat s1)).gen == (ceAt a (Int.toNat s1)).gen) && ((pad 32 (ceAt a (Int.toNat s1)).d) == (pad 32 (ceAt b (Int.toNat s1)).d)))))) = false) : EvStep Try.prog cf 0 (lp Try.prog 39 0) (iAlike_L0_S a b s1) (iAlike_L0_S a b ((wr (s1 + (1 : Int))))) :=
  leafS vw_eq (k := 300) (r := []) (hs := hz [(1, [.yes]), (1, [.yes, .yes, .cells ((Ce.cells (ceAt a (Int.toNat s1))))]), (2, [.yes, .cells (((AV.i (ceAt a (Int.toNat s1)).kind) :: (AV.i (ceAt a (Int.toNat s1)).gen) :: (List.map AV.y (pad 32 (ceAt a (Int.toNat s1)).d))))]), (2, [.yes, .yes, .cells ((Ce.cells (ceAt b (Int.toNat s1))))]), (1, [.yes, .cells (((AV.i (ceAt b (Int.toNat s1)).kind) :: (AV.i (ceAt b (Int.toNat s1)).gen) :: (List.map AV.y (pad 32 (ceAt b (Int.toNat s1)).d))))]), (1, [.yes, .cells (((AV.i (ceAt a (Int.toNat s1)).kind) :: (AV.i (ceAt a (Int.toNat s1)).gen) :: (List.map AV.y (pad 32 (ceAt a (Int.toNat s1)).d)))), .yes, .cells (((AV.i (ceAt b (Int.toNat s1)).kind) :: (AV.i (ceAt b (Int.toNat s1)).gen) :: (List.map AV.y (pad 32 (ceAt b (Int.toNat s1)).d))))]), (9, [.cells (((AV.i (ceAt b (Int.toNat s1)).kind) :: (AV.i (ceAt a (Int.toNat s1)).gen) :: (List.map AV.y (pad 32 (ceAt b (Int.toNat s1)).d)))), .yes, .cells (((AV.i (ceAt a (Int.toNat s1)).kind) :: (AV.i (ceAt a (Int.toNat s1)).gen) :: (List.map AV.y (pad 32 (ceAt a (Int.toNat s1)).d)))), .yes, .cells (((AV.i (ceAt b (Int.toNat s1)).kind) :: (AV.i (ceAt a (Int.toNat s1)).gen) :: (List.map AV.y (pad 32 (ceAt b (Int.toNat s1)).d)))), .yes, .truth ((((ceAt a (Int.toNat s1)).kind == (ceAt b (Int.toNat s1)).kind) && (((ceAt a (Int.toNat s1)).gen == (ceAt a (Int.toNat s1)).gen) && ((pad 32 (ceAt a (Int.toNat s1)).d) == (pad 32 (ceAt b (Int.toNat s1)).d)))))]), (2, [.no]), (2, [])]) (st1 := (St.mk [(0, (AV.sl (List.length a) (List.flatMap Ce.cells a))), (1, (AV.sl (List.length b) (List.flatMap Ce.cells b))), (2, (AV.fn (40 : Nat) ([] : List AV))), (14, (AV.b ((↑(List.length a) : Int) != (↑(List.length b) : Int)))), (15, (AV.sl (List.length a) (List.flatMap Ce.cells a))), (16, (AV.i (↑(List.length a) : Int))), (17, (AV.i (wr (s1 + (1 : Int))))), (18, (AV.b (decide (s1 < (↑(List.length a) : Int))))), (19, (AV.i s1)), (20, (AV.ip (List.drop ((Int.toNat s1) * (34 : Nat)) (List.flatMap Ce.cells a)))), (21, (AV.ag (Ce.cells (ceAt a (Int.toNat s1))))), (8, (AV.pt 0 0)), (7, (AV.i s1)), (22, (AV.sl (List.length b) (List.flatMap Ce.cells b))), (23, (AV.i s1)), (24, (AV.ip (List.drop ((Int.toNat s1) * (34 : Nat)) (List.flatMap Ce.cells b)))), (25, (AV.ag (Ce.cells (ceAt b (Int.toNat s1))))), (9, (AV.pt 1 0)), (26, (AV.fn (40 : Nat) ([] : List AV))), (27, (AV.ag ((AV.i (ceAt a (Int.toNat s1)).kind) :: (AV.i (ceAt a (Int.toNat s1)).gen) :: (List.map AV.y (pad 32 (ceAt a (Int.toNat s1)).d))))), (28, (AV.ag ((AV.i (ceAt b (Int.toNat s1)).kind) :: (AV.i (ceAt b (Int.toNat s1)).gen) :: (List.map AV.y (pad 32 (ceAt b (Int.toNat s1)).d))))), (29, (AV.b (((ceAt a (Int.toNat s1)).kind == (ceAt b (Int.toNat s1)).kind) && (((ceAt a (Int.toNat s1)).gen == (ceAt a (Int.toNat s1)).gen) && ((pad 32 (ceAt a (Int.toNat s1)).d) == (pad 32 (ceAt b (Int.toNat s1)).d)))))), (30, (AV.b (!(((ceAt a (Int.toNat s1)).kind == (ceAt b (Int.toNat s1)).kind) && (((ceAt a (Int.toNat s1)).gen == (ceAt a (Int.toNat s1)).gen) && ((pad 32 (ceAt a (Int.toNat s1)).d) == (pad 32 (ceAt b (Int.toNat s1)).d))))))), (31, (AV.i (wr (s1 + (1 : Int)))))] 32 (AH.mk 4 [(3, (AObj.cells ((AV.i (ceAt b (Int.toNat s1)).kind) :: (AV.i (ceAt a (Int.toNat s1)).gen) :: (List.map AV.y (pad 32 (ceAt b (Int.toNat s1)).d))))), (2, (AObj.cells ((AV.i (ceAt a (Int.toNat s1)).kind) :: (AV.i (ceAt a (Int.toNat s1)).gen) :: (List.map AV.y (pad 32 (ceAt a (Int.toNat s1)).d))))), (1, (AObj.cells ((AV.i (ceAt b (Int.toNat s1)).kind) :: (AV.i (ceAt b (Int.toNat s1)).gen) :: (List.map AV.y (pad 32 (ceAt b (Int.toNat s1)).d))))), (0, (AObj.cells ((AV.i (ceAt a (Int.toNat s1)).kind) :: (AV.i (ceAt a (Int.toNat s1)).gen) :: (List.map AV.y (pad 32 (ceAt a (Int.toNat s1)).d)))))]) Bool.false)) (ps := [((decide (s1 < (↑(List.length a) : Int)))) = true, (((0 : Int) ≤ s1) ∧ (s1 < (↑(List.length a) : Int))), ((34 : Nat) ≤ (List.length (List.drop ((Int.toNat s1) * (34 : Nat)) (List.flatMap Ce.cells a)))), (List.take 34 (List.drop ((Int.toNat s1) * (34 : Nat)) (List.flatMap Ce.cells a))) = (Ce.cells (ceAt a (Int.toNat s1))), (((List.length ((AV.i (ceAt a (Int.toNat s1)).kind) :: (AV.i (ceAt a (Int.toNat s1)).gen) :: (List.map AV.y (pad 32 (ceAt a (Int.toNat s1)).d)))) = (34 : Nat)) ∧ (((0 : Nat) + (List.length ((AV.i (ceAt a (Int.toNat s1)).kind) :: (AV.i (ceAt a (Int.toNat s1)).gen) :: (List.map AV.y (pad 32 (ceAt a (Int.toNat s1)).d))))) ≤ (34 : Nat))), (over ((AV.i (Int.ofNat 0)) :: (AV.i (Int.ofNat 0)) :: List.replicate (32 : Nat) (AV.y (UInt8.ofNat (0 : Nat)))) 0 ((AV.i (ceAt a (Int.toNat s1)).kind) :: (AV.i (ceAt a (Int.toNat s1)).gen) :: (List.map AV.y (pad 32 (ceAt a (Int.toNat s1)).d)))) = ((AV.i (ceAt a (Int.toNat s1)).kind) :: (AV.i (ceAt a (Int.toNat s1)).gen) :: (List.map AV.y (pad 32 (ceAt a (Int.toNat s1)).d))), (((0 : Int) ≤ s1) ∧ (s1 < (↑(List.length b) : Int))), ((34 : Nat) ≤ (List.length (List.drop ((Int.toNat s1) * (34 : Nat)) (List.flatMap Ce.cells b)))), (List.take 34 (List.drop ((Int.toNat s1) * (34 : Nat)) (List.flatMap Ce.cells b))) = (Ce.cells (ceAt b (Int.toNat s1))), (((List.length ((AV.i (ceAt b (Int.toNat s1)).kind) :: (AV.i (ceAt b (Int.toNat s1)).gen) :: (List.map AV.y (pad 32 (ceAt b (Int.toNat s1)).d)))) = (34 : Nat)) ∧ (((0 : Nat) + (List.length ((AV.i (ceAt b (Int.toNat s1)).kind) :: (AV.i (ceAt b (Int.toNat s1)).gen) :: (List.map AV.y (pad 32 (ceAt b (Int.toNat s1)).d))))) ≤ (34 : Nat))), (over ((AV.i (Int.ofNat 0)) :: (AV.i (Int.ofNat 0)) :: List.replicate (32 : Nat) (AV.y (UInt8.ofNat (0 : Nat)))) 0 ((AV.i (ceAt b (Int.toNat s1)).kind) :: (AV.i (ceAt b (Int.toNat s1)).gen) :: (List.map AV.y (pad 32 (ceAt b (Int.toNat s1)).d)))) = ((AV.i (ceAt b (Int.toNat s1)).kind) :: (AV.i (ceAt b (Int.toNat s1)).gen) :: (List.map AV.y (pad 32 (ceAt b (Int.toNat s1)).d))), ((34 : Nat) ≤ (List.length ((AV.i (ceAt a (Int.toNat s1)).kind) :: (AV.i (ceAt a (Int.toNat s1)).gen) :: (List.map AV.y (pad 32 (ceAt a (Int.toNat s1)).d))))), (List.take 34 ((AV.i (ceAt a (Int.toNat s1)).kind) :: (AV.i (ceAt a (Int.toNat s1)).gen) :: (List.map AV.y (pad 32 (ceAt a (Int.toNat s1)).d)))) = ((AV.i (ceAt a (Int.toNat s1)).kind) :: (AV.i (ceAt a (Int.toNat s1)).gen) :: (List.map AV.y (pad 32 (ceAt a (Int.toNat s1)).d))), ((34 : Nat) ≤ (List.length ((AV.i (ceAt b (Int.toNat s1)).kind) :: (AV.i (ceAt b (Int.toNat s1)).gen) :: (List.map AV.y (pad 32 (ceAt b (Int.toNat s1)).d))))), (List.take 34 ((AV.i (ceAt b (Int.toNat s1)).kind) :: (AV.i (ceAt b (Int.toNat s1)).gen) :: (List.map AV.y (pad 32 (ceAt b (Int.toNat s1)).d)))) = ((AV.i (ceAt b (Int.toNat s1)).kind) :: (AV.i (ceAt b (Int.toNat s1)).gen) :: (List.map AV.y (pad 32 (ceAt b (Int.toNat s1)).d))), (over ((AV.i (ceAt b (Int.toNat s1)).kind) :: (AV.i (ceAt b (Int.toNat s1)).gen) :: (List.map AV.y (pad 32 (ceAt b (Int.toNat s1)).d))) 1 [(AV.i (ceAt a (Int.toNat s1)).gen)]) = ((AV.i (ceAt b (Int.toNat s1)).kind) :: (AV.i (ceAt a (Int.toNat s1)).gen) :: (List.map AV.y (pad 32 (ceAt b (Int.toNat s1)).d))), ((34 : Nat) ≤ (List.length ((AV.i (ceAt a (Int.toNat s1)).kind) :: (AV.i (ceAt a (Int.toNat s1)).gen) :: (List.map AV.y (pad 32 (ceAt a (Int.toNat s1)).d))))), (List.take 34 ((AV.i (ceAt a (Int.toNat s1)).kind) :: (AV.i (ceAt a (Int.toNat s1)).gen) :: (List.map AV.y (pad 32 (ceAt a (Int.toNat s1)).d)))) = ((AV.i (ceAt a (Int.toNat s1)).kind) :: (AV.i (ceAt a (Int.toNat s1)).gen) :: (List.map AV.y (pad 32 (ceAt a (Int.toNat s1)).d))), ((34 : Nat) ≤ (List.length ((AV.i (ceAt b (Int.toNat s1)).kind) :: (AV.i (ceAt a (Int.toNat s1)).gen) :: (List.map AV.y (pad 32 (ceAt b (Int.toNat s1)).d))))), (List.take 34 ((AV.i (ceAt b (Int.toNat s1)).kind) :: (AV.i (ceAt a (Int.toNat s1)).gen) :: (List.map AV.y (pad 32 (ceAt b (Int.toNat s1)).d)))) = ((AV.i (ceAt b (Int.toNat s1)).kind) :: (AV.i (ceAt a (Int.toNat s1)).gen) :: (List.map AV.y (pad 32 (ceAt b (Int.toNat s1)).d))), (((List.length ((AV.i (ceAt a (Int.toNat s1)).kind) :: (AV.i (ceAt a (Int.toNat s1)).gen) :: (List.map AV.y (pad 32 (ceAt a (Int.toNat s1)).d)))) = (34 : Nat)) ∧ ((List.length ((AV.i (ceAt b (Int.toNat s1)).kind) :: (AV.i (ceAt a (Int.toNat s1)).gen) :: (List.map AV.y (pad 32 (ceAt b (Int.toNat s1)).d)))) = (34 : Nat))), eqCells (((AV.i (ceAt a (Int.toNat s1)).kind) :: (AV.i (ceAt a (Int.toNat s1)).gen) :: (List.map AV.y (pad 32 (ceAt a (Int.toNat s1)).d)))) (((AV.i (ceAt b (Int.toNat s1)).kind) :: (AV.i (ceAt a (Int.toNat s1)).gen) :: (List.map AV.y (pad 32 (ceAt b (Int.toNat s1)).d)))) = some ((((ceAt a (Int.toNat s1)).kind == (ceAt b (Int.toNat s1)).kind) && (((ceAt a (Int.toNat s1)).gen == (ceAt a (Int.toNat s1)).gen) && ((pad 32 (ceAt a (Int.toNat s1)).d) == (pad 32 (ceAt b (Int.toNat s1)).d))))), ((!(((ceAt a (Int.toNat s1)).kind == (ceAt b (Int.toNat s1)).kind) && (((ceAt a (Int.toNat s1)).gen == (ceAt a (Int.toNat s1)).gen) && ((pad 32 (ceAt a (Int.toNat s1)).d) == (pad 32 (ceAt b (Int.toNat s1)).d)))))) = false]) kq ⟨h2, h3, fq, (by first | exact ce_take _ _ bq | (simpa using ce_take _ _ bq) | ((try simp only [List.drop_drop]); rw [show ((Int.toNat s1) * (34 : Nat)) = ((Int.toNat s1)) * 34 by omega]; exact ce_take _ _ bq)), tq, (over_all tq), h4, fq, (by first | exact ce_take _ _ bq | (simpa using ce_take _ _ bq) | ((try simp only [List.drop_drop]); rw [show ((Int.toNat s1) * (34 : Nat)) = ((Int.toNat s1)) * 34 by omega]; exact ce_take _ _ bq)), tq, (over_all tq), tq, (List.take_of_length_le tq), tq, (List.take_of_length_le tq), rfl, tq, (List.take_of_length_le tq), tq, (List.take_of_length_le tq), tq, (eqCells_ci (eqCells_ci (eqCells_of tq tq tq))), h5, trivial⟩ (Nat.le_of_ble_eq_true rfl) (absB_of [] [] kq (.consn kq (.eqv tq rfl) (.consn kq (.eqv tq rfl) (.consn kq (.fn .nil) (.consn kq (.eqv tq rfl) (.consn kq (.eqv tq rfl) (.consn kq (.eqv tq rfl) (.consn kq (.eqv tq rfl) .nil))))))) .nil)
theorem iAlike_L0_ok (a : List Ce) (b : List Ce) (s1 zz : Int) : iAlike_L0_step a b s1 = some zz → EvStep Try.prog cf 0 (lp Try.prog 39 0) (iAlike_L0_S a b s1) (iAlike_L0_S a b zz) := by
  unfold iAlike_L0_step
  refine tb_ok (fun h2 => ?_) (fun h2 => ?_)
  ·
    have h2p := of_decide_eq_true h2
    refine tp_ok (fun h3 => ?_)
    refine tp_ok (fun h4 => ?_)
    refine tb_ok (fun h5 => ?_) (fun h5 => ?_)
    ·
      exact fun e => nomatch e
    ·
      exact fun e => tl_ok (G := (fun zz => EvStep Try.prog cf 0 (lp Try.prog 39 0) (iAlike_L0_S a b s1) (iAlike_L0_S a b zz))) (iAlike_L0_s0 a b s1 h2 h2p h3 h4 h5) e
  ·
    have h2p := of_decide_eq_false h2
    exact fun e => nomatch e
/-- Function 19, as it answers. -/
noncomputable def iAlike (a : List Ce) (b : List Ce) : Option (Bool) :=
 (tb (((↑(List.length a) : Int) != (↑(List.length b) : Int)))
  (some (Bool.false))
  (th (iAlike_L0_step a b) ((0 : Int)) fun s1 =>
   (tb ((decide (s1 < (↑(List.length a) : Int))))
    (tp ((((0 : Int) ≤ s1) ∧ (s1 < (↑(List.length a) : Int))))
     (tb ((!(((ceAt a (Int.toNat s1)).kind == (ceAt b (Int.toNat s1)).kind) && (((ceAt a (Int.toNat s1)).gen == (ceAt a (Int.toNat s1)).gen) && ((pad 32 (ceAt a (Int.toNat s1)).d) == (pad 32 (ceAt b (Int.toNat s1)).d))))))
      (some (Bool.false))
      none /- stop behind an operation -/))
    (some (Bool.true)))))
abbrev iAlike_G (a : List Ce) (b : List Ce) (r : Bool) : Prop := EvFr Try.prog cf true 19 [ces (a), ces (b)] (.b (r))
theorem iAlike_l0 (a : List Ce) (b : List Ce) (h0 : (((↑(List.length a) : Int) != (↑(List.length b) : Int))) = true) (h0p : ¬ ((↑(List.length a) : Int) = (↑(List.length b) : Int))) : iAlike_G a b (Bool.false) :=
  leafR vw_eq (k := 300) (r := []) (hs := hz [(10, [.yes]), (2, [])]) (raw := (AV.b Bool.false)) (ps := [(((↑(List.length a) : Int) != (↑(List.length b) : Int))) = true]) kq ⟨h0, trivial⟩ tq
theorem iAlike_l1 (a : List Ce) (b : List Ce) (h0 : (((↑(List.length a) : Int) != (↑(List.length b) : Int))) = false) (h0p : ((↑(List.length a) : Int) = (↑(List.length b) : Int))) (s1 : Int) (h1 : Runs (iAlike_L0_step a b) ((0 : Int)) s1) (h2 : ((decide (s1 < (↑(List.length a) : Int)))) = true) (h2p : (s1 < (↑(List.length a) : Int))) (h3 : (((0 : Int) ≤ s1) ∧ (s1 < (↑(List.length a) : Int)))) (h4 : ((!(((ceAt a (Int.toNat s1)).kind == (ceAt b (Int.toNat s1)).kind) && (((ceAt a (Int.toNat s1)).gen == (ceAt a (Int.toNat s1)).gen) && ((pad 32 (ceAt a (Int.toNat s1)).d) == (pad 32 (ceAt b (Int.toNat s1)).d)))))) = true) : iAlike_G a b (Bool.false) :=
  leafR vw_eq (k := 300) (r := []) (hs := hz [(10, [.no]), (3, [.head (iAlike_L0_S a b s1)]), (1, [.yes]), (1, [.yes, .yes, .cells ((Ce.cells (ceAt a (Int.toNat s1))))]), (2, [.yes, .cells (((AV.i (ceAt a (Int.toNat s1)).kind) :: (AV.i (ceAt a (Int.toNat s1)).gen) :: (List.map AV.y (pad 32 (ceAt a (Int.toNat s1)).d))))]), (2, [.yes, .yes, .cells ((Ce.cells (ceAt b (Int.toNat s1))))]), (1, [.yes, .cells (((AV.i (ceAt b (Int.toNat s1)).kind) :: (AV.i (ceAt b (Int.toNat s1)).gen) :: (List.map AV.y (pad 32 (ceAt b (Int.toNat s1)).d))))]), (1, [.yes, .cells (((AV.i (ceAt a (Int.toNat s1)).kind) :: (AV.i (ceAt a (Int.toNat s1)).gen) :: (List.map AV.y (pad 32 (ceAt a (Int.toNat s1)).d)))), .yes, .cells (((AV.i (ceAt b (Int.toNat s1)).kind) :: (AV.i (ceAt b (Int.toNat s1)).gen) :: (List.map AV.y (pad 32 (ceAt b (Int.toNat s1)).d))))]), (9, [.cells (((AV.i (ceAt b (Int.toNat s1)).kind) :: (AV.i (ceAt a (Int.toNat s1)).gen) :: (List.map AV.y (pad 32 (ceAt b (Int.toNat s1)).d)))), .yes, .cells (((AV.i (ceAt a (Int.toNat s1)).kind) :: (AV.i (ceAt a (Int.toNat s1)).gen) :: (List.map AV.y (pad 32 (ceAt a (Int.toNat s1)).d)))), .yes, .cells (((AV.i (ceAt b (Int.toNat s1)).kind) :: (AV.i (ceAt a (Int.toNat s1)).gen) :: (List.map AV.y (pad 32 (ceAt b (Int.toNat s1)).d)))), .yes, .truth ((((ceAt a (Int.toNat s1)).kind == (ceAt b (Int.toNat s1)).kind) && (((ceAt a (Int.toNat s1)).gen == (ceAt a (Int.toNat s1)).gen) && ((pad 32 (ceAt a (Int.toNat s1)).d) == (pad 32 (ceAt b (Int.toNat s1)).d)))))]), (2, [.yes]), (2, [])]) (raw := (AV.b Bool.false)) (ps := [(((↑(List.length a) : Int) != (↑(List.length b) : Int))) = false, EvHead Try.prog cf (lp Try.prog 39 0) (iAlike_L0_I a b) (iAlike_L0_S a b s1), ((decide (s1 < (↑(List.length a) : Int)))) = true, (((0 : Int) ≤ s1) ∧ (s1 < (↑(List.length a) : Int))), ((34 : Nat) ≤ (List.length (List.drop ((Int.toNat s1) * (34 : Nat)) (List.flatMap Ce.cells a)))), (List.take 34 (List.drop ((Int.toNat s1) * (34 : Nat)) (List.flatMap Ce.cells a))) = (Ce.cells (ceAt a (Int.toNat s1))), (((List.length ((AV.i (ceAt a (Int.toNat s1)).kind) :: (AV.i (ceAt a (Int.toNat s1)).gen) :: (List.map AV.y (pad 32 (ceAt a (Int.toNat s1)).d)))) = (34 : Nat)) ∧ (((0 : Nat) + (List.length ((AV.i (ceAt a (Int.toNat s1)).kind) :: (AV.i (ceAt a (Int.toNat s1)).gen) :: (List.map AV.y (pad 32 (ceAt a (Int.toNat s1)).d))))) ≤ (34 : Nat))), (over ((AV.i (Int.ofNat 0)) :: (AV.i (Int.ofNat 0)) :: List.replicate (32 : Nat) (AV.y (UInt8.ofNat (0 : Nat)))) 0 ((AV.i (ceAt a (Int.toNat s1)).kind) :: (AV.i (ceAt a (Int.toNat s1)).gen) :: (List.map AV.y (pad 32 (ceAt a (Int.toNat s1)).d)))) = ((AV.i (ceAt a (Int.toNat s1)).kind) :: (AV.i (ceAt a (Int.toNat s1)).gen) :: (List.map AV.y (pad 32 (ceAt a (Int.toNat s1)).d))), (((0 : Int) ≤ s1) ∧ (s1 < (↑(List.length b) : Int))), ((34 : Nat) ≤ (List.length (List.drop ((Int.toNat s1) * (34 : Nat)) (List.flatMap Ce.cells b)))), (List.take 34 (List.drop ((Int.toNat s1) * (34 : Nat)) (List.flatMap Ce.cells b))) = (Ce.cells (ceAt b (Int.toNat s1))), (((List.length ((AV.i (ceAt b (Int.toNat s1)).kind) :: (AV.i (ceAt b (Int.toNat s1)).gen) :: (List.map AV.y (pad 32 (ceAt b (Int.toNat s1)).d)))) = (34 : Nat)) ∧ (((0 : Nat) + (List.length ((AV.i (ceAt b (Int.toNat s1)).kind) :: (AV.i (ceAt b (Int.toNat s1)).gen) :: (List.map AV.y (pad 32 (ceAt b (Int.toNat s1)).d))))) ≤ (34 : Nat))), (over ((AV.i (Int.ofNat 0)) :: (AV.i (Int.ofNat 0)) :: List.replicate (32 : Nat) (AV.y (UInt8.ofNat (0 : Nat)))) 0 ((AV.i (ceAt b (Int.toNat s1)).kind) :: (AV.i (ceAt b (Int.toNat s1)).gen) :: (List.map AV.y (pad 32 (ceAt b (Int.toNat s1)).d)))) = ((AV.i (ceAt b (Int.toNat s1)).kind) :: (AV.i (ceAt b (Int.toNat s1)).gen) :: (List.map AV.y (pad 32 (ceAt b (Int.toNat s1)).d))), ((34 : Nat) ≤ (List.length ((AV.i (ceAt a (Int.toNat s1)).kind) :: (AV.i (ceAt a (Int.toNat s1)).gen) :: (List.map AV.y (pad 32 (ceAt a (Int.toNat s1)).d))))), (List.take 34 ((AV.i (ceAt a (Int.toNat s1)).kind) :: (AV.i (ceAt a (Int.toNat s1)).gen) :: (List.map AV.y (pad 32 (ceAt a (Int.toNat s1)).d)))) = ((AV.i (ceAt a (Int.toNat s1)).kind) :: (AV.i (ceAt a (Int.toNat s1)).gen) :: (List.map AV.y (pad 32 (ceAt a (Int.toNat s1)).d))), ((34 : Nat) ≤ (List.length ((AV.i (ceAt b (Int.toNat s1)).kind) :: (AV.i (ceAt b (Int.toNat s1)).gen) :: (List.map AV.y (pad 32 (ceAt b (Int.toNat s1)).d))))), (List.take 34 ((AV.i (ceAt b (Int.toNat s1)).kind) :: (AV.i (ceAt b (Int.toNat s1)).gen) :: (List.map AV.y (pad 32 (ceAt b (Int.toNat s1)).d)))) = ((AV.i (ceAt b (Int.toNat s1)).kind) :: (AV.i (ceAt b (Int.toNat s1)).gen) :: (List.map AV.y (pad 32 (ceAt b (Int.toNat s1)).d))), (over ((AV.i (ceAt b (Int.toNat s1)).kind) :: (AV.i (ceAt b (Int.toNat s1)).gen) :: (List.map AV.y (pad 32 (ceAt b (Int.toNat s1)).d))) 1 [(AV.i (ceAt a (Int.toNat s1)).gen)]) = ((AV.i (ceAt b (Int.toNat s1)).kind) :: (AV.i (ceAt a (Int.toNat s1)).gen) :: (List.map AV.y (pad 32 (ceAt b (Int.toNat s1)).d))), ((34 : Nat) ≤ (List.length ((AV.i (ceAt a (Int.toNat s1)).kind) :: (AV.i (ceAt a (Int.toNat s1)).gen) :: (List.map AV.y (pad 32 (ceAt a (Int.toNat s1)).d))))), (List.take 34 ((AV.i (ceAt a (Int.toNat s1)).kind) :: (AV.i (ceAt a (Int.toNat s1)).gen) :: (List.map AV.y (pad 32 (ceAt a (Int.toNat s1)).d)))) = ((AV.i (ceAt a (Int.toNat s1)).kind) :: (AV.i (ceAt a (Int.toNat s1)).gen) :: (List.map AV.y (pad 32 (ceAt a (Int.toNat s1)).d))), ((34 : Nat) ≤ (List.length ((AV.i (ceAt b (Int.toNat s1)).kind) :: (AV.i (ceAt a (Int.toNat s1)).gen) :: (List.map AV.y (pad 32 (ceAt b (Int.toNat s1)).d))))), (List.take 34 ((AV.i (ceAt b (Int.toNat s1)).kind) :: (AV.i (ceAt a (Int.toNat s1)).gen) :: (List.map AV.y (pad 32 (ceAt b (Int.toNat s1)).d)))) = ((AV.i (ceAt b (Int.toNat s1)).kind) :: (AV.i (ceAt a (Int.toNat s1)).gen) :: (List.map AV.y (pad 32 (ceAt b (Int.toNat s1)).d))), (((List.length ((AV.i (ceAt a (Int.toNat s1)).kind) :: (AV.i (ceAt a (Int.toNat s1)).gen) :: (List.map AV.y (pad 32 (ceAt a (Int.toNat s1)).d)))) = (34 : Nat)) ∧ ((List.length ((AV.i (ceAt b (Int.toNat s1)).kind) :: (AV.i (ceAt a (Int.toNat s1)).gen) :: (List.map AV.y (pad 32 (ceAt b (Int.toNat s1)).d)))) = (34 : Nat))), eqCells (((AV.i (ceAt a (Int.toNat s1)).kind) :: (AV.i (ceAt a (Int.toNat s1)).gen) :: (List.map AV.y (pad 32 (ceAt a (Int.toNat s1)).d)))) (((AV.i (ceAt b (Int.toNat s1)).kind) :: (AV.i (ceAt a (Int.toNat s1)).gen) :: (List.map AV.y (pad 32 (ceAt b (Int.toNat s1)).d)))) = some ((((ceAt a (Int.toNat s1)).kind == (ceAt b (Int.toNat s1)).kind) && (((ceAt a (Int.toNat s1)).gen == (ceAt a (Int.toNat s1)).gen) && ((pad 32 (ceAt a (Int.toNat s1)).d) == (pad 32 (ceAt b (Int.toNat s1)).d))))), ((!(((ceAt a (Int.toNat s1)).kind == (ceAt b (Int.toNat s1)).kind) && (((ceAt a (Int.toNat s1)).gen == (ceAt a (Int.toNat s1)).gen) && ((pad 32 (ceAt a (Int.toNat s1)).d) == (pad 32 (ceAt b (Int.toNat s1)).d)))))) = true]) kq ⟨h0, (EvHead.of (iAlike_L0_ok a b) (absB_of [] [] kq (.consn kq (.eqv tq rfl) (.consn kq (.eqv tq rfl) (.consn kq (.fn .nil) (.consn kq (.eqv tq rfl) (.consn kq (.eqv tq rfl) (.consn kq (.eqv tq rfl) (.consn kq (.eqv tq rfl) .nil))))))) .nil) h1), h2, h3, fq, (by first | exact ce_take _ _ bq | (simpa using ce_take _ _ bq) | ((try simp only [List.drop_drop]); rw [show ((Int.toNat s1) * (34 : Nat)) = ((Int.toNat s1)) * 34 by omega]; exact ce_take _ _ bq)), tq, (over_all tq), fq, fq, (by first | exact ce_take _ _ bq | (simpa using ce_take _ _ bq) | ((try simp only [List.drop_drop]); rw [show ((Int.toNat s1) * (34 : Nat)) = ((Int.toNat s1)) * 34 by omega]; exact ce_take _ _ bq)), tq, (over_all tq), tq, (List.take_of_length_le tq), tq, (List.take_of_length_le tq), rfl, tq, (List.take_of_length_le tq), tq, (List.take_of_length_le tq), tq, (eqCells_ci (eqCells_ci (eqCells_of tq tq tq))), h4, trivial⟩ tq
theorem iAlike_l2 (a : List Ce) (b : List Ce) (h0 : (((↑(List.length a) : Int) != (↑(List.length b) : Int))) = false) (h0p : ((↑(List.length a) : Int) = (↑(List.length b) : Int))) (s1 : Int) (h1 : Runs (iAlike_L0_step a b) ((0 : Int)) s1) (h2 : ((decide (s1 < (↑(List.length a) : Int)))) = false) (h2p : ¬ (s1 < (↑(List.length a) : Int))) : iAlike_G a b (Bool.true) :=
  leafR vw_eq (k := 300) (r := []) (hs := hz [(10, [.no]), (3, [.head (iAlike_L0_S a b s1)]), (1, [.no]), (2, [])]) (raw := (AV.b Bool.true)) (ps := [(((↑(List.length a) : Int) != (↑(List.length b) : Int))) = false, EvHead Try.prog cf (lp Try.prog 39 0) (iAlike_L0_I a b) (iAlike_L0_S a b s1), ((decide (s1 < (↑(List.length a) : Int)))) = false]) kq ⟨h0, (EvHead.of (iAlike_L0_ok a b) (absB_of [] [] kq (.consn kq (.eqv tq rfl) (.consn kq (.eqv tq rfl) (.consn kq (.fn .nil) (.consn kq (.eqv tq rfl) (.consn kq (.eqv tq rfl) (.consn kq (.eqv tq rfl) (.consn kq (.eqv tq rfl) .nil))))))) .nil) h1), h2, trivial⟩ tq
theorem iAlike_ok (a : List Ce) (b : List Ce) (r : Bool) : iAlike a b = some r → iAlike_G a b r := by
  unfold iAlike
  refine tb_ok (fun h0 => ?_) (fun h0 => ?_)
  ·
    have h0p := bne_iff_ne.1 h0
    exact fun e => tl_ok (G := iAlike_G a b) (iAlike_l0 a b h0 h0p) e
  ·
    have h0p := bne_eq_false_iff_eq.1 h0
    refine th_ok (fun s1 h1 => ?_)
    refine tb_ok (fun h2 => ?_) (fun h2 => ?_)
    ·
      have h2p := of_decide_eq_true h2
      refine tp_ok (fun h3 => ?_)
      refine tb_ok (fun h4 => ?_) (fun h4 => ?_)
      ·
        exact fun e => tl_ok (G := iAlike_G a b) (iAlike_l1 a b h0 h0p s1 h1 h2 h2p h3 h4) e
      ·
        exact fun e => nomatch e
    ·
      have h2p := of_decide_eq_false h2
      exact fun e => tl_ok (G := iAlike_G a b) (iAlike_l2 a b h0 h0p s1 h1 h2 h2p) e
end Ab
end Go.Proofs.Ytadipihpgcelmaa
namespace Go.Proofs.Ytadipihpgcelmaa
open Go Go.Proofs.Ytadipihpgcelmaa.Ab
set_option linter.unusedVariables false
set_option linter.unusedSimpArgs false
namespace Ab
/-- Blocks of which some, one behind the other, are others. -/
def putN (l : List Ce) (s : Nat) (f : Nat → Ce) : Nat → List Ce
  | 0 => l
  | i + 1 => (putN l s f i).set (s + i) (f i)
theorem putN_len (l : List Ce) (s : Nat) (f : Nat → Ce) : ∀ i, (putN l s f i).length = l.length
  | 0 => rfl
  | i + 1 => by rw [putN, List.length_set, putN_len l s f i]
theorem putN_get (l : List Ce) (s : Nat) (f : Nat → Ce) : ∀ n, s + n ≤ l.length → ∀ j, (putN l s f n)[j]? = if s ≤ j ∧ j < s + n then some (f (j - s)) else l[j]?
  | 0, _, j => by rw [putN, if_neg (by omega)]
  | n + 1, h, j => by
    rw [putN, List.getElem?_set, putN_get l s f n (by omega) j, putN_len]
    by_cases h1 : s + n = j
    · subst h1
      rw [if_pos rfl, if_pos (by omega), if_pos (by omega)]
      congr 2; omega
    · rw [if_neg h1]
      by_cases h2 : s ≤ j ∧ j < s + n
      · rw [if_pos h2, if_pos (by omega)]
      · rw [if_neg h2, if_neg (by omega)]
theorem putN_at (l : List Ce) (s : Nat) (f : Nat → Ce) (n : Nat) (h : s + n ≤ l.length) (j : Nat) : ceAt (putN l s f n) j = if s ≤ j ∧ j < s + n then f (j - s) else ceAt l j := by
  unfold ceAt
  rw [List.getD_eq_getElem?_getD, putN_get l s f n h j]
  split
  · rfl
  · rw [List.getD_eq_getElem?_getD]
theorem putN_mem {l : List Ce} {s : Nat} {f : Nat → Ce} {n : Nat} (P : Ce → Prop) (hl : ∀ c ∈ l, P c) (hf : ∀ i, i < n → P (f i)) (h : s + n ≤ l.length) : ∀ c ∈ putN l s f n, P c := by
  refine (ceAt_all _ P).1 fun i hi => ?_
  rw [putN_len] at hi
  rw [putN_at l s f n h i]
  split
  · exact hf _ (by omega)
  · exact (ceAt_all l P).2 hl i hi
def z32 : List UInt8 := List.replicate 32 0
def fillF_ (kind gen : Int) : Nat → Ce := fun _ => ⟨kind, gen, z32⟩
def fillS (l : List Ce) (lba n kind gen : Int) : List Ce × Int :=
  if CkI l then (if Fits l lba n ∧ (0 ≤ kind ∧ kind ≤ 1) ∧ (0 ≤ gen ∧ gen ≤ 2147483647) then (putN l lba.toNat (fillF_ kind gen) n.toNat, 0) else (l, 81)) else ([], 90)
theorem iFill_eq (l : List Ce) (lba n kind gen : Int) (hl : l.length ≤ 4294967296) : iFill l lba n kind gen = some (fillS l lba n kind gen) := by
  unfold iFill fillS
  simp only [iWithin_eq, iCheck_eq l hl, tc_some, tb_not, tb_dec, ces_len]
  have p1 : l.length * 34 = l.length * 34 := rfl
  by_cases hc : CkI l
  case neg =>
    by_cases hk : 0 ≤ kind ∧ kind ≤ 1
    · simp only [if_pos hk, if_neg hc]
    · simp only [if_neg hk, if_neg hc]
  have h64 := hc.2.1
  simp only [if_pos hc]
  by_cases hk : 0 ≤ kind ∧ kind ≤ 1
  case neg =>
    rw [if_neg hk, if_neg fun q => hk q.2.1, tp_pos (by first | rfl | trivial), tp_pos (by omega), tp_pos (by simp)]
  rw [if_pos hk, tp_pos (by first | rfl | trivial), tp_pos (by omega)]
  by_cases hg : 0 ≤ gen ∧ gen ≤ 2147483647
  case neg => rw [if_neg hg, if_neg fun q => hg q.2.2, tp_pos (by simp)]
  rw [if_pos hg]
  by_cases h1 : 0 ≤ lba ∧ lba ≤ l.length
  case neg => rw [if_neg h1, if_neg fun q => h1 ⟨q.1.1, q.1.2.1⟩, tp_pos (by simp)]
  rw [if_pos h1, wr_id (x := (l.length : Int) - lba) (by omega) (by omega)]
  by_cases h2 : 1 ≤ n ∧ n ≤ l.length - lba
  case neg => rw [if_neg h2, if_neg fun q => h2 q.1.2.2, tp_pos (by simp)]
  rw [if_pos h2, if_pos ⟨⟨h1.1, h1.2, h2.1, h2.2⟩, hk, hg⟩]
  have := th_run (step := iFill_L0_step l lba n kind gen true true true true true) (f := fun s12 => if s12.1 < n then none else tp (0 = 0 ∧ s12.2.length * 34 = l.length * 34) (some (s12.2, (0 : Int)))) (fun i => ((i : Int), putN l lba.toNat (fillF_ kind gen) i)) n.toNat ?_ ?_
  · simp only [Int.natCast_zero, putN] at this
    rw [decide_eq_true hk, decide_eq_true hg, decide_eq_true hc, decide_eq_true h1, decide_eq_true h2, this, if_neg (by omega), tp_pos (by simp [putN_len])]
  · intro i hi
    unfold iFill_L0_step
    simp only [tb_dec, ces_len, putN_len, u8z]
    rw [wr_id (x := lba + (i : Int)) (by omega) (by omega), wr_id (x := (i : Int) + 1) (by omega) (by omega), if_pos (by omega), tp_pos (by omega), tp_pos (by constructor <;> simp <;> omega)]
    have e1 : (lba + (i : Int)).toNat = lba.toNat + i := by omega
    rw [e1]
    rfl
  · unfold iFill_L0_step
    simp only [tb_dec]
    rw [if_neg (by omega)]
/-- Blocks of bytes. -/
def wrF (gen : Int) (b : List UInt8) : Nat → Ce := fun i => ⟨2, gen, pad 32 (b.drop (32 * i))⟩
def writeS (l : List Ce) (lba gen : Int) (b : List UInt8) : List Ce × Int :=
  if CkI l then (if Fits l lba (b.length / 32 : Nat) ∧ b.length % 32 = 0 ∧ (0 ≤ gen ∧ gen ≤ 2147483647) then (putN l lba.toNat (wrF gen b) (b.length / 32), 0) else (l, 81)) else ([], 90)
theorem tdiv32 (b : List UInt8) (hb : b.length ≤ 4294967296) : wr (Int.tdiv (b.length : Int) 32) = ((b.length / 32 : Nat) : Int) := by
  have e : Int.tdiv (b.length : Int) 32 = ((b.length / 32 : Nat) : Int) := by
    rw [Int.tdiv_eq_ediv_of_nonneg (by omega)]; omega
  rw [e, wr_id (by omega) (by omega)]
theorem iWrite_eq (l : List Ce) (lba gen : Int) (b : List UInt8) (hl : l.length ≤ 4294967296) (hb : b.length ≤ 4294967296) : iWrite l lba gen b = some (writeS l lba gen b) := by
  unfold iWrite writeS
  have hd := tdiv32 b hb
  have w0 : wr (((b.length / 32 : Nat) : Int) * 32) = ((b.length / 32 : Nat) : Int) * 32 := wr_id (by omega) (by omega)
  simp only [iWithin_eq, iCheck_eq l hl, tc_some, tb_not, tb_dec, tb_beq, ces_len, hd, w0]
  by_cases hc : CkI l
  case neg =>
    by_cases hm : ((b.length / 32 : Nat) : Int) * 32 = b.length
    · simp only [if_pos hm, if_neg hc]
    · simp only [if_neg hm, if_neg hc]
  have h64 := hc.2.1
  simp only [if_pos hc]
  by_cases hm : ((b.length / 32 : Nat) : Int) * 32 = b.length
  case neg => rw [if_neg hm, if_neg (by omega), tp_pos (by first | rfl | trivial), tp_pos (by omega), tp_pos (by simp)]
  rw [if_pos hm, tp_pos (by first | rfl | trivial), tp_pos (by omega)]
  by_cases hg : 0 ≤ gen ∧ gen ≤ 2147483647
  case neg => rw [if_neg hg, if_neg fun q => hg q.2.2, tp_pos (by simp)]
  rw [if_pos hg]
  by_cases h1 : 0 ≤ lba ∧ lba ≤ l.length
  case neg => rw [if_neg h1, if_neg fun q => h1 ⟨q.1.1, q.1.2.1⟩, tp_pos (by simp)]
  rw [if_pos h1, wr_id (x := (l.length : Int) - lba) (by omega) (by omega)]
  by_cases h2 : 1 ≤ ((b.length / 32 : Nat) : Int) ∧ ((b.length / 32 : Nat) : Int) ≤ l.length - lba
  case neg => rw [if_neg h2, if_neg fun q => h2 q.1.2.2, tp_pos (by simp)]
  rw [if_pos h2, if_pos ⟨⟨h1.1, h1.2, h2.1, h2.2⟩, by omega, hg⟩]
  have := th_run (step := iWrite_L0_step l lba gen b true true true true) (f := fun s11 => if s11.1 < ((b.length / 32 : Nat) : Int) then none else tp (0 = 0 ∧ s11.2.length * 34 = l.length * 34) (some (s11.2, (0 : Int)))) (fun i => ((i : Int), putN l lba.toNat (wrF gen b) i)) (b.length / 32) ?_ ?_
  · simp only [Int.natCast_zero, putN] at this
    rw [decide_eq_true hg, decide_eq_true hc, decide_eq_true h1, decide_eq_true h2, this, if_neg (by omega), tp_pos (by simp [putN_len])]
  · intro i hi
    unfold iWrite_L0_step
    have w1 : wr ((i : Int) * 32) = (i : Int) * 32 := wr_id (by omega) (by omega)
    have e2 : ((i : Int) * 32).toNat = 32 * i := by omega
    simp only [tb_dec, ces_len, putN_len, hd, w1, e2]
    rw [wr_id (x := lba + (i : Int)) (by omega) (by omega), wr_id (x := (i : Int) + 1) (by omega) (by omega), if_pos (by omega), tp_pos (by omega), tp_pos (by refine ⟨by omega, by omega, by simp⟩), tp_pos (by omega), tp_pos (by constructor <;> simp <;> omega)]
    have e1 : (lba + (i : Int)).toNat = lba.toNat + i := by omega
    have e3 : List.take ((b.length - 32 * i) * 1) (List.drop (32 * i * 1) b) = b.drop (32 * i) := by
      rw [Nat.mul_one, Nat.mul_one, List.take_of_length_le (by rw [List.length_drop]; omega)]
    rw [e1, e3]
    rfl
  · unfold iWrite_L0_step
    simp only [tb_dec, hd]
    rw [if_neg (by omega)]
/-- Some of a block's bytes, the others 0. -/
def part (d : List UInt8) (k : Nat) : List UInt8 := (pad 32 d).take k ++ List.replicate (32 - k) 0
theorem iAlike_eq (a b : List Ce) (ha : a.length ≤ 4294967296) : iAlike a b = some (decide (a.map al = b.map al)) := by
  unfold iAlike
  rw [tb_bne]
  by_cases hl : (a.length : Int) = b.length
  case neg =>
    rw [if_neg hl]; congr 1; symm; rw [decide_eq_false_iff_not]
    intro h
    have := congrArg List.length h
    simp only [List.length_map] at this; omega
  rw [if_pos hl]
  have hl2 : a.length = b.length := by omega
  have hs : ∀ (c e : Ce) {β : Type} (x y : Option β), tb (c.kind == e.kind && (c.gen == c.gen && (pad 32 c.d == pad 32 e.d))) x y = if al c = al e then x else y := by
    intro c e β x y
    simp only [al, Prod.mk.injEq]
    by_cases g1 : c.kind = e.kind
    · by_cases g2 : pad 32 c.d = pad 32 e.d
      · rw [if_pos ⟨g1, g2⟩, g1, g2]; simp
      · rw [if_neg fun q => g2 q.2]; exact tb_neg (by simp [g2])
    · rw [if_neg fun q => g1 q.1]; exact tb_neg (by simp [g1])
  rw [th_all (some false) (some true) a.length (fun i => al (ceAt a i) = al (ceAt b i)) (a.map al = b.map al) (all_eq _ al a b hl2)]
  · by_cases h : a.map al = b.map al
    · rw [if_pos h, decide_eq_true h]
    · rw [if_neg h, decide_eq_false h]
  · intro i hi hp
    unfold iAlike_L0_step
    simp only [tb_dec, tb_not, hs, Int.toNat_natCast]
    rw [if_pos (by omega), tp_pos (by omega), tp_pos (by omega), if_pos hp, wr_id (by omega) (by omega)]
  · intro i hi hp
    unfold iAlike_L0_step
    simp only [tb_dec, tb_not, hs, Int.toNat_natCast]
    refine ⟨by rw [if_pos (by omega), tp_pos (by omega), tp_pos (by omega), if_neg hp], ?_⟩
    rw [if_pos (by omega), tp_pos (by omega), if_neg hp]
  · unfold iAlike_L0_step
    simp only [tb_dec]
    rw [if_neg (by omega), if_neg (by omega)]
    exact ⟨rfl, rfl⟩
end Ab
end Go.Proofs.Ytadipihpgcelmaa
namespace Go.Proofs.Ytadipihpgcelmaa
open Go Go.Proofs.Ytadipihpgcelmaa.Ab
set_option linter.unusedVariables false
set_option linter.unusedSimpArgs false
set_option maxRecDepth 1000000
namespace Ab
def aw9 : Option Bool := some true
theorem aw9_eval : aCall Try.prog cf 4000 9 [] = some (.b true) := by kernel_rfl
theorem aw9_ok (r : Bool) : aw9 = some r → EvFr Try.prog cf true 9 [] (.b r) := fun h => by
  cases h
  exact EvFr.of_bool aw9_eval
end Ab
end Go.Proofs.Ytadipihpgcelmaa
namespace Go.Proofs.Ytadipihpgcelmaa
open Go Go.Proofs.Ytadipihpgcelmaa.Ab
set_option linter.unusedVariables false
set_option linter.unusedSimpArgs false
set_option maxRecDepth 1000000
namespace Ab
/-- Function 6, as it answers. -/
noncomputable def lImageParts (l : List Ce) (lba : Int) (gen : Int) (b : List UInt8) (cut : UInt8) (kind : UInt8) : Option (Bool) :=
 (tc (aw9) fun s0 =>
  (tb ((decide ((↑(List.length l) : Int) > (100 : Int))))
   (some (s0))
   (tb ((decide ((↑(List.length b) : Int) > (3000 : Int))))
    (some (s0))
    (tb ((decide ((wr (Int.tdiv (↑(List.length b) : Int) (32 : Int))) < (2 : Int))))
     (some (s0))
     (tc (iWrite (l) (lba) (gen) (b)) fun s4 =>
      (tb ((s4.2 != (0 : Int)))
       (some (s0))
       (tp ((((wr ((wr (Int.tdiv (↑(List.length b) : Int) (32 : Int))) - (1 : Int))) == (0 : Int)) = Bool.false))
        (tp (((0 : Int) ≤ (wr ((32 : Int) * (wr ((1 : Int) + (Int.tmod (wr (↑(UInt8.toNat cut) : Int)) (wr ((wr (Int.tdiv (↑(List.length b) : Int) (32 : Int))) - (1 : Int))))))))))
         (tp ((((0 : Nat) ≤ (Int.toNat (wr ((32 : Int) * (wr ((1 : Int) + (Int.tmod (wr (↑(UInt8.toNat cut) : Int)) (wr ((wr (Int.tdiv (↑(List.length b) : Int) (32 : Int))) - (1 : Int)))))))))) ∧ (((Int.toNat (wr ((32 : Int) * (wr ((1 : Int) + (Int.tmod (wr (↑(UInt8.toNat cut) : Int)) (wr ((wr (Int.tdiv (↑(List.length b) : Int) (32 : Int))) - (1 : Int))))))))) ≤ (List.length b)) ∧ ((List.length (List.map AV.y b)) = ((List.length b) * (1 : Nat))))))
          (tc (iWrite (l) (lba) (gen) ((List.take (((Int.toNat (wr ((32 : Int) * (wr ((1 : Int) + (Int.tmod (wr (↑(UInt8.toNat cut) : Int)) (wr ((wr (Int.tdiv (↑(List.length b) : Int) (32 : Int))) - (1 : Int))))))))) - (0 : Nat)) * (1 : Nat)) b))) fun s9 =>
           (tc (iWrite (s9.1) ((wr (lba + (wr ((1 : Int) + (Int.tmod (wr (↑(UInt8.toNat cut) : Int)) (wr ((wr (Int.tdiv (↑(List.length b) : Int) (32 : Int))) - (1 : Int))))))))) (gen) ((List.take (((List.length b) - (Int.toNat (wr ((32 : Int) * (wr ((1 : Int) + (Int.tmod (wr (↑(UInt8.toNat cut) : Int)) (wr ((wr (Int.tdiv (↑(List.length b) : Int) (32 : Int))) - (1 : Int)))))))))) * (1 : Nat)) (List.drop ((Int.toNat (wr ((32 : Int) * (wr ((1 : Int) + (Int.tmod (wr (↑(UInt8.toNat cut) : Int)) (wr ((wr (Int.tdiv (↑(List.length b) : Int) (32 : Int))) - (1 : Int))))))))) * (1 : Nat)) b)))) fun s10 =>
            (tc (iFill (s4.1) (lba) ((wr (Int.tdiv (↑(List.length b) : Int) (32 : Int)))) ((Int.tmod (wr (↑(UInt8.toNat kind) : Int)) (2 : Int))) (gen)) fun s11 =>
             (tc (iFill (l) (lba) ((wr (Int.tdiv (↑(List.length b) : Int) (32 : Int)))) ((Int.tmod (wr (↑(UInt8.toNat kind) : Int)) (2 : Int))) (gen)) fun s12 =>
              (tc (r9Same (s4.1) (s10.1)) fun s13 =>
               (tb (s13)
                (tc (r9Same (s11.1) (s12.1)) fun s15 =>
                 (tb (s0)
                  (tb ((s9.2 == (0 : Int)))
                   (tb ((s10.2 == (0 : Int)))
                    (tb ((s11.2 == (0 : Int)))
                     (tb ((s12.2 == (0 : Int)))
                      (tb (s15)
                       (tc (iAlike (s4.1) (s10.1)) fun s22 =>
                        (some (s22)))
                       none /- false -/)
                      none /- false -/)
                     none /- false -/)
                    none /- false -/)
                   none /- false -/)
                  none /- false -/))
                none /- false -/)))))))))))))))
abbrev lImageParts_G (l : List Ce) (lba : Int) (gen : Int) (b : List UInt8) (cut : UInt8) (kind : UInt8) (r : Bool) : Prop := EvFr Try.prog cf false 6 [ces (l), .i (lba), .i (gen), bys (b), .y (cut), .y (kind)] (.b (r))
theorem lImageParts_l0 (l : List Ce) (lba : Int) (gen : Int) (b : List UInt8) (cut : UInt8) (kind : UInt8) (s0 : Bool) (h0 : aw9 = some s0) (h1 : ((decide ((↑(List.length l) : Int) > (100 : Int)))) = true) (h1p : ((↑(List.length l) : Int) > (100 : Int))) : lImageParts_G l lba gen b cut kind (s0) :=
  leafR vw_eq (k := 300) (r := []) (hs := hz [(2, [.fres (.b (s0))]), (9, [.yes, .yes, .yes, .yes]), (7, [])]) (raw := (AV.b s0)) (ps := [EvFr Try.prog cf Bool.false 9 ([] : List AV) (.b (s0)), ((decide ((↑(List.length l) : Int) > (100 : Int)))) = true, ((decide ((↑(List.length l) : Int) > (100 : Int)))) = true, ((decide ((↑(List.length l) : Int) > (100 : Int)))) = true, ((decide ((↑(List.length l) : Int) > (100 : Int)))) = true]) kq ⟨((aw9_ok  _ h0).any.cast tq), h1, h1, h1, h1, trivial⟩ tq
theorem lImageParts_l1 (l : List Ce) (lba : Int) (gen : Int) (b : List UInt8) (cut : UInt8) (kind : UInt8) (s0 : Bool) (h0 : aw9 = some s0) (h1 : ((decide ((↑(List.length l) : Int) > (100 : Int)))) = false) (h1p : ¬ ((↑(List.length l) : Int) > (100 : Int))) (h2 : ((decide ((↑(List.length b) : Int) > (3000 : Int)))) = true) (h2p : ((↑(List.length b) : Int) > (3000 : Int))) : lImageParts_G l lba gen b cut kind (s0) :=
  leafR vw_eq (k := 300) (r := []) (hs := hz [(2, [.fres (.b (s0))]), (9, [.no]), (1, [.no]), (1, [.no]), (1, [.no]), (1, [.yes, .yes, .yes]), (3, [])]) (raw := (AV.b s0)) (ps := [EvFr Try.prog cf Bool.false 9 ([] : List AV) (.b (s0)), ((decide ((↑(List.length l) : Int) > (100 : Int)))) = false, ((decide ((↑(List.length l) : Int) > (100 : Int)))) = false, ((decide ((↑(List.length l) : Int) > (100 : Int)))) = false, ((decide ((↑(List.length l) : Int) > (100 : Int)))) = false, ((decide ((↑(List.length b) : Int) > (3000 : Int)))) = true, ((decide ((↑(List.length b) : Int) > (3000 : Int)))) = true, ((decide ((↑(List.length b) : Int) > (3000 : Int)))) = true]) kq ⟨((aw9_ok  _ h0).any.cast tq), h1, h1, h1, h1, h2, h2, h2, trivial⟩ tq
theorem lImageParts_l2 (l : List Ce) (lba : Int) (gen : Int) (b : List UInt8) (cut : UInt8) (kind : UInt8) (s0 : Bool) (h0 : aw9 = some s0) (h1 : ((decide ((↑(List.length l) : Int) > (100 : Int)))) = false) (h1p : ¬ ((↑(List.length l) : Int) > (100 : Int))) (h2 : ((decide ((↑(List.length b) : Int) > (3000 : Int)))) = false) (h2p : ¬ ((↑(List.length b) : Int) > (3000 : Int))) (h3 : ((decide ((wr (Int.tdiv (↑(List.length b) : Int) (32 : Int))) < (2 : Int)))) = true) (h3p : ((wr (Int.tdiv (↑(List.length b) : Int) (32 : Int))) < (2 : Int))) : lImageParts_G l lba gen b cut kind (s0) :=
  leafR vw_eq (k := 300) (r := []) (hs := hz [(2, [.fres (.b (s0))]), (9, [.no]), (1, [.no]), (1, [.no]), (1, [.no]), (1, [.no]), (1, [.no]), (1, [.no, .yes]), (2, [])]) (raw := (AV.b s0)) (ps := [EvFr Try.prog cf Bool.false 9 ([] : List AV) (.b (s0)), ((decide ((↑(List.length l) : Int) > (100 : Int)))) = false, ((decide ((↑(List.length l) : Int) > (100 : Int)))) = false, ((decide ((↑(List.length l) : Int) > (100 : Int)))) = false, ((decide ((↑(List.length l) : Int) > (100 : Int)))) = false, ((decide ((↑(List.length b) : Int) > (3000 : Int)))) = false, ((decide ((↑(List.length b) : Int) > (3000 : Int)))) = false, ((decide ((↑(List.length b) : Int) > (3000 : Int)))) = false, ((decide ((wr (Int.tdiv (↑(List.length b) : Int) (32 : Int))) < (2 : Int)))) = true]) kq ⟨((aw9_ok  _ h0).any.cast tq), h1, h1, h1, h1, h2, h2, h2, h3, trivial⟩ tq
theorem lImageParts_l3 (l : List Ce) (lba : Int) (gen : Int) (b : List UInt8) (cut : UInt8) (kind : UInt8) (s0 : Bool) (h0 : aw9 = some s0) (h1 : ((decide ((↑(List.length l) : Int) > (100 : Int)))) = false) (h1p : ¬ ((↑(List.length l) : Int) > (100 : Int))) (h2 : ((decide ((↑(List.length b) : Int) > (3000 : Int)))) = false) (h2p : ¬ ((↑(List.length b) : Int) > (3000 : Int))) (h3 : ((decide ((wr (Int.tdiv (↑(List.length b) : Int) (32 : Int))) < (2 : Int)))) = false) (h3p : ¬ ((wr (Int.tdiv (↑(List.length b) : Int) (32 : Int))) < (2 : Int))) (s4 : List Ce × Int) (h4 : iWrite (l) (lba) (gen) (b) = some s4) (h5 : ((s4.2 != (0 : Int))) = true) (h5p : ¬ (s4.2 = (0 : Int))) : lImageParts_G l lba gen b cut kind (s0) :=
  leafR vw_eq (k := 300) (r := []) (hs := hz [(2, [.fres (.b (s0))]), (9, [.no]), (1, [.no]), (1, [.no]), (1, [.no]), (1, [.no]), (1, [.no]), (1, [.no, .no]), (5, [.fres (.tu [ces (s4.1), .i (s4.2)])]), (7, [.yes]), (2, [])]) (raw := (AV.b s0)) (ps := [EvFr Try.prog cf Bool.false 9 ([] : List AV) (.b (s0)), ((decide ((↑(List.length l) : Int) > (100 : Int)))) = false, ((decide ((↑(List.length l) : Int) > (100 : Int)))) = false, ((decide ((↑(List.length l) : Int) > (100 : Int)))) = false, ((decide ((↑(List.length l) : Int) > (100 : Int)))) = false, ((decide ((↑(List.length b) : Int) > (3000 : Int)))) = false, ((decide ((↑(List.length b) : Int) > (3000 : Int)))) = false, ((decide ((↑(List.length b) : Int) > (3000 : Int)))) = false, ((decide ((wr (Int.tdiv (↑(List.length b) : Int) (32 : Int))) < (2 : Int)))) = false, EvFr Try.prog cf Bool.false 23 [(AV.sl (List.length l) (List.flatMap Ce.cells l)), (AV.i lba), (AV.i gen), (AV.sl (List.length b) (List.map AV.y b))] (.tu [ces (s4.1), .i (s4.2)]), ((s4.2 != (0 : Int))) = true]) kq ⟨((aw9_ok  _ h0).any.cast tq), h1, h1, h1, h1, h2, h2, h2, h3, ((iWrite_ok (l) (lba) (gen) (b) _ h4).any.cast tq), h5, trivial⟩ tq
theorem lImageParts_l4 (l : List Ce) (lba : Int) (gen : Int) (b : List UInt8) (cut : UInt8) (kind : UInt8) (s0 : Bool) (h0 : aw9 = some s0) (h1 : ((decide ((↑(List.length l) : Int) > (100 : Int)))) = false) (h1p : ¬ ((↑(List.length l) : Int) > (100 : Int))) (h2 : ((decide ((↑(List.length b) : Int) > (3000 : Int)))) = false) (h2p : ¬ ((↑(List.length b) : Int) > (3000 : Int))) (h3 : ((decide ((wr (Int.tdiv (↑(List.length b) : Int) (32 : Int))) < (2 : Int)))) = false) (h3p : ¬ ((wr (Int.tdiv (↑(List.length b) : Int) (32 : Int))) < (2 : Int))) (s4 : List Ce × Int) (h4 : iWrite (l) (lba) (gen) (b) = some s4) (h5 : ((s4.2 != (0 : Int))) = false) (h5p : (s4.2 = (0 : Int))) (h6 : (((wr ((wr (Int.tdiv (↑(List.length b) : Int) (32 : Int))) - (1 : Int))) == (0 : Int)) = Bool.false)) (h7 : ((0 : Int) ≤ (wr ((32 : Int) * (wr ((1 : Int) + (Int.tmod (wr (↑(UInt8.toNat cut) : Int)) (wr ((wr (Int.tdiv (↑(List.length b) : Int) (32 : Int))) - (1 : Int)))))))))) (h8 : (((0 : Nat) ≤ (Int.toNat (wr ((32 : Int) * (wr ((1 : Int) + (Int.tmod (wr (↑(UInt8.toNat cut) : Int)) (wr ((wr (Int.tdiv (↑(List.length b) : Int) (32 : Int))) - (1 : Int)))))))))) ∧ (((Int.toNat (wr ((32 : Int) * (wr ((1 : Int) + (Int.tmod (wr (↑(UInt8.toNat cut) : Int)) (wr ((wr (Int.tdiv (↑(List.length b) : Int) (32 : Int))) - (1 : Int))))))))) ≤ (List.length b)) ∧ ((List.length (List.map AV.y b)) = ((List.length b) * (1 : Nat)))))) (s9 : List Ce × Int) (h9 : iWrite (l) (lba) (gen) ((List.take (((Int.toNat (wr ((32 : Int) * (wr ((1 : Int) + (Int.tmod (wr (↑(UInt8.toNat cut) : Int)) (wr ((wr (Int.tdiv (↑(List.length b) : Int) (32 : Int))) - (1 : Int))))))))) - (0 : Nat)) * (1 : Nat)) b)) = some s9) (s10 : List Ce × Int) (h10 : iWrite (s9.1) ((wr (lba + (wr ((1 : Int) + (Int.tmod (wr (↑(UInt8.toNat cut) : Int)) (wr ((wr (Int.tdiv (↑(List.length b) : Int) (32 : Int))) - (1 : Int))))))))) (gen) ((List.take (((List.length b) - (Int.toNat (wr ((32 : Int) * (wr ((1 : Int) + (Int.tmod (wr (↑(UInt8.toNat cut) : Int)) (wr ((wr (Int.tdiv (↑(List.length b) : Int) (32 : Int))) - (1 : Int)))))))))) * (1 : Nat)) (List.drop ((Int.toNat (wr ((32 : Int) * (wr ((1 : Int) + (Int.tmod (wr (↑(UInt8.toNat cut) : Int)) (wr ((wr (Int.tdiv (↑(List.length b) : Int) (32 : Int))) - (1 : Int))))))))) * (1 : Nat)) b))) = some s10) (s11 : List Ce × Int) (h11 : iFill (s4.1) (lba) ((wr (Int.tdiv (↑(List.length b) : Int) (32 : Int)))) ((Int.tmod (wr (↑(UInt8.toNat kind) : Int)) (2 : Int))) (gen) = some s11) (s12 : List Ce × Int) (h12 : iFill (l) (lba) ((wr (Int.tdiv (↑(List.length b) : Int) (32 : Int)))) ((Int.tmod (wr (↑(UInt8.toNat kind) : Int)) (2 : Int))) (gen) = some s12) (s13 : Bool) (h13 : r9Same (s4.1) (s10.1) = some s13) (h14 : (s13) = true) (s15 : Bool) (h15 : r9Same (s11.1) (s12.1) = some s15) (h16 : (s0) = true) (h17 : ((s9.2 == (0 : Int))) = true) (h17p : (s9.2 = (0 : Int))) (h18 : ((s10.2 == (0 : Int))) = true) (h18p : (s10.2 = (0 : Int))) (h19 : ((s11.2 == (0 : Int))) = true) (h19p : (s11.2 = (0 : Int))) (h20 : ((s12.2 == (0 : Int))) = true) (h20p : (s12.2 = (0 : Int))) (h21 : (s15) = true) (s22 : Bool) (h22 : iAlike (s4.1) (s10.1) = some s22) : lImageParts_G l lba gen b cut kind (s22) :=
  leafR vw_eq (k := 300) (r := []) (hs := hz [(2, [.fres (.b (s0))]), (9, [.no]), (1, [.no]), (1, [.no]), (1, [.no]), (1, [.no]), (1, [.no]), (1, [.no, .no]), (5, [.fres (.tu [ces (s4.1), .i (s4.2)])]), (7, [.no]), (3, [.yes]), (8, [.yes, .yes]), (1, [.fres (.tu [ces (s9.1), .i (s9.2)])]), (13, [.yes, .yes]), (1, [.fres (.tu [ces (s10.1), .i (s10.2)])]), (12, [.fres (.tu [ces (s11.1), .i (s11.2)])]), (12, [.fres (.tu [ces (s12.1), .i (s12.2)])]), (8, [.fres (.b (s13))]), (1, [.yes]), (1, [.yes]), (1, [.yes]), (1, [.fres (.b (s15)), .yes]), (3, [.yes]), (1, [.yes]), (1, [.yes]), (1, [.yes]), (1, [.yes]), (1, [.yes]), (1, [.yes]), (1, [.yes]), (1, [.yes]), (1, [.yes]), (1, [.yes]), (1, [.yes]), (1, [.yes]), (1, [.yes]), (1, [.yes]), (1, [.yes]), (1, [.yes]), (1, [.fres (.b (s22)), .yes]), (1, [])]) (raw := (AV.b s22)) (ps := [EvFr Try.prog cf Bool.false 9 ([] : List AV) (.b (s0)), ((decide ((↑(List.length l) : Int) > (100 : Int)))) = false, ((decide ((↑(List.length l) : Int) > (100 : Int)))) = false, ((decide ((↑(List.length l) : Int) > (100 : Int)))) = false, ((decide ((↑(List.length l) : Int) > (100 : Int)))) = false, ((decide ((↑(List.length b) : Int) > (3000 : Int)))) = false, ((decide ((↑(List.length b) : Int) > (3000 : Int)))) = false, ((decide ((↑(List.length b) : Int) > (3000 : Int)))) = false, ((decide ((wr (Int.tdiv (↑(List.length b) : Int) (32 : Int))) < (2 : Int)))) = false, EvFr Try.prog cf Bool.false 23 [(AV.sl (List.length l) (List.flatMap Ce.cells l)), (AV.i lba), (AV.i gen), (AV.sl (List.length b) (List.map AV.y b))] (.tu [ces (s4.1), .i (s4.2)]), ((s4.2 != (0 : Int))) = false, (((wr ((wr (Int.tdiv (↑(List.length b) : Int) (32 : Int))) - (1 : Int))) == (0 : Int)) = Bool.false), ((0 : Int) ≤ (wr ((32 : Int) * (wr ((1 : Int) + (Int.tmod (wr (↑(UInt8.toNat cut) : Int)) (wr ((wr (Int.tdiv (↑(List.length b) : Int) (32 : Int))) - (1 : Int))))))))), (((0 : Nat) ≤ (Int.toNat (wr ((32 : Int) * (wr ((1 : Int) + (Int.tmod (wr (↑(UInt8.toNat cut) : Int)) (wr ((wr (Int.tdiv (↑(List.length b) : Int) (32 : Int))) - (1 : Int)))))))))) ∧ (((Int.toNat (wr ((32 : Int) * (wr ((1 : Int) + (Int.tmod (wr (↑(UInt8.toNat cut) : Int)) (wr ((wr (Int.tdiv (↑(List.length b) : Int) (32 : Int))) - (1 : Int))))))))) ≤ (List.length b)) ∧ ((List.length (List.map AV.y b)) = ((List.length b) * (1 : Nat))))), EvFr Try.prog cf Bool.false 23 [(AV.sl (List.length l) (List.flatMap Ce.cells l)), (AV.i lba), (AV.i gen), (AV.sl ((Int.toNat (wr ((32 : Int) * (wr ((1 : Int) + (Int.tmod (wr (↑(UInt8.toNat cut) : Int)) (wr ((wr (Int.tdiv (↑(List.length b) : Int) (32 : Int))) - (1 : Int))))))))) - (0 : Nat)) (List.take (((Int.toNat (wr ((32 : Int) * (wr ((1 : Int) + (Int.tmod (wr (↑(UInt8.toNat cut) : Int)) (wr ((wr (Int.tdiv (↑(List.length b) : Int) (32 : Int))) - (1 : Int))))))))) - (0 : Nat)) * (1 : Nat)) (List.map AV.y b)))] (.tu [ces (s9.1), .i (s9.2)]), ((0 : Int) ≤ (wr ((32 : Int) * (wr ((1 : Int) + (Int.tmod (wr (↑(UInt8.toNat cut) : Int)) (wr ((wr (Int.tdiv (↑(List.length b) : Int) (32 : Int))) - (1 : Int))))))))), (((Int.toNat (wr ((32 : Int) * (wr ((1 : Int) + (Int.tmod (wr (↑(UInt8.toNat cut) : Int)) (wr ((wr (Int.tdiv (↑(List.length b) : Int) (32 : Int))) - (1 : Int))))))))) ≤ (List.length b)) ∧ (((List.length b) ≤ (List.length b)) ∧ ((List.length (List.map AV.y b)) = ((List.length b) * (1 : Nat))))), EvFr Try.prog cf Bool.false 23 [(AV.sl (List.length s9.1) (List.flatMap Ce.cells s9.1)), (AV.i (wr (lba + (wr ((1 : Int) + (Int.tmod (wr (↑(UInt8.toNat cut) : Int)) (wr ((wr (Int.tdiv (↑(List.length b) : Int) (32 : Int))) - (1 : Int))))))))), (AV.i gen), (AV.sl ((List.length b) - (Int.toNat (wr ((32 : Int) * (wr ((1 : Int) + (Int.tmod (wr (↑(UInt8.toNat cut) : Int)) (wr ((wr (Int.tdiv (↑(List.length b) : Int) (32 : Int))) - (1 : Int)))))))))) (List.take (((List.length b) - (Int.toNat (wr ((32 : Int) * (wr ((1 : Int) + (Int.tmod (wr (↑(UInt8.toNat cut) : Int)) (wr ((wr (Int.tdiv (↑(List.length b) : Int) (32 : Int))) - (1 : Int)))))))))) * (1 : Nat)) (List.drop ((Int.toNat (wr ((32 : Int) * (wr ((1 : Int) + (Int.tmod (wr (↑(UInt8.toNat cut) : Int)) (wr ((wr (Int.tdiv (↑(List.length b) : Int) (32 : Int))) - (1 : Int))))))))) * (1 : Nat)) (List.map AV.y b))))] (.tu [ces (s10.1), .i (s10.2)]), EvFr Try.prog cf Bool.false 21 [(AV.sl (List.length s4.1) (List.flatMap Ce.cells s4.1)), (AV.i lba), (AV.i (wr (Int.tdiv (↑(List.length b) : Int) (32 : Int)))), (AV.i (Int.tmod (wr (↑(UInt8.toNat kind) : Int)) (2 : Int))), (AV.i gen)] (.tu [ces (s11.1), .i (s11.2)]), EvFr Try.prog cf Bool.false 21 [(AV.sl (List.length l) (List.flatMap Ce.cells l)), (AV.i lba), (AV.i (wr (Int.tdiv (↑(List.length b) : Int) (32 : Int)))), (AV.i (Int.tmod (wr (↑(UInt8.toNat kind) : Int)) (2 : Int))), (AV.i gen)] (.tu [ces (s12.1), .i (s12.2)]), EvFr Try.prog cf Bool.false 15 [(AV.sl (List.length s4.1) (List.flatMap Ce.cells s4.1)), (AV.sl (List.length s10.1) (List.flatMap Ce.cells s10.1))] (.b (s13)), (s13) = true, (s13) = true, (s13) = true, EvFr Try.prog cf Bool.false 15 [(AV.sl (List.length s11.1) (List.flatMap Ce.cells s11.1)), (AV.sl (List.length s12.1) (List.flatMap Ce.cells s12.1))] (.b (s15)), (s13) = true, (s0) = true, (s0) = true, (s0) = true, ((s9.2 == (0 : Int))) = true, ((s9.2 == (0 : Int))) = true, ((s9.2 == (0 : Int))) = true, ((s10.2 == (0 : Int))) = true, ((s10.2 == (0 : Int))) = true, ((s10.2 == (0 : Int))) = true, ((s11.2 == (0 : Int))) = true, ((s11.2 == (0 : Int))) = true, ((s11.2 == (0 : Int))) = true, ((s12.2 == (0 : Int))) = true, ((s12.2 == (0 : Int))) = true, (s15) = true, (s15) = true, (s15) = true, EvFr Try.prog cf Bool.false 19 [(AV.sl (List.length s4.1) (List.flatMap Ce.cells s4.1)), (AV.sl (List.length s10.1) (List.flatMap Ce.cells s10.1))] (.b (s22)), (s15) = true]) kq ⟨((aw9_ok  _ h0).any.cast tq), h1, h1, h1, h1, h2, h2, h2, h3, ((iWrite_ok (l) (lba) (gen) (b) _ h4).any.cast tq), h5, h6, h7, h8, ((iWrite_ok (l) (lba) (gen) ((List.take (((Int.toNat (wr ((32 : Int) * (wr ((1 : Int) + (Int.tmod (wr (↑(UInt8.toNat cut) : Int)) (wr ((wr (Int.tdiv (↑(List.length b) : Int) (32 : Int))) - (1 : Int))))))))) - (0 : Nat)) * (1 : Nat)) b)) _ h9).any.cast tq), h7, fq, ((iWrite_ok (s9.1) ((wr (lba + (wr ((1 : Int) + (Int.tmod (wr (↑(UInt8.toNat cut) : Int)) (wr ((wr (Int.tdiv (↑(List.length b) : Int) (32 : Int))) - (1 : Int))))))))) (gen) ((List.take (((List.length b) - (Int.toNat (wr ((32 : Int) * (wr ((1 : Int) + (Int.tmod (wr (↑(UInt8.toNat cut) : Int)) (wr ((wr (Int.tdiv (↑(List.length b) : Int) (32 : Int))) - (1 : Int)))))))))) * (1 : Nat)) (List.drop ((Int.toNat (wr ((32 : Int) * (wr ((1 : Int) + (Int.tmod (wr (↑(UInt8.toNat cut) : Int)) (wr ((wr (Int.tdiv (↑(List.length b) : Int) (32 : Int))) - (1 : Int))))))))) * (1 : Nat)) b))) _ h10).any.cast tq), ((iFill_ok (s4.1) (lba) ((wr (Int.tdiv (↑(List.length b) : Int) (32 : Int)))) ((Int.tmod (wr (↑(UInt8.toNat kind) : Int)) (2 : Int))) (gen) _ h11).any.cast tq), ((iFill_ok (l) (lba) ((wr (Int.tdiv (↑(List.length b) : Int) (32 : Int)))) ((Int.tmod (wr (↑(UInt8.toNat kind) : Int)) (2 : Int))) (gen) _ h12).any.cast tq), ((r9Same_ok (s4.1) (s10.1) _ h13).any.cast tq), h14, h14, h14, ((r9Same_ok (s11.1) (s12.1) _ h15).any.cast tq), h14, h16, h16, h16, h17, h17, h17, h18, h18, h18, h19, h19, h19, h20, h20, h21, h21, h21, ((iAlike_ok (s4.1) (s10.1) _ h22).any.cast tq), h21, trivial⟩ tq
theorem lImageParts_ok (l : List Ce) (lba : Int) (gen : Int) (b : List UInt8) (cut : UInt8) (kind : UInt8) (r : Bool) : lImageParts l lba gen b cut kind = some r → lImageParts_G l lba gen b cut kind r := by
  unfold lImageParts
  refine tc_ok (fun s0 h0 => ?_)
  refine tb_ok (fun h1 => ?_) (fun h1 => ?_)
  ·
    have h1p := of_decide_eq_true h1
    exact fun e => tl_ok (G := lImageParts_G l lba gen b cut kind) (lImageParts_l0 l lba gen b cut kind s0 h0 h1 h1p) e
  ·
    have h1p := of_decide_eq_false h1
    refine tb_ok (fun h2 => ?_) (fun h2 => ?_)
    ·
      have h2p := of_decide_eq_true h2
      exact fun e => tl_ok (G := lImageParts_G l lba gen b cut kind) (lImageParts_l1 l lba gen b cut kind s0 h0 h1 h1p h2 h2p) e
    ·
      have h2p := of_decide_eq_false h2
      refine tb_ok (fun h3 => ?_) (fun h3 => ?_)
      ·
        have h3p := of_decide_eq_true h3
        exact fun e => tl_ok (G := lImageParts_G l lba gen b cut kind) (lImageParts_l2 l lba gen b cut kind s0 h0 h1 h1p h2 h2p h3 h3p) e
      ·
        have h3p := of_decide_eq_false h3
        refine tc_ok (fun s4 h4 => ?_)
        refine tb_ok (fun h5 => ?_) (fun h5 => ?_)
        ·
          have h5p := bne_iff_ne.1 h5
          exact fun e => tl_ok (G := lImageParts_G l lba gen b cut kind) (lImageParts_l3 l lba gen b cut kind s0 h0 h1 h1p h2 h2p h3 h3p s4 h4 h5 h5p) e
        ·
          have h5p := bne_eq_false_iff_eq.1 h5
          refine tp_ok (fun h6 => ?_)
          refine tp_ok (fun h7 => ?_)
          refine tp_ok (fun h8 => ?_)
          refine tc_ok (fun s9 h9 => ?_)
          refine tc_ok (fun s10 h10 => ?_)
          refine tc_ok (fun s11 h11 => ?_)
          refine tc_ok (fun s12 h12 => ?_)
          refine tc_ok (fun s13 h13 => ?_)
          refine tb_ok (fun h14 => ?_) (fun h14 => ?_)
          ·
            refine tc_ok (fun s15 h15 => ?_)
            refine tb_ok (fun h16 => ?_) (fun h16 => ?_)
            ·
              refine tb_ok (fun h17 => ?_) (fun h17 => ?_)
              ·
                have h17p := eq_of_beq h17
                refine tb_ok (fun h18 => ?_) (fun h18 => ?_)
                ·
                  have h18p := eq_of_beq h18
                  refine tb_ok (fun h19 => ?_) (fun h19 => ?_)
                  ·
                    have h19p := eq_of_beq h19
                    refine tb_ok (fun h20 => ?_) (fun h20 => ?_)
                    ·
                      have h20p := eq_of_beq h20
                      refine tb_ok (fun h21 => ?_) (fun h21 => ?_)
                      ·
                        refine tc_ok (fun s22 h22 => ?_)
                        exact fun e => tl_ok (G := lImageParts_G l lba gen b cut kind) (lImageParts_l4 l lba gen b cut kind s0 h0 h1 h1p h2 h2p h3 h3p s4 h4 h5 h5p h6 h7 h8 s9 h9 s10 h10 s11 h11 s12 h12 s13 h13 h14 s15 h15 h16 h17 h17p h18 h18p h19 h19p h20 h20p h21 s22 h22) e
                      ·
                        exact fun e => nomatch e
                    ·
                      have h20p := ne_of_beq_false h20
                      exact fun e => nomatch e
                  ·
                    have h19p := ne_of_beq_false h19
                    exact fun e => nomatch e
                ·
                  have h18p := ne_of_beq_false h18
                  exact fun e => nomatch e
              ·
                have h17p := ne_of_beq_false h17
                exact fun e => nomatch e
            ·
              exact fun e => nomatch e
          ·
            exact fun e => nomatch e
end Ab
end Go.Proofs.Ytadipihpgcelmaa
namespace Go.Proofs.Ytadipihpgcelmaa
open Go Go.Proofs.Ytadipihpgcelmaa.Ab
set_option linter.unusedVariables false
set_option linter.unusedSimpArgs false
namespace Ab
theorem ckc_wr {gen : Int} (hg : 0 ≤ gen ∧ gen ≤ 2147483647) (b : List UInt8) (i : Nat) : CkC (wrF gen b i) := by
  refine ⟨by simp only [wrF]; omega, by simp only [wrF]; omega, hg.1, hg.2, fun h => absurd rfl h⟩
theorem writeS_ok {l : List Ce} {lba gen : Int} {b : List UInt8} (h : (writeS l lba gen b).2 = 0) : CkI l ∧ Fits l lba (b.length / 32 : Nat) ∧ b.length % 32 = 0 ∧ (0 ≤ gen ∧ gen ≤ 2147483647) := by
  unfold writeS at h
  split at h
  · rename_i hc
    split at h
    · rename_i hf; exact ⟨hc, hf⟩
    · cases h
  · cases h
theorem writeS_of {l : List Ce} {lba gen : Int} {b : List UInt8} (h : CkI l) (h2 : Fits l lba (b.length / 32 : Nat)) (h3 : b.length % 32 = 0) (h4 : 0 ≤ gen ∧ gen ≤ 2147483647) : writeS l lba gen b = (putN l lba.toNat (wrF gen b) (b.length / 32), 0) := by
  unfold writeS; rw [if_pos h, if_pos ⟨h2, h3, h4⟩]
theorem put_ck {l : List Ce} (h : CkI l) {s : Nat} {f : Nat → Ce} {n : Nat} (hf : ∀ i, i < n → CkC (f i)) (hn : s + n ≤ l.length) : CkI (putN l s f n) := ⟨by rw [putN_len]; exact h.1, by rw [putN_len]; exact h.2.1, putN_mem CkC h.2.2 hf hn⟩
theorem pad_cut (b : List UInt8) (m i : Nat) (h : i + 32 ≤ m) : pad 32 ((b.take m).drop i) = pad 32 (b.drop i) := by
  have e : ∀ l : List UInt8, pad 32 (l.take 32) = pad 32 l := fun l => by
    unfold pad
    rw [List.take_append, List.take_append, List.take_take, Nat.min_self, List.take_replicate, List.take_replicate, List.length_take]
    congr 2; omega
  rw [← e ((b.take m).drop i), ← e (b.drop i), List.drop_take, List.take_take, Nat.min_eq_left (by omega)]
theorem write_parts {l : List Ce} {s k n : Nat} {gen : Int} {b : List UInt8} (h : s + n ≤ l.length) (hk : k ≤ n) :
    putN (putN l s (wrF gen (b.take (32 * k))) k) (s + k) (wrF gen (b.drop (32 * k))) (n - k) = putN l s (wrF gen b) n := by
  refine List.ext_getElem? fun j => ?_
  rw [putN_get _ _ _ _ (by rw [putN_len]; omega), putN_get _ _ _ _ (by omega), putN_get _ _ _ _ h]
  by_cases h1 : s ≤ j ∧ j < s + k
  · rw [if_neg (by omega), if_pos h1, if_pos (by omega)]
    simp only [wrF, pad_cut b (32 * k) (32 * (j - s)) (by omega)]
  by_cases h2 : s + k ≤ j ∧ j < s + k + (n - k)
  · rw [if_pos h2, if_pos (by omega)]
    simp only [wrF, List.drop_drop]
    rw [show 32 * k + 32 * (j - (s + k)) = 32 * (j - s) by omega]
  · rw [if_neg h2, if_neg h1, if_neg (by omega)]
theorem fill_over {l : List Ce} {s n : Nat} {f g : Nat → Ce} (h : s + n ≤ l.length) : putN (putN l s f n) s g n = putN l s g n := by
  refine List.ext_getElem? fun j => ?_
  rw [putN_get _ _ _ _ (by rw [putN_len]; omega), putN_get _ _ _ _ h, putN_get _ _ _ _ h]
  by_cases h1 : s ≤ j ∧ j < s + n
  · rw [if_pos h1, if_pos h1]
  · rw [if_neg h1, if_neg h1, if_neg h1]
theorem lImageParts_true (l : List Ce) (lba gen : Int) (b : List UInt8) (cut kind : UInt8) : lImageParts l lba gen b cut kind = some true := by
  unfold lImageParts
  rw [show aw9 = some true from rfl, tc_some]
  simp only [tb_dec]
  by_cases h1 : (l.length : Int) > 100
  · rw [if_pos h1]
  by_cases h2 : (b.length : Int) > 3000
  · rw [if_neg h1, if_pos h2]
  rw [if_neg h1, if_neg h2]
  have hd := tdiv32 b (by omega)
  generalize hN : b.length / 32 = N at hd
  simp only [hd]
  by_cases h3 : (N : Int) < 2
  · rw [if_pos h3]
  rw [if_neg h3, iWrite_eq l lba gen b (by omega) (by omega), tc_some, tb_bne]
  by_cases h4 : (writeS l lba gen b).2 = 0
  case neg => rw [if_neg h4]
  rw [if_pos h4]
  obtain ⟨c1, c2, c3, c4⟩ := writeS_ok h4
  rw [hN] at c2
  have cf := c2
  unfold Fits at cf
  have hw1 : wr ((N : Int) - 1) = ((N - 1 : Nat) : Int) := by rw [wr_id (by omega) (by omega)]; omega
  have hcut : wr ((cut.toNat : Nat) : Int) = ((cut.toNat : Nat) : Int) := wr_id (by omega) (by have := cut.toNat_lt; omega)
  have hmod : Int.tmod ((cut.toNat : Nat) : Int) ((N - 1 : Nat) : Int) = ((cut.toNat % (N - 1) : Nat) : Int) := by rw [Int.tmod_eq_emod_of_nonneg (by omega)]; omega
  have hlt : cut.toNat % (N - 1) < N - 1 := Nat.mod_lt _ (by omega)
  have hk0 : wr (1 + ((cut.toNat % (N - 1) : Nat) : Int)) = ((1 + cut.toNat % (N - 1) : Nat) : Int) := by rw [wr_id (by omega) (by omega)]; omega
  rw [hw1, hcut, hmod, hk0]
  generalize hK : 1 + cut.toNat % (N - 1) = K
  have hK1 : 1 ≤ K ∧ K ≤ N - 1 := by omega
  have hk32 : wr (32 * (K : Int)) = ((32 * K : Nat) : Int) := by rw [wr_id (by omega) (by omega)]; omega
  have hkd : wr ((kind.toNat : Nat) : Int) = ((kind.toNat : Nat) : Int) := wr_id (by omega) (by have := kind.toNat_lt; omega)
  have hkm : Int.tmod ((kind.toNat : Nat) : Int) 2 = ((kind.toNat % 2 : Nat) : Int) := by rw [Int.tmod_eq_emod_of_nonneg (by omega)]; omega
  have hlk : wr (lba + (K : Int)) = lba + (K : Int) := wr_id (by omega) (by omega)
  rw [hk32, hkd, hkm, hlk, tp_pos (by rw [beq_eq_false_iff_ne]; omega), tp_pos (by omega), tp_pos (by refine ⟨by omega, by omega, by simp⟩)]
  simp only [Int.toNat_natCast, Nat.sub_zero, Nat.mul_one]
  have hlb : (b.take (32 * K)).length = 32 * K := by rw [List.length_take]; omega
  have hld : (b.drop (32 * K)).length = 32 * (N - K) := by rw [List.length_drop]; omega
  rw [List.take_of_length_le (l := b.drop (32 * K)) (by rw [hld]; omega)]
  have eY : writeS l lba gen (b.take (32 * K)) = (putN l lba.toNat (wrF gen (b.take (32 * K))) K, 0) := by
    have := writeS_of (b := b.take (32 * K)) c1 (lba := lba) (gen := gen) (by rw [hlb]; unfold Fits; omega) (by rw [hlb]; omega) c4
    rw [this, hlb]; congr 2; omega
  have eX : writeS l lba gen b = (putN l lba.toNat (wrF gen b) N, 0) := by
    have := writeS_of c1 (by rw [hN]; exact c2) c3 c4
    rw [this, hN]
  have hs : lba.toNat + N ≤ l.length := by omega
  have ckY : CkI (putN l lba.toNat (wrF gen (b.take (32 * K))) K) := put_ck c1 (fun i _ => ckc_wr c4 _ i) (by omega)
  have ckX : CkI (putN l lba.toNat (wrF gen b) N) := put_ck c1 (fun i _ => ckc_wr c4 _ i) hs
  have eZ : writeS (putN l lba.toNat (wrF gen (b.take (32 * K))) K) (lba + (K : Int)) gen (b.drop (32 * K)) = (putN l lba.toNat (wrF gen b) N, 0) := by
    have := writeS_of (b := b.drop (32 * K)) ckY (lba := lba + (K : Int)) (gen := gen) (by rw [hld]; unfold Fits; rw [putN_len]; omega) (by rw [hld]; omega) c4
    rw [this, hld, show 32 * (N - K) / 32 = N - K by omega, show (lba + (K : Int)).toNat = lba.toNat + K by omega, write_parts hs (by omega)]
  rw [iWrite_eq _ _ _ _ (by omega) (by omega), tc_some, eY, iWrite_eq _ _ _ _ (by rw [putN_len]; omega) (by omega), tc_some, eZ, eX]
  have hfl : ∀ l' : List Ce, CkI l' → l'.length = l.length → fillS l' lba (N : Int) ((kind.toNat % 2 : Nat) : Int) gen = (putN l' lba.toNat (fillF_ ((kind.toNat % 2 : Nat) : Int) gen) N, 0) := by
    intro l' h1 h2
    unfold fillS
    rw [if_pos h1, if_pos ⟨by unfold Fits; rw [h2]; omega, by omega, c4⟩, Int.toNat_natCast]
  rw [iFill_eq _ _ _ _ _ (by rw [putN_len]; omega), tc_some, iFill_eq _ _ _ _ _ (by omega), tc_some, hfl _ ckX (putN_len _ _ _ _), hfl l c1 rfl, fill_over hs,
    r9Same_eq0 _ _ (by rw [putN_len]; omega), tc_some, r9Same_eq0 _ _ (by rw [putN_len]; omega), tc_some, iAlike_eq _ _ (by rw [putN_len]; omega), tc_some]
  simp
theorem imageParts_call (l : List Ce) (lba gen : Int) (b : List UInt8) (cut kind : UInt8) (_ : ∀ c ∈ l, Ce.ok c) (_ : I64 lba) (_ : I64 gen) (_ : True) : EvFr Try.prog cf false 6 [.sl l.length (l.flatMap Ce.cells), .i lba, .i gen, .sl b.length (b.map AV.y), .y cut, .y kind] (.b true) := lImageParts_ok l lba gen b cut kind true (lImageParts_true l lba gen b cut kind)
end Ab
end Go.Proofs.Ytadipihpgcelmaa
