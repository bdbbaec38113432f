/- The law 'ImageBack': it returns true, and nothing that was there changes. No condition. (Part 8 of 12.) -/
import Derived.Test.YtadipihpgcelmaaBa7
import Derived.Test.YtadipihpgcelmaaRows
namespace Go.Proofs.Ytadipihpgcelmaa
open Go Go.Proofs.Ytadipihpgcelmaa.Ab
set_option linter.unusedVariables false
set_option linter.unusedSimpArgs false
set_option maxRecDepth 1000000
namespace Ab
def cf : Cfg := { inl := [37, 38, 39, 40, 41, 42, 44, 48, 54, 58], thaw := [(60, [[0, 0, 0, 0, 1]])], move := [12, 13, 14, 28, 34, 47, 53, 60], clone := [(32, 1, 1), (52, 1, 1), (55, 34, 48)] }
noncomputable def vwT : List (Nat × TI) := [(1, (TI.mk 1 8 [(AV.sc Go.Value.nilFunc)] (AV.sc Go.Value.nilFunc) TK.func)),
  (2, (TI.mk 1 8 [(AV.i 0)] (AV.i 0) (TK.int Go.IntKind.i64))),
  (3, (TI.mk 1 8 [(AV.i 0)] (AV.i 0) (TK.int Go.IntKind.i64))),
  (4, (TI.mk 1 1 [(AV.b Bool.false)] (AV.b Bool.false) TK.bool)),
  (5, (TI.mk 1 1 [(AV.y (UInt8.ofNat (0 : Nat)))] (AV.y (UInt8.ofNat (0 : Nat))) (TK.int Go.IntKind.u8))),
  (6, (TI.mk 1 1 [(AV.y (UInt8.ofNat (0 : Nat)))] (AV.y (UInt8.ofNat (0 : Nat))) (TK.int Go.IntKind.u8))),
  (7, (TI.mk 4 24 [(AV.i 0), (AV.i 0), (AV.b Bool.false), (AV.y (UInt8.ofNat (0 : Nat)))] (AV.ag [(AV.i 0), (AV.i 0), (AV.b Bool.false), (AV.y (UInt8.ofNat (0 : Nat)))]) (TK.struct [((0 : Nat), ((1 : Nat), Bool.false)), ((1 : Nat), ((1 : Nat), Bool.false)), ((2 : Nat), ((1 : Nat), Bool.false)), ((3 : Nat), ((1 : Nat), Bool.false))]))),
  (8, (TI.mk 4 24 [(AV.i 0), (AV.i 0), (AV.b Bool.false), (AV.y (UInt8.ofNat (0 : Nat)))] (AV.ag [(AV.i 0), (AV.i 0), (AV.b Bool.false), (AV.y (UInt8.ofNat (0 : Nat)))]) (TK.struct [((0 : Nat), ((1 : Nat), Bool.false)), ((1 : Nat), ((1 : Nat), Bool.false)), ((2 : Nat), ((1 : Nat), Bool.false)), ((3 : Nat), ((1 : Nat), Bool.false))]))),
  (9, (TI.mk 1 16 [(AV.st ([] : List UInt8))] (AV.st ([] : List UInt8)) TK.string)),
  (10, (TI.mk 1 16 [(AV.st ([] : List UInt8))] (AV.st ([] : List UInt8)) TK.string)),
  (11, (TI.mk 1 16 [(AV.st ([] : List UInt8))] (AV.st ([] : List UInt8)) TK.string)),
  (12, (TI.mk 1 8 [(AV.sc (Go.Value.int Go.IntKind.u64 0))] (AV.sc (Go.Value.int Go.IntKind.u64 0)) (TK.int Go.IntKind.u64))),
  (13, (TI.mk 2 24 [(AV.st ([] : List UInt8)), (AV.sc (Go.Value.int Go.IntKind.u64 0))] (AV.ag [(AV.st ([] : List UInt8)), (AV.sc (Go.Value.int Go.IntKind.u64 0))]) (TK.struct [((0 : Nat), ((1 : Nat), Bool.false)), ((1 : Nat), ((1 : Nat), Bool.false))]))),
  (14, (TI.mk 2 24 [(AV.st ([] : List UInt8)), (AV.sc (Go.Value.int Go.IntKind.u64 0))] (AV.ag [(AV.st ([] : List UInt8)), (AV.sc (Go.Value.int Go.IntKind.u64 0))]) (TK.struct [((0 : Nat), ((1 : Nat), Bool.false)), ((1 : Nat), ((1 : Nat), Bool.false))]))),
  (15, (TI.mk 1 8 [(AV.sc (Go.Value.pointer Option.none))] (AV.sc (Go.Value.pointer Option.none)) (TK.ptr (80 : Nat)))),
  (16, (TI.mk 1 8 [(AV.sc (Go.Value.pointer Option.none))] (AV.sc (Go.Value.pointer Option.none)) (TK.ptr (83 : Nat)))),
  (17, (TI.mk 1 8 [(AV.sc (Go.Value.pointer Option.none))] (AV.sc (Go.Value.pointer Option.none)) (TK.ptr (93 : Nat)))),
  (18, (TI.mk 1 8 [(AV.sc (Go.Value.pointer Option.none))] (AV.ag [(AV.sc (Go.Value.pointer Option.none))]) (TK.struct [((0 : Nat), ((1 : Nat), Bool.false))]))),
  (19, (TI.mk 1 8 [(AV.sc (Go.Value.pointer Option.none))] (AV.ag [(AV.sc (Go.Value.pointer Option.none))]) (TK.struct [((0 : Nat), ((1 : Nat), Bool.false))]))),
  (20, (TI.mk 1 16 [(AV.sc Go.Value.nilIface)] (AV.sc Go.Value.nilIface) TK.other)),
  (21, (TI.mk 1 4 [(AV.sc (Go.Value.int Go.IntKind.i32 0))] (AV.sc (Go.Value.int Go.IntKind.i32 0)) (TK.int Go.IntKind.i32))),
  (22, (TI.mk 1 24 [AV.nl] AV.nl (TK.slice (43 : Nat)))),
  (23, (TI.mk 1 24 [AV.nl] AV.nl (TK.slice (50 : Nat)))),
  (24, (TI.mk 1 8 [(AV.sc Go.Value.nilFunc)] (AV.sc Go.Value.nilFunc) TK.func)),
  (25, (TI.mk 1 8 [(AV.sc Go.Value.nilFunc)] (AV.sc Go.Value.nilFunc) TK.func)),
  (26, (TI.mk 1 8 [(AV.i 0)] (AV.i 0) (TK.int Go.IntKind.i64))),
  (28, (TI.mk 1 8 [(AV.sc Go.Value.nilFunc)] (AV.sc Go.Value.nilFunc) TK.func)),
  (30, (TI.mk 1 8 [(AV.sc Go.Value.nilFunc)] (AV.sc Go.Value.nilFunc) TK.func)),
  (31, (TI.mk 1 8 [(AV.sc Go.Value.nilFunc)] (AV.sc Go.Value.nilFunc) TK.func)),
  (32, (TI.mk 1 8 [(AV.sc Go.Value.nilFunc)] (AV.sc Go.Value.nilFunc) TK.func)),
  (33, (TI.mk 1 8 [(AV.sc Go.Value.nilFunc)] (AV.sc Go.Value.nilFunc) TK.func)),
  (34, (TI.mk 1 8 [(AV.sc Go.Value.nilFunc)] (AV.sc Go.Value.nilFunc) TK.func)),
  (35, (TI.mk 1 24 [AV.nl] AV.nl (TK.slice (5 : Nat)))),
  (36, (TI.mk 1 8 [(AV.sc Go.Value.nilFunc)] (AV.sc Go.Value.nilFunc) TK.func)),
  (37, (TI.mk 1 8 [(AV.sc Go.Value.nilFunc)] (AV.sc Go.Value.nilFunc) TK.func)),
  (39, (TI.mk 1 8 [(AV.sc Go.Value.nilFunc)] (AV.sc Go.Value.nilFunc) TK.func)),
  (40, (TI.mk 1 8 [(AV.sc Go.Value.nilFunc)] (AV.sc Go.Value.nilFunc) TK.func)),
  (41, (TI.mk 32 32 (List.replicate (32 : Nat) (AV.y (UInt8.ofNat (0 : Nat)))) (AV.ag (List.replicate (32 : Nat) (AV.y (UInt8.ofNat (0 : Nat))))) (TK.array 32 (5 : Nat)))),
  (42, (TI.mk 34 48 ((AV.i 0) :: (AV.i 0) :: List.replicate (32 : Nat) (AV.y (UInt8.ofNat (0 : Nat)))) (AV.ag ((AV.i 0) :: (AV.i 0) :: List.replicate (32 : Nat) (AV.y (UInt8.ofNat (0 : Nat))))) (TK.struct [((0 : Nat), ((1 : Nat), Bool.false)), ((1 : Nat), ((1 : Nat), Bool.false)), ((2 : Nat), ((32 : Nat), Bool.true))]))),
  (43, (TI.mk 34 48 ((AV.i 0) :: (AV.i 0) :: List.replicate (32 : Nat) (AV.y (UInt8.ofNat (0 : Nat)))) (AV.ag ((AV.i 0) :: (AV.i 0) :: List.replicate (32 : Nat) (AV.y (UInt8.ofNat (0 : Nat))))) (TK.struct [((0 : Nat), ((1 : Nat), Bool.false)), ((1 : Nat), ((1 : Nat), Bool.false)), ((2 : Nat), ((32 : Nat), Bool.true))]))),
  (44, (TI.mk 1 8 [(AV.sc Go.Value.nilFunc)] (AV.sc Go.Value.nilFunc) TK.func)),
  (45, (TI.mk 1 8 [(AV.sc Go.Value.nilFunc)] (AV.sc Go.Value.nilFunc) TK.func)),
  (46, (TI.mk 1 8 [(AV.sc Go.Value.nilFunc)] (AV.sc Go.Value.nilFunc) TK.func)),
  (47, (TI.mk 1 8 [(AV.sc Go.Value.nilFunc)] (AV.sc Go.Value.nilFunc) TK.func)),
  (48, (TI.mk 1 8 [(AV.sc Go.Value.nilFunc)] (AV.sc Go.Value.nilFunc) TK.func)),
  (49, (TI.mk 5 56 [(AV.i 0), (AV.i 0), (AV.i 0), (AV.i 0), AV.nl] (AV.ag [(AV.i 0), (AV.i 0), (AV.i 0), (AV.i 0), AV.nl]) (TK.struct [((0 : Nat), ((1 : Nat), Bool.false)), ((1 : Nat), ((1 : Nat), Bool.false)), ((2 : Nat), ((1 : Nat), Bool.false)), ((3 : Nat), ((1 : Nat), Bool.false)), ((4 : Nat), ((1 : Nat), Bool.false))]))),
  (50, (TI.mk 5 56 [(AV.i 0), (AV.i 0), (AV.i 0), (AV.i 0), AV.nl] (AV.ag [(AV.i 0), (AV.i 0), (AV.i 0), (AV.i 0), AV.nl]) (TK.struct [((0 : Nat), ((1 : Nat), Bool.false)), ((1 : Nat), ((1 : Nat), Bool.false)), ((2 : Nat), ((1 : Nat), Bool.false)), ((3 : Nat), ((1 : Nat), Bool.false)), ((4 : Nat), ((1 : Nat), Bool.false))]))),
  (51, (TI.mk 1 8 [(AV.sc Go.Value.nilFunc)] (AV.sc Go.Value.nilFunc) TK.func)),
  (52, (TI.mk 1 8 [(AV.sc Go.Value.nilFunc)] (AV.sc Go.Value.nilFunc) TK.func)),
  (53, (TI.mk 1 8 [(AV.sc Go.Value.nilFunc)] (AV.sc Go.Value.nilFunc) TK.func)),
  (54, (TI.mk 1 8 [(AV.sc Go.Value.nilFunc)] (AV.sc Go.Value.nilFunc) TK.func)),
  (56, (TI.mk 1 8 [(AV.sc Go.Value.nilFunc)] (AV.sc Go.Value.nilFunc) TK.func)),
  (57, (TI.mk 1 8 [(AV.sc Go.Value.nilFunc)] (AV.sc Go.Value.nilFunc) TK.func)),
  (58, (TI.mk 1 8 [(AV.sc Go.Value.nilFunc)] (AV.sc Go.Value.nilFunc) TK.func)),
  (59, (TI.mk 1 8 [(AV.sc Go.Value.nilFunc)] (AV.sc Go.Value.nilFunc) TK.func)),
  (60, (TI.mk 1 8 [(AV.sc Go.Value.nilFunc)] (AV.sc Go.Value.nilFunc) TK.func)),
  (61, (TI.mk 1 8 [(AV.sc Go.Value.nilFunc)] (AV.sc Go.Value.nilFunc) TK.func)),
  (62, (TI.mk 1 8 [(AV.sc Go.Value.nilFunc)] (AV.sc Go.Value.nilFunc) TK.func)),
  (63, (TI.mk 1 8 [(AV.sc Go.Value.nilFunc)] (AV.sc Go.Value.nilFunc) TK.func)),
  (64, (TI.mk 1 8 [(AV.sc Go.Value.nilFunc)] (AV.sc Go.Value.nilFunc) TK.func)),
  (65, (TI.mk 1 8 [(AV.sc Go.Value.nilFunc)] (AV.sc Go.Value.nilFunc) TK.func)),
  (66, (TI.mk 1 8 [(AV.sc Go.Value.nilFunc)] (AV.sc Go.Value.nilFunc) TK.func)),
  (67, (TI.mk 1 8 [(AV.sc Go.Value.nilFunc)] (AV.sc Go.Value.nilFunc) TK.func)),
  (68, (TI.mk 1 8 [(AV.sc Go.Value.nilFunc)] (AV.sc Go.Value.nilFunc) TK.func)),
  (69, (TI.mk 1 8 [(AV.sc Go.Value.nilFunc)] (AV.sc Go.Value.nilFunc) TK.func)),
  (70, (TI.mk 1 8 [(AV.sc Go.Value.nilFunc)] (AV.sc Go.Value.nilFunc) TK.func)),
  (71, (TI.mk 1 8 [(AV.sc Go.Value.nilFunc)] (AV.sc Go.Value.nilFunc) TK.func)),
  (72, (TI.mk 1 8 [(AV.sc Go.Value.nilFunc)] (AV.sc Go.Value.nilFunc) TK.func)),
  (73, (TI.mk 1 8 [(AV.sc Go.Value.nilFunc)] (AV.sc Go.Value.nilFunc) TK.func)),
  (74, (TI.mk 1 8 [(AV.sc Go.Value.nilFunc)] (AV.sc Go.Value.nilFunc) TK.func)),
  (76, (TI.mk 1 8 [(AV.sc Go.Value.nilFunc)] (AV.sc Go.Value.nilFunc) TK.func)),
  (77, (TI.mk 1 8 [(AV.sc Go.Value.nilFunc)] (AV.sc Go.Value.nilFunc) TK.func)),
  (78, (TI.mk 1 8 [(AV.sc Go.Value.nilFunc)] (AV.sc Go.Value.nilFunc) TK.func)),
  (79, (TI.mk 4 40 [(AV.sc (Go.Value.pointer Option.none)), (AV.sc (Go.Value.pointer Option.none)), (AV.sc (Go.Value.pointer Option.none)), (AV.st ([] : List UInt8))] (AV.ag [(AV.sc (Go.Value.pointer Option.none)), (AV.sc (Go.Value.pointer Option.none)), (AV.sc (Go.Value.pointer Option.none)), (AV.st ([] : List UInt8))]) (TK.struct [((0 : Nat), ((1 : Nat), Bool.false)), ((1 : Nat), ((1 : Nat), Bool.false)), ((2 : Nat), ((1 : Nat), Bool.false)), ((3 : Nat), ((1 : Nat), Bool.false))]))),
  (80, (TI.mk 4 40 [(AV.sc (Go.Value.pointer Option.none)), (AV.sc (Go.Value.pointer Option.none)), (AV.sc (Go.Value.pointer Option.none)), (AV.st ([] : List UInt8))] (AV.ag [(AV.sc (Go.Value.pointer Option.none)), (AV.sc (Go.Value.pointer Option.none)), (AV.sc (Go.Value.pointer Option.none)), (AV.st ([] : List UInt8))]) (TK.struct [((0 : Nat), ((1 : Nat), Bool.false)), ((1 : Nat), ((1 : Nat), Bool.false)), ((2 : Nat), ((1 : Nat), Bool.false)), ((3 : Nat), ((1 : Nat), Bool.false))]))),
  (81, (TI.mk 0 0 ([] : List AV) (AV.ag ([] : List AV)) (TK.array 0 (16 : Nat)))),
  (82, (TI.mk 0 0 ([] : List AV) (AV.ag ([] : List AV)) (TK.struct [((0 : Nat), ((0 : Nat), Bool.true))]))),
  (83, (TI.mk 0 0 ([] : List AV) (AV.ag ([] : List AV)) (TK.struct [((0 : Nat), ((0 : Nat), Bool.true))]))),
  (84, (TI.mk 1 8 [(AV.sc Go.Value.nilFunc)] (AV.sc Go.Value.nilFunc) TK.func)),
  (85, (TI.mk 1 4 [(AV.sc (Go.Value.int Go.IntKind.u32 0))] (AV.sc (Go.Value.int Go.IntKind.u32 0)) (TK.int Go.IntKind.u32))),
  (86, (TI.mk 1 1 [(AV.y (UInt8.ofNat (0 : Nat)))] (AV.y (UInt8.ofNat (0 : Nat))) (TK.int Go.IntKind.u8))),
  (87, (TI.mk 1 1 [(AV.y (UInt8.ofNat (0 : Nat)))] (AV.y (UInt8.ofNat (0 : Nat))) (TK.int Go.IntKind.u8))),
  (88, (TI.mk 1 8 [(AV.sc Go.Value.nilFunc)] (AV.sc Go.Value.nilFunc) TK.func)),
  (89, (TI.mk 1 8 [(AV.sc (Go.Value.pointer Option.none))] (AV.sc (Go.Value.pointer Option.none)) (TK.ptr (5 : Nat))))]
noncomputable def vwF : List (Nat × AF) := [(2, afOf Try.f2), (3, afOf Try.f3), (4, afOf Try.f4), (5, afOf Try.f5), (6, afOf Try.f6), (7, afOf Try.f7), (8, afOf Try.f8), (9, afOf Try.f9), (10, afOf Try.f10), (11, afOf Try.f11), (12, afOf Try.f12), (13, afOf Try.f13), (14, afOf Try.f14), (15, afOf Try.f15), (16, afOf Try.f16), (17, afOf Try.f17), (18, afOf Try.f18), (19, afOf Try.f19), (20, afOf Try.f20), (21, afOf Try.f21), (22, afOf Try.f22), (23, afOf Try.f23), (24, afOf Try.f24), (25, afOf Try.f25), (26, afOf Try.f26), (27, afOf Try.f27), (28, afOf Try.f28), (29, afOf Try.f29), (30, afOf Try.f30), (31, afOf Try.f31), (32, afOf Try.f32), (33, afOf Try.f33), (34, afOf Try.f34), (35, afOf Try.f35), (36, afOf Try.f36), (37, afOf Try.f37), (38, afOf Try.f38), (39, afOf Try.f39), (40, afOf Try.f40), (41, afOf Try.f41), (42, afOf Try.f42), (43, afOf Try.f43), (44, afOf Try.f44), (45, afOf Try.f45), (46, afOf Try.f46), (47, afOf Try.f47), (48, afOf Try.f48), (49, afOf Try.f49), (50, afOf Try.f50), (51, afOf Try.f51), (52, afOf Try.f52), (53, afOf Try.f53), (54, afOf Try.f54), (55, afOf Try.f55), (56, afOf Try.f56), (57, afOf Try.f57), (58, afOf Try.f58), (59, afOf Try.f59), (60, afOf Try.f60)]
noncomputable def vw : View := View.mkT Try.prog vwT vwF
theorem vwT_ok : ∀ x ∈ vwT, tinfo Try.prog x.1 = some x.2 := (all_cons (by kernel_rfl) (all_cons (by kernel_rfl) (all_cons (by kernel_rfl) (all_cons (by kernel_rfl) (all_cons (by kernel_rfl) (all_cons (by kernel_rfl) (all_cons (by kernel_rfl) (all_cons (by kernel_rfl) (all_cons (by kernel_rfl) (all_cons (by kernel_rfl) (all_cons (by kernel_rfl) (all_cons (by kernel_rfl) (all_cons (by kernel_rfl) (all_cons (by kernel_rfl) (all_cons (by kernel_rfl) (all_cons (by kernel_rfl) (all_cons (by kernel_rfl) (all_cons (by kernel_rfl) (all_cons (by kernel_rfl) (all_cons (by kernel_rfl) (all_cons (by kernel_rfl) (all_cons (by kernel_rfl) (all_cons (by kernel_rfl) (all_cons (by kernel_rfl) (all_cons (by kernel_rfl) (all_cons (by kernel_rfl) (all_cons (by kernel_rfl) (all_cons (by kernel_rfl) (all_cons (by kernel_rfl) (all_cons (by kernel_rfl) (all_cons (by kernel_rfl) (all_cons (by kernel_rfl) (all_cons (by kernel_rfl) (all_cons (by kernel_rfl) (all_cons (by kernel_rfl) (all_cons (by kernel_rfl) (all_cons (by kernel_rfl) (all_cons (by kernel_rfl) (all_cons (by kernel_rfl) (all_cons (by kernel_rfl) (all_cons (by kernel_rfl) (all_cons (by kernel_rfl) (all_cons (by kernel_rfl) (all_cons (by kernel_rfl) (all_cons (by kernel_rfl) (all_cons (by kernel_rfl) (all_cons (by kernel_rfl) (all_cons (by kernel_rfl) (all_cons (by kernel_rfl) (all_cons (by kernel_rfl) (all_cons (by kernel_rfl) (all_cons (by kernel_rfl) (all_cons (by kernel_rfl) (all_cons (by kernel_rfl) (all_cons (by kernel_rfl) (all_cons (by kernel_rfl) (all_cons (by kernel_rfl) (all_cons (by kernel_rfl) (all_cons (by kernel_rfl) (all_cons (by kernel_rfl) (all_cons (by kernel_rfl) (all_cons (by kernel_rfl) (all_cons (by kernel_rfl) (all_cons (by kernel_rfl) (all_cons (by kernel_rfl) (all_cons (by kernel_rfl) (all_cons (by kernel_rfl) (all_cons (by kernel_rfl) (all_cons (by kernel_rfl) (all_cons (by kernel_rfl) (all_cons (by kernel_rfl) (all_cons (by kernel_rfl) (all_cons (by kernel_rfl) (all_cons (by kernel_rfl) (all_cons (by kernel_rfl) (all_cons (by kernel_rfl) (all_cons (by kernel_rfl) (all_cons (by kernel_rfl) (all_cons (by kernel_rfl) (all_cons (by kernel_rfl) (all_cons (by kernel_rfl) (all_cons (by kernel_rfl) (all_cons (by kernel_rfl) (all_cons (by kernel_rfl) all_nil))))))))))))))))))))))))))))))))))))))))))))))))))))))))))))))))))))))))))))))))))))
theorem vwF_ok : ∀ x ∈ vwF, afun Try.prog x.1 = some x.2 := (all_cons (by kernel_rfl) (all_cons (by kernel_rfl) (all_cons (by kernel_rfl) (all_cons (by kernel_rfl) (all_cons (by kernel_rfl) (all_cons (by kernel_rfl) (all_cons (by kernel_rfl) (all_cons (by kernel_rfl) (all_cons (by kernel_rfl) (all_cons (by kernel_rfl) (all_cons (by kernel_rfl) (all_cons (by kernel_rfl) (all_cons (by kernel_rfl) (all_cons (by kernel_rfl) (all_cons (by kernel_rfl) (all_cons (by kernel_rfl) (all_cons (by kernel_rfl) (all_cons (by kernel_rfl) (all_cons (by kernel_rfl) (all_cons (by kernel_rfl) (all_cons (by kernel_rfl) (all_cons (by kernel_rfl) (all_cons (by kernel_rfl) (all_cons (by kernel_rfl) (all_cons (by kernel_rfl) (all_cons (by kernel_rfl) (all_cons (by kernel_rfl) (all_cons (by kernel_rfl) (all_cons (by kernel_rfl) (all_cons (by kernel_rfl) (all_cons (by kernel_rfl) (all_cons (by kernel_rfl) (all_cons (by kernel_rfl) (all_cons (by kernel_rfl) (all_cons (by kernel_rfl) (all_cons (by kernel_rfl) (all_cons (by kernel_rfl) (all_cons (by kernel_rfl) (all_cons (by kernel_rfl) (all_cons (by kernel_rfl) (all_cons (by kernel_rfl) (all_cons (by kernel_rfl) (all_cons (by kernel_rfl) (all_cons (by kernel_rfl) (all_cons (by kernel_rfl) (all_cons (by kernel_rfl) (all_cons (by kernel_rfl) (all_cons (by kernel_rfl) (all_cons (by kernel_rfl) (all_cons (by kernel_rfl) (all_cons (by kernel_rfl) (all_cons (by kernel_rfl) (all_cons (by kernel_rfl) (all_cons (by kernel_rfl) (all_cons (by kernel_rfl) (all_cons (by kernel_rfl) (all_cons (by kernel_rfl) (all_cons (by kernel_rfl) (all_cons (by kernel_rfl) all_nil)))))))))))))))))))))))))))))))))))))))))))))))))))))))))))
theorem vw_eq : vw = View.of Try.prog := View.mkT_eq vwT_ok vwF_ok
theorem ord_11_0 : orderOk (rg Try.prog 11 0) = true := by kernel_rfl
theorem bef_11_0 : Region.before (rg Try.prog 11 0) = #[0, 0, 2, 0, 8, 0, 32, 96, 224, 510, 1022, 2047, 4095] := by kernel_rfl
theorem ord_13_0 : orderOk (rg Try.prog 13 0) = true := by kernel_rfl
theorem bef_13_0 : Region.before (rg Try.prog 13 0) = #[0, 0, 2, 7, 15, 0, 63, 127, 255, 255, 0, 1535, 4095] := by kernel_rfl
theorem ord_15_0 : orderOk (rg Try.prog 15 0) = true := by kernel_rfl
theorem bef_15_0 : Region.before (rg Try.prog 15 0) = #[0, 0, 3, 7, 0, 0, 48, 112, 255] := by kernel_rfl
theorem ord_16_0 : orderOk (rg Try.prog 16 0) = true := by kernel_rfl
theorem bef_16_0 : Region.before (rg Try.prog 16 0) = #[0, 0, 3, 7, 0, 0, 48, 112, 255, 511] := by kernel_rfl
theorem ord_27_0 : orderOk (rg Try.prog 27 0) = true := by kernel_rfl
theorem bef_27_0 : Region.before (rg Try.prog 27 0) = #[0, 1, 3, 7, 15, 31, 15, 127, 255, 511, 1023, 2047, 4095, 8191, 8191, 24575, 65535, 131071, 8191, 524287, 1048575, 2097151] := by kernel_rfl
theorem ord_28_0 : orderOk (rg Try.prog 28 0) = true := by kernel_rfl
theorem bef_28_0 : Region.before (rg Try.prog 28 0) = #[0, 0, 2, 7, 15, 0, 63, 127, 255, 255, 0, 1535, 4095] := by kernel_rfl
theorem ord_33_0 : orderOk (rg Try.prog 33 0) = true := by kernel_rfl
theorem bef_33_0 : Region.before (rg Try.prog 33 0) = #[0, 1, 3, 0, 8, 31, 63, 127] := by kernel_rfl
theorem ord_45_0 : orderOk (rg Try.prog 45 0) = true := by kernel_rfl
theorem bef_45_0 : Region.before (rg Try.prog 45 0) = #[0, 1, 3, 7, 15, 31, 15, 79, 207, 511, 1023, 2047, 4095, 8191, 16383, 32767, 65535, 131071, 262143, 524287, 1048575, 2097151, 4194303, 8388607, 16777215, 4194303, 37748735, 134217727, 268435455, 536870911] := by kernel_rfl
theorem ord_59_0 : orderOk (rg Try.prog 59 0) = true := by kernel_rfl
theorem bef_59_0 : Region.before (rg Try.prog 59 0) = #[0, 1, 0, 7, 0, 16, 0, 64, 240, 0, 0, 1536, 4080, 15, 16383] := by kernel_rfl
theorem clones : CloneOk Try.prog cf.clone :=
  (cloneOk_cons (clone_at Try.func32 rfl rfl rfl (by kernel_rfl) (t := 35) (by kernel_rfl)) (cloneOk_cons (clone_at Try.func52 rfl rfl rfl (by kernel_rfl) (t := 35) (by kernel_rfl)) (cloneOk_cons (clone_at Try.func55 rfl rfl rfl (by kernel_rfl) (t := 22) (by kernel_rfl)) (cloneOk_nil _))))
end Ab
end Go.Proofs.Ytadipihpgcelmaa
namespace Go.Proofs.Ytadipihpgcelmaa
open Go Go.Proofs.Ytadipihpgcelmaa.Ab
set_option linter.unusedVariables false
set_option linter.unusedSimpArgs false
namespace Ab
theorem wr_id {x : Int} (h1 : -9223372036854775808 ≤ x) (h2 : x ≤ 9223372036854775807) : wr x = x := by
  simp [wr, IntKind.wrap, IntKind.bits, IntKind.signed]
  omega
section
variable {α β σ : Type}
@[simp] theorem tb_t (x y : Option α) : tb true x y = x := rfl
@[simp] theorem tb_f (x y : Option α) : tb false x y = y := rfl
theorem tb_pos {c : Bool} {x y : Option α} (h : c = true) : tb c x y = x := by subst h; rfl
theorem tb_neg {c : Bool} {x y : Option α} (h : c = false) : tb c x y = y := by subst h; rfl
theorem tp_pos {p : Prop} [Decidable p] {x : Option α} (h : p) : tp p x = x := if_pos h
@[simp] theorem tc_some (s : β) (f : β → Option α) : tc (some s) f = f s := rfl
theorem tb_dec (p : Prop) [Decidable p] (x y : Option α) : tb (decide p) x y = if p then x else y := by
  by_cases h : p <;> simp [h]
theorem tb_beq (a b : Int) (x y : Option α) : tb (a == b) x y = if a = b then x else y := by
  by_cases h : a = b
  · rw [if_pos h]; exact tb_pos (beq_iff_eq.2 h)
  · rw [if_neg h]; exact tb_neg (beq_eq_false_iff_ne.2 h)
theorem tb_bne (a b : Int) (x y : Option α) : tb (a != b) x y = if a = b then y else x := by
  by_cases h : a = b
  · rw [if_pos h]; exact tb_neg (bne_eq_false_iff_eq.2 h)
  · rw [if_neg h]; exact tb_pos (bne_iff_ne.2 h)
theorem tb_not (c : Bool) (x y : Option α) : tb (!c) x y = tb c y x := by cases c <;> rfl
theorem th_run {step : σ → Option σ} {f : σ → Option α} (S : Nat → σ) (k : Nat) (hs : ∀ i, i < k → step (S i) = some (S (i + 1))) (he : step (S k) = none) : th step (S 0) f = f (S k) := by
  have : ∀ n, n ≤ k → Runs step (S (k - n)) (S k) := by
    intro n
    induction n with
    | zero => exact fun _ => .refl _
    | succ n ih =>
      intro hn
      refine .step (hs _ (by omega)) ?_
      rw [show k - (n + 1) + 1 = k - n by omega]
      exact ih (by omega)
  have h := this k (Nat.le_refl _)
  rw [Nat.sub_self] at h
  exact th_of h he rfl
/-- A loop that asks something of each place. -/
theorem th_all {step : Int → Option Int} {f : Int → Option α} (r1 r2 : Option α) (n : Nat) (P : Nat → Prop) (Q : Prop) [Decidable Q] (hQ : (∀ i, i < n → P i) ↔ Q) (hs : ∀ i : Nat, i < n → P i → step (i : Int) = some ((i : Int) + 1)) (hf : ∀ i : Nat, i < n → ¬ P i → step (i : Int) = none ∧ f (i : Int) = r1) (he : step (n : Int) = none ∧ f (n : Int) = r2) :
    th step 0 f = if Q then r2 else r1 := by
  by_cases h : ∀ i, i < n → P i
  · rw [if_pos (hQ.1 h)]
    have := th_run (step := step) (f := f) (fun i => (i : Int)) n (fun i hi => hs i hi (h i hi)) he.1
    simp only [Int.natCast_zero] at this
    rw [this]; exact he.2
  · rw [if_neg (fun g => h (hQ.2 g))]
    have hex : ∃ i, i < n ∧ ¬ P i := by
      refine Classical.byContradiction fun hn => h fun i hi => ?_
      exact Classical.byContradiction fun hp => hn ⟨i, hi, hp⟩
    have key : ∀ k, (∃ i, i < k ∧ i < n ∧ ¬ P i) → ∃ i, i < n ∧ ¬ P i ∧ ∀ j, j < i → P j := by
      intro k
      induction k with
      | zero => rintro ⟨i, hi, _⟩; omega
      | succ k ih =>
        rintro ⟨i, h1, h2, h3⟩
        by_cases hk : ∃ i, i < k ∧ i < n ∧ ¬ P i
        · exact ih hk
        · have hik : i = k := by
            rcases Nat.lt_or_ge i k with g | g
            · exact absurd ⟨i, g, h2, h3⟩ hk
            · omega
          refine ⟨i, h2, h3, fun j hj => ?_⟩
          exact Classical.byContradiction fun hp => hk ⟨j, by omega, by omega, hp⟩
    obtain ⟨i, h1, h2⟩ := hex
    obtain ⟨k, k1, k2, k3⟩ := key (i + 1) ⟨i, by omega, h1, h2⟩
    have := th_run (step := step) (f := f) (fun i => (i : Int)) k (fun i hi => hs i (by omega) (k3 i hi)) (hf k k1 k2).1
    simp only [Int.natCast_zero] at this
    rw [this]; exact (hf k k1 k2).2
end
theorem drop_at {α : Type} (d : α) (l : List α) (i : Nat) (h : i < l.length) : l.drop i = l.getD i d :: l.drop (i + 1) := by
  rw [List.drop_eq_getElem_cons h]; simp [h]
theorem take_at {α : Type} (d : α) (l : List α) (i : Nat) (h : i < l.length) : l.take (i + 1) = l.take i ++ [l.getD i d] := by
  rw [List.take_succ_eq_append_getElem h]; simp [h]
theorem getD_all {α : Type} (d : α) (l : List α) (p : α → Prop) : (∀ i, i < l.length → p (l.getD i d)) ↔ ∀ x ∈ l, p x := by
  refine ⟨fun h x hx => ?_, fun h i hi => h _ ?_⟩
  · obtain ⟨i, hi, e⟩ := List.getElem_of_mem hx
    have := h i hi
    rw [← e]
    simpa [hi] using this
  · simp [hi]
end Ab
end Go.Proofs.Ytadipihpgcelmaa
namespace Go.Proofs.Ytadipihpgcelmaa.Ab
open Go
abbrev xc (x : Ex) : List AV := [AV.i x.lba, AV.i x.len, AV.i x.kind, AV.i x.gen, AV.sl (List.length x.d) (List.map AV.y x.d)]
theorem kq {p : Prop} (h : p := by kernel_rfl) : p := h
end Go.Proofs.Ytadipihpgcelmaa.Ab
namespace Go.Proofs.Ytadipihpgcelmaa
open Go Go.Proofs.Ytadipihpgcelmaa.Ab
set_option linter.unusedVariables false
set_option linter.unusedSimpArgs false
set_option maxRecDepth 1000000
namespace Ab
noncomputable abbrev few_L0_I (l : List Ex) : St := (St.mk [(0, (AV.sl (List.length l) (List.flatMap Ex.cells l))), (2, (AV.b Bool.false)), (4, (AV.sl (List.length l) (List.flatMap Ex.cells l))), (5, (AV.i (↑(List.length l) : Int))), (6, (AV.b (decide ((↑(List.length l) : Int) > (70 : Int))))), (3, (AV.i 0))] 20 (AH.mk 0 ([] : List (Prod Nat AObj))) Bool.false)
noncomputable abbrev few_L0_S (l : List Ex) (s1 : Int) : St := (St.mk [(0, (AV.sl (List.length l) (List.flatMap Ex.cells l))), (6, (AV.b (decide ((↑(List.length l) : Int) > (70 : Int))))), (3, (AV.i s1))] 20 (AH.mk 0 ([] : List (Prod Nat AObj))) Bool.false)
noncomputable def few_L0_step (l : List Ex) (s1 : Int) : Option (Int) :=
 (tb ((decide (s1 < (↑(List.length l) : Int))))
  (tp ((((0 : Int) ≤ s1) ∧ (s1 < (↑(List.length l) : Int))))
   (tb ((decide ((↑(List.length (exAt l (Int.toNat s1)).d) : Int) > (3000 : Int))))
    none /- exit -/
    (some ((wr (s1 + (1 : Int)))))))
  none /- exit -/)
theorem few_L0_s0 (l : List Ex) (s1 : Int) (h2 : ((decide (s1 < (↑(List.length l) : Int)))) = true) (h2p : (s1 < (↑(List.length l) : Int))) (h3 : (((0 : Int) ≤ s1) ∧ (s1 < (↑(List.length l) : Int)))) (h4 : ((decide ((↑(List.length (exAt l (Int.toNat s1)).d) : Int) > (3000 : Int)))) = false) (h4p : ¬ ((↑(List.length (exAt l (Int.toNat s1)).d) : Int) > (3000 : Int))) : EvStep Try.prog cf 0 (lp Try.prog 10 0) (few_L0_S l s1) (few_L0_S l ((wr (s1 + (1 : Int))))) :=
  leafS vw_eq (k := 300) (r := []) (hs := hz [(4, [.yes]), (2, [.yes]), (1, [.yes, .val ((bys (exAt l (Int.toNat s1)).d))]), (2, [.no]), (3, [])]) (st1 := (St.mk [(0, (AV.sl (List.length l) (List.flatMap Ex.cells l))), (6, (AV.b (decide ((↑(List.length l) : Int) > (70 : Int))))), (3, (AV.i (wr (s1 + (1 : Int))))), (7, (AV.i s1)), (8, (AV.sl (List.length l) (List.flatMap Ex.cells l))), (9, (AV.i (↑(List.length l) : Int))), (10, (AV.b (decide (s1 < (↑(List.length l) : Int))))), (13, (AV.sl (List.length l) (List.flatMap Ex.cells l))), (14, (AV.i s1)), (15, (AV.ip (List.drop ((Int.toNat s1) * (5 : Nat)) (List.flatMap Ex.cells l)))), (16, (AV.ip (List.drop 4 (List.drop ((Int.toNat s1) * (5 : Nat)) (List.flatMap Ex.cells l))))), (17, (AV.sl (List.length (exAt l (Int.toNat s1)).d) (List.map AV.y (exAt l (Int.toNat s1)).d))), (18, (AV.i (↑(List.length (exAt l (Int.toNat s1)).d) : Int))), (19, (AV.b (decide ((↑(List.length (exAt l (Int.toNat s1)).d) : Int) > (3000 : Int))))), (11, (AV.i s1)), (12, (AV.i (wr (s1 + (1 : Int)))))] 20 (AH.mk 0 ([] : List (Prod Nat AObj))) Bool.false)) (ps := [((decide (s1 < (↑(List.length l) : Int)))) = true, (((0 : Int) ≤ s1) ∧ (s1 < (↑(List.length l) : Int))), ((1 : Nat) ≤ (List.length (List.drop 4 (List.drop ((Int.toNat s1) * (5 : Nat)) (List.flatMap Ex.cells l))))), (List.take 1 (List.drop 4 (List.drop ((Int.toNat s1) * (5 : Nat)) (List.flatMap Ex.cells l)))) = [(bys (exAt l (Int.toNat s1)).d)], ((decide ((↑(List.length (exAt l (Int.toNat s1)).d) : Int) > (3000 : Int)))) = false]) kq ⟨h2, h3, fq, (by first | exact ex_one _ _ _ _ bq rfl | exact ex_oneA _ _ _ _ bq rfl | (simpa using ex_one (l) ((Int.toNat s1)) 4 _ bq rfl) | ((try simp only [List.drop_drop]); rw [show ((4 : Nat) + ((Int.toNat s1) * (5 : Nat))) = ((Int.toNat s1)) * 5 + 4 by omega]; exact ex_oneA (l) ((Int.toNat s1)) 4 _ bq rfl)), h4, trivial⟩ (Nat.le_of_ble_eq_true rfl) (absB_of [] [] kq (.consn kq (.eqv tq rfl) (.consn kq (.eqv tq rfl) (.consn kq (.eqv tq rfl) .nil))) .nil)
theorem few_L0_ok (l : List Ex) (s1 zz : Int) : few_L0_step l s1 = some zz → EvStep Try.prog cf 0 (lp Try.prog 10 0) (few_L0_S l s1) (few_L0_S l zz) := by
  unfold few_L0_step
  refine tb_ok (fun h2 => ?_) (fun h2 => ?_)
  ·
    have h2p := of_decide_eq_true h2
    refine tp_ok (fun h3 => ?_)
    refine tb_ok (fun h4 => ?_) (fun h4 => ?_)
    ·
      have h4p := of_decide_eq_true h4
      exact fun e => nomatch e
    ·
      have h4p := of_decide_eq_false h4
      exact fun e => tl_ok (G := (fun zz => EvStep Try.prog cf 0 (lp Try.prog 10 0) (few_L0_S l s1) (few_L0_S l zz))) (few_L0_s0 l s1 h2 h2p h3 h4 h4p) e
  ·
    have h2p := of_decide_eq_false h2
    exact fun e => nomatch e
/-- Function 10, as it answers. -/
noncomputable def few (l : List Ex) : Option (Bool) :=
 (tb ((decide ((↑(List.length l) : Int) > (70 : Int))))
  (some (Bool.false))
  (th (few_L0_step l) ((0 : Int)) fun s1 =>
   (tb ((decide (s1 < (↑(List.length l) : Int))))
    (tp ((((0 : Int) ≤ s1) ∧ (s1 < (↑(List.length l) : Int))))
     (tb ((decide ((↑(List.length (exAt l (Int.toNat s1)).d) : Int) > (3000 : Int))))
      (some (Bool.false))
      none /- stop behind an operation -/))
    (some (Bool.true)))))
abbrev few_G (l : List Ex) (r : Bool) : Prop := EvFr Try.prog cf true 10 [exs (l)] (.b (r))
theorem few_l0 (l : List Ex) (h0 : ((decide ((↑(List.length l) : Int) > (70 : Int)))) = true) (h0p : ((↑(List.length l) : Int) > (70 : Int))) : few_G l (Bool.false) :=
  leafR vw_eq (k := 300) (r := []) (hs := hz [(4, [.yes]), (1, [])]) (raw := (AV.b Bool.false)) (ps := [((decide ((↑(List.length l) : Int) > (70 : Int)))) = true]) kq ⟨h0, trivial⟩ tq
theorem few_l1 (l : List Ex) (h0 : ((decide ((↑(List.length l) : Int) > (70 : Int)))) = false) (h0p : ¬ ((↑(List.length l) : Int) > (70 : Int))) (s1 : Int) (h1 : Runs (few_L0_step l) ((0 : Int)) s1) (h2 : ((decide (s1 < (↑(List.length l) : Int)))) = true) (h2p : (s1 < (↑(List.length l) : Int))) (h3 : (((0 : Int) ≤ s1) ∧ (s1 < (↑(List.length l) : Int)))) (h4 : ((decide ((↑(List.length (exAt l (Int.toNat s1)).d) : Int) > (3000 : Int)))) = true) (h4p : ((↑(List.length (exAt l (Int.toNat s1)).d) : Int) > (3000 : Int))) : few_G l (Bool.false) :=
  leafR vw_eq (k := 300) (r := []) (hs := hz [(4, [.no]), (1, [.head (few_L0_S l s1)]), (4, [.yes]), (2, [.yes]), (1, [.yes, .val ((bys (exAt l (Int.toNat s1)).d))]), (2, [.yes]), (1, [])]) (raw := (AV.b Bool.false)) (ps := [((decide ((↑(List.length l) : Int) > (70 : Int)))) = false, EvHead Try.prog cf (lp Try.prog 10 0) (few_L0_I l) (few_L0_S l s1), ((decide (s1 < (↑(List.length l) : Int)))) = true, (((0 : Int) ≤ s1) ∧ (s1 < (↑(List.length l) : Int))), ((1 : Nat) ≤ (List.length (List.drop 4 (List.drop ((Int.toNat s1) * (5 : Nat)) (List.flatMap Ex.cells l))))), (List.take 1 (List.drop 4 (List.drop ((Int.toNat s1) * (5 : Nat)) (List.flatMap Ex.cells l)))) = [(bys (exAt l (Int.toNat s1)).d)], ((decide ((↑(List.length (exAt l (Int.toNat s1)).d) : Int) > (3000 : Int)))) = true]) kq ⟨h0, (EvHead.of (few_L0_ok l) (absB_of [] [] kq (.consn kq (.eqv tq rfl) (.consn kq (.eqv tq rfl) (.consn kq (.eqv tq rfl) .nil))) .nil) h1), h2, h3, fq, (by first | exact ex_one _ _ _ _ bq rfl | exact ex_oneA _ _ _ _ bq rfl | (simpa using ex_one (l) ((Int.toNat s1)) 4 _ bq rfl) | ((try simp only [List.drop_drop]); rw [show ((4 : Nat) + ((Int.toNat s1) * (5 : Nat))) = ((Int.toNat s1)) * 5 + 4 by omega]; exact ex_oneA (l) ((Int.toNat s1)) 4 _ bq rfl)), h4, trivial⟩ tq
theorem few_l2 (l : List Ex) (h0 : ((decide ((↑(List.length l) : Int) > (70 : Int)))) = false) (h0p : ¬ ((↑(List.length l) : Int) > (70 : Int))) (s1 : Int) (h1 : Runs (few_L0_step l) ((0 : Int)) s1) (h2 : ((decide (s1 < (↑(List.length l) : Int)))) = false) (h2p : ¬ (s1 < (↑(List.length l) : Int))) : few_G l (Bool.true) :=
  leafR vw_eq (k := 300) (r := []) (hs := hz [(4, [.no]), (1, [.head (few_L0_S l s1)]), (4, [.no]), (1, [])]) (raw := (AV.b Bool.true)) (ps := [((decide ((↑(List.length l) : Int) > (70 : Int)))) = false, EvHead Try.prog cf (lp Try.prog 10 0) (few_L0_I l) (few_L0_S l s1), ((decide (s1 < (↑(List.length l) : Int)))) = false]) kq ⟨h0, (EvHead.of (few_L0_ok l) (absB_of [] [] kq (.consn kq (.eqv tq rfl) (.consn kq (.eqv tq rfl) (.consn kq (.eqv tq rfl) .nil))) .nil) h1), h2, trivial⟩ tq
theorem few_ok (l : List Ex) (r : Bool) : few l = some r → few_G l r := by
  unfold few
  refine tb_ok (fun h0 => ?_) (fun h0 => ?_)
  ·
    have h0p := of_decide_eq_true h0
    exact fun e => tl_ok (G := few_G l) (few_l0 l h0 h0p) e
  ·
    have h0p := of_decide_eq_false h0
    refine th_ok (fun s1 h1 => ?_)
    refine tb_ok (fun h2 => ?_) (fun h2 => ?_)
    ·
      have h2p := of_decide_eq_true h2
      refine tp_ok (fun h3 => ?_)
      refine tb_ok (fun h4 => ?_) (fun h4 => ?_)
      ·
        have h4p := of_decide_eq_true h4
        exact fun e => tl_ok (G := few_G l) (few_l1 l h0 h0p s1 h1 h2 h2p h3 h4 h4p) e
      ·
        have h4p := of_decide_eq_false h4
        exact fun e => nomatch e
    ·
      have h2p := of_decide_eq_false h2
      exact fun e => tl_ok (G := few_G l) (few_l2 l h0 h0p s1 h1 h2 h2p) e
/-- Function 45, as it answers. -/
noncomputable def eCheck (x : Ex) : Option (Bool) :=
 (tb ((decide (x.lba ≥ (0 : Int))))
  (tb ((decide (x.lba ≤ (64 : Int))))
   (tb ((decide (x.len ≥ (1 : Int))))
    (tb ((decide (x.len ≤ (wr ((64 : Int) - x.lba)))))
     (tb ((decide (x.kind ≥ (0 : Int))))
      (tb ((decide (x.kind ≤ (2 : Int))))
       (tb ((decide (x.gen ≥ (0 : Int))))
        (tb ((decide (x.gen ≤ (2147483647 : Int))))
         (tb ((x.kind == (2 : Int)))
          (some (((↑(List.length x.d) : Int) == (wr (x.len * (32 : Int))))))
          (some (((↑(List.length x.d) : Int) == (0 : Int)))))
         (some (Bool.false)))
        (some (Bool.false)))
       (some (Bool.false)))
      (some (Bool.false)))
     (some (Bool.false)))
    (some (Bool.false)))
   (some (Bool.false)))
  (some (Bool.false)))
abbrev eCheck_G (x : Ex) (r : Bool) : Prop := EvFr Try.prog cf true 45 [Ex.av (x)] (.b (r))
theorem eCheck_l0 (x : Ex) (h0 : ((decide (x.lba ≥ (0 : Int)))) = true) (h0p : (x.lba ≥ (0 : Int))) (h1 : ((decide (x.lba ≤ (64 : Int)))) = true) (h1p : (x.lba ≤ (64 : Int))) (h2 : ((decide (x.len ≥ (1 : Int)))) = true) (h2p : (x.len ≥ (1 : Int))) (h3 : ((decide (x.len ≤ (wr ((64 : Int) - x.lba))))) = true) (h3p : (x.len ≤ (wr ((64 : Int) - x.lba)))) (h4 : ((decide (x.kind ≥ (0 : Int)))) = true) (h4p : (x.kind ≥ (0 : Int))) (h5 : ((decide (x.kind ≤ (2 : Int)))) = true) (h5p : (x.kind ≤ (2 : Int))) (h6 : ((decide (x.gen ≥ (0 : Int)))) = true) (h6p : (x.gen ≥ (0 : Int))) (h7 : ((decide (x.gen ≤ (2147483647 : Int)))) = true) (h7p : (x.gen ≤ (2147483647 : Int))) (h8 : ((x.kind == (2 : Int))) = true) (h8p : (x.kind = (2 : Int))) : eCheck_G x (((↑(List.length x.d) : Int) == (wr (x.len * (32 : Int))))) :=
  leafR vw_eq (k := 300) (r := []) (hs := hz [(12, [.yes]), (1, [.yes]), (1, [.yes]), (1, [.yes]), (2, [.yes]), (1, [.yes]), (2, [.yes]), (1, [.yes]), (2, [.yes]), (1, [.yes]), (7, [.yes]), (1, [.yes]), (1, [.yes]), (1, [.yes]), (1, [.yes]), (1, [.yes]), (1, [.yes]), (2, [.yes]), (7, [.yes]), (1, [.yes]), (1, [.yes]), (1, [.yes]), (1, [.yes]), (1, [.yes]), (1, [.yes]), (2, [.yes]), (7, [.yes]), (1, [.yes]), (1, [.yes]), (1, [.yes]), (1, [.yes]), (1, [.yes]), (1, [.yes]), (2, [.yes]), (1, [.yes]), (1, [.cells ((xc x)), .yes]), (8, [.yes]), (5, [.yes]), (1, [.yes]), (1, [.yes])]) (raw := (AV.b ((↑(List.length x.d) : Int) == (wr (x.len * (32 : Int)))))) (ps := [((decide (x.lba ≥ (0 : Int)))) = true, ((decide (x.lba ≥ (0 : Int)))) = true, ((decide (x.lba ≥ (0 : Int)))) = true, ((decide (x.lba ≥ (0 : Int)))) = true, ((decide (x.lba ≤ (64 : Int)))) = true, ((decide (x.lba ≤ (64 : Int)))) = true, ((decide (x.lba ≤ (64 : Int)))) = true, ((decide (x.lba ≤ (64 : Int)))) = true, ((decide (x.lba ≤ (64 : Int)))) = true, ((decide (x.lba ≤ (64 : Int)))) = true, ((decide (x.len ≥ (1 : Int)))) = true, ((decide (x.len ≥ (1 : Int)))) = true, ((decide (x.len ≥ (1 : Int)))) = true, ((decide (x.len ≥ (1 : Int)))) = true, ((decide (x.lba ≤ (64 : Int)))) = true, ((decide (x.len ≤ (wr ((64 : Int) - x.lba))))) = true, ((decide (x.len ≤ (wr ((64 : Int) - x.lba))))) = true, ((decide (x.len ≤ (wr ((64 : Int) - x.lba))))) = true, ((decide (x.kind ≥ (0 : Int)))) = true, ((decide (x.kind ≥ (0 : Int)))) = true, ((decide (x.kind ≥ (0 : Int)))) = true, ((decide (x.kind ≥ (0 : Int)))) = true, ((decide (x.len ≤ (wr ((64 : Int) - x.lba))))) = true, ((decide (x.kind ≤ (2 : Int)))) = true, ((decide (x.kind ≤ (2 : Int)))) = true, ((decide (x.kind ≤ (2 : Int)))) = true, ((decide (x.gen ≥ (0 : Int)))) = true, ((decide (x.gen ≥ (0 : Int)))) = true, ((decide (x.gen ≥ (0 : Int)))) = true, ((decide (x.gen ≥ (0 : Int)))) = true, ((decide (x.kind ≤ (2 : Int)))) = true, ((decide (x.gen ≤ (2147483647 : Int)))) = true, ((decide (x.gen ≤ (2147483647 : Int)))) = true, ((decide (x.gen ≤ (2147483647 : Int)))) = true, ((decide (x.gen ≤ (2147483647 : Int)))) = true, ((xc x) : List AV) = (xc x), ((decide (x.gen ≤ (2147483647 : Int)))) = true, ((x.kind == (2 : Int))) = true, ((decide (x.gen ≤ (2147483647 : Int)))) = true, ((decide (x.gen ≤ (2147483647 : Int)))) = true, orderOk (rg Try.prog 45 0) = true ∧ allOk (Region.before (rg Try.prog 45 0)) [] 0 [(some [], some []), (some [0], some []), (some [], some []), (some [], some []), (some [], some []), (some [0], some []), (some [], some []), (some [0], some []), (some [], some []), (some [], some []), (some [], some []), (some [], some []), (some [], some []), (some [0], some []), (some [], some []), (some [], some []), (some [], some []), (some [], some []), (some [0], some []), (some [], some []), (some [], some []), (some [], some []), (some [], some []), (some [0], some []), (some [], some []), (some [0], some []), (some [], some []), (some [], some []), (some [], some []), (some [], some [])] = true]) kq ⟨h0, h0, h0, h0, h1, h1, h1, h1, h1, h1, h2, h2, h2, h2, h1, h3, h3, h3, h4, h4, h4, h4, h3, h5, h5, h5, h6, h6, h6, h6, h5, h7, h7, h7, h7, rfl, h7, h8, h7, h7, (ord_of ord_45_0 bef_45_0 kq), trivial⟩ tq
theorem eCheck_l1 (x : Ex) (h0 : ((decide (x.lba ≥ (0 : Int)))) = true) (h0p : (x.lba ≥ (0 : Int))) (h1 : ((decide (x.lba ≤ (64 : Int)))) = true) (h1p : (x.lba ≤ (64 : Int))) (h2 : ((decide (x.len ≥ (1 : Int)))) = true) (h2p : (x.len ≥ (1 : Int))) (h3 : ((decide (x.len ≤ (wr ((64 : Int) - x.lba))))) = true) (h3p : (x.len ≤ (wr ((64 : Int) - x.lba)))) (h4 : ((decide (x.kind ≥ (0 : Int)))) = true) (h4p : (x.kind ≥ (0 : Int))) (h5 : ((decide (x.kind ≤ (2 : Int)))) = true) (h5p : (x.kind ≤ (2 : Int))) (h6 : ((decide (x.gen ≥ (0 : Int)))) = true) (h6p : (x.gen ≥ (0 : Int))) (h7 : ((decide (x.gen ≤ (2147483647 : Int)))) = true) (h7p : (x.gen ≤ (2147483647 : Int))) (h8 : ((x.kind == (2 : Int))) = false) (h8p : ¬ (x.kind = (2 : Int))) : eCheck_G x (((↑(List.length x.d) : Int) == (0 : Int))) :=
  leafR vw_eq (k := 300) (r := []) (hs := hz [(12, [.yes]), (1, [.yes]), (1, [.yes]), (1, [.yes]), (2, [.yes]), (1, [.yes]), (2, [.yes]), (1, [.yes]), (2, [.yes]), (1, [.yes]), (7, [.yes]), (1, [.yes]), (1, [.yes]), (1, [.yes]), (1, [.yes]), (1, [.yes]), (1, [.yes]), (2, [.yes]), (7, [.yes]), (1, [.yes]), (1, [.yes]), (1, [.yes]), (1, [.yes]), (1, [.yes]), (1, [.yes]), (2, [.yes]), (7, [.yes]), (1, [.yes]), (1, [.yes]), (1, [.yes]), (1, [.yes]), (1, [.yes]), (1, [.yes]), (2, [.yes]), (1, [.yes]), (1, [.cells ((xc x)), .yes]), (8, [.no]), (1, [.yes]), (1, [.yes]), (1, [.yes])]) (raw := (AV.b ((↑(List.length x.d) : Int) == (0 : Int)))) (ps := [((decide (x.lba ≥ (0 : Int)))) = true, ((decide (x.lba ≥ (0 : Int)))) = true, ((decide (x.lba ≥ (0 : Int)))) = true, ((decide (x.lba ≥ (0 : Int)))) = true, ((decide (x.lba ≤ (64 : Int)))) = true, ((decide (x.lba ≤ (64 : Int)))) = true, ((decide (x.lba ≤ (64 : Int)))) = true, ((decide (x.lba ≤ (64 : Int)))) = true, ((decide (x.lba ≤ (64 : Int)))) = true, ((decide (x.lba ≤ (64 : Int)))) = true, ((decide (x.len ≥ (1 : Int)))) = true, ((decide (x.len ≥ (1 : Int)))) = true, ((decide (x.len ≥ (1 : Int)))) = true, ((decide (x.len ≥ (1 : Int)))) = true, ((decide (x.lba ≤ (64 : Int)))) = true, ((decide (x.len ≤ (wr ((64 : Int) - x.lba))))) = true, ((decide (x.len ≤ (wr ((64 : Int) - x.lba))))) = true, ((decide (x.len ≤ (wr ((64 : Int) - x.lba))))) = true, ((decide (x.kind ≥ (0 : Int)))) = true, ((decide (x.kind ≥ (0 : Int)))) = true, ((decide (x.kind ≥ (0 : Int)))) = true, ((decide (x.kind ≥ (0 : Int)))) = true, ((decide (x.len ≤ (wr ((64 : Int) - x.lba))))) = true, ((decide (x.kind ≤ (2 : Int)))) = true, ((decide (x.kind ≤ (2 : Int)))) = true, ((decide (x.kind ≤ (2 : Int)))) = true, ((decide (x.gen ≥ (0 : Int)))) = true, ((decide (x.gen ≥ (0 : Int)))) = true, ((decide (x.gen ≥ (0 : Int)))) = true, ((decide (x.gen ≥ (0 : Int)))) = true, ((decide (x.kind ≤ (2 : Int)))) = true, ((decide (x.gen ≤ (2147483647 : Int)))) = true, ((decide (x.gen ≤ (2147483647 : Int)))) = true, ((decide (x.gen ≤ (2147483647 : Int)))) = true, ((decide (x.gen ≤ (2147483647 : Int)))) = true, ((xc x) : List AV) = (xc x), ((decide (x.gen ≤ (2147483647 : Int)))) = true, ((x.kind == (2 : Int))) = false, ((decide (x.gen ≤ (2147483647 : Int)))) = true, ((decide (x.gen ≤ (2147483647 : Int)))) = true, orderOk (rg Try.prog 45 0) = true ∧ allOk (Region.before (rg Try.prog 45 0)) [] 0 [(some [], some []), (some [0], some []), (some [], some []), (some [], some []), (some [], some []), (some [0], some []), (some [], some []), (some [0], some []), (some [], some []), (some [], some []), (some [], some []), (some [], some []), (some [], some []), (some [0], some []), (some [], some []), (some [], some []), (some [], some []), (some [], some []), (some [0], some []), (some [], some []), (some [], some []), (some [], some []), (some [], some []), (some [0], some []), (some [], some []), (some [0], some []), (some [], some []), (some [], some []), (some [], some []), (some [], some [])] = true]) kq ⟨h0, h0, h0, h0, h1, h1, h1, h1, h1, h1, h2, h2, h2, h2, h1, h3, h3, h3, h4, h4, h4, h4, h3, h5, h5, h5, h6, h6, h6, h6, h5, h7, h7, h7, h7, rfl, h7, h8, h7, h7, (ord_of ord_45_0 bef_45_0 kq), trivial⟩ tq
theorem eCheck_l2 (x : Ex) (h0 : ((decide (x.lba ≥ (0 : Int)))) = true) (h0p : (x.lba ≥ (0 : Int))) (h1 : ((decide (x.lba ≤ (64 : Int)))) = true) (h1p : (x.lba ≤ (64 : Int))) (h2 : ((decide (x.len ≥ (1 : Int)))) = true) (h2p : (x.len ≥ (1 : Int))) (h3 : ((decide (x.len ≤ (wr ((64 : Int) - x.lba))))) = true) (h3p : (x.len ≤ (wr ((64 : Int) - x.lba)))) (h4 : ((decide (x.kind ≥ (0 : Int)))) = true) (h4p : (x.kind ≥ (0 : Int))) (h5 : ((decide (x.kind ≤ (2 : Int)))) = true) (h5p : (x.kind ≤ (2 : Int))) (h6 : ((decide (x.gen ≥ (0 : Int)))) = true) (h6p : (x.gen ≥ (0 : Int))) (h7 : ((decide (x.gen ≤ (2147483647 : Int)))) = false) (h7p : ¬ (x.gen ≤ (2147483647 : Int))) : eCheck_G x (Bool.false) :=
  leafR vw_eq (k := 300) (r := []) (hs := hz [(12, [.yes]), (1, [.yes]), (1, [.yes]), (1, [.yes]), (2, [.yes]), (1, [.yes]), (2, [.yes]), (1, [.yes]), (2, [.yes]), (1, [.yes]), (7, [.yes]), (1, [.yes]), (1, [.yes]), (1, [.yes]), (1, [.yes]), (1, [.yes]), (1, [.yes]), (2, [.yes]), (7, [.yes]), (1, [.yes]), (1, [.yes]), (1, [.yes]), (1, [.yes]), (1, [.yes]), (1, [.yes]), (2, [.yes]), (7, [.yes]), (1, [.yes]), (1, [.yes]), (1, [.yes]), (1, [.yes]), (1, [.no, .no, .no, .no, .no, .no, .no]), (1, [.yes])]) (raw := (AV.b Bool.false)) (ps := [((decide (x.lba ≥ (0 : Int)))) = true, ((decide (x.lba ≥ (0 : Int)))) = true, ((decide (x.lba ≥ (0 : Int)))) = true, ((decide (x.lba ≥ (0 : Int)))) = true, ((decide (x.lba ≤ (64 : Int)))) = true, ((decide (x.lba ≤ (64 : Int)))) = true, ((decide (x.lba ≤ (64 : Int)))) = true, ((decide (x.lba ≤ (64 : Int)))) = true, ((decide (x.lba ≤ (64 : Int)))) = true, ((decide (x.lba ≤ (64 : Int)))) = true, ((decide (x.len ≥ (1 : Int)))) = true, ((decide (x.len ≥ (1 : Int)))) = true, ((decide (x.len ≥ (1 : Int)))) = true, ((decide (x.len ≥ (1 : Int)))) = true, ((decide (x.lba ≤ (64 : Int)))) = true, ((decide (x.len ≤ (wr ((64 : Int) - x.lba))))) = true, ((decide (x.len ≤ (wr ((64 : Int) - x.lba))))) = true, ((decide (x.len ≤ (wr ((64 : Int) - x.lba))))) = true, ((decide (x.kind ≥ (0 : Int)))) = true, ((decide (x.kind ≥ (0 : Int)))) = true, ((decide (x.kind ≥ (0 : Int)))) = true, ((decide (x.kind ≥ (0 : Int)))) = true, ((decide (x.len ≤ (wr ((64 : Int) - x.lba))))) = true, ((decide (x.kind ≤ (2 : Int)))) = true, ((decide (x.kind ≤ (2 : Int)))) = true, ((decide (x.kind ≤ (2 : Int)))) = true, ((decide (x.gen ≥ (0 : Int)))) = true, ((decide (x.gen ≥ (0 : Int)))) = true, ((decide (x.gen ≥ (0 : Int)))) = true, ((decide (x.gen ≥ (0 : Int)))) = true, ((decide (x.kind ≤ (2 : Int)))) = true, ((decide (x.gen ≤ (2147483647 : Int)))) = false, ((decide (x.gen ≤ (2147483647 : Int)))) = false, ((decide (x.gen ≤ (2147483647 : Int)))) = false, ((decide (x.gen ≤ (2147483647 : Int)))) = false, ((decide (x.gen ≤ (2147483647 : Int)))) = false, ((decide (x.gen ≤ (2147483647 : Int)))) = false, ((decide (x.gen ≤ (2147483647 : Int)))) = false, orderOk (rg Try.prog 45 0) = true ∧ allOk (Region.before (rg Try.prog 45 0)) [] 0 [(some [], some []), (some [0], some []), (some [], some []), (some [], some []), (some [], some []), (some [0], some []), (some [], some []), (some [0], some []), (some [], some []), (some [], some []), (some [], some []), (some [], some []), (some [], some []), (some [0], some []), (some [], some []), (some [], some []), (some [], some []), (some [], some []), (some [0], some []), (some [], some []), (some [], some []), (some [], some []), (some [], some []), (some [], some []), (some [], some []), (some [], some []), (some [], some []), (some [], some []), (some [], some []), (some [], some [])] = true]) kq ⟨h0, h0, h0, h0, h1, h1, h1, h1, h1, h1, h2, h2, h2, h2, h1, h3, h3, h3, h4, h4, h4, h4, h3, h5, h5, h5, h6, h6, h6, h6, h5, h7, h7, h7, h7, h7, h7, h7, (ord_of ord_45_0 bef_45_0 kq), trivial⟩ tq
theorem eCheck_l3 (x : Ex) (h0 : ((decide (x.lba ≥ (0 : Int)))) = true) (h0p : (x.lba ≥ (0 : Int))) (h1 : ((decide (x.lba ≤ (64 : Int)))) = true) (h1p : (x.lba ≤ (64 : Int))) (h2 : ((decide (x.len ≥ (1 : Int)))) = true) (h2p : (x.len ≥ (1 : Int))) (h3 : ((decide (x.len ≤ (wr ((64 : Int) - x.lba))))) = true) (h3p : (x.len ≤ (wr ((64 : Int) - x.lba)))) (h4 : ((decide (x.kind ≥ (0 : Int)))) = true) (h4p : (x.kind ≥ (0 : Int))) (h5 : ((decide (x.kind ≤ (2 : Int)))) = true) (h5p : (x.kind ≤ (2 : Int))) (h6 : ((decide (x.gen ≥ (0 : Int)))) = false) (h6p : ¬ (x.gen ≥ (0 : Int))) : eCheck_G x (Bool.false) :=
  leafR vw_eq (k := 300) (r := []) (hs := hz [(12, [.yes]), (1, [.yes]), (1, [.yes]), (1, [.yes]), (2, [.yes]), (1, [.yes]), (2, [.yes]), (1, [.yes]), (2, [.yes]), (1, [.yes]), (7, [.yes]), (1, [.yes]), (1, [.yes]), (1, [.yes]), (1, [.yes]), (1, [.yes]), (1, [.yes]), (2, [.yes]), (7, [.yes]), (1, [.yes]), (1, [.yes]), (1, [.yes]), (1, [.yes]), (1, [.yes]), (1, [.yes]), (2, [.yes]), (7, [.no, .no, .no, .no]), (1, [.yes]), (9, [.yes])]) (raw := (AV.b Bool.false)) (ps := [((decide (x.lba ≥ (0 : Int)))) = true, ((decide (x.lba ≥ (0 : Int)))) = true, ((decide (x.lba ≥ (0 : Int)))) = true, ((decide (x.lba ≥ (0 : Int)))) = true, ((decide (x.lba ≤ (64 : Int)))) = true, ((decide (x.lba ≤ (64 : Int)))) = true, ((decide (x.lba ≤ (64 : Int)))) = true, ((decide (x.lba ≤ (64 : Int)))) = true, ((decide (x.lba ≤ (64 : Int)))) = true, ((decide (x.lba ≤ (64 : Int)))) = true, ((decide (x.len ≥ (1 : Int)))) = true, ((decide (x.len ≥ (1 : Int)))) = true, ((decide (x.len ≥ (1 : Int)))) = true, ((decide (x.len ≥ (1 : Int)))) = true, ((decide (x.lba ≤ (64 : Int)))) = true, ((decide (x.len ≤ (wr ((64 : Int) - x.lba))))) = true, ((decide (x.len ≤ (wr ((64 : Int) - x.lba))))) = true, ((decide (x.len ≤ (wr ((64 : Int) - x.lba))))) = true, ((decide (x.kind ≥ (0 : Int)))) = true, ((decide (x.kind ≥ (0 : Int)))) = true, ((decide (x.kind ≥ (0 : Int)))) = true, ((decide (x.kind ≥ (0 : Int)))) = true, ((decide (x.len ≤ (wr ((64 : Int) - x.lba))))) = true, ((decide (x.kind ≤ (2 : Int)))) = true, ((decide (x.kind ≤ (2 : Int)))) = true, ((decide (x.kind ≤ (2 : Int)))) = true, ((decide (x.gen ≥ (0 : Int)))) = false, ((decide (x.gen ≥ (0 : Int)))) = false, ((decide (x.gen ≥ (0 : Int)))) = false, ((decide (x.gen ≥ (0 : Int)))) = false, ((decide (x.kind ≤ (2 : Int)))) = true, orderOk (rg Try.prog 45 0) = true ∧ allOk (Region.before (rg Try.prog 45 0)) [] 0 [(some [], some []), (some [0], some []), (some [], some []), (some [], some []), (some [], some []), (some [0], some []), (some [], some []), (some [0], some []), (some [], some []), (some [], some []), (some [], some []), (some [], some []), (some [], some []), (some [0], some []), (some [], some []), (some [], some []), (some [], some []), (some [], some []), (some [0], some []), (some [], some []), (some [], some []), (some [], some []), (some [], some []), (some [], some []), (some [], some []), (some [], some []), (some [], some []), (some [], some []), (some [], some []), (some [], some [])] = true]) kq ⟨h0, h0, h0, h0, h1, h1, h1, h1, h1, h1, h2, h2, h2, h2, h1, h3, h3, h3, h4, h4, h4, h4, h3, h5, h5, h5, h6, h6, h6, h6, h5, (ord_of ord_45_0 bef_45_0 kq), trivial⟩ tq
theorem eCheck_l4 (x : Ex) (h0 : ((decide (x.lba ≥ (0 : Int)))) = true) (h0p : (x.lba ≥ (0 : Int))) (h1 : ((decide (x.lba ≤ (64 : Int)))) = true) (h1p : (x.lba ≤ (64 : Int))) (h2 : ((decide (x.len ≥ (1 : Int)))) = true) (h2p : (x.len ≥ (1 : Int))) (h3 : ((decide (x.len ≤ (wr ((64 : Int) - x.lba))))) = true) (h3p : (x.len ≤ (wr ((64 : Int) - x.lba)))) (h4 : ((decide (x.kind ≥ (0 : Int)))) = true) (h4p : (x.kind ≥ (0 : Int))) (h5 : ((decide (x.kind ≤ (2 : Int)))) = false) (h5p : ¬ (x.kind ≤ (2 : Int))) : eCheck_G x (Bool.false) :=
  leafR vw_eq (k := 300) (r := []) (hs := hz [(12, [.yes]), (1, [.yes]), (1, [.yes]), (1, [.yes]), (2, [.yes]), (1, [.yes]), (2, [.yes]), (1, [.yes]), (2, [.yes]), (1, [.yes]), (7, [.yes]), (1, [.yes]), (1, [.yes]), (1, [.yes]), (1, [.yes]), (1, [.yes]), (1, [.yes]), (2, [.yes]), (7, [.yes]), (1, [.yes]), (1, [.yes]), (1, [.yes]), (1, [.yes]), (1, [.no, .no, .no, .no]), (9, [.yes])]) (raw := (AV.b Bool.false)) (ps := [((decide (x.lba ≥ (0 : Int)))) = true, ((decide (x.lba ≥ (0 : Int)))) = true, ((decide (x.lba ≥ (0 : Int)))) = true, ((decide (x.lba ≥ (0 : Int)))) = true, ((decide (x.lba ≤ (64 : Int)))) = true, ((decide (x.lba ≤ (64 : Int)))) = true, ((decide (x.lba ≤ (64 : Int)))) = true, ((decide (x.lba ≤ (64 : Int)))) = true, ((decide (x.lba ≤ (64 : Int)))) = true, ((decide (x.lba ≤ (64 : Int)))) = true, ((decide (x.len ≥ (1 : Int)))) = true, ((decide (x.len ≥ (1 : Int)))) = true, ((decide (x.len ≥ (1 : Int)))) = true, ((decide (x.len ≥ (1 : Int)))) = true, ((decide (x.lba ≤ (64 : Int)))) = true, ((decide (x.len ≤ (wr ((64 : Int) - x.lba))))) = true, ((decide (x.len ≤ (wr ((64 : Int) - x.lba))))) = true, ((decide (x.len ≤ (wr ((64 : Int) - x.lba))))) = true, ((decide (x.kind ≥ (0 : Int)))) = true, ((decide (x.kind ≥ (0 : Int)))) = true, ((decide (x.kind ≥ (0 : Int)))) = true, ((decide (x.kind ≥ (0 : Int)))) = true, ((decide (x.len ≤ (wr ((64 : Int) - x.lba))))) = true, ((decide (x.kind ≤ (2 : Int)))) = false, ((decide (x.kind ≤ (2 : Int)))) = false, ((decide (x.kind ≤ (2 : Int)))) = false, ((decide (x.kind ≤ (2 : Int)))) = false, orderOk (rg Try.prog 45 0) = true ∧ allOk (Region.before (rg Try.prog 45 0)) [] 0 [(some [], some []), (some [0], some []), (some [], some []), (some [], some []), (some [], some []), (some [0], some []), (some [], some []), (some [0], some []), (some [], some []), (some [], some []), (some [], some []), (some [], some []), (some [], some []), (some [0], some []), (some [], some []), (some [], some []), (some [], some []), (some [], some []), (some [], some []), (some [], some []), (some [], some []), (some [], some []), (some [], some []), (some [], some []), (some [], some []), (some [], some []), (some [], some []), (some [], some []), (some [], some []), (some [], some [])] = true]) kq ⟨h0, h0, h0, h0, h1, h1, h1, h1, h1, h1, h2, h2, h2, h2, h1, h3, h3, h3, h4, h4, h4, h4, h3, h5, h5, h5, h5, (ord_of ord_45_0 bef_45_0 kq), trivial⟩ tq
theorem eCheck_l5 (x : Ex) (h0 : ((decide (x.lba ≥ (0 : Int)))) = true) (h0p : (x.lba ≥ (0 : Int))) (h1 : ((decide (x.lba ≤ (64 : Int)))) = true) (h1p : (x.lba ≤ (64 : Int))) (h2 : ((decide (x.len ≥ (1 : Int)))) = true) (h2p : (x.len ≥ (1 : Int))) (h3 : ((decide (x.len ≤ (wr ((64 : Int) - x.lba))))) = true) (h3p : (x.len ≤ (wr ((64 : Int) - x.lba)))) (h4 : ((decide (x.kind ≥ (0 : Int)))) = false) (h4p : ¬ (x.kind ≥ (0 : Int))) : eCheck_G x (Bool.false) :=
  leafR vw_eq (k := 300) (r := []) (hs := hz [(12, [.yes]), (1, [.yes]), (1, [.yes]), (1, [.yes]), (2, [.yes]), (1, [.yes]), (2, [.yes]), (1, [.yes]), (2, [.yes]), (1, [.yes]), (7, [.yes]), (1, [.yes]), (1, [.yes]), (1, [.yes]), (1, [.yes]), (1, [.yes]), (1, [.yes]), (2, [.yes]), (7, [.no, .no, .no, .no]), (1, [.yes]), (14, [.yes])]) (raw := (AV.b Bool.false)) (ps := [((decide (x.lba ≥ (0 : Int)))) = true, ((decide (x.lba ≥ (0 : Int)))) = true, ((decide (x.lba ≥ (0 : Int)))) = true, ((decide (x.lba ≥ (0 : Int)))) = true, ((decide (x.lba ≤ (64 : Int)))) = true, ((decide (x.lba ≤ (64 : Int)))) = true, ((decide (x.lba ≤ (64 : Int)))) = true, ((decide (x.lba ≤ (64 : Int)))) = true, ((decide (x.lba ≤ (64 : Int)))) = true, ((decide (x.lba ≤ (64 : Int)))) = true, ((decide (x.len ≥ (1 : Int)))) = true, ((decide (x.len ≥ (1 : Int)))) = true, ((decide (x.len ≥ (1 : Int)))) = true, ((decide (x.len ≥ (1 : Int)))) = true, ((decide (x.lba ≤ (64 : Int)))) = true, ((decide (x.len ≤ (wr ((64 : Int) - x.lba))))) = true, ((decide (x.len ≤ (wr ((64 : Int) - x.lba))))) = true, ((decide (x.len ≤ (wr ((64 : Int) - x.lba))))) = true, ((decide (x.kind ≥ (0 : Int)))) = false, ((decide (x.kind ≥ (0 : Int)))) = false, ((decide (x.kind ≥ (0 : Int)))) = false, ((decide (x.kind ≥ (0 : Int)))) = false, ((decide (x.len ≤ (wr ((64 : Int) - x.lba))))) = true, orderOk (rg Try.prog 45 0) = true ∧ allOk (Region.before (rg Try.prog 45 0)) [] 0 [(some [], some []), (some [0], some []), (some [], some []), (some [], some []), (some [], some []), (some [0], some []), (some [], some []), (some [0], some []), (some [], some []), (some [], some []), (some [], some []), (some [], some []), (some [], some []), (some [0], some []), (some [], some []), (some [], some []), (some [], some []), (some [], some []), (some [], some []), (some [], some []), (some [], some []), (some [], some []), (some [], some []), (some [], some []), (some [], some []), (some [], some []), (some [], some []), (some [], some []), (some [], some []), (some [], some [])] = true]) kq ⟨h0, h0, h0, h0, h1, h1, h1, h1, h1, h1, h2, h2, h2, h2, h1, h3, h3, h3, h4, h4, h4, h4, h3, (ord_of ord_45_0 bef_45_0 kq), trivial⟩ tq
theorem eCheck_l6 (x : Ex) (h0 : ((decide (x.lba ≥ (0 : Int)))) = true) (h0p : (x.lba ≥ (0 : Int))) (h1 : ((decide (x.lba ≤ (64 : Int)))) = true) (h1p : (x.lba ≤ (64 : Int))) (h2 : ((decide (x.len ≥ (1 : Int)))) = true) (h2p : (x.len ≥ (1 : Int))) (h3 : ((decide (x.len ≤ (wr ((64 : Int) - x.lba))))) = false) (h3p : ¬ (x.len ≤ (wr ((64 : Int) - x.lba)))) : eCheck_G x (Bool.false) :=
  leafR vw_eq (k := 300) (r := []) (hs := hz [(12, [.yes]), (1, [.yes]), (1, [.yes]), (1, [.yes]), (2, [.yes]), (1, [.yes]), (2, [.yes]), (1, [.yes]), (2, [.yes]), (1, [.yes]), (7, [.yes]), (1, [.yes]), (1, [.yes]), (1, [.yes]), (1, [.yes]), (1, [.no, .no, .no, .no]), (14, [.yes])]) (raw := (AV.b Bool.false)) (ps := [((decide (x.lba ≥ (0 : Int)))) = true, ((decide (x.lba ≥ (0 : Int)))) = true, ((decide (x.lba ≥ (0 : Int)))) = true, ((decide (x.lba ≥ (0 : Int)))) = true, ((decide (x.lba ≤ (64 : Int)))) = true, ((decide (x.lba ≤ (64 : Int)))) = true, ((decide (x.lba ≤ (64 : Int)))) = true, ((decide (x.lba ≤ (64 : Int)))) = true, ((decide (x.lba ≤ (64 : Int)))) = true, ((decide (x.lba ≤ (64 : Int)))) = true, ((decide (x.len ≥ (1 : Int)))) = true, ((decide (x.len ≥ (1 : Int)))) = true, ((decide (x.len ≥ (1 : Int)))) = true, ((decide (x.len ≥ (1 : Int)))) = true, ((decide (x.lba ≤ (64 : Int)))) = true, ((decide (x.len ≤ (wr ((64 : Int) - x.lba))))) = false, ((decide (x.len ≤ (wr ((64 : Int) - x.lba))))) = false, ((decide (x.len ≤ (wr ((64 : Int) - x.lba))))) = false, ((decide (x.len ≤ (wr ((64 : Int) - x.lba))))) = false, orderOk (rg Try.prog 45 0) = true ∧ allOk (Region.before (rg Try.prog 45 0)) [] 0 [(some [], some []), (some [0], some []), (some [], some []), (some [], some []), (some [], some []), (some [0], some []), (some [], some []), (some [0], some []), (some [], some []), (some [], some []), (some [], some []), (some [], some []), (some [], some []), (some [], some []), (some [], some []), (some [], some []), (some [], some []), (some [], some []), (some [], some []), (some [], some []), (some [], some []), (some [], some []), (some [], some []), (some [], some []), (some [], some []), (some [], some []), (some [], some []), (some [], some []), (some [], some []), (some [], some [])] = true]) kq ⟨h0, h0, h0, h0, h1, h1, h1, h1, h1, h1, h2, h2, h2, h2, h1, h3, h3, h3, h3, (ord_of ord_45_0 bef_45_0 kq), trivial⟩ tq
theorem eCheck_l7 (x : Ex) (h0 : ((decide (x.lba ≥ (0 : Int)))) = true) (h0p : (x.lba ≥ (0 : Int))) (h1 : ((decide (x.lba ≤ (64 : Int)))) = true) (h1p : (x.lba ≤ (64 : Int))) (h2 : ((decide (x.len ≥ (1 : Int)))) = false) (h2p : ¬ (x.len ≥ (1 : Int))) : eCheck_G x (Bool.false) :=
  leafR vw_eq (k := 300) (r := []) (hs := hz [(12, [.yes]), (1, [.yes]), (1, [.yes]), (1, [.yes]), (2, [.yes]), (1, [.yes]), (2, [.yes]), (1, [.yes]), (2, [.yes]), (1, [.yes]), (7, [.no, .no, .no, .no]), (1, [.yes]), (19, [.yes])]) (raw := (AV.b Bool.false)) (ps := [((decide (x.lba ≥ (0 : Int)))) = true, ((decide (x.lba ≥ (0 : Int)))) = true, ((decide (x.lba ≥ (0 : Int)))) = true, ((decide (x.lba ≥ (0 : Int)))) = true, ((decide (x.lba ≤ (64 : Int)))) = true, ((decide (x.lba ≤ (64 : Int)))) = true, ((decide (x.lba ≤ (64 : Int)))) = true, ((decide (x.lba ≤ (64 : Int)))) = true, ((decide (x.lba ≤ (64 : Int)))) = true, ((decide (x.lba ≤ (64 : Int)))) = true, ((decide (x.len ≥ (1 : Int)))) = false, ((decide (x.len ≥ (1 : Int)))) = false, ((decide (x.len ≥ (1 : Int)))) = false, ((decide (x.len ≥ (1 : Int)))) = false, ((decide (x.lba ≤ (64 : Int)))) = true, orderOk (rg Try.prog 45 0) = true ∧ allOk (Region.before (rg Try.prog 45 0)) [] 0 [(some [], some []), (some [0], some []), (some [], some []), (some [], some []), (some [], some []), (some [0], some []), (some [], some []), (some [0], some []), (some [], some []), (some [], some []), (some [], some []), (some [], some []), (some [], some []), (some [], some []), (some [], some []), (some [], some []), (some [], some []), (some [], some []), (some [], some []), (some [], some []), (some [], some []), (some [], some []), (some [], some []), (some [], some []), (some [], some []), (some [], some []), (some [], some []), (some [], some []), (some [], some []), (some [], some [])] = true]) kq ⟨h0, h0, h0, h0, h1, h1, h1, h1, h1, h1, h2, h2, h2, h2, h1, (ord_of ord_45_0 bef_45_0 kq), trivial⟩ tq
theorem eCheck_l8 (x : Ex) (h0 : ((decide (x.lba ≥ (0 : Int)))) = true) (h0p : (x.lba ≥ (0 : Int))) (h1 : ((decide (x.lba ≤ (64 : Int)))) = false) (h1p : ¬ (x.lba ≤ (64 : Int))) : eCheck_G x (Bool.false) :=
  leafR vw_eq (k := 300) (r := []) (hs := hz [(12, [.yes]), (1, [.yes]), (1, [.yes]), (1, [.yes]), (2, [.no, .no, .no, .no, .no, .no, .no]), (19, [.yes])]) (raw := (AV.b Bool.false)) (ps := [((decide (x.lba ≥ (0 : Int)))) = true, ((decide (x.lba ≥ (0 : Int)))) = true, ((decide (x.lba ≥ (0 : Int)))) = true, ((decide (x.lba ≥ (0 : Int)))) = true, ((decide (x.lba ≤ (64 : Int)))) = false, ((decide (x.lba ≤ (64 : Int)))) = false, ((decide (x.lba ≤ (64 : Int)))) = false, ((decide (x.lba ≤ (64 : Int)))) = false, ((decide (x.lba ≤ (64 : Int)))) = false, ((decide (x.lba ≤ (64 : Int)))) = false, ((decide (x.lba ≤ (64 : Int)))) = false, orderOk (rg Try.prog 45 0) = true ∧ allOk (Region.before (rg Try.prog 45 0)) [] 0 [(some [], some []), (some [0], some []), (some [], some []), (some [], some []), (some [], some []), (some [], some []), (some [], some []), (some [], some []), (some [], some []), (some [], some []), (some [], some []), (some [], some []), (some [], some []), (some [], some []), (some [], some []), (some [], some []), (some [], some []), (some [], some []), (some [], some []), (some [], some []), (some [], some []), (some [], some []), (some [], some []), (some [], some []), (some [], some []), (some [], some []), (some [], some []), (some [], some []), (some [], some []), (some [], some [])] = true]) kq ⟨h0, h0, h0, h0, h1, h1, h1, h1, h1, h1, h1, (ord_of ord_45_0 bef_45_0 kq), trivial⟩ tq
theorem eCheck_l9 (x : Ex) (h0 : ((decide (x.lba ≥ (0 : Int)))) = false) (h0p : ¬ (x.lba ≥ (0 : Int))) : eCheck_G x (Bool.false) :=
  leafR vw_eq (k := 300) (r := []) (hs := hz [(12, [.no, .no, .no, .no]), (28, [.yes])]) (raw := (AV.b Bool.false)) (ps := [((decide (x.lba ≥ (0 : Int)))) = false, ((decide (x.lba ≥ (0 : Int)))) = false, ((decide (x.lba ≥ (0 : Int)))) = false, ((decide (x.lba ≥ (0 : Int)))) = false, orderOk (rg Try.prog 45 0) = true ∧ allOk (Region.before (rg Try.prog 45 0)) [] 0 [(some [], some []), (some [0], some []), (some [], some []), (some [], some []), (some [], some []), (some [], some []), (some [], some []), (some [], some []), (some [], some []), (some [], some []), (some [], some []), (some [], some []), (some [], some []), (some [], some []), (some [], some []), (some [], some []), (some [], some []), (some [], some []), (some [], some []), (some [], some []), (some [], some []), (some [], some []), (some [], some []), (some [], some []), (some [], some []), (some [], some []), (some [], some []), (some [], some []), (some [], some []), (some [], some [])] = true]) kq ⟨h0, h0, h0, h0, (ord_of ord_45_0 bef_45_0 kq), trivial⟩ tq
theorem eCheck_ok (x : Ex) (r : Bool) : eCheck x = some r → eCheck_G x r := by
  unfold eCheck
  refine tb_ok (fun h0 => ?_) (fun h0 => ?_)
  ·
    have h0p := of_decide_eq_true h0
    refine tb_ok (fun h1 => ?_) (fun h1 => ?_)
    ·
      have h1p := of_decide_eq_true h1
      refine tb_ok (fun h2 => ?_) (fun h2 => ?_)
      ·
        have h2p := of_decide_eq_true h2
        refine tb_ok (fun h3 => ?_) (fun h3 => ?_)
        ·
          have h3p := of_decide_eq_true h3
          refine tb_ok (fun h4 => ?_) (fun h4 => ?_)
          ·
            have h4p := of_decide_eq_true h4
            refine tb_ok (fun h5 => ?_) (fun h5 => ?_)
            ·
              have h5p := of_decide_eq_true h5
              refine tb_ok (fun h6 => ?_) (fun h6 => ?_)
              ·
                have h6p := of_decide_eq_true h6
                refine tb_ok (fun h7 => ?_) (fun h7 => ?_)
                ·
                  have h7p := of_decide_eq_true h7
                  refine tb_ok (fun h8 => ?_) (fun h8 => ?_)
                  ·
                    have h8p := eq_of_beq h8
                    exact fun e => tl_ok (G := eCheck_G x) (eCheck_l0 x h0 h0p h1 h1p h2 h2p h3 h3p h4 h4p h5 h5p h6 h6p h7 h7p h8 h8p) e
                  ·
                    have h8p := ne_of_beq_false h8
                    exact fun e => tl_ok (G := eCheck_G x) (eCheck_l1 x h0 h0p h1 h1p h2 h2p h3 h3p h4 h4p h5 h5p h6 h6p h7 h7p h8 h8p) e
                ·
                  have h7p := of_decide_eq_false h7
                  exact fun e => tl_ok (G := eCheck_G x) (eCheck_l2 x h0 h0p h1 h1p h2 h2p h3 h3p h4 h4p h5 h5p h6 h6p h7 h7p) e
              ·
                have h6p := of_decide_eq_false h6
                exact fun e => tl_ok (G := eCheck_G x) (eCheck_l3 x h0 h0p h1 h1p h2 h2p h3 h3p h4 h4p h5 h5p h6 h6p) e
            ·
              have h5p := of_decide_eq_false h5
              exact fun e => tl_ok (G := eCheck_G x) (eCheck_l4 x h0 h0p h1 h1p h2 h2p h3 h3p h4 h4p h5 h5p) e
          ·
            have h4p := of_decide_eq_false h4
            exact fun e => tl_ok (G := eCheck_G x) (eCheck_l5 x h0 h0p h1 h1p h2 h2p h3 h3p h4 h4p) e
        ·
          have h3p := of_decide_eq_false h3
          exact fun e => tl_ok (G := eCheck_G x) (eCheck_l6 x h0 h0p h1 h1p h2 h2p h3 h3p) e
      ·
        have h2p := of_decide_eq_false h2
        exact fun e => tl_ok (G := eCheck_G x) (eCheck_l7 x h0 h0p h1 h1p h2 h2p) e
    ·
      have h1p := of_decide_eq_false h1
      exact fun e => tl_ok (G := eCheck_G x) (eCheck_l8 x h0 h0p h1 h1p) e
  ·
    have h0p := of_decide_eq_false h0
    exact fun e => tl_ok (G := eCheck_G x) (eCheck_l9 x h0 h0p) e
/-- Function 46, as it answers. -/
noncomputable def eJoins (a : Ex) (b : Ex) : Option (Bool) :=
 (tc (eCheck (a)) fun s0 =>
  (tb (s0)
   (tc (eCheck (b)) fun s2 =>
    (tb (s2)
     (tb (((wr (a.lba + a.len)) == b.lba))
      (tb ((a.kind == b.kind))
       (some ((a.gen == b.gen)))
       (some (Bool.false)))
      (some (Bool.false)))
     (some (Bool.false))))
   (some (Bool.false))))
abbrev eJoins_G (a : Ex) (b : Ex) (r : Bool) : Prop := EvFr Try.prog cf true 46 [Ex.av (a), Ex.av (b)] (.b (r))
theorem eJoins_l0 (a : Ex) (b : Ex) (s0 : Bool) (h0 : eCheck (a) = some s0) (h1 : (s0) = true) (s2 : Bool) (h2 : eCheck (b) = some s2) (h3 : (s2) = true) (h4 : (((wr (a.lba + a.len)) == b.lba)) = true) (h4p : ((wr (a.lba + a.len)) = b.lba)) (h5 : ((a.kind == b.kind)) = true) (h5p : (a.kind = b.kind)) : eJoins_G a b ((a.gen == b.gen)) :=
  leafR vw_eq (k := 300) (r := []) (hs := hz [(4, [.cells ((xc a))]), (1, [.fres (.b (s0))]), (1, [.yes]), (1, [.cells ((xc b)), .yes]), (1, [.fres (.b (s2)), .yes]), (1, [.yes]), (1, [.yes]), (2, [.yes]), (1, [.yes]), (2, [.yes]), (1, [.yes]), (1, [.yes]), (2, [.yes]), (1, [.yes]), (1, [.yes]), (1, [.yes]), (2, [.yes]), (1, [.yes]), (2, [.yes]), (1, [.yes]), (1, [.yes]), (1, [.yes]), (2, [.yes]), (1, [.yes]), (2, [.yes]), (1, [.yes]), (1, [])]) (raw := (AV.b (a.gen == b.gen))) (ps := [((xc a) : List AV) = (xc a), EvFr Try.prog cf Bool.false 45 [(AV.ag (xc a))] (.b (s0)), (s0) = true, ((xc b) : List AV) = (xc b), (s0) = true, EvFr Try.prog cf Bool.false 45 [(AV.ag (xc b))] (.b (s2)), (s0) = true, (s2) = true, (s2) = true, (s2) = true, (s2) = true, (s2) = true, (s2) = true, (s2) = true, (s2) = true, (s2) = true, (((wr (a.lba + a.len)) == b.lba)) = true, (((wr (a.lba + a.len)) == b.lba)) = true, (((wr (a.lba + a.len)) == b.lba)) = true, (((wr (a.lba + a.len)) == b.lba)) = true, (((wr (a.lba + a.len)) == b.lba)) = true, (((wr (a.lba + a.len)) == b.lba)) = true, ((a.kind == b.kind)) = true, ((a.kind == b.kind)) = true, ((a.kind == b.kind)) = true, ((a.kind == b.kind)) = true, ((a.kind == b.kind)) = true, ((a.kind == b.kind)) = true]) kq ⟨rfl, ((eCheck_ok (a) _ h0).any.cast tq), h1, rfl, h1, ((eCheck_ok (b) _ h2).any.cast tq), h1, h3, h3, h3, h3, h3, h3, h3, h3, h3, h4, h4, h4, h4, h4, h4, h5, h5, h5, h5, h5, h5, trivial⟩ tq
theorem eJoins_l1 (a : Ex) (b : Ex) (s0 : Bool) (h0 : eCheck (a) = some s0) (h1 : (s0) = true) (s2 : Bool) (h2 : eCheck (b) = some s2) (h3 : (s2) = true) (h4 : (((wr (a.lba + a.len)) == b.lba)) = true) (h4p : ((wr (a.lba + a.len)) = b.lba)) (h5 : ((a.kind == b.kind)) = false) (h5p : ¬ (a.kind = b.kind)) : eJoins_G a b (Bool.false) :=
  leafR vw_eq (k := 300) (r := []) (hs := hz [(4, [.cells ((xc a))]), (1, [.fres (.b (s0))]), (1, [.yes]), (1, [.cells ((xc b)), .yes]), (1, [.fres (.b (s2)), .yes]), (1, [.yes]), (1, [.yes]), (2, [.yes]), (1, [.yes]), (2, [.yes]), (1, [.yes]), (1, [.yes]), (2, [.yes]), (1, [.yes]), (1, [.yes]), (1, [.yes]), (2, [.yes]), (1, [.yes]), (2, [.yes]), (1, [.yes]), (1, [.no, .no, .no, .no, .no, .no]), (1, [])]) (raw := (AV.b Bool.false)) (ps := [((xc a) : List AV) = (xc a), EvFr Try.prog cf Bool.false 45 [(AV.ag (xc a))] (.b (s0)), (s0) = true, ((xc b) : List AV) = (xc b), (s0) = true, EvFr Try.prog cf Bool.false 45 [(AV.ag (xc b))] (.b (s2)), (s0) = true, (s2) = true, (s2) = true, (s2) = true, (s2) = true, (s2) = true, (s2) = true, (s2) = true, (s2) = true, (s2) = true, (((wr (a.lba + a.len)) == b.lba)) = true, (((wr (a.lba + a.len)) == b.lba)) = true, (((wr (a.lba + a.len)) == b.lba)) = true, (((wr (a.lba + a.len)) == b.lba)) = true, (((wr (a.lba + a.len)) == b.lba)) = true, (((wr (a.lba + a.len)) == b.lba)) = true, ((a.kind == b.kind)) = false, ((a.kind == b.kind)) = false, ((a.kind == b.kind)) = false, ((a.kind == b.kind)) = false, ((a.kind == b.kind)) = false, ((a.kind == b.kind)) = false]) kq ⟨rfl, ((eCheck_ok (a) _ h0).any.cast tq), h1, rfl, h1, ((eCheck_ok (b) _ h2).any.cast tq), h1, h3, h3, h3, h3, h3, h3, h3, h3, h3, h4, h4, h4, h4, h4, h4, h5, h5, h5, h5, h5, h5, trivial⟩ tq
theorem eJoins_l2 (a : Ex) (b : Ex) (s0 : Bool) (h0 : eCheck (a) = some s0) (h1 : (s0) = true) (s2 : Bool) (h2 : eCheck (b) = some s2) (h3 : (s2) = true) (h4 : (((wr (a.lba + a.len)) == b.lba)) = false) (h4p : ¬ ((wr (a.lba + a.len)) = b.lba)) : eJoins_G a b (Bool.false) :=
  leafR vw_eq (k := 300) (r := []) (hs := hz [(4, [.cells ((xc a))]), (1, [.fres (.b (s0))]), (1, [.yes]), (1, [.cells ((xc b)), .yes]), (1, [.fres (.b (s2)), .yes]), (1, [.yes]), (1, [.yes]), (2, [.yes]), (1, [.yes]), (2, [.yes]), (1, [.yes]), (1, [.yes]), (2, [.yes]), (1, [.yes]), (1, [.no, .no, .no, .no, .no, .no]), (8, [])]) (raw := (AV.b Bool.false)) (ps := [((xc a) : List AV) = (xc a), EvFr Try.prog cf Bool.false 45 [(AV.ag (xc a))] (.b (s0)), (s0) = true, ((xc b) : List AV) = (xc b), (s0) = true, EvFr Try.prog cf Bool.false 45 [(AV.ag (xc b))] (.b (s2)), (s0) = true, (s2) = true, (s2) = true, (s2) = true, (s2) = true, (s2) = true, (s2) = true, (s2) = true, (s2) = true, (s2) = true, (((wr (a.lba + a.len)) == b.lba)) = false, (((wr (a.lba + a.len)) == b.lba)) = false, (((wr (a.lba + a.len)) == b.lba)) = false, (((wr (a.lba + a.len)) == b.lba)) = false, (((wr (a.lba + a.len)) == b.lba)) = false, (((wr (a.lba + a.len)) == b.lba)) = false]) kq ⟨rfl, ((eCheck_ok (a) _ h0).any.cast tq), h1, rfl, h1, ((eCheck_ok (b) _ h2).any.cast tq), h1, h3, h3, h3, h3, h3, h3, h3, h3, h3, h4, h4, h4, h4, h4, h4, trivial⟩ tq
theorem eJoins_l3 (a : Ex) (b : Ex) (s0 : Bool) (h0 : eCheck (a) = some s0) (h1 : (s0) = true) (s2 : Bool) (h2 : eCheck (b) = some s2) (h3 : (s2) = false) : eJoins_G a b (Bool.false) :=
  leafR vw_eq (k := 300) (r := []) (hs := hz [(4, [.cells ((xc a))]), (1, [.fres (.b (s0))]), (1, [.yes]), (1, [.cells ((xc b)), .yes]), (1, [.fres (.b (s2)), .yes]), (1, [.no, .no, .no, .no, .no, .no, .no, .no, .no]), (15, [])]) (raw := (AV.b Bool.false)) (ps := [((xc a) : List AV) = (xc a), EvFr Try.prog cf Bool.false 45 [(AV.ag (xc a))] (.b (s0)), (s0) = true, ((xc b) : List AV) = (xc b), (s0) = true, EvFr Try.prog cf Bool.false 45 [(AV.ag (xc b))] (.b (s2)), (s0) = true, (s2) = false, (s2) = false, (s2) = false, (s2) = false, (s2) = false, (s2) = false, (s2) = false, (s2) = false, (s2) = false]) kq ⟨rfl, ((eCheck_ok (a) _ h0).any.cast tq), h1, rfl, h1, ((eCheck_ok (b) _ h2).any.cast tq), h1, h3, h3, h3, h3, h3, h3, h3, h3, h3, trivial⟩ tq
theorem eJoins_l4 (a : Ex) (b : Ex) (s0 : Bool) (h0 : eCheck (a) = some s0) (h1 : (s0) = false) : eJoins_G a b (Bool.false) :=
  leafR vw_eq (k := 300) (r := []) (hs := hz [(4, [.cells ((xc a))]), (1, [.fres (.b (s0))]), (1, [.no, .no, .no]), (25, [])]) (raw := (AV.b Bool.false)) (ps := [((xc a) : List AV) = (xc a), EvFr Try.prog cf Bool.false 45 [(AV.ag (xc a))] (.b (s0)), (s0) = false, (s0) = false, (s0) = false]) kq ⟨rfl, ((eCheck_ok (a) _ h0).any.cast tq), h1, h1, h1, trivial⟩ tq
theorem eJoins_ok (a : Ex) (b : Ex) (r : Bool) : eJoins a b = some r → eJoins_G a b r := by
  unfold eJoins
  refine tc_ok (fun s0 h0 => ?_)
  refine tb_ok (fun h1 => ?_) (fun h1 => ?_)
  ·
    refine tc_ok (fun s2 h2 => ?_)
    refine tb_ok (fun h3 => ?_) (fun h3 => ?_)
    ·
      refine tb_ok (fun h4 => ?_) (fun h4 => ?_)
      ·
        have h4p := eq_of_beq h4
        refine tb_ok (fun h5 => ?_) (fun h5 => ?_)
        ·
          have h5p := eq_of_beq h5
          exact fun e => tl_ok (G := eJoins_G a b) (eJoins_l0 a b s0 h0 h1 s2 h2 h3 h4 h4p h5 h5p) e
        ·
          have h5p := ne_of_beq_false h5
          exact fun e => tl_ok (G := eJoins_G a b) (eJoins_l1 a b s0 h0 h1 s2 h2 h3 h4 h4p h5 h5p) e
      ·
        have h4p := ne_of_beq_false h4
        exact fun e => tl_ok (G := eJoins_G a b) (eJoins_l2 a b s0 h0 h1 s2 h2 h3 h4 h4p) e
    ·
      exact fun e => tl_ok (G := eJoins_G a b) (eJoins_l3 a b s0 h0 h1 s2 h2 h3) e
  ·
    exact fun e => tl_ok (G := eJoins_G a b) (eJoins_l4 a b s0 h0 h1) e
/-- Function 35, as it answers. -/
noncomputable def r7Same (a : Ex) (b : Ex) : Option (Bool) :=
 (tb ((a.lba == b.lba))
  (tb ((a.len == b.len))
   (tb ((a.kind == b.kind))
    (tb ((a.gen == b.gen))
     (some ((a.d == b.d)))
     (some (Bool.false)))
    (some (Bool.false)))
   (some (Bool.false)))
  (some (Bool.false)))
abbrev r7Same_G (a : Ex) (b : Ex) (r : Bool) : Prop := EvFr Try.prog cf true 35 [Ex.av (a), Ex.av (b)] (.b (r))
theorem r7Same_l0 (a : Ex) (b : Ex) (h0 : ((a.lba == b.lba)) = true) (h0p : (a.lba = b.lba)) (h1 : ((a.len == b.len)) = true) (h1p : (a.len = b.len)) (h2 : ((a.kind == b.kind)) = true) (h2p : (a.kind = b.kind)) (h3 : ((a.gen == b.gen)) = true) (h3p : (a.gen = b.gen)) : r7Same_G a b ((a.d == b.d)) :=
  leafR vw_eq (k := 300) (r := []) (hs := hz [(11, [.yes]), (1, [.yes]), (2, [.yes]), (1, [.yes]), (2, [.yes]), (1, [.yes]), (1, [.yes]), (1, [.yes]), (2, [.yes]), (1, [.yes]), (2, [.yes]), (1, [.yes]), (1, [.yes]), (1, [.yes]), (2, [.yes]), (1, [.yes]), (2, [.yes]), (1, [.yes]), (1, [.yes]), (1, [.yes]), (2, [.yes, .yes, .str (a.d), .yes]), (1, [.yes]), (2, [.yes, .yes, .str (b.d), .yes]), (1, [.yes]), (1, [])]) (raw := (AV.b (a.d == b.d))) (ps := [((a.lba == b.lba)) = true, ((a.lba == b.lba)) = true, ((a.lba == b.lba)) = true, ((a.lba == b.lba)) = true, ((a.lba == b.lba)) = true, ((a.lba == b.lba)) = true, ((a.len == b.len)) = true, ((a.len == b.len)) = true, ((a.len == b.len)) = true, ((a.len == b.len)) = true, ((a.len == b.len)) = true, ((a.len == b.len)) = true, ((a.kind == b.kind)) = true, ((a.kind == b.kind)) = true, ((a.kind == b.kind)) = true, ((a.kind == b.kind)) = true, ((a.kind == b.kind)) = true, ((a.kind == b.kind)) = true, ((a.gen == b.gen)) = true, ((a.gen == b.gen)) = true, ((a.gen == b.gen)) = true, ((List.length (List.map AV.y a.d)) = ((List.length a.d) * (1 : Nat))), bytesOf ((List.map AV.y a.d)) = some (a.d), ((a.gen == b.gen)) = true, ((a.gen == b.gen)) = true, ((a.gen == b.gen)) = true, ((List.length (List.map AV.y b.d)) = ((List.length b.d) * (1 : Nat))), bytesOf ((List.map AV.y b.d)) = some (b.d), ((a.gen == b.gen)) = true, ((a.gen == b.gen)) = true]) kq ⟨h0, h0, h0, h0, h0, h0, h1, h1, h1, h1, h1, h1, h2, h2, h2, h2, h2, h2, h3, h3, h3, tq, tq, h3, h3, h3, tq, tq, h3, h3, trivial⟩ tq
theorem r7Same_l1 (a : Ex) (b : Ex) (h0 : ((a.lba == b.lba)) = true) (h0p : (a.lba = b.lba)) (h1 : ((a.len == b.len)) = true) (h1p : (a.len = b.len)) (h2 : ((a.kind == b.kind)) = true) (h2p : (a.kind = b.kind)) (h3 : ((a.gen == b.gen)) = false) (h3p : ¬ (a.gen = b.gen)) : r7Same_G a b (Bool.false) :=
  leafR vw_eq (k := 300) (r := []) (hs := hz [(11, [.yes]), (1, [.yes]), (2, [.yes]), (1, [.yes]), (2, [.yes]), (1, [.yes]), (1, [.yes]), (1, [.yes]), (2, [.yes]), (1, [.yes]), (2, [.yes]), (1, [.yes]), (1, [.yes]), (1, [.yes]), (2, [.yes]), (1, [.yes]), (2, [.yes]), (1, [.yes]), (1, [.no, .no, .no, .no, .no, .no, .no, .no]), (1, [])]) (raw := (AV.b Bool.false)) (ps := [((a.lba == b.lba)) = true, ((a.lba == b.lba)) = true, ((a.lba == b.lba)) = true, ((a.lba == b.lba)) = true, ((a.lba == b.lba)) = true, ((a.lba == b.lba)) = true, ((a.len == b.len)) = true, ((a.len == b.len)) = true, ((a.len == b.len)) = true, ((a.len == b.len)) = true, ((a.len == b.len)) = true, ((a.len == b.len)) = true, ((a.kind == b.kind)) = true, ((a.kind == b.kind)) = true, ((a.kind == b.kind)) = true, ((a.kind == b.kind)) = true, ((a.kind == b.kind)) = true, ((a.kind == b.kind)) = true, ((a.gen == b.gen)) = false, ((a.gen == b.gen)) = false, ((a.gen == b.gen)) = false, ((a.gen == b.gen)) = false, ((a.gen == b.gen)) = false, ((a.gen == b.gen)) = false, ((a.gen == b.gen)) = false, ((a.gen == b.gen)) = false]) kq ⟨h0, h0, h0, h0, h0, h0, h1, h1, h1, h1, h1, h1, h2, h2, h2, h2, h2, h2, h3, h3, h3, h3, h3, h3, h3, h3, trivial⟩ tq
theorem r7Same_l2 (a : Ex) (b : Ex) (h0 : ((a.lba == b.lba)) = true) (h0p : (a.lba = b.lba)) (h1 : ((a.len == b.len)) = true) (h1p : (a.len = b.len)) (h2 : ((a.kind == b.kind)) = false) (h2p : ¬ (a.kind = b.kind)) : r7Same_G a b (Bool.false) :=
  leafR vw_eq (k := 300) (r := []) (hs := hz [(11, [.yes]), (1, [.yes]), (2, [.yes]), (1, [.yes]), (2, [.yes]), (1, [.yes]), (1, [.yes]), (1, [.yes]), (2, [.yes]), (1, [.yes]), (2, [.yes]), (1, [.yes]), (1, [.no, .no, .no, .no, .no, .no]), (10, [])]) (raw := (AV.b Bool.false)) (ps := [((a.lba == b.lba)) = true, ((a.lba == b.lba)) = true, ((a.lba == b.lba)) = true, ((a.lba == b.lba)) = true, ((a.lba == b.lba)) = true, ((a.lba == b.lba)) = true, ((a.len == b.len)) = true, ((a.len == b.len)) = true, ((a.len == b.len)) = true, ((a.len == b.len)) = true, ((a.len == b.len)) = true, ((a.len == b.len)) = true, ((a.kind == b.kind)) = false, ((a.kind == b.kind)) = false, ((a.kind == b.kind)) = false, ((a.kind == b.kind)) = false, ((a.kind == b.kind)) = false, ((a.kind == b.kind)) = false]) kq ⟨h0, h0, h0, h0, h0, h0, h1, h1, h1, h1, h1, h1, h2, h2, h2, h2, h2, h2, trivial⟩ tq
theorem r7Same_l3 (a : Ex) (b : Ex) (h0 : ((a.lba == b.lba)) = true) (h0p : (a.lba = b.lba)) (h1 : ((a.len == b.len)) = false) (h1p : ¬ (a.len = b.len)) : r7Same_G a b (Bool.false) :=
  leafR vw_eq (k := 300) (r := []) (hs := hz [(11, [.yes]), (1, [.yes]), (2, [.yes]), (1, [.yes]), (2, [.yes]), (1, [.yes]), (1, [.no, .no, .no, .no, .no, .no]), (17, [])]) (raw := (AV.b Bool.false)) (ps := [((a.lba == b.lba)) = true, ((a.lba == b.lba)) = true, ((a.lba == b.lba)) = true, ((a.lba == b.lba)) = true, ((a.lba == b.lba)) = true, ((a.lba == b.lba)) = true, ((a.len == b.len)) = false, ((a.len == b.len)) = false, ((a.len == b.len)) = false, ((a.len == b.len)) = false, ((a.len == b.len)) = false, ((a.len == b.len)) = false]) kq ⟨h0, h0, h0, h0, h0, h0, h1, h1, h1, h1, h1, h1, trivial⟩ tq
theorem r7Same_l4 (a : Ex) (b : Ex) (h0 : ((a.lba == b.lba)) = false) (h0p : ¬ (a.lba = b.lba)) : r7Same_G a b (Bool.false) :=
  leafR vw_eq (k := 300) (r := []) (hs := hz [(11, [.no, .no, .no, .no, .no, .no]), (24, [])]) (raw := (AV.b Bool.false)) (ps := [((a.lba == b.lba)) = false, ((a.lba == b.lba)) = false, ((a.lba == b.lba)) = false, ((a.lba == b.lba)) = false, ((a.lba == b.lba)) = false, ((a.lba == b.lba)) = false]) kq ⟨h0, h0, h0, h0, h0, h0, trivial⟩ tq
theorem r7Same_ok (a : Ex) (b : Ex) (r : Bool) : r7Same a b = some r → r7Same_G a b r := by
  unfold r7Same
  refine tb_ok (fun h0 => ?_) (fun h0 => ?_)
  ·
    have h0p := eq_of_beq h0
    refine tb_ok (fun h1 => ?_) (fun h1 => ?_)
    ·
      have h1p := eq_of_beq h1
      refine tb_ok (fun h2 => ?_) (fun h2 => ?_)
      ·
        have h2p := eq_of_beq h2
        refine tb_ok (fun h3 => ?_) (fun h3 => ?_)
        ·
          have h3p := eq_of_beq h3
          exact fun e => tl_ok (G := r7Same_G a b) (r7Same_l0 a b h0 h0p h1 h1p h2 h2p h3 h3p) e
        ·
          have h3p := ne_of_beq_false h3
          exact fun e => tl_ok (G := r7Same_G a b) (r7Same_l1 a b h0 h0p h1 h1p h2 h2p h3 h3p) e
      ·
        have h2p := ne_of_beq_false h2
        exact fun e => tl_ok (G := r7Same_G a b) (r7Same_l2 a b h0 h0p h1 h1p h2 h2p) e
    ·
      have h1p := ne_of_beq_false h1
      exact fun e => tl_ok (G := r7Same_G a b) (r7Same_l3 a b h0 h0p h1 h1p) e
  ·
    have h0p := ne_of_beq_false h0
    exact fun e => tl_ok (G := r7Same_G a b) (r7Same_l4 a b h0 h0p) e
noncomputable abbrev r7All_L0_I (a : List Ex) (b : List Ex) : St := (St.mk [(0, (AV.sl (List.length a) (List.flatMap Ex.cells a))), (1, (AV.sl (List.length b) (List.flatMap Ex.cells b))), (4, (AV.b Bool.false)), (7, (AV.sl (List.length a) (List.flatMap Ex.cells a))), (8, (AV.i (↑(List.length a) : Int))), (9, (AV.sl (List.length b) (List.flatMap Ex.cells b))), (10, (AV.i (↑(List.length b) : Int))), (11, (AV.b ((↑(List.length a) : Int) != (↑(List.length b) : Int)))), (5, (AV.i 0))] 29 (AH.mk 0 ([] : List (Prod Nat AObj))) Bool.false)
noncomputable abbrev r7All_L0_S (a : List Ex) (b : List Ex) (s1 : Int) : St := (St.mk [(0, (AV.sl (List.length a) (List.flatMap Ex.cells a))), (1, (AV.sl (List.length b) (List.flatMap Ex.cells b))), (11, (AV.b ((↑(List.length a) : Int) != (↑(List.length b) : Int)))), (5, (AV.i s1))] 29 (AH.mk 0 ([] : List (Prod Nat AObj))) Bool.false)
noncomputable def r7All_L0_step (a : List Ex) (b : List Ex) (s1 : Int) : Option (Int) :=
 (tb ((decide (s1 < (↑(List.length a) : Int))))
  (tp ((((0 : Int) ≤ s1) ∧ (s1 < (↑(List.length a) : Int))))
   (tp ((((0 : Int) ≤ s1) ∧ (s1 < (↑(List.length b) : Int))))
    (tc (r7Same ((exAt a (Int.toNat s1))) ((exAt b (Int.toNat s1)))) fun s5 =>
     (tb ((!s5))
      none /- exit -/
      (some ((wr (s1 + (1 : Int)))))))))
  none /- exit -/)
theorem r7All_L0_s0 (a : List Ex) (b : List Ex) (s1 : Int) (h2 : ((decide (s1 < (↑(List.length a) : Int)))) = true) (h2p : (s1 < (↑(List.length a) : Int))) (h3 : (((0 : Int) ≤ s1) ∧ (s1 < (↑(List.length a) : Int)))) (h4 : (((0 : Int) ≤ s1) ∧ (s1 < (↑(List.length b) : Int)))) (s5 : Bool) (h5 : r7Same ((exAt a (Int.toNat s1))) ((exAt b (Int.toNat s1))) = some s5) (h6 : ((!s5)) = false) : EvStep Try.prog cf 0 (lp Try.prog 16 0) (r7All_L0_S a b s1) (r7All_L0_S a b ((wr (s1 + (1 : Int))))) :=
  leafS vw_eq (k := 300) (r := []) (hs := hz [(4, [.yes]), (2, [.yes, .yes, .cells ((Ex.cells (exAt a (Int.toNat s1))))]), (2, [.yes, .yes, .cells ((Ex.cells (exAt b (Int.toNat s1))))]), (1, [.fres (.b (s5))]), (1, [.yes]), (2, [.no]), (3, [])]) (st1 := (St.mk [(0, (AV.sl (List.length a) (List.flatMap Ex.cells a))), (1, (AV.sl (List.length b) (List.flatMap Ex.cells b))), (11, (AV.b ((↑(List.length a) : Int) != (↑(List.length b) : Int)))), (5, (AV.i (wr (s1 + (1 : Int))))), (12, (AV.i s1)), (13, (AV.sl (List.length a) (List.flatMap Ex.cells a))), (14, (AV.i (↑(List.length a) : Int))), (15, (AV.b (decide (s1 < (↑(List.length a) : Int))))), (18, (AV.sl (List.length a) (List.flatMap Ex.cells a))), (19, (AV.i s1)), (20, (AV.ip (List.drop ((Int.toNat s1) * (5 : Nat)) (List.flatMap Ex.cells a)))), (21, (AV.ag (xc (exAt a (Int.toNat s1))))), (22, (AV.sl (List.length b) (List.flatMap Ex.cells b))), (23, (AV.i s1)), (24, (AV.ip (List.drop ((Int.toNat s1) * (5 : Nat)) (List.flatMap Ex.cells b)))), (25, (AV.ag (xc (exAt b (Int.toNat s1))))), (26, (AV.b s5)), (6, (AV.b s5)), (27, (AV.b s5)), (28, (AV.b (!s5))), (16, (AV.i s1)), (17, (AV.i (wr (s1 + (1 : Int)))))] 29 (AH.mk 0 ([] : List (Prod Nat AObj))) Bool.false)) (ps := [((decide (s1 < (↑(List.length a) : Int)))) = true, (((0 : Int) ≤ s1) ∧ (s1 < (↑(List.length a) : Int))), ((5 : Nat) ≤ (List.length (List.drop ((Int.toNat s1) * (5 : Nat)) (List.flatMap Ex.cells a)))), (List.take 5 (List.drop ((Int.toNat s1) * (5 : Nat)) (List.flatMap Ex.cells a))) = (Ex.cells (exAt a (Int.toNat s1))), (((0 : Int) ≤ s1) ∧ (s1 < (↑(List.length b) : Int))), ((5 : Nat) ≤ (List.length (List.drop ((Int.toNat s1) * (5 : Nat)) (List.flatMap Ex.cells b)))), (List.take 5 (List.drop ((Int.toNat s1) * (5 : Nat)) (List.flatMap Ex.cells b))) = (Ex.cells (exAt b (Int.toNat s1))), EvFr Try.prog cf Bool.false 35 [(AV.ag (xc (exAt a (Int.toNat s1)))), (AV.ag (xc (exAt b (Int.toNat s1))))] (.b (s5)), orderOk (rg Try.prog 16 0) = true ∧ allOk (Region.before (rg Try.prog 16 0)) [] 0 [(some [], some []), (some [], some []), (some [], some []), (some [], some []), (some [], some []), (some [], some []), (some [], some []), (some [], some []), (some [], some []), (some [], some [])] = true, ((!s5)) = false]) kq ⟨h2, h3, fq, (by first | exact ex_take _ _ bq | (simpa using ex_take _ _ bq) | ((try simp only [List.drop_drop]); rw [show ((Int.toNat s1) * (5 : Nat)) = ((Int.toNat s1)) * 5 by omega]; exact ex_take _ _ bq)), h4, fq, (by first | exact ex_take _ _ bq | (simpa using ex_take _ _ bq) | ((try simp only [List.drop_drop]); rw [show ((Int.toNat s1) * (5 : Nat)) = ((Int.toNat s1)) * 5 by omega]; exact ex_take _ _ bq)), ((r7Same_ok ((exAt a (Int.toNat s1))) ((exAt b (Int.toNat s1))) _ h5).any.cast tq), (ord_of ord_16_0 bef_16_0 kq), h6, trivial⟩ (Nat.le_of_ble_eq_true rfl) (absB_of [] [] kq (.consn kq (.eqv tq rfl) (.consn kq (.eqv tq rfl) (.consn kq (.eqv tq rfl) (.consn kq (.eqv tq rfl) .nil)))) .nil)
theorem r7All_L0_ok (a : List Ex) (b : List Ex) (s1 zz : Int) : r7All_L0_step a b s1 = some zz → EvStep Try.prog cf 0 (lp Try.prog 16 0) (r7All_L0_S a b s1) (r7All_L0_S a b zz) := by
  unfold r7All_L0_step
  refine tb_ok (fun h2 => ?_) (fun h2 => ?_)
  ·
    have h2p := of_decide_eq_true h2
    refine tp_ok (fun h3 => ?_)
    refine tp_ok (fun h4 => ?_)
    refine tc_ok (fun s5 h5 => ?_)
    refine tb_ok (fun h6 => ?_) (fun h6 => ?_)
    ·
      exact fun e => nomatch e
    ·
      exact fun e => tl_ok (G := (fun zz => EvStep Try.prog cf 0 (lp Try.prog 16 0) (r7All_L0_S a b s1) (r7All_L0_S a b zz))) (r7All_L0_s0 a b s1 h2 h2p h3 h4 s5 h5 h6) e
  ·
    have h2p := of_decide_eq_false h2
    exact fun e => nomatch e
/-- Function 16, as it answers. -/
noncomputable def r7All (a : List Ex) (b : List Ex) : Option (Bool) :=
 (tb (((↑(List.length a) : Int) != (↑(List.length b) : Int)))
  (some (Bool.false))
  (th (r7All_L0_step a b) ((0 : Int)) fun s1 =>
   (tb ((decide (s1 < (↑(List.length a) : Int))))
    (tp ((((0 : Int) ≤ s1) ∧ (s1 < (↑(List.length a) : Int))))
     (tc (r7Same ((exAt a (Int.toNat s1))) ((exAt b (Int.toNat s1)))) fun s4 =>
      (tb ((!s4))
       (some (Bool.false))
       none /- stop behind an operation -/)))
    (some (Bool.true)))))
abbrev r7All_G (a : List Ex) (b : List Ex) (r : Bool) : Prop := EvFr Try.prog cf true 16 [exs (a), exs (b)] (.b (r))
theorem r7All_l0 (a : List Ex) (b : List Ex) (h0 : (((↑(List.length a) : Int) != (↑(List.length b) : Int))) = true) (h0p : ¬ ((↑(List.length a) : Int) = (↑(List.length b) : Int))) : r7All_G a b (Bool.false) :=
  leafR vw_eq (k := 300) (r := []) (hs := hz [(6, [.yes]), (1, [])]) (raw := (AV.b Bool.false)) (ps := [(((↑(List.length a) : Int) != (↑(List.length b) : Int))) = true]) kq ⟨h0, trivial⟩ tq
theorem r7All_l1 (a : List Ex) (b : List Ex) (h0 : (((↑(List.length a) : Int) != (↑(List.length b) : Int))) = false) (h0p : ((↑(List.length a) : Int) = (↑(List.length b) : Int))) (s1 : Int) (h1 : Runs (r7All_L0_step a b) ((0 : Int)) s1) (h2 : ((decide (s1 < (↑(List.length a) : Int)))) = true) (h2p : (s1 < (↑(List.length a) : Int))) (h3 : (((0 : Int) ≤ s1) ∧ (s1 < (↑(List.length a) : Int)))) (s4 : Bool) (h4 : r7Same ((exAt a (Int.toNat s1))) ((exAt b (Int.toNat s1))) = some s4) (h5 : ((!s4)) = true) : r7All_G a b (Bool.false) :=
  leafR vw_eq (k := 300) (r := []) (hs := hz [(6, [.no]), (1, [.head (r7All_L0_S a b s1)]), (4, [.yes]), (2, [.yes, .yes, .cells ((Ex.cells (exAt a (Int.toNat s1))))]), (2, [.yes, .yes, .cells ((Ex.cells (exAt b (Int.toNat s1))))]), (1, [.fres (.b (s4))]), (1, [.yes]), (2, [.yes]), (1, [])]) (raw := (AV.b Bool.false)) (ps := [(((↑(List.length a) : Int) != (↑(List.length b) : Int))) = false, EvHead Try.prog cf (lp Try.prog 16 0) (r7All_L0_I a b) (r7All_L0_S a b s1), ((decide (s1 < (↑(List.length a) : Int)))) = true, (((0 : Int) ≤ s1) ∧ (s1 < (↑(List.length a) : Int))), ((5 : Nat) ≤ (List.length (List.drop ((Int.toNat s1) * (5 : Nat)) (List.flatMap Ex.cells a)))), (List.take 5 (List.drop ((Int.toNat s1) * (5 : Nat)) (List.flatMap Ex.cells a))) = (Ex.cells (exAt a (Int.toNat s1))), (((0 : Int) ≤ s1) ∧ (s1 < (↑(List.length b) : Int))), ((5 : Nat) ≤ (List.length (List.drop ((Int.toNat s1) * (5 : Nat)) (List.flatMap Ex.cells b)))), (List.take 5 (List.drop ((Int.toNat s1) * (5 : Nat)) (List.flatMap Ex.cells b))) = (Ex.cells (exAt b (Int.toNat s1))), EvFr Try.prog cf Bool.false 35 [(AV.ag (xc (exAt a (Int.toNat s1)))), (AV.ag (xc (exAt b (Int.toNat s1))))] (.b (s4)), orderOk (rg Try.prog 16 0) = true ∧ allOk (Region.before (rg Try.prog 16 0)) [] 0 [(some [], some []), (some [], some []), (some [], some []), (some [], some []), (some [], some []), (some [], some []), (some [], some []), (some [], some []), (some [], some []), (some [], some [])] = true, ((!s4)) = true]) kq ⟨h0, (EvHead.of (r7All_L0_ok a b) (absB_of [] [] kq (.consn kq (.eqv tq rfl) (.consn kq (.eqv tq rfl) (.consn kq (.eqv tq rfl) (.consn kq (.eqv tq rfl) .nil)))) .nil) h1), h2, h3, fq, (by first | exact ex_take _ _ bq | (simpa using ex_take _ _ bq) | ((try simp only [List.drop_drop]); rw [show ((Int.toNat s1) * (5 : Nat)) = ((Int.toNat s1)) * 5 by omega]; exact ex_take _ _ bq)), fq, fq, (by first | exact ex_take _ _ bq | (simpa using ex_take _ _ bq) | ((try simp only [List.drop_drop]); rw [show ((Int.toNat s1) * (5 : Nat)) = ((Int.toNat s1)) * 5 by omega]; exact ex_take _ _ bq)), ((r7Same_ok ((exAt a (Int.toNat s1))) ((exAt b (Int.toNat s1))) _ h4).any.cast tq), (ord_of ord_16_0 bef_16_0 kq), h5, trivial⟩ tq
theorem r7All_l2 (a : List Ex) (b : List Ex) (h0 : (((↑(List.length a) : Int) != (↑(List.length b) : Int))) = false) (h0p : ((↑(List.length a) : Int) = (↑(List.length b) : Int))) (s1 : Int) (h1 : Runs (r7All_L0_step a b) ((0 : Int)) s1) (h2 : ((decide (s1 < (↑(List.length a) : Int)))) = false) (h2p : ¬ (s1 < (↑(List.length a) : Int))) : r7All_G a b (Bool.true) :=
  leafR vw_eq (k := 300) (r := []) (hs := hz [(6, [.no]), (1, [.head (r7All_L0_S a b s1)]), (4, [.no]), (1, [])]) (raw := (AV.b Bool.true)) (ps := [(((↑(List.length a) : Int) != (↑(List.length b) : Int))) = false, EvHead Try.prog cf (lp Try.prog 16 0) (r7All_L0_I a b) (r7All_L0_S a b s1), ((decide (s1 < (↑(List.length a) : Int)))) = false]) kq ⟨h0, (EvHead.of (r7All_L0_ok a b) (absB_of [] [] kq (.consn kq (.eqv tq rfl) (.consn kq (.eqv tq rfl) (.consn kq (.eqv tq rfl) (.consn kq (.eqv tq rfl) .nil)))) .nil) h1), h2, trivial⟩ tq
theorem r7All_ok (a : List Ex) (b : List Ex) (r : Bool) : r7All a b = some r → r7All_G a b r := by
  unfold r7All
  refine tb_ok (fun h0 => ?_) (fun h0 => ?_)
  ·
    have h0p := bne_iff_ne.1 h0
    exact fun e => tl_ok (G := r7All_G a b) (r7All_l0 a b h0 h0p) e
  ·
    have h0p := bne_eq_false_iff_eq.1 h0
    refine th_ok (fun s1 h1 => ?_)
    refine tb_ok (fun h2 => ?_) (fun h2 => ?_)
    ·
      have h2p := of_decide_eq_true h2
      refine tp_ok (fun h3 => ?_)
      refine tc_ok (fun s4 h4 => ?_)
      refine tb_ok (fun h5 => ?_) (fun h5 => ?_)
      ·
        exact fun e => tl_ok (G := r7All_G a b) (r7All_l1 a b h0 h0p s1 h1 h2 h2p h3 s4 h4 h5) e
      ·
        exact fun e => nomatch e
    ·
      have h2p := of_decide_eq_false h2
      exact fun e => tl_ok (G := r7All_G a b) (r7All_l2 a b h0 h0p s1 h1 h2 h2p) e
noncomputable abbrev mCheck_L0_I (blocks : Int) (l : List Ex) : St := (St.mk [(0, (AV.i blocks)), (1, (AV.sl (List.length l) (List.flatMap Ex.cells l))), (4, (AV.b Bool.false)), (5, (AV.i 0)), (8, (AV.sl (List.length l) (List.flatMap Ex.cells l))), (9, (AV.i (↑(List.length l) : Int))), (10, (AV.i 0))] 50 (AH.mk 0 ([] : List (Prod Nat AObj))) Bool.false)
noncomputable abbrev mCheck_L0_S (blocks : Int) (l : List Ex) (s0 : Int × Int) : St := (St.mk [(0, (AV.i blocks)), (1, (AV.sl (List.length l) (List.flatMap Ex.cells l))), (5, (AV.i s0.1)), (8, (AV.sl (List.length l) (List.flatMap Ex.cells l))), (9, (AV.i (↑(List.length l) : Int))), (10, (AV.i s0.2))] 50 (AH.mk 0 ([] : List (Prod Nat AObj))) Bool.false)
noncomputable def mCheck_L0_step (blocks : Int) (l : List Ex) (s0 : Int × Int) : Option (Int × Int) :=
 (tb ((decide (s0.2 < (↑(List.length l) : Int))))
  (tp ((((0 : Int) ≤ s0.2) ∧ (s0.2 < (↑(List.length l) : Int))))
   (tc (eCheck ((exAt l (Int.toNat s0.2)))) fun s3 =>
    (tb ((!s3))
     none /- exit -/
     (tb (((exAt l (Int.toNat s0.2)).lba != s0.1))
      none /- exit -/
      (tb ((decide (s0.2 > (0 : Int))))
       (tp ((((0 : Int) ≤ (wr (s0.2 - (1 : Int)))) ∧ ((wr (s0.2 - (1 : Int))) < (↑(List.length l) : Int))))
        (tc (eJoins ((exAt l (Int.toNat (wr (s0.2 - (1 : Int)))))) ((exAt l (Int.toNat s0.2)))) fun s8 =>
         (tb (s8)
          none /- exit -/
          (some (((wr (s0.1 + (exAt l (Int.toNat s0.2)).len)), (wr (s0.2 + (1 : Int)))))))))
       (some (((wr (s0.1 + (exAt l (Int.toNat s0.2)).len)), (wr (s0.2 + (1 : Int)))))))))))
  none /- exit -/)
theorem mCheck_L0_s0 (blocks : Int) (l : List Ex) (s0 : Int × Int) (h1 : ((decide (s0.2 < (↑(List.length l) : Int)))) = true) (h1p : (s0.2 < (↑(List.length l) : Int))) (h2 : (((0 : Int) ≤ s0.2) ∧ (s0.2 < (↑(List.length l) : Int)))) (s3 : Bool) (h3 : eCheck ((exAt l (Int.toNat s0.2))) = some s3) (h4 : ((!s3)) = false) (h5 : (((exAt l (Int.toNat s0.2)).lba != s0.1)) = false) (h5p : ((exAt l (Int.toNat s0.2)).lba = s0.1)) (h6 : ((decide (s0.2 > (0 : Int)))) = true) (h6p : (s0.2 > (0 : Int))) (h7 : (((0 : Int) ≤ (wr (s0.2 - (1 : Int)))) ∧ ((wr (s0.2 - (1 : Int))) < (↑(List.length l) : Int)))) (s8 : Bool) (h8 : eJoins ((exAt l (Int.toNat (wr (s0.2 - (1 : Int)))))) ((exAt l (Int.toNat s0.2))) = some s8) (h9 : (s8) = false) : EvStep Try.prog cf 0 (lp Try.prog 27 0) (mCheck_L0_S blocks l s0) (mCheck_L0_S blocks l (((wr (s0.1 + (exAt l (Int.toNat s0.2)).len)), (wr (s0.2 + (1 : Int)))))) :=
  leafS vw_eq (k := 300) (r := []) (hs := hz [(1, [.yes]), (1, [.yes, .yes, .cells ((Ex.cells (exAt l (Int.toNat s0.2))))]), (3, [.cells ((xc (exAt l (Int.toNat s0.2))))]), (1, [.cells ((xc (exAt l (Int.toNat s0.2))))]), (1, [.fres (.b (s3))]), (2, [.no]), (1, [.no]), (2, [.no]), (1, [.no]), (1, [.no]), (1, [.no]), (1, [.no]), (1, [.no]), (1, [.yes]), (1, [.yes]), (1, [.yes]), (1, [.yes, .yes, .yes, .yes, .cells ((Ex.cells (exAt l (Int.toNat (wr (s0.2 - (1 : Int))))))), .yes]), (1, [.cells ((xc (exAt l (Int.toNat s0.2)))), .yes]), (1, [.fres (.b (s8)), .no, .yes, .no, .yes, .no]), (8, [])]) (st1 := (St.mk [(0, (AV.i blocks)), (1, (AV.sl (List.length l) (List.flatMap Ex.cells l))), (5, (AV.i (wr (s0.1 + (exAt l (Int.toNat s0.2)).len)))), (8, (AV.sl (List.length l) (List.flatMap Ex.cells l))), (9, (AV.i (↑(List.length l) : Int))), (10, (AV.i (wr (s0.2 + (1 : Int))))), (11, (AV.b (decide (s0.2 < (↑(List.length l) : Int))))), (12, (AV.i s0.2)), (13, (AV.ip (List.drop ((Int.toNat s0.2) * (5 : Nat)) (List.flatMap Ex.cells l)))), (14, (AV.ag (xc (exAt l (Int.toNat s0.2))))), (7, (AV.pt 0 0)), (6, (AV.i s0.2)), (15, (AV.ag (xc (exAt l (Int.toNat s0.2))))), (16, (AV.b s3)), (17, (AV.b (!s3))), (18, (AV.b (!s3))), (19, (AV.pt 0 0)), (20, (AV.i (exAt l (Int.toNat s0.2)).lba)), (21, (AV.i s0.1)), (22, (AV.b ((exAt l (Int.toNat s0.2)).lba != s0.1))), (23, (AV.b ((exAt l (Int.toNat s0.2)).lba != s0.1))), (24, (AV.b ((exAt l (Int.toNat s0.2)).lba != s0.1))), (25, (AV.i s0.2)), (26, (AV.b (decide (s0.2 > (0 : Int))))), (27, (AV.b (decide (s0.2 > (0 : Int))))), (28, (AV.sl (List.length l) (List.flatMap Ex.cells l))), (29, (AV.i s0.2)), (30, (AV.i (wr (s0.2 - (1 : Int))))), (31, (AV.ip (List.drop ((Int.toNat (wr (s0.2 - (1 : Int)))) * (5 : Nat)) (List.flatMap Ex.cells l)))), (32, (AV.ag (xc (exAt l (Int.toNat (wr (s0.2 - (1 : Int)))))))), (33, (AV.ag (xc (exAt l (Int.toNat s0.2))))), (34, (AV.b s8)), (35, (AV.b s8)), (36, (AV.b s8)), (37, (AV.i s0.1)), (38, (AV.pt 0 1)), (39, (AV.i (exAt l (Int.toNat s0.2)).len)), (40, (AV.i (wr (s0.1 + (exAt l (Int.toNat s0.2)).len)))), (41, (AV.i (wr (s0.2 + (1 : Int)))))] 50 (AH.mk 1 [(0, (AObj.cells (xc (exAt l (Int.toNat s0.2)))))]) Bool.false)) (ps := [((decide (s0.2 < (↑(List.length l) : Int)))) = true, (((0 : Int) ≤ s0.2) ∧ (s0.2 < (↑(List.length l) : Int))), ((5 : Nat) ≤ (List.length (List.drop ((Int.toNat s0.2) * (5 : Nat)) (List.flatMap Ex.cells l)))), (List.take 5 (List.drop ((Int.toNat s0.2) * (5 : Nat)) (List.flatMap Ex.cells l))) = (Ex.cells (exAt l (Int.toNat s0.2))), ((xc (exAt l (Int.toNat s0.2))) : List AV) = (xc (exAt l (Int.toNat s0.2))), ((xc (exAt l (Int.toNat s0.2))) : List AV) = (xc (exAt l (Int.toNat s0.2))), EvFr Try.prog cf Bool.false 45 [(AV.ag (xc (exAt l (Int.toNat s0.2))))] (.b (s3)), ((!s3)) = false, ((!s3)) = false, ((!s3)) = false, ((!s3)) = false, ((!s3)) = false, (((exAt l (Int.toNat s0.2)).lba != s0.1)) = false, (((exAt l (Int.toNat s0.2)).lba != s0.1)) = false, (((exAt l (Int.toNat s0.2)).lba != s0.1)) = false, ((decide (s0.2 > (0 : Int)))) = true, ((decide (s0.2 > (0 : Int)))) = true, ((decide (s0.2 > (0 : Int)))) = true, ((decide (s0.2 > (0 : Int)))) = true, (((0 : Int) ≤ (wr (s0.2 - (1 : Int)))) ∧ ((wr (s0.2 - (1 : Int))) < (↑(List.length l) : Int))), ((decide (s0.2 > (0 : Int)))) = true, ((5 : Nat) ≤ (List.length (List.drop ((Int.toNat (wr (s0.2 - (1 : Int)))) * (5 : Nat)) (List.flatMap Ex.cells l)))), (List.take 5 (List.drop ((Int.toNat (wr (s0.2 - (1 : Int)))) * (5 : Nat)) (List.flatMap Ex.cells l))) = (Ex.cells (exAt l (Int.toNat (wr (s0.2 - (1 : Int)))))), ((decide (s0.2 > (0 : Int)))) = true, ((xc (exAt l (Int.toNat s0.2))) : List AV) = (xc (exAt l (Int.toNat s0.2))), ((decide (s0.2 > (0 : Int)))) = true, EvFr Try.prog cf Bool.false 46 [(AV.ag (xc (exAt l (Int.toNat (wr (s0.2 - (1 : Int))))))), (AV.ag (xc (exAt l (Int.toNat s0.2))))] (.b (s8)), (((exAt l (Int.toNat s0.2)).lba != s0.1)) = false, ((decide (s0.2 > (0 : Int)))) = true, (((exAt l (Int.toNat s0.2)).lba != s0.1)) = false, orderOk (rg Try.prog 27 0) = true ∧ allOk (Region.before (rg Try.prog 27 0)) [] 0 [(some [0], some []), (some [], some []), (some [], some []), (some [], some []), (some [], some []), (some [0], some []), (some [], some []), (some [], some []), (some [], some []), (some [], some []), (some [], some []), (some [], some []), (some [], some []), (some [], some []), (some [], some []), (some [], some []), (some [], some []), (some [], some []), (some [0], some []), (some [], some []), (some [], some []), (some [], some [])] = true, (s8) = false]) kq ⟨h1, h2, fq, (by first | exact ex_take _ _ bq | (simpa using ex_take _ _ bq) | ((try simp only [List.drop_drop]); rw [show ((Int.toNat s0.2) * (5 : Nat)) = ((Int.toNat s0.2)) * 5 by omega]; exact ex_take _ _ bq)), rfl, rfl, ((eCheck_ok ((exAt l (Int.toNat s0.2))) _ h3).any.cast tq), h4, h4, h4, h4, h4, h5, h5, h5, h6, h6, h6, h6, h7, h6, fq, (by first | exact ex_take _ _ bq | (simpa using ex_take _ _ bq) | ((try simp only [List.drop_drop]); rw [show ((Int.toNat (wr (s0.2 - (1 : Int)))) * (5 : Nat)) = ((Int.toNat (wr (s0.2 - (1 : Int))))) * 5 by omega]; exact ex_take _ _ bq)), h6, rfl, h6, ((eJoins_ok ((exAt l (Int.toNat (wr (s0.2 - (1 : Int)))))) ((exAt l (Int.toNat s0.2))) _ h8).any.cast tq), h5, h6, h5, (ord_of ord_27_0 bef_27_0 kq), h9, trivial⟩ (Nat.le_of_ble_eq_true rfl) (absB_of [] [] kq (.consn kq (.eqv tq rfl) (.consn kq (.eqv tq rfl) (.consn kq (.eqv tq rfl) (.consn kq (.eqv tq rfl) (.consn kq (.eqv tq rfl) (.consn kq (.eqv tq rfl) .nil)))))) .nil)
theorem mCheck_L0_s1 (blocks : Int) (l : List Ex) (s0 : Int × Int) (h1 : ((decide (s0.2 < (↑(List.length l) : Int)))) = true) (h1p : (s0.2 < (↑(List.length l) : Int))) (h2 : (((0 : Int) ≤ s0.2) ∧ (s0.2 < (↑(List.length l) : Int)))) (s3 : Bool) (h3 : eCheck ((exAt l (Int.toNat s0.2))) = some s3) (h4 : ((!s3)) = false) (h5 : (((exAt l (Int.toNat s0.2)).lba != s0.1)) = false) (h5p : ((exAt l (Int.toNat s0.2)).lba = s0.1)) (h6 : ((decide (s0.2 > (0 : Int)))) = false) (h6p : ¬ (s0.2 > (0 : Int))) : EvStep Try.prog cf 0 (lp Try.prog 27 0) (mCheck_L0_S blocks l s0) (mCheck_L0_S blocks l (((wr (s0.1 + (exAt l (Int.toNat s0.2)).len)), (wr (s0.2 + (1 : Int)))))) :=
  leafS vw_eq (k := 300) (r := []) (hs := hz [(1, [.yes]), (1, [.yes, .yes, .cells ((Ex.cells (exAt l (Int.toNat s0.2))))]), (3, [.cells ((xc (exAt l (Int.toNat s0.2))))]), (1, [.cells ((xc (exAt l (Int.toNat s0.2))))]), (1, [.fres (.b (s3))]), (2, [.no]), (1, [.no]), (2, [.no]), (1, [.no]), (1, [.no]), (1, [.no]), (1, [.no]), (1, [.no]), (1, [.no, .no, .no, .no, .no, .no, .no, .no, .no, .no, .yes]), (9, [])]) (st1 := (St.mk [(0, (AV.i blocks)), (1, (AV.sl (List.length l) (List.flatMap Ex.cells l))), (5, (AV.i (wr (s0.1 + (exAt l (Int.toNat s0.2)).len)))), (8, (AV.sl (List.length l) (List.flatMap Ex.cells l))), (9, (AV.i (↑(List.length l) : Int))), (10, (AV.i (wr (s0.2 + (1 : Int))))), (11, (AV.b (decide (s0.2 < (↑(List.length l) : Int))))), (12, (AV.i s0.2)), (13, (AV.ip (List.drop ((Int.toNat s0.2) * (5 : Nat)) (List.flatMap Ex.cells l)))), (14, (AV.ag (xc (exAt l (Int.toNat s0.2))))), (7, (AV.pt 0 0)), (6, (AV.i s0.2)), (15, (AV.ag (xc (exAt l (Int.toNat s0.2))))), (16, (AV.b s3)), (17, (AV.b (!s3))), (18, (AV.b (!s3))), (19, (AV.pt 0 0)), (20, (AV.i (exAt l (Int.toNat s0.2)).lba)), (21, (AV.i s0.1)), (22, (AV.b ((exAt l (Int.toNat s0.2)).lba != s0.1))), (23, (AV.b ((exAt l (Int.toNat s0.2)).lba != s0.1))), (24, (AV.b ((exAt l (Int.toNat s0.2)).lba != s0.1))), (25, (AV.i s0.2)), (26, (AV.b (decide (s0.2 > (0 : Int))))), (27, (AV.b (decide (s0.2 > (0 : Int))))), (28, (AV.tu ([] : List AV))), (29, (AV.tu ([] : List AV))), (30, (AV.tu ([] : List AV))), (31, (AV.tu ([] : List AV))), (32, (AV.tu ([] : List AV))), (33, (AV.tu ([] : List AV))), (34, (AV.tu ([] : List AV))), (35, (AV.b Bool.false)), (36, (AV.b Bool.false)), (37, (AV.i s0.1)), (38, (AV.pt 0 1)), (39, (AV.i (exAt l (Int.toNat s0.2)).len)), (40, (AV.i (wr (s0.1 + (exAt l (Int.toNat s0.2)).len)))), (41, (AV.i (wr (s0.2 + (1 : Int)))))] 50 (AH.mk 1 [(0, (AObj.cells (xc (exAt l (Int.toNat s0.2)))))]) Bool.false)) (ps := [((decide (s0.2 < (↑(List.length l) : Int)))) = true, (((0 : Int) ≤ s0.2) ∧ (s0.2 < (↑(List.length l) : Int))), ((5 : Nat) ≤ (List.length (List.drop ((Int.toNat s0.2) * (5 : Nat)) (List.flatMap Ex.cells l)))), (List.take 5 (List.drop ((Int.toNat s0.2) * (5 : Nat)) (List.flatMap Ex.cells l))) = (Ex.cells (exAt l (Int.toNat s0.2))), ((xc (exAt l (Int.toNat s0.2))) : List AV) = (xc (exAt l (Int.toNat s0.2))), ((xc (exAt l (Int.toNat s0.2))) : List AV) = (xc (exAt l (Int.toNat s0.2))), EvFr Try.prog cf Bool.false 45 [(AV.ag (xc (exAt l (Int.toNat s0.2))))] (.b (s3)), ((!s3)) = false, ((!s3)) = false, ((!s3)) = false, ((!s3)) = false, ((!s3)) = false, (((exAt l (Int.toNat s0.2)).lba != s0.1)) = false, (((exAt l (Int.toNat s0.2)).lba != s0.1)) = false, (((exAt l (Int.toNat s0.2)).lba != s0.1)) = false, ((decide (s0.2 > (0 : Int)))) = false, ((decide (s0.2 > (0 : Int)))) = false, ((decide (s0.2 > (0 : Int)))) = false, ((decide (s0.2 > (0 : Int)))) = false, ((decide (s0.2 > (0 : Int)))) = false, ((decide (s0.2 > (0 : Int)))) = false, ((decide (s0.2 > (0 : Int)))) = false, (((exAt l (Int.toNat s0.2)).lba != s0.1)) = false, ((decide (s0.2 > (0 : Int)))) = false, (((exAt l (Int.toNat s0.2)).lba != s0.1)) = false, orderOk (rg Try.prog 27 0) = true ∧ allOk (Region.before (rg Try.prog 27 0)) [] 0 [(some [0], some []), (some [], some []), (some [], some []), (some [], some []), (some [], some []), (some [0], some []), (some [], some []), (some [], some []), (some [], some []), (some [], some []), (some [], some []), (some [], some []), (some [], some []), (some [], some []), (some [], some []), (some [], some []), (some [], some []), (some [], some []), (some [], some []), (some [], some []), (some [], some []), (some [], some [])] = true]) kq ⟨h1, h2, fq, (by first | exact ex_take _ _ bq | (simpa using ex_take _ _ bq) | ((try simp only [List.drop_drop]); rw [show ((Int.toNat s0.2) * (5 : Nat)) = ((Int.toNat s0.2)) * 5 by omega]; exact ex_take _ _ bq)), rfl, rfl, ((eCheck_ok ((exAt l (Int.toNat s0.2))) _ h3).any.cast tq), h4, h4, h4, h4, h4, h5, h5, h5, h6, h6, h6, h6, h6, h6, h6, h5, h6, h5, (ord_of ord_27_0 bef_27_0 kq), trivial⟩ (Nat.le_of_ble_eq_true rfl) (absB_of [] [] kq (.consn kq (.eqv tq rfl) (.consn kq (.eqv tq rfl) (.consn kq (.eqv tq rfl) (.consn kq (.eqv tq rfl) (.consn kq (.eqv tq rfl) (.consn kq (.eqv tq rfl) .nil)))))) .nil)
theorem mCheck_L0_ok (blocks : Int) (l : List Ex) (s0 zz : Int × Int) : mCheck_L0_step blocks l s0 = some zz → EvStep Try.prog cf 0 (lp Try.prog 27 0) (mCheck_L0_S blocks l s0) (mCheck_L0_S blocks l zz) := by
  unfold mCheck_L0_step
  refine tb_ok (fun h1 => ?_) (fun h1 => ?_)
  ·
    have h1p := of_decide_eq_true h1
    refine tp_ok (fun h2 => ?_)
    refine tc_ok (fun s3 h3 => ?_)
    refine tb_ok (fun h4 => ?_) (fun h4 => ?_)
    ·
      exact fun e => nomatch e
    ·
      refine tb_ok (fun h5 => ?_) (fun h5 => ?_)
      ·
        have h5p := bne_iff_ne.1 h5
        exact fun e => nomatch e
      ·
        have h5p := bne_eq_false_iff_eq.1 h5
        refine tb_ok (fun h6 => ?_) (fun h6 => ?_)
        ·
          have h6p := of_decide_eq_true h6
          refine tp_ok (fun h7 => ?_)
          refine tc_ok (fun s8 h8 => ?_)
          refine tb_ok (fun h9 => ?_) (fun h9 => ?_)
          ·
            exact fun e => nomatch e
          ·
            exact fun e => tl_ok (G := (fun zz => EvStep Try.prog cf 0 (lp Try.prog 27 0) (mCheck_L0_S blocks l s0) (mCheck_L0_S blocks l zz))) (mCheck_L0_s0 blocks l s0 h1 h1p h2 s3 h3 h4 h5 h5p h6 h6p h7 s8 h8 h9) e
        ·
          have h6p := of_decide_eq_false h6
          exact fun e => tl_ok (G := (fun zz => EvStep Try.prog cf 0 (lp Try.prog 27 0) (mCheck_L0_S blocks l s0) (mCheck_L0_S blocks l zz))) (mCheck_L0_s1 blocks l s0 h1 h1p h2 s3 h3 h4 h5 h5p h6 h6p) e
  ·
    have h1p := of_decide_eq_false h1
    exact fun e => nomatch e
/-- Function 27, as it answers. -/
noncomputable def mCheck (blocks : Int) (l : List Ex) : Option (Bool) :=
 (th (mCheck_L0_step blocks l) (((0 : Int), (0 : Int))) fun s0 =>
  (tb ((decide (s0.2 < (↑(List.length l) : Int))))
   (tp ((((0 : Int) ≤ s0.2) ∧ (s0.2 < (↑(List.length l) : Int))))
    (tc (eCheck ((exAt l (Int.toNat s0.2)))) fun s3 =>
     (tb ((!s3))
      (some (Bool.false))
      (tb (((exAt l (Int.toNat s0.2)).lba != s0.1))
       (some (Bool.false))
       (tb ((decide (s0.2 > (0 : Int))))
        (tp ((((0 : Int) ≤ (wr (s0.2 - (1 : Int)))) ∧ ((wr (s0.2 - (1 : Int))) < (↑(List.length l) : Int))))
         (tc (eJoins ((exAt l (Int.toNat (wr (s0.2 - (1 : Int)))))) ((exAt l (Int.toNat s0.2)))) fun s8 =>
          (tb (s8)
           (some (Bool.false))
           none /- stop behind an operation -/)))
        none /- stop behind an operation -/)))))
   (tb ((decide ((↑(List.length l) : Int) > (0 : Int))))
    (some ((s0.1 == blocks)))
    (some (Bool.false)))))
abbrev mCheck_G (blocks : Int) (l : List Ex) (r : Bool) : Prop := EvFr Try.prog cf true 27 [.i (blocks), exs (l)] (.b (r))
theorem mCheck_l0 (blocks : Int) (l : List Ex) (s0 : Int × Int) (h0 : Runs (mCheck_L0_step blocks l) (((0 : Int), (0 : Int))) s0) (h1 : ((decide (s0.2 < (↑(List.length l) : Int)))) = true) (h1p : (s0.2 < (↑(List.length l) : Int))) (h2 : (((0 : Int) ≤ s0.2) ∧ (s0.2 < (↑(List.length l) : Int)))) (s3 : Bool) (h3 : eCheck ((exAt l (Int.toNat s0.2))) = some s3) (h4 : ((!s3)) = true) : mCheck_G blocks l (Bool.false) :=
  leafR vw_eq (k := 300) (r := []) (hs := hz [(5, [.head (mCheck_L0_S blocks l s0)]), (1, [.yes]), (1, [.yes, .yes, .cells ((Ex.cells (exAt l (Int.toNat s0.2))))]), (3, [.cells ((xc (exAt l (Int.toNat s0.2))))]), (1, [.cells ((xc (exAt l (Int.toNat s0.2))))]), (1, [.fres (.b (s3))]), (2, [.yes, .yes, .yes, .yes, .yes]), (6, [.yes]), (2, [])]) (raw := (AV.b Bool.false)) (ps := [EvHead Try.prog cf (lp Try.prog 27 0) (mCheck_L0_I blocks l) (mCheck_L0_S blocks l s0), ((decide (s0.2 < (↑(List.length l) : Int)))) = true, (((0 : Int) ≤ s0.2) ∧ (s0.2 < (↑(List.length l) : Int))), ((5 : Nat) ≤ (List.length (List.drop ((Int.toNat s0.2) * (5 : Nat)) (List.flatMap Ex.cells l)))), (List.take 5 (List.drop ((Int.toNat s0.2) * (5 : Nat)) (List.flatMap Ex.cells l))) = (Ex.cells (exAt l (Int.toNat s0.2))), ((xc (exAt l (Int.toNat s0.2))) : List AV) = (xc (exAt l (Int.toNat s0.2))), ((xc (exAt l (Int.toNat s0.2))) : List AV) = (xc (exAt l (Int.toNat s0.2))), EvFr Try.prog cf Bool.false 45 [(AV.ag (xc (exAt l (Int.toNat s0.2))))] (.b (s3)), ((!s3)) = true, ((!s3)) = true, ((!s3)) = true, ((!s3)) = true, ((!s3)) = true, orderOk (rg Try.prog 27 0) = true ∧ allOk (Region.before (rg Try.prog 27 0)) [] 0 [(some [0], some []), (some [], some []), (some [], some []), (some [], some []), (some [], some []), (some [], some []), (some [], some []), (some [], some []), (some [], some []), (some [], some []), (some [], some []), (some [], some []), (some [], some []), (some [], some []), (some [], some []), (some [], some []), (some [], some []), (some [], some []), (some [], some []), (some [], some []), (some [], some []), (some [], some [])] = true]) kq ⟨(EvHead.of (mCheck_L0_ok blocks l) (absB_of [] [] kq (.consn kq (.eqv tq rfl) (.consn kq (.eqv tq rfl) (.consn kq (.eqv tq rfl) (.consn kq (.eqv tq rfl) (.consn kq (.eqv tq rfl) (.consn kq (.eqv tq rfl) .nil)))))) .nil) h0), h1, h2, fq, (by first | exact ex_take _ _ bq | (simpa using ex_take _ _ bq) | ((try simp only [List.drop_drop]); rw [show ((Int.toNat s0.2) * (5 : Nat)) = ((Int.toNat s0.2)) * 5 by omega]; exact ex_take _ _ bq)), rfl, rfl, ((eCheck_ok ((exAt l (Int.toNat s0.2))) _ h3).any.cast tq), h4, h4, h4, h4, h4, (ord_of ord_27_0 bef_27_0 kq), trivial⟩ tq
theorem mCheck_l1 (blocks : Int) (l : List Ex) (s0 : Int × Int) (h0 : Runs (mCheck_L0_step blocks l) (((0 : Int), (0 : Int))) s0) (h1 : ((decide (s0.2 < (↑(List.length l) : Int)))) = true) (h1p : (s0.2 < (↑(List.length l) : Int))) (h2 : (((0 : Int) ≤ s0.2) ∧ (s0.2 < (↑(List.length l) : Int)))) (s3 : Bool) (h3 : eCheck ((exAt l (Int.toNat s0.2))) = some s3) (h4 : ((!s3)) = false) (h5 : (((exAt l (Int.toNat s0.2)).lba != s0.1)) = true) (h5p : ¬ ((exAt l (Int.toNat s0.2)).lba = s0.1)) : mCheck_G blocks l (Bool.false) :=
  leafR vw_eq (k := 300) (r := []) (hs := hz [(5, [.head (mCheck_L0_S blocks l s0)]), (1, [.yes]), (1, [.yes, .yes, .cells ((Ex.cells (exAt l (Int.toNat s0.2))))]), (3, [.cells ((xc (exAt l (Int.toNat s0.2))))]), (1, [.cells ((xc (exAt l (Int.toNat s0.2))))]), (1, [.fres (.b (s3))]), (2, [.no]), (1, [.no]), (2, [.no]), (1, [.no]), (1, [.no]), (1, [.yes, .yes, .yes, .yes, .yes, .yes]), (2, [])]) (raw := (AV.b Bool.false)) (ps := [EvHead Try.prog cf (lp Try.prog 27 0) (mCheck_L0_I blocks l) (mCheck_L0_S blocks l s0), ((decide (s0.2 < (↑(List.length l) : Int)))) = true, (((0 : Int) ≤ s0.2) ∧ (s0.2 < (↑(List.length l) : Int))), ((5 : Nat) ≤ (List.length (List.drop ((Int.toNat s0.2) * (5 : Nat)) (List.flatMap Ex.cells l)))), (List.take 5 (List.drop ((Int.toNat s0.2) * (5 : Nat)) (List.flatMap Ex.cells l))) = (Ex.cells (exAt l (Int.toNat s0.2))), ((xc (exAt l (Int.toNat s0.2))) : List AV) = (xc (exAt l (Int.toNat s0.2))), ((xc (exAt l (Int.toNat s0.2))) : List AV) = (xc (exAt l (Int.toNat s0.2))), EvFr Try.prog cf Bool.false 45 [(AV.ag (xc (exAt l (Int.toNat s0.2))))] (.b (s3)), ((!s3)) = false, ((!s3)) = false, ((!s3)) = false, ((!s3)) = false, ((!s3)) = false, (((exAt l (Int.toNat s0.2)).lba != s0.1)) = true, (((exAt l (Int.toNat s0.2)).lba != s0.1)) = true, (((exAt l (Int.toNat s0.2)).lba != s0.1)) = true, (((exAt l (Int.toNat s0.2)).lba != s0.1)) = true, (((exAt l (Int.toNat s0.2)).lba != s0.1)) = true, orderOk (rg Try.prog 27 0) = true ∧ allOk (Region.before (rg Try.prog 27 0)) [] 0 [(some [0], some []), (some [], some []), (some [], some []), (some [], some []), (some [], some []), (some [0], some []), (some [], some []), (some [], some []), (some [], some []), (some [], some []), (some [], some []), (some [], some []), (some [], some []), (some [], some []), (some [], some []), (some [], some []), (some [], some []), (some [], some []), (some [], some []), (some [], some []), (some [], some []), (some [], some [])] = true]) kq ⟨(EvHead.of (mCheck_L0_ok blocks l) (absB_of [] [] kq (.consn kq (.eqv tq rfl) (.consn kq (.eqv tq rfl) (.consn kq (.eqv tq rfl) (.consn kq (.eqv tq rfl) (.consn kq (.eqv tq rfl) (.consn kq (.eqv tq rfl) .nil)))))) .nil) h0), h1, h2, fq, (by first | exact ex_take _ _ bq | (simpa using ex_take _ _ bq) | ((try simp only [List.drop_drop]); rw [show ((Int.toNat s0.2) * (5 : Nat)) = ((Int.toNat s0.2)) * 5 by omega]; exact ex_take _ _ bq)), rfl, rfl, ((eCheck_ok ((exAt l (Int.toNat s0.2))) _ h3).any.cast tq), h4, h4, h4, h4, h4, h5, h5, h5, h5, h5, (ord_of ord_27_0 bef_27_0 kq), trivial⟩ tq
theorem mCheck_l2 (blocks : Int) (l : List Ex) (s0 : Int × Int) (h0 : Runs (mCheck_L0_step blocks l) (((0 : Int), (0 : Int))) s0) (h1 : ((decide (s0.2 < (↑(List.length l) : Int)))) = true) (h1p : (s0.2 < (↑(List.length l) : Int))) (h2 : (((0 : Int) ≤ s0.2) ∧ (s0.2 < (↑(List.length l) : Int)))) (s3 : Bool) (h3 : eCheck ((exAt l (Int.toNat s0.2))) = some s3) (h4 : ((!s3)) = false) (h5 : (((exAt l (Int.toNat s0.2)).lba != s0.1)) = false) (h5p : ((exAt l (Int.toNat s0.2)).lba = s0.1)) (h6 : ((decide (s0.2 > (0 : Int)))) = true) (h6p : (s0.2 > (0 : Int))) (h7 : (((0 : Int) ≤ (wr (s0.2 - (1 : Int)))) ∧ ((wr (s0.2 - (1 : Int))) < (↑(List.length l) : Int)))) (s8 : Bool) (h8 : eJoins ((exAt l (Int.toNat (wr (s0.2 - (1 : Int)))))) ((exAt l (Int.toNat s0.2))) = some s8) (h9 : (s8) = true) : mCheck_G blocks l (Bool.false) :=
  leafR vw_eq (k := 300) (r := []) (hs := hz [(5, [.head (mCheck_L0_S blocks l s0)]), (1, [.yes]), (1, [.yes, .yes, .cells ((Ex.cells (exAt l (Int.toNat s0.2))))]), (3, [.cells ((xc (exAt l (Int.toNat s0.2))))]), (1, [.cells ((xc (exAt l (Int.toNat s0.2))))]), (1, [.fres (.b (s3))]), (2, [.no]), (1, [.no]), (2, [.no]), (1, [.no]), (1, [.no]), (1, [.no]), (1, [.no]), (1, [.no]), (1, [.yes]), (1, [.yes]), (1, [.yes]), (1, [.yes, .yes, .yes, .yes, .cells ((Ex.cells (exAt l (Int.toNat (wr (s0.2 - (1 : Int))))))), .yes]), (1, [.cells ((xc (exAt l (Int.toNat s0.2)))), .yes]), (1, [.fres (.b (s8)), .no, .yes, .no, .yes, .yes]), (1, [])]) (raw := (AV.b Bool.false)) (ps := [EvHead Try.prog cf (lp Try.prog 27 0) (mCheck_L0_I blocks l) (mCheck_L0_S blocks l s0), ((decide (s0.2 < (↑(List.length l) : Int)))) = true, (((0 : Int) ≤ s0.2) ∧ (s0.2 < (↑(List.length l) : Int))), ((5 : Nat) ≤ (List.length (List.drop ((Int.toNat s0.2) * (5 : Nat)) (List.flatMap Ex.cells l)))), (List.take 5 (List.drop ((Int.toNat s0.2) * (5 : Nat)) (List.flatMap Ex.cells l))) = (Ex.cells (exAt l (Int.toNat s0.2))), ((xc (exAt l (Int.toNat s0.2))) : List AV) = (xc (exAt l (Int.toNat s0.2))), ((xc (exAt l (Int.toNat s0.2))) : List AV) = (xc (exAt l (Int.toNat s0.2))), EvFr Try.prog cf Bool.false 45 [(AV.ag (xc (exAt l (Int.toNat s0.2))))] (.b (s3)), ((!s3)) = false, ((!s3)) = false, ((!s3)) = false, ((!s3)) = false, ((!s3)) = false, (((exAt l (Int.toNat s0.2)).lba != s0.1)) = false, (((exAt l (Int.toNat s0.2)).lba != s0.1)) = false, (((exAt l (Int.toNat s0.2)).lba != s0.1)) = false, ((decide (s0.2 > (0 : Int)))) = true, ((decide (s0.2 > (0 : Int)))) = true, ((decide (s0.2 > (0 : Int)))) = true, ((decide (s0.2 > (0 : Int)))) = true, (((0 : Int) ≤ (wr (s0.2 - (1 : Int)))) ∧ ((wr (s0.2 - (1 : Int))) < (↑(List.length l) : Int))), ((decide (s0.2 > (0 : Int)))) = true, ((5 : Nat) ≤ (List.length (List.drop ((Int.toNat (wr (s0.2 - (1 : Int)))) * (5 : Nat)) (List.flatMap Ex.cells l)))), (List.take 5 (List.drop ((Int.toNat (wr (s0.2 - (1 : Int)))) * (5 : Nat)) (List.flatMap Ex.cells l))) = (Ex.cells (exAt l (Int.toNat (wr (s0.2 - (1 : Int)))))), ((decide (s0.2 > (0 : Int)))) = true, ((xc (exAt l (Int.toNat s0.2))) : List AV) = (xc (exAt l (Int.toNat s0.2))), ((decide (s0.2 > (0 : Int)))) = true, EvFr Try.prog cf Bool.false 46 [(AV.ag (xc (exAt l (Int.toNat (wr (s0.2 - (1 : Int))))))), (AV.ag (xc (exAt l (Int.toNat s0.2))))] (.b (s8)), (((exAt l (Int.toNat s0.2)).lba != s0.1)) = false, ((decide (s0.2 > (0 : Int)))) = true, (((exAt l (Int.toNat s0.2)).lba != s0.1)) = false, orderOk (rg Try.prog 27 0) = true ∧ allOk (Region.before (rg Try.prog 27 0)) [] 0 [(some [0], some []), (some [], some []), (some [], some []), (some [], some []), (some [], some []), (some [0], some []), (some [], some []), (some [], some []), (some [], some []), (some [], some []), (some [], some []), (some [], some []), (some [], some []), (some [], some []), (some [], some []), (some [], some []), (some [], some []), (some [], some []), (some [0], some []), (some [], some []), (some [], some []), (some [], some [])] = true, (s8) = true]) kq ⟨(EvHead.of (mCheck_L0_ok blocks l) (absB_of [] [] kq (.consn kq (.eqv tq rfl) (.consn kq (.eqv tq rfl) (.consn kq (.eqv tq rfl) (.consn kq (.eqv tq rfl) (.consn kq (.eqv tq rfl) (.consn kq (.eqv tq rfl) .nil)))))) .nil) h0), h1, h2, fq, (by first | exact ex_take _ _ bq | (simpa using ex_take _ _ bq) | ((try simp only [List.drop_drop]); rw [show ((Int.toNat s0.2) * (5 : Nat)) = ((Int.toNat s0.2)) * 5 by omega]; exact ex_take _ _ bq)), rfl, rfl, ((eCheck_ok ((exAt l (Int.toNat s0.2))) _ h3).any.cast tq), h4, h4, h4, h4, h4, h5, h5, h5, h6, h6, h6, h6, h7, h6, fq, (by first | exact ex_take _ _ bq | (simpa using ex_take _ _ bq) | ((try simp only [List.drop_drop]); rw [show ((Int.toNat (wr (s0.2 - (1 : Int)))) * (5 : Nat)) = ((Int.toNat (wr (s0.2 - (1 : Int))))) * 5 by omega]; exact ex_take _ _ bq)), h6, rfl, h6, ((eJoins_ok ((exAt l (Int.toNat (wr (s0.2 - (1 : Int)))))) ((exAt l (Int.toNat s0.2))) _ h8).any.cast tq), h5, h6, h5, (ord_of ord_27_0 bef_27_0 kq), h9, trivial⟩ tq
theorem mCheck_l3 (blocks : Int) (l : List Ex) (s0 : Int × Int) (h0 : Runs (mCheck_L0_step blocks l) (((0 : Int), (0 : Int))) s0) (h1 : ((decide (s0.2 < (↑(List.length l) : Int)))) = false) (h1p : ¬ (s0.2 < (↑(List.length l) : Int))) (h2 : ((decide ((↑(List.length l) : Int) > (0 : Int)))) = true) (h2p : ((↑(List.length l) : Int) > (0 : Int))) : mCheck_G blocks l ((s0.1 == blocks)) :=
  leafR vw_eq (k := 300) (r := []) (hs := hz [(5, [.head (mCheck_L0_S blocks l s0)]), (1, [.no]), (4, [.yes]), (1, [.yes]), (1, [.yes]), (1, [.yes]), (1, [])]) (raw := (AV.b (s0.1 == blocks))) (ps := [EvHead Try.prog cf (lp Try.prog 27 0) (mCheck_L0_I blocks l) (mCheck_L0_S blocks l s0), ((decide (s0.2 < (↑(List.length l) : Int)))) = false, ((decide ((↑(List.length l) : Int) > (0 : Int)))) = true, ((decide ((↑(List.length l) : Int) > (0 : Int)))) = true, ((decide ((↑(List.length l) : Int) > (0 : Int)))) = true, ((decide ((↑(List.length l) : Int) > (0 : Int)))) = true]) kq ⟨(EvHead.of (mCheck_L0_ok blocks l) (absB_of [] [] kq (.consn kq (.eqv tq rfl) (.consn kq (.eqv tq rfl) (.consn kq (.eqv tq rfl) (.consn kq (.eqv tq rfl) (.consn kq (.eqv tq rfl) (.consn kq (.eqv tq rfl) .nil)))))) .nil) h0), h1, h2, h2, h2, h2, trivial⟩ tq
theorem mCheck_l4 (blocks : Int) (l : List Ex) (s0 : Int × Int) (h0 : Runs (mCheck_L0_step blocks l) (((0 : Int), (0 : Int))) s0) (h1 : ((decide (s0.2 < (↑(List.length l) : Int)))) = false) (h1p : ¬ (s0.2 < (↑(List.length l) : Int))) (h2 : ((decide ((↑(List.length l) : Int) > (0 : Int)))) = false) (h2p : ¬ ((↑(List.length l) : Int) > (0 : Int))) : mCheck_G blocks l (Bool.false) :=
  leafR vw_eq (k := 300) (r := []) (hs := hz [(5, [.head (mCheck_L0_S blocks l s0)]), (1, [.no]), (4, [.no, .no, .no, .no]), (1, [])]) (raw := (AV.b Bool.false)) (ps := [EvHead Try.prog cf (lp Try.prog 27 0) (mCheck_L0_I blocks l) (mCheck_L0_S blocks l s0), ((decide (s0.2 < (↑(List.length l) : Int)))) = false, ((decide ((↑(List.length l) : Int) > (0 : Int)))) = false, ((decide ((↑(List.length l) : Int) > (0 : Int)))) = false, ((decide ((↑(List.length l) : Int) > (0 : Int)))) = false, ((decide ((↑(List.length l) : Int) > (0 : Int)))) = false]) kq ⟨(EvHead.of (mCheck_L0_ok blocks l) (absB_of [] [] kq (.consn kq (.eqv tq rfl) (.consn kq (.eqv tq rfl) (.consn kq (.eqv tq rfl) (.consn kq (.eqv tq rfl) (.consn kq (.eqv tq rfl) (.consn kq (.eqv tq rfl) .nil)))))) .nil) h0), h1, h2, h2, h2, h2, trivial⟩ tq
theorem mCheck_ok (blocks : Int) (l : List Ex) (r : Bool) : mCheck blocks l = some r → mCheck_G blocks l r := by
  unfold mCheck
  refine th_ok (fun s0 h0 => ?_)
  refine tb_ok (fun h1 => ?_) (fun h1 => ?_)
  ·
    have h1p := of_decide_eq_true h1
    refine tp_ok (fun h2 => ?_)
    refine tc_ok (fun s3 h3 => ?_)
    refine tb_ok (fun h4 => ?_) (fun h4 => ?_)
    ·
      exact fun e => tl_ok (G := mCheck_G blocks l) (mCheck_l0 blocks l s0 h0 h1 h1p h2 s3 h3 h4) e
    ·
      refine tb_ok (fun h5 => ?_) (fun h5 => ?_)
      ·
        have h5p := bne_iff_ne.1 h5
        exact fun e => tl_ok (G := mCheck_G blocks l) (mCheck_l1 blocks l s0 h0 h1 h1p h2 s3 h3 h4 h5 h5p) e
      ·
        have h5p := bne_eq_false_iff_eq.1 h5
        refine tb_ok (fun h6 => ?_) (fun h6 => ?_)
        ·
          have h6p := of_decide_eq_true h6
          refine tp_ok (fun h7 => ?_)
          refine tc_ok (fun s8 h8 => ?_)
          refine tb_ok (fun h9 => ?_) (fun h9 => ?_)
          ·
            exact fun e => tl_ok (G := mCheck_G blocks l) (mCheck_l2 blocks l s0 h0 h1 h1p h2 s3 h3 h4 h5 h5p h6 h6p h7 s8 h8 h9) e
          ·
            exact fun e => nomatch e
        ·
          have h6p := of_decide_eq_false h6
          exact fun e => nomatch e
  ·
    have h1p := of_decide_eq_false h1
    refine tb_ok (fun h2 => ?_) (fun h2 => ?_)
    ·
      have h2p := of_decide_eq_true h2
      exact fun e => tl_ok (G := mCheck_G blocks l) (mCheck_l3 blocks l s0 h0 h1 h1p h2 h2p) e
    ·
      have h2p := of_decide_eq_false h2
      exact fun e => tl_ok (G := mCheck_G blocks l) (mCheck_l4 blocks l s0 h0 h1 h1p h2 h2p) e
/-- Function 36, as it answers. -/
noncomputable def iWithin (n : Int) (low : Int) (high : Int) : Option (Bool) :=
 (tb ((decide (n ≥ low)))
  (some ((decide (n ≤ high))))
  (some (Bool.false)))
abbrev iWithin_G (n : Int) (low : Int) (high : Int) (r : Bool) : Prop := EvFr Try.prog cf true 36 [.i (n), .i (low), .i (high)] (.b (r))
theorem iWithin_l0 (n : Int) (low : Int) (high : Int) (h0 : ((decide (n ≥ low))) = true) (h0p : (n ≥ low)) : iWithin_G n low high ((decide (n ≤ high))) :=
  leafR vw_eq (k := 300) (r := []) (hs := hz [(5, [.yes]), (1, [.yes]), (1, [.yes]), (1, [.yes]), (1, [])]) (raw := (AV.b (decide (n ≤ high)))) (ps := [((decide (n ≥ low))) = true, ((decide (n ≥ low))) = true, ((decide (n ≥ low))) = true, ((decide (n ≥ low))) = true]) kq ⟨h0, h0, h0, h0, trivial⟩ tq
theorem iWithin_l1 (n : Int) (low : Int) (high : Int) (h0 : ((decide (n ≥ low))) = false) (h0p : ¬ (n ≥ low)) : iWithin_G n low high (Bool.false) :=
  leafR vw_eq (k := 300) (r := []) (hs := hz [(5, [.no, .no, .no, .no]), (1, [])]) (raw := (AV.b Bool.false)) (ps := [((decide (n ≥ low))) = false, ((decide (n ≥ low))) = false, ((decide (n ≥ low))) = false, ((decide (n ≥ low))) = false]) kq ⟨h0, h0, h0, h0, trivial⟩ tq
theorem iWithin_ok (n : Int) (low : Int) (high : Int) (r : Bool) : iWithin n low high = some r → iWithin_G n low high r := by
  unfold iWithin
  refine tb_ok (fun h0 => ?_) (fun h0 => ?_)
  ·
    have h0p := of_decide_eq_true h0
    exact fun e => tl_ok (G := iWithin_G n low high) (iWithin_l0 n low high h0 h0p) e
  ·
    have h0p := of_decide_eq_false h0
    exact fun e => tl_ok (G := iWithin_G n low high) (iWithin_l1 n low high h0 h0p) e
noncomputable abbrev iCheck_L0_I (l : List Ce) (s0 : Bool) : St := (St.mk [(0, (AV.sl (List.length l) (List.flatMap Ce.cells l))), (1, (AV.fn (38 : Nat) ([] : List AV))), (4, (AV.i 0)), (6, (AV.sl (List.length l) (List.flatMap Ce.cells l))), (7, (AV.i (↑(List.length l) : Int))), (8, (AV.i 0))] 19 (AH.mk 0 ([] : List (Prod Nat AObj))) Bool.false)
noncomputable abbrev iCheck_L0_S (l : List Ce) (s0 : Bool) (s2 : Int) : St := (St.mk [(0, (AV.sl (List.length l) (List.flatMap Ce.cells l))), (1, (AV.fn (38 : Nat) ([] : List AV))), (7, (AV.i (↑(List.length l) : Int))), (8, (AV.i s2))] 19 (AH.mk 0 ([] : List (Prod Nat AObj))) Bool.false)
noncomputable def iCheck_L0_step (l : List Ce) (s0 : Bool) (s2 : Int) : Option (Int) :=
 (tb ((decide (s2 < (↑(List.length l) : Int))))
  (tp ((((0 : Int) ≤ s2) ∧ (s2 < (↑(List.length l) : Int))))
   (tc (iWithin ((ceAt l (Int.toNat s2)).kind) ((0 : Int)) ((2 : Int))) fun s5 =>
    (tb ((!s5))
     none /- exit -/
     (tc (iWithin ((ceAt l (Int.toNat s2)).gen) ((0 : Int)) ((2147483647 : Int))) fun s7 =>
      (tb ((!s7))
       none /- exit -/
       (tb (((ceAt l (Int.toNat s2)).kind != (2 : Int)))
        (tb ((!((pad 32 (ceAt l (Int.toNat s2)).d) == (List.replicate (32 : Nat) (UInt8.ofNat (0 : Nat))))))
         none /- exit -/
         (some ((wr (s2 + (1 : Int))))))
        (some ((wr (s2 + (1 : Int)))))))))))
  none /- exit -/)
theorem iCheck_L0_s0 (l : List Ce) (s0 : Bool) (s2 : Int) (h3 : ((decide (s2 < (↑(List.length l) : Int)))) = true) (h3p : (s2 < (↑(List.length l) : Int))) (h4 : (((0 : Int) ≤ s2) ∧ (s2 < (↑(List.length l) : Int)))) (s5 : Bool) (h5 : iWithin ((ceAt l (Int.toNat s2)).kind) ((0 : Int)) ((2 : Int)) = some s5) (h6 : ((!s5)) = false) (s7 : Bool) (h7 : iWithin ((ceAt l (Int.toNat s2)).gen) ((0 : Int)) ((2147483647 : Int)) = some s7) (h8 : ((!s7)) = false) (h9 : (((ceAt l (Int.toNat s2)).kind != (2 : Int))) = true) (h9p : ¬ ((ceAt l (Int.toNat s2)).kind = (2 : Int))) (h10 : ((!((pad 32 (ceAt l (Int.toNat s2)).d) == (List.replicate (32 : Nat) (UInt8.ofNat (0 : Nat)))))) = false) : EvStep Try.prog cf 0 (lp Try.prog 54 0) (iCheck_L0_S l s0 s2) (iCheck_L0_S l s0 ((wr (s2 + (1 : Int))))) :=
  leafS vw_eq (k := 300) (r := []) (hs := hz [(1, [.yes]), (5, [.yes, .yes, .cells ((Ce.cells (ceAt l (Int.toNat s2))))]), (7, [.fres (.b (s5))]), (2, [.no]), (1, [.no]), (2, [.no]), (1, [.fres (.b (s7)), .no]), (1, [.no]), (1, [.no]), (1, [.no]), (2, [.no]), (1, [.no]), (1, [.yes]), (1, [.yes, .yes]), (1, [.yes]), (1, [.yes, .yes, .truth (((pad 32 (ceAt l (Int.toNat s2)).d) == (List.replicate (32 : Nat) (UInt8.ofNat (0 : Nat))))), .no, .yes, .no]), (1, [.no]), (2, [])]) (st1 := (St.mk [(0, (AV.sl (List.length l) (List.flatMap Ce.cells l))), (1, (AV.fn (38 : Nat) ([] : List AV))), (7, (AV.i (↑(List.length l) : Int))), (8, (AV.i (wr (s2 + (1 : Int))))), (9, (AV.b (decide (s2 < (↑(List.length l) : Int))))), (10, (AV.i s2)), (5, (AV.i s2)), (11, (AV.fn (38 : Nat) ([] : List AV))), (12, (AV.sl (List.length l) (List.flatMap Ce.cells l))), (13, (AV.i s2)), (14, (AV.ip (List.drop ((Int.toNat s2) * (34 : Nat)) (List.flatMap Ce.cells l)))), (15, (AV.ag (Ce.cells (ceAt l (Int.toNat s2))))), (16, (AV.b (!((pad 32 (ceAt l (Int.toNat s2)).d) == (List.replicate (32 : Nat) (UInt8.ofNat (0 : Nat))))))), (18, (AV.i (wr (s2 + (1 : Int)))))] 19 (AH.mk 1 [(0, (AObj.cells ((AV.i (ceAt l (Int.toNat s2)).kind) :: (AV.i (ceAt l (Int.toNat s2)).gen) :: (List.map AV.y (pad 32 (ceAt l (Int.toNat s2)).d)))))]) Bool.false)) (ps := [((decide (s2 < (↑(List.length l) : Int)))) = true, (((0 : Int) ≤ s2) ∧ (s2 < (↑(List.length l) : Int))), ((34 : Nat) ≤ (List.length (List.drop ((Int.toNat s2) * (34 : Nat)) (List.flatMap Ce.cells l)))), (List.take 34 (List.drop ((Int.toNat s2) * (34 : Nat)) (List.flatMap Ce.cells l))) = (Ce.cells (ceAt l (Int.toNat s2))), EvFr Try.prog cf Bool.false 36 [(AV.i (ceAt l (Int.toNat s2)).kind), (AV.i 0), (AV.i 2)] (.b (s5)), ((!s5)) = false, ((!s5)) = false, ((!s5)) = false, EvFr Try.prog cf Bool.false 36 [(AV.i (ceAt l (Int.toNat s2)).gen), (AV.i 0), (AV.i 2147483647)] (.b (s7)), ((!s5)) = false, ((!s5)) = false, ((!s7)) = false, ((!s7)) = false, ((!s7)) = false, ((!s7)) = false, (((ceAt l (Int.toNat s2)).kind != (2 : Int))) = true, (((ceAt l (Int.toNat s2)).kind != (2 : Int))) = true, ((34 : Nat) ≤ (List.length ((AV.i (ceAt l (Int.toNat s2)).kind) :: (AV.i (ceAt l (Int.toNat s2)).gen) :: (List.map AV.y (pad 32 (ceAt l (Int.toNat s2)).d))))), (((ceAt l (Int.toNat s2)).kind != (2 : Int))) = true, (((ceAt l (Int.toNat s2)).kind != (2 : Int))) = true, (((List.length (List.take 32 (List.map AV.y (pad 32 (ceAt l (Int.toNat s2)).d)))) = (32 : Nat)) ∧ ((32 : Nat) = (32 : Nat))), eqCells ((List.take 32 (List.map AV.y (pad 32 (ceAt l (Int.toNat s2)).d)))) ((List.replicate (32 : Nat) (AV.y (UInt8.ofNat (0 : Nat))))) = some (((pad 32 (ceAt l (Int.toNat s2)).d) == (List.replicate (32 : Nat) (UInt8.ofNat (0 : Nat))))), ((!s7)) = false, (((ceAt l (Int.toNat s2)).kind != (2 : Int))) = true, ((!s7)) = false, ((!((pad 32 (ceAt l (Int.toNat s2)).d) == (List.replicate (32 : Nat) (UInt8.ofNat (0 : Nat)))))) = false]) kq ⟨h3, h4, fq, (by first | exact ce_take _ _ bq | (simpa using ce_take _ _ bq) | ((try simp only [List.drop_drop]); rw [show ((Int.toNat s2) * (34 : Nat)) = ((Int.toNat s2)) * 34 by omega]; exact ce_take _ _ bq)), ((iWithin_ok ((ceAt l (Int.toNat s2)).kind) ((0 : Int)) ((2 : Int)) _ h5).any.cast tq), h6, h6, h6, ((iWithin_ok ((ceAt l (Int.toNat s2)).gen) ((0 : Int)) ((2147483647 : Int)) _ h7).any.cast tq), h6, h6, h8, h8, h8, h8, h9, h9, tq, h9, h9, tq, (eqCells_of tq tq tq), h8, h9, h8, h10, trivial⟩ (Nat.le_of_ble_eq_true rfl) (absB_of [] [] kq (.consn kq (.eqv tq rfl) (.consn kq (.fn .nil) (.consn kq (.eqv tq rfl) (.consn kq (.eqv tq rfl) .nil)))) .nil)
theorem iCheck_L0_s1 (l : List Ce) (s0 : Bool) (s2 : Int) (h3 : ((decide (s2 < (↑(List.length l) : Int)))) = true) (h3p : (s2 < (↑(List.length l) : Int))) (h4 : (((0 : Int) ≤ s2) ∧ (s2 < (↑(List.length l) : Int)))) (s5 : Bool) (h5 : iWithin ((ceAt l (Int.toNat s2)).kind) ((0 : Int)) ((2 : Int)) = some s5) (h6 : ((!s5)) = false) (s7 : Bool) (h7 : iWithin ((ceAt l (Int.toNat s2)).gen) ((0 : Int)) ((2147483647 : Int)) = some s7) (h8 : ((!s7)) = false) (h9 : (((ceAt l (Int.toNat s2)).kind != (2 : Int))) = false) (h9p : ((ceAt l (Int.toNat s2)).kind = (2 : Int))) : EvStep Try.prog cf 0 (lp Try.prog 54 0) (iCheck_L0_S l s0 s2) (iCheck_L0_S l s0 ((wr (s2 + (1 : Int))))) :=
  leafS vw_eq (k := 300) (r := []) (hs := hz [(1, [.yes]), (5, [.yes, .yes, .cells ((Ce.cells (ceAt l (Int.toNat s2))))]), (7, [.fres (.b (s5))]), (2, [.no]), (1, [.no]), (2, [.no]), (1, [.fres (.b (s7)), .no]), (1, [.no]), (1, [.no]), (1, [.no]), (2, [.no]), (1, [.no]), (1, [.no, .no, .no, .no, .no, .no, .no]), (4, [])]) (st1 := (St.mk [(0, (AV.sl (List.length l) (List.flatMap Ce.cells l))), (1, (AV.fn (38 : Nat) ([] : List AV))), (7, (AV.i (↑(List.length l) : Int))), (8, (AV.i (wr (s2 + (1 : Int))))), (9, (AV.b (decide (s2 < (↑(List.length l) : Int))))), (10, (AV.i s2)), (5, (AV.i s2)), (11, (AV.fn (38 : Nat) ([] : List AV))), (12, (AV.sl (List.length l) (List.flatMap Ce.cells l))), (13, (AV.i s2)), (14, (AV.ip (List.drop ((Int.toNat s2) * (34 : Nat)) (List.flatMap Ce.cells l)))), (15, (AV.ag (Ce.cells (ceAt l (Int.toNat s2))))), (16, (AV.b Bool.false)), (18, (AV.i (wr (s2 + (1 : Int)))))] 19 (AH.mk 1 [(0, (AObj.cells ((AV.i (ceAt l (Int.toNat s2)).kind) :: (AV.i (ceAt l (Int.toNat s2)).gen) :: (List.map AV.y (pad 32 (ceAt l (Int.toNat s2)).d)))))]) Bool.false)) (ps := [((decide (s2 < (↑(List.length l) : Int)))) = true, (((0 : Int) ≤ s2) ∧ (s2 < (↑(List.length l) : Int))), ((34 : Nat) ≤ (List.length (List.drop ((Int.toNat s2) * (34 : Nat)) (List.flatMap Ce.cells l)))), (List.take 34 (List.drop ((Int.toNat s2) * (34 : Nat)) (List.flatMap Ce.cells l))) = (Ce.cells (ceAt l (Int.toNat s2))), EvFr Try.prog cf Bool.false 36 [(AV.i (ceAt l (Int.toNat s2)).kind), (AV.i 0), (AV.i 2)] (.b (s5)), ((!s5)) = false, ((!s5)) = false, ((!s5)) = false, EvFr Try.prog cf Bool.false 36 [(AV.i (ceAt l (Int.toNat s2)).gen), (AV.i 0), (AV.i 2147483647)] (.b (s7)), ((!s5)) = false, ((!s5)) = false, ((!s7)) = false, ((!s7)) = false, ((!s7)) = false, ((!s7)) = false, (((ceAt l (Int.toNat s2)).kind != (2 : Int))) = false, (((ceAt l (Int.toNat s2)).kind != (2 : Int))) = false, (((ceAt l (Int.toNat s2)).kind != (2 : Int))) = false, (((ceAt l (Int.toNat s2)).kind != (2 : Int))) = false, ((!s7)) = false, (((ceAt l (Int.toNat s2)).kind != (2 : Int))) = false, ((!s7)) = false]) kq ⟨h3, h4, fq, (by first | exact ce_take _ _ bq | (simpa using ce_take _ _ bq) | ((try simp only [List.drop_drop]); rw [show ((Int.toNat s2) * (34 : Nat)) = ((Int.toNat s2)) * 34 by omega]; exact ce_take _ _ bq)), ((iWithin_ok ((ceAt l (Int.toNat s2)).kind) ((0 : Int)) ((2 : Int)) _ h5).any.cast tq), h6, h6, h6, ((iWithin_ok ((ceAt l (Int.toNat s2)).gen) ((0 : Int)) ((2147483647 : Int)) _ h7).any.cast tq), h6, h6, h8, h8, h8, h8, h9, h9, h9, h9, h8, h9, h8, trivial⟩ (Nat.le_of_ble_eq_true rfl) (absB_of [] [] kq (.consn kq (.eqv tq rfl) (.consn kq (.fn .nil) (.consn kq (.eqv tq rfl) (.consn kq (.eqv tq rfl) .nil)))) .nil)
theorem iCheck_L0_ok (l : List Ce) (s0 : Bool) (s2 zz : Int) : iCheck_L0_step l s0 s2 = some zz → EvStep Try.prog cf 0 (lp Try.prog 54 0) (iCheck_L0_S l s0 s2) (iCheck_L0_S l s0 zz) := by
  unfold iCheck_L0_step
  refine tb_ok (fun h3 => ?_) (fun h3 => ?_)
  ·
    have h3p := of_decide_eq_true h3
    refine tp_ok (fun h4 => ?_)
    refine tc_ok (fun s5 h5 => ?_)
    refine tb_ok (fun h6 => ?_) (fun h6 => ?_)
    ·
      exact fun e => nomatch e
    ·
      refine tc_ok (fun s7 h7 => ?_)
      refine tb_ok (fun h8 => ?_) (fun h8 => ?_)
      ·
        exact fun e => nomatch e
      ·
        refine tb_ok (fun h9 => ?_) (fun h9 => ?_)
        ·
          have h9p := bne_iff_ne.1 h9
          refine tb_ok (fun h10 => ?_) (fun h10 => ?_)
          ·
            exact fun e => nomatch e
          ·
            exact fun e => tl_ok (G := (fun zz => EvStep Try.prog cf 0 (lp Try.prog 54 0) (iCheck_L0_S l s0 s2) (iCheck_L0_S l s0 zz))) (iCheck_L0_s0 l s0 s2 h3 h3p h4 s5 h5 h6 s7 h7 h8 h9 h9p h10) e
        ·
          have h9p := bne_eq_false_iff_eq.1 h9
          exact fun e => tl_ok (G := (fun zz => EvStep Try.prog cf 0 (lp Try.prog 54 0) (iCheck_L0_S l s0 s2) (iCheck_L0_S l s0 zz))) (iCheck_L0_s1 l s0 s2 h3 h3p h4 s5 h5 h6 s7 h7 h8 h9 h9p) e
  ·
    have h3p := of_decide_eq_false h3
    exact fun e => nomatch e
/-- Function 17, as it answers. -/
noncomputable def iCheck (l : List Ce) : Option (Bool) :=
 (tc (iWithin ((↑(List.length l) : Int)) ((1 : Int)) ((64 : Int))) fun s0 =>
  (tb (s0)
   (th (iCheck_L0_step l s0) ((0 : Int)) fun s2 =>
    (tb ((decide (s2 < (↑(List.length l) : Int))))
     (tp ((((0 : Int) ≤ s2) ∧ (s2 < (↑(List.length l) : Int))))
      (tc (iWithin ((ceAt l (Int.toNat s2)).kind) ((0 : Int)) ((2 : Int))) fun s5 =>
       (tb ((!s5))
        (some ((!(decide (s2 ≥ (0 : Int))))))
        (tc (iWithin ((ceAt l (Int.toNat s2)).gen) ((0 : Int)) ((2147483647 : Int))) fun s7 =>
         (tb ((!s7))
          (some ((!(decide (s2 ≥ (0 : Int))))))
          (tb (((ceAt l (Int.toNat s2)).kind != (2 : Int)))
           (tb ((!((pad 32 (ceAt l (Int.toNat s2)).d) == (List.replicate (32 : Nat) (UInt8.ofNat (0 : Nat))))))
            (some ((!(decide (s2 ≥ (0 : Int))))))
            none /- stop behind an operation -/)
           none /- stop behind an operation -/))))))
     (some (Bool.true))))
   (some (Bool.false))))
abbrev iCheck_G (l : List Ce) (r : Bool) : Prop := EvFr Try.prog cf true 17 [ces (l)] (.b (r))
theorem iCheck_l0 (l : List Ce) (s0 : Bool) (h0 : iWithin ((↑(List.length l) : Int)) ((1 : Int)) ((64 : Int)) = some s0) (h1 : (s0) = true) (s2 : Int) (h2 : Runs (iCheck_L0_step l s0) ((0 : Int)) s2) (h3 : ((decide (s2 < (↑(List.length l) : Int)))) = true) (h3p : (s2 < (↑(List.length l) : Int))) (h4 : (((0 : Int) ≤ s2) ∧ (s2 < (↑(List.length l) : Int)))) (s5 : Bool) (h5 : iWithin ((ceAt l (Int.toNat s2)).kind) ((0 : Int)) ((2 : Int)) = some s5) (h6 : ((!s5)) = true) : iCheck_G l ((!(decide (s2 ≥ (0 : Int))))) :=
  leafR vw_eq (k := 300) (r := []) (hs := hz [(4, [.fres (.b (s0))]), (1, [.yes]), (1, [.yes]), (9, [.head (iCheck_L0_S l s0 s2)]), (1, [.yes]), (5, [.yes, .yes, .cells ((Ce.cells (ceAt l (Int.toNat s2))))]), (7, [.fres (.b (s5))]), (2, [.yes, .yes, .yes, .yes, .yes]), (13, [.yes]), (1, [.yes]), (1, [])]) (raw := (AV.b (!(decide (s2 ≥ (0 : Int)))))) (ps := [EvFr Try.prog cf Bool.false 36 [(AV.i (↑(List.length l) : Int)), (AV.i 1), (AV.i 64)] (.b (s0)), (s0) = true, (s0) = true, EvHead Try.prog cf (lp Try.prog 54 0) (iCheck_L0_I l s0) (iCheck_L0_S l s0 s2), ((decide (s2 < (↑(List.length l) : Int)))) = true, (((0 : Int) ≤ s2) ∧ (s2 < (↑(List.length l) : Int))), ((34 : Nat) ≤ (List.length (List.drop ((Int.toNat s2) * (34 : Nat)) (List.flatMap Ce.cells l)))), (List.take 34 (List.drop ((Int.toNat s2) * (34 : Nat)) (List.flatMap Ce.cells l))) = (Ce.cells (ceAt l (Int.toNat s2))), EvFr Try.prog cf Bool.false 36 [(AV.i (ceAt l (Int.toNat s2)).kind), (AV.i 0), (AV.i 2)] (.b (s5)), ((!s5)) = true, ((!s5)) = true, ((!s5)) = true, ((!s5)) = true, ((!s5)) = true, (s0) = true, (s0) = true]) kq ⟨((iWithin_ok ((↑(List.length l) : Int)) ((1 : Int)) ((64 : Int)) _ h0).any.cast tq), h1, h1, (EvHead.of (iCheck_L0_ok l s0) (absB_of [] [] kq (.consn kq (.eqv tq rfl) (.consn kq (.fn .nil) (.consn kq (.eqv tq rfl) (.consn kq (.eqv tq rfl) .nil)))) .nil) h2), h3, h4, fq, (by first | exact ce_take _ _ bq | (simpa using ce_take _ _ bq) | ((try simp only [List.drop_drop]); rw [show ((Int.toNat s2) * (34 : Nat)) = ((Int.toNat s2)) * 34 by omega]; exact ce_take _ _ bq)), ((iWithin_ok ((ceAt l (Int.toNat s2)).kind) ((0 : Int)) ((2 : Int)) _ h5).any.cast tq), h6, h6, h6, h6, h6, h1, h1, trivial⟩ tq
theorem iCheck_l1 (l : List Ce) (s0 : Bool) (h0 : iWithin ((↑(List.length l) : Int)) ((1 : Int)) ((64 : Int)) = some s0) (h1 : (s0) = true) (s2 : Int) (h2 : Runs (iCheck_L0_step l s0) ((0 : Int)) s2) (h3 : ((decide (s2 < (↑(List.length l) : Int)))) = true) (h3p : (s2 < (↑(List.length l) : Int))) (h4 : (((0 : Int) ≤ s2) ∧ (s2 < (↑(List.length l) : Int)))) (s5 : Bool) (h5 : iWithin ((ceAt l (Int.toNat s2)).kind) ((0 : Int)) ((2 : Int)) = some s5) (h6 : ((!s5)) = false) (s7 : Bool) (h7 : iWithin ((ceAt l (Int.toNat s2)).gen) ((0 : Int)) ((2147483647 : Int)) = some s7) (h8 : ((!s7)) = true) : iCheck_G l ((!(decide (s2 ≥ (0 : Int))))) :=
  leafR vw_eq (k := 300) (r := []) (hs := hz [(4, [.fres (.b (s0))]), (1, [.yes]), (1, [.yes]), (9, [.head (iCheck_L0_S l s0 s2)]), (1, [.yes]), (5, [.yes, .yes, .cells ((Ce.cells (ceAt l (Int.toNat s2))))]), (7, [.fres (.b (s5))]), (2, [.no]), (1, [.no]), (2, [.no]), (1, [.fres (.b (s7)), .no]), (1, [.no]), (1, [.yes, .yes, .yes, .yes, .yes, .yes]), (6, [.yes]), (1, [.yes]), (1, [])]) (raw := (AV.b (!(decide (s2 ≥ (0 : Int)))))) (ps := [EvFr Try.prog cf Bool.false 36 [(AV.i (↑(List.length l) : Int)), (AV.i 1), (AV.i 64)] (.b (s0)), (s0) = true, (s0) = true, EvHead Try.prog cf (lp Try.prog 54 0) (iCheck_L0_I l s0) (iCheck_L0_S l s0 s2), ((decide (s2 < (↑(List.length l) : Int)))) = true, (((0 : Int) ≤ s2) ∧ (s2 < (↑(List.length l) : Int))), ((34 : Nat) ≤ (List.length (List.drop ((Int.toNat s2) * (34 : Nat)) (List.flatMap Ce.cells l)))), (List.take 34 (List.drop ((Int.toNat s2) * (34 : Nat)) (List.flatMap Ce.cells l))) = (Ce.cells (ceAt l (Int.toNat s2))), EvFr Try.prog cf Bool.false 36 [(AV.i (ceAt l (Int.toNat s2)).kind), (AV.i 0), (AV.i 2)] (.b (s5)), ((!s5)) = false, ((!s5)) = false, ((!s5)) = false, EvFr Try.prog cf Bool.false 36 [(AV.i (ceAt l (Int.toNat s2)).gen), (AV.i 0), (AV.i 2147483647)] (.b (s7)), ((!s5)) = false, ((!s5)) = false, ((!s7)) = true, ((!s7)) = true, ((!s7)) = true, ((!s7)) = true, ((!s7)) = true, ((!s7)) = true, (s0) = true, (s0) = true]) kq ⟨((iWithin_ok ((↑(List.length l) : Int)) ((1 : Int)) ((64 : Int)) _ h0).any.cast tq), h1, h1, (EvHead.of (iCheck_L0_ok l s0) (absB_of [] [] kq (.consn kq (.eqv tq rfl) (.consn kq (.fn .nil) (.consn kq (.eqv tq rfl) (.consn kq (.eqv tq rfl) .nil)))) .nil) h2), h3, h4, fq, (by first | exact ce_take _ _ bq | (simpa using ce_take _ _ bq) | ((try simp only [List.drop_drop]); rw [show ((Int.toNat s2) * (34 : Nat)) = ((Int.toNat s2)) * 34 by omega]; exact ce_take _ _ bq)), ((iWithin_ok ((ceAt l (Int.toNat s2)).kind) ((0 : Int)) ((2 : Int)) _ h5).any.cast tq), h6, h6, h6, ((iWithin_ok ((ceAt l (Int.toNat s2)).gen) ((0 : Int)) ((2147483647 : Int)) _ h7).any.cast tq), h6, h6, h8, h8, h8, h8, h8, h8, h1, h1, trivial⟩ tq
theorem iCheck_l2 (l : List Ce) (s0 : Bool) (h0 : iWithin ((↑(List.length l) : Int)) ((1 : Int)) ((64 : Int)) = some s0) (h1 : (s0) = true) (s2 : Int) (h2 : Runs (iCheck_L0_step l s0) ((0 : Int)) s2) (h3 : ((decide (s2 < (↑(List.length l) : Int)))) = true) (h3p : (s2 < (↑(List.length l) : Int))) (h4 : (((0 : Int) ≤ s2) ∧ (s2 < (↑(List.length l) : Int)))) (s5 : Bool) (h5 : iWithin ((ceAt l (Int.toNat s2)).kind) ((0 : Int)) ((2 : Int)) = some s5) (h6 : ((!s5)) = false) (s7 : Bool) (h7 : iWithin ((ceAt l (Int.toNat s2)).gen) ((0 : Int)) ((2147483647 : Int)) = some s7) (h8 : ((!s7)) = false) (h9 : (((ceAt l (Int.toNat s2)).kind != (2 : Int))) = true) (h9p : ¬ ((ceAt l (Int.toNat s2)).kind = (2 : Int))) (h10 : ((!((pad 32 (ceAt l (Int.toNat s2)).d) == (List.replicate (32 : Nat) (UInt8.ofNat (0 : Nat)))))) = true) : iCheck_G l ((!(decide (s2 ≥ (0 : Int))))) :=
  leafR vw_eq (k := 300) (r := []) (hs := hz [(4, [.fres (.b (s0))]), (1, [.yes]), (1, [.yes]), (9, [.head (iCheck_L0_S l s0 s2)]), (1, [.yes]), (5, [.yes, .yes, .cells ((Ce.cells (ceAt l (Int.toNat s2))))]), (7, [.fres (.b (s5))]), (2, [.no]), (1, [.no]), (2, [.no]), (1, [.fres (.b (s7)), .no]), (1, [.no]), (1, [.no]), (1, [.no]), (2, [.no]), (1, [.no]), (1, [.yes]), (1, [.yes, .yes]), (1, [.yes]), (1, [.yes, .yes, .truth (((pad 32 (ceAt l (Int.toNat s2)).d) == (List.replicate (32 : Nat) (UInt8.ofNat (0 : Nat))))), .no, .yes, .no]), (1, [.yes]), (4, [.yes]), (1, [.yes]), (1, [])]) (raw := (AV.b (!(decide (s2 ≥ (0 : Int)))))) (ps := [EvFr Try.prog cf Bool.false 36 [(AV.i (↑(List.length l) : Int)), (AV.i 1), (AV.i 64)] (.b (s0)), (s0) = true, (s0) = true, EvHead Try.prog cf (lp Try.prog 54 0) (iCheck_L0_I l s0) (iCheck_L0_S l s0 s2), ((decide (s2 < (↑(List.length l) : Int)))) = true, (((0 : Int) ≤ s2) ∧ (s2 < (↑(List.length l) : Int))), ((34 : Nat) ≤ (List.length (List.drop ((Int.toNat s2) * (34 : Nat)) (List.flatMap Ce.cells l)))), (List.take 34 (List.drop ((Int.toNat s2) * (34 : Nat)) (List.flatMap Ce.cells l))) = (Ce.cells (ceAt l (Int.toNat s2))), EvFr Try.prog cf Bool.false 36 [(AV.i (ceAt l (Int.toNat s2)).kind), (AV.i 0), (AV.i 2)] (.b (s5)), ((!s5)) = false, ((!s5)) = false, ((!s5)) = false, EvFr Try.prog cf Bool.false 36 [(AV.i (ceAt l (Int.toNat s2)).gen), (AV.i 0), (AV.i 2147483647)] (.b (s7)), ((!s5)) = false, ((!s5)) = false, ((!s7)) = false, ((!s7)) = false, ((!s7)) = false, ((!s7)) = false, (((ceAt l (Int.toNat s2)).kind != (2 : Int))) = true, (((ceAt l (Int.toNat s2)).kind != (2 : Int))) = true, ((34 : Nat) ≤ (List.length ((AV.i (ceAt l (Int.toNat s2)).kind) :: (AV.i (ceAt l (Int.toNat s2)).gen) :: (List.map AV.y (pad 32 (ceAt l (Int.toNat s2)).d))))), (((ceAt l (Int.toNat s2)).kind != (2 : Int))) = true, (((ceAt l (Int.toNat s2)).kind != (2 : Int))) = true, (((List.length (List.take 32 (List.map AV.y (pad 32 (ceAt l (Int.toNat s2)).d)))) = (32 : Nat)) ∧ ((32 : Nat) = (32 : Nat))), eqCells ((List.take 32 (List.map AV.y (pad 32 (ceAt l (Int.toNat s2)).d)))) ((List.replicate (32 : Nat) (AV.y (UInt8.ofNat (0 : Nat))))) = some (((pad 32 (ceAt l (Int.toNat s2)).d) == (List.replicate (32 : Nat) (UInt8.ofNat (0 : Nat))))), ((!s7)) = false, (((ceAt l (Int.toNat s2)).kind != (2 : Int))) = true, ((!s7)) = false, ((!((pad 32 (ceAt l (Int.toNat s2)).d) == (List.replicate (32 : Nat) (UInt8.ofNat (0 : Nat)))))) = true, (s0) = true, (s0) = true]) kq ⟨((iWithin_ok ((↑(List.length l) : Int)) ((1 : Int)) ((64 : Int)) _ h0).any.cast tq), h1, h1, (EvHead.of (iCheck_L0_ok l s0) (absB_of [] [] kq (.consn kq (.eqv tq rfl) (.consn kq (.fn .nil) (.consn kq (.eqv tq rfl) (.consn kq (.eqv tq rfl) .nil)))) .nil) h2), h3, h4, fq, (by first | exact ce_take _ _ bq | (simpa using ce_take _ _ bq) | ((try simp only [List.drop_drop]); rw [show ((Int.toNat s2) * (34 : Nat)) = ((Int.toNat s2)) * 34 by omega]; exact ce_take _ _ bq)), ((iWithin_ok ((ceAt l (Int.toNat s2)).kind) ((0 : Int)) ((2 : Int)) _ h5).any.cast tq), h6, h6, h6, ((iWithin_ok ((ceAt l (Int.toNat s2)).gen) ((0 : Int)) ((2147483647 : Int)) _ h7).any.cast tq), h6, h6, h8, h8, h8, h8, h9, h9, tq, h9, h9, tq, (eqCells_of tq tq tq), h8, h9, h8, h10, h1, h1, trivial⟩ tq
theorem iCheck_l3 (l : List Ce) (s0 : Bool) (h0 : iWithin ((↑(List.length l) : Int)) ((1 : Int)) ((64 : Int)) = some s0) (h1 : (s0) = true) (s2 : Int) (h2 : Runs (iCheck_L0_step l s0) ((0 : Int)) s2) (h3 : ((decide (s2 < (↑(List.length l) : Int)))) = false) (h3p : ¬ (s2 < (↑(List.length l) : Int))) : iCheck_G l (Bool.true) :=
  leafR vw_eq (k := 300) (r := []) (hs := hz [(4, [.fres (.b (s0))]), (1, [.yes]), (1, [.yes]), (9, [.head (iCheck_L0_S l s0 s2)]), (1, [.no]), (3, [.yes]), (1, [.yes]), (1, [])]) (raw := (AV.b Bool.true)) (ps := [EvFr Try.prog cf Bool.false 36 [(AV.i (↑(List.length l) : Int)), (AV.i 1), (AV.i 64)] (.b (s0)), (s0) = true, (s0) = true, EvHead Try.prog cf (lp Try.prog 54 0) (iCheck_L0_I l s0) (iCheck_L0_S l s0 s2), ((decide (s2 < (↑(List.length l) : Int)))) = false, (s0) = true, (s0) = true]) kq ⟨((iWithin_ok ((↑(List.length l) : Int)) ((1 : Int)) ((64 : Int)) _ h0).any.cast tq), h1, h1, (EvHead.of (iCheck_L0_ok l s0) (absB_of [] [] kq (.consn kq (.eqv tq rfl) (.consn kq (.fn .nil) (.consn kq (.eqv tq rfl) (.consn kq (.eqv tq rfl) .nil)))) .nil) h2), h3, h1, h1, trivial⟩ tq
theorem iCheck_l4 (l : List Ce) (s0 : Bool) (h0 : iWithin ((↑(List.length l) : Int)) ((1 : Int)) ((64 : Int)) = some s0) (h1 : (s0) = false) : iCheck_G l (Bool.false) :=
  leafR vw_eq (k := 300) (r := []) (hs := hz [(4, [.fres (.b (s0))]), (1, [.no, .no, .no, .no]), (1, [])]) (raw := (AV.b Bool.false)) (ps := [EvFr Try.prog cf Bool.false 36 [(AV.i (↑(List.length l) : Int)), (AV.i 1), (AV.i 64)] (.b (s0)), (s0) = false, (s0) = false, (s0) = false, (s0) = false]) kq ⟨((iWithin_ok ((↑(List.length l) : Int)) ((1 : Int)) ((64 : Int)) _ h0).any.cast tq), h1, h1, h1, h1, trivial⟩ tq
theorem iCheck_ok (l : List Ce) (r : Bool) : iCheck l = some r → iCheck_G l r := by
  unfold iCheck
  refine tc_ok (fun s0 h0 => ?_)
  refine tb_ok (fun h1 => ?_) (fun h1 => ?_)
  ·
    refine th_ok (fun s2 h2 => ?_)
    refine tb_ok (fun h3 => ?_) (fun h3 => ?_)
    ·
      have h3p := of_decide_eq_true h3
      refine tp_ok (fun h4 => ?_)
      refine tc_ok (fun s5 h5 => ?_)
      refine tb_ok (fun h6 => ?_) (fun h6 => ?_)
      ·
        exact fun e => tl_ok (G := iCheck_G l) (iCheck_l0 l s0 h0 h1 s2 h2 h3 h3p h4 s5 h5 h6) e
      ·
        refine tc_ok (fun s7 h7 => ?_)
        refine tb_ok (fun h8 => ?_) (fun h8 => ?_)
        ·
          exact fun e => tl_ok (G := iCheck_G l) (iCheck_l1 l s0 h0 h1 s2 h2 h3 h3p h4 s5 h5 h6 s7 h7 h8) e
        ·
          refine tb_ok (fun h9 => ?_) (fun h9 => ?_)
          ·
            have h9p := bne_iff_ne.1 h9
            refine tb_ok (fun h10 => ?_) (fun h10 => ?_)
            ·
              exact fun e => tl_ok (G := iCheck_G l) (iCheck_l2 l s0 h0 h1 s2 h2 h3 h3p h4 s5 h5 h6 s7 h7 h8 h9 h9p h10) e
            ·
              exact fun e => nomatch e
          ·
            have h9p := bne_eq_false_iff_eq.1 h9
            exact fun e => nomatch e
    ·
      have h3p := of_decide_eq_false h3
      exact fun e => tl_ok (G := iCheck_G l) (iCheck_l3 l s0 h0 h1 s2 h2 h3 h3p) e
  ·
    exact fun e => tl_ok (G := iCheck_G l) (iCheck_l4 l s0 h0 h1) e
noncomputable abbrev r9Same_L0_I (a : List Ce) (b : List Ce) : St := (St.mk [(0, (AV.sl (List.length a) (List.flatMap Ce.cells a))), (1, (AV.sl (List.length b) (List.flatMap Ce.cells b))), (4, (AV.b Bool.false)), (6, (AV.sl (List.length a) (List.flatMap Ce.cells a))), (7, (AV.i (↑(List.length a) : Int))), (8, (AV.sl (List.length b) (List.flatMap Ce.cells b))), (9, (AV.i (↑(List.length b) : Int))), (10, (AV.b ((↑(List.length a) : Int) != (↑(List.length b) : Int)))), (5, (AV.i 0))] 26 (AH.mk 0 ([] : List (Prod Nat AObj))) Bool.false)
noncomputable abbrev r9Same_L0_S (a : List Ce) (b : List Ce) (s1 : Int) : St := (St.mk [(0, (AV.sl (List.length a) (List.flatMap Ce.cells a))), (1, (AV.sl (List.length b) (List.flatMap Ce.cells b))), (10, (AV.b ((↑(List.length a) : Int) != (↑(List.length b) : Int)))), (5, (AV.i s1))] 26 (AH.mk 0 ([] : List (Prod Nat AObj))) Bool.false)
noncomputable def r9Same_L0_step (a : List Ce) (b : List Ce) (s1 : Int) : Option (Int) :=
 (tb ((decide (s1 < (↑(List.length a) : Int))))
  (tp ((((0 : Int) ≤ s1) ∧ (s1 < (↑(List.length a) : Int))))
   (tp ((((0 : Int) ≤ s1) ∧ (s1 < (↑(List.length b) : Int))))
    (tb ((!(((ceAt a (Int.toNat s1)).kind == (ceAt b (Int.toNat s1)).kind) && (((ceAt a (Int.toNat s1)).gen == (ceAt b (Int.toNat s1)).gen) && ((pad 32 (ceAt a (Int.toNat s1)).d) == (pad 32 (ceAt b (Int.toNat s1)).d))))))
     none /- exit -/
     (some ((wr (s1 + (1 : Int))))))))
  none /- exit -/)
theorem r9Same_L0_s0 (a : List Ce) (b : List Ce) (s1 : Int) (h2 : ((decide (s1 < (↑(List.length a) : Int)))) = true) (h2p : (s1 < (↑(List.length a) : Int))) (h3 : (((0 : Int) ≤ s1) ∧ (s1 < (↑(List.length a) : Int)))) (h4 : (((0 : Int) ≤ s1) ∧ (s1 < (↑(List.length b) : Int)))) (h5 : ((!(((ceAt a (Int.toNat s1)).kind == (ceAt b (Int.toNat s1)).kind) && (((ceAt a (Int.toNat s1)).gen == (ceAt b (Int.toNat s1)).gen) && ((pad 32 (ceAt a (Int.toNat s1)).d) == (pad 32 (ceAt b (Int.toNat s1)).d)))))) = false) : EvStep Try.prog cf 0 (lp Try.prog 15 0) (r9Same_L0_S a b s1) (r9Same_L0_S a b ((wr (s1 + (1 : Int))))) :=
  leafS vw_eq (k := 300) (r := []) (hs := hz [(4, [.yes]), (2, [.yes, .yes, .cells ((Ce.cells (ceAt a (Int.toNat s1))))]), (2, [.yes, .yes, .cells ((Ce.cells (ceAt b (Int.toNat s1)))), .yes, .truth ((((ceAt a (Int.toNat s1)).kind == (ceAt b (Int.toNat s1)).kind) && (((ceAt a (Int.toNat s1)).gen == (ceAt b (Int.toNat s1)).gen) && ((pad 32 (ceAt a (Int.toNat s1)).d) == (pad 32 (ceAt b (Int.toNat s1)).d))))), .yes, .no]), (3, [])]) (st1 := (St.mk [(0, (AV.sl (List.length a) (List.flatMap Ce.cells a))), (1, (AV.sl (List.length b) (List.flatMap Ce.cells b))), (10, (AV.b ((↑(List.length a) : Int) != (↑(List.length b) : Int)))), (5, (AV.i (wr (s1 + (1 : Int))))), (11, (AV.i s1)), (12, (AV.sl (List.length a) (List.flatMap Ce.cells a))), (13, (AV.i (↑(List.length a) : Int))), (14, (AV.b (decide (s1 < (↑(List.length a) : Int))))), (17, (AV.sl (List.length a) (List.flatMap Ce.cells a))), (18, (AV.i s1)), (19, (AV.ip (List.drop ((Int.toNat s1) * (34 : Nat)) (List.flatMap Ce.cells a)))), (20, (AV.ag (Ce.cells (ceAt a (Int.toNat s1))))), (21, (AV.sl (List.length b) (List.flatMap Ce.cells b))), (22, (AV.i s1)), (23, (AV.ip (List.drop ((Int.toNat s1) * (34 : Nat)) (List.flatMap Ce.cells b)))), (24, (AV.ag (Ce.cells (ceAt b (Int.toNat s1))))), (25, (AV.b (!(((ceAt a (Int.toNat s1)).kind == (ceAt b (Int.toNat s1)).kind) && (((ceAt a (Int.toNat s1)).gen == (ceAt b (Int.toNat s1)).gen) && ((pad 32 (ceAt a (Int.toNat s1)).d) == (pad 32 (ceAt b (Int.toNat s1)).d))))))), (15, (AV.i s1)), (16, (AV.i (wr (s1 + (1 : Int)))))] 26 (AH.mk 0 ([] : List (Prod Nat AObj))) Bool.false)) (ps := [((decide (s1 < (↑(List.length a) : Int)))) = true, (((0 : Int) ≤ s1) ∧ (s1 < (↑(List.length a) : Int))), ((34 : Nat) ≤ (List.length (List.drop ((Int.toNat s1) * (34 : Nat)) (List.flatMap Ce.cells a)))), (List.take 34 (List.drop ((Int.toNat s1) * (34 : Nat)) (List.flatMap Ce.cells a))) = (Ce.cells (ceAt a (Int.toNat s1))), (((0 : Int) ≤ s1) ∧ (s1 < (↑(List.length b) : Int))), ((34 : Nat) ≤ (List.length (List.drop ((Int.toNat s1) * (34 : Nat)) (List.flatMap Ce.cells b)))), (List.take 34 (List.drop ((Int.toNat s1) * (34 : Nat)) (List.flatMap Ce.cells b))) = (Ce.cells (ceAt b (Int.toNat s1))), (((List.length ((AV.i (ceAt a (Int.toNat s1)).kind) :: (AV.i (ceAt a (Int.toNat s1)).gen) :: (List.map AV.y (pad 32 (ceAt a (Int.toNat s1)).d)))) = (34 : Nat)) ∧ ((List.length ((AV.i (ceAt b (Int.toNat s1)).kind) :: (AV.i (ceAt b (Int.toNat s1)).gen) :: (List.map AV.y (pad 32 (ceAt b (Int.toNat s1)).d)))) = (34 : Nat))), eqCells (((AV.i (ceAt a (Int.toNat s1)).kind) :: (AV.i (ceAt a (Int.toNat s1)).gen) :: (List.map AV.y (pad 32 (ceAt a (Int.toNat s1)).d)))) (((AV.i (ceAt b (Int.toNat s1)).kind) :: (AV.i (ceAt b (Int.toNat s1)).gen) :: (List.map AV.y (pad 32 (ceAt b (Int.toNat s1)).d)))) = some ((((ceAt a (Int.toNat s1)).kind == (ceAt b (Int.toNat s1)).kind) && (((ceAt a (Int.toNat s1)).gen == (ceAt b (Int.toNat s1)).gen) && ((pad 32 (ceAt a (Int.toNat s1)).d) == (pad 32 (ceAt b (Int.toNat s1)).d))))), orderOk (rg Try.prog 15 0) = true ∧ allOk (Region.before (rg Try.prog 15 0)) [] 0 [(some [], some []), (some [], some []), (some [], some []), (some [], some []), (some [], some []), (some [], some []), (some [], some []), (some [], some []), (some [], some [])] = true, ((!(((ceAt a (Int.toNat s1)).kind == (ceAt b (Int.toNat s1)).kind) && (((ceAt a (Int.toNat s1)).gen == (ceAt b (Int.toNat s1)).gen) && ((pad 32 (ceAt a (Int.toNat s1)).d) == (pad 32 (ceAt b (Int.toNat s1)).d)))))) = false]) kq ⟨h2, h3, fq, (by first | exact ce_take _ _ bq | (simpa using ce_take _ _ bq) | ((try simp only [List.drop_drop]); rw [show ((Int.toNat s1) * (34 : Nat)) = ((Int.toNat s1)) * 34 by omega]; exact ce_take _ _ bq)), h4, fq, (by first | exact ce_take _ _ bq | (simpa using ce_take _ _ bq) | ((try simp only [List.drop_drop]); rw [show ((Int.toNat s1) * (34 : Nat)) = ((Int.toNat s1)) * 34 by omega]; exact ce_take _ _ bq)), tq, (eqCells_ci (eqCells_ci (eqCells_of tq tq tq))), (ord_of ord_15_0 bef_15_0 kq), h5, trivial⟩ (Nat.le_of_ble_eq_true rfl) (absB_of [] [] kq (.consn kq (.eqv tq rfl) (.consn kq (.eqv tq rfl) (.consn kq (.eqv tq rfl) (.consn kq (.eqv tq rfl) .nil)))) .nil)
theorem r9Same_L0_ok (a : List Ce) (b : List Ce) (s1 zz : Int) : r9Same_L0_step a b s1 = some zz → EvStep Try.prog cf 0 (lp Try.prog 15 0) (r9Same_L0_S a b s1) (r9Same_L0_S a b zz) := by
  unfold r9Same_L0_step
  refine tb_ok (fun h2 => ?_) (fun h2 => ?_)
  ·
    have h2p := of_decide_eq_true h2
    refine tp_ok (fun h3 => ?_)
    refine tp_ok (fun h4 => ?_)
    refine tb_ok (fun h5 => ?_) (fun h5 => ?_)
    ·
      exact fun e => nomatch e
    ·
      exact fun e => tl_ok (G := (fun zz => EvStep Try.prog cf 0 (lp Try.prog 15 0) (r9Same_L0_S a b s1) (r9Same_L0_S a b zz))) (r9Same_L0_s0 a b s1 h2 h2p h3 h4 h5) e
  ·
    have h2p := of_decide_eq_false h2
    exact fun e => nomatch e
/-- Function 15, as it answers. -/
noncomputable def r9Same (a : List Ce) (b : List Ce) : Option (Bool) :=
 (tb (((↑(List.length a) : Int) != (↑(List.length b) : Int)))
  (some (Bool.false))
  (th (r9Same_L0_step a b) ((0 : Int)) fun s1 =>
   (tb ((decide (s1 < (↑(List.length a) : Int))))
    (tp ((((0 : Int) ≤ s1) ∧ (s1 < (↑(List.length a) : Int))))
     (tb ((!(((ceAt a (Int.toNat s1)).kind == (ceAt b (Int.toNat s1)).kind) && (((ceAt a (Int.toNat s1)).gen == (ceAt b (Int.toNat s1)).gen) && ((pad 32 (ceAt a (Int.toNat s1)).d) == (pad 32 (ceAt b (Int.toNat s1)).d))))))
      (some (Bool.false))
      none /- stop behind an operation -/))
    (some (Bool.true)))))
abbrev r9Same_G (a : List Ce) (b : List Ce) (r : Bool) : Prop := EvFr Try.prog cf true 15 [ces (a), ces (b)] (.b (r))
theorem r9Same_l0 (a : List Ce) (b : List Ce) (h0 : (((↑(List.length a) : Int) != (↑(List.length b) : Int))) = true) (h0p : ¬ ((↑(List.length a) : Int) = (↑(List.length b) : Int))) : r9Same_G a b (Bool.false) :=
  leafR vw_eq (k := 300) (r := []) (hs := hz [(6, [.yes]), (1, [])]) (raw := (AV.b Bool.false)) (ps := [(((↑(List.length a) : Int) != (↑(List.length b) : Int))) = true]) kq ⟨h0, trivial⟩ tq
theorem r9Same_l1 (a : List Ce) (b : List Ce) (h0 : (((↑(List.length a) : Int) != (↑(List.length b) : Int))) = false) (h0p : ((↑(List.length a) : Int) = (↑(List.length b) : Int))) (s1 : Int) (h1 : Runs (r9Same_L0_step a b) ((0 : Int)) s1) (h2 : ((decide (s1 < (↑(List.length a) : Int)))) = true) (h2p : (s1 < (↑(List.length a) : Int))) (h3 : (((0 : Int) ≤ s1) ∧ (s1 < (↑(List.length a) : Int)))) (h4 : ((!(((ceAt a (Int.toNat s1)).kind == (ceAt b (Int.toNat s1)).kind) && (((ceAt a (Int.toNat s1)).gen == (ceAt b (Int.toNat s1)).gen) && ((pad 32 (ceAt a (Int.toNat s1)).d) == (pad 32 (ceAt b (Int.toNat s1)).d)))))) = true) : r9Same_G a b (Bool.false) :=
  leafR vw_eq (k := 300) (r := []) (hs := hz [(6, [.no]), (1, [.head (r9Same_L0_S a b s1)]), (4, [.yes]), (2, [.yes, .yes, .cells ((Ce.cells (ceAt a (Int.toNat s1))))]), (2, [.yes, .yes, .cells ((Ce.cells (ceAt b (Int.toNat s1)))), .yes, .truth ((((ceAt a (Int.toNat s1)).kind == (ceAt b (Int.toNat s1)).kind) && (((ceAt a (Int.toNat s1)).gen == (ceAt b (Int.toNat s1)).gen) && ((pad 32 (ceAt a (Int.toNat s1)).d) == (pad 32 (ceAt b (Int.toNat s1)).d))))), .yes, .yes]), (1, [])]) (raw := (AV.b Bool.false)) (ps := [(((↑(List.length a) : Int) != (↑(List.length b) : Int))) = false, EvHead Try.prog cf (lp Try.prog 15 0) (r9Same_L0_I a b) (r9Same_L0_S a b s1), ((decide (s1 < (↑(List.length a) : Int)))) = true, (((0 : Int) ≤ s1) ∧ (s1 < (↑(List.length a) : Int))), ((34 : Nat) ≤ (List.length (List.drop ((Int.toNat s1) * (34 : Nat)) (List.flatMap Ce.cells a)))), (List.take 34 (List.drop ((Int.toNat s1) * (34 : Nat)) (List.flatMap Ce.cells a))) = (Ce.cells (ceAt a (Int.toNat s1))), (((0 : Int) ≤ s1) ∧ (s1 < (↑(List.length b) : Int))), ((34 : Nat) ≤ (List.length (List.drop ((Int.toNat s1) * (34 : Nat)) (List.flatMap Ce.cells b)))), (List.take 34 (List.drop ((Int.toNat s1) * (34 : Nat)) (List.flatMap Ce.cells b))) = (Ce.cells (ceAt b (Int.toNat s1))), (((List.length ((AV.i (ceAt a (Int.toNat s1)).kind) :: (AV.i (ceAt a (Int.toNat s1)).gen) :: (List.map AV.y (pad 32 (ceAt a (Int.toNat s1)).d)))) = (34 : Nat)) ∧ ((List.length ((AV.i (ceAt b (Int.toNat s1)).kind) :: (AV.i (ceAt b (Int.toNat s1)).gen) :: (List.map AV.y (pad 32 (ceAt b (Int.toNat s1)).d)))) = (34 : Nat))), eqCells (((AV.i (ceAt a (Int.toNat s1)).kind) :: (AV.i (ceAt a (Int.toNat s1)).gen) :: (List.map AV.y (pad 32 (ceAt a (Int.toNat s1)).d)))) (((AV.i (ceAt b (Int.toNat s1)).kind) :: (AV.i (ceAt b (Int.toNat s1)).gen) :: (List.map AV.y (pad 32 (ceAt b (Int.toNat s1)).d)))) = some ((((ceAt a (Int.toNat s1)).kind == (ceAt b (Int.toNat s1)).kind) && (((ceAt a (Int.toNat s1)).gen == (ceAt b (Int.toNat s1)).gen) && ((pad 32 (ceAt a (Int.toNat s1)).d) == (pad 32 (ceAt b (Int.toNat s1)).d))))), orderOk (rg Try.prog 15 0) = true ∧ allOk (Region.before (rg Try.prog 15 0)) [] 0 [(some [], some []), (some [], some []), (some [], some []), (some [], some []), (some [], some []), (some [], some []), (some [], some []), (some [], some []), (some [], some [])] = true, ((!(((ceAt a (Int.toNat s1)).kind == (ceAt b (Int.toNat s1)).kind) && (((ceAt a (Int.toNat s1)).gen == (ceAt b (Int.toNat s1)).gen) && ((pad 32 (ceAt a (Int.toNat s1)).d) == (pad 32 (ceAt b (Int.toNat s1)).d)))))) = true]) kq ⟨h0, (EvHead.of (r9Same_L0_ok a b) (absB_of [] [] kq (.consn kq (.eqv tq rfl) (.consn kq (.eqv tq rfl) (.consn kq (.eqv tq rfl) (.consn kq (.eqv tq rfl) .nil)))) .nil) h1), h2, h3, fq, (by first | exact ce_take _ _ bq | (simpa using ce_take _ _ bq) | ((try simp only [List.drop_drop]); rw [show ((Int.toNat s1) * (34 : Nat)) = ((Int.toNat s1)) * 34 by omega]; exact ce_take _ _ bq)), fq, fq, (by first | exact ce_take _ _ bq | (simpa using ce_take _ _ bq) | ((try simp only [List.drop_drop]); rw [show ((Int.toNat s1) * (34 : Nat)) = ((Int.toNat s1)) * 34 by omega]; exact ce_take _ _ bq)), tq, (eqCells_ci (eqCells_ci (eqCells_of tq tq tq))), (ord_of ord_15_0 bef_15_0 kq), h4, trivial⟩ tq
theorem r9Same_l2 (a : List Ce) (b : List Ce) (h0 : (((↑(List.length a) : Int) != (↑(List.length b) : Int))) = false) (h0p : ((↑(List.length a) : Int) = (↑(List.length b) : Int))) (s1 : Int) (h1 : Runs (r9Same_L0_step a b) ((0 : Int)) s1) (h2 : ((decide (s1 < (↑(List.length a) : Int)))) = false) (h2p : ¬ (s1 < (↑(List.length a) : Int))) : r9Same_G a b (Bool.true) :=
  leafR vw_eq (k := 300) (r := []) (hs := hz [(6, [.no]), (1, [.head (r9Same_L0_S a b s1)]), (4, [.no]), (1, [])]) (raw := (AV.b Bool.true)) (ps := [(((↑(List.length a) : Int) != (↑(List.length b) : Int))) = false, EvHead Try.prog cf (lp Try.prog 15 0) (r9Same_L0_I a b) (r9Same_L0_S a b s1), ((decide (s1 < (↑(List.length a) : Int)))) = false]) kq ⟨h0, (EvHead.of (r9Same_L0_ok a b) (absB_of [] [] kq (.consn kq (.eqv tq rfl) (.consn kq (.eqv tq rfl) (.consn kq (.eqv tq rfl) (.consn kq (.eqv tq rfl) .nil)))) .nil) h1), h2, trivial⟩ tq
theorem r9Same_ok (a : List Ce) (b : List Ce) (r : Bool) : r9Same a b = some r → r9Same_G a b r := by
  unfold r9Same
  refine tb_ok (fun h0 => ?_) (fun h0 => ?_)
  ·
    have h0p := bne_iff_ne.1 h0
    exact fun e => tl_ok (G := r9Same_G a b) (r9Same_l0 a b h0 h0p) e
  ·
    have h0p := bne_eq_false_iff_eq.1 h0
    refine th_ok (fun s1 h1 => ?_)
    refine tb_ok (fun h2 => ?_) (fun h2 => ?_)
    ·
      have h2p := of_decide_eq_true h2
      refine tp_ok (fun h3 => ?_)
      refine tb_ok (fun h4 => ?_) (fun h4 => ?_)
      ·
        exact fun e => tl_ok (G := r9Same_G a b) (r9Same_l1 a b h0 h0p s1 h1 h2 h2p h3 h4) e
      ·
        exact fun e => nomatch e
    ·
      have h2p := of_decide_eq_false h2
      exact fun e => tl_ok (G := r9Same_G a b) (r9Same_l2 a b h0 h0p s1 h1 h2 h2p) e
end Ab
end Go.Proofs.Ytadipihpgcelmaa
namespace Go.Proofs.Ytadipihpgcelmaa
open Go Go.Proofs.Ytadipihpgcelmaa.Ab
set_option linter.unusedVariables false
set_option linter.unusedSimpArgs false
namespace Ab
/-- May an extent be? -/
def Ck (x : Ex) : Prop := 0 ≤ x.lba ∧ x.lba ≤ 64 ∧ 1 ≤ x.len ∧ x.len ≤ 64 - x.lba ∧ 0 ≤ x.kind ∧ x.kind ≤ 2 ∧ 0 ≤ x.gen ∧ x.gen ≤ 2147483647 ∧ (x.kind = 2 → (x.d.length : Int) = 32 * x.len) ∧ (x.kind ≠ 2 → x.d = [])
instance (x : Ex) : Decidable (Ck x) := by unfold Ck; infer_instance
def ck (x : Ex) : Bool := decide (Ck x)
theorem ck_iff {x : Ex} : ck x = true ↔ Ck x := decide_eq_true_iff
theorem len0 {α : Type} {l : List α} : ((l.length : Int) = 0) ↔ l = [] := by
  rw [← List.length_eq_zero_iff]; omega
theorem ck_t {x : Ex} (h : Ck x) : ck x = true := ck_iff.2 h
theorem ck_f {x : Ex} (h : ¬ Ck x) : ck x = false := decide_eq_false_iff_not.2 h
theorem eCheck_eq (x : Ex) : eCheck x = some (ck x) := by
  unfold eCheck
  simp only [tb_dec, tb_beq]
  by_cases h1 : x.lba ≥ 0
  case neg => rw [if_neg h1, ck_f (by unfold Ck; omega)]
  by_cases h2 : x.lba ≤ 64
  case neg => rw [if_pos h1, if_neg h2, ck_f (by unfold Ck; omega)]
  have hw : wr (64 - x.lba) = 64 - x.lba := wr_id (by omega) (by omega)
  rw [hw, if_pos h1, if_pos h2]
  by_cases h3 : x.len ≥ 1
  case neg => rw [if_neg h3, ck_f (by unfold Ck; omega)]
  by_cases h4 : x.len ≤ 64 - x.lba
  case neg => rw [if_pos h3, if_neg h4, ck_f (by unfold Ck; omega)]
  have hw2 : wr (x.len * 32) = x.len * 32 := wr_id (by omega) (by omega)
  rw [hw2, if_pos h3, if_pos h4]
  by_cases h5 : x.kind ≥ 0
  case neg => rw [if_neg h5, ck_f (by unfold Ck; omega)]
  by_cases h6 : x.kind ≤ 2
  case neg => rw [if_pos h5, if_neg h6, ck_f (by unfold Ck; omega)]
  by_cases h7 : x.gen ≥ 0
  case neg => rw [if_pos h5, if_pos h6, if_neg h7, ck_f (by unfold Ck; omega)]
  by_cases h8 : x.gen ≤ 2147483647
  case neg => rw [if_pos h5, if_pos h6, if_pos h7, if_neg h8, ck_f (by unfold Ck; omega)]
  rw [if_pos h5, if_pos h6, if_pos h7, if_pos h8]
  by_cases h9 : x.kind = 2
  · rw [if_pos h9]
    congr 1
    rw [Bool.eq_iff_iff, ck_iff, beq_iff_eq]
    exact ⟨fun h => ⟨h1, h2, h3, h4, h5, h6, h7, h8, fun _ => by omega, fun h' => absurd h9 h'⟩, fun h => by have := h.2.2.2.2.2.2.2.2.1 h9; omega⟩
  · rw [if_neg h9]
    congr 1
    rw [Bool.eq_iff_iff, ck_iff, beq_iff_eq, len0]
    exact ⟨fun h => ⟨h1, h2, h3, h4, h5, h6, h7, h8, fun h' => absurd h' h9, fun _ => h⟩, fun h => h.2.2.2.2.2.2.2.2.2 h9⟩
/-- Does one go on another one? -/
def Jn (a b : Ex) : Prop := Ck a ∧ Ck b ∧ a.lba + a.len = b.lba ∧ a.kind = b.kind ∧ a.gen = b.gen
instance (a b : Ex) : Decidable (Jn a b) := by unfold Jn; infer_instance
def jn (a b : Ex) : Bool := decide (Jn a b)
theorem jn_iff {a b : Ex} : jn a b = true ↔ Jn a b := decide_eq_true_iff
theorem jn_f {a b : Ex} (h : ¬ Jn a b) : jn a b = false := decide_eq_false_iff_not.2 h
theorem jn_t {a b : Ex} (h : Jn a b) : jn a b = true := jn_iff.2 h
theorem eJoins_eq (a b : Ex) : eJoins a b = some (jn a b) := by
  unfold eJoins
  simp only [eCheck_eq, tc_some]
  by_cases ha : Ck a
  case neg => rw [ck_f ha, jn_f (fun h => ha h.1)]; first | rfl | (cases ck b <;> rfl)
  by_cases hb : Ck b
  case neg => rw [ck_t ha, ck_f hb, jn_f (fun h => hb h.2.1)]; rfl
  have : wr (a.lba + a.len) = a.lba + a.len := by unfold Ck at ha; exact wr_id (by omega) (by omega)
  rw [ck_t ha, ck_t hb, this]
  simp only [tb_t, tb_beq]
  by_cases h1 : a.lba + a.len = b.lba
  case neg => rw [if_neg h1, jn_f (fun h => h1 h.2.2.1)]
  by_cases h2 : a.kind = b.kind
  case neg => rw [if_pos h1, if_neg h2, jn_f (fun h => h2 h.2.2.2.1)]
  rw [if_pos h1, if_pos h2]
  congr 1
  rw [Bool.eq_iff_iff, jn_iff, beq_iff_eq]
  exact ⟨fun h => ⟨ha, hb, h1, h2, h⟩, fun h => h.2.2.2.2⟩
theorem r7Same_eq (a b : Ex) : r7Same a b = some (decide (a = b)) := by
  unfold r7Same
  simp only [tb_beq]
  obtain ⟨a1, a2, a3, a4, a5⟩ := a
  obtain ⟨b1, b2, b3, b4, b5⟩ := b
  simp only [Ex.mk.injEq]
  repeat' split
  all_goals (congr 1; rw [Bool.eq_iff_iff]; simp_all)
theorem exAt_all (l : List Ex) (p : Ex → Prop) : (∀ i, i < l.length → p (exAt l i)) ↔ ∀ x ∈ l, p x := by
  unfold exAt; exact getD_all _ l p
theorem few_eq (l : List Ex) : few l = some (decide (l.length ≤ 70 ∧ ∀ x ∈ l, x.d.length ≤ 3000)) := by
  unfold few
  rw [tb_dec]
  by_cases hl : (l.length : Int) > 70
  · rw [if_pos hl]; congr 1; symm; rw [decide_eq_false_iff_not]; omega
  rw [if_neg hl]
  rw [th_all (some false) (some true) l.length (fun i => (exAt l i).d.length ≤ 3000) (∀ x ∈ l, x.d.length ≤ 3000) (exAt_all l (fun x => x.d.length ≤ 3000))]
  · split
    · rename_i h; congr 1; symm; rw [decide_eq_true_iff]; exact ⟨by omega, h⟩
    · rename_i h; congr 1; symm; rw [decide_eq_false_iff_not]; exact fun g => h g.2
  · intro i hi hp
    unfold few_L0_step
    simp only [tb_dec, Int.toNat_natCast]
    rw [if_pos (by omega), tp_pos (by omega), if_neg (by omega), wr_id (by omega) (by omega)]
  · intro i hi hp
    unfold few_L0_step
    simp only [tb_dec, Int.toNat_natCast]
    rw [if_pos (by omega), tp_pos (by omega), if_pos (by omega), if_pos (by omega), tp_pos (by omega), if_pos (by omega)]
    exact ⟨rfl, rfl⟩
  · unfold few_L0_step
    simp only [tb_dec]
    rw [if_neg (by omega), if_neg (by omega)]
    exact ⟨rfl, rfl⟩
theorem r7All_eq (a b : List Ex) (ha : a.length ≤ 4294967296) : r7All a b = some (decide (a = b)) := by
  unfold r7All
  rw [tb_bne]
  by_cases hl : (a.length : Int) = b.length
  · rw [if_pos hl]
    rw [th_all (some false) (some true) a.length (fun i => exAt a i = exAt b i) (a = b)]
    · split <;> rename_i h <;> simp [h]
    · constructor
      · intro h
        refine List.ext_getElem (by omega) fun i h1 h2 => ?_
        have := h i h1
        simpa [exAt, h1, h2] using this
      · rintro rfl; exact fun _ _ => rfl
    · intro i hi hp
      unfold r7All_L0_step
      simp only [tb_dec, Int.toNat_natCast, r7Same_eq, tc_some]
      rw [if_pos (by omega), tp_pos (by omega), tp_pos (by omega), hp, wr_id (by omega) (by omega)]
      simp
    · intro i hi hp
      unfold r7All_L0_step
      simp only [tb_dec, Int.toNat_natCast, r7Same_eq, tc_some]
      rw [if_pos (by omega), tp_pos (by omega), tp_pos (by omega), if_pos (by omega), tp_pos (by omega)]
      simp [hp]
    · unfold r7All_L0_step
      simp only [tb_dec]
      rw [if_neg (by omega), if_neg (by omega)]
      exact ⟨rfl, rfl⟩
  · rw [if_neg hl]
    congr 1; symm; rw [decide_eq_false_iff_not]; rintro rfl; exact hl rfl
end Ab
end Go.Proofs.Ytadipihpgcelmaa
namespace Go.Proofs.Ytadipihpgcelmaa
open Go Go.Proofs.Ytadipihpgcelmaa.Ab
set_option linter.unusedVariables false
set_option linter.unusedSimpArgs false
set_option maxRecDepth 1000000
namespace Ab
/-- Function 33, as it answers. -/
noncomputable def eJoin (a : Ex) (b : Ex) : Option (Ex × Int) :=
 (tc (eJoins (a) (b)) fun s0 =>
  (tb ((!s0))
   (some (((Ex.mk 0 0 0 0 ([] : List UInt8)), (70 : Int))))
   (tp (((List.length a.d) ≤ (4294967296 : Nat)))
    (tp ((((List.length (List.map AV.y a.d)) = ((List.length a.d) * (1 : Nat))) ∧ (((List.length a.d) + (List.length b.d)) ≤ (4294967296 : Nat))))
     (some (((Ex.mk a.lba (wr (a.len + b.len)) a.kind a.gen (a.d ++ b.d)), (0 : Int))))))))
abbrev eJoin_G (a : Ex) (b : Ex) (r : Ex × Int) : Prop := EvFr Try.prog cf true 33 [Ex.av (a), Ex.av (b)] (.tu [Ex.av (r.1), .i (r.2)])
theorem eJoin_l0 (a : Ex) (b : Ex) (s0 : Bool) (h0 : eJoins (a) (b) = some s0) (h1 : ((!s0)) = true) : eJoin_G a b (((Ex.mk 0 0 0 0 ([] : List UInt8)), (70 : Int))) :=
  leafR vw_eq (k := 300) (r := []) (hs := hz [(5, [.cells ((xc a))]), (1, [.cells ((xc b))]), (1, [.fres (.b (s0))]), (1, [.yes]), (2, [.cells ([(AV.i 0), (AV.i 0), (AV.i 0), (AV.i 0), AV.nl])]), (2, [.cells ([(AV.i 0), (AV.i 0), (AV.i 0), (AV.i 0), AV.nl])])]) (raw := (AV.tu [(AV.ag [(AV.i 0), (AV.i 0), (AV.i 0), (AV.i 0), (AV.sl 0 ([] : List AV))]), (AV.i 70)])) (ps := [((xc a) : List AV) = (xc a), ((xc b) : List AV) = (xc b), EvFr Try.prog cf Bool.false 46 [(AV.ag (xc a)), (AV.ag (xc b))] (.b (s0)), ((!s0)) = true, ([(AV.i 0), (AV.i 0), (AV.i 0), (AV.i 0), AV.nl] : List AV) = [(AV.i 0), (AV.i 0), (AV.i 0), (AV.i 0), AV.nl], ([(AV.i 0), (AV.i 0), (AV.i 0), (AV.i 0), AV.nl] : List AV) = [(AV.i 0), (AV.i 0), (AV.i 0), (AV.i 0), AV.nl]]) kq ⟨rfl, rfl, ((eJoins_ok (a) (b) _ h0).any.cast tq), h1, rfl, rfl, trivial⟩ tq
theorem eJoin_l1 (a : Ex) (b : Ex) (s0 : Bool) (h0 : eJoins (a) (b) = some s0) (h1 : ((!s0)) = false) (h2 : ((List.length a.d) ≤ (4294967296 : Nat))) (h3 : (((List.length (List.map AV.y a.d)) = ((List.length a.d) * (1 : Nat))) ∧ (((List.length a.d) + (List.length b.d)) ≤ (4294967296 : Nat)))) : eJoin_G a b (((Ex.mk a.lba (wr (a.len + b.len)) a.kind a.gen (a.d ++ b.d)), (0 : Int))) :=
  leafR vw_eq (k := 300) (r := []) (hs := hz [(5, [.cells ((xc a))]), (1, [.cells ((xc b))]), (1, [.fres (.b (s0))]), (1, [.no]), (9, [.cells ([(AV.i a.lba), (AV.i (wr (a.len + b.len))), (AV.i a.kind), (AV.i a.gen), (AV.sl (List.length a.d) (List.map AV.y a.d))])]), (4, [.yes, .yes]), (3, [.yes, .yes]), (2, [.cells ([(AV.i a.lba), (AV.i (wr (a.len + b.len))), (AV.i a.kind), (AV.i a.gen), (AV.rf 4 1 0 ((List.length a.d) + (List.length b.d)))]), .yes]), (1, [.cells ([(AV.i a.lba), (AV.i (wr (a.len + b.len))), (AV.i a.kind), (AV.i a.gen), (AV.rf 4 1 0 ((List.length a.d) + (List.length b.d)))])]), (1, [.cells ([(AV.i a.lba), (AV.i (wr (a.len + b.len))), (AV.i a.kind), (AV.i a.gen), (AV.rf 4 1 0 ((List.length a.d) + (List.length b.d)))])]), (2, [.cells ([(AV.i a.lba), (AV.i (wr (a.len + b.len))), (AV.i a.kind), (AV.i a.gen), (AV.rf 4 1 0 ((List.length a.d) + (List.length b.d)))]), .yes, .yes])]) (raw := (AV.tu [(AV.ag [(AV.i a.lba), (AV.i (wr (a.len + b.len))), (AV.i a.kind), (AV.i a.gen), (AV.sl ((List.length a.d) + (List.length b.d)) ((List.map AV.y a.d) ++ (List.map AV.y b.d)))]), (AV.i 0)])) (ps := [((xc a) : List AV) = (xc a), ((xc b) : List AV) = (xc b), EvFr Try.prog cf Bool.false 46 [(AV.ag (xc a)), (AV.ag (xc b))] (.b (s0)), ((!s0)) = false, ([(AV.i a.lba), (AV.i (wr (a.len + b.len))), (AV.i a.kind), (AV.i a.gen), (AV.sl (List.length a.d) (List.map AV.y a.d))] : List AV) = [(AV.i a.lba), (AV.i (wr (a.len + b.len))), (AV.i a.kind), (AV.i a.gen), (AV.sl (List.length a.d) (List.map AV.y a.d))], ((List.length (List.map AV.y a.d)) = ((List.length a.d) * (1 : Nat))), ((List.length a.d) ≤ (4294967296 : Nat)), ((List.length (List.map AV.y b.d)) = ((List.length b.d) * (1 : Nat))), (((List.length (List.map AV.y a.d)) = ((List.length a.d) * (1 : Nat))) ∧ (((List.length a.d) + (List.length b.d)) ≤ (4294967296 : Nat))), ([(AV.i a.lba), (AV.i (wr (a.len + b.len))), (AV.i a.kind), (AV.i a.gen), (AV.rf 4 1 0 ((List.length a.d) + (List.length b.d)))] : List AV) = [(AV.i a.lba), (AV.i (wr (a.len + b.len))), (AV.i a.kind), (AV.i a.gen), (AV.rf 4 1 0 ((List.length a.d) + (List.length b.d)))], orderOk (rg Try.prog 33 0) = true ∧ allOk (Region.before (rg Try.prog 33 0)) [] 0 [(some [], some []), (some [0], some []), (some [], some [3]), (some [], some []), (some [1], some []), (some [3], some [3, 4]), (some [], some []), (some [0], some [0])] = true, ([(AV.i a.lba), (AV.i (wr (a.len + b.len))), (AV.i a.kind), (AV.i a.gen), (AV.rf 4 1 0 ((List.length a.d) + (List.length b.d)))] : List AV) = [(AV.i a.lba), (AV.i (wr (a.len + b.len))), (AV.i a.kind), (AV.i a.gen), (AV.rf 4 1 0 ((List.length a.d) + (List.length b.d)))], ([(AV.i a.lba), (AV.i (wr (a.len + b.len))), (AV.i a.kind), (AV.i a.gen), (AV.rf 4 1 0 ((List.length a.d) + (List.length b.d)))] : List AV) = [(AV.i a.lba), (AV.i (wr (a.len + b.len))), (AV.i a.kind), (AV.i a.gen), (AV.rf 4 1 0 ((List.length a.d) + (List.length b.d)))], ([(AV.i a.lba), (AV.i (wr (a.len + b.len))), (AV.i a.kind), (AV.i a.gen), (AV.rf 4 1 0 ((List.length a.d) + (List.length b.d)))] : List AV) = [(AV.i a.lba), (AV.i (wr (a.len + b.len))), (AV.i a.kind), (AV.i a.gen), (AV.rf 4 1 0 ((List.length a.d) + (List.length b.d)))], (((0 : Nat) = (0 : Nat)) ∧ ((List.length ((List.map AV.y a.d) ++ (List.map AV.y b.d))) = (((List.length a.d) + (List.length b.d)) * (1 : Nat)))), Pl Bool.true (((List.map AV.y a.d) ++ (List.map AV.y b.d)))]) kq ⟨rfl, rfl, ((eJoins_ok (a) (b) _ h0).any.cast tq), h1, rfl, tq, h2, tq, h3, rfl, (ord_of ord_33_0 bef_33_0 kq), rfl, rfl, rfl, tq, pq, trivial⟩ tq
theorem eJoin_ok (a : Ex) (b : Ex) (r : Ex × Int) : eJoin a b = some r → eJoin_G a b r := by
  unfold eJoin
  refine tc_ok (fun s0 h0 => ?_)
  refine tb_ok (fun h1 => ?_) (fun h1 => ?_)
  ·
    exact fun e => tl_ok (G := eJoin_G a b) (eJoin_l0 a b s0 h0 h1) e
  ·
    refine tp_ok (fun h2 => ?_)
    refine tp_ok (fun h3 => ?_)
    exact fun e => tl_ok (G := eJoin_G a b) (eJoin_l1 a b s0 h0 h1 h2 h3) e
/-- Function 29, as it answers. -/
noncomputable def eBytes (x : Ex) : Option (List UInt8) :=
 (tc (eCheck (x)) fun s0 =>
  (tb ((!s0))
   (some (([] : List UInt8)))
   (tp ((((wr (x.len * (32 : Int))) = (wr (x.len * (32 : Int)))) ∧ (((0 : Int) ≤ (wr (x.len * (32 : Int)))) ∧ ((wr (x.len * (32 : Int))) ≤ (4294967296 : Int)))))
    (some ((((List.take 0 (List.replicate (Int.toNat (wr (x.len * (32 : Int)))) (UInt8.ofNat (0 : Nat)))) ++ (List.take ((Min.min (List.length x.d) (Int.toNat (wr (x.len * (32 : Int))))) * (1 : Nat)) x.d)) ++ (List.drop ((0 : Nat) + (List.length (List.take ((Min.min (List.length x.d) (Int.toNat (wr (x.len * (32 : Int))))) * (1 : Nat)) (List.map AV.y x.d)))) (List.replicate (Int.toNat (wr (x.len * (32 : Int)))) (UInt8.ofNat (0 : Nat))))))))))
abbrev eBytes_G (x : Ex) (r : List UInt8) : Prop := EvFr Try.prog cf true 29 [Ex.av (x)] (bys (r))
theorem eBytes_l0 (x : Ex) (s0 : Bool) (h0 : eCheck (x) = some s0) (h1 : ((!s0)) = true) : eBytes_G x (([] : List UInt8)) :=
  leafR vw_eq (k := 300) (r := []) (hs := hz [(3, [.cells ((xc x))]), (1, [.fres (.b (s0))]), (1, [.yes]), (1, [])]) (raw := (AV.sl 0 ([] : List AV))) (ps := [((xc x) : List AV) = (xc x), EvFr Try.prog cf Bool.false 45 [(AV.ag (xc x))] (.b (s0)), ((!s0)) = true]) kq ⟨rfl, ((eCheck_ok (x) _ h0).any.cast tq), h1, trivial⟩ tq
theorem eBytes_l1 (x : Ex) (s0 : Bool) (h0 : eCheck (x) = some s0) (h1 : ((!s0)) = false) (h2 : (((wr (x.len * (32 : Int))) = (wr (x.len * (32 : Int)))) ∧ (((0 : Int) ≤ (wr (x.len * (32 : Int)))) ∧ ((wr (x.len * (32 : Int))) ≤ (4294967296 : Int))))) : eBytes_G x ((((List.take 0 (List.replicate (Int.toNat (wr (x.len * (32 : Int)))) (UInt8.ofNat (0 : Nat)))) ++ (List.take ((Min.min (List.length x.d) (Int.toNat (wr (x.len * (32 : Int))))) * (1 : Nat)) x.d)) ++ (List.drop ((0 : Nat) + (List.length (List.take ((Min.min (List.length x.d) (Int.toNat (wr (x.len * (32 : Int))))) * (1 : Nat)) (List.map AV.y x.d)))) (List.replicate (Int.toNat (wr (x.len * (32 : Int)))) (UInt8.ofNat (0 : Nat)))))) :=
  leafR vw_eq (k := 300) (r := []) (hs := hz [(3, [.cells ((xc x))]), (1, [.fres (.b (s0))]), (1, [.no]), (4, [.yes]), (5, [.yes, .yes]), (3, [.yes, .yes])]) (raw := (AV.sl (Int.toNat (wr (x.len * (32 : Int)))) (((List.take 0 (List.flatten (List.replicate (Int.toNat (wr (x.len * (32 : Int)))) [(AV.y (UInt8.ofNat (0 : Nat)))]))) ++ (List.take ((Min.min (List.length x.d) (Int.toNat (wr (x.len * (32 : Int))))) * (1 : Nat)) (List.map AV.y x.d))) ++ (List.drop ((0 : Nat) + (List.length (List.take ((Min.min (List.length x.d) (Int.toNat (wr (x.len * (32 : Int))))) * (1 : Nat)) (List.map AV.y x.d)))) (List.flatten (List.replicate (Int.toNat (wr (x.len * (32 : Int)))) [(AV.y (UInt8.ofNat (0 : Nat)))])))))) (ps := [((xc x) : List AV) = (xc x), EvFr Try.prog cf Bool.false 45 [(AV.ag (xc x))] (.b (s0)), ((!s0)) = false, (((wr (x.len * (32 : Int))) = (wr (x.len * (32 : Int)))) ∧ (((0 : Int) ≤ (wr (x.len * (32 : Int)))) ∧ ((wr (x.len * (32 : Int))) ≤ (4294967296 : Int)))), ((List.length (List.map AV.y x.d)) = ((List.length x.d) * (1 : Nat))), (((0 : Nat) + ((Int.toNat (wr (x.len * (32 : Int)))) * (1 : Nat))) ≤ (List.length (List.flatten (List.replicate (Int.toNat (wr (x.len * (32 : Int)))) [(AV.y (UInt8.ofNat (0 : Nat)))])))), (((0 : Nat) = (0 : Nat)) ∧ ((List.length (((List.take 0 (List.flatten (List.replicate (Int.toNat (wr (x.len * (32 : Int)))) [(AV.y (UInt8.ofNat (0 : Nat)))]))) ++ (List.take ((Min.min (List.length x.d) (Int.toNat (wr (x.len * (32 : Int))))) * (1 : Nat)) (List.map AV.y x.d))) ++ (List.drop ((0 : Nat) + (List.length (List.take ((Min.min (List.length x.d) (Int.toNat (wr (x.len * (32 : Int))))) * (1 : Nat)) (List.map AV.y x.d)))) (List.flatten (List.replicate (Int.toNat (wr (x.len * (32 : Int)))) [(AV.y (UInt8.ofNat (0 : Nat)))]))))) = ((Int.toNat (wr (x.len * (32 : Int)))) * (1 : Nat)))), Pl Bool.true ((((List.take 0 (List.flatten (List.replicate (Int.toNat (wr (x.len * (32 : Int)))) [(AV.y (UInt8.ofNat (0 : Nat)))]))) ++ (List.take ((Min.min (List.length x.d) (Int.toNat (wr (x.len * (32 : Int))))) * (1 : Nat)) (List.map AV.y x.d))) ++ (List.drop ((0 : Nat) + (List.length (List.take ((Min.min (List.length x.d) (Int.toNat (wr (x.len * (32 : Int))))) * (1 : Nat)) (List.map AV.y x.d)))) (List.flatten (List.replicate (Int.toNat (wr (x.len * (32 : Int)))) [(AV.y (UInt8.ofNat (0 : Nat)))])))))]) kq ⟨rfl, ((eCheck_ok (x) _ h0).any.cast tq), h1, h2, tq, tq, tq, pq, trivial⟩ tq
theorem eBytes_ok (x : Ex) (r : List UInt8) : eBytes x = some r → eBytes_G x r := by
  unfold eBytes
  refine tc_ok (fun s0 h0 => ?_)
  refine tb_ok (fun h1 => ?_) (fun h1 => ?_)
  ·
    exact fun e => tl_ok (G := eBytes_G x) (eBytes_l0 x s0 h0 h1) e
  ·
    refine tp_ok (fun h2 => ?_)
    exact fun e => tl_ok (G := eBytes_G x) (eBytes_l1 x s0 h0 h1 h2) e
/-- Function 59, as it answers. -/
noncomputable def eCut (x : Ex) (lba : Int) (n : Int) : Option (Ex × Bool) :=
 (tc (eCheck (x)) fun s0 =>
  (tb ((!s0))
   (some (((Ex.mk 0 0 0 0 ([] : List UInt8)), Bool.false)))
   (tb ((decide (lba ≥ (0 : Int))))
    (tb ((!(decide (lba ≤ (64 : Int)))))
     (some (((Ex.mk 0 0 0 0 ([] : List UInt8)), Bool.false)))
     (tb ((decide (n ≥ (0 : Int))))
      (tb ((!(decide (n ≤ (64 : Int)))))
       (some (((Ex.mk 0 0 0 0 ([] : List UInt8)), Bool.false)))
       (tb ((decide ((imax x.lba lba) ≥ (imin (wr (x.lba + x.len)) (wr (lba + n))))))
        (some (((Ex.mk 0 0 0 0 ([] : List UInt8)), Bool.false)))
        (tb ((x.kind == (2 : Int)))
         (tp (((0 : Int) ≤ (wr ((wr ((imax x.lba lba) - x.lba)) * (32 : Int)))))
          (tp (((0 : Int) ≤ (wr ((wr ((imin (wr (x.lba + x.len)) (wr (lba + n))) - x.lba)) * (32 : Int)))))
           (tp ((((Int.toNat (wr ((wr ((imax x.lba lba) - x.lba)) * (32 : Int)))) ≤ (Int.toNat (wr ((wr ((imin (wr (x.lba + x.len)) (wr (lba + n))) - x.lba)) * (32 : Int))))) ∧ (((Int.toNat (wr ((wr ((imin (wr (x.lba + x.len)) (wr (lba + n))) - x.lba)) * (32 : Int)))) ≤ (List.length x.d)) ∧ ((List.length (List.map AV.y x.d)) = ((List.length x.d) * (1 : Nat))))))
            (tp ((((Int.toNat (wr ((wr ((imin (wr (x.lba + x.len)) (wr (lba + n))) - x.lba)) * (32 : Int)))) - (Int.toNat (wr ((wr ((imax x.lba lba) - x.lba)) * (32 : Int))))) ≤ (4294967296 : Nat)))
             (some (((Ex.mk (imax x.lba lba) (wr ((imin (wr (x.lba + x.len)) (wr (lba + n))) - (imax x.lba lba))) x.kind x.gen (List.take (((Int.toNat (wr ((wr ((imin (wr (x.lba + x.len)) (wr (lba + n))) - x.lba)) * (32 : Int)))) - (Int.toNat (wr ((wr ((imax x.lba lba) - x.lba)) * (32 : Int))))) * (1 : Nat)) (List.take (((Int.toNat (wr ((wr ((imin (wr (x.lba + x.len)) (wr (lba + n))) - x.lba)) * (32 : Int)))) - (Int.toNat (wr ((wr ((imax x.lba lba) - x.lba)) * (32 : Int))))) * (1 : Nat)) (List.drop ((Int.toNat (wr ((wr ((imax x.lba lba) - x.lba)) * (32 : Int)))) * (1 : Nat)) x.d)))), Bool.true)))))))
         (some (((Ex.mk (imax x.lba lba) (wr ((imin (wr (x.lba + x.len)) (wr (lba + n))) - (imax x.lba lba))) x.kind x.gen ([] : List UInt8)), Bool.true))))))
      (some (((Ex.mk 0 0 0 0 ([] : List UInt8)), Bool.false)))))
    (some (((Ex.mk 0 0 0 0 ([] : List UInt8)), Bool.false))))))
abbrev eCut_G (x : Ex) (lba : Int) (n : Int) (r : Ex × Bool) : Prop := EvFr Try.prog cf true 59 [Ex.av (x), .i (lba), .i (n)] (.tu [Ex.av (r.1), .b (r.2)])
theorem eCut_l0 (x : Ex) (lba : Int) (n : Int) (s0 : Bool) (h0 : eCheck (x) = some s0) (h1 : ((!s0)) = true) : eCut_G x lba n (((Ex.mk 0 0 0 0 ([] : List UInt8)), Bool.false)) :=
  leafR vw_eq (k := 300) (r := []) (hs := hz [(4, [.cells ((xc x))]), (1, [.fres (.b (s0))]), (2, [.yes, .yes, .yes, .yes]), (8, [.cells ([(AV.i 0), (AV.i 0), (AV.i 0), (AV.i 0), AV.nl])]), (2, [.cells ([(AV.i 0), (AV.i 0), (AV.i 0), (AV.i 0), AV.nl])])]) (raw := (AV.tu [(AV.ag [(AV.i 0), (AV.i 0), (AV.i 0), (AV.i 0), (AV.sl 0 ([] : List AV))]), (AV.b Bool.false)])) (ps := [((xc x) : List AV) = (xc x), EvFr Try.prog cf Bool.false 45 [(AV.ag (xc x))] (.b (s0)), ((!s0)) = true, ((!s0)) = true, ((!s0)) = true, ((!s0)) = true, ([(AV.i 0), (AV.i 0), (AV.i 0), (AV.i 0), AV.nl] : List AV) = [(AV.i 0), (AV.i 0), (AV.i 0), (AV.i 0), AV.nl], ([(AV.i 0), (AV.i 0), (AV.i 0), (AV.i 0), AV.nl] : List AV) = [(AV.i 0), (AV.i 0), (AV.i 0), (AV.i 0), AV.nl]]) kq ⟨rfl, ((eCheck_ok (x) _ h0).any.cast tq), h1, h1, h1, h1, rfl, rfl, trivial⟩ tq
theorem eCut_l1 (x : Ex) (lba : Int) (n : Int) (s0 : Bool) (h0 : eCheck (x) = some s0) (h1 : ((!s0)) = false) (h2 : ((decide (lba ≥ (0 : Int)))) = true) (h2p : (lba ≥ (0 : Int))) (h3 : ((!(decide (lba ≤ (64 : Int))))) = true) : eCut_G x lba n (((Ex.mk 0 0 0 0 ([] : List UInt8)), Bool.false)) :=
  leafR vw_eq (k := 300) (r := []) (hs := hz [(4, [.cells ((xc x))]), (1, [.fres (.b (s0))]), (2, [.no]), (1, [.no]), (7, [.yes]), (1, [.yes]), (1, [.yes]), (1, [.yes]), (1, [.no]), (1, [.no]), (1, [.yes, .yes, .yes, .yes]), (3, [.cells ([(AV.i 0), (AV.i 0), (AV.i 0), (AV.i 0), AV.nl])]), (2, [.cells ([(AV.i 0), (AV.i 0), (AV.i 0), (AV.i 0), AV.nl])])]) (raw := (AV.tu [(AV.ag [(AV.i 0), (AV.i 0), (AV.i 0), (AV.i 0), (AV.sl 0 ([] : List AV))]), (AV.b Bool.false)])) (ps := [((xc x) : List AV) = (xc x), EvFr Try.prog cf Bool.false 45 [(AV.ag (xc x))] (.b (s0)), ((!s0)) = false, ((!s0)) = false, ((decide (lba ≥ (0 : Int)))) = true, ((decide (lba ≥ (0 : Int)))) = true, ((decide (lba ≥ (0 : Int)))) = true, ((decide (lba ≥ (0 : Int)))) = true, ((!s0)) = false, ((!s0)) = false, ((!(decide (lba ≤ (64 : Int))))) = true, ((!(decide (lba ≤ (64 : Int))))) = true, ((!(decide (lba ≤ (64 : Int))))) = true, ((!(decide (lba ≤ (64 : Int))))) = true, ([(AV.i 0), (AV.i 0), (AV.i 0), (AV.i 0), AV.nl] : List AV) = [(AV.i 0), (AV.i 0), (AV.i 0), (AV.i 0), AV.nl], ([(AV.i 0), (AV.i 0), (AV.i 0), (AV.i 0), AV.nl] : List AV) = [(AV.i 0), (AV.i 0), (AV.i 0), (AV.i 0), AV.nl]]) kq ⟨rfl, ((eCheck_ok (x) _ h0).any.cast tq), h1, h1, h2, h2, h2, h2, h1, h1, h3, h3, h3, h3, rfl, rfl, trivial⟩ tq
theorem eCut_l2 (x : Ex) (lba : Int) (n : Int) (s0 : Bool) (h0 : eCheck (x) = some s0) (h1 : ((!s0)) = false) (h2 : ((decide (lba ≥ (0 : Int)))) = true) (h2p : (lba ≥ (0 : Int))) (h3 : ((!(decide (lba ≤ (64 : Int))))) = false) (h4 : ((decide (n ≥ (0 : Int)))) = true) (h4p : (n ≥ (0 : Int))) (h5 : ((!(decide (n ≤ (64 : Int))))) = true) : eCut_G x lba n (((Ex.mk 0 0 0 0 ([] : List UInt8)), Bool.false)) :=
  leafR vw_eq (k := 300) (r := []) (hs := hz [(4, [.cells ((xc x))]), (1, [.fres (.b (s0))]), (2, [.no]), (1, [.no]), (7, [.yes]), (1, [.yes]), (1, [.yes]), (1, [.yes]), (1, [.no]), (1, [.no]), (1, [.no]), (1, [.no]), (7, [.yes]), (1, [.yes]), (1, [.yes]), (1, [.yes]), (1, [.no]), (1, [.no, .yes]), (2, [.cells ([(AV.i 0), (AV.i 0), (AV.i 0), (AV.i 0), AV.nl])]), (2, [.cells ([(AV.i 0), (AV.i 0), (AV.i 0), (AV.i 0), AV.nl])])]) (raw := (AV.tu [(AV.ag [(AV.i 0), (AV.i 0), (AV.i 0), (AV.i 0), (AV.sl 0 ([] : List AV))]), (AV.b Bool.false)])) (ps := [((xc x) : List AV) = (xc x), EvFr Try.prog cf Bool.false 45 [(AV.ag (xc x))] (.b (s0)), ((!s0)) = false, ((!s0)) = false, ((decide (lba ≥ (0 : Int)))) = true, ((decide (lba ≥ (0 : Int)))) = true, ((decide (lba ≥ (0 : Int)))) = true, ((decide (lba ≥ (0 : Int)))) = true, ((!s0)) = false, ((!s0)) = false, ((!(decide (lba ≤ (64 : Int))))) = false, ((!(decide (lba ≤ (64 : Int))))) = false, ((decide (n ≥ (0 : Int)))) = true, ((decide (n ≥ (0 : Int)))) = true, ((decide (n ≥ (0 : Int)))) = true, ((decide (n ≥ (0 : Int)))) = true, ((!(decide (lba ≤ (64 : Int))))) = false, ((!(decide (lba ≤ (64 : Int))))) = false, ((!(decide (n ≤ (64 : Int))))) = true, ([(AV.i 0), (AV.i 0), (AV.i 0), (AV.i 0), AV.nl] : List AV) = [(AV.i 0), (AV.i 0), (AV.i 0), (AV.i 0), AV.nl], ([(AV.i 0), (AV.i 0), (AV.i 0), (AV.i 0), AV.nl] : List AV) = [(AV.i 0), (AV.i 0), (AV.i 0), (AV.i 0), AV.nl]]) kq ⟨rfl, ((eCheck_ok (x) _ h0).any.cast tq), h1, h1, h2, h2, h2, h2, h1, h1, h3, h3, h4, h4, h4, h4, h3, h3, h5, rfl, rfl, trivial⟩ tq
theorem eCut_l3 (x : Ex) (lba : Int) (n : Int) (s0 : Bool) (h0 : eCheck (x) = some s0) (h1 : ((!s0)) = false) (h2 : ((decide (lba ≥ (0 : Int)))) = true) (h2p : (lba ≥ (0 : Int))) (h3 : ((!(decide (lba ≤ (64 : Int))))) = false) (h4 : ((decide (n ≥ (0 : Int)))) = true) (h4p : (n ≥ (0 : Int))) (h5 : ((!(decide (n ≤ (64 : Int))))) = false) (h6 : ((decide ((imax x.lba lba) ≥ (imin (wr (x.lba + x.len)) (wr (lba + n)))))) = true) (h6p : ((imax x.lba lba) ≥ (imin (wr (x.lba + x.len)) (wr (lba + n))))) : eCut_G x lba n (((Ex.mk 0 0 0 0 ([] : List UInt8)), Bool.false)) :=
  leafR vw_eq (k := 300) (r := []) (hs := hz [(4, [.cells ((xc x))]), (1, [.fres (.b (s0))]), (2, [.no]), (1, [.no]), (7, [.yes]), (1, [.yes]), (1, [.yes]), (1, [.yes]), (1, [.no]), (1, [.no]), (1, [.no]), (1, [.no]), (7, [.yes]), (1, [.yes]), (1, [.yes]), (1, [.yes]), (1, [.no]), (1, [.no, .no]), (18, [.yes]), (3, [.yes]), (2, [.cells ([(AV.i 0), (AV.i 0), (AV.i 0), (AV.i 0), AV.nl])]), (2, [.cells ([(AV.i 0), (AV.i 0), (AV.i 0), (AV.i 0), AV.nl])])]) (raw := (AV.tu [(AV.ag [(AV.i 0), (AV.i 0), (AV.i 0), (AV.i 0), (AV.sl 0 ([] : List AV))]), (AV.b Bool.false)])) (ps := [((xc x) : List AV) = (xc x), EvFr Try.prog cf Bool.false 45 [(AV.ag (xc x))] (.b (s0)), ((!s0)) = false, ((!s0)) = false, ((decide (lba ≥ (0 : Int)))) = true, ((decide (lba ≥ (0 : Int)))) = true, ((decide (lba ≥ (0 : Int)))) = true, ((decide (lba ≥ (0 : Int)))) = true, ((!s0)) = false, ((!s0)) = false, ((!(decide (lba ≤ (64 : Int))))) = false, ((!(decide (lba ≤ (64 : Int))))) = false, ((decide (n ≥ (0 : Int)))) = true, ((decide (n ≥ (0 : Int)))) = true, ((decide (n ≥ (0 : Int)))) = true, ((decide (n ≥ (0 : Int)))) = true, ((!(decide (lba ≤ (64 : Int))))) = false, ((!(decide (lba ≤ (64 : Int))))) = false, ((!(decide (n ≤ (64 : Int))))) = false, orderOk (rg Try.prog 59 0) = true ∧ allOk (Region.before (rg Try.prog 59 0)) [] 0 [(some [], some []), (some [0], some []), (some [], some []), (some [], some []), (some [], some []), (some [0], some []), (some [], some []), (some [0], some []), (some [], some []), (some [], some []), (some [], some []), (some [], some []), (some [], some []), (some [], some []), (some [], some [])] = true, ((decide ((imax x.lba lba) ≥ (imin (wr (x.lba + x.len)) (wr (lba + n)))))) = true, ([(AV.i 0), (AV.i 0), (AV.i 0), (AV.i 0), AV.nl] : List AV) = [(AV.i 0), (AV.i 0), (AV.i 0), (AV.i 0), AV.nl], ([(AV.i 0), (AV.i 0), (AV.i 0), (AV.i 0), AV.nl] : List AV) = [(AV.i 0), (AV.i 0), (AV.i 0), (AV.i 0), AV.nl]]) kq ⟨rfl, ((eCheck_ok (x) _ h0).any.cast tq), h1, h1, h2, h2, h2, h2, h1, h1, h3, h3, h4, h4, h4, h4, h3, h3, h5, (ord_of ord_59_0 bef_59_0 kq), h6, rfl, rfl, trivial⟩ tq
theorem eCut_l4 (x : Ex) (lba : Int) (n : Int) (s0 : Bool) (h0 : eCheck (x) = some s0) (h1 : ((!s0)) = false) (h2 : ((decide (lba ≥ (0 : Int)))) = true) (h2p : (lba ≥ (0 : Int))) (h3 : ((!(decide (lba ≤ (64 : Int))))) = false) (h4 : ((decide (n ≥ (0 : Int)))) = true) (h4p : (n ≥ (0 : Int))) (h5 : ((!(decide (n ≤ (64 : Int))))) = false) (h6 : ((decide ((imax x.lba lba) ≥ (imin (wr (x.lba + x.len)) (wr (lba + n)))))) = false) (h6p : ¬ ((imax x.lba lba) ≥ (imin (wr (x.lba + x.len)) (wr (lba + n))))) (h7 : ((x.kind == (2 : Int))) = true) (h7p : (x.kind = (2 : Int))) (h8 : ((0 : Int) ≤ (wr ((wr ((imax x.lba lba) - x.lba)) * (32 : Int))))) (h9 : ((0 : Int) ≤ (wr ((wr ((imin (wr (x.lba + x.len)) (wr (lba + n))) - x.lba)) * (32 : Int))))) (h10 : (((Int.toNat (wr ((wr ((imax x.lba lba) - x.lba)) * (32 : Int)))) ≤ (Int.toNat (wr ((wr ((imin (wr (x.lba + x.len)) (wr (lba + n))) - x.lba)) * (32 : Int))))) ∧ (((Int.toNat (wr ((wr ((imin (wr (x.lba + x.len)) (wr (lba + n))) - x.lba)) * (32 : Int)))) ≤ (List.length x.d)) ∧ ((List.length (List.map AV.y x.d)) = ((List.length x.d) * (1 : Nat)))))) (h11 : (((Int.toNat (wr ((wr ((imin (wr (x.lba + x.len)) (wr (lba + n))) - x.lba)) * (32 : Int)))) - (Int.toNat (wr ((wr ((imax x.lba lba) - x.lba)) * (32 : Int))))) ≤ (4294967296 : Nat))) : eCut_G x lba n (((Ex.mk (imax x.lba lba) (wr ((imin (wr (x.lba + x.len)) (wr (lba + n))) - (imax x.lba lba))) x.kind x.gen (List.take (((Int.toNat (wr ((wr ((imin (wr (x.lba + x.len)) (wr (lba + n))) - x.lba)) * (32 : Int)))) - (Int.toNat (wr ((wr ((imax x.lba lba) - x.lba)) * (32 : Int))))) * (1 : Nat)) (List.take (((Int.toNat (wr ((wr ((imin (wr (x.lba + x.len)) (wr (lba + n))) - x.lba)) * (32 : Int)))) - (Int.toNat (wr ((wr ((imax x.lba lba) - x.lba)) * (32 : Int))))) * (1 : Nat)) (List.drop ((Int.toNat (wr ((wr ((imax x.lba lba) - x.lba)) * (32 : Int)))) * (1 : Nat)) x.d)))), Bool.true)) :=
  leafR vw_eq (k := 300) (r := []) (hs := hz [(4, [.cells ((xc x))]), (1, [.fres (.b (s0))]), (2, [.no]), (1, [.no]), (7, [.yes]), (1, [.yes]), (1, [.yes]), (1, [.yes]), (1, [.no]), (1, [.no]), (1, [.no]), (1, [.no]), (7, [.yes]), (1, [.yes]), (1, [.yes]), (1, [.yes]), (1, [.no]), (1, [.no, .no]), (18, [.yes]), (3, [.no]), (6, [.cells ([(AV.i x.lba), (AV.i x.len), (AV.i x.kind), (AV.i x.gen), AV.nl])]), (4, [.yes]), (13, [.yes, .yes, .yes]), (1, [.yes, .yes]), (2, [.cells ([(AV.i x.lba), (AV.i x.len), (AV.i x.kind), (AV.i x.gen), (AV.rf 2 1 0 ((Int.toNat (wr ((wr ((imin (wr (x.lba + x.len)) (wr (lba + n))) - x.lba)) * (32 : Int)))) - (Int.toNat (wr ((wr ((imax x.lba lba) - x.lba)) * (32 : Int))))))])]), (6, [.cells ([(AV.i (imax x.lba lba)), (AV.i x.len), (AV.i x.kind), (AV.i x.gen), (AV.rf 2 1 0 ((Int.toNat (wr ((wr ((imin (wr (x.lba + x.len)) (wr (lba + n))) - x.lba)) * (32 : Int)))) - (Int.toNat (wr ((wr ((imax x.lba lba) - x.lba)) * (32 : Int))))))])]), (2, [.cells ([(AV.i (imax x.lba lba)), (AV.i (wr ((imin (wr (x.lba + x.len)) (wr (lba + n))) - (imax x.lba lba)))), (AV.i x.kind), (AV.i x.gen), (AV.rf 2 1 0 ((Int.toNat (wr ((wr ((imin (wr (x.lba + x.len)) (wr (lba + n))) - x.lba)) * (32 : Int)))) - (Int.toNat (wr ((wr ((imax x.lba lba) - x.lba)) * (32 : Int))))))])]), (1, [.cells ([(AV.i (imax x.lba lba)), (AV.i (wr ((imin (wr (x.lba + x.len)) (wr (lba + n))) - (imax x.lba lba)))), (AV.i x.kind), (AV.i x.gen), (AV.rf 2 1 0 ((Int.toNat (wr ((wr ((imin (wr (x.lba + x.len)) (wr (lba + n))) - x.lba)) * (32 : Int)))) - (Int.toNat (wr ((wr ((imax x.lba lba) - x.lba)) * (32 : Int))))))])]), (1, [.cells ([(AV.i (imax x.lba lba)), (AV.i (wr ((imin (wr (x.lba + x.len)) (wr (lba + n))) - (imax x.lba lba)))), (AV.i x.kind), (AV.i x.gen), (AV.rf 2 1 0 ((Int.toNat (wr ((wr ((imin (wr (x.lba + x.len)) (wr (lba + n))) - x.lba)) * (32 : Int)))) - (Int.toNat (wr ((wr ((imax x.lba lba) - x.lba)) * (32 : Int))))))])]), (2, [.cells ([(AV.i (imax x.lba lba)), (AV.i (wr ((imin (wr (x.lba + x.len)) (wr (lba + n))) - (imax x.lba lba)))), (AV.i x.kind), (AV.i x.gen), (AV.rf 2 1 0 ((Int.toNat (wr ((wr ((imin (wr (x.lba + x.len)) (wr (lba + n))) - x.lba)) * (32 : Int)))) - (Int.toNat (wr ((wr ((imax x.lba lba) - x.lba)) * (32 : Int))))))]), .no, .yes, .yes])]) (raw := (AV.tu [(AV.ag [(AV.i (imax x.lba lba)), (AV.i (wr ((imin (wr (x.lba + x.len)) (wr (lba + n))) - (imax x.lba lba)))), (AV.i x.kind), (AV.i x.gen), (AV.sl ((Int.toNat (wr ((wr ((imin (wr (x.lba + x.len)) (wr (lba + n))) - x.lba)) * (32 : Int)))) - (Int.toNat (wr ((wr ((imax x.lba lba) - x.lba)) * (32 : Int))))) (List.take (((Int.toNat (wr ((wr ((imin (wr (x.lba + x.len)) (wr (lba + n))) - x.lba)) * (32 : Int)))) - (Int.toNat (wr ((wr ((imax x.lba lba) - x.lba)) * (32 : Int))))) * (1 : Nat)) (List.take (((Int.toNat (wr ((wr ((imin (wr (x.lba + x.len)) (wr (lba + n))) - x.lba)) * (32 : Int)))) - (Int.toNat (wr ((wr ((imax x.lba lba) - x.lba)) * (32 : Int))))) * (1 : Nat)) (List.drop ((Int.toNat (wr ((wr ((imax x.lba lba) - x.lba)) * (32 : Int)))) * (1 : Nat)) (List.map AV.y x.d)))))]), (AV.b Bool.true)])) (ps := [((xc x) : List AV) = (xc x), EvFr Try.prog cf Bool.false 45 [(AV.ag (xc x))] (.b (s0)), ((!s0)) = false, ((!s0)) = false, ((decide (lba ≥ (0 : Int)))) = true, ((decide (lba ≥ (0 : Int)))) = true, ((decide (lba ≥ (0 : Int)))) = true, ((decide (lba ≥ (0 : Int)))) = true, ((!s0)) = false, ((!s0)) = false, ((!(decide (lba ≤ (64 : Int))))) = false, ((!(decide (lba ≤ (64 : Int))))) = false, ((decide (n ≥ (0 : Int)))) = true, ((decide (n ≥ (0 : Int)))) = true, ((decide (n ≥ (0 : Int)))) = true, ((decide (n ≥ (0 : Int)))) = true, ((!(decide (lba ≤ (64 : Int))))) = false, ((!(decide (lba ≤ (64 : Int))))) = false, ((!(decide (n ≤ (64 : Int))))) = false, orderOk (rg Try.prog 59 0) = true ∧ allOk (Region.before (rg Try.prog 59 0)) [] 0 [(some [], some []), (some [0], some []), (some [], some []), (some [], some []), (some [], some []), (some [0], some []), (some [], some []), (some [0], some []), (some [], some []), (some [], some []), (some [], some []), (some [], some []), (some [], some []), (some [], some []), (some [], some [])] = true, ((decide ((imax x.lba lba) ≥ (imin (wr (x.lba + x.len)) (wr (lba + n)))))) = false, ([(AV.i x.lba), (AV.i x.len), (AV.i x.kind), (AV.i x.gen), AV.nl] : List AV) = [(AV.i x.lba), (AV.i x.len), (AV.i x.kind), (AV.i x.gen), AV.nl], ((x.kind == (2 : Int))) = true, ((0 : Int) ≤ (wr ((wr ((imax x.lba lba) - x.lba)) * (32 : Int)))), ((0 : Int) ≤ (wr ((wr ((imin (wr (x.lba + x.len)) (wr (lba + n))) - x.lba)) * (32 : Int)))), (((Int.toNat (wr ((wr ((imax x.lba lba) - x.lba)) * (32 : Int)))) ≤ (Int.toNat (wr ((wr ((imin (wr (x.lba + x.len)) (wr (lba + n))) - x.lba)) * (32 : Int))))) ∧ (((Int.toNat (wr ((wr ((imin (wr (x.lba + x.len)) (wr (lba + n))) - x.lba)) * (32 : Int)))) ≤ (List.length x.d)) ∧ ((List.length (List.map AV.y x.d)) = ((List.length x.d) * (1 : Nat))))), ((List.length (List.take (((Int.toNat (wr ((wr ((imin (wr (x.lba + x.len)) (wr (lba + n))) - x.lba)) * (32 : Int)))) - (Int.toNat (wr ((wr ((imax x.lba lba) - x.lba)) * (32 : Int))))) * (1 : Nat)) (List.drop ((Int.toNat (wr ((wr ((imax x.lba lba) - x.lba)) * (32 : Int)))) * (1 : Nat)) (List.map AV.y x.d)))) = (((Int.toNat (wr ((wr ((imin (wr (x.lba + x.len)) (wr (lba + n))) - x.lba)) * (32 : Int)))) - (Int.toNat (wr ((wr ((imax x.lba lba) - x.lba)) * (32 : Int))))) * (1 : Nat))), (((Int.toNat (wr ((wr ((imin (wr (x.lba + x.len)) (wr (lba + n))) - x.lba)) * (32 : Int)))) - (Int.toNat (wr ((wr ((imax x.lba lba) - x.lba)) * (32 : Int))))) ≤ (4294967296 : Nat)), ([(AV.i x.lba), (AV.i x.len), (AV.i x.kind), (AV.i x.gen), (AV.rf 2 1 0 ((Int.toNat (wr ((wr ((imin (wr (x.lba + x.len)) (wr (lba + n))) - x.lba)) * (32 : Int)))) - (Int.toNat (wr ((wr ((imax x.lba lba) - x.lba)) * (32 : Int))))))] : List AV) = [(AV.i x.lba), (AV.i x.len), (AV.i x.kind), (AV.i x.gen), (AV.rf 2 1 0 ((Int.toNat (wr ((wr ((imin (wr (x.lba + x.len)) (wr (lba + n))) - x.lba)) * (32 : Int)))) - (Int.toNat (wr ((wr ((imax x.lba lba) - x.lba)) * (32 : Int))))))], ([(AV.i (imax x.lba lba)), (AV.i x.len), (AV.i x.kind), (AV.i x.gen), (AV.rf 2 1 0 ((Int.toNat (wr ((wr ((imin (wr (x.lba + x.len)) (wr (lba + n))) - x.lba)) * (32 : Int)))) - (Int.toNat (wr ((wr ((imax x.lba lba) - x.lba)) * (32 : Int))))))] : List AV) = [(AV.i (imax x.lba lba)), (AV.i x.len), (AV.i x.kind), (AV.i x.gen), (AV.rf 2 1 0 ((Int.toNat (wr ((wr ((imin (wr (x.lba + x.len)) (wr (lba + n))) - x.lba)) * (32 : Int)))) - (Int.toNat (wr ((wr ((imax x.lba lba) - x.lba)) * (32 : Int))))))], ([(AV.i (imax x.lba lba)), (AV.i (wr ((imin (wr (x.lba + x.len)) (wr (lba + n))) - (imax x.lba lba)))), (AV.i x.kind), (AV.i x.gen), (AV.rf 2 1 0 ((Int.toNat (wr ((wr ((imin (wr (x.lba + x.len)) (wr (lba + n))) - x.lba)) * (32 : Int)))) - (Int.toNat (wr ((wr ((imax x.lba lba) - x.lba)) * (32 : Int))))))] : List AV) = [(AV.i (imax x.lba lba)), (AV.i (wr ((imin (wr (x.lba + x.len)) (wr (lba + n))) - (imax x.lba lba)))), (AV.i x.kind), (AV.i x.gen), (AV.rf 2 1 0 ((Int.toNat (wr ((wr ((imin (wr (x.lba + x.len)) (wr (lba + n))) - x.lba)) * (32 : Int)))) - (Int.toNat (wr ((wr ((imax x.lba lba) - x.lba)) * (32 : Int))))))], ([(AV.i (imax x.lba lba)), (AV.i (wr ((imin (wr (x.lba + x.len)) (wr (lba + n))) - (imax x.lba lba)))), (AV.i x.kind), (AV.i x.gen), (AV.rf 2 1 0 ((Int.toNat (wr ((wr ((imin (wr (x.lba + x.len)) (wr (lba + n))) - x.lba)) * (32 : Int)))) - (Int.toNat (wr ((wr ((imax x.lba lba) - x.lba)) * (32 : Int))))))] : List AV) = [(AV.i (imax x.lba lba)), (AV.i (wr ((imin (wr (x.lba + x.len)) (wr (lba + n))) - (imax x.lba lba)))), (AV.i x.kind), (AV.i x.gen), (AV.rf 2 1 0 ((Int.toNat (wr ((wr ((imin (wr (x.lba + x.len)) (wr (lba + n))) - x.lba)) * (32 : Int)))) - (Int.toNat (wr ((wr ((imax x.lba lba) - x.lba)) * (32 : Int))))))], ([(AV.i (imax x.lba lba)), (AV.i (wr ((imin (wr (x.lba + x.len)) (wr (lba + n))) - (imax x.lba lba)))), (AV.i x.kind), (AV.i x.gen), (AV.rf 2 1 0 ((Int.toNat (wr ((wr ((imin (wr (x.lba + x.len)) (wr (lba + n))) - x.lba)) * (32 : Int)))) - (Int.toNat (wr ((wr ((imax x.lba lba) - x.lba)) * (32 : Int))))))] : List AV) = [(AV.i (imax x.lba lba)), (AV.i (wr ((imin (wr (x.lba + x.len)) (wr (lba + n))) - (imax x.lba lba)))), (AV.i x.kind), (AV.i x.gen), (AV.rf 2 1 0 ((Int.toNat (wr ((wr ((imin (wr (x.lba + x.len)) (wr (lba + n))) - x.lba)) * (32 : Int)))) - (Int.toNat (wr ((wr ((imax x.lba lba) - x.lba)) * (32 : Int))))))], ([(AV.i (imax x.lba lba)), (AV.i (wr ((imin (wr (x.lba + x.len)) (wr (lba + n))) - (imax x.lba lba)))), (AV.i x.kind), (AV.i x.gen), (AV.rf 2 1 0 ((Int.toNat (wr ((wr ((imin (wr (x.lba + x.len)) (wr (lba + n))) - x.lba)) * (32 : Int)))) - (Int.toNat (wr ((wr ((imax x.lba lba) - x.lba)) * (32 : Int))))))] : List AV) = [(AV.i (imax x.lba lba)), (AV.i (wr ((imin (wr (x.lba + x.len)) (wr (lba + n))) - (imax x.lba lba)))), (AV.i x.kind), (AV.i x.gen), (AV.rf 2 1 0 ((Int.toNat (wr ((wr ((imin (wr (x.lba + x.len)) (wr (lba + n))) - x.lba)) * (32 : Int)))) - (Int.toNat (wr ((wr ((imax x.lba lba) - x.lba)) * (32 : Int))))))], (((0 : Nat) + (((Int.toNat (wr ((wr ((imin (wr (x.lba + x.len)) (wr (lba + n))) - x.lba)) * (32 : Int)))) - (Int.toNat (wr ((wr ((imax x.lba lba) - x.lba)) * (32 : Int))))) * (1 : Nat))) ≤ (List.length (List.take (((Int.toNat (wr ((wr ((imin (wr (x.lba + x.len)) (wr (lba + n))) - x.lba)) * (32 : Int)))) - (Int.toNat (wr ((wr ((imax x.lba lba) - x.lba)) * (32 : Int))))) * (1 : Nat)) (List.drop ((Int.toNat (wr ((wr ((imax x.lba lba) - x.lba)) * (32 : Int)))) * (1 : Nat)) (List.map AV.y x.d))))), Pl Bool.true ((List.take (((Int.toNat (wr ((wr ((imin (wr (x.lba + x.len)) (wr (lba + n))) - x.lba)) * (32 : Int)))) - (Int.toNat (wr ((wr ((imax x.lba lba) - x.lba)) * (32 : Int))))) * (1 : Nat)) (List.take (((Int.toNat (wr ((wr ((imin (wr (x.lba + x.len)) (wr (lba + n))) - x.lba)) * (32 : Int)))) - (Int.toNat (wr ((wr ((imax x.lba lba) - x.lba)) * (32 : Int))))) * (1 : Nat)) (List.drop ((Int.toNat (wr ((wr ((imax x.lba lba) - x.lba)) * (32 : Int)))) * (1 : Nat)) (List.map AV.y x.d)))))]) kq ⟨rfl, ((eCheck_ok (x) _ h0).any.cast tq), h1, h1, h2, h2, h2, h2, h1, h1, h3, h3, h4, h4, h4, h4, h3, h3, h5, (ord_of ord_59_0 bef_59_0 kq), h6, rfl, h7, h8, h9, h10, fq, h11, rfl, rfl, rfl, rfl, rfl, rfl, fq, pq, trivial⟩ tq
theorem eCut_l5 (x : Ex) (lba : Int) (n : Int) (s0 : Bool) (h0 : eCheck (x) = some s0) (h1 : ((!s0)) = false) (h2 : ((decide (lba ≥ (0 : Int)))) = true) (h2p : (lba ≥ (0 : Int))) (h3 : ((!(decide (lba ≤ (64 : Int))))) = false) (h4 : ((decide (n ≥ (0 : Int)))) = true) (h4p : (n ≥ (0 : Int))) (h5 : ((!(decide (n ≤ (64 : Int))))) = false) (h6 : ((decide ((imax x.lba lba) ≥ (imin (wr (x.lba + x.len)) (wr (lba + n)))))) = false) (h6p : ¬ ((imax x.lba lba) ≥ (imin (wr (x.lba + x.len)) (wr (lba + n))))) (h7 : ((x.kind == (2 : Int))) = false) (h7p : ¬ (x.kind = (2 : Int))) : eCut_G x lba n (((Ex.mk (imax x.lba lba) (wr ((imin (wr (x.lba + x.len)) (wr (lba + n))) - (imax x.lba lba))) x.kind x.gen ([] : List UInt8)), Bool.true)) :=
  leafR vw_eq (k := 300) (r := []) (hs := hz [(4, [.cells ((xc x))]), (1, [.fres (.b (s0))]), (2, [.no]), (1, [.no]), (7, [.yes]), (1, [.yes]), (1, [.yes]), (1, [.yes]), (1, [.no]), (1, [.no]), (1, [.no]), (1, [.no]), (7, [.yes]), (1, [.yes]), (1, [.yes]), (1, [.yes]), (1, [.no]), (1, [.no, .no]), (18, [.yes]), (3, [.no]), (6, [.cells ([(AV.i x.lba), (AV.i x.len), (AV.i x.kind), (AV.i x.gen), AV.nl])]), (4, [.no]), (6, [.cells ([(AV.i (imax x.lba lba)), (AV.i x.len), (AV.i x.kind), (AV.i x.gen), AV.nl])]), (2, [.cells ([(AV.i (imax x.lba lba)), (AV.i (wr ((imin (wr (x.lba + x.len)) (wr (lba + n))) - (imax x.lba lba)))), (AV.i x.kind), (AV.i x.gen), AV.nl])]), (1, [.cells ([(AV.i (imax x.lba lba)), (AV.i (wr ((imin (wr (x.lba + x.len)) (wr (lba + n))) - (imax x.lba lba)))), (AV.i x.kind), (AV.i x.gen), AV.nl])]), (1, [.cells ([(AV.i (imax x.lba lba)), (AV.i (wr ((imin (wr (x.lba + x.len)) (wr (lba + n))) - (imax x.lba lba)))), (AV.i x.kind), (AV.i x.gen), AV.nl])]), (2, [.cells ([(AV.i (imax x.lba lba)), (AV.i (wr ((imin (wr (x.lba + x.len)) (wr (lba + n))) - (imax x.lba lba)))), (AV.i x.kind), (AV.i x.gen), AV.nl])])]) (raw := (AV.tu [(AV.ag [(AV.i (imax x.lba lba)), (AV.i (wr ((imin (wr (x.lba + x.len)) (wr (lba + n))) - (imax x.lba lba)))), (AV.i x.kind), (AV.i x.gen), (AV.sl 0 ([] : List AV))]), (AV.b Bool.true)])) (ps := [((xc x) : List AV) = (xc x), EvFr Try.prog cf Bool.false 45 [(AV.ag (xc x))] (.b (s0)), ((!s0)) = false, ((!s0)) = false, ((decide (lba ≥ (0 : Int)))) = true, ((decide (lba ≥ (0 : Int)))) = true, ((decide (lba ≥ (0 : Int)))) = true, ((decide (lba ≥ (0 : Int)))) = true, ((!s0)) = false, ((!s0)) = false, ((!(decide (lba ≤ (64 : Int))))) = false, ((!(decide (lba ≤ (64 : Int))))) = false, ((decide (n ≥ (0 : Int)))) = true, ((decide (n ≥ (0 : Int)))) = true, ((decide (n ≥ (0 : Int)))) = true, ((decide (n ≥ (0 : Int)))) = true, ((!(decide (lba ≤ (64 : Int))))) = false, ((!(decide (lba ≤ (64 : Int))))) = false, ((!(decide (n ≤ (64 : Int))))) = false, orderOk (rg Try.prog 59 0) = true ∧ allOk (Region.before (rg Try.prog 59 0)) [] 0 [(some [], some []), (some [0], some []), (some [], some []), (some [], some []), (some [], some []), (some [0], some []), (some [], some []), (some [0], some []), (some [], some []), (some [], some []), (some [], some []), (some [], some []), (some [], some []), (some [], some []), (some [], some [])] = true, ((decide ((imax x.lba lba) ≥ (imin (wr (x.lba + x.len)) (wr (lba + n)))))) = false, ([(AV.i x.lba), (AV.i x.len), (AV.i x.kind), (AV.i x.gen), AV.nl] : List AV) = [(AV.i x.lba), (AV.i x.len), (AV.i x.kind), (AV.i x.gen), AV.nl], ((x.kind == (2 : Int))) = false, ([(AV.i (imax x.lba lba)), (AV.i x.len), (AV.i x.kind), (AV.i x.gen), AV.nl] : List AV) = [(AV.i (imax x.lba lba)), (AV.i x.len), (AV.i x.kind), (AV.i x.gen), AV.nl], ([(AV.i (imax x.lba lba)), (AV.i (wr ((imin (wr (x.lba + x.len)) (wr (lba + n))) - (imax x.lba lba)))), (AV.i x.kind), (AV.i x.gen), AV.nl] : List AV) = [(AV.i (imax x.lba lba)), (AV.i (wr ((imin (wr (x.lba + x.len)) (wr (lba + n))) - (imax x.lba lba)))), (AV.i x.kind), (AV.i x.gen), AV.nl], ([(AV.i (imax x.lba lba)), (AV.i (wr ((imin (wr (x.lba + x.len)) (wr (lba + n))) - (imax x.lba lba)))), (AV.i x.kind), (AV.i x.gen), AV.nl] : List AV) = [(AV.i (imax x.lba lba)), (AV.i (wr ((imin (wr (x.lba + x.len)) (wr (lba + n))) - (imax x.lba lba)))), (AV.i x.kind), (AV.i x.gen), AV.nl], ([(AV.i (imax x.lba lba)), (AV.i (wr ((imin (wr (x.lba + x.len)) (wr (lba + n))) - (imax x.lba lba)))), (AV.i x.kind), (AV.i x.gen), AV.nl] : List AV) = [(AV.i (imax x.lba lba)), (AV.i (wr ((imin (wr (x.lba + x.len)) (wr (lba + n))) - (imax x.lba lba)))), (AV.i x.kind), (AV.i x.gen), AV.nl], ([(AV.i (imax x.lba lba)), (AV.i (wr ((imin (wr (x.lba + x.len)) (wr (lba + n))) - (imax x.lba lba)))), (AV.i x.kind), (AV.i x.gen), AV.nl] : List AV) = [(AV.i (imax x.lba lba)), (AV.i (wr ((imin (wr (x.lba + x.len)) (wr (lba + n))) - (imax x.lba lba)))), (AV.i x.kind), (AV.i x.gen), AV.nl]]) kq ⟨rfl, ((eCheck_ok (x) _ h0).any.cast tq), h1, h1, h2, h2, h2, h2, h1, h1, h3, h3, h4, h4, h4, h4, h3, h3, h5, (ord_of ord_59_0 bef_59_0 kq), h6, rfl, h7, rfl, rfl, rfl, rfl, rfl, trivial⟩ tq
theorem eCut_l6 (x : Ex) (lba : Int) (n : Int) (s0 : Bool) (h0 : eCheck (x) = some s0) (h1 : ((!s0)) = false) (h2 : ((decide (lba ≥ (0 : Int)))) = true) (h2p : (lba ≥ (0 : Int))) (h3 : ((!(decide (lba ≤ (64 : Int))))) = false) (h4 : ((decide (n ≥ (0 : Int)))) = false) (h4p : ¬ (n ≥ (0 : Int))) : eCut_G x lba n (((Ex.mk 0 0 0 0 ([] : List UInt8)), Bool.false)) :=
  leafR vw_eq (k := 300) (r := []) (hs := hz [(4, [.cells ((xc x))]), (1, [.fres (.b (s0))]), (2, [.no]), (1, [.no]), (7, [.yes]), (1, [.yes]), (1, [.yes]), (1, [.yes]), (1, [.no]), (1, [.no]), (1, [.no]), (1, [.no]), (7, [.no, .no, .no, .no]), (1, [.no]), (1, [.no]), (3, [.cells ([(AV.i 0), (AV.i 0), (AV.i 0), (AV.i 0), AV.nl])]), (2, [.cells ([(AV.i 0), (AV.i 0), (AV.i 0), (AV.i 0), AV.nl])])]) (raw := (AV.tu [(AV.ag [(AV.i 0), (AV.i 0), (AV.i 0), (AV.i 0), (AV.sl 0 ([] : List AV))]), (AV.b Bool.false)])) (ps := [((xc x) : List AV) = (xc x), EvFr Try.prog cf Bool.false 45 [(AV.ag (xc x))] (.b (s0)), ((!s0)) = false, ((!s0)) = false, ((decide (lba ≥ (0 : Int)))) = true, ((decide (lba ≥ (0 : Int)))) = true, ((decide (lba ≥ (0 : Int)))) = true, ((decide (lba ≥ (0 : Int)))) = true, ((!s0)) = false, ((!s0)) = false, ((!(decide (lba ≤ (64 : Int))))) = false, ((!(decide (lba ≤ (64 : Int))))) = false, ((decide (n ≥ (0 : Int)))) = false, ((decide (n ≥ (0 : Int)))) = false, ((decide (n ≥ (0 : Int)))) = false, ((decide (n ≥ (0 : Int)))) = false, ((!(decide (lba ≤ (64 : Int))))) = false, ((!(decide (lba ≤ (64 : Int))))) = false, ([(AV.i 0), (AV.i 0), (AV.i 0), (AV.i 0), AV.nl] : List AV) = [(AV.i 0), (AV.i 0), (AV.i 0), (AV.i 0), AV.nl], ([(AV.i 0), (AV.i 0), (AV.i 0), (AV.i 0), AV.nl] : List AV) = [(AV.i 0), (AV.i 0), (AV.i 0), (AV.i 0), AV.nl]]) kq ⟨rfl, ((eCheck_ok (x) _ h0).any.cast tq), h1, h1, h2, h2, h2, h2, h1, h1, h3, h3, h4, h4, h4, h4, h3, h3, rfl, rfl, trivial⟩ tq
theorem eCut_l7 (x : Ex) (lba : Int) (n : Int) (s0 : Bool) (h0 : eCheck (x) = some s0) (h1 : ((!s0)) = false) (h2 : ((decide (lba ≥ (0 : Int)))) = false) (h2p : ¬ (lba ≥ (0 : Int))) : eCut_G x lba n (((Ex.mk 0 0 0 0 ([] : List UInt8)), Bool.false)) :=
  leafR vw_eq (k := 300) (r := []) (hs := hz [(4, [.cells ((xc x))]), (1, [.fres (.b (s0))]), (2, [.no]), (1, [.no]), (7, [.no, .no, .no, .no]), (1, [.no]), (1, [.no]), (8, [.cells ([(AV.i 0), (AV.i 0), (AV.i 0), (AV.i 0), AV.nl])]), (2, [.cells ([(AV.i 0), (AV.i 0), (AV.i 0), (AV.i 0), AV.nl])])]) (raw := (AV.tu [(AV.ag [(AV.i 0), (AV.i 0), (AV.i 0), (AV.i 0), (AV.sl 0 ([] : List AV))]), (AV.b Bool.false)])) (ps := [((xc x) : List AV) = (xc x), EvFr Try.prog cf Bool.false 45 [(AV.ag (xc x))] (.b (s0)), ((!s0)) = false, ((!s0)) = false, ((decide (lba ≥ (0 : Int)))) = false, ((decide (lba ≥ (0 : Int)))) = false, ((decide (lba ≥ (0 : Int)))) = false, ((decide (lba ≥ (0 : Int)))) = false, ((!s0)) = false, ((!s0)) = false, ([(AV.i 0), (AV.i 0), (AV.i 0), (AV.i 0), AV.nl] : List AV) = [(AV.i 0), (AV.i 0), (AV.i 0), (AV.i 0), AV.nl], ([(AV.i 0), (AV.i 0), (AV.i 0), (AV.i 0), AV.nl] : List AV) = [(AV.i 0), (AV.i 0), (AV.i 0), (AV.i 0), AV.nl]]) kq ⟨rfl, ((eCheck_ok (x) _ h0).any.cast tq), h1, h1, h2, h2, h2, h2, h1, h1, rfl, rfl, trivial⟩ tq
theorem eCut_ok (x : Ex) (lba : Int) (n : Int) (r : Ex × Bool) : eCut x lba n = some r → eCut_G x lba n r := by
  unfold eCut
  refine tc_ok (fun s0 h0 => ?_)
  refine tb_ok (fun h1 => ?_) (fun h1 => ?_)
  ·
    exact fun e => tl_ok (G := eCut_G x lba n) (eCut_l0 x lba n s0 h0 h1) e
  ·
    refine tb_ok (fun h2 => ?_) (fun h2 => ?_)
    ·
      have h2p := of_decide_eq_true h2
      refine tb_ok (fun h3 => ?_) (fun h3 => ?_)
      ·
        exact fun e => tl_ok (G := eCut_G x lba n) (eCut_l1 x lba n s0 h0 h1 h2 h2p h3) e
      ·
        refine tb_ok (fun h4 => ?_) (fun h4 => ?_)
        ·
          have h4p := of_decide_eq_true h4
          refine tb_ok (fun h5 => ?_) (fun h5 => ?_)
          ·
            exact fun e => tl_ok (G := eCut_G x lba n) (eCut_l2 x lba n s0 h0 h1 h2 h2p h3 h4 h4p h5) e
          ·
            refine tb_ok (fun h6 => ?_) (fun h6 => ?_)
            ·
              have h6p := of_decide_eq_true h6
              exact fun e => tl_ok (G := eCut_G x lba n) (eCut_l3 x lba n s0 h0 h1 h2 h2p h3 h4 h4p h5 h6 h6p) e
            ·
              have h6p := of_decide_eq_false h6
              refine tb_ok (fun h7 => ?_) (fun h7 => ?_)
              ·
                have h7p := eq_of_beq h7
                refine tp_ok (fun h8 => ?_)
                refine tp_ok (fun h9 => ?_)
                refine tp_ok (fun h10 => ?_)
                refine tp_ok (fun h11 => ?_)
                exact fun e => tl_ok (G := eCut_G x lba n) (eCut_l4 x lba n s0 h0 h1 h2 h2p h3 h4 h4p h5 h6 h6p h7 h7p h8 h9 h10 h11) e
              ·
                have h7p := ne_of_beq_false h7
                exact fun e => tl_ok (G := eCut_G x lba n) (eCut_l5 x lba n s0 h0 h1 h2 h2p h3 h4 h4p h5 h6 h6p h7 h7p) e
        ·
          have h4p := of_decide_eq_false h4
          exact fun e => tl_ok (G := eCut_G x lba n) (eCut_l6 x lba n s0 h0 h1 h2 h2p h3 h4 h4p) e
    ·
      have h2p := of_decide_eq_false h2
      exact fun e => tl_ok (G := eCut_G x lba n) (eCut_l7 x lba n s0 h0 h1 h2 h2p) e
end Ab
end Go.Proofs.Ytadipihpgcelmaa
namespace Go.Proofs.Ytadipihpgcelmaa
open Go Go.Proofs.Ytadipihpgcelmaa.Ab
set_option linter.unusedVariables false
set_option linter.unusedSimpArgs false
set_option maxRecDepth 1000000
namespace Ab
noncomputable abbrev iFill_L0_I (l : List Ce) (lba : Int) (n : Int) (kind : Int) (gen : Int) (s0 : Bool) (s2 : Bool) (s3 : Bool) (s8 : Bool) (s10 : Bool) : St := (St.mk [(0, (AV.sl (List.length l) (List.flatMap Ce.cells l))), (1, (AV.i lba)), (2, (AV.i n)), (3, (AV.b s2)), (4, (AV.fn (42 : Nat) [(AV.pt 0 0), (AV.pt 1 0)])), (10, AV.nl), (11, (AV.i 0)), (14, (AV.sl (List.length l) (List.flatMap Ce.cells l))), (15, (AV.b s3)), (16, (AV.b (!s3))), (17, (AV.sl (List.length l) (List.flatMap Ce.cells l))), (18, (AV.rf 2 34 0 (List.length l))), (12, (AV.rf 2 34 0 (List.length l))), (19, (AV.b s2)), (20, (AV.b (!s2))), (21, (AV.b (!s2))), (22, (AV.i lba)), (23, (AV.sl (List.length l) (List.flatMap Ce.cells l))), (24, (AV.i (↑(List.length l) : Int))), (25, (AV.b s8)), (26, (AV.b (!s8))), (27, (AV.b (!s8))), (28, (AV.b (!s8))), (29, (AV.i n)), (30, (AV.sl (List.length l) (List.flatMap Ce.cells l))), (31, (AV.i (↑(List.length l) : Int))), (32, (AV.i lba)), (33, (AV.i (wr ((↑(List.length l) : Int) - lba)))), (34, (AV.b s10)), (35, (AV.b (!s10))), (36, (AV.b (!s10))), (38, (AV.i n)), (39, (AV.i 0))] 52 (AH.mk 3 [(2, (AObj.cells (List.flatMap Ce.cells l))), (1, (AObj.cells [(AV.i gen)])), (0, (AObj.cells [(AV.i kind)]))]) Bool.false)
noncomputable abbrev iFill_L0_S (l : List Ce) (lba : Int) (n : Int) (kind : Int) (gen : Int) (s0 : Bool) (s2 : Bool) (s3 : Bool) (s8 : Bool) (s10 : Bool) (s12 : Int × List Ce) : St := (St.mk [(0, (AV.sl (List.length l) (List.flatMap Ce.cells l))), (1, (AV.i lba)), (2, (AV.i n)), (3, (AV.b s2)), (4, (AV.fn (42 : Nat) [(AV.pt 0 0), (AV.pt 1 0)])), (10, AV.nl), (11, (AV.i 0)), (16, (AV.b (!s3))), (12, (AV.rf 2 34 0 (List.length l))), (36, (AV.b (!s10))), (38, (AV.i n)), (39, (AV.i s12.1))] 52 (AH.mk 3 [(2, (AObj.cells (List.flatMap Ce.cells s12.2))), (1, (AObj.cells [(AV.i gen)])), (0, (AObj.cells [(AV.i kind)]))]) Bool.false)
noncomputable def iFill_L0_step (l : List Ce) (lba : Int) (n : Int) (kind : Int) (gen : Int) (s0 : Bool) (s2 : Bool) (s3 : Bool) (s8 : Bool) (s10 : Bool) (s12 : Int × List Ce) : Option (Int × List Ce) :=
 (tb ((decide (s12.1 < n)))
  (tp ((((0 : Int) ≤ (wr (lba + s12.1))) ∧ ((wr (lba + s12.1)) < (↑(List.length l) : Int))))
   (tp ((((List.length ((AV.i kind) :: (AV.i gen) :: List.replicate (32 : Nat) (AV.y (UInt8.ofNat (0 : Nat))))) = (34 : Nat)) ∧ ((((0 : Nat) + ((Int.toNat (wr (lba + s12.1))) * (34 : Nat))) + (List.length ((AV.i kind) :: (AV.i gen) :: List.replicate (32 : Nat) (AV.y (UInt8.ofNat (0 : Nat)))))) ≤ (List.length (List.flatMap Ce.cells s12.2)))))
    (some (((wr (s12.1 + (1 : Int))), (List.set s12.2 (Int.toNat (wr (lba + s12.1))) (Ce.mk kind gen (List.replicate (32 : Nat) (UInt8.ofNat (0 : Nat))))))))))
  none /- exit -/)
theorem iFill_L0_s0 (l : List Ce) (lba : Int) (n : Int) (kind : Int) (gen : Int) (s0 : Bool) (s2 : Bool) (s3 : Bool) (s8 : Bool) (s10 : Bool) (s12 : Int × List Ce) (h13 : ((decide (s12.1 < n))) = true) (h13p : (s12.1 < n)) (h14 : (((0 : Int) ≤ (wr (lba + s12.1))) ∧ ((wr (lba + s12.1)) < (↑(List.length l) : Int)))) (h15 : (((List.length ((AV.i kind) :: (AV.i gen) :: List.replicate (32 : Nat) (AV.y (UInt8.ofNat (0 : Nat))))) = (34 : Nat)) ∧ ((((0 : Nat) + ((Int.toNat (wr (lba + s12.1))) * (34 : Nat))) + (List.length ((AV.i kind) :: (AV.i gen) :: List.replicate (32 : Nat) (AV.y (UInt8.ofNat (0 : Nat)))))) ≤ (List.length (List.flatMap Ce.cells s12.2))))) : EvStep Try.prog cf 3 (lp Try.prog 41 0) (iFill_L0_S l lba n kind gen s0 s2 s3 s8 s10 s12) (iFill_L0_S l lba n kind gen s0 s2 s3 s8 s10 (((wr (s12.1 + (1 : Int))), (List.set s12.2 (Int.toNat (wr (lba + s12.1))) (Ce.mk kind gen (List.replicate (32 : Nat) (UInt8.ofNat (0 : Nat)))))))) :=
  leafS vw_eq (k := 300) (r := []) (hs := hz [(1, [.yes]), (16, [.cells (((AV.i kind) :: (AV.i gen) :: List.replicate (32 : Nat) (AV.y (UInt8.ofNat (0 : Nat)))))]), (1, [.cells (((AV.i kind) :: (AV.i gen) :: List.replicate (32 : Nat) (AV.y (UInt8.ofNat (0 : Nat))))), .yes, .yes, .cells ((List.flatMap Ce.cells (List.set s12.2 (Int.toNat (wr (lba + s12.1))) (Ce.mk kind gen (List.replicate (32 : Nat) (UInt8.ofNat (0 : Nat)))))))]), (2, [])]) (st1 := (St.mk [(0, (AV.sl (List.length l) (List.flatMap Ce.cells l))), (1, (AV.i lba)), (2, (AV.i n)), (3, (AV.b s2)), (4, (AV.fn (42 : Nat) [(AV.pt 0 0), (AV.pt 1 0)])), (10, AV.nl), (11, (AV.i 0)), (16, (AV.b (!s3))), (12, (AV.rf 2 34 0 (List.length l))), (36, (AV.b (!s10))), (38, (AV.i n)), (39, (AV.i (wr (s12.1 + (1 : Int))))), (40, (AV.b (decide (s12.1 < n)))), (41, (AV.i s12.1)), (13, (AV.i s12.1)), (42, (AV.rf 2 34 0 (List.length l))), (43, (AV.i lba)), (44, (AV.i s12.1)), (45, (AV.i (wr (lba + s12.1)))), (46, (AV.fn (42 : Nat) [(AV.pt 0 0), (AV.pt 1 0)])), (47, (AV.i s12.1)), (48, (AV.ag ((AV.i kind) :: (AV.i gen) :: List.replicate (32 : Nat) (AV.y (UInt8.ofNat (0 : Nat)))))), (49, (AV.pt 2 ((0 : Nat) + ((Int.toNat (wr (lba + s12.1))) * (34 : Nat))))), (50, (AV.i (wr (s12.1 + (1 : Int)))))] 52 (AH.mk 4 [(3, (AObj.cells ((AV.i kind) :: (AV.i gen) :: List.replicate (32 : Nat) (AV.y (UInt8.ofNat (0 : Nat)))))), (2, (AObj.cells (List.flatMap Ce.cells (List.set s12.2 (Int.toNat (wr (lba + s12.1))) (Ce.mk kind gen (List.replicate (32 : Nat) (UInt8.ofNat (0 : Nat)))))))), (1, (AObj.cells [(AV.i gen)])), (0, (AObj.cells [(AV.i kind)]))]) Bool.false)) (ps := [((decide (s12.1 < n))) = true, (((AV.i kind) :: (AV.i gen) :: List.replicate (32 : Nat) (AV.y (UInt8.ofNat (0 : Nat)))) : List AV) = ((AV.i kind) :: (AV.i gen) :: List.replicate (32 : Nat) (AV.y (UInt8.ofNat (0 : Nat)))), (((AV.i kind) :: (AV.i gen) :: List.replicate (32 : Nat) (AV.y (UInt8.ofNat (0 : Nat)))) : List AV) = ((AV.i kind) :: (AV.i gen) :: List.replicate (32 : Nat) (AV.y (UInt8.ofNat (0 : Nat)))), (((0 : Int) ≤ (wr (lba + s12.1))) ∧ ((wr (lba + s12.1)) < (↑(List.length l) : Int))), (((List.length ((AV.i kind) :: (AV.i gen) :: List.replicate (32 : Nat) (AV.y (UInt8.ofNat (0 : Nat))))) = (34 : Nat)) ∧ ((((0 : Nat) + ((Int.toNat (wr (lba + s12.1))) * (34 : Nat))) + (List.length ((AV.i kind) :: (AV.i gen) :: List.replicate (32 : Nat) (AV.y (UInt8.ofNat (0 : Nat)))))) ≤ (List.length (List.flatMap Ce.cells s12.2)))), (((List.take ((0 : Nat) + ((Int.toNat (wr (lba + s12.1))) * (34 : Nat))) (List.flatMap Ce.cells s12.2)) ++ ((AV.i kind) :: (AV.i gen) :: List.replicate (32 : Nat) (AV.y (UInt8.ofNat (0 : Nat))))) ++ (List.drop (((0 : Nat) + ((Int.toNat (wr (lba + s12.1))) * (34 : Nat))) + (List.length ((AV.i kind) :: (AV.i gen) :: List.replicate (32 : Nat) (AV.y (UInt8.ofNat (0 : Nat)))))) (List.flatMap Ce.cells s12.2))) = (List.flatMap Ce.cells (List.set s12.2 (Int.toNat (wr (lba + s12.1))) (Ce.mk kind gen (List.replicate (32 : Nat) (UInt8.ofNat (0 : Nat))))))]) kq ⟨h13, rfl, rfl, h14, h15, (by rw [show ((0 : Nat) + ((Int.toNat (wr (lba + s12.1))) * (34 : Nat))) = ((Int.toNat (wr (lba + s12.1)))) * 34 by omega]; exact ce_setE _ _ ((Ce.mk kind gen (List.replicate (32 : Nat) (UInt8.ofNat (0 : Nat))))) bq tq), trivial⟩ (Nat.le_of_ble_eq_true rfl) (absB_of [] [] kq (.consn kq (.eqv tq rfl) (.consn kq (.eqv tq rfl) (.consn kq (.eqv tq rfl) (.consn kq (.eqv tq rfl) (.consn kq (.fn (.cons (.pt rfl) (.cons (.pt rfl) .nil))) (.consn kq .nl0 (.consn kq (.eqv tq rfl) (.consn kq (.eqv tq rfl) (.consn kq (.rf rfl) (.consn kq (.eqv tq rfl) (.consn kq (.eqv tq rfl) (.consn kq (.eqv tq rfl) .nil)))))))))))) (.cons (.old rfl rfl (.cells (.pl tq pq))) (.cons (.old rfl rfl (.cells (.cons (.eqv tq rfl) .nil))) (.cons (.old rfl rfl (.cells (.cons (.eqv tq rfl) .nil))) .nil))))
theorem iFill_L0_ok (l : List Ce) (lba : Int) (n : Int) (kind : Int) (gen : Int) (s0 : Bool) (s2 : Bool) (s3 : Bool) (s8 : Bool) (s10 : Bool) (s12 zz : Int × List Ce) : iFill_L0_step l lba n kind gen s0 s2 s3 s8 s10 s12 = some zz → EvStep Try.prog cf 3 (lp Try.prog 41 0) (iFill_L0_S l lba n kind gen s0 s2 s3 s8 s10 s12) (iFill_L0_S l lba n kind gen s0 s2 s3 s8 s10 zz) := by
  unfold iFill_L0_step
  refine tb_ok (fun h13 => ?_) (fun h13 => ?_)
  ·
    have h13p := of_decide_eq_true h13
    refine tp_ok (fun h14 => ?_)
    refine tp_ok (fun h15 => ?_)
    exact fun e => tl_ok (G := (fun zz => EvStep Try.prog cf 3 (lp Try.prog 41 0) (iFill_L0_S l lba n kind gen s0 s2 s3 s8 s10 s12) (iFill_L0_S l lba n kind gen s0 s2 s3 s8 s10 zz))) (iFill_L0_s0 l lba n kind gen s0 s2 s3 s8 s10 s12 h13 h13p h14 h15) e
  ·
    have h13p := of_decide_eq_false h13
    exact fun e => nomatch e
/-- Function 21, as it answers. -/
noncomputable def iFill (l : List Ce) (lba : Int) (n : Int) (kind : Int) (gen : Int) : Option (List Ce × Int) :=
 (tc (iWithin (kind) ((0 : Int)) ((1 : Int))) fun s0 =>
  (tb (s0)
   (tc (iWithin (gen) ((0 : Int)) ((2147483647 : Int))) fun s2 =>
    (tc (iCheck (l)) fun s3 =>
     (tb ((!s3))
      (some ((([] : List Ce), (90 : Int))))
      (tp (((List.length (List.flatMap Ce.cells l)) = ((List.length l) * (34 : Nat))))
       (tp (((List.length l) ≤ (4294967296 : Nat)))
        (tb ((!s2))
         (tp ((((0 : Nat) = (0 : Nat)) ∧ ((List.length (List.flatMap Ce.cells l)) = ((List.length l) * (34 : Nat)))))
          (some ((l, (81 : Int)))))
         (tc (iWithin (lba) ((0 : Int)) ((↑(List.length l) : Int))) fun s8 =>
          (tb ((!s8))
           (tp ((((0 : Nat) = (0 : Nat)) ∧ ((List.length (List.flatMap Ce.cells l)) = ((List.length l) * (34 : Nat)))))
            (some ((l, (81 : Int)))))
           (tc (iWithin (n) ((1 : Int)) ((wr ((↑(List.length l) : Int) - lba)))) fun s10 =>
            (tb ((!s10))
             (tp ((((0 : Nat) = (0 : Nat)) ∧ ((List.length (List.flatMap Ce.cells l)) = ((List.length l) * (34 : Nat)))))
              (some ((l, (81 : Int)))))
             (th (iFill_L0_step l lba n kind gen s0 s2 s3 s8 s10) (((0 : Int), l)) fun s12 =>
              (tb ((decide (s12.1 < n)))
               none /- stop behind an operation -/
               (tp ((((0 : Nat) = (0 : Nat)) ∧ ((List.length (List.flatMap Ce.cells s12.2)) = ((List.length l) * (34 : Nat)))))
                (some ((s12.2, (0 : Int)))))))))))))))))
   (tc (iCheck (l)) fun s2 =>
    (tb ((!s2))
     (some ((([] : List Ce), (90 : Int))))
     (tp (((List.length (List.flatMap Ce.cells l)) = ((List.length l) * (34 : Nat))))
      (tp (((List.length l) ≤ (4294967296 : Nat)))
       (tp ((((0 : Nat) = (0 : Nat)) ∧ ((List.length (List.flatMap Ce.cells l)) = ((List.length l) * (34 : Nat)))))
        (some ((l, (81 : Int)))))))))))
abbrev iFill_G (l : List Ce) (lba : Int) (n : Int) (kind : Int) (gen : Int) (r : List Ce × Int) : Prop := EvFr Try.prog cf true 21 [ces (l), .i (lba), .i (n), .i (kind), .i (gen)] (.tu [ces (r.1), .i (r.2)])
theorem iFill_l0 (l : List Ce) (lba : Int) (n : Int) (kind : Int) (gen : Int) (s0 : Bool) (h0 : iWithin (kind) ((0 : Int)) ((1 : Int)) = some s0) (h1 : (s0) = true) (s2 : Bool) (h2 : iWithin (gen) ((0 : Int)) ((2147483647 : Int)) = some s2) (s3 : Bool) (h3 : iCheck (l) = some s3) (h4 : ((!s3)) = true) : iFill_G l lba n kind gen ((([] : List Ce), (90 : Int))) :=
  leafR vw_eq (k := 300) (r := []) (hs := hz [(10, [.fres (.b (s0))]), (1, [.yes]), (2, [.yes]), (1, [.fres (.b (s2)), .yes]), (6, [.fres (.b (s3))]), (1, [.yes]), (6, [])]) (raw := (AV.tu [(AV.sl 0 ([] : List AV)), (AV.i 90)])) (ps := [EvFr Try.prog cf Bool.false 36 [(AV.i kind), (AV.i 0), (AV.i 1)] (.b (s0)), (s0) = true, (s0) = true, EvFr Try.prog cf Bool.false 36 [(AV.i gen), (AV.i 0), (AV.i 2147483647)] (.b (s2)), (s0) = true, EvFr Try.prog cf Bool.false 17 [(AV.sl (List.length l) (List.flatMap Ce.cells l))] (.b (s3)), ((!s3)) = true]) kq ⟨((iWithin_ok (kind) ((0 : Int)) ((1 : Int)) _ h0).any.cast tq), h1, h1, ((iWithin_ok (gen) ((0 : Int)) ((2147483647 : Int)) _ h2).any.cast tq), h1, ((iCheck_ok (l) _ h3).any.cast tq), h4, trivial⟩ tq
theorem iFill_l1 (l : List Ce) (lba : Int) (n : Int) (kind : Int) (gen : Int) (s0 : Bool) (h0 : iWithin (kind) ((0 : Int)) ((1 : Int)) = some s0) (h1 : (s0) = true) (s2 : Bool) (h2 : iWithin (gen) ((0 : Int)) ((2147483647 : Int)) = some s2) (s3 : Bool) (h3 : iCheck (l) = some s3) (h4 : ((!s3)) = false) (h5 : ((List.length (List.flatMap Ce.cells l)) = ((List.length l) * (34 : Nat)))) (h6 : ((List.length l) ≤ (4294967296 : Nat))) (h7 : ((!s2)) = true) (h8 : (((0 : Nat) = (0 : Nat)) ∧ ((List.length (List.flatMap Ce.cells l)) = ((List.length l) * (34 : Nat))))) : iFill_G l lba n kind gen ((l, (81 : Int))) :=
  leafR vw_eq (k := 300) (r := []) (hs := hz [(10, [.fres (.b (s0))]), (1, [.yes]), (2, [.yes]), (1, [.fres (.b (s2)), .yes]), (6, [.fres (.b (s3))]), (1, [.no]), (2, [.yes, .yes]), (4, [.yes, .yes, .yes, .yes, .yes, .yes]), (17, [.yes, .yes])]) (raw := (AV.tu [(AV.sl (List.length l) (List.flatMap Ce.cells l)), (AV.i 81)])) (ps := [EvFr Try.prog cf Bool.false 36 [(AV.i kind), (AV.i 0), (AV.i 1)] (.b (s0)), (s0) = true, (s0) = true, EvFr Try.prog cf Bool.false 36 [(AV.i gen), (AV.i 0), (AV.i 2147483647)] (.b (s2)), (s0) = true, EvFr Try.prog cf Bool.false 17 [(AV.sl (List.length l) (List.flatMap Ce.cells l))] (.b (s3)), ((!s3)) = false, ((List.length (List.flatMap Ce.cells l)) = ((List.length l) * (34 : Nat))), ((List.length l) ≤ (4294967296 : Nat)), ((!s2)) = true, ((!s2)) = true, ((!s2)) = true, ((!s2)) = true, ((!s2)) = true, ((!s2)) = true, (((0 : Nat) = (0 : Nat)) ∧ ((List.length (List.flatMap Ce.cells l)) = ((List.length l) * (34 : Nat)))), Pl Bool.true ((List.flatMap Ce.cells l))]) kq ⟨((iWithin_ok (kind) ((0 : Int)) ((1 : Int)) _ h0).any.cast tq), h1, h1, ((iWithin_ok (gen) ((0 : Int)) ((2147483647 : Int)) _ h2).any.cast tq), h1, ((iCheck_ok (l) _ h3).any.cast tq), h4, h5, h6, h7, h7, h7, h7, h7, h7, h8, pq, trivial⟩ tq
theorem iFill_l2 (l : List Ce) (lba : Int) (n : Int) (kind : Int) (gen : Int) (s0 : Bool) (h0 : iWithin (kind) ((0 : Int)) ((1 : Int)) = some s0) (h1 : (s0) = true) (s2 : Bool) (h2 : iWithin (gen) ((0 : Int)) ((2147483647 : Int)) = some s2) (s3 : Bool) (h3 : iCheck (l) = some s3) (h4 : ((!s3)) = false) (h5 : ((List.length (List.flatMap Ce.cells l)) = ((List.length l) * (34 : Nat)))) (h6 : ((List.length l) ≤ (4294967296 : Nat))) (h7 : ((!s2)) = false) (s8 : Bool) (h8 : iWithin (lba) ((0 : Int)) ((↑(List.length l) : Int)) = some s8) (h9 : ((!s8)) = true) (h10 : (((0 : Nat) = (0 : Nat)) ∧ ((List.length (List.flatMap Ce.cells l)) = ((List.length l) * (34 : Nat))))) : iFill_G l lba n kind gen ((l, (81 : Int))) :=
  leafR vw_eq (k := 300) (r := []) (hs := hz [(10, [.fres (.b (s0))]), (1, [.yes]), (2, [.yes]), (1, [.fres (.b (s2)), .yes]), (6, [.fres (.b (s3))]), (1, [.no]), (2, [.yes, .yes]), (4, [.no]), (1, [.no]), (1, [.no]), (1, [.no]), (1, [.fres (.b (s8)), .no]), (1, [.no]), (1, [.yes, .yes, .yes, .yes, .yes, .yes, .yes, .yes]), (8, [.yes, .yes])]) (raw := (AV.tu [(AV.sl (List.length l) (List.flatMap Ce.cells l)), (AV.i 81)])) (ps := [EvFr Try.prog cf Bool.false 36 [(AV.i kind), (AV.i 0), (AV.i 1)] (.b (s0)), (s0) = true, (s0) = true, EvFr Try.prog cf Bool.false 36 [(AV.i gen), (AV.i 0), (AV.i 2147483647)] (.b (s2)), (s0) = true, EvFr Try.prog cf Bool.false 17 [(AV.sl (List.length l) (List.flatMap Ce.cells l))] (.b (s3)), ((!s3)) = false, ((List.length (List.flatMap Ce.cells l)) = ((List.length l) * (34 : Nat))), ((List.length l) ≤ (4294967296 : Nat)), ((!s2)) = false, ((!s2)) = false, ((!s2)) = false, ((!s2)) = false, EvFr Try.prog cf Bool.false 36 [(AV.i lba), (AV.i 0), (AV.i (↑(List.length l) : Int))] (.b (s8)), ((!s2)) = false, ((!s2)) = false, ((!s8)) = true, ((!s8)) = true, ((!s8)) = true, ((!s8)) = true, ((!s8)) = true, ((!s8)) = true, ((!s8)) = true, ((!s8)) = true, (((0 : Nat) = (0 : Nat)) ∧ ((List.length (List.flatMap Ce.cells l)) = ((List.length l) * (34 : Nat)))), Pl Bool.true ((List.flatMap Ce.cells l))]) kq ⟨((iWithin_ok (kind) ((0 : Int)) ((1 : Int)) _ h0).any.cast tq), h1, h1, ((iWithin_ok (gen) ((0 : Int)) ((2147483647 : Int)) _ h2).any.cast tq), h1, ((iCheck_ok (l) _ h3).any.cast tq), h4, h5, h6, h7, h7, h7, h7, ((iWithin_ok (lba) ((0 : Int)) ((↑(List.length l) : Int)) _ h8).any.cast tq), h7, h7, h9, h9, h9, h9, h9, h9, h9, h9, h10, pq, trivial⟩ tq
theorem iFill_l3 (l : List Ce) (lba : Int) (n : Int) (kind : Int) (gen : Int) (s0 : Bool) (h0 : iWithin (kind) ((0 : Int)) ((1 : Int)) = some s0) (h1 : (s0) = true) (s2 : Bool) (h2 : iWithin (gen) ((0 : Int)) ((2147483647 : Int)) = some s2) (s3 : Bool) (h3 : iCheck (l) = some s3) (h4 : ((!s3)) = false) (h5 : ((List.length (List.flatMap Ce.cells l)) = ((List.length l) * (34 : Nat)))) (h6 : ((List.length l) ≤ (4294967296 : Nat))) (h7 : ((!s2)) = false) (s8 : Bool) (h8 : iWithin (lba) ((0 : Int)) ((↑(List.length l) : Int)) = some s8) (h9 : ((!s8)) = false) (s10 : Bool) (h10 : iWithin (n) ((1 : Int)) ((wr ((↑(List.length l) : Int) - lba))) = some s10) (h11 : ((!s10)) = true) (h12 : (((0 : Nat) = (0 : Nat)) ∧ ((List.length (List.flatMap Ce.cells l)) = ((List.length l) * (34 : Nat))))) : iFill_G l lba n kind gen ((l, (81 : Int))) :=
  leafR vw_eq (k := 300) (r := []) (hs := hz [(10, [.fres (.b (s0))]), (1, [.yes]), (2, [.yes]), (1, [.fres (.b (s2)), .yes]), (6, [.fres (.b (s3))]), (1, [.no]), (2, [.yes, .yes]), (4, [.no]), (1, [.no]), (1, [.no]), (1, [.no]), (1, [.fres (.b (s8)), .no]), (1, [.no]), (1, [.no]), (1, [.no]), (1, [.no]), (1, [.no]), (1, [.no]), (1, [.no]), (1, [.fres (.b (s10)), .no]), (1, [.no, .yes]), (7, [.yes, .yes])]) (raw := (AV.tu [(AV.sl (List.length l) (List.flatMap Ce.cells l)), (AV.i 81)])) (ps := [EvFr Try.prog cf Bool.false 36 [(AV.i kind), (AV.i 0), (AV.i 1)] (.b (s0)), (s0) = true, (s0) = true, EvFr Try.prog cf Bool.false 36 [(AV.i gen), (AV.i 0), (AV.i 2147483647)] (.b (s2)), (s0) = true, EvFr Try.prog cf Bool.false 17 [(AV.sl (List.length l) (List.flatMap Ce.cells l))] (.b (s3)), ((!s3)) = false, ((List.length (List.flatMap Ce.cells l)) = ((List.length l) * (34 : Nat))), ((List.length l) ≤ (4294967296 : Nat)), ((!s2)) = false, ((!s2)) = false, ((!s2)) = false, ((!s2)) = false, EvFr Try.prog cf Bool.false 36 [(AV.i lba), (AV.i 0), (AV.i (↑(List.length l) : Int))] (.b (s8)), ((!s2)) = false, ((!s2)) = false, ((!s8)) = false, ((!s8)) = false, ((!s8)) = false, ((!s8)) = false, ((!s8)) = false, ((!s8)) = false, EvFr Try.prog cf Bool.false 36 [(AV.i n), (AV.i 1), (AV.i (wr ((↑(List.length l) : Int) - lba)))] (.b (s10)), ((!s8)) = false, ((!s8)) = false, ((!s10)) = true, (((0 : Nat) = (0 : Nat)) ∧ ((List.length (List.flatMap Ce.cells l)) = ((List.length l) * (34 : Nat)))), Pl Bool.true ((List.flatMap Ce.cells l))]) kq ⟨((iWithin_ok (kind) ((0 : Int)) ((1 : Int)) _ h0).any.cast tq), h1, h1, ((iWithin_ok (gen) ((0 : Int)) ((2147483647 : Int)) _ h2).any.cast tq), h1, ((iCheck_ok (l) _ h3).any.cast tq), h4, h5, h6, h7, h7, h7, h7, ((iWithin_ok (lba) ((0 : Int)) ((↑(List.length l) : Int)) _ h8).any.cast tq), h7, h7, h9, h9, h9, h9, h9, h9, ((iWithin_ok (n) ((1 : Int)) ((wr ((↑(List.length l) : Int) - lba))) _ h10).any.cast tq), h9, h9, h11, h12, pq, trivial⟩ tq
theorem iFill_l4 (l : List Ce) (lba : Int) (n : Int) (kind : Int) (gen : Int) (s0 : Bool) (h0 : iWithin (kind) ((0 : Int)) ((1 : Int)) = some s0) (h1 : (s0) = true) (s2 : Bool) (h2 : iWithin (gen) ((0 : Int)) ((2147483647 : Int)) = some s2) (s3 : Bool) (h3 : iCheck (l) = some s3) (h4 : ((!s3)) = false) (h5 : ((List.length (List.flatMap Ce.cells l)) = ((List.length l) * (34 : Nat)))) (h6 : ((List.length l) ≤ (4294967296 : Nat))) (h7 : ((!s2)) = false) (s8 : Bool) (h8 : iWithin (lba) ((0 : Int)) ((↑(List.length l) : Int)) = some s8) (h9 : ((!s8)) = false) (s10 : Bool) (h10 : iWithin (n) ((1 : Int)) ((wr ((↑(List.length l) : Int) - lba))) = some s10) (h11 : ((!s10)) = false) (s12 : Int × List Ce) (h12 : Runs (iFill_L0_step l lba n kind gen s0 s2 s3 s8 s10) (((0 : Int), l)) s12) (h13 : ((decide (s12.1 < n))) = false) (h13p : ¬ (s12.1 < n)) (h14 : (((0 : Nat) = (0 : Nat)) ∧ ((List.length (List.flatMap Ce.cells s12.2)) = ((List.length l) * (34 : Nat))))) : iFill_G l lba n kind gen ((s12.2, (0 : Int))) :=
  leafR vw_eq (k := 300) (r := []) (hs := hz [(10, [.fres (.b (s0))]), (1, [.yes]), (2, [.yes]), (1, [.fres (.b (s2)), .yes]), (6, [.fres (.b (s3))]), (1, [.no]), (2, [.yes, .yes]), (4, [.no]), (1, [.no]), (1, [.no]), (1, [.no]), (1, [.fres (.b (s8)), .no]), (1, [.no]), (1, [.no]), (1, [.no]), (1, [.no]), (1, [.no]), (1, [.no]), (1, [.no]), (1, [.fres (.b (s10)), .no]), (1, [.no, .no]), (2, [.head (iFill_L0_S l lba n kind gen s0 s2 s3 s8 s10 s12)]), (1, [.no]), (7, [.yes, .yes])]) (raw := (AV.tu [(AV.sl (List.length l) (List.flatMap Ce.cells s12.2)), (AV.i 0)])) (ps := [EvFr Try.prog cf Bool.false 36 [(AV.i kind), (AV.i 0), (AV.i 1)] (.b (s0)), (s0) = true, (s0) = true, EvFr Try.prog cf Bool.false 36 [(AV.i gen), (AV.i 0), (AV.i 2147483647)] (.b (s2)), (s0) = true, EvFr Try.prog cf Bool.false 17 [(AV.sl (List.length l) (List.flatMap Ce.cells l))] (.b (s3)), ((!s3)) = false, ((List.length (List.flatMap Ce.cells l)) = ((List.length l) * (34 : Nat))), ((List.length l) ≤ (4294967296 : Nat)), ((!s2)) = false, ((!s2)) = false, ((!s2)) = false, ((!s2)) = false, EvFr Try.prog cf Bool.false 36 [(AV.i lba), (AV.i 0), (AV.i (↑(List.length l) : Int))] (.b (s8)), ((!s2)) = false, ((!s2)) = false, ((!s8)) = false, ((!s8)) = false, ((!s8)) = false, ((!s8)) = false, ((!s8)) = false, ((!s8)) = false, EvFr Try.prog cf Bool.false 36 [(AV.i n), (AV.i 1), (AV.i (wr ((↑(List.length l) : Int) - lba)))] (.b (s10)), ((!s8)) = false, ((!s8)) = false, ((!s10)) = false, EvHead Try.prog cf (lp Try.prog 41 0) (iFill_L0_I l lba n kind gen s0 s2 s3 s8 s10) (iFill_L0_S l lba n kind gen s0 s2 s3 s8 s10 s12), ((decide (s12.1 < n))) = false, (((0 : Nat) = (0 : Nat)) ∧ ((List.length (List.flatMap Ce.cells s12.2)) = ((List.length l) * (34 : Nat)))), Pl Bool.true ((List.flatMap Ce.cells s12.2))]) kq ⟨((iWithin_ok (kind) ((0 : Int)) ((1 : Int)) _ h0).any.cast tq), h1, h1, ((iWithin_ok (gen) ((0 : Int)) ((2147483647 : Int)) _ h2).any.cast tq), h1, ((iCheck_ok (l) _ h3).any.cast tq), h4, h5, h6, h7, h7, h7, h7, ((iWithin_ok (lba) ((0 : Int)) ((↑(List.length l) : Int)) _ h8).any.cast tq), h7, h7, h9, h9, h9, h9, h9, h9, ((iWithin_ok (n) ((1 : Int)) ((wr ((↑(List.length l) : Int) - lba))) _ h10).any.cast tq), h9, h9, h11, (EvHead.of (iFill_L0_ok l lba n kind gen s0 s2 s3 s8 s10) (absB_of [] [] kq (.consn kq (.eqv tq rfl) (.consn kq (.eqv tq rfl) (.consn kq (.eqv tq rfl) (.consn kq (.eqv tq rfl) (.consn kq (.fn (.cons (.pt rfl) (.cons (.pt rfl) .nil))) (.consn kq .nl0 (.consn kq (.eqv tq rfl) (.consn kq (.eqv tq rfl) (.consn kq (.rf rfl) (.consn kq (.eqv tq rfl) (.consn kq (.eqv tq rfl) (.consn kq (.eqv tq rfl) .nil)))))))))))) (.cons (.old rfl rfl (.cells (.pl tq pq))) (.cons (.old rfl rfl (.cells (.cons (.eqv tq rfl) .nil))) (.cons (.old rfl rfl (.cells (.cons (.eqv tq rfl) .nil))) .nil)))) h12), h13, h14, pq, trivial⟩ tq
theorem iFill_l5 (l : List Ce) (lba : Int) (n : Int) (kind : Int) (gen : Int) (s0 : Bool) (h0 : iWithin (kind) ((0 : Int)) ((1 : Int)) = some s0) (h1 : (s0) = false) (s2 : Bool) (h2 : iCheck (l) = some s2) (h3 : ((!s2)) = true) : iFill_G l lba n kind gen ((([] : List Ce), (90 : Int))) :=
  leafR vw_eq (k := 300) (r := []) (hs := hz [(10, [.fres (.b (s0))]), (1, [.no, .no, .no]), (6, [.fres (.b (s2))]), (1, [.yes]), (6, [])]) (raw := (AV.tu [(AV.sl 0 ([] : List AV)), (AV.i 90)])) (ps := [EvFr Try.prog cf Bool.false 36 [(AV.i kind), (AV.i 0), (AV.i 1)] (.b (s0)), (s0) = false, (s0) = false, (s0) = false, EvFr Try.prog cf Bool.false 17 [(AV.sl (List.length l) (List.flatMap Ce.cells l))] (.b (s2)), ((!s2)) = true]) kq ⟨((iWithin_ok (kind) ((0 : Int)) ((1 : Int)) _ h0).any.cast tq), h1, h1, h1, ((iCheck_ok (l) _ h2).any.cast tq), h3, trivial⟩ tq
theorem iFill_l6 (l : List Ce) (lba : Int) (n : Int) (kind : Int) (gen : Int) (s0 : Bool) (h0 : iWithin (kind) ((0 : Int)) ((1 : Int)) = some s0) (h1 : (s0) = false) (s2 : Bool) (h2 : iCheck (l) = some s2) (h3 : ((!s2)) = false) (h4 : ((List.length (List.flatMap Ce.cells l)) = ((List.length l) * (34 : Nat)))) (h5 : ((List.length l) ≤ (4294967296 : Nat))) (h6 : (((0 : Nat) = (0 : Nat)) ∧ ((List.length (List.flatMap Ce.cells l)) = ((List.length l) * (34 : Nat))))) : iFill_G l lba n kind gen ((l, (81 : Int))) :=
  leafR vw_eq (k := 300) (r := []) (hs := hz [(10, [.fres (.b (s0))]), (1, [.no, .no, .no]), (6, [.fres (.b (s2))]), (1, [.no]), (2, [.yes, .yes]), (27, [.yes, .yes])]) (raw := (AV.tu [(AV.sl (List.length l) (List.flatMap Ce.cells l)), (AV.i 81)])) (ps := [EvFr Try.prog cf Bool.false 36 [(AV.i kind), (AV.i 0), (AV.i 1)] (.b (s0)), (s0) = false, (s0) = false, (s0) = false, EvFr Try.prog cf Bool.false 17 [(AV.sl (List.length l) (List.flatMap Ce.cells l))] (.b (s2)), ((!s2)) = false, ((List.length (List.flatMap Ce.cells l)) = ((List.length l) * (34 : Nat))), ((List.length l) ≤ (4294967296 : Nat)), (((0 : Nat) = (0 : Nat)) ∧ ((List.length (List.flatMap Ce.cells l)) = ((List.length l) * (34 : Nat)))), Pl Bool.true ((List.flatMap Ce.cells l))]) kq ⟨((iWithin_ok (kind) ((0 : Int)) ((1 : Int)) _ h0).any.cast tq), h1, h1, h1, ((iCheck_ok (l) _ h2).any.cast tq), h3, h4, h5, h6, pq, trivial⟩ tq
theorem iFill_ok (l : List Ce) (lba : Int) (n : Int) (kind : Int) (gen : Int) (r : List Ce × Int) : iFill l lba n kind gen = some r → iFill_G l lba n kind gen r := by
  unfold iFill
  refine tc_ok (fun s0 h0 => ?_)
  refine tb_ok (fun h1 => ?_) (fun h1 => ?_)
  ·
    refine tc_ok (fun s2 h2 => ?_)
    refine tc_ok (fun s3 h3 => ?_)
    refine tb_ok (fun h4 => ?_) (fun h4 => ?_)
    ·
      exact fun e => tl_ok (G := iFill_G l lba n kind gen) (iFill_l0 l lba n kind gen s0 h0 h1 s2 h2 s3 h3 h4) e
    ·
      refine tp_ok (fun h5 => ?_)
      refine tp_ok (fun h6 => ?_)
      refine tb_ok (fun h7 => ?_) (fun h7 => ?_)
      ·
        refine tp_ok (fun h8 => ?_)
        exact fun e => tl_ok (G := iFill_G l lba n kind gen) (iFill_l1 l lba n kind gen s0 h0 h1 s2 h2 s3 h3 h4 h5 h6 h7 h8) e
      ·
        refine tc_ok (fun s8 h8 => ?_)
        refine tb_ok (fun h9 => ?_) (fun h9 => ?_)
        ·
          refine tp_ok (fun h10 => ?_)
          exact fun e => tl_ok (G := iFill_G l lba n kind gen) (iFill_l2 l lba n kind gen s0 h0 h1 s2 h2 s3 h3 h4 h5 h6 h7 s8 h8 h9 h10) e
        ·
          refine tc_ok (fun s10 h10 => ?_)
          refine tb_ok (fun h11 => ?_) (fun h11 => ?_)
          ·
            refine tp_ok (fun h12 => ?_)
            exact fun e => tl_ok (G := iFill_G l lba n kind gen) (iFill_l3 l lba n kind gen s0 h0 h1 s2 h2 s3 h3 h4 h5 h6 h7 s8 h8 h9 s10 h10 h11 h12) e
          ·
            refine th_ok (fun s12 h12 => ?_)
            refine tb_ok (fun h13 => ?_) (fun h13 => ?_)
            ·
              have h13p := of_decide_eq_true h13
              exact fun e => nomatch e
            ·
              have h13p := of_decide_eq_false h13
              refine tp_ok (fun h14 => ?_)
              exact fun e => tl_ok (G := iFill_G l lba n kind gen) (iFill_l4 l lba n kind gen s0 h0 h1 s2 h2 s3 h3 h4 h5 h6 h7 s8 h8 h9 s10 h10 h11 s12 h12 h13 h13p h14) e
  ·
    refine tc_ok (fun s2 h2 => ?_)
    refine tb_ok (fun h3 => ?_) (fun h3 => ?_)
    ·
      exact fun e => tl_ok (G := iFill_G l lba n kind gen) (iFill_l5 l lba n kind gen s0 h0 h1 s2 h2 h3) e
    ·
      refine tp_ok (fun h4 => ?_)
      refine tp_ok (fun h5 => ?_)
      refine tp_ok (fun h6 => ?_)
      exact fun e => tl_ok (G := iFill_G l lba n kind gen) (iFill_l6 l lba n kind gen s0 h0 h1 s2 h2 h3 h4 h5 h6) e
end Ab
end Go.Proofs.Ytadipihpgcelmaa
namespace Go.Proofs.Ytadipihpgcelmaa
open Go Go.Proofs.Ytadipihpgcelmaa.Ab
set_option linter.unusedVariables false
set_option linter.unusedSimpArgs false
namespace Ab
/-- A loop that asks something of each place, with a state of its own. -/
theorem th_first {σ α : Type} {step : σ → Option σ} {f : σ → Option α} (r1 r2 : Option α) (S : Nat → σ) (n : Nat) (P : Nat → Prop) (Q : Prop) [Decidable Q] (hQ : (∀ i, i < n → P i) ↔ Q)
    (hs : ∀ i : Nat, i < n → (∀ j, j < i → P j) → P i → step (S i) = some (S (i + 1))) (hf : ∀ i : Nat, i < n → (∀ j, j < i → P j) → ¬ P i → step (S i) = none ∧ f (S i) = r1) (he : (∀ j, j < n → P j) → step (S n) = none ∧ f (S n) = r2) :
    th step (S 0) f = if Q then r2 else r1 := by
  by_cases h : ∀ i, i < n → P i
  · rw [if_pos (hQ.1 h), th_run (step := step) (f := f) S n (fun i hi => hs i hi (fun j hj => h j (by omega)) (h i hi)) (he h).1]
    exact (he h).2
  · rw [if_neg (fun g => h (hQ.2 g))]
    have hex : ∃ i, i < n ∧ ¬ P i := Classical.byContradiction fun hn => h fun i hi => Classical.byContradiction fun hp => hn ⟨i, hi, hp⟩
    have key : ∀ k, (∃ i, i < k ∧ i < n ∧ ¬ P i) → ∃ i, i < n ∧ ¬ P i ∧ ∀ j, j < i → P j := by
      intro k
      induction k with
      | zero => rintro ⟨i, hi, _⟩; omega
      | succ k ih =>
        rintro ⟨i, h1, h2, h3⟩
        by_cases hk : ∃ i, i < k ∧ i < n ∧ ¬ P i
        · exact ih hk
        · have hik : i = k := by
            rcases Nat.lt_or_ge i k with g | g
            · exact absurd ⟨i, g, h2, h3⟩ hk
            · omega
          refine ⟨i, h2, h3, fun j hj => ?_⟩
          exact Classical.byContradiction fun hp => hk ⟨j, by omega, by omega, hp⟩
    obtain ⟨i, h1, h2⟩ := hex
    obtain ⟨k, k1, k2, k3⟩ := key (i + 1) ⟨i, by omega, h1, h2⟩
    rw [th_run (step := step) (f := f) S k (fun i hi => hs i (by omega) (fun j hj => k3 j (by omega)) (k3 i hi)) (hf k k1 k3 k2).1]
    exact (hf k k1 k3 k2).2
/-- How many blocks extents are. -/
def sl : List Ex → Int
  | [] => 0
  | x :: l => x.len + sl l
theorem sl_append : ∀ a b : List Ex, sl (a ++ b) = sl a + sl b
  | [], b => by simp [sl]
  | x :: a, b => by simp only [List.cons_append, sl, sl_append a b]; omega
theorem sl_take (l : List Ex) (i : Nat) (h : i < l.length) : sl (l.take (i + 1)) = sl (l.take i) + (exAt l i).len := by
  rw [take_at ⟨0, 0, 0, 0, []⟩ l i h, sl_append]; simp [sl, exAt]
def MP (l : List Ex) (i : Nat) : Prop := Ck (exAt l i) ∧ (exAt l i).lba = sl (l.take i) ∧ (0 < i → ¬ Jn (exAt l (i - 1)) (exAt l i))
/-- Is it a map of so many blocks? -/
def Mk (blocks : Int) (l : List Ex) : Prop := l ≠ [] ∧ (∀ i, i < l.length → MP l i) ∧ sl l = blocks
instance (l : List Ex) (i : Nat) : Decidable (MP l i) := by unfold MP; infer_instance
instance (blocks : Int) (l : List Ex) : Decidable (Mk blocks l) := by unfold Mk; infer_instance
def mk (blocks : Int) (l : List Ex) : Bool := decide (Mk blocks l)
theorem mk_iff {blocks : Int} {l : List Ex} : mk blocks l = true ↔ Mk blocks l := decide_eq_true_iff
theorem mk_t {blocks : Int} {l : List Ex} (h : Mk blocks l) : mk blocks l = true := mk_iff.2 h
theorem mk_f {blocks : Int} {l : List Ex} (h : ¬ Mk blocks l) : mk blocks l = false := decide_eq_false_iff_not.2 h
theorem mp_bound {l : List Ex} {i : Nat} (hi : i ≤ l.length) (h : ∀ j, j < i → MP l j) : 0 ≤ sl (l.take i) ∧ sl (l.take i) ≤ 64 ∧ (0 < i → 1 ≤ sl (l.take i)) := by
  induction i with
  | zero => simp [sl]
  | succ i ih =>
    have h1 := ih (by omega) fun j hj => h j (by omega)
    have h2 := h i (by omega)
    have h3 := h2.1
    have h4 := h2.2.1
    unfold Ck at h3
    rw [sl_take l i (by omega)]
    omega
theorem mCheck_eq (blocks : Int) (l : List Ex) (hl : l.length ≤ 4294967296) : mCheck blocks l = some (mk blocks l) := by
  unfold mCheck
  have hstep : ∀ i : Nat, i < l.length → (∀ j, j < i → MP l j) → MP l i → mCheck_L0_step blocks l (sl (l.take i), (i : Int)) = some (sl (l.take (i + 1)), ((i + 1 : Nat) : Int)) := by
    intro i hi hpre hp
    have hb := mp_bound (by omega) hpre
    have hck := hp.1
    have hlba := hp.2.1
    unfold mCheck_L0_step
    simp only [tb_dec, tb_bne, tb_not, eCheck_eq, eJoins_eq, tc_some, Int.toNat_natCast]
    unfold Ck at hck
    rw [if_pos (by omega), tp_pos (by omega), ck_t hp.1, tb_t, if_pos hlba, sl_take l i hi, wr_id (x := sl (l.take i) + (exAt l i).len) (by omega) (by omega), wr_id (x := (i : Int) + 1) (by omega) (by omega)]
    have e1 : ((i + 1 : Nat) : Int) = (i : Int) + 1 := by omega
    rw [e1]
    by_cases h0 : (i : Int) > 0
    · rw [if_pos h0, wr_id (x := (i : Int) - 1) (by omega) (by omega), tp_pos (by omega), show ((i : Int) - 1).toNat = i - 1 by omega, jn_f (hp.2.2 (by omega)), tb_f]
    · rw [if_neg h0]
  have := th_first (step := mCheck_L0_step blocks l) (some false) (if l ≠ [] ∧ sl l = blocks then some true else some false) (fun i => (sl (l.take i), (i : Int))) l.length (MP l) (∀ i, i < l.length → MP l i) Iff.rfl hstep (f := fun s0 =>
    tb (decide (s0.2 < (l.length : Int))) (tp ((0 : Int) ≤ s0.2 ∧ s0.2 < (l.length : Int)) (tc (eCheck (exAt l s0.2.toNat)) fun s3 => tb (!s3) (some false) (tb ((exAt l s0.2.toNat).lba != s0.1) (some false) (tb (decide (s0.2 > 0)) (tp ((0 : Int) ≤ wr (s0.2 - 1) ∧ wr (s0.2 - 1) < (l.length : Int)) (tc (eJoins (exAt l (wr (s0.2 - 1)).toNat) (exAt l s0.2.toNat)) fun s8 => tb s8 (some false) none)) none))))
      (tb (decide ((l.length : Int) > 0)) (some (s0.1 == blocks)) (some false))) ?_ ?_
  · simp only [List.take_zero, sl, Int.natCast_zero] at this
    rw [this]
    by_cases hall : ∀ i, i < l.length → MP l i
    · rw [if_pos hall]
      by_cases h : l ≠ [] ∧ sl l = blocks
      · rw [if_pos h, mk_t ⟨h.1, hall, h.2⟩]
      · rw [if_neg h, mk_f fun g => h ⟨g.1, g.2.2⟩]
    · rw [if_neg hall, mk_f fun g => hall g.2.1]
  · intro i hi hpre hp
    have hb := mp_bound (by omega) hpre
    unfold mCheck_L0_step
    simp only [tb_dec, tb_bne, tb_not, eCheck_eq, eJoins_eq, tc_some, Int.toNat_natCast]
    by_cases hck : Ck (exAt l i)
    case neg => refine ⟨?_, ?_⟩ <;> (rw [if_pos (by omega), tp_pos (by omega), ck_f hck]; rfl)
    by_cases hlba : (exAt l i).lba = sl (l.take i)
    case neg => refine ⟨?_, ?_⟩ <;> (rw [if_pos (by omega), tp_pos (by omega), ck_t hck, tb_t, if_neg hlba])
    have hj : 0 < i ∧ Jn (exAt l (i - 1)) (exAt l i) := by
      refine ⟨?_, ?_⟩
      · rcases Nat.eq_zero_or_pos i with h | h
        · subst h; exact absurd ⟨hck, hlba, fun h => by omega⟩ hp
        · exact h
      · exact Classical.byContradiction fun h => hp ⟨hck, hlba, fun _ => h⟩
    refine ⟨?_, ?_⟩ <;> (rw [if_pos (by omega), tp_pos (by omega), ck_t hck, tb_t, if_pos hlba, if_pos (by omega), wr_id (x := (i : Int) - 1) (by omega) (by omega), tp_pos (by omega), show ((i : Int) - 1).toNat = i - 1 by omega, jn_t hj.2]; rfl)
  · intro hall
    unfold mCheck_L0_step
    simp only [tb_dec]
    rw [if_neg (by omega), if_neg (by omega)]
    refine ⟨rfl, ?_⟩
    rw [List.take_length]
    by_cases h0 : l = []
    · subst h0; simp
    · have : 0 < l.length := List.length_pos_iff.2 h0
      rw [if_pos (by omega)]
      by_cases hb : sl l = blocks
      · rw [if_pos ⟨h0, hb⟩, hb]; simp
      · rw [if_neg (fun h => hb h.2)]; simp [hb]
theorem mk_blocks {blocks : Int} {l : List Ex} (h : Mk blocks l) : 1 ≤ blocks ∧ blocks ≤ 64 := by
  have hb := mp_bound (Nat.le_refl _) h.2.1
  rw [List.take_length, h.2.2] at hb
  have := List.length_pos_iff.2 h.1
  omega
end Ab
end Go.Proofs.Ytadipihpgcelmaa
namespace Go.Proofs.Ytadipihpgcelmaa
open Go Go.Proofs.Ytadipihpgcelmaa.Ab
set_option linter.unusedVariables false
set_option linter.unusedSimpArgs false
namespace Ab
/-- The part of an extent within so many blocks, if there is one. -/
def Cu (x : Ex) (lba n : Int) : Prop := Ck x ∧ 0 ≤ lba ∧ lba ≤ 64 ∧ 0 ≤ n ∧ n ≤ 64 ∧ max x.lba lba < min (x.lba + x.len) (lba + n)
instance (x : Ex) (lba n : Int) : Decidable (Cu x lba n) := by unfold Cu; infer_instance
def cu (x : Ex) (lba n : Int) : Ex :=
  ⟨max x.lba lba, min (x.lba + x.len) (lba + n) - max x.lba lba, x.kind, x.gen, if x.kind = 2 then (x.d.drop (32 * (max x.lba lba - x.lba)).toNat).take (32 * (min (x.lba + x.len) (lba + n) - max x.lba lba)).toNat else []⟩
def e0 : Ex := ⟨0, 0, 0, 0, []⟩
def cut (x : Ex) (lba n : Int) : Option Ex := if Cu x lba n then some (cu x lba n) else none
def cutv (x : Ex) (lba n : Int) : Ex × Bool := if Cu x lba n then (cu x lba n, true) else (e0, false)
theorem cut_pos {x : Ex} {lba n : Int} (h : Cu x lba n) : cut x lba n = some (cu x lba n) := if_pos h
theorem cut_neg {x : Ex} {lba n : Int} (h : ¬ Cu x lba n) : cut x lba n = none := if_neg h
theorem cutv_pos {x : Ex} {lba n : Int} (h : Cu x lba n) : cutv x lba n = (cu x lba n, true) := if_pos h
theorem cutv_neg {x : Ex} {lba n : Int} (h : ¬ Cu x lba n) : cutv x lba n = (e0, false) := if_neg h
theorem dslice (d : List UInt8) (x f t : Int) (h1 : 0 ≤ x) (h2 : x ≤ f) (h3 : f ≤ t) (h4 : t ≤ 64) (hd : 32 * (t - x) ≤ d.length) :
    List.take (((32 * (t - x)).toNat - (32 * (f - x)).toNat) * 1) (List.take (((32 * (t - x)).toNat - (32 * (f - x)).toNat) * 1) (List.drop ((32 * (f - x)).toNat * 1) d)) = (d.drop (32 * (f - x)).toNat).take (32 * (t - f)).toNat := by
  rw [Nat.mul_one, Nat.mul_one, List.take_take, Nat.min_self, show (32 * (t - x)).toNat - (32 * (f - x)).toNat = (32 * (t - f)).toNat by omega]
theorem eCut_eq (x : Ex) (lba n : Int) : eCut x lba n = some (cutv x lba n) := by
  unfold eCut
  simp only [eCheck_eq, tc_some, tb_not, tb_dec, tb_beq, imin_eq, imax_eq]
  by_cases hc : Ck x
  case neg => rw [ck_f hc, tb_f]; unfold cutv; rw [if_neg fun h => hc h.1]; rfl
  rw [ck_t hc, tb_t]
  by_cases h1 : lba ≥ 0
  case neg => rw [if_neg h1]; unfold cutv; rw [if_neg fun h => h1 h.2.1]; rfl
  by_cases h2 : lba ≤ 64
  case neg => rw [if_pos h1, if_neg h2]; unfold cutv; rw [if_neg fun h => h2 h.2.2.1]; rfl
  by_cases h3 : n ≥ 0
  case neg => rw [if_pos h1, if_pos h2, if_neg h3]; unfold cutv; rw [if_neg fun h => h3 h.2.2.2.1]; rfl
  by_cases h4 : n ≤ 64
  case neg => rw [if_pos h1, if_pos h2, if_pos h3, if_neg h4]; unfold cutv; rw [if_neg fun h => h4 h.2.2.2.2.1]; rfl
  have hcc := hc
  unfold Ck at hcc
  rw [if_pos h1, if_pos h2, if_pos h3, if_pos h4, wr_id (x := x.lba + x.len) (by omega) (by omega), wr_id (x := lba + n) (by omega) (by omega)]
  have hf1 : x.lba ≤ max x.lba lba := by omega
  have hf2 : max x.lba lba ≤ 64 := by omega
  have ht1 : min (x.lba + x.len) (lba + n) ≤ x.lba + x.len := by omega
  have hcu : (Cu x lba n) ↔ max x.lba lba < min (x.lba + x.len) (lba + n) := ⟨fun h => h.2.2.2.2.2, fun h => ⟨hc, h1, h2, h3, h4, h⟩⟩
  unfold cutv
  simp only [hcu]
  unfold cu
  generalize max x.lba lba = f at hf1 hf2 ⊢
  generalize min (x.lba + x.len) (lba + n) = t at ht1 ⊢
  by_cases h5 : f ≥ t
  · rw [if_pos h5, if_neg (show ¬ f < t by omega)]; rfl
  rw [if_neg h5, if_pos (show f < t by omega)]
  have w1 : wr (f - x.lba) = f - x.lba := wr_id (by omega) (by omega)
  have w2 : wr (t - x.lba) = t - x.lba := wr_id (by omega) (by omega)
  have w3 : wr (t - f) = t - f := wr_id (by omega) (by omega)
  have w4 : wr ((f - x.lba) * 32) = 32 * (f - x.lba) := by rw [wr_id (by omega) (by omega)]; omega
  have w5 : wr ((t - x.lba) * 32) = 32 * (t - x.lba) := by rw [wr_id (by omega) (by omega)]; omega
  rw [w1, w2, w3, w4, w5]
  by_cases hk : x.kind = 2
  · have hd := hcc.2.2.2.2.2.2.2.2.1 hk
    rw [if_pos hk, if_pos hk, tp_pos (by omega), tp_pos (by omega), tp_pos (by rw [List.length_map]; omega), tp_pos (by omega), dslice _ _ _ _ (by omega) (by omega) (by omega) (by omega) (by omega)]
  · rw [if_neg hk, if_neg hk]
/-- A loop that gathers. -/
theorem th_gath {σ α : Type} {step : σ × Int → Option (σ × Int)} {f : σ × Int → Option α} (A : Nat → σ) (n : Nat) (hs : ∀ i : Nat, i < n → step (A i, (i : Int)) = some (A (i + 1), (i : Int) + 1)) (he : step (A n, (n : Int)) = none) : th step (A 0, 0) f = f (A n, (n : Int)) := by
  have := th_run (step := step) (f := f) (fun i => (A i, (i : Int))) n (fun i hi => by rw [hs i hi]; simp) he
  simpa using this
def Ro (blocks lba n : Int) : Prop := 0 ≤ lba ∧ lba ≤ blocks ∧ 1 ≤ n ∧ n ≤ blocks - lba
instance (blocks lba n : Int) : Decidable (Ro blocks lba n) := by unfold Ro; infer_instance
theorem ex_take1 (l : List Ex) (i : Nat) (hi : i < l.length) : l.take (i + 1) = l.take i ++ [exAt l i] := by unfold exAt; exact take_at _ l i hi
end Ab
end Go.Proofs.Ytadipihpgcelmaa
namespace Go.Proofs.Ytadipihpgcelmaa
open Go Go.Proofs.Ytadipihpgcelmaa.Ab
set_option linter.unusedVariables false
set_option linter.unusedSimpArgs false
namespace Ab
def jnx (a b : Ex) : Ex := ⟨a.lba, a.len + b.len, a.kind, a.gen, a.d ++ b.d⟩
def jnv (a b : Ex) : Ex × Int := if Jn a b then (jnx a b, 0) else (⟨0, 0, 0, 0, []⟩, 70)
theorem ck_dlen {x : Ex} (h : Ck x) : x.d.length ≤ 2048 := by
  unfold Ck at h
  by_cases hk : x.kind = 2
  · have := h.2.2.2.2.2.2.2.2.1 hk; omega
  · have := h.2.2.2.2.2.2.2.2.2 hk; rw [this]; simp
theorem eJoin_eq (a b : Ex) : eJoin a b = some (jnv a b) := by
  unfold eJoin jnv
  rw [eJoins_eq, tc_some, tb_not]
  by_cases h : Jn a b
  case neg => rw [jn_f h, tb_f, if_neg h]
  have ha := ck_dlen h.1
  have hb := ck_dlen h.2.1
  have ca := h.1
  have cb := h.2.1
  unfold Ck at ca cb
  rw [jn_t h, tb_t, if_pos h, wr_id (by omega) (by omega), tp_pos (by omega), tp_pos (by rw [List.length_map]; omega)]
  rfl
/-- Behind others: joined with the last one, if it goes on it. -/
def add (out : List Ex) (y : Ex) : List Ex := if out ≠ [] ∧ Jn (out.getLastD ⟨0, 0, 0, 0, []⟩) y then out.dropLast ++ [jnx (out.getLastD ⟨0, 0, 0, 0, []⟩) y] else out ++ [y]
theorem add_len (out : List Ex) (y : Ex) : (add out y).length ≤ out.length + 1 := by
  unfold add
  split
  · first | (simp; done) | (simp; omega)
  · simp
theorem adds_len : ∀ (ys out : List Ex), (ys.foldl add out).length ≤ out.length + ys.length
  | [], out => by simp
  | y :: ys, out => by
    have := adds_len ys (add out y)
    have := add_len out y
    simp only [List.foldl_cons, List.length_cons]; omega
theorem last_at (out : List Ex) (h : out ≠ []) (k : Nat) (hk : k = out.length - 1) : exAt out k = out.getLastD ⟨0, 0, 0, 0, []⟩ := by
  subst hk
  have : 0 < out.length := List.length_pos_iff.2 h
  unfold exAt
  rw [List.getD_eq_getElem?_getD, List.getLastD_eq_getLast?, List.getLast?_eq_getElem?]
theorem set_last_ex (out : List Ex) (h : out ≠ []) (k : Nat) (hk : k = out.length - 1) (v : Ex) : out.set k v = out.dropLast ++ [v] := by
  subst hk
  have e : out = out.dropLast ++ [out.getLast h] := (List.dropLast_concat_getLast h).symm
  have hl : out.length - 1 = out.dropLast.length := by simp
  rw [hl]
  conv => lhs; rw [e]
  rw [List.set_append_right _ _ (by simp)]
  simp
end Ab
end Go.Proofs.Ytadipihpgcelmaa
namespace Go.Proofs.Ytadipihpgcelmaa
open Go Go.Proofs.Ytadipihpgcelmaa.Ab
set_option linter.unusedVariables false
set_option linter.unusedSimpArgs false
namespace Ab
/-- Extents one behind the other, from a block on, none of which goes on the one before it. -/
def CH : Int → List Ex → Prop
  | _, [] => True
  | s, x :: l => Ck x ∧ x.lba = s ∧ (∀ y, l.head? = some y → ¬ Jn x y) ∧ CH (s + x.len) l
theorem mk_ch {blocks : Int} {l : List Ex} (h : Mk blocks l) : CH 0 l := by
  have key : ∀ j, j ≤ l.length → CH (sl (l.take (l.length - j))) (l.drop (l.length - j)) := by
    intro j
    induction j with
    | zero => intro _; rw [Nat.sub_zero, List.drop_length]; trivial
    | succ j ih =>
      intro hj
      have hi : l.length - (j + 1) < l.length := by omega
      have hm := h.2.1 (l.length - (j + 1)) hi
      have e : l.drop (l.length - (j + 1)) = exAt l (l.length - (j + 1)) :: l.drop (l.length - (j + 1) + 1) := by unfold exAt; exact drop_at _ l _ hi
      rw [e]
      have hs := sl_take l (l.length - (j + 1)) hi
      have e2 : l.length - (j + 1) + 1 = l.length - j := by omega
      rw [e2] at hs ⊢
      refine ⟨hm.1, hm.2.1, fun y hy => ?_, by rw [← hs]; exact ih (by omega)⟩
      have hy2 : l.length - j < l.length ∧ y = exAt l (l.length - j) := by
        rw [List.head?_drop] at hy
        obtain ⟨g, e3⟩ := List.getElem?_eq_some_iff.1 hy
        exact ⟨g, by unfold exAt; simp [g, e3]⟩
      have hm2 := (h.2.1 (l.length - j) hy2.1).2.2 (by omega)
      rw [show l.length - j - 1 = l.length - (j + 1) by omega, ← hy2.2] at hm2
      exact hm2
  have := key l.length (Nat.le_refl _)
  simpa [sl] using this
theorem ch_ck : ∀ {l : List Ex} {s : Int}, CH s l → ∀ z ∈ l, Ck z ∧ s ≤ z.lba
  | [], _, _, z, hz => by cases hz
  | x :: l, s, h, z, hz => by
    have hc := h.1
    unfold Ck at hc
    rcases List.mem_cons.1 hz with e | e
    · subst e; exact ⟨h.1, by have := h.2.1; omega⟩
    · have := ch_ck h.2.2.2 z e
      exact ⟨this.1, by omega⟩
theorem cu_ck {x : Ex} {lo n : Int} (h : Cu x lo n) : Ck (cu x lo n) := by
  obtain ⟨c1, c2, c3, c4, c5, c6⟩ := h
  unfold Ck at c1
  refine ⟨by simp only [cu]; omega, by simp only [cu]; omega, by simp only [cu]; omega, by simp only [cu]; omega, by simp only [cu]; omega, by simp only [cu]; omega, by simp only [cu]; omega, by simp only [cu]; omega, fun hk => ?_, fun hk => ?_⟩
  · have hk : x.kind = 2 := hk
    have := c1.2.2.2.2.2.2.2.2.1 hk
    simp only [cu, if_pos hk, List.length_take, List.length_drop]; omega
  · have hk : ¬ x.kind = 2 := hk
    simp only [cu, if_neg hk]
end Ab
end Go.Proofs.Ytadipihpgcelmaa
namespace Go.Proofs.Ytadipihpgcelmaa
open Go Go.Proofs.Ytadipihpgcelmaa.Ab
set_option linter.unusedVariables false
set_option linter.unusedSimpArgs false
namespace Ab
/-- A block of an extent. -/
def bAt (x : Ex) (k : Int) : Int × Int × List UInt8 := (x.kind, x.gen, (x.d.drop (32 * (k - x.lba)).toNat).take 32)
/-- An extent holds at a block so much. -/
def Cv (x : Ex) (k : Int) (c : Int × Int × List UInt8) : Prop := x.lba ≤ k ∧ k < x.lba + x.len ∧ c = bAt x k
def Den (l : List Ex) (k : Int) (c : Int × Int × List UInt8) : Prop := ∃ x ∈ l, Cv x k c
theorem den_nil {k : Int} {c : Int × Int × List UInt8} : ¬ Den [] k c := fun ⟨x, hx, _⟩ => by cases hx
theorem den_cons {x : Ex} {l : List Ex} {k : Int} {c : Int × Int × List UInt8} : Den (x :: l) k c ↔ Cv x k c ∨ Den l k c := by
  unfold Den; simp
theorem den_app {a b : List Ex} {k : Int} {c : Int × Int × List UInt8} : Den (a ++ b) k c ↔ Den a k c ∨ Den b k c := by
  unfold Den
  constructor
  · rintro ⟨x, hx, h⟩
    rcases List.mem_append.1 hx with e | e
    · exact .inl ⟨x, e, h⟩
    · exact .inr ⟨x, e, h⟩
  · rintro (⟨x, hx, h⟩ | ⟨x, hx, h⟩)
    · exact ⟨x, List.mem_append.2 (.inl hx), h⟩
    · exact ⟨x, List.mem_append.2 (.inr hx), h⟩
theorem den_one {x : Ex} {k : Int} {c : Int × Int × List UInt8} : Den [x] k c ↔ Cv x k c := by
  rw [den_cons]; exact or_iff_left den_nil
theorem ck_pos {x : Ex} (h : Ck x) : 0 ≤ x.lba ∧ x.lba ≤ 64 ∧ 1 ≤ x.len ∧ x.lba + x.len ≤ 64 := by
  unfold Ck at h; omega
theorem ck_d2 {x : Ex} (h : Ck x) (hk : x.kind = 2) : (x.d.length : Int) = 32 * x.len := by
  unfold Ck at h; exact h.2.2.2.2.2.2.2.2.1 hk
theorem ck_d0 {x : Ex} (h : Ck x) (hk : x.kind ≠ 2) : x.d = [] := by
  unfold Ck at h; exact h.2.2.2.2.2.2.2.2.2 hk
/-- A part holds what the whole holds there. -/
theorem bAt_cu {x : Ex} {lo n k : Int} (h : Ck x) (h1 : max x.lba lo ≤ k) (h2 : k < min (x.lba + x.len) (lo + n)) : bAt (cu x lo n) k = bAt x k := by
  have hp := ck_pos h
  simp only [bAt, cu, Prod.mk.injEq, true_and]
  split
  · rename_i hk
    have e : (32 * (k - x.lba)).toNat = (32 * (max x.lba lo - x.lba)).toNat + (32 * (k - max x.lba lo)).toNat := by omega
    rw [e, ← List.drop_drop, List.drop_take, List.take_take]
    congr 1
    omega
  · rename_i hk
    rw [ck_d0 h hk]; simp
theorem cv_cut {x : Ex} {lo n k : Int} {c : Int × Int × List UInt8} (h : Ck x) (h1 : 0 ≤ lo ∧ lo ≤ 64) (h2 : 0 ≤ n ∧ n ≤ 64) : Den (cut x lo n).toList k c ↔ lo ≤ k ∧ k < lo + n ∧ Cv x k c := by
  by_cases g : Cu x lo n
  · rw [cut_pos g]
    show Den [cu x lo n] k c ↔ _
    rw [den_one]
    unfold Cv
    have e1 : (cu x lo n).lba = max x.lba lo := rfl
    have e2 : (cu x lo n).len = min (x.lba + x.len) (lo + n) - max x.lba lo := rfl
    rw [e1, e2]
    constructor
    · rintro ⟨a, b, e⟩
      rw [bAt_cu h (by omega) (by omega)] at e
      exact ⟨by omega, by omega, by omega, by omega, e⟩
    · rintro ⟨a, b, c1, c2, e⟩
      exact ⟨by omega, by omega, by rw [bAt_cu h (by omega) (by omega)]; exact e⟩
  · rw [cut_neg g]
    refine ⟨fun hd => absurd hd den_nil, fun ⟨a, b, c1, c2, e⟩ => absurd ?_ g⟩
    exact ⟨h, by omega, by omega, by omega, by omega, by omega⟩
theorem ck_jnx {a b : Ex} (h : Jn a b) : Ck (jnx a b) := by
  obtain ⟨ha, hb, h1, h2, h3⟩ := h
  have pa := ck_pos ha
  have pb := ck_pos hb
  have ca := ha
  unfold Ck at ca
  refine ⟨by simp only [jnx]; omega, by simp only [jnx]; omega, by simp only [jnx]; omega, by simp only [jnx]; omega, by simp only [jnx]; omega, by simp only [jnx]; omega, by simp only [jnx]; omega, by simp only [jnx]; omega, fun hk => ?_, fun hk => ?_⟩
  · have hk : a.kind = 2 := hk
    have e1 := ck_d2 ha hk
    have e2 := ck_d2 hb (h2 ▸ hk)
    simp only [jnx, List.length_append]; omega
  · have hk : a.kind ≠ 2 := hk
    simp only [jnx, ck_d0 ha hk, ck_d0 hb (h2 ▸ hk), List.append_nil]
theorem cv_jnx {a b : Ex} (h : Jn a b) {k : Int} {c : Int × Int × List UInt8} : Cv (jnx a b) k c ↔ Cv a k c ∨ Cv b k c := by
  obtain ⟨ha, hb, h1, h2, h3⟩ := h
  have pa := ck_pos ha
  have pb := ck_pos hb
  have e0 : (jnx a b).lba = a.lba := rfl
  have e1 : (jnx a b).len = a.len + b.len := rfl
  have k1 : ∀ k, a.lba ≤ k → k < a.lba + a.len → bAt (jnx a b) k = bAt a k := by
    intro k g1 g2
    simp only [bAt, jnx, Prod.mk.injEq, true_and]
    by_cases hk : a.kind = 2
    · have d1 := ck_d2 ha hk
      rw [List.drop_append_of_le_length (by omega), List.take_append_of_le_length (by rw [List.length_drop]; omega)]
    · rw [ck_d0 ha hk, ck_d0 hb (h2 ▸ hk)]; rfl
  have k2 : ∀ k, b.lba ≤ k → k < b.lba + b.len → bAt (jnx a b) k = bAt b k := by
    intro k g1 g2
    simp only [bAt, jnx, Prod.mk.injEq]
    refine ⟨h2, h3, ?_⟩
    by_cases hk : a.kind = 2
    · have d1 := ck_d2 ha hk
      have e : (32 * (k - a.lba)).toNat = a.d.length + (32 * (k - b.lba)).toNat := by omega
      rw [e, ← List.drop_drop, List.drop_left]
    · rw [ck_d0 ha hk, ck_d0 hb (h2 ▸ hk)]; simp
  unfold Cv
  rw [e0, e1]
  constructor
  · rintro ⟨g1, g2, e⟩
    by_cases g : k < a.lba + a.len
    · exact .inl ⟨g1, g, by rw [← k1 k g1 g]; exact e⟩
    · exact .inr ⟨by omega, by omega, by rw [← k2 k (by omega) (by omega)]; exact e⟩
  · rintro (⟨g1, g2, e⟩ | ⟨g1, g2, e⟩)
    · exact ⟨by omega, by omega, by rw [k1 k g1 g2]; exact e⟩
    · exact ⟨by omega, by omega, by rw [k2 k g1 g2]; exact e⟩
theorem snoc_of {out : List Ex} (h : out ≠ []) : out = out.dropLast ++ [out.getLastD ⟨0, 0, 0, 0, []⟩] := by
  have e : out = out.dropLast ++ [out.getLast h] := (List.dropLast_concat_getLast h).symm
  have e2 : out.getLastD ⟨0, 0, 0, 0, []⟩ = out.getLast h := (congrArg (fun l => List.getLastD l ⟨0, 0, 0, 0, []⟩) e).trans (by simp)
  rw [e2]; exact e
theorem den_add {out : List Ex} {y : Ex} {k : Int} {c : Int × Int × List UInt8} : Den (add out y) k c ↔ Den out k c ∨ Cv y k c := by
  unfold add
  by_cases h : out ≠ [] ∧ Jn (out.getLastD ⟨0, 0, 0, 0, []⟩) y
  · rw [if_pos h]
    have e := snoc_of h.1
    generalize out.getLastD ⟨0, 0, 0, 0, []⟩ = a at h e ⊢
    generalize out.dropLast = o at e ⊢
    rw [e, den_app, den_app, den_one, den_one, cv_jnx h.2, or_assoc]
  · rw [if_neg h, den_app, den_one]
theorem den_adds : ∀ (ys out : List Ex) {k : Int} {c : Int × Int × List UInt8}, Den (ys.foldl add out) k c ↔ Den out k c ∨ Den ys k c
  | [], out, k, c => by simp only [List.foldl_nil]; exact (or_iff_left den_nil).symm
  | y :: ys, out, k, c => by rw [List.foldl_cons, den_adds ys, den_add, den_cons, or_assoc]
theorem ch_snoc : ∀ (o : List Ex) (s : Int) (y : Ex), CH s (o ++ [y]) ↔ CH s o ∧ Ck y ∧ y.lba = s + sl o ∧ (∀ a, o.getLast? = some a → ¬ Jn a y)
  | [], s, y => by simp [CH, sl]
  | x :: o, s, y => by
    have ih := ch_snoc o (s + x.len) y
    rw [List.cons_append]
    unfold CH
    rw [ih]
    cases o with
    | nil =>
      simp only [List.nil_append, List.head?_cons, List.head?_nil, Option.some.injEq, forall_eq', List.getLast?_singleton, List.getLast?_nil, CH, sl]
      constructor
      · rintro ⟨a, b, d, e, f, g, _⟩
        exact ⟨⟨a, b, (by intro y h; cases h), trivial⟩, f, by omega, d⟩
      · rintro ⟨⟨a, b, _, _⟩, f, g, d⟩
        exact ⟨a, b, d, trivial, f, by omega, (by intro a h; cases h)⟩
    | cons z o =>
      simp only [List.cons_append, List.head?_cons, Option.some.injEq, forall_eq', List.getLast?_cons_cons, sl]
      constructor
      · rintro ⟨a, b, d, e, f, g, i⟩
        exact ⟨⟨a, b, d, e⟩, f, by omega, i⟩
      · rintro ⟨⟨a, b, d, e⟩, f, g, i⟩
        exact ⟨a, b, d, e, f, by omega, i⟩
theorem ch_add {s : Int} {out : List Ex} {y : Ex} (h : CH s out) (hy : Ck y) (hl : y.lba = s + sl out) : CH s (add out y) ∧ sl (add out y) = sl out + y.len := by
  unfold add
  by_cases g : out ≠ [] ∧ Jn (out.getLastD ⟨0, 0, 0, 0, []⟩) y
  · rw [if_pos g]
    have e := snoc_of g.1
    generalize out.getLastD ⟨0, 0, 0, 0, []⟩ = a at g e ⊢
    generalize out.dropLast = o at e ⊢
    rw [e] at h hl ⊢
    obtain ⟨c1, c2, c3, c4⟩ := (ch_snoc o s a).1 h
    refine ⟨(ch_snoc o s _).2 ⟨c1, ck_jnx g.2, c3, fun b hb hj => c4 b hb ⟨hj.1, c2, hj.2.2.1, hj.2.2.2.1, hj.2.2.2.2⟩⟩, ?_⟩
    rw [sl_append, sl_append]
    simp only [sl, jnx]; omega
  · rw [if_neg g]
    refine ⟨(ch_snoc out s y).2 ⟨h, hy, hl, fun a ha hj => g ⟨?_, ?_⟩⟩, ?_⟩
    · intro e0; rw [e0] at ha; cases ha
    · rw [List.getLastD_eq_getLast?, ha]; exact hj
    · rw [sl_append]; simp only [sl]; omega
/-- Extents one behind the other, from a block to a block. -/
def Cg : Int → List Ex → Int → Prop
  | s, [], e => s = e
  | s, p :: ps, e => Ck p ∧ p.lba = s ∧ Cg (s + p.len) ps e
theorem cg_app : ∀ (a b : List Ex) {s m e : Int}, Cg s a m → Cg m b e → Cg s (a ++ b) e
  | [], b, s, m, e, h1, h2 => by rw [show s = m from h1]; exact h2
  | x :: a, b, s, m, e, h1, h2 => ⟨h1.1, h1.2.1, cg_app a b h1.2.2 h2⟩
theorem ch_adds : ∀ (ps out : List Ex) {e : Int}, CH 0 out → Cg (sl out) ps e → CH 0 (ps.foldl add out) ∧ sl (ps.foldl add out) = e
  | [], out, e, h, hg => ⟨h, hg⟩
  | p :: ps, out, e, h, hg => by
    obtain ⟨a, b⟩ := ch_add h hg.1 (by rw [Int.zero_add]; exact hg.2.1)
    rw [List.foldl_cons]
    exact ch_adds ps _ a (by rw [b]; exact hg.2.2)
theorem ch_cg : ∀ {l : List Ex} {s : Int}, CH s l → Cg s l (s + sl l)
  | [], s, _ => by simp [Cg, sl]
  | x :: l, s, h => ⟨h.1, h.2.1, by rw [show s + sl (x :: l) = s + x.len + sl l by simp only [sl]; omega]; exact ch_cg h.2.2.2⟩
theorem den_ge {l : List Ex} {s : Int} (h : CH s l) {k : Int} {c : Int × Int × List UInt8} (hd : Den l k c) : s ≤ k := by
  obtain ⟨x, hx, hc⟩ := hd
  have := (ch_ck h x hx).2
  have := hc.1
  omega
theorem d_ext {x y : Ex} (hx : Ck x) (hy : Ck y) (hb : x.lba = y.lba) (hl : x.len = y.len) (h : ∀ k, x.lba ≤ k → k < x.lba + x.len → bAt x k = bAt y k) : x = y := by
  have px := ck_pos hx
  have h0 := h x.lba (by omega) (by omega)
  simp only [bAt, Prod.mk.injEq] at h0
  have hd : x.d = y.d := by
    by_cases hk : x.kind = 2
    · have d1 := ck_d2 hx hk
      have d2 := ck_d2 hy (h0.1 ▸ hk)
      apply List.ext_getElem?
      intro j
      by_cases hj : j < x.d.length
      · have hq := h (x.lba + (j / 32 : Nat)) (by omega) (by omega)
        simp only [bAt, Prod.mk.injEq] at hq
        have hq : (List.take 32 (List.drop (32 * (x.lba + ((j / 32 : Nat) : Int) - x.lba)).toNat x.d))[j % 32]? = (List.take 32 (List.drop (32 * (x.lba + ((j / 32 : Nat) : Int) - y.lba)).toNat y.d))[j % 32]? := congrArg (fun l => l[j % 32]?) hq.2.2
        have hm : j % 32 < 32 := Nat.mod_lt _ (by omega)
        rw [List.getElem?_take_of_lt hm, List.getElem?_take_of_lt hm, List.getElem?_drop, List.getElem?_drop] at hq
        have e1 : (32 * (x.lba + ((j / 32 : Nat) : Int) - x.lba)).toNat + j % 32 = j := by omega
        have e2 : (32 * (x.lba + ((j / 32 : Nat) : Int) - y.lba)).toNat + j % 32 = j := by omega
        rw [e1, e2] at hq
        exact hq
      · rw [List.getElem?_eq_none (by omega), List.getElem?_eq_none (by omega)]
    · rw [ck_d0 hx hk, ck_d0 hy (h0.1 ▸ hk)]
  cases x; cases y
  simp_all
theorem sl_nn : ∀ {l : List Ex}, (∀ x ∈ l, Ck x) → 0 ≤ sl l
  | [], _ => by simp [sl]
  | x :: l, h => by
    have h1 := sl_nn fun y hy => h y (List.mem_cons_of_mem _ hy)
    have h2 := ck_pos (h x (by simp))
    simp only [sl]; omega
/-- Maps that hold the same are the same. -/
theorem ch_uniq : ∀ (l l' : List Ex) (s : Int), CH s l → CH s l' → sl l = sl l' → (∀ k c, Den l k c ↔ Den l' k c) → l = l'
  | [], [], _, _, _, _, _ => rfl
  | [], y :: l', s, _, h, e, _ => by
    have := ck_pos h.1
    have := sl_nn fun z hz => (ch_ck h.2.2.2 z hz).1
    simp only [sl] at e; omega
  | x :: l, [], s, h, _, e, _ => by
    have := ck_pos h.1
    have := sl_nn fun z hz => (ch_ck h.2.2.2 z hz).1
    simp only [sl] at e; omega
  | x :: l, y :: l', s, h, h', e, hd => by
    have px := ck_pos h.1
    have py := ck_pos h'.1
    have bx := h.2.1
    have hy := h'.2.1
    have key : ∀ (u v : Ex) (a b : List Ex), CH s (u :: a) → CH s (v :: b) → sl (u :: a) = sl (v :: b) → (∀ k c, Den (u :: a) k c ↔ Den (v :: b) k c) → v.len ≤ u.len := by
      intro u v a b hu hv es hdn
      rcases Int.lt_or_le u.len v.len with g | g
      case inr => exact g
      exfalso
      have pu := ck_pos hu.1
      have pv := ck_pos hv.1
      have bu := hu.2.1
      have bv := hv.2.1
      cases a with
      | nil =>
        have := sl_nn fun z hz => (ch_ck hv.2.2.2 z hz).1
        simp only [sl] at es; omega
      | cons w a =>
        have hw := hu.2.2.2
        have pw := ck_pos hw.1
        have bw := hw.2.1
        have c0 : Cv u s (bAt u s) := ⟨by omega, by omega, rfl⟩
        have c1 : Cv w w.lba (bAt w w.lba) := ⟨by omega, by omega, rfl⟩
        have d0 := (hdn _ _).1 (den_cons.2 (.inl c0))
        have d1 := (hdn _ _).1 (den_cons.2 (.inr (den_cons.2 (.inl c1))))
        have n0 : Cv v s (bAt u s) := (den_cons.1 d0).resolve_right fun q => by have := den_ge hv.2.2.2 q; omega
        have n1 : Cv v w.lba (bAt w w.lba) := (den_cons.1 d1).resolve_right fun q => by have := den_ge hv.2.2.2 q; omega
        have q0 := n0.2.2
        have q1 := n1.2.2
        simp only [bAt, Prod.mk.injEq] at q0 q1
        exact hu.2.2.1 w rfl ⟨hu.1, hw.1, by omega, by omega, by omega⟩
    have hlen : x.len = y.len := Int.le_antisymm (key y x l' l h' h e.symm fun k c => (hd k c).symm) (key x y l l' h h' e hd)
    have hxy : x = y := by
      refine d_ext h.1 h'.1 (by omega) hlen fun k g1 g2 => ?_
      have c0 : Cv x k (bAt x k) := ⟨g1, g2, rfl⟩
      have d0 := (hd _ _).1 (den_cons.2 (.inl c0))
      have n0 : Cv y k (bAt x k) := (den_cons.1 d0).resolve_right fun q => by have := den_ge h'.2.2.2 q; omega
      exact n0.2.2
    subst hxy
    have ht : l = l' := ch_uniq l l' (s + x.len) h.2.2.2 h'.2.2.2 (by simp only [sl] at e; omega) fun k c => by
      constructor
      · intro q
        have g := den_ge h.2.2.2 q
        exact (den_cons.1 ((hd _ _).1 (den_cons.2 (.inr q)))).resolve_left fun r => by have := r.2.1; omega
      · intro q
        have g := den_ge h'.2.2.2 q
        exact (den_cons.1 ((hd _ _).2 (den_cons.2 (.inr q)))).resolve_left fun r => by have := r.2.1; omega
    rw [ht]
end Ab
end Go.Proofs.Ytadipihpgcelmaa
namespace Go.Proofs.Ytadipihpgcelmaa
open Go Go.Proofs.Ytadipihpgcelmaa.Ab
set_option linter.unusedVariables false
set_option linter.unusedSimpArgs false
namespace Ab
/-- Of one extent of the map: what is left of it before, the new one if it is its turn, what is left behind. -/
def P1 (x : Ex) (fl : Bool) (e : Ex) : List Ex := (cut e 0 x.lba).toList ++ ((if fl = false ∧ e.lba + e.len > x.lba then [x] else []) ++ (cut e (x.lba + x.len) 64).toList)
def F1 (x : Ex) (fl : Bool) (e : Ex) : Bool := fl || decide (e.lba + e.len > x.lba)
def pcs (x : Ex) : Bool → List Ex → List Ex
  | _, [] => []
  | fl, e :: l => P1 x fl e ++ pcs x (F1 x fl e) l
def stp (x : Ex) (p : Bool × List Ex) (e : Ex) : Bool × List Ex := (F1 x p.1 e, (P1 x p.1 e).foldl add p.2)
theorem stp_pcs (x : Ex) : ∀ (l : List Ex) (fl : Bool) (out : List Ex), (l.foldl (stp x) (fl, out)).2 = (pcs x fl l).foldl add out
  | [], _, _ => rfl
  | e :: l, fl, out => by
    rw [List.foldl_cons]
    show (l.foldl (stp x) (F1 x fl e, (P1 x fl e).foldl add out)).2 = _
    rw [stp_pcs x l, pcs, List.foldl_append]
/-- The map with the new extent over it. -/
def put (l : List Ex) (x : Ex) : List Ex := (pcs x false l).foldl add []
theorem den_P1 {x e : Ex} (hx : Ck x) (he : Ck e) {fl : Bool} {k : Int} {c : Int × Int × List UInt8} :
    Den (P1 x fl e) k c ↔ ((k < x.lba ∨ x.lba + x.len ≤ k) ∧ Cv e k c) ∨ (fl = false ∧ e.lba + e.len > x.lba ∧ Cv x k c) := by
  have px := ck_pos hx
  have pe := ck_pos he
  unfold P1
  rw [den_app, den_app, cv_cut he (by omega) (by omega), cv_cut he (by omega) (by omega)]
  have hm : Den (if fl = false ∧ e.lba + e.len > x.lba then [x] else []) k c ↔ fl = false ∧ e.lba + e.len > x.lba ∧ Cv x k c := by
    split
    · rename_i h
      rw [den_one]
      exact ⟨fun q => ⟨h.1, h.2, q⟩, fun q => q.2.2⟩
    · rename_i h
      exact ⟨fun q => absurd q den_nil, fun q => absurd ⟨q.1, q.2.1⟩ h⟩
  rw [hm]
  constructor
  · rintro (⟨a, b, q⟩ | q | ⟨a, b, q⟩)
    · exact .inl ⟨.inl (by omega), q⟩
    · exact .inr q
    · exact .inl ⟨.inr (by omega), q⟩
  · rintro (⟨a | a, q⟩ | q)
    · have := q.1; exact .inl ⟨by omega, by omega, q⟩
    · have := q.2.1; exact .inr (.inr ⟨by omega, by omega, q⟩)
    · exact .inr (.inl q)
theorem den_pcs_t {x : Ex} (hx : Ck x) : ∀ (l : List Ex), (∀ e ∈ l, Ck e) → ∀ {k : Int} {c : Int × Int × List UInt8}, Den (pcs x true l) k c ↔ (k < x.lba ∨ x.lba + x.len ≤ k) ∧ Den l k c
  | [], _, k, c => by simp only [pcs]; exact ⟨fun q => absurd q den_nil, fun q => absurd q.2 den_nil⟩
  | e :: l, h, k, c => by
    have ih := den_pcs_t hx l (fun y hy => h y (by simp [hy])) (k := k) (c := c)
    rw [pcs, den_app, den_P1 hx (h e (by simp)), den_cons]
    rw [show F1 x true e = true from rfl, ih]
    constructor
    · rintro ((⟨a, q⟩ | ⟨a, _⟩) | ⟨a, q⟩)
      · exact ⟨a, .inl q⟩
      · cases a
      · exact ⟨a, .inr q⟩
    · rintro ⟨a, q | q⟩
      · exact .inl (.inl ⟨a, q⟩)
      · exact .inr ⟨a, q⟩
theorem den_pcs_f {x : Ex} (hx : Ck x) : ∀ (l : List Ex), (∀ e ∈ l, Ck e) → ∀ {k : Int} {c : Int × Int × List UInt8}, Den (pcs x false l) k c ↔ ((k < x.lba ∨ x.lba + x.len ≤ k) ∧ Den l k c) ∨ (Cv x k c ∧ ∃ e ∈ l, e.lba + e.len > x.lba)
  | [], _, k, c => by
    simp only [pcs]
    refine ⟨fun q => absurd q den_nil, ?_⟩
    rintro (⟨_, q⟩ | ⟨_, e, he, _⟩)
    · exact absurd q den_nil
    · cases he
  | e :: l, h, k, c => by
    rw [pcs, den_app, den_P1 hx (h e (by simp)), den_cons]
    by_cases g : e.lba + e.len > x.lba
    · rw [show F1 x false e = true from decide_eq_true g, den_pcs_t hx l (fun y hy => h y (by simp [hy]))]
      constructor
      · rintro ((⟨a, q⟩ | ⟨_, _, q⟩) | ⟨a, q⟩)
        · exact .inl ⟨a, .inl q⟩
        · exact .inr ⟨q, e, by simp, g⟩
        · exact .inl ⟨a, .inr q⟩
      · rintro (⟨a, q | q⟩ | ⟨q, _⟩)
        · exact .inl (.inl ⟨a, q⟩)
        · exact .inr ⟨a, q⟩
        · exact .inl (.inr ⟨rfl, g, q⟩)
    · rw [show F1 x false e = false from decide_eq_false g, den_pcs_f hx l (fun y hy => h y (by simp [hy]))]
      constructor
      · rintro ((⟨a, q⟩ | ⟨_, q, _⟩) | ⟨a, q⟩ | ⟨q, y, hy, hg⟩)
        · exact .inl ⟨a, .inl q⟩
        · exact absurd q g
        · exact .inl ⟨a, .inr q⟩
        · exact .inr ⟨q, y, by simp [hy], hg⟩
      · rintro (⟨a, q | q⟩ | ⟨q, y, hy, hg⟩)
        · exact .inl (.inl ⟨a, q⟩)
        · exact .inr (.inl ⟨a, q⟩)
        · rcases List.mem_cons.1 hy with e1 | e1
          · subst e1; exact absurd hg g
          · exact .inr (.inr ⟨q, y, e1, hg⟩)
theorem cg_cut {e : Ex} {lo n a b : Int} (he : Ck e) (h1 : 0 ≤ lo ∧ lo ≤ 64) (h2 : 0 ≤ n ∧ n ≤ 64) (ha : a = max e.lba lo) (hb : b = min (e.lba + e.len) (lo + n)) (hab : a < b) : Cg a (cut e lo n).toList b := by
  have g : Cu e lo n := ⟨he, h1.1, h1.2, h2.1, h2.2, by omega⟩
  rw [cut_pos g]
  refine ⟨cu_ck g, ha.symm, ?_⟩
  show a + (min (e.lba + e.len) (lo + n) - max e.lba lo) = b
  omega
theorem cg_none {e : Ex} {lo n a : Int} (h : ¬ max e.lba lo < min (e.lba + e.len) (lo + n)) : Cg a (cut e lo n).toList a := by
  rw [cut_neg fun g => h g.2.2.2.2.2]; rfl
theorem cg_pcs_t {x : Ex} (hx : Ck x) : ∀ (l : List Ex) (s e : Int), Cg s l e → x.lba < s → Cg (max s (x.lba + x.len)) (pcs x true l) (max e (x.lba + x.len))
  | [], s, e, h, _ => by rw [show s = e from h]; rfl
  | y :: l, s, e, h, hs => by
    obtain ⟨h1, h2, h3⟩ := h
    have px := ck_pos hx
    have py := ck_pos h1
    rw [pcs, P1, if_neg (by simp), List.nil_append]
    have hr := cg_pcs_t hx l (s + y.len) e h3 (by omega)
    refine cg_app _ _ (cg_app _ _ (cg_none (a := max s (x.lba + x.len)) (by omega)) ?_) hr
    by_cases g : s + y.len > x.lba + x.len
    · exact cg_cut h1 (by omega) (by omega) (by omega) (by omega) (by omega)
    · have e1 : max (s + y.len) (x.lba + x.len) = x.lba + x.len := by omega
      have e2 : max s (x.lba + x.len) = x.lba + x.len := by omega
      rw [e1, e2]
      exact cg_none (by omega)
theorem cg_pcs_f {x : Ex} (hx : Ck x) : ∀ (l : List Ex) (s e : Int), 0 ≤ s → Cg s l e → s ≤ x.lba → x.lba < e → Cg s (pcs x false l) (max e (x.lba + x.len))
  | [], s, e, h0, h, hs, he => by have : s = e := h; omega
  | y :: l, s, e, h0, h, hs, he => by
    obtain ⟨h1, h2, h3⟩ := h
    have px := ck_pos hx
    have py := ck_pos h1
    rw [pcs, P1]
    by_cases g : y.lba + y.len > x.lba
    · rw [if_pos ⟨rfl, g⟩, show F1 x false y = true from decide_eq_true g]
      have hr := cg_pcs_t hx l (s + y.len) e h3 (by omega)
      have hleft : Cg s (cut y 0 x.lba).toList x.lba := by
        by_cases q : s < x.lba
        · exact cg_cut h1 (by omega) (by omega) (by omega) (by omega) q
        · rw [show s = x.lba by omega]; exact cg_none (by omega)
      have hright : Cg (x.lba + x.len) (cut y (x.lba + x.len) 64).toList (max (s + y.len) (x.lba + x.len)) := by
        by_cases q : s + y.len > x.lba + x.len
        · exact cg_cut h1 (by omega) (by omega) (by omega) (by omega) (by omega)
        · rw [show max (s + y.len) (x.lba + x.len) = x.lba + x.len by omega]; exact cg_none (by omega)
      exact cg_app _ _ (cg_app _ _ hleft (cg_app [x] _ (m := x.lba + x.len) ⟨hx, rfl, rfl⟩ hright)) hr
    · rw [if_neg (fun q => g q.2), show F1 x false y = false from decide_eq_false g, List.nil_append]
      have hr := cg_pcs_f hx l (s + y.len) e (by omega) h3 (by omega) he
      refine cg_app _ _ (cg_app _ _ (m := s + y.len) (cg_cut h1 (by omega) (by omega) (by omega) (by omega) (by omega)) (cg_none (by omega))) hr
/-- A chain from 0 to its end is a map of so many blocks. -/
theorem ch_mk {blocks : Int} {l : List Ex} (h : CH 0 l) (hs : sl l = blocks) (hb : 1 ≤ blocks) : Mk blocks l := by
  have hne : l ≠ [] := by intro e; subst e; simp only [sl] at hs; omega
  have key : ∀ (l : List Ex) (s : Int), CH s l → ∀ i, i < l.length → Ck (exAt l i) ∧ (exAt l i).lba = s + sl (l.take i) ∧ (0 < i → ¬ Jn (exAt l (i - 1)) (exAt l i)) := by
    intro l
    induction l with
    | nil => intro s _ i hi; simp at hi
    | cons x l ih =>
      intro s h i hi
      cases i with
      | zero => exact ⟨h.1, by rw [List.take_zero]; simp only [sl]; rw [Int.add_zero]; exact h.2.1, fun q => by omega⟩
      | succ i =>
        simp only [List.length_cons] at hi
        obtain ⟨a, b, d⟩ := ih _ h.2.2.2 i (by omega)
        refine ⟨a, ?_, fun _ => ?_⟩
        · show (exAt l i).lba = _
          rw [b, List.take_succ_cons]; simp only [sl]; omega
        · cases i with
          | zero =>
            cases l with
            | nil => simp at hi
            | cons y l => exact h.2.2.1 y rfl
          | succ j => exact d (by omega)
  refine ⟨hne, fun i hi => ?_, hs⟩
  obtain ⟨a, b, d⟩ := key l 0 h i hi
  exact ⟨a, by rw [b, Int.zero_add], d⟩
theorem mk_uniq {blocks : Int} {l l' : List Ex} (h : Mk blocks l) (h' : Mk blocks l') (hd : ∀ k c, Den l k c ↔ Den l' k c) : l = l' :=
  ch_uniq l l' 0 (mk_ch h) (mk_ch h') (h.2.2.trans h'.2.2.symm) hd
theorem put_spec {blocks : Int} {l : List Ex} {x : Ex} (h : Mk blocks l) (hx : Ck x) (hf : x.lba + x.len ≤ blocks) :
    Mk blocks (put l x) ∧ ∀ k c, Den (put l x) k c ↔ ((k < x.lba ∨ x.lba + x.len ≤ k) ∧ Den l k c) ∨ Cv x k c := by
  have hc := mk_ch h
  have hb := mk_blocks h
  have px := ck_pos hx
  have hg : Cg 0 l blocks := by
    have := ch_cg hc
    rwa [h.2.2, Int.zero_add] at this
  have hp := cg_pcs_f hx l 0 blocks (by omega) hg (by omega) (by omega)
  rw [show max blocks (x.lba + x.len) = blocks by omega] at hp
  obtain ⟨a, b⟩ := ch_adds (pcs x false l) [] (e := blocks) trivial hp
  refine ⟨ch_mk a b (by omega), fun k c => ?_⟩
  unfold put
  rw [den_adds, den_pcs_f hx l fun e he => (ch_ck hc e he).1]
  have hex : ∃ e ∈ l, e.lba + e.len > x.lba := by
    refine ⟨exAt l (l.length - 1), ?_, ?_⟩
    · have hl : 0 < l.length := List.length_pos_iff.2 h.1
      unfold exAt
      rw [List.getD_eq_getElem?_getD, List.getElem?_eq_getElem (by omega)]
      exact List.getElem_mem _
    · have hl : 0 < l.length := List.length_pos_iff.2 h.1
      have h1 := (h.2.1 (l.length - 1) (by omega)).2.1
      have h2 := sl_take l (l.length - 1) (by omega)
      rw [show l.length - 1 + 1 = l.length by omega, List.take_length, h.2.2] at h2
      omega
  constructor
  · rintro (q | q | q)
    · exact absurd q den_nil
    · exact .inl q
    · exact .inr q.1
  · rintro (q | q)
    · exact .inr (.inl q)
    · exact .inr (.inr ⟨q, hex⟩)
end Ab
end Go.Proofs.Ytadipihpgcelmaa
namespace Go.Proofs.Ytadipihpgcelmaa
open Go Go.Proofs.Ytadipihpgcelmaa.Ab
set_option linter.unusedVariables false
set_option linter.unusedSimpArgs false
namespace Ab
theorem ch_len : ∀ {l : List Ex} {s : Int}, CH s l → (l.length : Int) ≤ sl l
  | [], _, _ => by simp [sl]
  | x :: l, s, h => by
    have := ch_len h.2.2.2
    have := ck_pos h.1
    simp only [sl, List.length_cons]; omega
theorem mk_len {blocks : Int} {l : List Ex} (h : Mk blocks l) : l.length ≤ 64 := by
  have h1 := ch_len (mk_ch h)
  have h2 := mk_blocks h
  have h3 := h.2.2
  omega
theorem ch_fun : ∀ {l : List Ex} {s : Int}, CH s l → ∀ {k : Int} {c c' : Int × Int × List UInt8}, Den l k c → Den l k c' → c = c'
  | [], _, _, _, _, _, h1, _ => absurd h1 den_nil
  | x :: l, s, h, k, c, c', h1, h2 => by
    have bx := h.2.1
    rcases den_cons.1 h1 with a | a <;> rcases den_cons.1 h2 with b | b
    · rw [a.2.2, b.2.2]
    · have := den_ge h.2.2.2 b; have := a.2.1; omega
    · have := den_ge h.2.2.2 a; have := b.2.1; omega
    · exact ch_fun h.2.2.2 a b
theorem ch_cov : ∀ {l : List Ex} {s : Int}, CH s l → ∀ {k : Int}, s ≤ k → k < s + sl l → ∃ x ∈ l, x.lba ≤ k ∧ k < x.lba + x.len
  | [], s, _, k, h1, h2 => by simp only [sl] at h2; omega
  | x :: l, s, h, k, h1, h2 => by
    have bx := h.2.1
    simp only [sl] at h2
    by_cases g : k < x.lba + x.len
    · exact ⟨x, by simp, by omega, g⟩
    · obtain ⟨y, hy, q⟩ := ch_cov h.2.2.2 (k := k) (by omega) (by omega)
      exact ⟨y, by simp [hy], q⟩
theorem ch_end : ∀ {l : List Ex} {s : Int}, CH s l → ∀ x ∈ l, x.lba + x.len ≤ s + sl l
  | [], _, _, x, hx => by cases hx
  | y :: l, s, h, x, hx => by
    have by_ := h.2.1
    have h0 : 0 ≤ sl l := sl_nn fun z hz => (ch_ck h.2.2.2 z hz).1
    simp only [sl]
    rcases List.mem_cons.1 hx with e | e
    · subst e; omega
    · have := ch_end h.2.2.2 x e
      omega
end Ab
end Go.Proofs.Ytadipihpgcelmaa
namespace Go.Proofs.Ytadipihpgcelmaa
open Go Go.Proofs.Ytadipihpgcelmaa.Ab
set_option linter.unusedVariables false
set_option linter.unusedSimpArgs false
namespace Ab
theorem th_run_at {σ α : Type} {step : σ → Option σ} {f : σ → Option α} (S : Nat → σ) (k : Nat) {s0 : σ} (h0 : s0 = S 0) (hs : ∀ i, i < k → step (S i) = some (S (i + 1))) (he : step (S k) = none) : th step s0 f = f (S k) := by
  subst h0; exact th_run S k hs he
theorem pad_rep (n m : Nat) : pad n (List.replicate m 0) = List.replicate n 0 := by
  unfold pad
  rw [List.replicate_append_replicate, List.take_replicate]
  congr 1; omega
theorem pad_nil (n : Nat) : pad n [] = List.replicate n 0 := pad_rep n 0
def CkC (c : Ce) : Prop := 0 ≤ c.kind ∧ c.kind ≤ 2 ∧ 0 ≤ c.gen ∧ c.gen ≤ 2147483647 ∧ (c.kind ≠ 2 → pad 32 c.d = List.replicate 32 0)
instance (c : Ce) : Decidable (CkC c) := by unfold CkC; infer_instance
/-- May blocks be? -/
def CkI (l : List Ce) : Prop := 1 ≤ l.length ∧ l.length ≤ 64 ∧ ∀ c ∈ l, CkC c
instance (l : List Ce) : Decidable (CkI l) := by unfold CkI; infer_instance
theorem ceAt_all (l : List Ce) (p : Ce → Prop) : (∀ i, i < l.length → p (ceAt l i)) ↔ ∀ x ∈ l, p x := by
  unfold ceAt; exact getD_all _ l p
end Ab
end Go.Proofs.Ytadipihpgcelmaa
