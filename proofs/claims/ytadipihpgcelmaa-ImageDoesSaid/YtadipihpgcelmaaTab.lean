/- Functions, as they answer: printed by a program of this repo, out of the program's form; each with its proof. -/
import Derived.Test.YtadipihpgcelmaaRows
import Derived.Test.YtadipihpgcelmaaAbsY
namespace Go.Proofs.Ytadipihpgcelmaa
open Go Go.Proofs.Ytadipihpgcelmaa.Ab
set_option linter.unusedVariables false
set_option linter.unusedSimpArgs false
set_option maxRecDepth 1000000
namespace Ab
def cf : Cfg := { inl := [37, 38, 39, 40, 41, 42, 44, 48, 54, 58], thaw := [(60, [[0, 0, 0, 0, 1]])], move := [12, 13, 14, 28, 34, 47, 53, 60], clone := [(32, 1, 1), (52, 1, 1), (55, 34, 48)] }
noncomputable def vwT : List (Nat × TI) := [(1, (TI.mk 1 8 [(AV.sc Go.Value.nilFunc)] (AV.sc Go.Value.nilFunc) TK.func)),
  (2, (TI.mk 1 8 [(AV.i 0)] (AV.i 0) (TK.int Go.IntKind.i64))),
  (3, (TI.mk 1 8 [(AV.i 0)] (AV.i 0) (TK.int Go.IntKind.i64))),
  (4, (TI.mk 1 1 [(AV.b Bool.false)] (AV.b Bool.false) TK.bool)),
  (5, (TI.mk 1 1 [(AV.y (UInt8.ofNat (0 : Nat)))] (AV.y (UInt8.ofNat (0 : Nat))) (TK.int Go.IntKind.u8))),
  (6, (TI.mk 1 1 [(AV.y (UInt8.ofNat (0 : Nat)))] (AV.y (UInt8.ofNat (0 : Nat))) (TK.int Go.IntKind.u8))),
  (7, (TI.mk 4 24 [(AV.i 0), (AV.i 0), (AV.b Bool.false), (AV.y (UInt8.ofNat (0 : Nat)))] (AV.ag [(AV.i 0), (AV.i 0), (AV.b Bool.false), (AV.y (UInt8.ofNat (0 : Nat)))]) (TK.struct [((0 : Nat), ((1 : Nat), Bool.false)), ((1 : Nat), ((1 : Nat), Bool.false)), ((2 : Nat), ((1 : Nat), Bool.false)), ((3 : Nat), ((1 : Nat), Bool.false))]))),
  (8, (TI.mk 4 24 [(AV.i 0), (AV.i 0), (AV.b Bool.false), (AV.y (UInt8.ofNat (0 : Nat)))] (AV.ag [(AV.i 0), (AV.i 0), (AV.b Bool.false), (AV.y (UInt8.ofNat (0 : Nat)))]) (TK.struct [((0 : Nat), ((1 : Nat), Bool.false)), ((1 : Nat), ((1 : Nat), Bool.false)), ((2 : Nat), ((1 : Nat), Bool.false)), ((3 : Nat), ((1 : Nat), Bool.false))]))),
  (9, (TI.mk 1 16 [(AV.st ([] : List UInt8))] (AV.st ([] : List UInt8)) TK.string)),
  (10, (TI.mk 1 16 [(AV.st ([] : List UInt8))] (AV.st ([] : List UInt8)) TK.string)),
  (11, (TI.mk 1 16 [(AV.st ([] : List UInt8))] (AV.st ([] : List UInt8)) TK.string)),
  (12, (TI.mk 1 8 [(AV.sc (Go.Value.int Go.IntKind.u64 0))] (AV.sc (Go.Value.int Go.IntKind.u64 0)) (TK.int Go.IntKind.u64))),
  (13, (TI.mk 2 24 [(AV.st ([] : List UInt8)), (AV.sc (Go.Value.int Go.IntKind.u64 0))] (AV.ag [(AV.st ([] : List UInt8)), (AV.sc (Go.Value.int Go.IntKind.u64 0))]) (TK.struct [((0 : Nat), ((1 : Nat), Bool.false)), ((1 : Nat), ((1 : Nat), Bool.false))]))),
  (14, (TI.mk 2 24 [(AV.st ([] : List UInt8)), (AV.sc (Go.Value.int Go.IntKind.u64 0))] (AV.ag [(AV.st ([] : List UInt8)), (AV.sc (Go.Value.int Go.IntKind.u64 0))]) (TK.struct [((0 : Nat), ((1 : Nat), Bool.false)), ((1 : Nat), ((1 : Nat), Bool.false))]))),
  (15, (TI.mk 1 8 [(AV.sc (Go.Value.pointer Option.none))] (AV.sc (Go.Value.pointer Option.none)) (TK.ptr (80 : Nat)))),
  (16, (TI.mk 1 8 [(AV.sc (Go.Value.pointer Option.none))] (AV.sc (Go.Value.pointer Option.none)) (TK.ptr (83 : Nat)))),
  (17, (TI.mk 1 8 [(AV.sc (Go.Value.pointer Option.none))] (AV.sc (Go.Value.pointer Option.none)) (TK.ptr (93 : Nat)))),
  (18, (TI.mk 1 8 [(AV.sc (Go.Value.pointer Option.none))] (AV.ag [(AV.sc (Go.Value.pointer Option.none))]) (TK.struct [((0 : Nat), ((1 : Nat), Bool.false))]))),
  (19, (TI.mk 1 8 [(AV.sc (Go.Value.pointer Option.none))] (AV.ag [(AV.sc (Go.Value.pointer Option.none))]) (TK.struct [((0 : Nat), ((1 : Nat), Bool.false))]))),
  (20, (TI.mk 1 16 [(AV.sc Go.Value.nilIface)] (AV.sc Go.Value.nilIface) TK.other)),
  (21, (TI.mk 1 4 [(AV.sc (Go.Value.int Go.IntKind.i32 0))] (AV.sc (Go.Value.int Go.IntKind.i32 0)) (TK.int Go.IntKind.i32))),
  (22, (TI.mk 1 24 [AV.nl] AV.nl (TK.slice (43 : Nat)))),
  (23, (TI.mk 1 24 [AV.nl] AV.nl (TK.slice (50 : Nat)))),
  (24, (TI.mk 1 8 [(AV.sc Go.Value.nilFunc)] (AV.sc Go.Value.nilFunc) TK.func)),
  (25, (TI.mk 1 8 [(AV.sc Go.Value.nilFunc)] (AV.sc Go.Value.nilFunc) TK.func)),
  (26, (TI.mk 1 8 [(AV.i 0)] (AV.i 0) (TK.int Go.IntKind.i64))),
  (28, (TI.mk 1 8 [(AV.sc Go.Value.nilFunc)] (AV.sc Go.Value.nilFunc) TK.func)),
  (30, (TI.mk 1 8 [(AV.sc Go.Value.nilFunc)] (AV.sc Go.Value.nilFunc) TK.func)),
  (31, (TI.mk 1 8 [(AV.sc Go.Value.nilFunc)] (AV.sc Go.Value.nilFunc) TK.func)),
  (32, (TI.mk 1 8 [(AV.sc Go.Value.nilFunc)] (AV.sc Go.Value.nilFunc) TK.func)),
  (33, (TI.mk 1 8 [(AV.sc Go.Value.nilFunc)] (AV.sc Go.Value.nilFunc) TK.func)),
  (34, (TI.mk 1 8 [(AV.sc Go.Value.nilFunc)] (AV.sc Go.Value.nilFunc) TK.func)),
  (35, (TI.mk 1 24 [AV.nl] AV.nl (TK.slice (5 : Nat)))),
  (36, (TI.mk 1 8 [(AV.sc Go.Value.nilFunc)] (AV.sc Go.Value.nilFunc) TK.func)),
  (37, (TI.mk 1 8 [(AV.sc Go.Value.nilFunc)] (AV.sc Go.Value.nilFunc) TK.func)),
  (39, (TI.mk 1 8 [(AV.sc Go.Value.nilFunc)] (AV.sc Go.Value.nilFunc) TK.func)),
  (40, (TI.mk 1 8 [(AV.sc Go.Value.nilFunc)] (AV.sc Go.Value.nilFunc) TK.func)),
  (41, (TI.mk 32 32 (List.replicate (32 : Nat) (AV.y (UInt8.ofNat (0 : Nat)))) (AV.ag (List.replicate (32 : Nat) (AV.y (UInt8.ofNat (0 : Nat))))) (TK.array 32 (5 : Nat)))),
  (42, (TI.mk 34 48 ((AV.i 0) :: (AV.i 0) :: List.replicate (32 : Nat) (AV.y (UInt8.ofNat (0 : Nat)))) (AV.ag ((AV.i 0) :: (AV.i 0) :: List.replicate (32 : Nat) (AV.y (UInt8.ofNat (0 : Nat))))) (TK.struct [((0 : Nat), ((1 : Nat), Bool.false)), ((1 : Nat), ((1 : Nat), Bool.false)), ((2 : Nat), ((32 : Nat), Bool.true))]))),
  (43, (TI.mk 34 48 ((AV.i 0) :: (AV.i 0) :: List.replicate (32 : Nat) (AV.y (UInt8.ofNat (0 : Nat)))) (AV.ag ((AV.i 0) :: (AV.i 0) :: List.replicate (32 : Nat) (AV.y (UInt8.ofNat (0 : Nat))))) (TK.struct [((0 : Nat), ((1 : Nat), Bool.false)), ((1 : Nat), ((1 : Nat), Bool.false)), ((2 : Nat), ((32 : Nat), Bool.true))]))),
  (44, (TI.mk 1 8 [(AV.sc Go.Value.nilFunc)] (AV.sc Go.Value.nilFunc) TK.func)),
  (45, (TI.mk 1 8 [(AV.sc Go.Value.nilFunc)] (AV.sc Go.Value.nilFunc) TK.func)),
  (46, (TI.mk 1 8 [(AV.sc Go.Value.nilFunc)] (AV.sc Go.Value.nilFunc) TK.func)),
  (47, (TI.mk 1 8 [(AV.sc Go.Value.nilFunc)] (AV.sc Go.Value.nilFunc) TK.func)),
  (48, (TI.mk 1 8 [(AV.sc Go.Value.nilFunc)] (AV.sc Go.Value.nilFunc) TK.func)),
  (49, (TI.mk 5 56 [(AV.i 0), (AV.i 0), (AV.i 0), (AV.i 0), AV.nl] (AV.ag [(AV.i 0), (AV.i 0), (AV.i 0), (AV.i 0), AV.nl]) (TK.struct [((0 : Nat), ((1 : Nat), Bool.false)), ((1 : Nat), ((1 : Nat), Bool.false)), ((2 : Nat), ((1 : Nat), Bool.false)), ((3 : Nat), ((1 : Nat), Bool.false)), ((4 : Nat), ((1 : Nat), Bool.false))]))),
  (50, (TI.mk 5 56 [(AV.i 0), (AV.i 0), (AV.i 0), (AV.i 0), AV.nl] (AV.ag [(AV.i 0), (AV.i 0), (AV.i 0), (AV.i 0), AV.nl]) (TK.struct [((0 : Nat), ((1 : Nat), Bool.false)), ((1 : Nat), ((1 : Nat), Bool.false)), ((2 : Nat), ((1 : Nat), Bool.false)), ((3 : Nat), ((1 : Nat), Bool.false)), ((4 : Nat), ((1 : Nat), Bool.false))]))),
  (51, (TI.mk 1 8 [(AV.sc Go.Value.nilFunc)] (AV.sc Go.Value.nilFunc) TK.func)),
  (52, (TI.mk 1 8 [(AV.sc Go.Value.nilFunc)] (AV.sc Go.Value.nilFunc) TK.func)),
  (53, (TI.mk 1 8 [(AV.sc Go.Value.nilFunc)] (AV.sc Go.Value.nilFunc) TK.func)),
  (54, (TI.mk 1 8 [(AV.sc Go.Value.nilFunc)] (AV.sc Go.Value.nilFunc) TK.func)),
  (56, (TI.mk 1 8 [(AV.sc Go.Value.nilFunc)] (AV.sc Go.Value.nilFunc) TK.func)),
  (57, (TI.mk 1 8 [(AV.sc Go.Value.nilFunc)] (AV.sc Go.Value.nilFunc) TK.func)),
  (58, (TI.mk 1 8 [(AV.sc Go.Value.nilFunc)] (AV.sc Go.Value.nilFunc) TK.func)),
  (59, (TI.mk 1 8 [(AV.sc Go.Value.nilFunc)] (AV.sc Go.Value.nilFunc) TK.func)),
  (60, (TI.mk 1 8 [(AV.sc Go.Value.nilFunc)] (AV.sc Go.Value.nilFunc) TK.func)),
  (61, (TI.mk 1 8 [(AV.sc Go.Value.nilFunc)] (AV.sc Go.Value.nilFunc) TK.func)),
  (62, (TI.mk 1 8 [(AV.sc Go.Value.nilFunc)] (AV.sc Go.Value.nilFunc) TK.func)),
  (63, (TI.mk 1 8 [(AV.sc Go.Value.nilFunc)] (AV.sc Go.Value.nilFunc) TK.func)),
  (64, (TI.mk 1 8 [(AV.sc Go.Value.nilFunc)] (AV.sc Go.Value.nilFunc) TK.func)),
  (65, (TI.mk 1 8 [(AV.sc Go.Value.nilFunc)] (AV.sc Go.Value.nilFunc) TK.func)),
  (66, (TI.mk 1 8 [(AV.sc Go.Value.nilFunc)] (AV.sc Go.Value.nilFunc) TK.func)),
  (67, (TI.mk 1 8 [(AV.sc Go.Value.nilFunc)] (AV.sc Go.Value.nilFunc) TK.func)),
  (68, (TI.mk 1 8 [(AV.sc Go.Value.nilFunc)] (AV.sc Go.Value.nilFunc) TK.func)),
  (69, (TI.mk 1 8 [(AV.sc Go.Value.nilFunc)] (AV.sc Go.Value.nilFunc) TK.func)),
  (70, (TI.mk 1 8 [(AV.sc Go.Value.nilFunc)] (AV.sc Go.Value.nilFunc) TK.func)),
  (71, (TI.mk 1 8 [(AV.sc Go.Value.nilFunc)] (AV.sc Go.Value.nilFunc) TK.func)),
  (72, (TI.mk 1 8 [(AV.sc Go.Value.nilFunc)] (AV.sc Go.Value.nilFunc) TK.func)),
  (73, (TI.mk 1 8 [(AV.sc Go.Value.nilFunc)] (AV.sc Go.Value.nilFunc) TK.func)),
  (74, (TI.mk 1 8 [(AV.sc Go.Value.nilFunc)] (AV.sc Go.Value.nilFunc) TK.func)),
  (76, (TI.mk 1 8 [(AV.sc Go.Value.nilFunc)] (AV.sc Go.Value.nilFunc) TK.func)),
  (77, (TI.mk 1 8 [(AV.sc Go.Value.nilFunc)] (AV.sc Go.Value.nilFunc) TK.func)),
  (78, (TI.mk 1 8 [(AV.sc Go.Value.nilFunc)] (AV.sc Go.Value.nilFunc) TK.func)),
  (79, (TI.mk 4 40 [(AV.sc (Go.Value.pointer Option.none)), (AV.sc (Go.Value.pointer Option.none)), (AV.sc (Go.Value.pointer Option.none)), (AV.st ([] : List UInt8))] (AV.ag [(AV.sc (Go.Value.pointer Option.none)), (AV.sc (Go.Value.pointer Option.none)), (AV.sc (Go.Value.pointer Option.none)), (AV.st ([] : List UInt8))]) (TK.struct [((0 : Nat), ((1 : Nat), Bool.false)), ((1 : Nat), ((1 : Nat), Bool.false)), ((2 : Nat), ((1 : Nat), Bool.false)), ((3 : Nat), ((1 : Nat), Bool.false))]))),
  (80, (TI.mk 4 40 [(AV.sc (Go.Value.pointer Option.none)), (AV.sc (Go.Value.pointer Option.none)), (AV.sc (Go.Value.pointer Option.none)), (AV.st ([] : List UInt8))] (AV.ag [(AV.sc (Go.Value.pointer Option.none)), (AV.sc (Go.Value.pointer Option.none)), (AV.sc (Go.Value.pointer Option.none)), (AV.st ([] : List UInt8))]) (TK.struct [((0 : Nat), ((1 : Nat), Bool.false)), ((1 : Nat), ((1 : Nat), Bool.false)), ((2 : Nat), ((1 : Nat), Bool.false)), ((3 : Nat), ((1 : Nat), Bool.false))]))),
  (81, (TI.mk 0 0 ([] : List AV) (AV.ag ([] : List AV)) (TK.array 0 (16 : Nat)))),
  (82, (TI.mk 0 0 ([] : List AV) (AV.ag ([] : List AV)) (TK.struct [((0 : Nat), ((0 : Nat), Bool.true))]))),
  (83, (TI.mk 0 0 ([] : List AV) (AV.ag ([] : List AV)) (TK.struct [((0 : Nat), ((0 : Nat), Bool.true))]))),
  (84, (TI.mk 1 8 [(AV.sc Go.Value.nilFunc)] (AV.sc Go.Value.nilFunc) TK.func)),
  (85, (TI.mk 1 4 [(AV.sc (Go.Value.int Go.IntKind.u32 0))] (AV.sc (Go.Value.int Go.IntKind.u32 0)) (TK.int Go.IntKind.u32))),
  (86, (TI.mk 1 1 [(AV.y (UInt8.ofNat (0 : Nat)))] (AV.y (UInt8.ofNat (0 : Nat))) (TK.int Go.IntKind.u8))),
  (87, (TI.mk 1 1 [(AV.y (UInt8.ofNat (0 : Nat)))] (AV.y (UInt8.ofNat (0 : Nat))) (TK.int Go.IntKind.u8))),
  (88, (TI.mk 1 8 [(AV.sc Go.Value.nilFunc)] (AV.sc Go.Value.nilFunc) TK.func)),
  (89, (TI.mk 1 8 [(AV.sc (Go.Value.pointer Option.none))] (AV.sc (Go.Value.pointer Option.none)) (TK.ptr (5 : Nat))))]
noncomputable def vwF : List (Nat × AF) := [(2, afOf Try.f2), (3, afOf Try.f3), (4, afOf Try.f4), (5, afOf Try.f5), (6, afOf Try.f6), (7, afOf Try.f7), (8, afOf Try.f8), (9, afOf Try.f9), (10, afOf Try.f10), (11, afOf Try.f11), (12, afOf Try.f12), (13, afOf Try.f13), (14, afOf Try.f14), (15, afOf Try.f15), (16, afOf Try.f16), (17, afOf Try.f17), (18, afOf Try.f18), (19, afOf Try.f19), (20, afOf Try.f20), (21, afOf Try.f21), (22, afOf Try.f22), (23, afOf Try.f23), (24, afOf Try.f24), (25, afOf Try.f25), (26, afOf Try.f26), (27, afOf Try.f27), (28, afOf Try.f28), (29, afOf Try.f29), (30, afOf Try.f30), (31, afOf Try.f31), (32, afOf Try.f32), (33, afOf Try.f33), (34, afOf Try.f34), (35, afOf Try.f35), (36, afOf Try.f36), (37, afOf Try.f37), (38, afOf Try.f38), (39, afOf Try.f39), (40, afOf Try.f40), (41, afOf Try.f41), (42, afOf Try.f42), (43, afOf Try.f43), (44, afOf Try.f44), (45, afOf Try.f45), (46, afOf Try.f46), (47, afOf Try.f47), (48, afOf Try.f48), (49, afOf Try.f49), (50, afOf Try.f50), (51, afOf Try.f51), (52, afOf Try.f52), (53, afOf Try.f53), (54, afOf Try.f54), (55, afOf Try.f55), (56, afOf Try.f56), (57, afOf Try.f57), (58, afOf Try.f58), (59, afOf Try.f59), (60, afOf Try.f60)]
noncomputable def vw : View := View.mkT Try.prog vwT vwF
theorem vwT_ok : ∀ x ∈ vwT, tinfo Try.prog x.1 = some x.2 := (all_cons (by kernel_rfl) (all_cons (by kernel_rfl) (all_cons (by kernel_rfl) (all_cons (by kernel_rfl) (all_cons (by kernel_rfl) (all_cons (by kernel_rfl) (all_cons (by kernel_rfl) (all_cons (by kernel_rfl) (all_cons (by kernel_rfl) (all_cons (by kernel_rfl) (all_cons (by kernel_rfl) (all_cons (by kernel_rfl) (all_cons (by kernel_rfl) (all_cons (by kernel_rfl) (all_cons (by kernel_rfl) (all_cons (by kernel_rfl) (all_cons (by kernel_rfl) (all_cons (by kernel_rfl) (all_cons (by kernel_rfl) (all_cons (by kernel_rfl) (all_cons (by kernel_rfl) (all_cons (by kernel_rfl) (all_cons (by kernel_rfl) (all_cons (by kernel_rfl) (all_cons (by kernel_rfl) (all_cons (by kernel_rfl) (all_cons (by kernel_rfl) (all_cons (by kernel_rfl) (all_cons (by kernel_rfl) (all_cons (by kernel_rfl) (all_cons (by kernel_rfl) (all_cons (by kernel_rfl) (all_cons (by kernel_rfl) (all_cons (by kernel_rfl) (all_cons (by kernel_rfl) (all_cons (by kernel_rfl) (all_cons (by kernel_rfl) (all_cons (by kernel_rfl) (all_cons (by kernel_rfl) (all_cons (by kernel_rfl) (all_cons (by kernel_rfl) (all_cons (by kernel_rfl) (all_cons (by kernel_rfl) (all_cons (by kernel_rfl) (all_cons (by kernel_rfl) (all_cons (by kernel_rfl) (all_cons (by kernel_rfl) (all_cons (by kernel_rfl) (all_cons (by kernel_rfl) (all_cons (by kernel_rfl) (all_cons (by kernel_rfl) (all_cons (by kernel_rfl) (all_cons (by kernel_rfl) (all_cons (by kernel_rfl) (all_cons (by kernel_rfl) (all_cons (by kernel_rfl) (all_cons (by kernel_rfl) (all_cons (by kernel_rfl) (all_cons (by kernel_rfl) (all_cons (by kernel_rfl) (all_cons (by kernel_rfl) (all_cons (by kernel_rfl) (all_cons (by kernel_rfl) (all_cons (by kernel_rfl) (all_cons (by kernel_rfl) (all_cons (by kernel_rfl) (all_cons (by kernel_rfl) (all_cons (by kernel_rfl) (all_cons (by kernel_rfl) (all_cons (by kernel_rfl) (all_cons (by kernel_rfl) (all_cons (by kernel_rfl) (all_cons (by kernel_rfl) (all_cons (by kernel_rfl) (all_cons (by kernel_rfl) (all_cons (by kernel_rfl) (all_cons (by kernel_rfl) (all_cons (by kernel_rfl) (all_cons (by kernel_rfl) (all_cons (by kernel_rfl) (all_cons (by kernel_rfl) (all_cons (by kernel_rfl) (all_cons (by kernel_rfl) (all_cons (by kernel_rfl) all_nil))))))))))))))))))))))))))))))))))))))))))))))))))))))))))))))))))))))))))))))))))))
theorem vwF_ok : ∀ x ∈ vwF, afun Try.prog x.1 = some x.2 := (all_cons (by kernel_rfl) (all_cons (by kernel_rfl) (all_cons (by kernel_rfl) (all_cons (by kernel_rfl) (all_cons (by kernel_rfl) (all_cons (by kernel_rfl) (all_cons (by kernel_rfl) (all_cons (by kernel_rfl) (all_cons (by kernel_rfl) (all_cons (by kernel_rfl) (all_cons (by kernel_rfl) (all_cons (by kernel_rfl) (all_cons (by kernel_rfl) (all_cons (by kernel_rfl) (all_cons (by kernel_rfl) (all_cons (by kernel_rfl) (all_cons (by kernel_rfl) (all_cons (by kernel_rfl) (all_cons (by kernel_rfl) (all_cons (by kernel_rfl) (all_cons (by kernel_rfl) (all_cons (by kernel_rfl) (all_cons (by kernel_rfl) (all_cons (by kernel_rfl) (all_cons (by kernel_rfl) (all_cons (by kernel_rfl) (all_cons (by kernel_rfl) (all_cons (by kernel_rfl) (all_cons (by kernel_rfl) (all_cons (by kernel_rfl) (all_cons (by kernel_rfl) (all_cons (by kernel_rfl) (all_cons (by kernel_rfl) (all_cons (by kernel_rfl) (all_cons (by kernel_rfl) (all_cons (by kernel_rfl) (all_cons (by kernel_rfl) (all_cons (by kernel_rfl) (all_cons (by kernel_rfl) (all_cons (by kernel_rfl) (all_cons (by kernel_rfl) (all_cons (by kernel_rfl) (all_cons (by kernel_rfl) (all_cons (by kernel_rfl) (all_cons (by kernel_rfl) (all_cons (by kernel_rfl) (all_cons (by kernel_rfl) (all_cons (by kernel_rfl) (all_cons (by kernel_rfl) (all_cons (by kernel_rfl) (all_cons (by kernel_rfl) (all_cons (by kernel_rfl) (all_cons (by kernel_rfl) (all_cons (by kernel_rfl) (all_cons (by kernel_rfl) (all_cons (by kernel_rfl) (all_cons (by kernel_rfl) (all_cons (by kernel_rfl) (all_cons (by kernel_rfl) all_nil)))))))))))))))))))))))))))))))))))))))))))))))))))))))))))
theorem vw_eq : vw = View.of Try.prog := View.mkT_eq vwT_ok vwF_ok
theorem ord_5_0 : orderOk (rg Try.prog 5 0) = true := by kernel_rfl
theorem bef_5_0 : Region.before (rg Try.prog 5 0) = #[0, 0, 3, 7, 15, 15, 15, 111, 255, 511, 1023, 2047, 2047, 8191, 16383, 2047, 2047, 100351, 231423, 524287, 1048575] := by kernel_rfl
theorem ord_7_0 : orderOk (rg Try.prog 7 0) = true := by kernel_rfl
theorem bef_7_0 : Region.before (rg Try.prog 7 0) = #[0, 1, 3, 3, 15, 31, 63, 127, 255, 511, 1023, 2047, 4095, 4095, 16383, 32767, 4095, 4095, 200703, 462847, 1048575, 2097151, 4194303] := by kernel_rfl
theorem ord_11_0 : orderOk (rg Try.prog 11 0) = true := by kernel_rfl
theorem bef_11_0 : Region.before (rg Try.prog 11 0) = #[0, 0, 2, 0, 8, 0, 32, 96, 224, 510, 1022, 2047, 4095] := by kernel_rfl
theorem ord_13_0 : orderOk (rg Try.prog 13 0) = true := by kernel_rfl
theorem bef_13_0 : Region.before (rg Try.prog 13 0) = #[0, 0, 2, 7, 15, 0, 63, 127, 255, 255, 0, 1535, 4095] := by kernel_rfl
theorem ord_15_0 : orderOk (rg Try.prog 15 0) = true := by kernel_rfl
theorem bef_15_0 : Region.before (rg Try.prog 15 0) = #[0, 0, 3, 7, 0, 0, 48, 112, 255] := by kernel_rfl
theorem ord_16_0 : orderOk (rg Try.prog 16 0) = true := by kernel_rfl
theorem bef_16_0 : Region.before (rg Try.prog 16 0) = #[0, 0, 3, 7, 0, 0, 48, 112, 255, 511] := by kernel_rfl
theorem ord_20_0 : orderOk (rg Try.prog 20 0) = true := by kernel_rfl
theorem bef_20_0 : Region.before (rg Try.prog 20 0) = #[0, 0, 3, 7, 15, 0, 0, 96, 224, 480, 1023, 2047, 4095, 4095, 16383, 32767, 65535, 4095, 4095, 397311, 921599, 1970175, 4194303, 8388607] := by kernel_rfl
theorem ord_27_0 : orderOk (rg Try.prog 27 0) = true := by kernel_rfl
theorem bef_27_0 : Region.before (rg Try.prog 27 0) = #[0, 1, 3, 7, 15, 31, 15, 127, 255, 511, 1023, 2047, 4095, 8191, 8191, 24575, 65535, 131071, 8191, 524287, 1048575, 2097151] := by kernel_rfl
theorem ord_28_0 : orderOk (rg Try.prog 28 0) = true := by kernel_rfl
theorem bef_28_0 : Region.before (rg Try.prog 28 0) = #[0, 0, 2, 7, 15, 0, 63, 127, 255, 255, 0, 1535, 4095] := by kernel_rfl
theorem ord_30_0 : orderOk (rg Try.prog 30 0) = true := by kernel_rfl
theorem bef_30_0 : Region.before (rg Try.prog 30 0) = #[0, 0, 2, 7, 15, 0, 0, 96, 224, 511, 1023] := by kernel_rfl
theorem ord_31_0 : orderOk (rg Try.prog 31 0) = true := by kernel_rfl
theorem bef_31_0 : Region.before (rg Try.prog 31 0) = #[0, 0, 3, 7, 15, 0, 0, 96, 224, 480, 1023, 0, 4095] := by kernel_rfl
theorem ord_31_1 : orderOk (rg Try.prog 31 1) = true := by kernel_rfl
theorem bef_31_1 : Region.before (rg Try.prog 31 1) = #[0, 0, 0, 6, 14, 30, 0, 126, 0, 511, 1023] := by kernel_rfl
theorem ord_33_0 : orderOk (rg Try.prog 33 0) = true := by kernel_rfl
theorem bef_33_0 : Region.before (rg Try.prog 33 0) = #[0, 1, 3, 0, 8, 31, 63, 127] := by kernel_rfl
theorem ord_34_0 : orderOk (rg Try.prog 34 0) = true := by kernel_rfl
theorem bef_34_0 : Region.before (rg Try.prog 34 0) = #[0, 1, 0, 4, 15, 31, 63] := by kernel_rfl
theorem ord_34_1 : orderOk (rg Try.prog 34 1) = true := by kernel_rfl
theorem bef_34_1 : Region.before (rg Try.prog 34 1) = #[0, 0, 2, 6, 15, 31, 0, 127, 255, 511, 511, 0, 3071, 8191] := by kernel_rfl
theorem ord_44_0 : orderOk (rg Try.prog 44 0) = true := by kernel_rfl
theorem bef_44_0 : Region.before (rg Try.prog 44 0) = #[0, 1, 0, 0, 8, 28, 63] := by kernel_rfl
theorem ord_45_0 : orderOk (rg Try.prog 45 0) = true := by kernel_rfl
theorem bef_45_0 : Region.before (rg Try.prog 45 0) = #[0, 1, 3, 7, 15, 31, 15, 79, 207, 511, 1023, 2047, 4095, 8191, 16383, 32767, 65535, 131071, 262143, 524287, 1048575, 2097151, 4194303, 8388607, 16777215, 4194303, 37748735, 134217727, 268435455, 536870911] := by kernel_rfl
theorem ord_59_0 : orderOk (rg Try.prog 59 0) = true := by kernel_rfl
theorem bef_59_0 : Region.before (rg Try.prog 59 0) = #[0, 1, 0, 7, 0, 16, 0, 64, 240, 0, 0, 1536, 4080, 15, 16383] := by kernel_rfl
theorem ord_60_0 : orderOk (rg Try.prog 60 0) = true := by kernel_rfl
theorem bef_60_0 : Region.before (rg Try.prog 60 0) = #[0, 1, 0, 4, 0, 16, 0, 64, 0, 0, 512, 1792, 4095, 8191] := by kernel_rfl
theorem clones : CloneOk Try.prog cf.clone :=
  (cloneOk_cons (clone_at Try.func32 rfl rfl rfl (by kernel_rfl) (t := 35) (by kernel_rfl)) (cloneOk_cons (clone_at Try.func52 rfl rfl rfl (by kernel_rfl) (t := 35) (by kernel_rfl)) (cloneOk_cons (clone_at Try.func55 rfl rfl rfl (by kernel_rfl) (t := 22) (by kernel_rfl)) (cloneOk_nil _))))
end Ab
end Go.Proofs.Ytadipihpgcelmaa
