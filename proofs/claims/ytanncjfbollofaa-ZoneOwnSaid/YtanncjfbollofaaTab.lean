/- Functions, as they answer: printed by a program of this repo, out of the program's form; each with its proof. -/
import Derived.Test.YtanncjfbollofaaRows
import Derived.Test.YtanncjfbollofaaAbsY
namespace Go.Proofs.Ytanncjfbollofaa
open Go Go.Proofs.Ytanncjfbollofaa.Ab
set_option linter.unusedVariables false
set_option linter.unusedSimpArgs false
set_option maxRecDepth 1000000
namespace Ab
def cf : Cfg := { inl := [30, 31, 34, 35, 36, 38, 39], thaw := [(11, [[0, 0, 1, 0], []])], move := [37], clone := [(29, 1, 1)] }
noncomputable def vwT : List (Nat × TI) := [(1, (TI.mk 1 8 [(AV.sc Go.Value.nilFunc)] (AV.sc Go.Value.nilFunc) TK.func)),
  (2, (TI.mk 1 8 [(AV.i 0)] (AV.i 0) (TK.int Go.IntKind.i64))),
  (3, (TI.mk 1 8 [(AV.i 0)] (AV.i 0) (TK.int Go.IntKind.i64))),
  (4, (TI.mk 1 1 [(AV.b Bool.false)] (AV.b Bool.false) TK.bool)),
  (5, (TI.mk 1 1 [(AV.y (UInt8.ofNat (0 : Nat)))] (AV.y (UInt8.ofNat (0 : Nat))) (TK.int Go.IntKind.u8))),
  (6, (TI.mk 1 1 [(AV.y (UInt8.ofNat (0 : Nat)))] (AV.y (UInt8.ofNat (0 : Nat))) (TK.int Go.IntKind.u8))),
  (7, (TI.mk 4 24 [(AV.i 0), (AV.i 0), (AV.b Bool.false), (AV.y (UInt8.ofNat (0 : Nat)))] (AV.ag [(AV.i 0), (AV.i 0), (AV.b Bool.false), (AV.y (UInt8.ofNat (0 : Nat)))]) (TK.struct [((0 : Nat), ((1 : Nat), Bool.false)), ((1 : Nat), ((1 : Nat), Bool.false)), ((2 : Nat), ((1 : Nat), Bool.false)), ((3 : Nat), ((1 : Nat), Bool.false))]))),
  (8, (TI.mk 4 24 [(AV.i 0), (AV.i 0), (AV.b Bool.false), (AV.y (UInt8.ofNat (0 : Nat)))] (AV.ag [(AV.i 0), (AV.i 0), (AV.b Bool.false), (AV.y (UInt8.ofNat (0 : Nat)))]) (TK.struct [((0 : Nat), ((1 : Nat), Bool.false)), ((1 : Nat), ((1 : Nat), Bool.false)), ((2 : Nat), ((1 : Nat), Bool.false)), ((3 : Nat), ((1 : Nat), Bool.false))]))),
  (9, (TI.mk 1 16 [(AV.st ([] : List UInt8))] (AV.st ([] : List UInt8)) TK.string)),
  (10, (TI.mk 1 16 [(AV.st ([] : List UInt8))] (AV.st ([] : List UInt8)) TK.string)),
  (11, (TI.mk 1 16 [(AV.st ([] : List UInt8))] (AV.st ([] : List UInt8)) TK.string)),
  (12, (TI.mk 1 8 [(AV.sc (Go.Value.int Go.IntKind.u64 0))] (AV.sc (Go.Value.int Go.IntKind.u64 0)) (TK.int Go.IntKind.u64))),
  (13, (TI.mk 2 24 [(AV.st ([] : List UInt8)), (AV.sc (Go.Value.int Go.IntKind.u64 0))] (AV.ag [(AV.st ([] : List UInt8)), (AV.sc (Go.Value.int Go.IntKind.u64 0))]) (TK.struct [((0 : Nat), ((1 : Nat), Bool.false)), ((1 : Nat), ((1 : Nat), Bool.false))]))),
  (14, (TI.mk 2 24 [(AV.st ([] : List UInt8)), (AV.sc (Go.Value.int Go.IntKind.u64 0))] (AV.ag [(AV.st ([] : List UInt8)), (AV.sc (Go.Value.int Go.IntKind.u64 0))]) (TK.struct [((0 : Nat), ((1 : Nat), Bool.false)), ((1 : Nat), ((1 : Nat), Bool.false))]))),
  (15, (TI.mk 1 8 [(AV.sc (Go.Value.pointer Option.none))] (AV.sc (Go.Value.pointer Option.none)) (TK.ptr (52 : Nat)))),
  (16, (TI.mk 1 8 [(AV.sc (Go.Value.pointer Option.none))] (AV.sc (Go.Value.pointer Option.none)) (TK.ptr (55 : Nat)))),
  (17, (TI.mk 1 8 [(AV.sc (Go.Value.pointer Option.none))] (AV.sc (Go.Value.pointer Option.none)) (TK.ptr (65 : Nat)))),
  (18, (TI.mk 1 8 [(AV.sc (Go.Value.pointer Option.none))] (AV.ag [(AV.sc (Go.Value.pointer Option.none))]) (TK.struct [((0 : Nat), ((1 : Nat), Bool.false))]))),
  (19, (TI.mk 1 8 [(AV.sc (Go.Value.pointer Option.none))] (AV.ag [(AV.sc (Go.Value.pointer Option.none))]) (TK.struct [((0 : Nat), ((1 : Nat), Bool.false))]))),
  (20, (TI.mk 1 16 [(AV.sc Go.Value.nilIface)] (AV.sc Go.Value.nilIface) TK.other)),
  (21, (TI.mk 1 4 [(AV.sc (Go.Value.int Go.IntKind.i32 0))] (AV.sc (Go.Value.int Go.IntKind.i32 0)) (TK.int Go.IntKind.i32))),
  (22, (TI.mk 1 8 [(AV.sc Go.Value.nilFunc)] (AV.sc Go.Value.nilFunc) TK.func)),
  (23, (TI.mk 1 24 [AV.nl] AV.nl (TK.slice (5 : Nat)))),
  (24, (TI.mk 4 48 [(AV.i 0), (AV.i 0), AV.nl, (AV.i 0)] (AV.ag [(AV.i 0), (AV.i 0), AV.nl, (AV.i 0)]) (TK.struct [((0 : Nat), ((1 : Nat), Bool.false)), ((1 : Nat), ((1 : Nat), Bool.false)), ((2 : Nat), ((1 : Nat), Bool.false)), ((3 : Nat), ((1 : Nat), Bool.false))]))),
  (25, (TI.mk 4 48 [(AV.i 0), (AV.i 0), AV.nl, (AV.i 0)] (AV.ag [(AV.i 0), (AV.i 0), AV.nl, (AV.i 0)]) (TK.struct [((0 : Nat), ((1 : Nat), Bool.false)), ((1 : Nat), ((1 : Nat), Bool.false)), ((2 : Nat), ((1 : Nat), Bool.false)), ((3 : Nat), ((1 : Nat), Bool.false))]))),
  (26, (TI.mk 1 8 [(AV.i 0)] (AV.i 0) (TK.int Go.IntKind.i64))),
  (28, (TI.mk 1 8 [(AV.sc Go.Value.nilFunc)] (AV.sc Go.Value.nilFunc) TK.func)),
  (29, (TI.mk 1 8 [(AV.sc Go.Value.nilFunc)] (AV.sc Go.Value.nilFunc) TK.func)),
  (30, (TI.mk 1 8 [(AV.sc Go.Value.nilFunc)] (AV.sc Go.Value.nilFunc) TK.func)),
  (31, (TI.mk 1 8 [(AV.sc Go.Value.nilFunc)] (AV.sc Go.Value.nilFunc) TK.func)),
  (32, (TI.mk 1 8 [(AV.sc Go.Value.nilFunc)] (AV.sc Go.Value.nilFunc) TK.func)),
  (33, (TI.mk 1 8 [(AV.sc Go.Value.nilFunc)] (AV.sc Go.Value.nilFunc) TK.func)),
  (34, (TI.mk 1 8 [(AV.sc Go.Value.nilFunc)] (AV.sc Go.Value.nilFunc) TK.func)),
  (35, (TI.mk 1 8 [(AV.sc Go.Value.nilFunc)] (AV.sc Go.Value.nilFunc) TK.func)),
  (36, (TI.mk 1 8 [(AV.sc Go.Value.nilFunc)] (AV.sc Go.Value.nilFunc) TK.func)),
  (37, (TI.mk 1 8 [(AV.sc Go.Value.nilFunc)] (AV.sc Go.Value.nilFunc) TK.func)),
  (38, (TI.mk 1 8 [(AV.sc Go.Value.nilFunc)] (AV.sc Go.Value.nilFunc) TK.func)),
  (39, (TI.mk 1 24 [AV.nl] AV.nl (TK.slice (41 : Nat)))),
  (40, (TI.mk 3 40 [(AV.i 0), AV.nl, (AV.i 0)] (AV.ag [(AV.i 0), AV.nl, (AV.i 0)]) (TK.struct [((0 : Nat), ((1 : Nat), Bool.false)), ((1 : Nat), ((1 : Nat), Bool.false)), ((2 : Nat), ((1 : Nat), Bool.false))]))),
  (41, (TI.mk 3 40 [(AV.i 0), AV.nl, (AV.i 0)] (AV.ag [(AV.i 0), AV.nl, (AV.i 0)]) (TK.struct [((0 : Nat), ((1 : Nat), Bool.false)), ((1 : Nat), ((1 : Nat), Bool.false)), ((2 : Nat), ((1 : Nat), Bool.false))]))),
  (42, (TI.mk 1 8 [(AV.sc Go.Value.nilFunc)] (AV.sc Go.Value.nilFunc) TK.func)),
  (43, (TI.mk 1 8 [(AV.sc Go.Value.nilFunc)] (AV.sc Go.Value.nilFunc) TK.func)),
  (44, (TI.mk 1 8 [(AV.sc Go.Value.nilFunc)] (AV.sc Go.Value.nilFunc) TK.func)),
  (45, (TI.mk 1 8 [(AV.sc Go.Value.nilFunc)] (AV.sc Go.Value.nilFunc) TK.func)),
  (46, (TI.mk 1 8 [(AV.sc (Go.Value.pointer Option.none))] (AV.sc (Go.Value.pointer Option.none)) (TK.ptr (25 : Nat)))),
  (47, (TI.mk 1 8 [(AV.sc Go.Value.nilFunc)] (AV.sc Go.Value.nilFunc) TK.func)),
  (48, (TI.mk 1 8 [(AV.sc Go.Value.nilFunc)] (AV.sc Go.Value.nilFunc) TK.func)),
  (49, (TI.mk 1 8 [(AV.sc Go.Value.nilFunc)] (AV.sc Go.Value.nilFunc) TK.func)),
  (50, (TI.mk 1 8 [(AV.sc Go.Value.nilFunc)] (AV.sc Go.Value.nilFunc) TK.func)),
  (51, (TI.mk 4 40 [(AV.sc (Go.Value.pointer Option.none)), (AV.sc (Go.Value.pointer Option.none)), (AV.sc (Go.Value.pointer Option.none)), (AV.st ([] : List UInt8))] (AV.ag [(AV.sc (Go.Value.pointer Option.none)), (AV.sc (Go.Value.pointer Option.none)), (AV.sc (Go.Value.pointer Option.none)), (AV.st ([] : List UInt8))]) (TK.struct [((0 : Nat), ((1 : Nat), Bool.false)), ((1 : Nat), ((1 : Nat), Bool.false)), ((2 : Nat), ((1 : Nat), Bool.false)), ((3 : Nat), ((1 : Nat), Bool.false))]))),
  (52, (TI.mk 4 40 [(AV.sc (Go.Value.pointer Option.none)), (AV.sc (Go.Value.pointer Option.none)), (AV.sc (Go.Value.pointer Option.none)), (AV.st ([] : List UInt8))] (AV.ag [(AV.sc (Go.Value.pointer Option.none)), (AV.sc (Go.Value.pointer Option.none)), (AV.sc (Go.Value.pointer Option.none)), (AV.st ([] : List UInt8))]) (TK.struct [((0 : Nat), ((1 : Nat), Bool.false)), ((1 : Nat), ((1 : Nat), Bool.false)), ((2 : Nat), ((1 : Nat), Bool.false)), ((3 : Nat), ((1 : Nat), Bool.false))]))),
  (53, (TI.mk 0 0 ([] : List AV) (AV.ag ([] : List AV)) (TK.array 0 (16 : Nat)))),
  (54, (TI.mk 0 0 ([] : List AV) (AV.ag ([] : List AV)) (TK.struct [((0 : Nat), ((0 : Nat), Bool.true))]))),
  (55, (TI.mk 0 0 ([] : List AV) (AV.ag ([] : List AV)) (TK.struct [((0 : Nat), ((0 : Nat), Bool.true))]))),
  (56, (TI.mk 1 8 [(AV.sc Go.Value.nilFunc)] (AV.sc Go.Value.nilFunc) TK.func)),
  (57, (TI.mk 1 4 [(AV.sc (Go.Value.int Go.IntKind.u32 0))] (AV.sc (Go.Value.int Go.IntKind.u32 0)) (TK.int Go.IntKind.u32))),
  (58, (TI.mk 1 1 [(AV.y (UInt8.ofNat (0 : Nat)))] (AV.y (UInt8.ofNat (0 : Nat))) (TK.int Go.IntKind.u8))),
  (59, (TI.mk 1 1 [(AV.y (UInt8.ofNat (0 : Nat)))] (AV.y (UInt8.ofNat (0 : Nat))) (TK.int Go.IntKind.u8))),
  (60, (TI.mk 1 8 [(AV.sc Go.Value.nilFunc)] (AV.sc Go.Value.nilFunc) TK.func)),
  (61, (TI.mk 1 8 [(AV.sc (Go.Value.pointer Option.none))] (AV.sc (Go.Value.pointer Option.none)) (TK.ptr (5 : Nat)))),
  (62, (TI.mk 1 4 [(AV.sc (Go.Value.int Go.IntKind.i32 0))] (AV.sc (Go.Value.int Go.IntKind.i32 0)) (TK.int Go.IntKind.i32))),
  (63, (TI.mk 1 4 [(AV.sc (Go.Value.int Go.IntKind.i32 0))] (AV.sc (Go.Value.int Go.IntKind.i32 0)) (TK.int Go.IntKind.i32))),
  (64, (TI.mk 11 48 [(AV.sc (Go.Value.int Go.IntKind.u64 0)), (AV.sc (Go.Value.int Go.IntKind.u64 0)), (AV.sc (Go.Value.int Go.IntKind.u32 0)), (AV.y (UInt8.ofNat (0 : Nat))), (AV.y (UInt8.ofNat (0 : Nat))), (AV.y (UInt8.ofNat (0 : Nat))), (AV.y (UInt8.ofNat (0 : Nat))), (AV.sc Go.Value.nilFunc), (AV.sc (Go.Value.pointer Option.none)), (AV.sc (Go.Value.int Go.IntKind.i32 0)), (AV.sc (Go.Value.int Go.IntKind.i32 0))] (AV.ag [(AV.sc (Go.Value.int Go.IntKind.u64 0)), (AV.sc (Go.Value.int Go.IntKind.u64 0)), (AV.sc (Go.Value.int Go.IntKind.u32 0)), (AV.y (UInt8.ofNat (0 : Nat))), (AV.y (UInt8.ofNat (0 : Nat))), (AV.y (UInt8.ofNat (0 : Nat))), (AV.y (UInt8.ofNat (0 : Nat))), (AV.sc Go.Value.nilFunc), (AV.sc (Go.Value.pointer Option.none)), (AV.sc (Go.Value.int Go.IntKind.i32 0)), (AV.sc (Go.Value.int Go.IntKind.i32 0))]) (TK.struct [((0 : Nat), ((1 : Nat), Bool.false)), ((1 : Nat), ((1 : Nat), Bool.false)), ((2 : Nat), ((1 : Nat), Bool.false)), ((3 : Nat), ((1 : Nat), Bool.false)), ((4 : Nat), ((1 : Nat), Bool.false)), ((5 : Nat), ((1 : Nat), Bool.false)), ((6 : Nat), ((1 : Nat), Bool.false)), ((7 : Nat), ((1 : Nat), Bool.false)), ((8 : Nat), ((1 : Nat), Bool.false)), ((9 : Nat), ((1 : Nat), Bool.false)), ((10 : Nat), ((1 : Nat), Bool.false))]))),
  (65, (TI.mk 11 48 [(AV.sc (Go.Value.int Go.IntKind.u64 0)), (AV.sc (Go.Value.int Go.IntKind.u64 0)), (AV.sc (Go.Value.int Go.IntKind.u32 0)), (AV.y (UInt8.ofNat (0 : Nat))), (AV.y (UInt8.ofNat (0 : Nat))), (AV.y (UInt8.ofNat (0 : Nat))), (AV.y (UInt8.ofNat (0 : Nat))), (AV.sc Go.Value.nilFunc), (AV.sc (Go.Value.pointer Option.none)), (AV.sc (Go.Value.int Go.IntKind.i32 0)), (AV.sc (Go.Value.int Go.IntKind.i32 0))] (AV.ag [(AV.sc (Go.Value.int Go.IntKind.u64 0)), (AV.sc (Go.Value.int Go.IntKind.u64 0)), (AV.sc (Go.Value.int Go.IntKind.u32 0)), (AV.y (UInt8.ofNat (0 : Nat))), (AV.y (UInt8.ofNat (0 : Nat))), (AV.y (UInt8.ofNat (0 : Nat))), (AV.y (UInt8.ofNat (0 : Nat))), (AV.sc Go.Value.nilFunc), (AV.sc (Go.Value.pointer Option.none)), (AV.sc (Go.Value.int Go.IntKind.i32 0)), (AV.sc (Go.Value.int Go.IntKind.i32 0))]) (TK.struct [((0 : Nat), ((1 : Nat), Bool.false)), ((1 : Nat), ((1 : Nat), Bool.false)), ((2 : Nat), ((1 : Nat), Bool.false)), ((3 : Nat), ((1 : Nat), Bool.false)), ((4 : Nat), ((1 : Nat), Bool.false)), ((5 : Nat), ((1 : Nat), Bool.false)), ((6 : Nat), ((1 : Nat), Bool.false)), ((7 : Nat), ((1 : Nat), Bool.false)), ((8 : Nat), ((1 : Nat), Bool.false)), ((9 : Nat), ((1 : Nat), Bool.false)), ((10 : Nat), ((1 : Nat), Bool.false))]))),
  (66, (TI.mk 1 8 [(AV.sc (Go.Value.pointer Option.none))] (AV.sc (Go.Value.pointer Option.none)) TK.other))]
noncomputable def vwF : List (Nat × AF) := [(2, afOf Try.f2), (3, afOf Try.f3), (4, afOf Try.f4), (5, afOf Try.f5), (6, afOf Try.f6), (7, afOf Try.f7), (8, afOf Try.f8), (9, afOf Try.f9), (10, afOf Try.f10), (11, afOf Try.f11), (12, afOf Try.f12), (13, afOf Try.f13), (14, afOf Try.f14), (15, afOf Try.f15), (16, afOf Try.f16), (17, afOf Try.f17), (18, afOf Try.f18), (19, afOf Try.f19), (20, afOf Try.f20), (21, afOf Try.f21), (22, afOf Try.f22), (23, afOf Try.f23), (24, afOf Try.f24), (25, afOf Try.f25), (26, afOf Try.f26), (27, afOf Try.f27), (28, afOf Try.f28), (29, afOf Try.f29), (30, afOf Try.f30), (31, afOf Try.f31), (32, afOf Try.f32), (33, afOf Try.f33), (34, afOf Try.f34), (35, afOf Try.f35), (36, afOf Try.f36), (37, afOf Try.f37), (38, afOf Try.f38), (39, afOf Try.f39)]
noncomputable def vw : View := View.mkT Try.prog vwT vwF
theorem vwT_ok : ∀ x ∈ vwT, tinfo Try.prog x.1 = some x.2 := (all_cons (by kernel_rfl) (all_cons (by kernel_rfl) (all_cons (by kernel_rfl) (all_cons (by kernel_rfl) (all_cons (by kernel_rfl) (all_cons (by kernel_rfl) (all_cons (by kernel_rfl) (all_cons (by kernel_rfl) (all_cons (by kernel_rfl) (all_cons (by kernel_rfl) (all_cons (by kernel_rfl) (all_cons (by kernel_rfl) (all_cons (by kernel_rfl) (all_cons (by kernel_rfl) (all_cons (by kernel_rfl) (all_cons (by kernel_rfl) (all_cons (by kernel_rfl) (all_cons (by kernel_rfl) (all_cons (by kernel_rfl) (all_cons (by kernel_rfl) (all_cons (by kernel_rfl) (all_cons (by kernel_rfl) (all_cons (by kernel_rfl) (all_cons (by kernel_rfl) (all_cons (by kernel_rfl) (all_cons (by kernel_rfl) (all_cons (by kernel_rfl) (all_cons (by kernel_rfl) (all_cons (by kernel_rfl) (all_cons (by kernel_rfl) (all_cons (by kernel_rfl) (all_cons (by kernel_rfl) (all_cons (by kernel_rfl) (all_cons (by kernel_rfl) (all_cons (by kernel_rfl) (all_cons (by kernel_rfl) (all_cons (by kernel_rfl) (all_cons (by kernel_rfl) (all_cons (by kernel_rfl) (all_cons (by kernel_rfl) (all_cons (by kernel_rfl) (all_cons (by kernel_rfl) (all_cons (by kernel_rfl) (all_cons (by kernel_rfl) (all_cons (by kernel_rfl) (all_cons (by kernel_rfl) (all_cons (by kernel_rfl) (all_cons (by kernel_rfl) (all_cons (by kernel_rfl) (all_cons (by kernel_rfl) (all_cons (by kernel_rfl) (all_cons (by kernel_rfl) (all_cons (by kernel_rfl) (all_cons (by kernel_rfl) (all_cons (by kernel_rfl) (all_cons (by kernel_rfl) (all_cons (by kernel_rfl) (all_cons (by kernel_rfl) (all_cons (by kernel_rfl) (all_cons (by kernel_rfl) (all_cons (by kernel_rfl) (all_cons (by kernel_rfl) (all_cons (by kernel_rfl) (all_cons (by kernel_rfl) (all_cons (by kernel_rfl) all_nil)))))))))))))))))))))))))))))))))))))))))))))))))))))))))))))))))
theorem vwF_ok : ∀ x ∈ vwF, afun Try.prog x.1 = some x.2 := (all_cons (by kernel_rfl) (all_cons (by kernel_rfl) (all_cons (by kernel_rfl) (all_cons (by kernel_rfl) (all_cons (by kernel_rfl) (all_cons (by kernel_rfl) (all_cons (by kernel_rfl) (all_cons (by kernel_rfl) (all_cons (by kernel_rfl) (all_cons (by kernel_rfl) (all_cons (by kernel_rfl) (all_cons (by kernel_rfl) (all_cons (by kernel_rfl) (all_cons (by kernel_rfl) (all_cons (by kernel_rfl) (all_cons (by kernel_rfl) (all_cons (by kernel_rfl) (all_cons (by kernel_rfl) (all_cons (by kernel_rfl) (all_cons (by kernel_rfl) (all_cons (by kernel_rfl) (all_cons (by kernel_rfl) (all_cons (by kernel_rfl) (all_cons (by kernel_rfl) (all_cons (by kernel_rfl) (all_cons (by kernel_rfl) (all_cons (by kernel_rfl) (all_cons (by kernel_rfl) (all_cons (by kernel_rfl) (all_cons (by kernel_rfl) (all_cons (by kernel_rfl) (all_cons (by kernel_rfl) (all_cons (by kernel_rfl) (all_cons (by kernel_rfl) (all_cons (by kernel_rfl) (all_cons (by kernel_rfl) (all_cons (by kernel_rfl) (all_cons (by kernel_rfl) all_nil))))))))))))))))))))))))))))))))))))))
theorem vw_eq : vw = View.of Try.prog := View.mkT_eq vwT_ok vwF_ok
theorem ord_4_0 : orderOk (rg Try.prog 4 0) = true := by kernel_rfl
theorem bef_4_0 : Region.before (rg Try.prog 4 0) = #[0, 0, 0, 0, 12, 0, 60, 127, 255, 511, 511, 0, 3071, 8191] := by kernel_rfl
theorem ord_4_1 : orderOk (rg Try.prog 4 1) = true := by kernel_rfl
theorem bef_4_1 : Region.before (rg Try.prog 4 1) = #[0, 1, 0, 0, 8, 0, 56, 120, 248, 511, 1023] := by kernel_rfl
theorem ord_5_0 : orderOk (rg Try.prog 5 0) = true := by kernel_rfl
theorem bef_5_0 : Region.before (rg Try.prog 5 0) = #[0, 0, 0, 4, 12, 31, 63, 127, 127, 0, 767, 2047] := by kernel_rfl
theorem ord_5_1 : orderOk (rg Try.prog 5 1) = true := by kernel_rfl
theorem bef_5_1 : Region.before (rg Try.prog 5 1) = #[0, 0, 0, 4, 15, 31, 63, 63, 0, 383, 1023] := by kernel_rfl
theorem ord_6_0 : orderOk (rg Try.prog 6 0) = true := by kernel_rfl
theorem bef_6_0 : Region.before (rg Try.prog 6 0) = #[0, 1, 3, 7, 15, 31, 63, 127, 255, 511, 1023, 2047, 4095, 8191, 16383, 32767, 65535, 131071, 262143, 524287, 1048575, 262143, 2359295, 8388607, 16777215, 33554431, 67108863, 134217727, 268435455, 536870911, 1073741823, 2147483647, 4294967295, 8589934591, 2147483647, 2147483647, 53687091199, 2147483647, 259845521407, 534723428351, 1099511627775, 2199023255551, 4398046511103, 8796093022207, 17592186044415, 8796093022207, 70368744177663, 140737488355327, 281474976710655] := by kernel_rfl
theorem ord_7_0 : orderOk (rg Try.prog 7 0) = true := by kernel_rfl
theorem bef_7_0 : Region.before (rg Try.prog 7 0) = #[0, 0, 0, 0, 12, 0, 60, 127, 255, 511, 511, 0, 3071, 8191] := by kernel_rfl
theorem ord_8_0 : orderOk (rg Try.prog 8 0) = true := by kernel_rfl
theorem bef_8_0 : Region.before (rg Try.prog 8 0) = #[0, 0, 3, 7, 15, 15, 63, 127, 255, 511, 511, 2047, 4095, 8191, 16383, 16383, 65535, 131071, 262143, 524287, 1048575, 524287, 4194303, 8388607, 16777215, 33554431, 67108863, 67108863, 67108863, 536870911, 67108863, 67108863, 67108863, 8589934591, 17179869183, 34359738367, 68719476735] := by kernel_rfl
theorem ord_8_1 : orderOk (rg Try.prog 8 1) = true := by kernel_rfl
theorem bef_8_1 : Region.before (rg Try.prog 8 1) = #[0, 1, 3, 3, 15, 3, 3, 127, 255, 511, 1023, 2047, 2047, 8191, 2047, 2047, 65535, 131071, 262143, 524287, 1048575, 2097151, 4194303, 8388607, 8388607, 33554431, 67108863, 134217727, 268435455, 268435455, 1073741823, 2147483647, 4294967295, 8589934591, 8589934591, 34359738367, 68719476735, 137438953471, 274877906943, 274877906943, 1099511627775, 2199023255551, 4398046511103] := by kernel_rfl
theorem ord_9_0 : orderOk (rg Try.prog 9 0) = true := by kernel_rfl
theorem bef_9_0 : Region.before (rg Try.prog 9 0) = #[0, 0, 0, 0, 12, 28, 63, 0, 255] := by kernel_rfl
theorem ord_9_1 : orderOk (rg Try.prog 9 1) = true := by kernel_rfl
theorem bef_9_1 : Region.before (rg Try.prog 9 1) = #[0, 1, 0, 7, 15, 0, 32, 0, 224, 480, 1023, 2047] := by kernel_rfl
theorem ord_11_0 : orderOk (rg Try.prog 11 0) = true := by kernel_rfl
theorem bef_11_0 : Region.before (rg Try.prog 11 0) = #[0, 0, 2, 0, 0, 24, 62, 0, 255, 511, 511, 2047, 4095] := by kernel_rfl
theorem ord_17_0 : orderOk (rg Try.prog 17 0) = true := by kernel_rfl
theorem bef_17_0 : Region.before (rg Try.prog 17 0) = #[0, 0, 0, 6, 0, 31, 63, 127, 127, 255] := by kernel_rfl
theorem ord_20_0 : orderOk (rg Try.prog 20 0) = true := by kernel_rfl
theorem bef_20_0 : Region.before (rg Try.prog 20 0) = #[0, 0, 2, 6, 14, 30, 62, 126, 255, 511, 511, 2047, 4095] := by kernel_rfl
theorem ord_31_0 : orderOk (rg Try.prog 31 0) = true := by kernel_rfl
theorem bef_31_0 : Region.before (rg Try.prog 31 0) = #[0, 0, 2, 6, 14, 0, 62, 127, 255, 511] := by kernel_rfl
theorem ord_31_1 : orderOk (rg Try.prog 31 1) = true := by kernel_rfl
theorem bef_31_1 : Region.before (rg Try.prog 31 1) = #[0, 0, 2, 6, 0, 30, 63, 127, 255] := by kernel_rfl
theorem ord_36_0 : orderOk (rg Try.prog 36 0) = true := by kernel_rfl
theorem bef_36_0 : Region.before (rg Try.prog 36 0) = #[0, 0, 0, 4, 12, 28, 62, 0, 128, 384, 896, 1920, 4094, 8191, 16383, 32767] := by kernel_rfl
theorem ord_36_1 : orderOk (rg Try.prog 36 1) = true := by kernel_rfl
theorem bef_36_1 : Region.before (rg Try.prog 36 1) = #[0, 0, 2, 6, 14, 0, 32, 96, 224, 510, 1023, 2047, 4095] := by kernel_rfl
theorem ord_36_2 : orderOk (rg Try.prog 36 2) = true := by kernel_rfl
theorem bef_36_2 : Region.before (rg Try.prog 36 2) = #[0, 0, 2, 6, 0, 0, 62, 127, 255, 511] := by kernel_rfl
theorem ord_37_0 : orderOk (rg Try.prog 37 0) = true := by kernel_rfl
theorem bef_37_0 : Region.before (rg Try.prog 37 0) = #[0, 1, 0, 4, 0, 0, 32, 112, 0, 256, 1023, 2047] := by kernel_rfl
theorem clones : CloneOk Try.prog cf.clone :=
  (cloneOk_cons (clone_at Try.func29 rfl rfl rfl (by kernel_rfl) (t := 23) (by kernel_rfl)) (cloneOk_nil _))
end Ab
end Go.Proofs.Ytanncjfbollofaa
