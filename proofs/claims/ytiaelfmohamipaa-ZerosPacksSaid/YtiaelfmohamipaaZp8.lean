/- The law 'ZerosPacks': it returns true, and nothing that was there changes. No condition. (Part 8 of 13.) -/
import Derived.Test.YtiaelfmohamipaaZp7
import Derived.Test.YtiaelfmohamipaaRows
namespace Go.Proofs.Ytiaelfmohamipaa
open Go Go.Proofs.Ytiaelfmohamipaa.Ab
set_option linter.unusedVariables false
set_option linter.unusedSimpArgs false
set_option maxRecDepth 1000000
namespace Ab
def cf : Cfg := { inl := [28, 40, 44, 45, 47, 48, 52, 53, 54], thaw := [(11, [[5], []]), (12, [[5], []]), (43, [[0, 0, 0, 0, 1]])], move := [11, 12, 13, 14, 24, 25, 29, 31, 37, 38, 43], clone := [(41, 1, 1), (51, 34, 48)] }
noncomputable def vwT : List (Nat × TI) := [(1, (TI.mk 1 8 [(AV.sc Go.Value.nilFunc)] (AV.sc Go.Value.nilFunc) TK.func)),
  (2, (TI.mk 1 8 [(AV.i 0)] (AV.i 0) (TK.int Go.IntKind.i64))),
  (3, (TI.mk 1 8 [(AV.i 0)] (AV.i 0) (TK.int Go.IntKind.i64))),
  (4, (TI.mk 1 1 [(AV.b Bool.false)] (AV.b Bool.false) TK.bool)),
  (5, (TI.mk 1 1 [(AV.y (UInt8.ofNat (0 : Nat)))] (AV.y (UInt8.ofNat (0 : Nat))) (TK.int Go.IntKind.u8))),
  (6, (TI.mk 1 1 [(AV.y (UInt8.ofNat (0 : Nat)))] (AV.y (UInt8.ofNat (0 : Nat))) (TK.int Go.IntKind.u8))),
  (7, (TI.mk 4 24 [(AV.i 0), (AV.i 0), (AV.b Bool.false), (AV.y (UInt8.ofNat (0 : Nat)))] (AV.ag [(AV.i 0), (AV.i 0), (AV.b Bool.false), (AV.y (UInt8.ofNat (0 : Nat)))]) (TK.struct [((0 : Nat), ((1 : Nat), Bool.false)), ((1 : Nat), ((1 : Nat), Bool.false)), ((2 : Nat), ((1 : Nat), Bool.false)), ((3 : Nat), ((1 : Nat), Bool.false))]))),
  (8, (TI.mk 4 24 [(AV.i 0), (AV.i 0), (AV.b Bool.false), (AV.y (UInt8.ofNat (0 : Nat)))] (AV.ag [(AV.i 0), (AV.i 0), (AV.b Bool.false), (AV.y (UInt8.ofNat (0 : Nat)))]) (TK.struct [((0 : Nat), ((1 : Nat), Bool.false)), ((1 : Nat), ((1 : Nat), Bool.false)), ((2 : Nat), ((1 : Nat), Bool.false)), ((3 : Nat), ((1 : Nat), Bool.false))]))),
  (9, (TI.mk 1 16 [(AV.st ([] : List UInt8))] (AV.st ([] : List UInt8)) TK.string)),
  (10, (TI.mk 1 16 [(AV.st ([] : List UInt8))] (AV.st ([] : List UInt8)) TK.string)),
  (11, (TI.mk 1 16 [(AV.st ([] : List UInt8))] (AV.st ([] : List UInt8)) TK.string)),
  (12, (TI.mk 1 8 [(AV.sc (Go.Value.int Go.IntKind.u64 0))] (AV.sc (Go.Value.int Go.IntKind.u64 0)) (TK.int Go.IntKind.u64))),
  (13, (TI.mk 2 24 [(AV.st ([] : List UInt8)), (AV.sc (Go.Value.int Go.IntKind.u64 0))] (AV.ag [(AV.st ([] : List UInt8)), (AV.sc (Go.Value.int Go.IntKind.u64 0))]) (TK.struct [((0 : Nat), ((1 : Nat), Bool.false)), ((1 : Nat), ((1 : Nat), Bool.false))]))),
  (14, (TI.mk 2 24 [(AV.st ([] : List UInt8)), (AV.sc (Go.Value.int Go.IntKind.u64 0))] (AV.ag [(AV.st ([] : List UInt8)), (AV.sc (Go.Value.int Go.IntKind.u64 0))]) (TK.struct [((0 : Nat), ((1 : Nat), Bool.false)), ((1 : Nat), ((1 : Nat), Bool.false))]))),
  (15, (TI.mk 1 8 [(AV.sc (Go.Value.pointer Option.none))] (AV.sc (Go.Value.pointer Option.none)) (TK.ptr (86 : Nat)))),
  (16, (TI.mk 1 8 [(AV.sc (Go.Value.pointer Option.none))] (AV.sc (Go.Value.pointer Option.none)) (TK.ptr (89 : Nat)))),
  (17, (TI.mk 1 8 [(AV.sc (Go.Value.pointer Option.none))] (AV.sc (Go.Value.pointer Option.none)) (TK.ptr (99 : Nat)))),
  (18, (TI.mk 1 8 [(AV.sc (Go.Value.pointer Option.none))] (AV.ag [(AV.sc (Go.Value.pointer Option.none))]) (TK.struct [((0 : Nat), ((1 : Nat), Bool.false))]))),
  (19, (TI.mk 1 8 [(AV.sc (Go.Value.pointer Option.none))] (AV.ag [(AV.sc (Go.Value.pointer Option.none))]) (TK.struct [((0 : Nat), ((1 : Nat), Bool.false))]))),
  (20, (TI.mk 1 16 [(AV.sc Go.Value.nilIface)] (AV.sc Go.Value.nilIface) TK.other)),
  (21, (TI.mk 1 4 [(AV.sc (Go.Value.int Go.IntKind.i32 0))] (AV.sc (Go.Value.int Go.IntKind.i32 0)) (TK.int Go.IntKind.i32))),
  (22, (TI.mk 1 24 [AV.nl] AV.nl (TK.slice (5 : Nat)))),
  (23, (TI.mk 1 24 [AV.nl] AV.nl (TK.slice (41 : Nat)))),
  (24, (TI.mk 1 8 [(AV.sc Go.Value.nilFunc)] (AV.sc Go.Value.nilFunc) TK.func)),
  (25, (TI.mk 1 8 [(AV.sc Go.Value.nilFunc)] (AV.sc Go.Value.nilFunc) TK.func)),
  (26, (TI.mk 1 24 [AV.nl] AV.nl (TK.slice (3 : Nat)))),
  (27, (TI.mk 1 8 [(AV.i 0)] (AV.i 0) (TK.int Go.IntKind.i64))),
  (29, (TI.mk 1 8 [(AV.sc Go.Value.nilFunc)] (AV.sc Go.Value.nilFunc) TK.func)),
  (31, (TI.mk 1 8 [(AV.sc Go.Value.nilFunc)] (AV.sc Go.Value.nilFunc) TK.func)),
  (32, (TI.mk 1 8 [(AV.sc Go.Value.nilFunc)] (AV.sc Go.Value.nilFunc) TK.func)),
  (33, (TI.mk 1 8 [(AV.sc Go.Value.nilFunc)] (AV.sc Go.Value.nilFunc) TK.func)),
  (34, (TI.mk 1 8 [(AV.sc Go.Value.nilFunc)] (AV.sc Go.Value.nilFunc) TK.func)),
  (35, (TI.mk 1 8 [(AV.sc Go.Value.nilFunc)] (AV.sc Go.Value.nilFunc) TK.func)),
  (36, (TI.mk 1 8 [(AV.sc Go.Value.nilFunc)] (AV.sc Go.Value.nilFunc) TK.func)),
  (37, (TI.mk 1 8 [(AV.sc Go.Value.nilFunc)] (AV.sc Go.Value.nilFunc) TK.func)),
  (38, (TI.mk 1 8 [(AV.sc Go.Value.nilFunc)] (AV.sc Go.Value.nilFunc) TK.func)),
  (39, (TI.mk 1 8 [(AV.sc Go.Value.nilFunc)] (AV.sc Go.Value.nilFunc) TK.func)),
  (40, (TI.mk 5 56 [(AV.i 0), (AV.i 0), (AV.i 0), (AV.i 0), AV.nl] (AV.ag [(AV.i 0), (AV.i 0), (AV.i 0), (AV.i 0), AV.nl]) (TK.struct [((0 : Nat), ((1 : Nat), Bool.false)), ((1 : Nat), ((1 : Nat), Bool.false)), ((2 : Nat), ((1 : Nat), Bool.false)), ((3 : Nat), ((1 : Nat), Bool.false)), ((4 : Nat), ((1 : Nat), Bool.false))]))),
  (41, (TI.mk 5 56 [(AV.i 0), (AV.i 0), (AV.i 0), (AV.i 0), AV.nl] (AV.ag [(AV.i 0), (AV.i 0), (AV.i 0), (AV.i 0), AV.nl]) (TK.struct [((0 : Nat), ((1 : Nat), Bool.false)), ((1 : Nat), ((1 : Nat), Bool.false)), ((2 : Nat), ((1 : Nat), Bool.false)), ((3 : Nat), ((1 : Nat), Bool.false)), ((4 : Nat), ((1 : Nat), Bool.false))]))),
  (42, (TI.mk 1 8 [(AV.sc Go.Value.nilFunc)] (AV.sc Go.Value.nilFunc) TK.func)),
  (43, (TI.mk 1 8 [(AV.sc Go.Value.nilFunc)] (AV.sc Go.Value.nilFunc) TK.func)),
  (44, (TI.mk 1 8 [(AV.sc Go.Value.nilFunc)] (AV.sc Go.Value.nilFunc) TK.func)),
  (45, (TI.mk 1 8 [(AV.sc Go.Value.nilFunc)] (AV.sc Go.Value.nilFunc) TK.func)),
  (46, (TI.mk 1 8 [(AV.sc Go.Value.nilFunc)] (AV.sc Go.Value.nilFunc) TK.func)),
  (47, (TI.mk 1 24 [AV.nl] AV.nl (TK.slice (67 : Nat)))),
  (49, (TI.mk 1 8 [(AV.sc Go.Value.nilFunc)] (AV.sc Go.Value.nilFunc) TK.func)),
  (51, (TI.mk 1 8 [(AV.sc Go.Value.nilFunc)] (AV.sc Go.Value.nilFunc) TK.func)),
  (52, (TI.mk 1 8 [(AV.sc Go.Value.nilFunc)] (AV.sc Go.Value.nilFunc) TK.func)),
  (53, (TI.mk 1 8 [(AV.sc Go.Value.nilFunc)] (AV.sc Go.Value.nilFunc) TK.func)),
  (54, (TI.mk 1 8 [(AV.sc Go.Value.nilFunc)] (AV.sc Go.Value.nilFunc) TK.func)),
  (55, (TI.mk 2 16 [(AV.b Bool.false), (AV.i 0)] (AV.ag [(AV.b Bool.false), (AV.i 0)]) (TK.struct [((0 : Nat), ((1 : Nat), Bool.false)), ((1 : Nat), ((1 : Nat), Bool.false))]))),
  (56, (TI.mk 2 16 [(AV.b Bool.false), (AV.i 0)] (AV.ag [(AV.b Bool.false), (AV.i 0)]) (TK.struct [((0 : Nat), ((1 : Nat), Bool.false)), ((1 : Nat), ((1 : Nat), Bool.false))]))),
  (57, (TI.mk 1 8 [(AV.sc Go.Value.nilFunc)] (AV.sc Go.Value.nilFunc) TK.func)),
  (59, (TI.mk 1 8 [(AV.sc Go.Value.nilFunc)] (AV.sc Go.Value.nilFunc) TK.func)),
  (60, (TI.mk 1 8 [(AV.sc Go.Value.nilFunc)] (AV.sc Go.Value.nilFunc) TK.func)),
  (61, (TI.mk 1 8 [(AV.sc Go.Value.nilFunc)] (AV.sc Go.Value.nilFunc) TK.func)),
  (62, (TI.mk 1 8 [(AV.sc Go.Value.nilFunc)] (AV.sc Go.Value.nilFunc) TK.func)),
  (63, (TI.mk 1 8 [(AV.sc Go.Value.nilFunc)] (AV.sc Go.Value.nilFunc) TK.func)),
  (64, (TI.mk 1 8 [(AV.sc Go.Value.nilFunc)] (AV.sc Go.Value.nilFunc) TK.func)),
  (65, (TI.mk 32 32 (List.replicate (32 : Nat) (AV.y (UInt8.ofNat (0 : Nat)))) (AV.ag (List.replicate (32 : Nat) (AV.y (UInt8.ofNat (0 : Nat))))) (TK.array 32 (5 : Nat)))),
  (66, (TI.mk 34 48 ((AV.i 0) :: (AV.i 0) :: List.replicate (32 : Nat) (AV.y (UInt8.ofNat (0 : Nat)))) (AV.ag ((AV.i 0) :: (AV.i 0) :: List.replicate (32 : Nat) (AV.y (UInt8.ofNat (0 : Nat))))) (TK.struct [((0 : Nat), ((1 : Nat), Bool.false)), ((1 : Nat), ((1 : Nat), Bool.false)), ((2 : Nat), ((32 : Nat), Bool.true))]))),
  (67, (TI.mk 34 48 ((AV.i 0) :: (AV.i 0) :: List.replicate (32 : Nat) (AV.y (UInt8.ofNat (0 : Nat)))) (AV.ag ((AV.i 0) :: (AV.i 0) :: List.replicate (32 : Nat) (AV.y (UInt8.ofNat (0 : Nat))))) (TK.struct [((0 : Nat), ((1 : Nat), Bool.false)), ((1 : Nat), ((1 : Nat), Bool.false)), ((2 : Nat), ((32 : Nat), Bool.true))]))),
  (68, (TI.mk 1 8 [(AV.sc Go.Value.nilFunc)] (AV.sc Go.Value.nilFunc) TK.func)),
  (69, (TI.mk 1 8 [(AV.sc Go.Value.nilFunc)] (AV.sc Go.Value.nilFunc) TK.func)),
  (70, (TI.mk 1 8 [(AV.sc Go.Value.nilFunc)] (AV.sc Go.Value.nilFunc) TK.func)),
  (71, (TI.mk 1 8 [(AV.sc Go.Value.nilFunc)] (AV.sc Go.Value.nilFunc) TK.func)),
  (72, (TI.mk 1 8 [(AV.sc Go.Value.nilFunc)] (AV.sc Go.Value.nilFunc) TK.func)),
  (73, (TI.mk 1 8 [(AV.sc Go.Value.nilFunc)] (AV.sc Go.Value.nilFunc) TK.func)),
  (74, (TI.mk 1 8 [(AV.sc Go.Value.nilFunc)] (AV.sc Go.Value.nilFunc) TK.func)),
  (75, (TI.mk 1 8 [(AV.sc Go.Value.nilFunc)] (AV.sc Go.Value.nilFunc) TK.func)),
  (76, (TI.mk 1 8 [(AV.sc Go.Value.nilFunc)] (AV.sc Go.Value.nilFunc) TK.func)),
  (78, (TI.mk 1 8 [(AV.sc Go.Value.nilFunc)] (AV.sc Go.Value.nilFunc) TK.func)),
  (79, (TI.mk 1 8 [(AV.sc Go.Value.nilFunc)] (AV.sc Go.Value.nilFunc) TK.func)),
  (80, (TI.mk 1 8 [(AV.sc Go.Value.nilFunc)] (AV.sc Go.Value.nilFunc) TK.func)),
  (81, (TI.mk 1 8 [(AV.sc Go.Value.nilFunc)] (AV.sc Go.Value.nilFunc) TK.func)),
  (82, (TI.mk 1 8 [(AV.sc Go.Value.nilFunc)] (AV.sc Go.Value.nilFunc) TK.func)),
  (83, (TI.mk 1 8 [(AV.sc Go.Value.nilFunc)] (AV.sc Go.Value.nilFunc) TK.func)),
  (84, (TI.mk 1 8 [(AV.sc Go.Value.nilFunc)] (AV.sc Go.Value.nilFunc) TK.func)),
  (85, (TI.mk 4 40 [(AV.sc (Go.Value.pointer Option.none)), (AV.sc (Go.Value.pointer Option.none)), (AV.sc (Go.Value.pointer Option.none)), (AV.st ([] : List UInt8))] (AV.ag [(AV.sc (Go.Value.pointer Option.none)), (AV.sc (Go.Value.pointer Option.none)), (AV.sc (Go.Value.pointer Option.none)), (AV.st ([] : List UInt8))]) (TK.struct [((0 : Nat), ((1 : Nat), Bool.false)), ((1 : Nat), ((1 : Nat), Bool.false)), ((2 : Nat), ((1 : Nat), Bool.false)), ((3 : Nat), ((1 : Nat), Bool.false))]))),
  (86, (TI.mk 4 40 [(AV.sc (Go.Value.pointer Option.none)), (AV.sc (Go.Value.pointer Option.none)), (AV.sc (Go.Value.pointer Option.none)), (AV.st ([] : List UInt8))] (AV.ag [(AV.sc (Go.Value.pointer Option.none)), (AV.sc (Go.Value.pointer Option.none)), (AV.sc (Go.Value.pointer Option.none)), (AV.st ([] : List UInt8))]) (TK.struct [((0 : Nat), ((1 : Nat), Bool.false)), ((1 : Nat), ((1 : Nat), Bool.false)), ((2 : Nat), ((1 : Nat), Bool.false)), ((3 : Nat), ((1 : Nat), Bool.false))]))),
  (87, (TI.mk 0 0 ([] : List AV) (AV.ag ([] : List AV)) (TK.array 0 (16 : Nat)))),
  (88, (TI.mk 0 0 ([] : List AV) (AV.ag ([] : List AV)) (TK.struct [((0 : Nat), ((0 : Nat), Bool.true))]))),
  (89, (TI.mk 0 0 ([] : List AV) (AV.ag ([] : List AV)) (TK.struct [((0 : Nat), ((0 : Nat), Bool.true))])))]
noncomputable def vwF : List (Nat × AF) := [(2, afOf Try.f2), (3, afOf Try.f3), (4, afOf Try.f4), (5, afOf Try.f5), (6, afOf Try.f6), (7, afOf Try.f7), (8, afOf Try.f8), (9, afOf Try.f9), (10, afOf Try.f10), (11, afOf Try.f11), (12, afOf Try.f12), (13, afOf Try.f13), (14, afOf Try.f14), (15, afOf Try.f15), (16, afOf Try.f16), (17, afOf Try.f17), (18, afOf Try.f18), (19, afOf Try.f19), (20, afOf Try.f20), (21, afOf Try.f21), (22, afOf Try.f22), (23, afOf Try.f23), (24, afOf Try.f24), (25, afOf Try.f25), (26, afOf Try.f26), (27, afOf Try.f27), (28, afOf Try.f28), (29, afOf Try.f29), (30, afOf Try.f30), (31, afOf Try.f31), (32, afOf Try.f32), (33, afOf Try.f33), (34, afOf Try.f34), (35, afOf Try.f35), (36, afOf Try.f36), (37, afOf Try.f37), (38, afOf Try.f38), (39, afOf Try.f39), (40, afOf Try.f40), (41, afOf Try.f41), (42, afOf Try.f42), (43, afOf Try.f43), (44, afOf Try.f44), (45, afOf Try.f45), (46, afOf Try.f46), (47, afOf Try.f47), (48, afOf Try.f48), (49, afOf Try.f49), (50, afOf Try.f50), (51, afOf Try.f51), (52, afOf Try.f52), (53, afOf Try.f53), (54, afOf Try.f54)]
noncomputable def vw : View := View.mkT Try.prog vwT vwF
theorem vwT_ok : ∀ x ∈ vwT, tinfo Try.prog x.1 = some x.2 := (all_cons kq (all_cons kq (all_cons kq (all_cons kq (all_cons kq (all_cons kq (all_cons kq (all_cons kq (all_cons kq (all_cons kq (all_cons kq (all_cons kq (all_cons kq (all_cons kq (all_cons kq (all_cons kq (all_cons kq (all_cons kq (all_cons kq (all_cons kq (all_cons kq (all_cons kq (all_cons kq (all_cons kq (all_cons kq (all_cons kq (all_cons kq (all_cons kq (all_cons kq (all_cons kq (all_cons kq (all_cons kq (all_cons kq (all_cons kq (all_cons kq (all_cons kq (all_cons kq (all_cons kq (all_cons kq (all_cons kq (all_cons kq (all_cons kq (all_cons kq (all_cons kq (all_cons kq (all_cons kq (all_cons kq (all_cons kq (all_cons kq (all_cons kq (all_cons kq (all_cons kq (all_cons kq (all_cons kq (all_cons kq (all_cons kq (all_cons kq (all_cons kq (all_cons kq (all_cons kq (all_cons kq (all_cons kq (all_cons kq (all_cons kq (all_cons kq (all_cons kq (all_cons kq (all_cons kq (all_cons kq (all_cons kq (all_cons kq (all_cons kq (all_cons kq (all_cons kq (all_cons kq (all_cons kq (all_cons kq (all_cons kq (all_cons kq (all_cons kq (all_cons kq (all_cons kq (all_cons kq all_nil)))))))))))))))))))))))))))))))))))))))))))))))))))))))))))))))))))))))))))))))))))
theorem vwF_ok : ∀ x ∈ vwF, afun Try.prog x.1 = some x.2 := (all_cons kq (all_cons kq (all_cons kq (all_cons kq (all_cons kq (all_cons kq (all_cons kq (all_cons kq (all_cons kq (all_cons kq (all_cons kq (all_cons kq (all_cons kq (all_cons kq (all_cons kq (all_cons kq (all_cons kq (all_cons kq (all_cons kq (all_cons kq (all_cons kq (all_cons kq (all_cons kq (all_cons kq (all_cons kq (all_cons kq (all_cons kq (all_cons kq (all_cons kq (all_cons kq (all_cons kq (all_cons kq (all_cons kq (all_cons kq (all_cons kq (all_cons kq (all_cons kq (all_cons kq (all_cons kq (all_cons kq (all_cons kq (all_cons kq (all_cons kq (all_cons kq (all_cons kq (all_cons kq (all_cons kq (all_cons kq (all_cons kq (all_cons kq (all_cons kq (all_cons kq (all_cons kq all_nil)))))))))))))))))))))))))))))))))))))))))))))))))))))
theorem vw_eq : vw = View.of Try.prog := View.mkT_eq vwT_ok vwF_ok
theorem ord_6_0 : orderOk (rg Try.prog 6 0) = true := by kernel_rfl
theorem bef_6_0 : Region.before (rg Try.prog 6 0) = #[0, 1, 3, 7, 7, 23, 63, 127, 7, 7, 775, 1799, 4095, 8191] := by kernel_rfl
theorem ord_11_0 : orderOk (rg Try.prog 11 0) = true := by kernel_rfl
theorem bef_11_0 : Region.before (rg Try.prog 11 0) = #[0, 0, 2, 7, 0, 0, 32, 96, 240, 15, 1023] := by kernel_rfl
theorem ord_13_0 : orderOk (rg Try.prog 13 0) = true := by kernel_rfl
theorem bef_13_0 : Region.before (rg Try.prog 13 0) = #[0, 0, 2, 7, 15, 0, 63, 127, 255, 255, 0, 1535, 4095] := by kernel_rfl
theorem ord_16_0 : orderOk (rg Try.prog 16 0) = true := by kernel_rfl
theorem bef_16_0 : Region.before (rg Try.prog 16 0) = #[0, 0, 3, 7, 0, 0, 48, 112, 255, 511] := by kernel_rfl
theorem ord_20_0 : orderOk (rg Try.prog 20 0) = true := by kernel_rfl
theorem bef_20_0 : Region.before (rg Try.prog 20 0) = #[0, 1, 3, 7, 15, 31, 15, 79, 207, 511, 1023, 2047, 4095, 8191, 16383, 32767, 65535, 131071, 262143, 524287, 1048575, 2097151, 4194303, 8388607, 16777215, 4194303, 37748735, 134217727, 268435455, 536870911] := by kernel_rfl
theorem ord_22_0 : orderOk (rg Try.prog 22 0) = true := by kernel_rfl
theorem bef_22_0 : Region.before (rg Try.prog 22 0) = #[0, 0, 3, 7, 15, 0, 0, 96, 224, 480, 1023, 2047] := by kernel_rfl
theorem ord_26_0 : orderOk (rg Try.prog 26 0) = true := by kernel_rfl
theorem bef_26_0 : Region.before (rg Try.prog 26 0) = #[0, 0, 2, 0, 8, 0, 32, 96, 224, 510, 1022, 2047, 4095] := by kernel_rfl
theorem ord_30_0 : orderOk (rg Try.prog 30 0) = true := by kernel_rfl
theorem bef_30_0 : Region.before (rg Try.prog 30 0) = #[0, 1, 3, 0, 8, 31, 63, 127] := by kernel_rfl
theorem ord_36_0 : orderOk (rg Try.prog 36 0) = true := by kernel_rfl
theorem bef_36_0 : Region.before (rg Try.prog 36 0) = #[0, 1, 3, 7, 15, 31, 15, 127, 255, 511, 1023, 2047, 4095, 8191, 8191, 24575, 65535, 131071, 8191, 524287, 1048575, 2097151] := by kernel_rfl
theorem ord_38_0 : orderOk (rg Try.prog 38 0) = true := by kernel_rfl
theorem bef_38_0 : Region.before (rg Try.prog 38 0) = #[0, 0, 2, 7, 15, 0, 63, 127, 255, 255, 0, 1535, 4095] := by kernel_rfl
theorem ord_49_0 : orderOk (rg Try.prog 49 0) = true := by kernel_rfl
theorem bef_49_0 : Region.before (rg Try.prog 49 0) = #[0, 1, 0, 7, 0, 16, 0, 64, 240, 0, 0, 1536, 4080, 15, 16383] := by kernel_rfl
theorem clones : CloneOk Try.prog cf.clone :=
  (cloneOk_cons (clone_at Try.func41 rfl rfl rfl (by kernel_rfl) (t := 22) (by kernel_rfl)) (cloneOk_cons (clone_at Try.func51 rfl rfl rfl (by kernel_rfl) (t := 47) (by kernel_rfl)) (cloneOk_nil _)))
end Ab
end Go.Proofs.Ytiaelfmohamipaa
namespace Go.Proofs.Ytiaelfmohamipaa
open Go Go.Proofs.Ytiaelfmohamipaa.Ab
set_option linter.unusedVariables false
set_option linter.unusedSimpArgs false
namespace Ab
theorem wr_id {x : Int} (h1 : -9223372036854775808 ≤ x) (h2 : x ≤ 9223372036854775807) : wr x = x := by
  simp [wr, IntKind.wrap, IntKind.bits, IntKind.signed]
  omega
section
variable {α β σ : Type}
@[simp] theorem tb_t (x y : Option α) : tb true x y = x := rfl
@[simp] theorem tb_f (x y : Option α) : tb false x y = y := rfl
theorem tb_pos {c : Bool} {x y : Option α} (h : c = true) : tb c x y = x := by subst h; rfl
theorem tb_neg {c : Bool} {x y : Option α} (h : c = false) : tb c x y = y := by subst h; rfl
theorem tp_pos {p : Prop} [Decidable p] {x : Option α} (h : p) : tp p x = x := if_pos h
@[simp] theorem tc_some (s : β) (f : β → Option α) : tc (some s) f = f s := rfl
theorem tb_ite (c : Bool) (x y : Option α) : tb c x y = if c = true then x else y := by cases c <;> rfl
theorem tb_dec (p : Prop) [Decidable p] (x y : Option α) : tb (decide p) x y = if p then x else y := by
  by_cases h : p <;> simp [h]
theorem tb_beq (a b : Int) (x y : Option α) : tb (a == b) x y = if a = b then x else y := by
  by_cases h : a = b
  · rw [if_pos h]; exact tb_pos (beq_iff_eq.2 h)
  · rw [if_neg h]; exact tb_neg (beq_eq_false_iff_ne.2 h)
theorem tb_bne (a b : Int) (x y : Option α) : tb (a != b) x y = if a = b then y else x := by
  by_cases h : a = b
  · rw [if_pos h]; exact tb_neg (bne_eq_false_iff_eq.2 h)
  · rw [if_neg h]; exact tb_pos (bne_iff_ne.2 h)
theorem tb_not (c : Bool) (x y : Option α) : tb (!c) x y = tb c y x := by cases c <;> rfl
theorem th_rec {step : σ → Option σ} {s0 : σ} {f : σ → Option α} (g : σ → Option α) (I : σ → Prop) (m : σ → Nat) (h0 : I s0)
    (h : ∀ s, I s → (∃ s', step s = some s' ∧ I s' ∧ m s' < m s ∧ g s' = g s) ∨ (step s = none ∧ f s = g s)) : th step s0 f = g s0 := by
  refine th_inv (fun s => I s ∧ g s = g s0) m ⟨h0, rfl⟩ (fun s s' hs e => ?_) (fun s hs e => ?_)
  · rcases h s hs.1 with ⟨s1, e1, i1, m1, g1⟩ | ⟨e1, _⟩
    · rw [e] at e1; injection e1 with e1; subst e1; exact ⟨⟨i1, g1.trans hs.2⟩, m1⟩
    · rw [e] at e1; cases e1
  · rcases h s hs.1 with ⟨s1, e1, _⟩ | ⟨_, e1⟩
    · rw [e] at e1; cases e1
    · rw [e1, hs.2]
theorem th_run {step : σ → Option σ} {f : σ → Option α} (S : Nat → σ) (k : Nat) (hs : ∀ i, i < k → step (S i) = some (S (i + 1))) (he : step (S k) = none) : th step (S 0) f = f (S k) := by
  have : ∀ n, n ≤ k → Runs step (S (k - n)) (S k) := by
    intro n
    induction n with
    | zero => exact fun _ => .refl _
    | succ n ih =>
      intro hn
      refine .step (hs _ (by omega)) ?_
      rw [show k - (n + 1) + 1 = k - n by omega]
      exact ih (by omega)
  have h := this k (Nat.le_refl _)
  rw [Nat.sub_self] at h
  exact th_of h he rfl
theorem th_all {step : Int → Option Int} {f : Int → Option α} (r1 r2 : Option α) (n : Nat) (P : Nat → Prop) (Q : Prop) [Decidable Q] (hQ : (∀ i, i < n → P i) ↔ Q) (hs : ∀ i : Nat, i < n → P i → step (i : Int) = some ((i : Int) + 1)) (hf : ∀ i : Nat, i < n → ¬ P i → step (i : Int) = none ∧ f (i : Int) = r1) (he : step (n : Int) = none ∧ f (n : Int) = r2) :
    th step 0 f = if Q then r2 else r1 := by
  by_cases h : ∀ i, i < n → P i
  · rw [if_pos (hQ.1 h)]
    have := th_run (step := step) (f := f) (fun i => (i : Int)) n (fun i hi => hs i hi (h i hi)) he.1
    simp only [Int.natCast_zero] at this
    rw [this]; exact he.2
  · rw [if_neg (fun g => h (hQ.2 g))]
    have hex : ∃ i, i < n ∧ ¬ P i := by
      refine Classical.byContradiction fun hn => h fun i hi => ?_
      exact Classical.byContradiction fun hp => hn ⟨i, hi, hp⟩
    have key : ∀ k, (∃ i, i < k ∧ i < n ∧ ¬ P i) → ∃ i, i < n ∧ ¬ P i ∧ ∀ j, j < i → P j := by
      intro k
      induction k with
      | zero => rintro ⟨i, hi, _⟩; omega
      | succ k ih =>
        rintro ⟨i, h1, h2, h3⟩
        by_cases hk : ∃ i, i < k ∧ i < n ∧ ¬ P i
        · exact ih hk
        · have hik : i = k := by
            rcases Nat.lt_or_ge i k with g | g
            · exact absurd ⟨i, g, h2, h3⟩ hk
            · omega
          refine ⟨i, h2, h3, fun j hj => ?_⟩
          exact Classical.byContradiction fun hp => hk ⟨j, by omega, by omega, hp⟩
    obtain ⟨i, h1, h2⟩ := hex
    obtain ⟨k, k1, k2, k3⟩ := key (i + 1) ⟨i, by omega, h1, h2⟩
    have := th_run (step := step) (f := f) (fun i => (i : Int)) k (fun i hi => hs i (by omega) (k3 i hi)) (hf k k1 k2).1
    simp only [Int.natCast_zero] at this
    rw [this]; exact (hf k k1 k2).2
end
theorem drop_at {α : Type} (d : α) (l : List α) (i : Nat) (h : i < l.length) : l.drop i = l.getD i d :: l.drop (i + 1) := by
  rw [List.drop_eq_getElem_cons h]; simp [h]
theorem take_at {α : Type} (d : α) (l : List α) (i : Nat) (h : i < l.length) : l.take (i + 1) = l.take i ++ [l.getD i d] := by
  rw [List.take_succ_eq_append_getElem h]; simp [h]
theorem getD_all {α : Type} (d : α) (l : List α) (p : α → Prop) : (∀ i, i < l.length → p (l.getD i d)) ↔ ∀ x ∈ l, p x := by
  refine ⟨fun h x hx => ?_, fun h i hi => h _ ?_⟩
  · obtain ⟨i, hi, e⟩ := List.getElem_of_mem hx
    have := h i hi
    rw [← e]
    simpa [hi] using this
  · simp [hi]
end Ab
end Go.Proofs.Ytiaelfmohamipaa
namespace Go.Proofs.Ytiaelfmohamipaa.Ab
open Go
abbrev xc (x : Ex) : List AV := [AV.i x.lba, AV.i x.len, AV.i x.kind, AV.i x.gen, AV.sl (List.length x.d) (List.map AV.y x.d)]
end Go.Proofs.Ytiaelfmohamipaa.Ab
namespace Go.Proofs.Ytiaelfmohamipaa
open Go Go.Proofs.Ytiaelfmohamipaa.Ab
set_option linter.unusedVariables false
set_option linter.unusedSimpArgs false
set_option maxRecDepth 1000000
namespace Ab
noncomputable abbrev few_L0_I (l : List Ex) : St := (St.mk [(0, (exs l)), (2, (AV.b Bool.false)), (4, (exs l)), (5, (AV.i (↑(List.length l) : Int))), (6, (AV.b (decide ((↑(List.length l) : Int) > (70 : Int))))), (3, (AV.i 0))] 20 (AH.mk 0 ([] : List (Prod Nat AObj))) Bool.false)
noncomputable abbrev few_L0_S (l : List Ex) (s1 : Int) : St := (St.mk [(0, (exs l)), (6, (AV.b (decide ((↑(List.length l) : Int) > (70 : Int))))), (3, (AV.i s1))] 20 (AH.mk 0 ([] : List (Prod Nat AObj))) Bool.false)
noncomputable def few_L0_step (l : List Ex) (s1 : Int) : Option (Int) :=
 (tb ((decide (s1 < (↑(List.length l) : Int))))
  (tp ((((0 : Int) ≤ s1) ∧ (s1 < (↑(List.length l) : Int))))
   (tb ((decide ((↑(List.length (exAt l (Int.toNat s1)).d) : Int) > (3000 : Int))))
    none /- exit -/
    (some ((wr (s1 + (1 : Int)))))))
  none /- exit -/)
theorem few_L0_s0 (l : List Ex) (s1 : Int) (h2 : ((decide (s1 < (↑(List.length l) : Int)))) = true) (h2p : (s1 < (↑(List.length l) : Int))) (h3 : (((0 : Int) ≤ s1) ∧ (s1 < (↑(List.length l) : Int)))) (h4 : ((decide ((↑(List.length (exAt l (Int.toNat s1)).d) : Int) > (3000 : Int)))) = false) (h4p : ¬ ((↑(List.length (exAt l (Int.toNat s1)).d) : Int) > (3000 : Int))) : EvStep Try.prog cf 0 (lp Try.prog 8 0) (few_L0_S l s1) (few_L0_S l ((wr (s1 + (1 : Int))))) :=
  leafS vw_eq (k := 300) (r := []) (hs := hz [(4, [.yes]), (2, [.yes]), (1, [.yes, .val ((bys (exAt l (Int.toNat s1)).d))]), (2, [.no]), (3, [])]) (st1 := (St.mk [(0, (exs l)), (6, (AV.b (decide ((↑(List.length l) : Int) > (70 : Int))))), (3, (AV.i (wr (s1 + (1 : Int))))), (7, (AV.i s1)), (8, (exs l)), (9, (AV.i (↑(List.length l) : Int))), (10, (AV.b (decide (s1 < (↑(List.length l) : Int))))), (13, (exs l)), (14, (AV.i s1)), (15, (AV.ip (List.drop ((Int.toNat s1) * (5 : Nat)) (List.flatMap Ex.cells l)))), (16, (AV.ip (List.drop 4 (List.drop ((Int.toNat s1) * (5 : Nat)) (List.flatMap Ex.cells l))))), (17, (bys (exAt l (Int.toNat s1)).d)), (18, (AV.i (↑(List.length (exAt l (Int.toNat s1)).d) : Int))), (19, (AV.b (decide ((↑(List.length (exAt l (Int.toNat s1)).d) : Int) > (3000 : Int))))), (11, (AV.i s1)), (12, (AV.i (wr (s1 + (1 : Int)))))] 20 (AH.mk 0 ([] : List (Prod Nat AObj))) Bool.false)) kq (ac h2 (ac h3 (ac (fq (p := ((1 : Nat) ≤ (List.length (List.drop 4 (List.drop ((Int.toNat s1) * (5 : Nat)) (List.flatMap Ex.cells l))))))) (ac (show (List.take 1 (List.drop 4 (List.drop ((Int.toNat s1) * (5 : Nat)) (List.flatMap Ex.cells l)))) = [(bys (exAt l (Int.toNat s1)).d)] from (by first | exact ex_one _ _ _ _ bq rfl | exact ex_oneA _ _ _ _ bq rfl | (simpa using ex_one (l) ((Int.toNat s1)) 4 _ bq rfl) | ((try simp only [List.drop_drop]); rw [show ((4 : Nat) + ((Int.toNat s1) * (5 : Nat))) = ((Int.toNat s1)) * 5 + 4 by omega]; exact ex_oneA (l) ((Int.toNat s1)) 4 _ bq rfl))) (ac h4 an))))) (Nat.le_of_ble_eq_true rfl) (absB_of [] [] kq (.consn kq (.eqv tq rfl) (.consn kq (.eqv tq rfl) (.consn kq (.eqv tq rfl) .nil))) .nil)
theorem few_L0_ok (l : List Ex) (s1 zz : Int) : few_L0_step l s1 = some zz → EvStep Try.prog cf 0 (lp Try.prog 8 0) (few_L0_S l s1) (few_L0_S l zz) := by
  unfold few_L0_step
  refine tb_ok (fun h2 => ?_) (fun h2 => ?_)
  ·
    have h2p := of_decide_eq_true h2
    refine tp_ok (fun h3 => ?_)
    refine tb_ok (fun h4 => ?_) (fun h4 => ?_)
    ·
      have h4p := of_decide_eq_true h4
      exact fun e => nomatch e
    ·
      have h4p := of_decide_eq_false h4
      exact fun e => tl_ok (G := (fun zz => EvStep Try.prog cf 0 (lp Try.prog 8 0) (few_L0_S l s1) (few_L0_S l zz))) (few_L0_s0 l s1 h2 h2p h3 h4 h4p) e
  ·
    have h2p := of_decide_eq_false h2
    exact fun e => nomatch e
noncomputable def few (l : List Ex) : Option (Bool) :=
 (tb ((decide ((↑(List.length l) : Int) > (70 : Int))))
  (some (Bool.false))
  (th (few_L0_step l) ((0 : Int)) fun s1 =>
   (tb ((decide (s1 < (↑(List.length l) : Int))))
    (tp ((((0 : Int) ≤ s1) ∧ (s1 < (↑(List.length l) : Int))))
     (tb ((decide ((↑(List.length (exAt l (Int.toNat s1)).d) : Int) > (3000 : Int))))
      (some (Bool.false))
      none /- stop behind an operation -/))
    (some (Bool.true)))))
abbrev few_G (l : List Ex) (r : Bool) : Prop := EvFr Try.prog cf true 8 [exs (l)] (.b (r))
theorem few_l0 (l : List Ex) (h0 : ((decide ((↑(List.length l) : Int) > (70 : Int)))) = true) (h0p : ((↑(List.length l) : Int) > (70 : Int))) : few_G l (Bool.false) :=
  leafR vw_eq (k := 300) (r := []) (hs := hz [(4, [.yes]), (1, [])]) (raw := (AV.b Bool.false)) kq (ac h0 an) tq
theorem few_l1 (l : List Ex) (h0 : ((decide ((↑(List.length l) : Int) > (70 : Int)))) = false) (h0p : ¬ ((↑(List.length l) : Int) > (70 : Int))) (s1 : Int) (h1 : Runs (few_L0_step l) ((0 : Int)) s1) (h2 : ((decide (s1 < (↑(List.length l) : Int)))) = true) (h2p : (s1 < (↑(List.length l) : Int))) (h3 : (((0 : Int) ≤ s1) ∧ (s1 < (↑(List.length l) : Int)))) (h4 : ((decide ((↑(List.length (exAt l (Int.toNat s1)).d) : Int) > (3000 : Int)))) = true) (h4p : ((↑(List.length (exAt l (Int.toNat s1)).d) : Int) > (3000 : Int))) : few_G l (Bool.false) :=
  leafR vw_eq (k := 300) (r := []) (hs := hz [(4, [.no]), (1, [.head (few_L0_S l s1)]), (4, [.yes]), (2, [.yes]), (1, [.yes, .val ((bys (exAt l (Int.toNat s1)).d))]), (2, [.yes]), (1, [])]) (raw := (AV.b Bool.false)) kq (ac h0 (ac (show EvHead Try.prog cf (lp Try.prog 8 0) (few_L0_I l) (few_L0_S l s1) from (EvHead.of (few_L0_ok l) (absB_of [] [] kq (.consn kq (.eqv tq rfl) (.consn kq (.eqv tq rfl) (.consn kq (.eqv tq rfl) .nil))) .nil) h1)) (ac h2 (ac h3 (ac (fq (p := ((1 : Nat) ≤ (List.length (List.drop 4 (List.drop ((Int.toNat s1) * (5 : Nat)) (List.flatMap Ex.cells l))))))) (ac (show (List.take 1 (List.drop 4 (List.drop ((Int.toNat s1) * (5 : Nat)) (List.flatMap Ex.cells l)))) = [(bys (exAt l (Int.toNat s1)).d)] from (by first | exact ex_one _ _ _ _ bq rfl | exact ex_oneA _ _ _ _ bq rfl | (simpa using ex_one (l) ((Int.toNat s1)) 4 _ bq rfl) | ((try simp only [List.drop_drop]); rw [show ((4 : Nat) + ((Int.toNat s1) * (5 : Nat))) = ((Int.toNat s1)) * 5 + 4 by omega]; exact ex_oneA (l) ((Int.toNat s1)) 4 _ bq rfl))) (ac h4 an))))))) tq
theorem few_l2 (l : List Ex) (h0 : ((decide ((↑(List.length l) : Int) > (70 : Int)))) = false) (h0p : ¬ ((↑(List.length l) : Int) > (70 : Int))) (s1 : Int) (h1 : Runs (few_L0_step l) ((0 : Int)) s1) (h2 : ((decide (s1 < (↑(List.length l) : Int)))) = false) (h2p : ¬ (s1 < (↑(List.length l) : Int))) : few_G l (Bool.true) :=
  leafR vw_eq (k := 300) (r := []) (hs := hz [(4, [.no]), (1, [.head (few_L0_S l s1)]), (4, [.no]), (1, [])]) (raw := (AV.b Bool.true)) kq (ac h0 (ac (show EvHead Try.prog cf (lp Try.prog 8 0) (few_L0_I l) (few_L0_S l s1) from (EvHead.of (few_L0_ok l) (absB_of [] [] kq (.consn kq (.eqv tq rfl) (.consn kq (.eqv tq rfl) (.consn kq (.eqv tq rfl) .nil))) .nil) h1)) (ac h2 an))) tq
theorem few_ok (l : List Ex) (r : Bool) : few l = some r → few_G l r := by
  unfold few
  refine tb_ok (fun h0 => ?_) (fun h0 => ?_)
  ·
    have h0p := of_decide_eq_true h0
    exact fun e => tl_ok (G := few_G l) (few_l0 l h0 h0p) e
  ·
    have h0p := of_decide_eq_false h0
    refine th_ok (fun s1 h1 => ?_)
    refine tb_ok (fun h2 => ?_) (fun h2 => ?_)
    ·
      have h2p := of_decide_eq_true h2
      refine tp_ok (fun h3 => ?_)
      refine tb_ok (fun h4 => ?_) (fun h4 => ?_)
      ·
        have h4p := of_decide_eq_true h4
        exact fun e => tl_ok (G := few_G l) (few_l1 l h0 h0p s1 h1 h2 h2p h3 h4 h4p) e
      ·
        have h4p := of_decide_eq_false h4
        exact fun e => nomatch e
    ·
      have h2p := of_decide_eq_false h2
      exact fun e => tl_ok (G := few_G l) (few_l2 l h0 h0p s1 h1 h2 h2p) e
noncomputable def eCheck (x : Ex) : Option (Bool) :=
 (tb ((decide (x.lba ≥ (0 : Int))))
  (tb ((decide (x.lba ≤ (64 : Int))))
   (tb ((decide (x.len ≥ (1 : Int))))
    (tb ((decide (x.len ≤ (wr ((64 : Int) - x.lba)))))
     (tb ((decide (x.kind ≥ (0 : Int))))
      (tb ((decide (x.kind ≤ (2 : Int))))
       (tb ((decide (x.gen ≥ (0 : Int))))
        (tb ((decide (x.gen ≤ (2147483647 : Int))))
         (tb ((x.kind == (2 : Int)))
          (some (((↑(List.length x.d) : Int) == (wr (x.len * (32 : Int))))))
          (some (((↑(List.length x.d) : Int) == (0 : Int)))))
         (some (Bool.false)))
        (some (Bool.false)))
       (some (Bool.false)))
      (some (Bool.false)))
     (some (Bool.false)))
    (some (Bool.false)))
   (some (Bool.false)))
  (some (Bool.false)))
abbrev eCheck_G (x : Ex) (r : Bool) : Prop := EvFr Try.prog cf true 20 [Ex.av (x)] (.b (r))
theorem eCheck_l0 (x : Ex) (h0 : ((decide (x.lba ≥ (0 : Int)))) = true) (h0p : (x.lba ≥ (0 : Int))) (h1 : ((decide (x.lba ≤ (64 : Int)))) = true) (h1p : (x.lba ≤ (64 : Int))) (h2 : ((decide (x.len ≥ (1 : Int)))) = true) (h2p : (x.len ≥ (1 : Int))) (h3 : ((decide (x.len ≤ (wr ((64 : Int) - x.lba))))) = true) (h3p : (x.len ≤ (wr ((64 : Int) - x.lba)))) (h4 : ((decide (x.kind ≥ (0 : Int)))) = true) (h4p : (x.kind ≥ (0 : Int))) (h5 : ((decide (x.kind ≤ (2 : Int)))) = true) (h5p : (x.kind ≤ (2 : Int))) (h6 : ((decide (x.gen ≥ (0 : Int)))) = true) (h6p : (x.gen ≥ (0 : Int))) (h7 : ((decide (x.gen ≤ (2147483647 : Int)))) = true) (h7p : (x.gen ≤ (2147483647 : Int))) (h8 : ((x.kind == (2 : Int))) = true) (h8p : (x.kind = (2 : Int))) : eCheck_G x (((↑(List.length x.d) : Int) == (wr (x.len * (32 : Int))))) :=
  leafR vw_eq (k := 300) (r := []) (hs := hz [(12, [.yes]), (1, [.yes]), (1, [.yes]), (1, [.yes]), (2, [.yes]), (1, [.yes]), (2, [.yes]), (1, [.yes]), (2, [.yes]), (1, [.yes]), (7, [.yes]), (1, [.yes]), (1, [.yes]), (1, [.yes]), (1, [.yes]), (1, [.yes]), (1, [.yes]), (2, [.yes]), (7, [.yes]), (1, [.yes]), (1, [.yes]), (1, [.yes]), (1, [.yes]), (1, [.yes]), (1, [.yes]), (2, [.yes]), (7, [.yes]), (1, [.yes]), (1, [.yes]), (1, [.yes]), (1, [.yes]), (1, [.yes]), (1, [.yes]), (2, [.yes]), (1, [.yes]), (1, [.cells ((xc x)), .yes]), (8, [.yes]), (5, [.yes]), (1, [.yes]), (1, [.yes])]) (raw := (AV.b ((↑(List.length x.d) : Int) == (wr (x.len * (32 : Int)))))) kq (ac h0 (ac h0 (ac h0 (ac h0 (ac h1 (ac h1 (ac h1 (ac h1 (ac h1 (ac h1 (ac h2 (ac h2 (ac h2 (ac h2 (ac h1 (ac h3 (ac h3 (ac h3 (ac h4 (ac h4 (ac h4 (ac h4 (ac h3 (ac h5 (ac h5 (ac h5 (ac h6 (ac h6 (ac h6 (ac h6 (ac h5 (ac h7 (ac h7 (ac h7 (ac h7 (ac (Eq.refl ((xc x) : List AV)) (ac h7 (ac h8 (ac h7 (ac h7 (ac (show orderOk (rg Try.prog 20 0) = true ∧ allOk (Region.before (rg Try.prog 20 0)) [] 0 [(some [], some []), (some [0], some []), (some [], some []), (some [], some []), (some [], some []), (some [0], some []), (some [], some []), (some [0], some []), (some [], some []), (some [], some []), (some [], some []), (some [], some []), (some [], some []), (some [0], some []), (some [], some []), (some [], some []), (some [], some []), (some [], some []), (some [0], some []), (some [], some []), (some [], some []), (some [], some []), (some [], some []), (some [0], some []), (some [], some []), (some [0], some []), (some [], some []), (some [], some []), (some [], some []), (some [], some [])] = true from (ord_of ord_20_0 bef_20_0 kq)) an))))))))))))))))))))))))))))))))))))))))) tq
theorem eCheck_l1 (x : Ex) (h0 : ((decide (x.lba ≥ (0 : Int)))) = true) (h0p : (x.lba ≥ (0 : Int))) (h1 : ((decide (x.lba ≤ (64 : Int)))) = true) (h1p : (x.lba ≤ (64 : Int))) (h2 : ((decide (x.len ≥ (1 : Int)))) = true) (h2p : (x.len ≥ (1 : Int))) (h3 : ((decide (x.len ≤ (wr ((64 : Int) - x.lba))))) = true) (h3p : (x.len ≤ (wr ((64 : Int) - x.lba)))) (h4 : ((decide (x.kind ≥ (0 : Int)))) = true) (h4p : (x.kind ≥ (0 : Int))) (h5 : ((decide (x.kind ≤ (2 : Int)))) = true) (h5p : (x.kind ≤ (2 : Int))) (h6 : ((decide (x.gen ≥ (0 : Int)))) = true) (h6p : (x.gen ≥ (0 : Int))) (h7 : ((decide (x.gen ≤ (2147483647 : Int)))) = true) (h7p : (x.gen ≤ (2147483647 : Int))) (h8 : ((x.kind == (2 : Int))) = false) (h8p : ¬ (x.kind = (2 : Int))) : eCheck_G x (((↑(List.length x.d) : Int) == (0 : Int))) :=
  leafR vw_eq (k := 300) (r := []) (hs := hz [(12, [.yes]), (1, [.yes]), (1, [.yes]), (1, [.yes]), (2, [.yes]), (1, [.yes]), (2, [.yes]), (1, [.yes]), (2, [.yes]), (1, [.yes]), (7, [.yes]), (1, [.yes]), (1, [.yes]), (1, [.yes]), (1, [.yes]), (1, [.yes]), (1, [.yes]), (2, [.yes]), (7, [.yes]), (1, [.yes]), (1, [.yes]), (1, [.yes]), (1, [.yes]), (1, [.yes]), (1, [.yes]), (2, [.yes]), (7, [.yes]), (1, [.yes]), (1, [.yes]), (1, [.yes]), (1, [.yes]), (1, [.yes]), (1, [.yes]), (2, [.yes]), (1, [.yes]), (1, [.cells ((xc x)), .yes]), (8, [.no]), (1, [.yes]), (1, [.yes]), (1, [.yes])]) (raw := (AV.b ((↑(List.length x.d) : Int) == (0 : Int)))) kq (ac h0 (ac h0 (ac h0 (ac h0 (ac h1 (ac h1 (ac h1 (ac h1 (ac h1 (ac h1 (ac h2 (ac h2 (ac h2 (ac h2 (ac h1 (ac h3 (ac h3 (ac h3 (ac h4 (ac h4 (ac h4 (ac h4 (ac h3 (ac h5 (ac h5 (ac h5 (ac h6 (ac h6 (ac h6 (ac h6 (ac h5 (ac h7 (ac h7 (ac h7 (ac h7 (ac (Eq.refl ((xc x) : List AV)) (ac h7 (ac h8 (ac h7 (ac h7 (ac (show orderOk (rg Try.prog 20 0) = true ∧ allOk (Region.before (rg Try.prog 20 0)) [] 0 [(some [], some []), (some [0], some []), (some [], some []), (some [], some []), (some [], some []), (some [0], some []), (some [], some []), (some [0], some []), (some [], some []), (some [], some []), (some [], some []), (some [], some []), (some [], some []), (some [0], some []), (some [], some []), (some [], some []), (some [], some []), (some [], some []), (some [0], some []), (some [], some []), (some [], some []), (some [], some []), (some [], some []), (some [0], some []), (some [], some []), (some [0], some []), (some [], some []), (some [], some []), (some [], some []), (some [], some [])] = true from (ord_of ord_20_0 bef_20_0 kq)) an))))))))))))))))))))))))))))))))))))))))) tq
theorem eCheck_l2 (x : Ex) (h0 : ((decide (x.lba ≥ (0 : Int)))) = true) (h0p : (x.lba ≥ (0 : Int))) (h1 : ((decide (x.lba ≤ (64 : Int)))) = true) (h1p : (x.lba ≤ (64 : Int))) (h2 : ((decide (x.len ≥ (1 : Int)))) = true) (h2p : (x.len ≥ (1 : Int))) (h3 : ((decide (x.len ≤ (wr ((64 : Int) - x.lba))))) = true) (h3p : (x.len ≤ (wr ((64 : Int) - x.lba)))) (h4 : ((decide (x.kind ≥ (0 : Int)))) = true) (h4p : (x.kind ≥ (0 : Int))) (h5 : ((decide (x.kind ≤ (2 : Int)))) = true) (h5p : (x.kind ≤ (2 : Int))) (h6 : ((decide (x.gen ≥ (0 : Int)))) = true) (h6p : (x.gen ≥ (0 : Int))) (h7 : ((decide (x.gen ≤ (2147483647 : Int)))) = false) (h7p : ¬ (x.gen ≤ (2147483647 : Int))) : eCheck_G x (Bool.false) :=
  leafR vw_eq (k := 300) (r := []) (hs := hz [(12, [.yes]), (1, [.yes]), (1, [.yes]), (1, [.yes]), (2, [.yes]), (1, [.yes]), (2, [.yes]), (1, [.yes]), (2, [.yes]), (1, [.yes]), (7, [.yes]), (1, [.yes]), (1, [.yes]), (1, [.yes]), (1, [.yes]), (1, [.yes]), (1, [.yes]), (2, [.yes]), (7, [.yes]), (1, [.yes]), (1, [.yes]), (1, [.yes]), (1, [.yes]), (1, [.yes]), (1, [.yes]), (2, [.yes]), (7, [.yes]), (1, [.yes]), (1, [.yes]), (1, [.yes]), (1, [.yes]), (1, [.no, .no, .no, .no, .no, .no, .no]), (1, [.yes])]) (raw := (AV.b Bool.false)) kq (ac h0 (ac h0 (ac h0 (ac h0 (ac h1 (ac h1 (ac h1 (ac h1 (ac h1 (ac h1 (ac h2 (ac h2 (ac h2 (ac h2 (ac h1 (ac h3 (ac h3 (ac h3 (ac h4 (ac h4 (ac h4 (ac h4 (ac h3 (ac h5 (ac h5 (ac h5 (ac h6 (ac h6 (ac h6 (ac h6 (ac h5 (ac h7 (ac h7 (ac h7 (ac h7 (ac h7 (ac h7 (ac h7 (ac (show orderOk (rg Try.prog 20 0) = true ∧ allOk (Region.before (rg Try.prog 20 0)) [] 0 [(some [], some []), (some [0], some []), (some [], some []), (some [], some []), (some [], some []), (some [0], some []), (some [], some []), (some [0], some []), (some [], some []), (some [], some []), (some [], some []), (some [], some []), (some [], some []), (some [0], some []), (some [], some []), (some [], some []), (some [], some []), (some [], some []), (some [0], some []), (some [], some []), (some [], some []), (some [], some []), (some [], some []), (some [], some []), (some [], some []), (some [], some []), (some [], some []), (some [], some []), (some [], some []), (some [], some [])] = true from (ord_of ord_20_0 bef_20_0 kq)) an))))))))))))))))))))))))))))))))))))))) tq
theorem eCheck_l3 (x : Ex) (h0 : ((decide (x.lba ≥ (0 : Int)))) = true) (h0p : (x.lba ≥ (0 : Int))) (h1 : ((decide (x.lba ≤ (64 : Int)))) = true) (h1p : (x.lba ≤ (64 : Int))) (h2 : ((decide (x.len ≥ (1 : Int)))) = true) (h2p : (x.len ≥ (1 : Int))) (h3 : ((decide (x.len ≤ (wr ((64 : Int) - x.lba))))) = true) (h3p : (x.len ≤ (wr ((64 : Int) - x.lba)))) (h4 : ((decide (x.kind ≥ (0 : Int)))) = true) (h4p : (x.kind ≥ (0 : Int))) (h5 : ((decide (x.kind ≤ (2 : Int)))) = true) (h5p : (x.kind ≤ (2 : Int))) (h6 : ((decide (x.gen ≥ (0 : Int)))) = false) (h6p : ¬ (x.gen ≥ (0 : Int))) : eCheck_G x (Bool.false) :=
  leafR vw_eq (k := 300) (r := []) (hs := hz [(12, [.yes]), (1, [.yes]), (1, [.yes]), (1, [.yes]), (2, [.yes]), (1, [.yes]), (2, [.yes]), (1, [.yes]), (2, [.yes]), (1, [.yes]), (7, [.yes]), (1, [.yes]), (1, [.yes]), (1, [.yes]), (1, [.yes]), (1, [.yes]), (1, [.yes]), (2, [.yes]), (7, [.yes]), (1, [.yes]), (1, [.yes]), (1, [.yes]), (1, [.yes]), (1, [.yes]), (1, [.yes]), (2, [.yes]), (7, [.no, .no, .no, .no]), (1, [.yes]), (9, [.yes])]) (raw := (AV.b Bool.false)) kq (ac h0 (ac h0 (ac h0 (ac h0 (ac h1 (ac h1 (ac h1 (ac h1 (ac h1 (ac h1 (ac h2 (ac h2 (ac h2 (ac h2 (ac h1 (ac h3 (ac h3 (ac h3 (ac h4 (ac h4 (ac h4 (ac h4 (ac h3 (ac h5 (ac h5 (ac h5 (ac h6 (ac h6 (ac h6 (ac h6 (ac h5 (ac (show orderOk (rg Try.prog 20 0) = true ∧ allOk (Region.before (rg Try.prog 20 0)) [] 0 [(some [], some []), (some [0], some []), (some [], some []), (some [], some []), (some [], some []), (some [0], some []), (some [], some []), (some [0], some []), (some [], some []), (some [], some []), (some [], some []), (some [], some []), (some [], some []), (some [0], some []), (some [], some []), (some [], some []), (some [], some []), (some [], some []), (some [0], some []), (some [], some []), (some [], some []), (some [], some []), (some [], some []), (some [], some []), (some [], some []), (some [], some []), (some [], some []), (some [], some []), (some [], some []), (some [], some [])] = true from (ord_of ord_20_0 bef_20_0 kq)) an)))))))))))))))))))))))))))))))) tq
theorem eCheck_l4 (x : Ex) (h0 : ((decide (x.lba ≥ (0 : Int)))) = true) (h0p : (x.lba ≥ (0 : Int))) (h1 : ((decide (x.lba ≤ (64 : Int)))) = true) (h1p : (x.lba ≤ (64 : Int))) (h2 : ((decide (x.len ≥ (1 : Int)))) = true) (h2p : (x.len ≥ (1 : Int))) (h3 : ((decide (x.len ≤ (wr ((64 : Int) - x.lba))))) = true) (h3p : (x.len ≤ (wr ((64 : Int) - x.lba)))) (h4 : ((decide (x.kind ≥ (0 : Int)))) = true) (h4p : (x.kind ≥ (0 : Int))) (h5 : ((decide (x.kind ≤ (2 : Int)))) = false) (h5p : ¬ (x.kind ≤ (2 : Int))) : eCheck_G x (Bool.false) :=
  leafR vw_eq (k := 300) (r := []) (hs := hz [(12, [.yes]), (1, [.yes]), (1, [.yes]), (1, [.yes]), (2, [.yes]), (1, [.yes]), (2, [.yes]), (1, [.yes]), (2, [.yes]), (1, [.yes]), (7, [.yes]), (1, [.yes]), (1, [.yes]), (1, [.yes]), (1, [.yes]), (1, [.yes]), (1, [.yes]), (2, [.yes]), (7, [.yes]), (1, [.yes]), (1, [.yes]), (1, [.yes]), (1, [.yes]), (1, [.no, .no, .no, .no]), (9, [.yes])]) (raw := (AV.b Bool.false)) kq (ac h0 (ac h0 (ac h0 (ac h0 (ac h1 (ac h1 (ac h1 (ac h1 (ac h1 (ac h1 (ac h2 (ac h2 (ac h2 (ac h2 (ac h1 (ac h3 (ac h3 (ac h3 (ac h4 (ac h4 (ac h4 (ac h4 (ac h3 (ac h5 (ac h5 (ac h5 (ac h5 (ac (show orderOk (rg Try.prog 20 0) = true ∧ allOk (Region.before (rg Try.prog 20 0)) [] 0 [(some [], some []), (some [0], some []), (some [], some []), (some [], some []), (some [], some []), (some [0], some []), (some [], some []), (some [0], some []), (some [], some []), (some [], some []), (some [], some []), (some [], some []), (some [], some []), (some [0], some []), (some [], some []), (some [], some []), (some [], some []), (some [], some []), (some [], some []), (some [], some []), (some [], some []), (some [], some []), (some [], some []), (some [], some []), (some [], some []), (some [], some []), (some [], some []), (some [], some []), (some [], some []), (some [], some [])] = true from (ord_of ord_20_0 bef_20_0 kq)) an)))))))))))))))))))))))))))) tq
theorem eCheck_l5 (x : Ex) (h0 : ((decide (x.lba ≥ (0 : Int)))) = true) (h0p : (x.lba ≥ (0 : Int))) (h1 : ((decide (x.lba ≤ (64 : Int)))) = true) (h1p : (x.lba ≤ (64 : Int))) (h2 : ((decide (x.len ≥ (1 : Int)))) = true) (h2p : (x.len ≥ (1 : Int))) (h3 : ((decide (x.len ≤ (wr ((64 : Int) - x.lba))))) = true) (h3p : (x.len ≤ (wr ((64 : Int) - x.lba)))) (h4 : ((decide (x.kind ≥ (0 : Int)))) = false) (h4p : ¬ (x.kind ≥ (0 : Int))) : eCheck_G x (Bool.false) :=
  leafR vw_eq (k := 300) (r := []) (hs := hz [(12, [.yes]), (1, [.yes]), (1, [.yes]), (1, [.yes]), (2, [.yes]), (1, [.yes]), (2, [.yes]), (1, [.yes]), (2, [.yes]), (1, [.yes]), (7, [.yes]), (1, [.yes]), (1, [.yes]), (1, [.yes]), (1, [.yes]), (1, [.yes]), (1, [.yes]), (2, [.yes]), (7, [.no, .no, .no, .no]), (1, [.yes]), (14, [.yes])]) (raw := (AV.b Bool.false)) kq (ac h0 (ac h0 (ac h0 (ac h0 (ac h1 (ac h1 (ac h1 (ac h1 (ac h1 (ac h1 (ac h2 (ac h2 (ac h2 (ac h2 (ac h1 (ac h3 (ac h3 (ac h3 (ac h4 (ac h4 (ac h4 (ac h4 (ac h3 (ac (show orderOk (rg Try.prog 20 0) = true ∧ allOk (Region.before (rg Try.prog 20 0)) [] 0 [(some [], some []), (some [0], some []), (some [], some []), (some [], some []), (some [], some []), (some [0], some []), (some [], some []), (some [0], some []), (some [], some []), (some [], some []), (some [], some []), (some [], some []), (some [], some []), (some [0], some []), (some [], some []), (some [], some []), (some [], some []), (some [], some []), (some [], some []), (some [], some []), (some [], some []), (some [], some []), (some [], some []), (some [], some []), (some [], some []), (some [], some []), (some [], some []), (some [], some []), (some [], some []), (some [], some [])] = true from (ord_of ord_20_0 bef_20_0 kq)) an)))))))))))))))))))))))) tq
theorem eCheck_l6 (x : Ex) (h0 : ((decide (x.lba ≥ (0 : Int)))) = true) (h0p : (x.lba ≥ (0 : Int))) (h1 : ((decide (x.lba ≤ (64 : Int)))) = true) (h1p : (x.lba ≤ (64 : Int))) (h2 : ((decide (x.len ≥ (1 : Int)))) = true) (h2p : (x.len ≥ (1 : Int))) (h3 : ((decide (x.len ≤ (wr ((64 : Int) - x.lba))))) = false) (h3p : ¬ (x.len ≤ (wr ((64 : Int) - x.lba)))) : eCheck_G x (Bool.false) :=
  leafR vw_eq (k := 300) (r := []) (hs := hz [(12, [.yes]), (1, [.yes]), (1, [.yes]), (1, [.yes]), (2, [.yes]), (1, [.yes]), (2, [.yes]), (1, [.yes]), (2, [.yes]), (1, [.yes]), (7, [.yes]), (1, [.yes]), (1, [.yes]), (1, [.yes]), (1, [.yes]), (1, [.no, .no, .no, .no]), (14, [.yes])]) (raw := (AV.b Bool.false)) kq (ac h0 (ac h0 (ac h0 (ac h0 (ac h1 (ac h1 (ac h1 (ac h1 (ac h1 (ac h1 (ac h2 (ac h2 (ac h2 (ac h2 (ac h1 (ac h3 (ac h3 (ac h3 (ac h3 (ac (show orderOk (rg Try.prog 20 0) = true ∧ allOk (Region.before (rg Try.prog 20 0)) [] 0 [(some [], some []), (some [0], some []), (some [], some []), (some [], some []), (some [], some []), (some [0], some []), (some [], some []), (some [0], some []), (some [], some []), (some [], some []), (some [], some []), (some [], some []), (some [], some []), (some [], some []), (some [], some []), (some [], some []), (some [], some []), (some [], some []), (some [], some []), (some [], some []), (some [], some []), (some [], some []), (some [], some []), (some [], some []), (some [], some []), (some [], some []), (some [], some []), (some [], some []), (some [], some []), (some [], some [])] = true from (ord_of ord_20_0 bef_20_0 kq)) an)))))))))))))))))))) tq
theorem eCheck_l7 (x : Ex) (h0 : ((decide (x.lba ≥ (0 : Int)))) = true) (h0p : (x.lba ≥ (0 : Int))) (h1 : ((decide (x.lba ≤ (64 : Int)))) = true) (h1p : (x.lba ≤ (64 : Int))) (h2 : ((decide (x.len ≥ (1 : Int)))) = false) (h2p : ¬ (x.len ≥ (1 : Int))) : eCheck_G x (Bool.false) :=
  leafR vw_eq (k := 300) (r := []) (hs := hz [(12, [.yes]), (1, [.yes]), (1, [.yes]), (1, [.yes]), (2, [.yes]), (1, [.yes]), (2, [.yes]), (1, [.yes]), (2, [.yes]), (1, [.yes]), (7, [.no, .no, .no, .no]), (1, [.yes]), (19, [.yes])]) (raw := (AV.b Bool.false)) kq (ac h0 (ac h0 (ac h0 (ac h0 (ac h1 (ac h1 (ac h1 (ac h1 (ac h1 (ac h1 (ac h2 (ac h2 (ac h2 (ac h2 (ac h1 (ac (show orderOk (rg Try.prog 20 0) = true ∧ allOk (Region.before (rg Try.prog 20 0)) [] 0 [(some [], some []), (some [0], some []), (some [], some []), (some [], some []), (some [], some []), (some [0], some []), (some [], some []), (some [0], some []), (some [], some []), (some [], some []), (some [], some []), (some [], some []), (some [], some []), (some [], some []), (some [], some []), (some [], some []), (some [], some []), (some [], some []), (some [], some []), (some [], some []), (some [], some []), (some [], some []), (some [], some []), (some [], some []), (some [], some []), (some [], some []), (some [], some []), (some [], some []), (some [], some []), (some [], some [])] = true from (ord_of ord_20_0 bef_20_0 kq)) an)))))))))))))))) tq
theorem eCheck_l8 (x : Ex) (h0 : ((decide (x.lba ≥ (0 : Int)))) = true) (h0p : (x.lba ≥ (0 : Int))) (h1 : ((decide (x.lba ≤ (64 : Int)))) = false) (h1p : ¬ (x.lba ≤ (64 : Int))) : eCheck_G x (Bool.false) :=
  leafR vw_eq (k := 300) (r := []) (hs := hz [(12, [.yes]), (1, [.yes]), (1, [.yes]), (1, [.yes]), (2, [.no, .no, .no, .no, .no, .no, .no]), (19, [.yes])]) (raw := (AV.b Bool.false)) kq (ac h0 (ac h0 (ac h0 (ac h0 (ac h1 (ac h1 (ac h1 (ac h1 (ac h1 (ac h1 (ac h1 (ac (show orderOk (rg Try.prog 20 0) = true ∧ allOk (Region.before (rg Try.prog 20 0)) [] 0 [(some [], some []), (some [0], some []), (some [], some []), (some [], some []), (some [], some []), (some [], some []), (some [], some []), (some [], some []), (some [], some []), (some [], some []), (some [], some []), (some [], some []), (some [], some []), (some [], some []), (some [], some []), (some [], some []), (some [], some []), (some [], some []), (some [], some []), (some [], some []), (some [], some []), (some [], some []), (some [], some []), (some [], some []), (some [], some []), (some [], some []), (some [], some []), (some [], some []), (some [], some []), (some [], some [])] = true from (ord_of ord_20_0 bef_20_0 kq)) an)))))))))))) tq
theorem eCheck_l9 (x : Ex) (h0 : ((decide (x.lba ≥ (0 : Int)))) = false) (h0p : ¬ (x.lba ≥ (0 : Int))) : eCheck_G x (Bool.false) :=
  leafR vw_eq (k := 300) (r := []) (hs := hz [(12, [.no, .no, .no, .no]), (28, [.yes])]) (raw := (AV.b Bool.false)) kq (ac h0 (ac h0 (ac h0 (ac h0 (ac (show orderOk (rg Try.prog 20 0) = true ∧ allOk (Region.before (rg Try.prog 20 0)) [] 0 [(some [], some []), (some [0], some []), (some [], some []), (some [], some []), (some [], some []), (some [], some []), (some [], some []), (some [], some []), (some [], some []), (some [], some []), (some [], some []), (some [], some []), (some [], some []), (some [], some []), (some [], some []), (some [], some []), (some [], some []), (some [], some []), (some [], some []), (some [], some []), (some [], some []), (some [], some []), (some [], some []), (some [], some []), (some [], some []), (some [], some []), (some [], some []), (some [], some []), (some [], some []), (some [], some [])] = true from (ord_of ord_20_0 bef_20_0 kq)) an))))) tq
theorem eCheck_ok (x : Ex) (r : Bool) : eCheck x = some r → eCheck_G x r := by
  unfold eCheck
  refine tb_ok (fun h0 => ?_) (fun h0 => ?_)
  ·
    have h0p := of_decide_eq_true h0
    refine tb_ok (fun h1 => ?_) (fun h1 => ?_)
    ·
      have h1p := of_decide_eq_true h1
      refine tb_ok (fun h2 => ?_) (fun h2 => ?_)
      ·
        have h2p := of_decide_eq_true h2
        refine tb_ok (fun h3 => ?_) (fun h3 => ?_)
        ·
          have h3p := of_decide_eq_true h3
          refine tb_ok (fun h4 => ?_) (fun h4 => ?_)
          ·
            have h4p := of_decide_eq_true h4
            refine tb_ok (fun h5 => ?_) (fun h5 => ?_)
            ·
              have h5p := of_decide_eq_true h5
              refine tb_ok (fun h6 => ?_) (fun h6 => ?_)
              ·
                have h6p := of_decide_eq_true h6
                refine tb_ok (fun h7 => ?_) (fun h7 => ?_)
                ·
                  have h7p := of_decide_eq_true h7
                  refine tb_ok (fun h8 => ?_) (fun h8 => ?_)
                  ·
                    have h8p := eq_of_beq h8
                    exact fun e => tl_ok (G := eCheck_G x) (eCheck_l0 x h0 h0p h1 h1p h2 h2p h3 h3p h4 h4p h5 h5p h6 h6p h7 h7p h8 h8p) e
                  ·
                    have h8p := ne_of_beq_false h8
                    exact fun e => tl_ok (G := eCheck_G x) (eCheck_l1 x h0 h0p h1 h1p h2 h2p h3 h3p h4 h4p h5 h5p h6 h6p h7 h7p h8 h8p) e
                ·
                  have h7p := of_decide_eq_false h7
                  exact fun e => tl_ok (G := eCheck_G x) (eCheck_l2 x h0 h0p h1 h1p h2 h2p h3 h3p h4 h4p h5 h5p h6 h6p h7 h7p) e
              ·
                have h6p := of_decide_eq_false h6
                exact fun e => tl_ok (G := eCheck_G x) (eCheck_l3 x h0 h0p h1 h1p h2 h2p h3 h3p h4 h4p h5 h5p h6 h6p) e
            ·
              have h5p := of_decide_eq_false h5
              exact fun e => tl_ok (G := eCheck_G x) (eCheck_l4 x h0 h0p h1 h1p h2 h2p h3 h3p h4 h4p h5 h5p) e
          ·
            have h4p := of_decide_eq_false h4
            exact fun e => tl_ok (G := eCheck_G x) (eCheck_l5 x h0 h0p h1 h1p h2 h2p h3 h3p h4 h4p) e
        ·
          have h3p := of_decide_eq_false h3
          exact fun e => tl_ok (G := eCheck_G x) (eCheck_l6 x h0 h0p h1 h1p h2 h2p h3 h3p) e
      ·
        have h2p := of_decide_eq_false h2
        exact fun e => tl_ok (G := eCheck_G x) (eCheck_l7 x h0 h0p h1 h1p h2 h2p) e
    ·
      have h1p := of_decide_eq_false h1
      exact fun e => tl_ok (G := eCheck_G x) (eCheck_l8 x h0 h0p h1 h1p) e
  ·
    have h0p := of_decide_eq_false h0
    exact fun e => tl_ok (G := eCheck_G x) (eCheck_l9 x h0 h0p) e
noncomputable def eJoins (a : Ex) (b : Ex) : Option (Bool) :=
 (tc (eCheck (a)) fun s0 =>
  (tb (s0)
   (tc (eCheck (b)) fun s2 =>
    (tb (s2)
     (tb (((wr (a.lba + a.len)) == b.lba))
      (tb ((a.kind == b.kind))
       (some ((a.gen == b.gen)))
       (some (Bool.false)))
      (some (Bool.false)))
     (some (Bool.false))))
   (some (Bool.false))))
abbrev eJoins_G (a : Ex) (b : Ex) (r : Bool) : Prop := EvFr Try.prog cf true 23 [Ex.av (a), Ex.av (b)] (.b (r))
theorem eJoins_l0 (a : Ex) (b : Ex) (s0 : Bool) (h0 : eCheck (a) = some s0) (h1 : (s0) = true) (s2 : Bool) (h2 : eCheck (b) = some s2) (h3 : (s2) = true) (h4 : (((wr (a.lba + a.len)) == b.lba)) = true) (h4p : ((wr (a.lba + a.len)) = b.lba)) (h5 : ((a.kind == b.kind)) = true) (h5p : (a.kind = b.kind)) : eJoins_G a b ((a.gen == b.gen)) :=
  leafR vw_eq (k := 300) (r := []) (hs := hz [(4, [.cells ((xc a))]), (1, [.fres (.b (s0))]), (1, [.yes]), (1, [.cells ((xc b)), .yes]), (1, [.fres (.b (s2)), .yes]), (1, [.yes]), (1, [.yes]), (2, [.yes]), (1, [.yes]), (2, [.yes]), (1, [.yes]), (1, [.yes]), (2, [.yes]), (1, [.yes]), (1, [.yes]), (1, [.yes]), (2, [.yes]), (1, [.yes]), (2, [.yes]), (1, [.yes]), (1, [.yes]), (1, [.yes]), (2, [.yes]), (1, [.yes]), (2, [.yes]), (1, [.yes]), (1, [])]) (raw := (AV.b (a.gen == b.gen))) kq (ac (Eq.refl ((xc a) : List AV)) (ac (eCheck_ok (a) _ h0).any0 (ac h1 (ac (Eq.refl ((xc b) : List AV)) (ac h1 (ac (eCheck_ok (b) _ h2).any0 (ac h1 (ac h3 (ac h3 (ac h3 (ac h3 (ac h3 (ac h3 (ac h3 (ac h3 (ac h3 (ac h4 (ac h4 (ac h4 (ac h4 (ac h4 (ac h4 (ac h5 (ac h5 (ac h5 (ac h5 (ac h5 (ac h5 an)))))))))))))))))))))))))))) tq
theorem eJoins_l1 (a : Ex) (b : Ex) (s0 : Bool) (h0 : eCheck (a) = some s0) (h1 : (s0) = true) (s2 : Bool) (h2 : eCheck (b) = some s2) (h3 : (s2) = true) (h4 : (((wr (a.lba + a.len)) == b.lba)) = true) (h4p : ((wr (a.lba + a.len)) = b.lba)) (h5 : ((a.kind == b.kind)) = false) (h5p : ¬ (a.kind = b.kind)) : eJoins_G a b (Bool.false) :=
  leafR vw_eq (k := 300) (r := []) (hs := hz [(4, [.cells ((xc a))]), (1, [.fres (.b (s0))]), (1, [.yes]), (1, [.cells ((xc b)), .yes]), (1, [.fres (.b (s2)), .yes]), (1, [.yes]), (1, [.yes]), (2, [.yes]), (1, [.yes]), (2, [.yes]), (1, [.yes]), (1, [.yes]), (2, [.yes]), (1, [.yes]), (1, [.yes]), (1, [.yes]), (2, [.yes]), (1, [.yes]), (2, [.yes]), (1, [.yes]), (1, [.no, .no, .no, .no, .no, .no]), (1, [])]) (raw := (AV.b Bool.false)) kq (ac (Eq.refl ((xc a) : List AV)) (ac (eCheck_ok (a) _ h0).any0 (ac h1 (ac (Eq.refl ((xc b) : List AV)) (ac h1 (ac (eCheck_ok (b) _ h2).any0 (ac h1 (ac h3 (ac h3 (ac h3 (ac h3 (ac h3 (ac h3 (ac h3 (ac h3 (ac h3 (ac h4 (ac h4 (ac h4 (ac h4 (ac h4 (ac h4 (ac h5 (ac h5 (ac h5 (ac h5 (ac h5 (ac h5 an)))))))))))))))))))))))))))) tq
theorem eJoins_l2 (a : Ex) (b : Ex) (s0 : Bool) (h0 : eCheck (a) = some s0) (h1 : (s0) = true) (s2 : Bool) (h2 : eCheck (b) = some s2) (h3 : (s2) = true) (h4 : (((wr (a.lba + a.len)) == b.lba)) = false) (h4p : ¬ ((wr (a.lba + a.len)) = b.lba)) : eJoins_G a b (Bool.false) :=
  leafR vw_eq (k := 300) (r := []) (hs := hz [(4, [.cells ((xc a))]), (1, [.fres (.b (s0))]), (1, [.yes]), (1, [.cells ((xc b)), .yes]), (1, [.fres (.b (s2)), .yes]), (1, [.yes]), (1, [.yes]), (2, [.yes]), (1, [.yes]), (2, [.yes]), (1, [.yes]), (1, [.yes]), (2, [.yes]), (1, [.yes]), (1, [.no, .no, .no, .no, .no, .no]), (8, [])]) (raw := (AV.b Bool.false)) kq (ac (Eq.refl ((xc a) : List AV)) (ac (eCheck_ok (a) _ h0).any0 (ac h1 (ac (Eq.refl ((xc b) : List AV)) (ac h1 (ac (eCheck_ok (b) _ h2).any0 (ac h1 (ac h3 (ac h3 (ac h3 (ac h3 (ac h3 (ac h3 (ac h3 (ac h3 (ac h3 (ac h4 (ac h4 (ac h4 (ac h4 (ac h4 (ac h4 an)))))))))))))))))))))) tq
theorem eJoins_l3 (a : Ex) (b : Ex) (s0 : Bool) (h0 : eCheck (a) = some s0) (h1 : (s0) = true) (s2 : Bool) (h2 : eCheck (b) = some s2) (h3 : (s2) = false) : eJoins_G a b (Bool.false) :=
  leafR vw_eq (k := 300) (r := []) (hs := hz [(4, [.cells ((xc a))]), (1, [.fres (.b (s0))]), (1, [.yes]), (1, [.cells ((xc b)), .yes]), (1, [.fres (.b (s2)), .yes]), (1, [.no, .no, .no, .no, .no, .no, .no, .no, .no]), (15, [])]) (raw := (AV.b Bool.false)) kq (ac (Eq.refl ((xc a) : List AV)) (ac (eCheck_ok (a) _ h0).any0 (ac h1 (ac (Eq.refl ((xc b) : List AV)) (ac h1 (ac (eCheck_ok (b) _ h2).any0 (ac h1 (ac h3 (ac h3 (ac h3 (ac h3 (ac h3 (ac h3 (ac h3 (ac h3 (ac h3 an)))))))))))))))) tq
theorem eJoins_l4 (a : Ex) (b : Ex) (s0 : Bool) (h0 : eCheck (a) = some s0) (h1 : (s0) = false) : eJoins_G a b (Bool.false) :=
  leafR vw_eq (k := 300) (r := []) (hs := hz [(4, [.cells ((xc a))]), (1, [.fres (.b (s0))]), (1, [.no, .no, .no]), (25, [])]) (raw := (AV.b Bool.false)) kq (ac (Eq.refl ((xc a) : List AV)) (ac (eCheck_ok (a) _ h0).any0 (ac h1 (ac h1 (ac h1 an))))) tq
theorem eJoins_ok (a : Ex) (b : Ex) (r : Bool) : eJoins a b = some r → eJoins_G a b r := by
  unfold eJoins
  refine tc_ok (fun s0 h0 => ?_)
  refine tb_ok (fun h1 => ?_) (fun h1 => ?_)
  ·
    refine tc_ok (fun s2 h2 => ?_)
    refine tb_ok (fun h3 => ?_) (fun h3 => ?_)
    ·
      refine tb_ok (fun h4 => ?_) (fun h4 => ?_)
      ·
        have h4p := eq_of_beq h4
        refine tb_ok (fun h5 => ?_) (fun h5 => ?_)
        ·
          have h5p := eq_of_beq h5
          exact fun e => tl_ok (G := eJoins_G a b) (eJoins_l0 a b s0 h0 h1 s2 h2 h3 h4 h4p h5 h5p) e
        ·
          have h5p := ne_of_beq_false h5
          exact fun e => tl_ok (G := eJoins_G a b) (eJoins_l1 a b s0 h0 h1 s2 h2 h3 h4 h4p h5 h5p) e
      ·
        have h4p := ne_of_beq_false h4
        exact fun e => tl_ok (G := eJoins_G a b) (eJoins_l2 a b s0 h0 h1 s2 h2 h3 h4 h4p) e
    ·
      exact fun e => tl_ok (G := eJoins_G a b) (eJoins_l3 a b s0 h0 h1 s2 h2 h3) e
  ·
    exact fun e => tl_ok (G := eJoins_G a b) (eJoins_l4 a b s0 h0 h1) e
noncomputable def r7Check (x : Ex) : Option (Bool) :=
 (tb ((decide (x.lba < (0 : Int))))
  (some (Bool.false))
  (tb ((decide (x.lba > (64 : Int))))
   (some (Bool.false))
   (tb ((decide (x.len < (1 : Int))))
    (some (Bool.false))
    (tb ((decide (x.len > (wr ((64 : Int) - x.lba)))))
     (some (Bool.false))
     (tb ((decide (x.kind < (0 : Int))))
      (some (Bool.false))
      (tb ((decide (x.kind > (2 : Int))))
       (some (Bool.false))
       (tb ((decide (x.gen < (0 : Int))))
        (some (Bool.false))
        (tb ((decide (x.gen ≥ (2147483648 : Int))))
         (some (Bool.false))
         (tb ((x.kind == (2 : Int)))
          (some (((↑(List.length x.d) : Int) == (wr ((32 : Int) * x.len)))))
          (some (((↑(List.length x.d) : Int) == (0 : Int)))))))))))))
abbrev r7Check_G (x : Ex) (r : Bool) : Prop := EvFr Try.prog cf true 35 [Ex.av (x)] (.b (r))
theorem r7Check_l0 (x : Ex) (h0 : ((decide (x.lba < (0 : Int)))) = true) (h0p : (x.lba < (0 : Int))) : r7Check_G x (Bool.false) :=
  leafR vw_eq (k := 300) (r := []) (hs := hz [(7, [.yes, .yes, .yes, .yes]), (35, [])]) (raw := (AV.b Bool.false)) kq (ac h0 (ac h0 (ac h0 (ac h0 an)))) tq
theorem r7Check_l1 (x : Ex) (h0 : ((decide (x.lba < (0 : Int)))) = false) (h0p : ¬ (x.lba < (0 : Int))) (h1 : ((decide (x.lba > (64 : Int)))) = true) (h1p : (x.lba > (64 : Int))) : r7Check_G x (Bool.false) :=
  leafR vw_eq (k := 300) (r := []) (hs := hz [(7, [.no]), (1, [.no]), (2, [.no]), (1, [.no]), (1, [.yes, .yes, .yes, .yes]), (30, [])]) (raw := (AV.b Bool.false)) kq (ac h0 (ac h0 (ac h0 (ac h0 (ac h1 (ac h1 (ac h1 (ac h1 an)))))))) tq
theorem r7Check_l2 (x : Ex) (h0 : ((decide (x.lba < (0 : Int)))) = false) (h0p : ¬ (x.lba < (0 : Int))) (h1 : ((decide (x.lba > (64 : Int)))) = false) (h1p : ¬ (x.lba > (64 : Int))) (h2 : ((decide (x.len < (1 : Int)))) = true) (h2p : (x.len < (1 : Int))) : r7Check_G x (Bool.false) :=
  leafR vw_eq (k := 300) (r := []) (hs := hz [(7, [.no]), (1, [.no]), (2, [.no]), (1, [.no]), (1, [.no]), (1, [.no]), (2, [.no]), (1, [.no]), (1, [.yes, .yes, .yes, .yes, .yes, .yes, .yes]), (22, [])]) (raw := (AV.b Bool.false)) kq (ac h0 (ac h0 (ac h0 (ac h0 (ac h1 (ac h1 (ac h1 (ac h1 (ac h2 (ac h2 (ac h2 (ac h2 (ac h2 (ac h2 (ac h2 an))))))))))))))) tq
theorem r7Check_l3 (x : Ex) (h0 : ((decide (x.lba < (0 : Int)))) = false) (h0p : ¬ (x.lba < (0 : Int))) (h1 : ((decide (x.lba > (64 : Int)))) = false) (h1p : ¬ (x.lba > (64 : Int))) (h2 : ((decide (x.len < (1 : Int)))) = false) (h2p : ¬ (x.len < (1 : Int))) (h3 : ((decide (x.len > (wr ((64 : Int) - x.lba))))) = true) (h3p : (x.len > (wr ((64 : Int) - x.lba)))) : r7Check_G x (Bool.false) :=
  leafR vw_eq (k := 300) (r := []) (hs := hz [(7, [.no]), (1, [.no]), (2, [.no]), (1, [.no]), (1, [.no]), (1, [.no]), (2, [.no]), (1, [.no]), (1, [.no]), (1, [.no]), (2, [.no]), (1, [.no]), (2, [.no]), (1, [.no]), (1, [.no]), (1, [.yes, .yes, .yes, .yes]), (17, [])]) (raw := (AV.b Bool.false)) kq (ac h0 (ac h0 (ac h0 (ac h0 (ac h1 (ac h1 (ac h1 (ac h1 (ac h2 (ac h2 (ac h2 (ac h2 (ac h2 (ac h2 (ac h2 (ac h3 (ac h3 (ac h3 (ac h3 an))))))))))))))))))) tq
theorem r7Check_l4 (x : Ex) (h0 : ((decide (x.lba < (0 : Int)))) = false) (h0p : ¬ (x.lba < (0 : Int))) (h1 : ((decide (x.lba > (64 : Int)))) = false) (h1p : ¬ (x.lba > (64 : Int))) (h2 : ((decide (x.len < (1 : Int)))) = false) (h2p : ¬ (x.len < (1 : Int))) (h3 : ((decide (x.len > (wr ((64 : Int) - x.lba))))) = false) (h3p : ¬ (x.len > (wr ((64 : Int) - x.lba)))) (h4 : ((decide (x.kind < (0 : Int)))) = true) (h4p : (x.kind < (0 : Int))) : r7Check_G x (Bool.false) :=
  leafR vw_eq (k := 300) (r := []) (hs := hz [(7, [.no]), (1, [.no]), (2, [.no]), (1, [.no]), (1, [.no]), (1, [.no]), (2, [.no]), (1, [.no]), (1, [.no]), (1, [.no]), (2, [.no]), (1, [.no]), (2, [.no]), (1, [.no]), (1, [.no]), (1, [.no]), (1, [.no]), (2, [.no]), (1, [.no]), (1, [.yes, .yes, .yes, .yes]), (12, [])]) (raw := (AV.b Bool.false)) kq (ac h0 (ac h0 (ac h0 (ac h0 (ac h1 (ac h1 (ac h1 (ac h1 (ac h2 (ac h2 (ac h2 (ac h2 (ac h2 (ac h2 (ac h2 (ac h3 (ac h3 (ac h3 (ac h3 (ac h4 (ac h4 (ac h4 (ac h4 an))))))))))))))))))))))) tq
theorem r7Check_l5 (x : Ex) (h0 : ((decide (x.lba < (0 : Int)))) = false) (h0p : ¬ (x.lba < (0 : Int))) (h1 : ((decide (x.lba > (64 : Int)))) = false) (h1p : ¬ (x.lba > (64 : Int))) (h2 : ((decide (x.len < (1 : Int)))) = false) (h2p : ¬ (x.len < (1 : Int))) (h3 : ((decide (x.len > (wr ((64 : Int) - x.lba))))) = false) (h3p : ¬ (x.len > (wr ((64 : Int) - x.lba)))) (h4 : ((decide (x.kind < (0 : Int)))) = false) (h4p : ¬ (x.kind < (0 : Int))) (h5 : ((decide (x.kind > (2 : Int)))) = true) (h5p : (x.kind > (2 : Int))) : r7Check_G x (Bool.false) :=
  leafR vw_eq (k := 300) (r := []) (hs := hz [(7, [.no]), (1, [.no]), (2, [.no]), (1, [.no]), (1, [.no]), (1, [.no]), (2, [.no]), (1, [.no]), (1, [.no]), (1, [.no]), (2, [.no]), (1, [.no]), (2, [.no]), (1, [.no]), (1, [.no]), (1, [.no]), (1, [.no]), (2, [.no]), (1, [.no]), (1, [.no]), (1, [.no]), (2, [.no]), (1, [.no]), (1, [.yes, .yes, .yes, .yes]), (7, [])]) (raw := (AV.b Bool.false)) kq (ac h0 (ac h0 (ac h0 (ac h0 (ac h1 (ac h1 (ac h1 (ac h1 (ac h2 (ac h2 (ac h2 (ac h2 (ac h2 (ac h2 (ac h2 (ac h3 (ac h3 (ac h3 (ac h3 (ac h4 (ac h4 (ac h4 (ac h4 (ac h5 (ac h5 (ac h5 (ac h5 an))))))))))))))))))))))))))) tq
theorem r7Check_l6 (x : Ex) (h0 : ((decide (x.lba < (0 : Int)))) = false) (h0p : ¬ (x.lba < (0 : Int))) (h1 : ((decide (x.lba > (64 : Int)))) = false) (h1p : ¬ (x.lba > (64 : Int))) (h2 : ((decide (x.len < (1 : Int)))) = false) (h2p : ¬ (x.len < (1 : Int))) (h3 : ((decide (x.len > (wr ((64 : Int) - x.lba))))) = false) (h3p : ¬ (x.len > (wr ((64 : Int) - x.lba)))) (h4 : ((decide (x.kind < (0 : Int)))) = false) (h4p : ¬ (x.kind < (0 : Int))) (h5 : ((decide (x.kind > (2 : Int)))) = false) (h5p : ¬ (x.kind > (2 : Int))) (h6 : ((decide (x.gen < (0 : Int)))) = true) (h6p : (x.gen < (0 : Int))) : r7Check_G x (Bool.false) :=
  leafR vw_eq (k := 300) (r := []) (hs := hz [(7, [.no]), (1, [.no]), (2, [.no]), (1, [.no]), (1, [.no]), (1, [.no]), (2, [.no]), (1, [.no]), (1, [.no]), (1, [.no]), (2, [.no]), (1, [.no]), (2, [.no]), (1, [.no]), (1, [.no]), (1, [.no]), (1, [.no]), (2, [.no]), (1, [.no]), (1, [.no]), (1, [.no]), (2, [.no]), (1, [.no]), (1, [.no]), (1, [.no]), (2, [.no]), (1, [.no]), (1, [.yes, .yes, .yes, .yes]), (2, [])]) (raw := (AV.b Bool.false)) kq (ac h0 (ac h0 (ac h0 (ac h0 (ac h1 (ac h1 (ac h1 (ac h1 (ac h2 (ac h2 (ac h2 (ac h2 (ac h2 (ac h2 (ac h2 (ac h3 (ac h3 (ac h3 (ac h3 (ac h4 (ac h4 (ac h4 (ac h4 (ac h5 (ac h5 (ac h5 (ac h5 (ac h6 (ac h6 (ac h6 (ac h6 an))))))))))))))))))))))))))))))) tq
theorem r7Check_l7 (x : Ex) (h0 : ((decide (x.lba < (0 : Int)))) = false) (h0p : ¬ (x.lba < (0 : Int))) (h1 : ((decide (x.lba > (64 : Int)))) = false) (h1p : ¬ (x.lba > (64 : Int))) (h2 : ((decide (x.len < (1 : Int)))) = false) (h2p : ¬ (x.len < (1 : Int))) (h3 : ((decide (x.len > (wr ((64 : Int) - x.lba))))) = false) (h3p : ¬ (x.len > (wr ((64 : Int) - x.lba)))) (h4 : ((decide (x.kind < (0 : Int)))) = false) (h4p : ¬ (x.kind < (0 : Int))) (h5 : ((decide (x.kind > (2 : Int)))) = false) (h5p : ¬ (x.kind > (2 : Int))) (h6 : ((decide (x.gen < (0 : Int)))) = false) (h6p : ¬ (x.gen < (0 : Int))) (h7 : ((decide (x.gen ≥ (2147483648 : Int)))) = true) (h7p : (x.gen ≥ (2147483648 : Int))) : r7Check_G x (Bool.false) :=
  leafR vw_eq (k := 300) (r := []) (hs := hz [(7, [.no]), (1, [.no]), (2, [.no]), (1, [.no]), (1, [.no]), (1, [.no]), (2, [.no]), (1, [.no]), (1, [.no]), (1, [.no]), (2, [.no]), (1, [.no]), (2, [.no]), (1, [.no]), (1, [.no]), (1, [.no]), (1, [.no]), (2, [.no]), (1, [.no]), (1, [.no]), (1, [.no]), (2, [.no]), (1, [.no]), (1, [.no]), (1, [.no]), (2, [.no]), (1, [.no]), (1, [.no]), (1, [.no]), (2, [.no]), (1, [.no, .yes]), (1, [])]) (raw := (AV.b Bool.false)) kq (ac h0 (ac h0 (ac h0 (ac h0 (ac h1 (ac h1 (ac h1 (ac h1 (ac h2 (ac h2 (ac h2 (ac h2 (ac h2 (ac h2 (ac h2 (ac h3 (ac h3 (ac h3 (ac h3 (ac h4 (ac h4 (ac h4 (ac h4 (ac h5 (ac h5 (ac h5 (ac h5 (ac h6 (ac h6 (ac h6 (ac h6 (ac h7 an)))))))))))))))))))))))))))))))) tq
theorem r7Check_l8 (x : Ex) (h0 : ((decide (x.lba < (0 : Int)))) = false) (h0p : ¬ (x.lba < (0 : Int))) (h1 : ((decide (x.lba > (64 : Int)))) = false) (h1p : ¬ (x.lba > (64 : Int))) (h2 : ((decide (x.len < (1 : Int)))) = false) (h2p : ¬ (x.len < (1 : Int))) (h3 : ((decide (x.len > (wr ((64 : Int) - x.lba))))) = false) (h3p : ¬ (x.len > (wr ((64 : Int) - x.lba)))) (h4 : ((decide (x.kind < (0 : Int)))) = false) (h4p : ¬ (x.kind < (0 : Int))) (h5 : ((decide (x.kind > (2 : Int)))) = false) (h5p : ¬ (x.kind > (2 : Int))) (h6 : ((decide (x.gen < (0 : Int)))) = false) (h6p : ¬ (x.gen < (0 : Int))) (h7 : ((decide (x.gen ≥ (2147483648 : Int)))) = false) (h7p : ¬ (x.gen ≥ (2147483648 : Int))) (h8 : ((x.kind == (2 : Int))) = true) (h8p : (x.kind = (2 : Int))) : r7Check_G x (((↑(List.length x.d) : Int) == (wr ((32 : Int) * x.len)))) :=
  leafR vw_eq (k := 300) (r := []) (hs := hz [(7, [.no]), (1, [.no]), (2, [.no]), (1, [.no]), (1, [.no]), (1, [.no]), (2, [.no]), (1, [.no]), (1, [.no]), (1, [.no]), (2, [.no]), (1, [.no]), (2, [.no]), (1, [.no]), (1, [.no]), (1, [.no]), (1, [.no]), (2, [.no]), (1, [.no]), (1, [.no]), (1, [.no]), (2, [.no]), (1, [.no]), (1, [.no]), (1, [.no]), (2, [.no]), (1, [.no]), (1, [.no]), (1, [.no]), (2, [.no]), (1, [.no, .no]), (4, [.yes]), (10, [])]) (raw := (AV.b ((↑(List.length x.d) : Int) == (wr ((32 : Int) * x.len))))) kq (ac h0 (ac h0 (ac h0 (ac h0 (ac h1 (ac h1 (ac h1 (ac h1 (ac h2 (ac h2 (ac h2 (ac h2 (ac h2 (ac h2 (ac h2 (ac h3 (ac h3 (ac h3 (ac h3 (ac h4 (ac h4 (ac h4 (ac h4 (ac h5 (ac h5 (ac h5 (ac h5 (ac h6 (ac h6 (ac h6 (ac h6 (ac h7 (ac h8 an))))))))))))))))))))))))))))))))) tq
theorem r7Check_l9 (x : Ex) (h0 : ((decide (x.lba < (0 : Int)))) = false) (h0p : ¬ (x.lba < (0 : Int))) (h1 : ((decide (x.lba > (64 : Int)))) = false) (h1p : ¬ (x.lba > (64 : Int))) (h2 : ((decide (x.len < (1 : Int)))) = false) (h2p : ¬ (x.len < (1 : Int))) (h3 : ((decide (x.len > (wr ((64 : Int) - x.lba))))) = false) (h3p : ¬ (x.len > (wr ((64 : Int) - x.lba)))) (h4 : ((decide (x.kind < (0 : Int)))) = false) (h4p : ¬ (x.kind < (0 : Int))) (h5 : ((decide (x.kind > (2 : Int)))) = false) (h5p : ¬ (x.kind > (2 : Int))) (h6 : ((decide (x.gen < (0 : Int)))) = false) (h6p : ¬ (x.gen < (0 : Int))) (h7 : ((decide (x.gen ≥ (2147483648 : Int)))) = false) (h7p : ¬ (x.gen ≥ (2147483648 : Int))) (h8 : ((x.kind == (2 : Int))) = false) (h8p : ¬ (x.kind = (2 : Int))) : r7Check_G x (((↑(List.length x.d) : Int) == (0 : Int))) :=
  leafR vw_eq (k := 300) (r := []) (hs := hz [(7, [.no]), (1, [.no]), (2, [.no]), (1, [.no]), (1, [.no]), (1, [.no]), (2, [.no]), (1, [.no]), (1, [.no]), (1, [.no]), (2, [.no]), (1, [.no]), (2, [.no]), (1, [.no]), (1, [.no]), (1, [.no]), (1, [.no]), (2, [.no]), (1, [.no]), (1, [.no]), (1, [.no]), (2, [.no]), (1, [.no]), (1, [.no]), (1, [.no]), (2, [.no]), (1, [.no]), (1, [.no]), (1, [.no]), (2, [.no]), (1, [.no, .no]), (4, [.no]), (6, [])]) (raw := (AV.b ((↑(List.length x.d) : Int) == (0 : Int)))) kq (ac h0 (ac h0 (ac h0 (ac h0 (ac h1 (ac h1 (ac h1 (ac h1 (ac h2 (ac h2 (ac h2 (ac h2 (ac h2 (ac h2 (ac h2 (ac h3 (ac h3 (ac h3 (ac h3 (ac h4 (ac h4 (ac h4 (ac h4 (ac h5 (ac h5 (ac h5 (ac h5 (ac h6 (ac h6 (ac h6 (ac h6 (ac h7 (ac h8 an))))))))))))))))))))))))))))))))) tq
theorem r7Check_ok (x : Ex) (r : Bool) : r7Check x = some r → r7Check_G x r := by
  unfold r7Check
  refine tb_ok (fun h0 => ?_) (fun h0 => ?_)
  ·
    have h0p := of_decide_eq_true h0
    exact fun e => tl_ok (G := r7Check_G x) (r7Check_l0 x h0 h0p) e
  ·
    have h0p := of_decide_eq_false h0
    refine tb_ok (fun h1 => ?_) (fun h1 => ?_)
    ·
      have h1p := of_decide_eq_true h1
      exact fun e => tl_ok (G := r7Check_G x) (r7Check_l1 x h0 h0p h1 h1p) e
    ·
      have h1p := of_decide_eq_false h1
      refine tb_ok (fun h2 => ?_) (fun h2 => ?_)
      ·
        have h2p := of_decide_eq_true h2
        exact fun e => tl_ok (G := r7Check_G x) (r7Check_l2 x h0 h0p h1 h1p h2 h2p) e
      ·
        have h2p := of_decide_eq_false h2
        refine tb_ok (fun h3 => ?_) (fun h3 => ?_)
        ·
          have h3p := of_decide_eq_true h3
          exact fun e => tl_ok (G := r7Check_G x) (r7Check_l3 x h0 h0p h1 h1p h2 h2p h3 h3p) e
        ·
          have h3p := of_decide_eq_false h3
          refine tb_ok (fun h4 => ?_) (fun h4 => ?_)
          ·
            have h4p := of_decide_eq_true h4
            exact fun e => tl_ok (G := r7Check_G x) (r7Check_l4 x h0 h0p h1 h1p h2 h2p h3 h3p h4 h4p) e
          ·
            have h4p := of_decide_eq_false h4
            refine tb_ok (fun h5 => ?_) (fun h5 => ?_)
            ·
              have h5p := of_decide_eq_true h5
              exact fun e => tl_ok (G := r7Check_G x) (r7Check_l5 x h0 h0p h1 h1p h2 h2p h3 h3p h4 h4p h5 h5p) e
            ·
              have h5p := of_decide_eq_false h5
              refine tb_ok (fun h6 => ?_) (fun h6 => ?_)
              ·
                have h6p := of_decide_eq_true h6
                exact fun e => tl_ok (G := r7Check_G x) (r7Check_l6 x h0 h0p h1 h1p h2 h2p h3 h3p h4 h4p h5 h5p h6 h6p) e
              ·
                have h6p := of_decide_eq_false h6
                refine tb_ok (fun h7 => ?_) (fun h7 => ?_)
                ·
                  have h7p := of_decide_eq_true h7
                  exact fun e => tl_ok (G := r7Check_G x) (r7Check_l7 x h0 h0p h1 h1p h2 h2p h3 h3p h4 h4p h5 h5p h6 h6p h7 h7p) e
                ·
                  have h7p := of_decide_eq_false h7
                  refine tb_ok (fun h8 => ?_) (fun h8 => ?_)
                  ·
                    have h8p := eq_of_beq h8
                    exact fun e => tl_ok (G := r7Check_G x) (r7Check_l8 x h0 h0p h1 h1p h2 h2p h3 h3p h4 h4p h5 h5p h6 h6p h7 h7p h8 h8p) e
                  ·
                    have h8p := ne_of_beq_false h8
                    exact fun e => tl_ok (G := r7Check_G x) (r7Check_l9 x h0 h0p h1 h1p h2 h2p h3 h3p h4 h4p h5 h5p h6 h6p h7 h7p h8 h8p) e
noncomputable def r7Same (a : Ex) (b : Ex) : Option (Bool) :=
 (tb ((a.lba == b.lba))
  (tb ((a.len == b.len))
   (tb ((a.kind == b.kind))
    (tb ((a.gen == b.gen))
     (some ((a.d == b.d)))
     (some (Bool.false)))
    (some (Bool.false)))
   (some (Bool.false)))
  (some (Bool.false)))
abbrev r7Same_G (a : Ex) (b : Ex) (r : Bool) : Prop := EvFr Try.prog cf true 32 [Ex.av (a), Ex.av (b)] (.b (r))
theorem r7Same_l0 (a : Ex) (b : Ex) (h0 : ((a.lba == b.lba)) = true) (h0p : (a.lba = b.lba)) (h1 : ((a.len == b.len)) = true) (h1p : (a.len = b.len)) (h2 : ((a.kind == b.kind)) = true) (h2p : (a.kind = b.kind)) (h3 : ((a.gen == b.gen)) = true) (h3p : (a.gen = b.gen)) : r7Same_G a b ((a.d == b.d)) :=
  leafR vw_eq (k := 300) (r := []) (hs := hz [(11, [.yes]), (1, [.yes]), (2, [.yes]), (1, [.yes]), (2, [.yes]), (1, [.yes]), (1, [.yes]), (1, [.yes]), (2, [.yes]), (1, [.yes]), (2, [.yes]), (1, [.yes]), (1, [.yes]), (1, [.yes]), (2, [.yes]), (1, [.yes]), (2, [.yes]), (1, [.yes]), (1, [.yes]), (1, [.yes]), (2, [.yes, .yes, .str (a.d), .yes]), (1, [.yes]), (2, [.yes, .yes, .str (b.d), .yes]), (1, [.yes]), (1, [])]) (raw := (AV.b (a.d == b.d))) kq (ac h0 (ac h0 (ac h0 (ac h0 (ac h0 (ac h0 (ac h1 (ac h1 (ac h1 (ac h1 (ac h1 (ac h1 (ac h2 (ac h2 (ac h2 (ac h2 (ac h2 (ac h2 (ac h3 (ac h3 (ac h3 (ac (tq (p := ((List.length (List.map AV.y a.d)) = ((List.length a.d) * (1 : Nat))))) (ac (tq (p := bytesOf ((List.map AV.y a.d)) = some (a.d))) (ac h3 (ac h3 (ac h3 (ac (tq (p := ((List.length (List.map AV.y b.d)) = ((List.length b.d) * (1 : Nat))))) (ac (tq (p := bytesOf ((List.map AV.y b.d)) = some (b.d))) (ac h3 (ac h3 an)))))))))))))))))))))))))))))) tq
theorem r7Same_l1 (a : Ex) (b : Ex) (h0 : ((a.lba == b.lba)) = true) (h0p : (a.lba = b.lba)) (h1 : ((a.len == b.len)) = true) (h1p : (a.len = b.len)) (h2 : ((a.kind == b.kind)) = true) (h2p : (a.kind = b.kind)) (h3 : ((a.gen == b.gen)) = false) (h3p : ¬ (a.gen = b.gen)) : r7Same_G a b (Bool.false) :=
  leafR vw_eq (k := 300) (r := []) (hs := hz [(11, [.yes]), (1, [.yes]), (2, [.yes]), (1, [.yes]), (2, [.yes]), (1, [.yes]), (1, [.yes]), (1, [.yes]), (2, [.yes]), (1, [.yes]), (2, [.yes]), (1, [.yes]), (1, [.yes]), (1, [.yes]), (2, [.yes]), (1, [.yes]), (2, [.yes]), (1, [.yes]), (1, [.no, .no, .no, .no, .no, .no, .no, .no]), (1, [])]) (raw := (AV.b Bool.false)) kq (ac h0 (ac h0 (ac h0 (ac h0 (ac h0 (ac h0 (ac h1 (ac h1 (ac h1 (ac h1 (ac h1 (ac h1 (ac h2 (ac h2 (ac h2 (ac h2 (ac h2 (ac h2 (ac h3 (ac h3 (ac h3 (ac h3 (ac h3 (ac h3 (ac h3 (ac h3 an)))))))))))))))))))))))))) tq
theorem r7Same_l2 (a : Ex) (b : Ex) (h0 : ((a.lba == b.lba)) = true) (h0p : (a.lba = b.lba)) (h1 : ((a.len == b.len)) = true) (h1p : (a.len = b.len)) (h2 : ((a.kind == b.kind)) = false) (h2p : ¬ (a.kind = b.kind)) : r7Same_G a b (Bool.false) :=
  leafR vw_eq (k := 300) (r := []) (hs := hz [(11, [.yes]), (1, [.yes]), (2, [.yes]), (1, [.yes]), (2, [.yes]), (1, [.yes]), (1, [.yes]), (1, [.yes]), (2, [.yes]), (1, [.yes]), (2, [.yes]), (1, [.yes]), (1, [.no, .no, .no, .no, .no, .no]), (10, [])]) (raw := (AV.b Bool.false)) kq (ac h0 (ac h0 (ac h0 (ac h0 (ac h0 (ac h0 (ac h1 (ac h1 (ac h1 (ac h1 (ac h1 (ac h1 (ac h2 (ac h2 (ac h2 (ac h2 (ac h2 (ac h2 an)))))))))))))))))) tq
theorem r7Same_l3 (a : Ex) (b : Ex) (h0 : ((a.lba == b.lba)) = true) (h0p : (a.lba = b.lba)) (h1 : ((a.len == b.len)) = false) (h1p : ¬ (a.len = b.len)) : r7Same_G a b (Bool.false) :=
  leafR vw_eq (k := 300) (r := []) (hs := hz [(11, [.yes]), (1, [.yes]), (2, [.yes]), (1, [.yes]), (2, [.yes]), (1, [.yes]), (1, [.no, .no, .no, .no, .no, .no]), (17, [])]) (raw := (AV.b Bool.false)) kq (ac h0 (ac h0 (ac h0 (ac h0 (ac h0 (ac h0 (ac h1 (ac h1 (ac h1 (ac h1 (ac h1 (ac h1 an)))))))))))) tq
theorem r7Same_l4 (a : Ex) (b : Ex) (h0 : ((a.lba == b.lba)) = false) (h0p : ¬ (a.lba = b.lba)) : r7Same_G a b (Bool.false) :=
  leafR vw_eq (k := 300) (r := []) (hs := hz [(11, [.no, .no, .no, .no, .no, .no]), (24, [])]) (raw := (AV.b Bool.false)) kq (ac h0 (ac h0 (ac h0 (ac h0 (ac h0 (ac h0 an)))))) tq
theorem r7Same_ok (a : Ex) (b : Ex) (r : Bool) : r7Same a b = some r → r7Same_G a b r := by
  unfold r7Same
  refine tb_ok (fun h0 => ?_) (fun h0 => ?_)
  ·
    have h0p := eq_of_beq h0
    refine tb_ok (fun h1 => ?_) (fun h1 => ?_)
    ·
      have h1p := eq_of_beq h1
      refine tb_ok (fun h2 => ?_) (fun h2 => ?_)
      ·
        have h2p := eq_of_beq h2
        refine tb_ok (fun h3 => ?_) (fun h3 => ?_)
        ·
          have h3p := eq_of_beq h3
          exact fun e => tl_ok (G := r7Same_G a b) (r7Same_l0 a b h0 h0p h1 h1p h2 h2p h3 h3p) e
        ·
          have h3p := ne_of_beq_false h3
          exact fun e => tl_ok (G := r7Same_G a b) (r7Same_l1 a b h0 h0p h1 h1p h2 h2p h3 h3p) e
      ·
        have h2p := ne_of_beq_false h2
        exact fun e => tl_ok (G := r7Same_G a b) (r7Same_l2 a b h0 h0p h1 h1p h2 h2p) e
    ·
      have h1p := ne_of_beq_false h1
      exact fun e => tl_ok (G := r7Same_G a b) (r7Same_l3 a b h0 h0p h1 h1p) e
  ·
    have h0p := ne_of_beq_false h0
    exact fun e => tl_ok (G := r7Same_G a b) (r7Same_l4 a b h0 h0p) e
noncomputable abbrev r7All_L0_I (a : List Ex) (b : List Ex) : St := (St.mk [(0, (exs a)), (1, (exs b)), (4, (AV.b Bool.false)), (7, (exs a)), (8, (AV.i (↑(List.length a) : Int))), (9, (exs b)), (10, (AV.i (↑(List.length b) : Int))), (11, (AV.b ((↑(List.length a) : Int) != (↑(List.length b) : Int)))), (5, (AV.i 0))] 29 (AH.mk 0 ([] : List (Prod Nat AObj))) Bool.false)
noncomputable abbrev r7All_L0_S (a : List Ex) (b : List Ex) (s1 : Int) : St := (St.mk [(0, (exs a)), (1, (exs b)), (11, (AV.b ((↑(List.length a) : Int) != (↑(List.length b) : Int)))), (5, (AV.i s1))] 29 (AH.mk 0 ([] : List (Prod Nat AObj))) Bool.false)
noncomputable def r7All_L0_step (a : List Ex) (b : List Ex) (s1 : Int) : Option (Int) :=
 (tb ((decide (s1 < (↑(List.length a) : Int))))
  (tp ((((0 : Int) ≤ s1) ∧ (s1 < (↑(List.length a) : Int))))
   (tp ((((0 : Int) ≤ s1) ∧ (s1 < (↑(List.length b) : Int))))
    (tc (r7Same ((exAt a (Int.toNat s1))) ((exAt b (Int.toNat s1)))) fun s5 =>
     (tb ((!s5))
      none /- exit -/
      (some ((wr (s1 + (1 : Int)))))))))
  none /- exit -/)
theorem r7All_L0_s0 (a : List Ex) (b : List Ex) (s1 : Int) (h2 : ((decide (s1 < (↑(List.length a) : Int)))) = true) (h2p : (s1 < (↑(List.length a) : Int))) (h3 : (((0 : Int) ≤ s1) ∧ (s1 < (↑(List.length a) : Int)))) (h4 : (((0 : Int) ≤ s1) ∧ (s1 < (↑(List.length b) : Int)))) (s5 : Bool) (h5 : r7Same ((exAt a (Int.toNat s1))) ((exAt b (Int.toNat s1))) = some s5) (h6 : ((!s5)) = false) : EvStep Try.prog cf 0 (lp Try.prog 16 0) (r7All_L0_S a b s1) (r7All_L0_S a b ((wr (s1 + (1 : Int))))) :=
  leafS vw_eq (k := 300) (r := []) (hs := hz [(4, [.yes]), (2, [.yes, .yes, .cells ((Ex.cells (exAt a (Int.toNat s1))))]), (2, [.yes, .yes, .cells ((Ex.cells (exAt b (Int.toNat s1))))]), (1, [.fres (.b (s5))]), (1, [.yes]), (2, [.no]), (3, [])]) (st1 := (St.mk [(0, (exs a)), (1, (exs b)), (11, (AV.b ((↑(List.length a) : Int) != (↑(List.length b) : Int)))), (5, (AV.i (wr (s1 + (1 : Int))))), (12, (AV.i s1)), (13, (exs a)), (14, (AV.i (↑(List.length a) : Int))), (15, (AV.b (decide (s1 < (↑(List.length a) : Int))))), (18, (exs a)), (19, (AV.i s1)), (20, (AV.ip (List.drop ((Int.toNat s1) * (5 : Nat)) (List.flatMap Ex.cells a)))), (21, (AV.ag (xc (exAt a (Int.toNat s1))))), (22, (exs b)), (23, (AV.i s1)), (24, (AV.ip (List.drop ((Int.toNat s1) * (5 : Nat)) (List.flatMap Ex.cells b)))), (25, (AV.ag (xc (exAt b (Int.toNat s1))))), (26, (AV.b s5)), (6, (AV.b s5)), (27, (AV.b s5)), (28, (AV.b (!s5))), (16, (AV.i s1)), (17, (AV.i (wr (s1 + (1 : Int)))))] 29 (AH.mk 0 ([] : List (Prod Nat AObj))) Bool.false)) kq (ac h2 (ac h3 (ac (fq (p := ((5 : Nat) ≤ (List.length (List.drop ((Int.toNat s1) * (5 : Nat)) (List.flatMap Ex.cells a)))))) (ac (show (List.take 5 (List.drop ((Int.toNat s1) * (5 : Nat)) (List.flatMap Ex.cells a))) = (Ex.cells (exAt a (Int.toNat s1))) from (ex_takeO bq bq)) (ac h4 (ac (fq (p := ((5 : Nat) ≤ (List.length (List.drop ((Int.toNat s1) * (5 : Nat)) (List.flatMap Ex.cells b)))))) (ac (show (List.take 5 (List.drop ((Int.toNat s1) * (5 : Nat)) (List.flatMap Ex.cells b))) = (Ex.cells (exAt b (Int.toNat s1))) from (ex_takeO bq bq)) (ac (r7Same_ok ((exAt a (Int.toNat s1))) ((exAt b (Int.toNat s1))) _ h5).any0 (ac (show orderOk (rg Try.prog 16 0) = true ∧ allOk (Region.before (rg Try.prog 16 0)) [] 0 [(some [], some []), (some [], some []), (some [], some []), (some [], some []), (some [], some []), (some [], some []), (some [], some []), (some [], some []), (some [], some []), (some [], some [])] = true from (ord_of ord_16_0 bef_16_0 kq)) (ac h6 an)))))))))) (Nat.le_of_ble_eq_true rfl) (absB_of [] [] kq (.consn kq (.eqv tq rfl) (.consn kq (.eqv tq rfl) (.consn kq (.eqv tq rfl) (.consn kq (.eqv tq rfl) .nil)))) .nil)
theorem r7All_L0_ok (a : List Ex) (b : List Ex) (s1 zz : Int) : r7All_L0_step a b s1 = some zz → EvStep Try.prog cf 0 (lp Try.prog 16 0) (r7All_L0_S a b s1) (r7All_L0_S a b zz) := by
  unfold r7All_L0_step
  refine tb_ok (fun h2 => ?_) (fun h2 => ?_)
  ·
    have h2p := of_decide_eq_true h2
    refine tp_ok (fun h3 => ?_)
    refine tp_ok (fun h4 => ?_)
    refine tc_ok (fun s5 h5 => ?_)
    refine tb_ok (fun h6 => ?_) (fun h6 => ?_)
    ·
      exact fun e => nomatch e
    ·
      exact fun e => tl_ok (G := (fun zz => EvStep Try.prog cf 0 (lp Try.prog 16 0) (r7All_L0_S a b s1) (r7All_L0_S a b zz))) (r7All_L0_s0 a b s1 h2 h2p h3 h4 s5 h5 h6) e
  ·
    have h2p := of_decide_eq_false h2
    exact fun e => nomatch e
noncomputable def r7All (a : List Ex) (b : List Ex) : Option (Bool) :=
 (tb (((↑(List.length a) : Int) != (↑(List.length b) : Int)))
  (some (Bool.false))
  (th (r7All_L0_step a b) ((0 : Int)) fun s1 =>
   (tb ((decide (s1 < (↑(List.length a) : Int))))
    (tp ((((0 : Int) ≤ s1) ∧ (s1 < (↑(List.length a) : Int))))
     (tc (r7Same ((exAt a (Int.toNat s1))) ((exAt b (Int.toNat s1)))) fun s4 =>
      (tb ((!s4))
       (some (Bool.false))
       none /- stop behind an operation -/)))
    (some (Bool.true)))))
abbrev r7All_G (a : List Ex) (b : List Ex) (r : Bool) : Prop := EvFr Try.prog cf true 16 [exs (a), exs (b)] (.b (r))
theorem r7All_l0 (a : List Ex) (b : List Ex) (h0 : (((↑(List.length a) : Int) != (↑(List.length b) : Int))) = true) (h0p : ¬ ((↑(List.length a) : Int) = (↑(List.length b) : Int))) : r7All_G a b (Bool.false) :=
  leafR vw_eq (k := 300) (r := []) (hs := hz [(6, [.yes]), (1, [])]) (raw := (AV.b Bool.false)) kq (ac h0 an) tq
theorem r7All_l1 (a : List Ex) (b : List Ex) (h0 : (((↑(List.length a) : Int) != (↑(List.length b) : Int))) = false) (h0p : ((↑(List.length a) : Int) = (↑(List.length b) : Int))) (s1 : Int) (h1 : Runs (r7All_L0_step a b) ((0 : Int)) s1) (h2 : ((decide (s1 < (↑(List.length a) : Int)))) = true) (h2p : (s1 < (↑(List.length a) : Int))) (h3 : (((0 : Int) ≤ s1) ∧ (s1 < (↑(List.length a) : Int)))) (s4 : Bool) (h4 : r7Same ((exAt a (Int.toNat s1))) ((exAt b (Int.toNat s1))) = some s4) (h5 : ((!s4)) = true) : r7All_G a b (Bool.false) :=
  leafR vw_eq (k := 300) (r := []) (hs := hz [(6, [.no]), (1, [.head (r7All_L0_S a b s1)]), (4, [.yes]), (2, [.yes, .yes, .cells ((Ex.cells (exAt a (Int.toNat s1))))]), (2, [.yes, .yes, .cells ((Ex.cells (exAt b (Int.toNat s1))))]), (1, [.fres (.b (s4))]), (1, [.yes]), (2, [.yes]), (1, [])]) (raw := (AV.b Bool.false)) kq (ac h0 (ac (show EvHead Try.prog cf (lp Try.prog 16 0) (r7All_L0_I a b) (r7All_L0_S a b s1) from (EvHead.of (r7All_L0_ok a b) (absB_of [] [] kq (.consn kq (.eqv tq rfl) (.consn kq (.eqv tq rfl) (.consn kq (.eqv tq rfl) (.consn kq (.eqv tq rfl) .nil)))) .nil) h1)) (ac h2 (ac h3 (ac (fq (p := ((5 : Nat) ≤ (List.length (List.drop ((Int.toNat s1) * (5 : Nat)) (List.flatMap Ex.cells a)))))) (ac (show (List.take 5 (List.drop ((Int.toNat s1) * (5 : Nat)) (List.flatMap Ex.cells a))) = (Ex.cells (exAt a (Int.toNat s1))) from (ex_takeO bq bq)) (ac (fq (p := (((0 : Int) ≤ s1) ∧ (s1 < (↑(List.length b) : Int))))) (ac (fq (p := ((5 : Nat) ≤ (List.length (List.drop ((Int.toNat s1) * (5 : Nat)) (List.flatMap Ex.cells b)))))) (ac (show (List.take 5 (List.drop ((Int.toNat s1) * (5 : Nat)) (List.flatMap Ex.cells b))) = (Ex.cells (exAt b (Int.toNat s1))) from (ex_takeO bq bq)) (ac (r7Same_ok ((exAt a (Int.toNat s1))) ((exAt b (Int.toNat s1))) _ h4).any0 (ac (show orderOk (rg Try.prog 16 0) = true ∧ allOk (Region.before (rg Try.prog 16 0)) [] 0 [(some [], some []), (some [], some []), (some [], some []), (some [], some []), (some [], some []), (some [], some []), (some [], some []), (some [], some []), (some [], some []), (some [], some [])] = true from (ord_of ord_16_0 bef_16_0 kq)) (ac h5 an)))))))))))) tq
theorem r7All_l2 (a : List Ex) (b : List Ex) (h0 : (((↑(List.length a) : Int) != (↑(List.length b) : Int))) = false) (h0p : ((↑(List.length a) : Int) = (↑(List.length b) : Int))) (s1 : Int) (h1 : Runs (r7All_L0_step a b) ((0 : Int)) s1) (h2 : ((decide (s1 < (↑(List.length a) : Int)))) = false) (h2p : ¬ (s1 < (↑(List.length a) : Int))) : r7All_G a b (Bool.true) :=
  leafR vw_eq (k := 300) (r := []) (hs := hz [(6, [.no]), (1, [.head (r7All_L0_S a b s1)]), (4, [.no]), (1, [])]) (raw := (AV.b Bool.true)) kq (ac h0 (ac (show EvHead Try.prog cf (lp Try.prog 16 0) (r7All_L0_I a b) (r7All_L0_S a b s1) from (EvHead.of (r7All_L0_ok a b) (absB_of [] [] kq (.consn kq (.eqv tq rfl) (.consn kq (.eqv tq rfl) (.consn kq (.eqv tq rfl) (.consn kq (.eqv tq rfl) .nil)))) .nil) h1)) (ac h2 an))) tq
theorem r7All_ok (a : List Ex) (b : List Ex) (r : Bool) : r7All a b = some r → r7All_G a b r := by
  unfold r7All
  refine tb_ok (fun h0 => ?_) (fun h0 => ?_)
  ·
    have h0p := bne_iff_ne.1 h0
    exact fun e => tl_ok (G := r7All_G a b) (r7All_l0 a b h0 h0p) e
  ·
    have h0p := bne_eq_false_iff_eq.1 h0
    refine th_ok (fun s1 h1 => ?_)
    refine tb_ok (fun h2 => ?_) (fun h2 => ?_)
    ·
      have h2p := of_decide_eq_true h2
      refine tp_ok (fun h3 => ?_)
      refine tc_ok (fun s4 h4 => ?_)
      refine tb_ok (fun h5 => ?_) (fun h5 => ?_)
      ·
        exact fun e => tl_ok (G := r7All_G a b) (r7All_l1 a b h0 h0p s1 h1 h2 h2p h3 s4 h4 h5) e
      ·
        exact fun e => nomatch e
    ·
      have h2p := of_decide_eq_false h2
      exact fun e => tl_ok (G := r7All_G a b) (r7All_l2 a b h0 h0p s1 h1 h2 h2p) e
noncomputable abbrev mCheck_L0_I (blocks : Int) (l : List Ex) : St := (St.mk [(0, (AV.i blocks)), (1, (exs l)), (4, (AV.b Bool.false)), (5, (AV.i 0)), (8, (exs l)), (9, (AV.i (↑(List.length l) : Int))), (10, (AV.i 0))] 50 (AH.mk 0 ([] : List (Prod Nat AObj))) Bool.false)
noncomputable abbrev mCheck_L0_S (blocks : Int) (l : List Ex) (s0 : Int × Int) : St := (St.mk [(0, (AV.i blocks)), (1, (exs l)), (5, (AV.i s0.1)), (8, (exs l)), (9, (AV.i (↑(List.length l) : Int))), (10, (AV.i s0.2))] 50 (AH.mk 0 ([] : List (Prod Nat AObj))) Bool.false)
noncomputable def mCheck_L0_step (blocks : Int) (l : List Ex) (s0 : Int × Int) : Option (Int × Int) :=
 (tb ((decide (s0.2 < (↑(List.length l) : Int))))
  (tp ((((0 : Int) ≤ s0.2) ∧ (s0.2 < (↑(List.length l) : Int))))
   (tc (eCheck ((exAt l (Int.toNat s0.2)))) fun s3 =>
    (tb ((!s3))
     none /- exit -/
     (tb (((exAt l (Int.toNat s0.2)).lba != s0.1))
      none /- exit -/
      (tb ((decide (s0.2 > (0 : Int))))
       (tp ((((0 : Int) ≤ (wr (s0.2 - (1 : Int)))) ∧ ((wr (s0.2 - (1 : Int))) < (↑(List.length l) : Int))))
        (tc (eJoins ((exAt l (Int.toNat (wr (s0.2 - (1 : Int)))))) ((exAt l (Int.toNat s0.2)))) fun s8 =>
         (tb (s8)
          none /- exit -/
          (some (((wr (s0.1 + (exAt l (Int.toNat s0.2)).len)), (wr (s0.2 + (1 : Int)))))))))
       (some (((wr (s0.1 + (exAt l (Int.toNat s0.2)).len)), (wr (s0.2 + (1 : Int)))))))))))
  none /- exit -/)
theorem mCheck_L0_s0 (blocks : Int) (l : List Ex) (s0 : Int × Int) (h1 : ((decide (s0.2 < (↑(List.length l) : Int)))) = true) (h1p : (s0.2 < (↑(List.length l) : Int))) (h2 : (((0 : Int) ≤ s0.2) ∧ (s0.2 < (↑(List.length l) : Int)))) (s3 : Bool) (h3 : eCheck ((exAt l (Int.toNat s0.2))) = some s3) (h4 : ((!s3)) = false) (h5 : (((exAt l (Int.toNat s0.2)).lba != s0.1)) = false) (h5p : ((exAt l (Int.toNat s0.2)).lba = s0.1)) (h6 : ((decide (s0.2 > (0 : Int)))) = true) (h6p : (s0.2 > (0 : Int))) (h7 : (((0 : Int) ≤ (wr (s0.2 - (1 : Int)))) ∧ ((wr (s0.2 - (1 : Int))) < (↑(List.length l) : Int)))) (s8 : Bool) (h8 : eJoins ((exAt l (Int.toNat (wr (s0.2 - (1 : Int)))))) ((exAt l (Int.toNat s0.2))) = some s8) (h9 : (s8) = false) : EvStep Try.prog cf 0 (lp Try.prog 36 0) (mCheck_L0_S blocks l s0) (mCheck_L0_S blocks l (((wr (s0.1 + (exAt l (Int.toNat s0.2)).len)), (wr (s0.2 + (1 : Int)))))) :=
  leafS vw_eq (k := 300) (r := []) (hs := hz [(1, [.yes]), (1, [.yes, .yes, .cells ((Ex.cells (exAt l (Int.toNat s0.2))))]), (3, [.cells ((xc (exAt l (Int.toNat s0.2))))]), (1, [.cells ((xc (exAt l (Int.toNat s0.2))))]), (1, [.fres (.b (s3))]), (2, [.no]), (1, [.no]), (2, [.no]), (1, [.no]), (1, [.no]), (1, [.no]), (1, [.no]), (1, [.no]), (1, [.yes]), (1, [.yes]), (1, [.yes]), (1, [.yes, .yes, .yes, .yes, .cells ((Ex.cells (exAt l (Int.toNat (wr (s0.2 - (1 : Int))))))), .yes]), (1, [.cells ((xc (exAt l (Int.toNat s0.2)))), .yes]), (1, [.fres (.b (s8)), .no, .yes, .no, .yes, .no]), (8, [])]) (st1 := (St.mk [(0, (AV.i blocks)), (1, (exs l)), (5, (AV.i (wr (s0.1 + (exAt l (Int.toNat s0.2)).len)))), (8, (exs l)), (9, (AV.i (↑(List.length l) : Int))), (10, (AV.i (wr (s0.2 + (1 : Int))))), (11, (AV.b (decide (s0.2 < (↑(List.length l) : Int))))), (12, (AV.i s0.2)), (13, (AV.ip (List.drop ((Int.toNat s0.2) * (5 : Nat)) (List.flatMap Ex.cells l)))), (14, (AV.ag (xc (exAt l (Int.toNat s0.2))))), (7, (AV.pt 0 0)), (6, (AV.i s0.2)), (15, (AV.ag (xc (exAt l (Int.toNat s0.2))))), (16, (AV.b s3)), (17, (AV.b (!s3))), (18, (AV.b (!s3))), (19, (AV.pt 0 0)), (20, (AV.i (exAt l (Int.toNat s0.2)).lba)), (21, (AV.i s0.1)), (22, (AV.b ((exAt l (Int.toNat s0.2)).lba != s0.1))), (23, (AV.b ((exAt l (Int.toNat s0.2)).lba != s0.1))), (24, (AV.b ((exAt l (Int.toNat s0.2)).lba != s0.1))), (25, (AV.i s0.2)), (26, (AV.b (decide (s0.2 > (0 : Int))))), (27, (AV.b (decide (s0.2 > (0 : Int))))), (28, (exs l)), (29, (AV.i s0.2)), (30, (AV.i (wr (s0.2 - (1 : Int))))), (31, (AV.ip (List.drop ((Int.toNat (wr (s0.2 - (1 : Int)))) * (5 : Nat)) (List.flatMap Ex.cells l)))), (32, (AV.ag (xc (exAt l (Int.toNat (wr (s0.2 - (1 : Int)))))))), (33, (AV.ag (xc (exAt l (Int.toNat s0.2))))), (34, (AV.b s8)), (35, (AV.b s8)), (36, (AV.b s8)), (37, (AV.i s0.1)), (38, (AV.pt 0 1)), (39, (AV.i (exAt l (Int.toNat s0.2)).len)), (40, (AV.i (wr (s0.1 + (exAt l (Int.toNat s0.2)).len)))), (41, (AV.i (wr (s0.2 + (1 : Int)))))] 50 (AH.mk 1 [(0, (AObj.cells (xc (exAt l (Int.toNat s0.2)))))]) Bool.false)) kq (ac h1 (ac h2 (ac (fq (p := ((5 : Nat) ≤ (List.length (List.drop ((Int.toNat s0.2) * (5 : Nat)) (List.flatMap Ex.cells l)))))) (ac (show (List.take 5 (List.drop ((Int.toNat s0.2) * (5 : Nat)) (List.flatMap Ex.cells l))) = (Ex.cells (exAt l (Int.toNat s0.2))) from (ex_takeO bq bq)) (ac (Eq.refl ((xc (exAt l (Int.toNat s0.2))) : List AV)) (ac (Eq.refl ((xc (exAt l (Int.toNat s0.2))) : List AV)) (ac (eCheck_ok ((exAt l (Int.toNat s0.2))) _ h3).any0 (ac h4 (ac h4 (ac h4 (ac h4 (ac h4 (ac h5 (ac h5 (ac h5 (ac h6 (ac h6 (ac h6 (ac h6 (ac h7 (ac h6 (ac (fq (p := ((5 : Nat) ≤ (List.length (List.drop ((Int.toNat (wr (s0.2 - (1 : Int)))) * (5 : Nat)) (List.flatMap Ex.cells l)))))) (ac (show (List.take 5 (List.drop ((Int.toNat (wr (s0.2 - (1 : Int)))) * (5 : Nat)) (List.flatMap Ex.cells l))) = (Ex.cells (exAt l (Int.toNat (wr (s0.2 - (1 : Int)))))) from (ex_takeO bq bq)) (ac h6 (ac (Eq.refl ((xc (exAt l (Int.toNat s0.2))) : List AV)) (ac h6 (ac (eJoins_ok ((exAt l (Int.toNat (wr (s0.2 - (1 : Int)))))) ((exAt l (Int.toNat s0.2))) _ h8).any0 (ac h5 (ac h6 (ac h5 (ac (show orderOk (rg Try.prog 36 0) = true ∧ allOk (Region.before (rg Try.prog 36 0)) [] 0 [(some [0], some []), (some [], some []), (some [], some []), (some [], some []), (some [], some []), (some [0], some []), (some [], some []), (some [], some []), (some [], some []), (some [], some []), (some [], some []), (some [], some []), (some [], some []), (some [], some []), (some [], some []), (some [], some []), (some [], some []), (some [], some []), (some [0], some []), (some [], some []), (some [], some []), (some [], some [])] = true from (ord_of ord_36_0 bef_36_0 kq)) (ac h9 an)))))))))))))))))))))))))))))))) (Nat.le_of_ble_eq_true rfl) (absB_of [] [] kq (.consn kq (.eqv tq rfl) (.consn kq (.eqv tq rfl) (.consn kq (.eqv tq rfl) (.consn kq (.eqv tq rfl) (.consn kq (.eqv tq rfl) (.consn kq (.eqv tq rfl) .nil)))))) .nil)
theorem mCheck_L0_s1 (blocks : Int) (l : List Ex) (s0 : Int × Int) (h1 : ((decide (s0.2 < (↑(List.length l) : Int)))) = true) (h1p : (s0.2 < (↑(List.length l) : Int))) (h2 : (((0 : Int) ≤ s0.2) ∧ (s0.2 < (↑(List.length l) : Int)))) (s3 : Bool) (h3 : eCheck ((exAt l (Int.toNat s0.2))) = some s3) (h4 : ((!s3)) = false) (h5 : (((exAt l (Int.toNat s0.2)).lba != s0.1)) = false) (h5p : ((exAt l (Int.toNat s0.2)).lba = s0.1)) (h6 : ((decide (s0.2 > (0 : Int)))) = false) (h6p : ¬ (s0.2 > (0 : Int))) : EvStep Try.prog cf 0 (lp Try.prog 36 0) (mCheck_L0_S blocks l s0) (mCheck_L0_S blocks l (((wr (s0.1 + (exAt l (Int.toNat s0.2)).len)), (wr (s0.2 + (1 : Int)))))) :=
  leafS vw_eq (k := 300) (r := []) (hs := hz [(1, [.yes]), (1, [.yes, .yes, .cells ((Ex.cells (exAt l (Int.toNat s0.2))))]), (3, [.cells ((xc (exAt l (Int.toNat s0.2))))]), (1, [.cells ((xc (exAt l (Int.toNat s0.2))))]), (1, [.fres (.b (s3))]), (2, [.no]), (1, [.no]), (2, [.no]), (1, [.no]), (1, [.no]), (1, [.no]), (1, [.no]), (1, [.no]), (1, [.no, .no, .no, .no, .no, .no, .no, .no, .no, .no, .yes]), (9, [])]) (st1 := (St.mk [(0, (AV.i blocks)), (1, (exs l)), (5, (AV.i (wr (s0.1 + (exAt l (Int.toNat s0.2)).len)))), (8, (exs l)), (9, (AV.i (↑(List.length l) : Int))), (10, (AV.i (wr (s0.2 + (1 : Int))))), (11, (AV.b (decide (s0.2 < (↑(List.length l) : Int))))), (12, (AV.i s0.2)), (13, (AV.ip (List.drop ((Int.toNat s0.2) * (5 : Nat)) (List.flatMap Ex.cells l)))), (14, (AV.ag (xc (exAt l (Int.toNat s0.2))))), (7, (AV.pt 0 0)), (6, (AV.i s0.2)), (15, (AV.ag (xc (exAt l (Int.toNat s0.2))))), (16, (AV.b s3)), (17, (AV.b (!s3))), (18, (AV.b (!s3))), (19, (AV.pt 0 0)), (20, (AV.i (exAt l (Int.toNat s0.2)).lba)), (21, (AV.i s0.1)), (22, (AV.b ((exAt l (Int.toNat s0.2)).lba != s0.1))), (23, (AV.b ((exAt l (Int.toNat s0.2)).lba != s0.1))), (24, (AV.b ((exAt l (Int.toNat s0.2)).lba != s0.1))), (25, (AV.i s0.2)), (26, (AV.b (decide (s0.2 > (0 : Int))))), (27, (AV.b (decide (s0.2 > (0 : Int))))), (28, (AV.tu ([] : List AV))), (29, (AV.tu ([] : List AV))), (30, (AV.tu ([] : List AV))), (31, (AV.tu ([] : List AV))), (32, (AV.tu ([] : List AV))), (33, (AV.tu ([] : List AV))), (34, (AV.tu ([] : List AV))), (35, (AV.b Bool.false)), (36, (AV.b Bool.false)), (37, (AV.i s0.1)), (38, (AV.pt 0 1)), (39, (AV.i (exAt l (Int.toNat s0.2)).len)), (40, (AV.i (wr (s0.1 + (exAt l (Int.toNat s0.2)).len)))), (41, (AV.i (wr (s0.2 + (1 : Int)))))] 50 (AH.mk 1 [(0, (AObj.cells (xc (exAt l (Int.toNat s0.2)))))]) Bool.false)) kq (ac h1 (ac h2 (ac (fq (p := ((5 : Nat) ≤ (List.length (List.drop ((Int.toNat s0.2) * (5 : Nat)) (List.flatMap Ex.cells l)))))) (ac (show (List.take 5 (List.drop ((Int.toNat s0.2) * (5 : Nat)) (List.flatMap Ex.cells l))) = (Ex.cells (exAt l (Int.toNat s0.2))) from (ex_takeO bq bq)) (ac (Eq.refl ((xc (exAt l (Int.toNat s0.2))) : List AV)) (ac (Eq.refl ((xc (exAt l (Int.toNat s0.2))) : List AV)) (ac (eCheck_ok ((exAt l (Int.toNat s0.2))) _ h3).any0 (ac h4 (ac h4 (ac h4 (ac h4 (ac h4 (ac h5 (ac h5 (ac h5 (ac h6 (ac h6 (ac h6 (ac h6 (ac h6 (ac h6 (ac h6 (ac h5 (ac h6 (ac h5 (ac (show orderOk (rg Try.prog 36 0) = true ∧ allOk (Region.before (rg Try.prog 36 0)) [] 0 [(some [0], some []), (some [], some []), (some [], some []), (some [], some []), (some [], some []), (some [0], some []), (some [], some []), (some [], some []), (some [], some []), (some [], some []), (some [], some []), (some [], some []), (some [], some []), (some [], some []), (some [], some []), (some [], some []), (some [], some []), (some [], some []), (some [], some []), (some [], some []), (some [], some []), (some [], some [])] = true from (ord_of ord_36_0 bef_36_0 kq)) an)))))))))))))))))))))))))) (Nat.le_of_ble_eq_true rfl) (absB_of [] [] kq (.consn kq (.eqv tq rfl) (.consn kq (.eqv tq rfl) (.consn kq (.eqv tq rfl) (.consn kq (.eqv tq rfl) (.consn kq (.eqv tq rfl) (.consn kq (.eqv tq rfl) .nil)))))) .nil)
theorem mCheck_L0_ok (blocks : Int) (l : List Ex) (s0 zz : Int × Int) : mCheck_L0_step blocks l s0 = some zz → EvStep Try.prog cf 0 (lp Try.prog 36 0) (mCheck_L0_S blocks l s0) (mCheck_L0_S blocks l zz) := by
  unfold mCheck_L0_step
  refine tb_ok (fun h1 => ?_) (fun h1 => ?_)
  ·
    have h1p := of_decide_eq_true h1
    refine tp_ok (fun h2 => ?_)
    refine tc_ok (fun s3 h3 => ?_)
    refine tb_ok (fun h4 => ?_) (fun h4 => ?_)
    ·
      exact fun e => nomatch e
    ·
      refine tb_ok (fun h5 => ?_) (fun h5 => ?_)
      ·
        have h5p := bne_iff_ne.1 h5
        exact fun e => nomatch e
      ·
        have h5p := bne_eq_false_iff_eq.1 h5
        refine tb_ok (fun h6 => ?_) (fun h6 => ?_)
        ·
          have h6p := of_decide_eq_true h6
          refine tp_ok (fun h7 => ?_)
          refine tc_ok (fun s8 h8 => ?_)
          refine tb_ok (fun h9 => ?_) (fun h9 => ?_)
          ·
            exact fun e => nomatch e
          ·
            exact fun e => tl_ok (G := (fun zz => EvStep Try.prog cf 0 (lp Try.prog 36 0) (mCheck_L0_S blocks l s0) (mCheck_L0_S blocks l zz))) (mCheck_L0_s0 blocks l s0 h1 h1p h2 s3 h3 h4 h5 h5p h6 h6p h7 s8 h8 h9) e
        ·
          have h6p := of_decide_eq_false h6
          exact fun e => tl_ok (G := (fun zz => EvStep Try.prog cf 0 (lp Try.prog 36 0) (mCheck_L0_S blocks l s0) (mCheck_L0_S blocks l zz))) (mCheck_L0_s1 blocks l s0 h1 h1p h2 s3 h3 h4 h5 h5p h6 h6p) e
  ·
    have h1p := of_decide_eq_false h1
    exact fun e => nomatch e
noncomputable def mCheck (blocks : Int) (l : List Ex) : Option (Bool) :=
 (th (mCheck_L0_step blocks l) (((0 : Int), (0 : Int))) fun s0 =>
  (tb ((decide (s0.2 < (↑(List.length l) : Int))))
   (tp ((((0 : Int) ≤ s0.2) ∧ (s0.2 < (↑(List.length l) : Int))))
    (tc (eCheck ((exAt l (Int.toNat s0.2)))) fun s3 =>
     (tb ((!s3))
      (some (Bool.false))
      (tb (((exAt l (Int.toNat s0.2)).lba != s0.1))
       (some (Bool.false))
       (tb ((decide (s0.2 > (0 : Int))))
        (tp ((((0 : Int) ≤ (wr (s0.2 - (1 : Int)))) ∧ ((wr (s0.2 - (1 : Int))) < (↑(List.length l) : Int))))
         (tc (eJoins ((exAt l (Int.toNat (wr (s0.2 - (1 : Int)))))) ((exAt l (Int.toNat s0.2)))) fun s8 =>
          (tb (s8)
           (some (Bool.false))
           none /- stop behind an operation -/)))
        none /- stop behind an operation -/)))))
   (tb ((decide ((↑(List.length l) : Int) > (0 : Int))))
    (some ((s0.1 == blocks)))
    (some (Bool.false)))))
abbrev mCheck_G (blocks : Int) (l : List Ex) (r : Bool) : Prop := EvFr Try.prog cf true 36 [.i (blocks), exs (l)] (.b (r))
theorem mCheck_l0 (blocks : Int) (l : List Ex) (s0 : Int × Int) (h0 : Runs (mCheck_L0_step blocks l) (((0 : Int), (0 : Int))) s0) (h1 : ((decide (s0.2 < (↑(List.length l) : Int)))) = true) (h1p : (s0.2 < (↑(List.length l) : Int))) (h2 : (((0 : Int) ≤ s0.2) ∧ (s0.2 < (↑(List.length l) : Int)))) (s3 : Bool) (h3 : eCheck ((exAt l (Int.toNat s0.2))) = some s3) (h4 : ((!s3)) = true) : mCheck_G blocks l (Bool.false) :=
  leafR vw_eq (k := 300) (r := []) (hs := hz [(5, [.head (mCheck_L0_S blocks l s0)]), (1, [.yes]), (1, [.yes, .yes, .cells ((Ex.cells (exAt l (Int.toNat s0.2))))]), (3, [.cells ((xc (exAt l (Int.toNat s0.2))))]), (1, [.cells ((xc (exAt l (Int.toNat s0.2))))]), (1, [.fres (.b (s3))]), (2, [.yes, .yes, .yes, .yes, .yes]), (6, [.yes]), (2, [])]) (raw := (AV.b Bool.false)) kq (ac (show EvHead Try.prog cf (lp Try.prog 36 0) (mCheck_L0_I blocks l) (mCheck_L0_S blocks l s0) from (EvHead.of (mCheck_L0_ok blocks l) (absB_of [] [] kq (.consn kq (.eqv tq rfl) (.consn kq (.eqv tq rfl) (.consn kq (.eqv tq rfl) (.consn kq (.eqv tq rfl) (.consn kq (.eqv tq rfl) (.consn kq (.eqv tq rfl) .nil)))))) .nil) h0)) (ac h1 (ac h2 (ac (fq (p := ((5 : Nat) ≤ (List.length (List.drop ((Int.toNat s0.2) * (5 : Nat)) (List.flatMap Ex.cells l)))))) (ac (show (List.take 5 (List.drop ((Int.toNat s0.2) * (5 : Nat)) (List.flatMap Ex.cells l))) = (Ex.cells (exAt l (Int.toNat s0.2))) from (ex_takeO bq bq)) (ac (Eq.refl ((xc (exAt l (Int.toNat s0.2))) : List AV)) (ac (Eq.refl ((xc (exAt l (Int.toNat s0.2))) : List AV)) (ac (eCheck_ok ((exAt l (Int.toNat s0.2))) _ h3).any0 (ac h4 (ac h4 (ac h4 (ac h4 (ac h4 (ac (show orderOk (rg Try.prog 36 0) = true ∧ allOk (Region.before (rg Try.prog 36 0)) [] 0 [(some [0], some []), (some [], some []), (some [], some []), (some [], some []), (some [], some []), (some [], some []), (some [], some []), (some [], some []), (some [], some []), (some [], some []), (some [], some []), (some [], some []), (some [], some []), (some [], some []), (some [], some []), (some [], some []), (some [], some []), (some [], some []), (some [], some []), (some [], some []), (some [], some []), (some [], some [])] = true from (ord_of ord_36_0 bef_36_0 kq)) an)))))))))))))) tq
theorem mCheck_l1 (blocks : Int) (l : List Ex) (s0 : Int × Int) (h0 : Runs (mCheck_L0_step blocks l) (((0 : Int), (0 : Int))) s0) (h1 : ((decide (s0.2 < (↑(List.length l) : Int)))) = true) (h1p : (s0.2 < (↑(List.length l) : Int))) (h2 : (((0 : Int) ≤ s0.2) ∧ (s0.2 < (↑(List.length l) : Int)))) (s3 : Bool) (h3 : eCheck ((exAt l (Int.toNat s0.2))) = some s3) (h4 : ((!s3)) = false) (h5 : (((exAt l (Int.toNat s0.2)).lba != s0.1)) = true) (h5p : ¬ ((exAt l (Int.toNat s0.2)).lba = s0.1)) : mCheck_G blocks l (Bool.false) :=
  leafR vw_eq (k := 300) (r := []) (hs := hz [(5, [.head (mCheck_L0_S blocks l s0)]), (1, [.yes]), (1, [.yes, .yes, .cells ((Ex.cells (exAt l (Int.toNat s0.2))))]), (3, [.cells ((xc (exAt l (Int.toNat s0.2))))]), (1, [.cells ((xc (exAt l (Int.toNat s0.2))))]), (1, [.fres (.b (s3))]), (2, [.no]), (1, [.no]), (2, [.no]), (1, [.no]), (1, [.no]), (1, [.yes, .yes, .yes, .yes, .yes, .yes]), (2, [])]) (raw := (AV.b Bool.false)) kq (ac (show EvHead Try.prog cf (lp Try.prog 36 0) (mCheck_L0_I blocks l) (mCheck_L0_S blocks l s0) from (EvHead.of (mCheck_L0_ok blocks l) (absB_of [] [] kq (.consn kq (.eqv tq rfl) (.consn kq (.eqv tq rfl) (.consn kq (.eqv tq rfl) (.consn kq (.eqv tq rfl) (.consn kq (.eqv tq rfl) (.consn kq (.eqv tq rfl) .nil)))))) .nil) h0)) (ac h1 (ac h2 (ac (fq (p := ((5 : Nat) ≤ (List.length (List.drop ((Int.toNat s0.2) * (5 : Nat)) (List.flatMap Ex.cells l)))))) (ac (show (List.take 5 (List.drop ((Int.toNat s0.2) * (5 : Nat)) (List.flatMap Ex.cells l))) = (Ex.cells (exAt l (Int.toNat s0.2))) from (ex_takeO bq bq)) (ac (Eq.refl ((xc (exAt l (Int.toNat s0.2))) : List AV)) (ac (Eq.refl ((xc (exAt l (Int.toNat s0.2))) : List AV)) (ac (eCheck_ok ((exAt l (Int.toNat s0.2))) _ h3).any0 (ac h4 (ac h4 (ac h4 (ac h4 (ac h4 (ac h5 (ac h5 (ac h5 (ac h5 (ac h5 (ac (show orderOk (rg Try.prog 36 0) = true ∧ allOk (Region.before (rg Try.prog 36 0)) [] 0 [(some [0], some []), (some [], some []), (some [], some []), (some [], some []), (some [], some []), (some [0], some []), (some [], some []), (some [], some []), (some [], some []), (some [], some []), (some [], some []), (some [], some []), (some [], some []), (some [], some []), (some [], some []), (some [], some []), (some [], some []), (some [], some []), (some [], some []), (some [], some []), (some [], some []), (some [], some [])] = true from (ord_of ord_36_0 bef_36_0 kq)) an))))))))))))))))))) tq
theorem mCheck_l2 (blocks : Int) (l : List Ex) (s0 : Int × Int) (h0 : Runs (mCheck_L0_step blocks l) (((0 : Int), (0 : Int))) s0) (h1 : ((decide (s0.2 < (↑(List.length l) : Int)))) = true) (h1p : (s0.2 < (↑(List.length l) : Int))) (h2 : (((0 : Int) ≤ s0.2) ∧ (s0.2 < (↑(List.length l) : Int)))) (s3 : Bool) (h3 : eCheck ((exAt l (Int.toNat s0.2))) = some s3) (h4 : ((!s3)) = false) (h5 : (((exAt l (Int.toNat s0.2)).lba != s0.1)) = false) (h5p : ((exAt l (Int.toNat s0.2)).lba = s0.1)) (h6 : ((decide (s0.2 > (0 : Int)))) = true) (h6p : (s0.2 > (0 : Int))) (h7 : (((0 : Int) ≤ (wr (s0.2 - (1 : Int)))) ∧ ((wr (s0.2 - (1 : Int))) < (↑(List.length l) : Int)))) (s8 : Bool) (h8 : eJoins ((exAt l (Int.toNat (wr (s0.2 - (1 : Int)))))) ((exAt l (Int.toNat s0.2))) = some s8) (h9 : (s8) = true) : mCheck_G blocks l (Bool.false) :=
  leafR vw_eq (k := 300) (r := []) (hs := hz [(5, [.head (mCheck_L0_S blocks l s0)]), (1, [.yes]), (1, [.yes, .yes, .cells ((Ex.cells (exAt l (Int.toNat s0.2))))]), (3, [.cells ((xc (exAt l (Int.toNat s0.2))))]), (1, [.cells ((xc (exAt l (Int.toNat s0.2))))]), (1, [.fres (.b (s3))]), (2, [.no]), (1, [.no]), (2, [.no]), (1, [.no]), (1, [.no]), (1, [.no]), (1, [.no]), (1, [.no]), (1, [.yes]), (1, [.yes]), (1, [.yes]), (1, [.yes, .yes, .yes, .yes, .cells ((Ex.cells (exAt l (Int.toNat (wr (s0.2 - (1 : Int))))))), .yes]), (1, [.cells ((xc (exAt l (Int.toNat s0.2)))), .yes]), (1, [.fres (.b (s8)), .no, .yes, .no, .yes, .yes]), (1, [])]) (raw := (AV.b Bool.false)) kq (ac (show EvHead Try.prog cf (lp Try.prog 36 0) (mCheck_L0_I blocks l) (mCheck_L0_S blocks l s0) from (EvHead.of (mCheck_L0_ok blocks l) (absB_of [] [] kq (.consn kq (.eqv tq rfl) (.consn kq (.eqv tq rfl) (.consn kq (.eqv tq rfl) (.consn kq (.eqv tq rfl) (.consn kq (.eqv tq rfl) (.consn kq (.eqv tq rfl) .nil)))))) .nil) h0)) (ac h1 (ac h2 (ac (fq (p := ((5 : Nat) ≤ (List.length (List.drop ((Int.toNat s0.2) * (5 : Nat)) (List.flatMap Ex.cells l)))))) (ac (show (List.take 5 (List.drop ((Int.toNat s0.2) * (5 : Nat)) (List.flatMap Ex.cells l))) = (Ex.cells (exAt l (Int.toNat s0.2))) from (ex_takeO bq bq)) (ac (Eq.refl ((xc (exAt l (Int.toNat s0.2))) : List AV)) (ac (Eq.refl ((xc (exAt l (Int.toNat s0.2))) : List AV)) (ac (eCheck_ok ((exAt l (Int.toNat s0.2))) _ h3).any0 (ac h4 (ac h4 (ac h4 (ac h4 (ac h4 (ac h5 (ac h5 (ac h5 (ac h6 (ac h6 (ac h6 (ac h6 (ac h7 (ac h6 (ac (fq (p := ((5 : Nat) ≤ (List.length (List.drop ((Int.toNat (wr (s0.2 - (1 : Int)))) * (5 : Nat)) (List.flatMap Ex.cells l)))))) (ac (show (List.take 5 (List.drop ((Int.toNat (wr (s0.2 - (1 : Int)))) * (5 : Nat)) (List.flatMap Ex.cells l))) = (Ex.cells (exAt l (Int.toNat (wr (s0.2 - (1 : Int)))))) from (ex_takeO bq bq)) (ac h6 (ac (Eq.refl ((xc (exAt l (Int.toNat s0.2))) : List AV)) (ac h6 (ac (eJoins_ok ((exAt l (Int.toNat (wr (s0.2 - (1 : Int)))))) ((exAt l (Int.toNat s0.2))) _ h8).any0 (ac h5 (ac h6 (ac h5 (ac (show orderOk (rg Try.prog 36 0) = true ∧ allOk (Region.before (rg Try.prog 36 0)) [] 0 [(some [0], some []), (some [], some []), (some [], some []), (some [], some []), (some [], some []), (some [0], some []), (some [], some []), (some [], some []), (some [], some []), (some [], some []), (some [], some []), (some [], some []), (some [], some []), (some [], some []), (some [], some []), (some [], some []), (some [], some []), (some [], some []), (some [0], some []), (some [], some []), (some [], some []), (some [], some [])] = true from (ord_of ord_36_0 bef_36_0 kq)) (ac h9 an))))))))))))))))))))))))))))))))) tq
theorem mCheck_l3 (blocks : Int) (l : List Ex) (s0 : Int × Int) (h0 : Runs (mCheck_L0_step blocks l) (((0 : Int), (0 : Int))) s0) (h1 : ((decide (s0.2 < (↑(List.length l) : Int)))) = false) (h1p : ¬ (s0.2 < (↑(List.length l) : Int))) (h2 : ((decide ((↑(List.length l) : Int) > (0 : Int)))) = true) (h2p : ((↑(List.length l) : Int) > (0 : Int))) : mCheck_G blocks l ((s0.1 == blocks)) :=
  leafR vw_eq (k := 300) (r := []) (hs := hz [(5, [.head (mCheck_L0_S blocks l s0)]), (1, [.no]), (4, [.yes]), (1, [.yes]), (1, [.yes]), (1, [.yes]), (1, [])]) (raw := (AV.b (s0.1 == blocks))) kq (ac (show EvHead Try.prog cf (lp Try.prog 36 0) (mCheck_L0_I blocks l) (mCheck_L0_S blocks l s0) from (EvHead.of (mCheck_L0_ok blocks l) (absB_of [] [] kq (.consn kq (.eqv tq rfl) (.consn kq (.eqv tq rfl) (.consn kq (.eqv tq rfl) (.consn kq (.eqv tq rfl) (.consn kq (.eqv tq rfl) (.consn kq (.eqv tq rfl) .nil)))))) .nil) h0)) (ac h1 (ac h2 (ac h2 (ac h2 (ac h2 an)))))) tq
theorem mCheck_l4 (blocks : Int) (l : List Ex) (s0 : Int × Int) (h0 : Runs (mCheck_L0_step blocks l) (((0 : Int), (0 : Int))) s0) (h1 : ((decide (s0.2 < (↑(List.length l) : Int)))) = false) (h1p : ¬ (s0.2 < (↑(List.length l) : Int))) (h2 : ((decide ((↑(List.length l) : Int) > (0 : Int)))) = false) (h2p : ¬ ((↑(List.length l) : Int) > (0 : Int))) : mCheck_G blocks l (Bool.false) :=
  leafR vw_eq (k := 300) (r := []) (hs := hz [(5, [.head (mCheck_L0_S blocks l s0)]), (1, [.no]), (4, [.no, .no, .no, .no]), (1, [])]) (raw := (AV.b Bool.false)) kq (ac (show EvHead Try.prog cf (lp Try.prog 36 0) (mCheck_L0_I blocks l) (mCheck_L0_S blocks l s0) from (EvHead.of (mCheck_L0_ok blocks l) (absB_of [] [] kq (.consn kq (.eqv tq rfl) (.consn kq (.eqv tq rfl) (.consn kq (.eqv tq rfl) (.consn kq (.eqv tq rfl) (.consn kq (.eqv tq rfl) (.consn kq (.eqv tq rfl) .nil)))))) .nil) h0)) (ac h1 (ac h2 (ac h2 (ac h2 (ac h2 an)))))) tq
theorem mCheck_ok (blocks : Int) (l : List Ex) (r : Bool) : mCheck blocks l = some r → mCheck_G blocks l r := by
  unfold mCheck
  refine th_ok (fun s0 h0 => ?_)
  refine tb_ok (fun h1 => ?_) (fun h1 => ?_)
  ·
    have h1p := of_decide_eq_true h1
    refine tp_ok (fun h2 => ?_)
    refine tc_ok (fun s3 h3 => ?_)
    refine tb_ok (fun h4 => ?_) (fun h4 => ?_)
    ·
      exact fun e => tl_ok (G := mCheck_G blocks l) (mCheck_l0 blocks l s0 h0 h1 h1p h2 s3 h3 h4) e
    ·
      refine tb_ok (fun h5 => ?_) (fun h5 => ?_)
      ·
        have h5p := bne_iff_ne.1 h5
        exact fun e => tl_ok (G := mCheck_G blocks l) (mCheck_l1 blocks l s0 h0 h1 h1p h2 s3 h3 h4 h5 h5p) e
      ·
        have h5p := bne_eq_false_iff_eq.1 h5
        refine tb_ok (fun h6 => ?_) (fun h6 => ?_)
        ·
          have h6p := of_decide_eq_true h6
          refine tp_ok (fun h7 => ?_)
          refine tc_ok (fun s8 h8 => ?_)
          refine tb_ok (fun h9 => ?_) (fun h9 => ?_)
          ·
            exact fun e => tl_ok (G := mCheck_G blocks l) (mCheck_l2 blocks l s0 h0 h1 h1p h2 s3 h3 h4 h5 h5p h6 h6p h7 s8 h8 h9) e
          ·
            exact fun e => nomatch e
        ·
          have h6p := of_decide_eq_false h6
          exact fun e => nomatch e
  ·
    have h1p := of_decide_eq_false h1
    refine tb_ok (fun h2 => ?_) (fun h2 => ?_)
    ·
      have h2p := of_decide_eq_true h2
      exact fun e => tl_ok (G := mCheck_G blocks l) (mCheck_l3 blocks l s0 h0 h1 h1p h2 h2p) e
    ·
      have h2p := of_decide_eq_false h2
      exact fun e => tl_ok (G := mCheck_G blocks l) (mCheck_l4 blocks l s0 h0 h1 h1p h2 h2p) e
noncomputable def iWithin (n : Int) (low : Int) (high : Int) : Option (Bool) :=
 (tb ((decide (n ≥ low)))
  (some ((decide (n ≤ high))))
  (some (Bool.false)))
abbrev iWithin_G (n : Int) (low : Int) (high : Int) (r : Bool) : Prop := EvFr Try.prog cf true 46 [.i (n), .i (low), .i (high)] (.b (r))
theorem iWithin_l0 (n : Int) (low : Int) (high : Int) (h0 : ((decide (n ≥ low))) = true) (h0p : (n ≥ low)) : iWithin_G n low high ((decide (n ≤ high))) :=
  leafR vw_eq (k := 300) (r := []) (hs := hz [(5, [.yes]), (1, [.yes]), (1, [.yes]), (1, [.yes]), (1, [])]) (raw := (AV.b (decide (n ≤ high)))) kq (ac h0 (ac h0 (ac h0 (ac h0 an)))) tq
theorem iWithin_l1 (n : Int) (low : Int) (high : Int) (h0 : ((decide (n ≥ low))) = false) (h0p : ¬ (n ≥ low)) : iWithin_G n low high (Bool.false) :=
  leafR vw_eq (k := 300) (r := []) (hs := hz [(5, [.no, .no, .no, .no]), (1, [])]) (raw := (AV.b Bool.false)) kq (ac h0 (ac h0 (ac h0 (ac h0 an)))) tq
theorem iWithin_ok (n : Int) (low : Int) (high : Int) (r : Bool) : iWithin n low high = some r → iWithin_G n low high r := by
  unfold iWithin
  refine tb_ok (fun h0 => ?_) (fun h0 => ?_)
  ·
    have h0p := of_decide_eq_true h0
    exact fun e => tl_ok (G := iWithin_G n low high) (iWithin_l0 n low high h0 h0p) e
  ·
    have h0p := of_decide_eq_false h0
    exact fun e => tl_ok (G := iWithin_G n low high) (iWithin_l1 n low high h0 h0p) e
noncomputable abbrev iCheck_L0_I (l : List Ce) (s0 : Bool) : St := (St.mk [(0, (ces l)), (1, (AV.fn (53 : Nat) ([] : List AV))), (4, (AV.i 0)), (6, (ces l)), (7, (AV.i (↑(List.length l) : Int))), (8, (AV.i 0))] 19 (AH.mk 0 ([] : List (Prod Nat AObj))) Bool.false)
noncomputable abbrev iCheck_L0_S (l : List Ce) (s0 : Bool) (s2 : Int) : St := (St.mk [(0, (ces l)), (1, (AV.fn (53 : Nat) ([] : List AV))), (7, (AV.i (↑(List.length l) : Int))), (8, (AV.i s2))] 19 (AH.mk 0 ([] : List (Prod Nat AObj))) Bool.false)
noncomputable def iCheck_L0_step (l : List Ce) (s0 : Bool) (s2 : Int) : Option (Int) :=
 (tb ((decide (s2 < (↑(List.length l) : Int))))
  (tp ((((0 : Int) ≤ s2) ∧ (s2 < (↑(List.length l) : Int))))
   (tc (iWithin ((ceAt l (Int.toNat s2)).kind) ((0 : Int)) ((2 : Int))) fun s5 =>
    (tb ((!s5))
     none /- exit -/
     (tc (iWithin ((ceAt l (Int.toNat s2)).gen) ((0 : Int)) ((2147483647 : Int))) fun s7 =>
      (tb ((!s7))
       none /- exit -/
       (tb (((ceAt l (Int.toNat s2)).kind != (2 : Int)))
        (tb ((!((pad 32 (ceAt l (Int.toNat s2)).d) == (List.replicate (32 : Nat) (UInt8.ofNat (0 : Nat))))))
         none /- exit -/
         (some ((wr (s2 + (1 : Int))))))
        (some ((wr (s2 + (1 : Int)))))))))))
  none /- exit -/)
theorem iCheck_L0_s0 (l : List Ce) (s0 : Bool) (s2 : Int) (h3 : ((decide (s2 < (↑(List.length l) : Int)))) = true) (h3p : (s2 < (↑(List.length l) : Int))) (h4 : (((0 : Int) ≤ s2) ∧ (s2 < (↑(List.length l) : Int)))) (s5 : Bool) (h5 : iWithin ((ceAt l (Int.toNat s2)).kind) ((0 : Int)) ((2 : Int)) = some s5) (h6 : ((!s5)) = false) (s7 : Bool) (h7 : iWithin ((ceAt l (Int.toNat s2)).gen) ((0 : Int)) ((2147483647 : Int)) = some s7) (h8 : ((!s7)) = false) (h9 : (((ceAt l (Int.toNat s2)).kind != (2 : Int))) = true) (h9p : ¬ ((ceAt l (Int.toNat s2)).kind = (2 : Int))) (h10 : ((!((pad 32 (ceAt l (Int.toNat s2)).d) == (List.replicate (32 : Nat) (UInt8.ofNat (0 : Nat)))))) = false) : EvStep Try.prog cf 0 (lp Try.prog 54 0) (iCheck_L0_S l s0 s2) (iCheck_L0_S l s0 ((wr (s2 + (1 : Int))))) :=
  leafS vw_eq (k := 300) (r := []) (hs := hz [(1, [.yes]), (5, [.yes, .yes, .cells ((Ce.cells (ceAt l (Int.toNat s2))))]), (7, [.fres (.b (s5))]), (2, [.no]), (1, [.no]), (2, [.no]), (1, [.fres (.b (s7)), .no]), (1, [.no]), (1, [.no]), (1, [.no]), (2, [.no]), (1, [.no]), (1, [.yes]), (1, [.yes, .yes]), (1, [.yes]), (1, [.yes, .yes, .truth (((pad 32 (ceAt l (Int.toNat s2)).d) == (List.replicate (32 : Nat) (UInt8.ofNat (0 : Nat))))), .no, .yes, .no]), (1, [.no]), (2, [])]) (st1 := (St.mk [(0, (ces l)), (1, (AV.fn (53 : Nat) ([] : List AV))), (7, (AV.i (↑(List.length l) : Int))), (8, (AV.i (wr (s2 + (1 : Int))))), (9, (AV.b (decide (s2 < (↑(List.length l) : Int))))), (10, (AV.i s2)), (5, (AV.i s2)), (11, (AV.fn (53 : Nat) ([] : List AV))), (12, (ces l)), (13, (AV.i s2)), (14, (AV.ip (List.drop ((Int.toNat s2) * (34 : Nat)) (List.flatMap Ce.cells l)))), (15, (AV.ag (Ce.cells (ceAt l (Int.toNat s2))))), (16, (AV.b (!((pad 32 (ceAt l (Int.toNat s2)).d) == (List.replicate (32 : Nat) (UInt8.ofNat (0 : Nat))))))), (18, (AV.i (wr (s2 + (1 : Int)))))] 19 (AH.mk 1 [(0, (AObj.cells ((AV.i (ceAt l (Int.toNat s2)).kind) :: (AV.i (ceAt l (Int.toNat s2)).gen) :: (List.map AV.y (pad 32 (ceAt l (Int.toNat s2)).d)))))]) Bool.false)) kq (ac h3 (ac h4 (ac (fq (p := ((34 : Nat) ≤ (List.length (List.drop ((Int.toNat s2) * (34 : Nat)) (List.flatMap Ce.cells l)))))) (ac (show (List.take 34 (List.drop ((Int.toNat s2) * (34 : Nat)) (List.flatMap Ce.cells l))) = (Ce.cells (ceAt l (Int.toNat s2))) from (ce_takeO bq bq)) (ac (iWithin_ok ((ceAt l (Int.toNat s2)).kind) ((0 : Int)) ((2 : Int)) _ h5).any0 (ac h6 (ac h6 (ac h6 (ac (iWithin_ok ((ceAt l (Int.toNat s2)).gen) ((0 : Int)) ((2147483647 : Int)) _ h7).any0 (ac h6 (ac h6 (ac h8 (ac h8 (ac h8 (ac h8 (ac h9 (ac h9 (ac (tq (p := ((34 : Nat) ≤ (List.length ((AV.i (ceAt l (Int.toNat s2)).kind) :: (AV.i (ceAt l (Int.toNat s2)).gen) :: (List.map AV.y (pad 32 (ceAt l (Int.toNat s2)).d))))))) (ac h9 (ac h9 (ac (tq (p := (((List.length (List.take 32 (List.map AV.y (pad 32 (ceAt l (Int.toNat s2)).d)))) = (32 : Nat)) ∧ ((32 : Nat) = (32 : Nat))))) (ac (show eqCells ((List.take 32 (List.map AV.y (pad 32 (ceAt l (Int.toNat s2)).d)))) ((List.replicate (32 : Nat) (AV.y (UInt8.ofNat (0 : Nat))))) = some (((pad 32 (ceAt l (Int.toNat s2)).d) == (List.replicate (32 : Nat) (UInt8.ofNat (0 : Nat))))) from (eqCells_of tq tq tq)) (ac h8 (ac h9 (ac h8 (ac h10 an)))))))))))))))))))))))))) (Nat.le_of_ble_eq_true rfl) (absB_of [] [] kq (.consn kq (.eqv tq rfl) (.consn kq (.fn .nil) (.consn kq (.eqv tq rfl) (.consn kq (.eqv tq rfl) .nil)))) .nil)
theorem iCheck_L0_s1 (l : List Ce) (s0 : Bool) (s2 : Int) (h3 : ((decide (s2 < (↑(List.length l) : Int)))) = true) (h3p : (s2 < (↑(List.length l) : Int))) (h4 : (((0 : Int) ≤ s2) ∧ (s2 < (↑(List.length l) : Int)))) (s5 : Bool) (h5 : iWithin ((ceAt l (Int.toNat s2)).kind) ((0 : Int)) ((2 : Int)) = some s5) (h6 : ((!s5)) = false) (s7 : Bool) (h7 : iWithin ((ceAt l (Int.toNat s2)).gen) ((0 : Int)) ((2147483647 : Int)) = some s7) (h8 : ((!s7)) = false) (h9 : (((ceAt l (Int.toNat s2)).kind != (2 : Int))) = false) (h9p : ((ceAt l (Int.toNat s2)).kind = (2 : Int))) : EvStep Try.prog cf 0 (lp Try.prog 54 0) (iCheck_L0_S l s0 s2) (iCheck_L0_S l s0 ((wr (s2 + (1 : Int))))) :=
  leafS vw_eq (k := 300) (r := []) (hs := hz [(1, [.yes]), (5, [.yes, .yes, .cells ((Ce.cells (ceAt l (Int.toNat s2))))]), (7, [.fres (.b (s5))]), (2, [.no]), (1, [.no]), (2, [.no]), (1, [.fres (.b (s7)), .no]), (1, [.no]), (1, [.no]), (1, [.no]), (2, [.no]), (1, [.no]), (1, [.no, .no, .no, .no, .no, .no, .no]), (4, [])]) (st1 := (St.mk [(0, (ces l)), (1, (AV.fn (53 : Nat) ([] : List AV))), (7, (AV.i (↑(List.length l) : Int))), (8, (AV.i (wr (s2 + (1 : Int))))), (9, (AV.b (decide (s2 < (↑(List.length l) : Int))))), (10, (AV.i s2)), (5, (AV.i s2)), (11, (AV.fn (53 : Nat) ([] : List AV))), (12, (ces l)), (13, (AV.i s2)), (14, (AV.ip (List.drop ((Int.toNat s2) * (34 : Nat)) (List.flatMap Ce.cells l)))), (15, (AV.ag (Ce.cells (ceAt l (Int.toNat s2))))), (16, (AV.b Bool.false)), (18, (AV.i (wr (s2 + (1 : Int)))))] 19 (AH.mk 1 [(0, (AObj.cells ((AV.i (ceAt l (Int.toNat s2)).kind) :: (AV.i (ceAt l (Int.toNat s2)).gen) :: (List.map AV.y (pad 32 (ceAt l (Int.toNat s2)).d)))))]) Bool.false)) kq (ac h3 (ac h4 (ac (fq (p := ((34 : Nat) ≤ (List.length (List.drop ((Int.toNat s2) * (34 : Nat)) (List.flatMap Ce.cells l)))))) (ac (show (List.take 34 (List.drop ((Int.toNat s2) * (34 : Nat)) (List.flatMap Ce.cells l))) = (Ce.cells (ceAt l (Int.toNat s2))) from (ce_takeO bq bq)) (ac (iWithin_ok ((ceAt l (Int.toNat s2)).kind) ((0 : Int)) ((2 : Int)) _ h5).any0 (ac h6 (ac h6 (ac h6 (ac (iWithin_ok ((ceAt l (Int.toNat s2)).gen) ((0 : Int)) ((2147483647 : Int)) _ h7).any0 (ac h6 (ac h6 (ac h8 (ac h8 (ac h8 (ac h8 (ac h9 (ac h9 (ac h9 (ac h9 (ac h8 (ac h9 (ac h8 an)))))))))))))))))))))) (Nat.le_of_ble_eq_true rfl) (absB_of [] [] kq (.consn kq (.eqv tq rfl) (.consn kq (.fn .nil) (.consn kq (.eqv tq rfl) (.consn kq (.eqv tq rfl) .nil)))) .nil)
theorem iCheck_L0_ok (l : List Ce) (s0 : Bool) (s2 zz : Int) : iCheck_L0_step l s0 s2 = some zz → EvStep Try.prog cf 0 (lp Try.prog 54 0) (iCheck_L0_S l s0 s2) (iCheck_L0_S l s0 zz) := by
  unfold iCheck_L0_step
  refine tb_ok (fun h3 => ?_) (fun h3 => ?_)
  ·
    have h3p := of_decide_eq_true h3
    refine tp_ok (fun h4 => ?_)
    refine tc_ok (fun s5 h5 => ?_)
    refine tb_ok (fun h6 => ?_) (fun h6 => ?_)
    ·
      exact fun e => nomatch e
    ·
      refine tc_ok (fun s7 h7 => ?_)
      refine tb_ok (fun h8 => ?_) (fun h8 => ?_)
      ·
        exact fun e => nomatch e
      ·
        refine tb_ok (fun h9 => ?_) (fun h9 => ?_)
        ·
          have h9p := bne_iff_ne.1 h9
          refine tb_ok (fun h10 => ?_) (fun h10 => ?_)
          ·
            exact fun e => nomatch e
          ·
            exact fun e => tl_ok (G := (fun zz => EvStep Try.prog cf 0 (lp Try.prog 54 0) (iCheck_L0_S l s0 s2) (iCheck_L0_S l s0 zz))) (iCheck_L0_s0 l s0 s2 h3 h3p h4 s5 h5 h6 s7 h7 h8 h9 h9p h10) e
        ·
          have h9p := bne_eq_false_iff_eq.1 h9
          exact fun e => tl_ok (G := (fun zz => EvStep Try.prog cf 0 (lp Try.prog 54 0) (iCheck_L0_S l s0 s2) (iCheck_L0_S l s0 zz))) (iCheck_L0_s1 l s0 s2 h3 h3p h4 s5 h5 h6 s7 h7 h8 h9 h9p) e
  ·
    have h3p := of_decide_eq_false h3
    exact fun e => nomatch e
noncomputable def iCheck (l : List Ce) : Option (Bool) :=
 (tc (iWithin ((↑(List.length l) : Int)) ((1 : Int)) ((64 : Int))) fun s0 =>
  (tb (s0)
   (th (iCheck_L0_step l s0) ((0 : Int)) fun s2 =>
    (tb ((decide (s2 < (↑(List.length l) : Int))))
     (tp ((((0 : Int) ≤ s2) ∧ (s2 < (↑(List.length l) : Int))))
      (tc (iWithin ((ceAt l (Int.toNat s2)).kind) ((0 : Int)) ((2 : Int))) fun s5 =>
       (tb ((!s5))
        (some ((!(decide (s2 ≥ (0 : Int))))))
        (tc (iWithin ((ceAt l (Int.toNat s2)).gen) ((0 : Int)) ((2147483647 : Int))) fun s7 =>
         (tb ((!s7))
          (some ((!(decide (s2 ≥ (0 : Int))))))
          (tb (((ceAt l (Int.toNat s2)).kind != (2 : Int)))
           (tb ((!((pad 32 (ceAt l (Int.toNat s2)).d) == (List.replicate (32 : Nat) (UInt8.ofNat (0 : Nat))))))
            (some ((!(decide (s2 ≥ (0 : Int))))))
            none /- stop behind an operation -/)
           none /- stop behind an operation -/))))))
     (some (Bool.true))))
   (some (Bool.false))))
abbrev iCheck_G (l : List Ce) (r : Bool) : Prop := EvFr Try.prog cf true 50 [ces (l)] (.b (r))
theorem iCheck_l0 (l : List Ce) (s0 : Bool) (h0 : iWithin ((↑(List.length l) : Int)) ((1 : Int)) ((64 : Int)) = some s0) (h1 : (s0) = true) (s2 : Int) (h2 : Runs (iCheck_L0_step l s0) ((0 : Int)) s2) (h3 : ((decide (s2 < (↑(List.length l) : Int)))) = true) (h3p : (s2 < (↑(List.length l) : Int))) (h4 : (((0 : Int) ≤ s2) ∧ (s2 < (↑(List.length l) : Int)))) (s5 : Bool) (h5 : iWithin ((ceAt l (Int.toNat s2)).kind) ((0 : Int)) ((2 : Int)) = some s5) (h6 : ((!s5)) = true) : iCheck_G l ((!(decide (s2 ≥ (0 : Int))))) :=
  leafR vw_eq (k := 300) (r := []) (hs := hz [(4, [.fres (.b (s0))]), (1, [.yes]), (1, [.yes]), (9, [.head (iCheck_L0_S l s0 s2)]), (1, [.yes]), (5, [.yes, .yes, .cells ((Ce.cells (ceAt l (Int.toNat s2))))]), (7, [.fres (.b (s5))]), (2, [.yes, .yes, .yes, .yes, .yes]), (13, [.yes]), (1, [.yes]), (1, [])]) (raw := (AV.b (!(decide (s2 ≥ (0 : Int)))))) kq (ac (iWithin_ok ((↑(List.length l) : Int)) ((1 : Int)) ((64 : Int)) _ h0).any0 (ac h1 (ac h1 (ac (show EvHead Try.prog cf (lp Try.prog 54 0) (iCheck_L0_I l s0) (iCheck_L0_S l s0 s2) from (EvHead.of (iCheck_L0_ok l s0) (absB_of [] [] kq (.consn kq (.eqv tq rfl) (.consn kq (.fn .nil) (.consn kq (.eqv tq rfl) (.consn kq (.eqv tq rfl) .nil)))) .nil) h2)) (ac h3 (ac h4 (ac (fq (p := ((34 : Nat) ≤ (List.length (List.drop ((Int.toNat s2) * (34 : Nat)) (List.flatMap Ce.cells l)))))) (ac (show (List.take 34 (List.drop ((Int.toNat s2) * (34 : Nat)) (List.flatMap Ce.cells l))) = (Ce.cells (ceAt l (Int.toNat s2))) from (ce_takeO bq bq)) (ac (iWithin_ok ((ceAt l (Int.toNat s2)).kind) ((0 : Int)) ((2 : Int)) _ h5).any0 (ac h6 (ac h6 (ac h6 (ac h6 (ac h6 (ac h1 (ac h1 an)))))))))))))))) tq
theorem iCheck_l1 (l : List Ce) (s0 : Bool) (h0 : iWithin ((↑(List.length l) : Int)) ((1 : Int)) ((64 : Int)) = some s0) (h1 : (s0) = true) (s2 : Int) (h2 : Runs (iCheck_L0_step l s0) ((0 : Int)) s2) (h3 : ((decide (s2 < (↑(List.length l) : Int)))) = true) (h3p : (s2 < (↑(List.length l) : Int))) (h4 : (((0 : Int) ≤ s2) ∧ (s2 < (↑(List.length l) : Int)))) (s5 : Bool) (h5 : iWithin ((ceAt l (Int.toNat s2)).kind) ((0 : Int)) ((2 : Int)) = some s5) (h6 : ((!s5)) = false) (s7 : Bool) (h7 : iWithin ((ceAt l (Int.toNat s2)).gen) ((0 : Int)) ((2147483647 : Int)) = some s7) (h8 : ((!s7)) = true) : iCheck_G l ((!(decide (s2 ≥ (0 : Int))))) :=
  leafR vw_eq (k := 300) (r := []) (hs := hz [(4, [.fres (.b (s0))]), (1, [.yes]), (1, [.yes]), (9, [.head (iCheck_L0_S l s0 s2)]), (1, [.yes]), (5, [.yes, .yes, .cells ((Ce.cells (ceAt l (Int.toNat s2))))]), (7, [.fres (.b (s5))]), (2, [.no]), (1, [.no]), (2, [.no]), (1, [.fres (.b (s7)), .no]), (1, [.no]), (1, [.yes, .yes, .yes, .yes, .yes, .yes]), (6, [.yes]), (1, [.yes]), (1, [])]) (raw := (AV.b (!(decide (s2 ≥ (0 : Int)))))) kq (ac (iWithin_ok ((↑(List.length l) : Int)) ((1 : Int)) ((64 : Int)) _ h0).any0 (ac h1 (ac h1 (ac (show EvHead Try.prog cf (lp Try.prog 54 0) (iCheck_L0_I l s0) (iCheck_L0_S l s0 s2) from (EvHead.of (iCheck_L0_ok l s0) (absB_of [] [] kq (.consn kq (.eqv tq rfl) (.consn kq (.fn .nil) (.consn kq (.eqv tq rfl) (.consn kq (.eqv tq rfl) .nil)))) .nil) h2)) (ac h3 (ac h4 (ac (fq (p := ((34 : Nat) ≤ (List.length (List.drop ((Int.toNat s2) * (34 : Nat)) (List.flatMap Ce.cells l)))))) (ac (show (List.take 34 (List.drop ((Int.toNat s2) * (34 : Nat)) (List.flatMap Ce.cells l))) = (Ce.cells (ceAt l (Int.toNat s2))) from (ce_takeO bq bq)) (ac (iWithin_ok ((ceAt l (Int.toNat s2)).kind) ((0 : Int)) ((2 : Int)) _ h5).any0 (ac h6 (ac h6 (ac h6 (ac (iWithin_ok ((ceAt l (Int.toNat s2)).gen) ((0 : Int)) ((2147483647 : Int)) _ h7).any0 (ac h6 (ac h6 (ac h8 (ac h8 (ac h8 (ac h8 (ac h8 (ac h8 (ac h1 (ac h1 an))))))))))))))))))))))) tq
theorem iCheck_l2 (l : List Ce) (s0 : Bool) (h0 : iWithin ((↑(List.length l) : Int)) ((1 : Int)) ((64 : Int)) = some s0) (h1 : (s0) = true) (s2 : Int) (h2 : Runs (iCheck_L0_step l s0) ((0 : Int)) s2) (h3 : ((decide (s2 < (↑(List.length l) : Int)))) = true) (h3p : (s2 < (↑(List.length l) : Int))) (h4 : (((0 : Int) ≤ s2) ∧ (s2 < (↑(List.length l) : Int)))) (s5 : Bool) (h5 : iWithin ((ceAt l (Int.toNat s2)).kind) ((0 : Int)) ((2 : Int)) = some s5) (h6 : ((!s5)) = false) (s7 : Bool) (h7 : iWithin ((ceAt l (Int.toNat s2)).gen) ((0 : Int)) ((2147483647 : Int)) = some s7) (h8 : ((!s7)) = false) (h9 : (((ceAt l (Int.toNat s2)).kind != (2 : Int))) = true) (h9p : ¬ ((ceAt l (Int.toNat s2)).kind = (2 : Int))) (h10 : ((!((pad 32 (ceAt l (Int.toNat s2)).d) == (List.replicate (32 : Nat) (UInt8.ofNat (0 : Nat)))))) = true) : iCheck_G l ((!(decide (s2 ≥ (0 : Int))))) :=
  leafR vw_eq (k := 300) (r := []) (hs := hz [(4, [.fres (.b (s0))]), (1, [.yes]), (1, [.yes]), (9, [.head (iCheck_L0_S l s0 s2)]), (1, [.yes]), (5, [.yes, .yes, .cells ((Ce.cells (ceAt l (Int.toNat s2))))]), (7, [.fres (.b (s5))]), (2, [.no]), (1, [.no]), (2, [.no]), (1, [.fres (.b (s7)), .no]), (1, [.no]), (1, [.no]), (1, [.no]), (2, [.no]), (1, [.no]), (1, [.yes]), (1, [.yes, .yes]), (1, [.yes]), (1, [.yes, .yes, .truth (((pad 32 (ceAt l (Int.toNat s2)).d) == (List.replicate (32 : Nat) (UInt8.ofNat (0 : Nat))))), .no, .yes, .no]), (1, [.yes]), (4, [.yes]), (1, [.yes]), (1, [])]) (raw := (AV.b (!(decide (s2 ≥ (0 : Int)))))) kq (ac (iWithin_ok ((↑(List.length l) : Int)) ((1 : Int)) ((64 : Int)) _ h0).any0 (ac h1 (ac h1 (ac (show EvHead Try.prog cf (lp Try.prog 54 0) (iCheck_L0_I l s0) (iCheck_L0_S l s0 s2) from (EvHead.of (iCheck_L0_ok l s0) (absB_of [] [] kq (.consn kq (.eqv tq rfl) (.consn kq (.fn .nil) (.consn kq (.eqv tq rfl) (.consn kq (.eqv tq rfl) .nil)))) .nil) h2)) (ac h3 (ac h4 (ac (fq (p := ((34 : Nat) ≤ (List.length (List.drop ((Int.toNat s2) * (34 : Nat)) (List.flatMap Ce.cells l)))))) (ac (show (List.take 34 (List.drop ((Int.toNat s2) * (34 : Nat)) (List.flatMap Ce.cells l))) = (Ce.cells (ceAt l (Int.toNat s2))) from (ce_takeO bq bq)) (ac (iWithin_ok ((ceAt l (Int.toNat s2)).kind) ((0 : Int)) ((2 : Int)) _ h5).any0 (ac h6 (ac h6 (ac h6 (ac (iWithin_ok ((ceAt l (Int.toNat s2)).gen) ((0 : Int)) ((2147483647 : Int)) _ h7).any0 (ac h6 (ac h6 (ac h8 (ac h8 (ac h8 (ac h8 (ac h9 (ac h9 (ac (tq (p := ((34 : Nat) ≤ (List.length ((AV.i (ceAt l (Int.toNat s2)).kind) :: (AV.i (ceAt l (Int.toNat s2)).gen) :: (List.map AV.y (pad 32 (ceAt l (Int.toNat s2)).d))))))) (ac h9 (ac h9 (ac (tq (p := (((List.length (List.take 32 (List.map AV.y (pad 32 (ceAt l (Int.toNat s2)).d)))) = (32 : Nat)) ∧ ((32 : Nat) = (32 : Nat))))) (ac (show eqCells ((List.take 32 (List.map AV.y (pad 32 (ceAt l (Int.toNat s2)).d)))) ((List.replicate (32 : Nat) (AV.y (UInt8.ofNat (0 : Nat))))) = some (((pad 32 (ceAt l (Int.toNat s2)).d) == (List.replicate (32 : Nat) (UInt8.ofNat (0 : Nat))))) from (eqCells_of tq tq tq)) (ac h8 (ac h9 (ac h8 (ac h10 (ac h1 (ac h1 an)))))))))))))))))))))))))))))))) tq
theorem iCheck_l3 (l : List Ce) (s0 : Bool) (h0 : iWithin ((↑(List.length l) : Int)) ((1 : Int)) ((64 : Int)) = some s0) (h1 : (s0) = true) (s2 : Int) (h2 : Runs (iCheck_L0_step l s0) ((0 : Int)) s2) (h3 : ((decide (s2 < (↑(List.length l) : Int)))) = false) (h3p : ¬ (s2 < (↑(List.length l) : Int))) : iCheck_G l (Bool.true) :=
  leafR vw_eq (k := 300) (r := []) (hs := hz [(4, [.fres (.b (s0))]), (1, [.yes]), (1, [.yes]), (9, [.head (iCheck_L0_S l s0 s2)]), (1, [.no]), (3, [.yes]), (1, [.yes]), (1, [])]) (raw := (AV.b Bool.true)) kq (ac (iWithin_ok ((↑(List.length l) : Int)) ((1 : Int)) ((64 : Int)) _ h0).any0 (ac h1 (ac h1 (ac (show EvHead Try.prog cf (lp Try.prog 54 0) (iCheck_L0_I l s0) (iCheck_L0_S l s0 s2) from (EvHead.of (iCheck_L0_ok l s0) (absB_of [] [] kq (.consn kq (.eqv tq rfl) (.consn kq (.fn .nil) (.consn kq (.eqv tq rfl) (.consn kq (.eqv tq rfl) .nil)))) .nil) h2)) (ac h3 (ac h1 (ac h1 an))))))) tq
theorem iCheck_l4 (l : List Ce) (s0 : Bool) (h0 : iWithin ((↑(List.length l) : Int)) ((1 : Int)) ((64 : Int)) = some s0) (h1 : (s0) = false) : iCheck_G l (Bool.false) :=
  leafR vw_eq (k := 300) (r := []) (hs := hz [(4, [.fres (.b (s0))]), (1, [.no, .no, .no, .no]), (1, [])]) (raw := (AV.b Bool.false)) kq (ac (iWithin_ok ((↑(List.length l) : Int)) ((1 : Int)) ((64 : Int)) _ h0).any0 (ac h1 (ac h1 (ac h1 (ac h1 an))))) tq
theorem iCheck_ok (l : List Ce) (r : Bool) : iCheck l = some r → iCheck_G l r := by
  unfold iCheck
  refine tc_ok (fun s0 h0 => ?_)
  refine tb_ok (fun h1 => ?_) (fun h1 => ?_)
  ·
    refine th_ok (fun s2 h2 => ?_)
    refine tb_ok (fun h3 => ?_) (fun h3 => ?_)
    ·
      have h3p := of_decide_eq_true h3
      refine tp_ok (fun h4 => ?_)
      refine tc_ok (fun s5 h5 => ?_)
      refine tb_ok (fun h6 => ?_) (fun h6 => ?_)
      ·
        exact fun e => tl_ok (G := iCheck_G l) (iCheck_l0 l s0 h0 h1 s2 h2 h3 h3p h4 s5 h5 h6) e
      ·
        refine tc_ok (fun s7 h7 => ?_)
        refine tb_ok (fun h8 => ?_) (fun h8 => ?_)
        ·
          exact fun e => tl_ok (G := iCheck_G l) (iCheck_l1 l s0 h0 h1 s2 h2 h3 h3p h4 s5 h5 h6 s7 h7 h8) e
        ·
          refine tb_ok (fun h9 => ?_) (fun h9 => ?_)
          ·
            have h9p := bne_iff_ne.1 h9
            refine tb_ok (fun h10 => ?_) (fun h10 => ?_)
            ·
              exact fun e => tl_ok (G := iCheck_G l) (iCheck_l2 l s0 h0 h1 s2 h2 h3 h3p h4 s5 h5 h6 s7 h7 h8 h9 h9p h10) e
            ·
              exact fun e => nomatch e
          ·
            have h9p := bne_eq_false_iff_eq.1 h9
            exact fun e => nomatch e
    ·
      have h3p := of_decide_eq_false h3
      exact fun e => tl_ok (G := iCheck_G l) (iCheck_l3 l s0 h0 h1 s2 h2 h3 h3p) e
  ·
    exact fun e => tl_ok (G := iCheck_G l) (iCheck_l4 l s0 h0 h1) e
end Ab
end Go.Proofs.Ytiaelfmohamipaa
namespace Go.Proofs.Ytiaelfmohamipaa
open Go Go.Proofs.Ytiaelfmohamipaa.Ab
set_option linter.unusedVariables false
set_option linter.unusedSimpArgs false
namespace Ab
def Ck (x : Ex) : Prop := 0 ≤ x.lba ∧ x.lba ≤ 64 ∧ 1 ≤ x.len ∧ x.len ≤ 64 - x.lba ∧ 0 ≤ x.kind ∧ x.kind ≤ 2 ∧ 0 ≤ x.gen ∧ x.gen ≤ 2147483647 ∧ (x.kind = 2 → (x.d.length : Int) = 32 * x.len) ∧ (x.kind ≠ 2 → x.d = [])
instance (x : Ex) : Decidable (Ck x) := by unfold Ck; infer_instance
def ck (x : Ex) : Bool := decide (Ck x)
theorem ck_iff {x : Ex} : ck x = true ↔ Ck x := decide_eq_true_iff
theorem len0 {α : Type} {l : List α} : ((l.length : Int) = 0) ↔ l = [] := by
  rw [← List.length_eq_zero_iff]; omega
theorem ck_t {x : Ex} (h : Ck x) : ck x = true := ck_iff.2 h
theorem ck_f {x : Ex} (h : ¬ Ck x) : ck x = false := decide_eq_false_iff_not.2 h
theorem eCheck_eq (x : Ex) : eCheck x = some (ck x) := by
  unfold eCheck
  simp only [tb_dec, tb_beq]
  by_cases h1 : x.lba ≥ 0
  case neg => rw [if_neg h1, ck_f (by unfold Ck; omega)]
  by_cases h2 : x.lba ≤ 64
  case neg => rw [if_pos h1, if_neg h2, ck_f (by unfold Ck; omega)]
  have hw : wr (64 - x.lba) = 64 - x.lba := wr_id (by omega) (by omega)
  rw [hw, if_pos h1, if_pos h2]
  by_cases h3 : x.len ≥ 1
  case neg => rw [if_neg h3, ck_f (by unfold Ck; omega)]
  by_cases h4 : x.len ≤ 64 - x.lba
  case neg => rw [if_pos h3, if_neg h4, ck_f (by unfold Ck; omega)]
  have hw2 : wr (x.len * 32) = x.len * 32 := wr_id (by omega) (by omega)
  rw [hw2, if_pos h3, if_pos h4]
  by_cases h5 : x.kind ≥ 0
  case neg => rw [if_neg h5, ck_f (by unfold Ck; omega)]
  by_cases h6 : x.kind ≤ 2
  case neg => rw [if_pos h5, if_neg h6, ck_f (by unfold Ck; omega)]
  by_cases h7 : x.gen ≥ 0
  case neg => rw [if_pos h5, if_pos h6, if_neg h7, ck_f (by unfold Ck; omega)]
  by_cases h8 : x.gen ≤ 2147483647
  case neg => rw [if_pos h5, if_pos h6, if_pos h7, if_neg h8, ck_f (by unfold Ck; omega)]
  rw [if_pos h5, if_pos h6, if_pos h7, if_pos h8]
  by_cases h9 : x.kind = 2
  · rw [if_pos h9]
    congr 1
    rw [Bool.eq_iff_iff, ck_iff, beq_iff_eq]
    exact ⟨fun h => ⟨h1, h2, h3, h4, h5, h6, h7, h8, fun _ => by omega, fun h' => absurd h9 h'⟩, fun h => by have := h.2.2.2.2.2.2.2.2.1 h9; omega⟩
  · rw [if_neg h9]
    congr 1
    rw [Bool.eq_iff_iff, ck_iff, beq_iff_eq, len0]
    exact ⟨fun h => ⟨h1, h2, h3, h4, h5, h6, h7, h8, fun h' => absurd h' h9, fun _ => h⟩, fun h => h.2.2.2.2.2.2.2.2.2 h9⟩
theorem r7Check_eq (x : Ex) : r7Check x = some (ck x) := by
  unfold r7Check
  simp only [tb_dec, tb_beq]
  by_cases h1 : x.lba < 0
  case pos => rw [if_pos h1, ck_f (by unfold Ck; omega)]
  by_cases h2 : x.lba > 64
  case pos => rw [if_neg h1, if_pos h2, ck_f (by unfold Ck; omega)]
  have hw : wr (64 - x.lba) = 64 - x.lba := wr_id (by omega) (by omega)
  rw [hw, if_neg h1, if_neg h2]
  by_cases h3 : x.len < 1
  case pos => rw [if_pos h3, ck_f (by unfold Ck; omega)]
  by_cases h4 : x.len > 64 - x.lba
  case pos => rw [if_neg h3, if_pos h4, ck_f (by unfold Ck; omega)]
  have hw2 : wr (32 * x.len) = 32 * x.len := wr_id (by omega) (by omega)
  rw [hw2, if_neg h3, if_neg h4]
  by_cases h5 : x.kind < 0
  case pos => rw [if_pos h5, ck_f (by unfold Ck; omega)]
  by_cases h6 : x.kind > 2
  case pos => rw [if_neg h5, if_pos h6, ck_f (by unfold Ck; omega)]
  by_cases h7 : x.gen < 0
  case pos => rw [if_neg h5, if_neg h6, if_pos h7, ck_f (by unfold Ck; omega)]
  by_cases h8 : x.gen ≥ 2147483648
  case pos => rw [if_neg h5, if_neg h6, if_neg h7, if_pos h8, ck_f (by unfold Ck; omega)]
  rw [if_neg h5, if_neg h6, if_neg h7, if_neg h8]
  by_cases h9 : x.kind = 2
  · rw [if_pos h9]
    congr 1
    rw [Bool.eq_iff_iff, ck_iff, beq_iff_eq]
    exact ⟨fun h => ⟨by omega, by omega, by omega, by omega, by omega, by omega, by omega, by omega, fun _ => by omega, fun h' => absurd h9 h'⟩, fun h => by have := h.2.2.2.2.2.2.2.2.1 h9; omega⟩
  · rw [if_neg h9]
    congr 1
    rw [Bool.eq_iff_iff, ck_iff, beq_iff_eq, len0]
    exact ⟨fun h => ⟨by omega, by omega, by omega, by omega, by omega, by omega, by omega, by omega, fun h' => absurd h' h9, fun _ => h⟩, fun h => h.2.2.2.2.2.2.2.2.2 h9⟩
def Jn (a b : Ex) : Prop := Ck a ∧ Ck b ∧ a.lba + a.len = b.lba ∧ a.kind = b.kind ∧ a.gen = b.gen
instance (a b : Ex) : Decidable (Jn a b) := by unfold Jn; infer_instance
def jn (a b : Ex) : Bool := decide (Jn a b)
theorem jn_iff {a b : Ex} : jn a b = true ↔ Jn a b := decide_eq_true_iff
theorem jn_f {a b : Ex} (h : ¬ Jn a b) : jn a b = false := decide_eq_false_iff_not.2 h
theorem jn_t {a b : Ex} (h : Jn a b) : jn a b = true := jn_iff.2 h
theorem eJoins_eq (a b : Ex) : eJoins a b = some (jn a b) := by
  unfold eJoins
  simp only [eCheck_eq, tc_some]
  by_cases ha : Ck a
  case neg => rw [ck_f ha, jn_f (fun h => ha h.1)]; first | rfl | (cases ck b <;> rfl)
  by_cases hb : Ck b
  case neg => rw [ck_t ha, ck_f hb, jn_f (fun h => hb h.2.1)]; rfl
  have : wr (a.lba + a.len) = a.lba + a.len := by unfold Ck at ha; exact wr_id (by omega) (by omega)
  rw [ck_t ha, ck_t hb, this]
  simp only [tb_t, tb_beq]
  by_cases h1 : a.lba + a.len = b.lba
  case neg => rw [if_neg h1, jn_f (fun h => h1 h.2.2.1)]
  by_cases h2 : a.kind = b.kind
  case neg => rw [if_pos h1, if_neg h2, jn_f (fun h => h2 h.2.2.2.1)]
  rw [if_pos h1, if_pos h2]
  congr 1
  rw [Bool.eq_iff_iff, jn_iff, beq_iff_eq]
  exact ⟨fun h => ⟨ha, hb, h1, h2, h⟩, fun h => h.2.2.2.2⟩
theorem r7Same_eq (a b : Ex) : r7Same a b = some (decide (a = b)) := by
  unfold r7Same
  simp only [tb_beq]
  obtain ⟨a1, a2, a3, a4, a5⟩ := a
  obtain ⟨b1, b2, b3, b4, b5⟩ := b
  simp only [Ex.mk.injEq]
  repeat' split
  all_goals (congr 1; rw [Bool.eq_iff_iff]; simp_all)
theorem exAt_all (l : List Ex) (p : Ex → Prop) : (∀ i, i < l.length → p (exAt l i)) ↔ ∀ x ∈ l, p x := by
  unfold exAt; exact getD_all _ l p
theorem few_eq (l : List Ex) : few l = some (decide (l.length ≤ 70 ∧ ∀ x ∈ l, x.d.length ≤ 3000)) := by
  unfold few
  rw [tb_dec]
  by_cases hl : (l.length : Int) > 70
  · rw [if_pos hl]; congr 1; symm; rw [decide_eq_false_iff_not]; omega
  rw [if_neg hl]
  rw [th_all (some false) (some true) l.length (fun i => (exAt l i).d.length ≤ 3000) (∀ x ∈ l, x.d.length ≤ 3000) (exAt_all l (fun x => x.d.length ≤ 3000))]
  · split
    · rename_i h; congr 1; symm; rw [decide_eq_true_iff]; exact ⟨by omega, h⟩
    · rename_i h; congr 1; symm; rw [decide_eq_false_iff_not]; exact fun g => h g.2
  · intro i hi hp
    unfold few_L0_step
    simp only [tb_dec, Int.toNat_natCast]
    rw [if_pos (by omega), tp_pos (by omega), if_neg (by omega), wr_id (by omega) (by omega)]
  · intro i hi hp
    unfold few_L0_step
    simp only [tb_dec, Int.toNat_natCast]
    rw [if_pos (by omega), tp_pos (by omega), if_pos (by omega), if_pos (by omega), tp_pos (by omega), if_pos (by omega)]
    exact ⟨rfl, rfl⟩
  · unfold few_L0_step
    simp only [tb_dec]
    rw [if_neg (by omega), if_neg (by omega)]
    exact ⟨rfl, rfl⟩
theorem r7All_eq (a b : List Ex) (ha : a.length ≤ 4294967296) : r7All a b = some (decide (a = b)) := by
  unfold r7All
  rw [tb_bne]
  by_cases hl : (a.length : Int) = b.length
  · rw [if_pos hl]
    rw [th_all (some false) (some true) a.length (fun i => exAt a i = exAt b i) (a = b)]
    · split <;> rename_i h <;> simp [h]
    · constructor
      · intro h
        refine List.ext_getElem (by omega) fun i h1 h2 => ?_
        have := h i h1
        simpa [exAt, h1, h2] using this
      · rintro rfl; exact fun _ _ => rfl
    · intro i hi hp
      unfold r7All_L0_step
      simp only [tb_dec, Int.toNat_natCast, r7Same_eq, tc_some]
      rw [if_pos (by omega), tp_pos (by omega), tp_pos (by omega), hp, wr_id (by omega) (by omega)]
      simp
    · intro i hi hp
      unfold r7All_L0_step
      simp only [tb_dec, Int.toNat_natCast, r7Same_eq, tc_some]
      rw [if_pos (by omega), tp_pos (by omega), tp_pos (by omega), if_pos (by omega), tp_pos (by omega)]
      simp [hp]
    · unfold r7All_L0_step
      simp only [tb_dec]
      rw [if_neg (by omega), if_neg (by omega)]
      exact ⟨rfl, rfl⟩
  · rw [if_neg hl]
    congr 1; symm; rw [decide_eq_false_iff_not]; rintro rfl; exact hl rfl
end Ab
end Go.Proofs.Ytiaelfmohamipaa
namespace Go.Proofs.Ytiaelfmohamipaa
open Go Go.Proofs.Ytiaelfmohamipaa.Ab
set_option linter.unusedVariables false
set_option linter.unusedSimpArgs false
namespace Ab
def zb (b : List UInt8) : Bool := b == List.replicate 32 0
def fl : Nat → List UInt8 → List Bool
  | 0, _ => []
  | n + 1, b => zb (b.take 32) :: fl n (b.drop 32)
def flags (b : List UInt8) : List Bool := fl (b.length / 32) b
theorem fl_length : ∀ (n : Nat) (b : List UInt8), (fl n b).length = n
  | 0, _ => rfl
  | n + 1, b => by simp [fl, fl_length n]
theorem flags_nil {b : List UInt8} (h : b.length < 32) : flags b = [] := by
  unfold flags; rw [Nat.div_eq_of_lt h]; rfl
theorem flags_cons {b : List UInt8} (h : 32 ≤ b.length) : flags b = zb (b.take 32) :: flags (b.drop 32) := by
  unfold flags
  rw [show b.length / 32 = (b.drop 32).length / 32 + 1 by rw [List.length_drop]; omega]
  rfl
theorem flags_append {a : List UInt8} (b : List UInt8) (h : a.length % 32 = 0) : flags (a ++ b) = flags a ++ flags b := by
  have key : ∀ (n : Nat) (a : List UInt8), a.length = 32 * n → flags (a ++ b) = flags a ++ flags b := by
    intro n
    induction n with
    | zero =>
      intro a ha
      have : a = [] := List.length_eq_zero_iff.1 (by omega)
      subst this; rw [flags_nil (b := []) (by simp)]; rfl
    | succ n ih =>
      intro a ha
      rw [flags_cons (b := a) (by omega), flags_cons (b := a ++ b) (by rw [List.length_append]; omega)]
      rw [List.take_append_of_le_length (by omega), List.drop_append_of_le_length (by omega), ih _ (by rw [List.length_drop]; omega)]
      rfl
  exact key (a.length / 32) a (by omega)
end Ab
end Go.Proofs.Ytiaelfmohamipaa
namespace Go.Proofs.Ytiaelfmohamipaa
open Go Go.Proofs.Ytiaelfmohamipaa.Ab
set_option linter.unusedVariables false
set_option linter.unusedSimpArgs false
set_option maxRecDepth 1000000
namespace Ab
noncomputable abbrev pIs_L0_I (b : List UInt8) : St := (St.mk [(0, (bys b)), (2, (AV.b Bool.false)), (5, (bys b)), (6, (AV.i (↑(List.length b) : Int))), (7, (AV.i 0))] 14 (AH.mk 0 ([] : List (Prod Nat AObj))) Bool.false)
noncomputable abbrev pIs_L0_S (b : List UInt8) (s0 : Int) : St := (St.mk [(0, (bys b)), (5, (bys b)), (6, (AV.i (↑(List.length b) : Int))), (7, (AV.i s0))] 14 (AH.mk 0 ([] : List (Prod Nat AObj))) Bool.false)
noncomputable def pIs_L0_step (b : List UInt8) (s0 : Int) : Option (Int) :=
 (tb ((decide (s0 < (↑(List.length b) : Int))))
  (tp ((((0 : Int) ≤ s0) ∧ (s0 < (↑(List.length b) : Int))))
   (tb (((↑(UInt8.toNat (List.getD b ((Int.toNat s0) * (1 : Nat)) (OfNat.ofNat 0))) : Int) != (0 : Int)))
    none /- exit -/
    (some ((wr (s0 + (1 : Int)))))))
  none /- exit -/)
theorem pIs_L0_s0 (b : List UInt8) (s0 : Int) (h1 : ((decide (s0 < (↑(List.length b) : Int)))) = true) (h1p : (s0 < (↑(List.length b) : Int))) (h2 : (((0 : Int) ≤ s0) ∧ (s0 < (↑(List.length b) : Int)))) (h3 : (((↑(UInt8.toNat (List.getD b ((Int.toNat s0) * (1 : Nat)) (OfNat.ofNat 0))) : Int) != (0 : Int))) = false) (h3p : ((↑(UInt8.toNat (List.getD b ((Int.toNat s0) * (1 : Nat)) (OfNat.ofNat 0))) : Int) = (0 : Int))) : EvStep Try.prog cf 0 (lp Try.prog 17 0) (pIs_L0_S b s0) (pIs_L0_S b ((wr (s0 + (1 : Int))))) :=
  leafS vw_eq (k := 300) (r := []) (hs := hz [(1, [.yes, .yes, .yes, .val ((AV.y (List.getD b ((Int.toNat s0) * (1 : Nat)) (0 : UInt8))))]), (3, [.no]), (2, [])]) (st1 := (St.mk [(0, (bys b)), (5, (bys b)), (6, (AV.i (↑(List.length b) : Int))), (7, (AV.i (wr (s0 + (1 : Int))))), (8, (AV.b (decide (s0 < (↑(List.length b) : Int))))), (9, (AV.ip (List.drop ((Int.toNat s0) * (1 : Nat)) (List.map AV.y b)))), (10, (AV.y (List.getD b ((Int.toNat s0) * (1 : Nat)) (OfNat.ofNat 0)))), (4, (AV.y (List.getD b ((Int.toNat s0) * (1 : Nat)) (OfNat.ofNat 0)))), (11, (AV.y (List.getD b ((Int.toNat s0) * (1 : Nat)) (OfNat.ofNat 0)))), (12, (AV.b ((↑(UInt8.toNat (List.getD b ((Int.toNat s0) * (1 : Nat)) (OfNat.ofNat 0))) : Int) != (0 : Int)))), (13, (AV.i (wr (s0 + (1 : Int)))))] 14 (AH.mk 0 ([] : List (Prod Nat AObj))) Bool.false)) kq (ac h1 (ac h2 (ac (fq (p := ((1 : Nat) ≤ (List.length (List.drop ((Int.toNat s0) * (1 : Nat)) (List.map AV.y b)))))) (ac (show (List.take 1 (List.drop ((Int.toNat s0) * (1 : Nat)) (List.map AV.y b))) = [(AV.y (List.getD b ((Int.toNat s0) * (1 : Nat)) (0 : UInt8)))] from (by (try simp only [List.drop_drop]); exact one_drop_yC (l := b) tq bq)) (ac h3 an))))) (Nat.le_of_ble_eq_true rfl) (absB_of [] [] kq (.consn kq (.eqv tq rfl) (.consn kq (.eqv tq rfl) (.consn kq (.eqv tq rfl) (.consn kq (.eqv tq rfl) .nil)))) .nil)
theorem pIs_L0_ok (b : List UInt8) (s0 zz : Int) : pIs_L0_step b s0 = some zz → EvStep Try.prog cf 0 (lp Try.prog 17 0) (pIs_L0_S b s0) (pIs_L0_S b zz) := by
  unfold pIs_L0_step
  refine tb_ok (fun h1 => ?_) (fun h1 => ?_)
  ·
    have h1p := of_decide_eq_true h1
    refine tp_ok (fun h2 => ?_)
    refine tb_ok (fun h3 => ?_) (fun h3 => ?_)
    ·
      have h3p := bne_iff_ne.1 h3
      exact fun e => nomatch e
    ·
      have h3p := bne_eq_false_iff_eq.1 h3
      exact fun e => tl_ok (G := (fun zz => EvStep Try.prog cf 0 (lp Try.prog 17 0) (pIs_L0_S b s0) (pIs_L0_S b zz))) (pIs_L0_s0 b s0 h1 h1p h2 h3 h3p) e
  ·
    have h1p := of_decide_eq_false h1
    exact fun e => nomatch e
noncomputable def pIs (b : List UInt8) : Option (Bool) :=
 (th (pIs_L0_step b) ((0 : Int)) fun s0 =>
  (tb ((decide (s0 < (↑(List.length b) : Int))))
   (tp ((((0 : Int) ≤ s0) ∧ (s0 < (↑(List.length b) : Int))))
    (tb (((↑(UInt8.toNat (List.getD b ((Int.toNat s0) * (1 : Nat)) (OfNat.ofNat 0))) : Int) != (0 : Int)))
     (some (Bool.false))
     none /- stop behind an operation -/))
   (some (Bool.true))))
abbrev pIs_G (b : List UInt8) (r : Bool) : Prop := EvFr Try.prog cf true 17 [bys (b)] (.b (r))
theorem pIs_l0 (b : List UInt8) (s0 : Int) (h0 : Runs (pIs_L0_step b) ((0 : Int)) s0) (h1 : ((decide (s0 < (↑(List.length b) : Int)))) = true) (h1p : (s0 < (↑(List.length b) : Int))) (h2 : (((0 : Int) ≤ s0) ∧ (s0 < (↑(List.length b) : Int)))) (h3 : (((↑(UInt8.toNat (List.getD b ((Int.toNat s0) * (1 : Nat)) (OfNat.ofNat 0))) : Int) != (0 : Int))) = true) (h3p : ¬ ((↑(UInt8.toNat (List.getD b ((Int.toNat s0) * (1 : Nat)) (OfNat.ofNat 0))) : Int) = (0 : Int))) : pIs_G b (Bool.false) :=
  leafR vw_eq (k := 300) (r := []) (hs := hz [(4, [.head (pIs_L0_S b s0)]), (1, [.yes, .yes, .yes, .val ((AV.y (List.getD b ((Int.toNat s0) * (1 : Nat)) (0 : UInt8))))]), (3, [.yes]), (1, [])]) (raw := (AV.b Bool.false)) kq (ac (show EvHead Try.prog cf (lp Try.prog 17 0) (pIs_L0_I b) (pIs_L0_S b s0) from (EvHead.of (pIs_L0_ok b) (absB_of [] [] kq (.consn kq (.eqv tq rfl) (.consn kq (.eqv tq rfl) (.consn kq (.eqv tq rfl) (.consn kq (.eqv tq rfl) .nil)))) .nil) h0)) (ac h1 (ac h2 (ac (fq (p := ((1 : Nat) ≤ (List.length (List.drop ((Int.toNat s0) * (1 : Nat)) (List.map AV.y b)))))) (ac (show (List.take 1 (List.drop ((Int.toNat s0) * (1 : Nat)) (List.map AV.y b))) = [(AV.y (List.getD b ((Int.toNat s0) * (1 : Nat)) (0 : UInt8)))] from (by (try simp only [List.drop_drop]); exact one_drop_yC (l := b) tq bq)) (ac h3 an)))))) tq
theorem pIs_l1 (b : List UInt8) (s0 : Int) (h0 : Runs (pIs_L0_step b) ((0 : Int)) s0) (h1 : ((decide (s0 < (↑(List.length b) : Int)))) = false) (h1p : ¬ (s0 < (↑(List.length b) : Int))) : pIs_G b (Bool.true) :=
  leafR vw_eq (k := 300) (r := []) (hs := hz [(4, [.head (pIs_L0_S b s0)]), (1, [.no]), (1, [])]) (raw := (AV.b Bool.true)) kq (ac (show EvHead Try.prog cf (lp Try.prog 17 0) (pIs_L0_I b) (pIs_L0_S b s0) from (EvHead.of (pIs_L0_ok b) (absB_of [] [] kq (.consn kq (.eqv tq rfl) (.consn kq (.eqv tq rfl) (.consn kq (.eqv tq rfl) (.consn kq (.eqv tq rfl) .nil)))) .nil) h0)) (ac h1 an)) tq
theorem pIs_ok (b : List UInt8) (r : Bool) : pIs b = some r → pIs_G b r := by
  unfold pIs
  refine th_ok (fun s0 h0 => ?_)
  refine tb_ok (fun h1 => ?_) (fun h1 => ?_)
  ·
    have h1p := of_decide_eq_true h1
    refine tp_ok (fun h2 => ?_)
    refine tb_ok (fun h3 => ?_) (fun h3 => ?_)
    ·
      have h3p := bne_iff_ne.1 h3
      exact fun e => tl_ok (G := pIs_G b) (pIs_l0 b s0 h0 h1 h1p h2 h3 h3p) e
    ·
      have h3p := bne_eq_false_iff_eq.1 h3
      exact fun e => nomatch e
  ·
    have h1p := of_decide_eq_false h1
    exact fun e => tl_ok (G := pIs_G b) (pIs_l1 b s0 h0 h1 h1p) e
noncomputable abbrev r10List_L0_I (l : List Ex) : St := (St.mk [(0, (exs l)), (2, (AV.b Bool.false)), (6, (exs l)), (7, (AV.i (↑(List.length l) : Int))), (8, (AV.b (decide ((↑(List.length l) : Int) > (64 : Int))))), (3, (AV.i 0)), (4, (AV.i 0))] 42 (AH.mk 0 ([] : List (Prod Nat AObj))) Bool.false)
noncomputable abbrev r10List_L0_S (l : List Ex) (s1 : Int × Int) : St := (St.mk [(0, (exs l)), (8, (AV.b (decide ((↑(List.length l) : Int) > (64 : Int))))), (3, (AV.i s1.1)), (4, (AV.i s1.2))] 42 (AH.mk 0 ([] : List (Prod Nat AObj))) Bool.false)
noncomputable def r10List_L0_step (l : List Ex) (s1 : Int × Int) : Option (Int × Int) :=
 (tb ((decide (s1.2 < (↑(List.length l) : Int))))
  (tp ((((0 : Int) ≤ s1.2) ∧ (s1.2 < (↑(List.length l) : Int))))
   (tc (r7Check ((exAt l (Int.toNat s1.2)))) fun s4 =>
    (tb ((!s4))
     none /- exit -/
     (tb ((decide ((exAt l (Int.toNat s1.2)).lba < s1.1)))
      none /- exit -/
      (some (((wr ((exAt l (Int.toNat s1.2)).lba + (exAt l (Int.toNat s1.2)).len)), (wr (s1.2 + (1 : Int))))))))))
  none /- exit -/)
theorem r10List_L0_s0 (l : List Ex) (s1 : Int × Int) (h2 : ((decide (s1.2 < (↑(List.length l) : Int)))) = true) (h2p : (s1.2 < (↑(List.length l) : Int))) (h3 : (((0 : Int) ≤ s1.2) ∧ (s1.2 < (↑(List.length l) : Int)))) (s4 : Bool) (h4 : r7Check ((exAt l (Int.toNat s1.2))) = some s4) (h5 : ((!s4)) = false) (h6 : ((decide ((exAt l (Int.toNat s1.2)).lba < s1.1))) = false) (h6p : ¬ ((exAt l (Int.toNat s1.2)).lba < s1.1)) : EvStep Try.prog cf 0 (lp Try.prog 22 0) (r10List_L0_S l s1) (r10List_L0_S l (((wr ((exAt l (Int.toNat s1.2)).lba + (exAt l (Int.toNat s1.2)).len)), (wr (s1.2 + (1 : Int)))))) :=
  leafS vw_eq (k := 300) (r := []) (hs := hz [(4, [.yes]), (2, [.yes, .yes, .cells ((Ex.cells (exAt l (Int.toNat s1.2))))]), (1, [.fres (.b (s4))]), (4, [.no]), (1, [.no]), (1, [.no, .yes, .no]), (1, [.no, .yes, .val ((AV.i (exAt l (Int.toNat s1.2)).lba)), .no]), (1, [.no]), (1, [.no, .no]), (2, [.yes]), (1, [.yes, .val ((AV.i (exAt l (Int.toNat s1.2)).lba))]), (2, [.yes]), (1, [.yes, .val ((AV.i (exAt l (Int.toNat s1.2)).len))]), (2, [.yes]), (3, [])]) (st1 := (St.mk [(0, (exs l)), (8, (AV.b (decide ((↑(List.length l) : Int) > (64 : Int))))), (3, (AV.i (wr ((exAt l (Int.toNat s1.2)).lba + (exAt l (Int.toNat s1.2)).len)))), (4, (AV.i (wr (s1.2 + (1 : Int))))), (9, (AV.i s1.2)), (10, (exs l)), (11, (AV.i (↑(List.length l) : Int))), (12, (AV.b (decide (s1.2 < (↑(List.length l) : Int))))), (15, (exs l)), (16, (AV.i s1.2)), (17, (AV.ip (List.drop ((Int.toNat s1.2) * (5 : Nat)) (List.flatMap Ex.cells l)))), (18, (AV.ag (xc (exAt l (Int.toNat s1.2))))), (19, (AV.b s4)), (5, (AV.b s4)), (20, (AV.b s4)), (21, (AV.b (!s4))), (22, (AV.b (!s4))), (23, (exs l)), (24, (AV.i s1.2)), (25, (AV.ip (List.drop ((Int.toNat s1.2) * (5 : Nat)) (List.flatMap Ex.cells l)))), (26, (AV.ip (List.drop ((Int.toNat s1.2) * (5 : Nat)) (List.flatMap Ex.cells l)))), (27, (AV.i (exAt l (Int.toNat s1.2)).lba)), (28, (AV.i s1.1)), (29, (AV.b (decide ((exAt l (Int.toNat s1.2)).lba < s1.1)))), (30, (AV.b (decide ((exAt l (Int.toNat s1.2)).lba < s1.1)))), (31, (exs l)), (32, (AV.i s1.2)), (33, (AV.ip (List.drop ((Int.toNat s1.2) * (5 : Nat)) (List.flatMap Ex.cells l)))), (34, (AV.ip (List.drop ((Int.toNat s1.2) * (5 : Nat)) (List.flatMap Ex.cells l)))), (35, (AV.i (exAt l (Int.toNat s1.2)).lba)), (36, (exs l)), (37, (AV.i s1.2)), (38, (AV.ip (List.drop ((Int.toNat s1.2) * (5 : Nat)) (List.flatMap Ex.cells l)))), (39, (AV.ip (List.drop 1 (List.drop ((Int.toNat s1.2) * (5 : Nat)) (List.flatMap Ex.cells l))))), (40, (AV.i (exAt l (Int.toNat s1.2)).len)), (41, (AV.i (wr ((exAt l (Int.toNat s1.2)).lba + (exAt l (Int.toNat s1.2)).len)))), (13, (AV.i s1.2)), (14, (AV.i (wr (s1.2 + (1 : Int)))))] 42 (AH.mk 0 ([] : List (Prod Nat AObj))) Bool.false)) kq (ac h2 (ac h3 (ac (fq (p := ((5 : Nat) ≤ (List.length (List.drop ((Int.toNat s1.2) * (5 : Nat)) (List.flatMap Ex.cells l)))))) (ac (show (List.take 5 (List.drop ((Int.toNat s1.2) * (5 : Nat)) (List.flatMap Ex.cells l))) = (Ex.cells (exAt l (Int.toNat s1.2))) from (ex_takeO bq bq)) (ac (r7Check_ok ((exAt l (Int.toNat s1.2))) _ h4).any0 (ac h5 (ac h5 (ac h5 (ac h3 (ac h5 (ac h5 (ac (fq (p := ((1 : Nat) ≤ (List.length (List.drop ((Int.toNat s1.2) * (5 : Nat)) (List.flatMap Ex.cells l)))))) (ac (show (List.take 1 (List.drop ((Int.toNat s1.2) * (5 : Nat)) (List.flatMap Ex.cells l))) = [(AV.i (exAt l (Int.toNat s1.2)).lba)] from (by first | exact ex_one0 _ _ _ bq rfl | (simpa using ex_one (l) ((Int.toNat s1.2)) 0 _ bq rfl))) (ac h5 (ac h5 (ac h5 (ac h6 (ac h3 (ac (fq (p := ((1 : Nat) ≤ (List.length (List.drop ((Int.toNat s1.2) * (5 : Nat)) (List.flatMap Ex.cells l)))))) (ac (show (List.take 1 (List.drop ((Int.toNat s1.2) * (5 : Nat)) (List.flatMap Ex.cells l))) = [(AV.i (exAt l (Int.toNat s1.2)).lba)] from (by first | exact ex_one0 _ _ _ bq rfl | (simpa using ex_one (l) ((Int.toNat s1.2)) 0 _ bq rfl))) (ac h3 (ac (fq (p := ((1 : Nat) ≤ (List.length (List.drop 1 (List.drop ((Int.toNat s1.2) * (5 : Nat)) (List.flatMap Ex.cells l))))))) (ac (show (List.take 1 (List.drop 1 (List.drop ((Int.toNat s1.2) * (5 : Nat)) (List.flatMap Ex.cells l)))) = [(AV.i (exAt l (Int.toNat s1.2)).len)] from (by first | exact ex_one _ _ _ _ bq rfl | exact ex_oneA _ _ _ _ bq rfl | (simpa using ex_one (l) ((Int.toNat s1.2)) 1 _ bq rfl) | ((try simp only [List.drop_drop]); rw [show ((1 : Nat) + ((Int.toNat s1.2) * (5 : Nat))) = ((Int.toNat s1.2)) * 5 + 1 by omega]; exact ex_oneA (l) ((Int.toNat s1.2)) 1 _ bq rfl))) (ac (show orderOk (rg Try.prog 22 0) = true ∧ allOk (Region.before (rg Try.prog 22 0)) [] 0 [(some [], some []), (some [], some []), (some [], some []), (some [], some []), (some [], some []), (some [], some []), (some [], some []), (some [], some []), (some [], some []), (some [], some []), (some [], some []), (some [], some [])] = true from (ord_of ord_22_0 bef_22_0 kq)) an)))))))))))))))))))))))) (Nat.le_of_ble_eq_true rfl) (absB_of [] [] kq (.consn kq (.eqv tq rfl) (.consn kq (.eqv tq rfl) (.consn kq (.eqv tq rfl) (.consn kq (.eqv tq rfl) .nil)))) .nil)
theorem r10List_L0_ok (l : List Ex) (s1 zz : Int × Int) : r10List_L0_step l s1 = some zz → EvStep Try.prog cf 0 (lp Try.prog 22 0) (r10List_L0_S l s1) (r10List_L0_S l zz) := by
  unfold r10List_L0_step
  refine tb_ok (fun h2 => ?_) (fun h2 => ?_)
  ·
    have h2p := of_decide_eq_true h2
    refine tp_ok (fun h3 => ?_)
    refine tc_ok (fun s4 h4 => ?_)
    refine tb_ok (fun h5 => ?_) (fun h5 => ?_)
    ·
      exact fun e => nomatch e
    ·
      refine tb_ok (fun h6 => ?_) (fun h6 => ?_)
      ·
        have h6p := of_decide_eq_true h6
        exact fun e => nomatch e
      ·
        have h6p := of_decide_eq_false h6
        exact fun e => tl_ok (G := (fun zz => EvStep Try.prog cf 0 (lp Try.prog 22 0) (r10List_L0_S l s1) (r10List_L0_S l zz))) (r10List_L0_s0 l s1 h2 h2p h3 s4 h4 h5 h6 h6p) e
  ·
    have h2p := of_decide_eq_false h2
    exact fun e => nomatch e
noncomputable def r10List (l : List Ex) : Option (Bool) :=
 (tb ((decide ((↑(List.length l) : Int) > (64 : Int))))
  (some (Bool.false))
  (th (r10List_L0_step l) (((0 : Int), (0 : Int))) fun s1 =>
   (tb ((decide (s1.2 < (↑(List.length l) : Int))))
    (tp ((((0 : Int) ≤ s1.2) ∧ (s1.2 < (↑(List.length l) : Int))))
     (tc (r7Check ((exAt l (Int.toNat s1.2)))) fun s4 =>
      (tb ((!s4))
       (some (Bool.false))
       (tb ((decide ((exAt l (Int.toNat s1.2)).lba < s1.1)))
        (some (Bool.false))
        none /- stop behind an operation -/))))
    (some (Bool.true)))))
abbrev r10List_G (l : List Ex) (r : Bool) : Prop := EvFr Try.prog cf true 22 [exs (l)] (.b (r))
theorem r10List_l0 (l : List Ex) (h0 : ((decide ((↑(List.length l) : Int) > (64 : Int)))) = true) (h0p : ((↑(List.length l) : Int) > (64 : Int))) : r10List_G l (Bool.false) :=
  leafR vw_eq (k := 300) (r := []) (hs := hz [(4, [.yes]), (1, [])]) (raw := (AV.b Bool.false)) kq (ac h0 an) tq
theorem r10List_l1 (l : List Ex) (h0 : ((decide ((↑(List.length l) : Int) > (64 : Int)))) = false) (h0p : ¬ ((↑(List.length l) : Int) > (64 : Int))) (s1 : Int × Int) (h1 : Runs (r10List_L0_step l) (((0 : Int), (0 : Int))) s1) (h2 : ((decide (s1.2 < (↑(List.length l) : Int)))) = true) (h2p : (s1.2 < (↑(List.length l) : Int))) (h3 : (((0 : Int) ≤ s1.2) ∧ (s1.2 < (↑(List.length l) : Int)))) (s4 : Bool) (h4 : r7Check ((exAt l (Int.toNat s1.2))) = some s4) (h5 : ((!s4)) = true) : r10List_G l (Bool.false) :=
  leafR vw_eq (k := 300) (r := []) (hs := hz [(4, [.no]), (2, [.head (r10List_L0_S l s1)]), (4, [.yes]), (2, [.yes, .yes, .cells ((Ex.cells (exAt l (Int.toNat s1.2))))]), (1, [.fres (.b (s4))]), (4, [.yes, .yes, .yes, .yes, .yes, .yes, .yes, .yes]), (2, [])]) (raw := (AV.b Bool.false)) kq (ac h0 (ac (show EvHead Try.prog cf (lp Try.prog 22 0) (r10List_L0_I l) (r10List_L0_S l s1) from (EvHead.of (r10List_L0_ok l) (absB_of [] [] kq (.consn kq (.eqv tq rfl) (.consn kq (.eqv tq rfl) (.consn kq (.eqv tq rfl) (.consn kq (.eqv tq rfl) .nil)))) .nil) h1)) (ac h2 (ac h3 (ac (fq (p := ((5 : Nat) ≤ (List.length (List.drop ((Int.toNat s1.2) * (5 : Nat)) (List.flatMap Ex.cells l)))))) (ac (show (List.take 5 (List.drop ((Int.toNat s1.2) * (5 : Nat)) (List.flatMap Ex.cells l))) = (Ex.cells (exAt l (Int.toNat s1.2))) from (ex_takeO bq bq)) (ac (r7Check_ok ((exAt l (Int.toNat s1.2))) _ h4).any0 (ac h5 (ac h5 (ac h5 (ac h5 (ac h5 (ac h5 (ac h5 (ac h5 an))))))))))))))) tq
theorem r10List_l2 (l : List Ex) (h0 : ((decide ((↑(List.length l) : Int) > (64 : Int)))) = false) (h0p : ¬ ((↑(List.length l) : Int) > (64 : Int))) (s1 : Int × Int) (h1 : Runs (r10List_L0_step l) (((0 : Int), (0 : Int))) s1) (h2 : ((decide (s1.2 < (↑(List.length l) : Int)))) = true) (h2p : (s1.2 < (↑(List.length l) : Int))) (h3 : (((0 : Int) ≤ s1.2) ∧ (s1.2 < (↑(List.length l) : Int)))) (s4 : Bool) (h4 : r7Check ((exAt l (Int.toNat s1.2))) = some s4) (h5 : ((!s4)) = false) (h6 : ((decide ((exAt l (Int.toNat s1.2)).lba < s1.1))) = true) (h6p : ((exAt l (Int.toNat s1.2)).lba < s1.1)) : r10List_G l (Bool.false) :=
  leafR vw_eq (k := 300) (r := []) (hs := hz [(4, [.no]), (2, [.head (r10List_L0_S l s1)]), (4, [.yes]), (2, [.yes, .yes, .cells ((Ex.cells (exAt l (Int.toNat s1.2))))]), (1, [.fres (.b (s4))]), (4, [.no]), (1, [.no]), (1, [.no, .yes, .no]), (1, [.no, .yes, .val ((AV.i (exAt l (Int.toNat s1.2)).lba)), .no]), (1, [.no]), (1, [.no, .yes]), (1, [])]) (raw := (AV.b Bool.false)) kq (ac h0 (ac (show EvHead Try.prog cf (lp Try.prog 22 0) (r10List_L0_I l) (r10List_L0_S l s1) from (EvHead.of (r10List_L0_ok l) (absB_of [] [] kq (.consn kq (.eqv tq rfl) (.consn kq (.eqv tq rfl) (.consn kq (.eqv tq rfl) (.consn kq (.eqv tq rfl) .nil)))) .nil) h1)) (ac h2 (ac h3 (ac (fq (p := ((5 : Nat) ≤ (List.length (List.drop ((Int.toNat s1.2) * (5 : Nat)) (List.flatMap Ex.cells l)))))) (ac (show (List.take 5 (List.drop ((Int.toNat s1.2) * (5 : Nat)) (List.flatMap Ex.cells l))) = (Ex.cells (exAt l (Int.toNat s1.2))) from (ex_takeO bq bq)) (ac (r7Check_ok ((exAt l (Int.toNat s1.2))) _ h4).any0 (ac h5 (ac h5 (ac h5 (ac h3 (ac h5 (ac h5 (ac (fq (p := ((1 : Nat) ≤ (List.length (List.drop ((Int.toNat s1.2) * (5 : Nat)) (List.flatMap Ex.cells l)))))) (ac (show (List.take 1 (List.drop ((Int.toNat s1.2) * (5 : Nat)) (List.flatMap Ex.cells l))) = [(AV.i (exAt l (Int.toNat s1.2)).lba)] from (by first | exact ex_one0 _ _ _ bq rfl | (simpa using ex_one (l) ((Int.toNat s1.2)) 0 _ bq rfl))) (ac h5 (ac h5 (ac h5 (ac h6 an))))))))))))))))))) tq
theorem r10List_l3 (l : List Ex) (h0 : ((decide ((↑(List.length l) : Int) > (64 : Int)))) = false) (h0p : ¬ ((↑(List.length l) : Int) > (64 : Int))) (s1 : Int × Int) (h1 : Runs (r10List_L0_step l) (((0 : Int), (0 : Int))) s1) (h2 : ((decide (s1.2 < (↑(List.length l) : Int)))) = false) (h2p : ¬ (s1.2 < (↑(List.length l) : Int))) : r10List_G l (Bool.true) :=
  leafR vw_eq (k := 300) (r := []) (hs := hz [(4, [.no]), (2, [.head (r10List_L0_S l s1)]), (4, [.no]), (1, [])]) (raw := (AV.b Bool.true)) kq (ac h0 (ac (show EvHead Try.prog cf (lp Try.prog 22 0) (r10List_L0_I l) (r10List_L0_S l s1) from (EvHead.of (r10List_L0_ok l) (absB_of [] [] kq (.consn kq (.eqv tq rfl) (.consn kq (.eqv tq rfl) (.consn kq (.eqv tq rfl) (.consn kq (.eqv tq rfl) .nil)))) .nil) h1)) (ac h2 an))) tq
theorem r10List_ok (l : List Ex) (r : Bool) : r10List l = some r → r10List_G l r := by
  unfold r10List
  refine tb_ok (fun h0 => ?_) (fun h0 => ?_)
  ·
    have h0p := of_decide_eq_true h0
    exact fun e => tl_ok (G := r10List_G l) (r10List_l0 l h0 h0p) e
  ·
    have h0p := of_decide_eq_false h0
    refine th_ok (fun s1 h1 => ?_)
    refine tb_ok (fun h2 => ?_) (fun h2 => ?_)
    ·
      have h2p := of_decide_eq_true h2
      refine tp_ok (fun h3 => ?_)
      refine tc_ok (fun s4 h4 => ?_)
      refine tb_ok (fun h5 => ?_) (fun h5 => ?_)
      ·
        exact fun e => tl_ok (G := r10List_G l) (r10List_l1 l h0 h0p s1 h1 h2 h2p h3 s4 h4 h5) e
      ·
        refine tb_ok (fun h6 => ?_) (fun h6 => ?_)
        ·
          have h6p := of_decide_eq_true h6
          exact fun e => tl_ok (G := r10List_G l) (r10List_l2 l h0 h0p s1 h1 h2 h2p h3 s4 h4 h5 h6 h6p) e
        ·
          have h6p := of_decide_eq_false h6
          exact fun e => nomatch e
    ·
      have h2p := of_decide_eq_false h2
      exact fun e => tl_ok (G := r10List_G l) (r10List_l3 l h0 h0p s1 h1 h2 h2p) e
end Ab
end Go.Proofs.Ytiaelfmohamipaa
namespace Go.Proofs.Ytiaelfmohamipaa
open Go Go.Proofs.Ytiaelfmohamipaa.Ab
set_option linter.unusedVariables false
set_option linter.unusedSimpArgs false
namespace Ab
theorem zb_eq (b : List UInt8) : (List.take 32 (List.take 32 b) == List.replicate (32 : Nat) (UInt8.ofNat 0)) = zb (b.take 32) := by
  unfold zb; rw [List.take_take]; rfl
theorem rest_eq {α : Type} (l : List α) (k : Nat) : List.take ((l.length - k) * 1) (l.drop k) = l.drop k := by
  rw [Nat.mul_one]; exact List.take_of_length_le (by simp)
theorem tmod32 (n : Nat) : (Int.tmod (n : Int) 32 = 0) ↔ n % 32 = 0 := by
  rw [Int.tmod_eq_emod_of_nonneg (by omega)]; omega
def yl (c : Bool) (n : Int) (out : List Int) : List Int := (if out = [] ∧ c = true then [0] else out) ++ [n]
end Ab
end Go.Proofs.Ytiaelfmohamipaa
namespace Go.Proofs.Ytiaelfmohamipaa
open Go Go.Proofs.Ytiaelfmohamipaa.Ab
set_option linter.unusedVariables false
set_option linter.unusedSimpArgs false
set_option maxRecDepth 1000000
namespace Ab
noncomputable def eBytes (x : Ex) : Option (List UInt8) :=
 (tc (eCheck (x)) fun s0 =>
  (tb ((!s0))
   (some (([] : List UInt8)))
   (tp ((((wr (x.len * (32 : Int))) = (wr (x.len * (32 : Int)))) ∧ (((0 : Int) ≤ (wr (x.len * (32 : Int)))) ∧ ((wr (x.len * (32 : Int))) ≤ (4294967296 : Int)))))
    (some ((((List.take 0 (List.replicate (Int.toNat (wr (x.len * (32 : Int)))) (UInt8.ofNat (0 : Nat)))) ++ (List.take ((Min.min (List.length x.d) (Int.toNat (wr (x.len * (32 : Int))))) * (1 : Nat)) x.d)) ++ (List.drop ((0 : Nat) + (List.length (List.take ((Min.min (List.length x.d) (Int.toNat (wr (x.len * (32 : Int))))) * (1 : Nat)) (List.map AV.y x.d)))) (List.replicate (Int.toNat (wr (x.len * (32 : Int)))) (UInt8.ofNat (0 : Nat))))))))))
abbrev eBytes_G (x : Ex) (r : List UInt8) : Prop := EvFr Try.prog cf true 21 [Ex.av (x)] (bys (r))
theorem eBytes_l0 (x : Ex) (s0 : Bool) (h0 : eCheck (x) = some s0) (h1 : ((!s0)) = true) : eBytes_G x (([] : List UInt8)) :=
  leafR vw_eq (k := 300) (r := []) (hs := hz [(3, [.cells ((xc x))]), (1, [.fres (.b (s0))]), (1, [.yes]), (1, [])]) (raw := (AV.sl 0 ([] : List AV))) kq (ac (Eq.refl ((xc x) : List AV)) (ac (eCheck_ok (x) _ h0).any0 (ac h1 an))) tq
theorem eBytes_l1 (x : Ex) (s0 : Bool) (h0 : eCheck (x) = some s0) (h1 : ((!s0)) = false) (h2 : (((wr (x.len * (32 : Int))) = (wr (x.len * (32 : Int)))) ∧ (((0 : Int) ≤ (wr (x.len * (32 : Int)))) ∧ ((wr (x.len * (32 : Int))) ≤ (4294967296 : Int))))) : eBytes_G x ((((List.take 0 (List.replicate (Int.toNat (wr (x.len * (32 : Int)))) (UInt8.ofNat (0 : Nat)))) ++ (List.take ((Min.min (List.length x.d) (Int.toNat (wr (x.len * (32 : Int))))) * (1 : Nat)) x.d)) ++ (List.drop ((0 : Nat) + (List.length (List.take ((Min.min (List.length x.d) (Int.toNat (wr (x.len * (32 : Int))))) * (1 : Nat)) (List.map AV.y x.d)))) (List.replicate (Int.toNat (wr (x.len * (32 : Int)))) (UInt8.ofNat (0 : Nat)))))) :=
  leafR vw_eq (k := 300) (r := []) (hs := hz [(3, [.cells ((xc x))]), (1, [.fres (.b (s0))]), (1, [.no]), (4, [.yes]), (5, [.yes, .yes]), (3, [.yes, .yes])]) (raw := (AV.sl (Int.toNat (wr (x.len * (32 : Int)))) (((List.take 0 (List.flatten (List.replicate (Int.toNat (wr (x.len * (32 : Int)))) [(AV.y (UInt8.ofNat (0 : Nat)))]))) ++ (List.take ((Min.min (List.length x.d) (Int.toNat (wr (x.len * (32 : Int))))) * (1 : Nat)) (List.map AV.y x.d))) ++ (List.drop ((0 : Nat) + (List.length (List.take ((Min.min (List.length x.d) (Int.toNat (wr (x.len * (32 : Int))))) * (1 : Nat)) (List.map AV.y x.d)))) (List.flatten (List.replicate (Int.toNat (wr (x.len * (32 : Int)))) [(AV.y (UInt8.ofNat (0 : Nat)))])))))) kq (ac (Eq.refl ((xc x) : List AV)) (ac (eCheck_ok (x) _ h0).any0 (ac h1 (ac h2 (ac (tq (p := ((List.length (List.map AV.y x.d)) = ((List.length x.d) * (1 : Nat))))) (ac (tq (p := (((0 : Nat) + ((Int.toNat (wr (x.len * (32 : Int)))) * (1 : Nat))) ≤ (List.length (List.flatten (List.replicate (Int.toNat (wr (x.len * (32 : Int)))) [(AV.y (UInt8.ofNat (0 : Nat)))])))))) (ac (tq (p := (((0 : Nat) = (0 : Nat)) ∧ ((List.length (((List.take 0 (List.flatten (List.replicate (Int.toNat (wr (x.len * (32 : Int)))) [(AV.y (UInt8.ofNat (0 : Nat)))]))) ++ (List.take ((Min.min (List.length x.d) (Int.toNat (wr (x.len * (32 : Int))))) * (1 : Nat)) (List.map AV.y x.d))) ++ (List.drop ((0 : Nat) + (List.length (List.take ((Min.min (List.length x.d) (Int.toNat (wr (x.len * (32 : Int))))) * (1 : Nat)) (List.map AV.y x.d)))) (List.flatten (List.replicate (Int.toNat (wr (x.len * (32 : Int)))) [(AV.y (UInt8.ofNat (0 : Nat)))]))))) = ((Int.toNat (wr (x.len * (32 : Int)))) * (1 : Nat)))))) (ac (pq (p := Pl Bool.true ((((List.take 0 (List.flatten (List.replicate (Int.toNat (wr (x.len * (32 : Int)))) [(AV.y (UInt8.ofNat (0 : Nat)))]))) ++ (List.take ((Min.min (List.length x.d) (Int.toNat (wr (x.len * (32 : Int))))) * (1 : Nat)) (List.map AV.y x.d))) ++ (List.drop ((0 : Nat) + (List.length (List.take ((Min.min (List.length x.d) (Int.toNat (wr (x.len * (32 : Int))))) * (1 : Nat)) (List.map AV.y x.d)))) (List.flatten (List.replicate (Int.toNat (wr (x.len * (32 : Int)))) [(AV.y (UInt8.ofNat (0 : Nat)))]))))))) an)))))))) tq
theorem eBytes_ok (x : Ex) (r : List UInt8) : eBytes x = some r → eBytes_G x r := by
  unfold eBytes
  refine tc_ok (fun s0 h0 => ?_)
  refine tb_ok (fun h1 => ?_) (fun h1 => ?_)
  ·
    exact fun e => tl_ok (G := eBytes_G x) (eBytes_l0 x s0 h0 h1) e
  ·
    refine tp_ok (fun h2 => ?_)
    exact fun e => tl_ok (G := eBytes_G x) (eBytes_l1 x s0 h0 h1 h2) e
noncomputable def eJoin (a : Ex) (b : Ex) : Option (Ex × Int) :=
 (tc (eJoins (a) (b)) fun s0 =>
  (tb ((!s0))
   (some (((Ex.mk 0 0 0 0 ([] : List UInt8)), (70 : Int))))
   (tp (((List.length a.d) ≤ (4294967296 : Nat)))
    (tp ((((List.length (List.map AV.y a.d)) = ((List.length a.d) * (1 : Nat))) ∧ (((List.length a.d) + (List.length b.d)) ≤ (4294967296 : Nat))))
     (some (((Ex.mk a.lba (wr (a.len + b.len)) a.kind a.gen (a.d ++ b.d)), (0 : Int))))))))
abbrev eJoin_G (a : Ex) (b : Ex) (r : Ex × Int) : Prop := EvFr Try.prog cf true 30 [Ex.av (a), Ex.av (b)] (.tu [Ex.av (r.1), .i (r.2)])
theorem eJoin_l0 (a : Ex) (b : Ex) (s0 : Bool) (h0 : eJoins (a) (b) = some s0) (h1 : ((!s0)) = true) : eJoin_G a b (((Ex.mk 0 0 0 0 ([] : List UInt8)), (70 : Int))) :=
  leafR vw_eq (k := 300) (r := []) (hs := hz [(5, [.cells ((xc a))]), (1, [.cells ((xc b))]), (1, [.fres (.b (s0))]), (1, [.yes]), (2, [.cells ([(AV.i 0), (AV.i 0), (AV.i 0), (AV.i 0), AV.nl])]), (2, [.cells ([(AV.i 0), (AV.i 0), (AV.i 0), (AV.i 0), AV.nl])])]) (raw := (AV.tu [(AV.ag [(AV.i 0), (AV.i 0), (AV.i 0), (AV.i 0), (AV.sl 0 ([] : List AV))]), (AV.i 70)])) kq (ac (Eq.refl ((xc a) : List AV)) (ac (Eq.refl ((xc b) : List AV)) (ac (eJoins_ok (a) (b) _ h0).any0 (ac h1 (ac (Eq.refl ([(AV.i 0), (AV.i 0), (AV.i 0), (AV.i 0), AV.nl] : List AV)) (ac (Eq.refl ([(AV.i 0), (AV.i 0), (AV.i 0), (AV.i 0), AV.nl] : List AV)) an)))))) tq
theorem eJoin_l1 (a : Ex) (b : Ex) (s0 : Bool) (h0 : eJoins (a) (b) = some s0) (h1 : ((!s0)) = false) (h2 : ((List.length a.d) ≤ (4294967296 : Nat))) (h3 : (((List.length (List.map AV.y a.d)) = ((List.length a.d) * (1 : Nat))) ∧ (((List.length a.d) + (List.length b.d)) ≤ (4294967296 : Nat)))) : eJoin_G a b (((Ex.mk a.lba (wr (a.len + b.len)) a.kind a.gen (a.d ++ b.d)), (0 : Int))) :=
  leafR vw_eq (k := 300) (r := []) (hs := hz [(5, [.cells ((xc a))]), (1, [.cells ((xc b))]), (1, [.fres (.b (s0))]), (1, [.no]), (9, [.cells ([(AV.i a.lba), (AV.i (wr (a.len + b.len))), (AV.i a.kind), (AV.i a.gen), (bys a.d)])]), (4, [.yes, .yes]), (3, [.yes, .yes]), (2, [.cells ([(AV.i a.lba), (AV.i (wr (a.len + b.len))), (AV.i a.kind), (AV.i a.gen), (AV.rf 4 1 0 ((List.length a.d) + (List.length b.d)))]), .yes]), (1, [.cells ([(AV.i a.lba), (AV.i (wr (a.len + b.len))), (AV.i a.kind), (AV.i a.gen), (AV.rf 4 1 0 ((List.length a.d) + (List.length b.d)))])]), (1, [.cells ([(AV.i a.lba), (AV.i (wr (a.len + b.len))), (AV.i a.kind), (AV.i a.gen), (AV.rf 4 1 0 ((List.length a.d) + (List.length b.d)))])]), (2, [.cells ([(AV.i a.lba), (AV.i (wr (a.len + b.len))), (AV.i a.kind), (AV.i a.gen), (AV.rf 4 1 0 ((List.length a.d) + (List.length b.d)))]), .yes, .yes])]) (raw := (AV.tu [(AV.ag [(AV.i a.lba), (AV.i (wr (a.len + b.len))), (AV.i a.kind), (AV.i a.gen), (AV.sl ((List.length a.d) + (List.length b.d)) ((List.map AV.y a.d) ++ (List.map AV.y b.d)))]), (AV.i 0)])) kq (ac (Eq.refl ((xc a) : List AV)) (ac (Eq.refl ((xc b) : List AV)) (ac (eJoins_ok (a) (b) _ h0).any0 (ac h1 (ac (Eq.refl ([(AV.i a.lba), (AV.i (wr (a.len + b.len))), (AV.i a.kind), (AV.i a.gen), (bys a.d)] : List AV)) (ac (tq (p := ((List.length (List.map AV.y a.d)) = ((List.length a.d) * (1 : Nat))))) (ac h2 (ac (tq (p := ((List.length (List.map AV.y b.d)) = ((List.length b.d) * (1 : Nat))))) (ac h3 (ac (Eq.refl ([(AV.i a.lba), (AV.i (wr (a.len + b.len))), (AV.i a.kind), (AV.i a.gen), (AV.rf 4 1 0 ((List.length a.d) + (List.length b.d)))] : List AV)) (ac (show orderOk (rg Try.prog 30 0) = true ∧ allOk (Region.before (rg Try.prog 30 0)) [] 0 [(some [], some []), (some [0], some []), (some [], some [3]), (some [], some []), (some [1], some []), (some [3], some [3, 4]), (some [], some []), (some [0], some [0])] = true from (ord_of ord_30_0 bef_30_0 kq)) (ac (Eq.refl ([(AV.i a.lba), (AV.i (wr (a.len + b.len))), (AV.i a.kind), (AV.i a.gen), (AV.rf 4 1 0 ((List.length a.d) + (List.length b.d)))] : List AV)) (ac (Eq.refl ([(AV.i a.lba), (AV.i (wr (a.len + b.len))), (AV.i a.kind), (AV.i a.gen), (AV.rf 4 1 0 ((List.length a.d) + (List.length b.d)))] : List AV)) (ac (Eq.refl ([(AV.i a.lba), (AV.i (wr (a.len + b.len))), (AV.i a.kind), (AV.i a.gen), (AV.rf 4 1 0 ((List.length a.d) + (List.length b.d)))] : List AV)) (ac (tq (p := (((0 : Nat) = (0 : Nat)) ∧ ((List.length ((List.map AV.y a.d) ++ (List.map AV.y b.d))) = (((List.length a.d) + (List.length b.d)) * (1 : Nat)))))) (ac (pq (p := Pl Bool.true (((List.map AV.y a.d) ++ (List.map AV.y b.d))))) an)))))))))))))))) tq
theorem eJoin_ok (a : Ex) (b : Ex) (r : Ex × Int) : eJoin a b = some r → eJoin_G a b r := by
  unfold eJoin
  refine tc_ok (fun s0 h0 => ?_)
  refine tb_ok (fun h1 => ?_) (fun h1 => ?_)
  ·
    exact fun e => tl_ok (G := eJoin_G a b) (eJoin_l0 a b s0 h0 h1) e
  ·
    refine tp_ok (fun h2 => ?_)
    refine tp_ok (fun h3 => ?_)
    exact fun e => tl_ok (G := eJoin_G a b) (eJoin_l1 a b s0 h0 h1 h2 h3) e
noncomputable def eCut (x : Ex) (lba : Int) (n : Int) : Option (Ex × Bool) :=
 (tc (eCheck (x)) fun s0 =>
  (tb ((!s0))
   (some (((Ex.mk 0 0 0 0 ([] : List UInt8)), Bool.false)))
   (tb ((decide (lba ≥ (0 : Int))))
    (tb ((!(decide (lba ≤ (64 : Int)))))
     (some (((Ex.mk 0 0 0 0 ([] : List UInt8)), Bool.false)))
     (tb ((decide (n ≥ (0 : Int))))
      (tb ((!(decide (n ≤ (64 : Int)))))
       (some (((Ex.mk 0 0 0 0 ([] : List UInt8)), Bool.false)))
       (tb ((decide ((imax x.lba lba) ≥ (imin (wr (x.lba + x.len)) (wr (lba + n))))))
        (some (((Ex.mk 0 0 0 0 ([] : List UInt8)), Bool.false)))
        (tb ((x.kind == (2 : Int)))
         (tp (((0 : Int) ≤ (wr ((wr ((imax x.lba lba) - x.lba)) * (32 : Int)))))
          (tp (((0 : Int) ≤ (wr ((wr ((imin (wr (x.lba + x.len)) (wr (lba + n))) - x.lba)) * (32 : Int)))))
           (tp ((((Int.toNat (wr ((wr ((imax x.lba lba) - x.lba)) * (32 : Int)))) ≤ (Int.toNat (wr ((wr ((imin (wr (x.lba + x.len)) (wr (lba + n))) - x.lba)) * (32 : Int))))) ∧ (((Int.toNat (wr ((wr ((imin (wr (x.lba + x.len)) (wr (lba + n))) - x.lba)) * (32 : Int)))) ≤ (List.length x.d)) ∧ ((List.length (List.map AV.y x.d)) = ((List.length x.d) * (1 : Nat))))))
            (tp ((((Int.toNat (wr ((wr ((imin (wr (x.lba + x.len)) (wr (lba + n))) - x.lba)) * (32 : Int)))) - (Int.toNat (wr ((wr ((imax x.lba lba) - x.lba)) * (32 : Int))))) ≤ (4294967296 : Nat)))
             (some (((Ex.mk (imax x.lba lba) (wr ((imin (wr (x.lba + x.len)) (wr (lba + n))) - (imax x.lba lba))) x.kind x.gen (List.take (((Int.toNat (wr ((wr ((imin (wr (x.lba + x.len)) (wr (lba + n))) - x.lba)) * (32 : Int)))) - (Int.toNat (wr ((wr ((imax x.lba lba) - x.lba)) * (32 : Int))))) * (1 : Nat)) (List.take (((Int.toNat (wr ((wr ((imin (wr (x.lba + x.len)) (wr (lba + n))) - x.lba)) * (32 : Int)))) - (Int.toNat (wr ((wr ((imax x.lba lba) - x.lba)) * (32 : Int))))) * (1 : Nat)) (List.drop ((Int.toNat (wr ((wr ((imax x.lba lba) - x.lba)) * (32 : Int)))) * (1 : Nat)) x.d)))), Bool.true)))))))
         (some (((Ex.mk (imax x.lba lba) (wr ((imin (wr (x.lba + x.len)) (wr (lba + n))) - (imax x.lba lba))) x.kind x.gen ([] : List UInt8)), Bool.true))))))
      (some (((Ex.mk 0 0 0 0 ([] : List UInt8)), Bool.false)))))
    (some (((Ex.mk 0 0 0 0 ([] : List UInt8)), Bool.false))))))
abbrev eCut_G (x : Ex) (lba : Int) (n : Int) (r : Ex × Bool) : Prop := EvFr Try.prog cf true 49 [Ex.av (x), .i (lba), .i (n)] (.tu [Ex.av (r.1), .b (r.2)])
theorem eCut_l0 (x : Ex) (lba : Int) (n : Int) (s0 : Bool) (h0 : eCheck (x) = some s0) (h1 : ((!s0)) = true) : eCut_G x lba n (((Ex.mk 0 0 0 0 ([] : List UInt8)), Bool.false)) :=
  leafR vw_eq (k := 300) (r := []) (hs := hz [(4, [.cells ((xc x))]), (1, [.fres (.b (s0))]), (2, [.yes, .yes, .yes, .yes]), (8, [.cells ([(AV.i 0), (AV.i 0), (AV.i 0), (AV.i 0), AV.nl])]), (2, [.cells ([(AV.i 0), (AV.i 0), (AV.i 0), (AV.i 0), AV.nl])])]) (raw := (AV.tu [(AV.ag [(AV.i 0), (AV.i 0), (AV.i 0), (AV.i 0), (AV.sl 0 ([] : List AV))]), (AV.b Bool.false)])) kq (ac (Eq.refl ((xc x) : List AV)) (ac (eCheck_ok (x) _ h0).any0 (ac h1 (ac h1 (ac h1 (ac h1 (ac (Eq.refl ([(AV.i 0), (AV.i 0), (AV.i 0), (AV.i 0), AV.nl] : List AV)) (ac (Eq.refl ([(AV.i 0), (AV.i 0), (AV.i 0), (AV.i 0), AV.nl] : List AV)) an)))))))) tq
theorem eCut_l1 (x : Ex) (lba : Int) (n : Int) (s0 : Bool) (h0 : eCheck (x) = some s0) (h1 : ((!s0)) = false) (h2 : ((decide (lba ≥ (0 : Int)))) = true) (h2p : (lba ≥ (0 : Int))) (h3 : ((!(decide (lba ≤ (64 : Int))))) = true) : eCut_G x lba n (((Ex.mk 0 0 0 0 ([] : List UInt8)), Bool.false)) :=
  leafR vw_eq (k := 300) (r := []) (hs := hz [(4, [.cells ((xc x))]), (1, [.fres (.b (s0))]), (2, [.no]), (1, [.no]), (7, [.yes]), (1, [.yes]), (1, [.yes]), (1, [.yes]), (1, [.no]), (1, [.no]), (1, [.yes, .yes, .yes, .yes]), (3, [.cells ([(AV.i 0), (AV.i 0), (AV.i 0), (AV.i 0), AV.nl])]), (2, [.cells ([(AV.i 0), (AV.i 0), (AV.i 0), (AV.i 0), AV.nl])])]) (raw := (AV.tu [(AV.ag [(AV.i 0), (AV.i 0), (AV.i 0), (AV.i 0), (AV.sl 0 ([] : List AV))]), (AV.b Bool.false)])) kq (ac (Eq.refl ((xc x) : List AV)) (ac (eCheck_ok (x) _ h0).any0 (ac h1 (ac h1 (ac h2 (ac h2 (ac h2 (ac h2 (ac h1 (ac h1 (ac h3 (ac h3 (ac h3 (ac h3 (ac (Eq.refl ([(AV.i 0), (AV.i 0), (AV.i 0), (AV.i 0), AV.nl] : List AV)) (ac (Eq.refl ([(AV.i 0), (AV.i 0), (AV.i 0), (AV.i 0), AV.nl] : List AV)) an)))))))))))))))) tq
theorem eCut_l2 (x : Ex) (lba : Int) (n : Int) (s0 : Bool) (h0 : eCheck (x) = some s0) (h1 : ((!s0)) = false) (h2 : ((decide (lba ≥ (0 : Int)))) = true) (h2p : (lba ≥ (0 : Int))) (h3 : ((!(decide (lba ≤ (64 : Int))))) = false) (h4 : ((decide (n ≥ (0 : Int)))) = true) (h4p : (n ≥ (0 : Int))) (h5 : ((!(decide (n ≤ (64 : Int))))) = true) : eCut_G x lba n (((Ex.mk 0 0 0 0 ([] : List UInt8)), Bool.false)) :=
  leafR vw_eq (k := 300) (r := []) (hs := hz [(4, [.cells ((xc x))]), (1, [.fres (.b (s0))]), (2, [.no]), (1, [.no]), (7, [.yes]), (1, [.yes]), (1, [.yes]), (1, [.yes]), (1, [.no]), (1, [.no]), (1, [.no]), (1, [.no]), (7, [.yes]), (1, [.yes]), (1, [.yes]), (1, [.yes]), (1, [.no]), (1, [.no, .yes]), (2, [.cells ([(AV.i 0), (AV.i 0), (AV.i 0), (AV.i 0), AV.nl])]), (2, [.cells ([(AV.i 0), (AV.i 0), (AV.i 0), (AV.i 0), AV.nl])])]) (raw := (AV.tu [(AV.ag [(AV.i 0), (AV.i 0), (AV.i 0), (AV.i 0), (AV.sl 0 ([] : List AV))]), (AV.b Bool.false)])) kq (ac (Eq.refl ((xc x) : List AV)) (ac (eCheck_ok (x) _ h0).any0 (ac h1 (ac h1 (ac h2 (ac h2 (ac h2 (ac h2 (ac h1 (ac h1 (ac h3 (ac h3 (ac h4 (ac h4 (ac h4 (ac h4 (ac h3 (ac h3 (ac h5 (ac (Eq.refl ([(AV.i 0), (AV.i 0), (AV.i 0), (AV.i 0), AV.nl] : List AV)) (ac (Eq.refl ([(AV.i 0), (AV.i 0), (AV.i 0), (AV.i 0), AV.nl] : List AV)) an))))))))))))))))))))) tq
theorem eCut_l3 (x : Ex) (lba : Int) (n : Int) (s0 : Bool) (h0 : eCheck (x) = some s0) (h1 : ((!s0)) = false) (h2 : ((decide (lba ≥ (0 : Int)))) = true) (h2p : (lba ≥ (0 : Int))) (h3 : ((!(decide (lba ≤ (64 : Int))))) = false) (h4 : ((decide (n ≥ (0 : Int)))) = true) (h4p : (n ≥ (0 : Int))) (h5 : ((!(decide (n ≤ (64 : Int))))) = false) (h6 : ((decide ((imax x.lba lba) ≥ (imin (wr (x.lba + x.len)) (wr (lba + n)))))) = true) (h6p : ((imax x.lba lba) ≥ (imin (wr (x.lba + x.len)) (wr (lba + n))))) : eCut_G x lba n (((Ex.mk 0 0 0 0 ([] : List UInt8)), Bool.false)) :=
  leafR vw_eq (k := 300) (r := []) (hs := hz [(4, [.cells ((xc x))]), (1, [.fres (.b (s0))]), (2, [.no]), (1, [.no]), (7, [.yes]), (1, [.yes]), (1, [.yes]), (1, [.yes]), (1, [.no]), (1, [.no]), (1, [.no]), (1, [.no]), (7, [.yes]), (1, [.yes]), (1, [.yes]), (1, [.yes]), (1, [.no]), (1, [.no, .no]), (18, [.yes]), (3, [.yes]), (2, [.cells ([(AV.i 0), (AV.i 0), (AV.i 0), (AV.i 0), AV.nl])]), (2, [.cells ([(AV.i 0), (AV.i 0), (AV.i 0), (AV.i 0), AV.nl])])]) (raw := (AV.tu [(AV.ag [(AV.i 0), (AV.i 0), (AV.i 0), (AV.i 0), (AV.sl 0 ([] : List AV))]), (AV.b Bool.false)])) kq (ac (Eq.refl ((xc x) : List AV)) (ac (eCheck_ok (x) _ h0).any0 (ac h1 (ac h1 (ac h2 (ac h2 (ac h2 (ac h2 (ac h1 (ac h1 (ac h3 (ac h3 (ac h4 (ac h4 (ac h4 (ac h4 (ac h3 (ac h3 (ac h5 (ac (show orderOk (rg Try.prog 49 0) = true ∧ allOk (Region.before (rg Try.prog 49 0)) [] 0 [(some [], some []), (some [0], some []), (some [], some []), (some [], some []), (some [], some []), (some [0], some []), (some [], some []), (some [0], some []), (some [], some []), (some [], some []), (some [], some []), (some [], some []), (some [], some []), (some [], some []), (some [], some [])] = true from (ord_of ord_49_0 bef_49_0 kq)) (ac h6 (ac (Eq.refl ([(AV.i 0), (AV.i 0), (AV.i 0), (AV.i 0), AV.nl] : List AV)) (ac (Eq.refl ([(AV.i 0), (AV.i 0), (AV.i 0), (AV.i 0), AV.nl] : List AV)) an))))))))))))))))))))))) tq
theorem eCut_l4 (x : Ex) (lba : Int) (n : Int) (s0 : Bool) (h0 : eCheck (x) = some s0) (h1 : ((!s0)) = false) (h2 : ((decide (lba ≥ (0 : Int)))) = true) (h2p : (lba ≥ (0 : Int))) (h3 : ((!(decide (lba ≤ (64 : Int))))) = false) (h4 : ((decide (n ≥ (0 : Int)))) = true) (h4p : (n ≥ (0 : Int))) (h5 : ((!(decide (n ≤ (64 : Int))))) = false) (h6 : ((decide ((imax x.lba lba) ≥ (imin (wr (x.lba + x.len)) (wr (lba + n)))))) = false) (h6p : ¬ ((imax x.lba lba) ≥ (imin (wr (x.lba + x.len)) (wr (lba + n))))) (h7 : ((x.kind == (2 : Int))) = true) (h7p : (x.kind = (2 : Int))) (h8 : ((0 : Int) ≤ (wr ((wr ((imax x.lba lba) - x.lba)) * (32 : Int))))) (h9 : ((0 : Int) ≤ (wr ((wr ((imin (wr (x.lba + x.len)) (wr (lba + n))) - x.lba)) * (32 : Int))))) (h10 : (((Int.toNat (wr ((wr ((imax x.lba lba) - x.lba)) * (32 : Int)))) ≤ (Int.toNat (wr ((wr ((imin (wr (x.lba + x.len)) (wr (lba + n))) - x.lba)) * (32 : Int))))) ∧ (((Int.toNat (wr ((wr ((imin (wr (x.lba + x.len)) (wr (lba + n))) - x.lba)) * (32 : Int)))) ≤ (List.length x.d)) ∧ ((List.length (List.map AV.y x.d)) = ((List.length x.d) * (1 : Nat)))))) (h11 : (((Int.toNat (wr ((wr ((imin (wr (x.lba + x.len)) (wr (lba + n))) - x.lba)) * (32 : Int)))) - (Int.toNat (wr ((wr ((imax x.lba lba) - x.lba)) * (32 : Int))))) ≤ (4294967296 : Nat))) : eCut_G x lba n (((Ex.mk (imax x.lba lba) (wr ((imin (wr (x.lba + x.len)) (wr (lba + n))) - (imax x.lba lba))) x.kind x.gen (List.take (((Int.toNat (wr ((wr ((imin (wr (x.lba + x.len)) (wr (lba + n))) - x.lba)) * (32 : Int)))) - (Int.toNat (wr ((wr ((imax x.lba lba) - x.lba)) * (32 : Int))))) * (1 : Nat)) (List.take (((Int.toNat (wr ((wr ((imin (wr (x.lba + x.len)) (wr (lba + n))) - x.lba)) * (32 : Int)))) - (Int.toNat (wr ((wr ((imax x.lba lba) - x.lba)) * (32 : Int))))) * (1 : Nat)) (List.drop ((Int.toNat (wr ((wr ((imax x.lba lba) - x.lba)) * (32 : Int)))) * (1 : Nat)) x.d)))), Bool.true)) :=
  leafR vw_eq (k := 300) (r := []) (hs := hz [(4, [.cells ((xc x))]), (1, [.fres (.b (s0))]), (2, [.no]), (1, [.no]), (7, [.yes]), (1, [.yes]), (1, [.yes]), (1, [.yes]), (1, [.no]), (1, [.no]), (1, [.no]), (1, [.no]), (7, [.yes]), (1, [.yes]), (1, [.yes]), (1, [.yes]), (1, [.no]), (1, [.no, .no]), (18, [.yes]), (3, [.no]), (6, [.cells ([(AV.i x.lba), (AV.i x.len), (AV.i x.kind), (AV.i x.gen), AV.nl])]), (4, [.yes]), (13, [.yes, .yes, .yes]), (1, [.yes, .yes]), (2, [.cells ([(AV.i x.lba), (AV.i x.len), (AV.i x.kind), (AV.i x.gen), (AV.rf 2 1 0 ((Int.toNat (wr ((wr ((imin (wr (x.lba + x.len)) (wr (lba + n))) - x.lba)) * (32 : Int)))) - (Int.toNat (wr ((wr ((imax x.lba lba) - x.lba)) * (32 : Int))))))])]), (6, [.cells ([(AV.i (imax x.lba lba)), (AV.i x.len), (AV.i x.kind), (AV.i x.gen), (AV.rf 2 1 0 ((Int.toNat (wr ((wr ((imin (wr (x.lba + x.len)) (wr (lba + n))) - x.lba)) * (32 : Int)))) - (Int.toNat (wr ((wr ((imax x.lba lba) - x.lba)) * (32 : Int))))))])]), (2, [.cells ([(AV.i (imax x.lba lba)), (AV.i (wr ((imin (wr (x.lba + x.len)) (wr (lba + n))) - (imax x.lba lba)))), (AV.i x.kind), (AV.i x.gen), (AV.rf 2 1 0 ((Int.toNat (wr ((wr ((imin (wr (x.lba + x.len)) (wr (lba + n))) - x.lba)) * (32 : Int)))) - (Int.toNat (wr ((wr ((imax x.lba lba) - x.lba)) * (32 : Int))))))])]), (1, [.cells ([(AV.i (imax x.lba lba)), (AV.i (wr ((imin (wr (x.lba + x.len)) (wr (lba + n))) - (imax x.lba lba)))), (AV.i x.kind), (AV.i x.gen), (AV.rf 2 1 0 ((Int.toNat (wr ((wr ((imin (wr (x.lba + x.len)) (wr (lba + n))) - x.lba)) * (32 : Int)))) - (Int.toNat (wr ((wr ((imax x.lba lba) - x.lba)) * (32 : Int))))))])]), (1, [.cells ([(AV.i (imax x.lba lba)), (AV.i (wr ((imin (wr (x.lba + x.len)) (wr (lba + n))) - (imax x.lba lba)))), (AV.i x.kind), (AV.i x.gen), (AV.rf 2 1 0 ((Int.toNat (wr ((wr ((imin (wr (x.lba + x.len)) (wr (lba + n))) - x.lba)) * (32 : Int)))) - (Int.toNat (wr ((wr ((imax x.lba lba) - x.lba)) * (32 : Int))))))])]), (2, [.cells ([(AV.i (imax x.lba lba)), (AV.i (wr ((imin (wr (x.lba + x.len)) (wr (lba + n))) - (imax x.lba lba)))), (AV.i x.kind), (AV.i x.gen), (AV.rf 2 1 0 ((Int.toNat (wr ((wr ((imin (wr (x.lba + x.len)) (wr (lba + n))) - x.lba)) * (32 : Int)))) - (Int.toNat (wr ((wr ((imax x.lba lba) - x.lba)) * (32 : Int))))))]), .no, .yes, .yes])]) (raw := (AV.tu [(AV.ag [(AV.i (imax x.lba lba)), (AV.i (wr ((imin (wr (x.lba + x.len)) (wr (lba + n))) - (imax x.lba lba)))), (AV.i x.kind), (AV.i x.gen), (AV.sl ((Int.toNat (wr ((wr ((imin (wr (x.lba + x.len)) (wr (lba + n))) - x.lba)) * (32 : Int)))) - (Int.toNat (wr ((wr ((imax x.lba lba) - x.lba)) * (32 : Int))))) (List.take (((Int.toNat (wr ((wr ((imin (wr (x.lba + x.len)) (wr (lba + n))) - x.lba)) * (32 : Int)))) - (Int.toNat (wr ((wr ((imax x.lba lba) - x.lba)) * (32 : Int))))) * (1 : Nat)) (List.take (((Int.toNat (wr ((wr ((imin (wr (x.lba + x.len)) (wr (lba + n))) - x.lba)) * (32 : Int)))) - (Int.toNat (wr ((wr ((imax x.lba lba) - x.lba)) * (32 : Int))))) * (1 : Nat)) (List.drop ((Int.toNat (wr ((wr ((imax x.lba lba) - x.lba)) * (32 : Int)))) * (1 : Nat)) (List.map AV.y x.d)))))]), (AV.b Bool.true)])) kq (ac (Eq.refl ((xc x) : List AV)) (ac (eCheck_ok (x) _ h0).any0 (ac h1 (ac h1 (ac h2 (ac h2 (ac h2 (ac h2 (ac h1 (ac h1 (ac h3 (ac h3 (ac h4 (ac h4 (ac h4 (ac h4 (ac h3 (ac h3 (ac h5 (ac (show orderOk (rg Try.prog 49 0) = true ∧ allOk (Region.before (rg Try.prog 49 0)) [] 0 [(some [], some []), (some [0], some []), (some [], some []), (some [], some []), (some [], some []), (some [0], some []), (some [], some []), (some [0], some []), (some [], some []), (some [], some []), (some [], some []), (some [], some []), (some [], some []), (some [], some []), (some [], some [])] = true from (ord_of ord_49_0 bef_49_0 kq)) (ac h6 (ac (Eq.refl ([(AV.i x.lba), (AV.i x.len), (AV.i x.kind), (AV.i x.gen), AV.nl] : List AV)) (ac h7 (ac h8 (ac h9 (ac h10 (ac (fq (p := ((List.length (List.take (((Int.toNat (wr ((wr ((imin (wr (x.lba + x.len)) (wr (lba + n))) - x.lba)) * (32 : Int)))) - (Int.toNat (wr ((wr ((imax x.lba lba) - x.lba)) * (32 : Int))))) * (1 : Nat)) (List.drop ((Int.toNat (wr ((wr ((imax x.lba lba) - x.lba)) * (32 : Int)))) * (1 : Nat)) (List.map AV.y x.d)))) = (((Int.toNat (wr ((wr ((imin (wr (x.lba + x.len)) (wr (lba + n))) - x.lba)) * (32 : Int)))) - (Int.toNat (wr ((wr ((imax x.lba lba) - x.lba)) * (32 : Int))))) * (1 : Nat))))) (ac h11 (ac (Eq.refl ([(AV.i x.lba), (AV.i x.len), (AV.i x.kind), (AV.i x.gen), (AV.rf 2 1 0 ((Int.toNat (wr ((wr ((imin (wr (x.lba + x.len)) (wr (lba + n))) - x.lba)) * (32 : Int)))) - (Int.toNat (wr ((wr ((imax x.lba lba) - x.lba)) * (32 : Int))))))] : List AV)) (ac (Eq.refl ([(AV.i (imax x.lba lba)), (AV.i x.len), (AV.i x.kind), (AV.i x.gen), (AV.rf 2 1 0 ((Int.toNat (wr ((wr ((imin (wr (x.lba + x.len)) (wr (lba + n))) - x.lba)) * (32 : Int)))) - (Int.toNat (wr ((wr ((imax x.lba lba) - x.lba)) * (32 : Int))))))] : List AV)) (ac (Eq.refl ([(AV.i (imax x.lba lba)), (AV.i (wr ((imin (wr (x.lba + x.len)) (wr (lba + n))) - (imax x.lba lba)))), (AV.i x.kind), (AV.i x.gen), (AV.rf 2 1 0 ((Int.toNat (wr ((wr ((imin (wr (x.lba + x.len)) (wr (lba + n))) - x.lba)) * (32 : Int)))) - (Int.toNat (wr ((wr ((imax x.lba lba) - x.lba)) * (32 : Int))))))] : List AV)) (ac (Eq.refl ([(AV.i (imax x.lba lba)), (AV.i (wr ((imin (wr (x.lba + x.len)) (wr (lba + n))) - (imax x.lba lba)))), (AV.i x.kind), (AV.i x.gen), (AV.rf 2 1 0 ((Int.toNat (wr ((wr ((imin (wr (x.lba + x.len)) (wr (lba + n))) - x.lba)) * (32 : Int)))) - (Int.toNat (wr ((wr ((imax x.lba lba) - x.lba)) * (32 : Int))))))] : List AV)) (ac (Eq.refl ([(AV.i (imax x.lba lba)), (AV.i (wr ((imin (wr (x.lba + x.len)) (wr (lba + n))) - (imax x.lba lba)))), (AV.i x.kind), (AV.i x.gen), (AV.rf 2 1 0 ((Int.toNat (wr ((wr ((imin (wr (x.lba + x.len)) (wr (lba + n))) - x.lba)) * (32 : Int)))) - (Int.toNat (wr ((wr ((imax x.lba lba) - x.lba)) * (32 : Int))))))] : List AV)) (ac (Eq.refl ([(AV.i (imax x.lba lba)), (AV.i (wr ((imin (wr (x.lba + x.len)) (wr (lba + n))) - (imax x.lba lba)))), (AV.i x.kind), (AV.i x.gen), (AV.rf 2 1 0 ((Int.toNat (wr ((wr ((imin (wr (x.lba + x.len)) (wr (lba + n))) - x.lba)) * (32 : Int)))) - (Int.toNat (wr ((wr ((imax x.lba lba) - x.lba)) * (32 : Int))))))] : List AV)) (ac (fq (p := (((0 : Nat) + (((Int.toNat (wr ((wr ((imin (wr (x.lba + x.len)) (wr (lba + n))) - x.lba)) * (32 : Int)))) - (Int.toNat (wr ((wr ((imax x.lba lba) - x.lba)) * (32 : Int))))) * (1 : Nat))) ≤ (List.length (List.take (((Int.toNat (wr ((wr ((imin (wr (x.lba + x.len)) (wr (lba + n))) - x.lba)) * (32 : Int)))) - (Int.toNat (wr ((wr ((imax x.lba lba) - x.lba)) * (32 : Int))))) * (1 : Nat)) (List.drop ((Int.toNat (wr ((wr ((imax x.lba lba) - x.lba)) * (32 : Int)))) * (1 : Nat)) (List.map AV.y x.d))))))) (ac (pq (p := Pl Bool.true ((List.take (((Int.toNat (wr ((wr ((imin (wr (x.lba + x.len)) (wr (lba + n))) - x.lba)) * (32 : Int)))) - (Int.toNat (wr ((wr ((imax x.lba lba) - x.lba)) * (32 : Int))))) * (1 : Nat)) (List.take (((Int.toNat (wr ((wr ((imin (wr (x.lba + x.len)) (wr (lba + n))) - x.lba)) * (32 : Int)))) - (Int.toNat (wr ((wr ((imax x.lba lba) - x.lba)) * (32 : Int))))) * (1 : Nat)) (List.drop ((Int.toNat (wr ((wr ((imax x.lba lba) - x.lba)) * (32 : Int)))) * (1 : Nat)) (List.map AV.y x.d))))))) an)))))))))))))))))))))))))))))))))))) tq
theorem eCut_l5 (x : Ex) (lba : Int) (n : Int) (s0 : Bool) (h0 : eCheck (x) = some s0) (h1 : ((!s0)) = false) (h2 : ((decide (lba ≥ (0 : Int)))) = true) (h2p : (lba ≥ (0 : Int))) (h3 : ((!(decide (lba ≤ (64 : Int))))) = false) (h4 : ((decide (n ≥ (0 : Int)))) = true) (h4p : (n ≥ (0 : Int))) (h5 : ((!(decide (n ≤ (64 : Int))))) = false) (h6 : ((decide ((imax x.lba lba) ≥ (imin (wr (x.lba + x.len)) (wr (lba + n)))))) = false) (h6p : ¬ ((imax x.lba lba) ≥ (imin (wr (x.lba + x.len)) (wr (lba + n))))) (h7 : ((x.kind == (2 : Int))) = false) (h7p : ¬ (x.kind = (2 : Int))) : eCut_G x lba n (((Ex.mk (imax x.lba lba) (wr ((imin (wr (x.lba + x.len)) (wr (lba + n))) - (imax x.lba lba))) x.kind x.gen ([] : List UInt8)), Bool.true)) :=
  leafR vw_eq (k := 300) (r := []) (hs := hz [(4, [.cells ((xc x))]), (1, [.fres (.b (s0))]), (2, [.no]), (1, [.no]), (7, [.yes]), (1, [.yes]), (1, [.yes]), (1, [.yes]), (1, [.no]), (1, [.no]), (1, [.no]), (1, [.no]), (7, [.yes]), (1, [.yes]), (1, [.yes]), (1, [.yes]), (1, [.no]), (1, [.no, .no]), (18, [.yes]), (3, [.no]), (6, [.cells ([(AV.i x.lba), (AV.i x.len), (AV.i x.kind), (AV.i x.gen), AV.nl])]), (4, [.no]), (6, [.cells ([(AV.i (imax x.lba lba)), (AV.i x.len), (AV.i x.kind), (AV.i x.gen), AV.nl])]), (2, [.cells ([(AV.i (imax x.lba lba)), (AV.i (wr ((imin (wr (x.lba + x.len)) (wr (lba + n))) - (imax x.lba lba)))), (AV.i x.kind), (AV.i x.gen), AV.nl])]), (1, [.cells ([(AV.i (imax x.lba lba)), (AV.i (wr ((imin (wr (x.lba + x.len)) (wr (lba + n))) - (imax x.lba lba)))), (AV.i x.kind), (AV.i x.gen), AV.nl])]), (1, [.cells ([(AV.i (imax x.lba lba)), (AV.i (wr ((imin (wr (x.lba + x.len)) (wr (lba + n))) - (imax x.lba lba)))), (AV.i x.kind), (AV.i x.gen), AV.nl])]), (2, [.cells ([(AV.i (imax x.lba lba)), (AV.i (wr ((imin (wr (x.lba + x.len)) (wr (lba + n))) - (imax x.lba lba)))), (AV.i x.kind), (AV.i x.gen), AV.nl])])]) (raw := (AV.tu [(AV.ag [(AV.i (imax x.lba lba)), (AV.i (wr ((imin (wr (x.lba + x.len)) (wr (lba + n))) - (imax x.lba lba)))), (AV.i x.kind), (AV.i x.gen), (AV.sl 0 ([] : List AV))]), (AV.b Bool.true)])) kq (ac (Eq.refl ((xc x) : List AV)) (ac (eCheck_ok (x) _ h0).any0 (ac h1 (ac h1 (ac h2 (ac h2 (ac h2 (ac h2 (ac h1 (ac h1 (ac h3 (ac h3 (ac h4 (ac h4 (ac h4 (ac h4 (ac h3 (ac h3 (ac h5 (ac (show orderOk (rg Try.prog 49 0) = true ∧ allOk (Region.before (rg Try.prog 49 0)) [] 0 [(some [], some []), (some [0], some []), (some [], some []), (some [], some []), (some [], some []), (some [0], some []), (some [], some []), (some [0], some []), (some [], some []), (some [], some []), (some [], some []), (some [], some []), (some [], some []), (some [], some []), (some [], some [])] = true from (ord_of ord_49_0 bef_49_0 kq)) (ac h6 (ac (Eq.refl ([(AV.i x.lba), (AV.i x.len), (AV.i x.kind), (AV.i x.gen), AV.nl] : List AV)) (ac h7 (ac (Eq.refl ([(AV.i (imax x.lba lba)), (AV.i x.len), (AV.i x.kind), (AV.i x.gen), AV.nl] : List AV)) (ac (Eq.refl ([(AV.i (imax x.lba lba)), (AV.i (wr ((imin (wr (x.lba + x.len)) (wr (lba + n))) - (imax x.lba lba)))), (AV.i x.kind), (AV.i x.gen), AV.nl] : List AV)) (ac (Eq.refl ([(AV.i (imax x.lba lba)), (AV.i (wr ((imin (wr (x.lba + x.len)) (wr (lba + n))) - (imax x.lba lba)))), (AV.i x.kind), (AV.i x.gen), AV.nl] : List AV)) (ac (Eq.refl ([(AV.i (imax x.lba lba)), (AV.i (wr ((imin (wr (x.lba + x.len)) (wr (lba + n))) - (imax x.lba lba)))), (AV.i x.kind), (AV.i x.gen), AV.nl] : List AV)) (ac (Eq.refl ([(AV.i (imax x.lba lba)), (AV.i (wr ((imin (wr (x.lba + x.len)) (wr (lba + n))) - (imax x.lba lba)))), (AV.i x.kind), (AV.i x.gen), AV.nl] : List AV)) an)))))))))))))))))))))))))))) tq
theorem eCut_l6 (x : Ex) (lba : Int) (n : Int) (s0 : Bool) (h0 : eCheck (x) = some s0) (h1 : ((!s0)) = false) (h2 : ((decide (lba ≥ (0 : Int)))) = true) (h2p : (lba ≥ (0 : Int))) (h3 : ((!(decide (lba ≤ (64 : Int))))) = false) (h4 : ((decide (n ≥ (0 : Int)))) = false) (h4p : ¬ (n ≥ (0 : Int))) : eCut_G x lba n (((Ex.mk 0 0 0 0 ([] : List UInt8)), Bool.false)) :=
  leafR vw_eq (k := 300) (r := []) (hs := hz [(4, [.cells ((xc x))]), (1, [.fres (.b (s0))]), (2, [.no]), (1, [.no]), (7, [.yes]), (1, [.yes]), (1, [.yes]), (1, [.yes]), (1, [.no]), (1, [.no]), (1, [.no]), (1, [.no]), (7, [.no, .no, .no, .no]), (1, [.no]), (1, [.no]), (3, [.cells ([(AV.i 0), (AV.i 0), (AV.i 0), (AV.i 0), AV.nl])]), (2, [.cells ([(AV.i 0), (AV.i 0), (AV.i 0), (AV.i 0), AV.nl])])]) (raw := (AV.tu [(AV.ag [(AV.i 0), (AV.i 0), (AV.i 0), (AV.i 0), (AV.sl 0 ([] : List AV))]), (AV.b Bool.false)])) kq (ac (Eq.refl ((xc x) : List AV)) (ac (eCheck_ok (x) _ h0).any0 (ac h1 (ac h1 (ac h2 (ac h2 (ac h2 (ac h2 (ac h1 (ac h1 (ac h3 (ac h3 (ac h4 (ac h4 (ac h4 (ac h4 (ac h3 (ac h3 (ac (Eq.refl ([(AV.i 0), (AV.i 0), (AV.i 0), (AV.i 0), AV.nl] : List AV)) (ac (Eq.refl ([(AV.i 0), (AV.i 0), (AV.i 0), (AV.i 0), AV.nl] : List AV)) an)))))))))))))))))))) tq
theorem eCut_l7 (x : Ex) (lba : Int) (n : Int) (s0 : Bool) (h0 : eCheck (x) = some s0) (h1 : ((!s0)) = false) (h2 : ((decide (lba ≥ (0 : Int)))) = false) (h2p : ¬ (lba ≥ (0 : Int))) : eCut_G x lba n (((Ex.mk 0 0 0 0 ([] : List UInt8)), Bool.false)) :=
  leafR vw_eq (k := 300) (r := []) (hs := hz [(4, [.cells ((xc x))]), (1, [.fres (.b (s0))]), (2, [.no]), (1, [.no]), (7, [.no, .no, .no, .no]), (1, [.no]), (1, [.no]), (8, [.cells ([(AV.i 0), (AV.i 0), (AV.i 0), (AV.i 0), AV.nl])]), (2, [.cells ([(AV.i 0), (AV.i 0), (AV.i 0), (AV.i 0), AV.nl])])]) (raw := (AV.tu [(AV.ag [(AV.i 0), (AV.i 0), (AV.i 0), (AV.i 0), (AV.sl 0 ([] : List AV))]), (AV.b Bool.false)])) kq (ac (Eq.refl ((xc x) : List AV)) (ac (eCheck_ok (x) _ h0).any0 (ac h1 (ac h1 (ac h2 (ac h2 (ac h2 (ac h2 (ac h1 (ac h1 (ac (Eq.refl ([(AV.i 0), (AV.i 0), (AV.i 0), (AV.i 0), AV.nl] : List AV)) (ac (Eq.refl ([(AV.i 0), (AV.i 0), (AV.i 0), (AV.i 0), AV.nl] : List AV)) an)))))))))))) tq
theorem eCut_ok (x : Ex) (lba : Int) (n : Int) (r : Ex × Bool) : eCut x lba n = some r → eCut_G x lba n r := by
  unfold eCut
  refine tc_ok (fun s0 h0 => ?_)
  refine tb_ok (fun h1 => ?_) (fun h1 => ?_)
  ·
    exact fun e => tl_ok (G := eCut_G x lba n) (eCut_l0 x lba n s0 h0 h1) e
  ·
    refine tb_ok (fun h2 => ?_) (fun h2 => ?_)
    ·
      have h2p := of_decide_eq_true h2
      refine tb_ok (fun h3 => ?_) (fun h3 => ?_)
      ·
        exact fun e => tl_ok (G := eCut_G x lba n) (eCut_l1 x lba n s0 h0 h1 h2 h2p h3) e
      ·
        refine tb_ok (fun h4 => ?_) (fun h4 => ?_)
        ·
          have h4p := of_decide_eq_true h4
          refine tb_ok (fun h5 => ?_) (fun h5 => ?_)
          ·
            exact fun e => tl_ok (G := eCut_G x lba n) (eCut_l2 x lba n s0 h0 h1 h2 h2p h3 h4 h4p h5) e
          ·
            refine tb_ok (fun h6 => ?_) (fun h6 => ?_)
            ·
              have h6p := of_decide_eq_true h6
              exact fun e => tl_ok (G := eCut_G x lba n) (eCut_l3 x lba n s0 h0 h1 h2 h2p h3 h4 h4p h5 h6 h6p) e
            ·
              have h6p := of_decide_eq_false h6
              refine tb_ok (fun h7 => ?_) (fun h7 => ?_)
              ·
                have h7p := eq_of_beq h7
                refine tp_ok (fun h8 => ?_)
                refine tp_ok (fun h9 => ?_)
                refine tp_ok (fun h10 => ?_)
                refine tp_ok (fun h11 => ?_)
                exact fun e => tl_ok (G := eCut_G x lba n) (eCut_l4 x lba n s0 h0 h1 h2 h2p h3 h4 h4p h5 h6 h6p h7 h7p h8 h9 h10 h11) e
              ·
                have h7p := ne_of_beq_false h7
                exact fun e => tl_ok (G := eCut_G x lba n) (eCut_l5 x lba n s0 h0 h1 h2 h2p h3 h4 h4p h5 h6 h6p h7 h7p) e
        ·
          have h4p := of_decide_eq_false h4
          exact fun e => tl_ok (G := eCut_G x lba n) (eCut_l6 x lba n s0 h0 h1 h2 h2p h3 h4 h4p) e
    ·
      have h2p := of_decide_eq_false h2
      exact fun e => tl_ok (G := eCut_G x lba n) (eCut_l7 x lba n s0 h0 h1 h2 h2p) e
end Ab
end Go.Proofs.Ytiaelfmohamipaa
namespace Go.Proofs.Ytiaelfmohamipaa
open Go Go.Proofs.Ytiaelfmohamipaa.Ab
set_option linter.unusedVariables false
set_option linter.unusedSimpArgs false
set_option maxRecDepth 1000000
namespace Ab
noncomputable abbrev pLay_B1_I (lba : Int) (b : List UInt8) (s4 : Bool × Int × List UInt8 × List Ex × List UInt8 × Int) : St := (St.mk [(0, (AV.i lba)), (1, (bys b)), (2, (AV.pt 0 0)), (3, (AV.pt 1 0)), (4, (AV.pt 2 0)), (5, (AV.i 0)), (27, (AV.b (decide ((wr (Int.tdiv (↑(List.length b) : Int) (32 : Int))) > (wr ((64 : Int) - lba)))))), (29, (AV.fn (40 : Nat) [(AV.pt 3 0)])), (30, (AV.ag [(AV.b s4.1), (AV.i s4.2.1)])), (6, (AV.pt 7 0))] 61 (AH.mk 8 [(7, (AObj.cells [(AV.b s4.1), (AV.i s4.2.1)])), (5, (AObj.cells [(AV.b s4.1), (AV.i s4.2.1)])), (4, (AObj.loop Go.LoopState.busy Option.none [(0, (AV.i lba)), (1, (bys b)), (2, (AV.pt 0 0)), (3, (AV.pt 1 0)), (4, (AV.pt 2 0)), (5, (AV.i 0)), (27, (AV.b (decide ((wr (Int.tdiv (↑(List.length b) : Int) (32 : Int))) > (wr ((64 : Int) - lba)))))), (29, (AV.fn (40 : Nat) [(AV.pt 3 0)]))] 61 [(30 : Nat)] (rfA Try.prog 11 0) (rfB Try.prog 11 0))), (3, (AObj.cells [(bys s4.2.2.1)])), (2, (AObj.cells [(AV.rf 6 5 0 (List.length s4.2.2.2.1))])), (1, (AObj.cells [(bys s4.2.2.2.2.1)])), (0, (AObj.cells [(AV.i s4.2.2.2.2.2)])), (6, (AObj.cells (List.flatMap Ex.cells s4.2.2.2.1)))]) Bool.true)
noncomputable abbrev pLay_B1_S (lba : Int) (b : List UInt8) (s4 : Bool × Int × List UInt8 × List Ex × List UInt8 × Int) (s8 : List Ex × List UInt8 × Int) : St := (St.mk [(0, (AV.i lba)), (1, (bys b)), (2, (AV.pt 0 0)), (3, (AV.pt 1 0)), (4, (AV.pt 2 0)), (5, (AV.i 0)), (27, (AV.b (decide ((wr (Int.tdiv (↑(List.length b) : Int) (32 : Int))) > (wr ((64 : Int) - lba)))))), (29, (AV.fn (40 : Nat) [(AV.pt 3 0)])), (30, (AV.ag [(AV.b s4.1), (AV.i s4.2.1)])), (6, (AV.pt 7 0))] 61 (AH.mk 9 [(7, (AObj.cells [(AV.b s4.1), (AV.i s4.2.1)])), (5, (AObj.cells [(AV.b s4.1), (AV.i s4.2.1)])), (4, (AObj.loop Go.LoopState.busy Option.none [(0, (AV.i lba)), (1, (bys b)), (2, (AV.pt 0 0)), (3, (AV.pt 1 0)), (4, (AV.pt 2 0)), (5, (AV.i 0)), (27, (AV.b (decide ((wr (Int.tdiv (↑(List.length b) : Int) (32 : Int))) > (wr ((64 : Int) - lba)))))), (29, (AV.fn (40 : Nat) [(AV.pt 3 0)]))] 61 [(30 : Nat)] (rfA Try.prog 11 0) (rfB Try.prog 11 0))), (3, (AObj.cells [(bys s4.2.2.1)])), (2, (AObj.cells [(AV.rf 8 5 0 (List.length s8.1))])), (1, (AObj.cells [(bys s8.2.1)])), (0, (AObj.cells [(AV.i s8.2.2)])), (8, (AObj.cells (List.flatMap Ex.cells s8.1)))]) Bool.true)
noncomputable def pLay_B1 (lba : Int) (b : List UInt8) (s4 : Bool × Int × List UInt8 × List Ex × List UInt8 × Int) : Option (List Ex × List UInt8 × Int) :=
 (tb ((!s4.1))
  (tp (((0 : Int) ≤ (wr (s4.2.1 * (32 : Int)))))
   (tp ((((0 : Nat) ≤ (Int.toNat (wr (s4.2.1 * (32 : Int))))) ∧ (((Int.toNat (wr (s4.2.1 * (32 : Int)))) ≤ (List.length s4.2.2.2.2.1)) ∧ ((List.length (List.map AV.y s4.2.2.2.2.1)) = ((List.length s4.2.2.2.2.1) * (1 : Nat))))))
    (tp ((((Int.toNat (wr (s4.2.1 * (32 : Int)))) - (0 : Nat)) ≤ (4294967296 : Nat)))
     (tp ((((List.length (List.flatMap Ex.cells s4.2.2.2.1)) = ((List.length s4.2.2.2.1) * (5 : Nat))) ∧ (((List.length s4.2.2.2.1) + (1 : Nat)) ≤ (4294967296 : Nat))))
      (some (((s4.2.2.2.1 ++ [(Ex.mk s4.2.2.2.2.2 s4.2.1 2 0 (List.take (((Int.toNat (wr (s4.2.1 * (32 : Int)))) - (0 : Nat)) * (1 : Nat)) (List.take (((Int.toNat (wr (s4.2.1 * (32 : Int)))) - (0 : Nat)) * (1 : Nat)) s4.2.2.2.2.1)))]), ((List.take (((List.length s4.2.2.2.2.1) - (Int.toNat (wr (s4.2.1 * (32 : Int))))) * (1 : Nat)) (List.drop ((Int.toNat (wr (s4.2.1 * (32 : Int)))) * (1 : Nat)) s4.2.2.2.2.1)), (wr (s4.2.2.2.2.2 + s4.2.1))))))))))
  (tp ((((List.length (List.flatMap Ex.cells s4.2.2.2.1)) = ((List.length s4.2.2.2.1) * (5 : Nat))) ∧ (((List.length s4.2.2.2.1) + (1 : Nat)) ≤ (4294967296 : Nat))))
   (tp (((0 : Int) ≤ (wr (s4.2.1 * (32 : Int)))))
    (tp ((((Int.toNat (wr (s4.2.1 * (32 : Int)))) ≤ (List.length s4.2.2.2.2.1)) ∧ (((List.length s4.2.2.2.2.1) ≤ (List.length s4.2.2.2.2.1)) ∧ ((List.length (List.map AV.y s4.2.2.2.2.1)) = ((List.length s4.2.2.2.2.1) * (1 : Nat))))))
     (some (((s4.2.2.2.1 ++ [(Ex.mk s4.2.2.2.2.2 s4.2.1 1 0 ([] : List UInt8))]), ((List.take (((List.length s4.2.2.2.2.1) - (Int.toNat (wr (s4.2.1 * (32 : Int))))) * (1 : Nat)) (List.drop ((Int.toNat (wr (s4.2.1 * (32 : Int)))) * (1 : Nat)) s4.2.2.2.2.1)), (wr (s4.2.2.2.2.2 + s4.2.1))))))))))
theorem pLay_B1_s0 (lba : Int) (b : List UInt8) (s4 : Bool × Int × List UInt8 × List Ex × List UInt8 × Int) (h9 : ((!s4.1)) = true) (h10 : ((0 : Int) ≤ (wr (s4.2.1 * (32 : Int))))) (h11 : (((0 : Nat) ≤ (Int.toNat (wr (s4.2.1 * (32 : Int))))) ∧ (((Int.toNat (wr (s4.2.1 * (32 : Int)))) ≤ (List.length s4.2.2.2.2.1)) ∧ ((List.length (List.map AV.y s4.2.2.2.2.1)) = ((List.length s4.2.2.2.2.1) * (1 : Nat)))))) (h12 : (((Int.toNat (wr (s4.2.1 * (32 : Int)))) - (0 : Nat)) ≤ (4294967296 : Nat))) (h13 : (((List.length (List.flatMap Ex.cells s4.2.2.2.1)) = ((List.length s4.2.2.2.1) * (5 : Nat))) ∧ (((List.length s4.2.2.2.1) + (1 : Nat)) ≤ (4294967296 : Nat)))) : EvStep Try.prog cf 8 ((rfB Try.prog 11 0)) (pLay_B1_I lba b s4) (pLay_B1_S lba b s4 (((s4.2.2.2.1 ++ [(Ex.mk s4.2.2.2.2.2 s4.2.1 2 0 (List.take (((Int.toNat (wr (s4.2.1 * (32 : Int)))) - (0 : Nat)) * (1 : Nat)) (List.take (((Int.toNat (wr (s4.2.1 * (32 : Int)))) - (0 : Nat)) * (1 : Nat)) s4.2.2.2.2.1)))]), ((List.take (((List.length s4.2.2.2.2.1) - (Int.toNat (wr (s4.2.1 * (32 : Int))))) * (1 : Nat)) (List.drop ((Int.toNat (wr (s4.2.1 * (32 : Int)))) * (1 : Nat)) s4.2.2.2.2.1)), (wr (s4.2.2.2.2.2 + s4.2.1)))))) :=
  leafS vw_eq (k := 300) (r := []) (hs := hz [(8, [.cells ([(AV.i s4.2.2.2.2.2), (AV.i s4.2.1), (AV.i 1), (AV.i 0), AV.nl])]), (4, [.yes]), (7, [.yes, .yes, .yes, .yes]), (2, [.cells ([(AV.i s4.2.2.2.2.2), (AV.i s4.2.1), (AV.i 2), (AV.i 0), AV.nl])]), (2, [.cells ([(AV.i s4.2.2.2.2.2), (AV.i s4.2.1), (AV.i 2), (AV.i 0), (AV.rf 9 1 0 ((Int.toNat (wr (s4.2.1 * (32 : Int)))) - (0 : Nat)))])]), (3, [.cells ([(AV.i s4.2.2.2.2.2), (AV.i s4.2.1), (AV.i 2), (AV.i 0), (AV.rf 9 1 0 ((Int.toNat (wr (s4.2.1 * (32 : Int)))) - (0 : Nat)))])]), (1, [.cells ([(AV.i s4.2.2.2.2.2), (AV.i s4.2.1), (AV.i 2), (AV.i 0), (AV.rf 9 1 0 ((Int.toNat (wr (s4.2.1 * (32 : Int)))) - (0 : Nat)))]), .cells ([(AV.i s4.2.2.2.2.2), (AV.i s4.2.1), (AV.i 2), (AV.i 0), (AV.rf 9 1 0 ((Int.toNat (wr (s4.2.1 * (32 : Int)))) - (0 : Nat)))]), .yes, .yes]), (1, [.cells ([(AV.rf 11 5 0 ((List.length s4.2.2.2.1) + (1 : Nat)))])]), (12, [.yes, .yes]), (1, [.cells ([(AV.i (wr (s4.2.2.2.2.2 + s4.2.1)))])]), (1, [.cells ([(AV.sl ((List.length s4.2.2.2.2.1) - (Int.toNat (wr (s4.2.1 * (32 : Int))))) (List.take (((List.length s4.2.2.2.2.1) - (Int.toNat (wr (s4.2.1 * (32 : Int))))) * (1 : Nat)) (List.drop ((Int.toNat (wr (s4.2.1 * (32 : Int)))) * (1 : Nat)) (List.map AV.y s4.2.2.2.2.1))))]), .yes])]) (st1 := (St.mk [(0, (AV.i lba)), (1, (bys b)), (2, (AV.pt 0 0)), (3, (AV.pt 1 0)), (4, (AV.pt 2 0)), (5, (AV.i 0)), (27, (AV.b (decide ((wr (Int.tdiv (↑(List.length b) : Int) (32 : Int))) > (wr ((64 : Int) - lba)))))), (29, (AV.fn (40 : Nat) [(AV.pt 3 0)])), (30, (AV.ag [(AV.b s4.1), (AV.i s4.2.1)])), (6, (AV.pt 7 0)), (31, (AV.i s4.2.2.2.2.2)), (32, (AV.pt 7 1)), (33, (AV.i s4.2.1)), (34, (AV.ag [(AV.i s4.2.2.2.2.2), (AV.i s4.2.1), (AV.i 1), (AV.i 0), AV.nl])), (7, (AV.pt 8 0)), (35, (AV.pt 7 0)), (36, (AV.b s4.1)), (37, (AV.b (!s4.1))), (38, AV.nl), (39, (bys s4.2.2.2.2.1)), (40, (AV.pt 7 1)), (41, (AV.i s4.2.1)), (42, (AV.i (wr (s4.2.1 * (32 : Int))))), (43, (AV.sl ((Int.toNat (wr (s4.2.1 * (32 : Int)))) - (0 : Nat)) (List.take (((Int.toNat (wr (s4.2.1 * (32 : Int)))) - (0 : Nat)) * (1 : Nat)) (List.map AV.y s4.2.2.2.2.1)))), (44, (AV.rf 9 1 0 ((Int.toNat (wr (s4.2.1 * (32 : Int)))) - (0 : Nat)))), (45, (AV.pt 8 2)), (46, (AV.pt 8 4)), (47, (AV.rf 6 5 0 (List.length s4.2.2.2.1))), (48, (AV.ag [(AV.i s4.2.2.2.2.2), (AV.i s4.2.1), (AV.i 2), (AV.i 0), (AV.rf 9 1 0 ((Int.toNat (wr (s4.2.1 * (32 : Int)))) - (0 : Nat)))])), (49, (AV.rf 10 5 0 1)), (50, (AV.rf 11 5 0 ((List.length s4.2.2.2.1) + (1 : Nat)))), (51, (AV.i s4.2.2.2.2.2)), (52, (AV.pt 7 1)), (53, (AV.i s4.2.1)), (54, (AV.i (wr (s4.2.2.2.2.2 + s4.2.1)))), (55, (bys s4.2.2.2.2.1)), (56, (AV.pt 7 1)), (57, (AV.i s4.2.1)), (58, (AV.i (wr (s4.2.1 * (32 : Int))))), (59, (AV.sl ((List.length s4.2.2.2.2.1) - (Int.toNat (wr (s4.2.1 * (32 : Int))))) (List.take (((List.length s4.2.2.2.2.1) - (Int.toNat (wr (s4.2.1 * (32 : Int))))) * (1 : Nat)) (List.drop ((Int.toNat (wr (s4.2.1 * (32 : Int)))) * (1 : Nat)) (List.map AV.y s4.2.2.2.2.1)))))] 61 (AH.mk 12 [(11, (AObj.cells ((List.flatMap Ex.cells s4.2.2.2.1) ++ [(AV.i s4.2.2.2.2.2), (AV.i s4.2.1), (AV.i 2), (AV.i 0), (AV.rf 9 1 0 ((Int.toNat (wr (s4.2.1 * (32 : Int)))) - (0 : Nat)))]))), (10, (AObj.cells [(AV.i s4.2.2.2.2.2), (AV.i s4.2.1), (AV.i 2), (AV.i 0), (AV.rf 9 1 0 ((Int.toNat (wr (s4.2.1 * (32 : Int)))) - (0 : Nat)))])), (9, (AObj.cells (List.take (((Int.toNat (wr (s4.2.1 * (32 : Int)))) - (0 : Nat)) * (1 : Nat)) (List.map AV.y s4.2.2.2.2.1)))), (8, (AObj.cells [(AV.i s4.2.2.2.2.2), (AV.i s4.2.1), (AV.i 2), (AV.i 0), (AV.rf 9 1 0 ((Int.toNat (wr (s4.2.1 * (32 : Int)))) - (0 : Nat)))])), (7, (AObj.cells [(AV.b s4.1), (AV.i s4.2.1)])), (5, (AObj.cells [(AV.b s4.1), (AV.i s4.2.1)])), (4, (AObj.loop Go.LoopState.busy Option.none [(0, (AV.i lba)), (1, (bys b)), (2, (AV.pt 0 0)), (3, (AV.pt 1 0)), (4, (AV.pt 2 0)), (5, (AV.i 0)), (27, (AV.b (decide ((wr (Int.tdiv (↑(List.length b) : Int) (32 : Int))) > (wr ((64 : Int) - lba)))))), (29, (AV.fn (40 : Nat) [(AV.pt 3 0)]))] 61 [(30 : Nat)] (rfA Try.prog 11 0) (rfB Try.prog 11 0))), (3, (AObj.cells [(bys s4.2.2.1)])), (2, (AObj.cells [(AV.rf 11 5 0 ((List.length s4.2.2.2.1) + (1 : Nat)))])), (1, (AObj.cells [(AV.sl ((List.length s4.2.2.2.2.1) - (Int.toNat (wr (s4.2.1 * (32 : Int))))) (List.take (((List.length s4.2.2.2.2.1) - (Int.toNat (wr (s4.2.1 * (32 : Int))))) * (1 : Nat)) (List.drop ((Int.toNat (wr (s4.2.1 * (32 : Int)))) * (1 : Nat)) (List.map AV.y s4.2.2.2.2.1))))])), (0, (AObj.cells [(AV.i (wr (s4.2.2.2.2.2 + s4.2.1)))])), (6, AObj.dead)]) Bool.true)) kq (ac (Eq.refl ([(AV.i s4.2.2.2.2.2), (AV.i s4.2.1), (AV.i 1), (AV.i 0), AV.nl] : List AV)) (ac h9 (ac h10 (ac h11 (ac (fq (p := ((List.length (List.take (((Int.toNat (wr (s4.2.1 * (32 : Int)))) - (0 : Nat)) * (1 : Nat)) (List.map AV.y s4.2.2.2.2.1))) = (((Int.toNat (wr (s4.2.1 * (32 : Int)))) - (0 : Nat)) * (1 : Nat))))) (ac h12 (ac (Eq.refl ([(AV.i s4.2.2.2.2.2), (AV.i s4.2.1), (AV.i 2), (AV.i 0), AV.nl] : List AV)) (ac (Eq.refl ([(AV.i s4.2.2.2.2.2), (AV.i s4.2.1), (AV.i 2), (AV.i 0), (AV.rf 9 1 0 ((Int.toNat (wr (s4.2.1 * (32 : Int)))) - (0 : Nat)))] : List AV)) (ac (Eq.refl ([(AV.i s4.2.2.2.2.2), (AV.i s4.2.1), (AV.i 2), (AV.i 0), (AV.rf 9 1 0 ((Int.toNat (wr (s4.2.1 * (32 : Int)))) - (0 : Nat)))] : List AV)) (ac (Eq.refl ([(AV.i s4.2.2.2.2.2), (AV.i s4.2.1), (AV.i 2), (AV.i 0), (AV.rf 9 1 0 ((Int.toNat (wr (s4.2.1 * (32 : Int)))) - (0 : Nat)))] : List AV)) (ac (Eq.refl ([(AV.i s4.2.2.2.2.2), (AV.i s4.2.1), (AV.i 2), (AV.i 0), (AV.rf 9 1 0 ((Int.toNat (wr (s4.2.1 * (32 : Int)))) - (0 : Nat)))] : List AV)) (ac (tq (p := (((0 : Nat) = (0 : Nat)) ∧ ((List.length [(AV.i s4.2.2.2.2.2), (AV.i s4.2.1), (AV.i 2), (AV.i 0), (AV.rf 9 1 0 ((Int.toNat (wr (s4.2.1 * (32 : Int)))) - (0 : Nat)))]) = (5 : Nat))))) (ac h13 (ac (Eq.refl ([(AV.rf 11 5 0 ((List.length s4.2.2.2.1) + (1 : Nat)))] : List AV)) (ac h10 (ac (fq (p := (((Int.toNat (wr (s4.2.1 * (32 : Int)))) ≤ (List.length s4.2.2.2.2.1)) ∧ (((List.length s4.2.2.2.2.1) ≤ (List.length s4.2.2.2.2.1)) ∧ ((List.length (List.map AV.y s4.2.2.2.2.1)) = ((List.length s4.2.2.2.2.1) * (1 : Nat))))))) (ac (Eq.refl ([(AV.i (wr (s4.2.2.2.2.2 + s4.2.1)))] : List AV)) (ac (Eq.refl ([(AV.sl ((List.length s4.2.2.2.2.1) - (Int.toNat (wr (s4.2.1 * (32 : Int))))) (List.take (((List.length s4.2.2.2.2.1) - (Int.toNat (wr (s4.2.1 * (32 : Int))))) * (1 : Nat)) (List.drop ((Int.toNat (wr (s4.2.1 * (32 : Int)))) * (1 : Nat)) (List.map AV.y s4.2.2.2.2.1))))] : List AV)) (ac (show orderOk (rg Try.prog 11 0) = true ∧ allOk (Region.before (rg Try.prog 11 0)) [] 0 [(some [0], some []), (some [], some []), (some [7], some []), (some [], some []), (some [1], some []), (some [], some []), (some [7], some []), (some [], some []), (some [], some []), (some [0], some [0]), (some [1], some [1])] = true from (ord_of ord_11_0 bef_11_0 kq)) an))))))))))))))))))) (Nat.le_of_ble_eq_true rfl) (absB_of [11] [9] kq (.consn kq (.eqv tq rfl) (.consn kq (.eqv tq rfl) (.consn kq (.pt rfl) (.consn kq (.pt rfl) (.consn kq (.pt rfl) (.consn kq (.eqv tq rfl) (.consn kq (.eqv tq rfl) (.consn kq (.fn (.cons (.pt rfl) .nil)) (.consn kq (.agp pq) (.consn kq (.pt rfl) .nil)))))))))) (.cons (.old rfl rfl (.cells (.pl rfl pq))) (.cons (.old rfl rfl (.cells (.pl rfl pq))) (.cons (.old rfl rfl (.loop (.consn kq (.eqv tq rfl) (.consn kq (.eqv tq rfl) (.consn kq (.pt rfl) (.consn kq (.pt rfl) (.consn kq (.pt rfl) (.consn kq (.eqv tq rfl) (.consn kq (.eqv tq rfl) (.consn kq (.fn (.cons (.pt rfl) .nil)) .nil)))))))))) (.cons (.old rfl rfl (.cells (.cons (.eqv tq rfl) .nil))) (.cons (.old rfl rfl (.cells (.cons (.rfn (n := ((List.length s4.2.2.2.1) + (1 : Nat))) rfl tq) .nil))) (.cons (.old rfl rfl (.cells (.cons (.eqv tq rfl) .nil))) (.cons (.old rfl rfl (.cells (.cons (.eqv tq rfl) .nil))) (.cons (.old rfl rfl (.cells (.cast rfl tq (.app (.pl rfl pq) (.cons (.eqv rfl rfl) (.cons (.eqv rfl rfl) (.cons (.eqv rfl rfl) (.cons (.eqv rfl rfl) (.cons (.frzn rfl tq pq (by simp) rfl) .nil))))))))) .nil)))))))))
theorem pLay_B1_s1 (lba : Int) (b : List UInt8) (s4 : Bool × Int × List UInt8 × List Ex × List UInt8 × Int) (h9 : ((!s4.1)) = false) (h10 : (((List.length (List.flatMap Ex.cells s4.2.2.2.1)) = ((List.length s4.2.2.2.1) * (5 : Nat))) ∧ (((List.length s4.2.2.2.1) + (1 : Nat)) ≤ (4294967296 : Nat)))) (h11 : ((0 : Int) ≤ (wr (s4.2.1 * (32 : Int))))) (h12 : (((Int.toNat (wr (s4.2.1 * (32 : Int)))) ≤ (List.length s4.2.2.2.2.1)) ∧ (((List.length s4.2.2.2.2.1) ≤ (List.length s4.2.2.2.2.1)) ∧ ((List.length (List.map AV.y s4.2.2.2.2.1)) = ((List.length s4.2.2.2.2.1) * (1 : Nat)))))) : EvStep Try.prog cf 8 ((rfB Try.prog 11 0)) (pLay_B1_I lba b s4) (pLay_B1_S lba b s4 (((s4.2.2.2.1 ++ [(Ex.mk s4.2.2.2.2.2 s4.2.1 1 0 ([] : List UInt8))]), ((List.take (((List.length s4.2.2.2.2.1) - (Int.toNat (wr (s4.2.1 * (32 : Int))))) * (1 : Nat)) (List.drop ((Int.toNat (wr (s4.2.1 * (32 : Int)))) * (1 : Nat)) s4.2.2.2.2.1)), (wr (s4.2.2.2.2.2 + s4.2.1)))))) :=
  leafS vw_eq (k := 300) (r := []) (hs := hz [(8, [.cells ([(AV.i s4.2.2.2.2.2), (AV.i s4.2.1), (AV.i 1), (AV.i 0), AV.nl])]), (4, [.no]), (3, [.cells ([(AV.i s4.2.2.2.2.2), (AV.i s4.2.1), (AV.i 1), (AV.i 0), AV.nl])]), (1, [.cells ([(AV.i s4.2.2.2.2.2), (AV.i s4.2.1), (AV.i 1), (AV.i 0), AV.nl]), .cells ([(AV.i s4.2.2.2.2.2), (AV.i s4.2.1), (AV.i 1), (AV.i 0), AV.nl]), .yes, .yes]), (1, [.cells ([(AV.rf 10 5 0 ((List.length s4.2.2.2.1) + (1 : Nat)))])]), (12, [.yes, .yes]), (1, [.cells ([(AV.i (wr (s4.2.2.2.2.2 + s4.2.1)))])]), (1, [.cells ([(AV.sl ((List.length s4.2.2.2.2.1) - (Int.toNat (wr (s4.2.1 * (32 : Int))))) (List.take (((List.length s4.2.2.2.2.1) - (Int.toNat (wr (s4.2.1 * (32 : Int))))) * (1 : Nat)) (List.drop ((Int.toNat (wr (s4.2.1 * (32 : Int)))) * (1 : Nat)) (List.map AV.y s4.2.2.2.2.1))))]), .yes])]) (st1 := (St.mk [(0, (AV.i lba)), (1, (bys b)), (2, (AV.pt 0 0)), (3, (AV.pt 1 0)), (4, (AV.pt 2 0)), (5, (AV.i 0)), (27, (AV.b (decide ((wr (Int.tdiv (↑(List.length b) : Int) (32 : Int))) > (wr ((64 : Int) - lba)))))), (29, (AV.fn (40 : Nat) [(AV.pt 3 0)])), (30, (AV.ag [(AV.b s4.1), (AV.i s4.2.1)])), (6, (AV.pt 7 0)), (31, (AV.i s4.2.2.2.2.2)), (32, (AV.pt 7 1)), (33, (AV.i s4.2.1)), (34, (AV.ag [(AV.i s4.2.2.2.2.2), (AV.i s4.2.1), (AV.i 1), (AV.i 0), AV.nl])), (7, (AV.pt 8 0)), (35, (AV.pt 7 0)), (36, (AV.b s4.1)), (37, (AV.b (!s4.1))), (47, (AV.rf 6 5 0 (List.length s4.2.2.2.1))), (48, (AV.ag [(AV.i s4.2.2.2.2.2), (AV.i s4.2.1), (AV.i 1), (AV.i 0), AV.nl])), (49, (AV.rf 9 5 0 1)), (50, (AV.rf 10 5 0 ((List.length s4.2.2.2.1) + (1 : Nat)))), (51, (AV.i s4.2.2.2.2.2)), (52, (AV.pt 7 1)), (53, (AV.i s4.2.1)), (54, (AV.i (wr (s4.2.2.2.2.2 + s4.2.1)))), (55, (bys s4.2.2.2.2.1)), (56, (AV.pt 7 1)), (57, (AV.i s4.2.1)), (58, (AV.i (wr (s4.2.1 * (32 : Int))))), (59, (AV.sl ((List.length s4.2.2.2.2.1) - (Int.toNat (wr (s4.2.1 * (32 : Int))))) (List.take (((List.length s4.2.2.2.2.1) - (Int.toNat (wr (s4.2.1 * (32 : Int))))) * (1 : Nat)) (List.drop ((Int.toNat (wr (s4.2.1 * (32 : Int)))) * (1 : Nat)) (List.map AV.y s4.2.2.2.2.1)))))] 61 (AH.mk 11 [(10, (AObj.cells ((List.flatMap Ex.cells s4.2.2.2.1) ++ [(AV.i s4.2.2.2.2.2), (AV.i s4.2.1), (AV.i (Int.ofNat 1)), (AV.i (Int.ofNat 0)), AV.nl]))), (9, (AObj.cells [(AV.i s4.2.2.2.2.2), (AV.i s4.2.1), (AV.i 1), (AV.i 0), AV.nl])), (8, (AObj.cells [(AV.i s4.2.2.2.2.2), (AV.i s4.2.1), (AV.i 1), (AV.i 0), AV.nl])), (7, (AObj.cells [(AV.b s4.1), (AV.i s4.2.1)])), (5, (AObj.cells [(AV.b s4.1), (AV.i s4.2.1)])), (4, (AObj.loop Go.LoopState.busy Option.none [(0, (AV.i lba)), (1, (bys b)), (2, (AV.pt 0 0)), (3, (AV.pt 1 0)), (4, (AV.pt 2 0)), (5, (AV.i 0)), (27, (AV.b (decide ((wr (Int.tdiv (↑(List.length b) : Int) (32 : Int))) > (wr ((64 : Int) - lba)))))), (29, (AV.fn (40 : Nat) [(AV.pt 3 0)]))] 61 [(30 : Nat)] (rfA Try.prog 11 0) (rfB Try.prog 11 0))), (3, (AObj.cells [(bys s4.2.2.1)])), (2, (AObj.cells [(AV.rf 10 5 0 ((List.length s4.2.2.2.1) + (1 : Nat)))])), (1, (AObj.cells [(AV.sl ((List.length s4.2.2.2.2.1) - (Int.toNat (wr (s4.2.1 * (32 : Int))))) (List.take (((List.length s4.2.2.2.2.1) - (Int.toNat (wr (s4.2.1 * (32 : Int))))) * (1 : Nat)) (List.drop ((Int.toNat (wr (s4.2.1 * (32 : Int)))) * (1 : Nat)) (List.map AV.y s4.2.2.2.2.1))))])), (0, (AObj.cells [(AV.i (wr (s4.2.2.2.2.2 + s4.2.1)))])), (6, AObj.dead)]) Bool.true)) kq (ac (Eq.refl ([(AV.i s4.2.2.2.2.2), (AV.i s4.2.1), (AV.i 1), (AV.i 0), AV.nl] : List AV)) (ac h9 (ac (Eq.refl ([(AV.i s4.2.2.2.2.2), (AV.i s4.2.1), (AV.i 1), (AV.i 0), AV.nl] : List AV)) (ac (Eq.refl ([(AV.i s4.2.2.2.2.2), (AV.i s4.2.1), (AV.i 1), (AV.i 0), AV.nl] : List AV)) (ac (Eq.refl ([(AV.i s4.2.2.2.2.2), (AV.i s4.2.1), (AV.i 1), (AV.i 0), AV.nl] : List AV)) (ac (tq (p := (((0 : Nat) = (0 : Nat)) ∧ ((List.length [(AV.i s4.2.2.2.2.2), (AV.i s4.2.1), (AV.i (Int.ofNat 1)), (AV.i (Int.ofNat 0)), AV.nl]) = (5 : Nat))))) (ac h10 (ac (Eq.refl ([(AV.rf 10 5 0 ((List.length s4.2.2.2.1) + (1 : Nat)))] : List AV)) (ac h11 (ac h12 (ac (Eq.refl ([(AV.i (wr (s4.2.2.2.2.2 + s4.2.1)))] : List AV)) (ac (Eq.refl ([(AV.sl ((List.length s4.2.2.2.2.1) - (Int.toNat (wr (s4.2.1 * (32 : Int))))) (List.take (((List.length s4.2.2.2.2.1) - (Int.toNat (wr (s4.2.1 * (32 : Int))))) * (1 : Nat)) (List.drop ((Int.toNat (wr (s4.2.1 * (32 : Int)))) * (1 : Nat)) (List.map AV.y s4.2.2.2.2.1))))] : List AV)) (ac (show orderOk (rg Try.prog 11 0) = true ∧ allOk (Region.before (rg Try.prog 11 0)) [] 0 [(some [0], some []), (some [], some []), (some [7], some []), (some [], some []), (some [1], some []), (some [], some []), (some [7], some []), (some [], some []), (some [], some []), (some [0], some [0]), (some [1], some [1])] = true from (ord_of ord_11_0 bef_11_0 kq)) an))))))))))))) (Nat.le_of_ble_eq_true rfl) (absB_of [10] [] kq (.consn kq (.eqv tq rfl) (.consn kq (.eqv tq rfl) (.consn kq (.pt rfl) (.consn kq (.pt rfl) (.consn kq (.pt rfl) (.consn kq (.eqv tq rfl) (.consn kq (.eqv tq rfl) (.consn kq (.fn (.cons (.pt rfl) .nil)) (.consn kq (.agp pq) (.consn kq (.pt rfl) .nil)))))))))) (.cons (.old rfl rfl (.cells (.pl rfl pq))) (.cons (.old rfl rfl (.cells (.pl rfl pq))) (.cons (.old rfl rfl (.loop (.consn kq (.eqv tq rfl) (.consn kq (.eqv tq rfl) (.consn kq (.pt rfl) (.consn kq (.pt rfl) (.consn kq (.pt rfl) (.consn kq (.eqv tq rfl) (.consn kq (.eqv tq rfl) (.consn kq (.fn (.cons (.pt rfl) .nil)) .nil)))))))))) (.cons (.old rfl rfl (.cells (.cons (.eqv tq rfl) .nil))) (.cons (.old rfl rfl (.cells (.cons (.rfn (n := ((List.length s4.2.2.2.1) + (1 : Nat))) rfl tq) .nil))) (.cons (.old rfl rfl (.cells (.cons (.eqv tq rfl) .nil))) (.cons (.old rfl rfl (.cells (.cons (.eqv tq rfl) .nil))) (.cons (.old rfl rfl (.cells (.cast rfl tq (.app (.pl rfl pq) (.cons (.eqv rfl rfl) (.cons (.eqv rfl rfl) (.cons (.eqv rfl rfl) (.cons (.eqv rfl rfl) (.cons (.pur 1 rfl (by simp)) .nil))))))))) .nil)))))))))
theorem pLay_B1_ok (lba : Int) (b : List UInt8) (s4 : Bool × Int × List UInt8 × List Ex × List UInt8 × Int) (zz : List Ex × List UInt8 × Int) : pLay_B1 lba b s4 = some zz → EvStep Try.prog cf 8 ((rfB Try.prog 11 0)) (pLay_B1_I lba b s4) (pLay_B1_S lba b s4 zz) := by
  unfold pLay_B1
  refine tb_ok (fun h9 => ?_) (fun h9 => ?_)
  ·
    refine tp_ok (fun h10 => ?_)
    refine tp_ok (fun h11 => ?_)
    refine tp_ok (fun h12 => ?_)
    refine tp_ok (fun h13 => ?_)
    exact fun e => tl_ok (G := (fun zz => EvStep Try.prog cf 8 ((rfB Try.prog 11 0)) (pLay_B1_I lba b s4) (pLay_B1_S lba b s4 zz))) (pLay_B1_s0 lba b s4 h9 h10 h11 h12 h13) e
  ·
    refine tp_ok (fun h10 => ?_)
    refine tp_ok (fun h11 => ?_)
    refine tp_ok (fun h12 => ?_)
    exact fun e => tl_ok (G := (fun zz => EvStep Try.prog cf 8 ((rfB Try.prog 11 0)) (pLay_B1_I lba b s4) (pLay_B1_S lba b s4 zz))) (pLay_B1_s1 lba b s4 h9 h10 h11 h12) e
noncomputable abbrev pLay_L0_I (lba : Int) (b : List UInt8) : St := (St.mk [(0, (AV.yl 4)), (1, (AV.pt 3 0)), (3, (AV.pt 5 0))] 41 (AH.mk 6 [(5, (AObj.cells [(AV.b Bool.false), (AV.i 0)])), (4, (AObj.loop Go.LoopState.ready Option.none [(0, (AV.i lba)), (1, (bys b)), (2, (AV.pt 0 0)), (3, (AV.pt 1 0)), (4, (AV.pt 2 0)), (5, (AV.i 0)), (8, (bys b)), (9, (AV.i (↑(List.length b) : Int))), (10, (AV.i (Int.tmod (↑(List.length b) : Int) (32 : Int)))), (11, (AV.b ((Int.tmod (↑(List.length b) : Int) (32 : Int)) != (0 : Int)))), (12, (AV.b ((Int.tmod (↑(List.length b) : Int) (32 : Int)) != (0 : Int)))), (13, (AV.i lba)), (14, (AV.b (decide (lba < (0 : Int))))), (15, (AV.b (decide (lba < (0 : Int))))), (16, (AV.b (decide (lba < (0 : Int))))), (17, (AV.i lba)), (18, (AV.b (decide (lba > (64 : Int))))), (19, (AV.b (decide (lba > (64 : Int))))), (20, (AV.b (decide (lba > (64 : Int))))), (21, (bys b)), (22, (AV.i (↑(List.length b) : Int))), (23, (AV.i (wr (Int.tdiv (↑(List.length b) : Int) (32 : Int))))), (24, (AV.i lba)), (25, (AV.i (wr ((64 : Int) - lba)))), (26, (AV.b (decide ((wr (Int.tdiv (↑(List.length b) : Int) (32 : Int))) > (wr ((64 : Int) - lba)))))), (27, (AV.b (decide ((wr (Int.tdiv (↑(List.length b) : Int) (32 : Int))) > (wr ((64 : Int) - lba)))))), (28, (bys b)), (29, (AV.fn (40 : Nat) [(AV.pt 3 0)]))] 61 [(30 : Nat)] (rfA Try.prog 11 0) (rfB Try.prog 11 0))), (3, (AObj.cells [(bys b)])), (2, (AObj.cells [AV.nl])), (1, (AObj.cells [(bys b)])), (0, (AObj.cells [(AV.i lba)]))]) Bool.false)
noncomputable abbrev pLay_L0_S (lba : Int) (b : List UInt8) (s4 : Bool × Int × List UInt8 × List Ex × List UInt8 × Int) : St := (St.mk [(0, (AV.yl 4)), (1, (AV.pt 3 0)), (3, (AV.pt 5 0))] 41 (AH.mk 7 [(5, (AObj.cells [(AV.b s4.1), (AV.i s4.2.1)])), (4, (AObj.loop Go.LoopState.ready Option.none [(0, (AV.i lba)), (1, (bys b)), (2, (AV.pt 0 0)), (3, (AV.pt 1 0)), (4, (AV.pt 2 0)), (5, (AV.i 0)), (27, (AV.b (decide ((wr (Int.tdiv (↑(List.length b) : Int) (32 : Int))) > (wr ((64 : Int) - lba)))))), (29, (AV.fn (40 : Nat) [(AV.pt 3 0)]))] 61 [(30 : Nat)] (rfA Try.prog 11 0) (rfB Try.prog 11 0))), (3, (AObj.cells [(bys s4.2.2.1)])), (2, (AObj.cells [(AV.rf 6 5 0 (List.length s4.2.2.2.1))])), (1, (AObj.cells [(bys s4.2.2.2.2.1)])), (0, (AObj.cells [(AV.i s4.2.2.2.2.2)])), (6, (AObj.cells (List.flatMap Ex.cells s4.2.2.2.1)))]) Bool.false)
noncomputable def pLay_L0_step (lba : Int) (b : List UInt8) (s4 : Bool × Int × List UInt8 × List Ex × List UInt8 × Int) : Option (Bool × Int × List UInt8 × List Ex × List UInt8 × Int) :=
 (tb ((decide ((↑(List.length s4.2.2.1) : Int) ≥ (32 : Int))))
  (tb ((!(((pad 32 s4.2.2.1) == (List.replicate (32 : Nat) (UInt8.ofNat (0 : Nat)))) == s4.1)))
   (tb ((decide (s4.2.1 > (0 : Int))))
    (tc (pLay_B1 lba b s4) fun s8 =>
     (some ((((pad 32 s4.2.2.1) == (List.replicate (32 : Nat) (UInt8.ofNat (0 : Nat)))), ((1 : Int), ((List.take (((List.length s4.2.2.1) - (32 : Nat)) * (1 : Nat)) (List.drop 32 s4.2.2.1)), (s8.1, (s8.2.1, s8.2.2))))))))
    (some ((((pad 32 s4.2.2.1) == (List.replicate (32 : Nat) (UInt8.ofNat (0 : Nat)))), ((wr (s4.2.1 + (1 : Int))), ((List.take (((List.length s4.2.2.1) - (32 : Nat)) * (1 : Nat)) (List.drop 32 s4.2.2.1)), (s4.2.2.2.1, (s4.2.2.2.2.1, s4.2.2.2.2.2))))))))
   (some ((((pad 32 s4.2.2.1) == (List.replicate (32 : Nat) (UInt8.ofNat (0 : Nat)))), ((wr (s4.2.1 + (1 : Int))), ((List.take (((List.length s4.2.2.1) - (32 : Nat)) * (1 : Nat)) (List.drop 32 s4.2.2.1)), (s4.2.2.2.1, (s4.2.2.2.2.1, s4.2.2.2.2.2))))))))
  none /- exit -/)
theorem pLay_L0_s0 (lba : Int) (b : List UInt8) (s4 : Bool × Int × List UInt8 × List Ex × List UInt8 × Int) (h5 : ((decide ((↑(List.length s4.2.2.1) : Int) ≥ (32 : Int)))) = true) (h5p : ((↑(List.length s4.2.2.1) : Int) ≥ (32 : Int))) (h6 : ((!(((pad 32 s4.2.2.1) == (List.replicate (32 : Nat) (UInt8.ofNat (0 : Nat)))) == s4.1))) = true) (h7 : ((decide (s4.2.1 > (0 : Int)))) = true) (h7p : (s4.2.1 > (0 : Int))) (s8 : List Ex × List UInt8 × Int) (h8 : pLay_B1 lba b s4 = some s8) : EvStep Try.prog cf 6 (lp Try.prog 40 0) (pLay_L0_S lba b s4) (pLay_L0_S lba b ((((pad 32 s4.2.2.1) == (List.replicate (32 : Nat) (UInt8.ofNat (0 : Nat)))), ((1 : Int), ((List.take (((List.length s4.2.2.1) - (32 : Nat)) * (1 : Nat)) (List.drop 32 s4.2.2.1)), (s8.1, (s8.2.1, s8.2.2))))))) :=
  leafS vw_eq (k := 300) (r := []) (hs := hz [(4, [.yes]), (3, [.yes]), (1, [.yes, .cells ((List.map AV.y (pad 32 s4.2.2.1)))]), (1, [.yes, .truth (((pad 32 s4.2.2.1) == (List.replicate (32 : Nat) (UInt8.ofNat (0 : Nat)))))]), (7, [.yes]), (1, [.yes]), (2, [.yes]), (1, [.yes, .yes]), (2, [.cells ([(AV.b s4.1), (AV.i s4.2.1)])]), (3, [.cells ([(AV.b s4.1), (AV.i s4.2.1)]), .res .normal (pLay_B1_S lba b s4 s8)]), (4, [.cells ([(AV.b s4.1), (AV.i 0)])]), (7, [.cells ([(AV.b ((pad 32 s4.2.2.1) == (List.replicate (32 : Nat) (UInt8.ofNat (0 : Nat))))), (AV.i 1)])]), (3, [.yes]), (1, [.cells ([(AV.sl ((List.length s4.2.2.1) - (32 : Nat)) (List.take (((List.length s4.2.2.1) - (32 : Nat)) * (1 : Nat)) (List.drop 32 (List.map AV.y s4.2.2.1))))])])]) (st1 := (St.mk [(0, (AV.yl 4)), (1, (AV.pt 3 0)), (3, (AV.pt 5 0)), (5, (bys s4.2.2.1)), (6, (AV.i (↑(List.length s4.2.2.1) : Int))), (7, (AV.b (decide ((↑(List.length s4.2.2.1) : Int) ≥ (32 : Int))))), (10, (bys s4.2.2.1)), (11, (AV.sl 32 (List.take 32 (List.map AV.y s4.2.2.1)))), (12, (AV.ip (List.take 32 (List.map AV.y s4.2.2.1)))), (13, (AV.ag (List.map AV.y (pad 32 s4.2.2.1)))), (14, (AV.ag (List.replicate (32 : Nat) (AV.y (UInt8.ofNat (0 : Nat)))))), (15, (AV.b ((pad 32 s4.2.2.1) == (List.replicate (32 : Nat) (UInt8.ofNat (0 : Nat)))))), (4, (AV.b ((pad 32 s4.2.2.1) == (List.replicate (32 : Nat) (UInt8.ofNat (0 : Nat)))))), (16, (AV.b ((pad 32 s4.2.2.1) == (List.replicate (32 : Nat) (UInt8.ofNat (0 : Nat)))))), (17, (AV.pt 5 0)), (18, (AV.b s4.1)), (19, (AV.b (!(((pad 32 s4.2.2.1) == (List.replicate (32 : Nat) (UInt8.ofNat (0 : Nat)))) == s4.1)))), (20, (AV.b (!(((pad 32 s4.2.2.1) == (List.replicate (32 : Nat) (UInt8.ofNat (0 : Nat)))) == s4.1)))), (21, (AV.pt 5 1)), (22, (AV.i s4.2.1)), (23, (AV.b (decide (s4.2.1 > (0 : Int))))), (24, (AV.b (decide (s4.2.1 > (0 : Int))))), (25, (AV.yl 4)), (26, (AV.ag [(AV.b s4.1), (AV.i s4.2.1)])), (27, (AV.b Bool.true)), (28, (AV.b (!Bool.true))), (29, (AV.pt 5 1)), (30, (AV.b ((pad 32 s4.2.2.1) == (List.replicate (32 : Nat) (UInt8.ofNat (0 : Nat)))))), (31, (AV.pt 5 1)), (32, (AV.i 0)), (33, (AV.i 1)), (34, (AV.ag [(AV.b ((pad 32 s4.2.2.1) == (List.replicate (32 : Nat) (UInt8.ofNat (0 : Nat))))), (AV.i 1)])), (8, (bys s4.2.2.1)), (9, (AV.sl ((List.length s4.2.2.1) - (32 : Nat)) (List.take (((List.length s4.2.2.1) - (32 : Nat)) * (1 : Nat)) (List.drop 32 (List.map AV.y s4.2.2.1)))))] 41 (AH.mk 9 [(7, (AObj.cells [(AV.b s4.1), (AV.i s4.2.1)])), (5, (AObj.cells [(AV.b ((pad 32 s4.2.2.1) == (List.replicate (32 : Nat) (UInt8.ofNat (0 : Nat))))), (AV.i 1)])), (4, (AObj.loop Go.LoopState.ready Option.none [(0, (AV.i lba)), (1, (bys b)), (2, (AV.pt 0 0)), (3, (AV.pt 1 0)), (4, (AV.pt 2 0)), (5, (AV.i 0)), (27, (AV.b (decide ((wr (Int.tdiv (↑(List.length b) : Int) (32 : Int))) > (wr ((64 : Int) - lba)))))), (29, (AV.fn (40 : Nat) [(AV.pt 3 0)]))] 61 [(30 : Nat)] (rfA Try.prog 11 0) (rfB Try.prog 11 0))), (3, (AObj.cells [(AV.sl ((List.length s4.2.2.1) - (32 : Nat)) (List.take (((List.length s4.2.2.1) - (32 : Nat)) * (1 : Nat)) (List.drop 32 (List.map AV.y s4.2.2.1))))])), (2, (AObj.cells [(AV.rf 8 5 0 (List.length s8.1))])), (1, (AObj.cells [(bys s8.2.1)])), (0, (AObj.cells [(AV.i s8.2.2)])), (8, (AObj.cells (List.flatMap Ex.cells s8.1)))]) Bool.false)) kq (ac h5 (ac (fq (p := (((0 : Nat) ≤ (32 : Nat)) ∧ (((32 : Nat) ≤ (List.length s4.2.2.1)) ∧ ((List.length (List.map AV.y s4.2.2.1)) = ((List.length s4.2.2.1) * (1 : Nat))))))) (ac (fq (p := ((32 : Nat) ≤ (List.length (List.take 32 (List.map AV.y s4.2.2.1)))))) (ac (show (List.take 32 (List.take 32 (List.map AV.y s4.2.2.1))) = (List.map AV.y (pad 32 s4.2.2.1)) from (pad_takeC (x := s4.2.2.1) tq bq)) (ac (tq (p := (((List.length (List.map AV.y (pad 32 s4.2.2.1))) = (32 : Nat)) ∧ ((32 : Nat) = (32 : Nat))))) (ac (show eqCells ((List.map AV.y (pad 32 s4.2.2.1))) ((List.replicate (32 : Nat) (AV.y (UInt8.ofNat (0 : Nat))))) = some (((pad 32 s4.2.2.1) == (List.replicate (32 : Nat) (UInt8.ofNat (0 : Nat))))) from (eqCells_of tq tq tq)) (ac h6 (ac h6 (ac h6 (ac h6 (ac h7 (ac (Eq.refl ([(AV.b s4.1), (AV.i s4.2.1)] : List AV)) (ac (Eq.refl ([(AV.b s4.1), (AV.i s4.2.1)] : List AV)) (ac (show Ev Try.prog cf ((rfB Try.prog 11 0)) (pLay_B1_I lba b s4) (.normal, pLay_B1_S lba b s4 s8) from (EvStep.ev (pLay_B1_ok lba b s4 _ h8) rfl)) (ac (Eq.refl ([(AV.b s4.1), (AV.i 0)] : List AV)) (ac (Eq.refl ([(AV.b ((pad 32 s4.2.2.1) == (List.replicate (32 : Nat) (UInt8.ofNat (0 : Nat))))), (AV.i 1)] : List AV)) (ac (fq (p := (((32 : Nat) ≤ (List.length s4.2.2.1)) ∧ (((List.length s4.2.2.1) ≤ (List.length s4.2.2.1)) ∧ ((List.length (List.map AV.y s4.2.2.1)) = ((List.length s4.2.2.1) * (1 : Nat))))))) (ac (Eq.refl ([(AV.sl ((List.length s4.2.2.1) - (32 : Nat)) (List.take (((List.length s4.2.2.1) - (32 : Nat)) * (1 : Nat)) (List.drop 32 (List.map AV.y s4.2.2.1))))] : List AV)) an)))))))))))))))))) (Nat.le_of_ble_eq_true rfl) (absB_of [8] [] kq (.consn kq (.yl rfl) (.consn kq (.pt rfl) (.consn kq (.pt rfl) .nil))) (.cons (.old rfl rfl (.cells (.cons (.eqv tq rfl) (.cons (.eqv tq rfl) .nil)))) (.cons (.old rfl rfl (.loop (.consn kq (.eqv tq rfl) (.consn kq (.eqv tq rfl) (.consn kq (.pt rfl) (.consn kq (.pt rfl) (.consn kq (.pt rfl) (.consn kq (.eqv tq rfl) (.consn kq (.eqv tq rfl) (.consn kq (.fn (.cons (.pt rfl) .nil)) .nil)))))))))) (.cons (.old rfl rfl (.cells (.cons (.eqv tq rfl) .nil))) (.cons (.old rfl rfl (.cells (.cons (.rfn (n := (List.length s8.1)) rfl tq) .nil))) (.cons (.old rfl rfl (.cells (.cons (.eqv tq rfl) .nil))) (.cons (.old rfl rfl (.cells (.cons (.eqv tq rfl) .nil))) (.cons (.old rfl rfl (.cells (.pl tq pq))) .nil))))))))
theorem pLay_L0_s1 (lba : Int) (b : List UInt8) (s4 : Bool × Int × List UInt8 × List Ex × List UInt8 × Int) (h5 : ((decide ((↑(List.length s4.2.2.1) : Int) ≥ (32 : Int)))) = true) (h5p : ((↑(List.length s4.2.2.1) : Int) ≥ (32 : Int))) (h6 : ((!(((pad 32 s4.2.2.1) == (List.replicate (32 : Nat) (UInt8.ofNat (0 : Nat)))) == s4.1))) = true) (h7 : ((decide (s4.2.1 > (0 : Int)))) = false) (h7p : ¬ (s4.2.1 > (0 : Int))) : EvStep Try.prog cf 6 (lp Try.prog 40 0) (pLay_L0_S lba b s4) (pLay_L0_S lba b ((((pad 32 s4.2.2.1) == (List.replicate (32 : Nat) (UInt8.ofNat (0 : Nat)))), ((wr (s4.2.1 + (1 : Int))), ((List.take (((List.length s4.2.2.1) - (32 : Nat)) * (1 : Nat)) (List.drop 32 s4.2.2.1)), (s4.2.2.2.1, (s4.2.2.2.2.1, s4.2.2.2.2.2))))))) :=
  leafS vw_eq (k := 300) (r := []) (hs := hz [(4, [.yes]), (3, [.yes]), (1, [.yes, .cells ((List.map AV.y (pad 32 s4.2.2.1)))]), (1, [.yes, .truth (((pad 32 s4.2.2.1) == (List.replicate (32 : Nat) (UInt8.ofNat (0 : Nat)))))]), (7, [.yes]), (1, [.yes]), (2, [.yes]), (1, [.yes, .no]), (7, [.cells ([(AV.b ((pad 32 s4.2.2.1) == (List.replicate (32 : Nat) (UInt8.ofNat (0 : Nat))))), (AV.i (wr (s4.2.1 + (1 : Int))))])]), (3, [.yes]), (1, [.cells ([(AV.sl ((List.length s4.2.2.1) - (32 : Nat)) (List.take (((List.length s4.2.2.1) - (32 : Nat)) * (1 : Nat)) (List.drop 32 (List.map AV.y s4.2.2.1))))])])]) (st1 := (St.mk [(0, (AV.yl 4)), (1, (AV.pt 3 0)), (3, (AV.pt 5 0)), (5, (bys s4.2.2.1)), (6, (AV.i (↑(List.length s4.2.2.1) : Int))), (7, (AV.b (decide ((↑(List.length s4.2.2.1) : Int) ≥ (32 : Int))))), (10, (bys s4.2.2.1)), (11, (AV.sl 32 (List.take 32 (List.map AV.y s4.2.2.1)))), (12, (AV.ip (List.take 32 (List.map AV.y s4.2.2.1)))), (13, (AV.ag (List.map AV.y (pad 32 s4.2.2.1)))), (14, (AV.ag (List.replicate (32 : Nat) (AV.y (UInt8.ofNat (0 : Nat)))))), (15, (AV.b ((pad 32 s4.2.2.1) == (List.replicate (32 : Nat) (UInt8.ofNat (0 : Nat)))))), (4, (AV.b ((pad 32 s4.2.2.1) == (List.replicate (32 : Nat) (UInt8.ofNat (0 : Nat)))))), (16, (AV.b ((pad 32 s4.2.2.1) == (List.replicate (32 : Nat) (UInt8.ofNat (0 : Nat)))))), (17, (AV.pt 5 0)), (18, (AV.b s4.1)), (19, (AV.b (!(((pad 32 s4.2.2.1) == (List.replicate (32 : Nat) (UInt8.ofNat (0 : Nat)))) == s4.1)))), (20, (AV.b (!(((pad 32 s4.2.2.1) == (List.replicate (32 : Nat) (UInt8.ofNat (0 : Nat)))) == s4.1)))), (21, (AV.pt 5 1)), (22, (AV.i s4.2.1)), (23, (AV.b (decide (s4.2.1 > (0 : Int))))), (24, (AV.b (decide (s4.2.1 > (0 : Int))))), (30, (AV.b ((pad 32 s4.2.2.1) == (List.replicate (32 : Nat) (UInt8.ofNat (0 : Nat)))))), (31, (AV.pt 5 1)), (32, (AV.i s4.2.1)), (33, (AV.i (wr (s4.2.1 + (1 : Int))))), (34, (AV.ag [(AV.b ((pad 32 s4.2.2.1) == (List.replicate (32 : Nat) (UInt8.ofNat (0 : Nat))))), (AV.i (wr (s4.2.1 + (1 : Int))))])), (8, (bys s4.2.2.1)), (9, (AV.sl ((List.length s4.2.2.1) - (32 : Nat)) (List.take (((List.length s4.2.2.1) - (32 : Nat)) * (1 : Nat)) (List.drop 32 (List.map AV.y s4.2.2.1)))))] 41 (AH.mk 7 [(5, (AObj.cells [(AV.b ((pad 32 s4.2.2.1) == (List.replicate (32 : Nat) (UInt8.ofNat (0 : Nat))))), (AV.i (wr (s4.2.1 + (1 : Int))))])), (4, (AObj.loop Go.LoopState.ready Option.none [(0, (AV.i lba)), (1, (bys b)), (2, (AV.pt 0 0)), (3, (AV.pt 1 0)), (4, (AV.pt 2 0)), (5, (AV.i 0)), (27, (AV.b (decide ((wr (Int.tdiv (↑(List.length b) : Int) (32 : Int))) > (wr ((64 : Int) - lba)))))), (29, (AV.fn (40 : Nat) [(AV.pt 3 0)]))] 61 [(30 : Nat)] (rfA Try.prog 11 0) (rfB Try.prog 11 0))), (3, (AObj.cells [(AV.sl ((List.length s4.2.2.1) - (32 : Nat)) (List.take (((List.length s4.2.2.1) - (32 : Nat)) * (1 : Nat)) (List.drop 32 (List.map AV.y s4.2.2.1))))])), (2, (AObj.cells [(AV.rf 6 5 0 (List.length s4.2.2.2.1))])), (1, (AObj.cells [(bys s4.2.2.2.2.1)])), (0, (AObj.cells [(AV.i s4.2.2.2.2.2)])), (6, (AObj.cells (List.flatMap Ex.cells s4.2.2.2.1)))]) Bool.false)) kq (ac h5 (ac (fq (p := (((0 : Nat) ≤ (32 : Nat)) ∧ (((32 : Nat) ≤ (List.length s4.2.2.1)) ∧ ((List.length (List.map AV.y s4.2.2.1)) = ((List.length s4.2.2.1) * (1 : Nat))))))) (ac (fq (p := ((32 : Nat) ≤ (List.length (List.take 32 (List.map AV.y s4.2.2.1)))))) (ac (show (List.take 32 (List.take 32 (List.map AV.y s4.2.2.1))) = (List.map AV.y (pad 32 s4.2.2.1)) from (pad_takeC (x := s4.2.2.1) tq bq)) (ac (tq (p := (((List.length (List.map AV.y (pad 32 s4.2.2.1))) = (32 : Nat)) ∧ ((32 : Nat) = (32 : Nat))))) (ac (show eqCells ((List.map AV.y (pad 32 s4.2.2.1))) ((List.replicate (32 : Nat) (AV.y (UInt8.ofNat (0 : Nat))))) = some (((pad 32 s4.2.2.1) == (List.replicate (32 : Nat) (UInt8.ofNat (0 : Nat))))) from (eqCells_of tq tq tq)) (ac h6 (ac h6 (ac h6 (ac h6 (ac h7 (ac (Eq.refl ([(AV.b ((pad 32 s4.2.2.1) == (List.replicate (32 : Nat) (UInt8.ofNat (0 : Nat))))), (AV.i (wr (s4.2.1 + (1 : Int))))] : List AV)) (ac (fq (p := (((32 : Nat) ≤ (List.length s4.2.2.1)) ∧ (((List.length s4.2.2.1) ≤ (List.length s4.2.2.1)) ∧ ((List.length (List.map AV.y s4.2.2.1)) = ((List.length s4.2.2.1) * (1 : Nat))))))) (ac (Eq.refl ([(AV.sl ((List.length s4.2.2.1) - (32 : Nat)) (List.take (((List.length s4.2.2.1) - (32 : Nat)) * (1 : Nat)) (List.drop 32 (List.map AV.y s4.2.2.1))))] : List AV)) an)))))))))))))) (Nat.le_of_ble_eq_true rfl) (absB_of [6] [] kq (.consn kq (.yl rfl) (.consn kq (.pt rfl) (.consn kq (.pt rfl) .nil))) (.cons (.old rfl rfl (.cells (.cons (.eqv tq rfl) (.cons (.eqv tq rfl) .nil)))) (.cons (.old rfl rfl (.loop (.consn kq (.eqv tq rfl) (.consn kq (.eqv tq rfl) (.consn kq (.pt rfl) (.consn kq (.pt rfl) (.consn kq (.pt rfl) (.consn kq (.eqv tq rfl) (.consn kq (.eqv tq rfl) (.consn kq (.fn (.cons (.pt rfl) .nil)) .nil)))))))))) (.cons (.old rfl rfl (.cells (.cons (.eqv tq rfl) .nil))) (.cons (.old rfl rfl (.cells (.cons (.rfn (n := (List.length s4.2.2.2.1)) rfl tq) .nil))) (.cons (.old rfl rfl (.cells (.cons (.eqv tq rfl) .nil))) (.cons (.old rfl rfl (.cells (.cons (.eqv tq rfl) .nil))) (.cons (.old rfl rfl (.cells (.pl tq pq))) .nil))))))))
theorem pLay_L0_s2 (lba : Int) (b : List UInt8) (s4 : Bool × Int × List UInt8 × List Ex × List UInt8 × Int) (h5 : ((decide ((↑(List.length s4.2.2.1) : Int) ≥ (32 : Int)))) = true) (h5p : ((↑(List.length s4.2.2.1) : Int) ≥ (32 : Int))) (h6 : ((!(((pad 32 s4.2.2.1) == (List.replicate (32 : Nat) (UInt8.ofNat (0 : Nat)))) == s4.1))) = false) : EvStep Try.prog cf 6 (lp Try.prog 40 0) (pLay_L0_S lba b s4) (pLay_L0_S lba b ((((pad 32 s4.2.2.1) == (List.replicate (32 : Nat) (UInt8.ofNat (0 : Nat)))), ((wr (s4.2.1 + (1 : Int))), ((List.take (((List.length s4.2.2.1) - (32 : Nat)) * (1 : Nat)) (List.drop 32 s4.2.2.1)), (s4.2.2.2.1, (s4.2.2.2.2.1, s4.2.2.2.2.2))))))) :=
  leafS vw_eq (k := 300) (r := []) (hs := hz [(4, [.yes]), (3, [.yes]), (1, [.yes, .cells ((List.map AV.y (pad 32 s4.2.2.1)))]), (1, [.yes, .truth (((pad 32 s4.2.2.1) == (List.replicate (32 : Nat) (UInt8.ofNat (0 : Nat)))))]), (7, [.no, .no, .no, .no]), (8, [.cells ([(AV.b ((pad 32 s4.2.2.1) == (List.replicate (32 : Nat) (UInt8.ofNat (0 : Nat))))), (AV.i (wr (s4.2.1 + (1 : Int))))])]), (3, [.yes]), (1, [.cells ([(AV.sl ((List.length s4.2.2.1) - (32 : Nat)) (List.take (((List.length s4.2.2.1) - (32 : Nat)) * (1 : Nat)) (List.drop 32 (List.map AV.y s4.2.2.1))))])])]) (st1 := (St.mk [(0, (AV.yl 4)), (1, (AV.pt 3 0)), (3, (AV.pt 5 0)), (5, (bys s4.2.2.1)), (6, (AV.i (↑(List.length s4.2.2.1) : Int))), (7, (AV.b (decide ((↑(List.length s4.2.2.1) : Int) ≥ (32 : Int))))), (10, (bys s4.2.2.1)), (11, (AV.sl 32 (List.take 32 (List.map AV.y s4.2.2.1)))), (12, (AV.ip (List.take 32 (List.map AV.y s4.2.2.1)))), (13, (AV.ag (List.map AV.y (pad 32 s4.2.2.1)))), (14, (AV.ag (List.replicate (32 : Nat) (AV.y (UInt8.ofNat (0 : Nat)))))), (15, (AV.b ((pad 32 s4.2.2.1) == (List.replicate (32 : Nat) (UInt8.ofNat (0 : Nat)))))), (4, (AV.b ((pad 32 s4.2.2.1) == (List.replicate (32 : Nat) (UInt8.ofNat (0 : Nat)))))), (16, (AV.b ((pad 32 s4.2.2.1) == (List.replicate (32 : Nat) (UInt8.ofNat (0 : Nat)))))), (17, (AV.pt 5 0)), (18, (AV.b s4.1)), (19, (AV.b (!(((pad 32 s4.2.2.1) == (List.replicate (32 : Nat) (UInt8.ofNat (0 : Nat)))) == s4.1)))), (20, (AV.b (!(((pad 32 s4.2.2.1) == (List.replicate (32 : Nat) (UInt8.ofNat (0 : Nat)))) == s4.1)))), (21, (AV.tu ([] : List AV))), (22, (AV.tu ([] : List AV))), (23, (AV.tu ([] : List AV))), (24, (AV.b Bool.false)), (30, (AV.b ((pad 32 s4.2.2.1) == (List.replicate (32 : Nat) (UInt8.ofNat (0 : Nat)))))), (31, (AV.pt 5 1)), (32, (AV.i s4.2.1)), (33, (AV.i (wr (s4.2.1 + (1 : Int))))), (34, (AV.ag [(AV.b ((pad 32 s4.2.2.1) == (List.replicate (32 : Nat) (UInt8.ofNat (0 : Nat))))), (AV.i (wr (s4.2.1 + (1 : Int))))])), (8, (bys s4.2.2.1)), (9, (AV.sl ((List.length s4.2.2.1) - (32 : Nat)) (List.take (((List.length s4.2.2.1) - (32 : Nat)) * (1 : Nat)) (List.drop 32 (List.map AV.y s4.2.2.1)))))] 41 (AH.mk 7 [(5, (AObj.cells [(AV.b ((pad 32 s4.2.2.1) == (List.replicate (32 : Nat) (UInt8.ofNat (0 : Nat))))), (AV.i (wr (s4.2.1 + (1 : Int))))])), (4, (AObj.loop Go.LoopState.ready Option.none [(0, (AV.i lba)), (1, (bys b)), (2, (AV.pt 0 0)), (3, (AV.pt 1 0)), (4, (AV.pt 2 0)), (5, (AV.i 0)), (27, (AV.b (decide ((wr (Int.tdiv (↑(List.length b) : Int) (32 : Int))) > (wr ((64 : Int) - lba)))))), (29, (AV.fn (40 : Nat) [(AV.pt 3 0)]))] 61 [(30 : Nat)] (rfA Try.prog 11 0) (rfB Try.prog 11 0))), (3, (AObj.cells [(AV.sl ((List.length s4.2.2.1) - (32 : Nat)) (List.take (((List.length s4.2.2.1) - (32 : Nat)) * (1 : Nat)) (List.drop 32 (List.map AV.y s4.2.2.1))))])), (2, (AObj.cells [(AV.rf 6 5 0 (List.length s4.2.2.2.1))])), (1, (AObj.cells [(bys s4.2.2.2.2.1)])), (0, (AObj.cells [(AV.i s4.2.2.2.2.2)])), (6, (AObj.cells (List.flatMap Ex.cells s4.2.2.2.1)))]) Bool.false)) kq (ac h5 (ac (fq (p := (((0 : Nat) ≤ (32 : Nat)) ∧ (((32 : Nat) ≤ (List.length s4.2.2.1)) ∧ ((List.length (List.map AV.y s4.2.2.1)) = ((List.length s4.2.2.1) * (1 : Nat))))))) (ac (fq (p := ((32 : Nat) ≤ (List.length (List.take 32 (List.map AV.y s4.2.2.1)))))) (ac (show (List.take 32 (List.take 32 (List.map AV.y s4.2.2.1))) = (List.map AV.y (pad 32 s4.2.2.1)) from (pad_takeC (x := s4.2.2.1) tq bq)) (ac (tq (p := (((List.length (List.map AV.y (pad 32 s4.2.2.1))) = (32 : Nat)) ∧ ((32 : Nat) = (32 : Nat))))) (ac (show eqCells ((List.map AV.y (pad 32 s4.2.2.1))) ((List.replicate (32 : Nat) (AV.y (UInt8.ofNat (0 : Nat))))) = some (((pad 32 s4.2.2.1) == (List.replicate (32 : Nat) (UInt8.ofNat (0 : Nat))))) from (eqCells_of tq tq tq)) (ac h6 (ac h6 (ac h6 (ac h6 (ac (Eq.refl ([(AV.b ((pad 32 s4.2.2.1) == (List.replicate (32 : Nat) (UInt8.ofNat (0 : Nat))))), (AV.i (wr (s4.2.1 + (1 : Int))))] : List AV)) (ac (fq (p := (((32 : Nat) ≤ (List.length s4.2.2.1)) ∧ (((List.length s4.2.2.1) ≤ (List.length s4.2.2.1)) ∧ ((List.length (List.map AV.y s4.2.2.1)) = ((List.length s4.2.2.1) * (1 : Nat))))))) (ac (Eq.refl ([(AV.sl ((List.length s4.2.2.1) - (32 : Nat)) (List.take (((List.length s4.2.2.1) - (32 : Nat)) * (1 : Nat)) (List.drop 32 (List.map AV.y s4.2.2.1))))] : List AV)) an))))))))))))) (Nat.le_of_ble_eq_true rfl) (absB_of [6] [] kq (.consn kq (.yl rfl) (.consn kq (.pt rfl) (.consn kq (.pt rfl) .nil))) (.cons (.old rfl rfl (.cells (.cons (.eqv tq rfl) (.cons (.eqv tq rfl) .nil)))) (.cons (.old rfl rfl (.loop (.consn kq (.eqv tq rfl) (.consn kq (.eqv tq rfl) (.consn kq (.pt rfl) (.consn kq (.pt rfl) (.consn kq (.pt rfl) (.consn kq (.eqv tq rfl) (.consn kq (.eqv tq rfl) (.consn kq (.fn (.cons (.pt rfl) .nil)) .nil)))))))))) (.cons (.old rfl rfl (.cells (.cons (.eqv tq rfl) .nil))) (.cons (.old rfl rfl (.cells (.cons (.rfn (n := (List.length s4.2.2.2.1)) rfl tq) .nil))) (.cons (.old rfl rfl (.cells (.cons (.eqv tq rfl) .nil))) (.cons (.old rfl rfl (.cells (.cons (.eqv tq rfl) .nil))) (.cons (.old rfl rfl (.cells (.pl tq pq))) .nil))))))))
theorem pLay_L0_ok (lba : Int) (b : List UInt8) (s4 zz : Bool × Int × List UInt8 × List Ex × List UInt8 × Int) : pLay_L0_step lba b s4 = some zz → EvStep Try.prog cf 6 (lp Try.prog 40 0) (pLay_L0_S lba b s4) (pLay_L0_S lba b zz) := by
  unfold pLay_L0_step
  refine tb_ok (fun h5 => ?_) (fun h5 => ?_)
  ·
    have h5p := of_decide_eq_true h5
    refine tb_ok (fun h6 => ?_) (fun h6 => ?_)
    ·
      refine tb_ok (fun h7 => ?_) (fun h7 => ?_)
      ·
        have h7p := of_decide_eq_true h7
        refine tc_ok (fun s8 h8 => ?_)
        exact fun e => tl_ok (G := (fun zz => EvStep Try.prog cf 6 (lp Try.prog 40 0) (pLay_L0_S lba b s4) (pLay_L0_S lba b zz))) (pLay_L0_s0 lba b s4 h5 h5p h6 h7 h7p s8 h8) e
      ·
        have h7p := of_decide_eq_false h7
        exact fun e => tl_ok (G := (fun zz => EvStep Try.prog cf 6 (lp Try.prog 40 0) (pLay_L0_S lba b s4) (pLay_L0_S lba b zz))) (pLay_L0_s1 lba b s4 h5 h5p h6 h7 h7p) e
    ·
      exact fun e => tl_ok (G := (fun zz => EvStep Try.prog cf 6 (lp Try.prog 40 0) (pLay_L0_S lba b s4) (pLay_L0_S lba b zz))) (pLay_L0_s2 lba b s4 h5 h5p h6) e
  ·
    have h5p := of_decide_eq_false h5
    exact fun e => nomatch e
noncomputable abbrev pLay_B3_I (lba : Int) (b : List UInt8) (s4 : Bool × Int × List UInt8 × List Ex × List UInt8 × Int) : St := (St.mk [(0, (AV.i lba)), (1, (bys b)), (2, (AV.pt 0 0)), (3, (AV.pt 1 0)), (4, (AV.pt 2 0)), (5, (AV.i 0)), (27, (AV.b (decide ((wr (Int.tdiv (↑(List.length b) : Int) (32 : Int))) > (wr ((64 : Int) - lba)))))), (29, (AV.fn (40 : Nat) [(AV.pt 3 0)])), (30, (AV.ag [(AV.b s4.1), (AV.i s4.2.1)])), (6, (AV.pt 7 0))] 61 (AH.mk 8 [(7, (AObj.cells [(AV.b s4.1), (AV.i s4.2.1)])), (5, (AObj.cells [(AV.b s4.1), (AV.i s4.2.1)])), (4, (AObj.loop Go.LoopState.busy Option.none [(0, (AV.i lba)), (1, (bys b)), (2, (AV.pt 0 0)), (3, (AV.pt 1 0)), (4, (AV.pt 2 0)), (5, (AV.i 0)), (27, (AV.b (decide ((wr (Int.tdiv (↑(List.length b) : Int) (32 : Int))) > (wr ((64 : Int) - lba)))))), (29, (AV.fn (40 : Nat) [(AV.pt 3 0)]))] 61 [(30 : Nat)] (rfA Try.prog 11 0) (rfB Try.prog 11 0))), (3, (AObj.cells [(bys s4.2.2.1)])), (2, (AObj.cells [(AV.rf 6 5 0 (List.length s4.2.2.2.1))])), (1, (AObj.cells [(bys s4.2.2.2.2.1)])), (0, (AObj.cells [(AV.i s4.2.2.2.2.2)])), (6, (AObj.cells (List.flatMap Ex.cells s4.2.2.2.1)))]) Bool.true)
noncomputable abbrev pLay_B3_S (lba : Int) (b : List UInt8) (s4 : Bool × Int × List UInt8 × List Ex × List UInt8 × Int) (s7 : List Ex × List UInt8 × Int) : St := (St.mk [(0, (AV.i lba)), (1, (bys b)), (2, (AV.pt 0 0)), (3, (AV.pt 1 0)), (4, (AV.pt 2 0)), (5, (AV.i 0)), (27, (AV.b (decide ((wr (Int.tdiv (↑(List.length b) : Int) (32 : Int))) > (wr ((64 : Int) - lba)))))), (29, (AV.fn (40 : Nat) [(AV.pt 3 0)])), (30, (AV.ag [(AV.b s4.1), (AV.i s4.2.1)])), (6, (AV.pt 7 0))] 61 (AH.mk 9 [(7, (AObj.cells [(AV.b s4.1), (AV.i s4.2.1)])), (5, (AObj.cells [(AV.b s4.1), (AV.i s4.2.1)])), (4, (AObj.loop Go.LoopState.busy Option.none [(0, (AV.i lba)), (1, (bys b)), (2, (AV.pt 0 0)), (3, (AV.pt 1 0)), (4, (AV.pt 2 0)), (5, (AV.i 0)), (27, (AV.b (decide ((wr (Int.tdiv (↑(List.length b) : Int) (32 : Int))) > (wr ((64 : Int) - lba)))))), (29, (AV.fn (40 : Nat) [(AV.pt 3 0)]))] 61 [(30 : Nat)] (rfA Try.prog 11 0) (rfB Try.prog 11 0))), (3, (AObj.cells [(bys s4.2.2.1)])), (2, (AObj.cells [(AV.rf 8 5 0 (List.length s7.1))])), (1, (AObj.cells [(bys s7.2.1)])), (0, (AObj.cells [(AV.i s7.2.2)])), (8, (AObj.cells (List.flatMap Ex.cells s7.1)))]) Bool.true)
noncomputable def pLay_B3 (lba : Int) (b : List UInt8) (s4 : Bool × Int × List UInt8 × List Ex × List UInt8 × Int) : Option (List Ex × List UInt8 × Int) :=
 (tb ((!s4.1))
  (tp (((0 : Int) ≤ (wr (s4.2.1 * (32 : Int)))))
   (tp ((((0 : Nat) ≤ (Int.toNat (wr (s4.2.1 * (32 : Int))))) ∧ (((Int.toNat (wr (s4.2.1 * (32 : Int)))) ≤ (List.length s4.2.2.2.2.1)) ∧ ((List.length (List.map AV.y s4.2.2.2.2.1)) = ((List.length s4.2.2.2.2.1) * (1 : Nat))))))
    (tp ((((Int.toNat (wr (s4.2.1 * (32 : Int)))) - (0 : Nat)) ≤ (4294967296 : Nat)))
     (tp ((((List.length (List.flatMap Ex.cells s4.2.2.2.1)) = ((List.length s4.2.2.2.1) * (5 : Nat))) ∧ (((List.length s4.2.2.2.1) + (1 : Nat)) ≤ (4294967296 : Nat))))
      (some (((s4.2.2.2.1 ++ [(Ex.mk s4.2.2.2.2.2 s4.2.1 2 0 (List.take (((Int.toNat (wr (s4.2.1 * (32 : Int)))) - (0 : Nat)) * (1 : Nat)) (List.take (((Int.toNat (wr (s4.2.1 * (32 : Int)))) - (0 : Nat)) * (1 : Nat)) s4.2.2.2.2.1)))]), ((List.take (((List.length s4.2.2.2.2.1) - (Int.toNat (wr (s4.2.1 * (32 : Int))))) * (1 : Nat)) (List.drop ((Int.toNat (wr (s4.2.1 * (32 : Int)))) * (1 : Nat)) s4.2.2.2.2.1)), (wr (s4.2.2.2.2.2 + s4.2.1))))))))))
  (tp ((((List.length (List.flatMap Ex.cells s4.2.2.2.1)) = ((List.length s4.2.2.2.1) * (5 : Nat))) ∧ (((List.length s4.2.2.2.1) + (1 : Nat)) ≤ (4294967296 : Nat))))
   (tp (((0 : Int) ≤ (wr (s4.2.1 * (32 : Int)))))
    (tp ((((Int.toNat (wr (s4.2.1 * (32 : Int)))) ≤ (List.length s4.2.2.2.2.1)) ∧ (((List.length s4.2.2.2.2.1) ≤ (List.length s4.2.2.2.2.1)) ∧ ((List.length (List.map AV.y s4.2.2.2.2.1)) = ((List.length s4.2.2.2.2.1) * (1 : Nat))))))
     (some (((s4.2.2.2.1 ++ [(Ex.mk s4.2.2.2.2.2 s4.2.1 1 0 ([] : List UInt8))]), ((List.take (((List.length s4.2.2.2.2.1) - (Int.toNat (wr (s4.2.1 * (32 : Int))))) * (1 : Nat)) (List.drop ((Int.toNat (wr (s4.2.1 * (32 : Int)))) * (1 : Nat)) s4.2.2.2.2.1)), (wr (s4.2.2.2.2.2 + s4.2.1))))))))))
theorem pLay_B3_s0 (lba : Int) (b : List UInt8) (s4 : Bool × Int × List UInt8 × List Ex × List UInt8 × Int) (h8 : ((!s4.1)) = true) (h9 : ((0 : Int) ≤ (wr (s4.2.1 * (32 : Int))))) (h10 : (((0 : Nat) ≤ (Int.toNat (wr (s4.2.1 * (32 : Int))))) ∧ (((Int.toNat (wr (s4.2.1 * (32 : Int)))) ≤ (List.length s4.2.2.2.2.1)) ∧ ((List.length (List.map AV.y s4.2.2.2.2.1)) = ((List.length s4.2.2.2.2.1) * (1 : Nat)))))) (h11 : (((Int.toNat (wr (s4.2.1 * (32 : Int)))) - (0 : Nat)) ≤ (4294967296 : Nat))) (h12 : (((List.length (List.flatMap Ex.cells s4.2.2.2.1)) = ((List.length s4.2.2.2.1) * (5 : Nat))) ∧ (((List.length s4.2.2.2.1) + (1 : Nat)) ≤ (4294967296 : Nat)))) : EvStep Try.prog cf 8 ((rfB Try.prog 11 0)) (pLay_B3_I lba b s4) (pLay_B3_S lba b s4 (((s4.2.2.2.1 ++ [(Ex.mk s4.2.2.2.2.2 s4.2.1 2 0 (List.take (((Int.toNat (wr (s4.2.1 * (32 : Int)))) - (0 : Nat)) * (1 : Nat)) (List.take (((Int.toNat (wr (s4.2.1 * (32 : Int)))) - (0 : Nat)) * (1 : Nat)) s4.2.2.2.2.1)))]), ((List.take (((List.length s4.2.2.2.2.1) - (Int.toNat (wr (s4.2.1 * (32 : Int))))) * (1 : Nat)) (List.drop ((Int.toNat (wr (s4.2.1 * (32 : Int)))) * (1 : Nat)) s4.2.2.2.2.1)), (wr (s4.2.2.2.2.2 + s4.2.1)))))) :=
  leafS vw_eq (k := 300) (r := []) (hs := hz [(8, [.cells ([(AV.i s4.2.2.2.2.2), (AV.i s4.2.1), (AV.i 1), (AV.i 0), AV.nl])]), (4, [.yes]), (7, [.yes, .yes, .yes, .yes]), (2, [.cells ([(AV.i s4.2.2.2.2.2), (AV.i s4.2.1), (AV.i 2), (AV.i 0), AV.nl])]), (2, [.cells ([(AV.i s4.2.2.2.2.2), (AV.i s4.2.1), (AV.i 2), (AV.i 0), (AV.rf 9 1 0 ((Int.toNat (wr (s4.2.1 * (32 : Int)))) - (0 : Nat)))])]), (3, [.cells ([(AV.i s4.2.2.2.2.2), (AV.i s4.2.1), (AV.i 2), (AV.i 0), (AV.rf 9 1 0 ((Int.toNat (wr (s4.2.1 * (32 : Int)))) - (0 : Nat)))])]), (1, [.cells ([(AV.i s4.2.2.2.2.2), (AV.i s4.2.1), (AV.i 2), (AV.i 0), (AV.rf 9 1 0 ((Int.toNat (wr (s4.2.1 * (32 : Int)))) - (0 : Nat)))]), .cells ([(AV.i s4.2.2.2.2.2), (AV.i s4.2.1), (AV.i 2), (AV.i 0), (AV.rf 9 1 0 ((Int.toNat (wr (s4.2.1 * (32 : Int)))) - (0 : Nat)))]), .yes, .yes]), (1, [.cells ([(AV.rf 11 5 0 ((List.length s4.2.2.2.1) + (1 : Nat)))])]), (12, [.yes, .yes]), (1, [.cells ([(AV.i (wr (s4.2.2.2.2.2 + s4.2.1)))])]), (1, [.cells ([(AV.sl ((List.length s4.2.2.2.2.1) - (Int.toNat (wr (s4.2.1 * (32 : Int))))) (List.take (((List.length s4.2.2.2.2.1) - (Int.toNat (wr (s4.2.1 * (32 : Int))))) * (1 : Nat)) (List.drop ((Int.toNat (wr (s4.2.1 * (32 : Int)))) * (1 : Nat)) (List.map AV.y s4.2.2.2.2.1))))]), .yes])]) (st1 := (St.mk [(0, (AV.i lba)), (1, (bys b)), (2, (AV.pt 0 0)), (3, (AV.pt 1 0)), (4, (AV.pt 2 0)), (5, (AV.i 0)), (27, (AV.b (decide ((wr (Int.tdiv (↑(List.length b) : Int) (32 : Int))) > (wr ((64 : Int) - lba)))))), (29, (AV.fn (40 : Nat) [(AV.pt 3 0)])), (30, (AV.ag [(AV.b s4.1), (AV.i s4.2.1)])), (6, (AV.pt 7 0)), (31, (AV.i s4.2.2.2.2.2)), (32, (AV.pt 7 1)), (33, (AV.i s4.2.1)), (34, (AV.ag [(AV.i s4.2.2.2.2.2), (AV.i s4.2.1), (AV.i 1), (AV.i 0), AV.nl])), (7, (AV.pt 8 0)), (35, (AV.pt 7 0)), (36, (AV.b s4.1)), (37, (AV.b (!s4.1))), (38, AV.nl), (39, (bys s4.2.2.2.2.1)), (40, (AV.pt 7 1)), (41, (AV.i s4.2.1)), (42, (AV.i (wr (s4.2.1 * (32 : Int))))), (43, (AV.sl ((Int.toNat (wr (s4.2.1 * (32 : Int)))) - (0 : Nat)) (List.take (((Int.toNat (wr (s4.2.1 * (32 : Int)))) - (0 : Nat)) * (1 : Nat)) (List.map AV.y s4.2.2.2.2.1)))), (44, (AV.rf 9 1 0 ((Int.toNat (wr (s4.2.1 * (32 : Int)))) - (0 : Nat)))), (45, (AV.pt 8 2)), (46, (AV.pt 8 4)), (47, (AV.rf 6 5 0 (List.length s4.2.2.2.1))), (48, (AV.ag [(AV.i s4.2.2.2.2.2), (AV.i s4.2.1), (AV.i 2), (AV.i 0), (AV.rf 9 1 0 ((Int.toNat (wr (s4.2.1 * (32 : Int)))) - (0 : Nat)))])), (49, (AV.rf 10 5 0 1)), (50, (AV.rf 11 5 0 ((List.length s4.2.2.2.1) + (1 : Nat)))), (51, (AV.i s4.2.2.2.2.2)), (52, (AV.pt 7 1)), (53, (AV.i s4.2.1)), (54, (AV.i (wr (s4.2.2.2.2.2 + s4.2.1)))), (55, (bys s4.2.2.2.2.1)), (56, (AV.pt 7 1)), (57, (AV.i s4.2.1)), (58, (AV.i (wr (s4.2.1 * (32 : Int))))), (59, (AV.sl ((List.length s4.2.2.2.2.1) - (Int.toNat (wr (s4.2.1 * (32 : Int))))) (List.take (((List.length s4.2.2.2.2.1) - (Int.toNat (wr (s4.2.1 * (32 : Int))))) * (1 : Nat)) (List.drop ((Int.toNat (wr (s4.2.1 * (32 : Int)))) * (1 : Nat)) (List.map AV.y s4.2.2.2.2.1)))))] 61 (AH.mk 12 [(11, (AObj.cells ((List.flatMap Ex.cells s4.2.2.2.1) ++ [(AV.i s4.2.2.2.2.2), (AV.i s4.2.1), (AV.i 2), (AV.i 0), (AV.rf 9 1 0 ((Int.toNat (wr (s4.2.1 * (32 : Int)))) - (0 : Nat)))]))), (10, (AObj.cells [(AV.i s4.2.2.2.2.2), (AV.i s4.2.1), (AV.i 2), (AV.i 0), (AV.rf 9 1 0 ((Int.toNat (wr (s4.2.1 * (32 : Int)))) - (0 : Nat)))])), (9, (AObj.cells (List.take (((Int.toNat (wr (s4.2.1 * (32 : Int)))) - (0 : Nat)) * (1 : Nat)) (List.map AV.y s4.2.2.2.2.1)))), (8, (AObj.cells [(AV.i s4.2.2.2.2.2), (AV.i s4.2.1), (AV.i 2), (AV.i 0), (AV.rf 9 1 0 ((Int.toNat (wr (s4.2.1 * (32 : Int)))) - (0 : Nat)))])), (7, (AObj.cells [(AV.b s4.1), (AV.i s4.2.1)])), (5, (AObj.cells [(AV.b s4.1), (AV.i s4.2.1)])), (4, (AObj.loop Go.LoopState.busy Option.none [(0, (AV.i lba)), (1, (bys b)), (2, (AV.pt 0 0)), (3, (AV.pt 1 0)), (4, (AV.pt 2 0)), (5, (AV.i 0)), (27, (AV.b (decide ((wr (Int.tdiv (↑(List.length b) : Int) (32 : Int))) > (wr ((64 : Int) - lba)))))), (29, (AV.fn (40 : Nat) [(AV.pt 3 0)]))] 61 [(30 : Nat)] (rfA Try.prog 11 0) (rfB Try.prog 11 0))), (3, (AObj.cells [(bys s4.2.2.1)])), (2, (AObj.cells [(AV.rf 11 5 0 ((List.length s4.2.2.2.1) + (1 : Nat)))])), (1, (AObj.cells [(AV.sl ((List.length s4.2.2.2.2.1) - (Int.toNat (wr (s4.2.1 * (32 : Int))))) (List.take (((List.length s4.2.2.2.2.1) - (Int.toNat (wr (s4.2.1 * (32 : Int))))) * (1 : Nat)) (List.drop ((Int.toNat (wr (s4.2.1 * (32 : Int)))) * (1 : Nat)) (List.map AV.y s4.2.2.2.2.1))))])), (0, (AObj.cells [(AV.i (wr (s4.2.2.2.2.2 + s4.2.1)))])), (6, AObj.dead)]) Bool.true)) kq (ac (Eq.refl ([(AV.i s4.2.2.2.2.2), (AV.i s4.2.1), (AV.i 1), (AV.i 0), AV.nl] : List AV)) (ac h8 (ac h9 (ac h10 (ac (fq (p := ((List.length (List.take (((Int.toNat (wr (s4.2.1 * (32 : Int)))) - (0 : Nat)) * (1 : Nat)) (List.map AV.y s4.2.2.2.2.1))) = (((Int.toNat (wr (s4.2.1 * (32 : Int)))) - (0 : Nat)) * (1 : Nat))))) (ac h11 (ac (Eq.refl ([(AV.i s4.2.2.2.2.2), (AV.i s4.2.1), (AV.i 2), (AV.i 0), AV.nl] : List AV)) (ac (Eq.refl ([(AV.i s4.2.2.2.2.2), (AV.i s4.2.1), (AV.i 2), (AV.i 0), (AV.rf 9 1 0 ((Int.toNat (wr (s4.2.1 * (32 : Int)))) - (0 : Nat)))] : List AV)) (ac (Eq.refl ([(AV.i s4.2.2.2.2.2), (AV.i s4.2.1), (AV.i 2), (AV.i 0), (AV.rf 9 1 0 ((Int.toNat (wr (s4.2.1 * (32 : Int)))) - (0 : Nat)))] : List AV)) (ac (Eq.refl ([(AV.i s4.2.2.2.2.2), (AV.i s4.2.1), (AV.i 2), (AV.i 0), (AV.rf 9 1 0 ((Int.toNat (wr (s4.2.1 * (32 : Int)))) - (0 : Nat)))] : List AV)) (ac (Eq.refl ([(AV.i s4.2.2.2.2.2), (AV.i s4.2.1), (AV.i 2), (AV.i 0), (AV.rf 9 1 0 ((Int.toNat (wr (s4.2.1 * (32 : Int)))) - (0 : Nat)))] : List AV)) (ac (tq (p := (((0 : Nat) = (0 : Nat)) ∧ ((List.length [(AV.i s4.2.2.2.2.2), (AV.i s4.2.1), (AV.i 2), (AV.i 0), (AV.rf 9 1 0 ((Int.toNat (wr (s4.2.1 * (32 : Int)))) - (0 : Nat)))]) = (5 : Nat))))) (ac h12 (ac (Eq.refl ([(AV.rf 11 5 0 ((List.length s4.2.2.2.1) + (1 : Nat)))] : List AV)) (ac h9 (ac (fq (p := (((Int.toNat (wr (s4.2.1 * (32 : Int)))) ≤ (List.length s4.2.2.2.2.1)) ∧ (((List.length s4.2.2.2.2.1) ≤ (List.length s4.2.2.2.2.1)) ∧ ((List.length (List.map AV.y s4.2.2.2.2.1)) = ((List.length s4.2.2.2.2.1) * (1 : Nat))))))) (ac (Eq.refl ([(AV.i (wr (s4.2.2.2.2.2 + s4.2.1)))] : List AV)) (ac (Eq.refl ([(AV.sl ((List.length s4.2.2.2.2.1) - (Int.toNat (wr (s4.2.1 * (32 : Int))))) (List.take (((List.length s4.2.2.2.2.1) - (Int.toNat (wr (s4.2.1 * (32 : Int))))) * (1 : Nat)) (List.drop ((Int.toNat (wr (s4.2.1 * (32 : Int)))) * (1 : Nat)) (List.map AV.y s4.2.2.2.2.1))))] : List AV)) (ac (show orderOk (rg Try.prog 11 0) = true ∧ allOk (Region.before (rg Try.prog 11 0)) [] 0 [(some [0], some []), (some [], some []), (some [7], some []), (some [], some []), (some [1], some []), (some [], some []), (some [7], some []), (some [], some []), (some [], some []), (some [0], some [0]), (some [1], some [1])] = true from (ord_of ord_11_0 bef_11_0 kq)) an))))))))))))))))))) (Nat.le_of_ble_eq_true rfl) (absB_of [11] [9] kq (.consn kq (.eqv tq rfl) (.consn kq (.eqv tq rfl) (.consn kq (.pt rfl) (.consn kq (.pt rfl) (.consn kq (.pt rfl) (.consn kq (.eqv tq rfl) (.consn kq (.eqv tq rfl) (.consn kq (.fn (.cons (.pt rfl) .nil)) (.consn kq (.agp pq) (.consn kq (.pt rfl) .nil)))))))))) (.cons (.old rfl rfl (.cells (.pl rfl pq))) (.cons (.old rfl rfl (.cells (.pl rfl pq))) (.cons (.old rfl rfl (.loop (.consn kq (.eqv tq rfl) (.consn kq (.eqv tq rfl) (.consn kq (.pt rfl) (.consn kq (.pt rfl) (.consn kq (.pt rfl) (.consn kq (.eqv tq rfl) (.consn kq (.eqv tq rfl) (.consn kq (.fn (.cons (.pt rfl) .nil)) .nil)))))))))) (.cons (.old rfl rfl (.cells (.cons (.eqv tq rfl) .nil))) (.cons (.old rfl rfl (.cells (.cons (.rfn (n := ((List.length s4.2.2.2.1) + (1 : Nat))) rfl tq) .nil))) (.cons (.old rfl rfl (.cells (.cons (.eqv tq rfl) .nil))) (.cons (.old rfl rfl (.cells (.cons (.eqv tq rfl) .nil))) (.cons (.old rfl rfl (.cells (.cast rfl tq (.app (.pl rfl pq) (.cons (.eqv rfl rfl) (.cons (.eqv rfl rfl) (.cons (.eqv rfl rfl) (.cons (.eqv rfl rfl) (.cons (.frzn rfl tq pq (by simp) rfl) .nil))))))))) .nil)))))))))
theorem pLay_B3_s1 (lba : Int) (b : List UInt8) (s4 : Bool × Int × List UInt8 × List Ex × List UInt8 × Int) (h8 : ((!s4.1)) = false) (h9 : (((List.length (List.flatMap Ex.cells s4.2.2.2.1)) = ((List.length s4.2.2.2.1) * (5 : Nat))) ∧ (((List.length s4.2.2.2.1) + (1 : Nat)) ≤ (4294967296 : Nat)))) (h10 : ((0 : Int) ≤ (wr (s4.2.1 * (32 : Int))))) (h11 : (((Int.toNat (wr (s4.2.1 * (32 : Int)))) ≤ (List.length s4.2.2.2.2.1)) ∧ (((List.length s4.2.2.2.2.1) ≤ (List.length s4.2.2.2.2.1)) ∧ ((List.length (List.map AV.y s4.2.2.2.2.1)) = ((List.length s4.2.2.2.2.1) * (1 : Nat)))))) : EvStep Try.prog cf 8 ((rfB Try.prog 11 0)) (pLay_B3_I lba b s4) (pLay_B3_S lba b s4 (((s4.2.2.2.1 ++ [(Ex.mk s4.2.2.2.2.2 s4.2.1 1 0 ([] : List UInt8))]), ((List.take (((List.length s4.2.2.2.2.1) - (Int.toNat (wr (s4.2.1 * (32 : Int))))) * (1 : Nat)) (List.drop ((Int.toNat (wr (s4.2.1 * (32 : Int)))) * (1 : Nat)) s4.2.2.2.2.1)), (wr (s4.2.2.2.2.2 + s4.2.1)))))) :=
  leafS vw_eq (k := 300) (r := []) (hs := hz [(8, [.cells ([(AV.i s4.2.2.2.2.2), (AV.i s4.2.1), (AV.i 1), (AV.i 0), AV.nl])]), (4, [.no]), (3, [.cells ([(AV.i s4.2.2.2.2.2), (AV.i s4.2.1), (AV.i 1), (AV.i 0), AV.nl])]), (1, [.cells ([(AV.i s4.2.2.2.2.2), (AV.i s4.2.1), (AV.i 1), (AV.i 0), AV.nl]), .cells ([(AV.i s4.2.2.2.2.2), (AV.i s4.2.1), (AV.i 1), (AV.i 0), AV.nl]), .yes, .yes]), (1, [.cells ([(AV.rf 10 5 0 ((List.length s4.2.2.2.1) + (1 : Nat)))])]), (12, [.yes, .yes]), (1, [.cells ([(AV.i (wr (s4.2.2.2.2.2 + s4.2.1)))])]), (1, [.cells ([(AV.sl ((List.length s4.2.2.2.2.1) - (Int.toNat (wr (s4.2.1 * (32 : Int))))) (List.take (((List.length s4.2.2.2.2.1) - (Int.toNat (wr (s4.2.1 * (32 : Int))))) * (1 : Nat)) (List.drop ((Int.toNat (wr (s4.2.1 * (32 : Int)))) * (1 : Nat)) (List.map AV.y s4.2.2.2.2.1))))]), .yes])]) (st1 := (St.mk [(0, (AV.i lba)), (1, (bys b)), (2, (AV.pt 0 0)), (3, (AV.pt 1 0)), (4, (AV.pt 2 0)), (5, (AV.i 0)), (27, (AV.b (decide ((wr (Int.tdiv (↑(List.length b) : Int) (32 : Int))) > (wr ((64 : Int) - lba)))))), (29, (AV.fn (40 : Nat) [(AV.pt 3 0)])), (30, (AV.ag [(AV.b s4.1), (AV.i s4.2.1)])), (6, (AV.pt 7 0)), (31, (AV.i s4.2.2.2.2.2)), (32, (AV.pt 7 1)), (33, (AV.i s4.2.1)), (34, (AV.ag [(AV.i s4.2.2.2.2.2), (AV.i s4.2.1), (AV.i 1), (AV.i 0), AV.nl])), (7, (AV.pt 8 0)), (35, (AV.pt 7 0)), (36, (AV.b s4.1)), (37, (AV.b (!s4.1))), (47, (AV.rf 6 5 0 (List.length s4.2.2.2.1))), (48, (AV.ag [(AV.i s4.2.2.2.2.2), (AV.i s4.2.1), (AV.i 1), (AV.i 0), AV.nl])), (49, (AV.rf 9 5 0 1)), (50, (AV.rf 10 5 0 ((List.length s4.2.2.2.1) + (1 : Nat)))), (51, (AV.i s4.2.2.2.2.2)), (52, (AV.pt 7 1)), (53, (AV.i s4.2.1)), (54, (AV.i (wr (s4.2.2.2.2.2 + s4.2.1)))), (55, (bys s4.2.2.2.2.1)), (56, (AV.pt 7 1)), (57, (AV.i s4.2.1)), (58, (AV.i (wr (s4.2.1 * (32 : Int))))), (59, (AV.sl ((List.length s4.2.2.2.2.1) - (Int.toNat (wr (s4.2.1 * (32 : Int))))) (List.take (((List.length s4.2.2.2.2.1) - (Int.toNat (wr (s4.2.1 * (32 : Int))))) * (1 : Nat)) (List.drop ((Int.toNat (wr (s4.2.1 * (32 : Int)))) * (1 : Nat)) (List.map AV.y s4.2.2.2.2.1)))))] 61 (AH.mk 11 [(10, (AObj.cells ((List.flatMap Ex.cells s4.2.2.2.1) ++ [(AV.i s4.2.2.2.2.2), (AV.i s4.2.1), (AV.i (Int.ofNat 1)), (AV.i (Int.ofNat 0)), AV.nl]))), (9, (AObj.cells [(AV.i s4.2.2.2.2.2), (AV.i s4.2.1), (AV.i 1), (AV.i 0), AV.nl])), (8, (AObj.cells [(AV.i s4.2.2.2.2.2), (AV.i s4.2.1), (AV.i 1), (AV.i 0), AV.nl])), (7, (AObj.cells [(AV.b s4.1), (AV.i s4.2.1)])), (5, (AObj.cells [(AV.b s4.1), (AV.i s4.2.1)])), (4, (AObj.loop Go.LoopState.busy Option.none [(0, (AV.i lba)), (1, (bys b)), (2, (AV.pt 0 0)), (3, (AV.pt 1 0)), (4, (AV.pt 2 0)), (5, (AV.i 0)), (27, (AV.b (decide ((wr (Int.tdiv (↑(List.length b) : Int) (32 : Int))) > (wr ((64 : Int) - lba)))))), (29, (AV.fn (40 : Nat) [(AV.pt 3 0)]))] 61 [(30 : Nat)] (rfA Try.prog 11 0) (rfB Try.prog 11 0))), (3, (AObj.cells [(bys s4.2.2.1)])), (2, (AObj.cells [(AV.rf 10 5 0 ((List.length s4.2.2.2.1) + (1 : Nat)))])), (1, (AObj.cells [(AV.sl ((List.length s4.2.2.2.2.1) - (Int.toNat (wr (s4.2.1 * (32 : Int))))) (List.take (((List.length s4.2.2.2.2.1) - (Int.toNat (wr (s4.2.1 * (32 : Int))))) * (1 : Nat)) (List.drop ((Int.toNat (wr (s4.2.1 * (32 : Int)))) * (1 : Nat)) (List.map AV.y s4.2.2.2.2.1))))])), (0, (AObj.cells [(AV.i (wr (s4.2.2.2.2.2 + s4.2.1)))])), (6, AObj.dead)]) Bool.true)) kq (ac (Eq.refl ([(AV.i s4.2.2.2.2.2), (AV.i s4.2.1), (AV.i 1), (AV.i 0), AV.nl] : List AV)) (ac h8 (ac (Eq.refl ([(AV.i s4.2.2.2.2.2), (AV.i s4.2.1), (AV.i 1), (AV.i 0), AV.nl] : List AV)) (ac (Eq.refl ([(AV.i s4.2.2.2.2.2), (AV.i s4.2.1), (AV.i 1), (AV.i 0), AV.nl] : List AV)) (ac (Eq.refl ([(AV.i s4.2.2.2.2.2), (AV.i s4.2.1), (AV.i 1), (AV.i 0), AV.nl] : List AV)) (ac (tq (p := (((0 : Nat) = (0 : Nat)) ∧ ((List.length [(AV.i s4.2.2.2.2.2), (AV.i s4.2.1), (AV.i (Int.ofNat 1)), (AV.i (Int.ofNat 0)), AV.nl]) = (5 : Nat))))) (ac h9 (ac (Eq.refl ([(AV.rf 10 5 0 ((List.length s4.2.2.2.1) + (1 : Nat)))] : List AV)) (ac h10 (ac h11 (ac (Eq.refl ([(AV.i (wr (s4.2.2.2.2.2 + s4.2.1)))] : List AV)) (ac (Eq.refl ([(AV.sl ((List.length s4.2.2.2.2.1) - (Int.toNat (wr (s4.2.1 * (32 : Int))))) (List.take (((List.length s4.2.2.2.2.1) - (Int.toNat (wr (s4.2.1 * (32 : Int))))) * (1 : Nat)) (List.drop ((Int.toNat (wr (s4.2.1 * (32 : Int)))) * (1 : Nat)) (List.map AV.y s4.2.2.2.2.1))))] : List AV)) (ac (show orderOk (rg Try.prog 11 0) = true ∧ allOk (Region.before (rg Try.prog 11 0)) [] 0 [(some [0], some []), (some [], some []), (some [7], some []), (some [], some []), (some [1], some []), (some [], some []), (some [7], some []), (some [], some []), (some [], some []), (some [0], some [0]), (some [1], some [1])] = true from (ord_of ord_11_0 bef_11_0 kq)) an))))))))))))) (Nat.le_of_ble_eq_true rfl) (absB_of [10] [] kq (.consn kq (.eqv tq rfl) (.consn kq (.eqv tq rfl) (.consn kq (.pt rfl) (.consn kq (.pt rfl) (.consn kq (.pt rfl) (.consn kq (.eqv tq rfl) (.consn kq (.eqv tq rfl) (.consn kq (.fn (.cons (.pt rfl) .nil)) (.consn kq (.agp pq) (.consn kq (.pt rfl) .nil)))))))))) (.cons (.old rfl rfl (.cells (.pl rfl pq))) (.cons (.old rfl rfl (.cells (.pl rfl pq))) (.cons (.old rfl rfl (.loop (.consn kq (.eqv tq rfl) (.consn kq (.eqv tq rfl) (.consn kq (.pt rfl) (.consn kq (.pt rfl) (.consn kq (.pt rfl) (.consn kq (.eqv tq rfl) (.consn kq (.eqv tq rfl) (.consn kq (.fn (.cons (.pt rfl) .nil)) .nil)))))))))) (.cons (.old rfl rfl (.cells (.cons (.eqv tq rfl) .nil))) (.cons (.old rfl rfl (.cells (.cons (.rfn (n := ((List.length s4.2.2.2.1) + (1 : Nat))) rfl tq) .nil))) (.cons (.old rfl rfl (.cells (.cons (.eqv tq rfl) .nil))) (.cons (.old rfl rfl (.cells (.cons (.eqv tq rfl) .nil))) (.cons (.old rfl rfl (.cells (.cast rfl tq (.app (.pl rfl pq) (.cons (.eqv rfl rfl) (.cons (.eqv rfl rfl) (.cons (.eqv rfl rfl) (.cons (.eqv rfl rfl) (.cons (.pur 1 rfl (by simp)) .nil))))))))) .nil)))))))))
theorem pLay_B3_ok (lba : Int) (b : List UInt8) (s4 : Bool × Int × List UInt8 × List Ex × List UInt8 × Int) (zz : List Ex × List UInt8 × Int) : pLay_B3 lba b s4 = some zz → EvStep Try.prog cf 8 ((rfB Try.prog 11 0)) (pLay_B3_I lba b s4) (pLay_B3_S lba b s4 zz) := by
  unfold pLay_B3
  refine tb_ok (fun h8 => ?_) (fun h8 => ?_)
  ·
    refine tp_ok (fun h9 => ?_)
    refine tp_ok (fun h10 => ?_)
    refine tp_ok (fun h11 => ?_)
    refine tp_ok (fun h12 => ?_)
    exact fun e => tl_ok (G := (fun zz => EvStep Try.prog cf 8 ((rfB Try.prog 11 0)) (pLay_B3_I lba b s4) (pLay_B3_S lba b s4 zz))) (pLay_B3_s0 lba b s4 h8 h9 h10 h11 h12) e
  ·
    refine tp_ok (fun h9 => ?_)
    refine tp_ok (fun h10 => ?_)
    refine tp_ok (fun h11 => ?_)
    exact fun e => tl_ok (G := (fun zz => EvStep Try.prog cf 8 ((rfB Try.prog 11 0)) (pLay_B3_I lba b s4) (pLay_B3_S lba b s4 zz))) (pLay_B3_s1 lba b s4 h8 h9 h10 h11) e
noncomputable def pLay (lba : Int) (b : List UInt8) : Option (List Ex × Int) :=
 (tb (((Int.tmod (↑(List.length b) : Int) (32 : Int)) != (0 : Int)))
  (some ((([] : List Ex), (150 : Int))))
  (tb ((decide (lba < (0 : Int))))
   (some ((([] : List Ex), (150 : Int))))
   (tb ((decide (lba > (64 : Int))))
    (some ((([] : List Ex), (150 : Int))))
    (tb ((decide ((wr (Int.tdiv (↑(List.length b) : Int) (32 : Int))) > (wr ((64 : Int) - lba)))))
     (some ((([] : List Ex), (150 : Int))))
     (th (pLay_L0_step lba b) ((Bool.false, ((0 : Int), (b, (([] : List Ex), (b, lba)))))) fun s4 =>
      (tb ((decide ((↑(List.length s4.2.2.1) : Int) ≥ (32 : Int))))
       none /- STOP -/
       (tb ((decide (s4.2.1 > (0 : Int))))
        (tc (pLay_B3 lba b s4) fun s7 =>
         (tp ((((0 : Nat) = (0 : Nat)) ∧ ((List.length (List.flatMap Ex.cells s7.1)) = ((List.length s7.1) * (5 : Nat)))))
          (some ((s7.1, (0 : Int))))))
        (tp ((((0 : Nat) = (0 : Nat)) ∧ ((List.length (List.flatMap Ex.cells s4.2.2.2.1)) = ((List.length s4.2.2.2.1) * (5 : Nat)))))
         (some ((s4.2.2.2.1, (0 : Int))))))))))))
abbrev pLay_G (lba : Int) (b : List UInt8) (r : List Ex × Int) : Prop := EvOw Try.prog cf false [[5], []] 11 [.i (lba), bys (b)] (.tu [exs (r.1), .i (r.2)])
theorem pLay_l0 (lba : Int) (b : List UInt8) (h0 : (((Int.tmod (↑(List.length b) : Int) (32 : Int)) != (0 : Int))) = true) (h0p : ¬ ((Int.tmod (↑(List.length b) : Int) (32 : Int)) = (0 : Int))) : pLay_G lba b ((([] : List Ex), (150 : Int))) :=
  leafO vw_eq (k := 300) (r := []) (hs := hz [(10, [.yes, .yes, .yes]), (14, [.cells ([AV.nl])]), (1, [])]) (R := fun H => ((AV.tu [(AV.rf (AH.nx H) 5 0 0), (AV.i 150)]), (AH.mk ((AH.nx H) + (1 : Nat)) (((AH.nx H), (AObj.cells ([] : List AV))) :: (AH.l H))))) (fun H => kq) (ac h0 (ac h0 (ac h0 (ac (Eq.refl ([AV.nl] : List AV)) an)))) (fun H => oq)
theorem pLay_l1 (lba : Int) (b : List UInt8) (h0 : (((Int.tmod (↑(List.length b) : Int) (32 : Int)) != (0 : Int))) = false) (h0p : ((Int.tmod (↑(List.length b) : Int) (32 : Int)) = (0 : Int))) (h1 : ((decide (lba < (0 : Int)))) = true) (h1p : (lba < (0 : Int))) : pLay_G lba b ((([] : List Ex), (150 : Int))) :=
  leafO vw_eq (k := 300) (r := []) (hs := hz [(10, [.no]), (2, [.no]), (1, [.no]), (1, [.yes, .yes, .yes]), (10, [.cells ([AV.nl])]), (1, [])]) (R := fun H => ((AV.tu [(AV.rf (AH.nx H) 5 0 0), (AV.i 150)]), (AH.mk ((AH.nx H) + (1 : Nat)) (((AH.nx H), (AObj.cells ([] : List AV))) :: (AH.l H))))) (fun H => kq) (ac h0 (ac h0 (ac h0 (ac h1 (ac h1 (ac h1 (ac (Eq.refl ([AV.nl] : List AV)) an))))))) (fun H => oq)
theorem pLay_l2 (lba : Int) (b : List UInt8) (h0 : (((Int.tmod (↑(List.length b) : Int) (32 : Int)) != (0 : Int))) = false) (h0p : ((Int.tmod (↑(List.length b) : Int) (32 : Int)) = (0 : Int))) (h1 : ((decide (lba < (0 : Int)))) = false) (h1p : ¬ (lba < (0 : Int))) (h2 : ((decide (lba > (64 : Int)))) = true) (h2p : (lba > (64 : Int))) : pLay_G lba b ((([] : List Ex), (150 : Int))) :=
  leafO vw_eq (k := 300) (r := []) (hs := hz [(10, [.no]), (2, [.no]), (1, [.no]), (1, [.no]), (2, [.no]), (1, [.no]), (1, [.yes, .yes, .yes, .yes, .yes, .yes, .yes]), (2, [.cells ([AV.nl])]), (1, [])]) (R := fun H => ((AV.tu [(AV.rf (AH.nx H) 5 0 0), (AV.i 150)]), (AH.mk ((AH.nx H) + (1 : Nat)) (((AH.nx H), (AObj.cells ([] : List AV))) :: (AH.l H))))) (fun H => kq) (ac h0 (ac h0 (ac h0 (ac h1 (ac h1 (ac h1 (ac h2 (ac h2 (ac h2 (ac h2 (ac h2 (ac h2 (ac h2 (ac (Eq.refl ([AV.nl] : List AV)) an)))))))))))))) (fun H => oq)
theorem pLay_l3 (lba : Int) (b : List UInt8) (h0 : (((Int.tmod (↑(List.length b) : Int) (32 : Int)) != (0 : Int))) = false) (h0p : ((Int.tmod (↑(List.length b) : Int) (32 : Int)) = (0 : Int))) (h1 : ((decide (lba < (0 : Int)))) = false) (h1p : ¬ (lba < (0 : Int))) (h2 : ((decide (lba > (64 : Int)))) = false) (h2p : ¬ (lba > (64 : Int))) (h3 : ((decide ((wr (Int.tdiv (↑(List.length b) : Int) (32 : Int))) > (wr ((64 : Int) - lba))))) = true) (h3p : ((wr (Int.tdiv (↑(List.length b) : Int) (32 : Int))) > (wr ((64 : Int) - lba)))) : pLay_G lba b ((([] : List Ex), (150 : Int))) :=
  leafO vw_eq (k := 300) (r := []) (hs := hz [(10, [.no]), (2, [.no]), (1, [.no]), (1, [.no]), (2, [.no]), (1, [.no]), (1, [.no]), (2, [.no]), (1, [.no]), (1, [.no]), (2, [.no]), (1, [.no]), (1, [.no, .yes]), (1, [.cells ([AV.nl])]), (1, [])]) (R := fun H => ((AV.tu [(AV.rf (AH.nx H) 5 0 0), (AV.i 150)]), (AH.mk ((AH.nx H) + (1 : Nat)) (((AH.nx H), (AObj.cells ([] : List AV))) :: (AH.l H))))) (fun H => kq) (ac h0 (ac h0 (ac h0 (ac h1 (ac h1 (ac h1 (ac h2 (ac h2 (ac h2 (ac h2 (ac h2 (ac h2 (ac h2 (ac h3 (ac (Eq.refl ([AV.nl] : List AV)) an))))))))))))))) (fun H => oq)
theorem pLay_l4 (lba : Int) (b : List UInt8) (h0 : (((Int.tmod (↑(List.length b) : Int) (32 : Int)) != (0 : Int))) = false) (h0p : ((Int.tmod (↑(List.length b) : Int) (32 : Int)) = (0 : Int))) (h1 : ((decide (lba < (0 : Int)))) = false) (h1p : ¬ (lba < (0 : Int))) (h2 : ((decide (lba > (64 : Int)))) = false) (h2p : ¬ (lba > (64 : Int))) (h3 : ((decide ((wr (Int.tdiv (↑(List.length b) : Int) (32 : Int))) > (wr ((64 : Int) - lba))))) = false) (h3p : ¬ ((wr (Int.tdiv (↑(List.length b) : Int) (32 : Int))) > (wr ((64 : Int) - lba)))) (s4 : Bool × Int × List UInt8 × List Ex × List UInt8 × Int) (h4 : Runs (pLay_L0_step lba b) ((Bool.false, ((0 : Int), (b, (([] : List Ex), (b, lba)))))) s4) (h5 : ((decide ((↑(List.length s4.2.2.1) : Int) ≥ (32 : Int)))) = false) (h5p : ¬ ((↑(List.length s4.2.2.1) : Int) ≥ (32 : Int))) (h6 : ((decide (s4.2.1 > (0 : Int)))) = true) (h6p : (s4.2.1 > (0 : Int))) (s7 : List Ex × List UInt8 × Int) (h7 : pLay_B3 lba b s4 = some s7) (h8 : (((0 : Nat) = (0 : Nat)) ∧ ((List.length (List.flatMap Ex.cells s7.1)) = ((List.length s7.1) * (5 : Nat))))) : pLay_G lba b ((s7.1, (0 : Int))) :=
  leafO vw_eq (k := 300) (r := []) (hs := hz [(10, [.no]), (2, [.no]), (1, [.no]), (1, [.no]), (2, [.no]), (1, [.no]), (1, [.no]), (2, [.no]), (1, [.no]), (1, [.no]), (2, [.no]), (1, [.no]), (1, [.no, .no]), (8, [.head (pLay_L0_S lba b s4)]), (4, [.no]), (4, [.yes]), (2, [.cells ([(AV.b s4.1), (AV.i s4.2.1)])]), (3, [.cells ([(AV.b s4.1), (AV.i s4.2.1)]), .res .normal (pLay_B3_S lba b s4 s7)]), (3, [.cells ([(AV.rf 8 5 0 (List.length s7.1))])]), (1, [.yes, .yes])]) (R := fun H => ((AV.tu [(AV.rf (AH.nx H) 5 0 (List.length s7.1)), (AV.i 0)]), (AH.mk ((AH.nx H) + (1 : Nat)) (((AH.nx H), (AObj.cells (List.flatMap Ex.cells s7.1))) :: (AH.l H))))) (fun H => kq) (ac h0 (ac h0 (ac h0 (ac h1 (ac h1 (ac h1 (ac h2 (ac h2 (ac h2 (ac h2 (ac h2 (ac h2 (ac h2 (ac h3 (ac (show EvHead Try.prog cf (lp Try.prog 40 0) (pLay_L0_I lba b) (pLay_L0_S lba b s4) from (EvHead.of (pLay_L0_ok lba b) (absB_of [6] [] kq (.consn kq (.yl rfl) (.consn kq (.pt rfl) (.consn kq (.pt rfl) .nil))) (.cons (.old rfl rfl (.cells (.cons (.eqv tq rfl) (.cons (.eqv tq rfl) .nil)))) (.cons (.old rfl rfl (.loop (.consn kq (.eqv tq rfl) (.consn kq (.eqv tq rfl) (.consn kq (.pt rfl) (.consn kq (.pt rfl) (.consn kq (.pt rfl) (.consn kq (.eqv tq rfl) (.consn kq (.eqv tq rfl) (.consn kq (.fn (.cons (.pt rfl) .nil)) .nil)))))))))) (.cons (.old rfl rfl (.cells (.cons (.eqv tq rfl) .nil))) (.cons (.old rfl rfl (.cells (.cons (.nln tq) .nil))) (.cons (.old rfl rfl (.cells (.cons (.eqv tq rfl) .nil))) (.cons (.old rfl rfl (.cells (.cons (.eqv tq rfl) .nil))) (.cons (.none rfl (Nat.le_refl _) rfl) .nil)))))))) h4)) (ac h5 (ac h6 (ac (Eq.refl ([(AV.b s4.1), (AV.i s4.2.1)] : List AV)) (ac (Eq.refl ([(AV.b s4.1), (AV.i s4.2.1)] : List AV)) (ac (show Ev Try.prog cf ((rfB Try.prog 11 0)) (pLay_B3_I lba b s4) (.normal, pLay_B3_S lba b s4 s7) from (EvStep.ev (pLay_B3_ok lba b s4 _ h7) rfl)) (ac (Eq.refl ([(AV.rf 8 5 0 (List.length s7.1))] : List AV)) (ac h8 (ac (pq (p := Pl Bool.false ((List.flatMap Ex.cells s7.1)))) an))))))))))))))))))))))) (fun H => oq)
theorem pLay_l5 (lba : Int) (b : List UInt8) (h0 : (((Int.tmod (↑(List.length b) : Int) (32 : Int)) != (0 : Int))) = false) (h0p : ((Int.tmod (↑(List.length b) : Int) (32 : Int)) = (0 : Int))) (h1 : ((decide (lba < (0 : Int)))) = false) (h1p : ¬ (lba < (0 : Int))) (h2 : ((decide (lba > (64 : Int)))) = false) (h2p : ¬ (lba > (64 : Int))) (h3 : ((decide ((wr (Int.tdiv (↑(List.length b) : Int) (32 : Int))) > (wr ((64 : Int) - lba))))) = false) (h3p : ¬ ((wr (Int.tdiv (↑(List.length b) : Int) (32 : Int))) > (wr ((64 : Int) - lba)))) (s4 : Bool × Int × List UInt8 × List Ex × List UInt8 × Int) (h4 : Runs (pLay_L0_step lba b) ((Bool.false, ((0 : Int), (b, (([] : List Ex), (b, lba)))))) s4) (h5 : ((decide ((↑(List.length s4.2.2.1) : Int) ≥ (32 : Int)))) = false) (h5p : ¬ ((↑(List.length s4.2.2.1) : Int) ≥ (32 : Int))) (h6 : ((decide (s4.2.1 > (0 : Int)))) = false) (h6p : ¬ (s4.2.1 > (0 : Int))) (h7 : (((0 : Nat) = (0 : Nat)) ∧ ((List.length (List.flatMap Ex.cells s4.2.2.2.1)) = ((List.length s4.2.2.2.1) * (5 : Nat))))) : pLay_G lba b ((s4.2.2.2.1, (0 : Int))) :=
  leafO vw_eq (k := 300) (r := []) (hs := hz [(10, [.no]), (2, [.no]), (1, [.no]), (1, [.no]), (2, [.no]), (1, [.no]), (1, [.no]), (2, [.no]), (1, [.no]), (1, [.no]), (2, [.no]), (1, [.no]), (1, [.no, .no]), (8, [.head (pLay_L0_S lba b s4)]), (4, [.no]), (4, [.no]), (3, [.cells ([(AV.rf 6 5 0 (List.length s4.2.2.2.1))])]), (1, [.yes, .yes])]) (R := fun H => ((AV.tu [(AV.rf (AH.nx H) 5 0 (List.length s4.2.2.2.1)), (AV.i 0)]), (AH.mk ((AH.nx H) + (1 : Nat)) (((AH.nx H), (AObj.cells (List.flatMap Ex.cells s4.2.2.2.1))) :: (AH.l H))))) (fun H => kq) (ac h0 (ac h0 (ac h0 (ac h1 (ac h1 (ac h1 (ac h2 (ac h2 (ac h2 (ac h2 (ac h2 (ac h2 (ac h2 (ac h3 (ac (show EvHead Try.prog cf (lp Try.prog 40 0) (pLay_L0_I lba b) (pLay_L0_S lba b s4) from (EvHead.of (pLay_L0_ok lba b) (absB_of [6] [] kq (.consn kq (.yl rfl) (.consn kq (.pt rfl) (.consn kq (.pt rfl) .nil))) (.cons (.old rfl rfl (.cells (.cons (.eqv tq rfl) (.cons (.eqv tq rfl) .nil)))) (.cons (.old rfl rfl (.loop (.consn kq (.eqv tq rfl) (.consn kq (.eqv tq rfl) (.consn kq (.pt rfl) (.consn kq (.pt rfl) (.consn kq (.pt rfl) (.consn kq (.eqv tq rfl) (.consn kq (.eqv tq rfl) (.consn kq (.fn (.cons (.pt rfl) .nil)) .nil)))))))))) (.cons (.old rfl rfl (.cells (.cons (.eqv tq rfl) .nil))) (.cons (.old rfl rfl (.cells (.cons (.nln tq) .nil))) (.cons (.old rfl rfl (.cells (.cons (.eqv tq rfl) .nil))) (.cons (.old rfl rfl (.cells (.cons (.eqv tq rfl) .nil))) (.cons (.none rfl (Nat.le_refl _) rfl) .nil)))))))) h4)) (ac h5 (ac h6 (ac (Eq.refl ([(AV.rf 6 5 0 (List.length s4.2.2.2.1))] : List AV)) (ac h7 (ac (pq (p := Pl Bool.false ((List.flatMap Ex.cells s4.2.2.2.1)))) an)))))))))))))))))))) (fun H => oq)
theorem pLay_ok (lba : Int) (b : List UInt8) (r : List Ex × Int) : pLay lba b = some r → pLay_G lba b r := by
  unfold pLay
  refine tb_ok (fun h0 => ?_) (fun h0 => ?_)
  ·
    have h0p := bne_iff_ne.1 h0
    exact fun e => tl_ok (G := pLay_G lba b) (pLay_l0 lba b h0 h0p) e
  ·
    have h0p := bne_eq_false_iff_eq.1 h0
    refine tb_ok (fun h1 => ?_) (fun h1 => ?_)
    ·
      have h1p := of_decide_eq_true h1
      exact fun e => tl_ok (G := pLay_G lba b) (pLay_l1 lba b h0 h0p h1 h1p) e
    ·
      have h1p := of_decide_eq_false h1
      refine tb_ok (fun h2 => ?_) (fun h2 => ?_)
      ·
        have h2p := of_decide_eq_true h2
        exact fun e => tl_ok (G := pLay_G lba b) (pLay_l2 lba b h0 h0p h1 h1p h2 h2p) e
      ·
        have h2p := of_decide_eq_false h2
        refine tb_ok (fun h3 => ?_) (fun h3 => ?_)
        ·
          have h3p := of_decide_eq_true h3
          exact fun e => tl_ok (G := pLay_G lba b) (pLay_l3 lba b h0 h0p h1 h1p h2 h2p h3 h3p) e
        ·
          have h3p := of_decide_eq_false h3
          refine th_ok (fun s4 h4 => ?_)
          refine tb_ok (fun h5 => ?_) (fun h5 => ?_)
          ·
            have h5p := of_decide_eq_true h5
            exact fun e => nomatch e
          ·
            have h5p := of_decide_eq_false h5
            refine tb_ok (fun h6 => ?_) (fun h6 => ?_)
            ·
              have h6p := of_decide_eq_true h6
              refine tc_ok (fun s7 h7 => ?_)
              refine tp_ok (fun h8 => ?_)
              exact fun e => tl_ok (G := pLay_G lba b) (pLay_l4 lba b h0 h0p h1 h1p h2 h2p h3 h3p s4 h4 h5 h5p h6 h6p s7 h7 h8) e
            ·
              have h6p := of_decide_eq_false h6
              refine tp_ok (fun h7 => ?_)
              exact fun e => tl_ok (G := pLay_G lba b) (pLay_l5 lba b h0 h0p h1 h1p h2 h2p h3 h3p s4 h4 h5 h5p h6 h6p h7) e
end Ab
end Go.Proofs.Ytiaelfmohamipaa
namespace Go.Proofs.Ytiaelfmohamipaa
open Go Go.Proofs.Ytiaelfmohamipaa.Ab
set_option linter.unusedVariables false
set_option linter.unusedSimpArgs false
namespace Ab
def isz (b : List UInt8) : Bool := b.all (· == 0)
theorem isz_iff (b : List UInt8) : (∀ i, i < b.length → b.getD i 0 = 0) ↔ isz b = true := by
  rw [getD_all 0 b (fun x => x = 0)]; unfold isz; simp
theorem u0 (x : UInt8) : ((x.toNat : Int) = 0) ↔ x = 0 := by
  constructor
  · intro h; exact UInt8.toNat_inj.1 (by simpa using h)
  · rintro rfl; rfl
theorem pIs_eq (b : List UInt8) (h : b.length ≤ 4294967296) : pIs b = some (isz b) := by
  unfold pIs
  rw [th_all (some false) (some true) b.length (fun i => b.getD i 0 = 0) (isz b = true) (isz_iff b)]
  · cases isz b <;> rfl
  · intro i hi hp
    unfold pIs_L0_step
    simp only [tb_dec, tb_bne, Int.toNat_natCast, Nat.mul_one]
    have := (u0 _).2 hp
    rw [if_pos (by omega), tp_pos (by omega), if_pos this, wr_id (by omega) (by omega)]
  · intro i hi hp
    unfold pIs_L0_step
    simp only [tb_dec, tb_bne, Int.toNat_natCast, Nat.mul_one]
    have hn : ¬ (((b.getD i 0).toNat : Int) = 0) := fun h => hp ((u0 _).1 h)
    rw [if_pos (by omega), tp_pos (by omega), if_neg hn, if_pos (by omega), tp_pos (by omega), if_neg hn]
    exact ⟨rfl, rfl⟩
  · unfold pIs_L0_step
    simp only [tb_dec]
    rw [if_neg (by omega), if_neg (by omega)]
    exact ⟨rfl, rfl⟩
theorem isz_zb {b : List UInt8} (h : b.length = 32) : isz b = zb b := by
  unfold isz zb
  rw [Bool.eq_iff_iff, List.all_eq_true, beq_iff_eq, List.eq_replicate_iff]
  simp [h]
end Ab
end Go.Proofs.Ytiaelfmohamipaa
namespace Go.Proofs.Ytiaelfmohamipaa
open Go Go.Proofs.Ytiaelfmohamipaa.Ab
set_option linter.unusedVariables false
set_option linter.unusedSimpArgs false
namespace Ab
def mkx (lba : Int) (b : List UInt8) (c : Bool) (n : Int) : Ex := if c = true then ⟨lba, n, 1, 0, []⟩ else ⟨lba, n, 2, 0, b.take (32 * n).toNat⟩
def ly : Int → List UInt8 → Bool → Int → List Bool → List Ex
  | lba, b, c, n, [] => if n = 0 then [] else [mkx lba b c n]
  | lba, b, c, n, z :: zs => if z = c then ly lba b c (n + 1) zs else if n = 0 then ly lba b z 1 zs else mkx lba b c n :: ly (lba + n) (b.drop (32 * n).toNat) z 1 zs
def Lo (lba : Int) (b : List UInt8) : Prop := b.length % 32 = 0 ∧ 0 ≤ lba ∧ lba ≤ 64 ∧ (b.length : Int) / 32 ≤ 64 - lba
instance (lba : Int) (b : List UInt8) : Decidable (Lo lba b) := by unfold Lo; infer_instance
def lay (lba : Int) (b : List UInt8) : List Ex × Int := if Lo lba b then (ly lba b false 0 (flags b), 0) else ([], 150)
theorem tdiv32 (n : Nat) : Int.tdiv (n : Int) 32 = (n : Int) / 32 := Int.tdiv_eq_ediv_of_nonneg (by omega)
theorem pLay_B1_eq (lba0 : Int) (b0 : List UInt8) (c : Bool) (n : Int) (b' : List UInt8) (out : List Ex) (bc : List UInt8) (lba : Int) (h1 : 0 ≤ n) (h2 : n ≤ 64) (h3 : 32 * n ≤ bc.length) (h4 : 0 ≤ lba) (h5 : lba ≤ 64) (h6 : out.length ≤ 64) :
    pLay_B1 lba0 b0 (c, n, b', out, bc, lba) = some (out ++ [mkx lba bc c n], bc.drop (32 * n).toNat, lba + n) := by
  unfold pLay_B1
  simp only [tb_not]
  have w1 : wr (n * 32) = 32 * n := by rw [wr_id (by omega) (by omega)]; omega
  have w2 : wr (lba + n) = lba + n := wr_id (by omega) (by omega)
  rw [w1, w2]
  have hr : List.take ((bc.length - (32 * n).toNat) * 1) (bc.drop ((32 * n).toNat * 1)) = bc.drop (32 * n).toNat := by rw [Nat.mul_one, Nat.mul_one]; exact List.take_of_length_le (by simp)
  rw [hr]
  cases c with
  | true =>
    rw [tb_t, tp_pos ⟨exs_len _, by omega⟩, tp_pos (by omega), tp_pos (by rw [List.length_map]; omega)]
    rfl
  | false =>
    rw [tb_f, tp_pos (by omega), tp_pos (by rw [List.length_map]; omega), tp_pos (by omega), tp_pos ⟨exs_len _, by omega⟩]
    simp [mkx, List.take_take]
theorem pLay_B3_eq (lba0 : Int) (b0 : List UInt8) (c : Bool) (n : Int) (b' : List UInt8) (out : List Ex) (bc : List UInt8) (lba : Int) (h1 : 0 ≤ n) (h2 : n ≤ 64) (h3 : 32 * n ≤ bc.length) (h4 : 0 ≤ lba) (h5 : lba ≤ 64) (h6 : out.length ≤ 64) :
    pLay_B3 lba0 b0 (c, n, b', out, bc, lba) = some (out ++ [mkx lba bc c n], bc.drop (32 * n).toNat, lba + n) := pLay_B1_eq lba0 b0 c n b' out bc lba h1 h2 h3 h4 h5 h6
theorem pLay_eq (lba : Int) (b : List UInt8) (hb : b.length ≤ 4294967000) : pLay lba b = some (lay lba b) := by
  unfold pLay lay
  simp only [tb_bne, tb_dec, tdiv32]
  by_cases hm : b.length % 32 = 0
  case neg => rw [if_neg (fun h => hm ((tmod32 _).1 h)), if_neg fun h => hm h.1]
  rw [if_pos ((tmod32 _).2 hm)]
  by_cases h1 : lba < 0
  case pos => rw [if_pos h1, if_neg fun h => by have := h.2.1; omega]
  by_cases h2 : lba > 64
  case pos => rw [if_neg h1, if_pos h2, if_neg fun h => by have := h.2.2.1; omega]
  rw [if_neg h1, if_neg h2, wr_id (x := 64 - lba) (by omega) (by omega), wr_id (x := (b.length : Int) / 32) (by omega) (by omega)]
  by_cases h3 : (b.length : Int) / 32 > 64 - lba
  case pos => rw [if_pos h3, if_neg fun h => by have := h.2.2.2; omega]
  rw [if_neg h3, if_pos ⟨hm, by omega, by omega, by omega⟩]
  rw [th_rec (fun s : Bool × Int × List UInt8 × List Ex × List UInt8 × Int => some (s.2.2.2.1 ++ ly s.2.2.2.2.2 s.2.2.2.2.1 s.1 s.2.1 (flags s.2.2.1), (0 : Int)))
    (fun s => 0 ≤ s.2.1 ∧ (s.2.2.2.2.1.length : Int) = 32 * s.2.1 + s.2.2.1.length ∧ 0 ≤ s.2.2.2.2.2 ∧ s.2.2.2.2.2 + s.2.1 + (s.2.2.1.length : Int) / 32 ≤ 64 ∧ (s.2.2.2.1.length : Int) ≤ s.2.2.2.2.2) (fun s => s.2.2.1.length)]
  · simp
  · exact ⟨by simp, by simp, by simp only; omega, by simp only; omega, by simp only [List.length_nil]; omega⟩
  rintro ⟨c, n, b', out, bc, lb⟩ ⟨i1, i2, i3, i4, i5⟩
  simp only at i1 i2 i3 i4 i5 ⊢
  unfold pLay_L0_step
  rw [pLay_B1_eq _ _ _ _ _ _ _ _ i1 (by omega) (by omega) i3 (by omega) (by omega), pLay_B3_eq _ _ _ _ _ _ _ _ i1 (by omega) (by omega) i3 (by omega) (by omega)]
  simp only [tb_dec, zb_eq, rest_eq, tc_some]
  have hw : wr (n + 1) = n + 1 := wr_id (by omega) (by omega)
  rw [hw]
  by_cases hl : (b'.length : Int) ≥ 32
  · left
    have hzb : (pad 32 b' == List.replicate 32 (UInt8.ofNat 0)) = zb (b'.take 32) := by
      unfold zb pad; rw [List.take_append_of_le_length (by omega)]; rfl
    rw [if_pos hl]
    simp only [hzb]
    have hf := flags_cons (b := b') (by omega)
    have hdl : (b'.drop 32).length = b'.length - 32 := List.length_drop
    rw [hf]
    by_cases hz : zb (b'.take 32) = c
    · have e1 : (!(zb (b'.take 32) == c)) = false := by rw [hz]; simp
      rw [e1, tb_f]
      refine ⟨_, rfl, ⟨by simp only; omega, by simp only [hdl]; omega, i3, by simp only [hdl]; omega, i5⟩, by simp only [hdl]; omega, ?_⟩
      simp only [ly]
      rw [if_pos hz, hz]
    · have e1 : (!(zb (b'.take 32) == c)) = true := by simp [hz]
      rw [e1, tb_t]
      by_cases hn : n > 0
      · rw [if_pos hn]
        refine ⟨_, rfl, ⟨by simp, by simp only [hdl, List.length_drop]; omega, by simp only; omega, by simp only [hdl]; omega, by simp only [List.length_append, List.length_singleton]; omega⟩, by simp only [hdl]; omega, ?_⟩
        simp only [ly]
        rw [if_neg hz, if_neg (show ¬ n = 0 by omega)]
        simp
      · rw [if_neg hn]
        have hn0 : n = 0 := by omega
        subst hn0
        refine ⟨_, rfl, ⟨by simp, by simp only [hdl]; omega, i3, by simp only [hdl]; omega, i5⟩, by simp only [hdl]; omega, ?_⟩
        simp only [ly]
        rw [if_neg hz, if_pos trivial]
        rfl
  · right
    rw [if_neg hl, if_neg hl, flags_nil (b := b') (by omega)]
    refine ⟨rfl, ?_⟩
    simp only [ly]
    by_cases hn : n > 0
    · rw [if_pos hn, tp_pos (by first | exact ⟨rfl, exs_len _⟩ | exact ⟨trivial, exs_len _⟩), if_neg (show ¬ n = 0 by omega)]
    · rw [if_neg hn, tp_pos (by first | exact ⟨rfl, exs_len _⟩ | exact ⟨trivial, exs_len _⟩), if_pos (show n = 0 by omega), List.append_nil]
end Ab
end Go.Proofs.Ytiaelfmohamipaa
