/- The law 'SendMakes': it returns true, and nothing that was there changes. No condition. (Part 10 of 12.) -/
import Derived.Test.YtpflcogplhigcaaSm9
import Derived.Test.YtpflcogplhigcaaRows
namespace Go.Proofs.Ytpflcogplhigcaa
open Go Go.Proofs.Ytpflcogplhigcaa.Ab
set_option linter.unusedVariables false
set_option linter.unusedSimpArgs false
set_option maxRecDepth 1000000
set_option maxHeartbeats 0
namespace Ab
noncomputable abbrev vCheck_L1_I (s : Sm) (s7 : Int × Int) (s10 : Bool) (s16 : Bool) : St := (St.mk [(0, (AV.ag [(AV.i s.blocks), (AV.i s.parent), (AV.i s.target), (exs s.list)])), (1, (AV.pt 0 0)), (42, (AV.b (decide ((s.list.length : Int) > (64 : Int))))), (3, (AV.i (wr ((exAt s.list s7.2.toNat).lba + (exAt s.list s7.2.toNat).len)))), (44, (exs s.list)), (45, (AV.i (s.list.length : Int))), (46, (AV.i s7.2)), (47, (AV.b (decide (s7.2 < (s.list.length : Int))))), (48, (AV.i s7.2)), (49, (AV.ip (List.drop (s7.2.toNat * 5) (s.list.flatMap Ex.cells)))), (50, (AV.ag (xc (exAt s.list s7.2.toNat)))), (5, (AV.pt 1 0)), (4, (AV.i s7.2)), (51, (AV.ag (xc (exAt s.list s7.2.toNat)))), (52, (AV.b s10)), (53, (AV.b (!s10))), (54, (AV.b (!s10))), (55, (AV.pt 1 3)), (56, (AV.i (exAt s.list s7.2.toNat).gen)), (57, (AV.b ((exAt s.list s7.2.toNat).gen != (0 : Int)))), (58, (AV.b ((exAt s.list s7.2.toNat).gen != (0 : Int)))), (59, (AV.b ((exAt s.list s7.2.toNat).gen != (0 : Int)))), (60, (AV.pt 1 0)), (61, (AV.i (exAt s.list s7.2.toNat).lba)), (62, (AV.i s7.1)), (63, (AV.b (decide ((exAt s.list s7.2.toNat).lba < s7.1)))), (64, (AV.b (decide ((exAt s.list s7.2.toNat).lba < s7.1)))), (65, (AV.b (decide ((exAt s.list s7.2.toNat).lba < s7.1)))), (66, (AV.i s7.2)), (67, (AV.b (decide (s7.2 > (0 : Int))))), (68, (AV.b (decide (s7.2 > (0 : Int))))), (69, (AV.pt 0 3)), (70, (exs s.list)), (71, (AV.i s7.2)), (72, (AV.i (wr (s7.2 - (1 : Int))))), (73, (AV.ip (List.drop ((Int.toNat (wr (s7.2 - (1 : Int)))) * 5) (s.list.flatMap Ex.cells)))), (74, (AV.ag (xc (exAt s.list (Int.toNat (wr (s7.2 - (1 : Int)))))))), (75, (AV.ag (xc (exAt s.list s7.2.toNat)))), (76, (AV.b s16)), (77, (AV.b s16)), (78, (AV.b s16)), (79, (AV.pt 1 0)), (80, (AV.i (exAt s.list s7.2.toNat).lba)), (81, (AV.pt 1 1)), (82, (AV.i (exAt s.list s7.2.toNat).len)), (83, (AV.i (wr ((exAt s.list s7.2.toNat).lba + (exAt s.list s7.2.toNat).len)))), (84, (AV.pt 1 4)), (85, (bys (exAt s.list s7.2.toNat).d)), (6, (bys (exAt s.list s7.2.toNat).d))] 99 (AH.mk 2 [(1, (AObj.cells (xc (exAt s.list s7.2.toNat)))), (0, (AObj.cells [(AV.i s.blocks), (AV.i s.parent), (AV.i s.target), (exs s.list)]))]) false)
noncomputable abbrev vCheck_L1_S (s : Sm) (s7 : Int × Int) (s10 : Bool) (s16 : Bool) (s18 : List UInt8) : St := (St.mk [(0, (AV.ag [(AV.i s.blocks), (AV.i s.parent), (AV.i s.target), (exs s.list)])), (1, (AV.pt 0 0)), (42, (AV.b (decide ((s.list.length : Int) > (64 : Int))))), (3, (AV.i (wr ((exAt s.list s7.2.toNat).lba + (exAt s.list s7.2.toNat).len)))), (44, (exs s.list)), (45, (AV.i (s.list.length : Int))), (46, (AV.i s7.2)), (47, (AV.b (decide (s7.2 < (s.list.length : Int))))), (5, (AV.pt 1 0)), (4, (AV.i s7.2)), (78, (AV.b s16)), (6, (bys s18))] 99 (AH.mk 2 [(1, (AObj.cells (xc (exAt s.list s7.2.toNat)))), (0, (AObj.cells [(AV.i s.blocks), (AV.i s.parent), (AV.i s.target), (exs s.list)]))]) false)
noncomputable def vCheck_L1_step (s : Sm) (s7 : Int × Int) (s10 : Bool) (s16 : Bool) (s18 : List UInt8) : Option (List UInt8) :=
 (tb ((decide ((s18.length : Int) ≥ (32 : Int)))) (tc (pIs ((List.take 32 s18))) fun s20 => (tb (s20) none (some ((List.take ((s18.length - (32 : Nat)) * 1) (List.drop 32 s18)))))) none)
theorem vCheck_L1_ok (s : Sm) (s7 : Int × Int) (s10 : Bool) (s16 : Bool) (s18 zz : List UInt8) : vCheck_L1_step s s7 s10 s16 s18 = some zz → EvStep Try.prog cf 2 (lp Try.prog 19 1) (vCheck_L1_S s s7 s10 s16 s18) (vCheck_L1_S s s7 s10 s16 zz) := by
  unfold vCheck_L1_step
  exact tbD (fun h19 h19p => tc_ok fun s20 h20 => tb_ok (fun h21 => tn_ok) fun h21 => by intro e; injection e with e; subst e; exact leafS vw_eq (k := 300) (r := []) (hs := hz [(3, [.yes]), (2, [.yes]), (1, [.fres (.b (s20)), .no]), (2, [.yes]), (1, [])]) (ks := [0, 1, 42, 3, 44, 45, 46, 47, 5, 4, 78, 6]) (st1 := (St.mk [(0, (AV.ag [(AV.i s.blocks), (AV.i s.parent), (AV.i s.target), (exs s.list)])), (1, (AV.pt 0 0)), (42, (AV.b (decide ((s.list.length : Int) > (64 : Int))))), (3, (AV.i (wr ((exAt s.list s7.2.toNat).lba + (exAt s.list s7.2.toNat).len)))), (44, (exs s.list)), (45, (AV.i (s.list.length : Int))), (46, (AV.i s7.2)), (47, (AV.b (decide (s7.2 < (s.list.length : Int))))), (5, (AV.pt 1 0)), (4, (AV.i s7.2)), (78, (AV.b s16)), (6, (AV.sl (s18.length - (32 : Nat)) (List.take ((s18.length - (32 : Nat)) * 1) (List.drop 32 (List.map AV.y s18)))))] 99 (AH.mk 2 [(1, (AObj.cells (xc (exAt s.list s7.2.toNat)))), (0, (AObj.cells [(AV.i s.blocks), (AV.i s.parent), (AV.i s.target), (exs s.list)]))]) false)) kq (ac h19 (ac (fq (p := (((0 : Nat) ≤ (32 : Nat)) ∧ (((32 : Nat) ≤ s18.length) ∧ ((List.length (List.map AV.y s18)) = (s18.length * 1)))))) (ac (show EvFr Try.prog cf false 40 [(AV.sl 32 (List.take 32 (List.map AV.y s18)))] (.b (s20)) from ((pIs_ok ((List.take 32 s18)) _ h20).any.cast tq)) (ac h21 (ac (fq (p := (((32 : Nat) ≤ s18.length) ∧ ((s18.length ≤ s18.length) ∧ ((List.length (List.map AV.y s18)) = (s18.length * 1)))))) an))))) (Nat.le_of_ble_eq_true rfl) (Nat.le_of_ble_eq_true rfl) (absB_of [] [] kq (.consn kq (.agp pq) (.consn kq (.pt rfl) (.consn kq (.eqv tq rfl) (.consn kq (.eqv tq rfl) (.consn kq (.eqv tq rfl) (.consn kq (.eqv tq rfl) (.consn kq (.eqv tq rfl) (.consn kq (.eqv tq rfl) (.consn kq (.pt rfl) (.consn kq (.eqv tq rfl) (.consn kq (.eqv tq rfl) (.consn (x := (AV.sl (s18.length - (32 : Nat)) (List.take ((s18.length - (32 : Nat)) * 1) (List.drop 32 (List.map AV.y s18))))) kq (.eqv tq rfl) .nil)))))))))))) (.cons (.old rfl rfl (.cells (.pl rfl pq))) (.cons (.old rfl rfl (.cells (.pl rfl pq))) .nil)))) fun h19 h19p => tn_ok
noncomputable abbrev vCheck_L2_I (s : Sm) (s7 : Int × Int) (s10 : Bool) : St := (St.mk [(0, (AV.ag [(AV.i s.blocks), (AV.i s.parent), (AV.i s.target), (exs s.list)])), (1, (AV.pt 0 0)), (42, (AV.b (decide ((s.list.length : Int) > (64 : Int))))), (3, (AV.i (wr ((exAt s.list s7.2.toNat).lba + (exAt s.list s7.2.toNat).len)))), (44, (exs s.list)), (45, (AV.i (s.list.length : Int))), (46, (AV.i s7.2)), (47, (AV.b (decide (s7.2 < (s.list.length : Int))))), (48, (AV.i s7.2)), (49, (AV.ip (List.drop (s7.2.toNat * 5) (s.list.flatMap Ex.cells)))), (50, (AV.ag (xc (exAt s.list s7.2.toNat)))), (5, (AV.pt 1 0)), (4, (AV.i s7.2)), (51, (AV.ag (xc (exAt s.list s7.2.toNat)))), (52, (AV.b s10)), (53, (AV.b (!s10))), (54, (AV.b (!s10))), (55, (AV.pt 1 3)), (56, (AV.i (exAt s.list s7.2.toNat).gen)), (57, (AV.b ((exAt s.list s7.2.toNat).gen != (0 : Int)))), (58, (AV.b ((exAt s.list s7.2.toNat).gen != (0 : Int)))), (59, (AV.b ((exAt s.list s7.2.toNat).gen != (0 : Int)))), (60, (AV.pt 1 0)), (61, (AV.i (exAt s.list s7.2.toNat).lba)), (62, (AV.i s7.1)), (63, (AV.b (decide ((exAt s.list s7.2.toNat).lba < s7.1)))), (64, (AV.b (decide ((exAt s.list s7.2.toNat).lba < s7.1)))), (65, (AV.b (decide ((exAt s.list s7.2.toNat).lba < s7.1)))), (66, (AV.i s7.2)), (67, (AV.b (decide (s7.2 > (0 : Int))))), (68, (AV.b (decide (s7.2 > (0 : Int))))), (69, (AV.tu ([] : List AV))), (70, (AV.tu ([] : List AV))), (71, (AV.tu ([] : List AV))), (72, (AV.tu ([] : List AV))), (73, (AV.tu ([] : List AV))), (74, (AV.tu ([] : List AV))), (75, (AV.tu ([] : List AV))), (76, (AV.tu ([] : List AV))), (77, (AV.b false)), (78, (AV.b false)), (79, (AV.pt 1 0)), (80, (AV.i (exAt s.list s7.2.toNat).lba)), (81, (AV.pt 1 1)), (82, (AV.i (exAt s.list s7.2.toNat).len)), (83, (AV.i (wr ((exAt s.list s7.2.toNat).lba + (exAt s.list s7.2.toNat).len)))), (84, (AV.pt 1 4)), (85, (bys (exAt s.list s7.2.toNat).d)), (6, (bys (exAt s.list s7.2.toNat).d))] 99 (AH.mk 2 [(1, (AObj.cells (xc (exAt s.list s7.2.toNat)))), (0, (AObj.cells [(AV.i s.blocks), (AV.i s.parent), (AV.i s.target), (exs s.list)]))]) false)
noncomputable abbrev vCheck_L2_S (s : Sm) (s7 : Int × Int) (s10 : Bool) (s15 : List UInt8) : St := (St.mk [(0, (AV.ag [(AV.i s.blocks), (AV.i s.parent), (AV.i s.target), (exs s.list)])), (1, (AV.pt 0 0)), (42, (AV.b (decide ((s.list.length : Int) > (64 : Int))))), (3, (AV.i (wr ((exAt s.list s7.2.toNat).lba + (exAt s.list s7.2.toNat).len)))), (44, (exs s.list)), (45, (AV.i (s.list.length : Int))), (46, (AV.i s7.2)), (47, (AV.b (decide (s7.2 < (s.list.length : Int))))), (5, (AV.pt 1 0)), (4, (AV.i s7.2)), (78, (AV.b false)), (6, (bys s15))] 99 (AH.mk 2 [(1, (AObj.cells (xc (exAt s.list s7.2.toNat)))), (0, (AObj.cells [(AV.i s.blocks), (AV.i s.parent), (AV.i s.target), (exs s.list)]))]) false)
noncomputable def vCheck_L2_step (s : Sm) (s7 : Int × Int) (s10 : Bool) (s15 : List UInt8) : Option (List UInt8) :=
 (tb ((decide ((s15.length : Int) ≥ (32 : Int)))) (tc (pIs ((List.take 32 s15))) fun s17 => (tb (s17) none (some ((List.take ((s15.length - (32 : Nat)) * 1) (List.drop 32 s15)))))) none)
theorem vCheck_L2_ok (s : Sm) (s7 : Int × Int) (s10 : Bool) (s15 zz : List UInt8) : vCheck_L2_step s s7 s10 s15 = some zz → EvStep Try.prog cf 2 (lp Try.prog 19 1) (vCheck_L2_S s s7 s10 s15) (vCheck_L2_S s s7 s10 zz) := by
  unfold vCheck_L2_step
  exact tbD (fun h16 h16p => tc_ok fun s17 h17 => tb_ok (fun h18 => tn_ok) fun h18 => by intro e; injection e with e; subst e; exact leafS vw_eq (k := 300) (r := []) (hs := hz [(3, [.yes]), (2, [.yes]), (1, [.fres (.b (s17)), .no]), (2, [.yes]), (1, [])]) (ks := [0, 1, 42, 3, 44, 45, 46, 47, 5, 4, 78, 6]) (st1 := (St.mk [(0, (AV.ag [(AV.i s.blocks), (AV.i s.parent), (AV.i s.target), (exs s.list)])), (1, (AV.pt 0 0)), (42, (AV.b (decide ((s.list.length : Int) > (64 : Int))))), (3, (AV.i (wr ((exAt s.list s7.2.toNat).lba + (exAt s.list s7.2.toNat).len)))), (44, (exs s.list)), (45, (AV.i (s.list.length : Int))), (46, (AV.i s7.2)), (47, (AV.b (decide (s7.2 < (s.list.length : Int))))), (5, (AV.pt 1 0)), (4, (AV.i s7.2)), (78, (AV.b false)), (6, (AV.sl (s15.length - (32 : Nat)) (List.take ((s15.length - (32 : Nat)) * 1) (List.drop 32 (List.map AV.y s15)))))] 99 (AH.mk 2 [(1, (AObj.cells (xc (exAt s.list s7.2.toNat)))), (0, (AObj.cells [(AV.i s.blocks), (AV.i s.parent), (AV.i s.target), (exs s.list)]))]) false)) kq (ac h16 (ac (fq (p := (((0 : Nat) ≤ (32 : Nat)) ∧ (((32 : Nat) ≤ s15.length) ∧ ((List.length (List.map AV.y s15)) = (s15.length * 1)))))) (ac (show EvFr Try.prog cf false 40 [(AV.sl 32 (List.take 32 (List.map AV.y s15)))] (.b (s17)) from ((pIs_ok ((List.take 32 s15)) _ h17).any.cast tq)) (ac h18 (ac (fq (p := (((32 : Nat) ≤ s15.length) ∧ ((s15.length ≤ s15.length) ∧ ((List.length (List.map AV.y s15)) = (s15.length * 1)))))) an))))) (Nat.le_of_ble_eq_true rfl) (Nat.le_of_ble_eq_true rfl) (absB_of [] [] kq (.consn kq (.agp pq) (.consn kq (.pt rfl) (.consn kq (.eqv tq rfl) (.consn kq (.eqv tq rfl) (.consn kq (.eqv tq rfl) (.consn kq (.eqv tq rfl) (.consn kq (.eqv tq rfl) (.consn kq (.eqv tq rfl) (.consn kq (.pt rfl) (.consn kq (.eqv tq rfl) (.consn kq (.eqv tq rfl) (.consn (x := (AV.sl (s15.length - (32 : Nat)) (List.take ((s15.length - (32 : Nat)) * 1) (List.drop 32 (List.map AV.y s15))))) kq (.eqv tq rfl) .nil)))))))))))) (.cons (.old rfl rfl (.cells (.pl rfl pq))) (.cons (.old rfl rfl (.cells (.pl rfl pq))) .nil)))) fun h16 h16p => tn_ok
noncomputable abbrev vCheck_L0_I (s : Sm) : St := (St.mk [(0, (AV.ag [(AV.i s.blocks), (AV.i s.parent), (AV.i s.target), (exs s.list)])), (1, (AV.pt 0 0)), (2, (AV.b false)), (7, (AV.pt 0 0)), (8, (AV.i s.blocks)), (9, (AV.b (decide (s.blocks < (1 : Int))))), (10, (AV.b (decide (s.blocks < (1 : Int))))), (11, (AV.pt 0 0)), (12, (AV.i s.blocks)), (13, (AV.b (decide (s.blocks > (64 : Int))))), (14, (AV.b (decide (s.blocks > (64 : Int))))), (15, (AV.b (decide (s.blocks > (64 : Int))))), (16, (AV.pt 0 2)), (17, (AV.i s.target)), (18, (AV.b (decide (s.target < (1 : Int))))), (19, (AV.b (decide (s.target < (1 : Int))))), (20, (AV.b (decide (s.target < (1 : Int))))), (21, (AV.pt 0 2)), (22, (AV.i s.target)), (23, (AV.b (decide (s.target > (2147483647 : Int))))), (24, (AV.b (decide (s.target > (2147483647 : Int))))), (25, (AV.b (decide (s.target > (2147483647 : Int))))), (26, (AV.pt 0 1)), (27, (AV.i s.parent)), (28, (AV.b (decide (s.parent < (0 : Int))))), (29, (AV.b (decide (s.parent < (0 : Int))))), (30, (AV.b (decide (s.parent < (0 : Int))))), (31, (AV.pt 0 1)), (32, (AV.i s.parent)), (33, (AV.pt 0 2)), (34, (AV.i s.target)), (35, (AV.b (decide (s.parent ≥ s.target)))), (36, (AV.b (decide (s.parent ≥ s.target)))), (37, (AV.b (decide (s.parent ≥ s.target)))), (38, (AV.pt 0 3)), (39, (exs s.list)), (40, (AV.i (s.list.length : Int))), (41, (AV.b (decide ((s.list.length : Int) > (64 : Int))))), (42, (AV.b (decide ((s.list.length : Int) > (64 : Int))))), (3, (AV.i 0)), (43, (AV.pt 0 3)), (44, (exs s.list)), (45, (AV.i (s.list.length : Int))), (46, (AV.i 0))] 99 (AH.mk 1 [(0, (AObj.cells [(AV.i s.blocks), (AV.i s.parent), (AV.i s.target), (exs s.list)]))]) false)
noncomputable abbrev vCheck_L0_S (s : Sm) (s7 : Int × Int) : St := (St.mk [(0, (AV.ag [(AV.i s.blocks), (AV.i s.parent), (AV.i s.target), (exs s.list)])), (1, (AV.pt 0 0)), (42, (AV.b (decide ((s.list.length : Int) > (64 : Int))))), (3, (AV.i s7.1)), (44, (exs s.list)), (45, (AV.i (s.list.length : Int))), (46, (AV.i s7.2))] 99 (AH.mk 1 [(0, (AObj.cells [(AV.i s.blocks), (AV.i s.parent), (AV.i s.target), (exs s.list)]))]) false)
noncomputable def vCheck_L0_step (s : Sm) (s7 : Int × Int) : Option (Int × Int) :=
 (tb ((decide (s7.2 < (s.list.length : Int)))) (tp ((((0 : Int) ≤ s7.2) ∧ (s7.2 < (s.list.length : Int)))) (tc (eCheck ((exAt s.list s7.2.toNat))) fun s10 => (tb ((!s10)) none (tb (((exAt s.list s7.2.toNat).gen != (0 : Int))) none (tb ((decide ((exAt s.list s7.2.toNat).lba < s7.1))) none (tb ((decide (s7.2 > (0 : Int)))) (tp ((((0 : Int) ≤ (wr (s7.2 - (1 : Int)))) ∧ ((wr (s7.2 - (1 : Int))) < (s.list.length : Int)))) (tc (eJoins ((exAt s.list (Int.toNat (wr (s7.2 - (1 : Int)))))) ((exAt s.list s7.2.toNat))) fun s16 => (tb (s16) none (th (vCheck_L1_step s s7 s10 s16) ((exAt s.list s7.2.toNat).d) fun s18 => (tb ((decide ((s18.length : Int) ≥ (32 : Int)))) none (some (((wr ((exAt s.list s7.2.toNat).lba + (exAt s.list s7.2.toNat).len)), (wr (s7.2 + (1 : Int))))))))))) (th (vCheck_L2_step s s7 s10) ((exAt s.list s7.2.toNat).d) fun s15 => (tb ((decide ((s15.length : Int) ≥ (32 : Int)))) none (some (((wr ((exAt s.list s7.2.toNat).lba + (exAt s.list s7.2.toNat).len)), (wr (s7.2 + (1 : Int)))))))))))))) none)
theorem vCheck_L0_ok (s : Sm) (s7 zz : Int × Int) : vCheck_L0_step s s7 = some zz → EvStep Try.prog cf 1 (lp Try.prog 19 0) (vCheck_L0_S s s7) (vCheck_L0_S s zz) := by
  unfold vCheck_L0_step
  exact tbD (fun h8 h8p => tp_ok fun h9 => tc_ok fun s10 h10 => tb_ok (fun h11 => tn_ok) fun h11 => tbN (fun h12 h12p => tn_ok) fun h12 h12p => tbD (fun h13 h13p => tn_ok) fun h13 h13p => tbD (fun h14 h14p => tp_ok fun h15 => tc_ok fun s16 h16 => tb_ok (fun h17 => tn_ok) fun h17 => th_ok fun s18 h18 => tbD (fun h19 h19p => tn_ok) fun h19 h19p => by intro e; injection e with e; subst e; exact leafIS vw_eq (k := 300) (r := []) (hs := hz [(1, [.yes]), (1, [.yes, .yes, .cells ((Ex.cells (exAt s.list s7.2.toNat)))]), (3, [.fc]), (1, [.fc]), (1, [.fres (.b (s10))]), (2, [.no]), (1, [.no]), (2, [.no]), (1, [.no]), (1, [.no]), (1, [.no]), (2, [.no]), (1, [.no]), (1, [.no]), (1, [.no]), (1, [.no]), (1, [.no]), (1, [.yes]), (1, [.yes]), (2, [.yes]), (1, [.yes]), (1, [.yes, .yes, .yes, .yes, .cells ((Ex.cells (exAt s.list (Int.toNat (wr (s7.2 - (1 : Int))))))), .yes]), (1, [.fc, .yes]), (1, [.fres (.b (s16)), .no, .yes, .no, .yes, .no]), (12, [.head (vCheck_L1_S s s7 s10 s16 s18)]), (3, [.no]), (2, [])]) (ks := [0, 1, 42, 3, 44, 45, 46]) (bs := [0]) kq (ac h8 (ac h9 (ac (fq (p := ((5 : Nat) ≤ (List.length (List.drop (s7.2.toNat * 5) (s.list.flatMap Ex.cells)))))) (ac (show (List.take 5 (List.drop (s7.2.toNat * 5) (s.list.flatMap Ex.cells))) = (Ex.cells (exAt s.list s7.2.toNat)) from (ex_takeO bq bq)) (ac (eCheck_ok ((exAt s.list s7.2.toNat)) _ h10).any0 (ac h11 (ac h11 (ac h11 (ac h11 (ac h12 (ac h12 (ac h12 (ac h12 (ac h12 (ac h13 (ac h13 (ac h13 (ac h14 (ac h14 (ac h14 (ac h14 (ac h14 (ac h15 (ac h14 (ac (fq (p := ((5 : Nat) ≤ (List.length (List.drop ((Int.toNat (wr (s7.2 - (1 : Int)))) * 5) (s.list.flatMap Ex.cells)))))) (ac (show (List.take 5 (List.drop ((Int.toNat (wr (s7.2 - (1 : Int)))) * 5) (s.list.flatMap Ex.cells))) = (Ex.cells (exAt s.list (Int.toNat (wr (s7.2 - (1 : Int)))))) from (ex_takeO bq bq)) (ac h14 (ac h14 (ac (eJoins_ok ((exAt s.list (Int.toNat (wr (s7.2 - (1 : Int)))))) ((exAt s.list s7.2.toNat)) _ h16).any0 (ac h13 (ac h14 (ac h13 (ac (show orderOk (rg Try.prog 19 0) = true ∧ allOk (Region.before (rg Try.prog 19 0)) [] 0 [(some [1], some []), (some [], some []), (some [], some []), (some [], some []), (some [], some []), (some [1], some []), (some [], some []), (some [], some []), (some [], some []), (some [], some []), (some [1], some []), (some [], some []), (some [], some []), (some [], some []), (some [], some []), (some [], some []), (some [], some []), (some [], some []), (some [], some []), (some [0], some []), (some [], some []), (some [], some []), (some [], some []), (some [], some []), (some [1], some []), (some [], some []), (some [], some []), (some [], some [])] = true from (ord_of ord_19_0 bef_19_0 kq)) (ac h17 (ac (show EvHead Try.prog cf (lp Try.prog 19 1) (vCheck_L1_I s s7 s10 s16) (vCheck_L1_S s s7 s10 s16 s18) from (EvHead.of (vCheck_L1_ok s s7 s10 s16) (absB_of [] [] kq (.consn kq (.agp pq) (.consn kq (.pt rfl) (.consn kq (.eqv tq rfl) (.consn kq (.eqv tq rfl) (.consn kq (.eqv tq rfl) (.consn kq (.eqv tq rfl) (.consn kq (.eqv tq rfl) (.consn kq (.eqv tq rfl) (.consn kq (.pt rfl) (.consn kq (.eqv tq rfl) (.consn kq (.eqv tq rfl) (.consn (x := (bys (exAt s.list s7.2.toNat).d)) kq (.eqv tq rfl) .nil)))))))))))) (.cons (.old rfl rfl (.cells (.pl rfl pq))) (.cons (.old rfl rfl (.cells (.pl rfl pq))) .nil))) h18)) (ac h19 an)))))))))))))))))))))))))))))))))))) kq) fun h14 h14p => th_ok fun s15 h15 => tbD (fun h16 h16p => tn_ok) fun h16 h16p => by intro e; injection e with e; subst e; exact leafIS vw_eq (k := 300) (r := []) (hs := hz [(1, [.yes]), (1, [.yes, .yes, .cells ((Ex.cells (exAt s.list s7.2.toNat)))]), (3, [.fc]), (1, [.fc]), (1, [.fres (.b (s10))]), (2, [.no]), (1, [.no]), (2, [.no]), (1, [.no]), (1, [.no]), (1, [.no]), (2, [.no]), (1, [.no]), (1, [.no]), (1, [.no]), (1, [.no]), (1, [.no]), (1, [.no, .no, .no, .no, .no, .no, .no, .no, .no, .no, .no, .yes]), (13, [.head (vCheck_L2_S s s7 s10 s15)]), (3, [.no]), (2, [])]) (ks := [0, 1, 42, 3, 44, 45, 46]) (bs := [0]) kq (ac h8 (ac h9 (ac (fq (p := ((5 : Nat) ≤ (List.length (List.drop (s7.2.toNat * 5) (s.list.flatMap Ex.cells)))))) (ac (show (List.take 5 (List.drop (s7.2.toNat * 5) (s.list.flatMap Ex.cells))) = (Ex.cells (exAt s.list s7.2.toNat)) from (ex_takeO bq bq)) (ac (eCheck_ok ((exAt s.list s7.2.toNat)) _ h10).any0 (ac h11 (ac h11 (ac h11 (ac h11 (ac h12 (ac h12 (ac h12 (ac h12 (ac h12 (ac h13 (ac h13 (ac h13 (ac h14 (ac h14 (ac h14 (ac h14 (ac h14 (ac h14 (ac h14 (ac h14 (ac h13 (ac h14 (ac h13 (ac (show orderOk (rg Try.prog 19 0) = true ∧ allOk (Region.before (rg Try.prog 19 0)) [] 0 [(some [1], some []), (some [], some []), (some [], some []), (some [], some []), (some [], some []), (some [1], some []), (some [], some []), (some [], some []), (some [], some []), (some [], some []), (some [1], some []), (some [], some []), (some [], some []), (some [], some []), (some [], some []), (some [], some []), (some [], some []), (some [], some []), (some [], some []), (some [], some []), (some [], some []), (some [], some []), (some [], some []), (some [], some []), (some [], some []), (some [], some []), (some [], some []), (some [], some [])] = true from (ord_of ord_19_0 bef_19_0 kq)) (ac (show EvHead Try.prog cf (lp Try.prog 19 1) (vCheck_L2_I s s7 s10) (vCheck_L2_S s s7 s10 s15) from (EvHead.of (vCheck_L2_ok s s7 s10) (absB_of [] [] kq (.consn kq (.agp pq) (.consn kq (.pt rfl) (.consn kq (.eqv tq rfl) (.consn kq (.eqv tq rfl) (.consn kq (.eqv tq rfl) (.consn kq (.eqv tq rfl) (.consn kq (.eqv tq rfl) (.consn kq (.eqv tq rfl) (.consn kq (.pt rfl) (.consn kq (.eqv tq rfl) (.consn kq (.eqv tq rfl) (.consn (x := (bys (exAt s.list s7.2.toNat).d)) kq (.eqv tq rfl) .nil)))))))))))) (.cons (.old rfl rfl (.cells (.pl rfl pq))) (.cons (.old rfl rfl (.cells (.pl rfl pq))) .nil))) h15)) (ac h16 an))))))))))))))))))))))))))))))) kq) fun h8 h8p => tn_ok
noncomputable abbrev vCheck_L3_I (s : Sm) (s7 : Int × Int) (s10 : Bool) (s16 : Bool) : St := (St.mk [(0, (AV.ag [(AV.i s.blocks), (AV.i s.parent), (AV.i s.target), (exs s.list)])), (1, (AV.pt 0 0)), (42, (AV.b (decide ((s.list.length : Int) > (64 : Int))))), (3, (AV.i (wr ((exAt s.list s7.2.toNat).lba + (exAt s.list s7.2.toNat).len)))), (44, (exs s.list)), (45, (AV.i (s.list.length : Int))), (46, (AV.i s7.2)), (47, (AV.b (decide (s7.2 < (s.list.length : Int))))), (48, (AV.i s7.2)), (49, (AV.ip (List.drop (s7.2.toNat * 5) (s.list.flatMap Ex.cells)))), (50, (AV.ag (xc (exAt s.list s7.2.toNat)))), (5, (AV.pt 1 0)), (4, (AV.i s7.2)), (51, (AV.ag (xc (exAt s.list s7.2.toNat)))), (52, (AV.b s10)), (53, (AV.b (!s10))), (54, (AV.b (!s10))), (55, (AV.pt 1 3)), (56, (AV.i (exAt s.list s7.2.toNat).gen)), (57, (AV.b ((exAt s.list s7.2.toNat).gen != (0 : Int)))), (58, (AV.b ((exAt s.list s7.2.toNat).gen != (0 : Int)))), (59, (AV.b ((exAt s.list s7.2.toNat).gen != (0 : Int)))), (60, (AV.pt 1 0)), (61, (AV.i (exAt s.list s7.2.toNat).lba)), (62, (AV.i s7.1)), (63, (AV.b (decide ((exAt s.list s7.2.toNat).lba < s7.1)))), (64, (AV.b (decide ((exAt s.list s7.2.toNat).lba < s7.1)))), (65, (AV.b (decide ((exAt s.list s7.2.toNat).lba < s7.1)))), (66, (AV.i s7.2)), (67, (AV.b (decide (s7.2 > (0 : Int))))), (68, (AV.b (decide (s7.2 > (0 : Int))))), (69, (AV.pt 0 3)), (70, (exs s.list)), (71, (AV.i s7.2)), (72, (AV.i (wr (s7.2 - (1 : Int))))), (73, (AV.ip (List.drop ((Int.toNat (wr (s7.2 - (1 : Int)))) * 5) (s.list.flatMap Ex.cells)))), (74, (AV.ag (xc (exAt s.list (Int.toNat (wr (s7.2 - (1 : Int)))))))), (75, (AV.ag (xc (exAt s.list s7.2.toNat)))), (76, (AV.b s16)), (77, (AV.b s16)), (78, (AV.b s16)), (79, (AV.pt 1 0)), (80, (AV.i (exAt s.list s7.2.toNat).lba)), (81, (AV.pt 1 1)), (82, (AV.i (exAt s.list s7.2.toNat).len)), (83, (AV.i (wr ((exAt s.list s7.2.toNat).lba + (exAt s.list s7.2.toNat).len)))), (84, (AV.pt 1 4)), (85, (bys (exAt s.list s7.2.toNat).d)), (6, (bys (exAt s.list s7.2.toNat).d))] 99 (AH.mk 2 [(1, (AObj.cells (xc (exAt s.list s7.2.toNat)))), (0, (AObj.cells [(AV.i s.blocks), (AV.i s.parent), (AV.i s.target), (exs s.list)]))]) false)
noncomputable abbrev vCheck_L3_S (s : Sm) (s7 : Int × Int) (s10 : Bool) (s16 : Bool) (s18 : List UInt8) : St := (St.mk [(0, (AV.ag [(AV.i s.blocks), (AV.i s.parent), (AV.i s.target), (exs s.list)])), (1, (AV.pt 0 0)), (42, (AV.b (decide ((s.list.length : Int) > (64 : Int))))), (3, (AV.i (wr ((exAt s.list s7.2.toNat).lba + (exAt s.list s7.2.toNat).len)))), (44, (exs s.list)), (45, (AV.i (s.list.length : Int))), (46, (AV.i s7.2)), (47, (AV.b (decide (s7.2 < (s.list.length : Int))))), (5, (AV.pt 1 0)), (4, (AV.i s7.2)), (78, (AV.b s16)), (6, (bys s18))] 99 (AH.mk 2 [(1, (AObj.cells (xc (exAt s.list s7.2.toNat)))), (0, (AObj.cells [(AV.i s.blocks), (AV.i s.parent), (AV.i s.target), (exs s.list)]))]) false)
noncomputable def vCheck_L3_step (s : Sm) (s7 : Int × Int) (s10 : Bool) (s16 : Bool) (s18 : List UInt8) : Option (List UInt8) :=
 (tb ((decide ((s18.length : Int) ≥ (32 : Int)))) (tc (pIs ((List.take 32 s18))) fun s20 => (tb (s20) none (some ((List.take ((s18.length - (32 : Nat)) * 1) (List.drop 32 s18)))))) none)
theorem vCheck_L3_ok (s : Sm) (s7 : Int × Int) (s10 : Bool) (s16 : Bool) (s18 zz : List UInt8) : vCheck_L3_step s s7 s10 s16 s18 = some zz → EvStep Try.prog cf 2 (lp Try.prog 19 1) (vCheck_L3_S s s7 s10 s16 s18) (vCheck_L3_S s s7 s10 s16 zz) := by
  unfold vCheck_L3_step
  exact tbD (fun h19 h19p => tc_ok fun s20 h20 => tb_ok (fun h21 => tn_ok) fun h21 => by intro e; injection e with e; subst e; exact leafS vw_eq (k := 300) (r := []) (hs := hz [(3, [.yes]), (2, [.yes]), (1, [.fres (.b (s20)), .no]), (2, [.yes]), (1, [])]) (ks := [0, 1, 42, 3, 44, 45, 46, 47, 5, 4, 78, 6]) (st1 := (St.mk [(0, (AV.ag [(AV.i s.blocks), (AV.i s.parent), (AV.i s.target), (exs s.list)])), (1, (AV.pt 0 0)), (42, (AV.b (decide ((s.list.length : Int) > (64 : Int))))), (3, (AV.i (wr ((exAt s.list s7.2.toNat).lba + (exAt s.list s7.2.toNat).len)))), (44, (exs s.list)), (45, (AV.i (s.list.length : Int))), (46, (AV.i s7.2)), (47, (AV.b (decide (s7.2 < (s.list.length : Int))))), (5, (AV.pt 1 0)), (4, (AV.i s7.2)), (78, (AV.b s16)), (6, (AV.sl (s18.length - (32 : Nat)) (List.take ((s18.length - (32 : Nat)) * 1) (List.drop 32 (List.map AV.y s18)))))] 99 (AH.mk 2 [(1, (AObj.cells (xc (exAt s.list s7.2.toNat)))), (0, (AObj.cells [(AV.i s.blocks), (AV.i s.parent), (AV.i s.target), (exs s.list)]))]) false)) kq (ac h19 (ac (fq (p := (((0 : Nat) ≤ (32 : Nat)) ∧ (((32 : Nat) ≤ s18.length) ∧ ((List.length (List.map AV.y s18)) = (s18.length * 1)))))) (ac (show EvFr Try.prog cf false 40 [(AV.sl 32 (List.take 32 (List.map AV.y s18)))] (.b (s20)) from ((pIs_ok ((List.take 32 s18)) _ h20).any.cast tq)) (ac h21 (ac (fq (p := (((32 : Nat) ≤ s18.length) ∧ ((s18.length ≤ s18.length) ∧ ((List.length (List.map AV.y s18)) = (s18.length * 1)))))) an))))) (Nat.le_of_ble_eq_true rfl) (Nat.le_of_ble_eq_true rfl) (absB_of [] [] kq (.consn kq (.agp pq) (.consn kq (.pt rfl) (.consn kq (.eqv tq rfl) (.consn kq (.eqv tq rfl) (.consn kq (.eqv tq rfl) (.consn kq (.eqv tq rfl) (.consn kq (.eqv tq rfl) (.consn kq (.eqv tq rfl) (.consn kq (.pt rfl) (.consn kq (.eqv tq rfl) (.consn kq (.eqv tq rfl) (.consn (x := (AV.sl (s18.length - (32 : Nat)) (List.take ((s18.length - (32 : Nat)) * 1) (List.drop 32 (List.map AV.y s18))))) kq (.eqv tq rfl) .nil)))))))))))) (.cons (.old rfl rfl (.cells (.pl rfl pq))) (.cons (.old rfl rfl (.cells (.pl rfl pq))) .nil)))) fun h19 h19p => tn_ok
noncomputable abbrev vCheck_L4_I (s : Sm) (s7 : Int × Int) (s10 : Bool) : St := (St.mk [(0, (AV.ag [(AV.i s.blocks), (AV.i s.parent), (AV.i s.target), (exs s.list)])), (1, (AV.pt 0 0)), (42, (AV.b (decide ((s.list.length : Int) > (64 : Int))))), (3, (AV.i (wr ((exAt s.list s7.2.toNat).lba + (exAt s.list s7.2.toNat).len)))), (44, (exs s.list)), (45, (AV.i (s.list.length : Int))), (46, (AV.i s7.2)), (47, (AV.b (decide (s7.2 < (s.list.length : Int))))), (48, (AV.i s7.2)), (49, (AV.ip (List.drop (s7.2.toNat * 5) (s.list.flatMap Ex.cells)))), (50, (AV.ag (xc (exAt s.list s7.2.toNat)))), (5, (AV.pt 1 0)), (4, (AV.i s7.2)), (51, (AV.ag (xc (exAt s.list s7.2.toNat)))), (52, (AV.b s10)), (53, (AV.b (!s10))), (54, (AV.b (!s10))), (55, (AV.pt 1 3)), (56, (AV.i (exAt s.list s7.2.toNat).gen)), (57, (AV.b ((exAt s.list s7.2.toNat).gen != (0 : Int)))), (58, (AV.b ((exAt s.list s7.2.toNat).gen != (0 : Int)))), (59, (AV.b ((exAt s.list s7.2.toNat).gen != (0 : Int)))), (60, (AV.pt 1 0)), (61, (AV.i (exAt s.list s7.2.toNat).lba)), (62, (AV.i s7.1)), (63, (AV.b (decide ((exAt s.list s7.2.toNat).lba < s7.1)))), (64, (AV.b (decide ((exAt s.list s7.2.toNat).lba < s7.1)))), (65, (AV.b (decide ((exAt s.list s7.2.toNat).lba < s7.1)))), (66, (AV.i s7.2)), (67, (AV.b (decide (s7.2 > (0 : Int))))), (68, (AV.b (decide (s7.2 > (0 : Int))))), (69, (AV.tu ([] : List AV))), (70, (AV.tu ([] : List AV))), (71, (AV.tu ([] : List AV))), (72, (AV.tu ([] : List AV))), (73, (AV.tu ([] : List AV))), (74, (AV.tu ([] : List AV))), (75, (AV.tu ([] : List AV))), (76, (AV.tu ([] : List AV))), (77, (AV.b false)), (78, (AV.b false)), (79, (AV.pt 1 0)), (80, (AV.i (exAt s.list s7.2.toNat).lba)), (81, (AV.pt 1 1)), (82, (AV.i (exAt s.list s7.2.toNat).len)), (83, (AV.i (wr ((exAt s.list s7.2.toNat).lba + (exAt s.list s7.2.toNat).len)))), (84, (AV.pt 1 4)), (85, (bys (exAt s.list s7.2.toNat).d)), (6, (bys (exAt s.list s7.2.toNat).d))] 99 (AH.mk 2 [(1, (AObj.cells (xc (exAt s.list s7.2.toNat)))), (0, (AObj.cells [(AV.i s.blocks), (AV.i s.parent), (AV.i s.target), (exs s.list)]))]) false)
noncomputable abbrev vCheck_L4_S (s : Sm) (s7 : Int × Int) (s10 : Bool) (s15 : List UInt8) : St := (St.mk [(0, (AV.ag [(AV.i s.blocks), (AV.i s.parent), (AV.i s.target), (exs s.list)])), (1, (AV.pt 0 0)), (42, (AV.b (decide ((s.list.length : Int) > (64 : Int))))), (3, (AV.i (wr ((exAt s.list s7.2.toNat).lba + (exAt s.list s7.2.toNat).len)))), (44, (exs s.list)), (45, (AV.i (s.list.length : Int))), (46, (AV.i s7.2)), (47, (AV.b (decide (s7.2 < (s.list.length : Int))))), (5, (AV.pt 1 0)), (4, (AV.i s7.2)), (78, (AV.b false)), (6, (bys s15))] 99 (AH.mk 2 [(1, (AObj.cells (xc (exAt s.list s7.2.toNat)))), (0, (AObj.cells [(AV.i s.blocks), (AV.i s.parent), (AV.i s.target), (exs s.list)]))]) false)
noncomputable def vCheck_L4_step (s : Sm) (s7 : Int × Int) (s10 : Bool) (s15 : List UInt8) : Option (List UInt8) :=
 (tb ((decide ((s15.length : Int) ≥ (32 : Int)))) (tc (pIs ((List.take 32 s15))) fun s17 => (tb (s17) none (some ((List.take ((s15.length - (32 : Nat)) * 1) (List.drop 32 s15)))))) none)
theorem vCheck_L4_ok (s : Sm) (s7 : Int × Int) (s10 : Bool) (s15 zz : List UInt8) : vCheck_L4_step s s7 s10 s15 = some zz → EvStep Try.prog cf 2 (lp Try.prog 19 1) (vCheck_L4_S s s7 s10 s15) (vCheck_L4_S s s7 s10 zz) := by
  unfold vCheck_L4_step
  exact tbD (fun h16 h16p => tc_ok fun s17 h17 => tb_ok (fun h18 => tn_ok) fun h18 => by intro e; injection e with e; subst e; exact leafS vw_eq (k := 300) (r := []) (hs := hz [(3, [.yes]), (2, [.yes]), (1, [.fres (.b (s17)), .no]), (2, [.yes]), (1, [])]) (ks := [0, 1, 42, 3, 44, 45, 46, 47, 5, 4, 78, 6]) (st1 := (St.mk [(0, (AV.ag [(AV.i s.blocks), (AV.i s.parent), (AV.i s.target), (exs s.list)])), (1, (AV.pt 0 0)), (42, (AV.b (decide ((s.list.length : Int) > (64 : Int))))), (3, (AV.i (wr ((exAt s.list s7.2.toNat).lba + (exAt s.list s7.2.toNat).len)))), (44, (exs s.list)), (45, (AV.i (s.list.length : Int))), (46, (AV.i s7.2)), (47, (AV.b (decide (s7.2 < (s.list.length : Int))))), (5, (AV.pt 1 0)), (4, (AV.i s7.2)), (78, (AV.b false)), (6, (AV.sl (s15.length - (32 : Nat)) (List.take ((s15.length - (32 : Nat)) * 1) (List.drop 32 (List.map AV.y s15)))))] 99 (AH.mk 2 [(1, (AObj.cells (xc (exAt s.list s7.2.toNat)))), (0, (AObj.cells [(AV.i s.blocks), (AV.i s.parent), (AV.i s.target), (exs s.list)]))]) false)) kq (ac h16 (ac (fq (p := (((0 : Nat) ≤ (32 : Nat)) ∧ (((32 : Nat) ≤ s15.length) ∧ ((List.length (List.map AV.y s15)) = (s15.length * 1)))))) (ac (show EvFr Try.prog cf false 40 [(AV.sl 32 (List.take 32 (List.map AV.y s15)))] (.b (s17)) from ((pIs_ok ((List.take 32 s15)) _ h17).any.cast tq)) (ac h18 (ac (fq (p := (((32 : Nat) ≤ s15.length) ∧ ((s15.length ≤ s15.length) ∧ ((List.length (List.map AV.y s15)) = (s15.length * 1)))))) an))))) (Nat.le_of_ble_eq_true rfl) (Nat.le_of_ble_eq_true rfl) (absB_of [] [] kq (.consn kq (.agp pq) (.consn kq (.pt rfl) (.consn kq (.eqv tq rfl) (.consn kq (.eqv tq rfl) (.consn kq (.eqv tq rfl) (.consn kq (.eqv tq rfl) (.consn kq (.eqv tq rfl) (.consn kq (.eqv tq rfl) (.consn kq (.pt rfl) (.consn kq (.eqv tq rfl) (.consn kq (.eqv tq rfl) (.consn (x := (AV.sl (s15.length - (32 : Nat)) (List.take ((s15.length - (32 : Nat)) * 1) (List.drop 32 (List.map AV.y s15))))) kq (.eqv tq rfl) .nil)))))))))))) (.cons (.old rfl rfl (.cells (.pl rfl pq))) (.cons (.old rfl rfl (.cells (.pl rfl pq))) .nil)))) fun h16 h16p => tn_ok
/-- Function 19, as it answers. -/
noncomputable def vCheck (s : Sm) : Option (Bool) :=
 (tb ((decide (s.blocks < (1 : Int)))) (some (false)) (tb ((decide (s.blocks > (64 : Int)))) (some (false)) (tb ((decide (s.target < (1 : Int)))) (some (false)) (tb ((decide (s.target > (2147483647 : Int)))) (some (false)) (tb ((decide (s.parent < (0 : Int)))) (some (false)) (tb ((decide (s.parent ≥ s.target))) (some (false)) (tb ((decide ((s.list.length : Int) > (64 : Int)))) (some (false)) (th (vCheck_L0_step s) (((0 : Int), (0 : Int))) fun s7 => (tb ((decide (s7.2 < (s.list.length : Int)))) (tp ((((0 : Int) ≤ s7.2) ∧ (s7.2 < (s.list.length : Int)))) (tc (eCheck ((exAt s.list s7.2.toNat))) fun s10 => (tb ((!s10)) (some (false)) (tb (((exAt s.list s7.2.toNat).gen != (0 : Int))) (some (false)) (tb ((decide ((exAt s.list s7.2.toNat).lba < s7.1))) (some (false)) (tb ((decide (s7.2 > (0 : Int)))) (tp ((((0 : Int) ≤ (wr (s7.2 - (1 : Int)))) ∧ ((wr (s7.2 - (1 : Int))) < (s.list.length : Int)))) (tc (eJoins ((exAt s.list (Int.toNat (wr (s7.2 - (1 : Int)))))) ((exAt s.list s7.2.toNat))) fun s16 => (tb (s16) (some (false)) (th (vCheck_L3_step s s7 s10 s16) ((exAt s.list s7.2.toNat).d) fun s18 => (tb ((decide ((s18.length : Int) ≥ (32 : Int)))) (tc (pIs ((List.take 32 s18))) fun s20 => (tb (s20) (some (false)) none)) none))))) (th (vCheck_L4_step s s7 s10) ((exAt s.list s7.2.toNat).d) fun s15 => (tb ((decide ((s15.length : Int) ≥ (32 : Int)))) (tc (pIs ((List.take 32 s15))) fun s17 => (tb (s17) (some (false)) none)) none)))))))) (some ((decide (s7.1 ≤ s.blocks)))))))))))))
abbrev vCheck_G (s : Sm) (r : Bool) : Prop := EvFr Try.prog cf true 19 [Sm.av (s)] (.b (r))
theorem vCheck_ok (s : Sm) (r : Bool) : vCheck s = some r → vCheck_G s r := by
  unfold vCheck
  exact tbD (fun h0 h0p => by intro e; injection e with e; subst e; exact leafR vw_eq (k := 300) (r := []) (hs := hz [(7, [.yes, .yes, .yes, .yes]), (30, [])]) (raw := (AV.b false)) kq (ac h0 (ac h0 (ac h0 (ac h0 an)))) tq) fun h0 h0p => tbD (fun h1 h1p => by intro e; injection e with e; subst e; exact leafR vw_eq (k := 300) (r := []) (hs := hz [(7, [.no]), (1, [.no]), (2, [.no]), (1, [.no]), (1, [.yes, .yes, .yes, .yes]), (25, [])]) (raw := (AV.b false)) kq (ac h0 (ac h0 (ac h0 (ac h0 (ac h1 (ac h1 (ac h1 (ac h1 an)))))))) tq) fun h1 h1p => tbD (fun h2 h2p => by intro e; injection e with e; subst e; exact leafR vw_eq (k := 300) (r := []) (hs := hz [(7, [.no]), (1, [.no]), (2, [.no]), (1, [.no]), (1, [.no]), (1, [.no]), (2, [.no]), (1, [.no]), (1, [.yes, .yes, .yes, .yes]), (20, [])]) (raw := (AV.b false)) kq (ac h0 (ac h0 (ac h0 (ac h0 (ac h1 (ac h1 (ac h1 (ac h1 (ac h2 (ac h2 (ac h2 (ac h2 an)))))))))))) tq) fun h2 h2p => tbD (fun h3 h3p => by intro e; injection e with e; subst e; exact leafR vw_eq (k := 300) (r := []) (hs := hz [(7, [.no]), (1, [.no]), (2, [.no]), (1, [.no]), (1, [.no]), (1, [.no]), (2, [.no]), (1, [.no]), (1, [.no]), (1, [.no]), (2, [.no]), (1, [.no]), (1, [.yes, .yes, .yes, .yes]), (15, [])]) (raw := (AV.b false)) kq (ac h0 (ac h0 (ac h0 (ac h0 (ac h1 (ac h1 (ac h1 (ac h1 (ac h2 (ac h2 (ac h2 (ac h2 (ac h3 (ac h3 (ac h3 (ac h3 an)))))))))))))))) tq) fun h3 h3p => tbD (fun h4 h4p => by intro e; injection e with e; subst e; exact leafR vw_eq (k := 300) (r := []) (hs := hz [(7, [.no]), (1, [.no]), (2, [.no]), (1, [.no]), (1, [.no]), (1, [.no]), (2, [.no]), (1, [.no]), (1, [.no]), (1, [.no]), (2, [.no]), (1, [.no]), (1, [.no]), (1, [.no]), (2, [.no]), (1, [.no]), (1, [.yes, .yes, .yes, .yes, .yes, .yes]), (8, [])]) (raw := (AV.b false)) kq (ac h0 (ac h0 (ac h0 (ac h0 (ac h1 (ac h1 (ac h1 (ac h1 (ac h2 (ac h2 (ac h2 (ac h2 (ac h3 (ac h3 (ac h3 (ac h3 (ac h4 (ac h4 (ac h4 (ac h4 (ac h4 (ac h4 an)))))))))))))))))))))) tq) fun h4 h4p => tbD (fun h5 h5p => by intro e; injection e with e; subst e; exact leafR vw_eq (k := 300) (r := []) (hs := hz [(7, [.no]), (1, [.no]), (2, [.no]), (1, [.no]), (1, [.no]), (1, [.no]), (2, [.no]), (1, [.no]), (1, [.no]), (1, [.no]), (2, [.no]), (1, [.no]), (1, [.no]), (1, [.no]), (2, [.no]), (1, [.no]), (1, [.no]), (1, [.no]), (2, [.no]), (1, [.no]), (2, [.no]), (1, [.no]), (1, [.yes, .yes, .yes, .yes, .yes]), (2, [])]) (raw := (AV.b false)) kq (ac h0 (ac h0 (ac h0 (ac h0 (ac h1 (ac h1 (ac h1 (ac h1 (ac h2 (ac h2 (ac h2 (ac h2 (ac h3 (ac h3 (ac h3 (ac h3 (ac h4 (ac h4 (ac h4 (ac h4 (ac h4 (ac h4 (ac h5 (ac h5 (ac h5 (ac h5 (ac h5 an))))))))))))))))))))))))))) tq) fun h5 h5p => tbD (fun h6 h6p => by intro e; injection e with e; subst e; exact leafR vw_eq (k := 300) (r := []) (hs := hz [(7, [.no]), (1, [.no]), (2, [.no]), (1, [.no]), (1, [.no]), (1, [.no]), (2, [.no]), (1, [.no]), (1, [.no]), (1, [.no]), (2, [.no]), (1, [.no]), (1, [.no]), (1, [.no]), (2, [.no]), (1, [.no]), (1, [.no]), (1, [.no]), (2, [.no]), (1, [.no]), (2, [.no]), (1, [.no]), (1, [.no]), (1, [.no]), (2, [.no]), (1, [.no]), (1, [.no, .yes]), (1, [])]) (raw := (AV.b false)) kq (ac h0 (ac h0 (ac h0 (ac h0 (ac h1 (ac h1 (ac h1 (ac h1 (ac h2 (ac h2 (ac h2 (ac h2 (ac h3 (ac h3 (ac h3 (ac h3 (ac h4 (ac h4 (ac h4 (ac h4 (ac h4 (ac h4 (ac h5 (ac h5 (ac h5 (ac h5 (ac h5 (ac h6 an)))))))))))))))))))))))))))) tq) fun h6 h6p => th_ok fun s7 h7 => tbD (fun h8 h8p => tp_ok fun h9 => tc_ok fun s10 h10 => tb_ok (fun h11 => by intro e; injection e with e; subst e; exact leafR vw_eq (k := 300) (r := []) (hs := hz [(7, [.no]), (1, [.no]), (2, [.no]), (1, [.no]), (1, [.no]), (1, [.no]), (2, [.no]), (1, [.no]), (1, [.no]), (1, [.no]), (2, [.no]), (1, [.no]), (1, [.no]), (1, [.no]), (2, [.no]), (1, [.no]), (1, [.no]), (1, [.no]), (2, [.no]), (1, [.no]), (2, [.no]), (1, [.no]), (1, [.no]), (1, [.no]), (2, [.no]), (1, [.no]), (1, [.no, .no]), (6, [.head (vCheck_L0_S s s7)]), (1, [.yes]), (1, [.yes, .yes, .cells ((Ex.cells (exAt s.list s7.2.toNat)))]), (3, [.fc]), (1, [.fc]), (1, [.fres (.b (s10))]), (2, [.yes, .yes, .yes, .yes]), (12, [.yes]), (2, [])]) (raw := (AV.b false)) kq (ac h0 (ac h0 (ac h0 (ac h0 (ac h1 (ac h1 (ac h1 (ac h1 (ac h2 (ac h2 (ac h2 (ac h2 (ac h3 (ac h3 (ac h3 (ac h3 (ac h4 (ac h4 (ac h4 (ac h4 (ac h4 (ac h4 (ac h5 (ac h5 (ac h5 (ac h5 (ac h5 (ac h6 (ac (show EvHead Try.prog cf (lp Try.prog 19 0) (vCheck_L0_I s) (vCheck_L0_S s s7) from (EvHead.of (vCheck_L0_ok s) (absB_of [] [] kq (.consn kq (.agp pq) (.consn kq (.pt rfl) (.consn kq (.eqv tq rfl) (.consn kq (.eqv tq rfl) (.consn kq (.eqv tq rfl) (.consn kq (.eqv tq rfl) (.consn kq (.eqv tq rfl) .nil))))))) (.cons (.old rfl rfl (.cells (.pl rfl pq))) .nil)) h7)) (ac h8 (ac h9 (ac (fq (p := ((5 : Nat) ≤ (List.length (List.drop (s7.2.toNat * 5) (s.list.flatMap Ex.cells)))))) (ac (show (List.take 5 (List.drop (s7.2.toNat * 5) (s.list.flatMap Ex.cells))) = (Ex.cells (exAt s.list s7.2.toNat)) from (ex_takeO bq bq)) (ac (eCheck_ok ((exAt s.list s7.2.toNat)) _ h10).any0 (ac h11 (ac h11 (ac h11 (ac h11 (ac (show orderOk (rg Try.prog 19 0) = true ∧ allOk (Region.before (rg Try.prog 19 0)) [] 0 [(some [1], some []), (some [], some []), (some [], some []), (some [], some []), (some [], some []), (some [], some []), (some [], some []), (some [], some []), (some [], some []), (some [], some []), (some [], some []), (some [], some []), (some [], some []), (some [], some []), (some [], some []), (some [], some []), (some [], some []), (some [], some []), (some [], some []), (some [], some []), (some [], some []), (some [], some []), (some [], some []), (some [], some []), (some [], some []), (some [], some []), (some [], some []), (some [], some [])] = true from (ord_of ord_19_0 bef_19_0 kq)) an))))))))))))))))))))))))))))))))))))))) tq) fun h11 => tbN (fun h12 h12p => by intro e; injection e with e; subst e; exact leafR vw_eq (k := 300) (r := []) (hs := hz [(7, [.no]), (1, [.no]), (2, [.no]), (1, [.no]), (1, [.no]), (1, [.no]), (2, [.no]), (1, [.no]), (1, [.no]), (1, [.no]), (2, [.no]), (1, [.no]), (1, [.no]), (1, [.no]), (2, [.no]), (1, [.no]), (1, [.no]), (1, [.no]), (2, [.no]), (1, [.no]), (2, [.no]), (1, [.no]), (1, [.no]), (1, [.no]), (2, [.no]), (1, [.no]), (1, [.no, .no]), (6, [.head (vCheck_L0_S s s7)]), (1, [.yes]), (1, [.yes, .yes, .cells ((Ex.cells (exAt s.list s7.2.toNat)))]), (3, [.fc]), (1, [.fc]), (1, [.fres (.b (s10))]), (2, [.no]), (1, [.no]), (2, [.no]), (1, [.no]), (1, [.yes, .yes, .yes, .yes, .yes]), (6, [.yes]), (2, [])]) (raw := (AV.b false)) kq (ac h0 (ac h0 (ac h0 (ac h0 (ac h1 (ac h1 (ac h1 (ac h1 (ac h2 (ac h2 (ac h2 (ac h2 (ac h3 (ac h3 (ac h3 (ac h3 (ac h4 (ac h4 (ac h4 (ac h4 (ac h4 (ac h4 (ac h5 (ac h5 (ac h5 (ac h5 (ac h5 (ac h6 (ac (show EvHead Try.prog cf (lp Try.prog 19 0) (vCheck_L0_I s) (vCheck_L0_S s s7) from (EvHead.of (vCheck_L0_ok s) (absB_of [] [] kq (.consn kq (.agp pq) (.consn kq (.pt rfl) (.consn kq (.eqv tq rfl) (.consn kq (.eqv tq rfl) (.consn kq (.eqv tq rfl) (.consn kq (.eqv tq rfl) (.consn kq (.eqv tq rfl) .nil))))))) (.cons (.old rfl rfl (.cells (.pl rfl pq))) .nil)) h7)) (ac h8 (ac h9 (ac (fq (p := ((5 : Nat) ≤ (List.length (List.drop (s7.2.toNat * 5) (s.list.flatMap Ex.cells)))))) (ac (show (List.take 5 (List.drop (s7.2.toNat * 5) (s.list.flatMap Ex.cells))) = (Ex.cells (exAt s.list s7.2.toNat)) from (ex_takeO bq bq)) (ac (eCheck_ok ((exAt s.list s7.2.toNat)) _ h10).any0 (ac h11 (ac h11 (ac h11 (ac h11 (ac h12 (ac h12 (ac h12 (ac h12 (ac h12 (ac (show orderOk (rg Try.prog 19 0) = true ∧ allOk (Region.before (rg Try.prog 19 0)) [] 0 [(some [1], some []), (some [], some []), (some [], some []), (some [], some []), (some [], some []), (some [1], some []), (some [], some []), (some [], some []), (some [], some []), (some [], some []), (some [], some []), (some [], some []), (some [], some []), (some [], some []), (some [], some []), (some [], some []), (some [], some []), (some [], some []), (some [], some []), (some [], some []), (some [], some []), (some [], some []), (some [], some []), (some [], some []), (some [], some []), (some [], some []), (some [], some []), (some [], some [])] = true from (ord_of ord_19_0 bef_19_0 kq)) an)))))))))))))))))))))))))))))))))))))))))))) tq) fun h12 h12p => tbD (fun h13 h13p => by intro e; injection e with e; subst e; exact leafR vw_eq (k := 300) (r := []) (hs := hz [(7, [.no]), (1, [.no]), (2, [.no]), (1, [.no]), (1, [.no]), (1, [.no]), (2, [.no]), (1, [.no]), (1, [.no]), (1, [.no]), (2, [.no]), (1, [.no]), (1, [.no]), (1, [.no]), (2, [.no]), (1, [.no]), (1, [.no]), (1, [.no]), (2, [.no]), (1, [.no]), (2, [.no]), (1, [.no]), (1, [.no]), (1, [.no]), (2, [.no]), (1, [.no]), (1, [.no, .no]), (6, [.head (vCheck_L0_S s s7)]), (1, [.yes]), (1, [.yes, .yes, .cells ((Ex.cells (exAt s.list s7.2.toNat)))]), (3, [.fc]), (1, [.fc]), (1, [.fres (.b (s10))]), (2, [.no]), (1, [.no]), (2, [.no]), (1, [.no]), (1, [.no]), (1, [.no]), (2, [.no]), (1, [.no]), (1, [.no]), (1, [.yes, .yes, .yes, .yes, .yes, .yes]), (2, [])]) (raw := (AV.b false)) kq (ac h0 (ac h0 (ac h0 (ac h0 (ac h1 (ac h1 (ac h1 (ac h1 (ac h2 (ac h2 (ac h2 (ac h2 (ac h3 (ac h3 (ac h3 (ac h3 (ac h4 (ac h4 (ac h4 (ac h4 (ac h4 (ac h4 (ac h5 (ac h5 (ac h5 (ac h5 (ac h5 (ac h6 (ac (show EvHead Try.prog cf (lp Try.prog 19 0) (vCheck_L0_I s) (vCheck_L0_S s s7) from (EvHead.of (vCheck_L0_ok s) (absB_of [] [] kq (.consn kq (.agp pq) (.consn kq (.pt rfl) (.consn kq (.eqv tq rfl) (.consn kq (.eqv tq rfl) (.consn kq (.eqv tq rfl) (.consn kq (.eqv tq rfl) (.consn kq (.eqv tq rfl) .nil))))))) (.cons (.old rfl rfl (.cells (.pl rfl pq))) .nil)) h7)) (ac h8 (ac h9 (ac (fq (p := ((5 : Nat) ≤ (List.length (List.drop (s7.2.toNat * 5) (s.list.flatMap Ex.cells)))))) (ac (show (List.take 5 (List.drop (s7.2.toNat * 5) (s.list.flatMap Ex.cells))) = (Ex.cells (exAt s.list s7.2.toNat)) from (ex_takeO bq bq)) (ac (eCheck_ok ((exAt s.list s7.2.toNat)) _ h10).any0 (ac h11 (ac h11 (ac h11 (ac h11 (ac h12 (ac h12 (ac h12 (ac h12 (ac h12 (ac h13 (ac h13 (ac h13 (ac h13 (ac h13 (ac (show orderOk (rg Try.prog 19 0) = true ∧ allOk (Region.before (rg Try.prog 19 0)) [] 0 [(some [1], some []), (some [], some []), (some [], some []), (some [], some []), (some [], some []), (some [1], some []), (some [], some []), (some [], some []), (some [], some []), (some [], some []), (some [1], some []), (some [], some []), (some [], some []), (some [], some []), (some [], some []), (some [], some []), (some [], some []), (some [], some []), (some [], some []), (some [], some []), (some [], some []), (some [], some []), (some [], some []), (some [], some []), (some [], some []), (some [], some []), (some [], some []), (some [], some [])] = true from (ord_of ord_19_0 bef_19_0 kq)) an))))))))))))))))))))))))))))))))))))))))))))))))) tq) fun h13 h13p => tbD (fun h14 h14p => tp_ok fun h15 => tc_ok fun s16 h16 => tb_ok (fun h17 => by intro e; injection e with e; subst e; exact leafR vw_eq (k := 300) (r := []) (hs := hz [(7, [.no]), (1, [.no]), (2, [.no]), (1, [.no]), (1, [.no]), (1, [.no]), (2, [.no]), (1, [.no]), (1, [.no]), (1, [.no]), (2, [.no]), (1, [.no]), (1, [.no]), (1, [.no]), (2, [.no]), (1, [.no]), (1, [.no]), (1, [.no]), (2, [.no]), (1, [.no]), (2, [.no]), (1, [.no]), (1, [.no]), (1, [.no]), (2, [.no]), (1, [.no]), (1, [.no, .no]), (6, [.head (vCheck_L0_S s s7)]), (1, [.yes]), (1, [.yes, .yes, .cells ((Ex.cells (exAt s.list s7.2.toNat)))]), (3, [.fc]), (1, [.fc]), (1, [.fres (.b (s10))]), (2, [.no]), (1, [.no]), (2, [.no]), (1, [.no]), (1, [.no]), (1, [.no]), (2, [.no]), (1, [.no]), (1, [.no]), (1, [.no]), (1, [.no]), (1, [.no]), (1, [.yes]), (1, [.yes]), (2, [.yes]), (1, [.yes]), (1, [.yes, .yes, .yes, .yes, .cells ((Ex.cells (exAt s.list (Int.toNat (wr (s7.2 - (1 : Int))))))), .yes]), (1, [.fc, .yes]), (1, [.fres (.b (s16)), .no, .yes, .no, .yes, .yes]), (1, [])]) (raw := (AV.b false)) kq (ac h0 (ac h0 (ac h0 (ac h0 (ac h1 (ac h1 (ac h1 (ac h1 (ac h2 (ac h2 (ac h2 (ac h2 (ac h3 (ac h3 (ac h3 (ac h3 (ac h4 (ac h4 (ac h4 (ac h4 (ac h4 (ac h4 (ac h5 (ac h5 (ac h5 (ac h5 (ac h5 (ac h6 (ac (show EvHead Try.prog cf (lp Try.prog 19 0) (vCheck_L0_I s) (vCheck_L0_S s s7) from (EvHead.of (vCheck_L0_ok s) (absB_of [] [] kq (.consn kq (.agp pq) (.consn kq (.pt rfl) (.consn kq (.eqv tq rfl) (.consn kq (.eqv tq rfl) (.consn kq (.eqv tq rfl) (.consn kq (.eqv tq rfl) (.consn kq (.eqv tq rfl) .nil))))))) (.cons (.old rfl rfl (.cells (.pl rfl pq))) .nil)) h7)) (ac h8 (ac h9 (ac (fq (p := ((5 : Nat) ≤ (List.length (List.drop (s7.2.toNat * 5) (s.list.flatMap Ex.cells)))))) (ac (show (List.take 5 (List.drop (s7.2.toNat * 5) (s.list.flatMap Ex.cells))) = (Ex.cells (exAt s.list s7.2.toNat)) from (ex_takeO bq bq)) (ac (eCheck_ok ((exAt s.list s7.2.toNat)) _ h10).any0 (ac h11 (ac h11 (ac h11 (ac h11 (ac h12 (ac h12 (ac h12 (ac h12 (ac h12 (ac h13 (ac h13 (ac h13 (ac h14 (ac h14 (ac h14 (ac h14 (ac h14 (ac h15 (ac h14 (ac (fq (p := ((5 : Nat) ≤ (List.length (List.drop ((Int.toNat (wr (s7.2 - (1 : Int)))) * 5) (s.list.flatMap Ex.cells)))))) (ac (show (List.take 5 (List.drop ((Int.toNat (wr (s7.2 - (1 : Int)))) * 5) (s.list.flatMap Ex.cells))) = (Ex.cells (exAt s.list (Int.toNat (wr (s7.2 - (1 : Int)))))) from (ex_takeO bq bq)) (ac h14 (ac h14 (ac (eJoins_ok ((exAt s.list (Int.toNat (wr (s7.2 - (1 : Int)))))) ((exAt s.list s7.2.toNat)) _ h16).any0 (ac h13 (ac h14 (ac h13 (ac (show orderOk (rg Try.prog 19 0) = true ∧ allOk (Region.before (rg Try.prog 19 0)) [] 0 [(some [1], some []), (some [], some []), (some [], some []), (some [], some []), (some [], some []), (some [1], some []), (some [], some []), (some [], some []), (some [], some []), (some [], some []), (some [1], some []), (some [], some []), (some [], some []), (some [], some []), (some [], some []), (some [], some []), (some [], some []), (some [], some []), (some [], some []), (some [0], some []), (some [], some []), (some [], some []), (some [], some []), (some [], some []), (some [1], some []), (some [], some []), (some [], some []), (some [], some [])] = true from (ord_of ord_19_0 bef_19_0 kq)) (ac h17 an))))))))))))))))))))))))))))))))))))))))))))))))))))))))))))))) tq) fun h17 => th_ok fun s18 h18 => tbD (fun h19 h19p => tc_ok fun s20 h20 => tb_ok (fun h21 => by intro e; injection e with e; subst e; exact leafR vw_eq (k := 300) (r := []) (hs := hz [(7, [.no]), (1, [.no]), (2, [.no]), (1, [.no]), (1, [.no]), (1, [.no]), (2, [.no]), (1, [.no]), (1, [.no]), (1, [.no]), (2, [.no]), (1, [.no]), (1, [.no]), (1, [.no]), (2, [.no]), (1, [.no]), (1, [.no]), (1, [.no]), (2, [.no]), (1, [.no]), (2, [.no]), (1, [.no]), (1, [.no]), (1, [.no]), (2, [.no]), (1, [.no]), (1, [.no, .no]), (6, [.head (vCheck_L0_S s s7)]), (1, [.yes]), (1, [.yes, .yes, .cells ((Ex.cells (exAt s.list s7.2.toNat)))]), (3, [.fc]), (1, [.fc]), (1, [.fres (.b (s10))]), (2, [.no]), (1, [.no]), (2, [.no]), (1, [.no]), (1, [.no]), (1, [.no]), (2, [.no]), (1, [.no]), (1, [.no]), (1, [.no]), (1, [.no]), (1, [.no]), (1, [.yes]), (1, [.yes]), (2, [.yes]), (1, [.yes]), (1, [.yes, .yes, .yes, .yes, .cells ((Ex.cells (exAt s.list (Int.toNat (wr (s7.2 - (1 : Int))))))), .yes]), (1, [.fc, .yes]), (1, [.fres (.b (s16)), .no, .yes, .no, .yes, .no]), (12, [.head (vCheck_L3_S s s7 s10 s16 s18)]), (3, [.yes]), (2, [.yes]), (1, [.fres (.b (s20)), .yes]), (1, [])]) (raw := (AV.b false)) kq (ac h0 (ac h0 (ac h0 (ac h0 (ac h1 (ac h1 (ac h1 (ac h1 (ac h2 (ac h2 (ac h2 (ac h2 (ac h3 (ac h3 (ac h3 (ac h3 (ac h4 (ac h4 (ac h4 (ac h4 (ac h4 (ac h4 (ac h5 (ac h5 (ac h5 (ac h5 (ac h5 (ac h6 (ac (show EvHead Try.prog cf (lp Try.prog 19 0) (vCheck_L0_I s) (vCheck_L0_S s s7) from (EvHead.of (vCheck_L0_ok s) (absB_of [] [] kq (.consn kq (.agp pq) (.consn kq (.pt rfl) (.consn kq (.eqv tq rfl) (.consn kq (.eqv tq rfl) (.consn kq (.eqv tq rfl) (.consn kq (.eqv tq rfl) (.consn kq (.eqv tq rfl) .nil))))))) (.cons (.old rfl rfl (.cells (.pl rfl pq))) .nil)) h7)) (ac h8 (ac h9 (ac (fq (p := ((5 : Nat) ≤ (List.length (List.drop (s7.2.toNat * 5) (s.list.flatMap Ex.cells)))))) (ac (show (List.take 5 (List.drop (s7.2.toNat * 5) (s.list.flatMap Ex.cells))) = (Ex.cells (exAt s.list s7.2.toNat)) from (ex_takeO bq bq)) (ac (eCheck_ok ((exAt s.list s7.2.toNat)) _ h10).any0 (ac h11 (ac h11 (ac h11 (ac h11 (ac h12 (ac h12 (ac h12 (ac h12 (ac h12 (ac h13 (ac h13 (ac h13 (ac h14 (ac h14 (ac h14 (ac h14 (ac h14 (ac h15 (ac h14 (ac (fq (p := ((5 : Nat) ≤ (List.length (List.drop ((Int.toNat (wr (s7.2 - (1 : Int)))) * 5) (s.list.flatMap Ex.cells)))))) (ac (show (List.take 5 (List.drop ((Int.toNat (wr (s7.2 - (1 : Int)))) * 5) (s.list.flatMap Ex.cells))) = (Ex.cells (exAt s.list (Int.toNat (wr (s7.2 - (1 : Int)))))) from (ex_takeO bq bq)) (ac h14 (ac h14 (ac (eJoins_ok ((exAt s.list (Int.toNat (wr (s7.2 - (1 : Int)))))) ((exAt s.list s7.2.toNat)) _ h16).any0 (ac h13 (ac h14 (ac h13 (ac (show orderOk (rg Try.prog 19 0) = true ∧ allOk (Region.before (rg Try.prog 19 0)) [] 0 [(some [1], some []), (some [], some []), (some [], some []), (some [], some []), (some [], some []), (some [1], some []), (some [], some []), (some [], some []), (some [], some []), (some [], some []), (some [1], some []), (some [], some []), (some [], some []), (some [], some []), (some [], some []), (some [], some []), (some [], some []), (some [], some []), (some [], some []), (some [0], some []), (some [], some []), (some [], some []), (some [], some []), (some [], some []), (some [1], some []), (some [], some []), (some [], some []), (some [], some [])] = true from (ord_of ord_19_0 bef_19_0 kq)) (ac h17 (ac (show EvHead Try.prog cf (lp Try.prog 19 1) (vCheck_L3_I s s7 s10 s16) (vCheck_L3_S s s7 s10 s16 s18) from (EvHead.of (vCheck_L3_ok s s7 s10 s16) (absB_of [] [] kq (.consn kq (.agp pq) (.consn kq (.pt rfl) (.consn kq (.eqv tq rfl) (.consn kq (.eqv tq rfl) (.consn kq (.eqv tq rfl) (.consn kq (.eqv tq rfl) (.consn kq (.eqv tq rfl) (.consn kq (.eqv tq rfl) (.consn kq (.pt rfl) (.consn kq (.eqv tq rfl) (.consn kq (.eqv tq rfl) (.consn (x := (bys (exAt s.list s7.2.toNat).d)) kq (.eqv tq rfl) .nil)))))))))))) (.cons (.old rfl rfl (.cells (.pl rfl pq))) (.cons (.old rfl rfl (.cells (.pl rfl pq))) .nil))) h18)) (ac h19 (ac (fq (p := (((0 : Nat) ≤ (32 : Nat)) ∧ (((32 : Nat) ≤ s18.length) ∧ ((List.length (List.map AV.y s18)) = (s18.length * 1)))))) (ac (show EvFr Try.prog cf false 40 [(AV.sl 32 (List.take 32 (List.map AV.y s18)))] (.b (s20)) from ((pIs_ok ((List.take 32 s18)) _ h20).any.cast tq)) (ac h21 an)))))))))))))))))))))))))))))))))))))))))))))))))))))))))))))))))))) tq) fun h21 => tn_ok) fun h19 h19p => tn_ok) fun h14 h14p => th_ok fun s15 h15 => tbD (fun h16 h16p => tc_ok fun s17 h17 => tb_ok (fun h18 => by intro e; injection e with e; subst e; exact leafR vw_eq (k := 300) (r := []) (hs := hz [(7, [.no]), (1, [.no]), (2, [.no]), (1, [.no]), (1, [.no]), (1, [.no]), (2, [.no]), (1, [.no]), (1, [.no]), (1, [.no]), (2, [.no]), (1, [.no]), (1, [.no]), (1, [.no]), (2, [.no]), (1, [.no]), (1, [.no]), (1, [.no]), (2, [.no]), (1, [.no]), (2, [.no]), (1, [.no]), (1, [.no]), (1, [.no]), (2, [.no]), (1, [.no]), (1, [.no, .no]), (6, [.head (vCheck_L0_S s s7)]), (1, [.yes]), (1, [.yes, .yes, .cells ((Ex.cells (exAt s.list s7.2.toNat)))]), (3, [.fc]), (1, [.fc]), (1, [.fres (.b (s10))]), (2, [.no]), (1, [.no]), (2, [.no]), (1, [.no]), (1, [.no]), (1, [.no]), (2, [.no]), (1, [.no]), (1, [.no]), (1, [.no]), (1, [.no]), (1, [.no]), (1, [.no, .no, .no, .no, .no, .no, .no, .no, .no, .no, .no, .yes]), (13, [.head (vCheck_L4_S s s7 s10 s15)]), (3, [.yes]), (2, [.yes]), (1, [.fres (.b (s17)), .yes]), (1, [])]) (raw := (AV.b false)) kq (ac h0 (ac h0 (ac h0 (ac h0 (ac h1 (ac h1 (ac h1 (ac h1 (ac h2 (ac h2 (ac h2 (ac h2 (ac h3 (ac h3 (ac h3 (ac h3 (ac h4 (ac h4 (ac h4 (ac h4 (ac h4 (ac h4 (ac h5 (ac h5 (ac h5 (ac h5 (ac h5 (ac h6 (ac (show EvHead Try.prog cf (lp Try.prog 19 0) (vCheck_L0_I s) (vCheck_L0_S s s7) from (EvHead.of (vCheck_L0_ok s) (absB_of [] [] kq (.consn kq (.agp pq) (.consn kq (.pt rfl) (.consn kq (.eqv tq rfl) (.consn kq (.eqv tq rfl) (.consn kq (.eqv tq rfl) (.consn kq (.eqv tq rfl) (.consn kq (.eqv tq rfl) .nil))))))) (.cons (.old rfl rfl (.cells (.pl rfl pq))) .nil)) h7)) (ac h8 (ac h9 (ac (fq (p := ((5 : Nat) ≤ (List.length (List.drop (s7.2.toNat * 5) (s.list.flatMap Ex.cells)))))) (ac (show (List.take 5 (List.drop (s7.2.toNat * 5) (s.list.flatMap Ex.cells))) = (Ex.cells (exAt s.list s7.2.toNat)) from (ex_takeO bq bq)) (ac (eCheck_ok ((exAt s.list s7.2.toNat)) _ h10).any0 (ac h11 (ac h11 (ac h11 (ac h11 (ac h12 (ac h12 (ac h12 (ac h12 (ac h12 (ac h13 (ac h13 (ac h13 (ac h14 (ac h14 (ac h14 (ac h14 (ac h14 (ac h14 (ac h14 (ac h14 (ac h13 (ac h14 (ac h13 (ac (show orderOk (rg Try.prog 19 0) = true ∧ allOk (Region.before (rg Try.prog 19 0)) [] 0 [(some [1], some []), (some [], some []), (some [], some []), (some [], some []), (some [], some []), (some [1], some []), (some [], some []), (some [], some []), (some [], some []), (some [], some []), (some [1], some []), (some [], some []), (some [], some []), (some [], some []), (some [], some []), (some [], some []), (some [], some []), (some [], some []), (some [], some []), (some [], some []), (some [], some []), (some [], some []), (some [], some []), (some [], some []), (some [], some []), (some [], some []), (some [], some []), (some [], some [])] = true from (ord_of ord_19_0 bef_19_0 kq)) (ac (show EvHead Try.prog cf (lp Try.prog 19 1) (vCheck_L4_I s s7 s10) (vCheck_L4_S s s7 s10 s15) from (EvHead.of (vCheck_L4_ok s s7 s10) (absB_of [] [] kq (.consn kq (.agp pq) (.consn kq (.pt rfl) (.consn kq (.eqv tq rfl) (.consn kq (.eqv tq rfl) (.consn kq (.eqv tq rfl) (.consn kq (.eqv tq rfl) (.consn kq (.eqv tq rfl) (.consn kq (.eqv tq rfl) (.consn kq (.pt rfl) (.consn kq (.eqv tq rfl) (.consn kq (.eqv tq rfl) (.consn (x := (bys (exAt s.list s7.2.toNat).d)) kq (.eqv tq rfl) .nil)))))))))))) (.cons (.old rfl rfl (.cells (.pl rfl pq))) (.cons (.old rfl rfl (.cells (.pl rfl pq))) .nil))) h15)) (ac h16 (ac (fq (p := (((0 : Nat) ≤ (32 : Nat)) ∧ (((32 : Nat) ≤ s15.length) ∧ ((List.length (List.map AV.y s15)) = (s15.length * 1)))))) (ac (show EvFr Try.prog cf false 40 [(AV.sl 32 (List.take 32 (List.map AV.y s15)))] (.b (s17)) from ((pIs_ok ((List.take 32 s15)) _ h17).any.cast tq)) (ac h18 an))))))))))))))))))))))))))))))))))))))))))))))))))))))))))))))) tq) fun h18 => tn_ok) fun h16 h16p => tn_ok) fun h8 h8p => by intro e; injection e with e; subst e; exact leafR vw_eq (k := 300) (r := []) (hs := hz [(7, [.no]), (1, [.no]), (2, [.no]), (1, [.no]), (1, [.no]), (1, [.no]), (2, [.no]), (1, [.no]), (1, [.no]), (1, [.no]), (2, [.no]), (1, [.no]), (1, [.no]), (1, [.no]), (2, [.no]), (1, [.no]), (1, [.no]), (1, [.no]), (2, [.no]), (1, [.no]), (2, [.no]), (1, [.no]), (1, [.no]), (1, [.no]), (2, [.no]), (1, [.no]), (1, [.no, .no]), (6, [.head (vCheck_L0_S s s7)]), (1, [.no]), (6, [])]) (raw := (AV.b (decide (s7.1 ≤ s.blocks)))) kq (ac h0 (ac h0 (ac h0 (ac h0 (ac h1 (ac h1 (ac h1 (ac h1 (ac h2 (ac h2 (ac h2 (ac h2 (ac h3 (ac h3 (ac h3 (ac h3 (ac h4 (ac h4 (ac h4 (ac h4 (ac h4 (ac h4 (ac h5 (ac h5 (ac h5 (ac h5 (ac h5 (ac h6 (ac (show EvHead Try.prog cf (lp Try.prog 19 0) (vCheck_L0_I s) (vCheck_L0_S s s7) from (EvHead.of (vCheck_L0_ok s) (absB_of [] [] kq (.consn kq (.agp pq) (.consn kq (.pt rfl) (.consn kq (.eqv tq rfl) (.consn kq (.eqv tq rfl) (.consn kq (.eqv tq rfl) (.consn kq (.eqv tq rfl) (.consn kq (.eqv tq rfl) .nil))))))) (.cons (.old rfl rfl (.cells (.pl rfl pq))) .nil)) h7)) (ac h8 an)))))))))))))))))))))))))))))) tq
end Ab
end Go.Proofs.Ytpflcogplhigcaa
namespace Go.Proofs.Ytpflcogplhigcaa
open Go Go.Proofs.Ytpflcogplhigcaa.Ab
set_option linter.unusedVariables false
set_option linter.unusedSimpArgs false
namespace Ab
/-- Where extents ahead end. -/
def eAt (l : List Ex) (i : Nat) : Int := if i = 0 then 0 else (exAt l (i - 1)).lba + (exAt l (i - 1)).len
theorem eAt_succ (l : List Ex) (i : Nat) : eAt l (i + 1) = (exAt l i).lba + (exAt l i).len := by simp [eAt]
theorem eAt_en : ∀ (l : List Ex) (s : Int), (if l.length = 0 then s else (exAt l (l.length - 1)).lba + (exAt l (l.length - 1)).len) = en s l
  | [], s => rfl
  | [x], s => rfl
  | x :: y :: l, s => by
    have := eAt_en (y :: l) (x.lba + x.len)
    rw [if_neg (by simp)] at this ⊢
    show _ = en (x.lba + x.len) (y :: l)
    rw [← this]
    rfl
/-- No block of data is zeros: they are gone through. -/
theorem walk_gd {α : Type} {x : Ex} (h : Ck x) (hg : Gd x) (step : List UInt8 → Option (List UInt8)) (f : List UInt8 → Option α)
    (hs : ∀ d : List UInt8, d.length ≤ 100000 → step d = if 32 ≤ d.length then (if isz (d.take 32) = true then none else some (d.drop 32)) else none) :
    th step x.d f = f (x.d.drop (32 * (x.d.length / 32))) := by
  have hl := ck_dlen h
  have := th_run (step := step) (f := f) (fun i => x.d.drop (32 * i)) (x.d.length / 32) (fun i hi => by
    rw [hs _ (by rw [List.length_drop]; omega), if_pos (by rw [List.length_drop]; omega), gd_is h hg (by omega), if_neg (by simp), List.drop_drop]
    congr 2) (by
    rw [hs _ (by rw [List.length_drop]; omega), if_neg (by rw [List.length_drop]; omega)])
  simpa using this
theorem v_tail (d : List UInt8) (h : 32 ≤ d.length) : List.take ((d.length - 32) * 1) (List.drop 32 d) = d.drop 32 := List.take_of_length_le (by rw [List.length_drop]; omega)
theorem vCheck_ok' {s : Sm} (h1 : 1 ≤ s.blocks ∧ s.blocks ≤ 64) (h2 : 1 ≤ s.target ∧ s.target ≤ 2147483647) (h3 : 0 ≤ s.parent ∧ s.parent < s.target) (h4 : s.list.length ≤ 64) (h5 : So 0 s.list) (h6 : NJ s.list) (h7 : ∀ x ∈ s.list, Gd x ∧ x.gen = 0) (h8 : en 0 s.list ≤ s.blocks) : vCheck s = some true := by
  unfold vCheck
  simp only [tb_dec]
  rw [if_neg (by omega), if_neg (by omega), if_neg (by omega), if_neg (by omega), if_neg (by omega), if_neg (by omega), if_neg (by omega)]
  have hls := so_ls s.list 0 h5
  have hgd := (exAt_all s.list (fun x => Gd x ∧ x.gen = 0)).2 h7
  have h0 : ((0 : Int), (0 : Int)) = (eAt s.list 0, ((0 : Nat) : Int)) := by simp [eAt]
  rw [h0, th_run (step := vCheck_L0_step s) (fun i => (eAt s.list i, (i : Int))) s.list.length]
  · rw [if_neg (by omega)]
    have := eAt_en s.list 0
    unfold eAt
    rw [this, decide_eq_true h8]
  · intro i hi
    obtain ⟨hck, hle⟩ := hls i hi
    have px := ck_pos hck
    have hl := ck_dlen hck
    obtain ⟨g1, g2⟩ := hgd i hi
    have hle' : eAt s.list i ≤ (exAt s.list i).lba := hle
    unfold vCheck_L0_step
    simp only [tb_dec, tb_not, tb_bne, Int.toNat_natCast, eCheck_eq, tc_some]
    rw [if_pos (by omega), tp_pos (by omega), ck_t hck, tb_t, if_pos g2, if_neg (by omega), eAt_succ, wr_id (x := (exAt s.list i).lba + (exAt s.list i).len) (by omega) (by omega), wr_id (x := (i : Int) + 1) (by omega) (by omega)]
    have e1 : ((i + 1 : Nat) : Int) = (i : Int) + 1 := by omega
    rw [e1]
    have hlen : (x : List UInt8) → x = (exAt s.list i).d.drop (32 * ((exAt s.list i).d.length / 32)) → ¬ ((x.length : Int) ≥ 32) := by
      rintro x rfl
      rw [List.length_drop]; omega
    by_cases hp : (i : Int) > 0
    · rw [if_pos hp, wr_id (x := (i : Int) - 1) (by omega) (by omega), tp_pos (by omega), show ((i : Int) - 1).toNat = i - 1 by omega, eJoins_eq, tc_some]
      have hnj := nj_at s.list h6 (i - 1) (by omega)
      rw [show i - 1 + 1 = i by omega] at hnj
      rw [jn_f hnj, tb_f]
      refine (walk_gd hck g1 _ _ fun d hd => ?_).trans ?_
      · unfold vCheck_L1_step
        simp only [tb_dec]
        by_cases g : 32 ≤ d.length
        · rw [if_pos (by omega), if_pos g, pIs_eq _ (by rw [List.length_take]; omega), tc_some, tb_ite, v_tail d g]
        · rw [if_neg (by omega), if_neg g]
      · rw [if_neg (hlen _ rfl)]
    · rw [if_neg hp]
      refine (walk_gd hck g1 _ _ fun d hd => ?_).trans ?_
      · unfold vCheck_L2_step
        simp only [tb_dec]
        by_cases g : 32 ≤ d.length
        · rw [if_pos (by omega), if_pos g, pIs_eq _ (by rw [List.length_take]; omega), tc_some, tb_ite, v_tail d g]
        · rw [if_neg (by omega), if_neg g]
      · rw [if_neg (hlen _ rfl)]
  · unfold vCheck_L0_step
    simp only [tb_dec]
    rw [if_neg (by omega)]
end Ab
end Go.Proofs.Ytpflcogplhigcaa
namespace Go.Proofs.Ytpflcogplhigcaa
open Go Go.Proofs.Ytpflcogplhigcaa.Ab
set_option linter.unusedVariables false
set_option linter.unusedSimpArgs false
namespace Ab
/-- Blocks of which some, one behind the other, are others. -/
def putN (l : List Ce) (s : Nat) (f : Nat → Ce) : Nat → List Ce
  | 0 => l
  | i + 1 => (putN l s f i).set (s + i) (f i)
theorem putN_len (l : List Ce) (s : Nat) (f : Nat → Ce) : ∀ i, (putN l s f i).length = l.length
  | 0 => rfl
  | i + 1 => by rw [putN, List.length_set, putN_len l s f i]
theorem putN_get (l : List Ce) (s : Nat) (f : Nat → Ce) : ∀ n, s + n ≤ l.length → ∀ j, (putN l s f n)[j]? = if s ≤ j ∧ j < s + n then some (f (j - s)) else l[j]?
  | 0, _, j => by rw [putN, if_neg (by omega)]
  | n + 1, h, j => by
    rw [putN, List.getElem?_set, putN_get l s f n (by omega) j, putN_len]
    by_cases h1 : s + n = j
    · subst h1
      rw [if_pos rfl, if_pos (by omega), if_pos (by omega)]
      congr 2; omega
    · rw [if_neg h1]
      by_cases h2 : s ≤ j ∧ j < s + n
      · rw [if_pos h2, if_pos (by omega)]
      · rw [if_neg h2, if_neg (by omega)]
/-- Some of a block's bytes, the others 0. -/
def part (d : List UInt8) (k : Nat) : List UInt8 := (pad 32 d).take k ++ List.replicate (32 - k) 0
theorem part_len (d : List UInt8) {k : Nat} (h : k ≤ 32) : (part d k).length = 32 := by
  unfold part; rw [List.length_append, List.length_take, pad_len, List.length_replicate]; omega
theorem part_all (d : List UInt8) : part d 32 = pad 32 d := by
  unfold part; rw [Nat.sub_self, List.replicate_zero, List.append_nil, List.take_of_length_le (by simp)]
theorem pad_getD (d : List UInt8) {k : Nat} (h : k < 32) : (pad 32 d).getD k 0 = d.getD k 0 := by
  unfold pad
  rw [List.getD_eq_getElem?_getD, List.getElem?_take_of_lt h, List.getD_eq_getElem?_getD]
  by_cases hk : k < d.length
  · rw [List.getElem?_append_left hk]
  · rw [List.getElem?_append_right (by omega), List.getElem?_eq_none (l := d) (by omega)]
    rw [List.getElem?_replicate]; split <;> rfl
theorem part_step (d : List UInt8) {k : Nat} (h : k < 32) : (pad 32 (part d k)).set k (d.getD k 0) = part d (k + 1) := by
  rw [pad_of (part_len d (by omega)), ← pad_getD d h]
  unfold part
  have hl : ((pad 32 d).take k).length = k := by rw [List.length_take, pad_len]; omega
  rw [take_at 0 (pad 32 d) k (by simp; omega), show 32 - k = (32 - (k + 1)) + 1 by omega, List.replicate_succ, List.append_assoc, List.set_append_right _ _ (by omega), hl, Nat.sub_self]
  simp only [List.set_cons_zero, List.cons_append, List.nil_append]
end Ab
end Go.Proofs.Ytpflcogplhigcaa
namespace Go.Proofs.Ytpflcogplhigcaa
open Go Go.Proofs.Ytpflcogplhigcaa.Ab
set_option linter.unusedVariables false
set_option linter.unusedSimpArgs false
set_option maxRecDepth 1000000
set_option maxHeartbeats 0
namespace Ab
noncomputable abbrev r8Cells_L2_I (blocks : Int) (l : List Ex) (s1 : Int × List Ce) (s4 : List UInt8) (s5 : Int × List Ce) : St := (St.mk [(0, (AV.i blocks)), (1, (exs l)), (4, AV.nl), (5, (AV.rf 0 34 0 blocks.toNat)), (6, (AV.i s1.1)), (16, (AV.b (decide (s1.1 < (l.length : Int))))), (7, (bys s4)), (8, (AV.i s5.1)), (24, (AV.i s5.1)), (25, (bys s4)), (26, (AV.i (s4.length : Int))), (27, (AV.i (wr (Int.tdiv (s4.length : Int) (32 : Int))))), (28, (AV.b (decide (s5.1 < (wr (Int.tdiv (s4.length : Int) (32 : Int))))))), (31, (exs l)), (32, (AV.i s1.1)), (33, (AV.ip (List.drop (s1.1.toNat * 5) (l.flatMap Ex.cells)))), (34, (AV.ip (List.drop (s1.1.toNat * 5) (l.flatMap Ex.cells)))), (35, (AV.i (exAt l s1.1.toNat).lba)), (36, (AV.i s5.1)), (37, (AV.i (wr ((exAt l s1.1.toNat).lba + s5.1)))), (38, (AV.i blocks)), (39, (AV.b (decide ((wr ((exAt l s1.1.toNat).lba + s5.1)) ≥ blocks)))), (40, (exs l)), (41, (AV.i s1.1)), (42, (AV.ip (List.drop (s1.1.toNat * 5) (l.flatMap Ex.cells)))), (43, (AV.ip (List.drop 2 (List.drop (s1.1.toNat * 5) (l.flatMap Ex.cells))))), (44, (AV.i (exAt l s1.1.toNat).kind)), (45, (exs l)), (46, (AV.i s1.1)), (47, (AV.ip (List.drop (s1.1.toNat * 5) (l.flatMap Ex.cells)))), (48, (AV.ip (List.drop 3 (List.drop (s1.1.toNat * 5) (l.flatMap Ex.cells))))), (49, (AV.i (exAt l s1.1.toNat).gen)), (50, (AV.ag ((AV.i (exAt l s1.1.toNat).kind) :: (AV.i (exAt l s1.1.toNat).gen) :: List.replicate (32 : Nat) (AV.y (UInt8.ofNat (0 : Nat)))))), (9, (AV.pt 1 0)), (10, (AV.i 0))] 76 (AH.mk 2 [(1, (AObj.cells ((AV.i (exAt l s1.1.toNat).kind) :: (AV.i (exAt l s1.1.toNat).gen) :: List.replicate (32 : Nat) (AV.y (UInt8.ofNat (0 : Nat)))))), (0, (AObj.cells (s5.2.flatMap Ce.cells)))]) false)
noncomputable abbrev r8Cells_L2_S (blocks : Int) (l : List Ex) (s1 : Int × List Ce) (s4 : List UInt8) (s5 : Int × List Ce) (s9 : Int × Ce) : St := (St.mk [(0, (AV.i blocks)), (1, (exs l)), (4, AV.nl), (5, (AV.rf 0 34 0 blocks.toNat)), (6, (AV.i s1.1)), (16, (AV.b (decide (s1.1 < (l.length : Int))))), (7, (bys s4)), (8, (AV.i s5.1)), (28, (AV.b (decide (s5.1 < (wr (Int.tdiv (s4.length : Int) (32 : Int))))))), (39, (AV.b (decide ((wr ((exAt l s1.1.toNat).lba + s5.1)) ≥ blocks)))), (9, (AV.pt 1 0)), (10, (AV.i s9.1))] 76 (AH.mk 2 [(1, (AObj.cells (Ce.cells s9.2))), (0, (AObj.cells (s5.2.flatMap Ce.cells)))]) false)
noncomputable def r8Cells_L2_step (blocks : Int) (l : List Ex) (s1 : Int × List Ce) (s4 : List UInt8) (s5 : Int × List Ce) (s9 : Int × Ce) : Option (Int × Ce) :=
 (tb ((decide (s9.1 < (32 : Int)))) (tp ((((0 : Int) ≤ (wr ((wr ((32 : Int) * s5.1)) + s9.1))) ∧ ((wr ((wr ((32 : Int) * s5.1)) + s9.1)) < (s4.length : Int)))) (tp ((((0 : Int) ≤ s9.1) ∧ (s9.1 < (32 : Int)))) (tp ((((List.length [(AV.y (List.getD s4 ((Int.toNat (wr ((wr ((32 : Int) * s5.1)) + s9.1))) * 1) (OfNat.ofNat 0)))]) = (1 : Nat)) ∧ ((((2 : Nat) + (s9.1.toNat * 1)) + (List.length [(AV.y (List.getD s4 ((Int.toNat (wr ((wr ((32 : Int) * s5.1)) + s9.1))) * 1) (OfNat.ofNat 0)))])) ≤ (List.length ((AV.i s9.2.kind) :: (AV.i s9.2.gen) :: (List.map AV.y (pad 32 s9.2.d))))))) (some (((wr (s9.1 + (1 : Int))), (Ce.mk s9.2.kind s9.2.gen (List.set (pad 32 s9.2.d) (s9.1.toNat * 1) (List.getD s4 ((Int.toNat (wr ((wr ((32 : Int) * s5.1)) + s9.1))) * 1) (OfNat.ofNat 0)))))))))) none)
theorem r8Cells_L2_ok (blocks : Int) (l : List Ex) (s1 : Int × List Ce) (s4 : List UInt8) (s5 : Int × List Ce) (s9 zz : Int × Ce) : r8Cells_L2_step blocks l s1 s4 s5 s9 = some zz → EvStep Try.prog cf 2 (lp Try.prog 93 2) (r8Cells_L2_S blocks l s1 s4 s5 s9) (r8Cells_L2_S blocks l s1 s4 s5 zz) := by
  unfold r8Cells_L2_step
  exact tbD (fun h10 h10p => tp_ok fun h11 => tp_ok fun h12 => tp_ok fun h13 => by intro e; injection e with e; subst e; exact leafS vw_eq (k := 300) (r := []) (hs := hz [(2, [.yes]), (6, [.yes, .yes, .val ((AV.y (List.getD s4 ((Int.toNat (wr ((wr ((32 : Int) * s5.1)) + s9.1))) * 1) (0 : UInt8))))]), (1, [.yes, .yes, .cells (((AV.i s9.2.kind) :: (AV.i s9.2.gen) :: (List.map AV.y (List.set (pad 32 s9.2.d) (s9.1.toNat * 1) (List.getD s4 ((Int.toNat (wr ((wr ((32 : Int) * s5.1)) + s9.1))) * 1) (OfNat.ofNat 0))))))]), (3, [])]) (ks := [0, 1, 4, 5, 6, 16, 7, 8, 28, 39, 9, 10]) (st1 := (St.mk [(0, (AV.i blocks)), (1, (exs l)), (4, AV.nl), (5, (AV.rf 0 34 0 blocks.toNat)), (6, (AV.i s1.1)), (16, (AV.b (decide (s1.1 < (l.length : Int))))), (7, (bys s4)), (8, (AV.i s5.1)), (28, (AV.b (decide (s5.1 < (wr (Int.tdiv (s4.length : Int) (32 : Int))))))), (39, (AV.b (decide ((wr ((exAt l s1.1.toNat).lba + s5.1)) ≥ blocks)))), (9, (AV.pt 1 0)), (10, (AV.i (wr (s9.1 + (1 : Int)))))] 76 (AH.mk 2 [(1, (AObj.cells ((AV.i s9.2.kind) :: (AV.i s9.2.gen) :: (List.map AV.y (List.set (pad 32 s9.2.d) (s9.1.toNat * 1) (List.getD s4 ((Int.toNat (wr ((wr ((32 : Int) * s5.1)) + s9.1))) * 1) (OfNat.ofNat 0))))))), (0, (AObj.cells (s5.2.flatMap Ce.cells)))]) false)) kq (ac h10 (ac h11 (ac (fq (p := ((1 : Nat) ≤ (List.length (List.drop ((Int.toNat (wr ((wr ((32 : Int) * s5.1)) + s9.1))) * 1) (List.map AV.y s4)))))) (ac (show (List.take 1 (List.drop ((Int.toNat (wr ((wr ((32 : Int) * s5.1)) + s9.1))) * 1) (List.map AV.y s4))) = [(AV.y (List.getD s4 ((Int.toNat (wr ((wr ((32 : Int) * s5.1)) + s9.1))) * 1) (0 : UInt8)))] from (by (try simp only [List.drop_drop]); exact one_drop_yC (l := s4) tq bq)) (ac h12 (ac h13 (ac (show (((List.take ((2 : Nat) + (s9.1.toNat * 1)) ((AV.i s9.2.kind) :: (AV.i s9.2.gen) :: (List.map AV.y (pad 32 s9.2.d)))) ++ [(AV.y (List.getD s4 ((Int.toNat (wr ((wr ((32 : Int) * s5.1)) + s9.1))) * 1) (OfNat.ofNat 0)))]) ++ (List.drop (((2 : Nat) + (s9.1.toNat * 1)) + (List.length [(AV.y (List.getD s4 ((Int.toNat (wr ((wr ((32 : Int) * s5.1)) + s9.1))) * 1) (OfNat.ofNat 0)))])) ((AV.i s9.2.kind) :: (AV.i s9.2.gen) :: (List.map AV.y (pad 32 s9.2.d))))) = ((AV.i s9.2.kind) :: (AV.i s9.2.gen) :: (List.map AV.y (List.set (pad 32 s9.2.d) (s9.1.toNat * 1) (List.getD s4 ((Int.toNat (wr ((wr ((32 : Int) * s5.1)) + s9.1))) * 1) (OfNat.ofNat 0))))) from (over_pre_y (p := [(AV.i s9.2.kind), (AV.i s9.2.gen)]) (l := (pad 32 s9.2.d)) (k := (s9.1.toNat * 1)) tq bq)) an))))))) (Nat.le_of_ble_eq_true rfl) (Nat.le_of_ble_eq_true rfl) (absB_of [] [] kq (.consn kq (.eqv tq rfl) (.consn kq (.eqv tq rfl) (.consn kq .nl0 (.consn kq (.rf rfl) (.consn kq (.eqv tq rfl) (.consn kq (.eqv tq rfl) (.consn kq (.eqv tq rfl) (.consn kq (.eqv tq rfl) (.consn kq (.eqv tq rfl) (.consn kq (.eqv tq rfl) (.consn kq (.pt rfl) (.consn kq (.eqv tq rfl) .nil)))))))))))) (.cons (.old rfl rfl (.cells (.pl tq pq))) (.cons (.old rfl rfl (.cells (.pl rfl (by simp)))) .nil)))) fun h10 h10p => tn_ok
noncomputable abbrev r8Cells_L1_I (blocks : Int) (l : List Ex) (s1 : Int × List Ce) (s4 : List UInt8) : St := (St.mk [(0, (AV.i blocks)), (1, (exs l)), (4, AV.nl), (5, (AV.rf 0 34 0 blocks.toNat)), (6, (AV.i s1.1)), (13, (AV.i s1.1)), (14, (exs l)), (15, (AV.i (l.length : Int))), (16, (AV.b (decide (s1.1 < (l.length : Int))))), (19, (exs l)), (20, (AV.i s1.1)), (21, (AV.ip (List.drop (s1.1.toNat * 5) (l.flatMap Ex.cells)))), (22, (AV.ag (xc (exAt l s1.1.toNat)))), (23, (bys s4)), (7, (bys s4)), (8, (AV.i 0))] 76 (AH.mk 1 [(0, (AObj.cells (s1.2.flatMap Ce.cells)))]) false)
noncomputable abbrev r8Cells_L1_S (blocks : Int) (l : List Ex) (s1 : Int × List Ce) (s4 : List UInt8) (s5 : Int × List Ce) : St := (St.mk [(0, (AV.i blocks)), (1, (exs l)), (4, AV.nl), (5, (AV.rf 0 34 0 blocks.toNat)), (6, (AV.i s1.1)), (16, (AV.b (decide (s1.1 < (l.length : Int))))), (7, (bys s4)), (8, (AV.i s5.1))] 76 (AH.mk 1 [(0, (AObj.cells (s5.2.flatMap Ce.cells)))]) false)
noncomputable def r8Cells_L1_step (blocks : Int) (l : List Ex) (s1 : Int × List Ce) (s4 : List UInt8) (s5 : Int × List Ce) : Option (Int × List Ce) :=
 (tb ((decide (s5.1 < (wr (Int.tdiv (s4.length : Int) (32 : Int)))))) (tp ((((0 : Int) ≤ s1.1) ∧ (s1.1 < (l.length : Int)))) (tb ((decide ((wr ((exAt l s1.1.toNat).lba + s5.1)) ≥ blocks))) none (th (r8Cells_L2_step blocks l s1 s4 s5) (((0 : Int), (Ce.mk (exAt l s1.1.toNat).kind (exAt l s1.1.toNat).gen (List.replicate (32 : Nat) (UInt8.ofNat (0 : Nat)))))) fun s9 => (tb ((decide (s9.1 < (32 : Int)))) none (tp ((((0 : Int) ≤ (wr ((exAt l s1.1.toNat).lba + s5.1))) ∧ ((wr ((exAt l s1.1.toNat).lba + s5.1)) < (↑blocks.toNat : Int)))) (tp ((((List.length ((AV.i s9.2.kind) :: (AV.i s9.2.gen) :: (List.map AV.y (pad 32 s9.2.d)))) = (34 : Nat)) ∧ ((((0 : Nat) + ((Int.toNat (wr ((exAt l s1.1.toNat).lba + s5.1))) * 34)) + (List.length ((AV.i s9.2.kind) :: (AV.i s9.2.gen) :: (List.map AV.y (pad 32 s9.2.d))))) ≤ (List.length (s5.2.flatMap Ce.cells))))) (some (((wr (s5.1 + (1 : Int))), (List.set s5.2 (Int.toNat (wr ((exAt l s1.1.toNat).lba + s5.1))) s9.2)))))))))) none)
theorem r8Cells_L1_ok (blocks : Int) (l : List Ex) (s1 : Int × List Ce) (s4 : List UInt8) (s5 zz : Int × List Ce) : r8Cells_L1_step blocks l s1 s4 s5 = some zz → EvStep Try.prog cf 1 (lp Try.prog 93 1) (r8Cells_L1_S blocks l s1 s4 s5) (r8Cells_L1_S blocks l s1 s4 zz) := by
  unfold r8Cells_L1_step
  exact tbD (fun h6 h6p => tp_ok fun h7 => tbD (fun h8 h8p => tn_ok) fun h8 h8p => th_ok fun s9 h9 => tbD (fun h10 h10p => tn_ok) fun h10 h10p => tp_ok fun h11 => tp_ok fun h12 => by intro e; injection e with e; subst e; exact leafS vw_eq (k := 300) (r := []) (hs := hz [(5, [.yes]), (2, [.yes]), (1, [.yes, .val ((AV.i (exAt l s1.1.toNat).lba))]), (4, [.no]), (2, [.yes]), (1, [.yes, .val ((AV.i (exAt l s1.1.toNat).kind))]), (2, [.yes]), (1, [.yes, .val ((AV.i (exAt l s1.1.toNat).gen))]), (3, [.fc, .yes]), (1, [.head (r8Cells_L2_S blocks l s1 s4 s5 s9)]), (2, [.no]), (3, [.yes]), (1, [.yes, .val ((AV.i (exAt l s1.1.toNat).lba))]), (2, [.yes, .cells (((AV.i s9.2.kind) :: (AV.i s9.2.gen) :: (List.map AV.y (pad 32 s9.2.d)))), .yes, .yes, .cells ((List.flatMap Ce.cells (List.set s5.2 (Int.toNat (wr ((exAt l s1.1.toNat).lba + s5.1))) s9.2))), .yes]), (3, [])]) (ks := [0, 1, 4, 5, 6, 16, 7, 8]) (st1 := (St.mk [(0, (AV.i blocks)), (1, (exs l)), (4, AV.nl), (5, (AV.rf 0 34 0 blocks.toNat)), (6, (AV.i s1.1)), (16, (AV.b (decide (s1.1 < (l.length : Int))))), (7, (bys s4)), (8, (AV.i (wr (s5.1 + (1 : Int)))))] 76 (AH.mk 2 [(1, (AObj.cells ((AV.i s9.2.kind) :: (AV.i s9.2.gen) :: (List.map AV.y (pad 32 s9.2.d))))), (0, (AObj.cells (List.flatMap Ce.cells (List.set s5.2 (Int.toNat (wr ((exAt l s1.1.toNat).lba + s5.1))) s9.2))))]) false)) kq (ac h6 (ac h7 (ac (fq (p := ((1 : Nat) ≤ (List.length (List.drop (s1.1.toNat * 5) (l.flatMap Ex.cells)))))) (ac (show (List.take 1 (List.drop (s1.1.toNat * 5) (l.flatMap Ex.cells))) = [(AV.i (exAt l s1.1.toNat).lba)] from (by first | exact ex_one0 _ _ _ bq rfl | (simpa using ex_one (l) (s1.1.toNat) 0 _ bq rfl))) (ac h8 (ac h7 (ac (fq (p := ((1 : Nat) ≤ (List.length (List.drop 2 (List.drop (s1.1.toNat * 5) (l.flatMap Ex.cells))))))) (ac (show (List.take 1 (List.drop 2 (List.drop (s1.1.toNat * 5) (l.flatMap Ex.cells)))) = [(AV.i (exAt l s1.1.toNat).kind)] from (by first | exact ex_one _ _ _ _ bq rfl | exact ex_oneA _ _ _ _ bq rfl | (simpa using ex_one (l) (s1.1.toNat) 2 _ bq rfl) | ((try simp only [List.drop_drop]); rw [show ((2 : Nat) + (s1.1.toNat * 5)) = (s1.1.toNat) * 5 + 2 by omega]; exact ex_oneA (l) (s1.1.toNat) 2 _ bq rfl))) (ac h7 (ac (fq (p := ((1 : Nat) ≤ (List.length (List.drop 3 (List.drop (s1.1.toNat * 5) (l.flatMap Ex.cells))))))) (ac (show (List.take 1 (List.drop 3 (List.drop (s1.1.toNat * 5) (l.flatMap Ex.cells)))) = [(AV.i (exAt l s1.1.toNat).gen)] from (by first | exact ex_one _ _ _ _ bq rfl | exact ex_oneA _ _ _ _ bq rfl | (simpa using ex_one (l) (s1.1.toNat) 3 _ bq rfl) | ((try simp only [List.drop_drop]); rw [show ((3 : Nat) + (s1.1.toNat * 5)) = (s1.1.toNat) * 5 + 3 by omega]; exact ex_oneA (l) (s1.1.toNat) 3 _ bq rfl))) (ac (show orderOk (rg Try.prog 93 0) = true ∧ allOk (Region.before (rg Try.prog 93 0)) [] 0 [(some [], some []), (some [], some []), (some [], some []), (some [], some []), (some [], some []), (some [], some []), (some [], some []), (some [], some []), (some [], some []), (some [], some []), (some [], some []), (some [], some [1]), (some [1], some [1])] = true from (ord_of ord_93_0 bef_93_0 kq)) (ac (show EvHead Try.prog cf (lp Try.prog 93 2) (r8Cells_L2_I blocks l s1 s4 s5) (r8Cells_L2_S blocks l s1 s4 s5 s9) from (EvHead.of (r8Cells_L2_ok blocks l s1 s4 s5) (absB_of [] [] kq (.consn kq (.eqv tq rfl) (.consn kq (.eqv tq rfl) (.consn kq .nl0 (.consn kq (.rf rfl) (.consn kq (.eqv tq rfl) (.consn kq (.eqv tq rfl) (.consn kq (.eqv tq rfl) (.consn kq (.eqv tq rfl) (.consn kq (.eqv tq rfl) (.consn kq (.eqv tq rfl) (.consn kq (.pt rfl) (.consn kq (.eqv tq rfl) .nil)))))))))))) (.cons (.old rfl rfl (.cells (.pl tq pq))) (.cons (.old rfl rfl (.cells (.pl rfl (by simp)))) .nil))) h9)) (ac h10 (ac h7 (ac (fq (p := ((1 : Nat) ≤ (List.length (List.drop (s1.1.toNat * 5) (l.flatMap Ex.cells)))))) (ac (show (List.take 1 (List.drop (s1.1.toNat * 5) (l.flatMap Ex.cells))) = [(AV.i (exAt l s1.1.toNat).lba)] from (by first | exact ex_one0 _ _ _ bq rfl | (simpa using ex_one (l) (s1.1.toNat) 0 _ bq rfl))) (ac (tq (p := ((34 : Nat) ≤ (List.length ((AV.i s9.2.kind) :: (AV.i s9.2.gen) :: (List.map AV.y (pad 32 s9.2.d))))))) (ac (show (List.take 34 ((AV.i s9.2.kind) :: (AV.i s9.2.gen) :: (List.map AV.y (pad 32 s9.2.d)))) = ((AV.i s9.2.kind) :: (AV.i s9.2.gen) :: (List.map AV.y (pad 32 s9.2.d))) from (List.take_of_length_le tq)) (ac h11 (ac h12 (ac (show (((List.take ((0 : Nat) + ((Int.toNat (wr ((exAt l s1.1.toNat).lba + s5.1))) * 34)) (s5.2.flatMap Ce.cells)) ++ ((AV.i s9.2.kind) :: (AV.i s9.2.gen) :: (List.map AV.y (pad 32 s9.2.d)))) ++ (List.drop (((0 : Nat) + ((Int.toNat (wr ((exAt l s1.1.toNat).lba + s5.1))) * 34)) + (List.length ((AV.i s9.2.kind) :: (AV.i s9.2.gen) :: (List.map AV.y (pad 32 s9.2.d))))) (s5.2.flatMap Ce.cells))) = (List.flatMap Ce.cells (List.set s5.2 (Int.toNat (wr ((exAt l s1.1.toNat).lba + s5.1))) s9.2)) from (ce_setO (x := s9.2) bq bq tq)) (ac (show orderOk (rg Try.prog 93 1) = true ∧ allOk (Region.before (rg Try.prog 93 1)) [] 0 [(some [], some []), (some [], some []), (some [], some []), (some [], some []), (some [], some []), (some [], some []), (some [], some []), (some [], some []), (some [1], some []), (some [], some []), (some [0], some [0])] = true from (ord_of ord_93_1 bef_93_1 kq)) an))))))))))))))))))))))) (Nat.le_of_ble_eq_true rfl) (Nat.le_of_ble_eq_true rfl) (absB_of [] [] kq (.consn kq (.eqv tq rfl) (.consn kq (.eqv tq rfl) (.consn kq .nl0 (.consn kq (.rf rfl) (.consn kq (.eqv tq rfl) (.consn kq (.eqv tq rfl) (.consn kq (.eqv tq rfl) (.consn kq (.eqv tq rfl) .nil)))))))) (.cons (.old rfl rfl (.cells (.pl tq pq))) .nil))) fun h6 h6p => tn_ok
noncomputable abbrev r8Cells_L0_I (blocks : Int) (l : List Ex) : St := (St.mk [(0, (AV.i blocks)), (1, (exs l)), (4, AV.nl), (11, (AV.i blocks)), (12, (AV.rf 0 34 0 blocks.toNat)), (5, (AV.rf 0 34 0 blocks.toNat)), (6, (AV.i 0))] 76 (AH.mk 1 [(0, (AObj.cells (List.flatten (List.replicate blocks.toNat ((AV.i (Int.ofNat 0)) :: (AV.i (Int.ofNat 0)) :: List.replicate (32 : Nat) (AV.y (UInt8.ofNat (0 : Nat))))))))]) false)
noncomputable abbrev r8Cells_L0_S (blocks : Int) (l : List Ex) (s1 : Int × List Ce) : St := (St.mk [(0, (AV.i blocks)), (1, (exs l)), (4, AV.nl), (5, (AV.rf 0 34 0 blocks.toNat)), (6, (AV.i s1.1))] 76 (AH.mk 1 [(0, (AObj.cells (s1.2.flatMap Ce.cells)))]) false)
noncomputable def r8Cells_L0_step (blocks : Int) (l : List Ex) (s1 : Int × List Ce) : Option (Int × List Ce) :=
 (tb ((decide (s1.1 < (l.length : Int)))) (tp ((((0 : Int) ≤ s1.1) ∧ (s1.1 < (l.length : Int)))) (tc (r7Bytes ((exAt l s1.1.toNat))) fun s4 => (th (r8Cells_L1_step blocks l s1 s4) (((0 : Int), s1.2)) fun s5 => (tb ((decide (s5.1 < (wr (Int.tdiv (s4.length : Int) (32 : Int)))))) (tb ((decide ((wr ((exAt l s1.1.toNat).lba + s5.1)) ≥ blocks))) (some (((wr (s1.1 + (1 : Int))), s5.2))) none) (some (((wr (s1.1 + (1 : Int))), s5.2))))))) none)
theorem r8Cells_L0_ok (blocks : Int) (l : List Ex) (s1 zz : Int × List Ce) : r8Cells_L0_step blocks l s1 = some zz → EvStep Try.prog cf 1 (lp Try.prog 93 0) (r8Cells_L0_S blocks l s1) (r8Cells_L0_S blocks l zz) := by
  unfold r8Cells_L0_step
  exact tbD (fun h2 h2p => tp_ok fun h3 => tc_ok fun s4 h4 => th_ok fun s5 h5 => tbD (fun h6 h6p => tbD (fun h7 h7p => by intro e; injection e with e; subst e; exact leafS vw_eq (k := 300) (r := []) (hs := hz [(4, [.yes]), (2, [.yes, .yes, .cells ((Ex.cells (exAt l s1.1.toNat)))]), (1, [.fres (bys (s4))]), (2, [.head (r8Cells_L1_S blocks l s1 s4 s5)]), (5, [.yes]), (2, [.yes]), (1, [.yes, .val ((AV.i (exAt l s1.1.toNat).lba))]), (4, [.yes]), (3, [])]) (ks := [0, 1, 4, 5, 6]) (st1 := (St.mk [(0, (AV.i blocks)), (1, (exs l)), (4, AV.nl), (5, (AV.rf 0 34 0 blocks.toNat)), (6, (AV.i (wr (s1.1 + (1 : Int)))))] 76 (AH.mk 1 [(0, (AObj.cells (s5.2.flatMap Ce.cells)))]) false)) kq (ac h2 (ac h3 (ac (fq (p := ((5 : Nat) ≤ (List.length (List.drop (s1.1.toNat * 5) (l.flatMap Ex.cells)))))) (ac (show (List.take 5 (List.drop (s1.1.toNat * 5) (l.flatMap Ex.cells))) = (Ex.cells (exAt l s1.1.toNat)) from (ex_takeO bq bq)) (ac (r7Bytes_ok ((exAt l s1.1.toNat)) _ h4).any0 (ac (show EvHead Try.prog cf (lp Try.prog 93 1) (r8Cells_L1_I blocks l s1 s4) (r8Cells_L1_S blocks l s1 s4 s5) from (EvHead.of (r8Cells_L1_ok blocks l s1 s4) (absB_of [] [] kq (.consn kq (.eqv tq rfl) (.consn kq (.eqv tq rfl) (.consn kq .nl0 (.consn kq (.rf rfl) (.consn kq (.eqv tq rfl) (.consn kq (.eqv tq rfl) (.consn kq (.eqv tq rfl) (.consn kq (.eqv tq rfl) .nil)))))))) (.cons (.old rfl rfl (.cells (.pl tq pq))) .nil)) h5)) (ac h6 (ac h3 (ac (fq (p := ((1 : Nat) ≤ (List.length (List.drop (s1.1.toNat * 5) (l.flatMap Ex.cells)))))) (ac (show (List.take 1 (List.drop (s1.1.toNat * 5) (l.flatMap Ex.cells))) = [(AV.i (exAt l s1.1.toNat).lba)] from (by first | exact ex_one0 _ _ _ bq rfl | (simpa using ex_one (l) (s1.1.toNat) 0 _ bq rfl))) (ac h7 an))))))))))) (Nat.le_of_ble_eq_true rfl) (Nat.le_of_ble_eq_true rfl) (absB_of [] [] kq (.consn kq (.eqv tq rfl) (.consn kq (.eqv tq rfl) (.consn kq .nl0 (.consn kq (.rf rfl) (.consn kq (.eqv tq rfl) .nil))))) (.cons (.old rfl rfl (.cells (.pl tq pq))) .nil))) fun h7 h7p => tn_ok) fun h6 h6p => by intro e; injection e with e; subst e; exact leafS vw_eq (k := 300) (r := []) (hs := hz [(4, [.yes]), (2, [.yes, .yes, .cells ((Ex.cells (exAt l s1.1.toNat)))]), (1, [.fres (bys (s4))]), (2, [.head (r8Cells_L1_S blocks l s1 s4 s5)]), (5, [.no]), (3, [])]) (ks := [0, 1, 4, 5, 6]) (st1 := (St.mk [(0, (AV.i blocks)), (1, (exs l)), (4, AV.nl), (5, (AV.rf 0 34 0 blocks.toNat)), (6, (AV.i (wr (s1.1 + (1 : Int)))))] 76 (AH.mk 1 [(0, (AObj.cells (s5.2.flatMap Ce.cells)))]) false)) kq (ac h2 (ac h3 (ac (fq (p := ((5 : Nat) ≤ (List.length (List.drop (s1.1.toNat * 5) (l.flatMap Ex.cells)))))) (ac (show (List.take 5 (List.drop (s1.1.toNat * 5) (l.flatMap Ex.cells))) = (Ex.cells (exAt l s1.1.toNat)) from (ex_takeO bq bq)) (ac (r7Bytes_ok ((exAt l s1.1.toNat)) _ h4).any0 (ac (show EvHead Try.prog cf (lp Try.prog 93 1) (r8Cells_L1_I blocks l s1 s4) (r8Cells_L1_S blocks l s1 s4 s5) from (EvHead.of (r8Cells_L1_ok blocks l s1 s4) (absB_of [] [] kq (.consn kq (.eqv tq rfl) (.consn kq (.eqv tq rfl) (.consn kq .nl0 (.consn kq (.rf rfl) (.consn kq (.eqv tq rfl) (.consn kq (.eqv tq rfl) (.consn kq (.eqv tq rfl) (.consn kq (.eqv tq rfl) .nil)))))))) (.cons (.old rfl rfl (.cells (.pl tq pq))) .nil)) h5)) (ac h6 an))))))) (Nat.le_of_ble_eq_true rfl) (Nat.le_of_ble_eq_true rfl) (absB_of [] [] kq (.consn kq (.eqv tq rfl) (.consn kq (.eqv tq rfl) (.consn kq .nl0 (.consn kq (.rf rfl) (.consn kq (.eqv tq rfl) .nil))))) (.cons (.old rfl rfl (.cells (.pl tq pq))) .nil))) fun h2 h2p => tn_ok
/-- Function 93, as it answers. -/
noncomputable def r8Cells (blocks : Int) (l : List Ex) : Option (List Ce) :=
 (tp (((blocks = blocks) ∧ (((0 : Int) ≤ blocks) ∧ (blocks ≤ (4294967296 : Int))))) (th (r8Cells_L0_step blocks l) (((0 : Int), (List.replicate blocks.toNat (Ce.mk 0 0 (List.replicate (32 : Nat) (UInt8.ofNat (0 : Nat))))))) fun s1 => (tb ((decide (s1.1 < (l.length : Int)))) none (tp ((((0 : Nat) + (blocks.toNat * 34)) ≤ (List.length (s1.2.flatMap Ce.cells)))) (some ((List.take blocks.toNat s1.2)))))))
abbrev r8Cells_G (blocks : Int) (l : List Ex) (r : List Ce) : Prop := EvFr Try.prog cf true 93 [.i (blocks), exs (l)] (ces (r))
theorem r8Cells_ok (blocks : Int) (l : List Ex) (r : List Ce) : r8Cells blocks l = some r → r8Cells_G blocks l r := by
  unfold r8Cells
  exact tp_ok fun h0 => th_ok fun s1 h1 => tbD (fun h2 h2p => tn_ok) fun h2 h2p => tp_ok fun h3 => by intro e; injection e with e; subst e; exact leafR vw_eq (k := 300) (r := []) (hs := hz [(2, [.yes]), (2, [.head (r8Cells_L0_S blocks l s1)]), (4, [.no]), (2, [.no, .yes, .yes])]) (raw := (AV.sl blocks.toNat (List.take (blocks.toNat * 34) (s1.2.flatMap Ce.cells)))) kq (ac h0 (ac (show EvHead Try.prog cf (lp Try.prog 93 0) (r8Cells_L0_I blocks l) (r8Cells_L0_S blocks l s1) from (EvHead.of (r8Cells_L0_ok blocks l) (absB_of [] [] kq (.consn kq (.eqv tq rfl) (.consn kq (.eqv tq rfl) (.consn kq .nl0 (.consn kq (.rf rfl) (.consn kq (.eqv tq rfl) .nil))))) (.cons (.old rfl rfl (.cells (.pl tq pq))) .nil)) h1)) (ac h2 (ac h3 (ac (pq (p := Pl true ((List.take (blocks.toNat * 34) (s1.2.flatMap Ce.cells))))) an))))) tq
noncomputable abbrev r11kept_L0_I (blocks : Int) (was : List Ex) (l : List Ex) (gen : Int) (s0 : List Ce) (s1 : List Ce) : St := (St.mk [(0, (AV.i blocks)), (1, (exs was)), (2, (exs l)), (3, (AV.i gen)), (8, (AV.b false)), (12, (AV.i blocks)), (13, (exs was)), (14, (ces s0)), (9, (ces s0)), (15, (AV.i blocks)), (16, (exs l)), (17, (ces s1)), (10, (ces s1)), (11, (AV.i 0))] 41 (AH.mk 0 ([] : List (Prod Nat AObj))) false)
noncomputable abbrev r11kept_L0_S (blocks : Int) (was : List Ex) (l : List Ex) (gen : Int) (s0 : List Ce) (s1 : List Ce) (s2 : Int) : St := (St.mk [(0, (AV.i blocks)), (1, (exs was)), (2, (exs l)), (3, (AV.i gen)), (9, (ces s0)), (10, (ces s1)), (11, (AV.i s2))] 41 (AH.mk 0 ([] : List (Prod Nat AObj))) false)
noncomputable def r11kept_L0_step (blocks : Int) (was : List Ex) (l : List Ex) (gen : Int) (s0 : List Ce) (s1 : List Ce) (s2 : Int) : Option (Int) :=
 (tb ((decide (s2 < blocks))) (tp ((((0 : Int) ≤ s2) ∧ (s2 < (s1.length : Int)))) (tb ((decide ((ceAt s1 s2.toNat).gen ≤ gen))) (tp ((((0 : Int) ≤ s2) ∧ (s2 < (s0.length : Int)))) (tb ((!(((ceAt s0 s2.toNat).kind == (ceAt s1 s2.toNat).kind) && (((ceAt s0 s2.toNat).gen == (ceAt s1 s2.toNat).gen) && ((pad 32 (ceAt s0 s2.toNat).d) == (pad 32 (ceAt s1 s2.toNat).d)))))) none (some ((wr (s2 + (1 : Int))))))) (some ((wr (s2 + (1 : Int))))))) none)
theorem r11kept_L0_ok (blocks : Int) (was : List Ex) (l : List Ex) (gen : Int) (s0 : List Ce) (s1 : List Ce) (s2 zz : Int) : r11kept_L0_step blocks was l gen s0 s1 s2 = some zz → EvStep Try.prog cf 0 (lp Try.prog 85 0) (r11kept_L0_S blocks was l gen s0 s1 s2) (r11kept_L0_S blocks was l gen s0 s1 zz) := by
  unfold r11kept_L0_step
  exact tbD (fun h3 h3p => tp_ok fun h4 => tbD (fun h5 h5p => tp_ok fun h6 => tb_ok (fun h7 => tn_ok) fun h7 => by intro e; injection e with e; subst e; exact leafIS vw_eq (k := 300) (r := []) (hs := hz [(3, [.yes]), (2, [.yes]), (1, [.yes, .val ((AV.i (ceAt s1 s2.toNat).gen))]), (3, [.yes]), (1, [.yes]), (1, [.yes, .yes, .yes, .yes, .cells ((Ce.cells (ceAt s0 s2.toNat))), .yes]), (1, [.yes]), (1, [.yes, .yes, .yes, .yes, .cells ((Ce.cells (ceAt s1 s2.toNat))), .yes, .yes, .truth ((((ceAt s0 s2.toNat).kind == (ceAt s1 s2.toNat).kind) && (((ceAt s0 s2.toNat).gen == (ceAt s1 s2.toNat).gen) && ((pad 32 (ceAt s0 s2.toNat).d) == (pad 32 (ceAt s1 s2.toNat).d))))), .yes, .yes, .no]), (3, [])]) (ks := [0, 1, 2, 3, 9, 10, 11]) (bs := []) kq (ac h3 (ac h4 (ac (fq (p := ((1 : Nat) ≤ (List.length (List.drop 1 (List.drop (s2.toNat * 34) (s1.flatMap Ce.cells))))))) (ac (show (List.take 1 (List.drop 1 (List.drop (s2.toNat * 34) (s1.flatMap Ce.cells)))) = [(AV.i (ceAt s1 s2.toNat).gen)] from (by first | exact ce_one _ _ _ _ bq rfl | exact ce_oneA _ _ _ _ bq rfl | (simpa using ce_one (s1) (s2.toNat) 1 _ bq rfl) | ((try simp only [List.drop_drop]); rw [show ((1 : Nat) + (s2.toNat * 34)) = (s2.toNat) * 34 + 1 by omega]; exact ce_oneA (s1) (s2.toNat) 1 _ bq rfl))) (ac h5 (ac h5 (ac h5 (ac h6 (ac h5 (ac (fq (p := ((34 : Nat) ≤ (List.length (List.drop (s2.toNat * 34) (s0.flatMap Ce.cells)))))) (ac (show (List.take 34 (List.drop (s2.toNat * 34) (s0.flatMap Ce.cells))) = (Ce.cells (ceAt s0 s2.toNat)) from (ce_takeO bq bq)) (ac h5 (ac h5 (ac h5 (ac h4 (ac h5 (ac (fq (p := ((34 : Nat) ≤ (List.length (List.drop (s2.toNat * 34) (s1.flatMap Ce.cells)))))) (ac (show (List.take 34 (List.drop (s2.toNat * 34) (s1.flatMap Ce.cells))) = (Ce.cells (ceAt s1 s2.toNat)) from (ce_takeO bq bq)) (ac h5 (ac (tq (p := (((List.length ((AV.i (ceAt s0 s2.toNat).kind) :: (AV.i (ceAt s0 s2.toNat).gen) :: (List.map AV.y (pad 32 (ceAt s0 s2.toNat).d)))) = (34 : Nat)) ∧ ((List.length ((AV.i (ceAt s1 s2.toNat).kind) :: (AV.i (ceAt s1 s2.toNat).gen) :: (List.map AV.y (pad 32 (ceAt s1 s2.toNat).d)))) = (34 : Nat))))) (ac (show eqCells (((AV.i (ceAt s0 s2.toNat).kind) :: (AV.i (ceAt s0 s2.toNat).gen) :: (List.map AV.y (pad 32 (ceAt s0 s2.toNat).d)))) (((AV.i (ceAt s1 s2.toNat).kind) :: (AV.i (ceAt s1 s2.toNat).gen) :: (List.map AV.y (pad 32 (ceAt s1 s2.toNat).d)))) = some ((((ceAt s0 s2.toNat).kind == (ceAt s1 s2.toNat).kind) && (((ceAt s0 s2.toNat).gen == (ceAt s1 s2.toNat).gen) && ((pad 32 (ceAt s0 s2.toNat).d) == (pad 32 (ceAt s1 s2.toNat).d))))) from (eqCells_ci (eqCells_ci (eqCells_of tq tq tq)))) (ac h5 (ac (show orderOk (rg Try.prog 85 0) = true ∧ allOk (Region.before (rg Try.prog 85 0)) [] 0 [(some [], some []), (some [], some []), (some [], some []), (some [], some []), (some [], some []), (some [], some []), (some [], some []), (some [], some []), (some [], some []), (some [], some []), (some [], some []), (some [], some []), (some [], some []), (some [], some []), (some [], some []), (some [], some []), (some [], some []), (some [], some [])] = true from (ord_of ord_85_0 bef_85_0 kq)) (ac h7 an)))))))))))))))))))))))) kq) fun h5 h5p => by intro e; injection e with e; subst e; exact leafIS vw_eq (k := 300) (r := []) (hs := hz [(3, [.yes]), (2, [.yes]), (1, [.yes, .val ((AV.i (ceAt s1 s2.toNat).gen))]), (3, [.no, .no, .no, .no, .no, .no, .no, .no, .no, .no, .yes]), (4, [])]) (ks := [0, 1, 2, 3, 9, 10, 11]) (bs := []) kq (ac h3 (ac h4 (ac (fq (p := ((1 : Nat) ≤ (List.length (List.drop 1 (List.drop (s2.toNat * 34) (s1.flatMap Ce.cells))))))) (ac (show (List.take 1 (List.drop 1 (List.drop (s2.toNat * 34) (s1.flatMap Ce.cells)))) = [(AV.i (ceAt s1 s2.toNat).gen)] from (by first | exact ce_one _ _ _ _ bq rfl | exact ce_oneA _ _ _ _ bq rfl | (simpa using ce_one (s1) (s2.toNat) 1 _ bq rfl) | ((try simp only [List.drop_drop]); rw [show ((1 : Nat) + (s2.toNat * 34)) = (s2.toNat) * 34 + 1 by omega]; exact ce_oneA (s1) (s2.toNat) 1 _ bq rfl))) (ac h5 (ac h5 (ac h5 (ac h5 (ac h5 (ac h5 (ac h5 (ac h5 (ac h5 (ac h5 (ac (show orderOk (rg Try.prog 85 0) = true ∧ allOk (Region.before (rg Try.prog 85 0)) [] 0 [(some [], some []), (some [], some []), (some [], some []), (some [], some []), (some [], some []), (some [], some []), (some [], some []), (some [], some []), (some [], some []), (some [], some []), (some [], some []), (some [], some []), (some [], some []), (some [], some []), (some [], some []), (some [], some []), (some [], some []), (some [], some [])] = true from (ord_of ord_85_0 bef_85_0 kq)) an))))))))))))))) kq) fun h3 h3p => tn_ok
/-- Function 85, as it answers. -/
noncomputable def r11kept (blocks : Int) (was : List Ex) (l : List Ex) (gen : Int) : Option (Bool) :=
 (tc (r8Cells (blocks) (was)) fun s0 => (tc (r8Cells (blocks) (l)) fun s1 => (th (r11kept_L0_step blocks was l gen s0 s1) ((0 : Int)) fun s2 => (tb ((decide (s2 < blocks))) (tp ((((0 : Int) ≤ s2) ∧ (s2 < (s1.length : Int)))) (tb ((decide ((ceAt s1 s2.toNat).gen ≤ gen))) (tp ((((0 : Int) ≤ s2) ∧ (s2 < (s0.length : Int)))) (tb ((!(((ceAt s0 s2.toNat).kind == (ceAt s1 s2.toNat).kind) && (((ceAt s0 s2.toNat).gen == (ceAt s1 s2.toNat).gen) && ((pad 32 (ceAt s0 s2.toNat).d) == (pad 32 (ceAt s1 s2.toNat).d)))))) (some (false)) none)) none)) (some (true))))))
abbrev r11kept_G (blocks : Int) (was : List Ex) (l : List Ex) (gen : Int) (r : Bool) : Prop := EvFr Try.prog cf true 85 [.i (blocks), exs (was), exs (l), .i (gen)] (.b (r))
theorem r11kept_ok (blocks : Int) (was : List Ex) (l : List Ex) (gen : Int) (r : Bool) : r11kept blocks was l gen = some r → r11kept_G blocks was l gen r := by
  unfold r11kept
  exact tc_ok fun s0 h0 => tc_ok fun s1 h1 => th_ok fun s2 h2 => tbD (fun h3 h3p => tp_ok fun h4 => tbD (fun h5 h5p => tp_ok fun h6 => tb_ok (fun h7 => by intro e; injection e with e; subst e; exact leafR vw_eq (k := 300) (r := []) (hs := hz [(4, [.fres (ces (s0))]), (4, [.fres (ces (s1))]), (2, [.head (r11kept_L0_S blocks was l gen s0 s1 s2)]), (3, [.yes]), (2, [.yes]), (1, [.yes, .val ((AV.i (ceAt s1 s2.toNat).gen))]), (3, [.yes]), (1, [.yes]), (1, [.yes, .yes, .yes, .yes, .cells ((Ce.cells (ceAt s0 s2.toNat))), .yes]), (1, [.yes]), (1, [.yes, .yes, .yes, .yes, .cells ((Ce.cells (ceAt s1 s2.toNat))), .yes, .yes, .truth ((((ceAt s0 s2.toNat).kind == (ceAt s1 s2.toNat).kind) && (((ceAt s0 s2.toNat).gen == (ceAt s1 s2.toNat).gen) && ((pad 32 (ceAt s0 s2.toNat).d) == (pad 32 (ceAt s1 s2.toNat).d))))), .yes, .yes, .yes]), (1, [])]) (raw := (AV.b false)) kq (ac (r8Cells_ok (blocks) (was) _ h0).any0 (ac (r8Cells_ok (blocks) (l) _ h1).any0 (ac (show EvHead Try.prog cf (lp Try.prog 85 0) (r11kept_L0_I blocks was l gen s0 s1) (r11kept_L0_S blocks was l gen s0 s1 s2) from (EvHead.of (r11kept_L0_ok blocks was l gen s0 s1) (absB_of [] [] kq (.consn kq (.eqv tq rfl) (.consn kq (.eqv tq rfl) (.consn kq (.eqv tq rfl) (.consn kq (.eqv tq rfl) (.consn kq (.eqv tq rfl) (.consn kq (.eqv tq rfl) (.consn kq (.eqv tq rfl) .nil))))))) .nil) h2)) (ac h3 (ac h4 (ac (fq (p := ((1 : Nat) ≤ (List.length (List.drop 1 (List.drop (s2.toNat * 34) (s1.flatMap Ce.cells))))))) (ac (show (List.take 1 (List.drop 1 (List.drop (s2.toNat * 34) (s1.flatMap Ce.cells)))) = [(AV.i (ceAt s1 s2.toNat).gen)] from (by first | exact ce_one _ _ _ _ bq rfl | exact ce_oneA _ _ _ _ bq rfl | (simpa using ce_one (s1) (s2.toNat) 1 _ bq rfl) | ((try simp only [List.drop_drop]); rw [show ((1 : Nat) + (s2.toNat * 34)) = (s2.toNat) * 34 + 1 by omega]; exact ce_oneA (s1) (s2.toNat) 1 _ bq rfl))) (ac h5 (ac h5 (ac h5 (ac h6 (ac h5 (ac (fq (p := ((34 : Nat) ≤ (List.length (List.drop (s2.toNat * 34) (s0.flatMap Ce.cells)))))) (ac (show (List.take 34 (List.drop (s2.toNat * 34) (s0.flatMap Ce.cells))) = (Ce.cells (ceAt s0 s2.toNat)) from (ce_takeO bq bq)) (ac h5 (ac h5 (ac h5 (ac h4 (ac h5 (ac (fq (p := ((34 : Nat) ≤ (List.length (List.drop (s2.toNat * 34) (s1.flatMap Ce.cells)))))) (ac (show (List.take 34 (List.drop (s2.toNat * 34) (s1.flatMap Ce.cells))) = (Ce.cells (ceAt s1 s2.toNat)) from (ce_takeO bq bq)) (ac h5 (ac (tq (p := (((List.length ((AV.i (ceAt s0 s2.toNat).kind) :: (AV.i (ceAt s0 s2.toNat).gen) :: (List.map AV.y (pad 32 (ceAt s0 s2.toNat).d)))) = (34 : Nat)) ∧ ((List.length ((AV.i (ceAt s1 s2.toNat).kind) :: (AV.i (ceAt s1 s2.toNat).gen) :: (List.map AV.y (pad 32 (ceAt s1 s2.toNat).d)))) = (34 : Nat))))) (ac (show eqCells (((AV.i (ceAt s0 s2.toNat).kind) :: (AV.i (ceAt s0 s2.toNat).gen) :: (List.map AV.y (pad 32 (ceAt s0 s2.toNat).d)))) (((AV.i (ceAt s1 s2.toNat).kind) :: (AV.i (ceAt s1 s2.toNat).gen) :: (List.map AV.y (pad 32 (ceAt s1 s2.toNat).d)))) = some ((((ceAt s0 s2.toNat).kind == (ceAt s1 s2.toNat).kind) && (((ceAt s0 s2.toNat).gen == (ceAt s1 s2.toNat).gen) && ((pad 32 (ceAt s0 s2.toNat).d) == (pad 32 (ceAt s1 s2.toNat).d))))) from (eqCells_ci (eqCells_ci (eqCells_of tq tq tq)))) (ac h5 (ac (show orderOk (rg Try.prog 85 0) = true ∧ allOk (Region.before (rg Try.prog 85 0)) [] 0 [(some [], some []), (some [], some []), (some [], some []), (some [], some []), (some [], some []), (some [], some []), (some [], some []), (some [], some []), (some [], some []), (some [], some []), (some [], some []), (some [], some []), (some [], some []), (some [], some []), (some [], some []), (some [], some []), (some [], some []), (some [], some [])] = true from (ord_of ord_85_0 bef_85_0 kq)) (ac h7 an))))))))))))))))))))))))))) tq) fun h7 => tn_ok) fun h5 h5p => tn_ok) fun h3 h3p => by intro e; injection e with e; subst e; exact leafR vw_eq (k := 300) (r := []) (hs := hz [(4, [.fres (ces (s0))]), (4, [.fres (ces (s1))]), (2, [.head (r11kept_L0_S blocks was l gen s0 s1 s2)]), (3, [.no]), (1, [])]) (raw := (AV.b true)) kq (ac (r8Cells_ok (blocks) (was) _ h0).any0 (ac (r8Cells_ok (blocks) (l) _ h1).any0 (ac (show EvHead Try.prog cf (lp Try.prog 85 0) (r11kept_L0_I blocks was l gen s0 s1) (r11kept_L0_S blocks was l gen s0 s1 s2) from (EvHead.of (r11kept_L0_ok blocks was l gen s0 s1) (absB_of [] [] kq (.consn kq (.eqv tq rfl) (.consn kq (.eqv tq rfl) (.consn kq (.eqv tq rfl) (.consn kq (.eqv tq rfl) (.consn kq (.eqv tq rfl) (.consn kq (.eqv tq rfl) (.consn kq (.eqv tq rfl) .nil))))))) .nil) h2)) (ac h3 an)))) tq
noncomputable abbrev r11Check_L0_I (s : Sa) (s0 : Bool) : St := (St.mk [(0, (AV.ag [(AV.i s.blocks), (AV.i s.gen), (exs s.map), (AV.sl s.points.length (s.points.flatMap Po.cells)), (AV.i s.last), (bys s.staged)])), (1, (AV.pt 0 0)), (2, (AV.i 0)), (11, (AV.pt 0 0)), (12, (AV.i s.blocks)), (13, (AV.pt 0 2)), (14, (exs s.map)), (15, (AV.pt 0 1)), (16, (AV.i s.gen)), (17, (AV.b s0)), (3, (AV.b s0)), (18, (AV.b s0)), (19, (AV.b (!s0))), (20, (AV.b (!s0))), (21, (AV.pt 0 1)), (22, (AV.i s.gen)), (23, (AV.b (decide (s.gen < (1 : Int))))), (24, (AV.b (decide (s.gen < (1 : Int))))), (25, (AV.b (decide (s.gen < (1 : Int))))), (26, (AV.pt 0 1)), (27, (AV.i s.gen)), (28, (AV.b (decide (s.gen ≥ (2147483648 : Int))))), (29, (AV.b (decide (s.gen ≥ (2147483648 : Int))))), (30, (AV.b (decide (s.gen ≥ (2147483648 : Int))))), (31, (AV.pt 0 3)), (32, (AV.sl s.points.length (s.points.flatMap Po.cells))), (33, (AV.i (s.points.length : Int))), (34, (AV.b (decide ((s.points.length : Int) > (4 : Int))))), (35, (AV.b (decide ((s.points.length : Int) > (4 : Int))))), (36, (AV.b (decide ((s.points.length : Int) > (4 : Int))))), (37, (AV.pt 0 4)), (38, (AV.i s.last)), (39, (AV.b (decide (s.last < (0 : Int))))), (40, (AV.b (decide (s.last < (0 : Int))))), (41, (AV.b (decide (s.last < (0 : Int))))), (42, (AV.pt 0 4)), (43, (AV.i s.last)), (44, (AV.b (decide (s.last ≥ (2147483648 : Int))))), (45, (AV.b (decide (s.last ≥ (2147483648 : Int))))), (46, (AV.b (decide (s.last ≥ (2147483648 : Int))))), (47, (AV.pt 0 5)), (48, (bys s.staged)), (49, (AV.i (s.staged.length : Int))), (50, (AV.b (decide ((s.staged.length : Int) > (4000 : Int))))), (51, (AV.b (decide ((s.staged.length : Int) > (4000 : Int))))), (4, (AV.i 0)), (5, (AV.i 0)), (6, (AV.i 0))] 141 (AH.mk 1 [(0, (AObj.cells [(AV.i s.blocks), (AV.i s.gen), (exs s.map), (AV.sl s.points.length (s.points.flatMap Po.cells)), (AV.i s.last), (bys s.staged)]))]) false)
noncomputable abbrev r11Check_L0_S (s : Sa) (s0 : Bool) (s8 : Int × Int × Int) : St := (St.mk [(0, (AV.ag [(AV.i s.blocks), (AV.i s.gen), (exs s.map), (AV.sl s.points.length (s.points.flatMap Po.cells)), (AV.i s.last), (bys s.staged)])), (1, (AV.pt 0 0)), (3, (AV.b s0)), (51, (AV.b (decide ((s.staged.length : Int) > (4000 : Int))))), (4, (AV.i s8.1)), (5, (AV.i s8.2.1)), (6, (AV.i s8.2.2))] 141 (AH.mk 1 [(0, (AObj.cells [(AV.i s.blocks), (AV.i s.gen), (exs s.map), (AV.sl s.points.length (s.points.flatMap Po.cells)), (AV.i s.last), (bys s.staged)]))]) false)
noncomputable def r11Check_L0_step (s : Sa) (s0 : Bool) (s8 : Int × Int × Int) : Option (Int × Int × Int) :=
 (tb ((decide (s8.2.2 < (s.points.length : Int)))) (tp ((((0 : Int) ≤ s8.2.2) ∧ (s8.2.2 < (s.points.length : Int)))) (tc (r11upto (s.blocks) ((poAt s.points s8.2.2.toNat).map) ((poAt s.points s8.2.2.toNat).gen)) fun s11 => (tb ((!s11)) none (tb ((decide ((poAt s.points s8.2.2.toNat).id ≤ s8.1))) none (tb ((decide ((poAt s.points s8.2.2.toNat).id > s.last))) none (tb ((decide ((poAt s.points s8.2.2.toNat).gen ≤ s8.2.1))) none (tb ((decide ((poAt s.points s8.2.2.toNat).gen ≥ s.gen))) none (tb ((decide (s8.2.2 > (0 : Int)))) (tp ((((0 : Int) ≤ (wr (s8.2.2 - (1 : Int)))) ∧ ((wr (s8.2.2 - (1 : Int))) < (s.points.length : Int)))) (tc (r11kept (s.blocks) ((poAt s.points (Int.toNat (wr (s8.2.2 - (1 : Int))))).map) ((poAt s.points s8.2.2.toNat).map) (s8.2.1)) fun s19 => (tb ((!s19)) none (some (((poAt s.points s8.2.2.toNat).id, ((poAt s.points s8.2.2.toNat).gen, (wr (s8.2.2 + (1 : Int)))))))))) (some (((poAt s.points s8.2.2.toNat).id, ((poAt s.points s8.2.2.toNat).gen, (wr (s8.2.2 + (1 : Int))))))))))))))) none)
theorem r11Check_L0_ok (s : Sa) (s0 : Bool) (s8 zz : Int × Int × Int) : r11Check_L0_step s s0 s8 = some zz → EvStep Try.prog cf 1 (lp Try.prog 64 0) (r11Check_L0_S s s0 s8) (r11Check_L0_S s s0 zz) := by
  unfold r11Check_L0_step
  exact tbD (fun h9 h9p => tp_ok fun h10 => tc_ok fun s11 h11 => tb_ok (fun h12 => tn_ok) fun h12 => tbD (fun h13 h13p => tn_ok) fun h13 h13p => tbD (fun h14 h14p => tn_ok) fun h14 h14p => tbD (fun h15 h15p => tn_ok) fun h15 h15p => tbD (fun h16 h16p => tn_ok) fun h16 h16p => tbD (fun h17 h17p => tp_ok fun h18 => tc_ok fun s19 h19 => tb_ok (fun h20 => tn_ok) fun h20 => by intro e; injection e with e; subst e; exact leafIS vw_eq (k := 300) (r := []) (hs := hz [(6, [.yes]), (4, [.yes, .yes, .cells ((Po.cells (poAt s.points s8.2.2.toNat)))]), (2, [.fc]), (10, [.fres (.b (s11))]), (4, [.no]), (1, [.no]), (2, [.no]), (1, [.no]), (1, [.no]), (1, [.no]), (1, [.no]), (2, [.no]), (1, [.no]), (2, [.no]), (1, [.no]), (1, [.no]), (1, [.no]), (2, [.no]), (1, [.no]), (1, [.no]), (1, [.no]), (1, [.no]), (2, [.no]), (1, [.no]), (2, [.no]), (1, [.no, .no]), (2, [.yes]), (8, [.yes]), (1, [.yes, .val ((exs (poAt s.points (Int.toNat (wr (s8.2.2 - (1 : Int))))).map))]), (5, [.fres (.b (s19))]), (1, [.yes]), (2, [.no]), (11, [])]) (ks := [0, 1, 3, 51, 4, 5, 6]) (bs := [0]) kq (ac h9 (ac h10 (ac (fq (p := ((3 : Nat) ≤ (List.length (List.drop (s8.2.2.toNat * 3) (s.points.flatMap Po.cells)))))) (ac (show (List.take 3 (List.drop (s8.2.2.toNat * 3) (s.points.flatMap Po.cells))) = (Po.cells (poAt s.points s8.2.2.toNat)) from (po_takeO bq bq)) (ac (r11upto_ok (s.blocks) ((poAt s.points s8.2.2.toNat).map) ((poAt s.points s8.2.2.toNat).gen) _ h11).any0 (ac h12 (ac h12 (ac h12 (ac h12 (ac h12 (ac h13 (ac h13 (ac h13 (ac h13 (ac h13 (ac h13 (ac h14 (ac h14 (ac h14 (ac h14 (ac h14 (ac h15 (ac h15 (ac h15 (ac h15 (ac h15 (ac h15 (ac h16 (ac h17 (ac h18 (ac (fq (p := ((1 : Nat) ≤ (List.length (List.drop 2 (List.drop ((Int.toNat (wr (s8.2.2 - (1 : Int)))) * 3) (s.points.flatMap Po.cells))))))) (ac (show (List.take 1 (List.drop 2 (List.drop ((Int.toNat (wr (s8.2.2 - (1 : Int)))) * 3) (s.points.flatMap Po.cells)))) = [(exs (poAt s.points (Int.toNat (wr (s8.2.2 - (1 : Int))))).map)] from (by first | exact po_one _ _ _ _ bq rfl | exact po_oneA _ _ _ _ bq rfl | (simpa using po_one (s.points) ((Int.toNat (wr (s8.2.2 - (1 : Int))))) 2 _ bq rfl) | ((try simp only [List.drop_drop]); rw [show ((2 : Nat) + ((Int.toNat (wr (s8.2.2 - (1 : Int)))) * 3)) = ((Int.toNat (wr (s8.2.2 - (1 : Int))))) * 3 + 2 by omega]; exact po_oneA (s.points) ((Int.toNat (wr (s8.2.2 - (1 : Int))))) 2 _ bq rfl))) (ac (r11kept_ok (s.blocks) ((poAt s.points (Int.toNat (wr (s8.2.2 - (1 : Int))))).map) ((poAt s.points s8.2.2.toNat).map) (s8.2.1) _ h19).any0 (ac (show orderOk (rg Try.prog 64 0) = true ∧ allOk (Region.before (rg Try.prog 64 0)) [] 0 [(some [], some []), (some [0], some []), (some [], some []), (some [0], some []), (some [], some []), (some [], some []), (some [], some []), (some [], some []), (some [], some []), (some [], some []), (some [1], some []), (some [], some []), (some [], some []), (some [], some [])] = true from (ord_of ord_64_0 bef_64_0 kq)) (ac h20 an))))))))))))))))))))))))))))))))))) kq) fun h17 h17p => by intro e; injection e with e; subst e; exact leafIS vw_eq (k := 300) (r := []) (hs := hz [(6, [.yes]), (4, [.yes, .yes, .cells ((Po.cells (poAt s.points s8.2.2.toNat)))]), (2, [.fc]), (10, [.fres (.b (s11))]), (4, [.no]), (1, [.no]), (2, [.no]), (1, [.no]), (1, [.no]), (1, [.no]), (1, [.no]), (2, [.no]), (1, [.no]), (2, [.no]), (1, [.no]), (1, [.no]), (1, [.no]), (2, [.no]), (1, [.no]), (1, [.no]), (1, [.no]), (1, [.no]), (2, [.no]), (1, [.no]), (2, [.no]), (1, [.no, .no]), (2, [.no]), (11, [])]) (ks := [0, 1, 3, 51, 4, 5, 6]) (bs := [0]) kq (ac h9 (ac h10 (ac (fq (p := ((3 : Nat) ≤ (List.length (List.drop (s8.2.2.toNat * 3) (s.points.flatMap Po.cells)))))) (ac (show (List.take 3 (List.drop (s8.2.2.toNat * 3) (s.points.flatMap Po.cells))) = (Po.cells (poAt s.points s8.2.2.toNat)) from (po_takeO bq bq)) (ac (r11upto_ok (s.blocks) ((poAt s.points s8.2.2.toNat).map) ((poAt s.points s8.2.2.toNat).gen) _ h11).any0 (ac h12 (ac h12 (ac h12 (ac h12 (ac h12 (ac h13 (ac h13 (ac h13 (ac h13 (ac h13 (ac h13 (ac h14 (ac h14 (ac h14 (ac h14 (ac h14 (ac h15 (ac h15 (ac h15 (ac h15 (ac h15 (ac h15 (ac h16 (ac h17 an))))))))))))))))))))))))))))) kq) fun h9 h9p => tn_ok
/-- Function 64, as it answers. -/
noncomputable def r11Check (s : Sa) : Option (Int) :=
 (tc (r11upto (s.blocks) (s.map) (s.gen)) fun s0 => (tb ((!s0)) (some ((110 : Int))) (tb ((decide (s.gen < (1 : Int)))) (some ((110 : Int))) (tb ((decide (s.gen ≥ (2147483648 : Int)))) (some ((110 : Int))) (tb ((decide ((s.points.length : Int) > (4 : Int)))) (some ((110 : Int))) (tb ((decide (s.last < (0 : Int)))) (some ((110 : Int))) (tb ((decide (s.last ≥ (2147483648 : Int)))) (some ((110 : Int))) (tb ((decide ((s.staged.length : Int) > (4000 : Int)))) (some ((110 : Int))) (th (r11Check_L0_step s s0) (((0 : Int), ((0 : Int), (0 : Int)))) fun s8 => (tb ((decide (s8.2.2 < (s.points.length : Int)))) (tp ((((0 : Int) ≤ s8.2.2) ∧ (s8.2.2 < (s.points.length : Int)))) (tc (r11upto (s.blocks) ((poAt s.points s8.2.2.toNat).map) ((poAt s.points s8.2.2.toNat).gen)) fun s11 => (tb ((!s11)) (some ((110 : Int))) (tb ((decide ((poAt s.points s8.2.2.toNat).id ≤ s8.1))) (some ((110 : Int))) (tb ((decide ((poAt s.points s8.2.2.toNat).id > s.last))) (some ((110 : Int))) (tb ((decide ((poAt s.points s8.2.2.toNat).gen ≤ s8.2.1))) (some ((110 : Int))) (tb ((decide ((poAt s.points s8.2.2.toNat).gen ≥ s.gen))) (some ((110 : Int))) (tb ((decide (s8.2.2 > (0 : Int)))) (tp ((((0 : Int) ≤ (wr (s8.2.2 - (1 : Int)))) ∧ ((wr (s8.2.2 - (1 : Int))) < (s.points.length : Int)))) (tc (r11kept (s.blocks) ((poAt s.points (Int.toNat (wr (s8.2.2 - (1 : Int))))).map) ((poAt s.points s8.2.2.toNat).map) (s8.2.1)) fun s19 => (tb ((!s19)) (some ((110 : Int))) none))) none)))))))) (tb ((decide ((s.points.length : Int) > (0 : Int)))) (tp ((((0 : Int) ≤ (wr ((s.points.length : Int) - (1 : Int)))) ∧ ((wr ((s.points.length : Int) - (1 : Int))) < (s.points.length : Int)))) (tc (r11kept (s.blocks) ((poAt s.points (Int.toNat (wr ((s.points.length : Int) - (1 : Int))))).map) (s.map) (s8.2.1)) fun s12 => (tb ((!s12)) (some ((110 : Int))) (some ((0 : Int)))))) (some ((0 : Int))))))))))))))
abbrev r11Check_G (s : Sa) (r : Int) : Prop := EvFr Try.prog cf true 64 [Sa.av (s)] (.i (r))
theorem r11Check_ok (s : Sa) (r : Int) : r11Check s = some r → r11Check_G s r := by
  unfold r11Check
  exact tc_ok fun s0 h0 => tb_ok (fun h1 => by intro e; injection e with e; subst e; exact leafR vw_eq (k := 300) (r := []) (hs := hz [(12, [.fres (.b (s0))]), (4, [.yes, .yes, .yes, .yes]), (29, [])]) (raw := (AV.i 110)) kq (ac (r11upto_ok (s.blocks) (s.map) (s.gen) _ h0).any0 (ac h1 (ac h1 (ac h1 (ac h1 an))))) tq) fun h1 => tbD (fun h2 h2p => by intro e; injection e with e; subst e; exact leafR vw_eq (k := 300) (r := []) (hs := hz [(12, [.fres (.b (s0))]), (4, [.no]), (1, [.no]), (2, [.no]), (1, [.no]), (1, [.yes, .yes, .yes, .yes]), (24, [])]) (raw := (AV.i 110)) kq (ac (r11upto_ok (s.blocks) (s.map) (s.gen) _ h0).any0 (ac h1 (ac h1 (ac h1 (ac h1 (ac h2 (ac h2 (ac h2 (ac h2 an))))))))) tq) fun h2 h2p => tbD (fun h3 h3p => by intro e; injection e with e; subst e; exact leafR vw_eq (k := 300) (r := []) (hs := hz [(12, [.fres (.b (s0))]), (4, [.no]), (1, [.no]), (2, [.no]), (1, [.no]), (1, [.no]), (1, [.no]), (2, [.no]), (1, [.no]), (1, [.yes, .yes, .yes, .yes, .yes]), (18, [])]) (raw := (AV.i 110)) kq (ac (r11upto_ok (s.blocks) (s.map) (s.gen) _ h0).any0 (ac h1 (ac h1 (ac h1 (ac h1 (ac h2 (ac h2 (ac h2 (ac h2 (ac h3 (ac h3 (ac h3 (ac h3 (ac h3 an)))))))))))))) tq) fun h3 h3p => tbD (fun h4 h4p => by intro e; injection e with e; subst e; exact leafR vw_eq (k := 300) (r := []) (hs := hz [(12, [.fres (.b (s0))]), (4, [.no]), (1, [.no]), (2, [.no]), (1, [.no]), (1, [.no]), (1, [.no]), (2, [.no]), (1, [.no]), (1, [.no]), (1, [.no]), (2, [.no]), (1, [.no]), (1, [.no]), (1, [.yes, .yes, .yes, .yes]), (13, [])]) (raw := (AV.i 110)) kq (ac (r11upto_ok (s.blocks) (s.map) (s.gen) _ h0).any0 (ac h1 (ac h1 (ac h1 (ac h1 (ac h2 (ac h2 (ac h2 (ac h2 (ac h3 (ac h3 (ac h3 (ac h3 (ac h3 (ac h4 (ac h4 (ac h4 (ac h4 an)))))))))))))))))) tq) fun h4 h4p => tbD (fun h5 h5p => by intro e; injection e with e; subst e; exact leafR vw_eq (k := 300) (r := []) (hs := hz [(12, [.fres (.b (s0))]), (4, [.no]), (1, [.no]), (2, [.no]), (1, [.no]), (1, [.no]), (1, [.no]), (2, [.no]), (1, [.no]), (1, [.no]), (1, [.no]), (2, [.no]), (1, [.no]), (1, [.no]), (1, [.no]), (1, [.no]), (2, [.no]), (1, [.no]), (1, [.yes, .yes, .yes, .yes]), (8, [])]) (raw := (AV.i 110)) kq (ac (r11upto_ok (s.blocks) (s.map) (s.gen) _ h0).any0 (ac h1 (ac h1 (ac h1 (ac h1 (ac h2 (ac h2 (ac h2 (ac h2 (ac h3 (ac h3 (ac h3 (ac h3 (ac h3 (ac h4 (ac h4 (ac h4 (ac h4 (ac h5 (ac h5 (ac h5 (ac h5 an)))))))))))))))))))))) tq) fun h5 h5p => tbD (fun h6 h6p => by intro e; injection e with e; subst e; exact leafR vw_eq (k := 300) (r := []) (hs := hz [(12, [.fres (.b (s0))]), (4, [.no]), (1, [.no]), (2, [.no]), (1, [.no]), (1, [.no]), (1, [.no]), (2, [.no]), (1, [.no]), (1, [.no]), (1, [.no]), (2, [.no]), (1, [.no]), (1, [.no]), (1, [.no]), (1, [.no]), (2, [.no]), (1, [.no]), (1, [.no]), (1, [.no]), (2, [.no]), (1, [.no]), (1, [.yes, .yes, .yes, .yes, .yes]), (2, [])]) (raw := (AV.i 110)) kq (ac (r11upto_ok (s.blocks) (s.map) (s.gen) _ h0).any0 (ac h1 (ac h1 (ac h1 (ac h1 (ac h2 (ac h2 (ac h2 (ac h2 (ac h3 (ac h3 (ac h3 (ac h3 (ac h3 (ac h4 (ac h4 (ac h4 (ac h4 (ac h5 (ac h5 (ac h5 (ac h5 (ac h6 (ac h6 (ac h6 (ac h6 (ac h6 an))))))))))))))))))))))))))) tq) fun h6 h6p => tbD (fun h7 h7p => by intro e; injection e with e; subst e; exact leafR vw_eq (k := 300) (r := []) (hs := hz [(12, [.fres (.b (s0))]), (4, [.no]), (1, [.no]), (2, [.no]), (1, [.no]), (1, [.no]), (1, [.no]), (2, [.no]), (1, [.no]), (1, [.no]), (1, [.no]), (2, [.no]), (1, [.no]), (1, [.no]), (1, [.no]), (1, [.no]), (2, [.no]), (1, [.no]), (1, [.no]), (1, [.no]), (2, [.no]), (1, [.no]), (1, [.no]), (1, [.no]), (2, [.no]), (1, [.no]), (1, [.no, .yes]), (1, [])]) (raw := (AV.i 110)) kq (ac (r11upto_ok (s.blocks) (s.map) (s.gen) _ h0).any0 (ac h1 (ac h1 (ac h1 (ac h1 (ac h2 (ac h2 (ac h2 (ac h2 (ac h3 (ac h3 (ac h3 (ac h3 (ac h3 (ac h4 (ac h4 (ac h4 (ac h4 (ac h5 (ac h5 (ac h5 (ac h5 (ac h6 (ac h6 (ac h6 (ac h6 (ac h6 (ac h7 an)))))))))))))))))))))))))))) tq) fun h7 h7p => th_ok fun s8 h8 => tbD (fun h9 h9p => tp_ok fun h10 => tc_ok fun s11 h11 => tb_ok (fun h12 => by intro e; injection e with e; subst e; exact leafR vw_eq (k := 300) (r := []) (hs := hz [(12, [.fres (.b (s0))]), (4, [.no]), (1, [.no]), (2, [.no]), (1, [.no]), (1, [.no]), (1, [.no]), (2, [.no]), (1, [.no]), (1, [.no]), (1, [.no]), (2, [.no]), (1, [.no]), (1, [.no]), (1, [.no]), (1, [.no]), (2, [.no]), (1, [.no]), (1, [.no]), (1, [.no]), (2, [.no]), (1, [.no]), (1, [.no]), (1, [.no]), (2, [.no]), (1, [.no]), (1, [.no, .no]), (3, [.head (r11Check_L0_S s s0 s8)]), (6, [.yes]), (4, [.yes, .yes, .cells ((Po.cells (poAt s.points s8.2.2.toNat)))]), (2, [.fc]), (10, [.fres (.b (s11))]), (4, [.yes, .yes, .yes, .yes, .yes]), (22, [])]) (raw := (AV.i 110)) kq (ac (r11upto_ok (s.blocks) (s.map) (s.gen) _ h0).any0 (ac h1 (ac h1 (ac h1 (ac h1 (ac h2 (ac h2 (ac h2 (ac h2 (ac h3 (ac h3 (ac h3 (ac h3 (ac h3 (ac h4 (ac h4 (ac h4 (ac h4 (ac h5 (ac h5 (ac h5 (ac h5 (ac h6 (ac h6 (ac h6 (ac h6 (ac h6 (ac h7 (ac (show EvHead Try.prog cf (lp Try.prog 64 0) (r11Check_L0_I s s0) (r11Check_L0_S s s0 s8) from (EvHead.of (r11Check_L0_ok s s0) (absB_of [] [] kq (.consn kq (.agp pq) (.consn kq (.pt rfl) (.consn kq (.eqv tq rfl) (.consn kq (.eqv tq rfl) (.consn kq (.eqv tq rfl) (.consn kq (.eqv tq rfl) (.consn kq (.eqv tq rfl) .nil))))))) (.cons (.old rfl rfl (.cells (.pl rfl pq))) .nil)) h8)) (ac h9 (ac h10 (ac (fq (p := ((3 : Nat) ≤ (List.length (List.drop (s8.2.2.toNat * 3) (s.points.flatMap Po.cells)))))) (ac (show (List.take 3 (List.drop (s8.2.2.toNat * 3) (s.points.flatMap Po.cells))) = (Po.cells (poAt s.points s8.2.2.toNat)) from (po_takeO bq bq)) (ac (r11upto_ok (s.blocks) ((poAt s.points s8.2.2.toNat).map) ((poAt s.points s8.2.2.toNat).gen) _ h11).any0 (ac h12 (ac h12 (ac h12 (ac h12 (ac h12 an))))))))))))))))))))))))))))))))))))))) tq) fun h12 => tbD (fun h13 h13p => by intro e; injection e with e; subst e; exact leafR vw_eq (k := 300) (r := []) (hs := hz [(12, [.fres (.b (s0))]), (4, [.no]), (1, [.no]), (2, [.no]), (1, [.no]), (1, [.no]), (1, [.no]), (2, [.no]), (1, [.no]), (1, [.no]), (1, [.no]), (2, [.no]), (1, [.no]), (1, [.no]), (1, [.no]), (1, [.no]), (2, [.no]), (1, [.no]), (1, [.no]), (1, [.no]), (2, [.no]), (1, [.no]), (1, [.no]), (1, [.no]), (2, [.no]), (1, [.no]), (1, [.no, .no]), (3, [.head (r11Check_L0_S s s0 s8)]), (6, [.yes]), (4, [.yes, .yes, .cells ((Po.cells (poAt s.points s8.2.2.toNat)))]), (2, [.fc]), (10, [.fres (.b (s11))]), (4, [.no]), (1, [.no]), (2, [.no]), (1, [.no]), (1, [.no]), (1, [.yes, .yes, .yes, .yes, .yes, .yes]), (15, [])]) (raw := (AV.i 110)) kq (ac (r11upto_ok (s.blocks) (s.map) (s.gen) _ h0).any0 (ac h1 (ac h1 (ac h1 (ac h1 (ac h2 (ac h2 (ac h2 (ac h2 (ac h3 (ac h3 (ac h3 (ac h3 (ac h3 (ac h4 (ac h4 (ac h4 (ac h4 (ac h5 (ac h5 (ac h5 (ac h5 (ac h6 (ac h6 (ac h6 (ac h6 (ac h6 (ac h7 (ac (show EvHead Try.prog cf (lp Try.prog 64 0) (r11Check_L0_I s s0) (r11Check_L0_S s s0 s8) from (EvHead.of (r11Check_L0_ok s s0) (absB_of [] [] kq (.consn kq (.agp pq) (.consn kq (.pt rfl) (.consn kq (.eqv tq rfl) (.consn kq (.eqv tq rfl) (.consn kq (.eqv tq rfl) (.consn kq (.eqv tq rfl) (.consn kq (.eqv tq rfl) .nil))))))) (.cons (.old rfl rfl (.cells (.pl rfl pq))) .nil)) h8)) (ac h9 (ac h10 (ac (fq (p := ((3 : Nat) ≤ (List.length (List.drop (s8.2.2.toNat * 3) (s.points.flatMap Po.cells)))))) (ac (show (List.take 3 (List.drop (s8.2.2.toNat * 3) (s.points.flatMap Po.cells))) = (Po.cells (poAt s.points s8.2.2.toNat)) from (po_takeO bq bq)) (ac (r11upto_ok (s.blocks) ((poAt s.points s8.2.2.toNat).map) ((poAt s.points s8.2.2.toNat).gen) _ h11).any0 (ac h12 (ac h12 (ac h12 (ac h12 (ac h12 (ac h13 (ac h13 (ac h13 (ac h13 (ac h13 (ac h13 an))))))))))))))))))))))))))))))))))))))))))))) tq) fun h13 h13p => tbD (fun h14 h14p => by intro e; injection e with e; subst e; exact leafR vw_eq (k := 300) (r := []) (hs := hz [(12, [.fres (.b (s0))]), (4, [.no]), (1, [.no]), (2, [.no]), (1, [.no]), (1, [.no]), (1, [.no]), (2, [.no]), (1, [.no]), (1, [.no]), (1, [.no]), (2, [.no]), (1, [.no]), (1, [.no]), (1, [.no]), (1, [.no]), (2, [.no]), (1, [.no]), (1, [.no]), (1, [.no]), (2, [.no]), (1, [.no]), (1, [.no]), (1, [.no]), (2, [.no]), (1, [.no]), (1, [.no, .no]), (3, [.head (r11Check_L0_S s s0 s8)]), (6, [.yes]), (4, [.yes, .yes, .cells ((Po.cells (poAt s.points s8.2.2.toNat)))]), (2, [.fc]), (10, [.fres (.b (s11))]), (4, [.no]), (1, [.no]), (2, [.no]), (1, [.no]), (1, [.no]), (1, [.no]), (1, [.no]), (2, [.no]), (1, [.no]), (2, [.no]), (1, [.no]), (1, [.yes, .yes, .yes, .yes, .yes]), (9, [])]) (raw := (AV.i 110)) kq (ac (r11upto_ok (s.blocks) (s.map) (s.gen) _ h0).any0 (ac h1 (ac h1 (ac h1 (ac h1 (ac h2 (ac h2 (ac h2 (ac h2 (ac h3 (ac h3 (ac h3 (ac h3 (ac h3 (ac h4 (ac h4 (ac h4 (ac h4 (ac h5 (ac h5 (ac h5 (ac h5 (ac h6 (ac h6 (ac h6 (ac h6 (ac h6 (ac h7 (ac (show EvHead Try.prog cf (lp Try.prog 64 0) (r11Check_L0_I s s0) (r11Check_L0_S s s0 s8) from (EvHead.of (r11Check_L0_ok s s0) (absB_of [] [] kq (.consn kq (.agp pq) (.consn kq (.pt rfl) (.consn kq (.eqv tq rfl) (.consn kq (.eqv tq rfl) (.consn kq (.eqv tq rfl) (.consn kq (.eqv tq rfl) (.consn kq (.eqv tq rfl) .nil))))))) (.cons (.old rfl rfl (.cells (.pl rfl pq))) .nil)) h8)) (ac h9 (ac h10 (ac (fq (p := ((3 : Nat) ≤ (List.length (List.drop (s8.2.2.toNat * 3) (s.points.flatMap Po.cells)))))) (ac (show (List.take 3 (List.drop (s8.2.2.toNat * 3) (s.points.flatMap Po.cells))) = (Po.cells (poAt s.points s8.2.2.toNat)) from (po_takeO bq bq)) (ac (r11upto_ok (s.blocks) ((poAt s.points s8.2.2.toNat).map) ((poAt s.points s8.2.2.toNat).gen) _ h11).any0 (ac h12 (ac h12 (ac h12 (ac h12 (ac h12 (ac h13 (ac h13 (ac h13 (ac h13 (ac h13 (ac h13 (ac h14 (ac h14 (ac h14 (ac h14 (ac h14 an)))))))))))))))))))))))))))))))))))))))))))))))))) tq) fun h14 h14p => tbD (fun h15 h15p => by intro e; injection e with e; subst e; exact leafR vw_eq (k := 300) (r := []) (hs := hz [(12, [.fres (.b (s0))]), (4, [.no]), (1, [.no]), (2, [.no]), (1, [.no]), (1, [.no]), (1, [.no]), (2, [.no]), (1, [.no]), (1, [.no]), (1, [.no]), (2, [.no]), (1, [.no]), (1, [.no]), (1, [.no]), (1, [.no]), (2, [.no]), (1, [.no]), (1, [.no]), (1, [.no]), (2, [.no]), (1, [.no]), (1, [.no]), (1, [.no]), (2, [.no]), (1, [.no]), (1, [.no, .no]), (3, [.head (r11Check_L0_S s s0 s8)]), (6, [.yes]), (4, [.yes, .yes, .cells ((Po.cells (poAt s.points s8.2.2.toNat)))]), (2, [.fc]), (10, [.fres (.b (s11))]), (4, [.no]), (1, [.no]), (2, [.no]), (1, [.no]), (1, [.no]), (1, [.no]), (1, [.no]), (2, [.no]), (1, [.no]), (2, [.no]), (1, [.no]), (1, [.no]), (1, [.no]), (2, [.no]), (1, [.no]), (1, [.no]), (1, [.yes, .yes, .yes, .yes, .yes, .yes]), (2, [])]) (raw := (AV.i 110)) kq (ac (r11upto_ok (s.blocks) (s.map) (s.gen) _ h0).any0 (ac h1 (ac h1 (ac h1 (ac h1 (ac h2 (ac h2 (ac h2 (ac h2 (ac h3 (ac h3 (ac h3 (ac h3 (ac h3 (ac h4 (ac h4 (ac h4 (ac h4 (ac h5 (ac h5 (ac h5 (ac h5 (ac h6 (ac h6 (ac h6 (ac h6 (ac h6 (ac h7 (ac (show EvHead Try.prog cf (lp Try.prog 64 0) (r11Check_L0_I s s0) (r11Check_L0_S s s0 s8) from (EvHead.of (r11Check_L0_ok s s0) (absB_of [] [] kq (.consn kq (.agp pq) (.consn kq (.pt rfl) (.consn kq (.eqv tq rfl) (.consn kq (.eqv tq rfl) (.consn kq (.eqv tq rfl) (.consn kq (.eqv tq rfl) (.consn kq (.eqv tq rfl) .nil))))))) (.cons (.old rfl rfl (.cells (.pl rfl pq))) .nil)) h8)) (ac h9 (ac h10 (ac (fq (p := ((3 : Nat) ≤ (List.length (List.drop (s8.2.2.toNat * 3) (s.points.flatMap Po.cells)))))) (ac (show (List.take 3 (List.drop (s8.2.2.toNat * 3) (s.points.flatMap Po.cells))) = (Po.cells (poAt s.points s8.2.2.toNat)) from (po_takeO bq bq)) (ac (r11upto_ok (s.blocks) ((poAt s.points s8.2.2.toNat).map) ((poAt s.points s8.2.2.toNat).gen) _ h11).any0 (ac h12 (ac h12 (ac h12 (ac h12 (ac h12 (ac h13 (ac h13 (ac h13 (ac h13 (ac h13 (ac h13 (ac h14 (ac h14 (ac h14 (ac h14 (ac h14 (ac h15 (ac h15 (ac h15 (ac h15 (ac h15 (ac h15 an)))))))))))))))))))))))))))))))))))))))))))))))))))))))) tq) fun h15 h15p => tbD (fun h16 h16p => by intro e; injection e with e; subst e; exact leafR vw_eq (k := 300) (r := []) (hs := hz [(12, [.fres (.b (s0))]), (4, [.no]), (1, [.no]), (2, [.no]), (1, [.no]), (1, [.no]), (1, [.no]), (2, [.no]), (1, [.no]), (1, [.no]), (1, [.no]), (2, [.no]), (1, [.no]), (1, [.no]), (1, [.no]), (1, [.no]), (2, [.no]), (1, [.no]), (1, [.no]), (1, [.no]), (2, [.no]), (1, [.no]), (1, [.no]), (1, [.no]), (2, [.no]), (1, [.no]), (1, [.no, .no]), (3, [.head (r11Check_L0_S s s0 s8)]), (6, [.yes]), (4, [.yes, .yes, .cells ((Po.cells (poAt s.points s8.2.2.toNat)))]), (2, [.fc]), (10, [.fres (.b (s11))]), (4, [.no]), (1, [.no]), (2, [.no]), (1, [.no]), (1, [.no]), (1, [.no]), (1, [.no]), (2, [.no]), (1, [.no]), (2, [.no]), (1, [.no]), (1, [.no]), (1, [.no]), (2, [.no]), (1, [.no]), (1, [.no]), (1, [.no]), (1, [.no]), (2, [.no]), (1, [.no]), (2, [.no]), (1, [.no, .yes]), (1, [])]) (raw := (AV.i 110)) kq (ac (r11upto_ok (s.blocks) (s.map) (s.gen) _ h0).any0 (ac h1 (ac h1 (ac h1 (ac h1 (ac h2 (ac h2 (ac h2 (ac h2 (ac h3 (ac h3 (ac h3 (ac h3 (ac h3 (ac h4 (ac h4 (ac h4 (ac h4 (ac h5 (ac h5 (ac h5 (ac h5 (ac h6 (ac h6 (ac h6 (ac h6 (ac h6 (ac h7 (ac (show EvHead Try.prog cf (lp Try.prog 64 0) (r11Check_L0_I s s0) (r11Check_L0_S s s0 s8) from (EvHead.of (r11Check_L0_ok s s0) (absB_of [] [] kq (.consn kq (.agp pq) (.consn kq (.pt rfl) (.consn kq (.eqv tq rfl) (.consn kq (.eqv tq rfl) (.consn kq (.eqv tq rfl) (.consn kq (.eqv tq rfl) (.consn kq (.eqv tq rfl) .nil))))))) (.cons (.old rfl rfl (.cells (.pl rfl pq))) .nil)) h8)) (ac h9 (ac h10 (ac (fq (p := ((3 : Nat) ≤ (List.length (List.drop (s8.2.2.toNat * 3) (s.points.flatMap Po.cells)))))) (ac (show (List.take 3 (List.drop (s8.2.2.toNat * 3) (s.points.flatMap Po.cells))) = (Po.cells (poAt s.points s8.2.2.toNat)) from (po_takeO bq bq)) (ac (r11upto_ok (s.blocks) ((poAt s.points s8.2.2.toNat).map) ((poAt s.points s8.2.2.toNat).gen) _ h11).any0 (ac h12 (ac h12 (ac h12 (ac h12 (ac h12 (ac h13 (ac h13 (ac h13 (ac h13 (ac h13 (ac h13 (ac h14 (ac h14 (ac h14 (ac h14 (ac h14 (ac h15 (ac h15 (ac h15 (ac h15 (ac h15 (ac h15 (ac h16 an))))))))))))))))))))))))))))))))))))))))))))))))))))))))) tq) fun h16 h16p => tbD (fun h17 h17p => tp_ok fun h18 => tc_ok fun s19 h19 => tb_ok (fun h20 => by intro e; injection e with e; subst e; exact leafR vw_eq (k := 300) (r := []) (hs := hz [(12, [.fres (.b (s0))]), (4, [.no]), (1, [.no]), (2, [.no]), (1, [.no]), (1, [.no]), (1, [.no]), (2, [.no]), (1, [.no]), (1, [.no]), (1, [.no]), (2, [.no]), (1, [.no]), (1, [.no]), (1, [.no]), (1, [.no]), (2, [.no]), (1, [.no]), (1, [.no]), (1, [.no]), (2, [.no]), (1, [.no]), (1, [.no]), (1, [.no]), (2, [.no]), (1, [.no]), (1, [.no, .no]), (3, [.head (r11Check_L0_S s s0 s8)]), (6, [.yes]), (4, [.yes, .yes, .cells ((Po.cells (poAt s.points s8.2.2.toNat)))]), (2, [.fc]), (10, [.fres (.b (s11))]), (4, [.no]), (1, [.no]), (2, [.no]), (1, [.no]), (1, [.no]), (1, [.no]), (1, [.no]), (2, [.no]), (1, [.no]), (2, [.no]), (1, [.no]), (1, [.no]), (1, [.no]), (2, [.no]), (1, [.no]), (1, [.no]), (1, [.no]), (1, [.no]), (2, [.no]), (1, [.no]), (2, [.no]), (1, [.no, .no]), (2, [.yes]), (8, [.yes]), (1, [.yes, .val ((exs (poAt s.points (Int.toNat (wr (s8.2.2 - (1 : Int))))).map))]), (5, [.fres (.b (s19))]), (1, [.yes]), (2, [.yes]), (1, [])]) (raw := (AV.i 110)) kq (ac (r11upto_ok (s.blocks) (s.map) (s.gen) _ h0).any0 (ac h1 (ac h1 (ac h1 (ac h1 (ac h2 (ac h2 (ac h2 (ac h2 (ac h3 (ac h3 (ac h3 (ac h3 (ac h3 (ac h4 (ac h4 (ac h4 (ac h4 (ac h5 (ac h5 (ac h5 (ac h5 (ac h6 (ac h6 (ac h6 (ac h6 (ac h6 (ac h7 (ac (show EvHead Try.prog cf (lp Try.prog 64 0) (r11Check_L0_I s s0) (r11Check_L0_S s s0 s8) from (EvHead.of (r11Check_L0_ok s s0) (absB_of [] [] kq (.consn kq (.agp pq) (.consn kq (.pt rfl) (.consn kq (.eqv tq rfl) (.consn kq (.eqv tq rfl) (.consn kq (.eqv tq rfl) (.consn kq (.eqv tq rfl) (.consn kq (.eqv tq rfl) .nil))))))) (.cons (.old rfl rfl (.cells (.pl rfl pq))) .nil)) h8)) (ac h9 (ac h10 (ac (fq (p := ((3 : Nat) ≤ (List.length (List.drop (s8.2.2.toNat * 3) (s.points.flatMap Po.cells)))))) (ac (show (List.take 3 (List.drop (s8.2.2.toNat * 3) (s.points.flatMap Po.cells))) = (Po.cells (poAt s.points s8.2.2.toNat)) from (po_takeO bq bq)) (ac (r11upto_ok (s.blocks) ((poAt s.points s8.2.2.toNat).map) ((poAt s.points s8.2.2.toNat).gen) _ h11).any0 (ac h12 (ac h12 (ac h12 (ac h12 (ac h12 (ac h13 (ac h13 (ac h13 (ac h13 (ac h13 (ac h13 (ac h14 (ac h14 (ac h14 (ac h14 (ac h14 (ac h15 (ac h15 (ac h15 (ac h15 (ac h15 (ac h15 (ac h16 (ac h17 (ac h18 (ac (fq (p := ((1 : Nat) ≤ (List.length (List.drop 2 (List.drop ((Int.toNat (wr (s8.2.2 - (1 : Int)))) * 3) (s.points.flatMap Po.cells))))))) (ac (show (List.take 1 (List.drop 2 (List.drop ((Int.toNat (wr (s8.2.2 - (1 : Int)))) * 3) (s.points.flatMap Po.cells)))) = [(exs (poAt s.points (Int.toNat (wr (s8.2.2 - (1 : Int))))).map)] from (by first | exact po_one _ _ _ _ bq rfl | exact po_oneA _ _ _ _ bq rfl | (simpa using po_one (s.points) ((Int.toNat (wr (s8.2.2 - (1 : Int))))) 2 _ bq rfl) | ((try simp only [List.drop_drop]); rw [show ((2 : Nat) + ((Int.toNat (wr (s8.2.2 - (1 : Int)))) * 3)) = ((Int.toNat (wr (s8.2.2 - (1 : Int))))) * 3 + 2 by omega]; exact po_oneA (s.points) ((Int.toNat (wr (s8.2.2 - (1 : Int))))) 2 _ bq rfl))) (ac (r11kept_ok (s.blocks) ((poAt s.points (Int.toNat (wr (s8.2.2 - (1 : Int))))).map) ((poAt s.points s8.2.2.toNat).map) (s8.2.1) _ h19).any0 (ac (show orderOk (rg Try.prog 64 0) = true ∧ allOk (Region.before (rg Try.prog 64 0)) [] 0 [(some [], some []), (some [0], some []), (some [], some []), (some [0], some []), (some [], some []), (some [], some []), (some [], some []), (some [], some []), (some [], some []), (some [], some []), (some [1], some []), (some [], some []), (some [], some []), (some [], some [])] = true from (ord_of ord_64_0 bef_64_0 kq)) (ac h20 an)))))))))))))))))))))))))))))))))))))))))))))))))))))))))))))))) tq) fun h20 => tn_ok) fun h17 h17p => tn_ok) fun h9 h9p => tbD (fun h10 h10p => tp_ok fun h11 => tc_ok fun s12 h12 => tb_ok (fun h13 => by intro e; injection e with e; subst e; exact leafR vw_eq (k := 300) (r := []) (hs := hz [(12, [.fres (.b (s0))]), (4, [.no]), (1, [.no]), (2, [.no]), (1, [.no]), (1, [.no]), (1, [.no]), (2, [.no]), (1, [.no]), (1, [.no]), (1, [.no]), (2, [.no]), (1, [.no]), (1, [.no]), (1, [.no]), (1, [.no]), (2, [.no]), (1, [.no]), (1, [.no]), (1, [.no]), (2, [.no]), (1, [.no]), (1, [.no]), (1, [.no]), (2, [.no]), (1, [.no]), (1, [.no, .no]), (3, [.head (r11Check_L0_S s s0 s8)]), (6, [.no]), (5, [.yes]), (11, [.yes]), (1, [.yes, .val ((exs (poAt s.points (Int.toNat (wr ((s.points.length : Int) - (1 : Int))))).map))]), (5, [.fres (.b (s12))]), (1, [.yes]), (2, [.yes]), (1, [])]) (raw := (AV.i 110)) kq (ac (r11upto_ok (s.blocks) (s.map) (s.gen) _ h0).any0 (ac h1 (ac h1 (ac h1 (ac h1 (ac h2 (ac h2 (ac h2 (ac h2 (ac h3 (ac h3 (ac h3 (ac h3 (ac h3 (ac h4 (ac h4 (ac h4 (ac h4 (ac h5 (ac h5 (ac h5 (ac h5 (ac h6 (ac h6 (ac h6 (ac h6 (ac h6 (ac h7 (ac (show EvHead Try.prog cf (lp Try.prog 64 0) (r11Check_L0_I s s0) (r11Check_L0_S s s0 s8) from (EvHead.of (r11Check_L0_ok s s0) (absB_of [] [] kq (.consn kq (.agp pq) (.consn kq (.pt rfl) (.consn kq (.eqv tq rfl) (.consn kq (.eqv tq rfl) (.consn kq (.eqv tq rfl) (.consn kq (.eqv tq rfl) (.consn kq (.eqv tq rfl) .nil))))))) (.cons (.old rfl rfl (.cells (.pl rfl pq))) .nil)) h8)) (ac h9 (ac h10 (ac h11 (ac (fq (p := ((1 : Nat) ≤ (List.length (List.drop 2 (List.drop ((Int.toNat (wr ((s.points.length : Int) - (1 : Int)))) * 3) (s.points.flatMap Po.cells))))))) (ac (show (List.take 1 (List.drop 2 (List.drop ((Int.toNat (wr ((s.points.length : Int) - (1 : Int)))) * 3) (s.points.flatMap Po.cells)))) = [(exs (poAt s.points (Int.toNat (wr ((s.points.length : Int) - (1 : Int))))).map)] from (by first | exact po_one _ _ _ _ bq rfl | exact po_oneA _ _ _ _ bq rfl | (simpa using po_one (s.points) ((Int.toNat (wr ((s.points.length : Int) - (1 : Int))))) 2 _ bq rfl) | ((try simp only [List.drop_drop]); rw [show ((2 : Nat) + ((Int.toNat (wr ((s.points.length : Int) - (1 : Int)))) * 3)) = ((Int.toNat (wr ((s.points.length : Int) - (1 : Int))))) * 3 + 2 by omega]; exact po_oneA (s.points) ((Int.toNat (wr ((s.points.length : Int) - (1 : Int))))) 2 _ bq rfl))) (ac (r11kept_ok (s.blocks) ((poAt s.points (Int.toNat (wr ((s.points.length : Int) - (1 : Int))))).map) (s.map) (s8.2.1) _ h12).any0 (ac (show orderOk (rg Try.prog 64 1) = true ∧ allOk (Region.before (rg Try.prog 64 1)) [] 0 [(some [], some []), (some [0], some []), (some [], some []), (some [0], some []), (some [], some []), (some [0], some []), (some [], some []), (some [], some []), (some [], some []), (some [], some []), (some [], some []), (some [], some []), (some [0], some []), (some [], some []), (some [], some []), (some [], some [])] = true from (ord_of ord_64_1 bef_64_1 kq)) (ac h13 an))))))))))))))))))))))))))))))))))))) tq) fun h13 => by intro e; injection e with e; subst e; exact leafR vw_eq (k := 300) (r := []) (hs := hz [(12, [.fres (.b (s0))]), (4, [.no]), (1, [.no]), (2, [.no]), (1, [.no]), (1, [.no]), (1, [.no]), (2, [.no]), (1, [.no]), (1, [.no]), (1, [.no]), (2, [.no]), (1, [.no]), (1, [.no]), (1, [.no]), (1, [.no]), (2, [.no]), (1, [.no]), (1, [.no]), (1, [.no]), (2, [.no]), (1, [.no]), (1, [.no]), (1, [.no]), (2, [.no]), (1, [.no]), (1, [.no, .no]), (3, [.head (r11Check_L0_S s s0 s8)]), (6, [.no]), (5, [.yes]), (11, [.yes]), (1, [.yes, .val ((exs (poAt s.points (Int.toNat (wr ((s.points.length : Int) - (1 : Int))))).map))]), (5, [.fres (.b (s12))]), (1, [.yes]), (2, [.no]), (1, [])]) (raw := (AV.i 0)) kq (ac (r11upto_ok (s.blocks) (s.map) (s.gen) _ h0).any0 (ac h1 (ac h1 (ac h1 (ac h1 (ac h2 (ac h2 (ac h2 (ac h2 (ac h3 (ac h3 (ac h3 (ac h3 (ac h3 (ac h4 (ac h4 (ac h4 (ac h4 (ac h5 (ac h5 (ac h5 (ac h5 (ac h6 (ac h6 (ac h6 (ac h6 (ac h6 (ac h7 (ac (show EvHead Try.prog cf (lp Try.prog 64 0) (r11Check_L0_I s s0) (r11Check_L0_S s s0 s8) from (EvHead.of (r11Check_L0_ok s s0) (absB_of [] [] kq (.consn kq (.agp pq) (.consn kq (.pt rfl) (.consn kq (.eqv tq rfl) (.consn kq (.eqv tq rfl) (.consn kq (.eqv tq rfl) (.consn kq (.eqv tq rfl) (.consn kq (.eqv tq rfl) .nil))))))) (.cons (.old rfl rfl (.cells (.pl rfl pq))) .nil)) h8)) (ac h9 (ac h10 (ac h11 (ac (fq (p := ((1 : Nat) ≤ (List.length (List.drop 2 (List.drop ((Int.toNat (wr ((s.points.length : Int) - (1 : Int)))) * 3) (s.points.flatMap Po.cells))))))) (ac (show (List.take 1 (List.drop 2 (List.drop ((Int.toNat (wr ((s.points.length : Int) - (1 : Int)))) * 3) (s.points.flatMap Po.cells)))) = [(exs (poAt s.points (Int.toNat (wr ((s.points.length : Int) - (1 : Int))))).map)] from (by first | exact po_one _ _ _ _ bq rfl | exact po_oneA _ _ _ _ bq rfl | (simpa using po_one (s.points) ((Int.toNat (wr ((s.points.length : Int) - (1 : Int))))) 2 _ bq rfl) | ((try simp only [List.drop_drop]); rw [show ((2 : Nat) + ((Int.toNat (wr ((s.points.length : Int) - (1 : Int)))) * 3)) = ((Int.toNat (wr ((s.points.length : Int) - (1 : Int))))) * 3 + 2 by omega]; exact po_oneA (s.points) ((Int.toNat (wr ((s.points.length : Int) - (1 : Int))))) 2 _ bq rfl))) (ac (r11kept_ok (s.blocks) ((poAt s.points (Int.toNat (wr ((s.points.length : Int) - (1 : Int))))).map) (s.map) (s8.2.1) _ h12).any0 (ac (show orderOk (rg Try.prog 64 1) = true ∧ allOk (Region.before (rg Try.prog 64 1)) [] 0 [(some [], some []), (some [0], some []), (some [], some []), (some [0], some []), (some [], some []), (some [0], some []), (some [], some []), (some [], some []), (some [], some []), (some [], some []), (some [], some []), (some [], some []), (some [0], some []), (some [], some []), (some [], some []), (some [], some [])] = true from (ord_of ord_64_1 bef_64_1 kq)) (ac h13 an))))))))))))))))))))))))))))))))))))) tq) fun h10 h10p => by intro e; injection e with e; subst e; exact leafR vw_eq (k := 300) (r := []) (hs := hz [(12, [.fres (.b (s0))]), (4, [.no]), (1, [.no]), (2, [.no]), (1, [.no]), (1, [.no]), (1, [.no]), (2, [.no]), (1, [.no]), (1, [.no]), (1, [.no]), (2, [.no]), (1, [.no]), (1, [.no]), (1, [.no]), (1, [.no]), (2, [.no]), (1, [.no]), (1, [.no]), (1, [.no]), (2, [.no]), (1, [.no]), (1, [.no]), (1, [.no]), (2, [.no]), (1, [.no]), (1, [.no, .no]), (3, [.head (r11Check_L0_S s s0 s8)]), (6, [.no]), (5, [.no]), (1, [])]) (raw := (AV.i 0)) kq (ac (r11upto_ok (s.blocks) (s.map) (s.gen) _ h0).any0 (ac h1 (ac h1 (ac h1 (ac h1 (ac h2 (ac h2 (ac h2 (ac h2 (ac h3 (ac h3 (ac h3 (ac h3 (ac h3 (ac h4 (ac h4 (ac h4 (ac h4 (ac h5 (ac h5 (ac h5 (ac h5 (ac h6 (ac h6 (ac h6 (ac h6 (ac h6 (ac h7 (ac (show EvHead Try.prog cf (lp Try.prog 64 0) (r11Check_L0_I s s0) (r11Check_L0_S s s0 s8) from (EvHead.of (r11Check_L0_ok s s0) (absB_of [] [] kq (.consn kq (.agp pq) (.consn kq (.pt rfl) (.consn kq (.eqv tq rfl) (.consn kq (.eqv tq rfl) (.consn kq (.eqv tq rfl) (.consn kq (.eqv tq rfl) (.consn kq (.eqv tq rfl) .nil))))))) (.cons (.old rfl rfl (.cells (.pl rfl pq))) .nil)) h8)) (ac h9 (ac h10 an))))))))))))))))))))))))))))))) tq
noncomputable abbrev r11Point_L0_I (s : Sa) (id : Int) (s0 : Int) : St := (St.mk [(0, (AV.ag [(AV.i s.blocks), (AV.i s.gen), (exs s.map), (AV.sl s.points.length (s.points.flatMap Po.cells)), (AV.i s.last), (bys s.staged)])), (1, (AV.i id)), (2, (AV.pt 0 0)), (4, (AV.pt 1 0)), (5, (AV.i 0)), (7, (AV.ag [(AV.i s.blocks), (AV.i s.gen), (exs s.map), (AV.sl s.points.length (s.points.flatMap Po.cells)), (AV.i s.last), (bys s.staged)])), (8, (AV.i s0)), (9, (AV.b (s0 != (0 : Int)))), (6, (AV.i 0))] 32 (AH.mk 2 [(1, (AObj.cells [(AV.i 0), (AV.i 0), AV.nl])), (0, (AObj.cells [(AV.i s.blocks), (AV.i s.gen), (exs s.map), (AV.sl s.points.length (s.points.flatMap Po.cells)), (AV.i s.last), (bys s.staged)]))]) false)
noncomputable abbrev r11Point_L0_S (s : Sa) (id : Int) (s0 : Int) (s2 : Int) : St := (St.mk [(0, (AV.ag [(AV.i s.blocks), (AV.i s.gen), (exs s.map), (AV.sl s.points.length (s.points.flatMap Po.cells)), (AV.i s.last), (bys s.staged)])), (1, (AV.i id)), (2, (AV.pt 0 0)), (4, (AV.pt 1 0)), (9, (AV.b (s0 != (0 : Int)))), (6, (AV.i s2))] 32 (AH.mk 2 [(1, (AObj.cells [(AV.i 0), (AV.i 0), AV.nl])), (0, (AObj.cells [(AV.i s.blocks), (AV.i s.gen), (exs s.map), (AV.sl s.points.length (s.points.flatMap Po.cells)), (AV.i s.last), (bys s.staged)]))]) false)
noncomputable def r11Point_L0_step (s : Sa) (id : Int) (s0 : Int) (s2 : Int) : Option (Int) :=
 (tb ((decide (s2 < (s.points.length : Int)))) (tp ((((0 : Int) ≤ s2) ∧ (s2 < (s.points.length : Int)))) (tb (((poAt s.points s2.toNat).id == id)) none (some ((wr (s2 + (1 : Int))))))) none)
theorem r11Point_L0_ok (s : Sa) (id : Int) (s0 : Int) (s2 zz : Int) : r11Point_L0_step s id s0 s2 = some zz → EvStep Try.prog cf 2 (lp Try.prog 35 0) (r11Point_L0_S s id s0 s2) (r11Point_L0_S s id s0 zz) := by
  unfold r11Point_L0_step
  exact tbD (fun h3 h3p => tp_ok fun h4 => tbE (fun h5 h5p => tn_ok) fun h5 h5p => by intro e; injection e with e; subst e; exact leafIS vw_eq (k := 300) (r := []) (hs := hz [(6, [.yes]), (4, [.yes]), (1, [.yes, .val ((AV.i (poAt s.points s2.toNat).id))]), (2, [.no]), (3, [])]) (ks := [0, 1, 2, 4, 9, 6]) (bs := [1, 0]) kq (ac h3 (ac h4 (ac (fq (p := ((1 : Nat) ≤ (List.length (List.drop (s2.toNat * 3) (s.points.flatMap Po.cells)))))) (ac (show (List.take 1 (List.drop (s2.toNat * 3) (s.points.flatMap Po.cells))) = [(AV.i (poAt s.points s2.toNat).id)] from (by first | exact po_one0 _ _ _ bq rfl | (simpa using po_one (s.points) (s2.toNat) 0 _ bq rfl))) (ac h5 an))))) kq) fun h3 h3p => tn_ok
/-- Function 35, as it answers. -/
noncomputable def r11Point (s : Sa) (id : Int) : Option (Po × Int) :=
 (tc (r11Check (s)) fun s0 => (tb ((s0 != (0 : Int))) (some (((Po.mk 0 0 ([] : List Ex)), (110 : Int)))) (th (r11Point_L0_step s id s0) ((0 : Int)) fun s2 => (tb ((decide (s2 < (s.points.length : Int)))) (tp ((((0 : Int) ≤ s2) ∧ (s2 < (s.points.length : Int)))) (tb (((poAt s.points s2.toNat).id == id)) (some (((poAt s.points s2.toNat), (0 : Int)))) none)) (some (((Po.mk 0 0 ([] : List Ex)), (111 : Int))))))))
abbrev r11Point_G (s : Sa) (id : Int) (r : Po × Int) : Prop := EvFr Try.prog cf false 35 [Sa.av (s), .i (id)] (.tu [Po.av (r.1), .i (r.2)])
theorem r11Point_ok (s : Sa) (id : Int) (r : Po × Int) : r11Point s id = some r → r11Point_G s id r := by
  unfold r11Point
  exact tc_ok fun s0 h0 => tbN (fun h1 h1p => by intro e; injection e with e; subst e; exact leafR vw_eq (k := 300) (r := []) (hs := hz [(4, [.fc]), (1, [.fres (.i (s0))]), (1, [.yes]), (2, [.fc]), (2, [.fc])]) (raw := (AV.tu [(AV.ag [(AV.i 0), (AV.i 0), (AV.sl 0 ([] : List AV))]), (AV.i 110)])) kq (ac (r11Check_ok (s) _ h0).any0 (ac h1 an)) tq) fun h1 h1p => th_ok fun s2 h2 => tbD (fun h3 h3p => tp_ok fun h4 => tbE (fun h5 h5p => by intro e; injection e with e; subst e; exact leafR vw_eq (k := 300) (r := []) (hs := hz [(4, [.fc]), (1, [.fres (.i (s0))]), (1, [.no]), (1, [.head (r11Point_L0_S s id s0 s2)]), (6, [.yes]), (4, [.yes]), (1, [.yes, .val ((AV.i (poAt s.points s2.toNat).id))]), (2, [.yes]), (4, [.yes, .yes, .cells ((Po.cells (poAt s.points s2.toNat)))]), (1, [.fc]), (2, [.fc])]) (raw := (AV.tu [(AV.ag [(AV.i (poAt s.points s2.toNat).id), (AV.i (poAt s.points s2.toNat).gen), (exs (poAt s.points s2.toNat).map)]), (AV.i 0)])) kq (ac (r11Check_ok (s) _ h0).any0 (ac h1 (ac (show EvHead Try.prog cf (lp Try.prog 35 0) (r11Point_L0_I s id s0) (r11Point_L0_S s id s0 s2) from (EvHead.of (r11Point_L0_ok s id s0) (absB_of [] [] kq (.consn kq (.agp pq) (.consn kq (.eqv tq rfl) (.consn kq (.pt rfl) (.consn kq (.pt rfl) (.consn kq (.eqv tq rfl) (.consn kq (.eqv tq rfl) .nil)))))) (.cons (.old rfl rfl (.cells (.cons (.eqv tq rfl) (.cons (.eqv tq rfl) (.cons .nl0 .nil))))) (.cons (.old rfl rfl (.cells (.pl rfl pq))) .nil))) h2)) (ac h3 (ac h4 (ac (fq (p := ((1 : Nat) ≤ (List.length (List.drop (s2.toNat * 3) (s.points.flatMap Po.cells)))))) (ac (show (List.take 1 (List.drop (s2.toNat * 3) (s.points.flatMap Po.cells))) = [(AV.i (poAt s.points s2.toNat).id)] from (by first | exact po_one0 _ _ _ bq rfl | (simpa using po_one (s.points) (s2.toNat) 0 _ bq rfl))) (ac h5 (ac h4 (ac (fq (p := ((3 : Nat) ≤ (List.length (List.drop (s2.toNat * 3) (s.points.flatMap Po.cells)))))) (ac (show (List.take 3 (List.drop (s2.toNat * 3) (s.points.flatMap Po.cells))) = (Po.cells (poAt s.points s2.toNat)) from (po_takeO bq bq)) an))))))))))) tq) fun h5 h5p => tn_ok) fun h3 h3p => by intro e; injection e with e; subst e; exact leafR vw_eq (k := 300) (r := []) (hs := hz [(4, [.fc]), (1, [.fres (.i (s0))]), (1, [.no]), (1, [.head (r11Point_L0_S s id s0 s2)]), (6, [.no]), (2, [.fc]), (2, [.fc])]) (raw := (AV.tu [(AV.ag [(AV.i 0), (AV.i 0), (AV.sl 0 ([] : List AV))]), (AV.i 111)])) kq (ac (r11Check_ok (s) _ h0).any0 (ac h1 (ac (show EvHead Try.prog cf (lp Try.prog 35 0) (r11Point_L0_I s id s0) (r11Point_L0_S s id s0 s2) from (EvHead.of (r11Point_L0_ok s id s0) (absB_of [] [] kq (.consn kq (.agp pq) (.consn kq (.eqv tq rfl) (.consn kq (.pt rfl) (.consn kq (.pt rfl) (.consn kq (.eqv tq rfl) (.consn kq (.eqv tq rfl) .nil)))))) (.cons (.old rfl rfl (.cells (.cons (.eqv tq rfl) (.cons (.eqv tq rfl) (.cons .nl0 .nil))))) (.cons (.old rfl rfl (.cells (.pl rfl pq))) .nil))) h2)) (ac h3 an)))) tq
end Ab
end Go.Proofs.Ytpflcogplhigcaa
namespace Go.Proofs.Ytpflcogplhigcaa
open Go Go.Proofs.Ytpflcogplhigcaa.Ab
set_option linter.unusedVariables false
set_option linter.unusedSimpArgs false
namespace Ab
theorem r7Bytes_eq {x : Ex} (h : Ck x) : r7Bytes x = some (eb x) := by
  unfold r7Bytes eb
  have hc := h
  unfold Ck at hc
  have w1 : wr (32 * x.len) = 32 * x.len := wr_id (by omega) (by omega)
  rw [r7Check_eq, tc_some, ck_t h, w1]
  simp only [Bool.not_true, tb_f, tb_beq]
  by_cases hk : x.kind = 2
  · rw [if_pos hk, if_pos hk]
    have hl := hc.2.2.2.2.2.2.2.2.1 hk
    rw [tp_pos (by omega)]
  · rw [if_neg hk, if_neg hk]
    rw [tp_pos (by first | exact ⟨rfl, by omega, by omega⟩ | exact ⟨trivial, by omega, by omega⟩)]
    simp
/-- A block at first. -/
def c0 : Ce := ⟨0, 0, List.replicate 32 0⟩
theorem putN_app (A R : List Ce) (f : Nat → Ce) (n : Nat) (h : n ≤ R.length) (s : Nat) (hs : s = A.length) : putN (A ++ R) s f n = A ++ ((List.range n).map f ++ R.drop n) := by
  subst hs
  refine List.ext_getElem? fun i => ?_
  rw [putN_get _ _ _ _ (by rw [List.length_append]; omega)]
  by_cases h1 : i < A.length
  · rw [if_neg (by omega), List.getElem?_append_left h1, List.getElem?_append_left h1]
  rw [List.getElem?_append_right (by omega), List.getElem?_append_right (by omega)]
  by_cases h2 : i < A.length + n
  · rw [if_pos (by omega), List.getElem?_append_left (by simp; omega), List.getElem?_map, List.getElem?_range (by omega)]; rfl
  · rw [if_neg (by omega), List.getElem?_append_right (by simp; omega), List.getElem?_drop]
    congr 1; simp; omega
theorem r8Cells_L2 {α : Type} (blocks : Int) (l : List Ex) (s1 : Int × List Ce) (b : List UInt8) (s5 : Int × List Ce) (kind gen : Int) (i : Nat) (hi : 32 * i + 32 ≤ b.length) (hb : b.length ≤ 4294967296) (h5 : s5.1 = i) (f : Int × Ce → Option α) :
    th (r8Cells_L2_step blocks l s1 b s5) ((0, (Ce.mk kind gen (List.replicate 32 (UInt8.ofNat 0))))) f = f (32, ⟨kind, gen, pad 32 (b.drop (32 * i))⟩) := by
  have := th_run (step := r8Cells_L2_step blocks l s1 b s5) (f := f) (fun k => ((k : Int), (⟨kind, gen, part (b.drop (32 * i)) k⟩ : Ce))) 32 ?_ ?_
  · rw [part_all] at this
    rw [show ((0 : Int), (Ce.mk kind gen (List.replicate 32 (UInt8.ofNat 0)))) = (((0 : Nat) : Int), (⟨kind, gen, part (b.drop (32 * i)) 0⟩ : Ce)) by unfold part; rw [List.take_zero, List.nil_append]; rfl]
    exact this
  · intro k hk
    unfold r8Cells_L2_step
    have w1 : wr (32 * (i : Int)) = 32 * (i : Int) := wr_id (by omega) (by omega)
    have w2 : wr (32 * (i : Int) + (k : Int)) = ((32 * i + k : Nat) : Int) := by rw [wr_id (by omega) (by omega)]; omega
    simp only [tb_dec, h5, w1, w2, Int.toNat_natCast, Nat.mul_one]
    rw [if_pos (by omega), tp_pos (by omega), tp_pos (by omega), tp_pos (by constructor <;> simp <;> omega), wr_id (by omega) (by omega)]
    have e : b.getD (32 * i + k) (OfNat.ofNat 0) = (b.drop (32 * i)).getD k 0 := by
      rw [List.getD_eq_getElem?_getD, List.getD_eq_getElem?_getD, List.getElem?_drop]
    rw [e, part_step _ hk]
    rfl
  · unfold r8Cells_L2_step
    simp only [tb_dec]
    rw [if_neg (by omega)]
theorem cellsM_sl {m : List Ex} {blocks : Int} (h : Mk blocks m) (i : Nat) (hi : i ≤ m.length) : ((cellsM (m.take i)).length : Int) = sl (m.take i) := by
  have hk : ∀ x ∈ m.take i, Ck x := fun x hx => (ch_ck (mk_ch h) x (List.mem_of_mem_take hx)).1
  generalize m.take i = l at hk
  induction l with
  | nil => rfl
  | cons x l ih =>
    have p := ck_pos (hk x (by simp))
    have := ih fun y hy => hk y (by simp [hy])
    simp only [cellsM, List.flatMap_cons, List.length_append, xcs_len, sl] at this ⊢
    omega
theorem r8Cells_eq {blocks : Int} {m : List Ex} (h : Mk blocks m) : r8Cells blocks m = some (cellsM m) := by
  have hb := mk_blocks h
  have hl := mk_len h
  have hlen := (cellsM_mk h).2.1
  unfold r8Cells
  rw [tp_pos (by refine ⟨rfl, by omega, by omega⟩)]
  rw [th_run_at (S := fun i => ((i : Int), cellsM (m.take i) ++ List.replicate (blocks.toNat - (cellsM (m.take i)).length) c0)) (k := m.length) (by simp [cellsM, c0]) ?_ ?_]
  · simp only [tb_dec]
    have e : blocks.toNat - (cellsM m).length = 0 := by omega
    rw [if_neg (by omega), List.take_length, e, List.replicate_zero, List.append_nil, tp_pos (by rw [ces_len]; omega)]
    first | rw [List.drop_zero, List.take_of_length_le (by omega)] | rw [List.take_of_length_le (by omega)]
  · intro i hi
    have hck := mk_at h hi
    have hle := cellsM_le h i
    have hsl := cellsM_sl h i (by omega)
    have hsl2 := cellsM_sl h (i + 1) (by omega)
    have hmp := h.2.1 i hi
    have hlba : (exAt m i).lba = ((cellsM (m.take i)).length : Int) := by rw [hsl]; exact hmp.2.1
    have p := ck_pos hck
    have hct := cellsM_take m i hi
    have hle2 := cellsM_le h (i + 1)
    have hbl : (cellsM (m.take i)).length + (exAt m i).len.toNat ≤ blocks.toNat := by
      have e1 : cellsM m = cellsM (m.take (i + 1)) ++ cellsM (m.drop (i + 1)) := by unfold cellsM; rw [← List.flatMap_append, List.take_append_drop]
      have e2 := congrArg List.length e1
      rw [List.length_append, hct, List.length_append, xcs_len] at e2
      omega
    have hel := eb_len hck
    have htd : wr (Int.tdiv ((eb (exAt m i)).length : Int) 32) = (exAt m i).len := by
      rw [hel, Int.tdiv_eq_ediv_of_nonneg (by omega), wr_id (by omega) (by omega)]; omega
    unfold r8Cells_L0_step
    simp only [tb_dec, Int.toNat_natCast]
    rw [if_pos (by omega), tp_pos (by omega), r7Bytes_eq hck, tc_some]
    generalize hA : cellsM (m.take i) = A at *
    generalize hR : List.replicate (blocks.toNat - A.length) c0 = R at *
    have hRl : R.length = blocks.toNat - A.length := by rw [← hR, List.length_replicate]
    rw [th_run_at (s0 := ((0 : Int), A ++ R)) (S := fun k => ((k : Int), putN (A ++ R) A.length (fun k => (⟨(exAt m i).kind, (exAt m i).gen, pad 32 ((eb (exAt m i)).drop (32 * k))⟩ : Ce)) k)) (k := (exAt m i).len.toNat) rfl ?_ ?_]
    · simp only [htd]
      rw [if_neg (by omega), wr_id (by omega) (by omega), putN_app A R _ _ (by omega) _ rfl, hct]
      have e3 : (List.range (exAt m i).len.toNat).map (fun k => (⟨(exAt m i).kind, (exAt m i).gen, pad 32 ((eb (exAt m i)).drop (32 * k))⟩ : Ce)) = xcs (exAt m i) := rfl
      rw [e3, ← hR, List.drop_replicate, List.append_assoc, List.length_append, xcs_len, show blocks.toNat - (A.length + (exAt m i).len.toNat) = blocks.toNat - A.length - (exAt m i).len.toNat by omega]
      rfl
    · intro k hk
      unfold r8Cells_L1_step
      have w1 : wr ((exAt m i).lba + (k : Int)) = ((A.length + k : Nat) : Int) := by rw [wr_id (by omega) (by omega)]; omega
      simp only [tb_dec, htd, Int.toNat_natCast, w1]
      rw [if_pos (by omega), tp_pos (by omega), if_neg (by omega), r8Cells_L2 _ _ _ _ _ _ _ k (by omega) (by omega) rfl]
      simp only [ceAt_one]
      rw [if_neg (by omega), tp_pos (by omega), tp_pos (by rw [ces_len, putN_len, List.length_append]; constructor <;> simp <;> omega), wr_id (by omega) (by omega)]
      rfl
    · unfold r8Cells_L1_step
      simp only [tb_dec, htd]
      rw [if_neg (by omega)]
  · unfold r8Cells_L0_step
    simp only [tb_dec]
    rw [if_neg (by omega)]
end Ab
end Go.Proofs.Ytpflcogplhigcaa
namespace Go.Proofs.Ytpflcogplhigcaa
open Go Go.Proofs.Ytpflcogplhigcaa.Ab
set_option linter.unusedVariables false
set_option linter.unusedSimpArgs false
namespace Ab
/-- Do two extents tell the same of the blocks that both tell? -/
def Ag (x y : Ex) : Prop := ∀ k, x.lba ≤ k → k < x.lba + x.len → y.lba ≤ k → k < y.lba + y.len → bAt x k = bAt y k
def Kp (was l : List Ex) (gen : Int) : Prop := ∀ x ∈ l, x.gen ≤ gen → ∀ y ∈ was, Ag x y
open Classical in
noncomputable def kp (was l : List Ex) (gen : Int) : Bool := decide (Kp was l gen)
open Classical in
theorem kp_t {was l : List Ex} {gen : Int} (h : Kp was l gen) : kp was l gen = true := by unfold kp; exact decide_eq_true h
open Classical in
theorem kp_f {was l : List Ex} {gen : Int} (h : ¬ Kp was l gen) : kp was l gen = false := by unfold kp; exact decide_eq_false h
theorem kp_nil (l : List Ex) (gen : Int) : Kp [] l gen := fun x _ _ y hy => by cases hy
theorem cu_in {x y : Ex} (hx : Ck x) (h : Cu y x.lba x.len) : Cu x (cu y x.lba x.len).lba (cu y x.lba x.len).len := by
  have px := ck_pos hx
  have py := ck_pos h.1
  have h6 := h.2.2.2.2.2
  refine ⟨hx, ?_, ?_, ?_, ?_, ?_⟩ <;> simp only [cu] <;> omega
theorem ag_iff {x y : Ex} (hx : Ck x) (h : Cu y x.lba x.len) : ((cu x (cu y x.lba x.len).lba (cu y x.lba x.len).len).kind = (cu y x.lba x.len).kind ∧ (cu x (cu y x.lba x.len).lba (cu y x.lba x.len).len).gen = (cu y x.lba x.len).gen ∧ (cu x (cu y x.lba x.len).lba (cu y x.lba x.len).len).d = (cu y x.lba x.len).d) ↔ Ag x y := by
  have hw := cu_in hx h
  have px := ck_pos hx
  have py := ck_pos h.1
  have h6 := h.2.2.2.2.2
  have zl : (cu y x.lba x.len).lba = max y.lba x.lba := rfl
  have zn : (cu y x.lba x.len).len = min (y.lba + y.len) (x.lba + x.len) - max y.lba x.lba := rfl
  have cz := cu_ck h
  have bz : ∀ k, max y.lba x.lba ≤ k → k < min (y.lba + y.len) (x.lba + x.len) → bAt (cu y x.lba x.len) k = bAt y k := fun k a b => bAt_cu h.1 a b
  generalize cu y x.lba x.len = z at hw zl zn cz bz ⊢
  have wl : (cu x z.lba z.len).lba = max x.lba z.lba := rfl
  have wn : (cu x z.lba z.len).len = min (x.lba + x.len) (z.lba + z.len) - max x.lba z.lba := rfl
  have cw := cu_ck hw
  have bw : ∀ k, max x.lba z.lba ≤ k → k < min (x.lba + x.len) (z.lba + z.len) → bAt (cu x z.lba z.len) k = bAt x k := fun k a b => bAt_cu hx a b
  generalize cu x z.lba z.len = w at wl wn cw bw ⊢
  constructor
  · rintro ⟨e1, e2, e3⟩ k a b c d
    have e : w = z := by
      obtain ⟨w1, w2, w3, w4, w5⟩ := w
      obtain ⟨z1, z2, z3, z4, z5⟩ := z
      simp only at e1 e2 e3 wl wn zl zn
      subst e1; subst e2; subst e3
      congr 1 <;> omega
    rw [← bw k (by omega) (by omega), ← bz k (by omega) (by omega), e]
  · intro g
    have e : w = z := by
      refine d_ext cw cz (by omega) (by omega) fun k a b => ?_
      rw [bw k (by omega) (by omega), bz k (by omega) (by omega)]
      exact g k (by omega) (by omega) (by omega) (by omega)
    rw [e]; exact ⟨rfl, rfl, rfl⟩
theorem ag_no {x y : Ex} (hx : Ck x) (hy : Ck y) (h : ¬ Cu y x.lba x.len) : Ag x y := by
  intro k a b c d
  have px := ck_pos hx
  have py := ck_pos hy
  exact absurd ⟨hy, by omega, by omega, by omega, by omega, by omega⟩ h
open Classical in
theorem kept_key {α : Type} {x y : Ex} (hx : Ck x) (hy : Ck y) (F N G : Option α) :
    tc (eCut y x.lba x.len) (fun s7 => tb (!s7.2) N (tc (eCut x s7.1.lba s7.1.len) fun s9 => tb (s9.1.kind != s7.1.kind) F (tb (s9.1.gen != s7.1.gen) F (tb (!(s9.1.d == s7.1.d)) F G))))
      = if Ag x y then (if Cu y x.lba x.len then G else N) else F := by
  rw [eCut_eq, tc_some]
  by_cases h : Cu y x.lba x.len
  case neg =>
    rw [cutv_neg h, if_pos (ag_no hx hy h), if_neg h]
    simp only [Bool.not_false, tb_t]
  rw [cutv_pos h]
  simp only [Bool.not_true, tb_f]
  rw [eCut_eq, tc_some, cutv_pos (cu_in hx h), if_pos h]
  simp only [tb_bne, tb_not]
  have hi := ag_iff hx h
  by_cases g : Ag x y
  · obtain ⟨e1, e2, e3⟩ := hi.2 g
    rw [if_pos e1, if_pos e2, e3, if_pos g]; simp [tb_t]
  · rw [if_neg g]
    by_cases e1 : (cu x (cu y x.lba x.len).lba (cu y x.lba x.len).len).kind = (cu y x.lba x.len).kind
    case neg => rw [if_neg e1]
    rw [if_pos e1]
    by_cases e2 : (cu x (cu y x.lba x.len).lba (cu y x.lba x.len).len).gen = (cu y x.lba x.len).gen
    case neg => rw [if_neg e2]
    rw [if_pos e2]
    by_cases e3 : (cu x (cu y x.lba x.len).lba (cu y x.lba x.len).len).d = (cu y x.lba x.len).d
    · exact absurd (hi.1 ⟨e1, e2, e3⟩) g
    · rw [tb_neg (by simpa using e3)]
open Classical in
theorem sKept_eq (was l : List Ex) (gen : Int) (hw : ∀ x ∈ was, Ck x) (hl : ∀ x ∈ l, Ck x) (nw : was.length ≤ 9223372036854775807) (nl : l.length ≤ 9223372036854775807) : sKept was l gen = some (kp was l gen) := by
  have hw' := (exAt_all was Ck).2 hw
  have hl' := (exAt_all l Ck).2 hl
  unfold sKept
  rw [th_all (some false) (some true) l.length (fun i => (exAt l i).gen ≤ gen → ∀ y ∈ was, Ag (exAt l i) y) (Kp was l gen) (exAt_all l fun x => x.gen ≤ gen → ∀ y ∈ was, Ag x y)]
  · by_cases h : Kp was l gen
    · rw [if_pos h, kp_t h]
    · rw [if_neg h, kp_f h]
  · intro i hi hp
    unfold sKept_L0_step
    simp only [tb_dec, Int.toNat_natCast]
    rw [if_pos (by omega), tp_pos (by omega), wr_id (x := (i : Int) + 1) (by omega) (by omega)]
    by_cases hg : (exAt l i).gen > gen
    · rw [if_pos hg]
    rw [if_neg hg]
    rw [th_all none (some ((i : Int) + 1)) was.length (fun j => Ag (exAt l i) (exAt was j)) (∀ y ∈ was, Ag (exAt l i) y) (exAt_all was fun y => Ag (exAt l i) y)]
    · rw [if_pos (hp (by omega))]
    · intro j hj hq
      unfold sKept_L1_step
      simp only [tb_dec, Int.toNat_natCast]
      rw [if_pos (by omega), tp_pos (by omega), wr_id (x := (j : Int) + 1) (by omega) (by omega), kept_key (hl' i hi) (hw' j hj), if_pos hq]
      split <;> rfl
    · intro j hj hq
      unfold sKept_L1_step
      simp only [tb_dec, Int.toNat_natCast]
      rw [if_pos (by omega), tp_pos (by omega), wr_id (x := (j : Int) + 1) (by omega) (by omega), kept_key (hl' i hi) (hw' j hj), if_neg hq, if_pos (by omega)]
      exact ⟨rfl, rfl⟩
    · unfold sKept_L1_step
      simp only [tb_dec]
      rw [if_neg (by omega), if_neg (by omega)]
      exact ⟨rfl, rfl⟩
  · intro i hi hp
    have hg : ¬ (exAt l i).gen > gen := fun g => hp fun g2 => by omega
    have hn : ¬ ∀ y ∈ was, Ag (exAt l i) y := fun g => hp fun _ => g
    constructor
    · unfold sKept_L0_step
      simp only [tb_dec, Int.toNat_natCast]
      rw [if_pos (by omega), tp_pos (by omega), if_neg hg]
      rw [th_all none (some (wr ((i : Int) + 1))) was.length (fun j => Ag (exAt l i) (exAt was j)) (∀ y ∈ was, Ag (exAt l i) y) (exAt_all was fun y => Ag (exAt l i) y)]
      · rw [if_neg hn]
      · intro j hj hq
        unfold sKept_L1_step
        simp only [tb_dec, Int.toNat_natCast]
        rw [if_pos (by omega), tp_pos (by omega), wr_id (x := (j : Int) + 1) (by omega) (by omega), kept_key (hl' i hi) (hw' j hj), if_pos hq]
        split <;> rfl
      · intro j hj hq
        unfold sKept_L1_step
        simp only [tb_dec, Int.toNat_natCast]
        rw [if_pos (by omega), tp_pos (by omega), wr_id (x := (j : Int) + 1) (by omega) (by omega), kept_key (hl' i hi) (hw' j hj), if_neg hq, if_pos (by omega)]
        exact ⟨rfl, rfl⟩
      · unfold sKept_L1_step
        simp only [tb_dec]
        rw [if_neg (by omega), if_neg (by omega)]
        exact ⟨rfl, rfl⟩
    · simp only [tb_dec, Int.toNat_natCast]
      rw [if_pos (by omega), tp_pos (by omega), if_neg hg]
      rw [th_all (some false) none was.length (fun j => Ag (exAt l i) (exAt was j)) (∀ y ∈ was, Ag (exAt l i) y) (exAt_all was fun y => Ag (exAt l i) y)]
      · rw [if_neg hn]
      · intro j hj hq
        unfold sKept_L2_step
        simp only [tb_dec, Int.toNat_natCast]
        rw [if_pos (by omega), tp_pos (by omega), wr_id (x := (j : Int) + 1) (by omega) (by omega), kept_key (hl' i hi) (hw' j hj), if_pos hq]
        split <;> rfl
      · intro j hj hq
        constructor
        · unfold sKept_L2_step
          simp only [tb_dec, Int.toNat_natCast]
          rw [if_pos (by omega), tp_pos (by omega), wr_id (x := (j : Int) + 1) (by omega) (by omega), kept_key (hl' i hi) (hw' j hj), if_neg hq]
        · simp only [Int.toNat_natCast]
          rw [if_pos (by omega), tp_pos (by omega), kept_key (hl' i hi) (hw' j hj), if_neg hq]
      · unfold sKept_L2_step
        simp only [tb_dec]
        rw [if_neg (by omega), if_neg (by omega)]
        exact ⟨rfl, rfl⟩
  · unfold sKept_L0_step
    simp only [tb_dec]
    rw [if_neg (by omega), if_neg (by omega)]
    exact ⟨rfl, rfl⟩
/-- Blocks of two maps, one by one. -/
theorem kp_cells {blocks : Int} {was l : List Ex} {gen : Int} (hw : Mk blocks was) (hl : Mk blocks l) : (∀ i : Nat, i < blocks.toNat → (ceAt (cellsM l) i).gen ≤ gen → ceAt (cellsM was) i = ceAt (cellsM l) i) ↔ Kp was l gen := by
  have hb := mk_blocks hw
  constructor
  · intro h x hx hg y hy k a b c d
    have cx := (ch_ck (mk_ch hl) x hx).1
    have cy := (ch_ck (mk_ch hw) y hy).1
    have px := ck_pos cx
    have he := ch_end (mk_ch hl) x hx
    rw [hl.2.2] at he
    have q := h k.toNat (by omega)
    have ek : ((k.toNat : Nat) : Int) = k := by omega
    have d1 : Den l k (bAt x k) := ⟨x, hx, a, b, rfl⟩
    have d2 : Den was k (bAt y k) := ⟨y, hy, c, d, rfl⟩
    have g1 := cellsM_den (mk_ch hl) d1
    have g2 := cellsM_den (mk_ch hw) d2
    rw [Int.sub_zero] at g1 g2
    rw [(ce_get g1).2, (ce_get g2).2] at q
    have q := q (by simp only [cb, bAt]; exact hg)
    have q2 := congrArg blk q
    rw [(den_ck cx a b).1, (den_ck cy c d).1] at q2
    exact q2.symm
  · intro h i hi hg
    obtain ⟨x, hx, k1, k2, k3, k4, k5⟩ := mk_get hl (i := i) (by omega)
    obtain ⟨y, hy, j1, j2, j3, j4, j5⟩ := mk_get hw (i := i) (by omega)
    rw [(ce_get k5).2] at hg
    rw [(ce_get k5).2, (ce_get j5).2]
    rw [h x hx (by simpa only [cb, bAt] using hg) y hy i k2 k3 j2 j3]
theorem pad_in {l : List Ce} (h : ∀ c ∈ l, c.d.length = 32) {i : Nat} (hi : i < l.length) : pad 32 (ceAt l i).d = (ceAt l i).d := pad_of ((ceAt_all l (fun c => c.d.length = 32)).2 h i hi)
open Classical in
theorem r11kept_eq {blocks : Int} {was l : List Ex} (gen : Int) (hw : Mk blocks was) (hl : Mk blocks l) : r11kept blocks was l gen = some (kp was l gen) := by
  have hb := mk_blocks hw
  obtain ⟨a1, a2, a3⟩ := cellsM_mk hw
  obtain ⟨b1, b2, b3⟩ := cellsM_mk hl
  unfold r11kept
  rw [r8Cells_eq hw, tc_some, r8Cells_eq hl, tc_some]
  have key : ∀ i : Nat, i < blocks.toNat → ((((ceAt (cellsM was) i).kind == (ceAt (cellsM l) i).kind) && (((ceAt (cellsM was) i).gen == (ceAt (cellsM l) i).gen) && ((pad 32 (ceAt (cellsM was) i).d) == (pad 32 (ceAt (cellsM l) i).d)))) = decide (ceAt (cellsM was) i = ceAt (cellsM l) i)) := by
    intro i hi
    rw [pad_in a3 (by omega), pad_in b3 (by omega)]
    generalize ceAt (cellsM was) i = c
    generalize ceAt (cellsM l) i = d
    obtain ⟨c1, c2, c3⟩ := c
    obtain ⟨d1, d2, d3⟩ := d
    rw [Bool.eq_iff_iff]
    simp
  rw [th_all (some false) (some true) blocks.toNat (fun i => (ceAt (cellsM l) i).gen ≤ gen → ceAt (cellsM was) i = ceAt (cellsM l) i) (Kp was l gen) (kp_cells hw hl)]
  · by_cases h : Kp was l gen
    · rw [if_pos h, kp_t h]
    · rw [if_neg h, kp_f h]
  · intro i hi hp
    unfold r11kept_L0_step
    simp only [tb_dec, Int.toNat_natCast, tb_not]
    rw [if_pos (by omega), tp_pos (by omega), wr_id (x := (i : Int) + 1) (by omega) (by omega), key i hi, tb_dec]
    by_cases hg : (ceAt (cellsM l) i).gen ≤ gen
    · rw [if_pos hg, tp_pos (by omega), if_pos (hp hg)]
    · rw [if_neg hg]
  · intro i hi hp
    have hg : (ceAt (cellsM l) i).gen ≤ gen := Classical.byContradiction fun g => hp fun g2 => absurd g2 g
    have hn : ¬ ceAt (cellsM was) i = ceAt (cellsM l) i := fun g => hp fun _ => g
    constructor
    · unfold r11kept_L0_step
      simp only [tb_dec, Int.toNat_natCast, tb_not]
      rw [if_pos (by omega), tp_pos (by omega), key i hi, tb_dec, if_pos hg, tp_pos (by omega), if_neg hn]
    · simp only [tb_dec, Int.toNat_natCast, tb_not]
      rw [if_pos (by omega), tp_pos (by omega), key i hi, tb_dec, if_pos hg, tp_pos (by omega), if_neg hn]
  · unfold r11kept_L0_step
    simp only [tb_dec]
    rw [if_neg (by omega), if_neg (by omega)]
    exact ⟨rfl, rfl⟩
end Ab
end Go.Proofs.Ytpflcogplhigcaa
namespace Go.Proofs.Ytpflcogplhigcaa
open Go Go.Proofs.Ytpflcogplhigcaa.Ab
set_option linter.unusedVariables false
set_option linter.unusedSimpArgs false
namespace Ab
def Up (blocks : Int) (l : List Ex) (gen : Int) : Prop := Mk blocks l ∧ ∀ x ∈ l, x.gen ≤ gen
instance (blocks : Int) (l : List Ex) (gen : Int) : Decidable (Up blocks l gen) := by unfold Up; infer_instance
theorem sUpto_eq (blocks : Int) (l : List Ex) (gen : Int) (nl : l.length ≤ 9223372036854775807) : sUpto blocks l gen = some (decide (Up blocks l gen)) := by
  unfold sUpto
  rw [mCheck_eq blocks l nl, tc_some]
  by_cases hm : Mk blocks l
  case neg => rw [mk_f hm, tb_f, decide_eq_false fun h => hm h.1]
  rw [mk_t hm, tb_t]
  rw [th_all (some false) (some true) l.length (fun i => (exAt l i).gen ≤ gen) (∀ x ∈ l, x.gen ≤ gen) (exAt_all l fun x => x.gen ≤ gen)]
  · by_cases h : ∀ x ∈ l, x.gen ≤ gen
    · have u : Up blocks l gen := ⟨hm, h⟩
      rw [if_pos h, decide_eq_true u]
    · rw [if_neg h, decide_eq_false fun g : Up blocks l gen => h g.2]
  · intro i hi hp
    unfold sUpto_L0_step
    simp only [tb_dec, Int.toNat_natCast]
    rw [if_pos (by omega), tp_pos (by omega), if_neg (by omega), wr_id (by omega) (by omega)]
  · intro i hi hp
    unfold sUpto_L0_step
    simp only [tb_dec, Int.toNat_natCast]
    rw [if_pos (by omega), tp_pos (by omega), if_pos (by omega), if_pos (by omega), tp_pos (by omega), if_pos (by omega)]
    exact ⟨rfl, by rw [decide_eq_true (show (i : Int) ≥ 0 by omega)]; rfl⟩
  · unfold sUpto_L0_step
    simp only [tb_dec]
    rw [if_neg (by omega), if_neg (by omega)]
    exact ⟨rfl, rfl⟩
theorem r11upto_eq (blocks : Int) (l : List Ex) (gen : Int) (nl : l.length ≤ 4294967296) : r11upto blocks l gen = some (decide (Up blocks l gen)) := by
  unfold r11upto
  rw [r8Check_eq blocks l nl, tc_some]
  rw [th_all (some false) (some (mk blocks l)) l.length (fun i => (exAt l i).gen ≤ gen) (∀ x ∈ l, x.gen ≤ gen) (exAt_all l fun x => x.gen ≤ gen)]
  · by_cases h : ∀ x ∈ l, x.gen ≤ gen
    · rw [if_pos h]; congr 1
      rw [Bool.eq_iff_iff, mk_iff, decide_eq_true_iff]
      exact ⟨fun g => ⟨g, h⟩, fun g => g.1⟩
    · rw [if_neg h, decide_eq_false fun g : Up blocks l gen => h g.2]
  · intro i hi hp
    unfold r11upto_L0_step
    simp only [tb_dec, Int.toNat_natCast]
    rw [if_pos (by omega), tp_pos (by omega), if_neg (by omega), wr_id (by omega) (by omega)]
  · intro i hi hp
    unfold r11upto_L0_step
    simp only [tb_dec, Int.toNat_natCast]
    rw [if_pos (by omega), tp_pos (by omega), if_pos (by omega), if_pos (by omega), tp_pos (by omega), if_pos (by omega)]
    exact ⟨rfl, rfl⟩
  · unfold r11upto_L0_step
    simp only [tb_dec]
    rw [if_neg (by omega), if_neg (by omega)]
    exact ⟨rfl, rfl⟩
theorem sWithin_eq (n low high : Int) : sWithin n low high = some (decide (low ≤ n ∧ n ≤ high)) := by
  unfold sWithin
  rw [tb_dec]
  by_cases h : n ≥ low
  · rw [if_pos h]; congr 1; rw [Bool.eq_iff_iff, decide_eq_true_iff, decide_eq_true_iff]; exact ⟨fun g => ⟨h, g⟩, fun g => g.2⟩
  · rw [if_neg h, decide_eq_false fun g => h g.1]
theorem poAt_all (l : List Po) (p : Po → Prop) : (∀ i, i < l.length → p (poAt l i)) ↔ ∀ x ∈ l, p x := by
  unfold poAt; exact getD_all _ l p
/-- Is all of it small? -/
def Sx (l : List Ex) : Prop := l.length ≤ 1000 ∧ ∀ x ∈ l, x.d.length ≤ 1000000
def Sz (s : Sa) : Prop := Sx s.map ∧ s.points.length ≤ 1000 ∧ (∀ p ∈ s.points, Sx p.map) ∧ s.staged.length ≤ 1000000
/-- The checkpoint ahead of one. -/
def pv (s : Sa) (i : Nat) : Po := if i = 0 then ⟨0, 0, []⟩ else poAt s.points (i - 1)
theorem pv_succ (s : Sa) (i : Nat) : pv s (i + 1) = poAt s.points i := by simp [pv]
def PP (s : Sa) (i : Nat) : Prop :=
  Up s.blocks (poAt s.points i).map (poAt s.points i).gen ∧ (pv s i).id < (poAt s.points i).id ∧ (poAt s.points i).id ≤ s.last ∧ (pv s i).gen < (poAt s.points i).gen ∧ (poAt s.points i).gen < s.gen ∧ Kp (pv s i).map (poAt s.points i).map (pv s i).gen
/-- May a state be? -/
def SOk (s : Sa) : Prop :=
  Up s.blocks s.map s.gen ∧ 1 ≤ s.gen ∧ s.gen ≤ 2147483647 ∧ s.points.length ≤ 4 ∧ 0 ≤ s.last ∧ s.last ≤ 2147483647 ∧ s.staged.length ≤ 4000 ∧ (∀ i, i < s.points.length → PP s i) ∧ Kp (pv s s.points.length).map s.map (pv s s.points.length).gen
open Classical in
noncomputable def st (s : Sa) : Int := if SOk s then 0 else 110
theorem st_t {s : Sa} (h : SOk s) : st s = 0 := by unfold st; rw [if_pos h]
theorem st_f {s : Sa} (h : ¬ SOk s) : st s = 110 := by unfold st; rw [if_neg h]
theorem up_ck {blocks : Int} {l : List Ex} {gen : Int} (h : Up blocks l gen) : ∀ x ∈ l, Ck x := fun x hx => (ch_ck (mk_ch h.1) x hx).1
theorem pv_ck {s : Sa} {i : Nat} (hp : ∀ j, j < i → PP s j) : ∀ x ∈ (pv s i).map, Ck x := by
  unfold pv
  split
  · intro x hx; cases hx
  · exact up_ck (hp (i - 1) (by omega)).1
def PS (s : Sa) (i : Nat) : Int × Int × Int × List Ex := ((i : Int), (pv s i).id, (pv s i).gen, (pv s i).map)
theorem pts_run {α : Type} (s : Sa) {step : Int × Int × Int × List Ex → Option (Int × Int × Int × List Ex)} {f : Int × Int × Int × List Ex → Option α} (n : Nat) (hs : ∀ i, i < n → step (PS s i) = some (PS s (i + 1))) (he : step (PS s n) = none) : th step (0, (0, (0, ([] : List Ex)))) f = f (PS s n) := by
  have := th_run (step := step) (f := f) (PS s) n hs he
  rwa [show PS s 0 = (0, 0, 0, []) from rfl] at this
theorem ps_end (s : Sa) {α : Type} (x y : Option α) : tb (decide ((PS s s.points.length).1 < (s.points.length : Int))) x y = y := tb_neg (decide_eq_false (by show ¬ ((s.points.length : Int) < s.points.length); omega))
open Classical in
noncomputable def MS (s : Sa) (i : Nat) : Bool × Int × Int × Int × List Ex := (decide (s.staged.length ≤ 4000 ∧ ∀ j, j < i → PP s j), PS s i)
/-- Are all lists of it such as may be? -/
def Bg (s : Sa) : Prop := s.map.length ≤ 9223372036854775807 ∧ s.points.length ≤ 9223372036854775807 ∧ ∀ p ∈ s.points, p.map.length ≤ 9223372036854775807
theorem sz_bg {s : Sa} (h : Sz s) : Bg s := ⟨by have := h.1.1; omega, by have := h.2.1; omega, fun p hp => by have := (h.2.2.1 p hp).1; omega⟩
theorem pv_bg {s : Sa} (h : Bg s) (i : Nat) (hi : i ≤ s.points.length) : (pv s i).map.length ≤ 9223372036854775807 := by
  unfold pv
  split
  · simp
  · exact (poAt_all s.points (fun p => p.map.length ≤ 9223372036854775807)).2 h.2.2 _ (by omega)
open Classical in
theorem sCheck_step {s : Sa} (h : Bg s) (a b c : Bool) {i : Nat} (hi : i < s.points.length) : sCheck_L0_step s a b c (MS s i) = some (MS s (i + 1)) := by
  have hz := h.2.1
  unfold MS PS sCheck_L0_step
  simp only [tb_dec, Int.toNat_natCast, pv_succ]
  rw [if_pos (by omega), tp_pos (by omega), wr_id (x := (i : Int) + 1) (by omega) (by omega)]
  have e1 : ((i + 1 : Nat) : Int) = (i : Int) + 1 := by omega
  rw [e1]
  have sx := (poAt_all s.points (fun p => p.map.length ≤ 9223372036854775807)).2 h.2.2 i hi
  have px := pv_bg h i (by omega)
  have hM : ∀ p : Prop, [Decidable p] → ((s.staged.length ≤ 4000 ∧ ∀ j, j < i + 1 → PP s j) ↔ p) → decide (s.staged.length ≤ 4000 ∧ ∀ j, j < i + 1 → PP s j) = decide p := fun p _ g => by
    rw [Bool.eq_iff_iff, decide_eq_true_iff, decide_eq_true_iff]; exact g
  have no : ¬ PP s i → decide (s.staged.length ≤ 4000 ∧ ∀ j, j < i + 1 → PP s j) = false := fun g => decide_eq_false fun q => g (q.2 i (by omega))
  by_cases hm : s.staged.length ≤ 4000 ∧ ∀ j, j < i → PP s j
  case neg =>
    rw [if_neg hm, decide_eq_false fun q => hm ⟨q.1, fun j hj => q.2 j (by omega)⟩]
  rw [if_pos hm, sUpto_eq _ _ _ sx, tc_some, tb_dec]
  by_cases h1 : Up s.blocks (poAt s.points i).map (poAt s.points i).gen
  case neg => rw [if_neg h1, no fun q => h1 q.1]
  rw [if_pos h1]
  by_cases h2 : (poAt s.points i).id > (pv s i).id
  case neg => rw [if_neg h2, no fun q => h2 q.2.1]
  rw [if_pos h2]
  by_cases h3 : (poAt s.points i).id ≤ s.last
  case neg => rw [if_neg h3, no fun q => h3 q.2.2.1]
  rw [if_pos h3]
  by_cases h4 : (poAt s.points i).gen > (pv s i).gen
  case neg => rw [if_neg h4, no fun q => h4 q.2.2.2.1]
  rw [if_pos h4]
  by_cases h5 : (poAt s.points i).gen < s.gen
  case neg => rw [if_neg h5, no fun q => h5 q.2.2.2.2.1]
  rw [if_pos h5, sKept_eq _ _ _ (pv_ck hm.2) (up_ck h1) px sx, tc_some]
  by_cases h6 : Kp (pv s i).map (poAt s.points i).map (pv s i).gen
  · rw [kp_t h6, decide_eq_true]
    refine ⟨hm.1, fun j hj => ?_⟩
    by_cases g : j = i
    · subst g; exact ⟨h1, h2, h3, h4, h5, h6⟩
    · exact hm.2 j (by omega)
  · rw [kp_f h6, no fun q => h6 q.2.2.2.2.2]
open Classical in
theorem sCheck_eqB {s : Sa} (h : Bg s) : sCheck s = some (st s) := by
  have hz := h.2.1
  have hx := h.1
  have e1 : ∀ i : Nat, ((i + 1 : Nat) : Int) = (i : Int) + 1 := fun i => by omega
  unfold sCheck
  rw [sUpto_eq _ _ _ hx, tc_some, tb_dec]
  by_cases h1 : Up s.blocks s.map s.gen
  case neg =>
    rw [if_neg h1, st_f fun q => h1 q.1, pts_run s s.points.length]
    · exact ps_end s _ _
    · intro i hi
      unfold PS sCheck_L4_step
      simp only [tb_dec, Int.toNat_natCast, pv_succ]
      rw [if_pos (by omega), tp_pos (by omega), wr_id (x := (i : Int) + 1) (by omega) (by omega), e1]
    · unfold PS sCheck_L4_step
      simp only [tb_dec]
      rw [if_neg (by omega)]
  rw [if_pos h1, sWithin_eq, tc_some, tb_dec]
  by_cases h2 : 1 ≤ s.gen ∧ s.gen ≤ 2147483647
  case neg =>
    rw [if_neg h2, st_f fun q => h2 ⟨q.2.1, q.2.2.1⟩, pts_run s s.points.length]
    · exact ps_end s _ _
    · intro i hi
      unfold PS sCheck_L3_step
      simp only [tb_dec, Int.toNat_natCast, pv_succ]
      rw [if_pos (by omega), tp_pos (by omega), wr_id (x := (i : Int) + 1) (by omega) (by omega), e1]
    · unfold PS sCheck_L3_step
      simp only [tb_dec]
      rw [if_neg (by omega)]
  rw [if_pos h2, tb_dec]
  by_cases h3 : (s.points.length : Int) ≤ 4
  case neg =>
    rw [if_neg h3, st_f fun q => h3 (by have := q.2.2.2.1; omega), pts_run s s.points.length]
    · exact ps_end s _ _
    · intro i hi
      unfold PS sCheck_L2_step
      simp only [tb_dec, Int.toNat_natCast, pv_succ]
      rw [if_pos (by omega), tp_pos (by omega), wr_id (x := (i : Int) + 1) (by omega) (by omega), e1]
    · unfold PS sCheck_L2_step
      simp only [tb_dec]
      rw [if_neg (by omega)]
  rw [if_pos h3, sWithin_eq, tc_some, tb_dec]
  by_cases h4 : 0 ≤ s.last ∧ s.last ≤ 2147483647
  case neg =>
    rw [if_neg h4, st_f fun q => h4 ⟨q.2.2.2.2.1, q.2.2.2.2.2.1⟩, pts_run s s.points.length]
    · exact ps_end s _ _
    · intro i hi
      unfold PS sCheck_L1_step
      simp only [tb_dec, Int.toNat_natCast, pv_succ]
      rw [if_pos (by omega), tp_pos (by omega), wr_id (x := (i : Int) + 1) (by omega) (by omega), e1]
    · unfold PS sCheck_L1_step
      simp only [tb_dec]
      rw [if_neg (by omega)]
  rw [if_pos h4]
  have hr := th_run (step := sCheck_L0_step s (decide (Up s.blocks s.map s.gen)) (decide (1 ≤ s.gen ∧ s.gen ≤ 2147483647)) (decide (0 ≤ s.last ∧ s.last ≤ 2147483647))) (f := fun s7 =>
    tb (decide (s7.2.1 < (s.points.length : Int))) none (tb (!s7.1) (some (110 : Int)) (tc (sKept s7.2.2.2.2 s.map s7.2.2.2.1) fun s10 => tb (!s10) (some 110) (some 0)))) (MS s) s.points.length (fun i hi => sCheck_step h _ _ _ hi) (by
      unfold MS PS sCheck_L0_step
      simp only [tb_dec]
      rw [if_neg (by omega)])
  have e0 : MS s 0 = (decide ((s.staged.length : Int) ≤ 4000), 0, 0, 0, []) := by
    unfold MS PS
    congr 1
    rw [Bool.eq_iff_iff, decide_eq_true_iff, decide_eq_true_iff]
    exact ⟨fun q => by have := q.1; omega, fun q => ⟨by omega, fun j hj => by omega⟩⟩
  rw [e0] at hr
  rw [hr]
  unfold MS PS
  simp only [tb_dec, tb_not]
  rw [if_neg (by omega)]
  by_cases h5 : s.staged.length ≤ 4000 ∧ ∀ j, j < s.points.length → PP s j
  case neg => rw [if_neg h5, st_f fun q => h5 ⟨q.2.2.2.2.2.2.1, q.2.2.2.2.2.2.2.1⟩]
  rw [if_pos h5, sKept_eq _ _ _ (pv_ck h5.2) (up_ck h1) (pv_bg h _ (Nat.le_refl _)) hx, tc_some]
  by_cases h6 : Kp (pv s s.points.length).map s.map (pv s s.points.length).gen
  · rw [kp_t h6, tb_t, st_t ⟨h1, h2.1, h2.2, by omega, h4.1, h4.2, h5.1, h5.2, h6⟩]
  · rw [kp_f h6, tb_f, st_f fun q => h6 q.2.2.2.2.2.2.2.2]
theorem sCheck_eq {s : Sa} (h : Sz s) : sCheck s = some (st s) := sCheck_eqB (sz_bg h)
theorem kept11 {s : Sa} {i : Nat} {l : List Ex} {g : Int} (hp : ∀ j, j < i → PP s j) (hl : Up s.blocks l g) (h0 : 0 < i) (gen : Int) : r11kept s.blocks (poAt s.points (i - 1)).map l gen = some (kp (pv s i).map l gen) := by
  have := (hp (i - 1) (by omega)).1.1
  rw [r11kept_eq gen this hl.1]
  unfold pv
  rw [if_neg (by omega)]
open Classical in
theorem r11Check_eq {s : Sa} (h : Sz s) : r11Check s = some (st s) := by
  have hz := h.2.1
  have hx := h.1
  have e1 : ∀ i : Nat, ((i + 1 : Nat) : Int) = (i : Int) + 1 := fun i => by omega
  unfold r11Check
  rw [r11upto_eq _ _ _ (by have := hx.1; omega), tc_some]
  simp only [tb_dec, tb_not]
  by_cases h1 : Up s.blocks s.map s.gen
  case neg => rw [if_neg h1, st_f fun q => h1 q.1]
  rw [if_pos h1]
  by_cases h2 : s.gen < 1
  case pos => rw [if_pos h2, st_f fun q => by have := q.2.1; omega]
  rw [if_neg h2]
  by_cases h3 : s.gen ≥ 2147483648
  case pos => rw [if_pos h3, st_f fun q => by have := q.2.2.1; omega]
  rw [if_neg h3]
  by_cases h4 : (s.points.length : Int) > 4
  case pos => rw [if_pos h4, st_f fun q => by have := q.2.2.2.1; omega]
  rw [if_neg h4]
  by_cases h5 : s.last < 0
  case pos => rw [if_pos h5, st_f fun q => by have := q.2.2.2.2.1; omega]
  rw [if_neg h5]
  by_cases h6 : s.last ≥ 2147483648
  case pos => rw [if_pos h6, st_f fun q => by have := q.2.2.2.2.2.1; omega]
  rw [if_neg h6]
  by_cases h7 : (s.staged.length : Int) > 4000
  case pos => rw [if_pos h7, st_f fun q => by have := q.2.2.2.2.2.2.1; omega]
  rw [if_neg h7]
  have hk : (∀ i, i < s.points.length → PP s i) ↔ (∀ i, i < s.points.length → PP s i) := Iff.rfl
  have hr := th_first (some (110 : Int)) (if Kp (pv s s.points.length).map s.map (pv s s.points.length).gen then some 0 else some 110) (fun i => (((pv s i).id, (pv s i).gen, (i : Int)) : Int × Int × Int)) s.points.length (PP s) _ hk (step := r11Check_L0_step s (decide (Up s.blocks s.map s.gen))) (f := fun s8 => if s8.2.2 < (s.points.length : Int) then tp ((0 : Int) ≤ s8.2.2 ∧ s8.2.2 < (s.points.length : Int)) (tc (r11upto s.blocks (poAt s.points s8.2.2.toNat).map (poAt s.points s8.2.2.toNat).gen) fun s11 => tb s11 (if (poAt s.points s8.2.2.toNat).id ≤ s8.1 then some 110 else if (poAt s.points s8.2.2.toNat).id > s.last then some 110 else if (poAt s.points s8.2.2.toNat).gen ≤ s8.2.1 then some 110 else if (poAt s.points s8.2.2.toNat).gen ≥ s.gen then some 110 else if s8.2.2 > 0 then tp ((0 : Int) ≤ wr (s8.2.2 - 1) ∧ wr (s8.2.2 - 1) < (s.points.length : Int)) (tc (r11kept s.blocks (poAt s.points (wr (s8.2.2 - 1)).toNat).map (poAt s.points s8.2.2.toNat).map s8.2.1) fun s19 => tb s19 none (some 110)) else none) (some 110)) else if (s.points.length : Int) > 0 then tp ((0 : Int) ≤ wr ((s.points.length : Int) - 1) ∧ wr ((s.points.length : Int) - 1) < (s.points.length : Int)) (tc (r11kept s.blocks (poAt s.points (wr ((s.points.length : Int) - 1)).toNat).map s.map s8.2.1) fun s12 => tb s12 (some 0) (some 110)) else some 0) ?_ ?_ ?_
  · rw [show ((pv s 0).id, (pv s 0).gen, ((0 : Nat) : Int)) = ((0, 0, 0) : Int × Int × Int) from rfl] at hr
    refine hr.trans ?_
    by_cases g : ∀ i, i < s.points.length → PP s i
    · rw [if_pos g]
      by_cases g2 : Kp (pv s s.points.length).map s.map (pv s s.points.length).gen
      · rw [if_pos g2, st_t ⟨h1, by omega, by omega, by omega, by omega, by omega, by omega, g, g2⟩]
      · rw [if_neg g2, st_f fun q => g2 q.2.2.2.2.2.2.2.2]
    · rw [if_neg g, st_f fun q => g q.2.2.2.2.2.2.2.1]
  · intro i hi hpre hp
    obtain ⟨p1, p2, p3, p4, p5, p6⟩ := hp
    have sx := (poAt_all s.points (fun p => Sx p.map)).2 h.2.2.1 i hi
    unfold r11Check_L0_step
    simp only [tb_dec, tb_not, Int.toNat_natCast, pv_succ]
    rw [if_pos (by omega), tp_pos (by omega), r11upto_eq _ _ _ (by have := sx.1; omega), tc_some, decide_eq_true p1, tb_t, if_neg (by omega), if_neg (by omega), if_neg (by omega), if_neg (by omega), wr_id (x := (i : Int) + 1) (by omega) (by omega), e1]
    by_cases h0 : (i : Int) > 0
    · rw [if_pos h0, wr_id (x := (i : Int) - 1) (by omega) (by omega), tp_pos (by omega), show ((i : Int) - 1).toNat = i - 1 by omega, kept11 hpre p1 (by omega), tc_some, kp_t p6, tb_t]
    · rw [if_neg h0]
  · intro i hi hpre hp
    have sx := (poAt_all s.points (fun p => Sx p.map)).2 h.2.2.1 i hi
    unfold r11Check_L0_step
    simp only [tb_dec, tb_not, Int.toNat_natCast]
    constructor
    · rw [if_pos (by omega), tp_pos (by omega), r11upto_eq _ _ _ (by have := sx.1; omega), tc_some]
      by_cases p1 : Up s.blocks (poAt s.points i).map (poAt s.points i).gen
      case neg => rw [decide_eq_false p1]; rfl
      rw [decide_eq_true p1, tb_t]
      by_cases p2 : (poAt s.points i).id ≤ (pv s i).id
      case pos => rw [if_pos p2]
      rw [if_neg p2]
      by_cases p3 : (poAt s.points i).id > s.last
      case pos => rw [if_pos p3]
      rw [if_neg p3]
      by_cases p4 : (poAt s.points i).gen ≤ (pv s i).gen
      case pos => rw [if_pos p4]
      rw [if_neg p4]
      by_cases p5 : (poAt s.points i).gen ≥ s.gen
      case pos => rw [if_pos p5]
      rw [if_neg p5]
      have p6 : ¬ Kp (pv s i).map (poAt s.points i).map (pv s i).gen := fun g => hp ⟨p1, by omega, by omega, by omega, by omega, g⟩
      have h0 : 0 < i := by
        rcases Nat.eq_zero_or_pos i with g | g
        · subst g; exact absurd (kp_nil _ _) p6
        · exact g
      rw [if_pos (by omega), wr_id (x := (i : Int) - 1) (by omega) (by omega), tp_pos (by omega), show ((i : Int) - 1).toNat = i - 1 by omega, kept11 hpre p1 h0, tc_some, kp_f p6]
      rfl
    · rw [if_pos (by omega), tp_pos (by omega), r11upto_eq _ _ _ (by have := sx.1; omega), tc_some]
      by_cases p1 : Up s.blocks (poAt s.points i).map (poAt s.points i).gen
      case neg => rw [decide_eq_false p1]; rfl
      rw [decide_eq_true p1, tb_t]
      by_cases p2 : (poAt s.points i).id ≤ (pv s i).id
      case pos => rw [if_pos p2]
      rw [if_neg p2]
      by_cases p3 : (poAt s.points i).id > s.last
      case pos => rw [if_pos p3]
      rw [if_neg p3]
      by_cases p4 : (poAt s.points i).gen ≤ (pv s i).gen
      case pos => rw [if_pos p4]
      rw [if_neg p4]
      by_cases p5 : (poAt s.points i).gen ≥ s.gen
      case pos => rw [if_pos p5]
      rw [if_neg p5]
      have p6 : ¬ Kp (pv s i).map (poAt s.points i).map (pv s i).gen := fun g => hp ⟨p1, by omega, by omega, by omega, by omega, g⟩
      have h0 : 0 < i := by
        rcases Nat.eq_zero_or_pos i with g | g
        · subst g; exact absurd (kp_nil _ _) p6
        · exact g
      rw [if_pos (by omega), wr_id (x := (i : Int) - 1) (by omega) (by omega), tp_pos (by omega), show ((i : Int) - 1).toNat = i - 1 by omega, kept11 hpre p1 h0, tc_some, kp_f p6]
      rfl
  · intro hall
    unfold r11Check_L0_step
    simp only [tb_dec]
    rw [if_neg (by omega), if_neg (by omega)]
    refine ⟨rfl, ?_⟩
    by_cases h0 : (s.points.length : Int) > 0
    · rw [if_pos h0, wr_id (by omega) (by omega), tp_pos (by omega), show ((s.points.length : Int) - 1).toNat = s.points.length - 1 by omega, kept11 hall h1 (by omega), tc_some]
      by_cases g2 : Kp (pv s s.points.length).map s.map (pv s s.points.length).gen
      · rw [if_pos g2, kp_t g2, tb_t]
      · rw [if_neg g2, kp_f g2, tb_f]
    · rw [if_neg h0, if_pos]
      have : s.points.length = 0 := by omega
      rw [this]; exact kp_nil _ _
end Ab
end Go.Proofs.Ytpflcogplhigcaa
namespace Go.Proofs.Ytpflcogplhigcaa
open Go Go.Proofs.Ytpflcogplhigcaa.Ab
set_option linter.unusedVariables false
set_option linter.unusedSimpArgs false
namespace Ab
theorem sExtents_eq {l : List Ex} (h : Sx l) : sExtents l = some l := by
  have hz := h.1
  have hd := (exAt_all l (fun x => x.d.length ≤ 1000000)).2 h.2
  unfold sExtents
  have := th_run (step := sExtents_L0_step l) (f := fun s0 => tb (decide (s0.2 < (l.length : Int))) none (tp (0 = 0 ∧ (List.flatMap Ex.cells s0.1).length = s0.1.length * 5) (some s0.1))) (fun i => (l.take i, (i : Int))) l.length (fun i hi => by
    have := hd i hi
    unfold sExtents_L0_step
    simp only [tb_dec, Int.toNat_natCast]
    rw [if_pos (by omega), tp_pos (by omega), tp_pos (by omega), tp_pos ⟨exs_len _, by rw [List.length_take]; omega⟩, wr_id (by omega) (by omega), ← ex_take1 l i hi]
    rfl) (by
    unfold sExtents_L0_step
    simp only [tb_dec]
    rw [if_neg (by omega)])
  rw [List.take_zero, List.take_length] at this
  refine this.trans ?_
  simp only [tb_dec]
  rw [if_neg (by omega), tp_pos ⟨by trivial, exs_len _⟩]
/-- No state. -/
def sa0 : Sa := ⟨0, 0, [], [], 0, []⟩
open Classical in
noncomputable def cpy (s : Sa) : Sa := if SOk s then s else sa0
theorem cpy_t {s : Sa} (h : SOk s) : cpy s = s := by unfold cpy; rw [if_pos h]
theorem cpy_f {s : Sa} (h : ¬ SOk s) : cpy s = sa0 := by unfold cpy; rw [if_neg h]
theorem po_set_self (l : List Po) (i : Nat) : l.set i (poAt l i) = l := by
  refine List.ext_getElem? fun j => ?_
  rw [List.getElem?_set]
  by_cases h : i = j
  · subst h
    rw [if_pos rfl]
    by_cases g : i < l.length
    · rw [if_pos g]; unfold poAt; simp [g]
    · rw [if_neg g, List.getElem?_eq_none (by omega)]
  · rw [if_neg h]
theorem sCopy_eq {s : Sa} (h : Sz s) : sCopy s = some (cpy s) := by
  have hz := h.2.1
  have hx := h.1
  unfold sCopy
  rw [sCheck_eq h, tc_some, tb_bne]
  by_cases ho : SOk s
  case neg => rw [st_f ho, if_neg (by decide), cpy_f ho]; rfl
  rw [st_t ho, if_pos rfl, sExtents_eq hx, tc_some, tp_pos (pos_len _), tp_pos (by omega), tp_pos (by have := h.2.2.2; omega), cpy_t ho]
  have hp := (poAt_all s.points (fun p => Sx p.map)).2 h.2.2.1
  have := th_run (step := sCopy_L0_step s 0 s.map) (f := fun s6 => tb (decide (s6.1 < (s.points.length : Int))) none (tp (0 = 0 ∧ (List.flatMap Ex.cells s.map).length = s.map.length * 5) (tp (0 = 0 ∧ (List.flatMap Po.cells s6.2).length = s.points.length * 3) (some (Sa.mk s.blocks s.gen s.map s6.2 s.last s.staged))))) (fun i => ((i : Int), s.points)) s.points.length (fun i hi => by
    have e := pos_len s.points
    unfold sCopy_L0_step
    simp only [tb_dec, Int.toNat_natCast]
    rw [if_pos (by omega), tp_pos (by omega), tp_pos (by omega), sExtents_eq (hp i hi), tc_some, tp_pos ⟨rfl, by simp only [List.length_cons, List.length_nil]; omega⟩, wr_id (by omega) (by omega), List.take_length]
    have e2 : (Po.mk (poAt s.points i).id (poAt s.points i).gen (poAt s.points i).map) = poAt s.points i := rfl
    rw [e2, po_set_self]
    rfl) (by
    unfold sCopy_L0_step
    simp only [tb_dec]
    rw [if_neg (by omega)])
  refine this.trans ?_
  simp only [tb_dec]
  rw [if_neg (by omega), tp_pos ⟨by trivial, exs_len _⟩, tp_pos ⟨by trivial, pos_len _⟩]
/-- A new state. -/
def nw (blocks : Int) : Sa × Int := if 1 ≤ blocks ∧ blocks ≤ 64 then (⟨blocks, 1, [⟨0, blocks, 0, 0, []⟩], [], 0, []⟩, 0) else (sa0, 81)
theorem th_find {α β : Type} (l : List β) (d : β) (p : β → Bool) {step : Int → Option Int} {f : Int → Option α} (g : Option β → Option α) (hs : ∀ i : Nat, i < l.length → p (l.getD i d) = false → step (i : Int) = some ((i : Int) + 1)) (hf : ∀ i : Nat, i < l.length → p (l.getD i d) = true → step (i : Int) = none ∧ f (i : Int) = g (some (l.getD i d))) (he : step (l.length : Int) = none ∧ f (l.length : Int) = g none) : th step 0 f = g (l.find? p) := by
  have gd : ∀ i (hi : i < l.length), l.getD i d = l[i] := fun i hi => by simp [hi]
  cases h : l.find? p with
  | none =>
    have hn := List.find?_eq_none.1 h
    have := th_run (step := step) (f := f) (fun i => (i : Int)) l.length (fun i hi => hs i hi (by
      rw [gd i hi]
      have := hn l[i] (List.getElem_mem hi)
      simpa using this)) he.1
    simp only [Int.natCast_zero] at this
    rw [this]; exact he.2
  | some x =>
    obtain ⟨hx, i, hi, e, hlt⟩ := List.find?_eq_some_iff_getElem.1 h
    have hfi := hf i hi (by rw [gd i hi, e]; exact hx)
    have := th_run (step := step) (f := f) (fun i => (i : Int)) i (fun j hj => hs j (by omega) (by
      rw [gd j (by omega)]
      have := hlt j hj
      simpa using this)) hfi.1
    simp only [Int.natCast_zero] at this
    rw [this, hfi.2, gd i hi, e]
def po0 : Po := ⟨0, 0, []⟩
/-- The checkpoint of a number. -/
def fd (l : List Po) (id : Int) : Option Po := l.find? fun p => p.id == id
def fdv : Option Po → Po × Int
  | some p => (p, 0)
  | none => (po0, 111)
open Classical in
noncomputable def pnt (s : Sa) (id : Int) : Po × Int := if SOk s then fdv (fd s.points id) else (po0, 110)
theorem sPoint_eq {s : Sa} (h : Sz s) (id : Int) : sPoint s id = some (pnt s id) := by
  have hz := h.2.1
  unfold sPoint pnt
  rw [sCheck_eq h, tc_some, tb_bne]
  by_cases ho : SOk s
  case neg => rw [st_f ho, if_neg (by decide), if_neg ho]; rfl
  rw [st_t ho, if_pos rfl, if_pos ho, sCopy_eq h, tc_some, cpy_t ho]
  refine (th_find s.points ⟨0, 0, []⟩ (fun p => p.id == id) (fun o => some (fdv o)) ?_ ?_ ?_)
  · intro i hi hp
    have hp : ((poAt s.points i).id == id) = false := hp
    unfold sPoint_L0_step
    simp only [tb_dec, Int.toNat_natCast]
    rw [if_pos (by omega), tp_pos (by omega), tb_neg hp, wr_id (by omega) (by omega)]
  · intro i hi hp
    have hp : ((poAt s.points i).id == id) = true := hp
    unfold sPoint_L0_step
    simp only [tb_dec, Int.toNat_natCast]
    rw [if_pos (by omega), tp_pos (by omega), tb_pos hp, if_pos (by omega), tp_pos (by omega), tb_pos hp]
    exact ⟨rfl, rfl⟩
  · unfold sPoint_L0_step
    simp only [tb_dec]
    rw [if_neg (by omega), if_neg (by omega)]
    exact ⟨rfl, rfl⟩
theorem r11Point_eq {s : Sa} (h : Sz s) (id : Int) : r11Point s id = some (pnt s id) := by
  have hz := h.2.1
  unfold r11Point pnt
  rw [r11Check_eq h, tc_some, tb_bne]
  by_cases ho : SOk s
  case neg => rw [st_f ho, if_neg (by decide), if_neg ho]; rfl
  rw [st_t ho, if_pos rfl, if_pos ho]
  refine (th_find s.points ⟨0, 0, []⟩ (fun p => p.id == id) (fun o => some (fdv o)) ?_ ?_ ?_)
  · intro i hi hp
    have hp : ((poAt s.points i).id == id) = false := hp
    unfold r11Point_L0_step
    simp only [tb_dec, Int.toNat_natCast]
    rw [if_pos (by omega), tp_pos (by omega), tb_neg hp, wr_id (by omega) (by omega)]
  · intro i hi hp
    have hp : ((poAt s.points i).id == id) = true := hp
    unfold r11Point_L0_step
    simp only [tb_dec, Int.toNat_natCast]
    rw [if_pos (by omega), tp_pos (by omega), tb_pos hp, if_pos (by omega), tp_pos (by omega), tb_pos hp]
    exact ⟨rfl, rfl⟩
  · unfold r11Point_L0_step
    simp only [tb_dec]
    rw [if_neg (by omega), if_neg (by omega)]
    exact ⟨rfl, rfl⟩
def FewX (l : List Ex) : Prop := l.length ≤ 70 ∧ ∀ x ∈ l, x.d.length ≤ 3000
instance (l : List Ex) : Decidable (FewX l) := by unfold FewX; infer_instance
theorem few_eqX (l : List Ex) : few l = some (decide (FewX l)) := few_eq l
def FewS (s : Sa) : Prop := s.points.length ≤ 10 ∧ s.staged.length ≤ 6000 ∧ FewX s.map ∧ ∀ p ∈ s.points, FewX p.map
instance (s : Sa) : Decidable (FewS s) := by unfold FewS; infer_instance
theorem fewx_sx {l : List Ex} (h : FewX l) : Sx l := ⟨by have := h.1; omega, fun x hx => by have := h.2 x hx; omega⟩
theorem fews_sz {s : Sa} (h : FewS s) : Sz s := ⟨fewx_sx h.2.2.1, by have := h.1; omega, fun p hp => fewx_sx (h.2.2.2 p hp), by have := h.2.1; omega⟩
theorem few11_eq (s : Sa) : few11 s = some (decide (FewS s)) := by
  unfold few11
  simp only [tb_dec]
  by_cases h1 : (s.points.length : Int) > 10
  · rw [if_pos h1, decide_eq_false fun q : FewS s => by have := q.1; omega]
  rw [if_neg h1]
  by_cases h2 : (s.staged.length : Int) > 6000
  · rw [if_pos h2, decide_eq_false fun q : FewS s => by have := q.2.1; omega]
  rw [if_neg h2, few_eqX, tc_some, tb_not, tb_dec]
  by_cases h3 : FewX s.map
  case neg => rw [if_neg h3, decide_eq_false fun q : FewS s => h3 q.2.2.1]
  rw [if_pos h3]
  rw [th_all (some false) (some true) s.points.length (fun i => FewX (poAt s.points i).map) (∀ p ∈ s.points, FewX p.map) (poAt_all s.points fun p => FewX p.map)]
  · by_cases g : ∀ p ∈ s.points, FewX p.map
    · have u : FewS s := ⟨by omega, by omega, h3, g⟩
      rw [if_pos g, decide_eq_true u]
    · rw [if_neg g, decide_eq_false fun q : FewS s => g q.2.2.2]
  · intro i hi hq
    unfold few11_L0_step
    simp only [tb_dec, tb_not, Int.toNat_natCast]
    rw [if_pos (by omega), tp_pos (by omega), few_eqX, tc_some, decide_eq_true hq, tb_t, wr_id (by omega) (by omega)]
  · intro i hi hq
    unfold few11_L0_step
    simp only [tb_dec, tb_not, Int.toNat_natCast]
    rw [if_pos (by omega), tp_pos (by omega), few_eqX, tc_some, decide_eq_false hq, tb_f, if_pos (by omega), tp_pos (by omega), tc_some, tb_f]
    exact ⟨rfl, rfl⟩
  · unfold few11_L0_step
    simp only [tb_dec]
    rw [if_neg (by omega), if_neg (by omega)]
    exact ⟨rfl, rfl⟩
end Ab
end Go.Proofs.Ytpflcogplhigcaa
namespace Go.Proofs.Ytpflcogplhigcaa
open Go Go.Proofs.Ytpflcogplhigcaa.Ab
set_option linter.unusedVariables false
set_option linter.unusedSimpArgs false
namespace Ab
/-- Where extents ahead end. -/
def endAt (l : List Ex) (i : Nat) : Int := if i = 0 then 0 else (exAt l (i - 1)).lba + (exAt l (i - 1)).len
def FP (l : List Ex) (i : Nat) : Prop := Ck (exAt l i) ∧ endAt l i ≤ (exAt l i).lba
/-- Extents one behind the other. -/
def Fo (l : List Ex) : Prop := (∀ i, i < l.length → FP l i) ∧ l.length ≤ 64
instance (l : List Ex) (i : Nat) : Decidable (FP l i) := by unfold FP; infer_instance
instance (l : List Ex) : Decidable (Fo l) := by unfold Fo; infer_instance
/-- May a change be? -/
def CkH (c : Ch) : Prop :=
  (c.kind = 1 ∧ (0 ≤ c.lba ∧ c.lba ≤ 64 ∧ 1 ≤ c.n ∧ c.n ≤ 64 - c.lba) ∧ c.id = 0 ∧ (c.d.length : Int) = c.n * 32 ∧ c.list.length = 0) ∨
  ((c.kind = 2 ∨ c.kind = 3) ∧ (0 ≤ c.lba ∧ c.lba ≤ 64 ∧ 1 ≤ c.n ∧ c.n ≤ 64 - c.lba) ∧ c.id = 0 ∧ c.d.length = 0 ∧ c.list.length = 0) ∨
  ((c.kind = 4 ∨ c.kind = 5) ∧ (c.lba = 0 ∧ c.n = 0) ∧ (1 ≤ c.id ∧ c.id ≤ 2147483647) ∧ c.d.length = 0 ∧ c.list.length = 0) ∨
  (c.kind = 6 ∧ (c.lba = 0 ∧ c.n = 0) ∧ c.id = 0 ∧ (1 ≤ c.d.length ∧ c.d.length ≤ 1000) ∧ c.list.length = 0) ∨
  (c.kind = 7 ∧ (c.lba = 0 ∧ c.n = 0) ∧ c.id = 0 ∧ c.d.length = 0 ∧ c.list.length = 0) ∨
  (c.kind = 8 ∧ (c.lba = 0 ∧ c.n = 0) ∧ (1 ≤ c.id ∧ c.id ≤ 2147483647) ∧ c.d.length = 0 ∧ Fo c.list)
instance (c : Ch) : Decidable (CkH c) := by unfold CkH; infer_instance
def FewC (c : Ch) : Prop := c.d.length ≤ 5000 ∧ FewX c.list
instance (c : Ch) : Decidable (FewC c) := by unfold FewC; infer_instance
def FewL (l : List Ch) : Prop := l.length ≤ 30 ∧ ∀ c ∈ l, FewC c
instance (l : List Ch) : Decidable (FewL l) := by unfold FewL; infer_instance
end Ab
end Go.Proofs.Ytpflcogplhigcaa
namespace Go.Proofs.Ytpflcogplhigcaa
open Go Go.Proofs.Ytpflcogplhigcaa.Ab
set_option linter.unusedVariables false
set_option linter.unusedSimpArgs false
namespace Ab
/-- An extent of a generation. -/
def gn (g : Int) (x : Ex) : Ex := ⟨x.lba, x.len, x.kind, g, x.d⟩
end Ab
end Go.Proofs.Ytpflcogplhigcaa
namespace Go.Proofs.Ytpflcogplhigcaa
open Go Go.Proofs.Ytpflcogplhigcaa.Ab
set_option linter.unusedVariables false
set_option linter.unusedSimpArgs false
set_option maxRecDepth 1000000
set_option maxHeartbeats 0
namespace Ab
noncomputable abbrev vMake_L0_I (s : Sa) (from_ : Int) (to_ : Int) (s0 : Po × Int) (s3 : Po × Int) : St := (St.mk [(0, (exs s0.1.map)), (1, (AV.i 0)), (2, (AV.fn (25 : Nat) [(AV.pt 3 0)])), (6, AV.nl), (10, (exs s0.1.map)), (11, (AV.i (s0.1.map.length : Int))), (12, (AV.i 0))] 41 (AH.mk 4 [(3, (AObj.cells [(AV.i s3.1.id), (AV.i s3.1.gen), (exs s3.1.map)])), (2, (AObj.cells [(AV.i s0.1.id), (AV.i s0.1.gen), (exs s0.1.map)])), (1, (AObj.cells [(AV.i 0), (AV.i 0), (AV.i 0), AV.nl])), (0, (AObj.cells [(AV.i s.blocks), (AV.i s.gen), (exs s.map), (AV.sl s.points.length (s.points.flatMap Po.cells)), (AV.i s.last), (bys s.staged)]))]) false)
noncomputable abbrev vMake_L0_S (s : Sa) (from_ : Int) (to_ : Int) (s0 : Po × Int) (s3 : Po × Int) (s6 : List Ex × Int) : St := (St.mk [(0, (exs s0.1.map)), (1, (AV.i 0)), (2, (AV.fn (25 : Nat) [(AV.pt 3 0)])), (6, (AV.rf 4 5 0 s6.1.length)), (10, (exs s0.1.map)), (11, (AV.i (s0.1.map.length : Int))), (12, (AV.i s6.2))] 41 (AH.mk 5 [(3, (AObj.cells [(AV.i s3.1.id), (AV.i s3.1.gen), (exs s3.1.map)])), (2, (AObj.cells [(AV.i s0.1.id), (AV.i s0.1.gen), (exs s0.1.map)])), (1, (AObj.cells [(AV.i 0), (AV.i 0), (AV.i 0), AV.nl])), (0, (AObj.cells [(AV.i s.blocks), (AV.i s.gen), (exs s.map), (AV.sl s.points.length (s.points.flatMap Po.cells)), (AV.i s.last), (bys s.staged)])), (4, (AObj.cells (s6.1.flatMap Ex.cells)))]) false)
noncomputable def vMake_L0_step (s : Sa) (from_ : Int) (to_ : Int) (s0 : Po × Int) (s3 : Po × Int) (s6 : List Ex × Int) : Option (List Ex × Int) :=
 (tb ((decide (s6.2 < (s0.1.map.length : Int)))) (tp ((((0 : Int) ≤ s6.2) ∧ (s6.2 < (s0.1.map.length : Int)))) (tb ((decide ((exAt s0.1.map s6.2.toNat).gen > s3.1.gen))) (tp ((((↑(List.length (exAt s0.1.map s6.2.toNat).d) : Int) = (↑(List.length (exAt s0.1.map s6.2.toNat).d) : Int)) ∧ (((0 : Int) ≤ (↑(List.length (exAt s0.1.map s6.2.toNat).d) : Int)) ∧ ((↑(List.length (exAt s0.1.map s6.2.toNat).d) : Int) ≤ (4294967296 : Int))))) (tp ((((List.length (s6.1.flatMap Ex.cells)) = (s6.1.length * 5)) ∧ ((s6.1.length + (1 : Nat)) ≤ (4294967296 : Nat)))) (some (((s6.1 ++ [(Ex.mk (exAt s0.1.map s6.2.toNat).lba (exAt s0.1.map s6.2.toNat).len (exAt s0.1.map s6.2.toNat).kind 0 (List.take ((Int.toNat (↑(List.length (exAt s0.1.map s6.2.toNat).d) : Int)) * 1) (((List.take 0 (List.replicate (Int.toNat (↑(List.length (exAt s0.1.map s6.2.toNat).d) : Int)) (UInt8.ofNat (0 : Nat)))) ++ (List.take ((Min.min (List.length (exAt s0.1.map s6.2.toNat).d) (Int.toNat (↑(List.length (exAt s0.1.map s6.2.toNat).d) : Int))) * 1) (exAt s0.1.map s6.2.toNat).d)) ++ (List.drop ((0 : Nat) + (List.length (List.take ((Min.min (List.length (exAt s0.1.map s6.2.toNat).d) (Int.toNat (↑(List.length (exAt s0.1.map s6.2.toNat).d) : Int))) * 1) (List.map AV.y (exAt s0.1.map s6.2.toNat).d)))) (List.replicate (Int.toNat (↑(List.length (exAt s0.1.map s6.2.toNat).d) : Int)) (UInt8.ofNat (0 : Nat)))))))]), (wr (s6.2 + (1 : Int)))))))) (some ((s6.1, (wr (s6.2 + (1 : Int)))))))) none)
theorem vMake_L0_ok (s : Sa) (from_ : Int) (to_ : Int) (s0 : Po × Int) (s3 : Po × Int) (s6 zz : List Ex × Int) : vMake_L0_step s from_ to_ s0 s3 s6 = some zz → EvStep Try.prog cf 4 (lp Try.prog 27 0) (vMake_L0_S s from_ to_ s0 s3 s6) (vMake_L0_S s from_ to_ s0 s3 zz) := by
  unfold vMake_L0_step
  exact tbD (fun h7 h7p => tp_ok fun h8 => tbD (fun h9 h9p => tp_ok fun h10 => tp_ok fun h11 => by intro e; injection e with e; subst e; exact leafS vw_eq (k := 300) (r := []) (hs := hz [(1, [.yes, .yes, .yes, .cells ((Ex.cells (exAt s0.1.map s6.2.toNat)))]), (2, [.fc]), (2, [.fc]), (11, [.yes]), (4, [.yes]), (5, [.yes, .yes]), (15, [.fc, .fc, .yes, .yes]), (3, [])]) (ks := [0, 1, 2, 6, 10, 11, 12]) (st1 := (St.mk [(0, (exs s0.1.map)), (1, (AV.i 0)), (2, (AV.fn (25 : Nat) [(AV.pt 3 0)])), (6, (AV.rf 9 5 0 (s6.1.length + (1 : Nat)))), (10, (exs s0.1.map)), (11, (AV.i (s0.1.map.length : Int))), (12, (AV.i (wr (s6.2 + (1 : Int)))))] 41 (AH.mk 10 [(9, (AObj.cells ((s6.1.flatMap Ex.cells) ++ [(AV.i (exAt s0.1.map s6.2.toNat).lba), (AV.i (exAt s0.1.map s6.2.toNat).len), (AV.i (exAt s0.1.map s6.2.toNat).kind), (AV.i 0), (AV.rf 7 1 0 (Int.toNat (↑(List.length (exAt s0.1.map s6.2.toNat).d) : Int)))]))), (8, (AObj.cells [(AV.i (exAt s0.1.map s6.2.toNat).lba), (AV.i (exAt s0.1.map s6.2.toNat).len), (AV.i (exAt s0.1.map s6.2.toNat).kind), (AV.i 0), (AV.rf 7 1 0 (Int.toNat (↑(List.length (exAt s0.1.map s6.2.toNat).d) : Int)))])), (7, (AObj.cells (((List.take 0 (List.flatten (List.replicate (Int.toNat (↑(List.length (exAt s0.1.map s6.2.toNat).d) : Int)) [(AV.y (UInt8.ofNat (0 : Nat)))]))) ++ (List.take ((Min.min (List.length (exAt s0.1.map s6.2.toNat).d) (Int.toNat (↑(List.length (exAt s0.1.map s6.2.toNat).d) : Int))) * 1) (List.map AV.y (exAt s0.1.map s6.2.toNat).d))) ++ (List.drop ((0 : Nat) + (List.length (List.take ((Min.min (List.length (exAt s0.1.map s6.2.toNat).d) (Int.toNat (↑(List.length (exAt s0.1.map s6.2.toNat).d) : Int))) * 1) (List.map AV.y (exAt s0.1.map s6.2.toNat).d)))) (List.flatten (List.replicate (Int.toNat (↑(List.length (exAt s0.1.map s6.2.toNat).d) : Int)) [(AV.y (UInt8.ofNat (0 : Nat)))])))))), (6, (AObj.cells (xc (exAt s0.1.map s6.2.toNat)))), (5, (AObj.cells (xc (exAt s0.1.map s6.2.toNat)))), (3, (AObj.cells [(AV.i s3.1.id), (AV.i s3.1.gen), (exs s3.1.map)])), (2, (AObj.cells [(AV.i s0.1.id), (AV.i s0.1.gen), (exs s0.1.map)])), (1, (AObj.cells [(AV.i 0), (AV.i 0), (AV.i 0), AV.nl])), (0, (AObj.cells [(AV.i s.blocks), (AV.i s.gen), (exs s.map), (AV.sl s.points.length (s.points.flatMap Po.cells)), (AV.i s.last), (bys s.staged)])), (4, AObj.dead)]) false)) kq (ac h7 (ac h8 (ac (fq (p := ((5 : Nat) ≤ (List.length (List.drop (s6.2.toNat * 5) (s0.1.map.flatMap Ex.cells)))))) (ac (show (List.take 5 (List.drop (s6.2.toNat * 5) (s0.1.map.flatMap Ex.cells))) = (Ex.cells (exAt s0.1.map s6.2.toNat)) from (ex_takeO bq bq)) (ac h9 (ac h10 (ac (tq (p := ((List.length (List.map AV.y (exAt s0.1.map s6.2.toNat).d)) = ((List.length (exAt s0.1.map s6.2.toNat).d) * 1)))) (ac (tq (p := (((0 : Nat) + ((Int.toNat (↑(List.length (exAt s0.1.map s6.2.toNat).d) : Int)) * 1)) ≤ (List.length (List.flatten (List.replicate (Int.toNat (↑(List.length (exAt s0.1.map s6.2.toNat).d) : Int)) [(AV.y (UInt8.ofNat (0 : Nat)))])))))) (ac (tq (p := (((0 : Nat) = (0 : Nat)) ∧ ((List.length [(AV.i (exAt s0.1.map s6.2.toNat).lba), (AV.i (exAt s0.1.map s6.2.toNat).len), (AV.i (exAt s0.1.map s6.2.toNat).kind), (AV.i 0), (AV.rf 7 1 0 (Int.toNat (↑(List.length (exAt s0.1.map s6.2.toNat).d) : Int)))]) = (5 : Nat))))) (ac h11 an)))))))))) (Nat.le_of_ble_eq_true rfl) (Nat.le_of_ble_eq_true rfl) (absB_of [9] [7] kq (.consn kq (.eqv tq rfl) (.consn kq (.eqv tq rfl) (.consn kq (.fn (.cons (.pt rfl) .nil)) (.consn kq (.rfn (n := (s6.1.length + (1 : Nat))) rfl tq) (.consn kq (.eqv tq rfl) (.consn kq (.eqv tq rfl) (.consn kq (.eqv tq rfl) .nil))))))) (.cons (.old rfl rfl (.cells (.pl rfl pq))) (.cons (.old rfl rfl (.cells (.pl rfl pq))) (.cons (.old rfl rfl (.cells (.cons (.eqv tq rfl) (.cons (.eqv tq rfl) (.cons (.eqv tq rfl) (.cons .nl0 .nil)))))) (.cons (.old rfl rfl (.cells (.pl rfl pq))) (.cons (.old rfl rfl (.cells (.cast rfl tq (.app (.pl rfl pq) (.cons (.eqv rfl rfl) (.cons (.eqv rfl rfl) (.cons (.eqv rfl rfl) (.cons (.eqv rfl rfl) (.cons (.frzn rfl tq pq (by simp) rfl) .nil))))))))) .nil))))))) fun h9 h9p => by intro e; injection e with e; subst e; exact leafS vw_eq (k := 300) (r := []) (hs := hz [(1, [.yes, .yes, .yes, .cells ((Ex.cells (exAt s0.1.map s6.2.toNat)))]), (2, [.fc]), (2, [.fc]), (11, [.no]), (2, [])]) (ks := [0, 1, 2, 6, 10, 11, 12]) (st1 := (St.mk [(0, (exs s0.1.map)), (1, (AV.i 0)), (2, (AV.fn (25 : Nat) [(AV.pt 3 0)])), (6, (AV.rf 4 5 0 s6.1.length)), (10, (exs s0.1.map)), (11, (AV.i (s0.1.map.length : Int))), (12, (AV.i (wr (s6.2 + (1 : Int)))))] 41 (AH.mk 7 [(6, (AObj.cells (xc (exAt s0.1.map s6.2.toNat)))), (5, (AObj.cells (xc (exAt s0.1.map s6.2.toNat)))), (3, (AObj.cells [(AV.i s3.1.id), (AV.i s3.1.gen), (exs s3.1.map)])), (2, (AObj.cells [(AV.i s0.1.id), (AV.i s0.1.gen), (exs s0.1.map)])), (1, (AObj.cells [(AV.i 0), (AV.i 0), (AV.i 0), AV.nl])), (0, (AObj.cells [(AV.i s.blocks), (AV.i s.gen), (exs s.map), (AV.sl s.points.length (s.points.flatMap Po.cells)), (AV.i s.last), (bys s.staged)])), (4, (AObj.cells (s6.1.flatMap Ex.cells)))]) false)) kq (ac h7 (ac h8 (ac (fq (p := ((5 : Nat) ≤ (List.length (List.drop (s6.2.toNat * 5) (s0.1.map.flatMap Ex.cells)))))) (ac (show (List.take 5 (List.drop (s6.2.toNat * 5) (s0.1.map.flatMap Ex.cells))) = (Ex.cells (exAt s0.1.map s6.2.toNat)) from (ex_takeO bq bq)) (ac h9 an))))) (Nat.le_of_ble_eq_true rfl) (Nat.le_of_ble_eq_true rfl) (absB_of [4] [] kq (.consn kq (.eqv tq rfl) (.consn kq (.eqv tq rfl) (.consn kq (.fn (.cons (.pt rfl) .nil)) (.consn kq (.rfn (n := s6.1.length) rfl tq) (.consn kq (.eqv tq rfl) (.consn kq (.eqv tq rfl) (.consn kq (.eqv tq rfl) .nil))))))) (.cons (.old rfl rfl (.cells (.pl rfl pq))) (.cons (.old rfl rfl (.cells (.pl rfl pq))) (.cons (.old rfl rfl (.cells (.cons (.eqv tq rfl) (.cons (.eqv tq rfl) (.cons (.eqv tq rfl) (.cons .nl0 .nil)))))) (.cons (.old rfl rfl (.cells (.pl rfl pq))) (.cons (.old rfl rfl (.cells (.pl tq pq))) .nil))))))) fun h7 h7p => tn_ok
noncomputable abbrev vMake_L1_I (s : Sa) (from_ : Int) (to_ : Int) (s0 : Po × Int) : St := (St.mk [(0, (exs s0.1.map)), (1, (AV.i 0)), (2, (AV.fn (24 : Nat) ([] : List AV))), (6, AV.nl), (10, (exs s0.1.map)), (11, (AV.i (s0.1.map.length : Int))), (12, (AV.i 0))] 41 (AH.mk 3 [(2, (AObj.cells [(AV.i s0.1.id), (AV.i s0.1.gen), (exs s0.1.map)])), (1, (AObj.cells [(AV.i 0), (AV.i 0), (AV.i 0), AV.nl])), (0, (AObj.cells [(AV.i s.blocks), (AV.i s.gen), (exs s.map), (AV.sl s.points.length (s.points.flatMap Po.cells)), (AV.i s.last), (bys s.staged)]))]) false)
noncomputable abbrev vMake_L1_S (s : Sa) (from_ : Int) (to_ : Int) (s0 : Po × Int) (s4 : List Ex × Int) : St := (St.mk [(0, (exs s0.1.map)), (1, (AV.i 0)), (2, (AV.fn (24 : Nat) ([] : List AV))), (6, (AV.rf 3 5 0 s4.1.length)), (10, (exs s0.1.map)), (11, (AV.i (s0.1.map.length : Int))), (12, (AV.i s4.2))] 41 (AH.mk 4 [(2, (AObj.cells [(AV.i s0.1.id), (AV.i s0.1.gen), (exs s0.1.map)])), (1, (AObj.cells [(AV.i 0), (AV.i 0), (AV.i 0), AV.nl])), (0, (AObj.cells [(AV.i s.blocks), (AV.i s.gen), (exs s.map), (AV.sl s.points.length (s.points.flatMap Po.cells)), (AV.i s.last), (bys s.staged)])), (3, (AObj.cells (s4.1.flatMap Ex.cells)))]) false)
noncomputable def vMake_L1_step (s : Sa) (from_ : Int) (to_ : Int) (s0 : Po × Int) (s4 : List Ex × Int) : Option (List Ex × Int) :=
 (tb ((decide (s4.2 < (s0.1.map.length : Int)))) (tp ((((0 : Int) ≤ s4.2) ∧ (s4.2 < (s0.1.map.length : Int)))) (tb (((exAt s0.1.map s4.2.toNat).kind != (0 : Int))) (tp ((((↑(List.length (exAt s0.1.map s4.2.toNat).d) : Int) = (↑(List.length (exAt s0.1.map s4.2.toNat).d) : Int)) ∧ (((0 : Int) ≤ (↑(List.length (exAt s0.1.map s4.2.toNat).d) : Int)) ∧ ((↑(List.length (exAt s0.1.map s4.2.toNat).d) : Int) ≤ (4294967296 : Int))))) (tp ((((List.length (s4.1.flatMap Ex.cells)) = (s4.1.length * 5)) ∧ ((s4.1.length + (1 : Nat)) ≤ (4294967296 : Nat)))) (some (((s4.1 ++ [(Ex.mk (exAt s0.1.map s4.2.toNat).lba (exAt s0.1.map s4.2.toNat).len (exAt s0.1.map s4.2.toNat).kind 0 (List.take ((Int.toNat (↑(List.length (exAt s0.1.map s4.2.toNat).d) : Int)) * 1) (((List.take 0 (List.replicate (Int.toNat (↑(List.length (exAt s0.1.map s4.2.toNat).d) : Int)) (UInt8.ofNat (0 : Nat)))) ++ (List.take ((Min.min (List.length (exAt s0.1.map s4.2.toNat).d) (Int.toNat (↑(List.length (exAt s0.1.map s4.2.toNat).d) : Int))) * 1) (exAt s0.1.map s4.2.toNat).d)) ++ (List.drop ((0 : Nat) + (List.length (List.take ((Min.min (List.length (exAt s0.1.map s4.2.toNat).d) (Int.toNat (↑(List.length (exAt s0.1.map s4.2.toNat).d) : Int))) * 1) (List.map AV.y (exAt s0.1.map s4.2.toNat).d)))) (List.replicate (Int.toNat (↑(List.length (exAt s0.1.map s4.2.toNat).d) : Int)) (UInt8.ofNat (0 : Nat)))))))]), (wr (s4.2 + (1 : Int)))))))) (some ((s4.1, (wr (s4.2 + (1 : Int)))))))) none)
theorem vMake_L1_ok (s : Sa) (from_ : Int) (to_ : Int) (s0 : Po × Int) (s4 zz : List Ex × Int) : vMake_L1_step s from_ to_ s0 s4 = some zz → EvStep Try.prog cf 3 (lp Try.prog 27 0) (vMake_L1_S s from_ to_ s0 s4) (vMake_L1_S s from_ to_ s0 zz) := by
  unfold vMake_L1_step
  exact tbD (fun h5 h5p => tp_ok fun h6 => tbN (fun h7 h7p => tp_ok fun h8 => tp_ok fun h9 => by intro e; injection e with e; subst e; exact leafS vw_eq (k := 300) (r := []) (hs := hz [(1, [.yes, .yes, .yes, .cells ((Ex.cells (exAt s0.1.map s4.2.toNat)))]), (2, [.fc]), (2, [.fc]), (8, [.yes]), (4, [.yes]), (5, [.yes, .yes]), (15, [.fc, .fc, .yes, .yes]), (3, [])]) (ks := [0, 1, 2, 6, 10, 11, 12]) (st1 := (St.mk [(0, (exs s0.1.map)), (1, (AV.i 0)), (2, (AV.fn (24 : Nat) ([] : List AV))), (6, (AV.rf 8 5 0 (s4.1.length + (1 : Nat)))), (10, (exs s0.1.map)), (11, (AV.i (s0.1.map.length : Int))), (12, (AV.i (wr (s4.2 + (1 : Int)))))] 41 (AH.mk 9 [(8, (AObj.cells ((s4.1.flatMap Ex.cells) ++ [(AV.i (exAt s0.1.map s4.2.toNat).lba), (AV.i (exAt s0.1.map s4.2.toNat).len), (AV.i (exAt s0.1.map s4.2.toNat).kind), (AV.i 0), (AV.rf 6 1 0 (Int.toNat (↑(List.length (exAt s0.1.map s4.2.toNat).d) : Int)))]))), (7, (AObj.cells [(AV.i (exAt s0.1.map s4.2.toNat).lba), (AV.i (exAt s0.1.map s4.2.toNat).len), (AV.i (exAt s0.1.map s4.2.toNat).kind), (AV.i 0), (AV.rf 6 1 0 (Int.toNat (↑(List.length (exAt s0.1.map s4.2.toNat).d) : Int)))])), (6, (AObj.cells (((List.take 0 (List.flatten (List.replicate (Int.toNat (↑(List.length (exAt s0.1.map s4.2.toNat).d) : Int)) [(AV.y (UInt8.ofNat (0 : Nat)))]))) ++ (List.take ((Min.min (List.length (exAt s0.1.map s4.2.toNat).d) (Int.toNat (↑(List.length (exAt s0.1.map s4.2.toNat).d) : Int))) * 1) (List.map AV.y (exAt s0.1.map s4.2.toNat).d))) ++ (List.drop ((0 : Nat) + (List.length (List.take ((Min.min (List.length (exAt s0.1.map s4.2.toNat).d) (Int.toNat (↑(List.length (exAt s0.1.map s4.2.toNat).d) : Int))) * 1) (List.map AV.y (exAt s0.1.map s4.2.toNat).d)))) (List.flatten (List.replicate (Int.toNat (↑(List.length (exAt s0.1.map s4.2.toNat).d) : Int)) [(AV.y (UInt8.ofNat (0 : Nat)))])))))), (5, (AObj.cells (xc (exAt s0.1.map s4.2.toNat)))), (4, (AObj.cells (xc (exAt s0.1.map s4.2.toNat)))), (2, (AObj.cells [(AV.i s0.1.id), (AV.i s0.1.gen), (exs s0.1.map)])), (1, (AObj.cells [(AV.i 0), (AV.i 0), (AV.i 0), AV.nl])), (0, (AObj.cells [(AV.i s.blocks), (AV.i s.gen), (exs s.map), (AV.sl s.points.length (s.points.flatMap Po.cells)), (AV.i s.last), (bys s.staged)])), (3, AObj.dead)]) false)) kq (ac h5 (ac h6 (ac (fq (p := ((5 : Nat) ≤ (List.length (List.drop (s4.2.toNat * 5) (s0.1.map.flatMap Ex.cells)))))) (ac (show (List.take 5 (List.drop (s4.2.toNat * 5) (s0.1.map.flatMap Ex.cells))) = (Ex.cells (exAt s0.1.map s4.2.toNat)) from (ex_takeO bq bq)) (ac h7 (ac h8 (ac (tq (p := ((List.length (List.map AV.y (exAt s0.1.map s4.2.toNat).d)) = ((List.length (exAt s0.1.map s4.2.toNat).d) * 1)))) (ac (tq (p := (((0 : Nat) + ((Int.toNat (↑(List.length (exAt s0.1.map s4.2.toNat).d) : Int)) * 1)) ≤ (List.length (List.flatten (List.replicate (Int.toNat (↑(List.length (exAt s0.1.map s4.2.toNat).d) : Int)) [(AV.y (UInt8.ofNat (0 : Nat)))])))))) (ac (tq (p := (((0 : Nat) = (0 : Nat)) ∧ ((List.length [(AV.i (exAt s0.1.map s4.2.toNat).lba), (AV.i (exAt s0.1.map s4.2.toNat).len), (AV.i (exAt s0.1.map s4.2.toNat).kind), (AV.i 0), (AV.rf 6 1 0 (Int.toNat (↑(List.length (exAt s0.1.map s4.2.toNat).d) : Int)))]) = (5 : Nat))))) (ac h9 an)))))))))) (Nat.le_of_ble_eq_true rfl) (Nat.le_of_ble_eq_true rfl) (absB_of [8] [6] kq (.consn kq (.eqv tq rfl) (.consn kq (.eqv tq rfl) (.consn kq (.fn .nil) (.consn kq (.rfn (n := (s4.1.length + (1 : Nat))) rfl tq) (.consn kq (.eqv tq rfl) (.consn kq (.eqv tq rfl) (.consn kq (.eqv tq rfl) .nil))))))) (.cons (.old rfl rfl (.cells (.pl rfl pq))) (.cons (.old rfl rfl (.cells (.cons (.eqv tq rfl) (.cons (.eqv tq rfl) (.cons (.eqv tq rfl) (.cons .nl0 .nil)))))) (.cons (.old rfl rfl (.cells (.pl rfl pq))) (.cons (.old rfl rfl (.cells (.cast rfl tq (.app (.pl rfl pq) (.cons (.eqv rfl rfl) (.cons (.eqv rfl rfl) (.cons (.eqv rfl rfl) (.cons (.eqv rfl rfl) (.cons (.frzn rfl tq pq (by simp) rfl) .nil))))))))) .nil)))))) fun h7 h7p => by intro e; injection e with e; subst e; exact leafS vw_eq (k := 300) (r := []) (hs := hz [(1, [.yes, .yes, .yes, .cells ((Ex.cells (exAt s0.1.map s4.2.toNat)))]), (2, [.fc]), (2, [.fc]), (8, [.no]), (2, [])]) (ks := [0, 1, 2, 6, 10, 11, 12]) (st1 := (St.mk [(0, (exs s0.1.map)), (1, (AV.i 0)), (2, (AV.fn (24 : Nat) ([] : List AV))), (6, (AV.rf 3 5 0 s4.1.length)), (10, (exs s0.1.map)), (11, (AV.i (s0.1.map.length : Int))), (12, (AV.i (wr (s4.2 + (1 : Int)))))] 41 (AH.mk 6 [(5, (AObj.cells (xc (exAt s0.1.map s4.2.toNat)))), (4, (AObj.cells (xc (exAt s0.1.map s4.2.toNat)))), (2, (AObj.cells [(AV.i s0.1.id), (AV.i s0.1.gen), (exs s0.1.map)])), (1, (AObj.cells [(AV.i 0), (AV.i 0), (AV.i 0), AV.nl])), (0, (AObj.cells [(AV.i s.blocks), (AV.i s.gen), (exs s.map), (AV.sl s.points.length (s.points.flatMap Po.cells)), (AV.i s.last), (bys s.staged)])), (3, (AObj.cells (s4.1.flatMap Ex.cells)))]) false)) kq (ac h5 (ac h6 (ac (fq (p := ((5 : Nat) ≤ (List.length (List.drop (s4.2.toNat * 5) (s0.1.map.flatMap Ex.cells)))))) (ac (show (List.take 5 (List.drop (s4.2.toNat * 5) (s0.1.map.flatMap Ex.cells))) = (Ex.cells (exAt s0.1.map s4.2.toNat)) from (ex_takeO bq bq)) (ac h7 an))))) (Nat.le_of_ble_eq_true rfl) (Nat.le_of_ble_eq_true rfl) (absB_of [3] [] kq (.consn kq (.eqv tq rfl) (.consn kq (.eqv tq rfl) (.consn kq (.fn .nil) (.consn kq (.rfn (n := s4.1.length) rfl tq) (.consn kq (.eqv tq rfl) (.consn kq (.eqv tq rfl) (.consn kq (.eqv tq rfl) .nil))))))) (.cons (.old rfl rfl (.cells (.pl rfl pq))) (.cons (.old rfl rfl (.cells (.cons (.eqv tq rfl) (.cons (.eqv tq rfl) (.cons (.eqv tq rfl) (.cons .nl0 .nil)))))) (.cons (.old rfl rfl (.cells (.pl rfl pq))) (.cons (.old rfl rfl (.cells (.pl tq pq))) .nil)))))) fun h5 h5p => tn_ok
/-- Function 10, as it answers. -/
noncomputable def vMake (s : Sa) (from_ : Int) (to_ : Int) : Option (Sm × Int) :=
 (tc (sPoint (s) (to_)) fun s0 => (tb ((s0.2 != (0 : Int))) (some (((Sm.mk 0 0 0 ([] : List Ex)), s0.2))) (tb ((from_ != (0 : Int))) (tc (sPoint (s) (from_)) fun s3 => (tb ((s3.2 != (0 : Int))) (some (((Sm.mk 0 0 0 ([] : List Ex)), s3.2))) (tb ((decide (from_ ≥ to_))) (some (((Sm.mk 0 0 0 ([] : List Ex)), (180 : Int)))) (th (vMake_L0_step s from_ to_ s0 s3) ((([] : List Ex), (0 : Int))) fun s6 => (tb ((decide (s6.2 < (s0.1.map.length : Int)))) none (tp ((((0 : Nat) = (0 : Nat)) ∧ ((List.length (s6.1.flatMap Ex.cells)) = (s6.1.length * 5)))) (tc (pPack (s6.1)) fun s9 => (tb ((s9.2 != (0 : Int))) (some (((Sm.mk 0 0 0 ([] : List Ex)), s9.2))) (some (((Sm.mk s.blocks from_ to_ s9.1), (0 : Int)))))))))))) (tb ((decide (from_ ≥ to_))) (some (((Sm.mk 0 0 0 ([] : List Ex)), (180 : Int)))) (th (vMake_L1_step s from_ to_ s0) ((([] : List Ex), (0 : Int))) fun s4 => (tb ((decide (s4.2 < (s0.1.map.length : Int)))) none (tp ((((0 : Nat) = (0 : Nat)) ∧ ((List.length (s4.1.flatMap Ex.cells)) = (s4.1.length * 5)))) (tc (pPack (s4.1)) fun s7 => (tb ((s7.2 != (0 : Int))) (some (((Sm.mk 0 0 0 ([] : List Ex)), s7.2))) (some (((Sm.mk s.blocks from_ to_ s7.1), (0 : Int)))))))))))))
abbrev vMake_G (s : Sa) (from_ : Int) (to_ : Int) (r : Sm × Int) : Prop := EvFr Try.prog cf false 10 [Sa.av (s), .i (from_), .i (to_)] (.tu [Sm.av (r.1), .i (r.2)])
theorem vMake_ok (s : Sa) (from_ : Int) (to_ : Int) (r : Sm × Int) : vMake s from_ to_ = some r → vMake_G s from_ to_ r := by
  unfold vMake
  exact tc_ok fun s0 h0 => tbN (fun h1 h1p => by intro e; injection e with e; subst e; exact leafR vw_eq (k := 300) (r := []) (hs := hz [(4, [.fc]), (2, [.fres (.tu [Po.av (s0.1), .i (s0.2)])]), (5, [.fc]), (3, [.yes]), (1, [.fc]), (2, [.fc]), (2, [.fc])]) (raw := (AV.tu [(AV.ag [(AV.i 0), (AV.i 0), (AV.i 0), (AV.sl 0 ([] : List AV))]), (AV.i s0.2)])) kq (ac (sPoint_ok (s) (to_) _ h0) (ac h1 an)) tq) fun h1 h1p => tbN (fun h2 h2p => tc_ok fun s3 h3 => tbN (fun h4 h4p => by intro e; injection e with e; subst e; exact leafR vw_eq (k := 300) (r := []) (hs := hz [(4, [.fc]), (2, [.fres (.tu [Po.av (s0.1), .i (s0.2)])]), (5, [.fc]), (3, [.no]), (3, [.yes]), (1, [.fc]), (2, [.fres (.tu [Po.av (s3.1), .i (s3.2)])]), (5, [.fc]), (3, [.yes]), (1, [.fc]), (2, [.fc]), (2, [.fc])]) (raw := (AV.tu [(AV.ag [(AV.i 0), (AV.i 0), (AV.i 0), (AV.sl 0 ([] : List AV))]), (AV.i s3.2)])) kq (ac (sPoint_ok (s) (to_) _ h0) (ac h1 (ac h2 (ac (sPoint_ok (s) (from_) _ h3) (ac h4 an))))) tq) fun h4 h4p => tbD (fun h5 h5p => by intro e; injection e with e; subst e; exact leafR vw_eq (k := 300) (r := []) (hs := hz [(4, [.fc]), (2, [.fres (.tu [Po.av (s0.1), .i (s0.2)])]), (5, [.fc]), (3, [.no]), (3, [.yes]), (1, [.fc]), (2, [.fres (.tu [Po.av (s3.1), .i (s3.2)])]), (5, [.fc]), (3, [.no]), (5, [.yes]), (1, [.fc]), (1, [.fc]), (2, [.fc])]) (raw := (AV.tu [(AV.ag [(AV.i 0), (AV.i 0), (AV.i 0), (AV.sl 0 ([] : List AV))]), (AV.i 180)])) kq (ac (sPoint_ok (s) (to_) _ h0) (ac h1 (ac h2 (ac (sPoint_ok (s) (from_) _ h3) (ac h4 (ac h5 an)))))) tq) fun h5 h5p => th_ok fun s6 h6 => tbD (fun h7 h7p => tn_ok) fun h7 h7p => tp_ok fun h8 => tc_ok fun s9 h9 => tbN (fun h10 h10p => by intro e; injection e with e; subst e; exact leafR vw_eq (k := 300) (r := []) (hs := hz [(4, [.fc]), (2, [.fres (.tu [Po.av (s0.1), .i (s0.2)])]), (5, [.fc]), (3, [.no]), (3, [.yes]), (1, [.fc]), (2, [.fres (.tu [Po.av (s3.1), .i (s3.2)])]), (5, [.fc]), (3, [.no]), (5, [.no]), (9, [.head (vMake_L0_S s from_ to_ s0 s3 s6)]), (1, [.no]), (3, [.yes, .yes, .fres (.tu [exs (s9.1), .i (s9.2)])]), (7, [.yes]), (1, [.fc]), (2, [.fc]), (2, [.fc])]) (raw := (AV.tu [(AV.ag [(AV.i 0), (AV.i 0), (AV.i 0), (AV.sl 0 ([] : List AV))]), (AV.i s9.2)])) kq (ac (sPoint_ok (s) (to_) _ h0) (ac h1 (ac h2 (ac (sPoint_ok (s) (from_) _ h3) (ac h4 (ac h5 (ac (show EvHead Try.prog cf (lp Try.prog 27 0) (vMake_L0_I s from_ to_ s0 s3) (vMake_L0_S s from_ to_ s0 s3 s6) from (EvHead.of (vMake_L0_ok s from_ to_ s0 s3) (absB_of [4] [] kq (.consn kq (.eqv tq rfl) (.consn kq (.eqv tq rfl) (.consn kq (.fn (.cons (.pt rfl) .nil)) (.consn kq (.nln tq) (.consn kq (.eqv tq rfl) (.consn kq (.eqv tq rfl) (.consn kq (.eqv tq rfl) .nil))))))) (.cons (.old rfl rfl (.cells (.pl rfl pq))) (.cons (.old rfl rfl (.cells (.pl rfl pq))) (.cons (.old rfl rfl (.cells (.cons (.eqv tq rfl) (.cons (.eqv tq rfl) (.cons (.eqv tq rfl) (.cons .nl0 .nil)))))) (.cons (.old rfl rfl (.cells (.pl rfl pq))) (.cons (.none rfl (Nat.le_refl _) rfl) .nil)))))) h6)) (ac h7 (ac h8 (ac (pq (p := Pl false ((s6.1.flatMap Ex.cells)))) (ac (pPack_ok (s6.1) _ h9) (ac h10 an)))))))))))) tq) fun h10 h10p => by intro e; injection e with e; subst e; exact leafR vw_eq (k := 300) (r := []) (hs := hz [(4, [.fc]), (2, [.fres (.tu [Po.av (s0.1), .i (s0.2)])]), (5, [.fc]), (3, [.no]), (3, [.yes]), (1, [.fc]), (2, [.fres (.tu [Po.av (s3.1), .i (s3.2)])]), (5, [.fc]), (3, [.no]), (5, [.no]), (9, [.head (vMake_L0_S s from_ to_ s0 s3 s6)]), (1, [.no]), (3, [.yes, .yes, .fres (.tu [exs (s9.1), .i (s9.2)])]), (7, [.no]), (8, [.fc]), (2, [.fc])]) (raw := (AV.tu [(AV.ag [(AV.i s.blocks), (AV.i from_), (AV.i to_), (exs s9.1)]), (AV.i 0)])) kq (ac (sPoint_ok (s) (to_) _ h0) (ac h1 (ac h2 (ac (sPoint_ok (s) (from_) _ h3) (ac h4 (ac h5 (ac (show EvHead Try.prog cf (lp Try.prog 27 0) (vMake_L0_I s from_ to_ s0 s3) (vMake_L0_S s from_ to_ s0 s3 s6) from (EvHead.of (vMake_L0_ok s from_ to_ s0 s3) (absB_of [4] [] kq (.consn kq (.eqv tq rfl) (.consn kq (.eqv tq rfl) (.consn kq (.fn (.cons (.pt rfl) .nil)) (.consn kq (.nln tq) (.consn kq (.eqv tq rfl) (.consn kq (.eqv tq rfl) (.consn kq (.eqv tq rfl) .nil))))))) (.cons (.old rfl rfl (.cells (.pl rfl pq))) (.cons (.old rfl rfl (.cells (.pl rfl pq))) (.cons (.old rfl rfl (.cells (.cons (.eqv tq rfl) (.cons (.eqv tq rfl) (.cons (.eqv tq rfl) (.cons .nl0 .nil)))))) (.cons (.old rfl rfl (.cells (.pl rfl pq))) (.cons (.none rfl (Nat.le_refl _) rfl) .nil)))))) h6)) (ac h7 (ac h8 (ac (pq (p := Pl false ((s6.1.flatMap Ex.cells)))) (ac (pPack_ok (s6.1) _ h9) (ac h10 an)))))))))))) tq) fun h2 h2p => tbD (fun h3 h3p => by intro e; injection e with e; subst e; exact leafR vw_eq (k := 300) (r := []) (hs := hz [(4, [.fc]), (2, [.fres (.tu [Po.av (s0.1), .i (s0.2)])]), (5, [.fc]), (3, [.no]), (3, [.no]), (3, [.yes]), (1, [.fc]), (1, [.fc]), (2, [.fc])]) (raw := (AV.tu [(AV.ag [(AV.i 0), (AV.i 0), (AV.i 0), (AV.sl 0 ([] : List AV))]), (AV.i 180)])) kq (ac (sPoint_ok (s) (to_) _ h0) (ac h1 (ac h2 (ac h3 an)))) tq) fun h3 h3p => th_ok fun s4 h4 => tbD (fun h5 h5p => tn_ok) fun h5 h5p => tp_ok fun h6 => tc_ok fun s7 h7 => tbN (fun h8 h8p => by intro e; injection e with e; subst e; exact leafR vw_eq (k := 300) (r := []) (hs := hz [(4, [.fc]), (2, [.fres (.tu [Po.av (s0.1), .i (s0.2)])]), (5, [.fc]), (3, [.no]), (3, [.no]), (3, [.no]), (9, [.head (vMake_L1_S s from_ to_ s0 s4)]), (1, [.no]), (3, [.yes, .yes, .fres (.tu [exs (s7.1), .i (s7.2)])]), (7, [.yes]), (1, [.fc]), (2, [.fc]), (2, [.fc])]) (raw := (AV.tu [(AV.ag [(AV.i 0), (AV.i 0), (AV.i 0), (AV.sl 0 ([] : List AV))]), (AV.i s7.2)])) kq (ac (sPoint_ok (s) (to_) _ h0) (ac h1 (ac h2 (ac h3 (ac (show EvHead Try.prog cf (lp Try.prog 27 0) (vMake_L1_I s from_ to_ s0) (vMake_L1_S s from_ to_ s0 s4) from (EvHead.of (vMake_L1_ok s from_ to_ s0) (absB_of [3] [] kq (.consn kq (.eqv tq rfl) (.consn kq (.eqv tq rfl) (.consn kq (.fn .nil) (.consn kq (.nln tq) (.consn kq (.eqv tq rfl) (.consn kq (.eqv tq rfl) (.consn kq (.eqv tq rfl) .nil))))))) (.cons (.old rfl rfl (.cells (.pl rfl pq))) (.cons (.old rfl rfl (.cells (.cons (.eqv tq rfl) (.cons (.eqv tq rfl) (.cons (.eqv tq rfl) (.cons .nl0 .nil)))))) (.cons (.old rfl rfl (.cells (.pl rfl pq))) (.cons (.none rfl (Nat.le_refl _) rfl) .nil))))) h4)) (ac h5 (ac h6 (ac (pq (p := Pl false ((s4.1.flatMap Ex.cells)))) (ac (pPack_ok (s4.1) _ h7) (ac h8 an)))))))))) tq) fun h8 h8p => by intro e; injection e with e; subst e; exact leafR vw_eq (k := 300) (r := []) (hs := hz [(4, [.fc]), (2, [.fres (.tu [Po.av (s0.1), .i (s0.2)])]), (5, [.fc]), (3, [.no]), (3, [.no]), (3, [.no]), (9, [.head (vMake_L1_S s from_ to_ s0 s4)]), (1, [.no]), (3, [.yes, .yes, .fres (.tu [exs (s7.1), .i (s7.2)])]), (7, [.no]), (8, [.fc]), (2, [.fc])]) (raw := (AV.tu [(AV.ag [(AV.i s.blocks), (AV.i from_), (AV.i to_), (exs s7.1)]), (AV.i 0)])) kq (ac (sPoint_ok (s) (to_) _ h0) (ac h1 (ac h2 (ac h3 (ac (show EvHead Try.prog cf (lp Try.prog 27 0) (vMake_L1_I s from_ to_ s0) (vMake_L1_S s from_ to_ s0 s4) from (EvHead.of (vMake_L1_ok s from_ to_ s0) (absB_of [3] [] kq (.consn kq (.eqv tq rfl) (.consn kq (.eqv tq rfl) (.consn kq (.fn .nil) (.consn kq (.nln tq) (.consn kq (.eqv tq rfl) (.consn kq (.eqv tq rfl) (.consn kq (.eqv tq rfl) .nil))))))) (.cons (.old rfl rfl (.cells (.pl rfl pq))) (.cons (.old rfl rfl (.cells (.cons (.eqv tq rfl) (.cons (.eqv tq rfl) (.cons (.eqv tq rfl) (.cons .nl0 .nil)))))) (.cons (.old rfl rfl (.cells (.pl rfl pq))) (.cons (.none rfl (Nat.le_refl _) rfl) .nil))))) h4)) (ac h5 (ac h6 (ac (pq (p := Pl false ((s4.1.flatMap Ex.cells)))) (ac (pPack_ok (s4.1) _ h7) (ac h8 an)))))))))) tq
end Ab
end Go.Proofs.Ytpflcogplhigcaa
namespace Go.Proofs.Ytpflcogplhigcaa
open Go Go.Proofs.Ytpflcogplhigcaa.Ab
set_option linter.unusedVariables false
set_option linter.unusedSimpArgs false
namespace Ab
theorem cpd (d : List UInt8) : List.take ((Int.toNat ((d.length : Nat) : Int)) * 1) (((List.take 0 (List.replicate (Int.toNat ((d.length : Nat) : Int)) (UInt8.ofNat 0))) ++ (List.take ((Min.min d.length (Int.toNat ((d.length : Nat) : Int))) * 1) d)) ++ (List.drop (0 + (List.length (List.take ((Min.min d.length (Int.toNat ((d.length : Nat) : Int))) * 1) (List.map AV.y d)))) (List.replicate (Int.toNat ((d.length : Nat) : Int)) (UInt8.ofNat 0)))) = d := by
  simp
/-- Extents of a generation, of which some are taken. -/
def ofL_ (p : Ex → Bool) (g : Int) (l : List Ex) : List Ex := (l.filter p).map (gn g)
theorem of_take (p : Ex → Bool) (g : Int) (l : List Ex) (i : Nat) (hi : i < l.length) : ofL_ p g (l.take (i + 1)) = ofL_ p g (l.take i) ++ (if p (exAt l i) = true then [gn g (exAt l i)] else []) := by
  unfold ofL_
  rw [ex_take1 l i hi, List.filter_append, List.map_append]
  by_cases h : p (exAt l i) = true
  · rw [if_pos h]; simp [List.filter_cons, h]
  · rw [if_neg h]; simp [List.filter_cons, h]
theorem of_len (p : Ex → Bool) (g : Int) (l : List Ex) : (ofL_ p g l).length ≤ l.length := by
  unfold ofL_; rw [List.length_map]; exact List.length_filter_le _ _
def v0 : Sm := ⟨0, 0, 0, []⟩
/-- A stream of what is taken. -/
def mkV (s : Sa) (a b : Int) (l : List Ex) : Sm × Int := if (pk l).2 ≠ 0 then (v0, (pk l).2) else (⟨s.blocks, a, b, (pk l).1⟩, 0)
noncomputable def makV (s : Sa) (a b : Int) : Sm × Int :=
  if (pnt s b).2 ≠ 0 then (v0, (pnt s b).2) else
  if a ≠ 0 then (if (pnt s a).2 ≠ 0 then (v0, (pnt s a).2) else if a ≥ b then (v0, 180) else mkV s a b (ofL_ (fun x => decide (x.gen > (pnt s a).1.gen)) 0 (pnt s b).1.map))
  else if a ≥ b then (v0, 180) else mkV s a b (ofL_ (fun x => x.kind != 0) 0 (pnt s b).1.map)
theorem pnt_sx {s : Sa} (h : Sz s) (id : Int) : Sx (pnt s id).1.map := by
  unfold pnt
  split
  · cases hf : fd s.points id with
    | none => exact ⟨by simp [fdv, po0], fun x hx => by cases hx⟩
    | some p => exact h.2.2.1 p (List.mem_of_find?_eq_some hf)
  · exact ⟨by simp [po0], fun x hx => by cases hx⟩
theorem vMake_eq {s : Sa} (h : Sz s) (a b : Int) : vMake s a b = some (makV s a b) := by
  unfold vMake makV
  rw [sPoint_eq h, tc_some, tb_bne]
  have hx := pnt_sx h b
  generalize pnt s b = q at hx
  by_cases h1 : q.2 = 0
  case neg => rw [if_neg h1, if_pos h1]; rfl
  rw [if_pos h1, if_neg (fun g => g h1), tb_bne]
  have hd := (exAt_all q.1.map (fun x => x.d.length ≤ 1000000)).2 hx.2
  have hxl := hx.1
  have key : ∀ (p : Ex → Bool) (step : List Ex × Int → Option (List Ex × Int)) (f : List Ex × Int → Option (Sm × Int)),
      (∀ (i : Nat) (o : List Ex), i < q.1.map.length → o.length ≤ 1000000 → step (o, (i : Int)) = some (o ++ (if p (exAt q.1.map i) = true then [gn 0 (exAt q.1.map i)] else []), (i : Int) + 1)) → (∀ o, step (o, (q.1.map.length : Int)) = none) →
      th step (([] : List Ex), 0) f = f (ofL_ p 0 q.1.map, (q.1.map.length : Int)) := by
    intro p step f hs he
    have := th_gath (step := step) (f := f) (fun i => ofL_ p 0 (q.1.map.take i)) q.1.map.length (fun i hi => by
      have hle := of_len p 0 (q.1.map.take i)
      rw [List.length_take] at hle
      rw [hs i _ hi (by omega), of_take p 0 _ i hi]) (he _)
    simp only [List.take_zero, List.take_length] at this
    exact this
  by_cases h2 : a = 0
  · rw [if_pos h2, if_neg (fun g => g h2), tb_dec]
    by_cases h3 : a ≥ b
    · rw [if_pos h3, if_pos h3]; rfl
    rw [if_neg h3, if_neg h3]
    refine (key (fun x => x.kind != 0) _ _ ?_ ?_).trans ?_
    · intro i o hi ho
      have h1 := hd i hi
      unfold vMake_L1_step
      simp only [tb_dec, tb_bne, Int.toNat_natCast]
      rw [if_pos (by omega), tp_pos (by omega), wr_id (x := (i : Int) + 1) (by omega) (by omega)]
      by_cases hk : (exAt q.1.map i).kind = 0
      · rw [if_pos hk, if_neg (by simp [hk])]; simp
      · rw [if_neg hk, if_pos (by simpa using hk), tp_pos ⟨by trivial, by omega, by omega⟩, tp_pos ⟨exs_len _, by omega⟩]
        exact congrArg (fun d => some (o ++ [(⟨(exAt q.1.map i).lba, (exAt q.1.map i).len, (exAt q.1.map i).kind, 0, d⟩ : Ex)], (i : Int) + 1)) (cpd _)
    · intro o
      unfold vMake_L1_step
      simp only [tb_dec]
      rw [if_neg (by omega)]
    · dsimp only
      rw [tb_dec, if_neg (by omega), tp_pos ⟨rfl, exs_len _⟩, pPack_eq, tc_some, tb_bne]
      unfold mkV
      by_cases h4 : (pk (ofL_ (fun x => x.kind != 0) 0 q.1.map)).2 = 0
      · rw [if_pos h4, if_neg (fun g => g h4)]
      · rw [if_neg h4, if_pos h4]; rfl
  · rw [if_neg h2, if_pos h2, sPoint_eq h, tc_some, tb_bne]
    generalize pnt s a = r
    by_cases h5 : r.2 = 0
    case neg => rw [if_neg h5, if_pos h5]; rfl
    rw [if_pos h5, if_neg (fun g => g h5), tb_dec]
    by_cases h3 : a ≥ b
    · rw [if_pos h3, if_pos h3]; rfl
    rw [if_neg h3, if_neg h3]
    refine (key (fun x => decide (x.gen > r.1.gen)) _ _ ?_ ?_).trans ?_
    · intro i o hi ho
      have h1 := hd i hi
      unfold vMake_L0_step
      simp only [tb_dec, Int.toNat_natCast]
      rw [if_pos (by omega), tp_pos (by omega), wr_id (x := (i : Int) + 1) (by omega) (by omega)]
      by_cases hk : (exAt q.1.map i).gen > r.1.gen
      · rw [if_pos hk, if_pos (decide_eq_true hk), tp_pos ⟨by trivial, by omega, by omega⟩, tp_pos ⟨exs_len _, by omega⟩]
        exact congrArg (fun d => some (o ++ [(⟨(exAt q.1.map i).lba, (exAt q.1.map i).len, (exAt q.1.map i).kind, 0, d⟩ : Ex)], (i : Int) + 1)) (cpd _)
      · rw [if_neg hk, if_neg (by simpa using hk)]; simp
    · intro o
      unfold vMake_L0_step
      simp only [tb_dec]
      rw [if_neg (by omega)]
    · dsimp only
      rw [tb_dec, if_neg (by omega), tp_pos ⟨rfl, exs_len _⟩, pPack_eq, tc_some, tb_bne]
      unfold mkV
      by_cases h4 : (pk (ofL_ (fun x => decide (x.gen > r.1.gen)) 0 q.1.map)).2 = 0
      · rw [if_pos h4, if_neg (fun g => g h4)]
      · rw [if_neg h4, if_pos h4]; rfl
end Ab
end Go.Proofs.Ytpflcogplhigcaa
namespace Go.Proofs.Ytpflcogplhigcaa
open Go Go.Proofs.Ytpflcogplhigcaa.Ab
set_option linter.unusedVariables false
set_option linter.unusedSimpArgs false
namespace Ab
def s1 (b : Int) : Sa := ⟨b, 1, new b, [], 0, []⟩
end Ab
end Go.Proofs.Ytpflcogplhigcaa
namespace Go.Proofs.Ytpflcogplhigcaa
open Go Go.Proofs.Ytpflcogplhigcaa.Ab
set_option linter.unusedVariables false
set_option linter.unusedSimpArgs false
namespace Ab
theorem ids_nn {s : Sa} (h : SOk s) : ∀ i, i ≤ s.points.length → 0 ≤ (pv s i).id ∧ 0 ≤ (pv s i).gen
  | 0, _ => by simp [pv]
  | i + 1, hi => by
    have := ids_nn h i (by omega)
    have hp := h.2.2.2.2.2.2.2.1 i (by omega)
    rw [pv_succ]
    have h1 := hp.2.1
    have h2 := hp.2.2.2.1
    omega
theorem id_ok {s : Sa} (h : SOk s) {i : Nat} (hi : i < s.points.length) : 1 ≤ (poAt s.points i).id ∧ (poAt s.points i).id ≤ s.last ∧ s.last ≤ 2147483647 := by
  have hp := h.2.2.2.2.2.2.2.1 i hi
  have := ids_nn h i (by omega)
  have h1 := hp.2.1
  have h2 := hp.2.2.1
  have h3 := h.2.2.2.2.2.1
  omega
theorem po_get (l : List Po) {i : Nat} (h : i < l.length) : poAt l i = l[i] := by simp [poAt, h]
end Ab
end Go.Proofs.Ytpflcogplhigcaa
namespace Go.Proofs.Ytpflcogplhigcaa
open Go Go.Proofs.Ytpflcogplhigcaa.Ab
set_option linter.unusedVariables false
set_option linter.unusedSimpArgs false
namespace Ab
theorem ch_so : ∀ {l : List Ex} {s : Int}, CH s l → So s l ∧ en s l = s + sl l
  | [], s, _ => ⟨trivial, by simp [en, sl]⟩
  | x :: l, s, h => by
    obtain ⟨h1, h2, _, h4⟩ := h
    rw [← h2] at h4
    have ih := ch_so h4
    exact ⟨⟨h1, by omega, ih.1⟩, by simp only [en, sl]; rw [ih.2]; omega⟩
theorem en_mono : ∀ {l : List Ex} {s t : Int}, t ≤ s → en t l ≤ en s l
  | [], s, t, h => h
  | x :: l, s, t, _ => Int.le_refl _
theorem so_filter (p : Ex → Bool) : ∀ {l : List Ex} {s : Int}, So s l → So s (l.filter p) ∧ en s (l.filter p) ≤ en s l
  | [], s, _ => ⟨trivial, Int.le_refl _⟩
  | x :: l, s, h => by
    obtain ⟨h1, h2, h3⟩ := h
    have ih := so_filter p h3
    have px := ck_pos h1
    by_cases q : p x = true
    · rw [List.filter_cons_of_pos q]; exact ⟨⟨h1, h2, ih.1⟩, ih.2⟩
    · rw [List.filter_cons_of_neg q]
      exact ⟨so_mono ih.1 (by omega), Int.le_trans (en_mono (by omega)) ih.2⟩
theorem ck_gn {x : Ex} (h : Ck x) {g : Int} (hg : 0 ≤ g ∧ g ≤ 2147483647) : Ck (gn g x) := by
  obtain ⟨h1, h2, h3, h4, h5, h6, _, _, h9, h10⟩ := h
  exact ⟨h1, h2, h3, h4, h5, h6, hg.1, hg.2, h9, h10⟩
theorem so_gn {g : Int} (hg : 0 ≤ g ∧ g ≤ 2147483647) : ∀ {l : List Ex} {s : Int}, So s l → So s (l.map (gn g)) ∧ en s (l.map (gn g)) = en s l
  | [], s, _ => ⟨trivial, rfl⟩
  | x :: l, s, h => by
    have ih := so_gn hg h.2.2
    exact ⟨⟨ck_gn h.1 hg, h.2.1, ih.1⟩, ih.2⟩
theorem so_len : ∀ {l : List Ex} {s : Int}, So s l → s + l.length ≤ en s l
  | [], s, _ => by simp [en]
  | x :: l, s, h => by
    have ih := so_len h.2.2
    have px := ck_pos h.1
    have h2 := h.2.1
    simp only [en, List.length_cons]
    omega
theorem of_so {b : Int} {m : List Ex} (h : Mk b m) (p : Ex → Bool) {g : Int} (hg : 0 ≤ g ∧ g ≤ 2147483647) : So 0 (ofL_ p g m) ∧ en 0 (ofL_ p g m) ≤ b ∧ (ofL_ p g m).length ≤ 64 := by
  obtain ⟨a, e⟩ := ch_so (mk_ch h)
  obtain ⟨a1, e1⟩ := so_filter p a
  obtain ⟨a2, e2⟩ := so_gn hg a1
  have hb := mk_blocks h
  have hs := h.2.2
  have hl := so_len a2
  unfold ofL_
  rw [e2] at hl ⊢
  exact ⟨a2, by omega, by omega⟩
theorem so_lsx {l : List Ex} (h : So 0 l) (hl : l.length ≤ 64) : Ls l := ⟨hl, so_lp h⟩
theorem add_gen {g : Int} {out : List Ex} {y : Ex} (h : ∀ x ∈ out, x.gen = g) (hy : y.gen = g) : ∀ x ∈ add out y, x.gen = g := by
  intro x hx
  unfold add at hx
  split at hx
  · rename_i q
    rcases List.mem_append.1 hx with q1 | q1
    · exact h x (List.dropLast_subset _ q1)
    · rw [List.mem_singleton] at q1
      subst q1
      have hm : out.getLastD ⟨0, 0, 0, 0, []⟩ ∈ out := by
        rw [snoc_of q.1]
        simp
      show (out.getLastD ⟨0, 0, 0, 0, []⟩).gen = g
      exact h _ hm
  · rcases List.mem_append.1 hx with q1 | q1
    · exact h x q1
    · rw [List.mem_singleton] at q1; subst q1; exact hy
theorem adds_gen {g : Int} : ∀ (ys out : List Ex), (∀ x ∈ out, x.gen = g) → (∀ x ∈ ys, x.gen = g) → ∀ x ∈ ys.foldl add out, x.gen = g
  | [], out, h, _ => h
  | y :: ys, out, h, hy => adds_gen ys _ (add_gen h (hy y (by simp))) fun x hx => hy x (by simp [hx])
theorem told_gen {x y : Ex} (hy : y ∈ told x) : y.gen = x.gen := by
  unfold told at hy
  split at hy
  · obtain ⟨z, _, rfl⟩ := List.mem_map.1 hy; rfl
  · rw [List.mem_singleton] at hy; subst hy; rfl
theorem adds_en : ∀ (ys out : List Ex), So 0 out → NJ out → (∀ x ∈ out, Gd x) → So (en 0 out) ys → (∀ x ∈ ys, Gd x) → en 0 (ys.foldl add out) = en (en 0 out) ys
  | [], out, _, _, _, _, _ => rfl
  | y :: ys, out, h1, h2, h3, h4, h5 => by
    obtain ⟨a, b, c, d⟩ := add_so h1 h2 h3 h4.1 (h5 y (by simp)) h4.2.1
    rw [List.foldl_cons, adds_en ys _ a b c (by rw [d]; exact h4.2.2) (fun x hx => h5 x (by simp [hx])), d]
    rfl
/-- What is packed out of extents of generation 0. -/
theorem pk_all {l : List Ex} {b : Int} (h : So 0 l) (he : en 0 l ≤ b) (hb : b ≤ 64) (hg : ∀ x ∈ l, x.gen = 0) : (pk l).2 = 0 ∧ So 0 (pk l).1 ∧ NJ (pk l).1 ∧ (∀ x ∈ (pk l).1, Gd x ∧ x.gen = 0) ∧ en 0 (pk l).1 ≤ b ∧ (pk l).1.length ≤ 64 := by
  have hl := so_len h
  have hls := so_lsx h (by omega)
  obtain ⟨p1, p2, p3, p4, p5⟩ := pk_spec hls
  obtain ⟨t1, t2, t3⟩ := tolds_so l 0 h
  have hen : en 0 (pk l).1 = en 0 l := by
    rw [p5, adds_en _ [] trivial trivial (fun x hx => by cases hx) t1 t3]
    exact t2
  have hgen : ∀ x ∈ (pk l).1, x.gen = 0 := by
    rw [p5]
    refine adds_gen _ [] (fun x hx => by cases hx) fun x hx => ?_
    obtain ⟨z, hz, q⟩ := List.mem_flatMap.1 hx
    rw [told_gen q, hg z hz]
  have hl2 := so_len p1
  exact ⟨p4, p1, p2, fun x hx => ⟨p3 x hx, hgen x hx⟩, by omega, by omega⟩
/-- A stream made out of a map. -/
theorem mkV_ok {s : Sa} {a c : Int} {m : List Ex} (hm : Mk s.blocks m) (p : Ex → Bool) (ha : 0 ≤ a ∧ a < c) (hc : 1 ≤ c ∧ c ≤ 2147483647) :
    mkV s a c (ofL_ p 0 m) = (⟨s.blocks, a, c, (pk (ofL_ p 0 m)).1⟩, 0) ∧ vCheck ⟨s.blocks, a, c, (pk (ofL_ p 0 m)).1⟩ = some true ∧ So 0 (pk (ofL_ p 0 m)).1 ∧ en 0 (pk (ofL_ p 0 m)).1 ≤ s.blocks ∧ (pk (ofL_ p 0 m)).1.length ≤ 64 := by
  have hb := mk_blocks hm
  obtain ⟨o1, o2, o3⟩ := of_so hm p (g := 0) (by omega)
  have og : ∀ x ∈ ofL_ p 0 m, x.gen = 0 := fun x hx => by
    obtain ⟨y, _, rfl⟩ := List.mem_map.1 hx; rfl
  obtain ⟨q1, q2, q3, q4, q5, q6⟩ := pk_all o1 o2 hb.2 og
  refine ⟨by unfold mkV; rw [if_neg (fun g => g q1)], vCheck_ok' hb hc ha q6 q2 q3 q4 q5, q2, q5, q6⟩
end Ab
end Go.Proofs.Ytpflcogplhigcaa
namespace Go.Proofs.Ytpflcogplhigcaa
open Go Go.Proofs.Ytpflcogplhigcaa.Ab
set_option linter.unusedVariables false
set_option linter.unusedSimpArgs false
namespace Ab
theorem told_one {x : Ex} (h : Ck x) (hk : x.kind ≠ 2) : told x = [x] := by
  unfold told
  rw [if_neg hk]
  have := h.2.2.2.2.2.2.2.2.2 hk
  cases x with
  | mk a b c e d => simp_all
theorem rPack_L1_eq {α : Type} (l : List Ex) (s0 : Bool) (out : List Ex) (i : Nat) (hi : i < l.length) (q : List Ex) (e : Int) (f : Int × List Ex → Option α) (hq : q.length ≤ 1000000) :
    th (rPack_L1_step l s0 (out, (i : Int)) (q, e)) (0, q) f = f ((q.length : Int), q.map (sg (exAt l i).gen)) := by
  have := th_run (f := f) (step := rPack_L1_step l s0 (out, (i : Int)) (q, e)) (fun j => ((j : Int), (q.take j).map (sg (exAt l i).gen) ++ q.drop j)) q.length (fun j hj => ?_) ?_
  · simpa using this
  · unfold rPack_L1_step
    simp only [tb_dec, Int.toNat_natCast]
    have hlen : ((q.take j).map (sg (exAt l i).gen) ++ q.drop j).length = q.length := by simp; omega
    rw [if_pos (by omega), tp_pos (by omega), tp_pos (by omega), tp_pos ⟨rfl, by rw [exs_len, hlen]; simp; omega⟩, wr_id (by omega) (by omega), map_at _ _ _ hj]
    have e := map_set (sg (exAt l i).gen) q j hj
    unfold sg at e ⊢
    rw [e]
    simp
  · unfold rPack_L1_step
    simp only [tb_dec]
    rw [if_neg (by omega)]
theorem rPack_L0_step_eq (l : List Ex) (s0 : Bool) (out : List Ex) (i : Nat) (hi : i < l.length) (hl : l.length ≤ 64) (hc : Ck (exAt l i)) (ho : out.length ≤ 1000000) :
    rPack_L0_step l s0 (out, (i : Int)) = some (out ++ told (exAt l i), ((i + 1 : Nat) : Int)) := by
  unfold rPack_L0_step
  simp only [tb_dec, tb_bne, Int.toNat_natCast]
  rw [if_pos (by omega), tp_pos (by omega), wr_id (x := (i : Int) + 1) (by omega) (by omega)]
  by_cases hk : (exAt l i).kind = 2
  case neg => rw [if_neg hk, tp_pos ⟨exs_len _, by omega⟩, told_one hc hk]; rfl
  rw [if_pos hk, rLay_eq _ _ (by have := ck_dlen hc; omega), tc_some]
  have hlay : lay (exAt l i).lba (exAt l i).d = (ly (exAt l i).lba (exAt l i).d false 0 (flags (exAt l i).d), 0) := if_pos (ck_lo hc hk)
  rw [hlay]
  have h1 := ly_len (flags (exAt l i).d) (exAt l i).lba (exAt l i).d false 0
  have h2 : (flags (exAt l i).d).length = (exAt l i).d.length / 32 := fl_length _ _
  have h3 := ck_dlen hc
  rw [rPack_L1_eq _ _ _ _ hi _ _ _ (by omega)]
  simp only [tb_dec]
  rw [if_neg (by omega), tp_pos (by first | exact ⟨rfl, by rw [exs_len, List.length_map]⟩ | exact ⟨trivial, by rw [exs_len, List.length_map]⟩), tp_pos ⟨exs_len _, by omega⟩]
  unfold told
  rw [if_pos hk]; rfl
theorem rPack_L3_step_eq (l : List Ex) (s0 : Bool) (s7 : List Ex) (n : Int) (out : List Ex) (i : Nat) (hi : i < s7.length) (h7 : s7.length ≤ 4294967296) (ho : out.length + 1 ≤ 4294967296) :
    rPack_L3_step l s0 (s7, n) (out, (i : Int)) = some (add out (exAt s7 i), (i : Int) + 1) := by
  unfold rPack_L3_step
  simp only [tb_dec, tb_beq, Int.toNat_natCast]
  rw [if_pos (by omega), wr_id (x := (i : Int) + 1) (by omega) (by omega)]
  by_cases h0 : out = []
  · subst h0
    rw [if_neg (by simp), tp_pos (by omega), tp_pos ⟨by simp, by simp⟩, add_nil]; rfl
  · have hl : 0 < out.length := List.length_pos_iff.2 h0
    have hw : wr ((out.length : Int) - 1) = ((out.length - 1 : Nat) : Int) := by rw [wr_id (by omega) (by omega)]; omega
    rw [if_pos (by omega), hw, tp_pos (by omega), tp_pos (by omega), Int.toNat_natCast, last_at out h0 _ rfl, r7Join_eq, tc_some]
    by_cases hj : Jn (out.getLastD ⟨0, 0, 0, 0, []⟩) (exAt s7 i)
    · have e : jnv (out.getLastD ⟨0, 0, 0, 0, []⟩) (exAt s7 i) = (jnx (out.getLastD ⟨0, 0, 0, 0, []⟩) (exAt s7 i), 0) := if_pos hj
      rw [e, if_pos rfl, tp_pos ⟨rfl, by rw [exs_len]; simp; omega⟩, add_jn h0 hj, set_last_ex out h0 _ rfl]
    · have e : jnv (out.getLastD ⟨0, 0, 0, 0, []⟩) (exAt s7 i) = (⟨0, 0, 0, 0, []⟩, 70) := if_neg hj
      rw [e, if_neg (by simp), tp_pos ⟨exs_len _, ho⟩, add_no hj]
theorem rPack_eq (l : List Ex) : rPack l = some (pk l) := by
  unfold rPack pk
  rw [r10List_eq, tc_some, tb_not]
  by_cases h : Ls l
  case neg => rw [decide_eq_false h, tb_f, if_neg h]
  rw [decide_eq_true h, tb_t, if_pos h]
  have hl := h.1
  have hS := fun (f : List Ex × Int → Option (List Ex × Int)) => th_run (f := f) (step := rPack_L0_step l true) (fun i => ((l.take i).flatMap told, (i : Int))) l.length (fun i hi => ?_) ?_
  rotate_left
  · have hbd := tolds_len _ (lp_ck (Nat.le_of_lt hi) fun j hj => h.2 j (by omega))
    rw [List.length_take] at hbd
    rw [rPack_L0_step_eq _ _ _ _ hi hl (h.2 i hi).1 (by omega), flat_take _ _ hi]
  · unfold rPack_L0_step
    simp only [tb_dec]
    rw [if_neg (by omega)]
  refine (hS _).trans ?_
  have hbd := tolds_len _ (lp_ck (Nat.le_refl _) fun j hj => h.2 j (by omega))
  simp only [List.take_length] at hbd ⊢
  simp only [tb_dec]
  rw [if_neg (by omega)]
  generalize l.flatMap told = q at hbd ⊢
  have hT := fun (f : List Ex × Int → Option (List Ex × Int)) => th_run (f := f) (step := rPack_L3_step l true (q, (l.length : Int))) (fun i => ((q.take i).foldl add [], (i : Int))) q.length (fun i hi => ?_) ?_
  rotate_left
  · have hb := adds_len (q.take i) []
    rw [List.length_take] at hb
    simp only [List.length_nil] at hb
    rw [rPack_L3_step_eq _ _ _ _ _ _ hi (by omega) (by omega), fold_take _ _ _ hi]
    simp
  · unfold rPack_L3_step
    simp only [tb_dec]
    rw [if_neg (by omega)]
  refine (hT _).trans ?_
  simp only [List.take_length]
  rw [if_neg (by omega), tp_pos (by first | exact ⟨rfl, exs_len _⟩ | exact ⟨trivial, exs_len _⟩)]
end Ab
end Go.Proofs.Ytpflcogplhigcaa
namespace Go.Proofs.Ytpflcogplhigcaa
open Go Go.Proofs.Ytpflcogplhigcaa.Ab
set_option linter.unusedVariables false
set_option linter.unusedSimpArgs false
set_option maxRecDepth 1000000
set_option maxHeartbeats 0
namespace Ab
/-- Function 36, as it answers. -/
noncomputable def r18of (x : Ex) (gen : Int) : Option (Ex) :=
 (tc (r7Copy (x)) fun s0 => (some ((Ex.mk s0.lba s0.len s0.kind gen s0.d))))
abbrev r18of_G (x : Ex) (gen : Int) (r : Ex) : Prop := EvFr Try.prog cf true 36 [Ex.av (x), .i (gen)] (Ex.av (r))
theorem r18of_ok (x : Ex) (gen : Int) (r : Ex) : r18of x gen = some r → r18of_G x gen r := by
  unfold r18of
  exact tc_ok fun s0 h0 => by intro e; injection e with e; subst e; exact leafR vw_eq (k := 300) (r := []) (hs := hz [(3, [.fc]), (1, [.fres (Ex.av (s0))]), (2, [.fc]), (3, [.fc]), (1, [.fc]), (1, [.fc]), (1, [.fc, .yes, .yes])]) (raw := (AV.ag [(AV.i s0.lba), (AV.i s0.len), (AV.i s0.kind), (AV.i gen), (bys s0.d)])) kq (ac (r7Copy_ok (x) _ h0).any0 (ac (tq (p := (((0 : Nat) = (0 : Nat)) ∧ ((List.length (List.map AV.y s0.d)) = (s0.d.length * 1))))) (ac (pq (p := Pl true ((List.map AV.y s0.d)))) an))) tq
noncomputable abbrev r18Make_L0_I (s : Sa) (from_ : Int) (to_ : Int) (s0 : Po × Int) (s3 : Po × Int) : St := (St.mk [(0, (AV.ag [(AV.i s.blocks), (AV.i s.gen), (exs s.map), (AV.sl s.points.length (s.points.flatMap Po.cells)), (AV.i s.last), (bys s.staged)])), (1, (AV.i from_)), (2, (AV.i to_)), (3, (AV.pt 0 0)), (6, (AV.pt 1 0)), (7, (AV.i 0)), (17, (AV.ag [(AV.i s.blocks), (AV.i s.gen), (exs s.map), (AV.sl s.points.length (s.points.flatMap Po.cells)), (AV.i s.last), (bys s.staged)])), (18, (AV.i to_)), (19, (AV.tu [(AV.ag [(AV.i s0.1.id), (AV.i s0.1.gen), (exs s0.1.map)]), (AV.i s0.2)])), (16, (AV.tu [(AV.ag [(AV.i s0.1.id), (AV.i s0.1.gen), (exs s0.1.map)]), (AV.i s0.2)])), (20, (AV.ag [(AV.i s0.1.id), (AV.i s0.1.gen), (exs s0.1.map)])), (21, (AV.i s0.2)), (8, (AV.pt 2 0)), (9, (AV.i s0.2)), (22, (AV.i s0.2)), (23, (AV.b (s0.2 != (0 : Int)))), (10, (AV.i s3.1.gen)), (26, (AV.i from_)), (27, (AV.b (from_ != (0 : Int)))), (29, (AV.ag [(AV.i s.blocks), (AV.i s.gen), (exs s.map), (AV.sl s.points.length (s.points.flatMap Po.cells)), (AV.i s.last), (bys s.staged)])), (30, (AV.i from_)), (31, (AV.tu [(AV.ag [(AV.i s3.1.id), (AV.i s3.1.gen), (exs s3.1.map)]), (AV.i s3.2)])), (28, (AV.tu [(AV.ag [(AV.i s3.1.id), (AV.i s3.1.gen), (exs s3.1.map)]), (AV.i s3.2)])), (32, (AV.ag [(AV.i s3.1.id), (AV.i s3.1.gen), (exs s3.1.map)])), (33, (AV.i s3.2)), (11, (AV.pt 3 0)), (12, (AV.i s3.2)), (34, (AV.i s3.2)), (35, (AV.b (s3.2 != (0 : Int)))), (38, (AV.pt 3 1)), (39, (AV.i s3.1.gen)), (40, (AV.i from_)), (41, (AV.i to_)), (42, (AV.b (decide (from_ ≥ to_)))), (13, AV.nl), (14, (AV.i 0))] 97 (AH.mk 4 [(3, (AObj.cells [(AV.i s3.1.id), (AV.i s3.1.gen), (exs s3.1.map)])), (2, (AObj.cells [(AV.i s0.1.id), (AV.i s0.1.gen), (exs s0.1.map)])), (1, (AObj.cells [(AV.i 0), (AV.i 0), (AV.i 0), AV.nl])), (0, (AObj.cells [(AV.i s.blocks), (AV.i s.gen), (exs s.map), (AV.sl s.points.length (s.points.flatMap Po.cells)), (AV.i s.last), (bys s.staged)]))]) false)
noncomputable abbrev r18Make_L0_S (s : Sa) (from_ : Int) (to_ : Int) (s0 : Po × Int) (s3 : Po × Int) (s6 : List Ex × Int) : St := (St.mk [(0, (AV.ag [(AV.i s.blocks), (AV.i s.gen), (exs s.map), (AV.sl s.points.length (s.points.flatMap Po.cells)), (AV.i s.last), (bys s.staged)])), (1, (AV.i from_)), (2, (AV.i to_)), (3, (AV.pt 0 0)), (6, (AV.pt 1 0)), (7, (AV.i 0)), (8, (AV.pt 2 0)), (9, (AV.i s0.2)), (23, (AV.b (s0.2 != (0 : Int)))), (10, (AV.i s3.1.gen)), (27, (AV.b (from_ != (0 : Int)))), (11, (AV.pt 3 0)), (12, (AV.i s3.2)), (35, (AV.b (s3.2 != (0 : Int)))), (42, (AV.b (decide (from_ ≥ to_)))), (13, (AV.rf 4 5 0 s6.1.length)), (14, (AV.i s6.2))] 97 (AH.mk 5 [(3, (AObj.cells [(AV.i s3.1.id), (AV.i s3.1.gen), (exs s3.1.map)])), (2, (AObj.cells [(AV.i s0.1.id), (AV.i s0.1.gen), (exs s0.1.map)])), (1, (AObj.cells [(AV.i 0), (AV.i 0), (AV.i 0), AV.nl])), (0, (AObj.cells [(AV.i s.blocks), (AV.i s.gen), (exs s.map), (AV.sl s.points.length (s.points.flatMap Po.cells)), (AV.i s.last), (bys s.staged)])), (4, (AObj.cells (s6.1.flatMap Ex.cells)))]) false)
noncomputable def r18Make_L0_step (s : Sa) (from_ : Int) (to_ : Int) (s0 : Po × Int) (s3 : Po × Int) (s6 : List Ex × Int) : Option (List Ex × Int) :=
 (tb ((decide (s6.2 < (s0.1.map.length : Int)))) (tb ((from_ == (0 : Int))) (tp ((((0 : Int) ≤ s6.2) ∧ (s6.2 < (s0.1.map.length : Int)))) (tb (((exAt s0.1.map s6.2.toNat).kind != (0 : Int))) (tc (r18of ((exAt s0.1.map s6.2.toNat)) ((0 : Int))) fun s11 => (tp ((((List.length (s6.1.flatMap Ex.cells)) = (s6.1.length * 5)) ∧ ((s6.1.length + (1 : Nat)) ≤ (4294967296 : Nat)))) (some (((s6.1 ++ [s11]), (wr (s6.2 + (1 : Int)))))))) (some ((s6.1, (wr (s6.2 + (1 : Int)))))))) (tp ((((0 : Int) ≤ s6.2) ∧ (s6.2 < (s0.1.map.length : Int)))) (tb ((decide ((exAt s0.1.map s6.2.toNat).gen > s3.1.gen))) (tc (r18of ((exAt s0.1.map s6.2.toNat)) ((0 : Int))) fun s11 => (tp ((((List.length (s6.1.flatMap Ex.cells)) = (s6.1.length * 5)) ∧ ((s6.1.length + (1 : Nat)) ≤ (4294967296 : Nat)))) (some (((s6.1 ++ [s11]), (wr (s6.2 + (1 : Int)))))))) (some ((s6.1, (wr (s6.2 + (1 : Int))))))))) none)
theorem r18Make_L0_ok (s : Sa) (from_ : Int) (to_ : Int) (s0 : Po × Int) (s3 : Po × Int) (s6 zz : List Ex × Int) : r18Make_L0_step s from_ to_ s0 s3 s6 = some zz → EvStep Try.prog cf 4 (lp Try.prog 17 0) (r18Make_L0_S s from_ to_ s0 s3 s6) (r18Make_L0_S s from_ to_ s0 s3 zz) := by
  unfold r18Make_L0_step
  exact tbD (fun h7 h7p => tbE (fun h8 h8p => tp_ok fun h9 => tbN (fun h10 h10p => tc_ok fun s11 h11 => tp_ok fun h12 => by intro e; injection e with e; subst e; exact leafS vw_eq (k := 300) (r := []) (hs := hz [(6, [.yes]), (3, [.yes]), (1, [.yes]), (2, [.yes]), (1, [.yes, .yes, .yes]), (1, [.yes, .yes, .val ((AV.i (exAt s0.1.map s6.2.toNat).kind)), .yes]), (1, [.yes]), (1, [.yes, .yes, .yes, .yes, .yes]), (6, [.yes, .yes, .cells ((Ex.cells (exAt s0.1.map s6.2.toNat)))]), (1, [.fres (Ex.av (s11))]), (1, [.fc, .fc, .yes, .yes]), (4, [])]) (ks := [0, 1, 2, 3, 6, 7, 8, 9, 23, 10, 27, 11, 12, 35, 42, 13, 14]) (st1 := (St.mk [(0, (AV.ag [(AV.i s.blocks), (AV.i s.gen), (exs s.map), (AV.sl s.points.length (s.points.flatMap Po.cells)), (AV.i s.last), (bys s.staged)])), (1, (AV.i from_)), (2, (AV.i to_)), (3, (AV.pt 0 0)), (6, (AV.pt 1 0)), (7, (AV.i 0)), (8, (AV.pt 2 0)), (9, (AV.i s0.2)), (23, (AV.b (s0.2 != (0 : Int)))), (10, (AV.i s3.1.gen)), (27, (AV.b (from_ != (0 : Int)))), (11, (AV.pt 3 0)), (12, (AV.i s3.2)), (35, (AV.b (s3.2 != (0 : Int)))), (42, (AV.b (decide (from_ ≥ to_)))), (13, (AV.rf 6 5 0 (s6.1.length + (1 : Nat)))), (14, (AV.i (wr (s6.2 + (1 : Int)))))] 97 (AH.mk 7 [(6, (AObj.cells ((s6.1.flatMap Ex.cells) ++ (xc s11)))), (5, (AObj.cells (xc s11))), (3, (AObj.cells [(AV.i s3.1.id), (AV.i s3.1.gen), (exs s3.1.map)])), (2, (AObj.cells [(AV.i s0.1.id), (AV.i s0.1.gen), (exs s0.1.map)])), (1, (AObj.cells [(AV.i 0), (AV.i 0), (AV.i 0), AV.nl])), (0, (AObj.cells [(AV.i s.blocks), (AV.i s.gen), (exs s.map), (AV.sl s.points.length (s.points.flatMap Po.cells)), (AV.i s.last), (bys s.staged)])), (4, AObj.dead)]) false)) kq (ac h7 (ac h8 (ac h8 (ac h8 (ac h8 (ac h9 (ac h8 (ac h8 (ac (fq (p := ((1 : Nat) ≤ (List.length (List.drop 2 (List.drop (s6.2.toNat * 5) (s0.1.map.flatMap Ex.cells))))))) (ac (show (List.take 1 (List.drop 2 (List.drop (s6.2.toNat * 5) (s0.1.map.flatMap Ex.cells)))) = [(AV.i (exAt s0.1.map s6.2.toNat).kind)] from (by first | exact ex_one _ _ _ _ bq rfl | exact ex_oneA _ _ _ _ bq rfl | (simpa using ex_one (s0.1.map) (s6.2.toNat) 2 _ bq rfl) | ((try simp only [List.drop_drop]); rw [show ((2 : Nat) + (s6.2.toNat * 5)) = (s6.2.toNat) * 5 + 2 by omega]; exact ex_oneA (s0.1.map) (s6.2.toNat) 2 _ bq rfl))) (ac h8 (ac h8 (ac h10 (ac h10 (ac h10 (ac h10 (ac h10 (ac h9 (ac (fq (p := ((5 : Nat) ≤ (List.length (List.drop (s6.2.toNat * 5) (s0.1.map.flatMap Ex.cells)))))) (ac (show (List.take 5 (List.drop (s6.2.toNat * 5) (s0.1.map.flatMap Ex.cells))) = (Ex.cells (exAt s0.1.map s6.2.toNat)) from (ex_takeO bq bq)) (ac (r18of_ok ((exAt s0.1.map s6.2.toNat)) ((0 : Int)) _ h11).any0 (ac (tq (p := (((0 : Nat) = (0 : Nat)) ∧ ((List.length (xc s11)) = (5 : Nat))))) (ac h12 an))))))))))))))))))))))) (Nat.le_of_ble_eq_true rfl) (Nat.le_of_ble_eq_true rfl) (absB_of [6] [] kq (.consn kq (.agp pq) (.consn kq (.eqv tq rfl) (.consn kq (.eqv tq rfl) (.consn kq (.pt rfl) (.consn kq (.pt rfl) (.consn kq (.eqv tq rfl) (.consn kq (.pt rfl) (.consn kq (.eqv tq rfl) (.consn kq (.eqv tq rfl) (.consn kq (.eqv tq rfl) (.consn kq (.eqv tq rfl) (.consn kq (.pt rfl) (.consn kq (.eqv tq rfl) (.consn kq (.eqv tq rfl) (.consn kq (.eqv tq rfl) (.consn kq (.rfn (n := (s6.1.length + (1 : Nat))) rfl tq) (.consn kq (.eqv tq rfl) .nil))))))))))))))))) (.cons (.old rfl rfl (.cells (.pl rfl pq))) (.cons (.old rfl rfl (.cells (.pl rfl pq))) (.cons (.old rfl rfl (.cells (.cons (.eqv tq rfl) (.cons (.eqv tq rfl) (.cons (.eqv tq rfl) (.cons .nl0 .nil)))))) (.cons (.old rfl rfl (.cells (.pl rfl pq))) (.cons (.old rfl rfl (.cells (.pl tq pq))) .nil))))))) fun h10 h10p => by intro e; injection e with e; subst e; exact leafS vw_eq (k := 300) (r := []) (hs := hz [(6, [.yes]), (3, [.yes]), (1, [.yes]), (2, [.yes]), (1, [.yes, .yes, .yes]), (1, [.yes, .yes, .val ((AV.i (exAt s0.1.map s6.2.toNat).kind)), .yes]), (1, [.yes]), (1, [.no]), (1, [.no]), (1, [.no]), (1, [.no, .no, .no, .no, .no, .no, .no, .no, .no, .no, .no]), (4, [])]) (ks := [0, 1, 2, 3, 6, 7, 8, 9, 23, 10, 27, 11, 12, 35, 42, 13, 14]) (st1 := (St.mk [(0, (AV.ag [(AV.i s.blocks), (AV.i s.gen), (exs s.map), (AV.sl s.points.length (s.points.flatMap Po.cells)), (AV.i s.last), (bys s.staged)])), (1, (AV.i from_)), (2, (AV.i to_)), (3, (AV.pt 0 0)), (6, (AV.pt 1 0)), (7, (AV.i 0)), (8, (AV.pt 2 0)), (9, (AV.i s0.2)), (23, (AV.b (s0.2 != (0 : Int)))), (10, (AV.i s3.1.gen)), (27, (AV.b (from_ != (0 : Int)))), (11, (AV.pt 3 0)), (12, (AV.i s3.2)), (35, (AV.b (s3.2 != (0 : Int)))), (42, (AV.b (decide (from_ ≥ to_)))), (13, (AV.rf 4 5 0 s6.1.length)), (14, (AV.i (wr (s6.2 + (1 : Int)))))] 97 (AH.mk 5 [(3, (AObj.cells [(AV.i s3.1.id), (AV.i s3.1.gen), (exs s3.1.map)])), (2, (AObj.cells [(AV.i s0.1.id), (AV.i s0.1.gen), (exs s0.1.map)])), (1, (AObj.cells [(AV.i 0), (AV.i 0), (AV.i 0), AV.nl])), (0, (AObj.cells [(AV.i s.blocks), (AV.i s.gen), (exs s.map), (AV.sl s.points.length (s.points.flatMap Po.cells)), (AV.i s.last), (bys s.staged)])), (4, (AObj.cells (s6.1.flatMap Ex.cells)))]) false)) kq (ac h7 (ac h8 (ac h8 (ac h8 (ac h8 (ac h9 (ac h8 (ac h8 (ac (fq (p := ((1 : Nat) ≤ (List.length (List.drop 2 (List.drop (s6.2.toNat * 5) (s0.1.map.flatMap Ex.cells))))))) (ac (show (List.take 1 (List.drop 2 (List.drop (s6.2.toNat * 5) (s0.1.map.flatMap Ex.cells)))) = [(AV.i (exAt s0.1.map s6.2.toNat).kind)] from (by first | exact ex_one _ _ _ _ bq rfl | exact ex_oneA _ _ _ _ bq rfl | (simpa using ex_one (s0.1.map) (s6.2.toNat) 2 _ bq rfl) | ((try simp only [List.drop_drop]); rw [show ((2 : Nat) + (s6.2.toNat * 5)) = (s6.2.toNat) * 5 + 2 by omega]; exact ex_oneA (s0.1.map) (s6.2.toNat) 2 _ bq rfl))) (ac h8 (ac h8 (ac h10 (ac h10 (ac h10 (ac (congrArg not h8) (ac (congrArg not h8) (ac (congrArg not h8) (ac (congrArg not h8) (ac (congrArg not h8) (ac (congrArg not h8) (ac (congrArg not h8) (ac (congrArg not h8) (ac h10 (ac (congrArg not h8) (ac h10 an)))))))))))))))))))))))))) (Nat.le_of_ble_eq_true rfl) (Nat.le_of_ble_eq_true rfl) (absB_of [4] [] kq (.consn kq (.agp pq) (.consn kq (.eqv tq rfl) (.consn kq (.eqv tq rfl) (.consn kq (.pt rfl) (.consn kq (.pt rfl) (.consn kq (.eqv tq rfl) (.consn kq (.pt rfl) (.consn kq (.eqv tq rfl) (.consn kq (.eqv tq rfl) (.consn kq (.eqv tq rfl) (.consn kq (.eqv tq rfl) (.consn kq (.pt rfl) (.consn kq (.eqv tq rfl) (.consn kq (.eqv tq rfl) (.consn kq (.eqv tq rfl) (.consn kq (.rfn (n := s6.1.length) rfl tq) (.consn kq (.eqv tq rfl) .nil))))))))))))))))) (.cons (.old rfl rfl (.cells (.pl rfl pq))) (.cons (.old rfl rfl (.cells (.pl rfl pq))) (.cons (.old rfl rfl (.cells (.cons (.eqv tq rfl) (.cons (.eqv tq rfl) (.cons (.eqv tq rfl) (.cons .nl0 .nil)))))) (.cons (.old rfl rfl (.cells (.pl rfl pq))) (.cons (.old rfl rfl (.cells (.pl tq pq))) .nil))))))) fun h8 h8p => tp_ok fun h9 => tbD (fun h10 h10p => tc_ok fun s11 h11 => tp_ok fun h12 => by intro e; injection e with e; subst e; exact leafS vw_eq (k := 300) (r := []) (hs := hz [(6, [.yes]), (3, [.no, .no, .no, .no, .no, .no, .no, .no]), (7, [.yes]), (1, [.yes]), (2, [.yes]), (1, [.yes, .yes, .yes]), (1, [.yes, .yes, .val ((AV.i (exAt s0.1.map s6.2.toNat).gen)), .yes]), (1, [.yes]), (2, [.yes]), (1, [.yes]), (5, [.yes, .yes, .cells ((Ex.cells (exAt s0.1.map s6.2.toNat)))]), (1, [.fres (Ex.av (s11))]), (1, [.fc, .fc, .yes, .yes]), (4, [])]) (ks := [0, 1, 2, 3, 6, 7, 8, 9, 23, 10, 27, 11, 12, 35, 42, 13, 14]) (st1 := (St.mk [(0, (AV.ag [(AV.i s.blocks), (AV.i s.gen), (exs s.map), (AV.sl s.points.length (s.points.flatMap Po.cells)), (AV.i s.last), (bys s.staged)])), (1, (AV.i from_)), (2, (AV.i to_)), (3, (AV.pt 0 0)), (6, (AV.pt 1 0)), (7, (AV.i 0)), (8, (AV.pt 2 0)), (9, (AV.i s0.2)), (23, (AV.b (s0.2 != (0 : Int)))), (10, (AV.i s3.1.gen)), (27, (AV.b (from_ != (0 : Int)))), (11, (AV.pt 3 0)), (12, (AV.i s3.2)), (35, (AV.b (s3.2 != (0 : Int)))), (42, (AV.b (decide (from_ ≥ to_)))), (13, (AV.rf 6 5 0 (s6.1.length + (1 : Nat)))), (14, (AV.i (wr (s6.2 + (1 : Int)))))] 97 (AH.mk 7 [(6, (AObj.cells ((s6.1.flatMap Ex.cells) ++ (xc s11)))), (5, (AObj.cells (xc s11))), (3, (AObj.cells [(AV.i s3.1.id), (AV.i s3.1.gen), (exs s3.1.map)])), (2, (AObj.cells [(AV.i s0.1.id), (AV.i s0.1.gen), (exs s0.1.map)])), (1, (AObj.cells [(AV.i 0), (AV.i 0), (AV.i 0), AV.nl])), (0, (AObj.cells [(AV.i s.blocks), (AV.i s.gen), (exs s.map), (AV.sl s.points.length (s.points.flatMap Po.cells)), (AV.i s.last), (bys s.staged)])), (4, AObj.dead)]) false)) kq (ac h7 (ac h8 (ac h8 (ac h8 (ac h8 (ac h8 (ac h8 (ac h8 (ac h8 (ac (congrArg not h8) (ac (congrArg not h8) (ac (congrArg not h8) (ac (congrArg not h8) (ac h9 (ac (congrArg not h8) (ac (congrArg not h8) (ac (fq (p := ((1 : Nat) ≤ (List.length (List.drop 3 (List.drop (s6.2.toNat * 5) (s0.1.map.flatMap Ex.cells))))))) (ac (show (List.take 1 (List.drop 3 (List.drop (s6.2.toNat * 5) (s0.1.map.flatMap Ex.cells)))) = [(AV.i (exAt s0.1.map s6.2.toNat).gen)] from (by first | exact ex_one _ _ _ _ bq rfl | exact ex_oneA _ _ _ _ bq rfl | (simpa using ex_one (s0.1.map) (s6.2.toNat) 3 _ bq rfl) | ((try simp only [List.drop_drop]); rw [show ((3 : Nat) + (s6.2.toNat * 5)) = (s6.2.toNat) * 5 + 3 by omega]; exact ex_oneA (s0.1.map) (s6.2.toNat) 3 _ bq rfl))) (ac (congrArg not h8) (ac (congrArg not h8) (ac (congrArg not h8) (ac h10 (ac h9 (ac (fq (p := ((5 : Nat) ≤ (List.length (List.drop (s6.2.toNat * 5) (s0.1.map.flatMap Ex.cells)))))) (ac (show (List.take 5 (List.drop (s6.2.toNat * 5) (s0.1.map.flatMap Ex.cells))) = (Ex.cells (exAt s0.1.map s6.2.toNat)) from (ex_takeO bq bq)) (ac (r18of_ok ((exAt s0.1.map s6.2.toNat)) ((0 : Int)) _ h11).any0 (ac (tq (p := (((0 : Nat) = (0 : Nat)) ∧ ((List.length (xc s11)) = (5 : Nat))))) (ac h12 an)))))))))))))))))))))))))))) (Nat.le_of_ble_eq_true rfl) (Nat.le_of_ble_eq_true rfl) (absB_of [6] [] kq (.consn kq (.agp pq) (.consn kq (.eqv tq rfl) (.consn kq (.eqv tq rfl) (.consn kq (.pt rfl) (.consn kq (.pt rfl) (.consn kq (.eqv tq rfl) (.consn kq (.pt rfl) (.consn kq (.eqv tq rfl) (.consn kq (.eqv tq rfl) (.consn kq (.eqv tq rfl) (.consn kq (.eqv tq rfl) (.consn kq (.pt rfl) (.consn kq (.eqv tq rfl) (.consn kq (.eqv tq rfl) (.consn kq (.eqv tq rfl) (.consn kq (.rfn (n := (s6.1.length + (1 : Nat))) rfl tq) (.consn kq (.eqv tq rfl) .nil))))))))))))))))) (.cons (.old rfl rfl (.cells (.pl rfl pq))) (.cons (.old rfl rfl (.cells (.pl rfl pq))) (.cons (.old rfl rfl (.cells (.cons (.eqv tq rfl) (.cons (.eqv tq rfl) (.cons (.eqv tq rfl) (.cons .nl0 .nil)))))) (.cons (.old rfl rfl (.cells (.pl rfl pq))) (.cons (.old rfl rfl (.cells (.pl tq pq))) .nil))))))) fun h10 h10p => by intro e; injection e with e; subst e; exact leafS vw_eq (k := 300) (r := []) (hs := hz [(6, [.yes]), (3, [.no, .no, .no, .no, .no, .no, .no, .no]), (7, [.yes]), (1, [.yes]), (2, [.yes]), (1, [.yes, .yes, .yes]), (1, [.yes, .yes, .val ((AV.i (exAt s0.1.map s6.2.toNat).gen)), .yes]), (1, [.yes]), (2, [.yes]), (1, [.no]), (3, [])]) (ks := [0, 1, 2, 3, 6, 7, 8, 9, 23, 10, 27, 11, 12, 35, 42, 13, 14]) (st1 := (St.mk [(0, (AV.ag [(AV.i s.blocks), (AV.i s.gen), (exs s.map), (AV.sl s.points.length (s.points.flatMap Po.cells)), (AV.i s.last), (bys s.staged)])), (1, (AV.i from_)), (2, (AV.i to_)), (3, (AV.pt 0 0)), (6, (AV.pt 1 0)), (7, (AV.i 0)), (8, (AV.pt 2 0)), (9, (AV.i s0.2)), (23, (AV.b (s0.2 != (0 : Int)))), (10, (AV.i s3.1.gen)), (27, (AV.b (from_ != (0 : Int)))), (11, (AV.pt 3 0)), (12, (AV.i s3.2)), (35, (AV.b (s3.2 != (0 : Int)))), (42, (AV.b (decide (from_ ≥ to_)))), (13, (AV.rf 4 5 0 s6.1.length)), (14, (AV.i (wr (s6.2 + (1 : Int)))))] 97 (AH.mk 5 [(3, (AObj.cells [(AV.i s3.1.id), (AV.i s3.1.gen), (exs s3.1.map)])), (2, (AObj.cells [(AV.i s0.1.id), (AV.i s0.1.gen), (exs s0.1.map)])), (1, (AObj.cells [(AV.i 0), (AV.i 0), (AV.i 0), AV.nl])), (0, (AObj.cells [(AV.i s.blocks), (AV.i s.gen), (exs s.map), (AV.sl s.points.length (s.points.flatMap Po.cells)), (AV.i s.last), (bys s.staged)])), (4, (AObj.cells (s6.1.flatMap Ex.cells)))]) false)) kq (ac h7 (ac h8 (ac h8 (ac h8 (ac h8 (ac h8 (ac h8 (ac h8 (ac h8 (ac (congrArg not h8) (ac (congrArg not h8) (ac (congrArg not h8) (ac (congrArg not h8) (ac h9 (ac (congrArg not h8) (ac (congrArg not h8) (ac (fq (p := ((1 : Nat) ≤ (List.length (List.drop 3 (List.drop (s6.2.toNat * 5) (s0.1.map.flatMap Ex.cells))))))) (ac (show (List.take 1 (List.drop 3 (List.drop (s6.2.toNat * 5) (s0.1.map.flatMap Ex.cells)))) = [(AV.i (exAt s0.1.map s6.2.toNat).gen)] from (by first | exact ex_one _ _ _ _ bq rfl | exact ex_oneA _ _ _ _ bq rfl | (simpa using ex_one (s0.1.map) (s6.2.toNat) 3 _ bq rfl) | ((try simp only [List.drop_drop]); rw [show ((3 : Nat) + (s6.2.toNat * 5)) = (s6.2.toNat) * 5 + 3 by omega]; exact ex_oneA (s0.1.map) (s6.2.toNat) 3 _ bq rfl))) (ac (congrArg not h8) (ac (congrArg not h8) (ac (congrArg not h8) (ac h10 an)))))))))))))))))))))) (Nat.le_of_ble_eq_true rfl) (Nat.le_of_ble_eq_true rfl) (absB_of [4] [] kq (.consn kq (.agp pq) (.consn kq (.eqv tq rfl) (.consn kq (.eqv tq rfl) (.consn kq (.pt rfl) (.consn kq (.pt rfl) (.consn kq (.eqv tq rfl) (.consn kq (.pt rfl) (.consn kq (.eqv tq rfl) (.consn kq (.eqv tq rfl) (.consn kq (.eqv tq rfl) (.consn kq (.eqv tq rfl) (.consn kq (.pt rfl) (.consn kq (.eqv tq rfl) (.consn kq (.eqv tq rfl) (.consn kq (.eqv tq rfl) (.consn kq (.rfn (n := s6.1.length) rfl tq) (.consn kq (.eqv tq rfl) .nil))))))))))))))))) (.cons (.old rfl rfl (.cells (.pl rfl pq))) (.cons (.old rfl rfl (.cells (.pl rfl pq))) (.cons (.old rfl rfl (.cells (.cons (.eqv tq rfl) (.cons (.eqv tq rfl) (.cons (.eqv tq rfl) (.cons .nl0 .nil)))))) (.cons (.old rfl rfl (.cells (.pl rfl pq))) (.cons (.old rfl rfl (.cells (.pl tq pq))) .nil))))))) fun h7 h7p => tn_ok
noncomputable abbrev r18Make_L1_I (s : Sa) (from_ : Int) (to_ : Int) (s0 : Po × Int) : St := (St.mk [(0, (AV.ag [(AV.i s.blocks), (AV.i s.gen), (exs s.map), (AV.sl s.points.length (s.points.flatMap Po.cells)), (AV.i s.last), (bys s.staged)])), (1, (AV.i from_)), (2, (AV.i to_)), (3, (AV.pt 0 0)), (6, (AV.pt 1 0)), (7, (AV.i 0)), (17, (AV.ag [(AV.i s.blocks), (AV.i s.gen), (exs s.map), (AV.sl s.points.length (s.points.flatMap Po.cells)), (AV.i s.last), (bys s.staged)])), (18, (AV.i to_)), (19, (AV.tu [(AV.ag [(AV.i s0.1.id), (AV.i s0.1.gen), (exs s0.1.map)]), (AV.i s0.2)])), (16, (AV.tu [(AV.ag [(AV.i s0.1.id), (AV.i s0.1.gen), (exs s0.1.map)]), (AV.i s0.2)])), (20, (AV.ag [(AV.i s0.1.id), (AV.i s0.1.gen), (exs s0.1.map)])), (21, (AV.i s0.2)), (8, (AV.pt 2 0)), (9, (AV.i s0.2)), (22, (AV.i s0.2)), (23, (AV.b (s0.2 != (0 : Int)))), (10, (AV.i 0)), (26, (AV.i from_)), (27, (AV.b (from_ != (0 : Int)))), (40, (AV.i from_)), (41, (AV.i to_)), (42, (AV.b (decide (from_ ≥ to_)))), (13, AV.nl), (14, (AV.i 0))] 97 (AH.mk 3 [(2, (AObj.cells [(AV.i s0.1.id), (AV.i s0.1.gen), (exs s0.1.map)])), (1, (AObj.cells [(AV.i 0), (AV.i 0), (AV.i 0), AV.nl])), (0, (AObj.cells [(AV.i s.blocks), (AV.i s.gen), (exs s.map), (AV.sl s.points.length (s.points.flatMap Po.cells)), (AV.i s.last), (bys s.staged)]))]) false)
noncomputable abbrev r18Make_L1_S (s : Sa) (from_ : Int) (to_ : Int) (s0 : Po × Int) (s4 : List Ex × Int) : St := (St.mk [(0, (AV.ag [(AV.i s.blocks), (AV.i s.gen), (exs s.map), (AV.sl s.points.length (s.points.flatMap Po.cells)), (AV.i s.last), (bys s.staged)])), (1, (AV.i from_)), (2, (AV.i to_)), (3, (AV.pt 0 0)), (6, (AV.pt 1 0)), (7, (AV.i 0)), (8, (AV.pt 2 0)), (9, (AV.i s0.2)), (23, (AV.b (s0.2 != (0 : Int)))), (10, (AV.i 0)), (27, (AV.b (from_ != (0 : Int)))), (42, (AV.b (decide (from_ ≥ to_)))), (13, (AV.rf 3 5 0 s4.1.length)), (14, (AV.i s4.2))] 97 (AH.mk 4 [(2, (AObj.cells [(AV.i s0.1.id), (AV.i s0.1.gen), (exs s0.1.map)])), (1, (AObj.cells [(AV.i 0), (AV.i 0), (AV.i 0), AV.nl])), (0, (AObj.cells [(AV.i s.blocks), (AV.i s.gen), (exs s.map), (AV.sl s.points.length (s.points.flatMap Po.cells)), (AV.i s.last), (bys s.staged)])), (3, (AObj.cells (s4.1.flatMap Ex.cells)))]) false)
noncomputable def r18Make_L1_step (s : Sa) (from_ : Int) (to_ : Int) (s0 : Po × Int) (s4 : List Ex × Int) : Option (List Ex × Int) :=
 (tb ((decide (s4.2 < (s0.1.map.length : Int)))) (tb ((from_ == (0 : Int))) (tp ((((0 : Int) ≤ s4.2) ∧ (s4.2 < (s0.1.map.length : Int)))) (tb (((exAt s0.1.map s4.2.toNat).kind != (0 : Int))) (tc (r18of ((exAt s0.1.map s4.2.toNat)) ((0 : Int))) fun s9 => (tp ((((List.length (s4.1.flatMap Ex.cells)) = (s4.1.length * 5)) ∧ ((s4.1.length + (1 : Nat)) ≤ (4294967296 : Nat)))) (some (((s4.1 ++ [s9]), (wr (s4.2 + (1 : Int)))))))) (some ((s4.1, (wr (s4.2 + (1 : Int)))))))) (tp ((((0 : Int) ≤ s4.2) ∧ (s4.2 < (s0.1.map.length : Int)))) (tb ((decide ((exAt s0.1.map s4.2.toNat).gen > (0 : Int)))) (tc (r18of ((exAt s0.1.map s4.2.toNat)) ((0 : Int))) fun s9 => (tp ((((List.length (s4.1.flatMap Ex.cells)) = (s4.1.length * 5)) ∧ ((s4.1.length + (1 : Nat)) ≤ (4294967296 : Nat)))) (some (((s4.1 ++ [s9]), (wr (s4.2 + (1 : Int)))))))) (some ((s4.1, (wr (s4.2 + (1 : Int))))))))) none)
theorem r18Make_L1_ok (s : Sa) (from_ : Int) (to_ : Int) (s0 : Po × Int) (s4 zz : List Ex × Int) : r18Make_L1_step s from_ to_ s0 s4 = some zz → EvStep Try.prog cf 3 (lp Try.prog 17 0) (r18Make_L1_S s from_ to_ s0 s4) (r18Make_L1_S s from_ to_ s0 zz) := by
  unfold r18Make_L1_step
  exact tbD (fun h5 h5p => tbE (fun h6 h6p => tp_ok fun h7 => tbN (fun h8 h8p => tc_ok fun s9 h9 => tp_ok fun h10 => by intro e; injection e with e; subst e; exact leafS vw_eq (k := 300) (r := []) (hs := hz [(6, [.yes]), (3, [.yes]), (1, [.yes]), (2, [.yes]), (1, [.yes, .yes, .yes]), (1, [.yes, .yes, .val ((AV.i (exAt s0.1.map s4.2.toNat).kind)), .yes]), (1, [.yes]), (1, [.yes, .yes, .yes, .yes, .yes]), (6, [.yes, .yes, .cells ((Ex.cells (exAt s0.1.map s4.2.toNat)))]), (1, [.fres (Ex.av (s9))]), (1, [.fc, .fc, .yes, .yes]), (4, [])]) (ks := [0, 1, 2, 3, 6, 7, 8, 9, 23, 10, 27, 42, 13, 14]) (st1 := (St.mk [(0, (AV.ag [(AV.i s.blocks), (AV.i s.gen), (exs s.map), (AV.sl s.points.length (s.points.flatMap Po.cells)), (AV.i s.last), (bys s.staged)])), (1, (AV.i from_)), (2, (AV.i to_)), (3, (AV.pt 0 0)), (6, (AV.pt 1 0)), (7, (AV.i 0)), (8, (AV.pt 2 0)), (9, (AV.i s0.2)), (23, (AV.b (s0.2 != (0 : Int)))), (10, (AV.i 0)), (27, (AV.b (from_ != (0 : Int)))), (42, (AV.b (decide (from_ ≥ to_)))), (13, (AV.rf 5 5 0 (s4.1.length + (1 : Nat)))), (14, (AV.i (wr (s4.2 + (1 : Int)))))] 97 (AH.mk 6 [(5, (AObj.cells ((s4.1.flatMap Ex.cells) ++ (xc s9)))), (4, (AObj.cells (xc s9))), (2, (AObj.cells [(AV.i s0.1.id), (AV.i s0.1.gen), (exs s0.1.map)])), (1, (AObj.cells [(AV.i 0), (AV.i 0), (AV.i 0), AV.nl])), (0, (AObj.cells [(AV.i s.blocks), (AV.i s.gen), (exs s.map), (AV.sl s.points.length (s.points.flatMap Po.cells)), (AV.i s.last), (bys s.staged)])), (3, AObj.dead)]) false)) kq (ac h5 (ac h6 (ac h6 (ac h6 (ac h6 (ac h7 (ac h6 (ac h6 (ac (fq (p := ((1 : Nat) ≤ (List.length (List.drop 2 (List.drop (s4.2.toNat * 5) (s0.1.map.flatMap Ex.cells))))))) (ac (show (List.take 1 (List.drop 2 (List.drop (s4.2.toNat * 5) (s0.1.map.flatMap Ex.cells)))) = [(AV.i (exAt s0.1.map s4.2.toNat).kind)] from (by first | exact ex_one _ _ _ _ bq rfl | exact ex_oneA _ _ _ _ bq rfl | (simpa using ex_one (s0.1.map) (s4.2.toNat) 2 _ bq rfl) | ((try simp only [List.drop_drop]); rw [show ((2 : Nat) + (s4.2.toNat * 5)) = (s4.2.toNat) * 5 + 2 by omega]; exact ex_oneA (s0.1.map) (s4.2.toNat) 2 _ bq rfl))) (ac h6 (ac h6 (ac h8 (ac h8 (ac h8 (ac h8 (ac h8 (ac h7 (ac (fq (p := ((5 : Nat) ≤ (List.length (List.drop (s4.2.toNat * 5) (s0.1.map.flatMap Ex.cells)))))) (ac (show (List.take 5 (List.drop (s4.2.toNat * 5) (s0.1.map.flatMap Ex.cells))) = (Ex.cells (exAt s0.1.map s4.2.toNat)) from (ex_takeO bq bq)) (ac (r18of_ok ((exAt s0.1.map s4.2.toNat)) ((0 : Int)) _ h9).any0 (ac (tq (p := (((0 : Nat) = (0 : Nat)) ∧ ((List.length (xc s9)) = (5 : Nat))))) (ac h10 an))))))))))))))))))))))) (Nat.le_of_ble_eq_true rfl) (Nat.le_of_ble_eq_true rfl) (absB_of [5] [] kq (.consn kq (.agp pq) (.consn kq (.eqv tq rfl) (.consn kq (.eqv tq rfl) (.consn kq (.pt rfl) (.consn kq (.pt rfl) (.consn kq (.eqv tq rfl) (.consn kq (.pt rfl) (.consn kq (.eqv tq rfl) (.consn kq (.eqv tq rfl) (.consn kq (.eqv tq rfl) (.consn kq (.eqv tq rfl) (.consn kq (.eqv tq rfl) (.consn kq (.rfn (n := (s4.1.length + (1 : Nat))) rfl tq) (.consn kq (.eqv tq rfl) .nil)))))))))))))) (.cons (.old rfl rfl (.cells (.pl rfl pq))) (.cons (.old rfl rfl (.cells (.cons (.eqv tq rfl) (.cons (.eqv tq rfl) (.cons (.eqv tq rfl) (.cons .nl0 .nil)))))) (.cons (.old rfl rfl (.cells (.pl rfl pq))) (.cons (.old rfl rfl (.cells (.pl tq pq))) .nil)))))) fun h8 h8p => by intro e; injection e with e; subst e; exact leafS vw_eq (k := 300) (r := []) (hs := hz [(6, [.yes]), (3, [.yes]), (1, [.yes]), (2, [.yes]), (1, [.yes, .yes, .yes]), (1, [.yes, .yes, .val ((AV.i (exAt s0.1.map s4.2.toNat).kind)), .yes]), (1, [.yes]), (1, [.no]), (1, [.no]), (1, [.no]), (1, [.no, .no, .no, .no, .no, .no, .no, .no, .no, .no, .no]), (4, [])]) (ks := [0, 1, 2, 3, 6, 7, 8, 9, 23, 10, 27, 42, 13, 14]) (st1 := (St.mk [(0, (AV.ag [(AV.i s.blocks), (AV.i s.gen), (exs s.map), (AV.sl s.points.length (s.points.flatMap Po.cells)), (AV.i s.last), (bys s.staged)])), (1, (AV.i from_)), (2, (AV.i to_)), (3, (AV.pt 0 0)), (6, (AV.pt 1 0)), (7, (AV.i 0)), (8, (AV.pt 2 0)), (9, (AV.i s0.2)), (23, (AV.b (s0.2 != (0 : Int)))), (10, (AV.i 0)), (27, (AV.b (from_ != (0 : Int)))), (42, (AV.b (decide (from_ ≥ to_)))), (13, (AV.rf 3 5 0 s4.1.length)), (14, (AV.i (wr (s4.2 + (1 : Int)))))] 97 (AH.mk 4 [(2, (AObj.cells [(AV.i s0.1.id), (AV.i s0.1.gen), (exs s0.1.map)])), (1, (AObj.cells [(AV.i 0), (AV.i 0), (AV.i 0), AV.nl])), (0, (AObj.cells [(AV.i s.blocks), (AV.i s.gen), (exs s.map), (AV.sl s.points.length (s.points.flatMap Po.cells)), (AV.i s.last), (bys s.staged)])), (3, (AObj.cells (s4.1.flatMap Ex.cells)))]) false)) kq (ac h5 (ac h6 (ac h6 (ac h6 (ac h6 (ac h7 (ac h6 (ac h6 (ac (fq (p := ((1 : Nat) ≤ (List.length (List.drop 2 (List.drop (s4.2.toNat * 5) (s0.1.map.flatMap Ex.cells))))))) (ac (show (List.take 1 (List.drop 2 (List.drop (s4.2.toNat * 5) (s0.1.map.flatMap Ex.cells)))) = [(AV.i (exAt s0.1.map s4.2.toNat).kind)] from (by first | exact ex_one _ _ _ _ bq rfl | exact ex_oneA _ _ _ _ bq rfl | (simpa using ex_one (s0.1.map) (s4.2.toNat) 2 _ bq rfl) | ((try simp only [List.drop_drop]); rw [show ((2 : Nat) + (s4.2.toNat * 5)) = (s4.2.toNat) * 5 + 2 by omega]; exact ex_oneA (s0.1.map) (s4.2.toNat) 2 _ bq rfl))) (ac h6 (ac h6 (ac h8 (ac h8 (ac h8 (ac (congrArg not h6) (ac (congrArg not h6) (ac (congrArg not h6) (ac (congrArg not h6) (ac (congrArg not h6) (ac (congrArg not h6) (ac (congrArg not h6) (ac (congrArg not h6) (ac h8 (ac (congrArg not h6) (ac h8 an)))))))))))))))))))))))))) (Nat.le_of_ble_eq_true rfl) (Nat.le_of_ble_eq_true rfl) (absB_of [3] [] kq (.consn kq (.agp pq) (.consn kq (.eqv tq rfl) (.consn kq (.eqv tq rfl) (.consn kq (.pt rfl) (.consn kq (.pt rfl) (.consn kq (.eqv tq rfl) (.consn kq (.pt rfl) (.consn kq (.eqv tq rfl) (.consn kq (.eqv tq rfl) (.consn kq (.eqv tq rfl) (.consn kq (.eqv tq rfl) (.consn kq (.eqv tq rfl) (.consn kq (.rfn (n := s4.1.length) rfl tq) (.consn kq (.eqv tq rfl) .nil)))))))))))))) (.cons (.old rfl rfl (.cells (.pl rfl pq))) (.cons (.old rfl rfl (.cells (.cons (.eqv tq rfl) (.cons (.eqv tq rfl) (.cons (.eqv tq rfl) (.cons .nl0 .nil)))))) (.cons (.old rfl rfl (.cells (.pl rfl pq))) (.cons (.old rfl rfl (.cells (.pl tq pq))) .nil)))))) fun h6 h6p => tp_ok fun h7 => tbD (fun h8 h8p => tc_ok fun s9 h9 => tp_ok fun h10 => by intro e; injection e with e; subst e; exact leafS vw_eq (k := 300) (r := []) (hs := hz [(6, [.yes]), (3, [.no, .no, .no, .no, .no, .no, .no, .no]), (7, [.yes]), (1, [.yes]), (2, [.yes]), (1, [.yes, .yes, .yes]), (1, [.yes, .yes, .val ((AV.i (exAt s0.1.map s4.2.toNat).gen)), .yes]), (1, [.yes]), (2, [.yes]), (1, [.yes]), (5, [.yes, .yes, .cells ((Ex.cells (exAt s0.1.map s4.2.toNat)))]), (1, [.fres (Ex.av (s9))]), (1, [.fc, .fc, .yes, .yes]), (4, [])]) (ks := [0, 1, 2, 3, 6, 7, 8, 9, 23, 10, 27, 42, 13, 14]) (st1 := (St.mk [(0, (AV.ag [(AV.i s.blocks), (AV.i s.gen), (exs s.map), (AV.sl s.points.length (s.points.flatMap Po.cells)), (AV.i s.last), (bys s.staged)])), (1, (AV.i from_)), (2, (AV.i to_)), (3, (AV.pt 0 0)), (6, (AV.pt 1 0)), (7, (AV.i 0)), (8, (AV.pt 2 0)), (9, (AV.i s0.2)), (23, (AV.b (s0.2 != (0 : Int)))), (10, (AV.i 0)), (27, (AV.b (from_ != (0 : Int)))), (42, (AV.b (decide (from_ ≥ to_)))), (13, (AV.rf 5 5 0 (s4.1.length + (1 : Nat)))), (14, (AV.i (wr (s4.2 + (1 : Int)))))] 97 (AH.mk 6 [(5, (AObj.cells ((s4.1.flatMap Ex.cells) ++ (xc s9)))), (4, (AObj.cells (xc s9))), (2, (AObj.cells [(AV.i s0.1.id), (AV.i s0.1.gen), (exs s0.1.map)])), (1, (AObj.cells [(AV.i 0), (AV.i 0), (AV.i 0), AV.nl])), (0, (AObj.cells [(AV.i s.blocks), (AV.i s.gen), (exs s.map), (AV.sl s.points.length (s.points.flatMap Po.cells)), (AV.i s.last), (bys s.staged)])), (3, AObj.dead)]) false)) kq (ac h5 (ac h6 (ac h6 (ac h6 (ac h6 (ac h6 (ac h6 (ac h6 (ac h6 (ac (congrArg not h6) (ac (congrArg not h6) (ac (congrArg not h6) (ac (congrArg not h6) (ac h7 (ac (congrArg not h6) (ac (congrArg not h6) (ac (fq (p := ((1 : Nat) ≤ (List.length (List.drop 3 (List.drop (s4.2.toNat * 5) (s0.1.map.flatMap Ex.cells))))))) (ac (show (List.take 1 (List.drop 3 (List.drop (s4.2.toNat * 5) (s0.1.map.flatMap Ex.cells)))) = [(AV.i (exAt s0.1.map s4.2.toNat).gen)] from (by first | exact ex_one _ _ _ _ bq rfl | exact ex_oneA _ _ _ _ bq rfl | (simpa using ex_one (s0.1.map) (s4.2.toNat) 3 _ bq rfl) | ((try simp only [List.drop_drop]); rw [show ((3 : Nat) + (s4.2.toNat * 5)) = (s4.2.toNat) * 5 + 3 by omega]; exact ex_oneA (s0.1.map) (s4.2.toNat) 3 _ bq rfl))) (ac (congrArg not h6) (ac (congrArg not h6) (ac (congrArg not h6) (ac h8 (ac h7 (ac (fq (p := ((5 : Nat) ≤ (List.length (List.drop (s4.2.toNat * 5) (s0.1.map.flatMap Ex.cells)))))) (ac (show (List.take 5 (List.drop (s4.2.toNat * 5) (s0.1.map.flatMap Ex.cells))) = (Ex.cells (exAt s0.1.map s4.2.toNat)) from (ex_takeO bq bq)) (ac (r18of_ok ((exAt s0.1.map s4.2.toNat)) ((0 : Int)) _ h9).any0 (ac (tq (p := (((0 : Nat) = (0 : Nat)) ∧ ((List.length (xc s9)) = (5 : Nat))))) (ac h10 an)))))))))))))))))))))))))))) (Nat.le_of_ble_eq_true rfl) (Nat.le_of_ble_eq_true rfl) (absB_of [5] [] kq (.consn kq (.agp pq) (.consn kq (.eqv tq rfl) (.consn kq (.eqv tq rfl) (.consn kq (.pt rfl) (.consn kq (.pt rfl) (.consn kq (.eqv tq rfl) (.consn kq (.pt rfl) (.consn kq (.eqv tq rfl) (.consn kq (.eqv tq rfl) (.consn kq (.eqv tq rfl) (.consn kq (.eqv tq rfl) (.consn kq (.eqv tq rfl) (.consn kq (.rfn (n := (s4.1.length + (1 : Nat))) rfl tq) (.consn kq (.eqv tq rfl) .nil)))))))))))))) (.cons (.old rfl rfl (.cells (.pl rfl pq))) (.cons (.old rfl rfl (.cells (.cons (.eqv tq rfl) (.cons (.eqv tq rfl) (.cons (.eqv tq rfl) (.cons .nl0 .nil)))))) (.cons (.old rfl rfl (.cells (.pl rfl pq))) (.cons (.old rfl rfl (.cells (.pl tq pq))) .nil)))))) fun h8 h8p => by intro e; injection e with e; subst e; exact leafS vw_eq (k := 300) (r := []) (hs := hz [(6, [.yes]), (3, [.no, .no, .no, .no, .no, .no, .no, .no]), (7, [.yes]), (1, [.yes]), (2, [.yes]), (1, [.yes, .yes, .yes]), (1, [.yes, .yes, .val ((AV.i (exAt s0.1.map s4.2.toNat).gen)), .yes]), (1, [.yes]), (2, [.yes]), (1, [.no]), (3, [])]) (ks := [0, 1, 2, 3, 6, 7, 8, 9, 23, 10, 27, 42, 13, 14]) (st1 := (St.mk [(0, (AV.ag [(AV.i s.blocks), (AV.i s.gen), (exs s.map), (AV.sl s.points.length (s.points.flatMap Po.cells)), (AV.i s.last), (bys s.staged)])), (1, (AV.i from_)), (2, (AV.i to_)), (3, (AV.pt 0 0)), (6, (AV.pt 1 0)), (7, (AV.i 0)), (8, (AV.pt 2 0)), (9, (AV.i s0.2)), (23, (AV.b (s0.2 != (0 : Int)))), (10, (AV.i 0)), (27, (AV.b (from_ != (0 : Int)))), (42, (AV.b (decide (from_ ≥ to_)))), (13, (AV.rf 3 5 0 s4.1.length)), (14, (AV.i (wr (s4.2 + (1 : Int)))))] 97 (AH.mk 4 [(2, (AObj.cells [(AV.i s0.1.id), (AV.i s0.1.gen), (exs s0.1.map)])), (1, (AObj.cells [(AV.i 0), (AV.i 0), (AV.i 0), AV.nl])), (0, (AObj.cells [(AV.i s.blocks), (AV.i s.gen), (exs s.map), (AV.sl s.points.length (s.points.flatMap Po.cells)), (AV.i s.last), (bys s.staged)])), (3, (AObj.cells (s4.1.flatMap Ex.cells)))]) false)) kq (ac h5 (ac h6 (ac h6 (ac h6 (ac h6 (ac h6 (ac h6 (ac h6 (ac h6 (ac (congrArg not h6) (ac (congrArg not h6) (ac (congrArg not h6) (ac (congrArg not h6) (ac h7 (ac (congrArg not h6) (ac (congrArg not h6) (ac (fq (p := ((1 : Nat) ≤ (List.length (List.drop 3 (List.drop (s4.2.toNat * 5) (s0.1.map.flatMap Ex.cells))))))) (ac (show (List.take 1 (List.drop 3 (List.drop (s4.2.toNat * 5) (s0.1.map.flatMap Ex.cells)))) = [(AV.i (exAt s0.1.map s4.2.toNat).gen)] from (by first | exact ex_one _ _ _ _ bq rfl | exact ex_oneA _ _ _ _ bq rfl | (simpa using ex_one (s0.1.map) (s4.2.toNat) 3 _ bq rfl) | ((try simp only [List.drop_drop]); rw [show ((3 : Nat) + (s4.2.toNat * 5)) = (s4.2.toNat) * 5 + 3 by omega]; exact ex_oneA (s0.1.map) (s4.2.toNat) 3 _ bq rfl))) (ac (congrArg not h6) (ac (congrArg not h6) (ac (congrArg not h6) (ac h8 an)))))))))))))))))))))) (Nat.le_of_ble_eq_true rfl) (Nat.le_of_ble_eq_true rfl) (absB_of [3] [] kq (.consn kq (.agp pq) (.consn kq (.eqv tq rfl) (.consn kq (.eqv tq rfl) (.consn kq (.pt rfl) (.consn kq (.pt rfl) (.consn kq (.eqv tq rfl) (.consn kq (.pt rfl) (.consn kq (.eqv tq rfl) (.consn kq (.eqv tq rfl) (.consn kq (.eqv tq rfl) (.consn kq (.eqv tq rfl) (.consn kq (.eqv tq rfl) (.consn kq (.rfn (n := s4.1.length) rfl tq) (.consn kq (.eqv tq rfl) .nil)))))))))))))) (.cons (.old rfl rfl (.cells (.pl rfl pq))) (.cons (.old rfl rfl (.cells (.cons (.eqv tq rfl) (.cons (.eqv tq rfl) (.cons (.eqv tq rfl) (.cons .nl0 .nil)))))) (.cons (.old rfl rfl (.cells (.pl rfl pq))) (.cons (.old rfl rfl (.cells (.pl tq pq))) .nil)))))) fun h5 h5p => tn_ok
/-- Function 17, as it answers. -/
noncomputable def r18Make (s : Sa) (from_ : Int) (to_ : Int) : Option (Sm × Int) :=
 (tc (r11Point (s) (to_)) fun s0 => (tb ((s0.2 != (0 : Int))) (some (((Sm.mk 0 0 0 ([] : List Ex)), s0.2))) (tb ((from_ != (0 : Int))) (tc (r11Point (s) (from_)) fun s3 => (tb ((s3.2 != (0 : Int))) (some (((Sm.mk 0 0 0 ([] : List Ex)), s3.2))) (tb ((decide (from_ ≥ to_))) (some (((Sm.mk 0 0 0 ([] : List Ex)), (180 : Int)))) (th (r18Make_L0_step s from_ to_ s0 s3) ((([] : List Ex), (0 : Int))) fun s6 => (tb ((decide (s6.2 < (s0.1.map.length : Int)))) none (tp ((((0 : Nat) = (0 : Nat)) ∧ ((List.length (s6.1.flatMap Ex.cells)) = (s6.1.length * 5)))) (tc (rPack (s6.1)) fun s9 => (some (((Sm.mk s.blocks from_ to_ s9.1), (0 : Int))))))))))) (tb ((decide (from_ ≥ to_))) (some (((Sm.mk 0 0 0 ([] : List Ex)), (180 : Int)))) (th (r18Make_L1_step s from_ to_ s0) ((([] : List Ex), (0 : Int))) fun s4 => (tb ((decide (s4.2 < (s0.1.map.length : Int)))) none (tp ((((0 : Nat) = (0 : Nat)) ∧ ((List.length (s4.1.flatMap Ex.cells)) = (s4.1.length * 5)))) (tc (rPack (s4.1)) fun s7 => (some (((Sm.mk s.blocks from_ to_ s7.1), (0 : Int))))))))))))
abbrev r18Make_G (s : Sa) (from_ : Int) (to_ : Int) (r : Sm × Int) : Prop := EvFr Try.prog cf false 17 [Sa.av (s), .i (from_), .i (to_)] (.tu [Sm.av (r.1), .i (r.2)])
theorem r18Make_ok (s : Sa) (from_ : Int) (to_ : Int) (r : Sm × Int) : r18Make s from_ to_ = some r → r18Make_G s from_ to_ r := by
  unfold r18Make
  exact tc_ok fun s0 h0 => tbN (fun h1 h1p => by intro e; injection e with e; subst e; exact leafR vw_eq (k := 300) (r := []) (hs := hz [(4, [.fc]), (2, [.fres (.tu [Po.av (s0.1), .i (s0.2)])]), (5, [.fc]), (3, [.yes]), (3, [.fc]), (2, [.fc])]) (raw := (AV.tu [(AV.ag [(AV.i 0), (AV.i 0), (AV.i 0), (AV.sl 0 ([] : List AV))]), (AV.i s0.2)])) kq (ac (r11Point_ok (s) (to_) _ h0) (ac h1 an)) tq) fun h1 h1p => tbN (fun h2 h2p => tc_ok fun s3 h3 => tbN (fun h4 h4p => by intro e; injection e with e; subst e; exact leafR vw_eq (k := 300) (r := []) (hs := hz [(4, [.fc]), (2, [.fres (.tu [Po.av (s0.1), .i (s0.2)])]), (5, [.fc]), (3, [.no]), (3, [.yes]), (1, [.fc]), (2, [.fres (.tu [Po.av (s3.1), .i (s3.2)])]), (5, [.fc]), (3, [.yes]), (3, [.fc]), (2, [.fc])]) (raw := (AV.tu [(AV.ag [(AV.i 0), (AV.i 0), (AV.i 0), (AV.sl 0 ([] : List AV))]), (AV.i s3.2)])) kq (ac (r11Point_ok (s) (to_) _ h0) (ac h1 (ac h2 (ac (r11Point_ok (s) (from_) _ h3) (ac h4 an))))) tq) fun h4 h4p => tbD (fun h5 h5p => by intro e; injection e with e; subst e; exact leafR vw_eq (k := 300) (r := []) (hs := hz [(4, [.fc]), (2, [.fres (.tu [Po.av (s0.1), .i (s0.2)])]), (5, [.fc]), (3, [.no]), (3, [.yes]), (1, [.fc]), (2, [.fres (.tu [Po.av (s3.1), .i (s3.2)])]), (5, [.fc]), (3, [.no]), (7, [.yes]), (2, [.fc]), (2, [.fc])]) (raw := (AV.tu [(AV.ag [(AV.i 0), (AV.i 0), (AV.i 0), (AV.sl 0 ([] : List AV))]), (AV.i 180)])) kq (ac (r11Point_ok (s) (to_) _ h0) (ac h1 (ac h2 (ac (r11Point_ok (s) (from_) _ h3) (ac h4 (ac h5 an)))))) tq) fun h5 h5p => th_ok fun s6 h6 => tbD (fun h7 h7p => tn_ok) fun h7 h7p => tp_ok fun h8 => tc_ok fun s9 h9 => by intro e; injection e with e; subst e; exact leafR vw_eq (k := 300) (r := []) (hs := hz [(4, [.fc]), (2, [.fres (.tu [Po.av (s0.1), .i (s0.2)])]), (5, [.fc]), (3, [.no]), (3, [.yes]), (1, [.fc]), (2, [.fres (.tu [Po.av (s3.1), .i (s3.2)])]), (5, [.fc]), (3, [.no]), (7, [.no]), (2, [.head (r18Make_L0_S s from_ to_ s0 s3 s6)]), (6, [.no]), (8, [.fc]), (2, [.yes, .yes, .fres (.tu [exs (s9.1), .i (s9.2)])]), (5, [.fc]), (1, [.fc]), (1, [.fc]), (2, [.fc])]) (raw := (AV.tu [(AV.ag [(AV.i s.blocks), (AV.i from_), (AV.i to_), (exs s9.1)]), (AV.i 0)])) kq (ac (r11Point_ok (s) (to_) _ h0) (ac h1 (ac h2 (ac (r11Point_ok (s) (from_) _ h3) (ac h4 (ac h5 (ac (show EvHead Try.prog cf (lp Try.prog 17 0) (r18Make_L0_I s from_ to_ s0 s3) (r18Make_L0_S s from_ to_ s0 s3 s6) from (EvHead.of (r18Make_L0_ok s from_ to_ s0 s3) (absB_of [4] [] kq (.consn kq (.agp pq) (.consn kq (.eqv tq rfl) (.consn kq (.eqv tq rfl) (.consn kq (.pt rfl) (.consn kq (.pt rfl) (.consn kq (.eqv tq rfl) (.consn kq (.pt rfl) (.consn kq (.eqv tq rfl) (.consn kq (.eqv tq rfl) (.consn kq (.eqv tq rfl) (.consn kq (.eqv tq rfl) (.consn kq (.pt rfl) (.consn kq (.eqv tq rfl) (.consn kq (.eqv tq rfl) (.consn kq (.eqv tq rfl) (.consn kq (.nln tq) (.consn kq (.eqv tq rfl) .nil))))))))))))))))) (.cons (.old rfl rfl (.cells (.pl rfl pq))) (.cons (.old rfl rfl (.cells (.pl rfl pq))) (.cons (.old rfl rfl (.cells (.cons (.eqv tq rfl) (.cons (.eqv tq rfl) (.cons (.eqv tq rfl) (.cons .nl0 .nil)))))) (.cons (.old rfl rfl (.cells (.pl rfl pq))) (.cons (.none rfl (Nat.le_refl _) rfl) .nil)))))) h6)) (ac h7 (ac h8 (ac (pq (p := Pl false ((s6.1.flatMap Ex.cells)))) (ac (rPack_ok (s6.1) _ h9) an))))))))))) tq) fun h2 h2p => tbD (fun h3 h3p => by intro e; injection e with e; subst e; exact leafR vw_eq (k := 300) (r := []) (hs := hz [(4, [.fc]), (2, [.fres (.tu [Po.av (s0.1), .i (s0.2)])]), (5, [.fc]), (3, [.no]), (3, [.no]), (3, [.yes]), (2, [.fc]), (2, [.fc])]) (raw := (AV.tu [(AV.ag [(AV.i 0), (AV.i 0), (AV.i 0), (AV.sl 0 ([] : List AV))]), (AV.i 180)])) kq (ac (r11Point_ok (s) (to_) _ h0) (ac h1 (ac h2 (ac h3 an)))) tq) fun h3 h3p => th_ok fun s4 h4 => tbD (fun h5 h5p => tn_ok) fun h5 h5p => tp_ok fun h6 => tc_ok fun s7 h7 => by intro e; injection e with e; subst e; exact leafR vw_eq (k := 300) (r := []) (hs := hz [(4, [.fc]), (2, [.fres (.tu [Po.av (s0.1), .i (s0.2)])]), (5, [.fc]), (3, [.no]), (3, [.no]), (3, [.no]), (2, [.head (r18Make_L1_S s from_ to_ s0 s4)]), (6, [.no]), (8, [.fc]), (2, [.yes, .yes, .fres (.tu [exs (s7.1), .i (s7.2)])]), (5, [.fc]), (1, [.fc]), (1, [.fc]), (2, [.fc])]) (raw := (AV.tu [(AV.ag [(AV.i s.blocks), (AV.i from_), (AV.i to_), (exs s7.1)]), (AV.i 0)])) kq (ac (r11Point_ok (s) (to_) _ h0) (ac h1 (ac h2 (ac h3 (ac (show EvHead Try.prog cf (lp Try.prog 17 0) (r18Make_L1_I s from_ to_ s0) (r18Make_L1_S s from_ to_ s0 s4) from (EvHead.of (r18Make_L1_ok s from_ to_ s0) (absB_of [3] [] kq (.consn kq (.agp pq) (.consn kq (.eqv tq rfl) (.consn kq (.eqv tq rfl) (.consn kq (.pt rfl) (.consn kq (.pt rfl) (.consn kq (.eqv tq rfl) (.consn kq (.pt rfl) (.consn kq (.eqv tq rfl) (.consn kq (.eqv tq rfl) (.consn kq (.eqv tq rfl) (.consn kq (.eqv tq rfl) (.consn kq (.eqv tq rfl) (.consn kq (.nln tq) (.consn kq (.eqv tq rfl) .nil)))))))))))))) (.cons (.old rfl rfl (.cells (.pl rfl pq))) (.cons (.old rfl rfl (.cells (.cons (.eqv tq rfl) (.cons (.eqv tq rfl) (.cons (.eqv tq rfl) (.cons .nl0 .nil)))))) (.cons (.old rfl rfl (.cells (.pl rfl pq))) (.cons (.none rfl (Nat.le_refl _) rfl) .nil))))) h4)) (ac h5 (ac h6 (ac (pq (p := Pl false ((s4.1.flatMap Ex.cells)))) (ac (rPack_ok (s4.1) _ h7) an))))))))) tq
/-- Function 18, as it answers. -/
noncomputable def r17Same (a : Sm) (b : Sm) : Option (Bool) :=
 (tc (r7All (a.list) (b.list)) fun s0 => (tb ((a.blocks == b.blocks)) (tb ((a.parent == b.parent)) (tb ((a.target == b.target)) (some (s0)) (some (false))) (some (false))) (some (false))))
abbrev r17Same_G (a : Sm) (b : Sm) (r : Bool) : Prop := EvFr Try.prog cf true 18 [Sm.av (a), Sm.av (b)] (.b (r))
theorem r17Same_ok (a : Sm) (b : Sm) (r : Bool) : r17Same a b = some r → r17Same_G a b r := by
  unfold r17Same
  exact tc_ok fun s0 h0 => tbE (fun h1 h1p => tbE (fun h2 h2p => tbE (fun h3 h3p => by intro e; injection e with e; subst e; exact leafR vw_eq (k := 300) (r := []) (hs := hz [(10, [.fres (.b (s0))]), (9, [.yes]), (1, [.yes]), (2, [.yes]), (1, [.yes]), (2, [.yes]), (1, [.yes]), (1, [.yes]), (1, [.yes]), (2, [.yes]), (1, [.yes]), (2, [.yes]), (1, [.yes]), (1, [.yes]), (1, [.yes]), (1, [])]) (raw := (AV.b s0)) kq (ac (r7All_ok (a.list) (b.list) _ h0).any0 (ac h1 (ac h1 (ac h1 (ac h1 (ac h1 (ac h1 (ac h2 (ac h2 (ac h2 (ac h2 (ac h2 (ac h2 (ac h3 (ac h3 an))))))))))))))) tq) fun h3 h3p => by intro e; injection e with e; subst e; exact leafR vw_eq (k := 300) (r := []) (hs := hz [(10, [.fres (.b (s0))]), (9, [.yes]), (1, [.yes]), (2, [.yes]), (1, [.yes]), (2, [.yes]), (1, [.yes]), (1, [.yes]), (1, [.yes]), (2, [.yes]), (1, [.yes]), (2, [.yes]), (1, [.yes]), (1, [.no, .no]), (1, [])]) (raw := (AV.b false)) kq (ac (r7All_ok (a.list) (b.list) _ h0).any0 (ac h1 (ac h1 (ac h1 (ac h1 (ac h1 (ac h1 (ac h2 (ac h2 (ac h2 (ac h2 (ac h2 (ac h2 (ac h3 (ac h3 an))))))))))))))) tq) fun h2 h2p => by intro e; injection e with e; subst e; exact leafR vw_eq (k := 300) (r := []) (hs := hz [(10, [.fres (.b (s0))]), (9, [.yes]), (1, [.yes]), (2, [.yes]), (1, [.yes]), (2, [.yes]), (1, [.yes]), (1, [.no, .no, .no, .no, .no, .no]), (4, [])]) (raw := (AV.b false)) kq (ac (r7All_ok (a.list) (b.list) _ h0).any0 (ac h1 (ac h1 (ac h1 (ac h1 (ac h1 (ac h1 (ac h2 (ac h2 (ac h2 (ac h2 (ac h2 (ac h2 an))))))))))))) tq) fun h1 h1p => by intro e; injection e with e; subst e; exact leafR vw_eq (k := 300) (r := []) (hs := hz [(10, [.fres (.b (s0))]), (9, [.no, .no, .no, .no, .no, .no]), (11, [])]) (raw := (AV.b false)) kq (ac (r7All_ok (a.list) (b.list) _ h0).any0 (ac h1 (ac h1 (ac h1 (ac h1 (ac h1 (ac h1 an))))))) tq
end Ab
end Go.Proofs.Ytpflcogplhigcaa
