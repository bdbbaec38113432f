/- The law 'ZerosPacks': it returns true, and nothing that was there changes. No condition. (Part 12 of 13.) -/
import Derived.Test.YtiaelfmohamipaaZp11
import Derived.Test.YtiaelfmohamipaaRows
namespace Go.Proofs.Ytiaelfmohamipaa
open Go Go.Proofs.Ytiaelfmohamipaa.Ab
set_option linter.unusedVariables false
set_option linter.unusedSimpArgs false
set_option maxRecDepth 1000000
namespace Ab
noncomputable abbrev lZerosPacks_L1_I (l : List Ex) (s0 : Bool) (s1 : Bool) (s3 : List Ex × Int) (s4 : Bool) (s6 : List Ex × Int) (s8 : Bool) (s10 : Int) : St := (St.mk [(0, (exs l)), (3, (AV.b s0)), (28, (AV.b (!s1))), (4, (exs s3.1)), (5, (AV.i s3.2)), (6, (AV.b s4)), (38, (AV.b (s3.2 != (0 : Int)))), (7, (exs s6.1)), (8, (AV.i s6.2)), (70, (AV.b Bool.false)), (9, (AV.i s10)), (71, (AV.i s10)), (72, (exs s3.1)), (73, (AV.i (↑(List.length s3.1) : Int))), (74, (AV.b (decide (s10 < (↑(List.length s3.1) : Int))))), (10, (AV.i 0))] 175 (AH.mk 0 ([] : List (Prod Nat AObj))) Bool.false)
noncomputable abbrev lZerosPacks_L1_S (l : List Ex) (s0 : Bool) (s1 : Bool) (s3 : List Ex × Int) (s4 : Bool) (s6 : List Ex × Int) (s8 : Bool) (s10 : Int) (s12 : Int) : St := (St.mk [(0, (exs l)), (3, (AV.b s0)), (28, (AV.b (!s1))), (4, (exs s3.1)), (5, (AV.i s3.2)), (6, (AV.b s4)), (38, (AV.b (s3.2 != (0 : Int)))), (7, (exs s6.1)), (8, (AV.i s6.2)), (70, (AV.b Bool.false)), (9, (AV.i s10)), (74, (AV.b (decide (s10 < (↑(List.length s3.1) : Int))))), (10, (AV.i s12))] 175 (AH.mk 0 ([] : List (Prod Nat AObj))) Bool.false)
noncomputable def lZerosPacks_L1_step (l : List Ex) (s0 : Bool) (s1 : Bool) (s3 : List Ex × Int) (s4 : Bool) (s6 : List Ex × Int) (s8 : Bool) (s10 : Int) (s12 : Int) : Option (Int) :=
 (tp ((((0 : Int) ≤ s10) ∧ (s10 < (↑(List.length s3.1) : Int))))
  (tb ((decide ((wr (s12 + (32 : Int))) ≤ (↑(List.length (exAt s3.1 (Int.toNat s10)).d) : Int))))
   (tp (((0 : Int) ≤ s12))
    (tp (((0 : Int) ≤ (wr (s12 + (32 : Int)))))
     (tp ((((Int.toNat s12) ≤ (Int.toNat (wr (s12 + (32 : Int))))) ∧ (((Int.toNat (wr (s12 + (32 : Int)))) ≤ (List.length (exAt s3.1 (Int.toNat s10)).d)) ∧ ((List.length (List.map AV.y (exAt s3.1 (Int.toNat s10)).d)) = ((List.length (exAt s3.1 (Int.toNat s10)).d) * (1 : Nat))))))
      (tc (pIs ((List.take (((Int.toNat (wr (s12 + (32 : Int)))) - (Int.toNat s12)) * (1 : Nat)) (List.drop ((Int.toNat s12) * (1 : Nat)) (exAt s3.1 (Int.toNat s10)).d)))) fun s18 =>
       (tb (s18)
        none /- exit -/
        (some ((wr (s12 + (32 : Int))))))))))
   none /- exit -/))
theorem lZerosPacks_L1_s0 (l : List Ex) (s0 : Bool) (s1 : Bool) (s3 : List Ex × Int) (s4 : Bool) (s6 : List Ex × Int) (s8 : Bool) (s10 : Int) (s12 : Int) (h13 : (((0 : Int) ≤ s10) ∧ (s10 < (↑(List.length s3.1) : Int)))) (h14 : ((decide ((wr (s12 + (32 : Int))) ≤ (↑(List.length (exAt s3.1 (Int.toNat s10)).d) : Int)))) = true) (h14p : ((wr (s12 + (32 : Int))) ≤ (↑(List.length (exAt s3.1 (Int.toNat s10)).d) : Int))) (h15 : ((0 : Int) ≤ s12)) (h16 : ((0 : Int) ≤ (wr (s12 + (32 : Int))))) (h17 : (((Int.toNat s12) ≤ (Int.toNat (wr (s12 + (32 : Int))))) ∧ (((Int.toNat (wr (s12 + (32 : Int)))) ≤ (List.length (exAt s3.1 (Int.toNat s10)).d)) ∧ ((List.length (List.map AV.y (exAt s3.1 (Int.toNat s10)).d)) = ((List.length (exAt s3.1 (Int.toNat s10)).d) * (1 : Nat)))))) (s18 : Bool) (h18 : pIs ((List.take (((Int.toNat (wr (s12 + (32 : Int)))) - (Int.toNat s12)) * (1 : Nat)) (List.drop ((Int.toNat s12) * (1 : Nat)) (exAt s3.1 (Int.toNat s10)).d))) = some s18) (h19 : (s18) = false) : EvStep Try.prog cf 0 (lp Try.prog 6 1) (lZerosPacks_L1_S l s0 s1 s3 s4 s6 s8 s10 s12) (lZerosPacks_L1_S l s0 s1 s3 s4 s6 s8 s10 ((wr (s12 + (32 : Int))))) :=
  leafS vw_eq (k := 300) (r := []) (hs := hz [(4, [.yes]), (1, [.yes, .val ((bys (exAt s3.1 (Int.toNat s10)).d))]), (2, [.yes]), (2, [.yes]), (1, [.yes, .val ((bys (exAt s3.1 (Int.toNat s10)).d))]), (3, [.yes, .yes, .yes]), (1, [.fres (.b (s18)), .no]), (3, [])]) (st1 := (St.mk [(0, (exs l)), (3, (AV.b s0)), (28, (AV.b (!s1))), (4, (exs s3.1)), (5, (AV.i s3.2)), (6, (AV.b s4)), (38, (AV.b (s3.2 != (0 : Int)))), (7, (exs s6.1)), (8, (AV.i s6.2)), (70, (AV.b Bool.false)), (9, (AV.i s10)), (74, (AV.b (decide (s10 < (↑(List.length s3.1) : Int))))), (10, (AV.i (wr (s12 + (32 : Int))))), (77, (AV.i s12)), (78, (AV.i (wr (s12 + (32 : Int))))), (79, (exs s3.1)), (80, (AV.i s10)), (81, (AV.ip (List.drop ((Int.toNat s10) * (5 : Nat)) (List.flatMap Ex.cells s3.1)))), (82, (AV.ip (List.drop 4 (List.drop ((Int.toNat s10) * (5 : Nat)) (List.flatMap Ex.cells s3.1))))), (83, (bys (exAt s3.1 (Int.toNat s10)).d)), (84, (AV.i (↑(List.length (exAt s3.1 (Int.toNat s10)).d) : Int))), (85, (AV.b (decide ((wr (s12 + (32 : Int))) ≤ (↑(List.length (exAt s3.1 (Int.toNat s10)).d) : Int))))), (88, (exs s3.1)), (89, (AV.i s10)), (90, (AV.ip (List.drop ((Int.toNat s10) * (5 : Nat)) (List.flatMap Ex.cells s3.1)))), (91, (AV.ip (List.drop 4 (List.drop ((Int.toNat s10) * (5 : Nat)) (List.flatMap Ex.cells s3.1))))), (92, (bys (exAt s3.1 (Int.toNat s10)).d)), (93, (AV.i s12)), (94, (AV.i s12)), (95, (AV.i (wr (s12 + (32 : Int))))), (96, (AV.sl ((Int.toNat (wr (s12 + (32 : Int)))) - (Int.toNat s12)) (List.take (((Int.toNat (wr (s12 + (32 : Int)))) - (Int.toNat s12)) * (1 : Nat)) (List.drop ((Int.toNat s12) * (1 : Nat)) (List.map AV.y (exAt s3.1 (Int.toNat s10)).d))))), (97, (AV.b s18)), (86, (AV.i s12)), (87, (AV.i (wr (s12 + (32 : Int)))))] 175 (AH.mk 0 ([] : List (Prod Nat AObj))) Bool.false)) kq (ac h13 (ac (fq (p := ((1 : Nat) ≤ (List.length (List.drop 4 (List.drop ((Int.toNat s10) * (5 : Nat)) (List.flatMap Ex.cells s3.1))))))) (ac (show (List.take 1 (List.drop 4 (List.drop ((Int.toNat s10) * (5 : Nat)) (List.flatMap Ex.cells s3.1)))) = [(bys (exAt s3.1 (Int.toNat s10)).d)] from (by first | exact ex_one _ _ _ _ bq rfl | exact ex_oneA _ _ _ _ bq rfl | (simpa using ex_one (s3.1) ((Int.toNat s10)) 4 _ bq rfl) | ((try simp only [List.drop_drop]); rw [show ((4 : Nat) + ((Int.toNat s10) * (5 : Nat))) = ((Int.toNat s10)) * 5 + 4 by omega]; exact ex_oneA (s3.1) ((Int.toNat s10)) 4 _ bq rfl))) (ac h14 (ac h13 (ac (fq (p := ((1 : Nat) ≤ (List.length (List.drop 4 (List.drop ((Int.toNat s10) * (5 : Nat)) (List.flatMap Ex.cells s3.1))))))) (ac (show (List.take 1 (List.drop 4 (List.drop ((Int.toNat s10) * (5 : Nat)) (List.flatMap Ex.cells s3.1)))) = [(bys (exAt s3.1 (Int.toNat s10)).d)] from (by first | exact ex_one _ _ _ _ bq rfl | exact ex_oneA _ _ _ _ bq rfl | (simpa using ex_one (s3.1) ((Int.toNat s10)) 4 _ bq rfl) | ((try simp only [List.drop_drop]); rw [show ((4 : Nat) + ((Int.toNat s10) * (5 : Nat))) = ((Int.toNat s10)) * 5 + 4 by omega]; exact ex_oneA (s3.1) ((Int.toNat s10)) 4 _ bq rfl))) (ac h15 (ac h16 (ac h17 (ac (show EvFr Try.prog cf Bool.false 17 [(AV.sl ((Int.toNat (wr (s12 + (32 : Int)))) - (Int.toNat s12)) (List.take (((Int.toNat (wr (s12 + (32 : Int)))) - (Int.toNat s12)) * (1 : Nat)) (List.drop ((Int.toNat s12) * (1 : Nat)) (List.map AV.y (exAt s3.1 (Int.toNat s10)).d))))] (.b (s18)) from ((pIs_ok ((List.take (((Int.toNat (wr (s12 + (32 : Int)))) - (Int.toNat s12)) * (1 : Nat)) (List.drop ((Int.toNat s12) * (1 : Nat)) (exAt s3.1 (Int.toNat s10)).d))) _ h18).any.cast tq)) (ac h19 an)))))))))))) (Nat.le_of_ble_eq_true rfl) (absB_of [] [] kq (.consn kq (.eqv tq rfl) (.consn kq (.eqv tq rfl) (.consn kq (.eqv tq rfl) (.consn kq (.eqv tq rfl) (.consn kq (.eqv tq rfl) (.consn kq (.eqv tq rfl) (.consn kq (.eqv tq rfl) (.consn kq (.eqv tq rfl) (.consn kq (.eqv tq rfl) (.consn kq (.eqv tq rfl) (.consn kq (.eqv tq rfl) (.consn kq (.eqv tq rfl) (.consn kq (.eqv tq rfl) .nil))))))))))))) .nil)
theorem lZerosPacks_L1_ok (l : List Ex) (s0 : Bool) (s1 : Bool) (s3 : List Ex × Int) (s4 : Bool) (s6 : List Ex × Int) (s8 : Bool) (s10 : Int) (s12 zz : Int) : lZerosPacks_L1_step l s0 s1 s3 s4 s6 s8 s10 s12 = some zz → EvStep Try.prog cf 0 (lp Try.prog 6 1) (lZerosPacks_L1_S l s0 s1 s3 s4 s6 s8 s10 s12) (lZerosPacks_L1_S l s0 s1 s3 s4 s6 s8 s10 zz) := by
  unfold lZerosPacks_L1_step
  refine tp_ok (fun h13 => ?_)
  refine tb_ok (fun h14 => ?_) (fun h14 => ?_)
  ·
    have h14p := of_decide_eq_true h14
    refine tp_ok (fun h15 => ?_)
    refine tp_ok (fun h16 => ?_)
    refine tp_ok (fun h17 => ?_)
    refine tc_ok (fun s18 h18 => ?_)
    refine tb_ok (fun h19 => ?_) (fun h19 => ?_)
    ·
      exact fun e => nomatch e
    ·
      exact fun e => tl_ok (G := (fun zz => EvStep Try.prog cf 0 (lp Try.prog 6 1) (lZerosPacks_L1_S l s0 s1 s3 s4 s6 s8 s10 s12) (lZerosPacks_L1_S l s0 s1 s3 s4 s6 s8 s10 zz))) (lZerosPacks_L1_s0 l s0 s1 s3 s4 s6 s8 s10 s12 h13 h14 h14p h15 h16 h17 s18 h18 h19) e
  ·
    have h14p := of_decide_eq_false h14
    exact fun e => nomatch e
noncomputable abbrev lZerosPacks_L0_I (l : List Ex) (s0 : Bool) (s1 : Bool) (s3 : List Ex × Int) (s4 : Bool) (s6 : List Ex × Int) (s8 : Bool) : St := (St.mk [(0, (exs l)), (2, (AV.b Bool.false)), (25, (AV.b s0)), (3, (AV.b s0)), (26, (exs l)), (27, (AV.b s1)), (28, (AV.b (!s1))), (31, (exs l)), (32, (AV.tu [(exs s3.1), (AV.i s3.2)])), (30, (AV.tu [(exs s3.1), (AV.i s3.2)])), (33, (exs s3.1)), (34, (AV.i s3.2)), (4, (exs s3.1)), (5, (AV.i s3.2)), (35, (exs l)), (36, (AV.b s4)), (6, (AV.b s4)), (37, (AV.i s3.2)), (38, (AV.b (s3.2 != (0 : Int)))), (50, (exs s3.1)), (51, (AV.tu [(exs s6.1), (AV.i s6.2)])), (49, (AV.tu [(exs s6.1), (AV.i s6.2)])), (52, (exs s6.1)), (53, (AV.i s6.2)), (7, (exs s6.1)), (8, (AV.i s6.2)), (54, (AV.i s6.2)), (55, (AV.b (s6.2 == (0 : Int)))), (56, (AV.b (s6.2 == (0 : Int)))), (57, (exs s3.1)), (58, (exs s6.1)), (59, (AV.b s8)), (60, (AV.b (!s8))), (61, (AV.b (!s8))), (62, (AV.b (!s8))), (63, (AV.i s6.2)), (64, (AV.b (s6.2 != (0 : Int)))), (65, (AV.b (s6.2 != (0 : Int)))), (66, (AV.tu ([] : List AV))), (67, (AV.tu ([] : List AV))), (68, (AV.tu ([] : List AV))), (69, (AV.b Bool.false)), (70, (AV.b Bool.false)), (9, (AV.i 0))] 175 (AH.mk 0 ([] : List (Prod Nat AObj))) Bool.false)
noncomputable abbrev lZerosPacks_L0_S (l : List Ex) (s0 : Bool) (s1 : Bool) (s3 : List Ex × Int) (s4 : Bool) (s6 : List Ex × Int) (s8 : Bool) (s10 : Int) : St := (St.mk [(0, (exs l)), (3, (AV.b s0)), (28, (AV.b (!s1))), (4, (exs s3.1)), (5, (AV.i s3.2)), (6, (AV.b s4)), (38, (AV.b (s3.2 != (0 : Int)))), (7, (exs s6.1)), (8, (AV.i s6.2)), (70, (AV.b Bool.false)), (9, (AV.i s10))] 175 (AH.mk 0 ([] : List (Prod Nat AObj))) Bool.false)
noncomputable def lZerosPacks_L0_step (l : List Ex) (s0 : Bool) (s1 : Bool) (s3 : List Ex × Int) (s4 : Bool) (s6 : List Ex × Int) (s8 : Bool) (s10 : Int) : Option (Int) :=
 (tb ((decide (s10 < (↑(List.length s3.1) : Int))))
  (th (lZerosPacks_L1_step l s0 s1 s3 s4 s6 s8 s10) ((0 : Int)) fun s12 =>
   (tp ((((0 : Int) ≤ s10) ∧ (s10 < (↑(List.length s3.1) : Int))))
    (tb ((decide ((wr (s12 + (32 : Int))) ≤ (↑(List.length (exAt s3.1 (Int.toNat s10)).d) : Int))))
     none /- dead -/
     (tb ((decide (s10 > (0 : Int))))
      (tp ((((0 : Int) ≤ (wr (s10 - (1 : Int)))) ∧ ((wr (s10 - (1 : Int))) < (↑(List.length s3.1) : Int))))
       (tc (eJoins ((exAt s3.1 (Int.toNat (wr (s10 - (1 : Int)))))) ((exAt s3.1 (Int.toNat s10)))) fun s17 =>
        (tb (s17)
         none /- exit -/
         (some ((wr (s10 + (1 : Int))))))))
      (some ((wr (s10 + (1 : Int)))))))))
  none /- exit -/)
theorem lZerosPacks_L0_s0 (l : List Ex) (s0 : Bool) (s1 : Bool) (s3 : List Ex × Int) (s4 : Bool) (s6 : List Ex × Int) (s8 : Bool) (s10 : Int) (h11 : ((decide (s10 < (↑(List.length s3.1) : Int)))) = true) (h11p : (s10 < (↑(List.length s3.1) : Int))) (s12 : Int) (h12 : Runs (lZerosPacks_L1_step l s0 s1 s3 s4 s6 s8 s10) ((0 : Int)) s12) (h13 : (((0 : Int) ≤ s10) ∧ (s10 < (↑(List.length s3.1) : Int)))) (h14 : ((decide ((wr (s12 + (32 : Int))) ≤ (↑(List.length (exAt s3.1 (Int.toNat s10)).d) : Int)))) = false) (h14p : ¬ ((wr (s12 + (32 : Int))) ≤ (↑(List.length (exAt s3.1 (Int.toNat s10)).d) : Int))) (h15 : ((decide (s10 > (0 : Int)))) = true) (h15p : (s10 > (0 : Int))) (h16 : (((0 : Int) ≤ (wr (s10 - (1 : Int)))) ∧ ((wr (s10 - (1 : Int))) < (↑(List.length s3.1) : Int)))) (s17 : Bool) (h17 : eJoins ((exAt s3.1 (Int.toNat (wr (s10 - (1 : Int)))))) ((exAt s3.1 (Int.toNat s10))) = some s17) (h18 : (s17) = false) : EvStep Try.prog cf 0 (lp Try.prog 6 0) (lZerosPacks_L0_S l s0 s1 s3 s4 s6 s8 s10) (lZerosPacks_L0_S l s0 s1 s3 s4 s6 s8 ((wr (s10 + (1 : Int))))) :=
  leafS vw_eq (k := 300) (r := []) (hs := hz [(4, [.yes]), (1, [.head (lZerosPacks_L1_S l s0 s1 s3 s4 s6 s8 s10 s12)]), (4, [.yes]), (1, [.yes, .val ((bys (exAt s3.1 (Int.toNat s10)).d))]), (2, [.no]), (3, [.yes]), (1, [.yes]), (1, [.yes]), (1, [.yes, .yes, .yes, .yes, .cells ((Ex.cells (exAt s3.1 (Int.toNat (wr (s10 - (1 : Int))))))), .yes]), (1, [.yes]), (1, [.yes, .yes, .yes, .yes, .cells ((Ex.cells (exAt s3.1 (Int.toNat s10)))), .yes]), (1, [.fres (.b (s17)), .yes, .yes, .no]), (3, [])]) (st1 := (St.mk [(0, (exs l)), (3, (AV.b s0)), (28, (AV.b (!s1))), (4, (exs s3.1)), (5, (AV.i s3.2)), (6, (AV.b s4)), (38, (AV.b (s3.2 != (0 : Int)))), (7, (exs s6.1)), (8, (AV.i s6.2)), (70, (AV.b Bool.false)), (9, (AV.i (wr (s10 + (1 : Int))))), (74, (AV.b (decide (s10 < (↑(List.length s3.1) : Int))))), (10, (AV.i s12)), (77, (AV.i s12)), (78, (AV.i (wr (s12 + (32 : Int))))), (79, (exs s3.1)), (80, (AV.i s10)), (81, (AV.ip (List.drop ((Int.toNat s10) * (5 : Nat)) (List.flatMap Ex.cells s3.1)))), (82, (AV.ip (List.drop 4 (List.drop ((Int.toNat s10) * (5 : Nat)) (List.flatMap Ex.cells s3.1))))), (83, (bys (exAt s3.1 (Int.toNat s10)).d)), (84, (AV.i (↑(List.length (exAt s3.1 (Int.toNat s10)).d) : Int))), (85, (AV.b (decide ((wr (s12 + (32 : Int))) ≤ (↑(List.length (exAt s3.1 (Int.toNat s10)).d) : Int))))), (98, (AV.i s10)), (99, (AV.b (decide (s10 > (0 : Int))))), (100, (AV.b (decide (s10 > (0 : Int))))), (101, (exs s3.1)), (102, (AV.i s10)), (103, (AV.i (wr (s10 - (1 : Int))))), (104, (AV.ip (List.drop ((Int.toNat (wr (s10 - (1 : Int)))) * (5 : Nat)) (List.flatMap Ex.cells s3.1)))), (105, (AV.ag (xc (exAt s3.1 (Int.toNat (wr (s10 - (1 : Int)))))))), (106, (exs s3.1)), (107, (AV.i s10)), (108, (AV.ip (List.drop ((Int.toNat s10) * (5 : Nat)) (List.flatMap Ex.cells s3.1)))), (109, (AV.ag (xc (exAt s3.1 (Int.toNat s10))))), (110, (AV.b s17)), (111, (AV.b s17)), (75, (AV.i s10)), (76, (AV.i (wr (s10 + (1 : Int)))))] 175 (AH.mk 0 ([] : List (Prod Nat AObj))) Bool.false)) kq (ac h11 (ac (show EvHead Try.prog cf (lp Try.prog 6 1) (lZerosPacks_L1_I l s0 s1 s3 s4 s6 s8 s10) (lZerosPacks_L1_S l s0 s1 s3 s4 s6 s8 s10 s12) from (EvHead.of (lZerosPacks_L1_ok l s0 s1 s3 s4 s6 s8 s10) (absB_of [] [] kq (.consn kq (.eqv tq rfl) (.consn kq (.eqv tq rfl) (.consn kq (.eqv tq rfl) (.consn kq (.eqv tq rfl) (.consn kq (.eqv tq rfl) (.consn kq (.eqv tq rfl) (.consn kq (.eqv tq rfl) (.consn kq (.eqv tq rfl) (.consn kq (.eqv tq rfl) (.consn kq (.eqv tq rfl) (.consn kq (.eqv tq rfl) (.consn kq (.eqv tq rfl) (.consn kq (.eqv tq rfl) .nil))))))))))))) .nil) h12)) (ac h13 (ac (fq (p := ((1 : Nat) ≤ (List.length (List.drop 4 (List.drop ((Int.toNat s10) * (5 : Nat)) (List.flatMap Ex.cells s3.1))))))) (ac (show (List.take 1 (List.drop 4 (List.drop ((Int.toNat s10) * (5 : Nat)) (List.flatMap Ex.cells s3.1)))) = [(bys (exAt s3.1 (Int.toNat s10)).d)] from (by first | exact ex_one _ _ _ _ bq rfl | exact ex_oneA _ _ _ _ bq rfl | (simpa using ex_one (s3.1) ((Int.toNat s10)) 4 _ bq rfl) | ((try simp only [List.drop_drop]); rw [show ((4 : Nat) + ((Int.toNat s10) * (5 : Nat))) = ((Int.toNat s10)) * 5 + 4 by omega]; exact ex_oneA (s3.1) ((Int.toNat s10)) 4 _ bq rfl))) (ac h14 (ac h15 (ac h15 (ac h15 (ac h15 (ac h16 (ac h15 (ac (fq (p := ((5 : Nat) ≤ (List.length (List.drop ((Int.toNat (wr (s10 - (1 : Int)))) * (5 : Nat)) (List.flatMap Ex.cells s3.1)))))) (ac (show (List.take 5 (List.drop ((Int.toNat (wr (s10 - (1 : Int)))) * (5 : Nat)) (List.flatMap Ex.cells s3.1))) = (Ex.cells (exAt s3.1 (Int.toNat (wr (s10 - (1 : Int)))))) from (ex_takeO bq bq)) (ac h15 (ac h15 (ac h15 (ac h13 (ac h15 (ac (fq (p := ((5 : Nat) ≤ (List.length (List.drop ((Int.toNat s10) * (5 : Nat)) (List.flatMap Ex.cells s3.1)))))) (ac (show (List.take 5 (List.drop ((Int.toNat s10) * (5 : Nat)) (List.flatMap Ex.cells s3.1))) = (Ex.cells (exAt s3.1 (Int.toNat s10))) from (ex_takeO bq bq)) (ac h15 (ac (eJoins_ok ((exAt s3.1 (Int.toNat (wr (s10 - (1 : Int)))))) ((exAt s3.1 (Int.toNat s10))) _ h17).any0 (ac h15 (ac (show orderOk (rg Try.prog 6 0) = true ∧ allOk (Region.before (rg Try.prog 6 0)) [] 0 [(some [], some []), (some [], some []), (some [], some []), (some [], some []), (some [], some []), (some [], some []), (some [], some []), (some [], some []), (some [], some []), (some [], some []), (some [], some []), (some [], some []), (some [], some []), (some [], some [])] = true from (ord_of ord_6_0 bef_6_0 kq)) (ac h18 an)))))))))))))))))))))))))) (Nat.le_of_ble_eq_true rfl) (absB_of [] [] kq (.consn kq (.eqv tq rfl) (.consn kq (.eqv tq rfl) (.consn kq (.eqv tq rfl) (.consn kq (.eqv tq rfl) (.consn kq (.eqv tq rfl) (.consn kq (.eqv tq rfl) (.consn kq (.eqv tq rfl) (.consn kq (.eqv tq rfl) (.consn kq (.eqv tq rfl) (.consn kq (.eqv tq rfl) (.consn kq (.eqv tq rfl) .nil))))))))))) .nil)
theorem lZerosPacks_L0_s1 (l : List Ex) (s0 : Bool) (s1 : Bool) (s3 : List Ex × Int) (s4 : Bool) (s6 : List Ex × Int) (s8 : Bool) (s10 : Int) (h11 : ((decide (s10 < (↑(List.length s3.1) : Int)))) = true) (h11p : (s10 < (↑(List.length s3.1) : Int))) (s12 : Int) (h12 : Runs (lZerosPacks_L1_step l s0 s1 s3 s4 s6 s8 s10) ((0 : Int)) s12) (h13 : (((0 : Int) ≤ s10) ∧ (s10 < (↑(List.length s3.1) : Int)))) (h14 : ((decide ((wr (s12 + (32 : Int))) ≤ (↑(List.length (exAt s3.1 (Int.toNat s10)).d) : Int)))) = false) (h14p : ¬ ((wr (s12 + (32 : Int))) ≤ (↑(List.length (exAt s3.1 (Int.toNat s10)).d) : Int))) (h15 : ((decide (s10 > (0 : Int)))) = false) (h15p : ¬ (s10 > (0 : Int))) : EvStep Try.prog cf 0 (lp Try.prog 6 0) (lZerosPacks_L0_S l s0 s1 s3 s4 s6 s8 s10) (lZerosPacks_L0_S l s0 s1 s3 s4 s6 s8 ((wr (s10 + (1 : Int))))) :=
  leafS vw_eq (k := 300) (r := []) (hs := hz [(4, [.yes]), (1, [.head (lZerosPacks_L1_S l s0 s1 s3 s4 s6 s8 s10 s12)]), (4, [.yes]), (1, [.yes, .val ((bys (exAt s3.1 (Int.toNat s10)).d))]), (2, [.no]), (3, [.no, .no, .no, .no, .no, .no, .no, .no, .no, .no, .no, .yes]), (4, [])]) (st1 := (St.mk [(0, (exs l)), (3, (AV.b s0)), (28, (AV.b (!s1))), (4, (exs s3.1)), (5, (AV.i s3.2)), (6, (AV.b s4)), (38, (AV.b (s3.2 != (0 : Int)))), (7, (exs s6.1)), (8, (AV.i s6.2)), (70, (AV.b Bool.false)), (9, (AV.i (wr (s10 + (1 : Int))))), (74, (AV.b (decide (s10 < (↑(List.length s3.1) : Int))))), (10, (AV.i s12)), (77, (AV.i s12)), (78, (AV.i (wr (s12 + (32 : Int))))), (79, (exs s3.1)), (80, (AV.i s10)), (81, (AV.ip (List.drop ((Int.toNat s10) * (5 : Nat)) (List.flatMap Ex.cells s3.1)))), (82, (AV.ip (List.drop 4 (List.drop ((Int.toNat s10) * (5 : Nat)) (List.flatMap Ex.cells s3.1))))), (83, (bys (exAt s3.1 (Int.toNat s10)).d)), (84, (AV.i (↑(List.length (exAt s3.1 (Int.toNat s10)).d) : Int))), (85, (AV.b (decide ((wr (s12 + (32 : Int))) ≤ (↑(List.length (exAt s3.1 (Int.toNat s10)).d) : Int))))), (98, (AV.i s10)), (99, (AV.b (decide (s10 > (0 : Int))))), (100, (AV.b (decide (s10 > (0 : Int))))), (101, (AV.tu ([] : List AV))), (102, (AV.tu ([] : List AV))), (103, (AV.tu ([] : List AV))), (104, (AV.tu ([] : List AV))), (105, (AV.tu ([] : List AV))), (106, (AV.tu ([] : List AV))), (107, (AV.tu ([] : List AV))), (108, (AV.tu ([] : List AV))), (109, (AV.tu ([] : List AV))), (110, (AV.tu ([] : List AV))), (111, (AV.b Bool.false)), (75, (AV.i s10)), (76, (AV.i (wr (s10 + (1 : Int)))))] 175 (AH.mk 0 ([] : List (Prod Nat AObj))) Bool.false)) kq (ac h11 (ac (show EvHead Try.prog cf (lp Try.prog 6 1) (lZerosPacks_L1_I l s0 s1 s3 s4 s6 s8 s10) (lZerosPacks_L1_S l s0 s1 s3 s4 s6 s8 s10 s12) from (EvHead.of (lZerosPacks_L1_ok l s0 s1 s3 s4 s6 s8 s10) (absB_of [] [] kq (.consn kq (.eqv tq rfl) (.consn kq (.eqv tq rfl) (.consn kq (.eqv tq rfl) (.consn kq (.eqv tq rfl) (.consn kq (.eqv tq rfl) (.consn kq (.eqv tq rfl) (.consn kq (.eqv tq rfl) (.consn kq (.eqv tq rfl) (.consn kq (.eqv tq rfl) (.consn kq (.eqv tq rfl) (.consn kq (.eqv tq rfl) (.consn kq (.eqv tq rfl) (.consn kq (.eqv tq rfl) .nil))))))))))))) .nil) h12)) (ac h13 (ac (fq (p := ((1 : Nat) ≤ (List.length (List.drop 4 (List.drop ((Int.toNat s10) * (5 : Nat)) (List.flatMap Ex.cells s3.1))))))) (ac (show (List.take 1 (List.drop 4 (List.drop ((Int.toNat s10) * (5 : Nat)) (List.flatMap Ex.cells s3.1)))) = [(bys (exAt s3.1 (Int.toNat s10)).d)] from (by first | exact ex_one _ _ _ _ bq rfl | exact ex_oneA _ _ _ _ bq rfl | (simpa using ex_one (s3.1) ((Int.toNat s10)) 4 _ bq rfl) | ((try simp only [List.drop_drop]); rw [show ((4 : Nat) + ((Int.toNat s10) * (5 : Nat))) = ((Int.toNat s10)) * 5 + 4 by omega]; exact ex_oneA (s3.1) ((Int.toNat s10)) 4 _ bq rfl))) (ac h14 (ac h15 (ac h15 (ac h15 (ac h15 (ac h15 (ac h15 (ac h15 (ac h15 (ac h15 (ac h15 (ac h15 (ac (show orderOk (rg Try.prog 6 0) = true ∧ allOk (Region.before (rg Try.prog 6 0)) [] 0 [(some [], some []), (some [], some []), (some [], some []), (some [], some []), (some [], some []), (some [], some []), (some [], some []), (some [], some []), (some [], some []), (some [], some []), (some [], some []), (some [], some []), (some [], some []), (some [], some [])] = true from (ord_of ord_6_0 bef_6_0 kq)) an)))))))))))))))))) (Nat.le_of_ble_eq_true rfl) (absB_of [] [] kq (.consn kq (.eqv tq rfl) (.consn kq (.eqv tq rfl) (.consn kq (.eqv tq rfl) (.consn kq (.eqv tq rfl) (.consn kq (.eqv tq rfl) (.consn kq (.eqv tq rfl) (.consn kq (.eqv tq rfl) (.consn kq (.eqv tq rfl) (.consn kq (.eqv tq rfl) (.consn kq (.eqv tq rfl) (.consn kq (.eqv tq rfl) .nil))))))))))) .nil)
theorem lZerosPacks_L0_ok (l : List Ex) (s0 : Bool) (s1 : Bool) (s3 : List Ex × Int) (s4 : Bool) (s6 : List Ex × Int) (s8 : Bool) (s10 zz : Int) : lZerosPacks_L0_step l s0 s1 s3 s4 s6 s8 s10 = some zz → EvStep Try.prog cf 0 (lp Try.prog 6 0) (lZerosPacks_L0_S l s0 s1 s3 s4 s6 s8 s10) (lZerosPacks_L0_S l s0 s1 s3 s4 s6 s8 zz) := by
  unfold lZerosPacks_L0_step
  refine tb_ok (fun h11 => ?_) (fun h11 => ?_)
  ·
    have h11p := of_decide_eq_true h11
    refine th_ok (fun s12 h12 => ?_)
    refine tp_ok (fun h13 => ?_)
    refine tb_ok (fun h14 => ?_) (fun h14 => ?_)
    ·
      have h14p := of_decide_eq_true h14
      exact fun e => nomatch e
    ·
      have h14p := of_decide_eq_false h14
      refine tb_ok (fun h15 => ?_) (fun h15 => ?_)
      ·
        have h15p := of_decide_eq_true h15
        refine tp_ok (fun h16 => ?_)
        refine tc_ok (fun s17 h17 => ?_)
        refine tb_ok (fun h18 => ?_) (fun h18 => ?_)
        ·
          exact fun e => nomatch e
        ·
          exact fun e => tl_ok (G := (fun zz => EvStep Try.prog cf 0 (lp Try.prog 6 0) (lZerosPacks_L0_S l s0 s1 s3 s4 s6 s8 s10) (lZerosPacks_L0_S l s0 s1 s3 s4 s6 s8 zz))) (lZerosPacks_L0_s0 l s0 s1 s3 s4 s6 s8 s10 h11 h11p s12 h12 h13 h14 h14p h15 h15p h16 s17 h17 h18) e
      ·
        have h15p := of_decide_eq_false h15
        exact fun e => tl_ok (G := (fun zz => EvStep Try.prog cf 0 (lp Try.prog 6 0) (lZerosPacks_L0_S l s0 s1 s3 s4 s6 s8 s10) (lZerosPacks_L0_S l s0 s1 s3 s4 s6 s8 zz))) (lZerosPacks_L0_s1 l s0 s1 s3 s4 s6 s8 s10 h11 h11p s12 h12 h13 h14 h14p h15 h15p) e
  ·
    have h11p := of_decide_eq_false h11
    exact fun e => nomatch e
noncomputable abbrev lZerosPacks_L4_I (l : List Ex) (s0 : Bool) (s1 : Bool) (s3 : List Ex × Int) (s4 : Bool) (s6 : List Ex × Int) (s9 : Int) : St := (St.mk [(0, (exs l)), (3, (AV.b s0)), (28, (AV.b (!s1))), (4, (exs s3.1)), (5, (AV.i s3.2)), (6, (AV.b s4)), (38, (AV.b (s3.2 != (0 : Int)))), (7, (exs s6.1)), (8, (AV.i s6.2)), (70, (AV.b (decide ((↑(List.length s3.1) : Int) ≤ (64 : Int))))), (9, (AV.i s9)), (71, (AV.i s9)), (72, (exs s3.1)), (73, (AV.i (↑(List.length s3.1) : Int))), (74, (AV.b (decide (s9 < (↑(List.length s3.1) : Int))))), (10, (AV.i 0))] 175 (AH.mk 0 ([] : List (Prod Nat AObj))) Bool.false)
noncomputable abbrev lZerosPacks_L4_S (l : List Ex) (s0 : Bool) (s1 : Bool) (s3 : List Ex × Int) (s4 : Bool) (s6 : List Ex × Int) (s9 : Int) (s11 : Int) : St := (St.mk [(0, (exs l)), (3, (AV.b s0)), (28, (AV.b (!s1))), (4, (exs s3.1)), (5, (AV.i s3.2)), (6, (AV.b s4)), (38, (AV.b (s3.2 != (0 : Int)))), (7, (exs s6.1)), (8, (AV.i s6.2)), (70, (AV.b (decide ((↑(List.length s3.1) : Int) ≤ (64 : Int))))), (9, (AV.i s9)), (74, (AV.b (decide (s9 < (↑(List.length s3.1) : Int))))), (10, (AV.i s11))] 175 (AH.mk 0 ([] : List (Prod Nat AObj))) Bool.false)
noncomputable def lZerosPacks_L4_step (l : List Ex) (s0 : Bool) (s1 : Bool) (s3 : List Ex × Int) (s4 : Bool) (s6 : List Ex × Int) (s9 : Int) (s11 : Int) : Option (Int) :=
 (tp ((((0 : Int) ≤ s9) ∧ (s9 < (↑(List.length s3.1) : Int))))
  (tb ((decide ((wr (s11 + (32 : Int))) ≤ (↑(List.length (exAt s3.1 (Int.toNat s9)).d) : Int))))
   (tp (((0 : Int) ≤ s11))
    (tp (((0 : Int) ≤ (wr (s11 + (32 : Int)))))
     (tp ((((Int.toNat s11) ≤ (Int.toNat (wr (s11 + (32 : Int))))) ∧ (((Int.toNat (wr (s11 + (32 : Int)))) ≤ (List.length (exAt s3.1 (Int.toNat s9)).d)) ∧ ((List.length (List.map AV.y (exAt s3.1 (Int.toNat s9)).d)) = ((List.length (exAt s3.1 (Int.toNat s9)).d) * (1 : Nat))))))
      (tc (pIs ((List.take (((Int.toNat (wr (s11 + (32 : Int)))) - (Int.toNat s11)) * (1 : Nat)) (List.drop ((Int.toNat s11) * (1 : Nat)) (exAt s3.1 (Int.toNat s9)).d)))) fun s17 =>
       (tb (s17)
        none /- exit -/
        (some ((wr (s11 + (32 : Int))))))))))
   none /- exit -/))
theorem lZerosPacks_L4_s0 (l : List Ex) (s0 : Bool) (s1 : Bool) (s3 : List Ex × Int) (s4 : Bool) (s6 : List Ex × Int) (s9 : Int) (s11 : Int) (h12 : (((0 : Int) ≤ s9) ∧ (s9 < (↑(List.length s3.1) : Int)))) (h13 : ((decide ((wr (s11 + (32 : Int))) ≤ (↑(List.length (exAt s3.1 (Int.toNat s9)).d) : Int)))) = true) (h13p : ((wr (s11 + (32 : Int))) ≤ (↑(List.length (exAt s3.1 (Int.toNat s9)).d) : Int))) (h14 : ((0 : Int) ≤ s11)) (h15 : ((0 : Int) ≤ (wr (s11 + (32 : Int))))) (h16 : (((Int.toNat s11) ≤ (Int.toNat (wr (s11 + (32 : Int))))) ∧ (((Int.toNat (wr (s11 + (32 : Int)))) ≤ (List.length (exAt s3.1 (Int.toNat s9)).d)) ∧ ((List.length (List.map AV.y (exAt s3.1 (Int.toNat s9)).d)) = ((List.length (exAt s3.1 (Int.toNat s9)).d) * (1 : Nat)))))) (s17 : Bool) (h17 : pIs ((List.take (((Int.toNat (wr (s11 + (32 : Int)))) - (Int.toNat s11)) * (1 : Nat)) (List.drop ((Int.toNat s11) * (1 : Nat)) (exAt s3.1 (Int.toNat s9)).d))) = some s17) (h18 : (s17) = false) : EvStep Try.prog cf 0 (lp Try.prog 6 1) (lZerosPacks_L4_S l s0 s1 s3 s4 s6 s9 s11) (lZerosPacks_L4_S l s0 s1 s3 s4 s6 s9 ((wr (s11 + (32 : Int))))) :=
  leafS vw_eq (k := 300) (r := []) (hs := hz [(4, [.yes]), (1, [.yes, .val ((bys (exAt s3.1 (Int.toNat s9)).d))]), (2, [.yes]), (2, [.yes]), (1, [.yes, .val ((bys (exAt s3.1 (Int.toNat s9)).d))]), (3, [.yes, .yes, .yes]), (1, [.fres (.b (s17)), .no]), (3, [])]) (st1 := (St.mk [(0, (exs l)), (3, (AV.b s0)), (28, (AV.b (!s1))), (4, (exs s3.1)), (5, (AV.i s3.2)), (6, (AV.b s4)), (38, (AV.b (s3.2 != (0 : Int)))), (7, (exs s6.1)), (8, (AV.i s6.2)), (70, (AV.b (decide ((↑(List.length s3.1) : Int) ≤ (64 : Int))))), (9, (AV.i s9)), (74, (AV.b (decide (s9 < (↑(List.length s3.1) : Int))))), (10, (AV.i (wr (s11 + (32 : Int))))), (77, (AV.i s11)), (78, (AV.i (wr (s11 + (32 : Int))))), (79, (exs s3.1)), (80, (AV.i s9)), (81, (AV.ip (List.drop ((Int.toNat s9) * (5 : Nat)) (List.flatMap Ex.cells s3.1)))), (82, (AV.ip (List.drop 4 (List.drop ((Int.toNat s9) * (5 : Nat)) (List.flatMap Ex.cells s3.1))))), (83, (bys (exAt s3.1 (Int.toNat s9)).d)), (84, (AV.i (↑(List.length (exAt s3.1 (Int.toNat s9)).d) : Int))), (85, (AV.b (decide ((wr (s11 + (32 : Int))) ≤ (↑(List.length (exAt s3.1 (Int.toNat s9)).d) : Int))))), (88, (exs s3.1)), (89, (AV.i s9)), (90, (AV.ip (List.drop ((Int.toNat s9) * (5 : Nat)) (List.flatMap Ex.cells s3.1)))), (91, (AV.ip (List.drop 4 (List.drop ((Int.toNat s9) * (5 : Nat)) (List.flatMap Ex.cells s3.1))))), (92, (bys (exAt s3.1 (Int.toNat s9)).d)), (93, (AV.i s11)), (94, (AV.i s11)), (95, (AV.i (wr (s11 + (32 : Int))))), (96, (AV.sl ((Int.toNat (wr (s11 + (32 : Int)))) - (Int.toNat s11)) (List.take (((Int.toNat (wr (s11 + (32 : Int)))) - (Int.toNat s11)) * (1 : Nat)) (List.drop ((Int.toNat s11) * (1 : Nat)) (List.map AV.y (exAt s3.1 (Int.toNat s9)).d))))), (97, (AV.b s17)), (86, (AV.i s11)), (87, (AV.i (wr (s11 + (32 : Int)))))] 175 (AH.mk 0 ([] : List (Prod Nat AObj))) Bool.false)) kq (ac h12 (ac (fq (p := ((1 : Nat) ≤ (List.length (List.drop 4 (List.drop ((Int.toNat s9) * (5 : Nat)) (List.flatMap Ex.cells s3.1))))))) (ac (show (List.take 1 (List.drop 4 (List.drop ((Int.toNat s9) * (5 : Nat)) (List.flatMap Ex.cells s3.1)))) = [(bys (exAt s3.1 (Int.toNat s9)).d)] from (by first | exact ex_one _ _ _ _ bq rfl | exact ex_oneA _ _ _ _ bq rfl | (simpa using ex_one (s3.1) ((Int.toNat s9)) 4 _ bq rfl) | ((try simp only [List.drop_drop]); rw [show ((4 : Nat) + ((Int.toNat s9) * (5 : Nat))) = ((Int.toNat s9)) * 5 + 4 by omega]; exact ex_oneA (s3.1) ((Int.toNat s9)) 4 _ bq rfl))) (ac h13 (ac h12 (ac (fq (p := ((1 : Nat) ≤ (List.length (List.drop 4 (List.drop ((Int.toNat s9) * (5 : Nat)) (List.flatMap Ex.cells s3.1))))))) (ac (show (List.take 1 (List.drop 4 (List.drop ((Int.toNat s9) * (5 : Nat)) (List.flatMap Ex.cells s3.1)))) = [(bys (exAt s3.1 (Int.toNat s9)).d)] from (by first | exact ex_one _ _ _ _ bq rfl | exact ex_oneA _ _ _ _ bq rfl | (simpa using ex_one (s3.1) ((Int.toNat s9)) 4 _ bq rfl) | ((try simp only [List.drop_drop]); rw [show ((4 : Nat) + ((Int.toNat s9) * (5 : Nat))) = ((Int.toNat s9)) * 5 + 4 by omega]; exact ex_oneA (s3.1) ((Int.toNat s9)) 4 _ bq rfl))) (ac h14 (ac h15 (ac h16 (ac (show EvFr Try.prog cf Bool.false 17 [(AV.sl ((Int.toNat (wr (s11 + (32 : Int)))) - (Int.toNat s11)) (List.take (((Int.toNat (wr (s11 + (32 : Int)))) - (Int.toNat s11)) * (1 : Nat)) (List.drop ((Int.toNat s11) * (1 : Nat)) (List.map AV.y (exAt s3.1 (Int.toNat s9)).d))))] (.b (s17)) from ((pIs_ok ((List.take (((Int.toNat (wr (s11 + (32 : Int)))) - (Int.toNat s11)) * (1 : Nat)) (List.drop ((Int.toNat s11) * (1 : Nat)) (exAt s3.1 (Int.toNat s9)).d))) _ h17).any.cast tq)) (ac h18 an)))))))))))) (Nat.le_of_ble_eq_true rfl) (absB_of [] [] kq (.consn kq (.eqv tq rfl) (.consn kq (.eqv tq rfl) (.consn kq (.eqv tq rfl) (.consn kq (.eqv tq rfl) (.consn kq (.eqv tq rfl) (.consn kq (.eqv tq rfl) (.consn kq (.eqv tq rfl) (.consn kq (.eqv tq rfl) (.consn kq (.eqv tq rfl) (.consn kq (.eqv tq rfl) (.consn kq (.eqv tq rfl) (.consn kq (.eqv tq rfl) (.consn kq (.eqv tq rfl) .nil))))))))))))) .nil)
theorem lZerosPacks_L4_ok (l : List Ex) (s0 : Bool) (s1 : Bool) (s3 : List Ex × Int) (s4 : Bool) (s6 : List Ex × Int) (s9 : Int) (s11 zz : Int) : lZerosPacks_L4_step l s0 s1 s3 s4 s6 s9 s11 = some zz → EvStep Try.prog cf 0 (lp Try.prog 6 1) (lZerosPacks_L4_S l s0 s1 s3 s4 s6 s9 s11) (lZerosPacks_L4_S l s0 s1 s3 s4 s6 s9 zz) := by
  unfold lZerosPacks_L4_step
  refine tp_ok (fun h12 => ?_)
  refine tb_ok (fun h13 => ?_) (fun h13 => ?_)
  ·
    have h13p := of_decide_eq_true h13
    refine tp_ok (fun h14 => ?_)
    refine tp_ok (fun h15 => ?_)
    refine tp_ok (fun h16 => ?_)
    refine tc_ok (fun s17 h17 => ?_)
    refine tb_ok (fun h18 => ?_) (fun h18 => ?_)
    ·
      exact fun e => nomatch e
    ·
      exact fun e => tl_ok (G := (fun zz => EvStep Try.prog cf 0 (lp Try.prog 6 1) (lZerosPacks_L4_S l s0 s1 s3 s4 s6 s9 s11) (lZerosPacks_L4_S l s0 s1 s3 s4 s6 s9 zz))) (lZerosPacks_L4_s0 l s0 s1 s3 s4 s6 s9 s11 h12 h13 h13p h14 h15 h16 s17 h17 h18) e
  ·
    have h13p := of_decide_eq_false h13
    exact fun e => nomatch e
noncomputable abbrev lZerosPacks_L3_I (l : List Ex) (s0 : Bool) (s1 : Bool) (s3 : List Ex × Int) (s4 : Bool) (s6 : List Ex × Int) : St := (St.mk [(0, (exs l)), (2, (AV.b Bool.false)), (25, (AV.b s0)), (3, (AV.b s0)), (26, (exs l)), (27, (AV.b s1)), (28, (AV.b (!s1))), (31, (exs l)), (32, (AV.tu [(exs s3.1), (AV.i s3.2)])), (30, (AV.tu [(exs s3.1), (AV.i s3.2)])), (33, (exs s3.1)), (34, (AV.i s3.2)), (4, (exs s3.1)), (5, (AV.i s3.2)), (35, (exs l)), (36, (AV.b s4)), (6, (AV.b s4)), (37, (AV.i s3.2)), (38, (AV.b (s3.2 != (0 : Int)))), (50, (exs s3.1)), (51, (AV.tu [(exs s6.1), (AV.i s6.2)])), (49, (AV.tu [(exs s6.1), (AV.i s6.2)])), (52, (exs s6.1)), (53, (AV.i s6.2)), (7, (exs s6.1)), (8, (AV.i s6.2)), (54, (AV.i s6.2)), (55, (AV.b (s6.2 == (0 : Int)))), (56, (AV.b (s6.2 == (0 : Int)))), (57, (AV.tu ([] : List AV))), (58, (AV.tu ([] : List AV))), (59, (AV.tu ([] : List AV))), (60, (AV.tu ([] : List AV))), (61, (AV.b Bool.false)), (62, (AV.b Bool.false)), (63, (AV.i s6.2)), (64, (AV.b (s6.2 != (0 : Int)))), (65, (AV.b (s6.2 != (0 : Int)))), (66, (exs s3.1)), (67, (AV.i (↑(List.length s3.1) : Int))), (68, (AV.b (decide ((↑(List.length s3.1) : Int) ≤ (64 : Int))))), (69, (AV.b (decide ((↑(List.length s3.1) : Int) ≤ (64 : Int))))), (70, (AV.b (decide ((↑(List.length s3.1) : Int) ≤ (64 : Int))))), (9, (AV.i 0))] 175 (AH.mk 0 ([] : List (Prod Nat AObj))) Bool.false)
noncomputable abbrev lZerosPacks_L3_S (l : List Ex) (s0 : Bool) (s1 : Bool) (s3 : List Ex × Int) (s4 : Bool) (s6 : List Ex × Int) (s9 : Int) : St := (St.mk [(0, (exs l)), (3, (AV.b s0)), (28, (AV.b (!s1))), (4, (exs s3.1)), (5, (AV.i s3.2)), (6, (AV.b s4)), (38, (AV.b (s3.2 != (0 : Int)))), (7, (exs s6.1)), (8, (AV.i s6.2)), (70, (AV.b (decide ((↑(List.length s3.1) : Int) ≤ (64 : Int))))), (9, (AV.i s9))] 175 (AH.mk 0 ([] : List (Prod Nat AObj))) Bool.false)
noncomputable def lZerosPacks_L3_step (l : List Ex) (s0 : Bool) (s1 : Bool) (s3 : List Ex × Int) (s4 : Bool) (s6 : List Ex × Int) (s9 : Int) : Option (Int) :=
 (tb ((decide (s9 < (↑(List.length s3.1) : Int))))
  (th (lZerosPacks_L4_step l s0 s1 s3 s4 s6 s9) ((0 : Int)) fun s11 =>
   (tp ((((0 : Int) ≤ s9) ∧ (s9 < (↑(List.length s3.1) : Int))))
    (tb ((decide ((wr (s11 + (32 : Int))) ≤ (↑(List.length (exAt s3.1 (Int.toNat s9)).d) : Int))))
     none /- dead -/
     (tb ((decide (s9 > (0 : Int))))
      (tp ((((0 : Int) ≤ (wr (s9 - (1 : Int)))) ∧ ((wr (s9 - (1 : Int))) < (↑(List.length s3.1) : Int))))
       (tc (eJoins ((exAt s3.1 (Int.toNat (wr (s9 - (1 : Int)))))) ((exAt s3.1 (Int.toNat s9)))) fun s16 =>
        (tb (s16)
         none /- exit -/
         (some ((wr (s9 + (1 : Int))))))))
      (some ((wr (s9 + (1 : Int)))))))))
  none /- exit -/)
theorem lZerosPacks_L3_s0 (l : List Ex) (s0 : Bool) (s1 : Bool) (s3 : List Ex × Int) (s4 : Bool) (s6 : List Ex × Int) (s9 : Int) (h10 : ((decide (s9 < (↑(List.length s3.1) : Int)))) = true) (h10p : (s9 < (↑(List.length s3.1) : Int))) (s11 : Int) (h11 : Runs (lZerosPacks_L4_step l s0 s1 s3 s4 s6 s9) ((0 : Int)) s11) (h12 : (((0 : Int) ≤ s9) ∧ (s9 < (↑(List.length s3.1) : Int)))) (h13 : ((decide ((wr (s11 + (32 : Int))) ≤ (↑(List.length (exAt s3.1 (Int.toNat s9)).d) : Int)))) = false) (h13p : ¬ ((wr (s11 + (32 : Int))) ≤ (↑(List.length (exAt s3.1 (Int.toNat s9)).d) : Int))) (h14 : ((decide (s9 > (0 : Int)))) = true) (h14p : (s9 > (0 : Int))) (h15 : (((0 : Int) ≤ (wr (s9 - (1 : Int)))) ∧ ((wr (s9 - (1 : Int))) < (↑(List.length s3.1) : Int)))) (s16 : Bool) (h16 : eJoins ((exAt s3.1 (Int.toNat (wr (s9 - (1 : Int)))))) ((exAt s3.1 (Int.toNat s9))) = some s16) (h17 : (s16) = false) : EvStep Try.prog cf 0 (lp Try.prog 6 0) (lZerosPacks_L3_S l s0 s1 s3 s4 s6 s9) (lZerosPacks_L3_S l s0 s1 s3 s4 s6 ((wr (s9 + (1 : Int))))) :=
  leafS vw_eq (k := 300) (r := []) (hs := hz [(4, [.yes]), (1, [.head (lZerosPacks_L4_S l s0 s1 s3 s4 s6 s9 s11)]), (4, [.yes]), (1, [.yes, .val ((bys (exAt s3.1 (Int.toNat s9)).d))]), (2, [.no]), (3, [.yes]), (1, [.yes]), (1, [.yes]), (1, [.yes, .yes, .yes, .yes, .cells ((Ex.cells (exAt s3.1 (Int.toNat (wr (s9 - (1 : Int))))))), .yes]), (1, [.yes]), (1, [.yes, .yes, .yes, .yes, .cells ((Ex.cells (exAt s3.1 (Int.toNat s9)))), .yes]), (1, [.fres (.b (s16)), .yes, .yes, .no]), (3, [])]) (st1 := (St.mk [(0, (exs l)), (3, (AV.b s0)), (28, (AV.b (!s1))), (4, (exs s3.1)), (5, (AV.i s3.2)), (6, (AV.b s4)), (38, (AV.b (s3.2 != (0 : Int)))), (7, (exs s6.1)), (8, (AV.i s6.2)), (70, (AV.b (decide ((↑(List.length s3.1) : Int) ≤ (64 : Int))))), (9, (AV.i (wr (s9 + (1 : Int))))), (74, (AV.b (decide (s9 < (↑(List.length s3.1) : Int))))), (10, (AV.i s11)), (77, (AV.i s11)), (78, (AV.i (wr (s11 + (32 : Int))))), (79, (exs s3.1)), (80, (AV.i s9)), (81, (AV.ip (List.drop ((Int.toNat s9) * (5 : Nat)) (List.flatMap Ex.cells s3.1)))), (82, (AV.ip (List.drop 4 (List.drop ((Int.toNat s9) * (5 : Nat)) (List.flatMap Ex.cells s3.1))))), (83, (bys (exAt s3.1 (Int.toNat s9)).d)), (84, (AV.i (↑(List.length (exAt s3.1 (Int.toNat s9)).d) : Int))), (85, (AV.b (decide ((wr (s11 + (32 : Int))) ≤ (↑(List.length (exAt s3.1 (Int.toNat s9)).d) : Int))))), (98, (AV.i s9)), (99, (AV.b (decide (s9 > (0 : Int))))), (100, (AV.b (decide (s9 > (0 : Int))))), (101, (exs s3.1)), (102, (AV.i s9)), (103, (AV.i (wr (s9 - (1 : Int))))), (104, (AV.ip (List.drop ((Int.toNat (wr (s9 - (1 : Int)))) * (5 : Nat)) (List.flatMap Ex.cells s3.1)))), (105, (AV.ag (xc (exAt s3.1 (Int.toNat (wr (s9 - (1 : Int)))))))), (106, (exs s3.1)), (107, (AV.i s9)), (108, (AV.ip (List.drop ((Int.toNat s9) * (5 : Nat)) (List.flatMap Ex.cells s3.1)))), (109, (AV.ag (xc (exAt s3.1 (Int.toNat s9))))), (110, (AV.b s16)), (111, (AV.b s16)), (75, (AV.i s9)), (76, (AV.i (wr (s9 + (1 : Int)))))] 175 (AH.mk 0 ([] : List (Prod Nat AObj))) Bool.false)) kq (ac h10 (ac (show EvHead Try.prog cf (lp Try.prog 6 1) (lZerosPacks_L4_I l s0 s1 s3 s4 s6 s9) (lZerosPacks_L4_S l s0 s1 s3 s4 s6 s9 s11) from (EvHead.of (lZerosPacks_L4_ok l s0 s1 s3 s4 s6 s9) (absB_of [] [] kq (.consn kq (.eqv tq rfl) (.consn kq (.eqv tq rfl) (.consn kq (.eqv tq rfl) (.consn kq (.eqv tq rfl) (.consn kq (.eqv tq rfl) (.consn kq (.eqv tq rfl) (.consn kq (.eqv tq rfl) (.consn kq (.eqv tq rfl) (.consn kq (.eqv tq rfl) (.consn kq (.eqv tq rfl) (.consn kq (.eqv tq rfl) (.consn kq (.eqv tq rfl) (.consn kq (.eqv tq rfl) .nil))))))))))))) .nil) h11)) (ac h12 (ac (fq (p := ((1 : Nat) ≤ (List.length (List.drop 4 (List.drop ((Int.toNat s9) * (5 : Nat)) (List.flatMap Ex.cells s3.1))))))) (ac (show (List.take 1 (List.drop 4 (List.drop ((Int.toNat s9) * (5 : Nat)) (List.flatMap Ex.cells s3.1)))) = [(bys (exAt s3.1 (Int.toNat s9)).d)] from (by first | exact ex_one _ _ _ _ bq rfl | exact ex_oneA _ _ _ _ bq rfl | (simpa using ex_one (s3.1) ((Int.toNat s9)) 4 _ bq rfl) | ((try simp only [List.drop_drop]); rw [show ((4 : Nat) + ((Int.toNat s9) * (5 : Nat))) = ((Int.toNat s9)) * 5 + 4 by omega]; exact ex_oneA (s3.1) ((Int.toNat s9)) 4 _ bq rfl))) (ac h13 (ac h14 (ac h14 (ac h14 (ac h14 (ac h15 (ac h14 (ac (fq (p := ((5 : Nat) ≤ (List.length (List.drop ((Int.toNat (wr (s9 - (1 : Int)))) * (5 : Nat)) (List.flatMap Ex.cells s3.1)))))) (ac (show (List.take 5 (List.drop ((Int.toNat (wr (s9 - (1 : Int)))) * (5 : Nat)) (List.flatMap Ex.cells s3.1))) = (Ex.cells (exAt s3.1 (Int.toNat (wr (s9 - (1 : Int)))))) from (ex_takeO bq bq)) (ac h14 (ac h14 (ac h14 (ac h12 (ac h14 (ac (fq (p := ((5 : Nat) ≤ (List.length (List.drop ((Int.toNat s9) * (5 : Nat)) (List.flatMap Ex.cells s3.1)))))) (ac (show (List.take 5 (List.drop ((Int.toNat s9) * (5 : Nat)) (List.flatMap Ex.cells s3.1))) = (Ex.cells (exAt s3.1 (Int.toNat s9))) from (ex_takeO bq bq)) (ac h14 (ac (eJoins_ok ((exAt s3.1 (Int.toNat (wr (s9 - (1 : Int)))))) ((exAt s3.1 (Int.toNat s9))) _ h16).any0 (ac h14 (ac (show orderOk (rg Try.prog 6 0) = true ∧ allOk (Region.before (rg Try.prog 6 0)) [] 0 [(some [], some []), (some [], some []), (some [], some []), (some [], some []), (some [], some []), (some [], some []), (some [], some []), (some [], some []), (some [], some []), (some [], some []), (some [], some []), (some [], some []), (some [], some []), (some [], some [])] = true from (ord_of ord_6_0 bef_6_0 kq)) (ac h17 an)))))))))))))))))))))))))) (Nat.le_of_ble_eq_true rfl) (absB_of [] [] kq (.consn kq (.eqv tq rfl) (.consn kq (.eqv tq rfl) (.consn kq (.eqv tq rfl) (.consn kq (.eqv tq rfl) (.consn kq (.eqv tq rfl) (.consn kq (.eqv tq rfl) (.consn kq (.eqv tq rfl) (.consn kq (.eqv tq rfl) (.consn kq (.eqv tq rfl) (.consn kq (.eqv tq rfl) (.consn kq (.eqv tq rfl) .nil))))))))))) .nil)
theorem lZerosPacks_L3_s1 (l : List Ex) (s0 : Bool) (s1 : Bool) (s3 : List Ex × Int) (s4 : Bool) (s6 : List Ex × Int) (s9 : Int) (h10 : ((decide (s9 < (↑(List.length s3.1) : Int)))) = true) (h10p : (s9 < (↑(List.length s3.1) : Int))) (s11 : Int) (h11 : Runs (lZerosPacks_L4_step l s0 s1 s3 s4 s6 s9) ((0 : Int)) s11) (h12 : (((0 : Int) ≤ s9) ∧ (s9 < (↑(List.length s3.1) : Int)))) (h13 : ((decide ((wr (s11 + (32 : Int))) ≤ (↑(List.length (exAt s3.1 (Int.toNat s9)).d) : Int)))) = false) (h13p : ¬ ((wr (s11 + (32 : Int))) ≤ (↑(List.length (exAt s3.1 (Int.toNat s9)).d) : Int))) (h14 : ((decide (s9 > (0 : Int)))) = false) (h14p : ¬ (s9 > (0 : Int))) : EvStep Try.prog cf 0 (lp Try.prog 6 0) (lZerosPacks_L3_S l s0 s1 s3 s4 s6 s9) (lZerosPacks_L3_S l s0 s1 s3 s4 s6 ((wr (s9 + (1 : Int))))) :=
  leafS vw_eq (k := 300) (r := []) (hs := hz [(4, [.yes]), (1, [.head (lZerosPacks_L4_S l s0 s1 s3 s4 s6 s9 s11)]), (4, [.yes]), (1, [.yes, .val ((bys (exAt s3.1 (Int.toNat s9)).d))]), (2, [.no]), (3, [.no, .no, .no, .no, .no, .no, .no, .no, .no, .no, .no, .yes]), (4, [])]) (st1 := (St.mk [(0, (exs l)), (3, (AV.b s0)), (28, (AV.b (!s1))), (4, (exs s3.1)), (5, (AV.i s3.2)), (6, (AV.b s4)), (38, (AV.b (s3.2 != (0 : Int)))), (7, (exs s6.1)), (8, (AV.i s6.2)), (70, (AV.b (decide ((↑(List.length s3.1) : Int) ≤ (64 : Int))))), (9, (AV.i (wr (s9 + (1 : Int))))), (74, (AV.b (decide (s9 < (↑(List.length s3.1) : Int))))), (10, (AV.i s11)), (77, (AV.i s11)), (78, (AV.i (wr (s11 + (32 : Int))))), (79, (exs s3.1)), (80, (AV.i s9)), (81, (AV.ip (List.drop ((Int.toNat s9) * (5 : Nat)) (List.flatMap Ex.cells s3.1)))), (82, (AV.ip (List.drop 4 (List.drop ((Int.toNat s9) * (5 : Nat)) (List.flatMap Ex.cells s3.1))))), (83, (bys (exAt s3.1 (Int.toNat s9)).d)), (84, (AV.i (↑(List.length (exAt s3.1 (Int.toNat s9)).d) : Int))), (85, (AV.b (decide ((wr (s11 + (32 : Int))) ≤ (↑(List.length (exAt s3.1 (Int.toNat s9)).d) : Int))))), (98, (AV.i s9)), (99, (AV.b (decide (s9 > (0 : Int))))), (100, (AV.b (decide (s9 > (0 : Int))))), (101, (AV.tu ([] : List AV))), (102, (AV.tu ([] : List AV))), (103, (AV.tu ([] : List AV))), (104, (AV.tu ([] : List AV))), (105, (AV.tu ([] : List AV))), (106, (AV.tu ([] : List AV))), (107, (AV.tu ([] : List AV))), (108, (AV.tu ([] : List AV))), (109, (AV.tu ([] : List AV))), (110, (AV.tu ([] : List AV))), (111, (AV.b Bool.false)), (75, (AV.i s9)), (76, (AV.i (wr (s9 + (1 : Int)))))] 175 (AH.mk 0 ([] : List (Prod Nat AObj))) Bool.false)) kq (ac h10 (ac (show EvHead Try.prog cf (lp Try.prog 6 1) (lZerosPacks_L4_I l s0 s1 s3 s4 s6 s9) (lZerosPacks_L4_S l s0 s1 s3 s4 s6 s9 s11) from (EvHead.of (lZerosPacks_L4_ok l s0 s1 s3 s4 s6 s9) (absB_of [] [] kq (.consn kq (.eqv tq rfl) (.consn kq (.eqv tq rfl) (.consn kq (.eqv tq rfl) (.consn kq (.eqv tq rfl) (.consn kq (.eqv tq rfl) (.consn kq (.eqv tq rfl) (.consn kq (.eqv tq rfl) (.consn kq (.eqv tq rfl) (.consn kq (.eqv tq rfl) (.consn kq (.eqv tq rfl) (.consn kq (.eqv tq rfl) (.consn kq (.eqv tq rfl) (.consn kq (.eqv tq rfl) .nil))))))))))))) .nil) h11)) (ac h12 (ac (fq (p := ((1 : Nat) ≤ (List.length (List.drop 4 (List.drop ((Int.toNat s9) * (5 : Nat)) (List.flatMap Ex.cells s3.1))))))) (ac (show (List.take 1 (List.drop 4 (List.drop ((Int.toNat s9) * (5 : Nat)) (List.flatMap Ex.cells s3.1)))) = [(bys (exAt s3.1 (Int.toNat s9)).d)] from (by first | exact ex_one _ _ _ _ bq rfl | exact ex_oneA _ _ _ _ bq rfl | (simpa using ex_one (s3.1) ((Int.toNat s9)) 4 _ bq rfl) | ((try simp only [List.drop_drop]); rw [show ((4 : Nat) + ((Int.toNat s9) * (5 : Nat))) = ((Int.toNat s9)) * 5 + 4 by omega]; exact ex_oneA (s3.1) ((Int.toNat s9)) 4 _ bq rfl))) (ac h13 (ac h14 (ac h14 (ac h14 (ac h14 (ac h14 (ac h14 (ac h14 (ac h14 (ac h14 (ac h14 (ac h14 (ac (show orderOk (rg Try.prog 6 0) = true ∧ allOk (Region.before (rg Try.prog 6 0)) [] 0 [(some [], some []), (some [], some []), (some [], some []), (some [], some []), (some [], some []), (some [], some []), (some [], some []), (some [], some []), (some [], some []), (some [], some []), (some [], some []), (some [], some []), (some [], some []), (some [], some [])] = true from (ord_of ord_6_0 bef_6_0 kq)) an)))))))))))))))))) (Nat.le_of_ble_eq_true rfl) (absB_of [] [] kq (.consn kq (.eqv tq rfl) (.consn kq (.eqv tq rfl) (.consn kq (.eqv tq rfl) (.consn kq (.eqv tq rfl) (.consn kq (.eqv tq rfl) (.consn kq (.eqv tq rfl) (.consn kq (.eqv tq rfl) (.consn kq (.eqv tq rfl) (.consn kq (.eqv tq rfl) (.consn kq (.eqv tq rfl) (.consn kq (.eqv tq rfl) .nil))))))))))) .nil)
theorem lZerosPacks_L3_ok (l : List Ex) (s0 : Bool) (s1 : Bool) (s3 : List Ex × Int) (s4 : Bool) (s6 : List Ex × Int) (s9 zz : Int) : lZerosPacks_L3_step l s0 s1 s3 s4 s6 s9 = some zz → EvStep Try.prog cf 0 (lp Try.prog 6 0) (lZerosPacks_L3_S l s0 s1 s3 s4 s6 s9) (lZerosPacks_L3_S l s0 s1 s3 s4 s6 zz) := by
  unfold lZerosPacks_L3_step
  refine tb_ok (fun h10 => ?_) (fun h10 => ?_)
  ·
    have h10p := of_decide_eq_true h10
    refine th_ok (fun s11 h11 => ?_)
    refine tp_ok (fun h12 => ?_)
    refine tb_ok (fun h13 => ?_) (fun h13 => ?_)
    ·
      have h13p := of_decide_eq_true h13
      exact fun e => nomatch e
    ·
      have h13p := of_decide_eq_false h13
      refine tb_ok (fun h14 => ?_) (fun h14 => ?_)
      ·
        have h14p := of_decide_eq_true h14
        refine tp_ok (fun h15 => ?_)
        refine tc_ok (fun s16 h16 => ?_)
        refine tb_ok (fun h17 => ?_) (fun h17 => ?_)
        ·
          exact fun e => nomatch e
        ·
          exact fun e => tl_ok (G := (fun zz => EvStep Try.prog cf 0 (lp Try.prog 6 0) (lZerosPacks_L3_S l s0 s1 s3 s4 s6 s9) (lZerosPacks_L3_S l s0 s1 s3 s4 s6 zz))) (lZerosPacks_L3_s0 l s0 s1 s3 s4 s6 s9 h10 h10p s11 h11 h12 h13 h13p h14 h14p h15 s16 h16 h17) e
      ·
        have h14p := of_decide_eq_false h14
        exact fun e => tl_ok (G := (fun zz => EvStep Try.prog cf 0 (lp Try.prog 6 0) (lZerosPacks_L3_S l s0 s1 s3 s4 s6 s9) (lZerosPacks_L3_S l s0 s1 s3 s4 s6 zz))) (lZerosPacks_L3_s1 l s0 s1 s3 s4 s6 s9 h10 h10p s11 h11 h12 h13 h13p h14 h14p) e
  ·
    have h10p := of_decide_eq_false h10
    exact fun e => nomatch e
noncomputable def lZerosPacks (l : List Ex) : Option (Bool) :=
 (tc (aw15) fun s0 =>
  (tc (few (l)) fun s1 =>
   (tb ((!s1))
    (some (s0))
    (tc (pPack (l)) fun s3 =>
     (tc (r10List (l)) fun s4 =>
      (tb ((s3.2 != (0 : Int)))
       (tb (s0)
        (tb ((!s4))
         (some (((↑(List.length s3.1) : Int) == (0 : Int))))
         none /- false -/)
        none /- false -/)
       (tc (pPack (s3.1)) fun s6 =>
        (tb ((s6.2 == (0 : Int)))
         (tc (r7All (s3.1) (s6.1)) fun s8 =>
          (tb ((!s8))
           none /- false -/
           (th (lZerosPacks_L0_step l s0 s1 s3 s4 s6 s8) ((0 : Int)) fun s10 =>
            (tb ((decide (s10 < (↑(List.length s3.1) : Int))))
             none /- dead -/
             (tc (mNew ((64 : Int))) fun s12 =>
              (tc (mLay ((64 : Int)) (s12.1) (l)) fun s13 =>
               (tc (mLay ((64 : Int)) (s12.1) (s3.1)) fun s14 =>
                (tc (iOf ((64 : Int)) (s13.1)) fun s15 =>
                 (tc (iOf ((64 : Int)) (s14.1)) fun s16 =>
                  (tc (iRead (s15.1) ((0 : Int)) ((64 : Int))) fun s17 =>
                   (tc (iRead (s16.1) ((0 : Int)) ((64 : Int))) fun s18 =>
                    (tb (s0)
                     (tb (s4)
                      (tb ((s13.2 == (0 : Int)))
                       (tb ((s14.2 == (0 : Int)))
                        (tb ((s17.2 == (0 : Int)))
                         (tb ((s18.2 == (0 : Int)))
                          (some ((s17.1 == s18.1)))
                          none /- false -/)
                         none /- false -/)
                        none /- false -/)
                       none /- false -/)
                      none /- false -/)
                     none /- false -/))))))))))))
         (tb ((decide ((↑(List.length s3.1) : Int) ≤ (64 : Int))))
          none /- false -/
          (th (lZerosPacks_L3_step l s0 s1 s3 s4 s6) ((0 : Int)) fun s9 =>
           (tb ((decide (s9 < (↑(List.length s3.1) : Int))))
            none /- dead -/
            (tc (mNew ((64 : Int))) fun s11 =>
             (tc (mLay ((64 : Int)) (s11.1) (l)) fun s12 =>
              (tc (mLay ((64 : Int)) (s11.1) (s3.1)) fun s13 =>
               (tc (iOf ((64 : Int)) (s12.1)) fun s14 =>
                (tc (iOf ((64 : Int)) (s13.1)) fun s15 =>
                 (tc (iRead (s14.1) ((0 : Int)) ((64 : Int))) fun s16 =>
                  (tc (iRead (s15.1) ((0 : Int)) ((64 : Int))) fun s17 =>
                   (tb (s0)
                    (tb (s4)
                     (tb ((s12.2 == (0 : Int)))
                      (tb ((s13.2 == (0 : Int)))
                       (tb ((s16.2 == (0 : Int)))
                        (tb ((s17.2 == (0 : Int)))
                         (some ((s16.1 == s17.1)))
                         none /- false -/)
                        none /- false -/)
                       none /- false -/)
                      none /- false -/)
                     none /- false -/)
                    none /- false -/)))))))))))))))))))
abbrev lZerosPacks_G (l : List Ex) (r : Bool) : Prop := EvFr Try.prog cf false 6 [exs (l)] (.b (r))
theorem lZerosPacks_l0 (l : List Ex) (s0 : Bool) (h0 : aw15 = some s0) (s1 : Bool) (h1 : few (l) = some s1) (h2 : ((!s1)) = true) : lZerosPacks_G l (s0) :=
  leafR vw_eq (k := 300) (r := []) (hs := hz [(2, [.fres (.b (s0))]), (3, [.fres (.b (s1))]), (1, [.yes]), (2, [])]) (raw := (AV.b s0)) kq (ac (aw15_ok  _ h0).any0 (ac (few_ok (l) _ h1).any0 (ac h2 an))) tq
theorem lZerosPacks_l1 (l : List Ex) (s0 : Bool) (h0 : aw15 = some s0) (s1 : Bool) (h1 : few (l) = some s1) (h2 : ((!s1)) = false) (s3 : List Ex × Int) (h3 : pPack (l) = some s3) (s4 : Bool) (h4 : r10List (l) = some s4) (h5 : ((s3.2 != (0 : Int))) = true) (h5p : ¬ (s3.2 = (0 : Int))) (h6 : (s0) = true) (h7 : ((!s4)) = true) : lZerosPacks_G l (((↑(List.length s3.1) : Int) == (0 : Int))) :=
  leafR vw_eq (k := 300) (r := []) (hs := hz [(2, [.fres (.b (s0))]), (3, [.fres (.b (s1))]), (1, [.no]), (2, [.fres (.tu [exs (s3.1), .i (s3.2)])]), (7, [.fres (.b (s4))]), (3, [.yes]), (2, [.yes]), (1, [.yes]), (1, [.yes]), (1, [.yes]), (1, [.yes]), (1, [.yes]), (1, [.yes]), (1, [])]) (raw := (AV.b ((↑(List.length s3.1) : Int) == (0 : Int)))) kq (ac (aw15_ok  _ h0).any0 (ac (few_ok (l) _ h1).any0 (ac h2 (ac (pPack_ok (l) _ h3) (ac (r10List_ok (l) _ h4).any0 (ac h5 (ac h6 (ac h6 (ac h6 (ac h7 (ac h7 (ac h7 (ac h7 an))))))))))))) tq
theorem lZerosPacks_l2 (l : List Ex) (s0 : Bool) (h0 : aw15 = some s0) (s1 : Bool) (h1 : few (l) = some s1) (h2 : ((!s1)) = false) (s3 : List Ex × Int) (h3 : pPack (l) = some s3) (s4 : Bool) (h4 : r10List (l) = some s4) (h5 : ((s3.2 != (0 : Int))) = false) (h5p : (s3.2 = (0 : Int))) (s6 : List Ex × Int) (h6 : pPack (s3.1) = some s6) (h7 : ((s6.2 == (0 : Int))) = true) (h7p : (s6.2 = (0 : Int))) (s8 : Bool) (h8 : r7All (s3.1) (s6.1) = some s8) (h9 : ((!s8)) = false) (s10 : Int) (h10 : Runs (lZerosPacks_L0_step l s0 s1 s3 s4 s6 s8) ((0 : Int)) s10) (h11 : ((decide (s10 < (↑(List.length s3.1) : Int)))) = false) (h11p : ¬ (s10 < (↑(List.length s3.1) : Int))) (s12 : List Ex × Int) (h12 : mNew ((64 : Int)) = some s12) (s13 : List Ex × Int) (h13 : mLay ((64 : Int)) (s12.1) (l) = some s13) (s14 : List Ex × Int) (h14 : mLay ((64 : Int)) (s12.1) (s3.1) = some s14) (s15 : List Ce × Int) (h15 : iOf ((64 : Int)) (s13.1) = some s15) (s16 : List Ce × Int) (h16 : iOf ((64 : Int)) (s14.1) = some s16) (s17 : List UInt8 × Int) (h17 : iRead (s15.1) ((0 : Int)) ((64 : Int)) = some s17) (s18 : List UInt8 × Int) (h18 : iRead (s16.1) ((0 : Int)) ((64 : Int)) = some s18) (h19 : (s0) = true) (h20 : (s4) = true) (h21 : ((s13.2 == (0 : Int))) = true) (h21p : (s13.2 = (0 : Int))) (h22 : ((s14.2 == (0 : Int))) = true) (h22p : (s14.2 = (0 : Int))) (h23 : ((s17.2 == (0 : Int))) = true) (h23p : (s17.2 = (0 : Int))) (h24 : ((s18.2 == (0 : Int))) = true) (h24p : (s18.2 = (0 : Int))) : lZerosPacks_G l ((s17.1 == s18.1)) :=
  leafR vw_eq (k := 300) (r := []) (hs := hz [(2, [.fres (.b (s0))]), (3, [.fres (.b (s1))]), (1, [.no]), (2, [.fres (.tu [exs (s3.1), .i (s3.2)])]), (7, [.fres (.b (s4))]), (3, [.no]), (2, [.fres (.tu [exs (s6.1), .i (s6.2)])]), (8, [.yes]), (1, [.yes]), (1, [.yes]), (1, [.fres (.b (s8)), .yes]), (1, [.yes]), (1, [.no]), (1, [.no]), (1, [.no]), (1, [.no, .no, .no, .no, .no, .no]), (2, [.head (lZerosPacks_L0_S l s0 s1 s3 s4 s6 s8 s10)]), (4, [.no]), (1, [.fres (.tu [exs (s12.1), .i (s12.2)])]), (8, [.fres (.tu [exs (s13.1), .i (s13.2)])]), (8, [.fres (.tu [exs (s14.1), .i (s14.2)])]), (7, [.fres (.tu [ces (s15.1), .i (s15.2)])]), (7, [.fres (.tu [ces (s16.1), .i (s16.2)])]), (7, [.fres (.tu [bys (s17.1), .i (s17.2)])]), (7, [.fres (.tu [bys (s18.1), .i (s18.2)])]), (7, [.yes]), (1, [.yes]), (1, [.yes]), (1, [.yes]), (1, [.yes]), (1, [.yes]), (1, [.yes]), (1, [.yes]), (1, [.yes]), (1, [.yes]), (1, [.yes]), (1, [.yes]), (1, [.yes]), (1, [.yes]), (1, [.yes]), (1, [.yes, .yes, .str (s17.1), .yes]), (1, [.yes, .yes, .str (s18.1), .yes]), (1, [.yes]), (1, [])]) (raw := (AV.b (s17.1 == s18.1))) kq (ac (aw15_ok  _ h0).any0 (ac (few_ok (l) _ h1).any0 (ac h2 (ac (pPack_ok (l) _ h3) (ac (r10List_ok (l) _ h4).any0 (ac h5 (ac (pPack_ok (s3.1) _ h6) (ac h7 (ac h7 (ac h7 (ac (r7All_ok (s3.1) (s6.1) _ h8).any0 (ac h7 (ac h7 (ac h9 (ac h9 (ac h9 (ac (congrArg not h7) (ac (congrArg not h7) (ac (congrArg not h7) (ac h9 (ac (congrArg not h7) (ac h9 (ac (show EvHead Try.prog cf (lp Try.prog 6 0) (lZerosPacks_L0_I l s0 s1 s3 s4 s6 s8) (lZerosPacks_L0_S l s0 s1 s3 s4 s6 s8 s10) from (EvHead.of (lZerosPacks_L0_ok l s0 s1 s3 s4 s6 s8) (absB_of [] [] kq (.consn kq (.eqv tq rfl) (.consn kq (.eqv tq rfl) (.consn kq (.eqv tq rfl) (.consn kq (.eqv tq rfl) (.consn kq (.eqv tq rfl) (.consn kq (.eqv tq rfl) (.consn kq (.eqv tq rfl) (.consn kq (.eqv tq rfl) (.consn kq (.eqv tq rfl) (.consn kq (.eqv tq rfl) (.consn kq (.eqv tq rfl) .nil))))))))))) .nil) h10)) (ac h11 (ac (mNew_ok ((64 : Int)) _ h12) (ac (mLay_ok ((64 : Int)) (s12.1) (l) _ h13) (ac (mLay_ok ((64 : Int)) (s12.1) (s3.1) _ h14) (ac (iOf_ok ((64 : Int)) (s13.1) _ h15).any0 (ac (iOf_ok ((64 : Int)) (s14.1) _ h16).any0 (ac (iRead_ok (s15.1) ((0 : Int)) ((64 : Int)) _ h17).any0 (ac (iRead_ok (s16.1) ((0 : Int)) ((64 : Int)) _ h18).any0 (ac h19 (ac h19 (ac h20 (ac h20 (ac h20 (ac h21 (ac h21 (ac h21 (ac h22 (ac h22 (ac h22 (ac h23 (ac h23 (ac h23 (ac h24 (ac h24 (ac (tq (p := ((List.length (List.map AV.y s17.1)) = ((List.length s17.1) * (1 : Nat))))) (ac (tq (p := bytesOf ((List.map AV.y s17.1)) = some (s17.1))) (ac h24 (ac h24 (ac (tq (p := ((List.length (List.map AV.y s18.1)) = ((List.length s18.1) * (1 : Nat))))) (ac (tq (p := bytesOf ((List.map AV.y s18.1)) = some (s18.1))) (ac h24 (ac h24 an))))))))))))))))))))))))))))))))))))))))))))))))))))))) tq
theorem lZerosPacks_l3 (l : List Ex) (s0 : Bool) (h0 : aw15 = some s0) (s1 : Bool) (h1 : few (l) = some s1) (h2 : ((!s1)) = false) (s3 : List Ex × Int) (h3 : pPack (l) = some s3) (s4 : Bool) (h4 : r10List (l) = some s4) (h5 : ((s3.2 != (0 : Int))) = false) (h5p : (s3.2 = (0 : Int))) (s6 : List Ex × Int) (h6 : pPack (s3.1) = some s6) (h7 : ((s6.2 == (0 : Int))) = false) (h7p : ¬ (s6.2 = (0 : Int))) (h8 : ((decide ((↑(List.length s3.1) : Int) ≤ (64 : Int)))) = false) (h8p : ¬ ((↑(List.length s3.1) : Int) ≤ (64 : Int))) (s9 : Int) (h9 : Runs (lZerosPacks_L3_step l s0 s1 s3 s4 s6) ((0 : Int)) s9) (h10 : ((decide (s9 < (↑(List.length s3.1) : Int)))) = false) (h10p : ¬ (s9 < (↑(List.length s3.1) : Int))) (s11 : List Ex × Int) (h11 : mNew ((64 : Int)) = some s11) (s12 : List Ex × Int) (h12 : mLay ((64 : Int)) (s11.1) (l) = some s12) (s13 : List Ex × Int) (h13 : mLay ((64 : Int)) (s11.1) (s3.1) = some s13) (s14 : List Ce × Int) (h14 : iOf ((64 : Int)) (s12.1) = some s14) (s15 : List Ce × Int) (h15 : iOf ((64 : Int)) (s13.1) = some s15) (s16 : List UInt8 × Int) (h16 : iRead (s14.1) ((0 : Int)) ((64 : Int)) = some s16) (s17 : List UInt8 × Int) (h17 : iRead (s15.1) ((0 : Int)) ((64 : Int)) = some s17) (h18 : (s0) = true) (h19 : (s4) = true) (h20 : ((s12.2 == (0 : Int))) = true) (h20p : (s12.2 = (0 : Int))) (h21 : ((s13.2 == (0 : Int))) = true) (h21p : (s13.2 = (0 : Int))) (h22 : ((s16.2 == (0 : Int))) = true) (h22p : (s16.2 = (0 : Int))) (h23 : ((s17.2 == (0 : Int))) = true) (h23p : (s17.2 = (0 : Int))) : lZerosPacks_G l ((s16.1 == s17.1)) :=
  leafR vw_eq (k := 300) (r := []) (hs := hz [(2, [.fres (.b (s0))]), (3, [.fres (.b (s1))]), (1, [.no]), (2, [.fres (.tu [exs (s3.1), .i (s3.2)])]), (7, [.fres (.b (s4))]), (3, [.no]), (2, [.fres (.tu [exs (s6.1), .i (s6.2)])]), (8, [.no, .no, .no, .no, .no]), (7, [.yes]), (1, [.yes]), (1, [.yes]), (2, [.yes]), (1, [.no]), (1, [.head (lZerosPacks_L3_S l s0 s1 s3 s4 s6 s9)]), (4, [.no]), (1, [.fres (.tu [exs (s11.1), .i (s11.2)])]), (8, [.fres (.tu [exs (s12.1), .i (s12.2)])]), (8, [.fres (.tu [exs (s13.1), .i (s13.2)])]), (7, [.fres (.tu [ces (s14.1), .i (s14.2)])]), (7, [.fres (.tu [ces (s15.1), .i (s15.2)])]), (7, [.fres (.tu [bys (s16.1), .i (s16.2)])]), (7, [.fres (.tu [bys (s17.1), .i (s17.2)])]), (7, [.yes]), (1, [.yes]), (1, [.yes]), (1, [.yes]), (1, [.yes]), (1, [.yes]), (1, [.yes]), (1, [.yes]), (1, [.yes]), (1, [.yes]), (1, [.yes]), (1, [.yes]), (1, [.yes]), (1, [.yes]), (1, [.yes]), (1, [.yes, .yes, .str (s16.1), .yes]), (1, [.yes, .yes, .str (s17.1), .yes]), (1, [.yes]), (1, [])]) (raw := (AV.b (s16.1 == s17.1))) kq (ac (aw15_ok  _ h0).any0 (ac (few_ok (l) _ h1).any0 (ac h2 (ac (pPack_ok (l) _ h3) (ac (r10List_ok (l) _ h4).any0 (ac h5 (ac (pPack_ok (s3.1) _ h6) (ac h7 (ac h7 (ac h7 (ac h7 (ac h7 (ac (congrArg not h7) (ac (congrArg not h7) (ac (congrArg not h7) (ac (congrArg not h7) (ac h8 (ac (show EvHead Try.prog cf (lp Try.prog 6 0) (lZerosPacks_L3_I l s0 s1 s3 s4 s6) (lZerosPacks_L3_S l s0 s1 s3 s4 s6 s9) from (EvHead.of (lZerosPacks_L3_ok l s0 s1 s3 s4 s6) (absB_of [] [] kq (.consn kq (.eqv tq rfl) (.consn kq (.eqv tq rfl) (.consn kq (.eqv tq rfl) (.consn kq (.eqv tq rfl) (.consn kq (.eqv tq rfl) (.consn kq (.eqv tq rfl) (.consn kq (.eqv tq rfl) (.consn kq (.eqv tq rfl) (.consn kq (.eqv tq rfl) (.consn kq (.eqv tq rfl) (.consn kq (.eqv tq rfl) .nil))))))))))) .nil) h9)) (ac h10 (ac (mNew_ok ((64 : Int)) _ h11) (ac (mLay_ok ((64 : Int)) (s11.1) (l) _ h12) (ac (mLay_ok ((64 : Int)) (s11.1) (s3.1) _ h13) (ac (iOf_ok ((64 : Int)) (s12.1) _ h14).any0 (ac (iOf_ok ((64 : Int)) (s13.1) _ h15).any0 (ac (iRead_ok (s14.1) ((0 : Int)) ((64 : Int)) _ h16).any0 (ac (iRead_ok (s15.1) ((0 : Int)) ((64 : Int)) _ h17).any0 (ac h18 (ac h18 (ac h19 (ac h19 (ac h19 (ac h20 (ac h20 (ac h20 (ac h21 (ac h21 (ac h21 (ac h22 (ac h22 (ac h22 (ac h23 (ac h23 (ac (tq (p := ((List.length (List.map AV.y s16.1)) = ((List.length s16.1) * (1 : Nat))))) (ac (tq (p := bytesOf ((List.map AV.y s16.1)) = some (s16.1))) (ac h23 (ac h23 (ac (tq (p := ((List.length (List.map AV.y s17.1)) = ((List.length s17.1) * (1 : Nat))))) (ac (tq (p := bytesOf ((List.map AV.y s17.1)) = some (s17.1))) (ac h23 (ac h23 an)))))))))))))))))))))))))))))))))))))))))))))))))) tq
theorem lZerosPacks_ok (l : List Ex) (r : Bool) : lZerosPacks l = some r → lZerosPacks_G l r := by
  unfold lZerosPacks
  refine tc_ok (fun s0 h0 => ?_)
  refine tc_ok (fun s1 h1 => ?_)
  refine tb_ok (fun h2 => ?_) (fun h2 => ?_)
  ·
    exact fun e => tl_ok (G := lZerosPacks_G l) (lZerosPacks_l0 l s0 h0 s1 h1 h2) e
  ·
    refine tc_ok (fun s3 h3 => ?_)
    refine tc_ok (fun s4 h4 => ?_)
    refine tb_ok (fun h5 => ?_) (fun h5 => ?_)
    ·
      have h5p := bne_iff_ne.1 h5
      refine tb_ok (fun h6 => ?_) (fun h6 => ?_)
      ·
        refine tb_ok (fun h7 => ?_) (fun h7 => ?_)
        ·
          exact fun e => tl_ok (G := lZerosPacks_G l) (lZerosPacks_l1 l s0 h0 s1 h1 h2 s3 h3 s4 h4 h5 h5p h6 h7) e
        ·
          exact fun e => nomatch e
      ·
        exact fun e => nomatch e
    ·
      have h5p := bne_eq_false_iff_eq.1 h5
      refine tc_ok (fun s6 h6 => ?_)
      refine tb_ok (fun h7 => ?_) (fun h7 => ?_)
      ·
        have h7p := eq_of_beq h7
        refine tc_ok (fun s8 h8 => ?_)
        refine tb_ok (fun h9 => ?_) (fun h9 => ?_)
        ·
          exact fun e => nomatch e
        ·
          refine th_ok (fun s10 h10 => ?_)
          refine tb_ok (fun h11 => ?_) (fun h11 => ?_)
          ·
            have h11p := of_decide_eq_true h11
            exact fun e => nomatch e
          ·
            have h11p := of_decide_eq_false h11
            refine tc_ok (fun s12 h12 => ?_)
            refine tc_ok (fun s13 h13 => ?_)
            refine tc_ok (fun s14 h14 => ?_)
            refine tc_ok (fun s15 h15 => ?_)
            refine tc_ok (fun s16 h16 => ?_)
            refine tc_ok (fun s17 h17 => ?_)
            refine tc_ok (fun s18 h18 => ?_)
            refine tb_ok (fun h19 => ?_) (fun h19 => ?_)
            ·
              refine tb_ok (fun h20 => ?_) (fun h20 => ?_)
              ·
                refine tb_ok (fun h21 => ?_) (fun h21 => ?_)
                ·
                  have h21p := eq_of_beq h21
                  refine tb_ok (fun h22 => ?_) (fun h22 => ?_)
                  ·
                    have h22p := eq_of_beq h22
                    refine tb_ok (fun h23 => ?_) (fun h23 => ?_)
                    ·
                      have h23p := eq_of_beq h23
                      refine tb_ok (fun h24 => ?_) (fun h24 => ?_)
                      ·
                        have h24p := eq_of_beq h24
                        exact fun e => tl_ok (G := lZerosPacks_G l) (lZerosPacks_l2 l s0 h0 s1 h1 h2 s3 h3 s4 h4 h5 h5p s6 h6 h7 h7p s8 h8 h9 s10 h10 h11 h11p s12 h12 s13 h13 s14 h14 s15 h15 s16 h16 s17 h17 s18 h18 h19 h20 h21 h21p h22 h22p h23 h23p h24 h24p) e
                      ·
                        have h24p := ne_of_beq_false h24
                        exact fun e => nomatch e
                    ·
                      have h23p := ne_of_beq_false h23
                      exact fun e => nomatch e
                  ·
                    have h22p := ne_of_beq_false h22
                    exact fun e => nomatch e
                ·
                  have h21p := ne_of_beq_false h21
                  exact fun e => nomatch e
              ·
                exact fun e => nomatch e
            ·
              exact fun e => nomatch e
      ·
        have h7p := ne_of_beq_false h7
        refine tb_ok (fun h8 => ?_) (fun h8 => ?_)
        ·
          have h8p := of_decide_eq_true h8
          exact fun e => nomatch e
        ·
          have h8p := of_decide_eq_false h8
          refine th_ok (fun s9 h9 => ?_)
          refine tb_ok (fun h10 => ?_) (fun h10 => ?_)
          ·
            have h10p := of_decide_eq_true h10
            exact fun e => nomatch e
          ·
            have h10p := of_decide_eq_false h10
            refine tc_ok (fun s11 h11 => ?_)
            refine tc_ok (fun s12 h12 => ?_)
            refine tc_ok (fun s13 h13 => ?_)
            refine tc_ok (fun s14 h14 => ?_)
            refine tc_ok (fun s15 h15 => ?_)
            refine tc_ok (fun s16 h16 => ?_)
            refine tc_ok (fun s17 h17 => ?_)
            refine tb_ok (fun h18 => ?_) (fun h18 => ?_)
            ·
              refine tb_ok (fun h19 => ?_) (fun h19 => ?_)
              ·
                refine tb_ok (fun h20 => ?_) (fun h20 => ?_)
                ·
                  have h20p := eq_of_beq h20
                  refine tb_ok (fun h21 => ?_) (fun h21 => ?_)
                  ·
                    have h21p := eq_of_beq h21
                    refine tb_ok (fun h22 => ?_) (fun h22 => ?_)
                    ·
                      have h22p := eq_of_beq h22
                      refine tb_ok (fun h23 => ?_) (fun h23 => ?_)
                      ·
                        have h23p := eq_of_beq h23
                        exact fun e => tl_ok (G := lZerosPacks_G l) (lZerosPacks_l3 l s0 h0 s1 h1 h2 s3 h3 s4 h4 h5 h5p s6 h6 h7 h7p h8 h8p s9 h9 h10 h10p s11 h11 s12 h12 s13 h13 s14 h14 s15 h15 s16 h16 s17 h17 h18 h19 h20 h20p h21 h21p h22 h22p h23 h23p) e
                      ·
                        have h23p := ne_of_beq_false h23
                        exact fun e => nomatch e
                    ·
                      have h22p := ne_of_beq_false h22
                      exact fun e => nomatch e
                  ·
                    have h21p := ne_of_beq_false h21
                    exact fun e => nomatch e
                ·
                  have h20p := ne_of_beq_false h20
                  exact fun e => nomatch e
              ·
                exact fun e => nomatch e
            ·
              exact fun e => nomatch e
end Ab
end Go.Proofs.Ytiaelfmohamipaa
namespace Go.Proofs.Ytiaelfmohamipaa
open Go Go.Proofs.Ytiaelfmohamipaa.Ab
set_option linter.unusedVariables false
set_option linter.unusedSimpArgs false
namespace Ab
theorem wl_den : ∀ (l : List Ex) (lba k : Int) (b : List UInt8), WL lba k l b → ∀ j : Nat, 32 * j + 32 ≤ b.length → ∃ c, Den l (lba + j) c ∧ pad 32 c.2.2 = pad 32 (b.drop (32 * j))
  | [], lba, k, b, h, j, hj => by
    have h : b = [] := h
    subst h; simp at hj
  | x :: l, lba, k, b, h, j, hj => by
    obtain ⟨h1, h2, h3, b', h4, h5⟩ := h
    have hl := eb_len h1
    have p := ck_pos h1
    have hlen : b.length = (eb x).length + b'.length := by rw [h4, List.length_append]
    by_cases g : (j : Int) < x.len
    · refine ⟨bAt x (lba + j), den_cons.2 (.inl ⟨by omega, by omega, rfl⟩), ?_⟩
      have e : (32 * (lba + (j : Int) - x.lba)).toNat = 32 * j := by omega
      simp only [bAt, e]
      rw [pad_take, h4]
      have hd : (eb x ++ b').drop (32 * j) = (eb x).drop (32 * j) ++ b' := List.drop_append_of_le_length (by omega)
      rw [hd, ← pad_take ((eb x).drop (32 * j) ++ b'), List.take_append_of_le_length (by rw [List.length_drop]; omega), pad_take]
      unfold eb
      by_cases hk : x.kind = 2
      · rw [if_pos hk]
      · rw [if_neg hk, ck_d0 h1 hk, List.drop_replicate, List.drop_nil, pad_rep, pad_nil]
    · obtain ⟨c, c1, c2⟩ := wl_den l _ _ _ h5 (j - x.len.toNat) (by omega)
      refine ⟨c, den_cons.2 (.inr ?_), ?_⟩
      · rw [show lba + (j : Int) = lba + x.len + ((j - x.len.toNat : Nat) : Int) by omega]; exact c1
      · rw [c2, h4, show 32 * j = (eb x).length + 32 * (j - x.len.toNat) by omega, ← List.drop_drop, List.drop_left]
theorem told_den {x : Ex} (h : Ck x) {k : Int} (h1 : x.lba ≤ k) (h2 : k < x.lba + x.len) : ∃ c, Den (told x) k c ∧ pad 32 c.2.2 = pad 32 (bAt x k).2.2 := by
  by_cases hk : x.kind = 2
  · have hw := lay_wl (ck_lo h hk)
    have hl := ck_d2 h hk
    obtain ⟨c, ⟨y, hy, q1, q2, q3⟩, c2⟩ := wl_den _ _ _ _ hw (k - x.lba).toNat (by omega)
    rw [show x.lba + (((k - x.lba).toNat : Nat) : Int) = k by omega] at q1 q2 q3
    refine ⟨bAt (sg x.gen y) k, ?_, ?_⟩
    · unfold told
      rw [if_pos hk]
      exact ⟨sg x.gen y, List.mem_map.2 ⟨y, hy, rfl⟩, q1, q2, rfl⟩
    · have e1 : (bAt (sg x.gen y) k).2.2 = c.2.2 := by rw [q3]; rfl
      rw [e1, c2]
      simp only [bAt]
      rw [pad_take, show 32 * (k - x.lba).toNat = (32 * (k - x.lba)).toNat by omega]
  · rw [told_gd h fun q => absurd q hk]
    exact ⟨bAt x k, den_one.2 ⟨h1, h2, rfl⟩, rfl⟩
theorem told_in {x : Ex} (h : Ck x) {k : Int} {c : Int × Int × List UInt8} (hd : Den (told x) k c) : x.lba ≤ k ∧ k < x.lba + x.len := by
  obtain ⟨a, b, _⟩ := told_so h
  obtain ⟨y, hy, q1, q2, _⟩ := hd
  have h1 := (so_ck a y hy).2
  have h2 := so_le a y hy
  rw [b] at h2
  omega
theorem den_flat {l : List Ex} {k : Int} {c : Int × Int × List UInt8} : Den (l.flatMap told) k c ↔ ∃ x ∈ l, Den (told x) k c := by
  unfold Den
  constructor
  · rintro ⟨y, hy, q⟩
    obtain ⟨x, hx, hy⟩ := List.mem_flatMap.1 hy
    exact ⟨x, hx, y, hy, q⟩
  · rintro ⟨x, hx, y, hy, q⟩
    exact ⟨y, List.mem_flatMap.2 ⟨x, hx, hy⟩, q⟩
theorem so_fit {l : List Ex} {s : Int} (h : So s l) : ∀ x ∈ l, Fit8 64 x := fun x hx => by
  have := (so_ck h x hx).1
  have p := ck_pos this
  exact ⟨this, by omega⟩
theorem so_meet {l : List Ex} {s : Int} (h : So s l) : ∀ x ∈ l, ∀ y ∈ l, ∀ k, x.lba ≤ k → k < x.lba + x.len → y.lba ≤ k → k < y.lba + y.len → bAt x k = bAt y k := fun x hx y hy k a1 a2 b1 b2 => by
  rw [so_one h x hx y hy k a1 a2 b1 b2]
theorem byt_map (l : List Ce) : byt l = (l.map fun c => pad 32 c.d).flatten := rfl
theorem lay_bytes {l : List Ex} (h : Ls l) : byt (cellsM (l.foldl put (new 64))) = byt (cellsM ((pk l).1.foldl put (new 64))) := by
  obtain ⟨a, b, c, d, e⟩ := pk_spec h
  have hl := ls_so h
  have hn : Mk 64 (new 64) := mk_new (by omega)
  have m1 := puts_mk l (new 64) hn (so_fit hl)
  have m2 := puts_mk (pk l).1 (new 64) hn (so_fit a)
  have d1 := den_lay l (new 64) hn (so_fit hl) (so_meet hl)
  have d2 := den_lay (pk l).1 (new 64) hn (so_fit a) (so_meet a)
  have dx : ∀ k c, Den (pk l).1 k c ↔ ∃ x ∈ l, Den (told x) k c := fun k c => by
    rw [e, den_adds, den_flat]; exact or_iff_right den_nil
  have l1 := (cellsM_mk m1).2.1
  have l2 := (cellsM_mk m2).2.1
  rw [byt_map, byt_map]
  congr 1
  refine List.ext_getElem? fun i => ?_
  rw [List.getElem?_map, List.getElem?_map]
  by_cases hi : (i : Int) < 64
  case neg => rw [List.getElem?_eq_none (by omega), List.getElem?_eq_none (by omega)]
  obtain ⟨x, _, _, _, _, x5, x6⟩ := mk_get m1 hi
  obtain ⟨y, _, _, _, _, y5, y6⟩ := mk_get m2 hi
  rw [x6, y6]
  simp only [Option.map_some, Option.some.injEq, cb, pad_pad]
  by_cases hc : ∃ z ∈ l, z.lba ≤ (i : Int) ∧ (i : Int) < z.lba + z.len
  · obtain ⟨z, hz, z1, z2⟩ := hc
    have e1 := ch_fun (mk_ch m1) x5 ((d1 i _).2 (.inl ⟨z, hz, z1, z2, rfl⟩))
    obtain ⟨c', c1, c2⟩ := told_den (so_ck hl z hz).1 z1 z2
    have e2 := ch_fun (mk_ch m2) y5 ((d2 i _).2 (.inl ((dx i c').2 ⟨z, hz, c1⟩)))
    rw [e1, e2, c2]
  · have hno : ∀ z ∈ l, (i : Int) < z.lba ∨ z.lba + z.len ≤ i := fun z hz => by
      rcases Int.lt_or_le (i : Int) z.lba with g | g
      · exact .inl g
      · rcases Int.lt_or_le (i : Int) (z.lba + z.len) with g2 | g2
        · exact absurd ⟨z, hz, g, g2⟩ hc
        · exact .inr g2
    have hno2 : ∀ z ∈ (pk l).1, (i : Int) < z.lba ∨ z.lba + z.len ≤ i := fun z hz => by
      rcases Int.lt_or_le (i : Int) z.lba with g | g
      · exact .inl g
      · rcases Int.lt_or_le (i : Int) (z.lba + z.len) with g2 | g2
        · obtain ⟨w, hw, q⟩ := (dx i _).1 ⟨z, hz, g, g2, rfl⟩
          have q := told_in (so_ck hl w hw).1 q
          exact absurd ⟨w, hw, q.1, q.2⟩ hc
        · exact .inr g2
    have hnew : Den (new 64) i (0, 0, []) := ⟨⟨0, 64, 0, 0, []⟩, by simp [new], by show (0 : Int) ≤ i; omega, by show (i : Int) < 0 + 64; omega, by simp [bAt]⟩
    have e1 := ch_fun (mk_ch m1) x5 ((d1 i _).2 (.inr ⟨hno, hnew⟩))
    have e2 := ch_fun (mk_ch m2) y5 ((d2 i _).2 (.inr ⟨hno2, hnew⟩))
    rw [e1, e2]
theorem read_all {m : List Ex} (h : Mk 64 m) : readS (cellsM m) 0 64 = (byt (cellsM m), 0) := by
  obtain ⟨c1, c2, _⟩ := cellsM_mk h
  unfold readS
  rw [if_pos c1, if_pos (by unfold Fits; omega)]
  simp only [Int.toNat_zero, List.drop_zero]
  rw [List.take_of_length_le (by omega)]
theorem gd_is {x : Ex} (h : Ck x) (hg : Gd x) {j : Nat} (hj : 32 * j + 32 ≤ x.d.length) : isz ((x.d.drop (32 * j)).take 32) = false := by
  have hk : x.kind = 2 := by
    rcases Decidable.em (x.kind = 2) with q | q
    · exact q
    · rw [ck_d0 h q] at hj; simp at hj
  have hm : x.d = x.d.take (32 * j) ++ ((x.d.drop (32 * j)).take 32 ++ x.d.drop (32 * j + 32)) := by
    rw [← List.drop_drop, List.take_append_drop, List.take_append_drop]
  have hl : ((x.d.drop (32 * j)).take 32).length = 32 := by rw [List.length_take, List.length_drop]; omega
  have hf : zb ((x.d.drop (32 * j)).take 32) ∈ flags x.d := by
    have e : flags x.d = flags (x.d.take (32 * j)) ++ (flags ((x.d.drop (32 * j)).take 32) ++ flags (x.d.drop (32 * j + 32))) := by
      conv => lhs; rw [hm]
      rw [flags_append _ (by rw [List.length_take]; omega), flags_append _ (by rw [hl])]
    rw [e, flags_32 hl]
    exact List.mem_append_right _ (List.mem_append_left _ (by simp))
  have := hg hk _ hf
  rw [isz_zb hl]; exact this
theorem packs_in {α : Type} {x : Ex} (h : Ck x) (hg : Gd x) (step : Int → Option Int) (f : Int → Option α)
    (hs : ∀ at_ : Int, 0 ≤ at_ → at_ ≤ 100000 → step at_ = if at_ + 32 ≤ x.d.length then (if isz ((x.d.drop at_.toNat).take 32) = true then none else some (at_ + 32)) else none) :
    th step 0 f = f ((32 * (x.d.length / 32) : Nat) : Int) := by
  have hl := ck_dlen h
  rw [th_run_at (s0 := (0 : Int)) (S := fun i => ((32 * i : Nat) : Int)) (k := x.d.length / 32) rfl ?_ ?_]
  · intro i hi
    rw [hs _ (by omega) (by omega), if_pos (by omega), Int.toNat_natCast, gd_is h hg (by omega), if_neg (by simp)]
    simp only [Option.some.injEq]; omega
  · rw [hs _ (by omega) (by omega), if_neg (by omega)]
theorem nj_at : ∀ (l : List Ex), NJ l → ∀ i, i + 1 < l.length → ¬ Jn (exAt l i) (exAt l (i + 1))
  | [], _, i, hi => by simp at hi
  | [_], _, i, hi => by simp at hi
  | x :: y :: l, h, 0, _ => h.1
  | x :: y :: l, h, i + 1, hi => nj_at (y :: l) h.2 i (by simpa using hi)
theorem ce_len {m : List Ex} (h : Mk 64 m) : (cellsM m).length ≤ 64 := by have := (cellsM_mk h).2.1; omega
theorem packs_end (l : List Ex) (h : Ls l) :
    (tc (mNew 64) fun s11 => tc (mLay 64 s11.1 l) fun s12 => tc (mLay 64 s11.1 (pk l).1) fun s13 => tc (iOf 64 s12.1) fun s14 => tc (iOf 64 s13.1) fun s15 => tc (iRead s14.1 0 64) fun s16 => tc (iRead s15.1 0 64) fun s17 =>
      tb true (tb true (tb (s12.2 == 0) (tb (s13.2 == 0) (tb (s16.2 == 0) (tb (s17.2 == 0) (some (s16.1 == s17.1)) none) none) none) none) none) none) = some true := by
  obtain ⟨a, b, c, d, e⟩ := pk_spec h
  have hl := ls_so h
  have hn : Mk 64 (new 64) := mk_new (by omega)
  have m1 := puts_mk l (new 64) hn (so_fit hl)
  have m2 := puts_mk (pk l).1 (new 64) hn (so_fit a)
  have en : mNew 64 = some (new 64, 0) := by unfold mNew; rfl
  have e1 : lays 64 (new 64) l = (l.foldl put (new 64), 0) := by unfold lays; rw [if_pos hn, if_pos (so_fit hl)]
  have e2 : lays 64 (new 64) (pk l).1 = ((pk l).1.foldl put (new 64), 0) := by unfold lays; rw [if_pos hn, if_pos (so_fit a)]
  have hlen := h.1
  have hpl : (pk l).1.length ≤ 1000000 := by
    rw [e]
    have h1 := adds_len (l.flatMap told) []
    have h2 := tolds_len l fun x hx => (so_ck hl x hx).1
    rw [List.length_nil] at h1
    omega
  have o1 : ofS 64 (l.foldl put (new 64)) = (cellsM (l.foldl put (new 64)), 0) := by unfold ofS; rw [if_pos m1]
  have o2 : ofS 64 ((pk l).1.foldl put (new 64)) = (cellsM ((pk l).1.foldl put (new 64)), 0) := by unfold ofS; rw [if_pos m2]
  have k1 := mk_len m1
  have k2 := mk_len m2
  have k3 := ce_len m1
  have k4 := ce_len m2
  have hnl : (new 64).length = 1 := rfl
  rw [en, tc_some]
  simp only
  rw [mLay_eq _ _ _ (by omega) (by omega), tc_some, mLay_eq _ _ _ (by omega) (by omega), tc_some, e1, e2]
  simp only
  rw [iOf_eq _ _ (by omega), tc_some, iOf_eq _ _ (by omega), tc_some, o1, o2]
  simp only
  rw [iRead_eq _ _ _ (by omega), tc_some, iRead_eq _ _ _ (by omega), tc_some, read_all m1, read_all m2, lay_bytes h]
  simp
theorem lZerosPacks_true (l : List Ex) : lZerosPacks l = some true := by
  unfold lZerosPacks
  rw [show aw15 = some true from rfl, tc_some, few_eq, tc_some]
  by_cases h3 : l.length ≤ 70 ∧ ∀ x ∈ l, x.d.length ≤ 3000
  case neg => rw [decide_eq_false h3]; rfl
  rw [decide_eq_true h3, pPack_eq, tc_some, r10List_eq, tc_some]
  simp only [Bool.not_true, tb_f, tb_bne, tb_not, tb_t]
  by_cases h : Ls l
  case neg =>
    have e : pk l = ([], 70) := by unfold pk; rw [if_neg h]
    rw [e, decide_eq_false h]
    rfl
  obtain ⟨a, b, c, d, e⟩ := pk_spec h
  obtain ⟨t1, t2⟩ := pk_twice h
  rw [d, if_pos rfl, decide_eq_true h, pPack_eq, tc_some]
  have hpl : (pk l).1.length ≤ 1000000 := by
    rw [e]
    have h1 := adds_len (l.flatMap told) []
    have h2 := tolds_len l fun x hx => (so_ck (ls_so h) x hx).1
    have := h.1
    rw [List.length_nil] at h1
    omega
  have hx : ∀ i, i < (pk l).1.length → Ck (exAt (pk l).1 i) ∧ Gd (exAt (pk l).1 i) := (exAt_all _ (fun x => Ck x ∧ Gd x)).2 fun x hx => ⟨(so_ck a x hx).1, c x hx⟩
  have hend := packs_end l h
  have hin : ∀ (i : Nat) (at_ : Int), i < (pk l).1.length → 0 ≤ at_ → at_ ≤ 100000 →
      (tp ((0 : Int) ≤ (i : Int) ∧ (i : Int) < ((pk l).1.length : Int)) (if wr (at_ + 32) ≤ ((exAt (pk l).1 i).d.length : Int) then tp (0 ≤ at_) (tp (0 ≤ wr (at_ + 32)) (tp (at_.toNat ≤ (wr (at_ + 32)).toNat ∧ (wr (at_ + 32)).toNat ≤ (exAt (pk l).1 i).d.length ∧ ((exAt (pk l).1 i).d.map AV.y).length = (exAt (pk l).1 i).d.length * 1) (tc (pIs (List.take (((wr (at_ + 32)).toNat - at_.toNat) * 1) (List.drop (at_.toNat * 1) (exAt (pk l).1 i).d))) fun s => tb s none (some (wr (at_ + 32)))))) else none)) =
      if at_ + 32 ≤ ((exAt (pk l).1 i).d.length : Int) then (if isz (((exAt (pk l).1 i).d.drop at_.toNat).take 32) = true then none else some (at_ + 32)) else none := by
    intro i at_ hi g1 g2
    rw [tp_pos (by omega), wr_id (x := at_ + 32) (by omega) (by omega)]
    by_cases g : at_ + 32 ≤ ((exAt (pk l).1 i).d.length : Int)
    · have hd := ck_dlen (hx i hi).1
      rw [if_pos g, if_pos g, tp_pos g1, tp_pos (by omega), tp_pos (by refine ⟨by omega, by omega, by simp⟩), Nat.mul_one, Nat.mul_one, show (at_ + 32).toNat - at_.toNat = 32 by omega, pIs_eq _ (by rw [List.length_take]; omega), tc_some, tb_ite]
    · rw [if_neg g, if_neg g]
  by_cases hl : Ls (pk l).1
  · rw [t1 hl]
    simp only
    rw [show ((0 : Int) == 0) = true from rfl, tb_t, r7All_eq _ _ (by omega), tc_some, decide_eq_true rfl, tb_t]
    rw [th_run_at (s0 := (0 : Int)) (S := fun i => (i : Int)) (k := (pk l).1.length) rfl ?_ ?_]
    · rw [tb_dec, if_neg (by omega)]
      rw [show pk l = ((pk l).1, 0) from Prod.ext rfl d]
      exact hend
    · intro i hi
      obtain ⟨x1, x2⟩ := hx i hi
      have hd := ck_dlen x1
      unfold lZerosPacks_L0_step
      rw [tb_dec, if_pos (by omega), packs_in x1 x2 _ _ fun at_ g1 g2 => ?_]
      · simp only [tb_dec, Int.toNat_natCast]
        rw [tp_pos (by omega), wr_id (x := ((32 * ((exAt (pk l).1 i).d.length / 32) : Nat) : Int) + 32) (by omega) (by omega), if_neg (by omega), wr_id (x := (i : Int) + 1) (by omega) (by omega)]
        by_cases g : (i : Int) > 0
        · have hw : wr ((i : Int) - 1) = ((i - 1 : Nat) : Int) := by rw [wr_id (by omega) (by omega)]; omega
          have hj := nj_at _ b (i - 1) (by omega)
          rw [show i - 1 + 1 = i by omega] at hj
          rw [if_pos g, hw, tp_pos (by omega), Int.toNat_natCast, eJoins_eq, tc_some, jn_f hj, tb_f]; rfl
        · rw [if_neg g]; rfl
      · have := hin i at_ hi g1 g2
        unfold lZerosPacks_L1_step
        simp only [tb_dec, Int.toNat_natCast]
        exact this
    · unfold lZerosPacks_L0_step
      rw [tb_dec, if_neg (by omega)]
  · obtain ⟨q1, q2⟩ := t2 hl
    rw [q2]
    simp only
    rw [show ((70 : Int) == 0) = false from rfl, tb_f, tb_dec, if_neg (by omega)]
    rw [th_run_at (s0 := (0 : Int)) (S := fun i => (i : Int)) (k := (pk l).1.length) rfl ?_ ?_]
    · rw [tb_dec, if_neg (by omega)]
      rw [show pk l = ((pk l).1, 0) from Prod.ext rfl d]
      exact hend
    · intro i hi
      obtain ⟨x1, x2⟩ := hx i hi
      have hd := ck_dlen x1
      unfold lZerosPacks_L3_step
      rw [tb_dec, if_pos (by omega), packs_in x1 x2 _ _ fun at_ g1 g2 => ?_]
      · simp only [tb_dec, Int.toNat_natCast]
        rw [tp_pos (by omega), wr_id (x := ((32 * ((exAt (pk l).1 i).d.length / 32) : Nat) : Int) + 32) (by omega) (by omega), if_neg (by omega), wr_id (x := (i : Int) + 1) (by omega) (by omega)]
        by_cases g : (i : Int) > 0
        · have hw : wr ((i : Int) - 1) = ((i - 1 : Nat) : Int) := by rw [wr_id (by omega) (by omega)]; omega
          have hj := nj_at _ b (i - 1) (by omega)
          rw [show i - 1 + 1 = i by omega] at hj
          rw [if_pos g, hw, tp_pos (by omega), Int.toNat_natCast, eJoins_eq, tc_some, jn_f hj, tb_f]; rfl
        · rw [if_neg g]; rfl
      · have := hin i at_ hi g1 g2
        unfold lZerosPacks_L4_step
        simp only [tb_dec, Int.toNat_natCast]
        exact this
    · unfold lZerosPacks_L3_step
      rw [tb_dec, if_neg (by omega)]
theorem zerosPacks_call (l : List Ex) (_ : ∀ x ∈ l, Ex.ok x) : EvFr Try.prog cf false 6 [.sl l.length (l.flatMap Ex.cells)] (.b true) := lZerosPacks_ok l true (lZerosPacks_true l)
end Ab
end Go.Proofs.Ytiaelfmohamipaa
