/- The law 'ImageTells': it returns true, and nothing that was there changes. No condition. (Part 9 of 11.) -/
import Derived.Test.YtadipihpgcelmaaTe8
import Derived.Test.YtadipihpgcelmaaRows
namespace Go.Proofs.Ytadipihpgcelmaa
open Go Go.Proofs.Ytadipihpgcelmaa.Ab
set_option linter.unusedVariables false
set_option linter.unusedSimpArgs false
set_option maxRecDepth 1000000
namespace Ab
noncomputable abbrev r9Alike_L0_I (a : List Ce) (b : List Ce) : St := (St.mk [(0, (AV.sl (List.length a) (List.flatMap Ce.cells a))), (1, (AV.sl (List.length b) (List.flatMap Ce.cells b))), (4, (AV.b Bool.false)), (6, (AV.sl (List.length a) (List.flatMap Ce.cells a))), (7, (AV.i (↑(List.length a) : Int))), (8, (AV.sl (List.length b) (List.flatMap Ce.cells b))), (9, (AV.i (↑(List.length b) : Int))), (10, (AV.b ((↑(List.length a) : Int) != (↑(List.length b) : Int)))), (5, (AV.i 0))] 41 (AH.mk 0 ([] : List (Prod Nat AObj))) Bool.false)
noncomputable abbrev r9Alike_L0_S (a : List Ce) (b : List Ce) (s1 : Int) : St := (St.mk [(0, (AV.sl (List.length a) (List.flatMap Ce.cells a))), (1, (AV.sl (List.length b) (List.flatMap Ce.cells b))), (10, (AV.b ((↑(List.length a) : Int) != (↑(List.length b) : Int)))), (5, (AV.i s1))] 41 (AH.mk 0 ([] : List (Prod Nat AObj))) Bool.false)
noncomputable def r9Alike_L0_step (a : List Ce) (b : List Ce) (s1 : Int) : Option (Int) :=
 (tb ((decide (s1 < (↑(List.length a) : Int))))
  (tp ((((0 : Int) ≤ s1) ∧ (s1 < (↑(List.length a) : Int))))
   (tp ((((0 : Int) ≤ s1) ∧ (s1 < (↑(List.length b) : Int))))
    (tb (((ceAt a (Int.toNat s1)).kind != (ceAt b (Int.toNat s1)).kind))
     none /- exit -/
     (tb ((!((pad 32 (ceAt a (Int.toNat s1)).d) == (pad 32 (ceAt b (Int.toNat s1)).d))))
      none /- exit -/
      (some ((wr (s1 + (1 : Int)))))))))
  none /- exit -/)
theorem r9Alike_L0_s0 (a : List Ce) (b : List Ce) (s1 : Int) (h2 : ((decide (s1 < (↑(List.length a) : Int)))) = true) (h2p : (s1 < (↑(List.length a) : Int))) (h3 : (((0 : Int) ≤ s1) ∧ (s1 < (↑(List.length a) : Int)))) (h4 : (((0 : Int) ≤ s1) ∧ (s1 < (↑(List.length b) : Int)))) (h5 : (((ceAt a (Int.toNat s1)).kind != (ceAt b (Int.toNat s1)).kind)) = false) (h5p : ((ceAt a (Int.toNat s1)).kind = (ceAt b (Int.toNat s1)).kind)) (h6 : ((!((pad 32 (ceAt a (Int.toNat s1)).d) == (pad 32 (ceAt b (Int.toNat s1)).d)))) = false) : EvStep Try.prog cf 0 (lp Try.prog 20 0) (r9Alike_L0_S a b s1) (r9Alike_L0_S a b ((wr (s1 + (1 : Int))))) :=
  leafS vw_eq (k := 300) (r := []) (hs := hz [(4, [.yes]), (2, [.yes]), (1, [.yes, .val ((AV.i (ceAt a (Int.toNat s1)).kind))]), (2, [.yes]), (1, [.yes, .val ((AV.i (ceAt b (Int.toNat s1)).kind))]), (2, [.no]), (1, [.no]), (1, [.no, .yes, .no]), (1, [.no, .yes, .cells ((List.map AV.y (pad 32 (ceAt a (Int.toNat s1)).d))), .no]), (1, [.no]), (1, [.no, .yes, .no]), (1, [.no, .yes, .cells ((List.map AV.y (pad 32 (ceAt b (Int.toNat s1)).d))), .no, .yes, .truth (((pad 32 (ceAt a (Int.toNat s1)).d) == (pad 32 (ceAt b (Int.toNat s1)).d))), .no, .yes, .no]), (3, [])]) (st1 := (St.mk [(0, (AV.sl (List.length a) (List.flatMap Ce.cells a))), (1, (AV.sl (List.length b) (List.flatMap Ce.cells b))), (10, (AV.b ((↑(List.length a) : Int) != (↑(List.length b) : Int)))), (5, (AV.i (wr (s1 + (1 : Int))))), (11, (AV.i s1)), (12, (AV.sl (List.length a) (List.flatMap Ce.cells a))), (13, (AV.i (↑(List.length a) : Int))), (14, (AV.b (decide (s1 < (↑(List.length a) : Int))))), (17, (AV.sl (List.length a) (List.flatMap Ce.cells a))), (18, (AV.i s1)), (19, (AV.ip (List.drop ((Int.toNat s1) * (34 : Nat)) (List.flatMap Ce.cells a)))), (20, (AV.ip (List.drop ((Int.toNat s1) * (34 : Nat)) (List.flatMap Ce.cells a)))), (21, (AV.i (ceAt a (Int.toNat s1)).kind)), (22, (AV.sl (List.length b) (List.flatMap Ce.cells b))), (23, (AV.i s1)), (24, (AV.ip (List.drop ((Int.toNat s1) * (34 : Nat)) (List.flatMap Ce.cells b)))), (25, (AV.ip (List.drop ((Int.toNat s1) * (34 : Nat)) (List.flatMap Ce.cells b)))), (26, (AV.i (ceAt b (Int.toNat s1)).kind)), (27, (AV.b ((ceAt a (Int.toNat s1)).kind != (ceAt b (Int.toNat s1)).kind))), (28, (AV.b ((ceAt a (Int.toNat s1)).kind != (ceAt b (Int.toNat s1)).kind))), (29, (AV.sl (List.length a) (List.flatMap Ce.cells a))), (30, (AV.i s1)), (31, (AV.ip (List.drop ((Int.toNat s1) * (34 : Nat)) (List.flatMap Ce.cells a)))), (32, (AV.ip (List.drop 2 (List.drop ((Int.toNat s1) * (34 : Nat)) (List.flatMap Ce.cells a))))), (33, (AV.ag (List.map AV.y (pad 32 (ceAt a (Int.toNat s1)).d)))), (34, (AV.sl (List.length b) (List.flatMap Ce.cells b))), (35, (AV.i s1)), (36, (AV.ip (List.drop ((Int.toNat s1) * (34 : Nat)) (List.flatMap Ce.cells b)))), (37, (AV.ip (List.drop 2 (List.drop ((Int.toNat s1) * (34 : Nat)) (List.flatMap Ce.cells b))))), (38, (AV.ag (List.map AV.y (pad 32 (ceAt b (Int.toNat s1)).d)))), (39, (AV.b (!((pad 32 (ceAt a (Int.toNat s1)).d) == (pad 32 (ceAt b (Int.toNat s1)).d))))), (40, (AV.b (!((pad 32 (ceAt a (Int.toNat s1)).d) == (pad 32 (ceAt b (Int.toNat s1)).d))))), (15, (AV.i s1)), (16, (AV.i (wr (s1 + (1 : Int)))))] 41 (AH.mk 0 ([] : List (Prod Nat AObj))) Bool.false)) (ps := [((decide (s1 < (↑(List.length a) : Int)))) = true, (((0 : Int) ≤ s1) ∧ (s1 < (↑(List.length a) : Int))), ((1 : Nat) ≤ (List.length (List.drop ((Int.toNat s1) * (34 : Nat)) (List.flatMap Ce.cells a)))), (List.take 1 (List.drop ((Int.toNat s1) * (34 : Nat)) (List.flatMap Ce.cells a))) = [(AV.i (ceAt a (Int.toNat s1)).kind)], (((0 : Int) ≤ s1) ∧ (s1 < (↑(List.length b) : Int))), ((1 : Nat) ≤ (List.length (List.drop ((Int.toNat s1) * (34 : Nat)) (List.flatMap Ce.cells b)))), (List.take 1 (List.drop ((Int.toNat s1) * (34 : Nat)) (List.flatMap Ce.cells b))) = [(AV.i (ceAt b (Int.toNat s1)).kind)], (((ceAt a (Int.toNat s1)).kind != (ceAt b (Int.toNat s1)).kind)) = false, (((ceAt a (Int.toNat s1)).kind != (ceAt b (Int.toNat s1)).kind)) = false, (((ceAt a (Int.toNat s1)).kind != (ceAt b (Int.toNat s1)).kind)) = false, (((0 : Int) ≤ s1) ∧ (s1 < (↑(List.length a) : Int))), (((ceAt a (Int.toNat s1)).kind != (ceAt b (Int.toNat s1)).kind)) = false, (((ceAt a (Int.toNat s1)).kind != (ceAt b (Int.toNat s1)).kind)) = false, ((32 : Nat) ≤ (List.length (List.drop 2 (List.drop ((Int.toNat s1) * (34 : Nat)) (List.flatMap Ce.cells a))))), (List.take 32 (List.drop 2 (List.drop ((Int.toNat s1) * (34 : Nat)) (List.flatMap Ce.cells a)))) = (List.map AV.y (pad 32 (ceAt a (Int.toNat s1)).d)), (((ceAt a (Int.toNat s1)).kind != (ceAt b (Int.toNat s1)).kind)) = false, (((ceAt a (Int.toNat s1)).kind != (ceAt b (Int.toNat s1)).kind)) = false, (((ceAt a (Int.toNat s1)).kind != (ceAt b (Int.toNat s1)).kind)) = false, (((0 : Int) ≤ s1) ∧ (s1 < (↑(List.length b) : Int))), (((ceAt a (Int.toNat s1)).kind != (ceAt b (Int.toNat s1)).kind)) = false, (((ceAt a (Int.toNat s1)).kind != (ceAt b (Int.toNat s1)).kind)) = false, ((32 : Nat) ≤ (List.length (List.drop 2 (List.drop ((Int.toNat s1) * (34 : Nat)) (List.flatMap Ce.cells b))))), (List.take 32 (List.drop 2 (List.drop ((Int.toNat s1) * (34 : Nat)) (List.flatMap Ce.cells b)))) = (List.map AV.y (pad 32 (ceAt b (Int.toNat s1)).d)), (((ceAt a (Int.toNat s1)).kind != (ceAt b (Int.toNat s1)).kind)) = false, (((List.length (List.map AV.y (pad 32 (ceAt a (Int.toNat s1)).d))) = (32 : Nat)) ∧ ((List.length (List.map AV.y (pad 32 (ceAt b (Int.toNat s1)).d))) = (32 : Nat))), eqCells ((List.map AV.y (pad 32 (ceAt a (Int.toNat s1)).d))) ((List.map AV.y (pad 32 (ceAt b (Int.toNat s1)).d))) = some (((pad 32 (ceAt a (Int.toNat s1)).d) == (pad 32 (ceAt b (Int.toNat s1)).d))), (((ceAt a (Int.toNat s1)).kind != (ceAt b (Int.toNat s1)).kind)) = false, orderOk (rg Try.prog 20 0) = true ∧ allOk (Region.before (rg Try.prog 20 0)) [] 0 [(some [], some []), (some [], some []), (some [], some []), (some [], some []), (some [], some []), (some [], some []), (some [], some []), (some [], some []), (some [], some []), (some [], some []), (some [], some []), (some [], some []), (some [], some []), (some [], some []), (some [], some []), (some [], some []), (some [], some []), (some [], some []), (some [], some []), (some [], some []), (some [], some []), (some [], some []), (some [], some []), (some [], some [])] = true, ((!((pad 32 (ceAt a (Int.toNat s1)).d) == (pad 32 (ceAt b (Int.toNat s1)).d)))) = false]) kq ⟨h2, h3, fq, (by first | exact ce_one0 _ _ _ bq rfl | (simpa using ce_one (a) ((Int.toNat s1)) 0 _ bq rfl)), h4, fq, (by first | exact ce_one0 _ _ _ bq rfl | (simpa using ce_one (b) ((Int.toNat s1)) 0 _ bq rfl)), h5, h5, h5, h3, h5, h5, fq, (by first | exact ce_arr _ _ bq | ((try simp only [List.drop_drop]); first | exact ce_arr _ _ bq | (rw [show ((2 : Nat) + ((Int.toNat s1) * (34 : Nat))) = ((Int.toNat s1)) * 34 + 2 by omega]; exact ce_arr _ _ bq)) | (simp [ceAt, pad_of (pad_len _ _), List.take_of_length_le]; done)), h5, h5, h5, h4, h5, h5, fq, (by first | exact ce_arr _ _ bq | ((try simp only [List.drop_drop]); first | exact ce_arr _ _ bq | (rw [show ((2 : Nat) + ((Int.toNat s1) * (34 : Nat))) = ((Int.toNat s1)) * 34 + 2 by omega]; exact ce_arr _ _ bq)) | (simp [ceAt, pad_of (pad_len _ _), List.take_of_length_le]; done)), h5, tq, (eqCells_of tq tq tq), h5, (ord_of ord_20_0 bef_20_0 kq), h6, trivial⟩ (Nat.le_of_ble_eq_true rfl) (absB_of [] [] kq (.consn kq (.eqv tq rfl) (.consn kq (.eqv tq rfl) (.consn kq (.eqv tq rfl) (.consn kq (.eqv tq rfl) .nil)))) .nil)
theorem r9Alike_L0_ok (a : List Ce) (b : List Ce) (s1 zz : Int) : r9Alike_L0_step a b s1 = some zz → EvStep Try.prog cf 0 (lp Try.prog 20 0) (r9Alike_L0_S a b s1) (r9Alike_L0_S a b zz) := by
  unfold r9Alike_L0_step
  refine tb_ok (fun h2 => ?_) (fun h2 => ?_)
  ·
    have h2p := of_decide_eq_true h2
    refine tp_ok (fun h3 => ?_)
    refine tp_ok (fun h4 => ?_)
    refine tb_ok (fun h5 => ?_) (fun h5 => ?_)
    ·
      have h5p := bne_iff_ne.1 h5
      exact fun e => nomatch e
    ·
      have h5p := bne_eq_false_iff_eq.1 h5
      refine tb_ok (fun h6 => ?_) (fun h6 => ?_)
      ·
        exact fun e => nomatch e
      ·
        exact fun e => tl_ok (G := (fun zz => EvStep Try.prog cf 0 (lp Try.prog 20 0) (r9Alike_L0_S a b s1) (r9Alike_L0_S a b zz))) (r9Alike_L0_s0 a b s1 h2 h2p h3 h4 h5 h5p h6) e
  ·
    have h2p := of_decide_eq_false h2
    exact fun e => nomatch e
/-- Function 20, as it answers. -/
noncomputable def r9Alike (a : List Ce) (b : List Ce) : Option (Bool) :=
 (tb (((↑(List.length a) : Int) != (↑(List.length b) : Int)))
  (some (Bool.false))
  (th (r9Alike_L0_step a b) ((0 : Int)) fun s1 =>
   (tb ((decide (s1 < (↑(List.length a) : Int))))
    (tp ((((0 : Int) ≤ s1) ∧ (s1 < (↑(List.length a) : Int))))
     (tb (((ceAt a (Int.toNat s1)).kind != (ceAt b (Int.toNat s1)).kind))
      (some (Bool.false))
      (tb ((!((pad 32 (ceAt a (Int.toNat s1)).d) == (pad 32 (ceAt b (Int.toNat s1)).d))))
       (some (Bool.false))
       none /- stop behind an operation -/)))
    (some (Bool.true)))))
abbrev r9Alike_G (a : List Ce) (b : List Ce) (r : Bool) : Prop := EvFr Try.prog cf true 20 [ces (a), ces (b)] (.b (r))
theorem r9Alike_l0 (a : List Ce) (b : List Ce) (h0 : (((↑(List.length a) : Int) != (↑(List.length b) : Int))) = true) (h0p : ¬ ((↑(List.length a) : Int) = (↑(List.length b) : Int))) : r9Alike_G a b (Bool.false) :=
  leafR vw_eq (k := 300) (r := []) (hs := hz [(6, [.yes]), (1, [])]) (raw := (AV.b Bool.false)) (ps := [(((↑(List.length a) : Int) != (↑(List.length b) : Int))) = true]) kq ⟨h0, trivial⟩ tq
theorem r9Alike_l1 (a : List Ce) (b : List Ce) (h0 : (((↑(List.length a) : Int) != (↑(List.length b) : Int))) = false) (h0p : ((↑(List.length a) : Int) = (↑(List.length b) : Int))) (s1 : Int) (h1 : Runs (r9Alike_L0_step a b) ((0 : Int)) s1) (h2 : ((decide (s1 < (↑(List.length a) : Int)))) = true) (h2p : (s1 < (↑(List.length a) : Int))) (h3 : (((0 : Int) ≤ s1) ∧ (s1 < (↑(List.length a) : Int)))) (h4 : (((ceAt a (Int.toNat s1)).kind != (ceAt b (Int.toNat s1)).kind)) = true) (h4p : ¬ ((ceAt a (Int.toNat s1)).kind = (ceAt b (Int.toNat s1)).kind)) : r9Alike_G a b (Bool.false) :=
  leafR vw_eq (k := 300) (r := []) (hs := hz [(6, [.no]), (1, [.head (r9Alike_L0_S a b s1)]), (4, [.yes]), (2, [.yes]), (1, [.yes, .val ((AV.i (ceAt a (Int.toNat s1)).kind))]), (2, [.yes]), (1, [.yes, .val ((AV.i (ceAt b (Int.toNat s1)).kind))]), (2, [.yes, .yes, .yes, .yes, .yes, .yes, .yes, .yes, .yes, .yes, .yes, .yes, .yes]), (2, [])]) (raw := (AV.b Bool.false)) (ps := [(((↑(List.length a) : Int) != (↑(List.length b) : Int))) = false, EvHead Try.prog cf (lp Try.prog 20 0) (r9Alike_L0_I a b) (r9Alike_L0_S a b s1), ((decide (s1 < (↑(List.length a) : Int)))) = true, (((0 : Int) ≤ s1) ∧ (s1 < (↑(List.length a) : Int))), ((1 : Nat) ≤ (List.length (List.drop ((Int.toNat s1) * (34 : Nat)) (List.flatMap Ce.cells a)))), (List.take 1 (List.drop ((Int.toNat s1) * (34 : Nat)) (List.flatMap Ce.cells a))) = [(AV.i (ceAt a (Int.toNat s1)).kind)], (((0 : Int) ≤ s1) ∧ (s1 < (↑(List.length b) : Int))), ((1 : Nat) ≤ (List.length (List.drop ((Int.toNat s1) * (34 : Nat)) (List.flatMap Ce.cells b)))), (List.take 1 (List.drop ((Int.toNat s1) * (34 : Nat)) (List.flatMap Ce.cells b))) = [(AV.i (ceAt b (Int.toNat s1)).kind)], (((ceAt a (Int.toNat s1)).kind != (ceAt b (Int.toNat s1)).kind)) = true, (((ceAt a (Int.toNat s1)).kind != (ceAt b (Int.toNat s1)).kind)) = true, (((ceAt a (Int.toNat s1)).kind != (ceAt b (Int.toNat s1)).kind)) = true, (((ceAt a (Int.toNat s1)).kind != (ceAt b (Int.toNat s1)).kind)) = true, (((ceAt a (Int.toNat s1)).kind != (ceAt b (Int.toNat s1)).kind)) = true, (((ceAt a (Int.toNat s1)).kind != (ceAt b (Int.toNat s1)).kind)) = true, (((ceAt a (Int.toNat s1)).kind != (ceAt b (Int.toNat s1)).kind)) = true, (((ceAt a (Int.toNat s1)).kind != (ceAt b (Int.toNat s1)).kind)) = true, (((ceAt a (Int.toNat s1)).kind != (ceAt b (Int.toNat s1)).kind)) = true, (((ceAt a (Int.toNat s1)).kind != (ceAt b (Int.toNat s1)).kind)) = true, (((ceAt a (Int.toNat s1)).kind != (ceAt b (Int.toNat s1)).kind)) = true, (((ceAt a (Int.toNat s1)).kind != (ceAt b (Int.toNat s1)).kind)) = true, orderOk (rg Try.prog 20 0) = true ∧ allOk (Region.before (rg Try.prog 20 0)) [] 0 [(some [], some []), (some [], some []), (some [], some []), (some [], some []), (some [], some []), (some [], some []), (some [], some []), (some [], some []), (some [], some []), (some [], some []), (some [], some []), (some [], some []), (some [], some []), (some [], some []), (some [], some []), (some [], some []), (some [], some []), (some [], some []), (some [], some []), (some [], some []), (some [], some []), (some [], some []), (some [], some []), (some [], some [])] = true]) kq ⟨h0, (EvHead.of (r9Alike_L0_ok a b) (absB_of [] [] kq (.consn kq (.eqv tq rfl) (.consn kq (.eqv tq rfl) (.consn kq (.eqv tq rfl) (.consn kq (.eqv tq rfl) .nil)))) .nil) h1), h2, h3, fq, (by first | exact ce_one0 _ _ _ bq rfl | (simpa using ce_one (a) ((Int.toNat s1)) 0 _ bq rfl)), fq, fq, (by first | exact ce_one0 _ _ _ bq rfl | (simpa using ce_one (b) ((Int.toNat s1)) 0 _ bq rfl)), h4, h4, h4, h4, h4, h4, h4, h4, h4, h4, h4, h4, (ord_of ord_20_0 bef_20_0 kq), trivial⟩ tq
theorem r9Alike_l2 (a : List Ce) (b : List Ce) (h0 : (((↑(List.length a) : Int) != (↑(List.length b) : Int))) = false) (h0p : ((↑(List.length a) : Int) = (↑(List.length b) : Int))) (s1 : Int) (h1 : Runs (r9Alike_L0_step a b) ((0 : Int)) s1) (h2 : ((decide (s1 < (↑(List.length a) : Int)))) = true) (h2p : (s1 < (↑(List.length a) : Int))) (h3 : (((0 : Int) ≤ s1) ∧ (s1 < (↑(List.length a) : Int)))) (h4 : (((ceAt a (Int.toNat s1)).kind != (ceAt b (Int.toNat s1)).kind)) = false) (h4p : ((ceAt a (Int.toNat s1)).kind = (ceAt b (Int.toNat s1)).kind)) (h5 : ((!((pad 32 (ceAt a (Int.toNat s1)).d) == (pad 32 (ceAt b (Int.toNat s1)).d)))) = true) : r9Alike_G a b (Bool.false) :=
  leafR vw_eq (k := 300) (r := []) (hs := hz [(6, [.no]), (1, [.head (r9Alike_L0_S a b s1)]), (4, [.yes]), (2, [.yes]), (1, [.yes, .val ((AV.i (ceAt a (Int.toNat s1)).kind))]), (2, [.yes]), (1, [.yes, .val ((AV.i (ceAt b (Int.toNat s1)).kind))]), (2, [.no]), (1, [.no]), (1, [.no, .yes, .no]), (1, [.no, .yes, .cells ((List.map AV.y (pad 32 (ceAt a (Int.toNat s1)).d))), .no]), (1, [.no]), (1, [.no, .yes, .no]), (1, [.no, .yes, .cells ((List.map AV.y (pad 32 (ceAt b (Int.toNat s1)).d))), .no, .yes, .truth (((pad 32 (ceAt a (Int.toNat s1)).d) == (pad 32 (ceAt b (Int.toNat s1)).d))), .no, .yes, .yes]), (1, [])]) (raw := (AV.b Bool.false)) (ps := [(((↑(List.length a) : Int) != (↑(List.length b) : Int))) = false, EvHead Try.prog cf (lp Try.prog 20 0) (r9Alike_L0_I a b) (r9Alike_L0_S a b s1), ((decide (s1 < (↑(List.length a) : Int)))) = true, (((0 : Int) ≤ s1) ∧ (s1 < (↑(List.length a) : Int))), ((1 : Nat) ≤ (List.length (List.drop ((Int.toNat s1) * (34 : Nat)) (List.flatMap Ce.cells a)))), (List.take 1 (List.drop ((Int.toNat s1) * (34 : Nat)) (List.flatMap Ce.cells a))) = [(AV.i (ceAt a (Int.toNat s1)).kind)], (((0 : Int) ≤ s1) ∧ (s1 < (↑(List.length b) : Int))), ((1 : Nat) ≤ (List.length (List.drop ((Int.toNat s1) * (34 : Nat)) (List.flatMap Ce.cells b)))), (List.take 1 (List.drop ((Int.toNat s1) * (34 : Nat)) (List.flatMap Ce.cells b))) = [(AV.i (ceAt b (Int.toNat s1)).kind)], (((ceAt a (Int.toNat s1)).kind != (ceAt b (Int.toNat s1)).kind)) = false, (((ceAt a (Int.toNat s1)).kind != (ceAt b (Int.toNat s1)).kind)) = false, (((ceAt a (Int.toNat s1)).kind != (ceAt b (Int.toNat s1)).kind)) = false, (((0 : Int) ≤ s1) ∧ (s1 < (↑(List.length a) : Int))), (((ceAt a (Int.toNat s1)).kind != (ceAt b (Int.toNat s1)).kind)) = false, (((ceAt a (Int.toNat s1)).kind != (ceAt b (Int.toNat s1)).kind)) = false, ((32 : Nat) ≤ (List.length (List.drop 2 (List.drop ((Int.toNat s1) * (34 : Nat)) (List.flatMap Ce.cells a))))), (List.take 32 (List.drop 2 (List.drop ((Int.toNat s1) * (34 : Nat)) (List.flatMap Ce.cells a)))) = (List.map AV.y (pad 32 (ceAt a (Int.toNat s1)).d)), (((ceAt a (Int.toNat s1)).kind != (ceAt b (Int.toNat s1)).kind)) = false, (((ceAt a (Int.toNat s1)).kind != (ceAt b (Int.toNat s1)).kind)) = false, (((ceAt a (Int.toNat s1)).kind != (ceAt b (Int.toNat s1)).kind)) = false, (((0 : Int) ≤ s1) ∧ (s1 < (↑(List.length b) : Int))), (((ceAt a (Int.toNat s1)).kind != (ceAt b (Int.toNat s1)).kind)) = false, (((ceAt a (Int.toNat s1)).kind != (ceAt b (Int.toNat s1)).kind)) = false, ((32 : Nat) ≤ (List.length (List.drop 2 (List.drop ((Int.toNat s1) * (34 : Nat)) (List.flatMap Ce.cells b))))), (List.take 32 (List.drop 2 (List.drop ((Int.toNat s1) * (34 : Nat)) (List.flatMap Ce.cells b)))) = (List.map AV.y (pad 32 (ceAt b (Int.toNat s1)).d)), (((ceAt a (Int.toNat s1)).kind != (ceAt b (Int.toNat s1)).kind)) = false, (((List.length (List.map AV.y (pad 32 (ceAt a (Int.toNat s1)).d))) = (32 : Nat)) ∧ ((List.length (List.map AV.y (pad 32 (ceAt b (Int.toNat s1)).d))) = (32 : Nat))), eqCells ((List.map AV.y (pad 32 (ceAt a (Int.toNat s1)).d))) ((List.map AV.y (pad 32 (ceAt b (Int.toNat s1)).d))) = some (((pad 32 (ceAt a (Int.toNat s1)).d) == (pad 32 (ceAt b (Int.toNat s1)).d))), (((ceAt a (Int.toNat s1)).kind != (ceAt b (Int.toNat s1)).kind)) = false, orderOk (rg Try.prog 20 0) = true ∧ allOk (Region.before (rg Try.prog 20 0)) [] 0 [(some [], some []), (some [], some []), (some [], some []), (some [], some []), (some [], some []), (some [], some []), (some [], some []), (some [], some []), (some [], some []), (some [], some []), (some [], some []), (some [], some []), (some [], some []), (some [], some []), (some [], some []), (some [], some []), (some [], some []), (some [], some []), (some [], some []), (some [], some []), (some [], some []), (some [], some []), (some [], some []), (some [], some [])] = true, ((!((pad 32 (ceAt a (Int.toNat s1)).d) == (pad 32 (ceAt b (Int.toNat s1)).d)))) = true]) kq ⟨h0, (EvHead.of (r9Alike_L0_ok a b) (absB_of [] [] kq (.consn kq (.eqv tq rfl) (.consn kq (.eqv tq rfl) (.consn kq (.eqv tq rfl) (.consn kq (.eqv tq rfl) .nil)))) .nil) h1), h2, h3, fq, (by first | exact ce_one0 _ _ _ bq rfl | (simpa using ce_one (a) ((Int.toNat s1)) 0 _ bq rfl)), fq, fq, (by first | exact ce_one0 _ _ _ bq rfl | (simpa using ce_one (b) ((Int.toNat s1)) 0 _ bq rfl)), h4, h4, h4, h3, h4, h4, fq, (by first | exact ce_arr _ _ bq | ((try simp only [List.drop_drop]); first | exact ce_arr _ _ bq | (rw [show ((2 : Nat) + ((Int.toNat s1) * (34 : Nat))) = ((Int.toNat s1)) * 34 + 2 by omega]; exact ce_arr _ _ bq)) | (simp [ceAt, pad_of (pad_len _ _), List.take_of_length_le]; done)), h4, h4, h4, fq, h4, h4, fq, (by first | exact ce_arr _ _ bq | ((try simp only [List.drop_drop]); first | exact ce_arr _ _ bq | (rw [show ((2 : Nat) + ((Int.toNat s1) * (34 : Nat))) = ((Int.toNat s1)) * 34 + 2 by omega]; exact ce_arr _ _ bq)) | (simp [ceAt, pad_of (pad_len _ _), List.take_of_length_le]; done)), h4, tq, (eqCells_of tq tq tq), h4, (ord_of ord_20_0 bef_20_0 kq), h5, trivial⟩ tq
theorem r9Alike_l3 (a : List Ce) (b : List Ce) (h0 : (((↑(List.length a) : Int) != (↑(List.length b) : Int))) = false) (h0p : ((↑(List.length a) : Int) = (↑(List.length b) : Int))) (s1 : Int) (h1 : Runs (r9Alike_L0_step a b) ((0 : Int)) s1) (h2 : ((decide (s1 < (↑(List.length a) : Int)))) = false) (h2p : ¬ (s1 < (↑(List.length a) : Int))) : r9Alike_G a b (Bool.true) :=
  leafR vw_eq (k := 300) (r := []) (hs := hz [(6, [.no]), (1, [.head (r9Alike_L0_S a b s1)]), (4, [.no]), (1, [])]) (raw := (AV.b Bool.true)) (ps := [(((↑(List.length a) : Int) != (↑(List.length b) : Int))) = false, EvHead Try.prog cf (lp Try.prog 20 0) (r9Alike_L0_I a b) (r9Alike_L0_S a b s1), ((decide (s1 < (↑(List.length a) : Int)))) = false]) kq ⟨h0, (EvHead.of (r9Alike_L0_ok a b) (absB_of [] [] kq (.consn kq (.eqv tq rfl) (.consn kq (.eqv tq rfl) (.consn kq (.eqv tq rfl) (.consn kq (.eqv tq rfl) .nil)))) .nil) h1), h2, trivial⟩ tq
theorem r9Alike_ok (a : List Ce) (b : List Ce) (r : Bool) : r9Alike a b = some r → r9Alike_G a b r := by
  unfold r9Alike
  refine tb_ok (fun h0 => ?_) (fun h0 => ?_)
  ·
    have h0p := bne_iff_ne.1 h0
    exact fun e => tl_ok (G := r9Alike_G a b) (r9Alike_l0 a b h0 h0p) e
  ·
    have h0p := bne_eq_false_iff_eq.1 h0
    refine th_ok (fun s1 h1 => ?_)
    refine tb_ok (fun h2 => ?_) (fun h2 => ?_)
    ·
      have h2p := of_decide_eq_true h2
      refine tp_ok (fun h3 => ?_)
      refine tb_ok (fun h4 => ?_) (fun h4 => ?_)
      ·
        have h4p := bne_iff_ne.1 h4
        exact fun e => tl_ok (G := r9Alike_G a b) (r9Alike_l1 a b h0 h0p s1 h1 h2 h2p h3 h4 h4p) e
      ·
        have h4p := bne_eq_false_iff_eq.1 h4
        refine tb_ok (fun h5 => ?_) (fun h5 => ?_)
        ·
          exact fun e => tl_ok (G := r9Alike_G a b) (r9Alike_l2 a b h0 h0p s1 h1 h2 h2p h3 h4 h4p h5) e
        ·
          exact fun e => nomatch e
    ·
      have h2p := of_decide_eq_false h2
      exact fun e => tl_ok (G := r9Alike_G a b) (r9Alike_l3 a b h0 h0p s1 h1 h2 h2p) e
end Ab
end Go.Proofs.Ytadipihpgcelmaa
namespace Go.Proofs.Ytadipihpgcelmaa
open Go Go.Proofs.Ytadipihpgcelmaa.Ab
set_option linter.unusedVariables false
set_option linter.unusedSimpArgs false
namespace Ab
/-- May an extent be? -/
def Ck (x : Ex) : Prop := 0 ≤ x.lba ∧ x.lba ≤ 64 ∧ 1 ≤ x.len ∧ x.len ≤ 64 - x.lba ∧ 0 ≤ x.kind ∧ x.kind ≤ 2 ∧ 0 ≤ x.gen ∧ x.gen ≤ 2147483647 ∧ (x.kind = 2 → (x.d.length : Int) = 32 * x.len) ∧ (x.kind ≠ 2 → x.d = [])
instance (x : Ex) : Decidable (Ck x) := by unfold Ck; infer_instance
def ck (x : Ex) : Bool := decide (Ck x)
theorem ck_iff {x : Ex} : ck x = true ↔ Ck x := decide_eq_true_iff
theorem len0 {α : Type} {l : List α} : ((l.length : Int) = 0) ↔ l = [] := by
  rw [← List.length_eq_zero_iff]; omega
theorem ck_t {x : Ex} (h : Ck x) : ck x = true := ck_iff.2 h
theorem ck_f {x : Ex} (h : ¬ Ck x) : ck x = false := decide_eq_false_iff_not.2 h
theorem eCheck_eq (x : Ex) : eCheck x = some (ck x) := by
  unfold eCheck
  simp only [tb_dec, tb_beq]
  by_cases h1 : x.lba ≥ 0
  case neg => rw [if_neg h1, ck_f (by unfold Ck; omega)]
  by_cases h2 : x.lba ≤ 64
  case neg => rw [if_pos h1, if_neg h2, ck_f (by unfold Ck; omega)]
  have hw : wr (64 - x.lba) = 64 - x.lba := wr_id (by omega) (by omega)
  rw [hw, if_pos h1, if_pos h2]
  by_cases h3 : x.len ≥ 1
  case neg => rw [if_neg h3, ck_f (by unfold Ck; omega)]
  by_cases h4 : x.len ≤ 64 - x.lba
  case neg => rw [if_pos h3, if_neg h4, ck_f (by unfold Ck; omega)]
  have hw2 : wr (x.len * 32) = x.len * 32 := wr_id (by omega) (by omega)
  rw [hw2, if_pos h3, if_pos h4]
  by_cases h5 : x.kind ≥ 0
  case neg => rw [if_neg h5, ck_f (by unfold Ck; omega)]
  by_cases h6 : x.kind ≤ 2
  case neg => rw [if_pos h5, if_neg h6, ck_f (by unfold Ck; omega)]
  by_cases h7 : x.gen ≥ 0
  case neg => rw [if_pos h5, if_pos h6, if_neg h7, ck_f (by unfold Ck; omega)]
  by_cases h8 : x.gen ≤ 2147483647
  case neg => rw [if_pos h5, if_pos h6, if_pos h7, if_neg h8, ck_f (by unfold Ck; omega)]
  rw [if_pos h5, if_pos h6, if_pos h7, if_pos h8]
  by_cases h9 : x.kind = 2
  · rw [if_pos h9]
    congr 1
    rw [Bool.eq_iff_iff, ck_iff, beq_iff_eq]
    exact ⟨fun h => ⟨h1, h2, h3, h4, h5, h6, h7, h8, fun _ => by omega, fun h' => absurd h9 h'⟩, fun h => by have := h.2.2.2.2.2.2.2.2.1 h9; omega⟩
  · rw [if_neg h9]
    congr 1
    rw [Bool.eq_iff_iff, ck_iff, beq_iff_eq, len0]
    exact ⟨fun h => ⟨h1, h2, h3, h4, h5, h6, h7, h8, fun h' => absurd h' h9, fun _ => h⟩, fun h => h.2.2.2.2.2.2.2.2.2 h9⟩
theorem r7Check_eq (x : Ex) : r7Check x = some (ck x) := by
  unfold r7Check
  simp only [tb_dec, tb_beq]
  by_cases h1 : x.lba < 0
  case pos => rw [if_pos h1, ck_f (by unfold Ck; omega)]
  by_cases h2 : x.lba > 64
  case pos => rw [if_neg h1, if_pos h2, ck_f (by unfold Ck; omega)]
  have hw : wr (64 - x.lba) = 64 - x.lba := wr_id (by omega) (by omega)
  rw [hw, if_neg h1, if_neg h2]
  by_cases h3 : x.len < 1
  case pos => rw [if_pos h3, ck_f (by unfold Ck; omega)]
  by_cases h4 : x.len > 64 - x.lba
  case pos => rw [if_neg h3, if_pos h4, ck_f (by unfold Ck; omega)]
  have hw2 : wr (32 * x.len) = 32 * x.len := wr_id (by omega) (by omega)
  rw [hw2, if_neg h3, if_neg h4]
  by_cases h5 : x.kind < 0
  case pos => rw [if_pos h5, ck_f (by unfold Ck; omega)]
  by_cases h6 : x.kind > 2
  case pos => rw [if_neg h5, if_pos h6, ck_f (by unfold Ck; omega)]
  by_cases h7 : x.gen < 0
  case pos => rw [if_neg h5, if_neg h6, if_pos h7, ck_f (by unfold Ck; omega)]
  by_cases h8 : x.gen ≥ 2147483648
  case pos => rw [if_neg h5, if_neg h6, if_neg h7, if_pos h8, ck_f (by unfold Ck; omega)]
  rw [if_neg h5, if_neg h6, if_neg h7, if_neg h8]
  by_cases h9 : x.kind = 2
  · rw [if_pos h9]
    congr 1
    rw [Bool.eq_iff_iff, ck_iff, beq_iff_eq]
    exact ⟨fun h => ⟨by omega, by omega, by omega, by omega, by omega, by omega, by omega, by omega, fun _ => by omega, fun h' => absurd h9 h'⟩, fun h => by have := h.2.2.2.2.2.2.2.2.1 h9; omega⟩
  · rw [if_neg h9]
    congr 1
    rw [Bool.eq_iff_iff, ck_iff, beq_iff_eq, len0]
    exact ⟨fun h => ⟨by omega, by omega, by omega, by omega, by omega, by omega, by omega, by omega, fun h' => absurd h' h9, fun _ => h⟩, fun h => h.2.2.2.2.2.2.2.2.2 h9⟩
/-- Does one go on another one? -/
def Jn (a b : Ex) : Prop := Ck a ∧ Ck b ∧ a.lba + a.len = b.lba ∧ a.kind = b.kind ∧ a.gen = b.gen
instance (a b : Ex) : Decidable (Jn a b) := by unfold Jn; infer_instance
def jn (a b : Ex) : Bool := decide (Jn a b)
theorem jn_iff {a b : Ex} : jn a b = true ↔ Jn a b := decide_eq_true_iff
theorem jn_f {a b : Ex} (h : ¬ Jn a b) : jn a b = false := decide_eq_false_iff_not.2 h
theorem jn_t {a b : Ex} (h : Jn a b) : jn a b = true := jn_iff.2 h
theorem eJoins_eq (a b : Ex) : eJoins a b = some (jn a b) := by
  unfold eJoins
  simp only [eCheck_eq, tc_some]
  by_cases ha : Ck a
  case neg => rw [ck_f ha, jn_f (fun h => ha h.1)]; first | rfl | (cases ck b <;> rfl)
  by_cases hb : Ck b
  case neg => rw [ck_t ha, ck_f hb, jn_f (fun h => hb h.2.1)]; rfl
  have : wr (a.lba + a.len) = a.lba + a.len := by unfold Ck at ha; exact wr_id (by omega) (by omega)
  rw [ck_t ha, ck_t hb, this]
  simp only [tb_t, tb_beq]
  by_cases h1 : a.lba + a.len = b.lba
  case neg => rw [if_neg h1, jn_f (fun h => h1 h.2.2.1)]
  by_cases h2 : a.kind = b.kind
  case neg => rw [if_pos h1, if_neg h2, jn_f (fun h => h2 h.2.2.2.1)]
  rw [if_pos h1, if_pos h2]
  congr 1
  rw [Bool.eq_iff_iff, jn_iff, beq_iff_eq]
  exact ⟨fun h => ⟨ha, hb, h1, h2, h⟩, fun h => h.2.2.2.2⟩
theorem r7Joins_eq (a b : Ex) : r7Joins a b = some (jn a b) := by
  unfold r7Joins
  simp only [r7Check_eq, tc_some]
  by_cases ha : Ck a
  case neg => rw [ck_f ha, jn_f (fun h => ha h.1)]; first | rfl | (cases ck b <;> rfl)
  by_cases hb : Ck b
  case neg => rw [ck_t ha, ck_f hb, jn_f (fun h => hb h.2.1)]; rfl
  have : wr (a.lba + a.len) = a.lba + a.len := by unfold Ck at ha; exact wr_id (by omega) (by omega)
  rw [ck_t ha, ck_t hb, this]
  simp only [tb_t, tb_beq]
  by_cases h1 : a.lba + a.len = b.lba
  case neg => rw [if_neg h1, jn_f (fun h => h1 h.2.2.1)]
  by_cases h2 : a.kind = b.kind
  case neg => rw [if_pos h1, if_neg h2, jn_f (fun h => h2 h.2.2.2.1)]
  rw [if_pos h1, if_pos h2]
  congr 1
  rw [Bool.eq_iff_iff, jn_iff, beq_iff_eq]
  exact ⟨fun h => ⟨ha, hb, h1, h2, h⟩, fun h => h.2.2.2.2⟩
theorem r7Same_eq (a b : Ex) : r7Same a b = some (decide (a = b)) := by
  unfold r7Same
  simp only [tb_beq]
  obtain ⟨a1, a2, a3, a4, a5⟩ := a
  obtain ⟨b1, b2, b3, b4, b5⟩ := b
  simp only [Ex.mk.injEq]
  repeat' split
  all_goals (congr 1; rw [Bool.eq_iff_iff]; simp_all)
theorem exAt_all (l : List Ex) (p : Ex → Prop) : (∀ i, i < l.length → p (exAt l i)) ↔ ∀ x ∈ l, p x := by
  unfold exAt; exact getD_all _ l p
theorem few_eq (l : List Ex) : few l = some (decide (l.length ≤ 70 ∧ ∀ x ∈ l, x.d.length ≤ 3000)) := by
  unfold few
  rw [tb_dec]
  by_cases hl : (l.length : Int) > 70
  · rw [if_pos hl]; congr 1; symm; rw [decide_eq_false_iff_not]; omega
  rw [if_neg hl]
  rw [th_all (some false) (some true) l.length (fun i => (exAt l i).d.length ≤ 3000) (∀ x ∈ l, x.d.length ≤ 3000) (exAt_all l (fun x => x.d.length ≤ 3000))]
  · split
    · rename_i h; congr 1; symm; rw [decide_eq_true_iff]; exact ⟨by omega, h⟩
    · rename_i h; congr 1; symm; rw [decide_eq_false_iff_not]; exact fun g => h g.2
  · intro i hi hp
    unfold few_L0_step
    simp only [tb_dec, Int.toNat_natCast]
    rw [if_pos (by omega), tp_pos (by omega), if_neg (by omega), wr_id (by omega) (by omega)]
  · intro i hi hp
    unfold few_L0_step
    simp only [tb_dec, Int.toNat_natCast]
    rw [if_pos (by omega), tp_pos (by omega), if_pos (by omega), if_pos (by omega), tp_pos (by omega), if_pos (by omega)]
    exact ⟨rfl, rfl⟩
  · unfold few_L0_step
    simp only [tb_dec]
    rw [if_neg (by omega), if_neg (by omega)]
    exact ⟨rfl, rfl⟩
theorem r7All_eq (a b : List Ex) (ha : a.length ≤ 4294967296) : r7All a b = some (decide (a = b)) := by
  unfold r7All
  rw [tb_bne]
  by_cases hl : (a.length : Int) = b.length
  · rw [if_pos hl]
    rw [th_all (some false) (some true) a.length (fun i => exAt a i = exAt b i) (a = b)]
    · split <;> rename_i h <;> simp [h]
    · constructor
      · intro h
        refine List.ext_getElem (by omega) fun i h1 h2 => ?_
        have := h i h1
        simpa [exAt, h1, h2] using this
      · rintro rfl; exact fun _ _ => rfl
    · intro i hi hp
      unfold r7All_L0_step
      simp only [tb_dec, Int.toNat_natCast, r7Same_eq, tc_some]
      rw [if_pos (by omega), tp_pos (by omega), tp_pos (by omega), hp, wr_id (by omega) (by omega)]
      simp
    · intro i hi hp
      unfold r7All_L0_step
      simp only [tb_dec, Int.toNat_natCast, r7Same_eq, tc_some]
      rw [if_pos (by omega), tp_pos (by omega), tp_pos (by omega), if_pos (by omega), tp_pos (by omega)]
      simp [hp]
    · unfold r7All_L0_step
      simp only [tb_dec]
      rw [if_neg (by omega), if_neg (by omega)]
      exact ⟨rfl, rfl⟩
  · rw [if_neg hl]
    congr 1; symm; rw [decide_eq_false_iff_not]; rintro rfl; exact hl rfl
end Ab
end Go.Proofs.Ytadipihpgcelmaa
namespace Go.Proofs.Ytadipihpgcelmaa
open Go Go.Proofs.Ytadipihpgcelmaa.Ab
set_option linter.unusedVariables false
set_option linter.unusedSimpArgs false
set_option maxRecDepth 1000000
namespace Ab
/-- Function 33, as it answers. -/
noncomputable def eJoin (a : Ex) (b : Ex) : Option (Ex × Int) :=
 (tc (eJoins (a) (b)) fun s0 =>
  (tb ((!s0))
   (some (((Ex.mk 0 0 0 0 ([] : List UInt8)), (70 : Int))))
   (tp (((List.length a.d) ≤ (4294967296 : Nat)))
    (tp ((((List.length (List.map AV.y a.d)) = ((List.length a.d) * (1 : Nat))) ∧ (((List.length a.d) + (List.length b.d)) ≤ (4294967296 : Nat))))
     (some (((Ex.mk a.lba (wr (a.len + b.len)) a.kind a.gen (a.d ++ b.d)), (0 : Int))))))))
abbrev eJoin_G (a : Ex) (b : Ex) (r : Ex × Int) : Prop := EvFr Try.prog cf true 33 [Ex.av (a), Ex.av (b)] (.tu [Ex.av (r.1), .i (r.2)])
theorem eJoin_l0 (a : Ex) (b : Ex) (s0 : Bool) (h0 : eJoins (a) (b) = some s0) (h1 : ((!s0)) = true) : eJoin_G a b (((Ex.mk 0 0 0 0 ([] : List UInt8)), (70 : Int))) :=
  leafR vw_eq (k := 300) (r := []) (hs := hz [(5, [.cells ((xc a))]), (1, [.cells ((xc b))]), (1, [.fres (.b (s0))]), (1, [.yes]), (2, [.cells ([(AV.i 0), (AV.i 0), (AV.i 0), (AV.i 0), AV.nl])]), (2, [.cells ([(AV.i 0), (AV.i 0), (AV.i 0), (AV.i 0), AV.nl])])]) (raw := (AV.tu [(AV.ag [(AV.i 0), (AV.i 0), (AV.i 0), (AV.i 0), (AV.sl 0 ([] : List AV))]), (AV.i 70)])) (ps := [((xc a) : List AV) = (xc a), ((xc b) : List AV) = (xc b), EvFr Try.prog cf Bool.false 46 [(AV.ag (xc a)), (AV.ag (xc b))] (.b (s0)), ((!s0)) = true, ([(AV.i 0), (AV.i 0), (AV.i 0), (AV.i 0), AV.nl] : List AV) = [(AV.i 0), (AV.i 0), (AV.i 0), (AV.i 0), AV.nl], ([(AV.i 0), (AV.i 0), (AV.i 0), (AV.i 0), AV.nl] : List AV) = [(AV.i 0), (AV.i 0), (AV.i 0), (AV.i 0), AV.nl]]) kq ⟨rfl, rfl, ((eJoins_ok (a) (b) _ h0).any.cast tq), h1, rfl, rfl, trivial⟩ tq
theorem eJoin_l1 (a : Ex) (b : Ex) (s0 : Bool) (h0 : eJoins (a) (b) = some s0) (h1 : ((!s0)) = false) (h2 : ((List.length a.d) ≤ (4294967296 : Nat))) (h3 : (((List.length (List.map AV.y a.d)) = ((List.length a.d) * (1 : Nat))) ∧ (((List.length a.d) + (List.length b.d)) ≤ (4294967296 : Nat)))) : eJoin_G a b (((Ex.mk a.lba (wr (a.len + b.len)) a.kind a.gen (a.d ++ b.d)), (0 : Int))) :=
  leafR vw_eq (k := 300) (r := []) (hs := hz [(5, [.cells ((xc a))]), (1, [.cells ((xc b))]), (1, [.fres (.b (s0))]), (1, [.no]), (9, [.cells ([(AV.i a.lba), (AV.i (wr (a.len + b.len))), (AV.i a.kind), (AV.i a.gen), (AV.sl (List.length a.d) (List.map AV.y a.d))])]), (4, [.yes, .yes]), (3, [.yes, .yes]), (2, [.cells ([(AV.i a.lba), (AV.i (wr (a.len + b.len))), (AV.i a.kind), (AV.i a.gen), (AV.rf 4 1 0 ((List.length a.d) + (List.length b.d)))]), .yes]), (1, [.cells ([(AV.i a.lba), (AV.i (wr (a.len + b.len))), (AV.i a.kind), (AV.i a.gen), (AV.rf 4 1 0 ((List.length a.d) + (List.length b.d)))])]), (1, [.cells ([(AV.i a.lba), (AV.i (wr (a.len + b.len))), (AV.i a.kind), (AV.i a.gen), (AV.rf 4 1 0 ((List.length a.d) + (List.length b.d)))])]), (2, [.cells ([(AV.i a.lba), (AV.i (wr (a.len + b.len))), (AV.i a.kind), (AV.i a.gen), (AV.rf 4 1 0 ((List.length a.d) + (List.length b.d)))]), .yes, .yes])]) (raw := (AV.tu [(AV.ag [(AV.i a.lba), (AV.i (wr (a.len + b.len))), (AV.i a.kind), (AV.i a.gen), (AV.sl ((List.length a.d) + (List.length b.d)) ((List.map AV.y a.d) ++ (List.map AV.y b.d)))]), (AV.i 0)])) (ps := [((xc a) : List AV) = (xc a), ((xc b) : List AV) = (xc b), EvFr Try.prog cf Bool.false 46 [(AV.ag (xc a)), (AV.ag (xc b))] (.b (s0)), ((!s0)) = false, ([(AV.i a.lba), (AV.i (wr (a.len + b.len))), (AV.i a.kind), (AV.i a.gen), (AV.sl (List.length a.d) (List.map AV.y a.d))] : List AV) = [(AV.i a.lba), (AV.i (wr (a.len + b.len))), (AV.i a.kind), (AV.i a.gen), (AV.sl (List.length a.d) (List.map AV.y a.d))], ((List.length (List.map AV.y a.d)) = ((List.length a.d) * (1 : Nat))), ((List.length a.d) ≤ (4294967296 : Nat)), ((List.length (List.map AV.y b.d)) = ((List.length b.d) * (1 : Nat))), (((List.length (List.map AV.y a.d)) = ((List.length a.d) * (1 : Nat))) ∧ (((List.length a.d) + (List.length b.d)) ≤ (4294967296 : Nat))), ([(AV.i a.lba), (AV.i (wr (a.len + b.len))), (AV.i a.kind), (AV.i a.gen), (AV.rf 4 1 0 ((List.length a.d) + (List.length b.d)))] : List AV) = [(AV.i a.lba), (AV.i (wr (a.len + b.len))), (AV.i a.kind), (AV.i a.gen), (AV.rf 4 1 0 ((List.length a.d) + (List.length b.d)))], orderOk (rg Try.prog 33 0) = true ∧ allOk (Region.before (rg Try.prog 33 0)) [] 0 [(some [], some []), (some [0], some []), (some [], some [3]), (some [], some []), (some [1], some []), (some [3], some [3, 4]), (some [], some []), (some [0], some [0])] = true, ([(AV.i a.lba), (AV.i (wr (a.len + b.len))), (AV.i a.kind), (AV.i a.gen), (AV.rf 4 1 0 ((List.length a.d) + (List.length b.d)))] : List AV) = [(AV.i a.lba), (AV.i (wr (a.len + b.len))), (AV.i a.kind), (AV.i a.gen), (AV.rf 4 1 0 ((List.length a.d) + (List.length b.d)))], ([(AV.i a.lba), (AV.i (wr (a.len + b.len))), (AV.i a.kind), (AV.i a.gen), (AV.rf 4 1 0 ((List.length a.d) + (List.length b.d)))] : List AV) = [(AV.i a.lba), (AV.i (wr (a.len + b.len))), (AV.i a.kind), (AV.i a.gen), (AV.rf 4 1 0 ((List.length a.d) + (List.length b.d)))], ([(AV.i a.lba), (AV.i (wr (a.len + b.len))), (AV.i a.kind), (AV.i a.gen), (AV.rf 4 1 0 ((List.length a.d) + (List.length b.d)))] : List AV) = [(AV.i a.lba), (AV.i (wr (a.len + b.len))), (AV.i a.kind), (AV.i a.gen), (AV.rf 4 1 0 ((List.length a.d) + (List.length b.d)))], (((0 : Nat) = (0 : Nat)) ∧ ((List.length ((List.map AV.y a.d) ++ (List.map AV.y b.d))) = (((List.length a.d) + (List.length b.d)) * (1 : Nat)))), Pl Bool.true (((List.map AV.y a.d) ++ (List.map AV.y b.d)))]) kq ⟨rfl, rfl, ((eJoins_ok (a) (b) _ h0).any.cast tq), h1, rfl, tq, h2, tq, h3, rfl, (ord_of ord_33_0 bef_33_0 kq), rfl, rfl, rfl, tq, pq, trivial⟩ tq
theorem eJoin_ok (a : Ex) (b : Ex) (r : Ex × Int) : eJoin a b = some r → eJoin_G a b r := by
  unfold eJoin
  refine tc_ok (fun s0 h0 => ?_)
  refine tb_ok (fun h1 => ?_) (fun h1 => ?_)
  ·
    exact fun e => tl_ok (G := eJoin_G a b) (eJoin_l0 a b s0 h0 h1) e
  ·
    refine tp_ok (fun h2 => ?_)
    refine tp_ok (fun h3 => ?_)
    exact fun e => tl_ok (G := eJoin_G a b) (eJoin_l1 a b s0 h0 h1 h2 h3) e
/-- Function 29, as it answers. -/
noncomputable def eBytes (x : Ex) : Option (List UInt8) :=
 (tc (eCheck (x)) fun s0 =>
  (tb ((!s0))
   (some (([] : List UInt8)))
   (tp ((((wr (x.len * (32 : Int))) = (wr (x.len * (32 : Int)))) ∧ (((0 : Int) ≤ (wr (x.len * (32 : Int)))) ∧ ((wr (x.len * (32 : Int))) ≤ (4294967296 : Int)))))
    (some ((((List.take 0 (List.replicate (Int.toNat (wr (x.len * (32 : Int)))) (UInt8.ofNat (0 : Nat)))) ++ (List.take ((Min.min (List.length x.d) (Int.toNat (wr (x.len * (32 : Int))))) * (1 : Nat)) x.d)) ++ (List.drop ((0 : Nat) + (List.length (List.take ((Min.min (List.length x.d) (Int.toNat (wr (x.len * (32 : Int))))) * (1 : Nat)) (List.map AV.y x.d)))) (List.replicate (Int.toNat (wr (x.len * (32 : Int)))) (UInt8.ofNat (0 : Nat))))))))))
abbrev eBytes_G (x : Ex) (r : List UInt8) : Prop := EvFr Try.prog cf true 29 [Ex.av (x)] (bys (r))
theorem eBytes_l0 (x : Ex) (s0 : Bool) (h0 : eCheck (x) = some s0) (h1 : ((!s0)) = true) : eBytes_G x (([] : List UInt8)) :=
  leafR vw_eq (k := 300) (r := []) (hs := hz [(3, [.cells ((xc x))]), (1, [.fres (.b (s0))]), (1, [.yes]), (1, [])]) (raw := (AV.sl 0 ([] : List AV))) (ps := [((xc x) : List AV) = (xc x), EvFr Try.prog cf Bool.false 45 [(AV.ag (xc x))] (.b (s0)), ((!s0)) = true]) kq ⟨rfl, ((eCheck_ok (x) _ h0).any.cast tq), h1, trivial⟩ tq
theorem eBytes_l1 (x : Ex) (s0 : Bool) (h0 : eCheck (x) = some s0) (h1 : ((!s0)) = false) (h2 : (((wr (x.len * (32 : Int))) = (wr (x.len * (32 : Int)))) ∧ (((0 : Int) ≤ (wr (x.len * (32 : Int)))) ∧ ((wr (x.len * (32 : Int))) ≤ (4294967296 : Int))))) : eBytes_G x ((((List.take 0 (List.replicate (Int.toNat (wr (x.len * (32 : Int)))) (UInt8.ofNat (0 : Nat)))) ++ (List.take ((Min.min (List.length x.d) (Int.toNat (wr (x.len * (32 : Int))))) * (1 : Nat)) x.d)) ++ (List.drop ((0 : Nat) + (List.length (List.take ((Min.min (List.length x.d) (Int.toNat (wr (x.len * (32 : Int))))) * (1 : Nat)) (List.map AV.y x.d)))) (List.replicate (Int.toNat (wr (x.len * (32 : Int)))) (UInt8.ofNat (0 : Nat)))))) :=
  leafR vw_eq (k := 300) (r := []) (hs := hz [(3, [.cells ((xc x))]), (1, [.fres (.b (s0))]), (1, [.no]), (4, [.yes]), (5, [.yes, .yes]), (3, [.yes, .yes])]) (raw := (AV.sl (Int.toNat (wr (x.len * (32 : Int)))) (((List.take 0 (List.flatten (List.replicate (Int.toNat (wr (x.len * (32 : Int)))) [(AV.y (UInt8.ofNat (0 : Nat)))]))) ++ (List.take ((Min.min (List.length x.d) (Int.toNat (wr (x.len * (32 : Int))))) * (1 : Nat)) (List.map AV.y x.d))) ++ (List.drop ((0 : Nat) + (List.length (List.take ((Min.min (List.length x.d) (Int.toNat (wr (x.len * (32 : Int))))) * (1 : Nat)) (List.map AV.y x.d)))) (List.flatten (List.replicate (Int.toNat (wr (x.len * (32 : Int)))) [(AV.y (UInt8.ofNat (0 : Nat)))])))))) (ps := [((xc x) : List AV) = (xc x), EvFr Try.prog cf Bool.false 45 [(AV.ag (xc x))] (.b (s0)), ((!s0)) = false, (((wr (x.len * (32 : Int))) = (wr (x.len * (32 : Int)))) ∧ (((0 : Int) ≤ (wr (x.len * (32 : Int)))) ∧ ((wr (x.len * (32 : Int))) ≤ (4294967296 : Int)))), ((List.length (List.map AV.y x.d)) = ((List.length x.d) * (1 : Nat))), (((0 : Nat) + ((Int.toNat (wr (x.len * (32 : Int)))) * (1 : Nat))) ≤ (List.length (List.flatten (List.replicate (Int.toNat (wr (x.len * (32 : Int)))) [(AV.y (UInt8.ofNat (0 : Nat)))])))), (((0 : Nat) = (0 : Nat)) ∧ ((List.length (((List.take 0 (List.flatten (List.replicate (Int.toNat (wr (x.len * (32 : Int)))) [(AV.y (UInt8.ofNat (0 : Nat)))]))) ++ (List.take ((Min.min (List.length x.d) (Int.toNat (wr (x.len * (32 : Int))))) * (1 : Nat)) (List.map AV.y x.d))) ++ (List.drop ((0 : Nat) + (List.length (List.take ((Min.min (List.length x.d) (Int.toNat (wr (x.len * (32 : Int))))) * (1 : Nat)) (List.map AV.y x.d)))) (List.flatten (List.replicate (Int.toNat (wr (x.len * (32 : Int)))) [(AV.y (UInt8.ofNat (0 : Nat)))]))))) = ((Int.toNat (wr (x.len * (32 : Int)))) * (1 : Nat)))), Pl Bool.true ((((List.take 0 (List.flatten (List.replicate (Int.toNat (wr (x.len * (32 : Int)))) [(AV.y (UInt8.ofNat (0 : Nat)))]))) ++ (List.take ((Min.min (List.length x.d) (Int.toNat (wr (x.len * (32 : Int))))) * (1 : Nat)) (List.map AV.y x.d))) ++ (List.drop ((0 : Nat) + (List.length (List.take ((Min.min (List.length x.d) (Int.toNat (wr (x.len * (32 : Int))))) * (1 : Nat)) (List.map AV.y x.d)))) (List.flatten (List.replicate (Int.toNat (wr (x.len * (32 : Int)))) [(AV.y (UInt8.ofNat (0 : Nat)))])))))]) kq ⟨rfl, ((eCheck_ok (x) _ h0).any.cast tq), h1, h2, tq, tq, tq, pq, trivial⟩ tq
theorem eBytes_ok (x : Ex) (r : List UInt8) : eBytes x = some r → eBytes_G x r := by
  unfold eBytes
  refine tc_ok (fun s0 h0 => ?_)
  refine tb_ok (fun h1 => ?_) (fun h1 => ?_)
  ·
    exact fun e => tl_ok (G := eBytes_G x) (eBytes_l0 x s0 h0 h1) e
  ·
    refine tp_ok (fun h2 => ?_)
    exact fun e => tl_ok (G := eBytes_G x) (eBytes_l1 x s0 h0 h1 h2) e
/-- Function 53, as it answers. -/
noncomputable def r7Join (a : Ex) (b : Ex) : Option (Ex × Int) :=
 (tc (r7Joins (a) (b)) fun s0 =>
  (tb ((!s0))
   (some (((Ex.mk 0 0 0 0 ([] : List UInt8)), (70 : Int))))
   (tp (((List.length a.d) ≤ (4294967296 : Nat)))
    (tp ((((List.length (List.map AV.y a.d)) = ((List.length a.d) * (1 : Nat))) ∧ (((List.length a.d) + (List.length b.d)) ≤ (4294967296 : Nat))))
     (some (((Ex.mk a.lba (wr (a.len + b.len)) a.kind a.gen (a.d ++ b.d)), (0 : Int))))))))
abbrev r7Join_G (a : Ex) (b : Ex) (r : Ex × Int) : Prop := EvFr Try.prog cf true 53 [Ex.av (a), Ex.av (b)] (.tu [Ex.av (r.1), .i (r.2)])
theorem r7Join_l0 (a : Ex) (b : Ex) (s0 : Bool) (h0 : r7Joins (a) (b) = some s0) (h1 : ((!s0)) = true) : r7Join_G a b (((Ex.mk 0 0 0 0 ([] : List UInt8)), (70 : Int))) :=
  leafR vw_eq (k := 300) (r := []) (hs := hz [(5, [.cells ((xc a))]), (1, [.cells ((xc b))]), (1, [.fres (.b (s0))]), (3, [.yes]), (2, [.cells ([(AV.i 0), (AV.i 0), (AV.i 0), (AV.i 0), AV.nl])]), (2, [.cells ([(AV.i 0), (AV.i 0), (AV.i 0), (AV.i 0), AV.nl])])]) (raw := (AV.tu [(AV.ag [(AV.i 0), (AV.i 0), (AV.i 0), (AV.i 0), (AV.sl 0 ([] : List AV))]), (AV.i 70)])) (ps := [((xc a) : List AV) = (xc a), ((xc b) : List AV) = (xc b), EvFr Try.prog cf Bool.false 50 [(AV.ag (xc a)), (AV.ag (xc b))] (.b (s0)), ((!s0)) = true, ([(AV.i 0), (AV.i 0), (AV.i 0), (AV.i 0), AV.nl] : List AV) = [(AV.i 0), (AV.i 0), (AV.i 0), (AV.i 0), AV.nl], ([(AV.i 0), (AV.i 0), (AV.i 0), (AV.i 0), AV.nl] : List AV) = [(AV.i 0), (AV.i 0), (AV.i 0), (AV.i 0), AV.nl]]) kq ⟨rfl, rfl, ((r7Joins_ok (a) (b) _ h0).any.cast tq), h1, rfl, rfl, trivial⟩ tq
theorem r7Join_l1 (a : Ex) (b : Ex) (s0 : Bool) (h0 : r7Joins (a) (b) = some s0) (h1 : ((!s0)) = false) (h2 : ((List.length a.d) ≤ (4294967296 : Nat))) (h3 : (((List.length (List.map AV.y a.d)) = ((List.length a.d) * (1 : Nat))) ∧ (((List.length a.d) + (List.length b.d)) ≤ (4294967296 : Nat)))) : r7Join_G a b (((Ex.mk a.lba (wr (a.len + b.len)) a.kind a.gen (a.d ++ b.d)), (0 : Int))) :=
  leafR vw_eq (k := 300) (r := []) (hs := hz [(5, [.cells ((xc a))]), (1, [.cells ((xc b))]), (1, [.fres (.b (s0))]), (3, [.no]), (1, [.cells ((xc a))]), (20, [.yes, .yes]), (2, [.cells ([(AV.i a.lba), (AV.i a.len), (AV.i a.kind), (AV.i a.gen), (AV.rf 2 1 0 (List.length a.d))]), .yes]), (1, [.cells ([(AV.i a.lba), (AV.i a.len), (AV.i a.kind), (AV.i a.gen), (AV.rf 2 1 0 (List.length a.d))]), .yes, .yes]), (2, [.cells ([(AV.i a.lba), (AV.i a.len), (AV.i a.kind), (AV.i a.gen), (AV.rf 3 1 0 (List.length a.d))])]), (9, [.cells ([(AV.i a.lba), (AV.i (wr (a.len + b.len))), (AV.i a.kind), (AV.i a.gen), (AV.rf 3 1 0 (List.length a.d))])]), (6, [.yes, .yes]), (2, [.cells ([(AV.i a.lba), (AV.i (wr (a.len + b.len))), (AV.i a.kind), (AV.i a.gen), (AV.rf 5 1 0 ((List.length a.d) + (List.length b.d)))])]), (1, [.cells ([(AV.i a.lba), (AV.i (wr (a.len + b.len))), (AV.i a.kind), (AV.i a.gen), (AV.rf 5 1 0 ((List.length a.d) + (List.length b.d)))])]), (1, [.cells ([(AV.i a.lba), (AV.i (wr (a.len + b.len))), (AV.i a.kind), (AV.i a.gen), (AV.rf 5 1 0 ((List.length a.d) + (List.length b.d)))])]), (2, [.cells ([(AV.i a.lba), (AV.i (wr (a.len + b.len))), (AV.i a.kind), (AV.i a.gen), (AV.rf 5 1 0 ((List.length a.d) + (List.length b.d)))]), .yes, .yes])]) (raw := (AV.tu [(AV.ag [(AV.i a.lba), (AV.i (wr (a.len + b.len))), (AV.i a.kind), (AV.i a.gen), (AV.sl ((List.length a.d) + (List.length b.d)) ((List.map AV.y a.d) ++ (List.map AV.y b.d)))]), (AV.i 0)])) (ps := [((xc a) : List AV) = (xc a), ((xc b) : List AV) = (xc b), EvFr Try.prog cf Bool.false 50 [(AV.ag (xc a)), (AV.ag (xc b))] (.b (s0)), ((!s0)) = false, ((xc a) : List AV) = (xc a), ((List.length (List.map AV.y a.d)) = ((List.length a.d) * (1 : Nat))), ((List.length a.d) ≤ (4294967296 : Nat)), ([(AV.i a.lba), (AV.i a.len), (AV.i a.kind), (AV.i a.gen), (AV.rf 2 1 0 (List.length a.d))] : List AV) = [(AV.i a.lba), (AV.i a.len), (AV.i a.kind), (AV.i a.gen), (AV.rf 2 1 0 (List.length a.d))], orderOk (rg Try.prog 60 0) = true ∧ allOk (Region.before (rg Try.prog 60 0)) [] 0 [(some [], some []), (some [0], some []), (some [], some []), (some [0], some []), (some [], some []), (some [0], some []), (some [], some []), (some [0], some []), (some [], some []), (some [], some []), (some [0], some []), (some [], some [2]), (some [], some []), (some [1], some [1])] = true, ([(AV.i a.lba), (AV.i a.len), (AV.i a.kind), (AV.i a.gen), (AV.rf 2 1 0 (List.length a.d))] : List AV) = [(AV.i a.lba), (AV.i a.len), (AV.i a.kind), (AV.i a.gen), (AV.rf 2 1 0 (List.length a.d))], (((0 : Nat) = (0 : Nat)) ∧ ((List.length (List.map AV.y a.d)) = ((List.length a.d) * (1 : Nat)))), Pl (Bool.false && (!Bool.true)) ((List.map AV.y a.d)), ([(AV.i a.lba), (AV.i a.len), (AV.i a.kind), (AV.i a.gen), (AV.rf 3 1 0 (List.length a.d))] : List AV) = [(AV.i a.lba), (AV.i a.len), (AV.i a.kind), (AV.i a.gen), (AV.rf 3 1 0 (List.length a.d))], ([(AV.i a.lba), (AV.i (wr (a.len + b.len))), (AV.i a.kind), (AV.i a.gen), (AV.rf 3 1 0 (List.length a.d))] : List AV) = [(AV.i a.lba), (AV.i (wr (a.len + b.len))), (AV.i a.kind), (AV.i a.gen), (AV.rf 3 1 0 (List.length a.d))], ((List.length (List.map AV.y b.d)) = ((List.length b.d) * (1 : Nat))), (((List.length (List.map AV.y a.d)) = ((List.length a.d) * (1 : Nat))) ∧ (((List.length a.d) + (List.length b.d)) ≤ (4294967296 : Nat))), ([(AV.i a.lba), (AV.i (wr (a.len + b.len))), (AV.i a.kind), (AV.i a.gen), (AV.rf 5 1 0 ((List.length a.d) + (List.length b.d)))] : List AV) = [(AV.i a.lba), (AV.i (wr (a.len + b.len))), (AV.i a.kind), (AV.i a.gen), (AV.rf 5 1 0 ((List.length a.d) + (List.length b.d)))], ([(AV.i a.lba), (AV.i (wr (a.len + b.len))), (AV.i a.kind), (AV.i a.gen), (AV.rf 5 1 0 ((List.length a.d) + (List.length b.d)))] : List AV) = [(AV.i a.lba), (AV.i (wr (a.len + b.len))), (AV.i a.kind), (AV.i a.gen), (AV.rf 5 1 0 ((List.length a.d) + (List.length b.d)))], ([(AV.i a.lba), (AV.i (wr (a.len + b.len))), (AV.i a.kind), (AV.i a.gen), (AV.rf 5 1 0 ((List.length a.d) + (List.length b.d)))] : List AV) = [(AV.i a.lba), (AV.i (wr (a.len + b.len))), (AV.i a.kind), (AV.i a.gen), (AV.rf 5 1 0 ((List.length a.d) + (List.length b.d)))], ([(AV.i a.lba), (AV.i (wr (a.len + b.len))), (AV.i a.kind), (AV.i a.gen), (AV.rf 5 1 0 ((List.length a.d) + (List.length b.d)))] : List AV) = [(AV.i a.lba), (AV.i (wr (a.len + b.len))), (AV.i a.kind), (AV.i a.gen), (AV.rf 5 1 0 ((List.length a.d) + (List.length b.d)))], (((0 : Nat) = (0 : Nat)) ∧ ((List.length ((List.map AV.y a.d) ++ (List.map AV.y b.d))) = (((List.length a.d) + (List.length b.d)) * (1 : Nat)))), Pl Bool.true (((List.map AV.y a.d) ++ (List.map AV.y b.d)))]) kq ⟨rfl, rfl, ((r7Joins_ok (a) (b) _ h0).any.cast tq), h1, rfl, tq, h2, rfl, (ord_of ord_60_0 bef_60_0 kq), rfl, tq, pq, rfl, rfl, tq, h3, rfl, rfl, rfl, rfl, tq, pq, trivial⟩ tq
theorem r7Join_ok (a : Ex) (b : Ex) (r : Ex × Int) : r7Join a b = some r → r7Join_G a b r := by
  unfold r7Join
  refine tc_ok (fun s0 h0 => ?_)
  refine tb_ok (fun h1 => ?_) (fun h1 => ?_)
  ·
    exact fun e => tl_ok (G := r7Join_G a b) (r7Join_l0 a b s0 h0 h1) e
  ·
    refine tp_ok (fun h2 => ?_)
    refine tp_ok (fun h3 => ?_)
    exact fun e => tl_ok (G := r7Join_G a b) (r7Join_l1 a b s0 h0 h1 h2 h3) e
/-- Function 51, as it answers. -/
noncomputable def r7Bytes (x : Ex) : Option (List UInt8) :=
 (tc (r7Check (x)) fun s0 =>
  (tb ((!s0))
   (some (([] : List UInt8)))
   (tb ((x.kind == (2 : Int)))
    (tp (((List.length x.d) ≤ (4294967296 : Nat)))
     (some (x.d)))
    (tp ((((wr ((32 : Int) * x.len)) = (wr ((32 : Int) * x.len))) ∧ (((0 : Int) ≤ (wr ((32 : Int) * x.len))) ∧ ((wr ((32 : Int) * x.len)) ≤ (4294967296 : Int)))))
     (some ((List.replicate (Int.toNat (wr ((32 : Int) * x.len))) (UInt8.ofNat (0 : Nat)))))))))
abbrev r7Bytes_G (x : Ex) (r : List UInt8) : Prop := EvFr Try.prog cf true 51 [Ex.av (x)] (bys (r))
theorem r7Bytes_l0 (x : Ex) (s0 : Bool) (h0 : r7Check (x) = some s0) (h1 : ((!s0)) = true) : r7Bytes_G x (([] : List UInt8)) :=
  leafR vw_eq (k := 300) (r := []) (hs := hz [(3, [.cells ((xc x))]), (1, [.fres (.b (s0))]), (3, [.yes]), (1, [])]) (raw := (AV.sl 0 ([] : List AV))) (ps := [((xc x) : List AV) = (xc x), EvFr Try.prog cf Bool.false 49 [(AV.ag (xc x))] (.b (s0)), ((!s0)) = true]) kq ⟨rfl, ((r7Check_ok (x) _ h0).any.cast tq), h1, trivial⟩ tq
theorem r7Bytes_l1 (x : Ex) (s0 : Bool) (h0 : r7Check (x) = some s0) (h1 : ((!s0)) = false) (h2 : ((x.kind == (2 : Int))) = true) (h2p : (x.kind = (2 : Int))) (h3 : ((List.length x.d) ≤ (4294967296 : Nat))) : r7Bytes_G x (x.d) :=
  leafR vw_eq (k := 300) (r := []) (hs := hz [(3, [.cells ((xc x))]), (1, [.fres (.b (s0))]), (3, [.no]), (4, [.yes]), (4, [.yes, .yes]), (1, [.yes, .yes])]) (raw := (AV.sl (List.length x.d) (List.map AV.y x.d))) (ps := [((xc x) : List AV) = (xc x), EvFr Try.prog cf Bool.false 49 [(AV.ag (xc x))] (.b (s0)), ((!s0)) = false, ((x.kind == (2 : Int))) = true, ((List.length (List.map AV.y x.d)) = ((List.length x.d) * (1 : Nat))), ((List.length x.d) ≤ (4294967296 : Nat)), (((0 : Nat) = (0 : Nat)) ∧ ((List.length (List.map AV.y x.d)) = ((List.length x.d) * (1 : Nat)))), Pl Bool.true ((List.map AV.y x.d))]) kq ⟨rfl, ((r7Check_ok (x) _ h0).any.cast tq), h1, h2, tq, h3, tq, pq, trivial⟩ tq
theorem r7Bytes_l2 (x : Ex) (s0 : Bool) (h0 : r7Check (x) = some s0) (h1 : ((!s0)) = false) (h2 : ((x.kind == (2 : Int))) = false) (h2p : ¬ (x.kind = (2 : Int))) (h3 : (((wr ((32 : Int) * x.len)) = (wr ((32 : Int) * x.len))) ∧ (((0 : Int) ≤ (wr ((32 : Int) * x.len))) ∧ ((wr ((32 : Int) * x.len)) ≤ (4294967296 : Int))))) : r7Bytes_G x ((List.replicate (Int.toNat (wr ((32 : Int) * x.len))) (UInt8.ofNat (0 : Nat)))) :=
  leafR vw_eq (k := 300) (r := []) (hs := hz [(3, [.cells ((xc x))]), (1, [.fres (.b (s0))]), (3, [.no]), (4, [.no]), (4, [.yes]), (1, [.yes, .yes])]) (raw := (AV.sl (Int.toNat (wr ((32 : Int) * x.len))) (List.flatten (List.replicate (Int.toNat (wr ((32 : Int) * x.len))) [(AV.y (UInt8.ofNat (0 : Nat)))])))) (ps := [((xc x) : List AV) = (xc x), EvFr Try.prog cf Bool.false 49 [(AV.ag (xc x))] (.b (s0)), ((!s0)) = false, ((x.kind == (2 : Int))) = false, (((wr ((32 : Int) * x.len)) = (wr ((32 : Int) * x.len))) ∧ (((0 : Int) ≤ (wr ((32 : Int) * x.len))) ∧ ((wr ((32 : Int) * x.len)) ≤ (4294967296 : Int)))), (((0 : Nat) = (0 : Nat)) ∧ ((List.length (List.flatten (List.replicate (Int.toNat (wr ((32 : Int) * x.len))) [(AV.y (UInt8.ofNat (0 : Nat)))]))) = ((Int.toNat (wr ((32 : Int) * x.len))) * (1 : Nat)))), Pl Bool.true ((List.flatten (List.replicate (Int.toNat (wr ((32 : Int) * x.len))) [(AV.y (UInt8.ofNat (0 : Nat)))])))]) kq ⟨rfl, ((r7Check_ok (x) _ h0).any.cast tq), h1, h2, h3, tq, pq, trivial⟩ tq
theorem r7Bytes_ok (x : Ex) (r : List UInt8) : r7Bytes x = some r → r7Bytes_G x r := by
  unfold r7Bytes
  refine tc_ok (fun s0 h0 => ?_)
  refine tb_ok (fun h1 => ?_) (fun h1 => ?_)
  ·
    exact fun e => tl_ok (G := r7Bytes_G x) (r7Bytes_l0 x s0 h0 h1) e
  ·
    refine tb_ok (fun h2 => ?_) (fun h2 => ?_)
    ·
      have h2p := eq_of_beq h2
      refine tp_ok (fun h3 => ?_)
      exact fun e => tl_ok (G := r7Bytes_G x) (r7Bytes_l1 x s0 h0 h1 h2 h2p h3) e
    ·
      have h2p := ne_of_beq_false h2
      refine tp_ok (fun h3 => ?_)
      exact fun e => tl_ok (G := r7Bytes_G x) (r7Bytes_l2 x s0 h0 h1 h2 h2p h3) e
end Ab
end Go.Proofs.Ytadipihpgcelmaa
namespace Go.Proofs.Ytadipihpgcelmaa
open Go Go.Proofs.Ytadipihpgcelmaa.Ab
set_option linter.unusedVariables false
set_option linter.unusedSimpArgs false
set_option maxRecDepth 1000000
namespace Ab
noncomputable abbrev iAlike_L0_I (a : List Ce) (b : List Ce) : St := (St.mk [(0, (AV.sl (List.length a) (List.flatMap Ce.cells a))), (1, (AV.sl (List.length b) (List.flatMap Ce.cells b))), (2, (AV.fn (40 : Nat) ([] : List AV))), (6, (AV.b Bool.false)), (10, (AV.sl (List.length a) (List.flatMap Ce.cells a))), (11, (AV.i (↑(List.length a) : Int))), (12, (AV.sl (List.length b) (List.flatMap Ce.cells b))), (13, (AV.i (↑(List.length b) : Int))), (14, (AV.b ((↑(List.length a) : Int) != (↑(List.length b) : Int)))), (15, (AV.sl (List.length a) (List.flatMap Ce.cells a))), (16, (AV.i (↑(List.length a) : Int))), (17, (AV.i 0))] 32 (AH.mk 0 ([] : List (Prod Nat AObj))) Bool.false)
noncomputable abbrev iAlike_L0_S (a : List Ce) (b : List Ce) (s1 : Int) : St := (St.mk [(0, (AV.sl (List.length a) (List.flatMap Ce.cells a))), (1, (AV.sl (List.length b) (List.flatMap Ce.cells b))), (2, (AV.fn (40 : Nat) ([] : List AV))), (14, (AV.b ((↑(List.length a) : Int) != (↑(List.length b) : Int)))), (15, (AV.sl (List.length a) (List.flatMap Ce.cells a))), (16, (AV.i (↑(List.length a) : Int))), (17, (AV.i s1))] 32 (AH.mk 0 ([] : List (Prod Nat AObj))) Bool.false)
noncomputable def iAlike_L0_step (a : List Ce) (b : List Ce) (s1 : Int) : Option (Int) :=
 (tb ((decide (s1 < (↑(List.length a) : Int))))
  (tp ((((0 : Int) ≤ s1) ∧ (s1 < (↑(List.length a) : Int))))
   (tp ((((0 : Int) ≤ s1) ∧ (s1 < (↑(List.length b) : Int))))
    (tb ((!(((ceAt a (Int.toNat s1)).kind == (ceAt b (Int.toNat s1)).kind) && (((ceAt a (Int.toNat s1)).gen == (ceAt a (Int.toNat s1)).gen) && ((pad 32 (ceAt a (Int.toNat s1)).d) == (pad 32 (ceAt b (Int.toNat s1)).d))))))
     none /- exit -/
     (some ((wr (s1 + (1 : Int))))))))
  none /- exit -/)
theorem iAlike_L0_s0 (a : List Ce) (b : List Ce) (s1 : Int) (h2 : ((decide (s1 < (↑(List.length a) : Int)))) = true) (h2p : (s1 < (↑(List.length a) : Int))) (h3 : (((0 : Int) ≤ s1) ∧ (s1 < (↑(List.length a) : Int)))) (h4 : (((0 : Int) ≤ s1) ∧ (s1 < (↑(List.length b) : Int)))) (h5 : ((!(((ceAt a (Int.toNat s1)).kind == (ceAt b (Int.toNat s1)).kind) && (((ceAt a (Int.toNat s1)).gen == (ceAt a (Int.toNat s1)).gen) && ((pad 32 (ceAt a (Int.toNat s1)).d) == (pad 32 (ceAt b (Int.toNat s1)).d)))))) = false) : EvStep Try.prog cf 0 (lp Try.prog 39 0) (iAlike_L0_S a b s1) (iAlike_L0_S a b ((wr (s1 + (1 : Int))))) :=
  leafS vw_eq (k := 300) (r := []) (hs := hz [(1, [.yes]), (1, [.yes, .yes, .cells ((Ce.cells (ceAt a (Int.toNat s1))))]), (2, [.yes, .cells (((AV.i (ceAt a (Int.toNat s1)).kind) :: (AV.i (ceAt a (Int.toNat s1)).gen) :: (List.map AV.y (pad 32 (ceAt a (Int.toNat s1)).d))))]), (2, [.yes, .yes, .cells ((Ce.cells (ceAt b (Int.toNat s1))))]), (1, [.yes, .cells (((AV.i (ceAt b (Int.toNat s1)).kind) :: (AV.i (ceAt b (Int.toNat s1)).gen) :: (List.map AV.y (pad 32 (ceAt b (Int.toNat s1)).d))))]), (1, [.yes, .cells (((AV.i (ceAt a (Int.toNat s1)).kind) :: (AV.i (ceAt a (Int.toNat s1)).gen) :: (List.map AV.y (pad 32 (ceAt a (Int.toNat s1)).d)))), .yes, .cells (((AV.i (ceAt b (Int.toNat s1)).kind) :: (AV.i (ceAt b (Int.toNat s1)).gen) :: (List.map AV.y (pad 32 (ceAt b (Int.toNat s1)).d))))]), (9, [.cells (((AV.i (ceAt b (Int.toNat s1)).kind) :: (AV.i (ceAt a (Int.toNat s1)).gen) :: (List.map AV.y (pad 32 (ceAt b (Int.toNat s1)).d)))), .yes, .cells (((AV.i (ceAt a (Int.toNat s1)).kind) :: (AV.i (ceAt a (Int.toNat s1)).gen) :: (List.map AV.y (pad 32 (ceAt a (Int.toNat s1)).d)))), .yes, .cells (((AV.i (ceAt b (Int.toNat s1)).kind) :: (AV.i (ceAt a (Int.toNat s1)).gen) :: (List.map AV.y (pad 32 (ceAt b (Int.toNat s1)).d)))), .yes, .truth ((((ceAt a (Int.toNat s1)).kind == (ceAt b (Int.toNat s1)).kind) && (((ceAt a (Int.toNat s1)).gen == (ceAt a (Int.toNat s1)).gen) && ((pad 32 (ceAt a (Int.toNat s1)).d) == (pad 32 (ceAt b (Int.toNat s1)).d)))))]), (2, [.no]), (2, [])]) (st1 := (St.mk [(0, (AV.sl (List.length a) (List.flatMap Ce.cells a))), (1, (AV.sl (List.length b) (List.flatMap Ce.cells b))), (2, (AV.fn (40 : Nat) ([] : List AV))), (14, (AV.b ((↑(List.length a) : Int) != (↑(List.length b) : Int)))), (15, (AV.sl (List.length a) (List.flatMap Ce.cells a))), (16, (AV.i (↑(List.length a) : Int))), (17, (AV.i (wr (s1 + (1 : Int))))), (18, (AV.b (decide (s1 < (↑(List.length a) : Int))))), (19, (AV.i s1)), (20, (AV.ip (List.drop ((Int.toNat s1) * (34 : Nat)) (List.flatMap Ce.cells a)))), (21, (AV.ag (Ce.cells (ceAt a (Int.toNat s1))))), (8, (AV.pt 0 0)), (7, (AV.i s1)), (22, (AV.sl (List.length b) (List.flatMap Ce.cells b))), (23, (AV.i s1)), (24, (AV.ip (List.drop ((Int.toNat s1) * (34 : Nat)) (List.flatMap Ce.cells b)))), (25, (AV.ag (Ce.cells (ceAt b (Int.toNat s1))))), (9, (AV.pt 1 0)), (26, (AV.fn (40 : Nat) ([] : List AV))), (27, (AV.ag ((AV.i (ceAt a (Int.toNat s1)).kind) :: (AV.i (ceAt a (Int.toNat s1)).gen) :: (List.map AV.y (pad 32 (ceAt a (Int.toNat s1)).d))))), (28, (AV.ag ((AV.i (ceAt b (Int.toNat s1)).kind) :: (AV.i (ceAt b (Int.toNat s1)).gen) :: (List.map AV.y (pad 32 (ceAt b (Int.toNat s1)).d))))), (29, (AV.b (((ceAt a (Int.toNat s1)).kind == (ceAt b (Int.toNat s1)).kind) && (((ceAt a (Int.toNat s1)).gen == (ceAt a (Int.toNat s1)).gen) && ((pad 32 (ceAt a (Int.toNat s1)).d) == (pad 32 (ceAt b (Int.toNat s1)).d)))))), (30, (AV.b (!(((ceAt a (Int.toNat s1)).kind == (ceAt b (Int.toNat s1)).kind) && (((ceAt a (Int.toNat s1)).gen == (ceAt a (Int.toNat s1)).gen) && ((pad 32 (ceAt a (Int.toNat s1)).d) == (pad 32 (ceAt b (Int.toNat s1)).d))))))), (31, (AV.i (wr (s1 + (1 : Int)))))] 32 (AH.mk 4 [(3, (AObj.cells ((AV.i (ceAt b (Int.toNat s1)).kind) :: (AV.i (ceAt a (Int.toNat s1)).gen) :: (List.map AV.y (pad 32 (ceAt b (Int.toNat s1)).d))))), (2, (AObj.cells ((AV.i (ceAt a (Int.toNat s1)).kind) :: (AV.i (ceAt a (Int.toNat s1)).gen) :: (List.map AV.y (pad 32 (ceAt a (Int.toNat s1)).d))))), (1, (AObj.cells ((AV.i (ceAt b (Int.toNat s1)).kind) :: (AV.i (ceAt b (Int.toNat s1)).gen) :: (List.map AV.y (pad 32 (ceAt b (Int.toNat s1)).d))))), (0, (AObj.cells ((AV.i (ceAt a (Int.toNat s1)).kind) :: (AV.i (ceAt a (Int.toNat s1)).gen) :: (List.map AV.y (pad 32 (ceAt a (Int.toNat s1)).d)))))]) Bool.false)) (ps := [((decide (s1 < (↑(List.length a) : Int)))) = true, (((0 : Int) ≤ s1) ∧ (s1 < (↑(List.length a) : Int))), ((34 : Nat) ≤ (List.length (List.drop ((Int.toNat s1) * (34 : Nat)) (List.flatMap Ce.cells a)))), (List.take 34 (List.drop ((Int.toNat s1) * (34 : Nat)) (List.flatMap Ce.cells a))) = (Ce.cells (ceAt a (Int.toNat s1))), (((List.length ((AV.i (ceAt a (Int.toNat s1)).kind) :: (AV.i (ceAt a (Int.toNat s1)).gen) :: (List.map AV.y (pad 32 (ceAt a (Int.toNat s1)).d)))) = (34 : Nat)) ∧ (((0 : Nat) + (List.length ((AV.i (ceAt a (Int.toNat s1)).kind) :: (AV.i (ceAt a (Int.toNat s1)).gen) :: (List.map AV.y (pad 32 (ceAt a (Int.toNat s1)).d))))) ≤ (34 : Nat))), (over ((AV.i (Int.ofNat 0)) :: (AV.i (Int.ofNat 0)) :: List.replicate (32 : Nat) (AV.y (UInt8.ofNat (0 : Nat)))) 0 ((AV.i (ceAt a (Int.toNat s1)).kind) :: (AV.i (ceAt a (Int.toNat s1)).gen) :: (List.map AV.y (pad 32 (ceAt a (Int.toNat s1)).d)))) = ((AV.i (ceAt a (Int.toNat s1)).kind) :: (AV.i (ceAt a (Int.toNat s1)).gen) :: (List.map AV.y (pad 32 (ceAt a (Int.toNat s1)).d))), (((0 : Int) ≤ s1) ∧ (s1 < (↑(List.length b) : Int))), ((34 : Nat) ≤ (List.length (List.drop ((Int.toNat s1) * (34 : Nat)) (List.flatMap Ce.cells b)))), (List.take 34 (List.drop ((Int.toNat s1) * (34 : Nat)) (List.flatMap Ce.cells b))) = (Ce.cells (ceAt b (Int.toNat s1))), (((List.length ((AV.i (ceAt b (Int.toNat s1)).kind) :: (AV.i (ceAt b (Int.toNat s1)).gen) :: (List.map AV.y (pad 32 (ceAt b (Int.toNat s1)).d)))) = (34 : Nat)) ∧ (((0 : Nat) + (List.length ((AV.i (ceAt b (Int.toNat s1)).kind) :: (AV.i (ceAt b (Int.toNat s1)).gen) :: (List.map AV.y (pad 32 (ceAt b (Int.toNat s1)).d))))) ≤ (34 : Nat))), (over ((AV.i (Int.ofNat 0)) :: (AV.i (Int.ofNat 0)) :: List.replicate (32 : Nat) (AV.y (UInt8.ofNat (0 : Nat)))) 0 ((AV.i (ceAt b (Int.toNat s1)).kind) :: (AV.i (ceAt b (Int.toNat s1)).gen) :: (List.map AV.y (pad 32 (ceAt b (Int.toNat s1)).d)))) = ((AV.i (ceAt b (Int.toNat s1)).kind) :: (AV.i (ceAt b (Int.toNat s1)).gen) :: (List.map AV.y (pad 32 (ceAt b (Int.toNat s1)).d))), ((34 : Nat) ≤ (List.length ((AV.i (ceAt a (Int.toNat s1)).kind) :: (AV.i (ceAt a (Int.toNat s1)).gen) :: (List.map AV.y (pad 32 (ceAt a (Int.toNat s1)).d))))), (List.take 34 ((AV.i (ceAt a (Int.toNat s1)).kind) :: (AV.i (ceAt a (Int.toNat s1)).gen) :: (List.map AV.y (pad 32 (ceAt a (Int.toNat s1)).d)))) = ((AV.i (ceAt a (Int.toNat s1)).kind) :: (AV.i (ceAt a (Int.toNat s1)).gen) :: (List.map AV.y (pad 32 (ceAt a (Int.toNat s1)).d))), ((34 : Nat) ≤ (List.length ((AV.i (ceAt b (Int.toNat s1)).kind) :: (AV.i (ceAt b (Int.toNat s1)).gen) :: (List.map AV.y (pad 32 (ceAt b (Int.toNat s1)).d))))), (List.take 34 ((AV.i (ceAt b (Int.toNat s1)).kind) :: (AV.i (ceAt b (Int.toNat s1)).gen) :: (List.map AV.y (pad 32 (ceAt b (Int.toNat s1)).d)))) = ((AV.i (ceAt b (Int.toNat s1)).kind) :: (AV.i (ceAt b (Int.toNat s1)).gen) :: (List.map AV.y (pad 32 (ceAt b (Int.toNat s1)).d))), (over ((AV.i (ceAt b (Int.toNat s1)).kind) :: (AV.i (ceAt b (Int.toNat s1)).gen) :: (List.map AV.y (pad 32 (ceAt b (Int.toNat s1)).d))) 1 [(AV.i (ceAt a (Int.toNat s1)).gen)]) = ((AV.i (ceAt b (Int.toNat s1)).kind) :: (AV.i (ceAt a (Int.toNat s1)).gen) :: (List.map AV.y (pad 32 (ceAt b (Int.toNat s1)).d))), ((34 : Nat) ≤ (List.length ((AV.i (ceAt a (Int.toNat s1)).kind) :: (AV.i (ceAt a (Int.toNat s1)).gen) :: (List.map AV.y (pad 32 (ceAt a (Int.toNat s1)).d))))), (List.take 34 ((AV.i (ceAt a (Int.toNat s1)).kind) :: (AV.i (ceAt a (Int.toNat s1)).gen) :: (List.map AV.y (pad 32 (ceAt a (Int.toNat s1)).d)))) = ((AV.i (ceAt a (Int.toNat s1)).kind) :: (AV.i (ceAt a (Int.toNat s1)).gen) :: (List.map AV.y (pad 32 (ceAt a (Int.toNat s1)).d))), ((34 : Nat) ≤ (List.length ((AV.i (ceAt b (Int.toNat s1)).kind) :: (AV.i (ceAt a (Int.toNat s1)).gen) :: (List.map AV.y (pad 32 (ceAt b (Int.toNat s1)).d))))), (List.take 34 ((AV.i (ceAt b (Int.toNat s1)).kind) :: (AV.i (ceAt a (Int.toNat s1)).gen) :: (List.map AV.y (pad 32 (ceAt b (Int.toNat s1)).d)))) = ((AV.i (ceAt b (Int.toNat s1)).kind) :: (AV.i (ceAt a (Int.toNat s1)).gen) :: (List.map AV.y (pad 32 (ceAt b (Int.toNat s1)).d))), (((List.length ((AV.i (ceAt a (Int.toNat s1)).kind) :: (AV.i (ceAt a (Int.toNat s1)).gen) :: (List.map AV.y (pad 32 (ceAt a (Int.toNat s1)).d)))) = (34 : Nat)) ∧ ((List.length ((AV.i (ceAt b (Int.toNat s1)).kind) :: (AV.i (ceAt a (Int.toNat s1)).gen) :: (List.map AV.y (pad 32 (ceAt b (Int.toNat s1)).d)))) = (34 : Nat))), eqCells (((AV.i (ceAt a (Int.toNat s1)).kind) :: (AV.i (ceAt a (Int.toNat s1)).gen) :: (List.map AV.y (pad 32 (ceAt a (Int.toNat s1)).d)))) (((AV.i (ceAt b (Int.toNat s1)).kind) :: (AV.i (ceAt a (Int.toNat s1)).gen) :: (List.map AV.y (pad 32 (ceAt b (Int.toNat s1)).d)))) = some ((((ceAt a (Int.toNat s1)).kind == (ceAt b (Int.toNat s1)).kind) && (((ceAt a (Int.toNat s1)).gen == (ceAt a (Int.toNat s1)).gen) && ((pad 32 (ceAt a (Int.toNat s1)).d) == (pad 32 (ceAt b (Int.toNat s1)).d))))), ((!(((ceAt a (Int.toNat s1)).kind == (ceAt b (Int.toNat s1)).kind) && (((ceAt a (Int.toNat s1)).gen == (ceAt a (Int.toNat s1)).gen) && ((pad 32 (ceAt a (Int.toNat s1)).d) == (pad 32 (ceAt b (Int.toNat s1)).d)))))) = false]) kq ⟨h2, h3, fq, (by first | exact ce_take _ _ bq | (simpa using ce_take _ _ bq) | ((try simp only [List.drop_drop]); rw [show ((Int.toNat s1) * (34 : Nat)) = ((Int.toNat s1)) * 34 by omega]; exact ce_take _ _ bq)), tq, (over_all tq), h4, fq, (by first | exact ce_take _ _ bq | (simpa using ce_take _ _ bq) | ((try simp only [List.drop_drop]); rw [show ((Int.toNat s1) * (34 : Nat)) = ((Int.toNat s1)) * 34 by omega]; exact ce_take _ _ bq)), tq, (over_all tq), tq, (List.take_of_length_le tq), tq, (List.take_of_length_le tq), rfl, tq, (List.take_of_length_le tq), tq, (List.take_of_length_le tq), tq, (eqCells_ci (eqCells_ci (eqCells_of tq tq tq))), h5, trivial⟩ (Nat.le_of_ble_eq_true rfl) (absB_of [] [] kq (.consn kq (.eqv tq rfl) (.consn kq (.eqv tq rfl) (.consn kq (.fn .nil) (.consn kq (.eqv tq rfl) (.consn kq (.eqv tq rfl) (.consn kq (.eqv tq rfl) (.consn kq (.eqv tq rfl) .nil))))))) .nil)
theorem iAlike_L0_ok (a : List Ce) (b : List Ce) (s1 zz : Int) : iAlike_L0_step a b s1 = some zz → EvStep Try.prog cf 0 (lp Try.prog 39 0) (iAlike_L0_S a b s1) (iAlike_L0_S a b zz) := by
  unfold iAlike_L0_step
  refine tb_ok (fun h2 => ?_) (fun h2 => ?_)
  ·
    have h2p := of_decide_eq_true h2
    refine tp_ok (fun h3 => ?_)
    refine tp_ok (fun h4 => ?_)
    refine tb_ok (fun h5 => ?_) (fun h5 => ?_)
    ·
      exact fun e => nomatch e
    ·
      exact fun e => tl_ok (G := (fun zz => EvStep Try.prog cf 0 (lp Try.prog 39 0) (iAlike_L0_S a b s1) (iAlike_L0_S a b zz))) (iAlike_L0_s0 a b s1 h2 h2p h3 h4 h5) e
  ·
    have h2p := of_decide_eq_false h2
    exact fun e => nomatch e
/-- Function 19, as it answers. -/
noncomputable def iAlike (a : List Ce) (b : List Ce) : Option (Bool) :=
 (tb (((↑(List.length a) : Int) != (↑(List.length b) : Int)))
  (some (Bool.false))
  (th (iAlike_L0_step a b) ((0 : Int)) fun s1 =>
   (tb ((decide (s1 < (↑(List.length a) : Int))))
    (tp ((((0 : Int) ≤ s1) ∧ (s1 < (↑(List.length a) : Int))))
     (tb ((!(((ceAt a (Int.toNat s1)).kind == (ceAt b (Int.toNat s1)).kind) && (((ceAt a (Int.toNat s1)).gen == (ceAt a (Int.toNat s1)).gen) && ((pad 32 (ceAt a (Int.toNat s1)).d) == (pad 32 (ceAt b (Int.toNat s1)).d))))))
      (some (Bool.false))
      none /- stop behind an operation -/))
    (some (Bool.true)))))
abbrev iAlike_G (a : List Ce) (b : List Ce) (r : Bool) : Prop := EvFr Try.prog cf true 19 [ces (a), ces (b)] (.b (r))
theorem iAlike_l0 (a : List Ce) (b : List Ce) (h0 : (((↑(List.length a) : Int) != (↑(List.length b) : Int))) = true) (h0p : ¬ ((↑(List.length a) : Int) = (↑(List.length b) : Int))) : iAlike_G a b (Bool.false) :=
  leafR vw_eq (k := 300) (r := []) (hs := hz [(10, [.yes]), (2, [])]) (raw := (AV.b Bool.false)) (ps := [(((↑(List.length a) : Int) != (↑(List.length b) : Int))) = true]) kq ⟨h0, trivial⟩ tq
theorem iAlike_l1 (a : List Ce) (b : List Ce) (h0 : (((↑(List.length a) : Int) != (↑(List.length b) : Int))) = false) (h0p : ((↑(List.length a) : Int) = (↑(List.length b) : Int))) (s1 : Int) (h1 : Runs (iAlike_L0_step a b) ((0 : Int)) s1) (h2 : ((decide (s1 < (↑(List.length a) : Int)))) = true) (h2p : (s1 < (↑(List.length a) : Int))) (h3 : (((0 : Int) ≤ s1) ∧ (s1 < (↑(List.length a) : Int)))) (h4 : ((!(((ceAt a (Int.toNat s1)).kind == (ceAt b (Int.toNat s1)).kind) && (((ceAt a (Int.toNat s1)).gen == (ceAt a (Int.toNat s1)).gen) && ((pad 32 (ceAt a (Int.toNat s1)).d) == (pad 32 (ceAt b (Int.toNat s1)).d)))))) = true) : iAlike_G a b (Bool.false) :=
  leafR vw_eq (k := 300) (r := []) (hs := hz [(10, [.no]), (3, [.head (iAlike_L0_S a b s1)]), (1, [.yes]), (1, [.yes, .yes, .cells ((Ce.cells (ceAt a (Int.toNat s1))))]), (2, [.yes, .cells (((AV.i (ceAt a (Int.toNat s1)).kind) :: (AV.i (ceAt a (Int.toNat s1)).gen) :: (List.map AV.y (pad 32 (ceAt a (Int.toNat s1)).d))))]), (2, [.yes, .yes, .cells ((Ce.cells (ceAt b (Int.toNat s1))))]), (1, [.yes, .cells (((AV.i (ceAt b (Int.toNat s1)).kind) :: (AV.i (ceAt b (Int.toNat s1)).gen) :: (List.map AV.y (pad 32 (ceAt b (Int.toNat s1)).d))))]), (1, [.yes, .cells (((AV.i (ceAt a (Int.toNat s1)).kind) :: (AV.i (ceAt a (Int.toNat s1)).gen) :: (List.map AV.y (pad 32 (ceAt a (Int.toNat s1)).d)))), .yes, .cells (((AV.i (ceAt b (Int.toNat s1)).kind) :: (AV.i (ceAt b (Int.toNat s1)).gen) :: (List.map AV.y (pad 32 (ceAt b (Int.toNat s1)).d))))]), (9, [.cells (((AV.i (ceAt b (Int.toNat s1)).kind) :: (AV.i (ceAt a (Int.toNat s1)).gen) :: (List.map AV.y (pad 32 (ceAt b (Int.toNat s1)).d)))), .yes, .cells (((AV.i (ceAt a (Int.toNat s1)).kind) :: (AV.i (ceAt a (Int.toNat s1)).gen) :: (List.map AV.y (pad 32 (ceAt a (Int.toNat s1)).d)))), .yes, .cells (((AV.i (ceAt b (Int.toNat s1)).kind) :: (AV.i (ceAt a (Int.toNat s1)).gen) :: (List.map AV.y (pad 32 (ceAt b (Int.toNat s1)).d)))), .yes, .truth ((((ceAt a (Int.toNat s1)).kind == (ceAt b (Int.toNat s1)).kind) && (((ceAt a (Int.toNat s1)).gen == (ceAt a (Int.toNat s1)).gen) && ((pad 32 (ceAt a (Int.toNat s1)).d) == (pad 32 (ceAt b (Int.toNat s1)).d)))))]), (2, [.yes]), (2, [])]) (raw := (AV.b Bool.false)) (ps := [(((↑(List.length a) : Int) != (↑(List.length b) : Int))) = false, EvHead Try.prog cf (lp Try.prog 39 0) (iAlike_L0_I a b) (iAlike_L0_S a b s1), ((decide (s1 < (↑(List.length a) : Int)))) = true, (((0 : Int) ≤ s1) ∧ (s1 < (↑(List.length a) : Int))), ((34 : Nat) ≤ (List.length (List.drop ((Int.toNat s1) * (34 : Nat)) (List.flatMap Ce.cells a)))), (List.take 34 (List.drop ((Int.toNat s1) * (34 : Nat)) (List.flatMap Ce.cells a))) = (Ce.cells (ceAt a (Int.toNat s1))), (((List.length ((AV.i (ceAt a (Int.toNat s1)).kind) :: (AV.i (ceAt a (Int.toNat s1)).gen) :: (List.map AV.y (pad 32 (ceAt a (Int.toNat s1)).d)))) = (34 : Nat)) ∧ (((0 : Nat) + (List.length ((AV.i (ceAt a (Int.toNat s1)).kind) :: (AV.i (ceAt a (Int.toNat s1)).gen) :: (List.map AV.y (pad 32 (ceAt a (Int.toNat s1)).d))))) ≤ (34 : Nat))), (over ((AV.i (Int.ofNat 0)) :: (AV.i (Int.ofNat 0)) :: List.replicate (32 : Nat) (AV.y (UInt8.ofNat (0 : Nat)))) 0 ((AV.i (ceAt a (Int.toNat s1)).kind) :: (AV.i (ceAt a (Int.toNat s1)).gen) :: (List.map AV.y (pad 32 (ceAt a (Int.toNat s1)).d)))) = ((AV.i (ceAt a (Int.toNat s1)).kind) :: (AV.i (ceAt a (Int.toNat s1)).gen) :: (List.map AV.y (pad 32 (ceAt a (Int.toNat s1)).d))), (((0 : Int) ≤ s1) ∧ (s1 < (↑(List.length b) : Int))), ((34 : Nat) ≤ (List.length (List.drop ((Int.toNat s1) * (34 : Nat)) (List.flatMap Ce.cells b)))), (List.take 34 (List.drop ((Int.toNat s1) * (34 : Nat)) (List.flatMap Ce.cells b))) = (Ce.cells (ceAt b (Int.toNat s1))), (((List.length ((AV.i (ceAt b (Int.toNat s1)).kind) :: (AV.i (ceAt b (Int.toNat s1)).gen) :: (List.map AV.y (pad 32 (ceAt b (Int.toNat s1)).d)))) = (34 : Nat)) ∧ (((0 : Nat) + (List.length ((AV.i (ceAt b (Int.toNat s1)).kind) :: (AV.i (ceAt b (Int.toNat s1)).gen) :: (List.map AV.y (pad 32 (ceAt b (Int.toNat s1)).d))))) ≤ (34 : Nat))), (over ((AV.i (Int.ofNat 0)) :: (AV.i (Int.ofNat 0)) :: List.replicate (32 : Nat) (AV.y (UInt8.ofNat (0 : Nat)))) 0 ((AV.i (ceAt b (Int.toNat s1)).kind) :: (AV.i (ceAt b (Int.toNat s1)).gen) :: (List.map AV.y (pad 32 (ceAt b (Int.toNat s1)).d)))) = ((AV.i (ceAt b (Int.toNat s1)).kind) :: (AV.i (ceAt b (Int.toNat s1)).gen) :: (List.map AV.y (pad 32 (ceAt b (Int.toNat s1)).d))), ((34 : Nat) ≤ (List.length ((AV.i (ceAt a (Int.toNat s1)).kind) :: (AV.i (ceAt a (Int.toNat s1)).gen) :: (List.map AV.y (pad 32 (ceAt a (Int.toNat s1)).d))))), (List.take 34 ((AV.i (ceAt a (Int.toNat s1)).kind) :: (AV.i (ceAt a (Int.toNat s1)).gen) :: (List.map AV.y (pad 32 (ceAt a (Int.toNat s1)).d)))) = ((AV.i (ceAt a (Int.toNat s1)).kind) :: (AV.i (ceAt a (Int.toNat s1)).gen) :: (List.map AV.y (pad 32 (ceAt a (Int.toNat s1)).d))), ((34 : Nat) ≤ (List.length ((AV.i (ceAt b (Int.toNat s1)).kind) :: (AV.i (ceAt b (Int.toNat s1)).gen) :: (List.map AV.y (pad 32 (ceAt b (Int.toNat s1)).d))))), (List.take 34 ((AV.i (ceAt b (Int.toNat s1)).kind) :: (AV.i (ceAt b (Int.toNat s1)).gen) :: (List.map AV.y (pad 32 (ceAt b (Int.toNat s1)).d)))) = ((AV.i (ceAt b (Int.toNat s1)).kind) :: (AV.i (ceAt b (Int.toNat s1)).gen) :: (List.map AV.y (pad 32 (ceAt b (Int.toNat s1)).d))), (over ((AV.i (ceAt b (Int.toNat s1)).kind) :: (AV.i (ceAt b (Int.toNat s1)).gen) :: (List.map AV.y (pad 32 (ceAt b (Int.toNat s1)).d))) 1 [(AV.i (ceAt a (Int.toNat s1)).gen)]) = ((AV.i (ceAt b (Int.toNat s1)).kind) :: (AV.i (ceAt a (Int.toNat s1)).gen) :: (List.map AV.y (pad 32 (ceAt b (Int.toNat s1)).d))), ((34 : Nat) ≤ (List.length ((AV.i (ceAt a (Int.toNat s1)).kind) :: (AV.i (ceAt a (Int.toNat s1)).gen) :: (List.map AV.y (pad 32 (ceAt a (Int.toNat s1)).d))))), (List.take 34 ((AV.i (ceAt a (Int.toNat s1)).kind) :: (AV.i (ceAt a (Int.toNat s1)).gen) :: (List.map AV.y (pad 32 (ceAt a (Int.toNat s1)).d)))) = ((AV.i (ceAt a (Int.toNat s1)).kind) :: (AV.i (ceAt a (Int.toNat s1)).gen) :: (List.map AV.y (pad 32 (ceAt a (Int.toNat s1)).d))), ((34 : Nat) ≤ (List.length ((AV.i (ceAt b (Int.toNat s1)).kind) :: (AV.i (ceAt a (Int.toNat s1)).gen) :: (List.map AV.y (pad 32 (ceAt b (Int.toNat s1)).d))))), (List.take 34 ((AV.i (ceAt b (Int.toNat s1)).kind) :: (AV.i (ceAt a (Int.toNat s1)).gen) :: (List.map AV.y (pad 32 (ceAt b (Int.toNat s1)).d)))) = ((AV.i (ceAt b (Int.toNat s1)).kind) :: (AV.i (ceAt a (Int.toNat s1)).gen) :: (List.map AV.y (pad 32 (ceAt b (Int.toNat s1)).d))), (((List.length ((AV.i (ceAt a (Int.toNat s1)).kind) :: (AV.i (ceAt a (Int.toNat s1)).gen) :: (List.map AV.y (pad 32 (ceAt a (Int.toNat s1)).d)))) = (34 : Nat)) ∧ ((List.length ((AV.i (ceAt b (Int.toNat s1)).kind) :: (AV.i (ceAt a (Int.toNat s1)).gen) :: (List.map AV.y (pad 32 (ceAt b (Int.toNat s1)).d)))) = (34 : Nat))), eqCells (((AV.i (ceAt a (Int.toNat s1)).kind) :: (AV.i (ceAt a (Int.toNat s1)).gen) :: (List.map AV.y (pad 32 (ceAt a (Int.toNat s1)).d)))) (((AV.i (ceAt b (Int.toNat s1)).kind) :: (AV.i (ceAt a (Int.toNat s1)).gen) :: (List.map AV.y (pad 32 (ceAt b (Int.toNat s1)).d)))) = some ((((ceAt a (Int.toNat s1)).kind == (ceAt b (Int.toNat s1)).kind) && (((ceAt a (Int.toNat s1)).gen == (ceAt a (Int.toNat s1)).gen) && ((pad 32 (ceAt a (Int.toNat s1)).d) == (pad 32 (ceAt b (Int.toNat s1)).d))))), ((!(((ceAt a (Int.toNat s1)).kind == (ceAt b (Int.toNat s1)).kind) && (((ceAt a (Int.toNat s1)).gen == (ceAt a (Int.toNat s1)).gen) && ((pad 32 (ceAt a (Int.toNat s1)).d) == (pad 32 (ceAt b (Int.toNat s1)).d)))))) = true]) kq ⟨h0, (EvHead.of (iAlike_L0_ok a b) (absB_of [] [] kq (.consn kq (.eqv tq rfl) (.consn kq (.eqv tq rfl) (.consn kq (.fn .nil) (.consn kq (.eqv tq rfl) (.consn kq (.eqv tq rfl) (.consn kq (.eqv tq rfl) (.consn kq (.eqv tq rfl) .nil))))))) .nil) h1), h2, h3, fq, (by first | exact ce_take _ _ bq | (simpa using ce_take _ _ bq) | ((try simp only [List.drop_drop]); rw [show ((Int.toNat s1) * (34 : Nat)) = ((Int.toNat s1)) * 34 by omega]; exact ce_take _ _ bq)), tq, (over_all tq), fq, fq, (by first | exact ce_take _ _ bq | (simpa using ce_take _ _ bq) | ((try simp only [List.drop_drop]); rw [show ((Int.toNat s1) * (34 : Nat)) = ((Int.toNat s1)) * 34 by omega]; exact ce_take _ _ bq)), tq, (over_all tq), tq, (List.take_of_length_le tq), tq, (List.take_of_length_le tq), rfl, tq, (List.take_of_length_le tq), tq, (List.take_of_length_le tq), tq, (eqCells_ci (eqCells_ci (eqCells_of tq tq tq))), h4, trivial⟩ tq
theorem iAlike_l2 (a : List Ce) (b : List Ce) (h0 : (((↑(List.length a) : Int) != (↑(List.length b) : Int))) = false) (h0p : ((↑(List.length a) : Int) = (↑(List.length b) : Int))) (s1 : Int) (h1 : Runs (iAlike_L0_step a b) ((0 : Int)) s1) (h2 : ((decide (s1 < (↑(List.length a) : Int)))) = false) (h2p : ¬ (s1 < (↑(List.length a) : Int))) : iAlike_G a b (Bool.true) :=
  leafR vw_eq (k := 300) (r := []) (hs := hz [(10, [.no]), (3, [.head (iAlike_L0_S a b s1)]), (1, [.no]), (2, [])]) (raw := (AV.b Bool.true)) (ps := [(((↑(List.length a) : Int) != (↑(List.length b) : Int))) = false, EvHead Try.prog cf (lp Try.prog 39 0) (iAlike_L0_I a b) (iAlike_L0_S a b s1), ((decide (s1 < (↑(List.length a) : Int)))) = false]) kq ⟨h0, (EvHead.of (iAlike_L0_ok a b) (absB_of [] [] kq (.consn kq (.eqv tq rfl) (.consn kq (.eqv tq rfl) (.consn kq (.fn .nil) (.consn kq (.eqv tq rfl) (.consn kq (.eqv tq rfl) (.consn kq (.eqv tq rfl) (.consn kq (.eqv tq rfl) .nil))))))) .nil) h1), h2, trivial⟩ tq
theorem iAlike_ok (a : List Ce) (b : List Ce) (r : Bool) : iAlike a b = some r → iAlike_G a b r := by
  unfold iAlike
  refine tb_ok (fun h0 => ?_) (fun h0 => ?_)
  ·
    have h0p := bne_iff_ne.1 h0
    exact fun e => tl_ok (G := iAlike_G a b) (iAlike_l0 a b h0 h0p) e
  ·
    have h0p := bne_eq_false_iff_eq.1 h0
    refine th_ok (fun s1 h1 => ?_)
    refine tb_ok (fun h2 => ?_) (fun h2 => ?_)
    ·
      have h2p := of_decide_eq_true h2
      refine tp_ok (fun h3 => ?_)
      refine tb_ok (fun h4 => ?_) (fun h4 => ?_)
      ·
        exact fun e => tl_ok (G := iAlike_G a b) (iAlike_l1 a b h0 h0p s1 h1 h2 h2p h3 h4) e
      ·
        exact fun e => nomatch e
    ·
      have h2p := of_decide_eq_false h2
      exact fun e => tl_ok (G := iAlike_G a b) (iAlike_l2 a b h0 h0p s1 h1 h2 h2p) e
end Ab
end Go.Proofs.Ytadipihpgcelmaa
namespace Go.Proofs.Ytadipihpgcelmaa
open Go Go.Proofs.Ytadipihpgcelmaa.Ab
set_option linter.unusedVariables false
set_option linter.unusedSimpArgs false
namespace Ab
/-- A loop that asks something of each place, with a state of its own. -/
theorem th_first {σ α : Type} {step : σ → Option σ} {f : σ → Option α} (r1 r2 : Option α) (S : Nat → σ) (n : Nat) (P : Nat → Prop) (Q : Prop) [Decidable Q] (hQ : (∀ i, i < n → P i) ↔ Q)
    (hs : ∀ i : Nat, i < n → (∀ j, j < i → P j) → P i → step (S i) = some (S (i + 1))) (hf : ∀ i : Nat, i < n → (∀ j, j < i → P j) → ¬ P i → step (S i) = none ∧ f (S i) = r1) (he : (∀ j, j < n → P j) → step (S n) = none ∧ f (S n) = r2) :
    th step (S 0) f = if Q then r2 else r1 := by
  by_cases h : ∀ i, i < n → P i
  · rw [if_pos (hQ.1 h), th_run (step := step) (f := f) S n (fun i hi => hs i hi (fun j hj => h j (by omega)) (h i hi)) (he h).1]
    exact (he h).2
  · rw [if_neg (fun g => h (hQ.2 g))]
    have hex : ∃ i, i < n ∧ ¬ P i := Classical.byContradiction fun hn => h fun i hi => Classical.byContradiction fun hp => hn ⟨i, hi, hp⟩
    have key : ∀ k, (∃ i, i < k ∧ i < n ∧ ¬ P i) → ∃ i, i < n ∧ ¬ P i ∧ ∀ j, j < i → P j := by
      intro k
      induction k with
      | zero => rintro ⟨i, hi, _⟩; omega
      | succ k ih =>
        rintro ⟨i, h1, h2, h3⟩
        by_cases hk : ∃ i, i < k ∧ i < n ∧ ¬ P i
        · exact ih hk
        · have hik : i = k := by
            rcases Nat.lt_or_ge i k with g | g
            · exact absurd ⟨i, g, h2, h3⟩ hk
            · omega
          refine ⟨i, h2, h3, fun j hj => ?_⟩
          exact Classical.byContradiction fun hp => hk ⟨j, by omega, by omega, hp⟩
    obtain ⟨i, h1, h2⟩ := hex
    obtain ⟨k, k1, k2, k3⟩ := key (i + 1) ⟨i, by omega, h1, h2⟩
    rw [th_run (step := step) (f := f) S k (fun i hi => hs i (by omega) (fun j hj => k3 j (by omega)) (k3 i hi)) (hf k k1 k3 k2).1]
    exact (hf k k1 k3 k2).2
/-- How many blocks extents are. -/
def sl : List Ex → Int
  | [] => 0
  | x :: l => x.len + sl l
theorem sl_append : ∀ a b : List Ex, sl (a ++ b) = sl a + sl b
  | [], b => by simp [sl]
  | x :: a, b => by simp only [List.cons_append, sl, sl_append a b]; omega
theorem sl_take (l : List Ex) (i : Nat) (h : i < l.length) : sl (l.take (i + 1)) = sl (l.take i) + (exAt l i).len := by
  rw [take_at ⟨0, 0, 0, 0, []⟩ l i h, sl_append]; simp [sl, exAt]
def MP (l : List Ex) (i : Nat) : Prop := Ck (exAt l i) ∧ (exAt l i).lba = sl (l.take i) ∧ (0 < i → ¬ Jn (exAt l (i - 1)) (exAt l i))
/-- Is it a map of so many blocks? -/
def Mk (blocks : Int) (l : List Ex) : Prop := l ≠ [] ∧ (∀ i, i < l.length → MP l i) ∧ sl l = blocks
instance (l : List Ex) (i : Nat) : Decidable (MP l i) := by unfold MP; infer_instance
instance (blocks : Int) (l : List Ex) : Decidable (Mk blocks l) := by unfold Mk; infer_instance
def mk (blocks : Int) (l : List Ex) : Bool := decide (Mk blocks l)
theorem mk_iff {blocks : Int} {l : List Ex} : mk blocks l = true ↔ Mk blocks l := decide_eq_true_iff
theorem mk_t {blocks : Int} {l : List Ex} (h : Mk blocks l) : mk blocks l = true := mk_iff.2 h
theorem mk_f {blocks : Int} {l : List Ex} (h : ¬ Mk blocks l) : mk blocks l = false := decide_eq_false_iff_not.2 h
theorem mp_bound {l : List Ex} {i : Nat} (hi : i ≤ l.length) (h : ∀ j, j < i → MP l j) : 0 ≤ sl (l.take i) ∧ sl (l.take i) ≤ 64 ∧ (0 < i → 1 ≤ sl (l.take i)) := by
  induction i with
  | zero => simp [sl]
  | succ i ih =>
    have h1 := ih (by omega) fun j hj => h j (by omega)
    have h2 := h i (by omega)
    have h3 := h2.1
    have h4 := h2.2.1
    unfold Ck at h3
    rw [sl_take l i (by omega)]
    omega
theorem mCheck_eq (blocks : Int) (l : List Ex) (hl : l.length ≤ 4294967296) : mCheck blocks l = some (mk blocks l) := by
  unfold mCheck
  have hstep : ∀ i : Nat, i < l.length → (∀ j, j < i → MP l j) → MP l i → mCheck_L0_step blocks l (sl (l.take i), (i : Int)) = some (sl (l.take (i + 1)), ((i + 1 : Nat) : Int)) := by
    intro i hi hpre hp
    have hb := mp_bound (by omega) hpre
    have hck := hp.1
    have hlba := hp.2.1
    unfold mCheck_L0_step
    simp only [tb_dec, tb_bne, tb_not, eCheck_eq, eJoins_eq, tc_some, Int.toNat_natCast]
    unfold Ck at hck
    rw [if_pos (by omega), tp_pos (by omega), ck_t hp.1, tb_t, if_pos hlba, sl_take l i hi, wr_id (x := sl (l.take i) + (exAt l i).len) (by omega) (by omega), wr_id (x := (i : Int) + 1) (by omega) (by omega)]
    have e1 : ((i + 1 : Nat) : Int) = (i : Int) + 1 := by omega
    rw [e1]
    by_cases h0 : (i : Int) > 0
    · rw [if_pos h0, wr_id (x := (i : Int) - 1) (by omega) (by omega), tp_pos (by omega), show ((i : Int) - 1).toNat = i - 1 by omega, jn_f (hp.2.2 (by omega)), tb_f]
    · rw [if_neg h0]
  have := th_first (step := mCheck_L0_step blocks l) (some false) (if l ≠ [] ∧ sl l = blocks then some true else some false) (fun i => (sl (l.take i), (i : Int))) l.length (MP l) (∀ i, i < l.length → MP l i) Iff.rfl hstep (f := fun s0 =>
    tb (decide (s0.2 < (l.length : Int))) (tp ((0 : Int) ≤ s0.2 ∧ s0.2 < (l.length : Int)) (tc (eCheck (exAt l s0.2.toNat)) fun s3 => tb (!s3) (some false) (tb ((exAt l s0.2.toNat).lba != s0.1) (some false) (tb (decide (s0.2 > 0)) (tp ((0 : Int) ≤ wr (s0.2 - 1) ∧ wr (s0.2 - 1) < (l.length : Int)) (tc (eJoins (exAt l (wr (s0.2 - 1)).toNat) (exAt l s0.2.toNat)) fun s8 => tb s8 (some false) none)) none))))
      (tb (decide ((l.length : Int) > 0)) (some (s0.1 == blocks)) (some false))) ?_ ?_
  · simp only [List.take_zero, sl, Int.natCast_zero] at this
    rw [this]
    by_cases hall : ∀ i, i < l.length → MP l i
    · rw [if_pos hall]
      by_cases h : l ≠ [] ∧ sl l = blocks
      · rw [if_pos h, mk_t ⟨h.1, hall, h.2⟩]
      · rw [if_neg h, mk_f fun g => h ⟨g.1, g.2.2⟩]
    · rw [if_neg hall, mk_f fun g => hall g.2.1]
  · intro i hi hpre hp
    have hb := mp_bound (by omega) hpre
    unfold mCheck_L0_step
    simp only [tb_dec, tb_bne, tb_not, eCheck_eq, eJoins_eq, tc_some, Int.toNat_natCast]
    by_cases hck : Ck (exAt l i)
    case neg => refine ⟨?_, ?_⟩ <;> (rw [if_pos (by omega), tp_pos (by omega), ck_f hck]; rfl)
    by_cases hlba : (exAt l i).lba = sl (l.take i)
    case neg => refine ⟨?_, ?_⟩ <;> (rw [if_pos (by omega), tp_pos (by omega), ck_t hck, tb_t, if_neg hlba])
    have hj : 0 < i ∧ Jn (exAt l (i - 1)) (exAt l i) := by
      refine ⟨?_, ?_⟩
      · rcases Nat.eq_zero_or_pos i with h | h
        · subst h; exact absurd ⟨hck, hlba, fun h => by omega⟩ hp
        · exact h
      · exact Classical.byContradiction fun h => hp ⟨hck, hlba, fun _ => h⟩
    refine ⟨?_, ?_⟩ <;> (rw [if_pos (by omega), tp_pos (by omega), ck_t hck, tb_t, if_pos hlba, if_pos (by omega), wr_id (x := (i : Int) - 1) (by omega) (by omega), tp_pos (by omega), show ((i : Int) - 1).toNat = i - 1 by omega, jn_t hj.2]; rfl)
  · intro hall
    unfold mCheck_L0_step
    simp only [tb_dec]
    rw [if_neg (by omega), if_neg (by omega)]
    refine ⟨rfl, ?_⟩
    rw [List.take_length]
    by_cases h0 : l = []
    · subst h0; simp
    · have : 0 < l.length := List.length_pos_iff.2 h0
      rw [if_pos (by omega)]
      by_cases hb : sl l = blocks
      · rw [if_pos ⟨h0, hb⟩, hb]; simp
      · rw [if_neg (fun h => hb h.2)]; simp [hb]
theorem mk_blocks {blocks : Int} {l : List Ex} (h : Mk blocks l) : 1 ≤ blocks ∧ blocks ≤ 64 := by
  have hb := mp_bound (Nat.le_refl _) h.2.1
  rw [List.take_length, h.2.2] at hb
  have := List.length_pos_iff.2 h.1
  omega
theorem r8Check_eq (blocks : Int) (l : List Ex) (hl : l.length ≤ 4294967296) : r8Check blocks l = some (mk blocks l) := by
  unfold r8Check
  simp only [tb_dec]
  by_cases hb1 : blocks < 1
  · rw [if_pos hb1, mk_f fun h => by have := mk_blocks h; omega]
  by_cases hb2 : blocks > 64
  · rw [if_neg hb1, if_pos hb2, mk_f fun h => by have := mk_blocks h; omega]
  rw [if_neg hb1, if_neg hb2]
  have hstep : ∀ i : Nat, i < l.length → (∀ j, j < i → MP l j) → MP l i → r8Check_L0_step blocks l (sl (l.take i), (i : Int)) = some (sl (l.take (i + 1)), ((i + 1 : Nat) : Int)) := by
    intro i hi hpre hp
    have hb := mp_bound (by omega) hpre
    have hck := hp.1
    have hlba := hp.2.1
    unfold r8Check_L0_step
    simp only [tb_dec, tb_bne, tb_not, r7Check_eq, r7Joins_eq, tc_some, Int.toNat_natCast]
    unfold Ck at hck
    rw [if_pos (by omega), tp_pos (by omega), ck_t hp.1, tb_t, if_pos hlba, sl_take l i hi, wr_id (x := sl (l.take i) + (exAt l i).len) (by omega) (by omega), wr_id (x := (i : Int) + 1) (by omega) (by omega)]
    have e1 : ((i + 1 : Nat) : Int) = (i : Int) + 1 := by omega
    rw [e1]
    by_cases h0 : (i : Int) > 0
    · rw [if_pos h0, wr_id (x := (i : Int) - 1) (by omega) (by omega), tp_pos (by omega), show ((i : Int) - 1).toNat = i - 1 by omega, jn_f (hp.2.2 (by omega)), tb_f]
    · rw [if_neg h0]
  have := th_first (step := r8Check_L0_step blocks l) (some false) (some (sl l == blocks)) (fun i => (sl (l.take i), (i : Int))) l.length (MP l) (∀ i, i < l.length → MP l i) Iff.rfl hstep (f := fun s0 =>
    if s0.2 < (l.length : Int) then (tp ((0 : Int) ≤ s0.2 ∧ s0.2 < (l.length : Int)) (tc (r7Check (exAt l s0.2.toNat)) fun s3 => tb (!s3) (some false) (tb ((exAt l s0.2.toNat).lba != s0.1) (some false) (if s0.2 > 0 then (tp ((0 : Int) ≤ wr (s0.2 - 1) ∧ wr (s0.2 - 1) < (l.length : Int)) (tc (r7Joins (exAt l (wr (s0.2 - 1)).toNat) (exAt l s0.2.toNat)) fun s8 => tb s8 (some false) none)) else none))))
      else (some (s0.1 == blocks))) ?_ ?_
  · simp only [List.take_zero, sl, Int.natCast_zero] at this
    rw [this]
    by_cases hall : ∀ i, i < l.length → MP l i
    · rw [if_pos hall]
      congr 1
      rw [Bool.eq_iff_iff, beq_iff_eq, mk_iff]
      refine ⟨fun h => ⟨fun h0 => ?_, hall, h⟩, fun h => h.2.2⟩
      subst h0; simp [sl] at h; omega
    · rw [if_neg hall, mk_f fun g => hall g.2.1]
  · intro i hi hpre hp
    have hb := mp_bound (by omega) hpre
    unfold r8Check_L0_step
    simp only [tb_dec, tb_bne, tb_not, r7Check_eq, r7Joins_eq, tc_some, Int.toNat_natCast]
    by_cases hck : Ck (exAt l i)
    case neg => refine ⟨?_, ?_⟩ <;> (rw [if_pos (by omega), tp_pos (by omega), ck_f hck]; rfl)
    by_cases hlba : (exAt l i).lba = sl (l.take i)
    case neg => refine ⟨?_, ?_⟩ <;> (rw [if_pos (by omega), tp_pos (by omega), ck_t hck, tb_t, if_neg hlba])
    have hj : 0 < i ∧ Jn (exAt l (i - 1)) (exAt l i) := by
      refine ⟨?_, ?_⟩
      · rcases Nat.eq_zero_or_pos i with h | h
        · subst h; exact absurd ⟨hck, hlba, fun h => by omega⟩ hp
        · exact h
      · exact Classical.byContradiction fun h => hp ⟨hck, hlba, fun _ => h⟩
    refine ⟨?_, ?_⟩ <;> (rw [if_pos (by omega), tp_pos (by omega), ck_t hck, tb_t, if_pos hlba, if_pos (by omega), wr_id (x := (i : Int) - 1) (by omega) (by omega), tp_pos (by omega), show ((i : Int) - 1).toNat = i - 1 by omega, jn_t hj.2]; rfl)
  · intro hall
    unfold r8Check_L0_step
    simp only [tb_dec]
    rw [if_neg (by omega), if_neg (by omega)]
    rw [List.take_length]
    exact ⟨rfl, rfl⟩
end Ab
end Go.Proofs.Ytadipihpgcelmaa
namespace Go.Proofs.Ytadipihpgcelmaa
open Go Go.Proofs.Ytadipihpgcelmaa.Ab
set_option linter.unusedVariables false
set_option linter.unusedSimpArgs false
namespace Ab
/-- The part of an extent within so many blocks, if there is one. -/
def Cu (x : Ex) (lba n : Int) : Prop := Ck x ∧ 0 ≤ lba ∧ lba ≤ 64 ∧ 0 ≤ n ∧ n ≤ 64 ∧ max x.lba lba < min (x.lba + x.len) (lba + n)
instance (x : Ex) (lba n : Int) : Decidable (Cu x lba n) := by unfold Cu; infer_instance
def cu (x : Ex) (lba n : Int) : Ex :=
  ⟨max x.lba lba, min (x.lba + x.len) (lba + n) - max x.lba lba, x.kind, x.gen, if x.kind = 2 then (x.d.drop (32 * (max x.lba lba - x.lba)).toNat).take (32 * (min (x.lba + x.len) (lba + n) - max x.lba lba)).toNat else []⟩
def e0 : Ex := ⟨0, 0, 0, 0, []⟩
def cut (x : Ex) (lba n : Int) : Option Ex := if Cu x lba n then some (cu x lba n) else none
def Ro (blocks lba n : Int) : Prop := 0 ≤ lba ∧ lba ≤ blocks ∧ 1 ≤ n ∧ n ≤ blocks - lba
instance (blocks lba n : Int) : Decidable (Ro blocks lba n) := by unfold Ro; infer_instance
end Ab
end Go.Proofs.Ytadipihpgcelmaa
namespace Go.Proofs.Ytadipihpgcelmaa
open Go Go.Proofs.Ytadipihpgcelmaa.Ab
set_option linter.unusedVariables false
set_option linter.unusedSimpArgs false
namespace Ab
def jnx (a b : Ex) : Ex := ⟨a.lba, a.len + b.len, a.kind, a.gen, a.d ++ b.d⟩
def jnv (a b : Ex) : Ex × Int := if Jn a b then (jnx a b, 0) else (⟨0, 0, 0, 0, []⟩, 70)
theorem ck_dlen {x : Ex} (h : Ck x) : x.d.length ≤ 2048 := by
  unfold Ck at h
  by_cases hk : x.kind = 2
  · have := h.2.2.2.2.2.2.2.2.1 hk; omega
  · have := h.2.2.2.2.2.2.2.2.2 hk; rw [this]; simp
theorem eJoin_eq (a b : Ex) : eJoin a b = some (jnv a b) := by
  unfold eJoin jnv
  rw [eJoins_eq, tc_some, tb_not]
  by_cases h : Jn a b
  case neg => rw [jn_f h, tb_f, if_neg h]
  have ha := ck_dlen h.1
  have hb := ck_dlen h.2.1
  have ca := h.1
  have cb := h.2.1
  unfold Ck at ca cb
  rw [jn_t h, tb_t, if_pos h, wr_id (by omega) (by omega), tp_pos (by omega), tp_pos (by rw [List.length_map]; omega)]
  rfl
/-- Behind others: joined with the last one, if it goes on it. -/
def add (out : List Ex) (y : Ex) : List Ex := if out ≠ [] ∧ Jn (out.getLastD ⟨0, 0, 0, 0, []⟩) y then out.dropLast ++ [jnx (out.getLastD ⟨0, 0, 0, 0, []⟩) y] else out ++ [y]
theorem add_len (out : List Ex) (y : Ex) : (add out y).length ≤ out.length + 1 := by
  unfold add
  split
  · first | (simp; done) | (simp; omega)
  · simp
theorem adds_len : ∀ (ys out : List Ex), (ys.foldl add out).length ≤ out.length + ys.length
  | [], out => by simp
  | y :: ys, out => by
    have := adds_len ys (add out y)
    have := add_len out y
    simp only [List.foldl_cons, List.length_cons]; omega
theorem last_at (out : List Ex) (h : out ≠ []) (k : Nat) (hk : k = out.length - 1) : exAt out k = out.getLastD ⟨0, 0, 0, 0, []⟩ := by
  subst hk
  have : 0 < out.length := List.length_pos_iff.2 h
  unfold exAt
  rw [List.getD_eq_getElem?_getD, List.getLastD_eq_getLast?, List.getLast?_eq_getElem?]
theorem set_last_ex (out : List Ex) (h : out ≠ []) (k : Nat) (hk : k = out.length - 1) (v : Ex) : out.set k v = out.dropLast ++ [v] := by
  subst hk
  have e : out = out.dropLast ++ [out.getLast h] := (List.dropLast_concat_getLast h).symm
  have hl : out.length - 1 = out.dropLast.length := by simp
  rw [hl]
  conv => lhs; rw [e]
  rw [List.set_append_right _ _ (by simp)]
  simp
end Ab
end Go.Proofs.Ytadipihpgcelmaa
namespace Go.Proofs.Ytadipihpgcelmaa
open Go Go.Proofs.Ytadipihpgcelmaa.Ab
set_option linter.unusedVariables false
set_option linter.unusedSimpArgs false
namespace Ab
/-- Extents one behind the other, from a block on, none of which goes on the one before it. -/
def CH : Int → List Ex → Prop
  | _, [] => True
  | s, x :: l => Ck x ∧ x.lba = s ∧ (∀ y, l.head? = some y → ¬ Jn x y) ∧ CH (s + x.len) l
theorem mk_ch {blocks : Int} {l : List Ex} (h : Mk blocks l) : CH 0 l := by
  have key : ∀ j, j ≤ l.length → CH (sl (l.take (l.length - j))) (l.drop (l.length - j)) := by
    intro j
    induction j with
    | zero => intro _; rw [Nat.sub_zero, List.drop_length]; trivial
    | succ j ih =>
      intro hj
      have hi : l.length - (j + 1) < l.length := by omega
      have hm := h.2.1 (l.length - (j + 1)) hi
      have e : l.drop (l.length - (j + 1)) = exAt l (l.length - (j + 1)) :: l.drop (l.length - (j + 1) + 1) := by unfold exAt; exact drop_at _ l _ hi
      rw [e]
      have hs := sl_take l (l.length - (j + 1)) hi
      have e2 : l.length - (j + 1) + 1 = l.length - j := by omega
      rw [e2] at hs ⊢
      refine ⟨hm.1, hm.2.1, fun y hy => ?_, by rw [← hs]; exact ih (by omega)⟩
      have hy2 : l.length - j < l.length ∧ y = exAt l (l.length - j) := by
        rw [List.head?_drop] at hy
        obtain ⟨g, e3⟩ := List.getElem?_eq_some_iff.1 hy
        exact ⟨g, by unfold exAt; simp [g, e3]⟩
      have hm2 := (h.2.1 (l.length - j) hy2.1).2.2 (by omega)
      rw [show l.length - j - 1 = l.length - (j + 1) by omega, ← hy2.2] at hm2
      exact hm2
  have := key l.length (Nat.le_refl _)
  simpa [sl] using this
theorem ch_ck : ∀ {l : List Ex} {s : Int}, CH s l → ∀ z ∈ l, Ck z ∧ s ≤ z.lba
  | [], _, _, z, hz => by cases hz
  | x :: l, s, h, z, hz => by
    have hc := h.1
    unfold Ck at hc
    rcases List.mem_cons.1 hz with e | e
    · subst e; exact ⟨h.1, by have := h.2.1; omega⟩
    · have := ch_ck h.2.2.2 z e
      exact ⟨this.1, by omega⟩
end Ab
end Go.Proofs.Ytadipihpgcelmaa
namespace Go.Proofs.Ytadipihpgcelmaa
open Go Go.Proofs.Ytadipihpgcelmaa.Ab
set_option linter.unusedVariables false
set_option linter.unusedSimpArgs false
namespace Ab
/-- A block of an extent. -/
def bAt (x : Ex) (k : Int) : Int × Int × List UInt8 := (x.kind, x.gen, (x.d.drop (32 * (k - x.lba)).toNat).take 32)
/-- An extent holds at a block so much. -/
def Cv (x : Ex) (k : Int) (c : Int × Int × List UInt8) : Prop := x.lba ≤ k ∧ k < x.lba + x.len ∧ c = bAt x k
def Den (l : List Ex) (k : Int) (c : Int × Int × List UInt8) : Prop := ∃ x ∈ l, Cv x k c
theorem den_nil {k : Int} {c : Int × Int × List UInt8} : ¬ Den [] k c := fun ⟨x, hx, _⟩ => by cases hx
theorem den_cons {x : Ex} {l : List Ex} {k : Int} {c : Int × Int × List UInt8} : Den (x :: l) k c ↔ Cv x k c ∨ Den l k c := by
  unfold Den; simp
theorem ck_pos {x : Ex} (h : Ck x) : 0 ≤ x.lba ∧ x.lba ≤ 64 ∧ 1 ≤ x.len ∧ x.lba + x.len ≤ 64 := by
  unfold Ck at h; omega
theorem ck_d2 {x : Ex} (h : Ck x) (hk : x.kind = 2) : (x.d.length : Int) = 32 * x.len := by
  unfold Ck at h; exact h.2.2.2.2.2.2.2.2.1 hk
theorem ck_d0 {x : Ex} (h : Ck x) (hk : x.kind ≠ 2) : x.d = [] := by
  unfold Ck at h; exact h.2.2.2.2.2.2.2.2.2 hk
theorem den_ge {l : List Ex} {s : Int} (h : CH s l) {k : Int} {c : Int × Int × List UInt8} (hd : Den l k c) : s ≤ k := by
  obtain ⟨x, hx, hc⟩ := hd
  have := (ch_ck h x hx).2
  have := hc.1
  omega
end Ab
end Go.Proofs.Ytadipihpgcelmaa
namespace Go.Proofs.Ytadipihpgcelmaa
open Go Go.Proofs.Ytadipihpgcelmaa.Ab
set_option linter.unusedVariables false
set_option linter.unusedSimpArgs false
namespace Ab
/-- Of one extent of the map: what is left of it before, the new one if it is its turn, what is left behind. -/
def P1 (x : Ex) (fl : Bool) (e : Ex) : List Ex := (cut e 0 x.lba).toList ++ ((if fl = false ∧ e.lba + e.len > x.lba then [x] else []) ++ (cut e (x.lba + x.len) 64).toList)
def F1 (x : Ex) (fl : Bool) (e : Ex) : Bool := fl || decide (e.lba + e.len > x.lba)
def pcs (x : Ex) : Bool → List Ex → List Ex
  | _, [] => []
  | fl, e :: l => P1 x fl e ++ pcs x (F1 x fl e) l
/-- The map with the new extent over it. -/
def put (l : List Ex) (x : Ex) : List Ex := (pcs x false l).foldl add []
end Ab
end Go.Proofs.Ytadipihpgcelmaa
namespace Go.Proofs.Ytadipihpgcelmaa
open Go Go.Proofs.Ytadipihpgcelmaa.Ab
set_option linter.unusedVariables false
set_option linter.unusedSimpArgs false
namespace Ab
theorem ch_len : ∀ {l : List Ex} {s : Int}, CH s l → (l.length : Int) ≤ sl l
  | [], _, _ => by simp [sl]
  | x :: l, s, h => by
    have := ch_len h.2.2.2
    have := ck_pos h.1
    simp only [sl, List.length_cons]; omega
theorem mk_len {blocks : Int} {l : List Ex} (h : Mk blocks l) : l.length ≤ 64 := by
  have h1 := ch_len (mk_ch h)
  have h2 := mk_blocks h
  have h3 := h.2.2
  omega
theorem ch_cov : ∀ {l : List Ex} {s : Int}, CH s l → ∀ {k : Int}, s ≤ k → k < s + sl l → ∃ x ∈ l, x.lba ≤ k ∧ k < x.lba + x.len
  | [], s, _, k, h1, h2 => by simp only [sl] at h2; omega
  | x :: l, s, h, k, h1, h2 => by
    have bx := h.2.1
    simp only [sl] at h2
    by_cases g : k < x.lba + x.len
    · exact ⟨x, by simp, by omega, g⟩
    · obtain ⟨y, hy, q⟩ := ch_cov h.2.2.2 (k := k) (by omega) (by omega)
      exact ⟨y, by simp [hy], q⟩
end Ab
end Go.Proofs.Ytadipihpgcelmaa
namespace Go.Proofs.Ytadipihpgcelmaa
open Go Go.Proofs.Ytadipihpgcelmaa.Ab
set_option linter.unusedVariables false
set_option linter.unusedSimpArgs false
namespace Ab
theorem th_run_at {σ α : Type} {step : σ → Option σ} {f : σ → Option α} (S : Nat → σ) (k : Nat) {s0 : σ} (h0 : s0 = S 0) (hs : ∀ i, i < k → step (S i) = some (S (i + 1))) (he : step (S k) = none) : th step s0 f = f (S k) := by
  subst h0; exact th_run S k hs he
theorem pad_rep (n m : Nat) : pad n (List.replicate m 0) = List.replicate n 0 := by
  unfold pad
  rw [List.replicate_append_replicate, List.take_replicate]
  congr 1; omega
theorem pad_nil (n : Nat) : pad n [] = List.replicate n 0 := pad_rep n 0
def CkC (c : Ce) : Prop := 0 ≤ c.kind ∧ c.kind ≤ 2 ∧ 0 ≤ c.gen ∧ c.gen ≤ 2147483647 ∧ (c.kind ≠ 2 → pad 32 c.d = List.replicate 32 0)
instance (c : Ce) : Decidable (CkC c) := by unfold CkC; infer_instance
/-- May blocks be? -/
def CkI (l : List Ce) : Prop := 1 ≤ l.length ∧ l.length ≤ 64 ∧ ∀ c ∈ l, CkC c
instance (l : List Ce) : Decidable (CkI l) := by unfold CkI; infer_instance
theorem ceAt_all (l : List Ce) (p : Ce → Prop) : (∀ i, i < l.length → p (ceAt l i)) ↔ ∀ x ∈ l, p x := by
  unfold ceAt; exact getD_all _ l p
end Ab
end Go.Proofs.Ytadipihpgcelmaa
namespace Go.Proofs.Ytadipihpgcelmaa
open Go Go.Proofs.Ytadipihpgcelmaa.Ab
set_option linter.unusedVariables false
set_option linter.unusedSimpArgs false
namespace Ab
/-- A block as extents hold it; one as a list holds what extents do. -/
def blk (c : Ce) : Int × Int × List UInt8 := (c.kind, c.gen, if c.kind = 2 then pad 32 c.d else [])
def cb (c : Int × Int × List UInt8) : Ce := ⟨c.1, c.2.1, pad 32 c.2.2⟩
/-- One block as an extent. -/
def sg (l : List Ce) (i : Nat) : Ex := ⟨i, 1, (ceAt l i).kind, (ceAt l i).gen, if (ceAt l i).kind = 2 then pad 32 (ceAt l i).d else []⟩
def sgs (l : List Ce) : List Ex := (List.range' 0 l.length).map (sg l)
def mapOf (l : List Ce) : List Ex := (sgs l).foldl add []
/-! Blocks of a map. -/
/-- The bytes of an extent. -/
def eb (x : Ex) : List UInt8 := if x.kind = 2 then x.d else List.replicate (32 * x.len).toNat 0
theorem eb_len {x : Ex} (h : Ck x) : ((eb x).length : Int) = 32 * x.len := by
  unfold eb
  unfold Ck at h
  split
  · rename_i hk; exact h.2.2.2.2.2.2.2.2.1 hk
  · rw [List.length_replicate]; omega
def xcs (x : Ex) : List Ce := (List.range x.len.toNat).map fun k => ⟨x.kind, x.gen, pad 32 ((eb x).drop (32 * k))⟩
def cellsM (m : List Ex) : List Ce := m.flatMap xcs
theorem pad_take (l : List UInt8) : pad 32 (l.take 32) = pad 32 l := by
  unfold pad
  rw [List.take_append, List.take_append, List.take_take, Nat.min_self, List.take_replicate, List.take_replicate, List.length_take]
  congr 2
  omega
theorem xcs_at {x : Ex} (h : Ck x) {k : Int} (h1 : x.lba ≤ k) (h2 : k < x.lba + x.len) : (xcs x)[(k - x.lba).toNat]? = some (cb (bAt x k)) := by
  unfold xcs
  rw [List.getElem?_map, List.getElem?_range (by omega)]
  simp only [Option.map_some, Option.some.injEq, cb, bAt, Ce.mk.injEq, true_and]
  unfold eb
  have e : 32 * (k - x.lba).toNat = (32 * (k - x.lba)).toNat := by omega
  rw [e, pad_take]
  split
  · rfl
  · rename_i hk
    rw [ck_d0 h hk, List.drop_replicate, List.drop_nil, pad_rep, pad_nil]
theorem xcs_len (x : Ex) : (xcs x).length = x.len.toNat := by simp [xcs]
theorem cellsM_len : ∀ {m : List Ex} {s : Int}, CH s m → ((cellsM m).length : Int) = sl m
  | [], _, _ => rfl
  | x :: m, s, h => by
    have := cellsM_len h.2.2.2
    have p := ck_pos h.1
    simp only [cellsM, List.flatMap_cons, List.length_append, xcs_len, sl] at this ⊢
    omega
theorem cellsM_den : ∀ {m : List Ex} {s : Int}, CH s m → ∀ {k : Int} {c : Int × Int × List UInt8}, Den m k c → (cellsM m)[(k - s).toNat]? = some (cb c)
  | [], _, _, k, c, hd => absurd hd den_nil
  | x :: m, s, h, k, c, hd => by
    have p := ck_pos h.1
    have hb := h.2.1
    simp only [cellsM, List.flatMap_cons]
    rcases den_cons.1 hd with q | q
    · rw [List.getElem?_append_left (by rw [xcs_len]; have := q.1; have := q.2.1; omega), q.2.2, ← hb]
      exact xcs_at h.1 q.1 q.2.1
    · have hg := den_ge h.2.2.2 q
      rw [List.getElem?_append_right (by rw [xcs_len]; omega), xcs_len]
      have := cellsM_den h.2.2.2 q
      rw [show (k - s).toNat - x.len.toNat = (k - (s + x.len)).toNat by omega]
      exact this
theorem den_ck {x : Ex} (h : Ck x) {k : Int} (h1 : x.lba ≤ k) (h2 : k < x.lba + x.len) : blk (cb (bAt x k)) = bAt x k ∧ CkC (cb (bAt x k)) := by
  have hc := h
  unfold Ck at hc
  have hl : x.kind = 2 → ((x.d.drop (32 * (k - x.lba)).toNat).take 32).length = 32 := fun hk => by
    have := ck_d2 h hk
    rw [List.length_take, List.length_drop]; omega
  constructor
  · have e : blk (cb (bAt x k)) = (x.kind, x.gen, if x.kind = 2 then pad 32 (pad 32 ((x.d.drop (32 * (k - x.lba)).toNat).take 32)) else []) := rfl
    rw [e]
    by_cases hk : x.kind = 2
    · rw [if_pos hk, pad_pad, pad_of (hl hk)]; rfl
    · rw [if_neg hk]; unfold bAt; rw [ck_d0 h hk]; simp
  · refine ⟨by simp only [cb, bAt]; omega, by simp only [cb, bAt]; omega, by simp only [cb, bAt]; omega, by simp only [cb, bAt]; omega, fun hk => ?_⟩
    have hk : x.kind ≠ 2 := hk
    simp only [cb, bAt, ck_d0 h hk, List.drop_nil, List.take_nil, pad_nil, pad_rep]
/-- A map's holdings, block by block. -/
theorem mk_get {blocks : Int} {m : List Ex} (h : Mk blocks m) {i : Nat} (hi : (i : Int) < blocks) : ∃ x ∈ m, Ck x ∧ x.lba ≤ i ∧ (i : Int) < x.lba + x.len ∧ Den m i (bAt x i) ∧ (cellsM m)[i]? = some (cb (bAt x i)) := by
  have hc := mk_ch h
  obtain ⟨x, hx, h1, h2⟩ := ch_cov hc (k := i) (by omega) (by rw [h.2.2]; omega)
  have hd : Den m i (bAt x i) := ⟨x, hx, h1, h2, rfl⟩
  have := cellsM_den hc hd
  rw [Int.sub_zero, Int.toNat_natCast] at this
  exact ⟨x, hx, (ch_ck hc x hx).1, h1, h2, hd, this⟩
theorem cellsM_mk {blocks : Int} {m : List Ex} (h : Mk blocks m) : CkI (cellsM m) ∧ ((cellsM m).length : Int) = blocks ∧ ∀ c ∈ cellsM m, c.d.length = 32 := by
  have hl : ((cellsM m).length : Int) = blocks := (cellsM_len (mk_ch h)).trans h.2.2
  have hb := mk_blocks h
  have key : ∀ c ∈ cellsM m, CkC c ∧ c.d.length = 32 := by
    intro c hc
    obtain ⟨i, hi, e⟩ := List.getElem_of_mem hc
    obtain ⟨x, hx, k1, k2, k3, k4, k5⟩ := mk_get h (i := i) (by omega)
    rw [List.getElem?_eq_getElem hi, e] at k5
    injection k5 with k5
    subst k5
    exact ⟨(den_ck k1 k2 k3).2, by simp only [cb, pad_len]⟩
  exact ⟨⟨by omega, by omega, fun c hc => (key c hc).1⟩, hl, fun c hc => (key c hc).2⟩
end Ab
end Go.Proofs.Ytadipihpgcelmaa
namespace Go.Proofs.Ytadipihpgcelmaa
open Go Go.Proofs.Ytadipihpgcelmaa.Ab
set_option linter.unusedVariables false
set_option linter.unusedSimpArgs false
namespace Ab
theorem u8z : UInt8.ofNat 0 = 0 := rfl
theorem ceAt_one (c : Ce) : ceAt [c] 0 = c := rfl
theorem tb_lb {α : Type} (a b : List UInt8) (x y : Option α) : tb (a == b) x y = if a = b then x else y := by
  by_cases h : a = b
  · rw [if_pos h]; exact tb_pos (beq_iff_eq.2 h)
  · rw [if_neg h]; exact tb_neg (beq_eq_false_iff_ne.2 h)
theorem iWithin_eq (n lo hi : Int) : iWithin n lo hi = some (decide (lo ≤ n ∧ n ≤ hi)) := by
  unfold iWithin
  rw [tb_dec]
  by_cases h : n ≥ lo
  · rw [if_pos h]; congr 1; exact decide_eq_decide.2 ⟨fun q => ⟨h, q⟩, fun q => q.2⟩
  · rw [if_neg h]; congr 1; symm; rw [decide_eq_false_iff_not]; exact fun q => h q.1
theorem key_i (c : Ce) {α : Type} (x y : Option α) : (if 0 ≤ c.kind ∧ c.kind ≤ 2 then (if 0 ≤ c.gen ∧ c.gen ≤ 2147483647 then (if c.kind = 2 then x else if pad 32 c.d = List.replicate 32 0 then x else y) else y) else y) = if CkC c then x else y := by
  by_cases h1 : 0 ≤ c.kind ∧ c.kind ≤ 2
  case neg => rw [if_neg h1, if_neg fun q : CkC c => h1 ⟨q.1, q.2.1⟩]
  by_cases h2 : 0 ≤ c.gen ∧ c.gen ≤ 2147483647
  case neg => rw [if_pos h1, if_neg h2, if_neg fun q : CkC c => h2 ⟨q.2.2.1, q.2.2.2.1⟩]
  rw [if_pos h1, if_pos h2]
  by_cases h3 : c.kind = 2
  · rw [if_pos h3, if_pos (show CkC c from ⟨h1.1, h1.2, h2.1, h2.2, fun q => absurd h3 q⟩)]
  rw [if_neg h3]
  by_cases h4 : pad 32 c.d = List.replicate 32 0
  · rw [if_pos h4, if_pos (show CkC c from ⟨h1.1, h1.2, h2.1, h2.2, fun _ => h4⟩)]
  · rw [if_neg h4, if_neg fun q : CkC c => h4 (q.2.2.2.2 h3)]
theorem key_r (c : Ce) {α : Type} (x y : Option α) : (if c.kind < 0 then y else if c.kind > 2 then y else if c.gen < 0 then y else if c.gen ≥ 2147483648 then y else if c.kind = 2 then x else if pad 32 c.d = List.replicate 32 0 then x else y) = if CkC c then x else y := by
  rw [← key_i]
  by_cases h1 : c.kind < 0
  · rw [if_pos h1, if_neg (by omega)]
  by_cases h2 : c.kind > 2
  · rw [if_neg h1, if_pos h2, if_neg (by omega)]
  by_cases h3 : c.gen < 0
  · rw [if_neg h1, if_neg h2, if_pos h3, if_pos (show 0 ≤ c.kind ∧ c.kind ≤ 2 by omega), if_neg (show ¬ (0 ≤ c.gen ∧ c.gen ≤ 2147483647) by omega)]
  by_cases h4 : c.gen ≥ 2147483648
  · rw [if_neg h1, if_neg h2, if_neg h3, if_pos h4, if_pos (show 0 ≤ c.kind ∧ c.kind ≤ 2 by omega), if_neg (show ¬ (0 ≤ c.gen ∧ c.gen ≤ 2147483647) by omega)]
  rw [if_neg h1, if_neg h2, if_neg h3, if_neg h4, if_pos (show 0 ≤ c.kind ∧ c.kind ≤ 2 by omega), if_pos (show 0 ≤ c.gen ∧ c.gen ≤ 2147483647 by omega)]
theorem iCheck_eq (l : List Ce) (hl : l.length ≤ 4294967296) : iCheck l = some (decide (CkI l)) := by
  unfold iCheck
  rw [iWithin_eq, tc_some, tb_dec]
  by_cases h1 : (1 : Int) ≤ l.length ∧ (l.length : Int) ≤ 64
  case neg => rw [if_neg h1]; congr 1; symm; rw [decide_eq_false_iff_not]; rintro ⟨q1, q2, _⟩; exact h1 (by omega)
  rw [if_pos h1]
  rw [th_all (some false) (some true) l.length (fun i => CkC (ceAt l i)) (∀ c ∈ l, CkC c) (ceAt_all l CkC)]
  · by_cases h : ∀ c ∈ l, CkC c
    · rw [if_pos h]; congr 1; symm; rw [decide_eq_true_iff]; exact ⟨by omega, by omega, h⟩
    · rw [if_neg h]; congr 1; symm; rw [decide_eq_false_iff_not]; exact fun q => h q.2.2
  · intro i hi hp
    unfold iCheck_L0_step
    simp only [iWithin_eq, tc_some, tb_not, tb_dec, tb_bne, tb_lb, u8z, ceAt_one, Int.toNat_natCast]
    rw [if_pos (by omega), tp_pos (by omega), key_i, if_pos hp, wr_id (by omega) (by omega)]
  · intro i hi hp
    unfold iCheck_L0_step
    simp only [iWithin_eq, tc_some, tb_not, tb_dec, tb_bne, tb_lb, u8z, ceAt_one, Int.toNat_natCast]
    refine ⟨by rw [if_pos (by omega), tp_pos (by omega), key_i, if_neg hp], ?_⟩
    rw [if_pos (by omega), tp_pos (by omega), key_i, if_neg hp, decide_eq_true (by omega)]; rfl
  · unfold iCheck_L0_step
    simp only [tb_dec]
    rw [if_neg (by omega), if_neg (by omega)]
    exact ⟨rfl, rfl⟩
theorem r9Check_eq (l : List Ce) (hl : l.length ≤ 4294967296) : r9Check l = some (decide (CkI l)) := by
  unfold r9Check
  simp only [tb_dec]
  by_cases h1 : (l.length : Int) < 1
  · rw [if_pos h1]; congr 1; symm; rw [decide_eq_false_iff_not]; rintro ⟨q1, q2, _⟩; omega
  by_cases h2 : (l.length : Int) > 64
  · rw [if_neg h1, if_pos h2]; congr 1; symm; rw [decide_eq_false_iff_not]; rintro ⟨q1, q2, _⟩; omega
  rw [if_neg h1, if_neg h2]
  rw [th_all (some false) (some true) l.length (fun i => CkC (ceAt l i)) (∀ c ∈ l, CkC c) (ceAt_all l CkC)]
  · by_cases h : ∀ c ∈ l, CkC c
    · rw [if_pos h]; congr 1; symm; rw [decide_eq_true_iff]; exact ⟨by omega, by omega, h⟩
    · rw [if_neg h]; congr 1; symm; rw [decide_eq_false_iff_not]; exact fun q => h q.2.2
  · intro i hi hp
    unfold r9Check_L0_step
    simp only [tc_some, tb_not, tb_dec, tb_bne, tb_lb, u8z, ceAt_one, Int.toNat_natCast]
    rw [if_pos (by omega), tp_pos (by omega), key_r, if_pos hp, wr_id (by omega) (by omega)]
  · intro i hi hp
    unfold r9Check_L0_step
    simp only [tc_some, tb_not, tb_dec, tb_bne, tb_lb, u8z, ceAt_one, Int.toNat_natCast]
    refine ⟨by rw [if_pos (by omega), tp_pos (by omega), key_r, if_neg hp], ?_⟩
    rw [if_pos (by omega), tp_pos (by omega), key_r, if_neg hp]
  · unfold r9Check_L0_step
    simp only [tb_dec]
    rw [if_neg (by omega), if_neg (by omega)]
    exact ⟨rfl, rfl⟩
/-- A block with just as many bytes as one has. -/
def cn (c : Ce) : Ce := ⟨c.kind, c.gen, pad 32 c.d⟩
theorem all_eq {α β : Type} (d : α) (f : α → β) (a b : List α) (h : a.length = b.length) : (∀ i, i < a.length → f (a.getD i d) = f (b.getD i d)) ↔ a.map f = b.map f := by
  constructor
  · intro g
    refine List.ext_getElem (by simp [h]) fun i h1 h2 => ?_
    simp only [List.length_map] at h1 h2
    have := g i h1
    simp only [List.getElem_map]
    simpa [h1, h2] using this
  · intro g i hi
    have : (a.map f)[i]? = (b.map f)[i]? := by rw [g]
    rw [List.getElem?_map, List.getElem?_map, List.getElem?_eq_getElem hi, List.getElem?_eq_getElem (by omega)] at this
    simp only [Option.map_some, Option.some.injEq] at this
    simp only [List.getD_eq_getElem?_getD, List.getElem?_eq_getElem hi, List.getElem?_eq_getElem (show i < b.length by omega), Option.getD_some]
    exact this
theorem same_c (a b : Ce) {α : Type} (x y : Option α) : tb (a.kind == b.kind && (a.gen == b.gen && (pad 32 a.d == pad 32 b.d))) x y = if cn a = cn b then x else y := by
  by_cases h : cn a = cn b
  · rw [if_pos h]
    simp only [cn, Ce.mk.injEq] at h
    rw [h.1, h.2.1, h.2.2]; simp
  · rw [if_neg h]
    refine tb_neg ?_
    simp only [cn, Ce.mk.injEq] at h
    simp only [Bool.and_eq_false_iff, beq_eq_false_iff_ne, ne_eq]
    by_cases h1 : a.kind = b.kind
    · by_cases h2 : a.gen = b.gen
      · exact .inr (.inr fun h3 => h ⟨h1, h2, h3⟩)
      · exact .inr (.inl h2)
    · exact .inl h1
theorem r9Same_eq0 (a b : List Ce) (ha : a.length ≤ 4294967296) : r9Same a b = some (decide (a.map cn = b.map cn)) := by
  unfold r9Same
  rw [tb_bne]
  by_cases hl : (a.length : Int) = b.length
  case neg =>
    rw [if_neg hl]; congr 1; symm; rw [decide_eq_false_iff_not]
    intro h
    have := congrArg List.length h
    simp only [List.length_map] at this; omega
  rw [if_pos hl]
  have hl2 : a.length = b.length := by omega
  rw [th_all (some false) (some true) a.length (fun i => cn (ceAt a i) = cn (ceAt b i)) (a.map cn = b.map cn) (all_eq _ cn a b hl2)]
  · by_cases h : a.map cn = b.map cn
    · rw [if_pos h, decide_eq_true h]
    · rw [if_neg h, decide_eq_false h]
  · intro i hi hp
    unfold r9Same_L0_step
    simp only [tb_dec, tb_not, same_c, Int.toNat_natCast]
    rw [if_pos (by omega), tp_pos (by omega), tp_pos (by omega), if_pos hp, wr_id (by omega) (by omega)]
  · intro i hi hp
    unfold r9Same_L0_step
    simp only [tb_dec, tb_not, same_c, Int.toNat_natCast]
    refine ⟨by rw [if_pos (by omega), tp_pos (by omega), tp_pos (by omega), if_neg hp], ?_⟩
    rw [if_pos (by omega), tp_pos (by omega), if_neg hp]
  · unfold r9Same_L0_step
    simp only [tb_dec]
    rw [if_neg (by omega), if_neg (by omega)]
    exact ⟨rfl, rfl⟩
/-- What two blocks that are alike have. -/
def al (c : Ce) : Int × List UInt8 := (c.kind, pad 32 c.d)
theorem r9Alike_eq (a b : List Ce) (ha : a.length ≤ 4294967296) : r9Alike a b = some (decide (a.map al = b.map al)) := by
  unfold r9Alike
  rw [tb_bne]
  by_cases hl : (a.length : Int) = b.length
  case neg =>
    rw [if_neg hl]; congr 1; symm; rw [decide_eq_false_iff_not]
    intro h
    have := congrArg List.length h
    simp only [List.length_map] at this; omega
  rw [if_pos hl]
  have hl2 : a.length = b.length := by omega
  have hs : ∀ (c e : Ce) (x y : Option Int), (if c.kind = e.kind then (if pad 32 c.d = pad 32 e.d then x else y) else y) = if al c = al e then x else y := by
    intro c e x y
    simp only [al, Prod.mk.injEq]
    by_cases g1 : c.kind = e.kind <;> by_cases g2 : pad 32 c.d = pad 32 e.d <;> simp [g1, g2]
  have hs2 : ∀ (c e : Ce) (x y : Option Bool), (if c.kind = e.kind then (if pad 32 c.d = pad 32 e.d then x else y) else y) = if al c = al e then x else y := by
    intro c e x y
    simp only [al, Prod.mk.injEq]
    by_cases g1 : c.kind = e.kind <;> by_cases g2 : pad 32 c.d = pad 32 e.d <;> simp [g1, g2]
  rw [th_all (some false) (some true) a.length (fun i => al (ceAt a i) = al (ceAt b i)) (a.map al = b.map al) (all_eq _ al a b hl2)]
  · by_cases h : a.map al = b.map al
    · rw [if_pos h, decide_eq_true h]
    · rw [if_neg h, decide_eq_false h]
  · intro i hi hp
    unfold r9Alike_L0_step
    simp only [tb_dec, tb_not, tb_bne, tb_lb, Int.toNat_natCast, hs, hs2]
    rw [if_pos (by omega), tp_pos (by omega), tp_pos (by omega), if_pos hp, wr_id (by omega) (by omega)]
  · intro i hi hp
    unfold r9Alike_L0_step
    simp only [tb_dec, tb_not, tb_bne, tb_lb, Int.toNat_natCast, hs, hs2]
    refine ⟨by rw [if_pos (by omega), tp_pos (by omega), tp_pos (by omega), if_neg hp], ?_⟩
    rw [if_pos (by omega), tp_pos (by omega), if_neg hp]
  · unfold r9Alike_L0_step
    simp only [tb_dec]
    rw [if_neg (by omega), if_neg (by omega)]
    exact ⟨rfl, rfl⟩
/-- Are so many blocks there? -/
def Fits (l : List Ce) (lba n : Int) : Prop := 0 ≤ lba ∧ lba ≤ l.length ∧ 1 ≤ n ∧ n ≤ l.length - lba
instance (l : List Ce) (lba n : Int) : Decidable (Fits l lba n) := by unfold Fits; infer_instance
end Ab
end Go.Proofs.Ytadipihpgcelmaa
