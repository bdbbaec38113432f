/- Functions, as they answer: printed by a program of this repo, out of the program's form; each with its proof. -/
import Derived.Test.YtphnpgdamacfmaaRows
import Derived.Test.YtphnpgdamacfmaaAbsY
import Derived.Test.YtphnpgdamacfmaaShr
import Derived.Test.YtphnpgdamacfmaaTab
import Derived.Test.YtphnpgdamacfmaaFnA
import Derived.Test.YtphnpgdamacfmaaFnB
import Derived.Test.YtphnpgdamacfmaaFnC
import Derived.Test.YtphnpgdamacfmaaFnD
import Derived.Test.YtphnpgdamacfmaaFnE
import Derived.Test.YtphnpgdamacfmaaFnAw
namespace Go.Proofs.Ytphnpgdamacfmaa
open Go Go.Proofs.Ytphnpgdamacfmaa.Ab
set_option linter.unusedVariables false
set_option linter.unusedSimpArgs false
set_option maxRecDepth 1000000
namespace Ab
noncomputable abbrev lExtmapBack_L0_I (blocks : Int) (l : List Ex) (gen : Int) (s0 : Bool) (s1 : Bool) (s3 : Bool) (s5 : List Ex × Int) : St := (St.mk [(0, (AV.i blocks)), (1, (AV.sl (List.length l) (List.flatMap Ex.cells l))), (2, (AV.i gen)), (6, (AV.b Bool.false)), (21, (AV.b s0)), (7, (AV.b s0)), (22, (AV.sl (List.length l) (List.flatMap Ex.cells l))), (23, (AV.b s1)), (24, (AV.b (!s1))), (25, (AV.b (!s1))), (26, (AV.i blocks)), (27, (AV.sl (List.length l) (List.flatMap Ex.cells l))), (28, (AV.b s3)), (29, (AV.b (!s3))), (30, (AV.b (!s3))), (33, (AV.i blocks)), (34, (AV.tu [(AV.sl (List.length s5.1) (List.flatMap Ex.cells s5.1)), (AV.i s5.2)])), (32, (AV.tu [(AV.sl (List.length s5.1) (List.flatMap Ex.cells s5.1)), (AV.i s5.2)])), (35, (AV.sl (List.length s5.1) (List.flatMap Ex.cells s5.1))), (36, (AV.i s5.2)), (8, (AV.sl (List.length s5.1) (List.flatMap Ex.cells s5.1))), (9, (AV.i s5.2)), (10, AV.nl), (11, (AV.i 0))] 114 (AH.mk 0 ([] : List (Prod Nat AObj))) Bool.false)
noncomputable abbrev lExtmapBack_L0_S (blocks : Int) (l : List Ex) (gen : Int) (s0 : Bool) (s1 : Bool) (s3 : Bool) (s5 : List Ex × Int) (s6 : List Ex × Int) : St := (St.mk [(0, (AV.i blocks)), (1, (AV.sl (List.length l) (List.flatMap Ex.cells l))), (2, (AV.i gen)), (6, (AV.b Bool.false)), (7, (AV.b s0)), (30, (AV.b (!s3))), (8, (AV.sl (List.length s5.1) (List.flatMap Ex.cells s5.1))), (10, (AV.rf 0 5 0 (List.length s6.1))), (11, (AV.i s6.2))] 114 (AH.mk 1 [(0, (AObj.cells (List.flatMap Ex.cells s6.1)))]) Bool.false)
noncomputable def lExtmapBack_L0_step (blocks : Int) (l : List Ex) (gen : Int) (s0 : Bool) (s1 : Bool) (s3 : Bool) (s5 : List Ex × Int) (s6 : List Ex × Int) : Option (List Ex × Int) :=
 (tb ((decide (s6.2 < (↑(List.length l) : Int))))
  (tp ((((0 : Int) ≤ (wr ((wr ((↑(List.length l) : Int) - (1 : Int))) - s6.2))) ∧ ((wr ((wr ((↑(List.length l) : Int) - (1 : Int))) - s6.2)) < (↑(List.length l) : Int))))
   (tp ((((List.length (List.flatMap Ex.cells s6.1)) = ((List.length s6.1) * (5 : Nat))) ∧ (((List.length s6.1) + (1 : Nat)) ≤ (4294967296 : Nat))))
    (some (((s6.1 ++ [(exAt l (Int.toNat (wr ((wr ((↑(List.length l) : Int) - (1 : Int))) - s6.2))))]), (wr (s6.2 + (1 : Int))))))))
  none /- exit -/)
theorem lExtmapBack_L0_s0 (blocks : Int) (l : List Ex) (gen : Int) (s0 : Bool) (s1 : Bool) (s3 : Bool) (s5 : List Ex × Int) (s6 : List Ex × Int) (h7 : ((decide (s6.2 < (↑(List.length l) : Int)))) = true) (h7p : (s6.2 < (↑(List.length l) : Int))) (h8 : (((0 : Int) ≤ (wr ((wr ((↑(List.length l) : Int) - (1 : Int))) - s6.2))) ∧ ((wr ((wr ((↑(List.length l) : Int) - (1 : Int))) - s6.2)) < (↑(List.length l) : Int)))) (h9 : (((List.length (List.flatMap Ex.cells s6.1)) = ((List.length s6.1) * (5 : Nat))) ∧ (((List.length s6.1) + (1 : Nat)) ≤ (4294967296 : Nat)))) : EvStep Try.prog cf 0 (lp Try.prog 6 0) (lExtmapBack_L0_S blocks l gen s0 s1 s3 s5 s6) (lExtmapBack_L0_S blocks l gen s0 s1 s3 s5 (((s6.1 ++ [(exAt l (Int.toNat (wr ((wr ((↑(List.length l) : Int) - (1 : Int))) - s6.2))))]), (wr (s6.2 + (1 : Int)))))) :=
  leafS vw_eq (k := 300) (r := []) (hs := hz [(4, [.yes]), (7, [.yes, .yes, .cells ((Ex.cells (exAt l (Int.toNat (wr ((wr ((↑(List.length l) : Int) - (1 : Int))) - s6.2))))))]), (1, [.yes, .yes]), (4, [])]) (st1 := (St.mk [(0, (AV.i blocks)), (1, (AV.sl (List.length l) (List.flatMap Ex.cells l))), (2, (AV.i gen)), (6, (AV.b Bool.false)), (7, (AV.b s0)), (30, (AV.b (!s3))), (8, (AV.sl (List.length s5.1) (List.flatMap Ex.cells s5.1))), (10, (AV.rf 2 5 0 ((List.length s6.1) + (1 : Nat)))), (11, (AV.i (wr (s6.2 + (1 : Int))))), (37, (AV.i s6.2)), (38, (AV.sl (List.length l) (List.flatMap Ex.cells l))), (39, (AV.i (↑(List.length l) : Int))), (40, (AV.b (decide (s6.2 < (↑(List.length l) : Int))))), (43, (AV.rf 0 5 0 (List.length s6.1))), (44, (AV.sl (List.length l) (List.flatMap Ex.cells l))), (45, (AV.sl (List.length l) (List.flatMap Ex.cells l))), (46, (AV.i (↑(List.length l) : Int))), (47, (AV.i (wr ((↑(List.length l) : Int) - (1 : Int))))), (48, (AV.i s6.2)), (49, (AV.i (wr ((wr ((↑(List.length l) : Int) - (1 : Int))) - s6.2)))), (50, (AV.ip (List.drop ((Int.toNat (wr ((wr ((↑(List.length l) : Int) - (1 : Int))) - s6.2))) * (5 : Nat)) (List.flatMap Ex.cells l)))), (51, (AV.ag [(AV.i (exAt l (Int.toNat (wr ((wr ((↑(List.length l) : Int) - (1 : Int))) - s6.2)))).lba), (AV.i (exAt l (Int.toNat (wr ((wr ((↑(List.length l) : Int) - (1 : Int))) - s6.2)))).len), (AV.i (exAt l (Int.toNat (wr ((wr ((↑(List.length l) : Int) - (1 : Int))) - s6.2)))).kind), (AV.i (exAt l (Int.toNat (wr ((wr ((↑(List.length l) : Int) - (1 : Int))) - s6.2)))).gen), (AV.sl (List.length (exAt l (Int.toNat (wr ((wr ((↑(List.length l) : Int) - (1 : Int))) - s6.2)))).d) (List.map AV.y (exAt l (Int.toNat (wr ((wr ((↑(List.length l) : Int) - (1 : Int))) - s6.2)))).d))])), (52, (AV.rf 1 5 0 1)), (53, (AV.rf 2 5 0 ((List.length s6.1) + (1 : Nat)))), (41, (AV.i s6.2)), (42, (AV.i (wr (s6.2 + (1 : Int)))))] 114 (AH.mk 3 [(2, (AObj.cells ((List.flatMap Ex.cells s6.1) ++ [(AV.i (exAt l (Int.toNat (wr ((wr ((↑(List.length l) : Int) - (1 : Int))) - s6.2)))).lba), (AV.i (exAt l (Int.toNat (wr ((wr ((↑(List.length l) : Int) - (1 : Int))) - s6.2)))).len), (AV.i (exAt l (Int.toNat (wr ((wr ((↑(List.length l) : Int) - (1 : Int))) - s6.2)))).kind), (AV.i (exAt l (Int.toNat (wr ((wr ((↑(List.length l) : Int) - (1 : Int))) - s6.2)))).gen), (AV.sl (List.length (exAt l (Int.toNat (wr ((wr ((↑(List.length l) : Int) - (1 : Int))) - s6.2)))).d) (List.map AV.y (exAt l (Int.toNat (wr ((wr ((↑(List.length l) : Int) - (1 : Int))) - s6.2)))).d))]))), (1, (AObj.cells [(AV.i (exAt l (Int.toNat (wr ((wr ((↑(List.length l) : Int) - (1 : Int))) - s6.2)))).lba), (AV.i (exAt l (Int.toNat (wr ((wr ((↑(List.length l) : Int) - (1 : Int))) - s6.2)))).len), (AV.i (exAt l (Int.toNat (wr ((wr ((↑(List.length l) : Int) - (1 : Int))) - s6.2)))).kind), (AV.i (exAt l (Int.toNat (wr ((wr ((↑(List.length l) : Int) - (1 : Int))) - s6.2)))).gen), (AV.sl (List.length (exAt l (Int.toNat (wr ((wr ((↑(List.length l) : Int) - (1 : Int))) - s6.2)))).d) (List.map AV.y (exAt l (Int.toNat (wr ((wr ((↑(List.length l) : Int) - (1 : Int))) - s6.2)))).d))])), (0, AObj.dead)]) Bool.false)) (ps := [((decide (s6.2 < (↑(List.length l) : Int)))) = true, (((0 : Int) ≤ (wr ((wr ((↑(List.length l) : Int) - (1 : Int))) - s6.2))) ∧ ((wr ((wr ((↑(List.length l) : Int) - (1 : Int))) - s6.2)) < (↑(List.length l) : Int))), ((5 : Nat) ≤ (List.length (List.drop ((Int.toNat (wr ((wr ((↑(List.length l) : Int) - (1 : Int))) - s6.2))) * (5 : Nat)) (List.flatMap Ex.cells l)))), (List.take 5 (List.drop ((Int.toNat (wr ((wr ((↑(List.length l) : Int) - (1 : Int))) - s6.2))) * (5 : Nat)) (List.flatMap Ex.cells l))) = (Ex.cells (exAt l (Int.toNat (wr ((wr ((↑(List.length l) : Int) - (1 : Int))) - s6.2))))), (((0 : Nat) = (0 : Nat)) ∧ ((List.length [(AV.i (exAt l (Int.toNat (wr ((wr ((↑(List.length l) : Int) - (1 : Int))) - s6.2)))).lba), (AV.i (exAt l (Int.toNat (wr ((wr ((↑(List.length l) : Int) - (1 : Int))) - s6.2)))).len), (AV.i (exAt l (Int.toNat (wr ((wr ((↑(List.length l) : Int) - (1 : Int))) - s6.2)))).kind), (AV.i (exAt l (Int.toNat (wr ((wr ((↑(List.length l) : Int) - (1 : Int))) - s6.2)))).gen), (AV.sl (List.length (exAt l (Int.toNat (wr ((wr ((↑(List.length l) : Int) - (1 : Int))) - s6.2)))).d) (List.map AV.y (exAt l (Int.toNat (wr ((wr ((↑(List.length l) : Int) - (1 : Int))) - s6.2)))).d))]) = (5 : Nat))), (((List.length (List.flatMap Ex.cells s6.1)) = ((List.length s6.1) * (5 : Nat))) ∧ (((List.length s6.1) + (1 : Nat)) ≤ (4294967296 : Nat)))]) kq ⟨h7, h8, fq, (by first | exact ex_take _ _ bq | (simpa using ex_take _ _ bq) | ((try simp only [List.drop_drop]); rw [show ((Int.toNat (wr ((wr ((↑(List.length l) : Int) - (1 : Int))) - s6.2))) * (5 : Nat)) = ((Int.toNat (wr ((wr ((↑(List.length l) : Int) - (1 : Int))) - s6.2)))) * 5 by omega]; exact ex_take _ _ bq)), tq, h9, trivial⟩ (Nat.le_of_ble_eq_true rfl) (absB_of [2] [] kq (.consn kq (.eqv tq rfl) (.consn kq (.eqv tq rfl) (.consn kq (.eqv tq rfl) (.consn kq (.eqv tq rfl) (.consn kq (.eqv tq rfl) (.consn kq (.eqv tq rfl) (.consn kq (.eqv tq rfl) (.consn kq (.rfn (n := ((List.length s6.1) + (1 : Nat))) rfl tq) (.consn kq (.eqv tq rfl) .nil))))))))) (.cons (.old rfl rfl (.cells (.pl tq pq))) .nil))
theorem lExtmapBack_L0_ok (blocks : Int) (l : List Ex) (gen : Int) (s0 : Bool) (s1 : Bool) (s3 : Bool) (s5 : List Ex × Int) (s6 zz : List Ex × Int) : lExtmapBack_L0_step blocks l gen s0 s1 s3 s5 s6 = some zz → EvStep Try.prog cf 0 (lp Try.prog 6 0) (lExtmapBack_L0_S blocks l gen s0 s1 s3 s5 s6) (lExtmapBack_L0_S blocks l gen s0 s1 s3 s5 zz) := by
  unfold lExtmapBack_L0_step
  refine tb_ok (fun h7 => ?_) (fun h7 => ?_)
  ·
    have h7p := of_decide_eq_true h7
    refine tp_ok (fun h8 => ?_)
    refine tp_ok (fun h9 => ?_)
    exact fun e => tl_ok (G := (fun zz => EvStep Try.prog cf 0 (lp Try.prog 6 0) (lExtmapBack_L0_S blocks l gen s0 s1 s3 s5 s6) (lExtmapBack_L0_S blocks l gen s0 s1 s3 s5 zz))) (lExtmapBack_L0_s0 blocks l gen s0 s1 s3 s5 s6 h7 h7p h8 h9) e
  ·
    have h7p := of_decide_eq_false h7
    exact fun e => nomatch e
/-- Function 6, as it answers. -/
noncomputable def lExtmapBack (blocks : Int) (l : List Ex) (gen : Int) : Option (Bool) :=
 (tc (aw8) fun s0 =>
  (tc (few (l)) fun s1 =>
   (tb ((!s1))
    (some (s0))
    (tc (mCheck (blocks) (l)) fun s3 =>
     (tb ((!s3))
      (some (s0))
      (tc (mNew (blocks)) fun s5 =>
       (th (lExtmapBack_L0_step blocks l gen s0 s1 s3 s5) ((([] : List Ex), (0 : Int))) fun s6 =>
        (tb ((decide (s6.2 < (↑(List.length l) : Int))))
         none /- stop behind an operation -/
         (tp ((((0 : Nat) = (0 : Nat)) ∧ ((List.length (List.flatMap Ex.cells s6.1)) = ((List.length s6.1) * (5 : Nat)))))
          (tc (mLay (blocks) (s5.1) (s6.1)) fun s9 =>
           (tc (mSince (blocks) (l) (gen)) fun s10 =>
            (tc (mSince (blocks) (l) ((-(1 : Int)))) fun s11 =>
             (tc (mLay (blocks) (l) (s10.1)) fun s12 =>
              (tc (r7All (s9.1) (l)) fun s13 =>
               (tb (s13)
                (tc (r7All (s12.1) (l)) fun s15 =>
                 (tb (s15)
                  (tc (r7All (s11.1) (l)) fun s17 =>
                   (tb (s0)
                    (tb (s17)
                     (tb ((s9.2 == (0 : Int)))
                      (tb ((s10.2 == (0 : Int)))
                       (tb ((s11.2 == (0 : Int)))
                        (some ((s12.2 == (0 : Int))))
                        none /- false -/)
                       none /- false -/)
                      none /- false -/)
                     none /- false -/)
                    none /- false -/))
                  none /- false -/))
                none /- false -/)))))))))))))))
abbrev lExtmapBack_G (blocks : Int) (l : List Ex) (gen : Int) (r : Bool) : Prop := EvFr Try.prog cf false 6 [.i (blocks), exs (l), .i (gen)] (.b (r))
theorem lExtmapBack_l0 (blocks : Int) (l : List Ex) (gen : Int) (s0 : Bool) (h0 : aw8 = some s0) (s1 : Bool) (h1 : few (l) = some s1) (h2 : ((!s1)) = true) : lExtmapBack_G blocks l gen (s0) :=
  leafR vw_eq (k := 300) (r := []) (hs := hz [(2, [.fres (.b (s0))]), (3, [.fres (.b (s1))]), (2, [.yes, .yes, .yes, .yes, .yes]), (3, [])]) (raw := (AV.b s0)) (ps := [EvFr Try.prog cf Bool.false 9 ([] : List AV) (.b (s0)), EvFr Try.prog cf Bool.false 10 [(AV.sl (List.length l) (List.flatMap Ex.cells l))] (.b (s1)), ((!s1)) = true, ((!s1)) = true, ((!s1)) = true, ((!s1)) = true, ((!s1)) = true]) kq ⟨((aw8_ok  _ h0).any.cast tq), ((few_ok (l) _ h1).any.cast tq), h2, h2, h2, h2, h2, trivial⟩ tq
theorem lExtmapBack_l1 (blocks : Int) (l : List Ex) (gen : Int) (s0 : Bool) (h0 : aw8 = some s0) (s1 : Bool) (h1 : few (l) = some s1) (h2 : ((!s1)) = false) (s3 : Bool) (h3 : mCheck (blocks) (l) = some s3) (h4 : ((!s3)) = true) : lExtmapBack_G blocks l gen (s0) :=
  leafR vw_eq (k := 300) (r := []) (hs := hz [(2, [.fres (.b (s0))]), (3, [.fres (.b (s1))]), (2, [.no]), (1, [.no]), (1, [.no]), (1, [.fres (.b (s3)), .no]), (1, [.no, .yes]), (2, [])]) (raw := (AV.b s0)) (ps := [EvFr Try.prog cf Bool.false 9 ([] : List AV) (.b (s0)), EvFr Try.prog cf Bool.false 10 [(AV.sl (List.length l) (List.flatMap Ex.cells l))] (.b (s1)), ((!s1)) = false, ((!s1)) = false, ((!s1)) = false, EvFr Try.prog cf Bool.false 21 [(AV.i blocks), (AV.sl (List.length l) (List.flatMap Ex.cells l))] (.b (s3)), ((!s1)) = false, ((!s1)) = false, ((!s3)) = true]) kq ⟨((aw8_ok  _ h0).any.cast tq), ((few_ok (l) _ h1).any.cast tq), h2, h2, h2, ((mCheck_ok (blocks) (l) _ h3).any.cast tq), h2, h2, h4, trivial⟩ tq
theorem lExtmapBack_l2 (blocks : Int) (l : List Ex) (gen : Int) (s0 : Bool) (h0 : aw8 = some s0) (s1 : Bool) (h1 : few (l) = some s1) (h2 : ((!s1)) = false) (s3 : Bool) (h3 : mCheck (blocks) (l) = some s3) (h4 : ((!s3)) = false) (s5 : List Ex × Int) (h5 : mNew (blocks) = some s5) (s6 : List Ex × Int) (h6 : Runs (lExtmapBack_L0_step blocks l gen s0 s1 s3 s5) ((([] : List Ex), (0 : Int))) s6) (h7 : ((decide (s6.2 < (↑(List.length l) : Int)))) = false) (h7p : ¬ (s6.2 < (↑(List.length l) : Int))) (h8 : (((0 : Nat) = (0 : Nat)) ∧ ((List.length (List.flatMap Ex.cells s6.1)) = ((List.length s6.1) * (5 : Nat))))) (s9 : List Ex × Int) (h9 : mLay (blocks) (s5.1) (s6.1) = some s9) (s10 : List Ex × Int) (h10 : mSince (blocks) (l) (gen) = some s10) (s11 : List Ex × Int) (h11 : mSince (blocks) (l) ((-(1 : Int))) = some s11) (s12 : List Ex × Int) (h12 : mLay (blocks) (l) (s10.1) = some s12) (s13 : Bool) (h13 : r7All (s9.1) (l) = some s13) (h14 : (s13) = true) (s15 : Bool) (h15 : r7All (s12.1) (l) = some s15) (h16 : (s15) = true) (s17 : Bool) (h17 : r7All (s11.1) (l) = some s17) (h18 : (s0) = true) (h19 : (s17) = true) (h20 : ((s9.2 == (0 : Int))) = true) (h20p : (s9.2 = (0 : Int))) (h21 : ((s10.2 == (0 : Int))) = true) (h21p : (s10.2 = (0 : Int))) (h22 : ((s11.2 == (0 : Int))) = true) (h22p : (s11.2 = (0 : Int))) : lExtmapBack_G blocks l gen ((s12.2 == (0 : Int))) :=
  leafR vw_eq (k := 300) (r := []) (hs := hz [(2, [.fres (.b (s0))]), (3, [.fres (.b (s1))]), (2, [.no]), (1, [.no]), (1, [.no]), (1, [.fres (.b (s3)), .no]), (1, [.no, .no]), (2, [.fres (.tu [exs (s5.1), .i (s5.2)])]), (7, [.head (lExtmapBack_L0_S blocks l gen s0 s1 s3 s5 s6)]), (4, [.no]), (4, [.yes, .yes, .fres (.tu [exs (s9.1), .i (s9.2)])]), (9, [.fres (.tu [exs (s10.1), .i (s10.2)])]), (8, [.fres (.tu [exs (s11.1), .i (s11.2)])]), (9, [.fres (.tu [exs (s12.1), .i (s12.2)])]), (8, [.fres (.b (s13))]), (1, [.yes]), (1, [.yes]), (1, [.yes]), (1, [.fres (.b (s15)), .yes]), (1, [.yes]), (1, [.yes]), (1, [.yes]), (1, [.fres (.b (s17)), .yes]), (3, [.yes]), (1, [.yes]), (1, [.yes]), (1, [.yes]), (1, [.yes]), (1, [.yes]), (1, [.yes]), (1, [.yes]), (1, [.yes]), (1, [.yes]), (1, [.yes]), (1, [.yes]), (1, [.yes]), (1, [.yes]), (1, [])]) (raw := (AV.b (s12.2 == (0 : Int)))) (ps := [EvFr Try.prog cf Bool.false 9 ([] : List AV) (.b (s0)), EvFr Try.prog cf Bool.false 10 [(AV.sl (List.length l) (List.flatMap Ex.cells l))] (.b (s1)), ((!s1)) = false, ((!s1)) = false, ((!s1)) = false, EvFr Try.prog cf Bool.false 21 [(AV.i blocks), (AV.sl (List.length l) (List.flatMap Ex.cells l))] (.b (s3)), ((!s1)) = false, ((!s1)) = false, ((!s3)) = false, EvFr Try.prog cf Bool.false 18 [(AV.i blocks)] (.tu [exs (s5.1), .i (s5.2)]), EvHead Try.prog cf (lp Try.prog 6 0) (lExtmapBack_L0_I blocks l gen s0 s1 s3 s5) (lExtmapBack_L0_S blocks l gen s0 s1 s3 s5 s6), ((decide (s6.2 < (↑(List.length l) : Int)))) = false, (((0 : Nat) = (0 : Nat)) ∧ ((List.length (List.flatMap Ex.cells s6.1)) = ((List.length s6.1) * (5 : Nat)))), Pl Bool.false ((List.flatMap Ex.cells s6.1)), EvFr Try.prog cf Bool.false 23 [(AV.i blocks), (AV.sl (List.length s5.1) (List.flatMap Ex.cells s5.1)), (AV.sl (List.length s6.1) (List.flatMap Ex.cells s6.1))] (.tu [exs (s9.1), .i (s9.2)]), EvFr Try.prog cf Bool.false 13 [(AV.i blocks), (AV.sl (List.length l) (List.flatMap Ex.cells l)), (AV.i gen)] (.tu [exs (s10.1), .i (s10.2)]), EvFr Try.prog cf Bool.false 13 [(AV.i blocks), (AV.sl (List.length l) (List.flatMap Ex.cells l)), (AV.i (-(1 : Int)))] (.tu [exs (s11.1), .i (s11.2)]), EvFr Try.prog cf Bool.false 23 [(AV.i blocks), (AV.sl (List.length l) (List.flatMap Ex.cells l)), (AV.sl (List.length s10.1) (List.flatMap Ex.cells s10.1))] (.tu [exs (s12.1), .i (s12.2)]), EvFr Try.prog cf Bool.false 15 [(AV.sl (List.length s9.1) (List.flatMap Ex.cells s9.1)), (AV.sl (List.length l) (List.flatMap Ex.cells l))] (.b (s13)), (s13) = true, (s13) = true, (s13) = true, EvFr Try.prog cf Bool.false 15 [(AV.sl (List.length s12.1) (List.flatMap Ex.cells s12.1)), (AV.sl (List.length l) (List.flatMap Ex.cells l))] (.b (s15)), (s13) = true, (s15) = true, (s15) = true, (s15) = true, EvFr Try.prog cf Bool.false 15 [(AV.sl (List.length s11.1) (List.flatMap Ex.cells s11.1)), (AV.sl (List.length l) (List.flatMap Ex.cells l))] (.b (s17)), (s15) = true, (s0) = true, (s0) = true, (s17) = true, (s17) = true, (s17) = true, ((s9.2 == (0 : Int))) = true, ((s9.2 == (0 : Int))) = true, ((s9.2 == (0 : Int))) = true, ((s10.2 == (0 : Int))) = true, ((s10.2 == (0 : Int))) = true, ((s10.2 == (0 : Int))) = true, ((s11.2 == (0 : Int))) = true, ((s11.2 == (0 : Int))) = true, ((s11.2 == (0 : Int))) = true]) kq ⟨((aw8_ok  _ h0).any.cast tq), ((few_ok (l) _ h1).any.cast tq), h2, h2, h2, ((mCheck_ok (blocks) (l) _ h3).any.cast tq), h2, h2, h4, ((mNew_ok (blocks) _ h5).cast tq), (EvHead.of (lExtmapBack_L0_ok blocks l gen s0 s1 s3 s5) (absB_of [0] [] kq (.consn kq (.eqv tq rfl) (.consn kq (.eqv tq rfl) (.consn kq (.eqv tq rfl) (.consn kq (.eqv tq rfl) (.consn kq (.eqv tq rfl) (.consn kq (.eqv tq rfl) (.consn kq (.eqv tq rfl) (.consn kq (.nln tq) (.consn kq (.eqv tq rfl) .nil))))))))) (.cons (.none rfl (Nat.le_refl _) rfl) .nil)) h6), h7, h8, pq, ((mLay_ok (blocks) (s5.1) (s6.1) _ h9).cast tq), ((mSince_ok (blocks) (l) (gen) _ h10).cast tq), ((mSince_ok (blocks) (l) ((-(1 : Int))) _ h11).cast tq), ((mLay_ok (blocks) (l) (s10.1) _ h12).cast tq), ((r7All_ok (s9.1) (l) _ h13).any.cast tq), h14, h14, h14, ((r7All_ok (s12.1) (l) _ h15).any.cast tq), h14, h16, h16, h16, ((r7All_ok (s11.1) (l) _ h17).any.cast tq), h16, h18, h18, h19, h19, h19, h20, h20, h20, h21, h21, h21, h22, h22, h22, trivial⟩ tq
theorem lExtmapBack_ok (blocks : Int) (l : List Ex) (gen : Int) (r : Bool) : lExtmapBack blocks l gen = some r → lExtmapBack_G blocks l gen r := by
  unfold lExtmapBack
  refine tc_ok (fun s0 h0 => ?_)
  refine tc_ok (fun s1 h1 => ?_)
  refine tb_ok (fun h2 => ?_) (fun h2 => ?_)
  ·
    exact fun e => tl_ok (G := lExtmapBack_G blocks l gen) (lExtmapBack_l0 blocks l gen s0 h0 s1 h1 h2) e
  ·
    refine tc_ok (fun s3 h3 => ?_)
    refine tb_ok (fun h4 => ?_) (fun h4 => ?_)
    ·
      exact fun e => tl_ok (G := lExtmapBack_G blocks l gen) (lExtmapBack_l1 blocks l gen s0 h0 s1 h1 h2 s3 h3 h4) e
    ·
      refine tc_ok (fun s5 h5 => ?_)
      refine th_ok (fun s6 h6 => ?_)
      refine tb_ok (fun h7 => ?_) (fun h7 => ?_)
      ·
        have h7p := of_decide_eq_true h7
        exact fun e => nomatch e
      ·
        have h7p := of_decide_eq_false h7
        refine tp_ok (fun h8 => ?_)
        refine tc_ok (fun s9 h9 => ?_)
        refine tc_ok (fun s10 h10 => ?_)
        refine tc_ok (fun s11 h11 => ?_)
        refine tc_ok (fun s12 h12 => ?_)
        refine tc_ok (fun s13 h13 => ?_)
        refine tb_ok (fun h14 => ?_) (fun h14 => ?_)
        ·
          refine tc_ok (fun s15 h15 => ?_)
          refine tb_ok (fun h16 => ?_) (fun h16 => ?_)
          ·
            refine tc_ok (fun s17 h17 => ?_)
            refine tb_ok (fun h18 => ?_) (fun h18 => ?_)
            ·
              refine tb_ok (fun h19 => ?_) (fun h19 => ?_)
              ·
                refine tb_ok (fun h20 => ?_) (fun h20 => ?_)
                ·
                  have h20p := eq_of_beq h20
                  refine tb_ok (fun h21 => ?_) (fun h21 => ?_)
                  ·
                    have h21p := eq_of_beq h21
                    refine tb_ok (fun h22 => ?_) (fun h22 => ?_)
                    ·
                      have h22p := eq_of_beq h22
                      exact fun e => tl_ok (G := lExtmapBack_G blocks l gen) (lExtmapBack_l2 blocks l gen s0 h0 s1 h1 h2 s3 h3 h4 s5 h5 s6 h6 h7 h7p h8 s9 h9 s10 h10 s11 h11 s12 h12 s13 h13 h14 s15 h15 h16 s17 h17 h18 h19 h20 h20p h21 h21p h22 h22p) e
                    ·
                      have h22p := ne_of_beq_false h22
                      exact fun e => nomatch e
                  ·
                    have h21p := ne_of_beq_false h21
                    exact fun e => nomatch e
                ·
                  have h20p := ne_of_beq_false h20
                  exact fun e => nomatch e
              ·
                exact fun e => nomatch e
            ·
              exact fun e => nomatch e
          ·
            exact fun e => nomatch e
        ·
          exact fun e => nomatch e
end Ab
end Go.Proofs.Ytphnpgdamacfmaa
