/- Functions, as they answer: printed by a program of this repo, out of the program's form; each with its proof. -/
import Derived.Test.YtphnpgdamacfmaaRows
import Derived.Test.YtphnpgdamacfmaaAbsY
import Derived.Test.YtphnpgdamacfmaaShr
import Derived.Test.YtphnpgdamacfmaaTab
import Derived.Test.YtphnpgdamacfmaaFnA
import Derived.Test.YtphnpgdamacfmaaFnB
import Derived.Test.YtphnpgdamacfmaaFnC
import Derived.Test.YtphnpgdamacfmaaFnD
namespace Go.Proofs.Ytphnpgdamacfmaa
open Go Go.Proofs.Ytphnpgdamacfmaa.Ab
set_option linter.unusedVariables false
set_option linter.unusedSimpArgs false
set_option maxRecDepth 1000000
namespace Ab
noncomputable abbrev mLay_G0_I (blocks : Int) (l : List Ex) (over_ : List Ex) (s0 : Bool) (s2 : List Ex) (s4 : List Ex × Int) : St := (St.mk [(0, (AV.i blocks)), (1, (AV.sl (List.length l) (List.flatMap Ex.cells l))), (2, (AV.sl (List.length over_) (List.flatMap Ex.cells over_))), (6, AV.nl), (7, (AV.i 0)), (12, (AV.i blocks)), (13, (AV.sl (List.length l) (List.flatMap Ex.cells l))), (14, (AV.b s0)), (15, (AV.b (!s0))), (16, (AV.sl (List.length l) (List.flatMap Ex.cells l))), (17, (AV.sl (List.length s2) (List.flatMap Ex.cells s2))), (8, (AV.sl (List.length s4.1) (List.flatMap Ex.cells s4.1))), (9, (AV.i 1)), (18, (AV.i 0)), (19, (AV.sl (List.length over_) (List.flatMap Ex.cells over_))), (20, (AV.i (↑(List.length over_) : Int))), (21, (AV.b ((0 : Int) == (↑(List.length over_) : Int)))), (24, (AV.i blocks)), (25, (AV.sl (List.length s2) (List.flatMap Ex.cells s2))), (26, (AV.sl (List.length over_) (List.flatMap Ex.cells over_))), (27, (AV.i 0)), (28, (AV.ip (List.drop 0 (List.flatMap Ex.cells over_)))), (29, (AV.ag (xc (exAt over_ 0)))), (30, (AV.tu [(AV.sl (List.length s4.1) (List.flatMap Ex.cells s4.1)), (AV.i s4.2)])), (23, (AV.tu [(AV.sl (List.length s4.1) (List.flatMap Ex.cells s4.1)), (AV.i s4.2)])), (31, (AV.sl (List.length s4.1) (List.flatMap Ex.cells s4.1))), (32, (AV.i s4.2)), (10, (AV.sl (List.length s4.1) (List.flatMap Ex.cells s4.1))), (11, (AV.i s4.2)), (33, (AV.i s4.2)), (34, (AV.b (s4.2 != (0 : Int)))), (38, (AV.sl (List.length s4.1) (List.flatMap Ex.cells s4.1))), (39, (AV.i 0)), (40, (AV.i 1))] 41 (AH.mk 0 ([] : List (Prod Nat AObj))) Bool.false)
noncomputable abbrev mLay_G0_S (blocks : Int) (l : List Ex) (over_ : List Ex) (s0 : Bool) (s2 : List Ex) (s4 : List Ex × Int) (s6 : List Ex × Int) : St := (St.mk [(0, (AV.i blocks)), (1, (AV.sl (List.length l) (List.flatMap Ex.cells l))), (2, (AV.sl (List.length over_) (List.flatMap Ex.cells over_))), (15, (AV.b (!s0))), (8, (exs s6.1)), (9, (AV.i s6.2))] 41 (AH.mk 0 ([] : List (Prod Nat AObj))) Bool.false)
noncomputable def mLay_G0_step (blocks : Int) (l : List Ex) (over_ : List Ex) (s0 : Bool) (s2 : List Ex) (s4 : List Ex × Int) (s6 : List Ex × Int) : Option (List Ex × Int) :=
 (tb ((s6.2 == (↑(List.length over_) : Int)))
  none /- exit -/
  (tp ((((0 : Int) ≤ s6.2) ∧ (s6.2 < (↑(List.length over_) : Int))))
   (tc (mPut (blocks) (s6.1) ((exAt over_ (Int.toNat s6.2)))) fun s9 =>
    (tb ((s9.2 != (0 : Int)))
     none /- exit -/
     (some ((s9.1, (wr (s6.2 + (1 : Int))))))))))
theorem mLay_G0_s0 (blocks : Int) (l : List Ex) (over_ : List Ex) (s0 : Bool) (s2 : List Ex) (s4 : List Ex × Int) (s6 : List Ex × Int) (h7 : ((s6.2 == (↑(List.length over_) : Int))) = false) (h7p : ¬ (s6.2 = (↑(List.length over_) : Int))) (h8 : (((0 : Int) ≤ s6.2) ∧ (s6.2 < (↑(List.length over_) : Int)))) (s9 : List Ex × Int) (h9 : mPut (blocks) (s6.1) ((exAt over_ (Int.toNat s6.2))) = some s9) (h10 : ((s9.2 != (0 : Int))) = false) (h10p : (s9.2 = (0 : Int))) : EvSStep Try.prog cf 0 (sc Try.prog 23 0) (sr Try.prog 23 0 0) (mLay_G0_S blocks l over_ s0 s2 s4 s6) (mLay_G0_S blocks l over_ s0 s2 s4 ((s9.1, (wr (s6.2 + (1 : Int)))))) :=
  leafT vw_eq (l := 0) kq (k := 300) (r := []) (hs := hz [(4, [.no]), (4, [.yes, .yes, .cells ((Ex.cells (exAt over_ (Int.toNat s6.2))))]), (1, [.fres (.tu [exs (s9.1), .i (s9.2)])]), (7, [.no]), (5, [])]) (st1 := (St.mk [(0, (AV.i blocks)), (1, (AV.sl (List.length l) (List.flatMap Ex.cells l))), (2, (AV.sl (List.length over_) (List.flatMap Ex.cells over_))), (15, (AV.b (!s0))), (8, (AV.sl (List.length s9.1) (List.flatMap Ex.cells s9.1))), (9, (AV.i (wr (s6.2 + (1 : Int))))), (18, (AV.i s6.2)), (19, (AV.sl (List.length over_) (List.flatMap Ex.cells over_))), (20, (AV.i (↑(List.length over_) : Int))), (21, (AV.b (s6.2 == (↑(List.length over_) : Int)))), (24, (AV.i blocks)), (25, (AV.sl (List.length s6.1) (List.flatMap Ex.cells s6.1))), (26, (AV.sl (List.length over_) (List.flatMap Ex.cells over_))), (27, (AV.i s6.2)), (28, (AV.ip (List.drop ((Int.toNat s6.2) * (5 : Nat)) (List.flatMap Ex.cells over_)))), (29, (AV.ag (xc (exAt over_ (Int.toNat s6.2))))), (30, (AV.tu [(AV.sl (List.length s9.1) (List.flatMap Ex.cells s9.1)), (AV.i s9.2)])), (23, (AV.tu [(AV.sl (List.length s9.1) (List.flatMap Ex.cells s9.1)), (AV.i s9.2)])), (31, (AV.sl (List.length s9.1) (List.flatMap Ex.cells s9.1))), (32, (AV.i s9.2)), (10, (AV.sl (List.length s9.1) (List.flatMap Ex.cells s9.1))), (11, (AV.i s9.2)), (33, (AV.i s9.2)), (34, (AV.b (s9.2 != (0 : Int)))), (38, (AV.sl (List.length s9.1) (List.flatMap Ex.cells s9.1))), (39, (AV.i s6.2)), (40, (AV.i (wr (s6.2 + (1 : Int)))))] 41 (AH.mk 0 ([] : List (Prod Nat AObj))) Bool.false)) (ps := [((s6.2 == (↑(List.length over_) : Int))) = false, (((0 : Int) ≤ s6.2) ∧ (s6.2 < (↑(List.length over_) : Int))), ((5 : Nat) ≤ (List.length (List.drop ((Int.toNat s6.2) * (5 : Nat)) (List.flatMap Ex.cells over_)))), (List.take 5 (List.drop ((Int.toNat s6.2) * (5 : Nat)) (List.flatMap Ex.cells over_))) = (Ex.cells (exAt over_ (Int.toNat s6.2))), EvFr Try.prog cf Bool.false 19 [(AV.i blocks), (AV.sl (List.length s6.1) (List.flatMap Ex.cells s6.1)), (AV.ag (xc (exAt over_ (Int.toNat s6.2))))] (.tu [exs (s9.1), .i (s9.2)]), ((s9.2 != (0 : Int))) = false]) kq ⟨h7, h8, fq, (by first | exact ex_take _ _ bq | (simpa using ex_take _ _ bq) | ((try simp only [List.drop_drop]); rw [show ((Int.toNat s6.2) * (5 : Nat)) = ((Int.toNat s6.2)) * 5 by omega]; exact ex_take _ _ bq)), ((mPut_ok (blocks) (s6.1) ((exAt over_ (Int.toNat s6.2))) _ h9).cast tq), h10, trivial⟩ (Nat.le_of_ble_eq_true rfl) (absB_of [] [] kq (.consn kq (.eqv tq rfl) (.consn kq (.eqv tq rfl) (.consn kq (.eqv tq rfl) (.consn kq (.eqv tq rfl) (.consn kq (.eqv tq rfl) (.consn kq (.eqv tq rfl) .nil)))))) .nil)
theorem mLay_G0_ok (blocks : Int) (l : List Ex) (over_ : List Ex) (s0 : Bool) (s2 : List Ex) (s4 : List Ex × Int) (s6 zz : List Ex × Int) : mLay_G0_step blocks l over_ s0 s2 s4 s6 = some zz → EvSStep Try.prog cf 0 (sc Try.prog 23 0) (sr Try.prog 23 0 0) (mLay_G0_S blocks l over_ s0 s2 s4 s6) (mLay_G0_S blocks l over_ s0 s2 s4 zz) := by
  unfold mLay_G0_step
  refine tb_ok (fun h7 => ?_) (fun h7 => ?_)
  ·
    have h7p := eq_of_beq h7
    exact fun e => nomatch e
  ·
    have h7p := ne_of_beq_false h7
    refine tp_ok (fun h8 => ?_)
    refine tc_ok (fun s9 h9 => ?_)
    refine tb_ok (fun h10 => ?_) (fun h10 => ?_)
    ·
      have h10p := bne_iff_ne.1 h10
      exact fun e => nomatch e
    ·
      have h10p := bne_eq_false_iff_eq.1 h10
      exact fun e => tl_ok (G := (fun zz => EvSStep Try.prog cf 0 (sc Try.prog 23 0) (sr Try.prog 23 0 0) (mLay_G0_S blocks l over_ s0 s2 s4 s6) (mLay_G0_S blocks l over_ s0 s2 s4 zz))) (mLay_G0_s0 blocks l over_ s0 s2 s4 s6 h7 h7p h8 s9 h9 h10 h10p) e
/-- Function 23, as it answers. -/
noncomputable def mLay (blocks : Int) (l : List Ex) (over_ : List Ex) : Option (List Ex × Int) :=
 (tc (mCheck (blocks) (l)) fun s0 =>
  (tb ((!s0))
   (some ((([] : List Ex), (80 : Int))))
   (tc (mOwn (l)) fun s2 =>
    (tb (((0 : Int) == (↑(List.length over_) : Int)))
     (some ((s2, (0 : Int))))
     (tc (mPut (blocks) (s2) ((exAt over_ 0))) fun s4 =>
      (tb ((s4.2 != (0 : Int)))
       (tc (mOwn (l)) fun s6 =>
        (some ((s6, s4.2))))
       (th (mLay_G0_step blocks l over_ s0 s2 s4) ((s4.1, (1 : Int))) fun s6 =>
        (tb ((s6.2 == (↑(List.length over_) : Int)))
         (some ((s6.1, (0 : Int))))
         (tp ((((0 : Int) ≤ s6.2) ∧ (s6.2 < (↑(List.length over_) : Int))))
          (tc (mPut (blocks) (s6.1) ((exAt over_ (Int.toNat s6.2)))) fun s9 =>
           (tb ((s9.2 != (0 : Int)))
            (tc (mOwn (l)) fun s11 =>
             (some ((s11, s9.2))))
            none /- stop behind an operation -/)))))))))))
abbrev mLay_G (blocks : Int) (l : List Ex) (over_ : List Ex) (r : List Ex × Int) : Prop := EvFr Try.prog cf false 23 [.i (blocks), exs (l), exs (over_)] (.tu [exs (r.1), .i (r.2)])
theorem mLay_l0 (blocks : Int) (l : List Ex) (over_ : List Ex) (s0 : Bool) (h0 : mCheck (blocks) (l) = some s0) (h1 : ((!s0)) = true) : mLay_G blocks l over_ ((([] : List Ex), (80 : Int))) :=
  leafR vw_eq (k := 300) (r := []) (hs := hz [(5, [.fres (.b (s0))]), (1, [.yes]), (2, [])]) (raw := (AV.tu [(AV.sl 0 ([] : List AV)), (AV.i 80)])) (ps := [EvFr Try.prog cf Bool.false 21 [(AV.i blocks), (AV.sl (List.length l) (List.flatMap Ex.cells l))] (.b (s0)), ((!s0)) = true]) kq ⟨((mCheck_ok (blocks) (l) _ h0).any.cast tq), h1, trivial⟩ tq
theorem mLay_l1 (blocks : Int) (l : List Ex) (over_ : List Ex) (s0 : Bool) (h0 : mCheck (blocks) (l) = some s0) (h1 : ((!s0)) = false) (s2 : List Ex) (h2 : mOwn (l) = some s2) (h3 : (((0 : Int) == (↑(List.length over_) : Int))) = true) (h3p : ((0 : Int) = (↑(List.length over_) : Int))) : mLay_G blocks l over_ ((s2, (0 : Int))) :=
  leafR vw_eq (k := 300) (r := []) (hs := hz [(5, [.fres (.b (s0))]), (1, [.no]), (2, [.fres (exs (s2))]), (6, [.yes]), (3, [])]) (raw := (AV.tu [(AV.sl (List.length s2) (List.flatMap Ex.cells s2)), (AV.i 0)])) (ps := [EvFr Try.prog cf Bool.false 21 [(AV.i blocks), (AV.sl (List.length l) (List.flatMap Ex.cells l))] (.b (s0)), ((!s0)) = false, EvFr Try.prog cf Bool.false 28 [(AV.sl (List.length l) (List.flatMap Ex.cells l))] (exs (s2)), (((0 : Int) == (↑(List.length over_) : Int))) = true]) kq ⟨((mCheck_ok (blocks) (l) _ h0).any.cast tq), h1, ((mOwn_ok (l) _ h2).cast tq), h3, trivial⟩ tq
theorem mLay_l2 (blocks : Int) (l : List Ex) (over_ : List Ex) (s0 : Bool) (h0 : mCheck (blocks) (l) = some s0) (h1 : ((!s0)) = false) (s2 : List Ex) (h2 : mOwn (l) = some s2) (h3 : (((0 : Int) == (↑(List.length over_) : Int))) = false) (h3p : ¬ ((0 : Int) = (↑(List.length over_) : Int))) (s4 : List Ex × Int) (h4 : mPut (blocks) (s2) ((exAt over_ 0)) = some s4) (h5 : ((s4.2 != (0 : Int))) = true) (h5p : ¬ (s4.2 = (0 : Int))) (s6 : List Ex) (h6 : mOwn (l) = some s6) : mLay_G blocks l over_ ((s6, s4.2)) :=
  leafR vw_eq (k := 300) (r := []) (hs := hz [(5, [.fres (.b (s0))]), (1, [.no]), (2, [.fres (exs (s2))]), (6, [.no]), (4, [.yes, .yes, .cells ((Ex.cells (exAt over_ 0)))]), (1, [.fres (.tu [exs (s4.1), .i (s4.2)])]), (7, [.yes]), (2, [.fres (exs (s6))]), (3, [])]) (raw := (AV.tu [(AV.sl (List.length s6) (List.flatMap Ex.cells s6)), (AV.i s4.2)])) (ps := [EvFr Try.prog cf Bool.false 21 [(AV.i blocks), (AV.sl (List.length l) (List.flatMap Ex.cells l))] (.b (s0)), ((!s0)) = false, EvFr Try.prog cf Bool.false 28 [(AV.sl (List.length l) (List.flatMap Ex.cells l))] (exs (s2)), (((0 : Int) == (↑(List.length over_) : Int))) = false, (((0 : Int) ≤ (0 : Int)) ∧ ((0 : Int) < (↑(List.length over_) : Int))), ((5 : Nat) ≤ (List.length (List.drop 0 (List.flatMap Ex.cells over_)))), (List.take 5 (List.drop 0 (List.flatMap Ex.cells over_))) = (Ex.cells (exAt over_ 0)), EvFr Try.prog cf Bool.false 19 [(AV.i blocks), (AV.sl (List.length s2) (List.flatMap Ex.cells s2)), (AV.ag (xc (exAt over_ 0)))] (.tu [exs (s4.1), .i (s4.2)]), ((s4.2 != (0 : Int))) = true, EvFr Try.prog cf Bool.false 28 [(AV.sl (List.length l) (List.flatMap Ex.cells l))] (exs (s6))]) kq ⟨((mCheck_ok (blocks) (l) _ h0).any.cast tq), h1, ((mOwn_ok (l) _ h2).cast tq), h3, fq, fq, (by first | exact ex_take _ _ bq | (simpa using ex_take _ _ bq) | ((try simp only [List.drop_drop]); rw [show (0 : Nat) = ((0 : Nat)) * 5 by omega]; exact ex_take _ _ bq)), ((mPut_ok (blocks) (s2) ((exAt over_ 0)) _ h4).cast tq), h5, ((mOwn_ok (l) _ h6).cast tq), trivial⟩ tq
theorem mLay_l3 (blocks : Int) (l : List Ex) (over_ : List Ex) (s0 : Bool) (h0 : mCheck (blocks) (l) = some s0) (h1 : ((!s0)) = false) (s2 : List Ex) (h2 : mOwn (l) = some s2) (h3 : (((0 : Int) == (↑(List.length over_) : Int))) = false) (h3p : ¬ ((0 : Int) = (↑(List.length over_) : Int))) (s4 : List Ex × Int) (h4 : mPut (blocks) (s2) ((exAt over_ 0)) = some s4) (h5 : ((s4.2 != (0 : Int))) = false) (h5p : (s4.2 = (0 : Int))) (s6 : List Ex × Int) (h6 : Runs (mLay_G0_step blocks l over_ s0 s2 s4) ((s4.1, (1 : Int))) s6) (h7 : ((s6.2 == (↑(List.length over_) : Int))) = true) (h7p : (s6.2 = (↑(List.length over_) : Int))) : mLay_G blocks l over_ ((s6.1, (0 : Int))) :=
  leafR vw_eq (k := 300) (r := []) (hs := hz [(5, [.fres (.b (s0))]), (1, [.no]), (2, [.fres (exs (s2))]), (6, [.no]), (4, [.yes, .yes, .cells ((Ex.cells (exAt over_ 0)))]), (1, [.fres (.tu [exs (s4.1), .i (s4.2)])]), (7, [.no]), (5, [.head (mLay_G0_S blocks l over_ s0 s2 s4 s6)]), (4, [.yes]), (3, [])]) (raw := (AV.tu [(AV.sl (List.length s6.1) (List.flatMap Ex.cells s6.1)), (AV.i 0)])) (ps := [EvFr Try.prog cf Bool.false 21 [(AV.i blocks), (AV.sl (List.length l) (List.flatMap Ex.cells l))] (.b (s0)), ((!s0)) = false, EvFr Try.prog cf Bool.false 28 [(AV.sl (List.length l) (List.flatMap Ex.cells l))] (exs (s2)), (((0 : Int) == (↑(List.length over_) : Int))) = false, (((0 : Int) ≤ (0 : Int)) ∧ ((0 : Int) < (↑(List.length over_) : Int))), ((5 : Nat) ≤ (List.length (List.drop 0 (List.flatMap Ex.cells over_)))), (List.take 5 (List.drop 0 (List.flatMap Ex.cells over_))) = (Ex.cells (exAt over_ 0)), EvFr Try.prog cf Bool.false 19 [(AV.i blocks), (AV.sl (List.length s2) (List.flatMap Ex.cells s2)), (AV.ag (xc (exAt over_ 0)))] (.tu [exs (s4.1), .i (s4.2)]), ((s4.2 != (0 : Int))) = false, EvSHead Try.prog cf (sc Try.prog 23 0) (sr Try.prog 23 0 0) (mLay_G0_I blocks l over_ s0 s2 s4) (mLay_G0_S blocks l over_ s0 s2 s4 s6), ((s6.2 == (↑(List.length over_) : Int))) = true]) kq ⟨((mCheck_ok (blocks) (l) _ h0).any.cast tq), h1, ((mOwn_ok (l) _ h2).cast tq), h3, fq, fq, (by first | exact ex_take _ _ bq | (simpa using ex_take _ _ bq) | ((try simp only [List.drop_drop]); rw [show (0 : Nat) = ((0 : Nat)) * 5 by omega]; exact ex_take _ _ bq)), ((mPut_ok (blocks) (s2) ((exAt over_ 0)) _ h4).cast tq), h5, (EvSHead.of (mLay_G0_ok blocks l over_ s0 s2 s4) (absB_of [] [] kq (.consn kq (.eqv tq rfl) (.consn kq (.eqv tq rfl) (.consn kq (.eqv tq rfl) (.consn kq (.eqv tq rfl) (.consn kq (.eqv tq rfl) (.consn kq (.eqv tq rfl) .nil)))))) .nil) h6), h7, trivial⟩ tq
theorem mLay_l4 (blocks : Int) (l : List Ex) (over_ : List Ex) (s0 : Bool) (h0 : mCheck (blocks) (l) = some s0) (h1 : ((!s0)) = false) (s2 : List Ex) (h2 : mOwn (l) = some s2) (h3 : (((0 : Int) == (↑(List.length over_) : Int))) = false) (h3p : ¬ ((0 : Int) = (↑(List.length over_) : Int))) (s4 : List Ex × Int) (h4 : mPut (blocks) (s2) ((exAt over_ 0)) = some s4) (h5 : ((s4.2 != (0 : Int))) = false) (h5p : (s4.2 = (0 : Int))) (s6 : List Ex × Int) (h6 : Runs (mLay_G0_step blocks l over_ s0 s2 s4) ((s4.1, (1 : Int))) s6) (h7 : ((s6.2 == (↑(List.length over_) : Int))) = false) (h7p : ¬ (s6.2 = (↑(List.length over_) : Int))) (h8 : (((0 : Int) ≤ s6.2) ∧ (s6.2 < (↑(List.length over_) : Int)))) (s9 : List Ex × Int) (h9 : mPut (blocks) (s6.1) ((exAt over_ (Int.toNat s6.2))) = some s9) (h10 : ((s9.2 != (0 : Int))) = true) (h10p : ¬ (s9.2 = (0 : Int))) (s11 : List Ex) (h11 : mOwn (l) = some s11) : mLay_G blocks l over_ ((s11, s9.2)) :=
  leafR vw_eq (k := 300) (r := []) (hs := hz [(5, [.fres (.b (s0))]), (1, [.no]), (2, [.fres (exs (s2))]), (6, [.no]), (4, [.yes, .yes, .cells ((Ex.cells (exAt over_ 0)))]), (1, [.fres (.tu [exs (s4.1), .i (s4.2)])]), (7, [.no]), (5, [.head (mLay_G0_S blocks l over_ s0 s2 s4 s6)]), (4, [.no]), (4, [.yes, .yes, .cells ((Ex.cells (exAt over_ (Int.toNat s6.2))))]), (1, [.fres (.tu [exs (s9.1), .i (s9.2)])]), (7, [.yes]), (2, [.fres (exs (s11))]), (3, [])]) (raw := (AV.tu [(AV.sl (List.length s11) (List.flatMap Ex.cells s11)), (AV.i s9.2)])) (ps := [EvFr Try.prog cf Bool.false 21 [(AV.i blocks), (AV.sl (List.length l) (List.flatMap Ex.cells l))] (.b (s0)), ((!s0)) = false, EvFr Try.prog cf Bool.false 28 [(AV.sl (List.length l) (List.flatMap Ex.cells l))] (exs (s2)), (((0 : Int) == (↑(List.length over_) : Int))) = false, (((0 : Int) ≤ (0 : Int)) ∧ ((0 : Int) < (↑(List.length over_) : Int))), ((5 : Nat) ≤ (List.length (List.drop 0 (List.flatMap Ex.cells over_)))), (List.take 5 (List.drop 0 (List.flatMap Ex.cells over_))) = (Ex.cells (exAt over_ 0)), EvFr Try.prog cf Bool.false 19 [(AV.i blocks), (AV.sl (List.length s2) (List.flatMap Ex.cells s2)), (AV.ag (xc (exAt over_ 0)))] (.tu [exs (s4.1), .i (s4.2)]), ((s4.2 != (0 : Int))) = false, EvSHead Try.prog cf (sc Try.prog 23 0) (sr Try.prog 23 0 0) (mLay_G0_I blocks l over_ s0 s2 s4) (mLay_G0_S blocks l over_ s0 s2 s4 s6), ((s6.2 == (↑(List.length over_) : Int))) = false, (((0 : Int) ≤ s6.2) ∧ (s6.2 < (↑(List.length over_) : Int))), ((5 : Nat) ≤ (List.length (List.drop ((Int.toNat s6.2) * (5 : Nat)) (List.flatMap Ex.cells over_)))), (List.take 5 (List.drop ((Int.toNat s6.2) * (5 : Nat)) (List.flatMap Ex.cells over_))) = (Ex.cells (exAt over_ (Int.toNat s6.2))), EvFr Try.prog cf Bool.false 19 [(AV.i blocks), (AV.sl (List.length s6.1) (List.flatMap Ex.cells s6.1)), (AV.ag (xc (exAt over_ (Int.toNat s6.2))))] (.tu [exs (s9.1), .i (s9.2)]), ((s9.2 != (0 : Int))) = true, EvFr Try.prog cf Bool.false 28 [(AV.sl (List.length l) (List.flatMap Ex.cells l))] (exs (s11))]) kq ⟨((mCheck_ok (blocks) (l) _ h0).any.cast tq), h1, ((mOwn_ok (l) _ h2).cast tq), h3, fq, fq, (by first | exact ex_take _ _ bq | (simpa using ex_take _ _ bq) | ((try simp only [List.drop_drop]); rw [show (0 : Nat) = ((0 : Nat)) * 5 by omega]; exact ex_take _ _ bq)), ((mPut_ok (blocks) (s2) ((exAt over_ 0)) _ h4).cast tq), h5, (EvSHead.of (mLay_G0_ok blocks l over_ s0 s2 s4) (absB_of [] [] kq (.consn kq (.eqv tq rfl) (.consn kq (.eqv tq rfl) (.consn kq (.eqv tq rfl) (.consn kq (.eqv tq rfl) (.consn kq (.eqv tq rfl) (.consn kq (.eqv tq rfl) .nil)))))) .nil) h6), h7, h8, fq, (by first | exact ex_take _ _ bq | (simpa using ex_take _ _ bq) | ((try simp only [List.drop_drop]); rw [show ((Int.toNat s6.2) * (5 : Nat)) = ((Int.toNat s6.2)) * 5 by omega]; exact ex_take _ _ bq)), ((mPut_ok (blocks) (s6.1) ((exAt over_ (Int.toNat s6.2))) _ h9).cast tq), h10, ((mOwn_ok (l) _ h11).cast tq), trivial⟩ tq
theorem mLay_ok (blocks : Int) (l : List Ex) (over_ : List Ex) (r : List Ex × Int) : mLay blocks l over_ = some r → mLay_G blocks l over_ r := by
  unfold mLay
  refine tc_ok (fun s0 h0 => ?_)
  refine tb_ok (fun h1 => ?_) (fun h1 => ?_)
  ·
    exact fun e => tl_ok (G := mLay_G blocks l over_) (mLay_l0 blocks l over_ s0 h0 h1) e
  ·
    refine tc_ok (fun s2 h2 => ?_)
    refine tb_ok (fun h3 => ?_) (fun h3 => ?_)
    ·
      have h3p := eq_of_beq h3
      exact fun e => tl_ok (G := mLay_G blocks l over_) (mLay_l1 blocks l over_ s0 h0 h1 s2 h2 h3 h3p) e
    ·
      have h3p := ne_of_beq_false h3
      refine tc_ok (fun s4 h4 => ?_)
      refine tb_ok (fun h5 => ?_) (fun h5 => ?_)
      ·
        have h5p := bne_iff_ne.1 h5
        refine tc_ok (fun s6 h6 => ?_)
        exact fun e => tl_ok (G := mLay_G blocks l over_) (mLay_l2 blocks l over_ s0 h0 h1 s2 h2 h3 h3p s4 h4 h5 h5p s6 h6) e
      ·
        have h5p := bne_eq_false_iff_eq.1 h5
        refine th_ok (fun s6 h6 => ?_)
        refine tb_ok (fun h7 => ?_) (fun h7 => ?_)
        ·
          have h7p := eq_of_beq h7
          exact fun e => tl_ok (G := mLay_G blocks l over_) (mLay_l3 blocks l over_ s0 h0 h1 s2 h2 h3 h3p s4 h4 h5 h5p s6 h6 h7 h7p) e
        ·
          have h7p := ne_of_beq_false h7
          refine tp_ok (fun h8 => ?_)
          refine tc_ok (fun s9 h9 => ?_)
          refine tb_ok (fun h10 => ?_) (fun h10 => ?_)
          ·
            have h10p := bne_iff_ne.1 h10
            refine tc_ok (fun s11 h11 => ?_)
            exact fun e => tl_ok (G := mLay_G blocks l over_) (mLay_l4 blocks l over_ s0 h0 h1 s2 h2 h3 h3p s4 h4 h5 h5p s6 h6 h7 h7p h8 s9 h9 h10 h10p s11 h11) e
          ·
            have h10p := bne_eq_false_iff_eq.1 h10
            exact fun e => nomatch e
end Ab
end Go.Proofs.Ytphnpgdamacfmaa
