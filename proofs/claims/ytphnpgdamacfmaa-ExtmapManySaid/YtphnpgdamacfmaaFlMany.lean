/- Functions, as they answer: printed by a program of this repo, out of the program's form; each with its proof. -/
import Derived.Test.YtphnpgdamacfmaaRows
import Derived.Test.YtphnpgdamacfmaaAbsY
import Derived.Test.YtphnpgdamacfmaaTab
import Derived.Test.YtphnpgdamacfmaaFnA
import Derived.Test.YtphnpgdamacfmaaFnB
import Derived.Test.YtphnpgdamacfmaaFnC
import Derived.Test.YtphnpgdamacfmaaFnAw
namespace Go.Proofs.Ytphnpgdamacfmaa
open Go Go.Proofs.Ytphnpgdamacfmaa.Ab
set_option linter.unusedVariables false
set_option linter.unusedSimpArgs false
set_option maxRecDepth 1000000
namespace Ab
noncomputable abbrev lExtmapMany_L0_I (blocks : Int) (l : List Ex) (s0 : Bool) (s2 : Bool) : St := (St.mk [((0 : Nat), (AV.i blocks)), ((1 : Nat), (AV.sl (List.length l) (List.flatMap Ex.cells l))), ((4 : Nat), (AV.b Bool.false)), ((14 : Nat), (AV.b s0)), ((5 : Nat), (AV.b s0)), ((15 : Nat), (AV.sl (List.length l) (List.flatMap Ex.cells l))), ((16 : Nat), (AV.i (↑(List.length l) : Int))), ((17 : Nat), (AV.b (decide ((↑(List.length l) : Int) > (64 : Int))))), ((18 : Nat), (AV.b (decide ((↑(List.length l) : Int) > (64 : Int))))), ((19 : Nat), (AV.i blocks)), ((20 : Nat), (AV.sl (List.length l) (List.flatMap Ex.cells l))), ((21 : Nat), (AV.b s2)), ((22 : Nat), (AV.b (!s2))), ((23 : Nat), (AV.b (!s2))), ((6 : Nat), (AV.i 0)), ((7 : Nat), (AV.i 0))] 110 (AH.mk 0 ([] : List (Prod Nat AObj))) Bool.false)
noncomputable abbrev lExtmapMany_L0_S (blocks : Int) (l : List Ex) (s0 : Bool) (s2 : Bool) (s4 : Int × Int) : St := (St.mk [((0 : Nat), (AV.i blocks)), ((1 : Nat), (AV.sl (List.length l) (List.flatMap Ex.cells l))), ((5 : Nat), (AV.b s0)), ((23 : Nat), (AV.b (!s2))), ((6 : Nat), (AV.i s4.1)), ((7 : Nat), (AV.i s4.2))] 110 (AH.mk 0 ([] : List (Prod Nat AObj))) Bool.false)
noncomputable def lExtmapMany_L0_step (blocks : Int) (l : List Ex) (s0 : Bool) (s2 : Bool) (s4 : Int × Int) : Option (Int × Int) :=
 (tb ((decide (s4.2 < (↑(List.length l) : Int))))
  (tp ((((0 : Int) ≤ s4.2) ∧ (s4.2 < (↑(List.length l) : Int))))
   (tb ((decide ((↑(List.length (exAt l (Int.toNat s4.2)).d) : Int) > (3000 : Int))))
    none /- exit -/
    (some (((imax s4.1 (exAt l (Int.toNat s4.2)).gen), (wr (s4.2 + (1 : Int))))))))
  none /- exit -/)
theorem lExtmapMany_L0_s0 (blocks : Int) (l : List Ex) (s0 : Bool) (s2 : Bool) (s4 : Int × Int) (h5 : ((decide (s4.2 < (↑(List.length l) : Int)))) = true) (h5p : (s4.2 < (↑(List.length l) : Int))) (h6 : (((0 : Int) ≤ s4.2) ∧ (s4.2 < (↑(List.length l) : Int)))) (h7 : ((decide ((↑(List.length (exAt l (Int.toNat s4.2)).d) : Int) > (3000 : Int)))) = false) (h7p : ¬ ((↑(List.length (exAt l (Int.toNat s4.2)).d) : Int) > (3000 : Int))) : EvStep Try.prog cf 0 (lp Try.prog 8 0) (lExtmapMany_L0_S blocks l s0 s2 s4) (lExtmapMany_L0_S blocks l s0 s2 (((imax s4.1 (exAt l (Int.toNat s4.2)).gen), (wr (s4.2 + (1 : Int)))))) :=
  leafS vw_eq (k := 300) (r := []) (hs := hz [(4, [.yes]), (2, [.yes]), (1, [.yes, .val ((bys (exAt l (Int.toNat s4.2)).d))]), (2, [.no]), (3, [.yes]), (1, [.yes, .val ((AV.i (exAt l (Int.toNat s4.2)).gen))]), (5, [])]) (st1 := (St.mk [((0 : Nat), (AV.i blocks)), ((1 : Nat), (AV.sl (List.length l) (List.flatMap Ex.cells l))), ((5 : Nat), (AV.b s0)), ((23 : Nat), (AV.b (!s2))), ((6 : Nat), (AV.i (imax s4.1 (exAt l (Int.toNat s4.2)).gen))), ((7 : Nat), (AV.i (wr (s4.2 + (1 : Int))))), ((25 : Nat), (AV.i s4.2)), ((26 : Nat), (AV.sl (List.length l) (List.flatMap Ex.cells l))), ((27 : Nat), (AV.i (↑(List.length l) : Int))), ((28 : Nat), (AV.b (decide (s4.2 < (↑(List.length l) : Int))))), ((31 : Nat), (AV.sl (List.length l) (List.flatMap Ex.cells l))), ((32 : Nat), (AV.i s4.2)), ((33 : Nat), (AV.ip (List.drop ((Int.toNat s4.2) * (5 : Nat)) (List.flatMap Ex.cells l)))), ((34 : Nat), (AV.ip (List.drop 4 (List.drop ((Int.toNat s4.2) * (5 : Nat)) (List.flatMap Ex.cells l))))), ((35 : Nat), (AV.sl (List.length (exAt l (Int.toNat s4.2)).d) (List.map AV.y (exAt l (Int.toNat s4.2)).d))), ((36 : Nat), (AV.i (↑(List.length (exAt l (Int.toNat s4.2)).d) : Int))), ((37 : Nat), (AV.b (decide ((↑(List.length (exAt l (Int.toNat s4.2)).d) : Int) > (3000 : Int))))), ((39 : Nat), (AV.i s4.1)), ((40 : Nat), (AV.sl (List.length l) (List.flatMap Ex.cells l))), ((41 : Nat), (AV.i s4.2)), ((42 : Nat), (AV.ip (List.drop ((Int.toNat s4.2) * (5 : Nat)) (List.flatMap Ex.cells l)))), ((43 : Nat), (AV.ip (List.drop 3 (List.drop ((Int.toNat s4.2) * (5 : Nat)) (List.flatMap Ex.cells l))))), ((44 : Nat), (AV.i (exAt l (Int.toNat s4.2)).gen)), ((45 : Nat), (AV.i (imax s4.1 (exAt l (Int.toNat s4.2)).gen))), ((29 : Nat), (AV.i s4.2)), ((30 : Nat), (AV.i (wr (s4.2 + (1 : Int)))))] 110 (AH.mk 0 ([] : List (Prod Nat AObj))) Bool.false)) (ps := [((decide (s4.2 < (↑(List.length l) : Int)))) = true, (((0 : Int) ≤ s4.2) ∧ (s4.2 < (↑(List.length l) : Int))), ((1 : Nat) ≤ (List.length (List.drop 4 (List.drop ((Int.toNat s4.2) * (5 : Nat)) (List.flatMap Ex.cells l))))), (List.take 1 (List.drop 4 (List.drop ((Int.toNat s4.2) * (5 : Nat)) (List.flatMap Ex.cells l)))) = [(bys (exAt l (Int.toNat s4.2)).d)], ((decide ((↑(List.length (exAt l (Int.toNat s4.2)).d) : Int) > (3000 : Int)))) = false, (((0 : Int) ≤ s4.2) ∧ (s4.2 < (↑(List.length l) : Int))), ((1 : Nat) ≤ (List.length (List.drop 3 (List.drop ((Int.toNat s4.2) * (5 : Nat)) (List.flatMap Ex.cells l))))), (List.take 1 (List.drop 3 (List.drop ((Int.toNat s4.2) * (5 : Nat)) (List.flatMap Ex.cells l)))) = [(AV.i (exAt l (Int.toNat s4.2)).gen)]]) (by kernel_rfl) ⟨h5, h6, fq, (by first | exact ex_one _ _ _ _ bq rfl | exact ex_oneA _ _ _ _ bq rfl | (simpa using ex_one (l) ((Int.toNat s4.2)) 4 _ bq rfl) | ((try simp only [List.drop_drop]); rw [show ((4 : Nat) + ((Int.toNat s4.2) * (5 : Nat))) = ((Int.toNat s4.2)) * 5 + 4 by omega]; exact ex_oneA (l) ((Int.toNat s4.2)) 4 _ bq rfl)), h7, h6, fq, (by first | exact ex_one _ _ _ _ bq rfl | exact ex_oneA _ _ _ _ bq rfl | (simpa using ex_one (l) ((Int.toNat s4.2)) 3 _ bq rfl) | ((try simp only [List.drop_drop]); rw [show ((3 : Nat) + ((Int.toNat s4.2) * (5 : Nat))) = ((Int.toNat s4.2)) * 5 + 3 by omega]; exact ex_oneA (l) ((Int.toNat s4.2)) 3 _ bq rfl)), trivial⟩ (Nat.le_of_ble_eq_true rfl) (absB_of [] [] (by kernel_rfl) (.consn (by kernel_rfl) (.eqv tq rfl) (.consn (by kernel_rfl) (.eqv tq rfl) (.consn (by kernel_rfl) (.eqv tq rfl) (.consn (by kernel_rfl) (.eqv tq rfl) (.consn (by kernel_rfl) (.eqv tq rfl) (.consn (by kernel_rfl) (.eqv tq rfl) .nil)))))) .nil)
theorem lExtmapMany_L0_ok (blocks : Int) (l : List Ex) (s0 : Bool) (s2 : Bool) (s4 zz : Int × Int) : lExtmapMany_L0_step blocks l s0 s2 s4 = some zz → EvStep Try.prog cf 0 (lp Try.prog 8 0) (lExtmapMany_L0_S blocks l s0 s2 s4) (lExtmapMany_L0_S blocks l s0 s2 zz) := by
  unfold lExtmapMany_L0_step
  refine tb_ok (fun h5 => ?_) (fun h5 => ?_)
  ·
    have h5p := of_decide_eq_true h5
    refine tp_ok (fun h6 => ?_)
    refine tb_ok (fun h7 => ?_) (fun h7 => ?_)
    ·
      have h7p := of_decide_eq_true h7
      exact fun e => nomatch e
    ·
      have h7p := of_decide_eq_false h7
      exact fun e => tl_ok (G := (fun zz => EvStep Try.prog cf 0 (lp Try.prog 8 0) (lExtmapMany_L0_S blocks l s0 s2 s4) (lExtmapMany_L0_S blocks l s0 s2 zz))) (lExtmapMany_L0_s0 blocks l s0 s2 s4 h5 h5p h6 h7 h7p) e
  ·
    have h5p := of_decide_eq_false h5
    exact fun e => nomatch e
/-- Function 8, as it answers. -/
noncomputable def lExtmapMany (blocks : Int) (l : List Ex) : Option (Bool) :=
 (tc (aw8) fun s0 =>
  (tb ((decide ((↑(List.length l) : Int) > (64 : Int))))
   (some (s0))
   (tc (mCheck (blocks) (l)) fun s2 =>
    (tb ((!s2))
     (some (s0))
     (th (lExtmapMany_L0_step blocks l s0 s2) (((0 : Int), (0 : Int))) fun s4 =>
      (tb ((decide (s4.2 < (↑(List.length l) : Int))))
       (tp ((((0 : Int) ≤ s4.2) ∧ (s4.2 < (↑(List.length l) : Int))))
        (tb ((decide ((↑(List.length (exAt l (Int.toNat s4.2)).d) : Int) > (3000 : Int))))
         (some (s0))
         none /- stop behind an operation -/))
       (tc (mSince (blocks) (l) ((-(1 : Int)))) fun s6 =>
        (tc (mSince (blocks) (l) (s4.1)) fun s7 =>
         (tc (mRange (blocks) (l) ((0 : Int)) (blocks)) fun s8 =>
          (tb (s0)
           (tb ((s6.2 == (0 : Int)))
            (tb ((s7.2 == (0 : Int)))
             (tb ((s8.2 == (0 : Int)))
              (tb (((↑(List.length s6.1) : Int) == (↑(List.length l) : Int)))
               (tb (((↑(List.length s7.1) : Int) == (0 : Int)))
                (tb (((↑(List.length s8.1) : Int) == (↑(List.length l) : Int)))
                 (tc (mMany (l) ((0 : Int))) fun s16 =>
                  (tc (mMany (l) ((1 : Int))) fun s17 =>
                   (tc (mMany (l) ((2 : Int))) fun s18 =>
                    (some (((wr ((wr (s16 + s17)) + s18)) == blocks))))))
                 none /- false -/)
                none /- false -/)
               none /- false -/)
              none /- false -/)
             none /- false -/)
            none /- false -/)
           none /- false -/))))))))))
abbrev lExtmapMany_G (blocks : Int) (l : List Ex) (r : Bool) : Prop := EvFr Try.prog cf false 8 [.i (blocks), exs (l)] (.b (r))
theorem lExtmapMany_l0 (blocks : Int) (l : List Ex) (s0 : Bool) (h0 : aw8 = some s0) (h1 : ((decide ((↑(List.length l) : Int) > (64 : Int)))) = true) (h1p : ((↑(List.length l) : Int) > (64 : Int))) : lExtmapMany_G blocks l (s0) :=
  leafR vw_eq (k := 300) (r := []) (hs := hz [(2, [.fres (.b (s0))]), (5, [.yes, .yes, .yes, .yes, .yes]), (3, [])]) (raw := (AV.b s0)) (ps := [EvFr Try.prog cf Bool.false 9 ([] : List AV) (.b (s0)), ((decide ((↑(List.length l) : Int) > (64 : Int)))) = true, ((decide ((↑(List.length l) : Int) > (64 : Int)))) = true, ((decide ((↑(List.length l) : Int) > (64 : Int)))) = true, ((decide ((↑(List.length l) : Int) > (64 : Int)))) = true, ((decide ((↑(List.length l) : Int) > (64 : Int)))) = true]) (by kernel_rfl) ⟨((aw8_ok  _ h0).any.cast tq), h1, h1, h1, h1, h1, trivial⟩ tq
theorem lExtmapMany_l1 (blocks : Int) (l : List Ex) (s0 : Bool) (h0 : aw8 = some s0) (h1 : ((decide ((↑(List.length l) : Int) > (64 : Int)))) = false) (h1p : ¬ ((↑(List.length l) : Int) > (64 : Int))) (s2 : Bool) (h2 : mCheck (blocks) (l) = some s2) (h3 : ((!s2)) = true) : lExtmapMany_G blocks l (s0) :=
  leafR vw_eq (k := 300) (r := []) (hs := hz [(2, [.fres (.b (s0))]), (5, [.no]), (1, [.no]), (1, [.no]), (1, [.fres (.b (s2)), .no]), (1, [.no, .yes]), (2, [])]) (raw := (AV.b s0)) (ps := [EvFr Try.prog cf Bool.false 9 ([] : List AV) (.b (s0)), ((decide ((↑(List.length l) : Int) > (64 : Int)))) = false, ((decide ((↑(List.length l) : Int) > (64 : Int)))) = false, ((decide ((↑(List.length l) : Int) > (64 : Int)))) = false, EvFr Try.prog cf Bool.false 21 [(AV.i blocks), (AV.sl (List.length l) (List.flatMap Ex.cells l))] (.b (s2)), ((decide ((↑(List.length l) : Int) > (64 : Int)))) = false, ((decide ((↑(List.length l) : Int) > (64 : Int)))) = false, ((!s2)) = true]) (by kernel_rfl) ⟨((aw8_ok  _ h0).any.cast tq), h1, h1, h1, ((mCheck_ok (blocks) (l) _ h2).any.cast tq), h1, h1, h3, trivial⟩ tq
theorem lExtmapMany_l2 (blocks : Int) (l : List Ex) (s0 : Bool) (h0 : aw8 = some s0) (h1 : ((decide ((↑(List.length l) : Int) > (64 : Int)))) = false) (h1p : ¬ ((↑(List.length l) : Int) > (64 : Int))) (s2 : Bool) (h2 : mCheck (blocks) (l) = some s2) (h3 : ((!s2)) = false) (s4 : Int × Int) (h4 : Runs (lExtmapMany_L0_step blocks l s0 s2) (((0 : Int), (0 : Int))) s4) (h5 : ((decide (s4.2 < (↑(List.length l) : Int)))) = true) (h5p : (s4.2 < (↑(List.length l) : Int))) (h6 : (((0 : Int) ≤ s4.2) ∧ (s4.2 < (↑(List.length l) : Int)))) (h7 : ((decide ((↑(List.length (exAt l (Int.toNat s4.2)).d) : Int) > (3000 : Int)))) = true) (h7p : ((↑(List.length (exAt l (Int.toNat s4.2)).d) : Int) > (3000 : Int))) : lExtmapMany_G blocks l (s0) :=
  leafR vw_eq (k := 300) (r := []) (hs := hz [(2, [.fres (.b (s0))]), (5, [.no]), (1, [.no]), (1, [.no]), (1, [.fres (.b (s2)), .no]), (1, [.no, .no]), (2, [.head (lExtmapMany_L0_S blocks l s0 s2 s4)]), (4, [.yes]), (2, [.yes]), (1, [.yes, .val ((bys (exAt l (Int.toNat s4.2)).d))]), (2, [.yes]), (2, [])]) (raw := (AV.b s0)) (ps := [EvFr Try.prog cf Bool.false 9 ([] : List AV) (.b (s0)), ((decide ((↑(List.length l) : Int) > (64 : Int)))) = false, ((decide ((↑(List.length l) : Int) > (64 : Int)))) = false, ((decide ((↑(List.length l) : Int) > (64 : Int)))) = false, EvFr Try.prog cf Bool.false 21 [(AV.i blocks), (AV.sl (List.length l) (List.flatMap Ex.cells l))] (.b (s2)), ((decide ((↑(List.length l) : Int) > (64 : Int)))) = false, ((decide ((↑(List.length l) : Int) > (64 : Int)))) = false, ((!s2)) = false, EvHead Try.prog cf (lp Try.prog 8 0) (lExtmapMany_L0_I blocks l s0 s2) (lExtmapMany_L0_S blocks l s0 s2 s4), ((decide (s4.2 < (↑(List.length l) : Int)))) = true, (((0 : Int) ≤ s4.2) ∧ (s4.2 < (↑(List.length l) : Int))), ((1 : Nat) ≤ (List.length (List.drop 4 (List.drop ((Int.toNat s4.2) * (5 : Nat)) (List.flatMap Ex.cells l))))), (List.take 1 (List.drop 4 (List.drop ((Int.toNat s4.2) * (5 : Nat)) (List.flatMap Ex.cells l)))) = [(bys (exAt l (Int.toNat s4.2)).d)], ((decide ((↑(List.length (exAt l (Int.toNat s4.2)).d) : Int) > (3000 : Int)))) = true]) (by kernel_rfl) ⟨((aw8_ok  _ h0).any.cast tq), h1, h1, h1, ((mCheck_ok (blocks) (l) _ h2).any.cast tq), h1, h1, h3, (EvHead.of (lExtmapMany_L0_ok blocks l s0 s2) (absB_of [] [] (by kernel_rfl) (.consn (by kernel_rfl) (.eqv tq rfl) (.consn (by kernel_rfl) (.eqv tq rfl) (.consn (by kernel_rfl) (.eqv tq rfl) (.consn (by kernel_rfl) (.eqv tq rfl) (.consn (by kernel_rfl) (.eqv tq rfl) (.consn (by kernel_rfl) (.eqv tq rfl) .nil)))))) .nil) h4), h5, h6, fq, (by first | exact ex_one _ _ _ _ bq rfl | exact ex_oneA _ _ _ _ bq rfl | (simpa using ex_one (l) ((Int.toNat s4.2)) 4 _ bq rfl) | ((try simp only [List.drop_drop]); rw [show ((4 : Nat) + ((Int.toNat s4.2) * (5 : Nat))) = ((Int.toNat s4.2)) * 5 + 4 by omega]; exact ex_oneA (l) ((Int.toNat s4.2)) 4 _ bq rfl)), h7, trivial⟩ tq
theorem lExtmapMany_l3 (blocks : Int) (l : List Ex) (s0 : Bool) (h0 : aw8 = some s0) (h1 : ((decide ((↑(List.length l) : Int) > (64 : Int)))) = false) (h1p : ¬ ((↑(List.length l) : Int) > (64 : Int))) (s2 : Bool) (h2 : mCheck (blocks) (l) = some s2) (h3 : ((!s2)) = false) (s4 : Int × Int) (h4 : Runs (lExtmapMany_L0_step blocks l s0 s2) (((0 : Int), (0 : Int))) s4) (h5 : ((decide (s4.2 < (↑(List.length l) : Int)))) = false) (h5p : ¬ (s4.2 < (↑(List.length l) : Int))) (s6 : List Ex × Int) (h6 : mSince (blocks) (l) ((-(1 : Int))) = some s6) (s7 : List Ex × Int) (h7 : mSince (blocks) (l) (s4.1) = some s7) (s8 : List Ex × Int) (h8 : mRange (blocks) (l) ((0 : Int)) (blocks) = some s8) (h9 : (s0) = true) (h10 : ((s6.2 == (0 : Int))) = true) (h10p : (s6.2 = (0 : Int))) (h11 : ((s7.2 == (0 : Int))) = true) (h11p : (s7.2 = (0 : Int))) (h12 : ((s8.2 == (0 : Int))) = true) (h12p : (s8.2 = (0 : Int))) (h13 : (((↑(List.length s6.1) : Int) == (↑(List.length l) : Int))) = true) (h13p : ((↑(List.length s6.1) : Int) = (↑(List.length l) : Int))) (h14 : (((↑(List.length s7.1) : Int) == (0 : Int))) = true) (h14p : ((↑(List.length s7.1) : Int) = (0 : Int))) (h15 : (((↑(List.length s8.1) : Int) == (↑(List.length l) : Int))) = true) (h15p : ((↑(List.length s8.1) : Int) = (↑(List.length l) : Int))) (s16 : Int) (h16 : mMany (l) ((0 : Int)) = some s16) (s17 : Int) (h17 : mMany (l) ((1 : Int)) = some s17) (s18 : Int) (h18 : mMany (l) ((2 : Int)) = some s18) : lExtmapMany_G blocks l (((wr ((wr (s16 + s17)) + s18)) == blocks)) :=
  leafR vw_eq (k := 300) (r := []) (hs := hz [(2, [.fres (.b (s0))]), (5, [.no]), (1, [.no]), (1, [.no]), (1, [.fres (.b (s2)), .no]), (1, [.no, .no]), (2, [.head (lExtmapMany_L0_S blocks l s0 s2 s4)]), (4, [.no]), (3, [.fres (.tu [exs (s6.1), .i (s6.2)])]), (9, [.fres (.tu [exs (s7.1), .i (s7.2)])]), (9, [.fres (.tu [exs (s8.1), .i (s8.2)])]), (7, [.yes]), (1, [.yes]), (1, [.yes]), (1, [.yes]), (1, [.yes]), (1, [.yes]), (1, [.yes]), (1, [.yes]), (1, [.yes]), (1, [.yes]), (1, [.yes]), (1, [.yes]), (1, [.yes]), (1, [.yes]), (1, [.yes]), (1, [.yes]), (1, [.yes]), (1, [.yes]), (1, [.yes]), (1, [.yes]), (1, [.yes]), (1, [.yes]), (1, [.yes]), (1, [.yes]), (1, [.yes]), (1, [.yes]), (1, [.yes]), (1, [.fres (.i (s16)), .yes]), (1, [.yes]), (1, [.fres (.i (s17)), .yes]), (1, [.yes]), (1, [.yes]), (1, [.fres (.i (s18)), .yes]), (1, [.yes]), (1, [.yes]), (1, [.yes]), (1, [])]) (raw := (AV.b ((wr ((wr (s16 + s17)) + s18)) == blocks))) (ps := [EvFr Try.prog cf Bool.false 9 ([] : List AV) (.b (s0)), ((decide ((↑(List.length l) : Int) > (64 : Int)))) = false, ((decide ((↑(List.length l) : Int) > (64 : Int)))) = false, ((decide ((↑(List.length l) : Int) > (64 : Int)))) = false, EvFr Try.prog cf Bool.false 21 [(AV.i blocks), (AV.sl (List.length l) (List.flatMap Ex.cells l))] (.b (s2)), ((decide ((↑(List.length l) : Int) > (64 : Int)))) = false, ((decide ((↑(List.length l) : Int) > (64 : Int)))) = false, ((!s2)) = false, EvHead Try.prog cf (lp Try.prog 8 0) (lExtmapMany_L0_I blocks l s0 s2) (lExtmapMany_L0_S blocks l s0 s2 s4), ((decide (s4.2 < (↑(List.length l) : Int)))) = false, EvFr Try.prog cf Bool.false 13 [(AV.i blocks), (AV.sl (List.length l) (List.flatMap Ex.cells l)), (AV.i (-(1 : Int)))] (.tu [exs (s6.1), .i (s6.2)]), EvFr Try.prog cf Bool.false 13 [(AV.i blocks), (AV.sl (List.length l) (List.flatMap Ex.cells l)), (AV.i s4.1)] (.tu [exs (s7.1), .i (s7.2)]), EvFr Try.prog cf Bool.false 11 [(AV.i blocks), (AV.sl (List.length l) (List.flatMap Ex.cells l)), (AV.i 0), (AV.i blocks)] (.tu [exs (s8.1), .i (s8.2)]), (s0) = true, (s0) = true, (s0) = true, ((s6.2 == (0 : Int))) = true, ((s6.2 == (0 : Int))) = true, ((s6.2 == (0 : Int))) = true, ((s7.2 == (0 : Int))) = true, ((s7.2 == (0 : Int))) = true, ((s7.2 == (0 : Int))) = true, ((s8.2 == (0 : Int))) = true, ((s8.2 == (0 : Int))) = true, ((s8.2 == (0 : Int))) = true, ((s8.2 == (0 : Int))) = true, ((s8.2 == (0 : Int))) = true, ((s8.2 == (0 : Int))) = true, (((↑(List.length s6.1) : Int) == (↑(List.length l) : Int))) = true, (((↑(List.length s6.1) : Int) == (↑(List.length l) : Int))) = true, (((↑(List.length s6.1) : Int) == (↑(List.length l) : Int))) = true, (((↑(List.length s6.1) : Int) == (↑(List.length l) : Int))) = true, (((↑(List.length s7.1) : Int) == (0 : Int))) = true, (((↑(List.length s7.1) : Int) == (0 : Int))) = true, (((↑(List.length s7.1) : Int) == (0 : Int))) = true, (((↑(List.length s7.1) : Int) == (0 : Int))) = true, (((↑(List.length s7.1) : Int) == (0 : Int))) = true, (((↑(List.length s7.1) : Int) == (0 : Int))) = true, (((↑(List.length s8.1) : Int) == (↑(List.length l) : Int))) = true, (((↑(List.length s8.1) : Int) == (↑(List.length l) : Int))) = true, EvFr Try.prog cf Bool.false 16 [(AV.sl (List.length l) (List.flatMap Ex.cells l)), (AV.i 0)] (.i (s16)), (((↑(List.length s8.1) : Int) == (↑(List.length l) : Int))) = true, (((↑(List.length s8.1) : Int) == (↑(List.length l) : Int))) = true, EvFr Try.prog cf Bool.false 16 [(AV.sl (List.length l) (List.flatMap Ex.cells l)), (AV.i 1)] (.i (s17)), (((↑(List.length s8.1) : Int) == (↑(List.length l) : Int))) = true, (((↑(List.length s8.1) : Int) == (↑(List.length l) : Int))) = true, (((↑(List.length s8.1) : Int) == (↑(List.length l) : Int))) = true, EvFr Try.prog cf Bool.false 16 [(AV.sl (List.length l) (List.flatMap Ex.cells l)), (AV.i 2)] (.i (s18)), (((↑(List.length s8.1) : Int) == (↑(List.length l) : Int))) = true, (((↑(List.length s8.1) : Int) == (↑(List.length l) : Int))) = true, (((↑(List.length s8.1) : Int) == (↑(List.length l) : Int))) = true, (((↑(List.length s8.1) : Int) == (↑(List.length l) : Int))) = true]) (by kernel_rfl) ⟨((aw8_ok  _ h0).any.cast tq), h1, h1, h1, ((mCheck_ok (blocks) (l) _ h2).any.cast tq), h1, h1, h3, (EvHead.of (lExtmapMany_L0_ok blocks l s0 s2) (absB_of [] [] (by kernel_rfl) (.consn (by kernel_rfl) (.eqv tq rfl) (.consn (by kernel_rfl) (.eqv tq rfl) (.consn (by kernel_rfl) (.eqv tq rfl) (.consn (by kernel_rfl) (.eqv tq rfl) (.consn (by kernel_rfl) (.eqv tq rfl) (.consn (by kernel_rfl) (.eqv tq rfl) .nil)))))) .nil) h4), h5, ((mSince_ok (blocks) (l) ((-(1 : Int))) _ h6).cast tq), ((mSince_ok (blocks) (l) (s4.1) _ h7).cast tq), ((mRange_ok (blocks) (l) ((0 : Int)) (blocks) _ h8).cast tq), h9, h9, h9, h10, h10, h10, h11, h11, h11, h12, h12, h12, h12, h12, h12, h13, h13, h13, h13, h14, h14, h14, h14, h14, h14, h15, h15, ((mMany_ok (l) ((0 : Int)) _ h16).any.cast tq), h15, h15, ((mMany_ok (l) ((1 : Int)) _ h17).any.cast tq), h15, h15, h15, ((mMany_ok (l) ((2 : Int)) _ h18).any.cast tq), h15, h15, h15, h15, trivial⟩ tq
theorem lExtmapMany_ok (blocks : Int) (l : List Ex) (r : Bool) : lExtmapMany blocks l = some r → lExtmapMany_G blocks l r := by
  unfold lExtmapMany
  refine tc_ok (fun s0 h0 => ?_)
  refine tb_ok (fun h1 => ?_) (fun h1 => ?_)
  ·
    have h1p := of_decide_eq_true h1
    exact fun e => tl_ok (G := lExtmapMany_G blocks l) (lExtmapMany_l0 blocks l s0 h0 h1 h1p) e
  ·
    have h1p := of_decide_eq_false h1
    refine tc_ok (fun s2 h2 => ?_)
    refine tb_ok (fun h3 => ?_) (fun h3 => ?_)
    ·
      exact fun e => tl_ok (G := lExtmapMany_G blocks l) (lExtmapMany_l1 blocks l s0 h0 h1 h1p s2 h2 h3) e
    ·
      refine th_ok (fun s4 h4 => ?_)
      refine tb_ok (fun h5 => ?_) (fun h5 => ?_)
      ·
        have h5p := of_decide_eq_true h5
        refine tp_ok (fun h6 => ?_)
        refine tb_ok (fun h7 => ?_) (fun h7 => ?_)
        ·
          have h7p := of_decide_eq_true h7
          exact fun e => tl_ok (G := lExtmapMany_G blocks l) (lExtmapMany_l2 blocks l s0 h0 h1 h1p s2 h2 h3 s4 h4 h5 h5p h6 h7 h7p) e
        ·
          have h7p := of_decide_eq_false h7
          exact fun e => nomatch e
      ·
        have h5p := of_decide_eq_false h5
        refine tc_ok (fun s6 h6 => ?_)
        refine tc_ok (fun s7 h7 => ?_)
        refine tc_ok (fun s8 h8 => ?_)
        refine tb_ok (fun h9 => ?_) (fun h9 => ?_)
        ·
          refine tb_ok (fun h10 => ?_) (fun h10 => ?_)
          ·
            have h10p := eq_of_beq h10
            refine tb_ok (fun h11 => ?_) (fun h11 => ?_)
            ·
              have h11p := eq_of_beq h11
              refine tb_ok (fun h12 => ?_) (fun h12 => ?_)
              ·
                have h12p := eq_of_beq h12
                refine tb_ok (fun h13 => ?_) (fun h13 => ?_)
                ·
                  have h13p := eq_of_beq h13
                  refine tb_ok (fun h14 => ?_) (fun h14 => ?_)
                  ·
                    have h14p := eq_of_beq h14
                    refine tb_ok (fun h15 => ?_) (fun h15 => ?_)
                    ·
                      have h15p := eq_of_beq h15
                      refine tc_ok (fun s16 h16 => ?_)
                      refine tc_ok (fun s17 h17 => ?_)
                      refine tc_ok (fun s18 h18 => ?_)
                      exact fun e => tl_ok (G := lExtmapMany_G blocks l) (lExtmapMany_l3 blocks l s0 h0 h1 h1p s2 h2 h3 s4 h4 h5 h5p s6 h6 s7 h7 s8 h8 h9 h10 h10p h11 h11p h12 h12p h13 h13p h14 h14p h15 h15p s16 h16 s17 h17 s18 h18) e
                    ·
                      have h15p := ne_of_beq_false h15
                      exact fun e => nomatch e
                  ·
                    have h14p := ne_of_beq_false h14
                    exact fun e => nomatch e
                ·
                  have h13p := ne_of_beq_false h13
                  exact fun e => nomatch e
              ·
                have h12p := ne_of_beq_false h12
                exact fun e => nomatch e
            ·
              have h11p := ne_of_beq_false h11
              exact fun e => nomatch e
          ·
            have h10p := ne_of_beq_false h10
            exact fun e => nomatch e
        ·
          exact fun e => nomatch e
end Ab
end Go.Proofs.Ytphnpgdamacfmaa
