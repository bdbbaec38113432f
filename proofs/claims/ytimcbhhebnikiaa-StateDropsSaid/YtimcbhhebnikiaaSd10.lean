/- The law 'StateDrops': it returns true, and nothing that was there changes. No condition. (Part 10 of 12.) -/
import Derived.Test.YtimcbhhebnikiaaSd9
import Derived.Test.YtimcbhhebnikiaaRows
namespace Go.Proofs.Ytimcbhhebnikiaa
open Go Go.Proofs.Ytimcbhhebnikiaa.Ab
set_option linter.unusedVariables false
set_option linter.unusedSimpArgs false
set_option maxRecDepth 1000000
set_option maxHeartbeats 0
namespace Ab
noncomputable abbrev sKept_L1_I (was : List Ex) (l : List Ex) (gen : Int) (s0 : Int) : St := (St.mk [(0, (exs was)), (1, (exs l)), (2, (AV.i gen)), (15, (exs l)), (16, (AV.i (l.length : Int))), (17, (AV.i s0)), (18, (AV.b (decide (s0 < (l.length : Int))))), (19, (AV.ip (List.drop (s0.toNat * 5) (List.flatMap Ex.cells l)))), (20, (AV.ag (xc (exAt l s0.toNat)))), (8, (AV.pt 0 0)), (21, (AV.pt 0 3)), (22, (AV.i (exAt l s0.toNat).gen)), (23, (AV.i gen)), (24, (AV.b (decide ((exAt l s0.toNat).gen > gen)))), (25, (exs was)), (26, (AV.i (was.length : Int))), (27, (AV.i 0))] 73 (AH.mk 1 [(0, (AObj.cells (xc (exAt l s0.toNat))))]) Bool.false)
noncomputable abbrev sKept_L1_S (was : List Ex) (l : List Ex) (gen : Int) (s0 : Int) (s4 : Int) : St := (St.mk [(0, (exs was)), (1, (exs l)), (2, (AV.i gen)), (15, (exs l)), (16, (AV.i (l.length : Int))), (17, (AV.i s0)), (18, (AV.b (decide (s0 < (l.length : Int))))), (8, (AV.pt 0 0)), (24, (AV.b (decide ((exAt l s0.toNat).gen > gen)))), (25, (exs was)), (26, (AV.i (was.length : Int))), (27, (AV.i s4))] 73 (AH.mk 1 [(0, (AObj.cells (xc (exAt l s0.toNat))))]) Bool.false)
noncomputable def sKept_L1_step (was : List Ex) (l : List Ex) (gen : Int) (s0 : Int) (s4 : Int) : Option (Int) :=
 (tb ((decide (s4 < (was.length : Int))))
  (tp ((((0 : Int) ≤ s4) ∧ (s4 < (was.length : Int))))
   (tc (eCut ((exAt was s4.toNat)) ((exAt l s0.toNat).lba) ((exAt l s0.toNat).len)) fun s7 =>
    (tb ((!s7.2))
     (some ((wr (s4 + (1 : Int)))))
     (tc (eCut ((exAt l s0.toNat)) (s7.1.lba) (s7.1.len)) fun s9 =>
      (tb ((s9.1.kind != s7.1.kind))
       none /- exit -/
       (tb ((s9.1.gen != s7.1.gen))
        none /- exit -/
        (tb ((!(s9.1.d == s7.1.d)))
         none /- exit -/
         (some ((wr (s4 + (1 : Int))))))))))))
  none /- exit -/)
theorem sKept_L1_ok (was : List Ex) (l : List Ex) (gen : Int) (s0 : Int) (s4 zz : Int) : sKept_L1_step was l gen s0 s4 = some zz → EvStep Try.prog cf 1 (lp Try.prog 47 1) (sKept_L1_S was l gen s0 s4) (sKept_L1_S was l gen s0 zz) := by
  unfold sKept_L1_step
  refine tb_ok (fun h5 => ?_) (fun h5 => ?_)
  ·
    have h5p := of_decide_eq_true h5
    refine tp_ok (fun h6 => ?_)
    refine tc_ok (fun s7 h7 => ?_)
    refine tb_ok (fun h8 => ?_) (fun h8 => ?_)
    ·
      intro e; injection e with e; subst e
      exact leafIS vw_eq (k := 300) (r := []) (hs := hz [(1, [.yes, .yes, .yes, .cells ((Ex.cells (exAt was s4.toNat)))]), (2, [.fc]), (1, [.fc]), (7, [.fres (.tu [Ex.av (s7.1), .b (s7.2)])]), (5, [.fc]), (3, [.yes]), (2, [])]) (ks := [0, 1, 2, 15, 16, 17, 18, 8, 24, 25, 26, 27]) (bs := [0]) kq (ac h5 (ac h6 (ac (fq (p := ((5 : Nat) ≤ (List.length (List.drop (s4.toNat * 5) (List.flatMap Ex.cells was)))))) (ac (show (List.take 5 (List.drop (s4.toNat * 5) (List.flatMap Ex.cells was))) = (Ex.cells (exAt was s4.toNat)) from (ex_takeO bq bq)) (ac (eCut_ok ((exAt was s4.toNat)) ((exAt l s0.toNat).lba) ((exAt l s0.toNat).len) _ h7).any0 (ac h8 an)))))) kq
    ·
      refine tc_ok (fun s9 h9 => ?_)
      refine tb_ok (fun h10 => ?_) (fun h10 => ?_)
      ·
        have h10p := bne_iff_ne.1 h10
        exact fun e => nomatch e
      ·
        have h10p := bne_eq_false_iff_eq.1 h10
        refine tb_ok (fun h11 => ?_) (fun h11 => ?_)
        ·
          have h11p := bne_iff_ne.1 h11
          exact fun e => nomatch e
        ·
          have h11p := bne_eq_false_iff_eq.1 h11
          refine tb_ok (fun h12 => ?_) (fun h12 => ?_)
          ·
            exact fun e => nomatch e
          ·
            intro e; injection e with e; subst e
            exact leafIS vw_eq (k := 300) (r := []) (hs := hz [(1, [.yes, .yes, .yes, .cells ((Ex.cells (exAt was s4.toNat)))]), (2, [.fc]), (1, [.fc]), (7, [.fres (.tu [Ex.av (s7.1), .b (s7.2)])]), (5, [.fc]), (3, [.no]), (1, [.fc]), (7, [.fres (.tu [Ex.av (s9.1), .b (s9.2)])]), (5, [.fc]), (9, [.no]), (1, [.no]), (2, [.no]), (1, [.no]), (2, [.no]), (1, [.no]), (1, [.no]), (1, [.no]), (2, [.no]), (1, [.no]), (2, [.no]), (4, [.yes, .str (s9.1.d)]), (1, [.yes, .str (s7.1.d)]), (2, [.no]), (1, [.no, .no]), (2, [])]) (ks := [0, 1, 2, 15, 16, 17, 18, 8, 24, 25, 26, 27]) (bs := [0]) kq (ac h5 (ac h6 (ac (fq (p := ((5 : Nat) ≤ (List.length (List.drop (s4.toNat * 5) (List.flatMap Ex.cells was)))))) (ac (show (List.take 5 (List.drop (s4.toNat * 5) (List.flatMap Ex.cells was))) = (Ex.cells (exAt was s4.toNat)) from (ex_takeO bq bq)) (ac (eCut_ok ((exAt was s4.toNat)) ((exAt l s0.toNat).lba) ((exAt l s0.toNat).len) _ h7).any0 (ac h8 (ac (eCut_ok ((exAt l s0.toNat)) (s7.1.lba) (s7.1.len) _ h9).any0 (ac h10 (ac h10 (ac h10 (ac h10 (ac h10 (ac h10 (ac h11 (ac h11 (ac h11 (ac h11 (ac h11 (ac (tq (p := ((List.length (List.map AV.y s9.1.d)) = (s9.1.d.length * 1)))) (ac (tq (p := bytesOf ((List.map AV.y s9.1.d)) = some (s9.1.d))) (ac (tq (p := ((List.length (List.map AV.y s7.1.d)) = (s7.1.d.length * 1)))) (ac (tq (p := bytesOf ((List.map AV.y s7.1.d)) = some (s7.1.d))) (ac h11 (ac h11 (ac h12 an))))))))))))))))))))))))) kq
  ·
    have h5p := of_decide_eq_false h5
    exact fun e => nomatch e
noncomputable abbrev sKept_L0_I (was : List Ex) (l : List Ex) (gen : Int) : St := (St.mk [(0, (exs was)), (1, (exs l)), (2, (AV.i gen)), (6, (AV.b Bool.false)), (15, (exs l)), (16, (AV.i (l.length : Int))), (17, (AV.i 0))] 73 (AH.mk 0 ([] : List (Prod Nat AObj))) Bool.false)
noncomputable abbrev sKept_L0_S (was : List Ex) (l : List Ex) (gen : Int) (s0 : Int) : St := (St.mk [(0, (exs was)), (1, (exs l)), (2, (AV.i gen)), (15, (exs l)), (16, (AV.i (l.length : Int))), (17, (AV.i s0))] 73 (AH.mk 0 ([] : List (Prod Nat AObj))) Bool.false)
noncomputable def sKept_L0_step (was : List Ex) (l : List Ex) (gen : Int) (s0 : Int) : Option (Int) :=
 (tb ((decide (s0 < (l.length : Int))))
  (tp ((((0 : Int) ≤ s0) ∧ (s0 < (l.length : Int))))
   (tb ((decide ((exAt l s0.toNat).gen > gen)))
    (some ((wr (s0 + (1 : Int)))))
    (th (sKept_L1_step was l gen s0) ((0 : Int)) fun s4 =>
     (tb ((decide (s4 < (was.length : Int))))
      none /- dead -/
      (some ((wr (s0 + (1 : Int)))))))))
  none /- exit -/)
theorem sKept_L0_ok (was : List Ex) (l : List Ex) (gen : Int) (s0 zz : Int) : sKept_L0_step was l gen s0 = some zz → EvStep Try.prog cf 0 (lp Try.prog 47 0) (sKept_L0_S was l gen s0) (sKept_L0_S was l gen zz) := by
  unfold sKept_L0_step
  refine tb_ok (fun h1 => ?_) (fun h1 => ?_)
  ·
    have h1p := of_decide_eq_true h1
    refine tp_ok (fun h2 => ?_)
    refine tb_ok (fun h3 => ?_) (fun h3 => ?_)
    ·
      have h3p := of_decide_eq_true h3
      intro e; injection e with e; subst e
      exact leafIS vw_eq (k := 300) (r := []) (hs := hz [(1, [.yes, .yes, .yes, .cells ((Ex.cells (exAt l s0.toNat)))]), (2, [.fc]), (5, [.yes]), (2, [])]) (ks := [0, 1, 2, 15, 16, 17]) (bs := []) kq (ac h1 (ac h2 (ac (fq (p := ((5 : Nat) ≤ (List.length (List.drop (s0.toNat * 5) (List.flatMap Ex.cells l)))))) (ac (show (List.take 5 (List.drop (s0.toNat * 5) (List.flatMap Ex.cells l))) = (Ex.cells (exAt l s0.toNat)) from (ex_takeO bq bq)) (ac h3 an))))) kq
    ·
      have h3p := of_decide_eq_false h3
      refine th_ok (fun s4 h4 => ?_)
      refine tb_ok (fun h5 => ?_) (fun h5 => ?_)
      ·
        have h5p := of_decide_eq_true h5
        exact fun e => nomatch e
      ·
        have h5p := of_decide_eq_false h5
        intro e; injection e with e; subst e
        exact leafIS vw_eq (k := 300) (r := []) (hs := hz [(1, [.yes, .yes, .yes, .cells ((Ex.cells (exAt l s0.toNat)))]), (2, [.fc]), (5, [.no]), (3, [.head (sKept_L1_S was l gen s0 s4)]), (1, [.no]), (2, [])]) (ks := [0, 1, 2, 15, 16, 17]) (bs := []) kq (ac h1 (ac h2 (ac (fq (p := ((5 : Nat) ≤ (List.length (List.drop (s0.toNat * 5) (List.flatMap Ex.cells l)))))) (ac (show (List.take 5 (List.drop (s0.toNat * 5) (List.flatMap Ex.cells l))) = (Ex.cells (exAt l s0.toNat)) from (ex_takeO bq bq)) (ac h3 (ac (show EvHead Try.prog cf (lp Try.prog 47 1) (sKept_L1_I was l gen s0) (sKept_L1_S was l gen s0 s4) from (EvHead.of (sKept_L1_ok was l gen s0) (absB_of [] [] kq (.consn kq (.eqv tq rfl) (.consn kq (.eqv tq rfl) (.consn kq (.eqv tq rfl) (.consn kq (.eqv tq rfl) (.consn kq (.eqv tq rfl) (.consn kq (.eqv tq rfl) (.consn kq (.eqv tq rfl) (.consn kq (.pt rfl) (.consn kq (.eqv tq rfl) (.consn kq (.eqv tq rfl) (.consn kq (.eqv tq rfl) (.consn kq (.eqv tq rfl) .nil)))))))))))) (.cons (.old rfl rfl (.cells (.pl rfl pq))) .nil)) h4)) (ac h5 an))))))) kq
  ·
    have h1p := of_decide_eq_false h1
    exact fun e => nomatch e
noncomputable abbrev sKept_L2_I (was : List Ex) (l : List Ex) (gen : Int) (s0 : Int) : St := (St.mk [(0, (exs was)), (1, (exs l)), (2, (AV.i gen)), (15, (exs l)), (16, (AV.i (l.length : Int))), (17, (AV.i s0)), (18, (AV.b (decide (s0 < (l.length : Int))))), (19, (AV.ip (List.drop (s0.toNat * 5) (List.flatMap Ex.cells l)))), (20, (AV.ag (xc (exAt l s0.toNat)))), (8, (AV.pt 0 0)), (21, (AV.pt 0 3)), (22, (AV.i (exAt l s0.toNat).gen)), (23, (AV.i gen)), (24, (AV.b (decide ((exAt l s0.toNat).gen > gen)))), (25, (exs was)), (26, (AV.i (was.length : Int))), (27, (AV.i 0))] 73 (AH.mk 1 [(0, (AObj.cells (xc (exAt l s0.toNat))))]) Bool.false)
noncomputable abbrev sKept_L2_S (was : List Ex) (l : List Ex) (gen : Int) (s0 : Int) (s4 : Int) : St := (St.mk [(0, (exs was)), (1, (exs l)), (2, (AV.i gen)), (15, (exs l)), (16, (AV.i (l.length : Int))), (17, (AV.i s0)), (18, (AV.b (decide (s0 < (l.length : Int))))), (8, (AV.pt 0 0)), (24, (AV.b (decide ((exAt l s0.toNat).gen > gen)))), (25, (exs was)), (26, (AV.i (was.length : Int))), (27, (AV.i s4))] 73 (AH.mk 1 [(0, (AObj.cells (xc (exAt l s0.toNat))))]) Bool.false)
noncomputable def sKept_L2_step (was : List Ex) (l : List Ex) (gen : Int) (s0 : Int) (s4 : Int) : Option (Int) :=
 (tb ((decide (s4 < (was.length : Int))))
  (tp ((((0 : Int) ≤ s4) ∧ (s4 < (was.length : Int))))
   (tc (eCut ((exAt was s4.toNat)) ((exAt l s0.toNat).lba) ((exAt l s0.toNat).len)) fun s7 =>
    (tb ((!s7.2))
     (some ((wr (s4 + (1 : Int)))))
     (tc (eCut ((exAt l s0.toNat)) (s7.1.lba) (s7.1.len)) fun s9 =>
      (tb ((s9.1.kind != s7.1.kind))
       none /- exit -/
       (tb ((s9.1.gen != s7.1.gen))
        none /- exit -/
        (tb ((!(s9.1.d == s7.1.d)))
         none /- exit -/
         (some ((wr (s4 + (1 : Int))))))))))))
  none /- exit -/)
theorem sKept_L2_ok (was : List Ex) (l : List Ex) (gen : Int) (s0 : Int) (s4 zz : Int) : sKept_L2_step was l gen s0 s4 = some zz → EvStep Try.prog cf 1 (lp Try.prog 47 1) (sKept_L2_S was l gen s0 s4) (sKept_L2_S was l gen s0 zz) := by
  unfold sKept_L2_step
  refine tb_ok (fun h5 => ?_) (fun h5 => ?_)
  ·
    have h5p := of_decide_eq_true h5
    refine tp_ok (fun h6 => ?_)
    refine tc_ok (fun s7 h7 => ?_)
    refine tb_ok (fun h8 => ?_) (fun h8 => ?_)
    ·
      intro e; injection e with e; subst e
      exact leafIS vw_eq (k := 300) (r := []) (hs := hz [(1, [.yes, .yes, .yes, .cells ((Ex.cells (exAt was s4.toNat)))]), (2, [.fc]), (1, [.fc]), (7, [.fres (.tu [Ex.av (s7.1), .b (s7.2)])]), (5, [.fc]), (3, [.yes]), (2, [])]) (ks := [0, 1, 2, 15, 16, 17, 18, 8, 24, 25, 26, 27]) (bs := [0]) kq (ac h5 (ac h6 (ac (fq (p := ((5 : Nat) ≤ (List.length (List.drop (s4.toNat * 5) (List.flatMap Ex.cells was)))))) (ac (show (List.take 5 (List.drop (s4.toNat * 5) (List.flatMap Ex.cells was))) = (Ex.cells (exAt was s4.toNat)) from (ex_takeO bq bq)) (ac (eCut_ok ((exAt was s4.toNat)) ((exAt l s0.toNat).lba) ((exAt l s0.toNat).len) _ h7).any0 (ac h8 an)))))) kq
    ·
      refine tc_ok (fun s9 h9 => ?_)
      refine tb_ok (fun h10 => ?_) (fun h10 => ?_)
      ·
        have h10p := bne_iff_ne.1 h10
        exact fun e => nomatch e
      ·
        have h10p := bne_eq_false_iff_eq.1 h10
        refine tb_ok (fun h11 => ?_) (fun h11 => ?_)
        ·
          have h11p := bne_iff_ne.1 h11
          exact fun e => nomatch e
        ·
          have h11p := bne_eq_false_iff_eq.1 h11
          refine tb_ok (fun h12 => ?_) (fun h12 => ?_)
          ·
            exact fun e => nomatch e
          ·
            intro e; injection e with e; subst e
            exact leafIS vw_eq (k := 300) (r := []) (hs := hz [(1, [.yes, .yes, .yes, .cells ((Ex.cells (exAt was s4.toNat)))]), (2, [.fc]), (1, [.fc]), (7, [.fres (.tu [Ex.av (s7.1), .b (s7.2)])]), (5, [.fc]), (3, [.no]), (1, [.fc]), (7, [.fres (.tu [Ex.av (s9.1), .b (s9.2)])]), (5, [.fc]), (9, [.no]), (1, [.no]), (2, [.no]), (1, [.no]), (2, [.no]), (1, [.no]), (1, [.no]), (1, [.no]), (2, [.no]), (1, [.no]), (2, [.no]), (4, [.yes, .str (s9.1.d)]), (1, [.yes, .str (s7.1.d)]), (2, [.no]), (1, [.no, .no]), (2, [])]) (ks := [0, 1, 2, 15, 16, 17, 18, 8, 24, 25, 26, 27]) (bs := [0]) kq (ac h5 (ac h6 (ac (fq (p := ((5 : Nat) ≤ (List.length (List.drop (s4.toNat * 5) (List.flatMap Ex.cells was)))))) (ac (show (List.take 5 (List.drop (s4.toNat * 5) (List.flatMap Ex.cells was))) = (Ex.cells (exAt was s4.toNat)) from (ex_takeO bq bq)) (ac (eCut_ok ((exAt was s4.toNat)) ((exAt l s0.toNat).lba) ((exAt l s0.toNat).len) _ h7).any0 (ac h8 (ac (eCut_ok ((exAt l s0.toNat)) (s7.1.lba) (s7.1.len) _ h9).any0 (ac h10 (ac h10 (ac h10 (ac h10 (ac h10 (ac h10 (ac h11 (ac h11 (ac h11 (ac h11 (ac h11 (ac (tq (p := ((List.length (List.map AV.y s9.1.d)) = (s9.1.d.length * 1)))) (ac (tq (p := bytesOf ((List.map AV.y s9.1.d)) = some (s9.1.d))) (ac (tq (p := ((List.length (List.map AV.y s7.1.d)) = (s7.1.d.length * 1)))) (ac (tq (p := bytesOf ((List.map AV.y s7.1.d)) = some (s7.1.d))) (ac h11 (ac h11 (ac h12 an))))))))))))))))))))))))) kq
  ·
    have h5p := of_decide_eq_false h5
    exact fun e => nomatch e
/-- Function 47, as it answers. -/
noncomputable def sKept (was : List Ex) (l : List Ex) (gen : Int) : Option (Bool) :=
 (th (sKept_L0_step was l gen) ((0 : Int)) fun s0 =>
  (tb ((decide (s0 < (l.length : Int))))
   (tp ((((0 : Int) ≤ s0) ∧ (s0 < (l.length : Int))))
    (tb ((decide ((exAt l s0.toNat).gen > gen)))
     none /- stop behind an operation -/
     (th (sKept_L2_step was l gen s0) ((0 : Int)) fun s4 =>
      (tb ((decide (s4 < (was.length : Int))))
       (tp ((((0 : Int) ≤ s4) ∧ (s4 < (was.length : Int))))
        (tc (eCut ((exAt was s4.toNat)) ((exAt l s0.toNat).lba) ((exAt l s0.toNat).len)) fun s7 =>
         (tb ((!s7.2))
          none /- stop behind an operation -/
          (tc (eCut ((exAt l s0.toNat)) (s7.1.lba) (s7.1.len)) fun s9 =>
           (tb ((s9.1.kind != s7.1.kind))
            (some (Bool.false))
            (tb ((s9.1.gen != s7.1.gen))
             (some (Bool.false))
             (tb ((!(s9.1.d == s7.1.d)))
              (some (Bool.false))
              none /- stop behind an operation -/)))))))
       none /- stop behind an operation -/))))
   (some (Bool.true))))
abbrev sKept_G (was : List Ex) (l : List Ex) (gen : Int) (r : Bool) : Prop := EvFr Try.prog cf true 47 [exs (was), exs (l), .i (gen)] (.b (r))
theorem sKept_ok (was : List Ex) (l : List Ex) (gen : Int) (r : Bool) : sKept was l gen = some r → sKept_G was l gen r := by
  unfold sKept
  refine th_ok (fun s0 h0 => ?_)
  refine tb_ok (fun h1 => ?_) (fun h1 => ?_)
  ·
    have h1p := of_decide_eq_true h1
    refine tp_ok (fun h2 => ?_)
    refine tb_ok (fun h3 => ?_) (fun h3 => ?_)
    ·
      have h3p := of_decide_eq_true h3
      exact fun e => nomatch e
    ·
      have h3p := of_decide_eq_false h3
      refine th_ok (fun s4 h4 => ?_)
      refine tb_ok (fun h5 => ?_) (fun h5 => ?_)
      ·
        have h5p := of_decide_eq_true h5
        refine tp_ok (fun h6 => ?_)
        refine tc_ok (fun s7 h7 => ?_)
        refine tb_ok (fun h8 => ?_) (fun h8 => ?_)
        ·
          exact fun e => nomatch e
        ·
          refine tc_ok (fun s9 h9 => ?_)
          refine tb_ok (fun h10 => ?_) (fun h10 => ?_)
          ·
            have h10p := bne_iff_ne.1 h10
            intro e; injection e with e; subst e
            exact leafR vw_eq (k := 300) (r := []) (hs := hz [(4, [.head (sKept_L0_S was l gen s0)]), (1, [.yes, .yes, .yes, .cells ((Ex.cells (exAt l s0.toNat)))]), (2, [.fc]), (5, [.no]), (3, [.head (sKept_L2_S was l gen s0 s4)]), (1, [.yes, .yes, .yes, .cells ((Ex.cells (exAt was s4.toNat)))]), (2, [.fc]), (1, [.fc]), (7, [.fres (.tu [Ex.av (s7.1), .b (s7.2)])]), (5, [.fc]), (3, [.no]), (1, [.fc]), (7, [.fres (.tu [Ex.av (s9.1), .b (s9.2)])]), (5, [.fc]), (9, [.yes, .yes, .yes, .yes, .yes, .yes]), (10, [])]) (raw := (AV.b Bool.false)) kq (ac (show EvHead Try.prog cf (lp Try.prog 47 0) (sKept_L0_I was l gen) (sKept_L0_S was l gen s0) from (EvHead.of (sKept_L0_ok was l gen) (absB_of [] [] kq (.consn kq (.eqv tq rfl) (.consn kq (.eqv tq rfl) (.consn kq (.eqv tq rfl) (.consn kq (.eqv tq rfl) (.consn kq (.eqv tq rfl) (.consn kq (.eqv tq rfl) .nil)))))) .nil) h0)) (ac h1 (ac h2 (ac (fq (p := ((5 : Nat) ≤ (List.length (List.drop (s0.toNat * 5) (List.flatMap Ex.cells l)))))) (ac (show (List.take 5 (List.drop (s0.toNat * 5) (List.flatMap Ex.cells l))) = (Ex.cells (exAt l s0.toNat)) from (ex_takeO bq bq)) (ac h3 (ac (show EvHead Try.prog cf (lp Try.prog 47 1) (sKept_L2_I was l gen s0) (sKept_L2_S was l gen s0 s4) from (EvHead.of (sKept_L2_ok was l gen s0) (absB_of [] [] kq (.consn kq (.eqv tq rfl) (.consn kq (.eqv tq rfl) (.consn kq (.eqv tq rfl) (.consn kq (.eqv tq rfl) (.consn kq (.eqv tq rfl) (.consn kq (.eqv tq rfl) (.consn kq (.eqv tq rfl) (.consn kq (.pt rfl) (.consn kq (.eqv tq rfl) (.consn kq (.eqv tq rfl) (.consn kq (.eqv tq rfl) (.consn kq (.eqv tq rfl) .nil)))))))))))) (.cons (.old rfl rfl (.cells (.pl rfl pq))) .nil)) h4)) (ac h5 (ac h6 (ac (fq (p := ((5 : Nat) ≤ (List.length (List.drop (s4.toNat * 5) (List.flatMap Ex.cells was)))))) (ac (show (List.take 5 (List.drop (s4.toNat * 5) (List.flatMap Ex.cells was))) = (Ex.cells (exAt was s4.toNat)) from (ex_takeO bq bq)) (ac (eCut_ok ((exAt was s4.toNat)) ((exAt l s0.toNat).lba) ((exAt l s0.toNat).len) _ h7).any0 (ac h8 (ac (eCut_ok ((exAt l s0.toNat)) (s7.1.lba) (s7.1.len) _ h9).any0 (ac h10 (ac h10 (ac h10 (ac h10 (ac h10 (ac h10 an)))))))))))))))))))) tq
          ·
            have h10p := bne_eq_false_iff_eq.1 h10
            refine tb_ok (fun h11 => ?_) (fun h11 => ?_)
            ·
              have h11p := bne_iff_ne.1 h11
              intro e; injection e with e; subst e
              exact leafR vw_eq (k := 300) (r := []) (hs := hz [(4, [.head (sKept_L0_S was l gen s0)]), (1, [.yes, .yes, .yes, .cells ((Ex.cells (exAt l s0.toNat)))]), (2, [.fc]), (5, [.no]), (3, [.head (sKept_L2_S was l gen s0 s4)]), (1, [.yes, .yes, .yes, .cells ((Ex.cells (exAt was s4.toNat)))]), (2, [.fc]), (1, [.fc]), (7, [.fres (.tu [Ex.av (s7.1), .b (s7.2)])]), (5, [.fc]), (3, [.no]), (1, [.fc]), (7, [.fres (.tu [Ex.av (s9.1), .b (s9.2)])]), (5, [.fc]), (9, [.no]), (1, [.no]), (2, [.no]), (1, [.no]), (2, [.no]), (1, [.no]), (1, [.yes, .yes, .yes, .yes, .yes, .yes, .yes]), (2, [])]) (raw := (AV.b Bool.false)) kq (ac (show EvHead Try.prog cf (lp Try.prog 47 0) (sKept_L0_I was l gen) (sKept_L0_S was l gen s0) from (EvHead.of (sKept_L0_ok was l gen) (absB_of [] [] kq (.consn kq (.eqv tq rfl) (.consn kq (.eqv tq rfl) (.consn kq (.eqv tq rfl) (.consn kq (.eqv tq rfl) (.consn kq (.eqv tq rfl) (.consn kq (.eqv tq rfl) .nil)))))) .nil) h0)) (ac h1 (ac h2 (ac (fq (p := ((5 : Nat) ≤ (List.length (List.drop (s0.toNat * 5) (List.flatMap Ex.cells l)))))) (ac (show (List.take 5 (List.drop (s0.toNat * 5) (List.flatMap Ex.cells l))) = (Ex.cells (exAt l s0.toNat)) from (ex_takeO bq bq)) (ac h3 (ac (show EvHead Try.prog cf (lp Try.prog 47 1) (sKept_L2_I was l gen s0) (sKept_L2_S was l gen s0 s4) from (EvHead.of (sKept_L2_ok was l gen s0) (absB_of [] [] kq (.consn kq (.eqv tq rfl) (.consn kq (.eqv tq rfl) (.consn kq (.eqv tq rfl) (.consn kq (.eqv tq rfl) (.consn kq (.eqv tq rfl) (.consn kq (.eqv tq rfl) (.consn kq (.eqv tq rfl) (.consn kq (.pt rfl) (.consn kq (.eqv tq rfl) (.consn kq (.eqv tq rfl) (.consn kq (.eqv tq rfl) (.consn kq (.eqv tq rfl) .nil)))))))))))) (.cons (.old rfl rfl (.cells (.pl rfl pq))) .nil)) h4)) (ac h5 (ac h6 (ac (fq (p := ((5 : Nat) ≤ (List.length (List.drop (s4.toNat * 5) (List.flatMap Ex.cells was)))))) (ac (show (List.take 5 (List.drop (s4.toNat * 5) (List.flatMap Ex.cells was))) = (Ex.cells (exAt was s4.toNat)) from (ex_takeO bq bq)) (ac (eCut_ok ((exAt was s4.toNat)) ((exAt l s0.toNat).lba) ((exAt l s0.toNat).len) _ h7).any0 (ac h8 (ac (eCut_ok ((exAt l s0.toNat)) (s7.1.lba) (s7.1.len) _ h9).any0 (ac h10 (ac h10 (ac h10 (ac h10 (ac h10 (ac h10 (ac h11 (ac h11 (ac h11 (ac h11 (ac h11 (ac h11 (ac h11 an))))))))))))))))))))))))))) tq
            ·
              have h11p := bne_eq_false_iff_eq.1 h11
              refine tb_ok (fun h12 => ?_) (fun h12 => ?_)
              ·
                intro e; injection e with e; subst e
                exact leafR vw_eq (k := 300) (r := []) (hs := hz [(4, [.head (sKept_L0_S was l gen s0)]), (1, [.yes, .yes, .yes, .cells ((Ex.cells (exAt l s0.toNat)))]), (2, [.fc]), (5, [.no]), (3, [.head (sKept_L2_S was l gen s0 s4)]), (1, [.yes, .yes, .yes, .cells ((Ex.cells (exAt was s4.toNat)))]), (2, [.fc]), (1, [.fc]), (7, [.fres (.tu [Ex.av (s7.1), .b (s7.2)])]), (5, [.fc]), (3, [.no]), (1, [.fc]), (7, [.fres (.tu [Ex.av (s9.1), .b (s9.2)])]), (5, [.fc]), (9, [.no]), (1, [.no]), (2, [.no]), (1, [.no]), (2, [.no]), (1, [.no]), (1, [.no]), (1, [.no]), (2, [.no]), (1, [.no]), (2, [.no]), (4, [.yes, .str (s9.1.d)]), (1, [.yes, .str (s7.1.d)]), (2, [.no]), (1, [.no, .yes]), (1, [])]) (raw := (AV.b Bool.false)) kq (ac (show EvHead Try.prog cf (lp Try.prog 47 0) (sKept_L0_I was l gen) (sKept_L0_S was l gen s0) from (EvHead.of (sKept_L0_ok was l gen) (absB_of [] [] kq (.consn kq (.eqv tq rfl) (.consn kq (.eqv tq rfl) (.consn kq (.eqv tq rfl) (.consn kq (.eqv tq rfl) (.consn kq (.eqv tq rfl) (.consn kq (.eqv tq rfl) .nil)))))) .nil) h0)) (ac h1 (ac h2 (ac (fq (p := ((5 : Nat) ≤ (List.length (List.drop (s0.toNat * 5) (List.flatMap Ex.cells l)))))) (ac (show (List.take 5 (List.drop (s0.toNat * 5) (List.flatMap Ex.cells l))) = (Ex.cells (exAt l s0.toNat)) from (ex_takeO bq bq)) (ac h3 (ac (show EvHead Try.prog cf (lp Try.prog 47 1) (sKept_L2_I was l gen s0) (sKept_L2_S was l gen s0 s4) from (EvHead.of (sKept_L2_ok was l gen s0) (absB_of [] [] kq (.consn kq (.eqv tq rfl) (.consn kq (.eqv tq rfl) (.consn kq (.eqv tq rfl) (.consn kq (.eqv tq rfl) (.consn kq (.eqv tq rfl) (.consn kq (.eqv tq rfl) (.consn kq (.eqv tq rfl) (.consn kq (.pt rfl) (.consn kq (.eqv tq rfl) (.consn kq (.eqv tq rfl) (.consn kq (.eqv tq rfl) (.consn kq (.eqv tq rfl) .nil)))))))))))) (.cons (.old rfl rfl (.cells (.pl rfl pq))) .nil)) h4)) (ac h5 (ac h6 (ac (fq (p := ((5 : Nat) ≤ (List.length (List.drop (s4.toNat * 5) (List.flatMap Ex.cells was)))))) (ac (show (List.take 5 (List.drop (s4.toNat * 5) (List.flatMap Ex.cells was))) = (Ex.cells (exAt was s4.toNat)) from (ex_takeO bq bq)) (ac (eCut_ok ((exAt was s4.toNat)) ((exAt l s0.toNat).lba) ((exAt l s0.toNat).len) _ h7).any0 (ac h8 (ac (eCut_ok ((exAt l s0.toNat)) (s7.1.lba) (s7.1.len) _ h9).any0 (ac h10 (ac h10 (ac h10 (ac h10 (ac h10 (ac h10 (ac h11 (ac h11 (ac h11 (ac h11 (ac h11 (ac (tq (p := ((List.length (List.map AV.y s9.1.d)) = (s9.1.d.length * 1)))) (ac (tq (p := bytesOf ((List.map AV.y s9.1.d)) = some (s9.1.d))) (ac (tq (p := ((List.length (List.map AV.y s7.1.d)) = (s7.1.d.length * 1)))) (ac (tq (p := bytesOf ((List.map AV.y s7.1.d)) = some (s7.1.d))) (ac h11 (ac h11 (ac h12 an)))))))))))))))))))))))))))))))) tq
              ·
                exact fun e => nomatch e
      ·
        have h5p := of_decide_eq_false h5
        exact fun e => nomatch e
  ·
    have h1p := of_decide_eq_false h1
    intro e; injection e with e; subst e
    exact leafR vw_eq (k := 300) (r := []) (hs := hz [(4, [.head (sKept_L0_S was l gen s0)]), (1, [.no]), (1, [])]) (raw := (AV.b Bool.true)) kq (ac (show EvHead Try.prog cf (lp Try.prog 47 0) (sKept_L0_I was l gen) (sKept_L0_S was l gen s0) from (EvHead.of (sKept_L0_ok was l gen) (absB_of [] [] kq (.consn kq (.eqv tq rfl) (.consn kq (.eqv tq rfl) (.consn kq (.eqv tq rfl) (.consn kq (.eqv tq rfl) (.consn kq (.eqv tq rfl) (.consn kq (.eqv tq rfl) .nil)))))) .nil) h0)) (ac h1 an)) tq
noncomputable abbrev sCheck_L0_I (s : Sa) (s0 : Bool) (s2 : Bool) (s5 : Bool) : St := (St.mk [(0, (AV.ag [(AV.i s.blocks), (AV.i s.gen), (exs s.map), (AV.sl s.points.length (List.flatMap Po.cells s.points)), (AV.i s.last), (bys s.staged)])), (1, (AV.pt 0 0)), (2, (AV.i 0)), (7, (AV.pt 0 0)), (8, (AV.i s.blocks)), (9, (AV.pt 0 2)), (10, (exs s.map)), (11, (AV.pt 0 1)), (12, (AV.i s.gen)), (13, (AV.b s0)), (14, (AV.b s0)), (15, (AV.pt 0 1)), (16, (AV.i s.gen)), (17, (AV.b s2)), (18, (AV.b s2)), (19, (AV.b s2)), (20, (AV.pt 0 3)), (21, (AV.sl s.points.length (List.flatMap Po.cells s.points))), (22, (AV.i (s.points.length : Int))), (23, (AV.b (decide ((s.points.length : Int) ≤ (4 : Int))))), (24, (AV.b (decide ((s.points.length : Int) ≤ (4 : Int))))), (25, (AV.b (decide ((s.points.length : Int) ≤ (4 : Int))))), (26, (AV.pt 0 4)), (27, (AV.i s.last)), (28, (AV.b s5)), (29, (AV.b s5)), (30, (AV.b s5)), (31, (AV.pt 0 5)), (32, (bys s.staged)), (33, (AV.i (s.staged.length : Int))), (34, (AV.b (decide ((s.staged.length : Int) ≤ (4000 : Int))))), (35, (AV.b (decide ((s.staged.length : Int) ≤ (4000 : Int))))), (3, (AV.b (decide ((s.staged.length : Int) ≤ (4000 : Int))))), (4, (AV.pt 1 0)), (36, (AV.pt 0 3)), (37, (AV.sl s.points.length (List.flatMap Po.cells s.points))), (38, (AV.i (s.points.length : Int))), (39, (AV.i 0))] 104 (AH.mk 2 [(1, (AObj.cells [(AV.i 0), (AV.i 0), AV.nl])), (0, (AObj.cells [(AV.i s.blocks), (AV.i s.gen), (exs s.map), (AV.sl s.points.length (List.flatMap Po.cells s.points)), (AV.i s.last), (bys s.staged)]))]) Bool.false)
noncomputable abbrev sCheck_L0_S (s : Sa) (s0 : Bool) (s2 : Bool) (s5 : Bool) (s7 : Bool × Int × Int × Int × List Ex) : St := (St.mk [(0, (AV.ag [(AV.i s.blocks), (AV.i s.gen), (exs s.map), (AV.sl s.points.length (List.flatMap Po.cells s.points)), (AV.i s.last), (bys s.staged)])), (1, (AV.pt 0 0)), (2, (AV.i 0)), (3, (AV.b s7.1)), (4, (AV.pt 1 0)), (37, (AV.sl s.points.length (List.flatMap Po.cells s.points))), (38, (AV.i (s.points.length : Int))), (39, (AV.i s7.2.1))] 104 (AH.mk 2 [(1, (AObj.cells [(AV.i s7.2.2.1), (AV.i s7.2.2.2.1), (exs s7.2.2.2.2)])), (0, (AObj.cells [(AV.i s.blocks), (AV.i s.gen), (exs s.map), (AV.sl s.points.length (List.flatMap Po.cells s.points)), (AV.i s.last), (bys s.staged)]))]) Bool.false)
noncomputable def sCheck_L0_step (s : Sa) (s0 : Bool) (s2 : Bool) (s5 : Bool) (s7 : Bool × Int × Int × Int × List Ex) : Option (Bool × Int × Int × Int × List Ex) :=
 (tb ((decide (s7.2.1 < (s.points.length : Int))))
  (tp ((((0 : Int) ≤ s7.2.1) ∧ (s7.2.1 < (s.points.length : Int))))
   (tb (s7.1)
    (tc (sUpto (s.blocks) ((poAt s.points s7.2.1.toNat).map) ((poAt s.points s7.2.1.toNat).gen)) fun s11 =>
     (tb (s11)
      (tb ((decide ((poAt s.points s7.2.1.toNat).id > s7.2.2.1)))
       (tb ((decide ((poAt s.points s7.2.1.toNat).id ≤ s.last)))
        (tb ((decide ((poAt s.points s7.2.1.toNat).gen > s7.2.2.2.1)))
         (tb ((decide ((poAt s.points s7.2.1.toNat).gen < s.gen)))
          (tc (sKept (s7.2.2.2.2) ((poAt s.points s7.2.1.toNat).map) (s7.2.2.2.1)) fun s17 =>
           (some ((s17, ((wr (s7.2.1 + (1 : Int))), ((poAt s.points s7.2.1.toNat).id, ((poAt s.points s7.2.1.toNat).gen, (poAt s.points s7.2.1.toNat).map)))))))
          (some ((Bool.false, ((wr (s7.2.1 + (1 : Int))), ((poAt s.points s7.2.1.toNat).id, ((poAt s.points s7.2.1.toNat).gen, (poAt s.points s7.2.1.toNat).map)))))))
         (some ((Bool.false, ((wr (s7.2.1 + (1 : Int))), ((poAt s.points s7.2.1.toNat).id, ((poAt s.points s7.2.1.toNat).gen, (poAt s.points s7.2.1.toNat).map)))))))
        (some ((Bool.false, ((wr (s7.2.1 + (1 : Int))), ((poAt s.points s7.2.1.toNat).id, ((poAt s.points s7.2.1.toNat).gen, (poAt s.points s7.2.1.toNat).map)))))))
       (some ((Bool.false, ((wr (s7.2.1 + (1 : Int))), ((poAt s.points s7.2.1.toNat).id, ((poAt s.points s7.2.1.toNat).gen, (poAt s.points s7.2.1.toNat).map)))))))
      (some ((Bool.false, ((wr (s7.2.1 + (1 : Int))), ((poAt s.points s7.2.1.toNat).id, ((poAt s.points s7.2.1.toNat).gen, (poAt s.points s7.2.1.toNat).map))))))))
    (some ((Bool.false, ((wr (s7.2.1 + (1 : Int))), ((poAt s.points s7.2.1.toNat).id, ((poAt s.points s7.2.1.toNat).gen, (poAt s.points s7.2.1.toNat).map))))))))
  none /- exit -/)
theorem sCheck_L0_ok (s : Sa) (s0 : Bool) (s2 : Bool) (s5 : Bool) (s7 zz : Bool × Int × Int × Int × List Ex) : sCheck_L0_step s s0 s2 s5 s7 = some zz → EvStep Try.prog cf 2 (lp Try.prog 21 0) (sCheck_L0_S s s0 s2 s5 s7) (sCheck_L0_S s s0 s2 s5 zz) := by
  unfold sCheck_L0_step
  refine tb_ok (fun h8 => ?_) (fun h8 => ?_)
  ·
    have h8p := of_decide_eq_true h8
    refine tp_ok (fun h9 => ?_)
    refine tb_ok (fun h10 => ?_) (fun h10 => ?_)
    ·
      refine tc_ok (fun s11 h11 => ?_)
      refine tb_ok (fun h12 => ?_) (fun h12 => ?_)
      ·
        refine tb_ok (fun h13 => ?_) (fun h13 => ?_)
        ·
          have h13p := of_decide_eq_true h13
          refine tb_ok (fun h14 => ?_) (fun h14 => ?_)
          ·
            have h14p := of_decide_eq_true h14
            refine tb_ok (fun h15 => ?_) (fun h15 => ?_)
            ·
              have h15p := of_decide_eq_true h15
              refine tb_ok (fun h16 => ?_) (fun h16 => ?_)
              ·
                have h16p := of_decide_eq_true h16
                refine tc_ok (fun s17 h17 => ?_)
                intro e; injection e with e; subst e
                exact leafIS vw_eq (k := 300) (r := []) (hs := hz [(1, [.yes, .yes, .yes, .cells ((Po.cells (poAt s.points s7.2.1.toNat)))]), (2, [.fc]), (2, [.yes]), (1, [.yes]), (2, [.yes]), (1, [.yes]), (2, [.yes]), (1, [.yes]), (2, [.yes]), (1, [.fres (.b (s11)), .yes]), (1, [.yes]), (1, [.yes]), (2, [.yes]), (1, [.yes]), (2, [.yes]), (1, [.yes]), (1, [.yes]), (1, [.yes]), (2, [.yes]), (1, [.yes]), (2, [.yes]), (1, [.yes]), (1, [.yes]), (1, [.yes]), (2, [.yes]), (1, [.yes]), (2, [.yes]), (1, [.yes]), (1, [.yes]), (1, [.yes]), (2, [.yes]), (1, [.yes]), (2, [.yes]), (1, [.yes]), (1, [.yes]), (1, [.yes]), (2, [.yes]), (1, [.yes]), (2, [.yes]), (1, [.yes]), (2, [.yes]), (1, [.fres (.b (s17)), .yes]), (2, [.fc]), (1, [.fc]), (2, [])]) (ks := [0, 1, 2, 3, 4, 37, 38, 39]) (bs := [1, 0]) kq (ac h8 (ac h9 (ac (fq (p := ((3 : Nat) ≤ (List.length (List.drop (s7.2.1.toNat * 3) (List.flatMap Po.cells s.points)))))) (ac (show (List.take 3 (List.drop (s7.2.1.toNat * 3) (List.flatMap Po.cells s.points))) = (Po.cells (poAt s.points s7.2.1.toNat)) from (po_takeO bq bq)) (ac h10 (ac h10 (ac h10 (ac h10 (ac h10 (ac h10 (ac h10 (ac (sUpto_ok (s.blocks) ((poAt s.points s7.2.1.toNat).map) ((poAt s.points s7.2.1.toNat).gen) _ h11).any0 (ac h10 (ac h12 (ac h12 (ac h12 (ac h12 (ac h12 (ac h12 (ac h13 (ac h13 (ac h13 (ac h13 (ac h13 (ac h13 (ac h14 (ac h14 (ac h14 (ac h14 (ac h14 (ac h14 (ac h15 (ac h15 (ac h15 (ac h15 (ac h15 (ac h15 (ac h16 (ac h16 (ac h16 (ac h16 (ac h16 (ac h16 (ac h16 (ac (sKept_ok (s7.2.2.2.2) ((poAt s.points s7.2.1.toNat).map) (s7.2.2.2.1) _ h17).any0 (ac h16 an)))))))))))))))))))))))))))))))))))))))))))))) kq
              ·
                have h16p := of_decide_eq_false h16
                intro e; injection e with e; subst e
                exact leafIS vw_eq (k := 300) (r := []) (hs := hz [(1, [.yes, .yes, .yes, .cells ((Po.cells (poAt s.points s7.2.1.toNat)))]), (2, [.fc]), (2, [.yes]), (1, [.yes]), (2, [.yes]), (1, [.yes]), (2, [.yes]), (1, [.yes]), (2, [.yes]), (1, [.fres (.b (s11)), .yes]), (1, [.yes]), (1, [.yes]), (2, [.yes]), (1, [.yes]), (2, [.yes]), (1, [.yes]), (1, [.yes]), (1, [.yes]), (2, [.yes]), (1, [.yes]), (2, [.yes]), (1, [.yes]), (1, [.yes]), (1, [.yes]), (2, [.yes]), (1, [.yes]), (2, [.yes]), (1, [.yes]), (1, [.yes]), (1, [.yes]), (2, [.yes]), (1, [.yes]), (2, [.yes]), (1, [.yes]), (1, [.no, .no, .no, .no, .no, .no, .no, .no]), (2, [.fc]), (1, [.fc]), (2, [])]) (ks := [0, 1, 2, 3, 4, 37, 38, 39]) (bs := [1, 0]) kq (ac h8 (ac h9 (ac (fq (p := ((3 : Nat) ≤ (List.length (List.drop (s7.2.1.toNat * 3) (List.flatMap Po.cells s.points)))))) (ac (show (List.take 3 (List.drop (s7.2.1.toNat * 3) (List.flatMap Po.cells s.points))) = (Po.cells (poAt s.points s7.2.1.toNat)) from (po_takeO bq bq)) (ac h10 (ac h10 (ac h10 (ac h10 (ac h10 (ac h10 (ac h10 (ac (sUpto_ok (s.blocks) ((poAt s.points s7.2.1.toNat).map) ((poAt s.points s7.2.1.toNat).gen) _ h11).any0 (ac h10 (ac h12 (ac h12 (ac h12 (ac h12 (ac h12 (ac h12 (ac h13 (ac h13 (ac h13 (ac h13 (ac h13 (ac h13 (ac h14 (ac h14 (ac h14 (ac h14 (ac h14 (ac h14 (ac h15 (ac h15 (ac h15 (ac h15 (ac h15 (ac h15 (ac h16 (ac h16 (ac h16 (ac h16 (ac h16 (ac h16 (ac h16 (ac h16 an))))))))))))))))))))))))))))))))))))))))))))) kq
            ·
              have h15p := of_decide_eq_false h15
              intro e; injection e with e; subst e
              exact leafIS vw_eq (k := 300) (r := []) (hs := hz [(1, [.yes, .yes, .yes, .cells ((Po.cells (poAt s.points s7.2.1.toNat)))]), (2, [.fc]), (2, [.yes]), (1, [.yes]), (2, [.yes]), (1, [.yes]), (2, [.yes]), (1, [.yes]), (2, [.yes]), (1, [.fres (.b (s11)), .yes]), (1, [.yes]), (1, [.yes]), (2, [.yes]), (1, [.yes]), (2, [.yes]), (1, [.yes]), (1, [.yes]), (1, [.yes]), (2, [.yes]), (1, [.yes]), (2, [.yes]), (1, [.yes]), (1, [.yes]), (1, [.yes]), (2, [.yes]), (1, [.yes]), (2, [.yes]), (1, [.yes]), (1, [.no, .no, .no, .no, .no, .no]), (11, [.fc]), (1, [.fc]), (2, [])]) (ks := [0, 1, 2, 3, 4, 37, 38, 39]) (bs := [1, 0]) kq (ac h8 (ac h9 (ac (fq (p := ((3 : Nat) ≤ (List.length (List.drop (s7.2.1.toNat * 3) (List.flatMap Po.cells s.points)))))) (ac (show (List.take 3 (List.drop (s7.2.1.toNat * 3) (List.flatMap Po.cells s.points))) = (Po.cells (poAt s.points s7.2.1.toNat)) from (po_takeO bq bq)) (ac h10 (ac h10 (ac h10 (ac h10 (ac h10 (ac h10 (ac h10 (ac (sUpto_ok (s.blocks) ((poAt s.points s7.2.1.toNat).map) ((poAt s.points s7.2.1.toNat).gen) _ h11).any0 (ac h10 (ac h12 (ac h12 (ac h12 (ac h12 (ac h12 (ac h12 (ac h13 (ac h13 (ac h13 (ac h13 (ac h13 (ac h13 (ac h14 (ac h14 (ac h14 (ac h14 (ac h14 (ac h14 (ac h15 (ac h15 (ac h15 (ac h15 (ac h15 (ac h15 an))))))))))))))))))))))))))))))))))))) kq
          ·
            have h14p := of_decide_eq_false h14
            intro e; injection e with e; subst e
            exact leafIS vw_eq (k := 300) (r := []) (hs := hz [(1, [.yes, .yes, .yes, .cells ((Po.cells (poAt s.points s7.2.1.toNat)))]), (2, [.fc]), (2, [.yes]), (1, [.yes]), (2, [.yes]), (1, [.yes]), (2, [.yes]), (1, [.yes]), (2, [.yes]), (1, [.fres (.b (s11)), .yes]), (1, [.yes]), (1, [.yes]), (2, [.yes]), (1, [.yes]), (2, [.yes]), (1, [.yes]), (1, [.yes]), (1, [.yes]), (2, [.yes]), (1, [.yes]), (2, [.yes]), (1, [.yes]), (1, [.no, .no, .no, .no, .no, .no]), (18, [.fc]), (1, [.fc]), (2, [])]) (ks := [0, 1, 2, 3, 4, 37, 38, 39]) (bs := [1, 0]) kq (ac h8 (ac h9 (ac (fq (p := ((3 : Nat) ≤ (List.length (List.drop (s7.2.1.toNat * 3) (List.flatMap Po.cells s.points)))))) (ac (show (List.take 3 (List.drop (s7.2.1.toNat * 3) (List.flatMap Po.cells s.points))) = (Po.cells (poAt s.points s7.2.1.toNat)) from (po_takeO bq bq)) (ac h10 (ac h10 (ac h10 (ac h10 (ac h10 (ac h10 (ac h10 (ac (sUpto_ok (s.blocks) ((poAt s.points s7.2.1.toNat).map) ((poAt s.points s7.2.1.toNat).gen) _ h11).any0 (ac h10 (ac h12 (ac h12 (ac h12 (ac h12 (ac h12 (ac h12 (ac h13 (ac h13 (ac h13 (ac h13 (ac h13 (ac h13 (ac h14 (ac h14 (ac h14 (ac h14 (ac h14 (ac h14 an))))))))))))))))))))))))))))))) kq
        ·
          have h13p := of_decide_eq_false h13
          intro e; injection e with e; subst e
          exact leafIS vw_eq (k := 300) (r := []) (hs := hz [(1, [.yes, .yes, .yes, .cells ((Po.cells (poAt s.points s7.2.1.toNat)))]), (2, [.fc]), (2, [.yes]), (1, [.yes]), (2, [.yes]), (1, [.yes]), (2, [.yes]), (1, [.yes]), (2, [.yes]), (1, [.fres (.b (s11)), .yes]), (1, [.yes]), (1, [.yes]), (2, [.yes]), (1, [.yes]), (2, [.yes]), (1, [.yes]), (1, [.no, .no, .no, .no, .no, .no]), (25, [.fc]), (1, [.fc]), (2, [])]) (ks := [0, 1, 2, 3, 4, 37, 38, 39]) (bs := [1, 0]) kq (ac h8 (ac h9 (ac (fq (p := ((3 : Nat) ≤ (List.length (List.drop (s7.2.1.toNat * 3) (List.flatMap Po.cells s.points)))))) (ac (show (List.take 3 (List.drop (s7.2.1.toNat * 3) (List.flatMap Po.cells s.points))) = (Po.cells (poAt s.points s7.2.1.toNat)) from (po_takeO bq bq)) (ac h10 (ac h10 (ac h10 (ac h10 (ac h10 (ac h10 (ac h10 (ac (sUpto_ok (s.blocks) ((poAt s.points s7.2.1.toNat).map) ((poAt s.points s7.2.1.toNat).gen) _ h11).any0 (ac h10 (ac h12 (ac h12 (ac h12 (ac h12 (ac h12 (ac h12 (ac h13 (ac h13 (ac h13 (ac h13 (ac h13 (ac h13 an))))))))))))))))))))))))) kq
      ·
        intro e; injection e with e; subst e
        exact leafIS vw_eq (k := 300) (r := []) (hs := hz [(1, [.yes, .yes, .yes, .cells ((Po.cells (poAt s.points s7.2.1.toNat)))]), (2, [.fc]), (2, [.yes]), (1, [.yes]), (2, [.yes]), (1, [.yes]), (2, [.yes]), (1, [.yes]), (2, [.yes]), (1, [.fres (.b (s11)), .yes]), (1, [.no, .no, .no, .no, .no, .no]), (32, [.fc]), (1, [.fc]), (2, [])]) (ks := [0, 1, 2, 3, 4, 37, 38, 39]) (bs := [1, 0]) kq (ac h8 (ac h9 (ac (fq (p := ((3 : Nat) ≤ (List.length (List.drop (s7.2.1.toNat * 3) (List.flatMap Po.cells s.points)))))) (ac (show (List.take 3 (List.drop (s7.2.1.toNat * 3) (List.flatMap Po.cells s.points))) = (Po.cells (poAt s.points s7.2.1.toNat)) from (po_takeO bq bq)) (ac h10 (ac h10 (ac h10 (ac h10 (ac h10 (ac h10 (ac h10 (ac (sUpto_ok (s.blocks) ((poAt s.points s7.2.1.toNat).map) ((poAt s.points s7.2.1.toNat).gen) _ h11).any0 (ac h10 (ac h12 (ac h12 (ac h12 (ac h12 (ac h12 (ac h12 an))))))))))))))))))) kq
    ·
      intro e; injection e with e; subst e
      exact leafIS vw_eq (k := 300) (r := []) (hs := hz [(1, [.yes, .yes, .yes, .cells ((Po.cells (poAt s.points s7.2.1.toNat)))]), (2, [.fc]), (2, [.no, .no, .no, .no, .no, .no, .no, .no]), (39, [.fc]), (1, [.fc]), (2, [])]) (ks := [0, 1, 2, 3, 4, 37, 38, 39]) (bs := [1, 0]) kq (ac h8 (ac h9 (ac (fq (p := ((3 : Nat) ≤ (List.length (List.drop (s7.2.1.toNat * 3) (List.flatMap Po.cells s.points)))))) (ac (show (List.take 3 (List.drop (s7.2.1.toNat * 3) (List.flatMap Po.cells s.points))) = (Po.cells (poAt s.points s7.2.1.toNat)) from (po_takeO bq bq)) (ac h10 (ac h10 (ac h10 (ac h10 (ac h10 (ac h10 (ac h10 (ac h10 an)))))))))))) kq
  ·
    have h8p := of_decide_eq_false h8
    exact fun e => nomatch e
noncomputable abbrev sCheck_L1_I (s : Sa) (s0 : Bool) (s2 : Bool) (s5 : Bool) : St := (St.mk [(0, (AV.ag [(AV.i s.blocks), (AV.i s.gen), (exs s.map), (AV.sl s.points.length (List.flatMap Po.cells s.points)), (AV.i s.last), (bys s.staged)])), (1, (AV.pt 0 0)), (2, (AV.i 0)), (7, (AV.pt 0 0)), (8, (AV.i s.blocks)), (9, (AV.pt 0 2)), (10, (exs s.map)), (11, (AV.pt 0 1)), (12, (AV.i s.gen)), (13, (AV.b s0)), (14, (AV.b s0)), (15, (AV.pt 0 1)), (16, (AV.i s.gen)), (17, (AV.b s2)), (18, (AV.b s2)), (19, (AV.b s2)), (20, (AV.pt 0 3)), (21, (AV.sl s.points.length (List.flatMap Po.cells s.points))), (22, (AV.i (s.points.length : Int))), (23, (AV.b (decide ((s.points.length : Int) ≤ (4 : Int))))), (24, (AV.b (decide ((s.points.length : Int) ≤ (4 : Int))))), (25, (AV.b (decide ((s.points.length : Int) ≤ (4 : Int))))), (26, (AV.pt 0 4)), (27, (AV.i s.last)), (28, (AV.b s5)), (29, (AV.b s5)), (30, (AV.b s5)), (31, (AV.tu ([] : List AV))), (32, (AV.tu ([] : List AV))), (33, (AV.tu ([] : List AV))), (34, (AV.tu ([] : List AV))), (35, (AV.b Bool.false)), (3, (AV.b Bool.false)), (4, (AV.pt 1 0)), (36, (AV.pt 0 3)), (37, (AV.sl s.points.length (List.flatMap Po.cells s.points))), (38, (AV.i (s.points.length : Int))), (39, (AV.i 0))] 104 (AH.mk 2 [(1, (AObj.cells [(AV.i 0), (AV.i 0), AV.nl])), (0, (AObj.cells [(AV.i s.blocks), (AV.i s.gen), (exs s.map), (AV.sl s.points.length (List.flatMap Po.cells s.points)), (AV.i s.last), (bys s.staged)]))]) Bool.false)
noncomputable abbrev sCheck_L1_S (s : Sa) (s0 : Bool) (s2 : Bool) (s5 : Bool) (s7 : Int × Int × Int × List Ex) : St := (St.mk [(0, (AV.ag [(AV.i s.blocks), (AV.i s.gen), (exs s.map), (AV.sl s.points.length (List.flatMap Po.cells s.points)), (AV.i s.last), (bys s.staged)])), (1, (AV.pt 0 0)), (2, (AV.i 0)), (3, (AV.b Bool.false)), (4, (AV.pt 1 0)), (37, (AV.sl s.points.length (List.flatMap Po.cells s.points))), (38, (AV.i (s.points.length : Int))), (39, (AV.i s7.1))] 104 (AH.mk 2 [(1, (AObj.cells [(AV.i s7.2.1), (AV.i s7.2.2.1), (exs s7.2.2.2)])), (0, (AObj.cells [(AV.i s.blocks), (AV.i s.gen), (exs s.map), (AV.sl s.points.length (List.flatMap Po.cells s.points)), (AV.i s.last), (bys s.staged)]))]) Bool.false)
noncomputable def sCheck_L1_step (s : Sa) (s0 : Bool) (s2 : Bool) (s5 : Bool) (s7 : Int × Int × Int × List Ex) : Option (Int × Int × Int × List Ex) :=
 (tb ((decide (s7.1 < (s.points.length : Int))))
  (tp ((((0 : Int) ≤ s7.1) ∧ (s7.1 < (s.points.length : Int))))
   (some (((wr (s7.1 + (1 : Int))), ((poAt s.points s7.1.toNat).id, ((poAt s.points s7.1.toNat).gen, (poAt s.points s7.1.toNat).map))))))
  none /- exit -/)
theorem sCheck_L1_ok (s : Sa) (s0 : Bool) (s2 : Bool) (s5 : Bool) (s7 zz : Int × Int × Int × List Ex) : sCheck_L1_step s s0 s2 s5 s7 = some zz → EvStep Try.prog cf 2 (lp Try.prog 21 0) (sCheck_L1_S s s0 s2 s5 s7) (sCheck_L1_S s s0 s2 s5 zz) := by
  unfold sCheck_L1_step
  refine tb_ok (fun h8 => ?_) (fun h8 => ?_)
  ·
    have h8p := of_decide_eq_true h8
    refine tp_ok (fun h9 => ?_)
    intro e; injection e with e; subst e
    exact leafIS vw_eq (k := 300) (r := []) (hs := hz [(1, [.yes, .yes, .yes, .cells ((Po.cells (poAt s.points s7.1.toNat)))]), (2, [.fc]), (49, [.fc]), (1, [.fc]), (2, [])]) (ks := [0, 1, 2, 3, 4, 37, 38, 39]) (bs := [1, 0]) kq (ac h8 (ac h9 (ac (fq (p := ((3 : Nat) ≤ (List.length (List.drop (s7.1.toNat * 3) (List.flatMap Po.cells s.points)))))) (ac (show (List.take 3 (List.drop (s7.1.toNat * 3) (List.flatMap Po.cells s.points))) = (Po.cells (poAt s.points s7.1.toNat)) from (po_takeO bq bq)) an)))) kq
  ·
    have h8p := of_decide_eq_false h8
    exact fun e => nomatch e
noncomputable abbrev sCheck_L2_I (s : Sa) (s0 : Bool) (s2 : Bool) : St := (St.mk [(0, (AV.ag [(AV.i s.blocks), (AV.i s.gen), (exs s.map), (AV.sl s.points.length (List.flatMap Po.cells s.points)), (AV.i s.last), (bys s.staged)])), (1, (AV.pt 0 0)), (2, (AV.i 0)), (7, (AV.pt 0 0)), (8, (AV.i s.blocks)), (9, (AV.pt 0 2)), (10, (exs s.map)), (11, (AV.pt 0 1)), (12, (AV.i s.gen)), (13, (AV.b s0)), (14, (AV.b s0)), (15, (AV.pt 0 1)), (16, (AV.i s.gen)), (17, (AV.b s2)), (18, (AV.b s2)), (19, (AV.b s2)), (20, (AV.pt 0 3)), (21, (AV.sl s.points.length (List.flatMap Po.cells s.points))), (22, (AV.i (s.points.length : Int))), (23, (AV.b (decide ((s.points.length : Int) ≤ (4 : Int))))), (24, (AV.b (decide ((s.points.length : Int) ≤ (4 : Int))))), (25, (AV.b (decide ((s.points.length : Int) ≤ (4 : Int))))), (26, (AV.tu ([] : List AV))), (27, (AV.tu ([] : List AV))), (28, (AV.tu ([] : List AV))), (29, (AV.b Bool.false)), (30, (AV.b Bool.false)), (31, (AV.tu ([] : List AV))), (32, (AV.tu ([] : List AV))), (33, (AV.tu ([] : List AV))), (34, (AV.tu ([] : List AV))), (35, (AV.b Bool.false)), (3, (AV.b Bool.false)), (4, (AV.pt 1 0)), (36, (AV.pt 0 3)), (37, (AV.sl s.points.length (List.flatMap Po.cells s.points))), (38, (AV.i (s.points.length : Int))), (39, (AV.i 0))] 104 (AH.mk 2 [(1, (AObj.cells [(AV.i 0), (AV.i 0), AV.nl])), (0, (AObj.cells [(AV.i s.blocks), (AV.i s.gen), (exs s.map), (AV.sl s.points.length (List.flatMap Po.cells s.points)), (AV.i s.last), (bys s.staged)]))]) Bool.false)
noncomputable abbrev sCheck_L2_S (s : Sa) (s0 : Bool) (s2 : Bool) (s5 : Int × Int × Int × List Ex) : St := (St.mk [(0, (AV.ag [(AV.i s.blocks), (AV.i s.gen), (exs s.map), (AV.sl s.points.length (List.flatMap Po.cells s.points)), (AV.i s.last), (bys s.staged)])), (1, (AV.pt 0 0)), (2, (AV.i 0)), (3, (AV.b Bool.false)), (4, (AV.pt 1 0)), (37, (AV.sl s.points.length (List.flatMap Po.cells s.points))), (38, (AV.i (s.points.length : Int))), (39, (AV.i s5.1))] 104 (AH.mk 2 [(1, (AObj.cells [(AV.i s5.2.1), (AV.i s5.2.2.1), (exs s5.2.2.2)])), (0, (AObj.cells [(AV.i s.blocks), (AV.i s.gen), (exs s.map), (AV.sl s.points.length (List.flatMap Po.cells s.points)), (AV.i s.last), (bys s.staged)]))]) Bool.false)
noncomputable def sCheck_L2_step (s : Sa) (s0 : Bool) (s2 : Bool) (s5 : Int × Int × Int × List Ex) : Option (Int × Int × Int × List Ex) :=
 (tb ((decide (s5.1 < (s.points.length : Int))))
  (tp ((((0 : Int) ≤ s5.1) ∧ (s5.1 < (s.points.length : Int))))
   (some (((wr (s5.1 + (1 : Int))), ((poAt s.points s5.1.toNat).id, ((poAt s.points s5.1.toNat).gen, (poAt s.points s5.1.toNat).map))))))
  none /- exit -/)
theorem sCheck_L2_ok (s : Sa) (s0 : Bool) (s2 : Bool) (s5 zz : Int × Int × Int × List Ex) : sCheck_L2_step s s0 s2 s5 = some zz → EvStep Try.prog cf 2 (lp Try.prog 21 0) (sCheck_L2_S s s0 s2 s5) (sCheck_L2_S s s0 s2 zz) := by
  unfold sCheck_L2_step
  refine tb_ok (fun h6 => ?_) (fun h6 => ?_)
  ·
    have h6p := of_decide_eq_true h6
    refine tp_ok (fun h7 => ?_)
    intro e; injection e with e; subst e
    exact leafIS vw_eq (k := 300) (r := []) (hs := hz [(1, [.yes, .yes, .yes, .cells ((Po.cells (poAt s.points s5.1.toNat)))]), (2, [.fc]), (49, [.fc]), (1, [.fc]), (2, [])]) (ks := [0, 1, 2, 3, 4, 37, 38, 39]) (bs := [1, 0]) kq (ac h6 (ac h7 (ac (fq (p := ((3 : Nat) ≤ (List.length (List.drop (s5.1.toNat * 3) (List.flatMap Po.cells s.points)))))) (ac (show (List.take 3 (List.drop (s5.1.toNat * 3) (List.flatMap Po.cells s.points))) = (Po.cells (poAt s.points s5.1.toNat)) from (po_takeO bq bq)) an)))) kq
  ·
    have h6p := of_decide_eq_false h6
    exact fun e => nomatch e
noncomputable abbrev sCheck_L3_I (s : Sa) (s0 : Bool) (s2 : Bool) : St := (St.mk [(0, (AV.ag [(AV.i s.blocks), (AV.i s.gen), (exs s.map), (AV.sl s.points.length (List.flatMap Po.cells s.points)), (AV.i s.last), (bys s.staged)])), (1, (AV.pt 0 0)), (2, (AV.i 0)), (7, (AV.pt 0 0)), (8, (AV.i s.blocks)), (9, (AV.pt 0 2)), (10, (exs s.map)), (11, (AV.pt 0 1)), (12, (AV.i s.gen)), (13, (AV.b s0)), (14, (AV.b s0)), (15, (AV.pt 0 1)), (16, (AV.i s.gen)), (17, (AV.b s2)), (18, (AV.b s2)), (19, (AV.b s2)), (20, (AV.tu ([] : List AV))), (21, (AV.tu ([] : List AV))), (22, (AV.tu ([] : List AV))), (23, (AV.tu ([] : List AV))), (24, (AV.b Bool.false)), (25, (AV.b Bool.false)), (26, (AV.tu ([] : List AV))), (27, (AV.tu ([] : List AV))), (28, (AV.tu ([] : List AV))), (29, (AV.b Bool.false)), (30, (AV.b Bool.false)), (31, (AV.tu ([] : List AV))), (32, (AV.tu ([] : List AV))), (33, (AV.tu ([] : List AV))), (34, (AV.tu ([] : List AV))), (35, (AV.b Bool.false)), (3, (AV.b Bool.false)), (4, (AV.pt 1 0)), (36, (AV.pt 0 3)), (37, (AV.sl s.points.length (List.flatMap Po.cells s.points))), (38, (AV.i (s.points.length : Int))), (39, (AV.i 0))] 104 (AH.mk 2 [(1, (AObj.cells [(AV.i 0), (AV.i 0), AV.nl])), (0, (AObj.cells [(AV.i s.blocks), (AV.i s.gen), (exs s.map), (AV.sl s.points.length (List.flatMap Po.cells s.points)), (AV.i s.last), (bys s.staged)]))]) Bool.false)
noncomputable abbrev sCheck_L3_S (s : Sa) (s0 : Bool) (s2 : Bool) (s4 : Int × Int × Int × List Ex) : St := (St.mk [(0, (AV.ag [(AV.i s.blocks), (AV.i s.gen), (exs s.map), (AV.sl s.points.length (List.flatMap Po.cells s.points)), (AV.i s.last), (bys s.staged)])), (1, (AV.pt 0 0)), (2, (AV.i 0)), (3, (AV.b Bool.false)), (4, (AV.pt 1 0)), (37, (AV.sl s.points.length (List.flatMap Po.cells s.points))), (38, (AV.i (s.points.length : Int))), (39, (AV.i s4.1))] 104 (AH.mk 2 [(1, (AObj.cells [(AV.i s4.2.1), (AV.i s4.2.2.1), (exs s4.2.2.2)])), (0, (AObj.cells [(AV.i s.blocks), (AV.i s.gen), (exs s.map), (AV.sl s.points.length (List.flatMap Po.cells s.points)), (AV.i s.last), (bys s.staged)]))]) Bool.false)
noncomputable def sCheck_L3_step (s : Sa) (s0 : Bool) (s2 : Bool) (s4 : Int × Int × Int × List Ex) : Option (Int × Int × Int × List Ex) :=
 (tb ((decide (s4.1 < (s.points.length : Int))))
  (tp ((((0 : Int) ≤ s4.1) ∧ (s4.1 < (s.points.length : Int))))
   (some (((wr (s4.1 + (1 : Int))), ((poAt s.points s4.1.toNat).id, ((poAt s.points s4.1.toNat).gen, (poAt s.points s4.1.toNat).map))))))
  none /- exit -/)
theorem sCheck_L3_ok (s : Sa) (s0 : Bool) (s2 : Bool) (s4 zz : Int × Int × Int × List Ex) : sCheck_L3_step s s0 s2 s4 = some zz → EvStep Try.prog cf 2 (lp Try.prog 21 0) (sCheck_L3_S s s0 s2 s4) (sCheck_L3_S s s0 s2 zz) := by
  unfold sCheck_L3_step
  refine tb_ok (fun h5 => ?_) (fun h5 => ?_)
  ·
    have h5p := of_decide_eq_true h5
    refine tp_ok (fun h6 => ?_)
    intro e; injection e with e; subst e
    exact leafIS vw_eq (k := 300) (r := []) (hs := hz [(1, [.yes, .yes, .yes, .cells ((Po.cells (poAt s.points s4.1.toNat)))]), (2, [.fc]), (49, [.fc]), (1, [.fc]), (2, [])]) (ks := [0, 1, 2, 3, 4, 37, 38, 39]) (bs := [1, 0]) kq (ac h5 (ac h6 (ac (fq (p := ((3 : Nat) ≤ (List.length (List.drop (s4.1.toNat * 3) (List.flatMap Po.cells s.points)))))) (ac (show (List.take 3 (List.drop (s4.1.toNat * 3) (List.flatMap Po.cells s.points))) = (Po.cells (poAt s.points s4.1.toNat)) from (po_takeO bq bq)) an)))) kq
  ·
    have h5p := of_decide_eq_false h5
    exact fun e => nomatch e
noncomputable abbrev sCheck_L4_I (s : Sa) (s0 : Bool) : St := (St.mk [(0, (AV.ag [(AV.i s.blocks), (AV.i s.gen), (exs s.map), (AV.sl s.points.length (List.flatMap Po.cells s.points)), (AV.i s.last), (bys s.staged)])), (1, (AV.pt 0 0)), (2, (AV.i 0)), (7, (AV.pt 0 0)), (8, (AV.i s.blocks)), (9, (AV.pt 0 2)), (10, (exs s.map)), (11, (AV.pt 0 1)), (12, (AV.i s.gen)), (13, (AV.b s0)), (14, (AV.b s0)), (15, (AV.tu ([] : List AV))), (16, (AV.tu ([] : List AV))), (17, (AV.tu ([] : List AV))), (18, (AV.b Bool.false)), (19, (AV.b Bool.false)), (20, (AV.tu ([] : List AV))), (21, (AV.tu ([] : List AV))), (22, (AV.tu ([] : List AV))), (23, (AV.tu ([] : List AV))), (24, (AV.b Bool.false)), (25, (AV.b Bool.false)), (26, (AV.tu ([] : List AV))), (27, (AV.tu ([] : List AV))), (28, (AV.tu ([] : List AV))), (29, (AV.b Bool.false)), (30, (AV.b Bool.false)), (31, (AV.tu ([] : List AV))), (32, (AV.tu ([] : List AV))), (33, (AV.tu ([] : List AV))), (34, (AV.tu ([] : List AV))), (35, (AV.b Bool.false)), (3, (AV.b Bool.false)), (4, (AV.pt 1 0)), (36, (AV.pt 0 3)), (37, (AV.sl s.points.length (List.flatMap Po.cells s.points))), (38, (AV.i (s.points.length : Int))), (39, (AV.i 0))] 104 (AH.mk 2 [(1, (AObj.cells [(AV.i 0), (AV.i 0), AV.nl])), (0, (AObj.cells [(AV.i s.blocks), (AV.i s.gen), (exs s.map), (AV.sl s.points.length (List.flatMap Po.cells s.points)), (AV.i s.last), (bys s.staged)]))]) Bool.false)
noncomputable abbrev sCheck_L4_S (s : Sa) (s0 : Bool) (s2 : Int × Int × Int × List Ex) : St := (St.mk [(0, (AV.ag [(AV.i s.blocks), (AV.i s.gen), (exs s.map), (AV.sl s.points.length (List.flatMap Po.cells s.points)), (AV.i s.last), (bys s.staged)])), (1, (AV.pt 0 0)), (2, (AV.i 0)), (3, (AV.b Bool.false)), (4, (AV.pt 1 0)), (37, (AV.sl s.points.length (List.flatMap Po.cells s.points))), (38, (AV.i (s.points.length : Int))), (39, (AV.i s2.1))] 104 (AH.mk 2 [(1, (AObj.cells [(AV.i s2.2.1), (AV.i s2.2.2.1), (exs s2.2.2.2)])), (0, (AObj.cells [(AV.i s.blocks), (AV.i s.gen), (exs s.map), (AV.sl s.points.length (List.flatMap Po.cells s.points)), (AV.i s.last), (bys s.staged)]))]) Bool.false)
noncomputable def sCheck_L4_step (s : Sa) (s0 : Bool) (s2 : Int × Int × Int × List Ex) : Option (Int × Int × Int × List Ex) :=
 (tb ((decide (s2.1 < (s.points.length : Int))))
  (tp ((((0 : Int) ≤ s2.1) ∧ (s2.1 < (s.points.length : Int))))
   (some (((wr (s2.1 + (1 : Int))), ((poAt s.points s2.1.toNat).id, ((poAt s.points s2.1.toNat).gen, (poAt s.points s2.1.toNat).map))))))
  none /- exit -/)
theorem sCheck_L4_ok (s : Sa) (s0 : Bool) (s2 zz : Int × Int × Int × List Ex) : sCheck_L4_step s s0 s2 = some zz → EvStep Try.prog cf 2 (lp Try.prog 21 0) (sCheck_L4_S s s0 s2) (sCheck_L4_S s s0 zz) := by
  unfold sCheck_L4_step
  refine tb_ok (fun h3 => ?_) (fun h3 => ?_)
  ·
    have h3p := of_decide_eq_true h3
    refine tp_ok (fun h4 => ?_)
    intro e; injection e with e; subst e
    exact leafIS vw_eq (k := 300) (r := []) (hs := hz [(1, [.yes, .yes, .yes, .cells ((Po.cells (poAt s.points s2.1.toNat)))]), (2, [.fc]), (49, [.fc]), (1, [.fc]), (2, [])]) (ks := [0, 1, 2, 3, 4, 37, 38, 39]) (bs := [1, 0]) kq (ac h3 (ac h4 (ac (fq (p := ((3 : Nat) ≤ (List.length (List.drop (s2.1.toNat * 3) (List.flatMap Po.cells s.points)))))) (ac (show (List.take 3 (List.drop (s2.1.toNat * 3) (List.flatMap Po.cells s.points))) = (Po.cells (poAt s.points s2.1.toNat)) from (po_takeO bq bq)) an)))) kq
  ·
    have h3p := of_decide_eq_false h3
    exact fun e => nomatch e
/-- Function 21, as it answers. -/
noncomputable def sCheck (s : Sa) : Option (Int) :=
 (tc (sUpto (s.blocks) (s.map) (s.gen)) fun s0 =>
  (tb (s0)
   (tc (sWithin (s.gen) ((1 : Int)) ((2147483647 : Int))) fun s2 =>
    (tb (s2)
     (tb ((decide ((s.points.length : Int) ≤ (4 : Int))))
      (tc (sWithin (s.last) ((0 : Int)) ((2147483647 : Int))) fun s5 =>
       (tb (s5)
        (th (sCheck_L0_step s s0 s2 s5) (((decide ((s.staged.length : Int) ≤ (4000 : Int))), ((0 : Int), ((0 : Int), ((0 : Int), ([] : List Ex)))))) fun s7 =>
         (tb ((decide (s7.2.1 < (s.points.length : Int))))
          none /- stop behind an operation -/
          (tb ((!s7.1))
           (some ((110 : Int)))
           (tc (sKept (s7.2.2.2.2) (s.map) (s7.2.2.2.1)) fun s10 =>
            (tb ((!s10))
             (some ((110 : Int)))
             (some ((0 : Int))))))))
        (th (sCheck_L1_step s s0 s2 s5) (((0 : Int), ((0 : Int), ((0 : Int), ([] : List Ex))))) fun s7 =>
         (tb ((decide (s7.1 < (s.points.length : Int))))
          none /- stop behind an operation -/
          (some ((110 : Int)))))))
      (th (sCheck_L2_step s s0 s2) (((0 : Int), ((0 : Int), ((0 : Int), ([] : List Ex))))) fun s5 =>
       (tb ((decide (s5.1 < (s.points.length : Int))))
        none /- stop behind an operation -/
        (some ((110 : Int))))))
     (th (sCheck_L3_step s s0 s2) (((0 : Int), ((0 : Int), ((0 : Int), ([] : List Ex))))) fun s4 =>
      (tb ((decide (s4.1 < (s.points.length : Int))))
       none /- stop behind an operation -/
       (some ((110 : Int)))))))
   (th (sCheck_L4_step s s0) (((0 : Int), ((0 : Int), ((0 : Int), ([] : List Ex))))) fun s2 =>
    (tb ((decide (s2.1 < (s.points.length : Int))))
     none /- stop behind an operation -/
     (some ((110 : Int)))))))
abbrev sCheck_G (s : Sa) (r : Int) : Prop := EvFr Try.prog cf true 21 [Sa.av (s)] (.i (r))
theorem sCheck_ok (s : Sa) (r : Int) : sCheck s = some r → sCheck_G s r := by
  unfold sCheck
  refine tc_ok (fun s0 h0 => ?_)
  refine tb_ok (fun h1 => ?_) (fun h1 => ?_)
  ·
    refine tc_ok (fun s2 h2 => ?_)
    refine tb_ok (fun h3 => ?_) (fun h3 => ?_)
    ·
      refine tb_ok (fun h4 => ?_) (fun h4 => ?_)
      ·
        have h4p := of_decide_eq_true h4
        refine tc_ok (fun s5 h5 => ?_)
        refine tb_ok (fun h6 => ?_) (fun h6 => ?_)
        ·
          refine th_ok (fun s7 h7 => ?_)
          refine tb_ok (fun h8 => ?_) (fun h8 => ?_)
          ·
            have h8p := of_decide_eq_true h8
            exact fun e => nomatch e
          ·
            have h8p := of_decide_eq_false h8
            refine tb_ok (fun h9 => ?_) (fun h9 => ?_)
            ·
              intro e; injection e with e; subst e
              exact leafR vw_eq (k := 300) (r := []) (hs := hz [(12, [.fres (.b (s0))]), (1, [.yes]), (1, [.yes]), (2, [.yes]), (1, [.fres (.b (s2)), .yes]), (1, [.yes]), (1, [.yes]), (2, [.yes]), (1, [.yes]), (1, [.yes]), (1, [.yes]), (1, [.yes]), (2, [.yes]), (1, [.fres (.b (s5)), .yes]), (1, [.yes]), (1, [.yes]), (2, [.yes]), (1, [.yes]), (1, [.yes]), (7, [.head (sCheck_L0_S s s0 s2 s5 s7)]), (1, [.no]), (3, [.yes, .yes, .yes, .yes, .yes, .yes, .yes, .yes, .yes]), (2, [])]) (raw := (AV.i 110)) kq (ac (sUpto_ok (s.blocks) (s.map) (s.gen) _ h0).any0 (ac h1 (ac h1 (ac h1 (ac (sWithin_ok (s.gen) ((1 : Int)) ((2147483647 : Int)) _ h2).any0 (ac h1 (ac h3 (ac h3 (ac h3 (ac h3 (ac h3 (ac h4 (ac h4 (ac h4 (ac (sWithin_ok (s.last) ((0 : Int)) ((2147483647 : Int)) _ h5).any0 (ac h4 (ac h6 (ac h6 (ac h6 (ac h6 (ac h6 (ac (show EvHead Try.prog cf (lp Try.prog 21 0) (sCheck_L0_I s s0 s2 s5) (sCheck_L0_S s s0 s2 s5 s7) from (EvHead.of (sCheck_L0_ok s s0 s2 s5) (absB_of [] [] kq (.consn kq (.agp pq) (.consn kq (.pt rfl) (.consn kq (.eqv tq rfl) (.consn kq (.eqv tq rfl) (.consn kq (.pt rfl) (.consn kq (.eqv tq rfl) (.consn kq (.eqv tq rfl) (.consn kq (.eqv tq rfl) .nil)))))))) (.cons (.old rfl rfl (.cells (.cons (.eqv tq rfl) (.cons (.eqv tq rfl) (.cons (.pur 1 rfl (by simp)) .nil))))) (.cons (.old rfl rfl (.cells (.pl rfl pq))) .nil))) h7)) (ac h8 (ac h9 (ac h9 (ac h9 (ac h9 (ac h9 (ac h9 (ac h9 (ac h9 (ac h9 an)))))))))))))))))))))))))))))))) tq
            ·
              refine tc_ok (fun s10 h10 => ?_)
              refine tb_ok (fun h11 => ?_) (fun h11 => ?_)
              ·
                intro e; injection e with e; subst e
                exact leafR vw_eq (k := 300) (r := []) (hs := hz [(12, [.fres (.b (s0))]), (1, [.yes]), (1, [.yes]), (2, [.yes]), (1, [.fres (.b (s2)), .yes]), (1, [.yes]), (1, [.yes]), (2, [.yes]), (1, [.yes]), (1, [.yes]), (1, [.yes]), (1, [.yes]), (2, [.yes]), (1, [.fres (.b (s5)), .yes]), (1, [.yes]), (1, [.yes]), (2, [.yes]), (1, [.yes]), (1, [.yes]), (7, [.head (sCheck_L0_S s s0 s2 s5 s7)]), (1, [.no]), (3, [.no]), (1, [.no]), (2, [.no]), (1, [.no]), (2, [.no]), (1, [.no]), (2, [.no]), (1, [.fres (.b (s10)), .no]), (1, [.no, .yes]), (1, [])]) (raw := (AV.i 110)) kq (ac (sUpto_ok (s.blocks) (s.map) (s.gen) _ h0).any0 (ac h1 (ac h1 (ac h1 (ac (sWithin_ok (s.gen) ((1 : Int)) ((2147483647 : Int)) _ h2).any0 (ac h1 (ac h3 (ac h3 (ac h3 (ac h3 (ac h3 (ac h4 (ac h4 (ac h4 (ac (sWithin_ok (s.last) ((0 : Int)) ((2147483647 : Int)) _ h5).any0 (ac h4 (ac h6 (ac h6 (ac h6 (ac h6 (ac h6 (ac (show EvHead Try.prog cf (lp Try.prog 21 0) (sCheck_L0_I s s0 s2 s5) (sCheck_L0_S s s0 s2 s5 s7) from (EvHead.of (sCheck_L0_ok s s0 s2 s5) (absB_of [] [] kq (.consn kq (.agp pq) (.consn kq (.pt rfl) (.consn kq (.eqv tq rfl) (.consn kq (.eqv tq rfl) (.consn kq (.pt rfl) (.consn kq (.eqv tq rfl) (.consn kq (.eqv tq rfl) (.consn kq (.eqv tq rfl) .nil)))))))) (.cons (.old rfl rfl (.cells (.cons (.eqv tq rfl) (.cons (.eqv tq rfl) (.cons (.pur 1 rfl (by simp)) .nil))))) (.cons (.old rfl rfl (.cells (.pl rfl pq))) .nil))) h7)) (ac h8 (ac h9 (ac h9 (ac h9 (ac h9 (ac h9 (ac h9 (ac h9 (ac (sKept_ok (s7.2.2.2.2) (s.map) (s7.2.2.2.1) _ h10).any0 (ac h9 (ac h9 (ac h11 an)))))))))))))))))))))))))))))))))) tq
              ·
                intro e; injection e with e; subst e
                exact leafR vw_eq (k := 300) (r := []) (hs := hz [(12, [.fres (.b (s0))]), (1, [.yes]), (1, [.yes]), (2, [.yes]), (1, [.fres (.b (s2)), .yes]), (1, [.yes]), (1, [.yes]), (2, [.yes]), (1, [.yes]), (1, [.yes]), (1, [.yes]), (1, [.yes]), (2, [.yes]), (1, [.fres (.b (s5)), .yes]), (1, [.yes]), (1, [.yes]), (2, [.yes]), (1, [.yes]), (1, [.yes]), (7, [.head (sCheck_L0_S s s0 s2 s5 s7)]), (1, [.no]), (3, [.no]), (1, [.no]), (2, [.no]), (1, [.no]), (2, [.no]), (1, [.no]), (2, [.no]), (1, [.fres (.b (s10)), .no]), (1, [.no, .no]), (1, [])]) (raw := (AV.i 0)) kq (ac (sUpto_ok (s.blocks) (s.map) (s.gen) _ h0).any0 (ac h1 (ac h1 (ac h1 (ac (sWithin_ok (s.gen) ((1 : Int)) ((2147483647 : Int)) _ h2).any0 (ac h1 (ac h3 (ac h3 (ac h3 (ac h3 (ac h3 (ac h4 (ac h4 (ac h4 (ac (sWithin_ok (s.last) ((0 : Int)) ((2147483647 : Int)) _ h5).any0 (ac h4 (ac h6 (ac h6 (ac h6 (ac h6 (ac h6 (ac (show EvHead Try.prog cf (lp Try.prog 21 0) (sCheck_L0_I s s0 s2 s5) (sCheck_L0_S s s0 s2 s5 s7) from (EvHead.of (sCheck_L0_ok s s0 s2 s5) (absB_of [] [] kq (.consn kq (.agp pq) (.consn kq (.pt rfl) (.consn kq (.eqv tq rfl) (.consn kq (.eqv tq rfl) (.consn kq (.pt rfl) (.consn kq (.eqv tq rfl) (.consn kq (.eqv tq rfl) (.consn kq (.eqv tq rfl) .nil)))))))) (.cons (.old rfl rfl (.cells (.cons (.eqv tq rfl) (.cons (.eqv tq rfl) (.cons (.pur 1 rfl (by simp)) .nil))))) (.cons (.old rfl rfl (.cells (.pl rfl pq))) .nil))) h7)) (ac h8 (ac h9 (ac h9 (ac h9 (ac h9 (ac h9 (ac h9 (ac h9 (ac (sKept_ok (s7.2.2.2.2) (s.map) (s7.2.2.2.1) _ h10).any0 (ac h9 (ac h9 (ac h11 an)))))))))))))))))))))))))))))))))) tq
        ·
          refine th_ok (fun s7 h7 => ?_)
          refine tb_ok (fun h8 => ?_) (fun h8 => ?_)
          ·
            have h8p := of_decide_eq_true h8
            exact fun e => nomatch e
          ·
            have h8p := of_decide_eq_false h8
            intro e; injection e with e; subst e
            exact leafR vw_eq (k := 300) (r := []) (hs := hz [(12, [.fres (.b (s0))]), (1, [.yes]), (1, [.yes]), (2, [.yes]), (1, [.fres (.b (s2)), .yes]), (1, [.yes]), (1, [.yes]), (2, [.yes]), (1, [.yes]), (1, [.yes]), (1, [.yes]), (1, [.yes]), (2, [.yes]), (1, [.fres (.b (s5)), .yes]), (1, [.no, .no, .no, .no, .no]), (7, [.head (sCheck_L1_S s s0 s2 s5 s7)]), (1, [.no]), (14, [])]) (raw := (AV.i 110)) kq (ac (sUpto_ok (s.blocks) (s.map) (s.gen) _ h0).any0 (ac h1 (ac h1 (ac h1 (ac (sWithin_ok (s.gen) ((1 : Int)) ((2147483647 : Int)) _ h2).any0 (ac h1 (ac h3 (ac h3 (ac h3 (ac h3 (ac h3 (ac h4 (ac h4 (ac h4 (ac (sWithin_ok (s.last) ((0 : Int)) ((2147483647 : Int)) _ h5).any0 (ac h4 (ac h6 (ac h6 (ac h6 (ac h6 (ac h6 (ac (show EvHead Try.prog cf (lp Try.prog 21 0) (sCheck_L1_I s s0 s2 s5) (sCheck_L1_S s s0 s2 s5 s7) from (EvHead.of (sCheck_L1_ok s s0 s2 s5) (absB_of [] [] kq (.consn kq (.agp pq) (.consn kq (.pt rfl) (.consn kq (.eqv tq rfl) (.consn kq (.eqv tq rfl) (.consn kq (.pt rfl) (.consn kq (.eqv tq rfl) (.consn kq (.eqv tq rfl) (.consn kq (.eqv tq rfl) .nil)))))))) (.cons (.old rfl rfl (.cells (.cons (.eqv tq rfl) (.cons (.eqv tq rfl) (.cons (.pur 1 rfl (by simp)) .nil))))) (.cons (.old rfl rfl (.cells (.pl rfl pq))) .nil))) h7)) (ac h8 an))))))))))))))))))))))) tq
      ·
        have h4p := of_decide_eq_false h4
        refine th_ok (fun s5 h5 => ?_)
        refine tb_ok (fun h6 => ?_) (fun h6 => ?_)
        ·
          have h6p := of_decide_eq_true h6
          exact fun e => nomatch e
        ·
          have h6p := of_decide_eq_false h6
          intro e; injection e with e; subst e
          exact leafR vw_eq (k := 300) (r := []) (hs := hz [(12, [.fres (.b (s0))]), (1, [.yes]), (1, [.yes]), (2, [.yes]), (1, [.fres (.b (s2)), .yes]), (1, [.yes]), (1, [.yes]), (2, [.yes]), (1, [.yes]), (1, [.yes]), (1, [.no, .no, .no, .no]), (13, [.head (sCheck_L2_S s s0 s2 s5)]), (1, [.no]), (14, [])]) (raw := (AV.i 110)) kq (ac (sUpto_ok (s.blocks) (s.map) (s.gen) _ h0).any0 (ac h1 (ac h1 (ac h1 (ac (sWithin_ok (s.gen) ((1 : Int)) ((2147483647 : Int)) _ h2).any0 (ac h1 (ac h3 (ac h3 (ac h3 (ac h3 (ac h3 (ac h4 (ac h4 (ac h4 (ac h4 (ac (show EvHead Try.prog cf (lp Try.prog 21 0) (sCheck_L2_I s s0 s2) (sCheck_L2_S s s0 s2 s5) from (EvHead.of (sCheck_L2_ok s s0 s2) (absB_of [] [] kq (.consn kq (.agp pq) (.consn kq (.pt rfl) (.consn kq (.eqv tq rfl) (.consn kq (.eqv tq rfl) (.consn kq (.pt rfl) (.consn kq (.eqv tq rfl) (.consn kq (.eqv tq rfl) (.consn kq (.eqv tq rfl) .nil)))))))) (.cons (.old rfl rfl (.cells (.cons (.eqv tq rfl) (.cons (.eqv tq rfl) (.cons (.pur 1 rfl (by simp)) .nil))))) (.cons (.old rfl rfl (.cells (.pl rfl pq))) .nil))) h5)) (ac h6 an))))))))))))))))) tq
    ·
      refine th_ok (fun s4 h4 => ?_)
      refine tb_ok (fun h5 => ?_) (fun h5 => ?_)
      ·
        have h5p := of_decide_eq_true h5
        exact fun e => nomatch e
      ·
        have h5p := of_decide_eq_false h5
        intro e; injection e with e; subst e
        exact leafR vw_eq (k := 300) (r := []) (hs := hz [(12, [.fres (.b (s0))]), (1, [.yes]), (1, [.yes]), (2, [.yes]), (1, [.fres (.b (s2)), .yes]), (1, [.no, .no, .no, .no, .no]), (18, [.head (sCheck_L3_S s s0 s2 s4)]), (1, [.no]), (14, [])]) (raw := (AV.i 110)) kq (ac (sUpto_ok (s.blocks) (s.map) (s.gen) _ h0).any0 (ac h1 (ac h1 (ac h1 (ac (sWithin_ok (s.gen) ((1 : Int)) ((2147483647 : Int)) _ h2).any0 (ac h1 (ac h3 (ac h3 (ac h3 (ac h3 (ac h3 (ac (show EvHead Try.prog cf (lp Try.prog 21 0) (sCheck_L3_I s s0 s2) (sCheck_L3_S s s0 s2 s4) from (EvHead.of (sCheck_L3_ok s s0 s2) (absB_of [] [] kq (.consn kq (.agp pq) (.consn kq (.pt rfl) (.consn kq (.eqv tq rfl) (.consn kq (.eqv tq rfl) (.consn kq (.pt rfl) (.consn kq (.eqv tq rfl) (.consn kq (.eqv tq rfl) (.consn kq (.eqv tq rfl) .nil)))))))) (.cons (.old rfl rfl (.cells (.cons (.eqv tq rfl) (.cons (.eqv tq rfl) (.cons (.pur 1 rfl (by simp)) .nil))))) (.cons (.old rfl rfl (.cells (.pl rfl pq))) .nil))) h4)) (ac h5 an))))))))))))) tq
  ·
    refine th_ok (fun s2 h2 => ?_)
    refine tb_ok (fun h3 => ?_) (fun h3 => ?_)
    ·
      have h3p := of_decide_eq_true h3
      exact fun e => nomatch e
    ·
      have h3p := of_decide_eq_false h3
      intro e; injection e with e; subst e
      exact leafR vw_eq (k := 300) (r := []) (hs := hz [(12, [.fres (.b (s0))]), (1, [.no, .no, .no, .no]), (24, [.head (sCheck_L4_S s s0 s2)]), (1, [.no]), (14, [])]) (raw := (AV.i 110)) kq (ac (sUpto_ok (s.blocks) (s.map) (s.gen) _ h0).any0 (ac h1 (ac h1 (ac h1 (ac h1 (ac (show EvHead Try.prog cf (lp Try.prog 21 0) (sCheck_L4_I s s0) (sCheck_L4_S s s0 s2) from (EvHead.of (sCheck_L4_ok s s0) (absB_of [] [] kq (.consn kq (.agp pq) (.consn kq (.pt rfl) (.consn kq (.eqv tq rfl) (.consn kq (.eqv tq rfl) (.consn kq (.pt rfl) (.consn kq (.eqv tq rfl) (.consn kq (.eqv tq rfl) (.consn kq (.eqv tq rfl) .nil)))))))) (.cons (.old rfl rfl (.cells (.cons (.eqv tq rfl) (.cons (.eqv tq rfl) (.cons (.pur 1 rfl (by simp)) .nil))))) (.cons (.old rfl rfl (.cells (.pl rfl pq))) .nil))) h2)) (ac h3 an))))))) tq
end Ab
end Go.Proofs.Ytimcbhhebnikiaa
namespace Go.Proofs.Ytimcbhhebnikiaa
open Go Go.Proofs.Ytimcbhhebnikiaa.Ab
set_option linter.unusedVariables false
set_option linter.unusedSimpArgs false
set_option maxRecDepth 1000000
set_option maxHeartbeats 0
namespace Ab
noncomputable abbrev sCopy_L0_I (s : Sa) (s0 : Int) (s2 : List Ex) : St := (St.mk [(0, (AV.ag [(AV.i s.blocks), (AV.i s.gen), (exs s.map), (AV.sl s.points.length (List.flatMap Po.cells s.points)), (AV.i s.last), (bys s.staged)])), (1, (AV.pt 0 0)), (2, (AV.pt 1 0)), (5, (AV.ag [(AV.i s.blocks), (AV.i s.gen), (exs s.map), (AV.sl s.points.length (List.flatMap Po.cells s.points)), (AV.i s.last), (bys s.staged)])), (6, (AV.i s0)), (7, (AV.b (s0 != (0 : Int)))), (9, (AV.pt 0 2)), (10, (exs s.map)), (11, (AV.rf 2 5 0 s2.length)), (12, (AV.pt 0 3)), (13, (AV.sl s.points.length (List.flatMap Po.cells s.points))), (14, (AV.rf 3 3 0 s.points.length)), (15, (AV.pt 0 5)), (16, (bys s.staged)), (17, (AV.rf 4 1 0 s.staged.length)), (18, (AV.pt 0 2)), (19, (AV.pt 0 3)), (20, (AV.pt 0 5)), (21, (AV.pt 0 3)), (22, (AV.rf 3 3 0 s.points.length)), (23, (AV.i (s.points.length : Int))), (24, (AV.i 0))] 39 (AH.mk 5 [(4, (AObj.cells (List.map AV.y s.staged))), (3, (AObj.cells (List.flatMap Po.cells s.points))), (2, (AObj.cells (List.flatMap Ex.cells s2))), (1, (AObj.cells [(AV.i 0), (AV.i 0), AV.nl, AV.nl, (AV.i 0), AV.nl])), (0, (AObj.cells [(AV.i s.blocks), (AV.i s.gen), (AV.rf 2 5 0 s2.length), (AV.rf 3 3 0 s.points.length), (AV.i s.last), (AV.rf 4 1 0 s.staged.length)]))]) Bool.false)
noncomputable abbrev sCopy_L0_S (s : Sa) (s0 : Int) (s2 : List Ex) (s6 : Int × List Po) : St := (St.mk [(0, (AV.ag [(AV.i s.blocks), (AV.i s.gen), (exs s.map), (AV.sl s.points.length (List.flatMap Po.cells s.points)), (AV.i s.last), (bys s.staged)])), (1, (AV.pt 0 0)), (2, (AV.pt 1 0)), (7, (AV.b (s0 != (0 : Int)))), (22, (AV.rf 3 3 0 s.points.length)), (23, (AV.i (s.points.length : Int))), (24, (AV.i s6.1))] 39 (AH.mk 5 [(4, (AObj.cells (List.map AV.y s.staged))), (3, (AObj.cells (List.flatMap Po.cells s6.2))), (2, (AObj.cells (List.flatMap Ex.cells s2))), (1, (AObj.cells [(AV.i 0), (AV.i 0), AV.nl, AV.nl, (AV.i 0), AV.nl])), (0, (AObj.cells [(AV.i s.blocks), (AV.i s.gen), (AV.rf 2 5 0 s2.length), (AV.rf 3 3 0 s.points.length), (AV.i s.last), (AV.rf 4 1 0 s.staged.length)]))]) Bool.false)
noncomputable def sCopy_L0_step (s : Sa) (s0 : Int) (s2 : List Ex) (s6 : Int × List Po) : Option (Int × List Po) :=
 (tb ((decide (s6.1 < (s.points.length : Int))))
  (tp ((((0 : Int) ≤ s6.1) ∧ (s6.1 < (s.points.length : Int))))
   (tp (((((0 : Nat) + (s6.1.toNat * 3)) + (3 : Nat)) ≤ (List.length (List.flatMap Po.cells s6.2))))
    (tc (sExtents ((poAt s6.2 s6.1.toNat).map)) fun s10 =>
     (tp ((((List.length [(AV.rf 6 5 0 s10.length)]) = (1 : Nat)) ∧ (((((0 : Nat) + (s6.1.toNat * 3)) + (2 : Nat)) + (List.length [(AV.rf 6 5 0 s10.length)])) ≤ (List.length (List.flatMap Po.cells s6.2)))))
      (some (((wr (s6.1 + (1 : Int))), (List.set s6.2 s6.1.toNat (Po.mk (poAt s6.2 s6.1.toNat).id (poAt s6.2 s6.1.toNat).gen (List.take s10.length s10))))))))))
  none /- exit -/)
theorem sCopy_L0_ok (s : Sa) (s0 : Int) (s2 : List Ex) (s6 zz : Int × List Po) : sCopy_L0_step s s0 s2 s6 = some zz → EvStep Try.prog cf 5 (lp Try.prog 18 0) (sCopy_L0_S s s0 s2 s6) (sCopy_L0_S s s0 s2 zz) := by
  unfold sCopy_L0_step
  refine tb_ok (fun h7 => ?_) (fun h7 => ?_)
  ·
    have h7p := of_decide_eq_true h7
    refine tp_ok (fun h8 => ?_)
    refine tp_ok (fun h9 => ?_)
    refine tc_ok (fun s10 h10 => ?_)
    refine tp_ok (fun h11 => ?_)
    intro e; injection e with e; subst e
    exact leafS vw_eq (k := 300) (r := []) (hs := hz [(1, [.yes]), (1, [.yes, .yes, .cells ((Po.cells (poAt s6.2 s6.1.toNat)))]), (3, [.fc]), (8, [.fres (exs (s10)), .yes]), (1, [.yes]), (1, [.yes]), (2, [])]) (ks := [0, 1, 2, 7, 22, 23, 24]) (st1 := (St.mk [(0, (AV.ag [(AV.i s.blocks), (AV.i s.gen), (exs s.map), (AV.sl s.points.length (List.flatMap Po.cells s.points)), (AV.i s.last), (bys s.staged)])), (1, (AV.pt 0 0)), (2, (AV.pt 1 0)), (7, (AV.b (s0 != (0 : Int)))), (22, (AV.rf 3 3 0 s.points.length)), (23, (AV.i (s.points.length : Int))), (24, (AV.i (wr (s6.1 + (1 : Int)))))] 39 (AH.mk 7 [(6, (AObj.cells (List.flatMap Ex.cells s10))), (5, (AObj.cells [(AV.i (poAt s6.2 s6.1.toNat).id), (AV.i (poAt s6.2 s6.1.toNat).gen), (exs (poAt s6.2 s6.1.toNat).map)])), (4, (AObj.cells (List.map AV.y s.staged))), (3, (AObj.cells (((List.take (((0 : Nat) + (s6.1.toNat * 3)) + (2 : Nat)) (List.flatMap Po.cells s6.2)) ++ [(AV.rf 6 5 0 s10.length)]) ++ (List.drop ((((0 : Nat) + (s6.1.toNat * 3)) + (2 : Nat)) + (List.length [(AV.rf 6 5 0 s10.length)])) (List.flatMap Po.cells s6.2))))), (2, (AObj.cells (List.flatMap Ex.cells s2))), (1, (AObj.cells [(AV.i 0), (AV.i 0), AV.nl, AV.nl, (AV.i 0), AV.nl])), (0, (AObj.cells [(AV.i s.blocks), (AV.i s.gen), (AV.rf 2 5 0 s2.length), (AV.rf 3 3 0 s.points.length), (AV.i s.last), (AV.rf 4 1 0 s.staged.length)]))]) Bool.false)) kq (ac h7 (ac h8 (ac h9 (ac (show (List.take 3 (List.drop ((0 : Nat) + (s6.1.toNat * 3)) (List.flatMap Po.cells s6.2))) = (Po.cells (poAt s6.2 s6.1.toNat)) from (po_takeO bq bq)) (ac (sExtents_ok ((poAt s6.2 s6.1.toNat).map) _ h10) (ac h8 (ac h11 (ac (show orderOk (rg Try.prog 18 1) = true ∧ allOk (Region.before (rg Try.prog 18 1)) [] 0 [(some [], some []), (some [0], some []), (some [], some []), (some [], some []), (some [5], some []), (some [], some [6]), (some [], some []), (some [], some []), (some [3], some [3])] = true from (ord_of ord_18_1 bef_18_1 kq)) an)))))))) (Nat.le_of_ble_eq_true rfl) (Nat.le_of_ble_eq_true rfl) (absB_of [] [6] kq (.consn kq (.agp pq) (.consn kq (.pt rfl) (.consn kq (.pt rfl) (.consn kq (.eqv tq rfl) (.consn kq (.rf rfl) (.consn kq (.eqv tq rfl) (.consn kq (.eqv tq rfl) .nil))))))) (.cons (.old rfl rfl (.cells (.pl rfl (by simp)))) (.cons (.old rfl rfl (.cells (.cast rfl (po_setP (i := s6.1.toNat) (k := 2) (x := (Po.mk (poAt s6.2 s6.1.toNat).id (poAt s6.2 s6.1.toNat).gen (List.take s10.length s10))) bq rfl bq (by simp) (by simp [over, Po.cells, exs])) (.app (.app (.pl rfl pq) (.cons (.frzn rfl tq pq (by simp) rfl) .nil)) (.pl rfl pq))))) (.cons (.old rfl rfl (.cells (.pl rfl (by simp)))) (.cons (.old rfl rfl (.cells (.cons (.eqv tq rfl) (.cons (.eqv tq rfl) (.cons .nl0 (.cons .nl0 (.cons (.eqv tq rfl) (.cons .nl0 .nil)))))))) (.cons (.old rfl rfl (.cells (.cons (.eqv tq rfl) (.cons (.eqv tq rfl) (.cons (.rf rfl) (.cons (.rf rfl) (.cons (.eqv tq rfl) (.cons (.rf rfl) .nil)))))))) .nil))))))
  ·
    have h7p := of_decide_eq_false h7
    exact fun e => nomatch e
/-- Function 18, as it answers. -/
noncomputable def sCopy (s : Sa) : Option (Sa) :=
 (tc (sCheck (s)) fun s0 =>
  (tb ((s0 != (0 : Int)))
   (some ((Sa.mk 0 0 ([] : List Ex) ([] : List Po) 0 ([] : List UInt8))))
   (tc (sExtents (s.map)) fun s2 =>
    (tp (((List.length (List.flatMap Po.cells s.points)) = (s.points.length * 3)))
     (tp ((s.points.length ≤ (4294967296 : Nat)))
      (tp ((s.staged.length ≤ (4294967296 : Nat)))
       (th (sCopy_L0_step s s0 s2) (((0 : Int), s.points)) fun s6 =>
        (tb ((decide (s6.1 < (s.points.length : Int))))
         none /- stop behind an operation -/
         (tp ((((0 : Nat) = (0 : Nat)) ∧ ((List.length (List.flatMap Ex.cells s2)) = (s2.length * 5))))
          (tp ((((0 : Nat) = (0 : Nat)) ∧ ((List.length (List.flatMap Po.cells s6.2)) = (s.points.length * 3))))
           (some ((Sa.mk s.blocks s.gen s2 s6.2 s.last s.staged)))))))))))))
abbrev sCopy_G (s : Sa) (r : Sa) : Prop := EvOw Try.prog cf false [[0, 0, 5, 3, 0, 1]] 18 [Sa.av (s)] (Sa.av (r))
theorem sCopy_ok (s : Sa) (r : Sa) : sCopy s = some r → sCopy_G s r := by
  unfold sCopy
  refine tc_ok (fun s0 h0 => ?_)
  refine tb_ok (fun h1 => ?_) (fun h1 => ?_)
  ·
    have h1p := bne_iff_ne.1 h1
    intro e; injection e with e; subst e
    exact leafO vw_eq (k := 300) (r := []) (hs := hz [(3, [.fc]), (1, [.fres (.i (s0))]), (1, [.yes]), (2, [.fc]), (1, [.fc])]) (R := fun H => ((AV.ag [(AV.i 0), (AV.i 0), (AV.rf (AH.nx H) 5 0 0), (AV.rf ((AH.nx H) + (1 : Nat)) 3 0 0), (AV.i 0), (AV.rf (((AH.nx H) + (1 : Nat)) + (1 : Nat)) 1 0 0)]), (AH.mk ((((AH.nx H) + (1 : Nat)) + (1 : Nat)) + (1 : Nat)) (((((AH.nx H) + (1 : Nat)) + (1 : Nat)), (AObj.cells ([] : List AV))) :: (((AH.nx H) + (1 : Nat)), (AObj.cells ([] : List AV))) :: ((AH.nx H), (AObj.cells ([] : List AV))) :: (AH.l H))))) (fun H => kq) (ac (sCheck_ok (s) _ h0).any0 (ac h1 an)) (fun H => oq)
  ·
    have h1p := bne_eq_false_iff_eq.1 h1
    refine tc_ok (fun s2 h2 => ?_)
    refine tp_ok (fun h3 => ?_)
    refine tp_ok (fun h4 => ?_)
    refine tp_ok (fun h5 => ?_)
    refine th_ok (fun s6 h6 => ?_)
    refine tb_ok (fun h7 => ?_) (fun h7 => ?_)
    ·
      have h7p := of_decide_eq_true h7
      exact fun e => nomatch e
    ·
      have h7p := of_decide_eq_false h7
      refine tp_ok (fun h8 => ?_)
      refine tp_ok (fun h9 => ?_)
      intro e; injection e with e; subst e
      exact leafO vw_eq (k := 300) (r := []) (hs := hz [(3, [.fc]), (1, [.fres (.i (s0))]), (1, [.no]), (4, [.fres (exs (s2))]), (4, [.yes, .yes]), (4, [.yes, .yes]), (2, [.fc]), (2, [.fc]), (2, [.fc, .yes]), (5, [.head (sCopy_L0_S s s0 s2 s6)]), (1, [.no]), (1, [.fc]), (1, [.fc]), (1, [.fc, .yes, .yes, .yes, .yes, .yes, .yes])]) (R := fun H => ((AV.ag [(AV.i s.blocks), (AV.i s.gen), (AV.rf (AH.nx H) 5 0 s2.length), (AV.rf ((AH.nx H) + (1 : Nat)) 3 0 s.points.length), (AV.i s.last), (AV.rf (((AH.nx H) + (1 : Nat)) + (1 : Nat)) 1 0 s.staged.length)]), (AH.mk ((((AH.nx H) + (1 : Nat)) + (1 : Nat)) + (1 : Nat)) (((((AH.nx H) + (1 : Nat)) + (1 : Nat)), (AObj.cells (List.map AV.y s.staged))) :: (((AH.nx H) + (1 : Nat)), (AObj.cells (List.flatMap Po.cells s6.2))) :: ((AH.nx H), (AObj.cells (List.flatMap Ex.cells s2))) :: (AH.l H))))) (fun H => kq) (ac (sCheck_ok (s) _ h0).any0 (ac h1 (ac (sExtents_ok (s.map) _ h2) (ac h3 (ac h4 (ac (tq (p := ((List.length (List.map AV.y s.staged)) = (s.staged.length * 1)))) (ac h5 (ac (show orderOk (rg Try.prog 18 0) = true ∧ allOk (Region.before (rg Try.prog 18 0)) [] 0 [(some [], some []), (some [0], some []), (some [], some [2]), (some [], some []), (some [0], some []), (some [], some [3]), (some [], some []), (some [0], some []), (some [], some [4]), (some [], some []), (some [0], some [0]), (some [], some []), (some [0], some [0]), (some [], some []), (some [0], some [0])] = true from (ord_of ord_18_0 bef_18_0 kq)) (ac (show EvHead Try.prog cf (lp Try.prog 18 0) (sCopy_L0_I s s0 s2) (sCopy_L0_S s s0 s2 s6) from (EvHead.of (sCopy_L0_ok s s0 s2) (absB_of [] [] kq (.consn kq (.agp pq) (.consn kq (.pt rfl) (.consn kq (.pt rfl) (.consn kq (.eqv tq rfl) (.consn kq (.rf rfl) (.consn kq (.eqv tq rfl) (.consn kq (.eqv tq rfl) .nil))))))) (.cons (.old rfl rfl (.cells (.pl rfl (by simp)))) (.cons (.old rfl rfl (.cells (.pl tq pq))) (.cons (.old rfl rfl (.cells (.pl rfl (by simp)))) (.cons (.old rfl rfl (.cells (.cons (.eqv tq rfl) (.cons (.eqv tq rfl) (.cons .nl0 (.cons .nl0 (.cons (.eqv tq rfl) (.cons .nl0 .nil)))))))) (.cons (.old rfl rfl (.cells (.cons (.eqv tq rfl) (.cons (.eqv tq rfl) (.cons (.rf rfl) (.cons (.rf rfl) (.cons (.eqv tq rfl) (.cons (.rf rfl) .nil)))))))) .nil)))))) h6)) (ac h7 (ac h8 (ac (pq (p := Pl Bool.false ((List.flatMap Ex.cells s2)))) (ac h9 (ac (pq (p := Pl Bool.false ((List.flatMap Po.cells s6.2)))) (ac (tq (p := (((0 : Nat) = (0 : Nat)) ∧ ((List.length (List.map AV.y s.staged)) = (s.staged.length * 1))))) (ac (pq (p := Pl Bool.false ((List.map AV.y s.staged)))) an)))))))))))))))) (fun H => oq)
end Ab
end Go.Proofs.Ytimcbhhebnikiaa
namespace Go.Proofs.Ytimcbhhebnikiaa
open Go Go.Proofs.Ytimcbhhebnikiaa.Ab
set_option linter.unusedVariables false
set_option linter.unusedSimpArgs false
set_option maxRecDepth 1000000
set_option maxHeartbeats 0
namespace Ab
noncomputable abbrev sPoint_L0_I (s : Sa) (id : Int) (s0 : Int) (s2 : Sa) : St := (St.mk [(0, (AV.ag [(AV.i s.blocks), (AV.i s.gen), (exs s.map), (AV.sl s.points.length (List.flatMap Po.cells s.points)), (AV.i s.last), (bys s.staged)])), (1, (AV.i id)), (2, (AV.pt 0 0)), (4, (AV.pt 1 0)), (5, (AV.i s0)), (8, (AV.ag [(AV.i s.blocks), (AV.i s.gen), (exs s.map), (AV.sl s.points.length (List.flatMap Po.cells s.points)), (AV.i s.last), (bys s.staged)])), (9, (AV.i s0)), (10, (AV.i s0)), (11, (AV.b (s0 != (0 : Int)))), (14, (AV.ag [(AV.i s.blocks), (AV.i s.gen), (exs s.map), (AV.sl s.points.length (List.flatMap Po.cells s.points)), (AV.i s.last), (bys s.staged)])), (15, (AV.ag [(AV.i s2.blocks), (AV.i s2.gen), (AV.rf 2 5 0 s2.map.length), (AV.rf 3 3 0 s2.points.length), (AV.i s2.last), (AV.rf 4 1 0 s2.staged.length)])), (16, (AV.rf 3 3 0 s2.points.length)), (17, (AV.i (s2.points.length : Int))), (18, (AV.i 0))] 29 (AH.mk 5 [(4, (AObj.cells (List.map AV.y s2.staged))), (3, (AObj.cells (List.flatMap Po.cells s2.points))), (2, (AObj.cells (List.flatMap Ex.cells s2.map))), (1, (AObj.cells [(AV.i 0), (AV.i 0), AV.nl])), (0, (AObj.cells [(AV.i s.blocks), (AV.i s.gen), (exs s.map), (AV.sl s.points.length (List.flatMap Po.cells s.points)), (AV.i s.last), (bys s.staged)]))]) Bool.false)
noncomputable abbrev sPoint_L0_S (s : Sa) (id : Int) (s0 : Int) (s2 : Sa) (s3 : Int) : St := (St.mk [(0, (AV.ag [(AV.i s.blocks), (AV.i s.gen), (exs s.map), (AV.sl s.points.length (List.flatMap Po.cells s.points)), (AV.i s.last), (bys s.staged)])), (1, (AV.i id)), (2, (AV.pt 0 0)), (4, (AV.pt 1 0)), (11, (AV.b (s0 != (0 : Int)))), (16, (AV.rf 3 3 0 s2.points.length)), (17, (AV.i (s2.points.length : Int))), (18, (AV.i s3))] 29 (AH.mk 5 [(4, (AObj.cells (List.map AV.y s2.staged))), (3, (AObj.cells (List.flatMap Po.cells s2.points))), (2, (AObj.cells (List.flatMap Ex.cells s2.map))), (1, (AObj.cells [(AV.i 0), (AV.i 0), AV.nl])), (0, (AObj.cells [(AV.i s.blocks), (AV.i s.gen), (exs s.map), (AV.sl s.points.length (List.flatMap Po.cells s.points)), (AV.i s.last), (bys s.staged)]))]) Bool.false)
noncomputable def sPoint_L0_step (s : Sa) (id : Int) (s0 : Int) (s2 : Sa) (s3 : Int) : Option (Int) :=
 (tb ((decide (s3 < (s2.points.length : Int))))
  (tp ((((0 : Int) ≤ s3) ∧ (s3 < (s2.points.length : Int))))
   (tb (((poAt s2.points s3.toNat).id == id))
    none /- exit -/
    (some ((wr (s3 + (1 : Int)))))))
  none /- exit -/)
theorem sPoint_L0_ok (s : Sa) (id : Int) (s0 : Int) (s2 : Sa) (s3 zz : Int) : sPoint_L0_step s id s0 s2 s3 = some zz → EvStep Try.prog cf 5 (lp Try.prog 15 0) (sPoint_L0_S s id s0 s2 s3) (sPoint_L0_S s id s0 s2 zz) := by
  unfold sPoint_L0_step
  refine tb_ok (fun h4 => ?_) (fun h4 => ?_)
  ·
    have h4p := of_decide_eq_true h4
    refine tp_ok (fun h5 => ?_)
    refine tb_ok (fun h6 => ?_) (fun h6 => ?_)
    ·
      have h6p := eq_of_beq h6
      exact fun e => nomatch e
    ·
      have h6p := ne_of_beq_false h6
      intro e; injection e with e; subst e
      exact leafS vw_eq (k := 300) (r := []) (hs := hz [(1, [.yes, .yes, .yes, .cells ((Po.cells (poAt s2.points s3.toNat)))]), (2, [.fc]), (5, [.no]), (2, [])]) (ks := [0, 1, 2, 4, 11, 16, 17, 18]) (st1 := (St.mk [(0, (AV.ag [(AV.i s.blocks), (AV.i s.gen), (exs s.map), (AV.sl s.points.length (List.flatMap Po.cells s.points)), (AV.i s.last), (bys s.staged)])), (1, (AV.i id)), (2, (AV.pt 0 0)), (4, (AV.pt 1 0)), (11, (AV.b (s0 != (0 : Int)))), (16, (AV.rf 3 3 0 s2.points.length)), (17, (AV.i (s2.points.length : Int))), (18, (AV.i (wr (s3 + (1 : Int)))))] 29 (AH.mk 6 [(5, (AObj.cells [(AV.i (poAt s2.points s3.toNat).id), (AV.i (poAt s2.points s3.toNat).gen), (exs (poAt s2.points s3.toNat).map)])), (4, (AObj.cells (List.map AV.y s2.staged))), (3, (AObj.cells (List.flatMap Po.cells s2.points))), (2, (AObj.cells (List.flatMap Ex.cells s2.map))), (1, (AObj.cells [(AV.i 0), (AV.i 0), AV.nl])), (0, (AObj.cells [(AV.i s.blocks), (AV.i s.gen), (exs s.map), (AV.sl s.points.length (List.flatMap Po.cells s.points)), (AV.i s.last), (bys s.staged)]))]) Bool.false)) kq (ac h4 (ac h5 (ac (fq (p := ((((0 : Nat) + (s3.toNat * 3)) + (3 : Nat)) ≤ (List.length (List.flatMap Po.cells s2.points))))) (ac (show (List.take 3 (List.drop ((0 : Nat) + (s3.toNat * 3)) (List.flatMap Po.cells s2.points))) = (Po.cells (poAt s2.points s3.toNat)) from (po_takeO bq bq)) (ac h6 an))))) (Nat.le_of_ble_eq_true rfl) (Nat.le_of_ble_eq_true rfl) (absB_of [] [] kq (.consn kq (.agp pq) (.consn kq (.eqv tq rfl) (.consn kq (.pt rfl) (.consn kq (.pt rfl) (.consn kq (.eqv tq rfl) (.consn kq (.rf rfl) (.consn kq (.eqv tq rfl) (.consn kq (.eqv tq rfl) .nil)))))))) (.cons (.old rfl rfl (.cells (.pl rfl (by simp)))) (.cons (.old rfl rfl (.cells (.pl rfl (by simp)))) (.cons (.old rfl rfl (.cells (.pl rfl (by simp)))) (.cons (.old rfl rfl (.cells (.cons (.eqv tq rfl) (.cons (.eqv tq rfl) (.cons .nl0 .nil))))) (.cons (.old rfl rfl (.cells (.pl rfl pq))) .nil))))))
  ·
    have h4p := of_decide_eq_false h4
    exact fun e => nomatch e
/-- Function 15, as it answers. -/
noncomputable def sPoint (s : Sa) (id : Int) : Option (Po × Int) :=
 (tc (sCheck (s)) fun s0 =>
  (tb ((s0 != (0 : Int)))
   (some (((Po.mk 0 0 ([] : List Ex)), s0)))
   (tc (sCopy (s)) fun s2 =>
    (th (sPoint_L0_step s id s0 s2) ((0 : Int)) fun s3 =>
     (tb ((decide (s3 < (s2.points.length : Int))))
      (tp ((((0 : Int) ≤ s3) ∧ (s3 < (s2.points.length : Int))))
       (tb (((poAt s2.points s3.toNat).id == id))
        (some (((poAt s2.points s3.toNat), (0 : Int))))
        none /- stop behind an operation -/))
      (some (((Po.mk 0 0 ([] : List Ex)), (111 : Int)))))))))
abbrev sPoint_G (s : Sa) (id : Int) (r : Po × Int) : Prop := EvFr Try.prog cf false 15 [Sa.av (s), .i (id)] (.tu [Po.av (r.1), .i (r.2)])
theorem sPoint_ok (s : Sa) (id : Int) (r : Po × Int) : sPoint s id = some r → sPoint_G s id r := by
  unfold sPoint
  refine tc_ok (fun s0 h0 => ?_)
  refine tb_ok (fun h1 => ?_) (fun h1 => ?_)
  ·
    have h1p := bne_iff_ne.1 h1
    intro e; injection e with e; subst e
    exact leafR vw_eq (k := 300) (r := []) (hs := hz [(4, [.fc]), (1, [.fres (.i (s0))]), (3, [.yes]), (1, [.fc]), (2, [.fc]), (2, [.fc])]) (raw := (AV.tu [(AV.ag [(AV.i 0), (AV.i 0), (AV.sl 0 ([] : List AV))]), (AV.i s0)])) kq (ac (sCheck_ok (s) _ h0).any0 (ac h1 an)) tq
  ·
    have h1p := bne_eq_false_iff_eq.1 h1
    refine tc_ok (fun s2 h2 => ?_)
    refine th_ok (fun s3 h3 => ?_)
    refine tb_ok (fun h4 => ?_) (fun h4 => ?_)
    ·
      have h4p := of_decide_eq_true h4
      refine tp_ok (fun h5 => ?_)
      refine tb_ok (fun h6 => ?_) (fun h6 => ?_)
      ·
        have h6p := eq_of_beq h6
        intro e; injection e with e; subst e
        exact leafR vw_eq (k := 300) (r := []) (hs := hz [(4, [.fc]), (1, [.fres (.i (s0))]), (3, [.no]), (1, [.fc]), (1, [.fres (Sa.av (s2))]), (4, [.head (sPoint_L0_S s id s0 s2 s3)]), (1, [.yes, .yes, .yes, .cells ((Po.cells (poAt s2.points s3.toNat)))]), (2, [.fc]), (5, [.yes]), (1, [.fc]), (1, [.fc]), (2, [.fc])]) (raw := (AV.tu [(AV.ag [(AV.i (poAt s2.points s3.toNat).id), (AV.i (poAt s2.points s3.toNat).gen), (exs (poAt s2.points s3.toNat).map)]), (AV.i 0)])) kq (ac (sCheck_ok (s) _ h0).any0 (ac h1 (ac (sCopy_ok (s) _ h2) (ac (show EvHead Try.prog cf (lp Try.prog 15 0) (sPoint_L0_I s id s0 s2) (sPoint_L0_S s id s0 s2 s3) from (EvHead.of (sPoint_L0_ok s id s0 s2) (absB_of [] [] kq (.consn kq (.agp pq) (.consn kq (.eqv tq rfl) (.consn kq (.pt rfl) (.consn kq (.pt rfl) (.consn kq (.eqv tq rfl) (.consn kq (.rf rfl) (.consn kq (.eqv tq rfl) (.consn kq (.eqv tq rfl) .nil)))))))) (.cons (.old rfl rfl (.cells (.pl rfl (by simp)))) (.cons (.old rfl rfl (.cells (.pl rfl (by simp)))) (.cons (.old rfl rfl (.cells (.pl rfl (by simp)))) (.cons (.old rfl rfl (.cells (.cons (.eqv tq rfl) (.cons (.eqv tq rfl) (.cons .nl0 .nil))))) (.cons (.old rfl rfl (.cells (.pl rfl pq))) .nil)))))) h3)) (ac h4 (ac h5 (ac (fq (p := ((((0 : Nat) + (s3.toNat * 3)) + (3 : Nat)) ≤ (List.length (List.flatMap Po.cells s2.points))))) (ac (show (List.take 3 (List.drop ((0 : Nat) + (s3.toNat * 3)) (List.flatMap Po.cells s2.points))) = (Po.cells (poAt s2.points s3.toNat)) from (po_takeO bq bq)) (ac h6 an))))))))) tq
      ·
        have h6p := ne_of_beq_false h6
        exact fun e => nomatch e
    ·
      have h4p := of_decide_eq_false h4
      intro e; injection e with e; subst e
      exact leafR vw_eq (k := 300) (r := []) (hs := hz [(4, [.fc]), (1, [.fres (.i (s0))]), (3, [.no]), (1, [.fc]), (1, [.fres (Sa.av (s2))]), (4, [.head (sPoint_L0_S s id s0 s2 s3)]), (1, [.no]), (1, [.fc]), (1, [.fc]), (2, [.fc])]) (raw := (AV.tu [(AV.ag [(AV.i 0), (AV.i 0), (AV.sl 0 ([] : List AV))]), (AV.i 111)])) kq (ac (sCheck_ok (s) _ h0).any0 (ac h1 (ac (sCopy_ok (s) _ h2) (ac (show EvHead Try.prog cf (lp Try.prog 15 0) (sPoint_L0_I s id s0 s2) (sPoint_L0_S s id s0 s2 s3) from (EvHead.of (sPoint_L0_ok s id s0 s2) (absB_of [] [] kq (.consn kq (.agp pq) (.consn kq (.eqv tq rfl) (.consn kq (.pt rfl) (.consn kq (.pt rfl) (.consn kq (.eqv tq rfl) (.consn kq (.rf rfl) (.consn kq (.eqv tq rfl) (.consn kq (.eqv tq rfl) .nil)))))))) (.cons (.old rfl rfl (.cells (.pl rfl (by simp)))) (.cons (.old rfl rfl (.cells (.pl rfl (by simp)))) (.cons (.old rfl rfl (.cells (.pl rfl (by simp)))) (.cons (.old rfl rfl (.cells (.cons (.eqv tq rfl) (.cons (.eqv tq rfl) (.cons .nl0 .nil))))) (.cons (.old rfl rfl (.cells (.pl rfl pq))) .nil)))))) h3)) (ac h4 an))))) tq
noncomputable abbrev sIds_L0_I (s : Sa) (s0 : Sa) : St := (St.mk [(0, (AV.ag [(AV.i s.blocks), (AV.i s.gen), (exs s.map), (AV.sl s.points.length (List.flatMap Po.cells s.points)), (AV.i s.last), (bys s.staged)])), (1, (AV.pt 0 0)), (2, AV.nl), (5, (AV.ag [(AV.i s.blocks), (AV.i s.gen), (exs s.map), (AV.sl s.points.length (List.flatMap Po.cells s.points)), (AV.i s.last), (bys s.staged)])), (6, (AV.ag [(AV.i s0.blocks), (AV.i s0.gen), (AV.rf 1 5 0 s0.map.length), (AV.rf 2 3 0 s0.points.length), (AV.i s0.last), (AV.rf 3 1 0 s0.staged.length)])), (7, (AV.rf 2 3 0 s0.points.length)), (8, (AV.i (s0.points.length : Int))), (9, (AV.i 0))] 20 (AH.mk 4 [(3, (AObj.cells (List.map AV.y s0.staged))), (2, (AObj.cells (List.flatMap Po.cells s0.points))), (1, (AObj.cells (List.flatMap Ex.cells s0.map))), (0, (AObj.cells [(AV.i s.blocks), (AV.i s.gen), (exs s.map), (AV.sl s.points.length (List.flatMap Po.cells s.points)), (AV.i s.last), (bys s.staged)]))]) Bool.false)
noncomputable abbrev sIds_L0_S (s : Sa) (s0 : Sa) (s1 : List Int × Int) : St := (St.mk [(0, (AV.ag [(AV.i s.blocks), (AV.i s.gen), (exs s.map), (AV.sl s.points.length (List.flatMap Po.cells s.points)), (AV.i s.last), (bys s.staged)])), (1, (AV.pt 0 0)), (2, (AV.rf 4 1 0 s1.1.length)), (7, (AV.rf 2 3 0 s0.points.length)), (8, (AV.i (s0.points.length : Int))), (9, (AV.i s1.2))] 20 (AH.mk 5 [(3, (AObj.cells (List.map AV.y s0.staged))), (2, (AObj.cells (List.flatMap Po.cells s0.points))), (1, (AObj.cells (List.flatMap Ex.cells s0.map))), (0, (AObj.cells [(AV.i s.blocks), (AV.i s.gen), (exs s.map), (AV.sl s.points.length (List.flatMap Po.cells s.points)), (AV.i s.last), (bys s.staged)])), (4, (AObj.cells (List.map AV.i s1.1)))]) Bool.false)
noncomputable def sIds_L0_step (s : Sa) (s0 : Sa) (s1 : List Int × Int) : Option (List Int × Int) :=
 (tb ((decide (s1.2 < (s0.points.length : Int))))
  (tp ((((0 : Int) ≤ s1.2) ∧ (s1.2 < (s0.points.length : Int))))
   (tp ((((List.length (List.map AV.i s1.1)) = (s1.1.length * 1)) ∧ ((s1.1.length + (1 : Nat)) ≤ (4294967296 : Nat))))
    (some (((s1.1 ++ [(poAt s0.points s1.2.toNat).id]), (wr (s1.2 + (1 : Int))))))))
  none /- exit -/)
theorem sIds_L0_ok (s : Sa) (s0 : Sa) (s1 zz : List Int × Int) : sIds_L0_step s s0 s1 = some zz → EvStep Try.prog cf 4 (lp Try.prog 24 0) (sIds_L0_S s s0 s1) (sIds_L0_S s s0 zz) := by
  unfold sIds_L0_step
  refine tb_ok (fun h2 => ?_) (fun h2 => ?_)
  ·
    have h2p := of_decide_eq_true h2
    refine tp_ok (fun h3 => ?_)
    refine tp_ok (fun h4 => ?_)
    intro e; injection e with e; subst e
    exact leafS vw_eq (k := 300) (r := []) (hs := hz [(1, [.yes, .yes, .yes, .cells ((Po.cells (poAt s0.points s1.2.toNat)))]), (2, [.fc]), (5, [.yes, .yes]), (3, [])]) (ks := [0, 1, 2, 7, 8, 9]) (st1 := (St.mk [(0, (AV.ag [(AV.i s.blocks), (AV.i s.gen), (exs s.map), (AV.sl s.points.length (List.flatMap Po.cells s.points)), (AV.i s.last), (bys s.staged)])), (1, (AV.pt 0 0)), (2, (AV.rf 7 1 0 (s1.1.length + (1 : Nat)))), (7, (AV.rf 2 3 0 s0.points.length)), (8, (AV.i (s0.points.length : Int))), (9, (AV.i (wr (s1.2 + (1 : Int)))))] 20 (AH.mk 8 [(7, (AObj.cells ((List.map AV.i s1.1) ++ [(AV.i (poAt s0.points s1.2.toNat).id)]))), (6, (AObj.cells [(AV.i (poAt s0.points s1.2.toNat).id)])), (5, (AObj.cells [(AV.i (poAt s0.points s1.2.toNat).id), (AV.i (poAt s0.points s1.2.toNat).gen), (exs (poAt s0.points s1.2.toNat).map)])), (3, (AObj.cells (List.map AV.y s0.staged))), (2, (AObj.cells (List.flatMap Po.cells s0.points))), (1, (AObj.cells (List.flatMap Ex.cells s0.map))), (0, (AObj.cells [(AV.i s.blocks), (AV.i s.gen), (exs s.map), (AV.sl s.points.length (List.flatMap Po.cells s.points)), (AV.i s.last), (bys s.staged)])), (4, AObj.dead)]) Bool.false)) kq (ac h2 (ac h3 (ac (fq (p := ((((0 : Nat) + (s1.2.toNat * 3)) + (3 : Nat)) ≤ (List.length (List.flatMap Po.cells s0.points))))) (ac (show (List.take 3 (List.drop ((0 : Nat) + (s1.2.toNat * 3)) (List.flatMap Po.cells s0.points))) = (Po.cells (poAt s0.points s1.2.toNat)) from (po_takeO bq bq)) (ac (tq (p := (((0 : Nat) = (0 : Nat)) ∧ ((List.length [(AV.i (poAt s0.points s1.2.toNat).id)]) = (1 : Nat))))) (ac h4 an)))))) (Nat.le_of_ble_eq_true rfl) (Nat.le_of_ble_eq_true rfl) (absB_of [7] [] kq (.consn kq (.agp pq) (.consn kq (.pt rfl) (.consn kq (.rfn (n := (s1.1.length + (1 : Nat))) rfl tq) (.consn kq (.rf rfl) (.consn kq (.eqv tq rfl) (.consn kq (.eqv tq rfl) .nil)))))) (.cons (.old rfl rfl (.cells (.pl rfl (by simp)))) (.cons (.old rfl rfl (.cells (.pl rfl (by simp)))) (.cons (.old rfl rfl (.cells (.pl rfl (by simp)))) (.cons (.old rfl rfl (.cells (.pl rfl pq))) (.cons (.old rfl rfl (.cells (.pl tq pq))) .nil))))))
  ·
    have h2p := of_decide_eq_false h2
    exact fun e => nomatch e
/-- Function 24, as it answers. -/
noncomputable def sIds (s : Sa) : Option (List Int) :=
 (tc (sCopy (s)) fun s0 =>
  (th (sIds_L0_step s s0) ((([] : List Int), (0 : Int))) fun s1 =>
   (tb ((decide (s1.2 < (s0.points.length : Int))))
    none /- stop behind an operation -/
    (some (s1.1)))))
abbrev sIds_G (s : Sa) (r : List Int) : Prop := EvFr Try.prog cf true 24 [Sa.av (s)] (ints (r))
theorem sIds_ok (s : Sa) (r : List Int) : sIds s = some r → sIds_G s r := by
  unfold sIds
  refine tc_ok (fun s0 h0 => ?_)
  refine th_ok (fun s1 h1 => ?_)
  refine tb_ok (fun h2 => ?_) (fun h2 => ?_)
  ·
    have h2p := of_decide_eq_true h2
    exact fun e => nomatch e
  ·
    have h2p := of_decide_eq_false h2
    intro e; injection e with e; subst e
    exact leafR vw_eq (k := 300) (r := []) (hs := hz [(3, [.fc]), (1, [.fres (Sa.av (s0))]), (4, [.head (sIds_L0_S s s0 s1)]), (1, [.no]), (2, [.yes, .yes])]) (raw := (AV.sl s1.1.length (List.map AV.i s1.1))) kq (ac (sCopy_ok (s) _ h0) (ac (show EvHead Try.prog cf (lp Try.prog 24 0) (sIds_L0_I s s0) (sIds_L0_S s s0 s1) from (EvHead.of (sIds_L0_ok s s0) (absB_of [4] [] kq (.consn kq (.agp pq) (.consn kq (.pt rfl) (.consn kq (.nln tq) (.consn kq (.rf rfl) (.consn kq (.eqv tq rfl) (.consn kq (.eqv tq rfl) .nil)))))) (.cons (.old rfl rfl (.cells (.pl rfl (by simp)))) (.cons (.old rfl rfl (.cells (.pl rfl (by simp)))) (.cons (.old rfl rfl (.cells (.pl rfl (by simp)))) (.cons (.old rfl rfl (.cells (.pl rfl pq))) (.cons (.none rfl (Nat.le_refl _) rfl) .nil)))))) h1)) (ac h2 (ac (tq (p := (((0 : Nat) = (0 : Nat)) ∧ ((List.length (List.map AV.i s1.1)) = (s1.1.length * 1))))) (ac (pq (p := Pl Bool.true ((List.map AV.i s1.1)))) an))))) tq
end Ab
end Go.Proofs.Ytimcbhhebnikiaa
namespace Go.Proofs.Ytimcbhhebnikiaa
open Go Go.Proofs.Ytimcbhhebnikiaa.Ab
set_option linter.unusedVariables false
set_option linter.unusedSimpArgs false
set_option maxRecDepth 1000000
set_option maxHeartbeats 0
namespace Ab
noncomputable abbrev mLay_G0_I (blocks : Int) (l : List Ex) (over_ : List Ex) (s0 : Bool) (s2 : List Ex) (s4 : List Ex × Int) : St := (St.mk [(0, (AV.i blocks)), (1, (exs l)), (2, (exs over_)), (6, AV.nl), (7, (AV.i 0)), (12, (AV.i blocks)), (13, (exs l)), (14, (AV.b s0)), (15, (AV.b (!s0))), (16, (exs l)), (17, (exs s2)), (8, (exs s4.1)), (9, (AV.i 1)), (18, (AV.i 0)), (19, (exs over_)), (20, (AV.i (over_.length : Int))), (21, (AV.b ((0 : Int) == (over_.length : Int)))), (24, (AV.i blocks)), (25, (exs s2)), (26, (exs over_)), (27, (AV.i 0)), (28, (AV.ip (List.flatMap Ex.cells over_))), (29, (AV.ag (xc (exAt over_ 0)))), (30, (AV.tu [(exs s4.1), (AV.i s4.2)])), (23, (AV.tu [(exs s4.1), (AV.i s4.2)])), (31, (exs s4.1)), (32, (AV.i s4.2)), (10, (exs s4.1)), (11, (AV.i s4.2)), (33, (AV.i s4.2)), (34, (AV.b (s4.2 != (0 : Int)))), (38, (exs s4.1)), (39, (AV.i 0)), (40, (AV.i 1))] 41 (AH.mk 0 ([] : List (Prod Nat AObj))) Bool.false)
noncomputable abbrev mLay_G0_S (blocks : Int) (l : List Ex) (over_ : List Ex) (s0 : Bool) (s2 : List Ex) (s4 : List Ex × Int) (s6 : List Ex × Int) : St := (St.mk [(0, (AV.i blocks)), (1, (exs l)), (2, (exs over_)), (15, (AV.b (!s0))), (8, (exs s6.1)), (9, (AV.i s6.2))] 41 (AH.mk 0 ([] : List (Prod Nat AObj))) Bool.false)
noncomputable def mLay_G0_step (blocks : Int) (l : List Ex) (over_ : List Ex) (s0 : Bool) (s2 : List Ex) (s4 : List Ex × Int) (s6 : List Ex × Int) : Option (List Ex × Int) :=
 (tb ((s6.2 == (over_.length : Int)))
  none /- exit -/
  (tp ((((0 : Int) ≤ s6.2) ∧ (s6.2 < (over_.length : Int))))
   (tc (mPut (blocks) (s6.1) ((exAt over_ s6.2.toNat))) fun s9 =>
    (tb ((s9.2 != (0 : Int)))
     none /- exit -/
     (some ((s9.1, (wr (s6.2 + (1 : Int))))))))))
theorem mLay_G0_ok (blocks : Int) (l : List Ex) (over_ : List Ex) (s0 : Bool) (s2 : List Ex) (s4 : List Ex × Int) (s6 zz : List Ex × Int) : mLay_G0_step blocks l over_ s0 s2 s4 s6 = some zz → EvSStep Try.prog cf 0 (sc Try.prog 105 0) (sr Try.prog 105 0 0) (mLay_G0_S blocks l over_ s0 s2 s4 s6) (mLay_G0_S blocks l over_ s0 s2 s4 zz) := by
  unfold mLay_G0_step
  refine tb_ok (fun h7 => ?_) (fun h7 => ?_)
  ·
    have h7p := eq_of_beq h7
    exact fun e => nomatch e
  ·
    have h7p := ne_of_beq_false h7
    refine tp_ok (fun h8 => ?_)
    refine tc_ok (fun s9 h9 => ?_)
    refine tb_ok (fun h10 => ?_) (fun h10 => ?_)
    ·
      have h10p := bne_iff_ne.1 h10
      exact fun e => nomatch e
    ·
      have h10p := bne_eq_false_iff_eq.1 h10
      intro e; injection e with e; subst e
      exact leafIT vw_eq (l := 0) kq (k := 300) (r := []) (hs := hz [(4, [.no]), (4, [.yes, .yes, .cells ((Ex.cells (exAt over_ s6.2.toNat)))]), (1, [.fres (.tu [exs (s9.1), .i (s9.2)])]), (7, [.no]), (5, [])]) (ks := [0, 1, 2, 15, 8, 9]) (bs := []) kq (ac h7 (ac h8 (ac (fq (p := ((5 : Nat) ≤ (List.length (List.drop (s6.2.toNat * 5) (List.flatMap Ex.cells over_)))))) (ac (show (List.take 5 (List.drop (s6.2.toNat * 5) (List.flatMap Ex.cells over_))) = (Ex.cells (exAt over_ s6.2.toNat)) from (ex_takeO bq bq)) (ac (mPut_ok (blocks) (s6.1) ((exAt over_ s6.2.toNat)) _ h9) (ac h10 an)))))) kq
/-- Function 105, as it answers. -/
noncomputable def mLay (blocks : Int) (l : List Ex) (over_ : List Ex) : Option (List Ex × Int) :=
 (tc (mCheck (blocks) (l)) fun s0 =>
  (tb ((!s0))
   (some ((([] : List Ex), (80 : Int))))
   (tc (mOwn (l)) fun s2 =>
    (tb (((0 : Int) == (over_.length : Int)))
     (some ((s2, (0 : Int))))
     (tc (mPut (blocks) (s2) ((exAt over_ 0))) fun s4 =>
      (tb ((s4.2 != (0 : Int)))
       (tc (mOwn (l)) fun s6 =>
        (some ((s6, s4.2))))
       (th (mLay_G0_step blocks l over_ s0 s2 s4) ((s4.1, (1 : Int))) fun s6 =>
        (tb ((s6.2 == (over_.length : Int)))
         (some ((s6.1, (0 : Int))))
         (tp ((((0 : Int) ≤ s6.2) ∧ (s6.2 < (over_.length : Int))))
          (tc (mPut (blocks) (s6.1) ((exAt over_ s6.2.toNat))) fun s9 =>
           (tb ((s9.2 != (0 : Int)))
            (tc (mOwn (l)) fun s11 =>
             (some ((s11, s9.2))))
            none /- stop behind an operation -/)))))))))))
abbrev mLay_G (blocks : Int) (l : List Ex) (over_ : List Ex) (r : List Ex × Int) : Prop := EvFr Try.prog cf false 105 [.i (blocks), exs (l), exs (over_)] (.tu [exs (r.1), .i (r.2)])
theorem mLay_ok (blocks : Int) (l : List Ex) (over_ : List Ex) (r : List Ex × Int) : mLay blocks l over_ = some r → mLay_G blocks l over_ r := by
  unfold mLay
  refine tc_ok (fun s0 h0 => ?_)
  refine tb_ok (fun h1 => ?_) (fun h1 => ?_)
  ·
    intro e; injection e with e; subst e
    exact leafR vw_eq (k := 300) (r := []) (hs := hz [(5, [.fres (.b (s0))]), (1, [.yes]), (2, [])]) (raw := (AV.tu [(AV.sl 0 ([] : List AV)), (AV.i 80)])) kq (ac (mCheck_ok (blocks) (l) _ h0).any0 (ac h1 an)) tq
  ·
    refine tc_ok (fun s2 h2 => ?_)
    refine tb_ok (fun h3 => ?_) (fun h3 => ?_)
    ·
      have h3p := eq_of_beq h3
      intro e; injection e with e; subst e
      exact leafR vw_eq (k := 300) (r := []) (hs := hz [(5, [.fres (.b (s0))]), (1, [.no]), (2, [.fres (exs (s2))]), (6, [.yes]), (3, [])]) (raw := (AV.tu [(exs s2), (AV.i 0)])) kq (ac (mCheck_ok (blocks) (l) _ h0).any0 (ac h1 (ac (mOwn_ok (l) _ h2) (ac h3 an)))) tq
    ·
      have h3p := ne_of_beq_false h3
      refine tc_ok (fun s4 h4 => ?_)
      refine tb_ok (fun h5 => ?_) (fun h5 => ?_)
      ·
        have h5p := bne_iff_ne.1 h5
        refine tc_ok (fun s6 h6 => ?_)
        intro e; injection e with e; subst e
        exact leafR vw_eq (k := 300) (r := []) (hs := hz [(5, [.fres (.b (s0))]), (1, [.no]), (2, [.fres (exs (s2))]), (6, [.no]), (4, [.yes, .yes, .cells ((Ex.cells (exAt over_ 0)))]), (1, [.fres (.tu [exs (s4.1), .i (s4.2)])]), (7, [.yes]), (2, [.fres (exs (s6))]), (3, [])]) (raw := (AV.tu [(exs s6), (AV.i s4.2)])) kq (ac (mCheck_ok (blocks) (l) _ h0).any0 (ac h1 (ac (mOwn_ok (l) _ h2) (ac h3 (ac (fq (p := (((0 : Int) ≤ (0 : Int)) ∧ ((0 : Int) < (over_.length : Int))))) (ac (fq (p := ((5 : Nat) ≤ (List.length (List.flatMap Ex.cells over_))))) (ac (show (List.take 5 (List.flatMap Ex.cells over_)) = (Ex.cells (exAt over_ 0)) from (by have h := ex_take (over_) 0 bq; rwa [Nat.zero_mul, List.drop_zero] at h)) (ac (mPut_ok (blocks) (s2) ((exAt over_ 0)) _ h4) (ac h5 (ac (mOwn_ok (l) _ h6) an)))))))))) tq
      ·
        have h5p := bne_eq_false_iff_eq.1 h5
        refine th_ok (fun s6 h6 => ?_)
        refine tb_ok (fun h7 => ?_) (fun h7 => ?_)
        ·
          have h7p := eq_of_beq h7
          intro e; injection e with e; subst e
          exact leafR vw_eq (k := 300) (r := []) (hs := hz [(5, [.fres (.b (s0))]), (1, [.no]), (2, [.fres (exs (s2))]), (6, [.no]), (4, [.yes, .yes, .cells ((Ex.cells (exAt over_ 0)))]), (1, [.fres (.tu [exs (s4.1), .i (s4.2)])]), (7, [.no]), (5, [.head (mLay_G0_S blocks l over_ s0 s2 s4 s6)]), (4, [.yes]), (3, [])]) (raw := (AV.tu [(exs s6.1), (AV.i 0)])) kq (ac (mCheck_ok (blocks) (l) _ h0).any0 (ac h1 (ac (mOwn_ok (l) _ h2) (ac h3 (ac (fq (p := (((0 : Int) ≤ (0 : Int)) ∧ ((0 : Int) < (over_.length : Int))))) (ac (fq (p := ((5 : Nat) ≤ (List.length (List.flatMap Ex.cells over_))))) (ac (show (List.take 5 (List.flatMap Ex.cells over_)) = (Ex.cells (exAt over_ 0)) from (by have h := ex_take (over_) 0 bq; rwa [Nat.zero_mul, List.drop_zero] at h)) (ac (mPut_ok (blocks) (s2) ((exAt over_ 0)) _ h4) (ac h5 (ac (show EvSHead Try.prog cf (sc Try.prog 105 0) (sr Try.prog 105 0 0) (mLay_G0_I blocks l over_ s0 s2 s4) (mLay_G0_S blocks l over_ s0 s2 s4 s6) from (EvSHead.of (mLay_G0_ok blocks l over_ s0 s2 s4) (absB_of [] [] kq (.consn kq (.eqv tq rfl) (.consn kq (.eqv tq rfl) (.consn kq (.eqv tq rfl) (.consn kq (.eqv tq rfl) (.consn (x := (exs s4.1)) kq (.eqv tq rfl) (.consn kq (.eqv tq rfl) .nil)))))) .nil) h6)) (ac h7 an))))))))))) tq
        ·
          have h7p := ne_of_beq_false h7
          refine tp_ok (fun h8 => ?_)
          refine tc_ok (fun s9 h9 => ?_)
          refine tb_ok (fun h10 => ?_) (fun h10 => ?_)
          ·
            have h10p := bne_iff_ne.1 h10
            refine tc_ok (fun s11 h11 => ?_)
            intro e; injection e with e; subst e
            exact leafR vw_eq (k := 300) (r := []) (hs := hz [(5, [.fres (.b (s0))]), (1, [.no]), (2, [.fres (exs (s2))]), (6, [.no]), (4, [.yes, .yes, .cells ((Ex.cells (exAt over_ 0)))]), (1, [.fres (.tu [exs (s4.1), .i (s4.2)])]), (7, [.no]), (5, [.head (mLay_G0_S blocks l over_ s0 s2 s4 s6)]), (4, [.no]), (4, [.yes, .yes, .cells ((Ex.cells (exAt over_ s6.2.toNat)))]), (1, [.fres (.tu [exs (s9.1), .i (s9.2)])]), (7, [.yes]), (2, [.fres (exs (s11))]), (3, [])]) (raw := (AV.tu [(exs s11), (AV.i s9.2)])) kq (ac (mCheck_ok (blocks) (l) _ h0).any0 (ac h1 (ac (mOwn_ok (l) _ h2) (ac h3 (ac (fq (p := (((0 : Int) ≤ (0 : Int)) ∧ ((0 : Int) < (over_.length : Int))))) (ac (fq (p := ((5 : Nat) ≤ (List.length (List.flatMap Ex.cells over_))))) (ac (show (List.take 5 (List.flatMap Ex.cells over_)) = (Ex.cells (exAt over_ 0)) from (by have h := ex_take (over_) 0 bq; rwa [Nat.zero_mul, List.drop_zero] at h)) (ac (mPut_ok (blocks) (s2) ((exAt over_ 0)) _ h4) (ac h5 (ac (show EvSHead Try.prog cf (sc Try.prog 105 0) (sr Try.prog 105 0 0) (mLay_G0_I blocks l over_ s0 s2 s4) (mLay_G0_S blocks l over_ s0 s2 s4 s6) from (EvSHead.of (mLay_G0_ok blocks l over_ s0 s2 s4) (absB_of [] [] kq (.consn kq (.eqv tq rfl) (.consn kq (.eqv tq rfl) (.consn kq (.eqv tq rfl) (.consn kq (.eqv tq rfl) (.consn (x := (exs s4.1)) kq (.eqv tq rfl) (.consn kq (.eqv tq rfl) .nil)))))) .nil) h6)) (ac h7 (ac h8 (ac (fq (p := ((5 : Nat) ≤ (List.length (List.drop (s6.2.toNat * 5) (List.flatMap Ex.cells over_)))))) (ac (show (List.take 5 (List.drop (s6.2.toNat * 5) (List.flatMap Ex.cells over_))) = (Ex.cells (exAt over_ s6.2.toNat)) from (ex_takeO bq bq)) (ac (mPut_ok (blocks) (s6.1) ((exAt over_ s6.2.toNat)) _ h9) (ac h10 (ac (mOwn_ok (l) _ h11) an))))))))))))))))) tq
          ·
            have h10p := bne_eq_false_iff_eq.1 h10
            exact fun e => nomatch e
end Ab
end Go.Proofs.Ytimcbhhebnikiaa
namespace Go.Proofs.Ytimcbhhebnikiaa
open Go Go.Proofs.Ytimcbhhebnikiaa.Ab
set_option linter.unusedVariables false
set_option linter.unusedSimpArgs false
set_option maxRecDepth 1000000
set_option maxHeartbeats 0
namespace Ab
noncomputable abbrev sDo_L0_I (s : Sa) (c : Ch) (s0 : Int) (s2 : Bool) (s4 : Sa) (s6 : List Ex) : St := (St.mk [(0, (AV.pt 6 0)), (1, (AV.rf 9 5 0 1)), (4, (AV.i 0)), (9, (AV.rf 9 5 0 1)), (10, (AV.rf 10 5 0 s6.length)), (5, (AV.rf 10 5 0 s6.length)), (11, (AV.rf 10 5 0 s6.length)), (12, (AV.i (s6.length : Int))), (13, (AV.i 0))] 45 (AH.mk 11 [(10, (AObj.cells (List.flatMap Ex.cells s6))), (9, (AObj.ro [(AV.i c.lba), (AV.i c.n), (AV.i 2), (AV.i 0), (bys c.d)])), (8, (AObj.cells [(AV.i c.kind), (AV.i c.lba), (AV.i c.n), (AV.i c.id), (bys c.d), (exs c.list)])), (7, (AObj.map [((AV.i 1), (AV.fn (75 : Nat) ([] : List AV))), ((AV.i 2), (AV.fn (76 : Nat) ([] : List AV))), ((AV.i 3), (AV.fn (77 : Nat) ([] : List AV))), ((AV.i 4), (AV.fn (78 : Nat) ([] : List AV))), ((AV.i 5), (AV.fn (79 : Nat) ([] : List AV))), ((AV.i 6), (AV.fn (80 : Nat) ([] : List AV))), ((AV.i 7), (AV.fn (81 : Nat) ([] : List AV))), ((AV.i 8), (AV.fn (82 : Nat) ([] : List AV)))])), (6, (AObj.cells [(AV.i s4.blocks), (AV.i s4.gen), (AV.rf 3 5 0 s4.map.length), (AV.rf 4 3 0 s4.points.length), (AV.i s4.last), (AV.rf 5 1 0 s4.staged.length)])), (5, (AObj.cells (List.map AV.y s4.staged))), (4, (AObj.cells (List.flatMap Po.cells s4.points))), (3, (AObj.cells (List.flatMap Ex.cells s4.map))), (2, (AObj.cells [(AV.i 0), (AV.i 0), AV.nl, AV.nl, (AV.i 0), AV.nl])), (1, (AObj.cells [(AV.i c.kind), (AV.i c.lba), (AV.i c.n), (AV.i c.id), (bys c.d), (exs c.list)])), (0, (AObj.cells [(AV.i s.blocks), (AV.i s.gen), (exs s.map), (AV.sl s.points.length (List.flatMap Po.cells s.points)), (AV.i s.last), (bys s.staged)]))]) Bool.false)
noncomputable abbrev sDo_L0_S (s : Sa) (c : Ch) (s0 : Int) (s2 : Bool) (s4 : Sa) (s6 : List Ex) (s7 : Int × List Ex) : St := (St.mk [(0, (AV.pt 6 0)), (1, (AV.rf 9 5 0 1)), (4, (AV.i 0)), (5, (AV.rf 10 5 0 s6.length)), (12, (AV.i (s6.length : Int))), (13, (AV.i s7.1))] 45 (AH.mk 11 [(10, (AObj.cells (List.flatMap Ex.cells s7.2))), (9, (AObj.ro [(AV.i c.lba), (AV.i c.n), (AV.i 2), (AV.i 0), (bys c.d)])), (8, (AObj.cells [(AV.i c.kind), (AV.i c.lba), (AV.i c.n), (AV.i c.id), (bys c.d), (exs c.list)])), (6, (AObj.cells [(AV.i s4.blocks), (AV.i s4.gen), (AV.rf 3 5 0 s4.map.length), (AV.rf 4 3 0 s4.points.length), (AV.i s4.last), (AV.rf 5 1 0 s4.staged.length)])), (5, (AObj.cells (List.map AV.y s4.staged))), (4, (AObj.cells (List.flatMap Po.cells s4.points))), (3, (AObj.cells (List.flatMap Ex.cells s4.map))), (2, (AObj.cells [(AV.i 0), (AV.i 0), AV.nl, AV.nl, (AV.i 0), AV.nl])), (1, (AObj.cells [(AV.i c.kind), (AV.i c.lba), (AV.i c.n), (AV.i c.id), (bys c.d), (exs c.list)])), (0, (AObj.cells [(AV.i s.blocks), (AV.i s.gen), (exs s.map), (AV.sl s.points.length (List.flatMap Po.cells s.points)), (AV.i s.last), (bys s.staged)]))]) Bool.false)
noncomputable def sDo_L0_step (s : Sa) (c : Ch) (s0 : Int) (s2 : Bool) (s4 : Sa) (s6 : List Ex) (s7 : Int × List Ex) : Option (Int × List Ex) :=
 (tb ((decide (s7.1 < (s6.length : Int))))
  (tp ((((0 : Int) ≤ s7.1) ∧ (s7.1 < (s6.length : Int))))
   (tp ((((List.length [(AV.i s4.gen)]) = (1 : Nat)) ∧ (((((0 : Nat) + (s7.1.toNat * 5)) + (3 : Nat)) + (List.length [(AV.i s4.gen)])) ≤ (List.length (List.flatMap Ex.cells s7.2)))))
    (some (((wr (s7.1 + (1 : Int))), (List.set s7.2 s7.1.toNat (Ex.mk (exAt s7.2 s7.1.toNat).lba (exAt s7.2 s7.1.toNat).len (exAt s7.2 s7.1.toNat).kind s4.gen (exAt s7.2 s7.1.toNat).d)))))))
  none /- exit -/)
theorem sDo_L0_ok (s : Sa) (c : Ch) (s0 : Int) (s2 : Bool) (s4 : Sa) (s6 : List Ex) (s7 zz : Int × List Ex) : sDo_L0_step s c s0 s2 s4 s6 s7 = some zz → EvStep Try.prog cf 11 (lp Try.prog 97 0) (sDo_L0_S s c s0 s2 s4 s6 s7) (sDo_L0_S s c s0 s2 s4 s6 zz) := by
  unfold sDo_L0_step
  refine tb_ok (fun h8 => ?_) (fun h8 => ?_)
  ·
    have h8p := of_decide_eq_true h8
    refine tp_ok (fun h9 => ?_)
    refine tp_ok (fun h10 => ?_)
    intro e; injection e with e; subst e
    exact leafS vw_eq (k := 300) (r := []) (hs := hz [(1, [.yes]), (9, [.yes]), (1, [.yes, .cells ((List.flatMap Ex.cells (List.set s7.2 s7.1.toNat (Ex.mk (exAt s7.2 s7.1.toNat).lba (exAt s7.2 s7.1.toNat).len (exAt s7.2 s7.1.toNat).kind s4.gen (exAt s7.2 s7.1.toNat).d))))]), (2, [])]) (ks := [0, 1, 4, 5, 12, 13]) (st1 := (St.mk [(0, (AV.pt 6 0)), (1, (AV.rf 9 5 0 1)), (4, (AV.i 0)), (5, (AV.rf 10 5 0 s6.length)), (12, (AV.i (s6.length : Int))), (13, (AV.i (wr (s7.1 + (1 : Int)))))] 45 (AH.mk 11 [(10, (AObj.cells (List.flatMap Ex.cells (List.set s7.2 s7.1.toNat (Ex.mk (exAt s7.2 s7.1.toNat).lba (exAt s7.2 s7.1.toNat).len (exAt s7.2 s7.1.toNat).kind s4.gen (exAt s7.2 s7.1.toNat).d))))), (9, (AObj.ro [(AV.i c.lba), (AV.i c.n), (AV.i 2), (AV.i 0), (bys c.d)])), (8, (AObj.cells [(AV.i c.kind), (AV.i c.lba), (AV.i c.n), (AV.i c.id), (bys c.d), (exs c.list)])), (6, (AObj.cells [(AV.i s4.blocks), (AV.i s4.gen), (AV.rf 3 5 0 s4.map.length), (AV.rf 4 3 0 s4.points.length), (AV.i s4.last), (AV.rf 5 1 0 s4.staged.length)])), (5, (AObj.cells (List.map AV.y s4.staged))), (4, (AObj.cells (List.flatMap Po.cells s4.points))), (3, (AObj.cells (List.flatMap Ex.cells s4.map))), (2, (AObj.cells [(AV.i 0), (AV.i 0), AV.nl, AV.nl, (AV.i 0), AV.nl])), (1, (AObj.cells [(AV.i c.kind), (AV.i c.lba), (AV.i c.n), (AV.i c.id), (bys c.d), (exs c.list)])), (0, (AObj.cells [(AV.i s.blocks), (AV.i s.gen), (exs s.map), (AV.sl s.points.length (List.flatMap Po.cells s.points)), (AV.i s.last), (bys s.staged)]))]) Bool.false)) kq (ac h8 (ac h9 (ac h10 (ac (show (((List.take (((0 : Nat) + (s7.1.toNat * 5)) + (3 : Nat)) (List.flatMap Ex.cells s7.2)) ++ [(AV.i s4.gen)]) ++ (List.drop ((((0 : Nat) + (s7.1.toNat * 5)) + (3 : Nat)) + (List.length [(AV.i s4.gen)])) (List.flatMap Ex.cells s7.2))) = (List.flatMap Ex.cells (List.set s7.2 s7.1.toNat (Ex.mk (exAt s7.2 s7.1.toNat).lba (exAt s7.2 s7.1.toNat).len (exAt s7.2 s7.1.toNat).kind s4.gen (exAt s7.2 s7.1.toNat).d))) from (by rw [show (((0 : Nat) + (s7.1.toNat * 5)) + (3 : Nat)) = (s7.1.toNat) * 5 + 3 by omega]; exact ex_setf _ _ 3 _ ((Ex.mk (exAt s7.2 s7.1.toNat).lba (exAt s7.2 s7.1.toNat).len (exAt s7.2 s7.1.toNat).kind s4.gen (exAt s7.2 s7.1.toNat).d)) bq (by simp) rfl)) an)))) (Nat.le_of_ble_eq_true rfl) (Nat.le_of_ble_eq_true rfl) (absB_of [] [] kq (.consn kq (.pt rfl) (.consn kq (.rf rfl) (.consn kq (.eqv tq rfl) (.consn kq (.rf rfl) (.consn kq (.eqv tq rfl) (.consn kq (.eqv tq rfl) .nil)))))) (.cons (.old rfl rfl (.cells (.pl tq pq))) (.cons (.old rfl rfl (.ro (.pl rfl (by simp)))) (.cons (.old rfl rfl (.cells (.pl rfl pq))) (.cons (.old rfl rfl (.cells (.cons (.eqv tq rfl) (.cons (.eqv tq rfl) (.cons (.rf rfl) (.cons (.rf rfl) (.cons (.eqv tq rfl) (.cons (.rf rfl) .nil)))))))) (.cons (.old rfl rfl (.cells (.pl rfl (by simp)))) (.cons (.old rfl rfl (.cells (.pl rfl (by simp)))) (.cons (.old rfl rfl (.cells (.pl rfl (by simp)))) (.cons (.old rfl rfl (.cells (.cons (.eqv tq rfl) (.cons (.eqv tq rfl) (.cons .nl0 (.cons .nl0 (.cons (.eqv tq rfl) (.cons .nl0 .nil)))))))) (.cons (.old rfl rfl (.cells (.pl rfl pq))) (.cons (.old rfl rfl (.cells (.pl rfl pq))) .nil)))))))))))
  ·
    have h8p := of_decide_eq_false h8
    exact fun e => nomatch e
noncomputable abbrev sDo_L1_I (s : Sa) (c : Ch) (s0 : Int) (s2 : Bool) (s4 : Sa) (s7 : List Ex) : St := (St.mk [(0, (AV.pt 6 0)), (1, (AV.rf 9 5 0 1)), (4, (AV.i 0)), (9, (AV.rf 9 5 0 1)), (10, (AV.rf 10 5 0 s7.length)), (5, (AV.rf 10 5 0 s7.length)), (11, (AV.rf 10 5 0 s7.length)), (12, (AV.i (s7.length : Int))), (13, (AV.i 0))] 45 (AH.mk 11 [(10, (AObj.cells (List.flatMap Ex.cells s7))), (9, (AObj.ro [(AV.i c.lba), (AV.i c.n), (AV.i 1), (AV.i 0), AV.nl])), (8, (AObj.cells [(AV.i c.kind), (AV.i c.lba), (AV.i c.n), (AV.i c.id), (bys c.d), (exs c.list)])), (7, (AObj.map [((AV.i 1), (AV.fn (75 : Nat) ([] : List AV))), ((AV.i 2), (AV.fn (76 : Nat) ([] : List AV))), ((AV.i 3), (AV.fn (77 : Nat) ([] : List AV))), ((AV.i 4), (AV.fn (78 : Nat) ([] : List AV))), ((AV.i 5), (AV.fn (79 : Nat) ([] : List AV))), ((AV.i 6), (AV.fn (80 : Nat) ([] : List AV))), ((AV.i 7), (AV.fn (81 : Nat) ([] : List AV))), ((AV.i 8), (AV.fn (82 : Nat) ([] : List AV)))])), (6, (AObj.cells [(AV.i s4.blocks), (AV.i s4.gen), (AV.rf 3 5 0 s4.map.length), (AV.rf 4 3 0 s4.points.length), (AV.i s4.last), (AV.rf 5 1 0 s4.staged.length)])), (5, (AObj.cells (List.map AV.y s4.staged))), (4, (AObj.cells (List.flatMap Po.cells s4.points))), (3, (AObj.cells (List.flatMap Ex.cells s4.map))), (2, (AObj.cells [(AV.i 0), (AV.i 0), AV.nl, AV.nl, (AV.i 0), AV.nl])), (1, (AObj.cells [(AV.i c.kind), (AV.i c.lba), (AV.i c.n), (AV.i c.id), (bys c.d), (exs c.list)])), (0, (AObj.cells [(AV.i s.blocks), (AV.i s.gen), (exs s.map), (AV.sl s.points.length (List.flatMap Po.cells s.points)), (AV.i s.last), (bys s.staged)]))]) Bool.false)
noncomputable abbrev sDo_L1_S (s : Sa) (c : Ch) (s0 : Int) (s2 : Bool) (s4 : Sa) (s7 : List Ex) (s8 : Int × List Ex) : St := (St.mk [(0, (AV.pt 6 0)), (1, (AV.rf 9 5 0 1)), (4, (AV.i 0)), (5, (AV.rf 10 5 0 s7.length)), (12, (AV.i (s7.length : Int))), (13, (AV.i s8.1))] 45 (AH.mk 11 [(10, (AObj.cells (List.flatMap Ex.cells s8.2))), (9, (AObj.ro [(AV.i c.lba), (AV.i c.n), (AV.i (Int.ofNat 1)), (AV.i (Int.ofNat 0)), AV.nl])), (8, (AObj.cells [(AV.i c.kind), (AV.i c.lba), (AV.i c.n), (AV.i c.id), (bys c.d), (exs c.list)])), (6, (AObj.cells [(AV.i s4.blocks), (AV.i s4.gen), (AV.rf 3 5 0 s4.map.length), (AV.rf 4 3 0 s4.points.length), (AV.i s4.last), (AV.rf 5 1 0 s4.staged.length)])), (5, (AObj.cells (List.map AV.y s4.staged))), (4, (AObj.cells (List.flatMap Po.cells s4.points))), (3, (AObj.cells (List.flatMap Ex.cells s4.map))), (2, (AObj.cells [(AV.i 0), (AV.i 0), AV.nl, AV.nl, (AV.i 0), AV.nl])), (1, (AObj.cells [(AV.i c.kind), (AV.i c.lba), (AV.i c.n), (AV.i c.id), (bys c.d), (exs c.list)])), (0, (AObj.cells [(AV.i s.blocks), (AV.i s.gen), (exs s.map), (AV.sl s.points.length (List.flatMap Po.cells s.points)), (AV.i s.last), (bys s.staged)]))]) Bool.false)
noncomputable def sDo_L1_step (s : Sa) (c : Ch) (s0 : Int) (s2 : Bool) (s4 : Sa) (s7 : List Ex) (s8 : Int × List Ex) : Option (Int × List Ex) :=
 (tb ((decide (s8.1 < (s7.length : Int))))
  (tp ((((0 : Int) ≤ s8.1) ∧ (s8.1 < (s7.length : Int))))
   (tp ((((List.length [(AV.i s4.gen)]) = (1 : Nat)) ∧ (((((0 : Nat) + (s8.1.toNat * 5)) + (3 : Nat)) + (List.length [(AV.i s4.gen)])) ≤ (List.length (List.flatMap Ex.cells s8.2)))))
    (some (((wr (s8.1 + (1 : Int))), (List.set s8.2 s8.1.toNat (Ex.mk (exAt s8.2 s8.1.toNat).lba (exAt s8.2 s8.1.toNat).len (exAt s8.2 s8.1.toNat).kind s4.gen (exAt s8.2 s8.1.toNat).d)))))))
  none /- exit -/)
theorem sDo_L1_ok (s : Sa) (c : Ch) (s0 : Int) (s2 : Bool) (s4 : Sa) (s7 : List Ex) (s8 zz : Int × List Ex) : sDo_L1_step s c s0 s2 s4 s7 s8 = some zz → EvStep Try.prog cf 11 (lp Try.prog 97 0) (sDo_L1_S s c s0 s2 s4 s7 s8) (sDo_L1_S s c s0 s2 s4 s7 zz) := by
  unfold sDo_L1_step
  refine tb_ok (fun h9 => ?_) (fun h9 => ?_)
  ·
    have h9p := of_decide_eq_true h9
    refine tp_ok (fun h10 => ?_)
    refine tp_ok (fun h11 => ?_)
    intro e; injection e with e; subst e
    exact leafS vw_eq (k := 300) (r := []) (hs := hz [(1, [.yes]), (9, [.yes]), (1, [.yes, .cells ((List.flatMap Ex.cells (List.set s8.2 s8.1.toNat (Ex.mk (exAt s8.2 s8.1.toNat).lba (exAt s8.2 s8.1.toNat).len (exAt s8.2 s8.1.toNat).kind s4.gen (exAt s8.2 s8.1.toNat).d))))]), (2, [])]) (ks := [0, 1, 4, 5, 12, 13]) (st1 := (St.mk [(0, (AV.pt 6 0)), (1, (AV.rf 9 5 0 1)), (4, (AV.i 0)), (5, (AV.rf 10 5 0 s7.length)), (12, (AV.i (s7.length : Int))), (13, (AV.i (wr (s8.1 + (1 : Int)))))] 45 (AH.mk 11 [(10, (AObj.cells (List.flatMap Ex.cells (List.set s8.2 s8.1.toNat (Ex.mk (exAt s8.2 s8.1.toNat).lba (exAt s8.2 s8.1.toNat).len (exAt s8.2 s8.1.toNat).kind s4.gen (exAt s8.2 s8.1.toNat).d))))), (9, (AObj.ro [(AV.i c.lba), (AV.i c.n), (AV.i 1), (AV.i 0), AV.nl])), (8, (AObj.cells [(AV.i c.kind), (AV.i c.lba), (AV.i c.n), (AV.i c.id), (bys c.d), (exs c.list)])), (6, (AObj.cells [(AV.i s4.blocks), (AV.i s4.gen), (AV.rf 3 5 0 s4.map.length), (AV.rf 4 3 0 s4.points.length), (AV.i s4.last), (AV.rf 5 1 0 s4.staged.length)])), (5, (AObj.cells (List.map AV.y s4.staged))), (4, (AObj.cells (List.flatMap Po.cells s4.points))), (3, (AObj.cells (List.flatMap Ex.cells s4.map))), (2, (AObj.cells [(AV.i 0), (AV.i 0), AV.nl, AV.nl, (AV.i 0), AV.nl])), (1, (AObj.cells [(AV.i c.kind), (AV.i c.lba), (AV.i c.n), (AV.i c.id), (bys c.d), (exs c.list)])), (0, (AObj.cells [(AV.i s.blocks), (AV.i s.gen), (exs s.map), (AV.sl s.points.length (List.flatMap Po.cells s.points)), (AV.i s.last), (bys s.staged)]))]) Bool.false)) kq (ac h9 (ac h10 (ac h11 (ac (show (((List.take (((0 : Nat) + (s8.1.toNat * 5)) + (3 : Nat)) (List.flatMap Ex.cells s8.2)) ++ [(AV.i s4.gen)]) ++ (List.drop ((((0 : Nat) + (s8.1.toNat * 5)) + (3 : Nat)) + (List.length [(AV.i s4.gen)])) (List.flatMap Ex.cells s8.2))) = (List.flatMap Ex.cells (List.set s8.2 s8.1.toNat (Ex.mk (exAt s8.2 s8.1.toNat).lba (exAt s8.2 s8.1.toNat).len (exAt s8.2 s8.1.toNat).kind s4.gen (exAt s8.2 s8.1.toNat).d))) from (by rw [show (((0 : Nat) + (s8.1.toNat * 5)) + (3 : Nat)) = (s8.1.toNat) * 5 + 3 by omega]; exact ex_setf _ _ 3 _ ((Ex.mk (exAt s8.2 s8.1.toNat).lba (exAt s8.2 s8.1.toNat).len (exAt s8.2 s8.1.toNat).kind s4.gen (exAt s8.2 s8.1.toNat).d)) bq (by simp) rfl)) an)))) (Nat.le_of_ble_eq_true rfl) (Nat.le_of_ble_eq_true rfl) (absB_of [] [] kq (.consn kq (.pt rfl) (.consn kq (.rf rfl) (.consn kq (.eqv tq rfl) (.consn kq (.rf rfl) (.consn kq (.eqv tq rfl) (.consn kq (.eqv tq rfl) .nil)))))) (.cons (.old rfl rfl (.cells (.pl tq pq))) (.cons (.old rfl rfl (.ro (.pl0 rfl))) (.cons (.old rfl rfl (.cells (.pl rfl pq))) (.cons (.old rfl rfl (.cells (.cons (.eqv tq rfl) (.cons (.eqv tq rfl) (.cons (.rf rfl) (.cons (.rf rfl) (.cons (.eqv tq rfl) (.cons (.rf rfl) .nil)))))))) (.cons (.old rfl rfl (.cells (.pl rfl (by simp)))) (.cons (.old rfl rfl (.cells (.pl rfl (by simp)))) (.cons (.old rfl rfl (.cells (.pl rfl (by simp)))) (.cons (.old rfl rfl (.cells (.cons (.eqv tq rfl) (.cons (.eqv tq rfl) (.cons .nl0 (.cons .nl0 (.cons (.eqv tq rfl) (.cons .nl0 .nil)))))))) (.cons (.old rfl rfl (.cells (.pl rfl pq))) (.cons (.old rfl rfl (.cells (.pl rfl pq))) .nil)))))))))))
  ·
    have h9p := of_decide_eq_false h9
    exact fun e => nomatch e
noncomputable abbrev sDo_L2_I (s : Sa) (c : Ch) (s0 : Int) (s2 : Bool) (s4 : Sa) (s8 : List Ex) : St := (St.mk [(0, (AV.pt 6 0)), (1, (AV.rf 9 5 0 1)), (4, (AV.i 0)), (9, (AV.rf 9 5 0 1)), (10, (AV.rf 10 5 0 s8.length)), (5, (AV.rf 10 5 0 s8.length)), (11, (AV.rf 10 5 0 s8.length)), (12, (AV.i (s8.length : Int))), (13, (AV.i 0))] 45 (AH.mk 11 [(10, (AObj.cells (List.flatMap Ex.cells s8))), (9, (AObj.ro [(AV.i c.lba), (AV.i c.n), (AV.i 0), (AV.i 0), AV.nl])), (8, (AObj.cells [(AV.i c.kind), (AV.i c.lba), (AV.i c.n), (AV.i c.id), (bys c.d), (exs c.list)])), (7, (AObj.map [((AV.i 1), (AV.fn (75 : Nat) ([] : List AV))), ((AV.i 2), (AV.fn (76 : Nat) ([] : List AV))), ((AV.i 3), (AV.fn (77 : Nat) ([] : List AV))), ((AV.i 4), (AV.fn (78 : Nat) ([] : List AV))), ((AV.i 5), (AV.fn (79 : Nat) ([] : List AV))), ((AV.i 6), (AV.fn (80 : Nat) ([] : List AV))), ((AV.i 7), (AV.fn (81 : Nat) ([] : List AV))), ((AV.i 8), (AV.fn (82 : Nat) ([] : List AV)))])), (6, (AObj.cells [(AV.i s4.blocks), (AV.i s4.gen), (AV.rf 3 5 0 s4.map.length), (AV.rf 4 3 0 s4.points.length), (AV.i s4.last), (AV.rf 5 1 0 s4.staged.length)])), (5, (AObj.cells (List.map AV.y s4.staged))), (4, (AObj.cells (List.flatMap Po.cells s4.points))), (3, (AObj.cells (List.flatMap Ex.cells s4.map))), (2, (AObj.cells [(AV.i 0), (AV.i 0), AV.nl, AV.nl, (AV.i 0), AV.nl])), (1, (AObj.cells [(AV.i c.kind), (AV.i c.lba), (AV.i c.n), (AV.i c.id), (bys c.d), (exs c.list)])), (0, (AObj.cells [(AV.i s.blocks), (AV.i s.gen), (exs s.map), (AV.sl s.points.length (List.flatMap Po.cells s.points)), (AV.i s.last), (bys s.staged)]))]) Bool.false)
noncomputable abbrev sDo_L2_S (s : Sa) (c : Ch) (s0 : Int) (s2 : Bool) (s4 : Sa) (s8 : List Ex) (s9 : Int × List Ex) : St := (St.mk [(0, (AV.pt 6 0)), (1, (AV.rf 9 5 0 1)), (4, (AV.i 0)), (5, (AV.rf 10 5 0 s8.length)), (12, (AV.i (s8.length : Int))), (13, (AV.i s9.1))] 45 (AH.mk 11 [(10, (AObj.cells (List.flatMap Ex.cells s9.2))), (9, (AObj.ro [(AV.i c.lba), (AV.i c.n), (AV.i (Int.ofNat 0)), (AV.i (Int.ofNat 0)), AV.nl])), (8, (AObj.cells [(AV.i c.kind), (AV.i c.lba), (AV.i c.n), (AV.i c.id), (bys c.d), (exs c.list)])), (6, (AObj.cells [(AV.i s4.blocks), (AV.i s4.gen), (AV.rf 3 5 0 s4.map.length), (AV.rf 4 3 0 s4.points.length), (AV.i s4.last), (AV.rf 5 1 0 s4.staged.length)])), (5, (AObj.cells (List.map AV.y s4.staged))), (4, (AObj.cells (List.flatMap Po.cells s4.points))), (3, (AObj.cells (List.flatMap Ex.cells s4.map))), (2, (AObj.cells [(AV.i 0), (AV.i 0), AV.nl, AV.nl, (AV.i 0), AV.nl])), (1, (AObj.cells [(AV.i c.kind), (AV.i c.lba), (AV.i c.n), (AV.i c.id), (bys c.d), (exs c.list)])), (0, (AObj.cells [(AV.i s.blocks), (AV.i s.gen), (exs s.map), (AV.sl s.points.length (List.flatMap Po.cells s.points)), (AV.i s.last), (bys s.staged)]))]) Bool.false)
noncomputable def sDo_L2_step (s : Sa) (c : Ch) (s0 : Int) (s2 : Bool) (s4 : Sa) (s8 : List Ex) (s9 : Int × List Ex) : Option (Int × List Ex) :=
 (tb ((decide (s9.1 < (s8.length : Int))))
  (tp ((((0 : Int) ≤ s9.1) ∧ (s9.1 < (s8.length : Int))))
   (tp ((((List.length [(AV.i s4.gen)]) = (1 : Nat)) ∧ (((((0 : Nat) + (s9.1.toNat * 5)) + (3 : Nat)) + (List.length [(AV.i s4.gen)])) ≤ (List.length (List.flatMap Ex.cells s9.2)))))
    (some (((wr (s9.1 + (1 : Int))), (List.set s9.2 s9.1.toNat (Ex.mk (exAt s9.2 s9.1.toNat).lba (exAt s9.2 s9.1.toNat).len (exAt s9.2 s9.1.toNat).kind s4.gen (exAt s9.2 s9.1.toNat).d)))))))
  none /- exit -/)
theorem sDo_L2_ok (s : Sa) (c : Ch) (s0 : Int) (s2 : Bool) (s4 : Sa) (s8 : List Ex) (s9 zz : Int × List Ex) : sDo_L2_step s c s0 s2 s4 s8 s9 = some zz → EvStep Try.prog cf 11 (lp Try.prog 97 0) (sDo_L2_S s c s0 s2 s4 s8 s9) (sDo_L2_S s c s0 s2 s4 s8 zz) := by
  unfold sDo_L2_step
  refine tb_ok (fun h10 => ?_) (fun h10 => ?_)
  ·
    have h10p := of_decide_eq_true h10
    refine tp_ok (fun h11 => ?_)
    refine tp_ok (fun h12 => ?_)
    intro e; injection e with e; subst e
    exact leafS vw_eq (k := 300) (r := []) (hs := hz [(1, [.yes]), (9, [.yes]), (1, [.yes, .cells ((List.flatMap Ex.cells (List.set s9.2 s9.1.toNat (Ex.mk (exAt s9.2 s9.1.toNat).lba (exAt s9.2 s9.1.toNat).len (exAt s9.2 s9.1.toNat).kind s4.gen (exAt s9.2 s9.1.toNat).d))))]), (2, [])]) (ks := [0, 1, 4, 5, 12, 13]) (st1 := (St.mk [(0, (AV.pt 6 0)), (1, (AV.rf 9 5 0 1)), (4, (AV.i 0)), (5, (AV.rf 10 5 0 s8.length)), (12, (AV.i (s8.length : Int))), (13, (AV.i (wr (s9.1 + (1 : Int)))))] 45 (AH.mk 11 [(10, (AObj.cells (List.flatMap Ex.cells (List.set s9.2 s9.1.toNat (Ex.mk (exAt s9.2 s9.1.toNat).lba (exAt s9.2 s9.1.toNat).len (exAt s9.2 s9.1.toNat).kind s4.gen (exAt s9.2 s9.1.toNat).d))))), (9, (AObj.ro [(AV.i c.lba), (AV.i c.n), (AV.i 0), (AV.i 0), AV.nl])), (8, (AObj.cells [(AV.i c.kind), (AV.i c.lba), (AV.i c.n), (AV.i c.id), (bys c.d), (exs c.list)])), (6, (AObj.cells [(AV.i s4.blocks), (AV.i s4.gen), (AV.rf 3 5 0 s4.map.length), (AV.rf 4 3 0 s4.points.length), (AV.i s4.last), (AV.rf 5 1 0 s4.staged.length)])), (5, (AObj.cells (List.map AV.y s4.staged))), (4, (AObj.cells (List.flatMap Po.cells s4.points))), (3, (AObj.cells (List.flatMap Ex.cells s4.map))), (2, (AObj.cells [(AV.i 0), (AV.i 0), AV.nl, AV.nl, (AV.i 0), AV.nl])), (1, (AObj.cells [(AV.i c.kind), (AV.i c.lba), (AV.i c.n), (AV.i c.id), (bys c.d), (exs c.list)])), (0, (AObj.cells [(AV.i s.blocks), (AV.i s.gen), (exs s.map), (AV.sl s.points.length (List.flatMap Po.cells s.points)), (AV.i s.last), (bys s.staged)]))]) Bool.false)) kq (ac h10 (ac h11 (ac h12 (ac (show (((List.take (((0 : Nat) + (s9.1.toNat * 5)) + (3 : Nat)) (List.flatMap Ex.cells s9.2)) ++ [(AV.i s4.gen)]) ++ (List.drop ((((0 : Nat) + (s9.1.toNat * 5)) + (3 : Nat)) + (List.length [(AV.i s4.gen)])) (List.flatMap Ex.cells s9.2))) = (List.flatMap Ex.cells (List.set s9.2 s9.1.toNat (Ex.mk (exAt s9.2 s9.1.toNat).lba (exAt s9.2 s9.1.toNat).len (exAt s9.2 s9.1.toNat).kind s4.gen (exAt s9.2 s9.1.toNat).d))) from (by rw [show (((0 : Nat) + (s9.1.toNat * 5)) + (3 : Nat)) = (s9.1.toNat) * 5 + 3 by omega]; exact ex_setf _ _ 3 _ ((Ex.mk (exAt s9.2 s9.1.toNat).lba (exAt s9.2 s9.1.toNat).len (exAt s9.2 s9.1.toNat).kind s4.gen (exAt s9.2 s9.1.toNat).d)) bq (by simp) rfl)) an)))) (Nat.le_of_ble_eq_true rfl) (Nat.le_of_ble_eq_true rfl) (absB_of [] [] kq (.consn kq (.pt rfl) (.consn kq (.rf rfl) (.consn kq (.eqv tq rfl) (.consn kq (.rf rfl) (.consn kq (.eqv tq rfl) (.consn kq (.eqv tq rfl) .nil)))))) (.cons (.old rfl rfl (.cells (.pl tq pq))) (.cons (.old rfl rfl (.ro (.pl0 rfl))) (.cons (.old rfl rfl (.cells (.pl rfl pq))) (.cons (.old rfl rfl (.cells (.cons (.eqv tq rfl) (.cons (.eqv tq rfl) (.cons (.rf rfl) (.cons (.rf rfl) (.cons (.eqv tq rfl) (.cons (.rf rfl) .nil)))))))) (.cons (.old rfl rfl (.cells (.pl rfl (by simp)))) (.cons (.old rfl rfl (.cells (.pl rfl (by simp)))) (.cons (.old rfl rfl (.cells (.pl rfl (by simp)))) (.cons (.old rfl rfl (.cells (.cons (.eqv tq rfl) (.cons (.eqv tq rfl) (.cons .nl0 (.cons .nl0 (.cons (.eqv tq rfl) (.cons .nl0 .nil)))))))) (.cons (.old rfl rfl (.cells (.pl rfl pq))) (.cons (.old rfl rfl (.cells (.pl rfl pq))) .nil)))))))))))
  ·
    have h10p := of_decide_eq_false h10
    exact fun e => nomatch e
noncomputable abbrev sDo_L3_I (s : Sa) (c : Ch) (s0 : Int) (s2 : Bool) (s4 : Sa) : St := (St.mk [(0, (AV.rf 4 3 0 s4.points.length)), (1, (AV.fn (99 : Nat) [(AV.pt 8 0)])), (4, (AV.i 0)), (6, (AV.rf 4 3 0 s4.points.length)), (7, (AV.i (s4.points.length : Int))), (8, (AV.i 0))] 19 (AH.mk 9 [(8, (AObj.cells [(AV.i c.kind), (AV.i c.lba), (AV.i c.n), (AV.i c.id), (bys c.d), (exs c.list)])), (7, (AObj.map [((AV.i 1), (AV.fn (75 : Nat) ([] : List AV))), ((AV.i 2), (AV.fn (76 : Nat) ([] : List AV))), ((AV.i 3), (AV.fn (77 : Nat) ([] : List AV))), ((AV.i 4), (AV.fn (78 : Nat) ([] : List AV))), ((AV.i 5), (AV.fn (79 : Nat) ([] : List AV))), ((AV.i 6), (AV.fn (80 : Nat) ([] : List AV))), ((AV.i 7), (AV.fn (81 : Nat) ([] : List AV))), ((AV.i 8), (AV.fn (82 : Nat) ([] : List AV)))])), (6, (AObj.cells [(AV.i s4.blocks), (AV.i s4.gen), (AV.rf 3 5 0 s4.map.length), (AV.rf 4 3 0 s4.points.length), (AV.i s4.last), (AV.rf 5 1 0 s4.staged.length)])), (5, (AObj.cells (List.map AV.y s4.staged))), (4, (AObj.cells (List.flatMap Po.cells s4.points))), (3, (AObj.cells (List.flatMap Ex.cells s4.map))), (2, (AObj.cells [(AV.i 0), (AV.i 0), AV.nl, AV.nl, (AV.i 0), AV.nl])), (1, (AObj.cells [(AV.i c.kind), (AV.i c.lba), (AV.i c.n), (AV.i c.id), (bys c.d), (exs c.list)])), (0, (AObj.cells [(AV.i s.blocks), (AV.i s.gen), (exs s.map), (AV.sl s.points.length (List.flatMap Po.cells s.points)), (AV.i s.last), (bys s.staged)]))]) Bool.false)
noncomputable abbrev sDo_L3_S (s : Sa) (c : Ch) (s0 : Int) (s2 : Bool) (s4 : Sa) (s10 : Int) : St := (St.mk [(0, (AV.rf 4 3 0 s4.points.length)), (1, (AV.fn (99 : Nat) [(AV.pt 8 0)])), (7, (AV.i (s4.points.length : Int))), (8, (AV.i s10))] 19 (AH.mk 9 [(8, (AObj.cells [(AV.i c.kind), (AV.i c.lba), (AV.i c.n), (AV.i c.id), (bys c.d), (exs c.list)])), (6, (AObj.cells [(AV.i s4.blocks), (AV.i s4.gen), (AV.rf 3 5 0 s4.map.length), (AV.rf 4 3 0 s4.points.length), (AV.i s4.last), (AV.rf 5 1 0 s4.staged.length)])), (5, (AObj.cells (List.map AV.y s4.staged))), (4, (AObj.cells (List.flatMap Po.cells s4.points))), (3, (AObj.cells (List.flatMap Ex.cells s4.map))), (2, (AObj.cells [(AV.i 0), (AV.i 0), AV.nl, AV.nl, (AV.i 0), AV.nl])), (1, (AObj.cells [(AV.i c.kind), (AV.i c.lba), (AV.i c.n), (AV.i c.id), (bys c.d), (exs c.list)])), (0, (AObj.cells [(AV.i s.blocks), (AV.i s.gen), (exs s.map), (AV.sl s.points.length (List.flatMap Po.cells s.points)), (AV.i s.last), (bys s.staged)]))]) Bool.false)
noncomputable def sDo_L3_step (s : Sa) (c : Ch) (s0 : Int) (s2 : Bool) (s4 : Sa) (s10 : Int) : Option (Int) :=
 (tb ((decide (s10 < (s4.points.length : Int))))
  (tp ((((0 : Int) ≤ s10) ∧ (s10 < (s4.points.length : Int))))
   (tb (((poAt s4.points s10.toNat).id == c.id))
    none /- exit -/
    (some ((wr (s10 + (1 : Int)))))))
  none /- exit -/)
theorem sDo_L3_ok (s : Sa) (c : Ch) (s0 : Int) (s2 : Bool) (s4 : Sa) (s10 zz : Int) : sDo_L3_step s c s0 s2 s4 s10 = some zz → EvStep Try.prog cf 9 (lp Try.prog 98 0) (sDo_L3_S s c s0 s2 s4 s10) (sDo_L3_S s c s0 s2 s4 zz) := by
  unfold sDo_L3_step
  refine tb_ok (fun h11 => ?_) (fun h11 => ?_)
  ·
    have h11p := of_decide_eq_true h11
    refine tp_ok (fun h12 => ?_)
    refine tb_ok (fun h13 => ?_) (fun h13 => ?_)
    ·
      have h13p := eq_of_beq h13
      exact fun e => nomatch e
    ·
      have h13p := ne_of_beq_false h13
      intro e; injection e with e; subst e
      exact leafS vw_eq (k := 300) (r := []) (hs := hz [(1, [.yes]), (5, [.yes, .yes, .cells ((Po.cells (poAt s4.points s10.toNat)))]), (11, [.no]), (2, [])]) (ks := [0, 1, 7, 8]) (st1 := (St.mk [(0, (AV.rf 4 3 0 s4.points.length)), (1, (AV.fn (99 : Nat) [(AV.pt 8 0)])), (7, (AV.i (s4.points.length : Int))), (8, (AV.i (wr (s10 + (1 : Int)))))] 19 (AH.mk 10 [(9, (AObj.cells [(AV.i (poAt s4.points s10.toNat).id), (AV.i (poAt s4.points s10.toNat).gen), (exs (poAt s4.points s10.toNat).map)])), (8, (AObj.cells [(AV.i c.kind), (AV.i c.lba), (AV.i c.n), (AV.i c.id), (bys c.d), (exs c.list)])), (6, (AObj.cells [(AV.i s4.blocks), (AV.i s4.gen), (AV.rf 3 5 0 s4.map.length), (AV.rf 4 3 0 s4.points.length), (AV.i s4.last), (AV.rf 5 1 0 s4.staged.length)])), (5, (AObj.cells (List.map AV.y s4.staged))), (4, (AObj.cells (List.flatMap Po.cells s4.points))), (3, (AObj.cells (List.flatMap Ex.cells s4.map))), (2, (AObj.cells [(AV.i 0), (AV.i 0), AV.nl, AV.nl, (AV.i 0), AV.nl])), (1, (AObj.cells [(AV.i c.kind), (AV.i c.lba), (AV.i c.n), (AV.i c.id), (bys c.d), (exs c.list)])), (0, (AObj.cells [(AV.i s.blocks), (AV.i s.gen), (exs s.map), (AV.sl s.points.length (List.flatMap Po.cells s.points)), (AV.i s.last), (bys s.staged)]))]) Bool.false)) kq (ac h11 (ac h12 (ac (fq (p := ((((0 : Nat) + (s10.toNat * 3)) + (3 : Nat)) ≤ (List.length (List.flatMap Po.cells s4.points))))) (ac (show (List.take 3 (List.drop ((0 : Nat) + (s10.toNat * 3)) (List.flatMap Po.cells s4.points))) = (Po.cells (poAt s4.points s10.toNat)) from (po_takeO bq bq)) (ac h13 an))))) (Nat.le_of_ble_eq_true rfl) (Nat.le_of_ble_eq_true rfl) (absB_of [] [] kq (.consn kq (.rf rfl) (.consn kq (.fn (.cons (.pt rfl) .nil)) (.consn kq (.eqv tq rfl) (.consn kq (.eqv tq rfl) .nil)))) (.cons (.old rfl rfl (.cells (.pl rfl pq))) (.cons (.old rfl rfl (.cells (.cons (.eqv tq rfl) (.cons (.eqv tq rfl) (.cons (.rf rfl) (.cons (.rf rfl) (.cons (.eqv tq rfl) (.cons (.rf rfl) .nil)))))))) (.cons (.old rfl rfl (.cells (.pl rfl (by simp)))) (.cons (.old rfl rfl (.cells (.pl rfl (by simp)))) (.cons (.old rfl rfl (.cells (.pl rfl (by simp)))) (.cons (.old rfl rfl (.cells (.cons (.eqv tq rfl) (.cons (.eqv tq rfl) (.cons .nl0 (.cons .nl0 (.cons (.eqv tq rfl) (.cons .nl0 .nil)))))))) (.cons (.old rfl rfl (.cells (.pl rfl pq))) (.cons (.old rfl rfl (.cells (.pl rfl pq))) .nil)))))))))
  ·
    have h11p := of_decide_eq_false h11
    exact fun e => nomatch e
noncomputable abbrev sDo_L4_I (s : Sa) (c : Ch) (s0 : Int) (s2 : Bool) (s4 : Sa) (s13 : List Ex) : St := (St.mk [(0, (AV.pt 6 0)), (1, (exs c.list)), (4, (AV.i 0)), (9, (exs c.list)), (10, (AV.rf 9 5 0 s13.length)), (5, (AV.rf 9 5 0 s13.length)), (11, (AV.rf 9 5 0 s13.length)), (12, (AV.i (s13.length : Int))), (13, (AV.i 0))] 45 (AH.mk 10 [(9, (AObj.cells (List.flatMap Ex.cells s13))), (8, (AObj.cells [(AV.i c.kind), (AV.i c.lba), (AV.i c.n), (AV.i c.id), (bys c.d), (exs c.list)])), (7, (AObj.map [((AV.i 1), (AV.fn (75 : Nat) ([] : List AV))), ((AV.i 2), (AV.fn (76 : Nat) ([] : List AV))), ((AV.i 3), (AV.fn (77 : Nat) ([] : List AV))), ((AV.i 4), (AV.fn (78 : Nat) ([] : List AV))), ((AV.i 5), (AV.fn (79 : Nat) ([] : List AV))), ((AV.i 6), (AV.fn (80 : Nat) ([] : List AV))), ((AV.i 7), (AV.fn (81 : Nat) ([] : List AV))), ((AV.i 8), (AV.fn (82 : Nat) ([] : List AV)))])), (6, (AObj.cells [(AV.i s4.blocks), (AV.i s4.gen), (AV.rf 3 5 0 s4.map.length), (AV.rf 4 3 0 s4.points.length), (AV.i s4.last), (AV.rf 5 1 0 s4.staged.length)])), (5, (AObj.cells (List.map AV.y s4.staged))), (4, (AObj.cells (List.flatMap Po.cells s4.points))), (3, (AObj.cells (List.flatMap Ex.cells s4.map))), (2, (AObj.cells [(AV.i 0), (AV.i 0), AV.nl, AV.nl, (AV.i 0), AV.nl])), (1, (AObj.cells [(AV.i c.kind), (AV.i c.lba), (AV.i c.n), (AV.i c.id), (bys c.d), (exs c.list)])), (0, (AObj.cells [(AV.i s.blocks), (AV.i s.gen), (exs s.map), (AV.sl s.points.length (List.flatMap Po.cells s.points)), (AV.i s.last), (bys s.staged)]))]) Bool.false)
noncomputable abbrev sDo_L4_S (s : Sa) (c : Ch) (s0 : Int) (s2 : Bool) (s4 : Sa) (s13 : List Ex) (s14 : Int × List Ex) : St := (St.mk [(0, (AV.pt 6 0)), (1, (exs c.list)), (4, (AV.i 0)), (5, (AV.rf 9 5 0 s13.length)), (12, (AV.i (s13.length : Int))), (13, (AV.i s14.1))] 45 (AH.mk 10 [(9, (AObj.cells (List.flatMap Ex.cells s14.2))), (8, (AObj.cells [(AV.i c.kind), (AV.i c.lba), (AV.i c.n), (AV.i c.id), (bys c.d), (exs c.list)])), (6, (AObj.cells [(AV.i s4.blocks), (AV.i s4.gen), (AV.rf 3 5 0 s4.map.length), (AV.rf 4 3 0 s4.points.length), (AV.i s4.last), (AV.rf 5 1 0 s4.staged.length)])), (5, (AObj.cells (List.map AV.y s4.staged))), (4, (AObj.cells (List.flatMap Po.cells s4.points))), (3, (AObj.cells (List.flatMap Ex.cells s4.map))), (2, (AObj.cells [(AV.i 0), (AV.i 0), AV.nl, AV.nl, (AV.i 0), AV.nl])), (1, (AObj.cells [(AV.i c.kind), (AV.i c.lba), (AV.i c.n), (AV.i c.id), (bys c.d), (exs c.list)])), (0, (AObj.cells [(AV.i s.blocks), (AV.i s.gen), (exs s.map), (AV.sl s.points.length (List.flatMap Po.cells s.points)), (AV.i s.last), (bys s.staged)]))]) Bool.false)
noncomputable def sDo_L4_step (s : Sa) (c : Ch) (s0 : Int) (s2 : Bool) (s4 : Sa) (s13 : List Ex) (s14 : Int × List Ex) : Option (Int × List Ex) :=
 (tb ((decide (s14.1 < (s13.length : Int))))
  (tp ((((0 : Int) ≤ s14.1) ∧ (s14.1 < (s13.length : Int))))
   (tp ((((List.length [(AV.i s4.gen)]) = (1 : Nat)) ∧ (((((0 : Nat) + (s14.1.toNat * 5)) + (3 : Nat)) + (List.length [(AV.i s4.gen)])) ≤ (List.length (List.flatMap Ex.cells s14.2)))))
    (some (((wr (s14.1 + (1 : Int))), (List.set s14.2 s14.1.toNat (Ex.mk (exAt s14.2 s14.1.toNat).lba (exAt s14.2 s14.1.toNat).len (exAt s14.2 s14.1.toNat).kind s4.gen (exAt s14.2 s14.1.toNat).d)))))))
  none /- exit -/)
theorem sDo_L4_ok (s : Sa) (c : Ch) (s0 : Int) (s2 : Bool) (s4 : Sa) (s13 : List Ex) (s14 zz : Int × List Ex) : sDo_L4_step s c s0 s2 s4 s13 s14 = some zz → EvStep Try.prog cf 10 (lp Try.prog 97 0) (sDo_L4_S s c s0 s2 s4 s13 s14) (sDo_L4_S s c s0 s2 s4 s13 zz) := by
  unfold sDo_L4_step
  refine tb_ok (fun h15 => ?_) (fun h15 => ?_)
  ·
    have h15p := of_decide_eq_true h15
    refine tp_ok (fun h16 => ?_)
    refine tp_ok (fun h17 => ?_)
    intro e; injection e with e; subst e
    exact leafS vw_eq (k := 300) (r := []) (hs := hz [(1, [.yes]), (9, [.yes]), (1, [.yes, .cells ((List.flatMap Ex.cells (List.set s14.2 s14.1.toNat (Ex.mk (exAt s14.2 s14.1.toNat).lba (exAt s14.2 s14.1.toNat).len (exAt s14.2 s14.1.toNat).kind s4.gen (exAt s14.2 s14.1.toNat).d))))]), (2, [])]) (ks := [0, 1, 4, 5, 12, 13]) (st1 := (St.mk [(0, (AV.pt 6 0)), (1, (exs c.list)), (4, (AV.i 0)), (5, (AV.rf 9 5 0 s13.length)), (12, (AV.i (s13.length : Int))), (13, (AV.i (wr (s14.1 + (1 : Int)))))] 45 (AH.mk 10 [(9, (AObj.cells (List.flatMap Ex.cells (List.set s14.2 s14.1.toNat (Ex.mk (exAt s14.2 s14.1.toNat).lba (exAt s14.2 s14.1.toNat).len (exAt s14.2 s14.1.toNat).kind s4.gen (exAt s14.2 s14.1.toNat).d))))), (8, (AObj.cells [(AV.i c.kind), (AV.i c.lba), (AV.i c.n), (AV.i c.id), (bys c.d), (exs c.list)])), (6, (AObj.cells [(AV.i s4.blocks), (AV.i s4.gen), (AV.rf 3 5 0 s4.map.length), (AV.rf 4 3 0 s4.points.length), (AV.i s4.last), (AV.rf 5 1 0 s4.staged.length)])), (5, (AObj.cells (List.map AV.y s4.staged))), (4, (AObj.cells (List.flatMap Po.cells s4.points))), (3, (AObj.cells (List.flatMap Ex.cells s4.map))), (2, (AObj.cells [(AV.i 0), (AV.i 0), AV.nl, AV.nl, (AV.i 0), AV.nl])), (1, (AObj.cells [(AV.i c.kind), (AV.i c.lba), (AV.i c.n), (AV.i c.id), (bys c.d), (exs c.list)])), (0, (AObj.cells [(AV.i s.blocks), (AV.i s.gen), (exs s.map), (AV.sl s.points.length (List.flatMap Po.cells s.points)), (AV.i s.last), (bys s.staged)]))]) Bool.false)) kq (ac h15 (ac h16 (ac h17 (ac (show (((List.take (((0 : Nat) + (s14.1.toNat * 5)) + (3 : Nat)) (List.flatMap Ex.cells s14.2)) ++ [(AV.i s4.gen)]) ++ (List.drop ((((0 : Nat) + (s14.1.toNat * 5)) + (3 : Nat)) + (List.length [(AV.i s4.gen)])) (List.flatMap Ex.cells s14.2))) = (List.flatMap Ex.cells (List.set s14.2 s14.1.toNat (Ex.mk (exAt s14.2 s14.1.toNat).lba (exAt s14.2 s14.1.toNat).len (exAt s14.2 s14.1.toNat).kind s4.gen (exAt s14.2 s14.1.toNat).d))) from (by rw [show (((0 : Nat) + (s14.1.toNat * 5)) + (3 : Nat)) = (s14.1.toNat) * 5 + 3 by omega]; exact ex_setf _ _ 3 _ ((Ex.mk (exAt s14.2 s14.1.toNat).lba (exAt s14.2 s14.1.toNat).len (exAt s14.2 s14.1.toNat).kind s4.gen (exAt s14.2 s14.1.toNat).d)) bq (by simp) rfl)) an)))) (Nat.le_of_ble_eq_true rfl) (Nat.le_of_ble_eq_true rfl) (absB_of [] [] kq (.consn kq (.pt rfl) (.consn kq (.eqv tq rfl) (.consn kq (.eqv tq rfl) (.consn kq (.rf rfl) (.consn kq (.eqv tq rfl) (.consn kq (.eqv tq rfl) .nil)))))) (.cons (.old rfl rfl (.cells (.pl tq pq))) (.cons (.old rfl rfl (.cells (.pl rfl pq))) (.cons (.old rfl rfl (.cells (.cons (.eqv tq rfl) (.cons (.eqv tq rfl) (.cons (.rf rfl) (.cons (.rf rfl) (.cons (.eqv tq rfl) (.cons (.rf rfl) .nil)))))))) (.cons (.old rfl rfl (.cells (.pl rfl (by simp)))) (.cons (.old rfl rfl (.cells (.pl rfl (by simp)))) (.cons (.old rfl rfl (.cells (.pl rfl (by simp)))) (.cons (.old rfl rfl (.cells (.cons (.eqv tq rfl) (.cons (.eqv tq rfl) (.cons .nl0 (.cons .nl0 (.cons (.eqv tq rfl) (.cons .nl0 .nil)))))))) (.cons (.old rfl rfl (.cells (.pl rfl pq))) (.cons (.old rfl rfl (.cells (.pl rfl pq))) .nil))))))))))
  ·
    have h15p := of_decide_eq_false h15
    exact fun e => nomatch e
/-- Function 29, as it answers. -/
noncomputable def sDo (s : Sa) (c : Ch) : Option (Sa × Int) :=
 (tc (sCheck (s)) fun s0 =>
  (tb ((s0 != (0 : Int)))
   (some (((Sa.mk 0 0 ([] : List Ex) ([] : List Po) 0 ([] : List UInt8)), (110 : Int))))
   (tc (cCheck (c)) fun s2 =>
    (tb ((!s2))
     (tc (sCopy (s)) fun s4 =>
      (tp ((((0 : Nat) = (0 : Nat)) ∧ ((List.length (List.flatMap Ex.cells s4.map)) = (s4.map.length * 5))))
       (some ((s4, (100 : Int))))))
     (tc (sCopy (s)) fun s4 =>
      (tb ((decide ((1 : Int) = c.kind)))
       (tc (sExtents ([(Ex.mk c.lba c.n 2 0 c.d)])) fun s6 =>
        (th (sDo_L0_step s c s0 s2 s4 s6) (((0 : Int), s6)) fun s7 =>
         (tb ((decide (s7.1 < (s6.length : Int))))
          none /- stop behind an operation -/
          (tp ((((0 : Nat) = (0 : Nat)) ∧ ((List.length (List.flatMap Ex.cells s4.map)) = (s4.map.length * 5))))
           (tp ((((0 : Nat) = (0 : Nat)) ∧ ((List.length (List.flatMap Ex.cells s7.2)) = (s6.length * 5))))
            (tc (mLay (s4.blocks) (s4.map) (s7.2)) fun s11 =>
             (tb ((s11.2 == (0 : Int)))
              (some (((Sa.mk s4.blocks s4.gen s11.1 s4.points s4.last s4.staged), (0 : Int))))
              (tc (sCopy (s)) fun s13 =>
               (some ((s13, s11.2)))))))))))
       (tb ((decide ((2 : Int) = c.kind)))
        (tc (sExtents ([(Ex.mk c.lba c.n 1 0 ([] : List UInt8))])) fun s7 =>
         (th (sDo_L1_step s c s0 s2 s4 s7) (((0 : Int), s7)) fun s8 =>
          (tb ((decide (s8.1 < (s7.length : Int))))
           none /- stop behind an operation -/
           (tp ((((0 : Nat) = (0 : Nat)) ∧ ((List.length (List.flatMap Ex.cells s4.map)) = (s4.map.length * 5))))
            (tp ((((0 : Nat) = (0 : Nat)) ∧ ((List.length (List.flatMap Ex.cells s8.2)) = (s7.length * 5))))
             (tc (mLay (s4.blocks) (s4.map) (s8.2)) fun s12 =>
              (tb ((s12.2 == (0 : Int)))
               (some (((Sa.mk s4.blocks s4.gen s12.1 s4.points s4.last s4.staged), (0 : Int))))
               (tc (sCopy (s)) fun s14 =>
                (some ((s14, s12.2)))))))))))
        (tb ((decide ((3 : Int) = c.kind)))
         (tc (sExtents ([(Ex.mk c.lba c.n 0 0 ([] : List UInt8))])) fun s8 =>
          (th (sDo_L2_step s c s0 s2 s4 s8) (((0 : Int), s8)) fun s9 =>
           (tb ((decide (s9.1 < (s8.length : Int))))
            none /- stop behind an operation -/
            (tp ((((0 : Nat) = (0 : Nat)) ∧ ((List.length (List.flatMap Ex.cells s4.map)) = (s4.map.length * 5))))
             (tp ((((0 : Nat) = (0 : Nat)) ∧ ((List.length (List.flatMap Ex.cells s9.2)) = (s8.length * 5))))
              (tc (mLay (s4.blocks) (s4.map) (s9.2)) fun s13 =>
               (tb ((s13.2 == (0 : Int)))
                (some (((Sa.mk s4.blocks s4.gen s13.1 s4.points s4.last s4.staged), (0 : Int))))
                (tc (sCopy (s)) fun s15 =>
                 (some ((s15, s13.2)))))))))))
         (tb ((decide ((4 : Int) = c.kind)))
          (tb ((decide (c.id ≤ s4.last)))
           (tc (sCopy (s)) fun s10 =>
            (tp ((((0 : Nat) = (0 : Nat)) ∧ ((List.length (List.flatMap Ex.cells s10.map)) = (s10.map.length * 5))))
             (some ((s10, (112 : Int))))))
           (tb (((s4.points.length : Int) == (4 : Int)))
            (tc (sCopy (s)) fun s11 =>
             (tp ((((0 : Nat) = (0 : Nat)) ∧ ((List.length (List.flatMap Ex.cells s11.map)) = (s11.map.length * 5))))
              (some ((s11, (113 : Int))))))
            (tb ((s4.gen == (2147483647 : Int)))
             (tc (sCopy (s)) fun s12 =>
              (tp ((((0 : Nat) = (0 : Nat)) ∧ ((List.length (List.flatMap Ex.cells s12.map)) = (s12.map.length * 5))))
               (some ((s12, (113 : Int))))))
             (tp ((((0 : Nat) = (0 : Nat)) ∧ ((List.length (List.flatMap Ex.cells s4.map)) = (s4.map.length * 5))))
              (tc (sExtents (s4.map)) fun s13 =>
               (tp ((((List.length (List.flatMap Po.cells s4.points)) = (s4.points.length * 3)) ∧ ((s4.points.length + (1 : Nat)) ≤ (4294967296 : Nat))))
                (tp ((((0 : Nat) = (0 : Nat)) ∧ ((List.length ((List.flatMap Po.cells s4.points) ++ [(AV.i c.id), (AV.i s4.gen), (AV.rf 9 5 0 s13.length)])) = ((s4.points.length + (1 : Nat)) * 3))))
                 (some (((Sa.mk s4.blocks (wr (s4.gen + (1 : Int))) s4.map (s4.points ++ [(Po.mk c.id s4.gen (List.take s13.length s13))]) c.id s4.staged), (0 : Int)))))))))))
          (tb ((decide ((5 : Int) = c.kind)))
           (th (sDo_L3_step s c s0 s2 s4) ((0 : Int)) fun s10 =>
            (tb ((decide (s10 < (s4.points.length : Int))))
             (tp ((((0 : Int) ≤ s10) ∧ (s10 < (s4.points.length : Int))))
              (tb (((poAt s4.points s10.toNat).id == c.id))
               (tb ((decide (s10 < (0 : Int))))
                (tc (sCopy (s)) fun s15 =>
                 (some ((s15, (111 : Int)))))
                (tp ((s4.points.length ≤ (4294967296 : Nat)))
                 (tp (((List.length (List.flatMap Po.cells s4.points)) = (s4.points.length * 3)))
                  (tp (((wr (s10 + (1 : Int))) = (s10 + (1 : Int))))
                   (tp ((((0 : Nat) = (0 : Nat)) ∧ ((List.length (List.flatMap Ex.cells s4.map)) = (s4.map.length * 5))))
                    (tp ((((0 : Nat) = (0 : Nat)) ∧ ((List.length (List.flatMap Po.cells ((List.take s10.toNat s4.points) ++ (List.drop (s10.toNat + (1 : Nat)) s4.points)))) = ((s4.points.length - (1 : Nat)) * 3))))
                     (some (((Sa.mk s4.blocks s4.gen s4.map ((List.take s10.toNat s4.points) ++ (List.drop (s10.toNat + (1 : Nat)) s4.points)) s4.last s4.staged), (0 : Int))))))))))
               none /- stop behind an operation -/))
             (tc (sCopy (s)) fun s12 =>
              (tp ((((0 : Nat) = (0 : Nat)) ∧ ((List.length (List.flatMap Ex.cells s12.map)) = (s12.map.length * 5))))
               (some ((s12, (111 : Int))))))))
           (tb ((decide ((6 : Int) = c.kind)))
            (tb ((decide ((c.d.length : Int) > (wr ((4000 : Int) - (s4.staged.length : Int))))))
             (tc (sCopy (s)) fun s12 =>
              (tp ((((0 : Nat) = (0 : Nat)) ∧ ((List.length (List.flatMap Ex.cells s12.map)) = (s12.map.length * 5))))
               (some ((s12, (113 : Int))))))
             (tp ((((List.length (List.map AV.y s4.staged)) = (s4.staged.length * 1)) ∧ ((s4.staged.length + c.d.length) ≤ (4294967296 : Nat))))
              (tp ((((0 : Nat) = (0 : Nat)) ∧ ((List.length (List.flatMap Ex.cells s4.map)) = (s4.map.length * 5))))
               (some (((Sa.mk s4.blocks s4.gen s4.map s4.points s4.last (s4.staged ++ c.d)), (0 : Int)))))))
            (tb ((decide ((7 : Int) = c.kind)))
             (tp ((((0 : Nat) = (0 : Nat)) ∧ ((List.length (List.flatMap Ex.cells s4.map)) = (s4.map.length * 5))))
              (some (((Sa.mk s4.blocks s4.gen s4.map s4.points s4.last ([] : List UInt8)), (0 : Int)))))
             (tb ((decide ((8 : Int) = c.kind)))
              (tc (sExtents (c.list)) fun s13 =>
               (th (sDo_L4_step s c s0 s2 s4 s13) (((0 : Int), s13)) fun s14 =>
                (tb ((decide (s14.1 < (s13.length : Int))))
                 none /- stop behind an operation -/
                 (tp ((((0 : Nat) = (0 : Nat)) ∧ ((List.length (List.flatMap Ex.cells s4.map)) = (s4.map.length * 5))))
                  (tp ((((0 : Nat) = (0 : Nat)) ∧ ((List.length (List.flatMap Ex.cells s14.2)) = (s13.length * 5))))
                   (tc (mLay (s4.blocks) (s4.map) (s14.2)) fun s18 =>
                    (tb ((s18.2 == (0 : Int)))
                     (tb ((decide (c.id ≤ s4.last)))
                      (tc (sCopy (s)) fun s21 =>
                       (some ((s21, (112 : Int)))))
                      (tb (((s4.points.length : Int) == (4 : Int)))
                       (tc (sCopy (s)) fun s22 =>
                        (some ((s22, (113 : Int)))))
                       (tb ((s4.gen == (2147483647 : Int)))
                        (tc (sCopy (s)) fun s23 =>
                         (some ((s23, (113 : Int)))))
                        (tc (sExtents (s18.1)) fun s23 =>
                         (tp ((((List.length (List.flatMap Po.cells s4.points)) = (s4.points.length * 3)) ∧ ((s4.points.length + (1 : Nat)) ≤ (4294967296 : Nat))))
                          (tp ((((0 : Nat) = (0 : Nat)) ∧ ((List.length ((List.flatMap Po.cells s4.points) ++ [(AV.i c.id), (AV.i s4.gen), (AV.rf 11 5 0 s23.length)])) = ((s4.points.length + (1 : Nat)) * 3))))
                           (some (((Sa.mk s4.blocks (wr (s4.gen + (1 : Int))) s18.1 (s4.points ++ [(Po.mk c.id s4.gen (List.take s23.length s23))]) c.id ([] : List UInt8)), (0 : Int))))))))))
                     (tc (sCopy (s)) fun s20 =>
                      (some ((s20, s18.2)))))))))))
              none /- STOP -/)))))))))))))
abbrev sDo_G (s : Sa) (c : Ch) (r : Sa × Int) : Prop := EvFr Try.prog cf false 29 [Sa.av (s), Ch.av (c)] (.tu [Sa.av (r.1), .i (r.2)])
theorem sDo_ok (s : Sa) (c : Ch) (r : Sa × Int) : sDo s c = some r → sDo_G s c r := by
  unfold sDo
  refine tc_ok (fun s0 h0 => ?_)
  refine tb_ok (fun h1 => ?_) (fun h1 => ?_)
  ·
    have h1p := bne_iff_ne.1 h1
    intro e; injection e with e; subst e
    exact leafR vw_eq (k := 300) (r := []) (hs := hz [(5, [.fc]), (1, [.fres (.i (s0))]), (2, [.yes]), (2, [.fc]), (2, [.fc])]) (raw := (AV.tu [(AV.ag [(AV.i 0), (AV.i 0), (AV.sl 0 ([] : List AV)), (AV.sl 0 ([] : List AV)), (AV.i 0), (AV.sl 0 ([] : List AV))]), (AV.i 110)])) kq (ac (sCheck_ok (s) _ h0).any0 (ac h1 an)) tq
  ·
    have h1p := bne_eq_false_iff_eq.1 h1
    refine tc_ok (fun s2 h2 => ?_)
    refine tb_ok (fun h3 => ?_) (fun h3 => ?_)
    ·
      refine tc_ok (fun s4 h4 => ?_)
      refine tp_ok (fun h5 => ?_)
      intro e; injection e with e; subst e
      exact leafR vw_eq (k := 300) (r := []) (hs := hz [(5, [.fc]), (1, [.fres (.i (s0))]), (2, [.no]), (1, [.fc]), (1, [.fres (.b (s2))]), (2, [.yes]), (1, [.fc]), (1, [.fres (Sa.av (s4))]), (1, [.fc]), (2, [.fc, .yes, .yes, .yes, .yes, .yes, .yes])]) (raw := (AV.tu [(AV.ag [(AV.i s4.blocks), (AV.i s4.gen), (exs s4.map), (AV.sl s4.points.length (List.flatMap Po.cells s4.points)), (AV.i s4.last), (bys s4.staged)]), (AV.i 100)])) kq (ac (sCheck_ok (s) _ h0).any0 (ac h1 (ac (cCheck_ok (c) _ h2).any0 (ac h3 (ac (sCopy_ok (s) _ h4) (ac h5 (ac (pq (p := Pl Bool.false ((List.flatMap Ex.cells s4.map)))) (ac (fq (p := (((0 : Nat) = (0 : Nat)) ∧ ((List.length (List.flatMap Po.cells s4.points)) = (s4.points.length * 3))))) (ac (pq (p := Pl Bool.false ((List.flatMap Po.cells s4.points)))) (ac (tq (p := (((0 : Nat) = (0 : Nat)) ∧ ((List.length (List.map AV.y s4.staged)) = (s4.staged.length * 1))))) (ac (pq (p := Pl Bool.false ((List.map AV.y s4.staged)))) an))))))))))) tq
    ·
      refine tc_ok (fun s4 h4 => ?_)
      refine tb_ok (fun h5 => ?_) (fun h5 => ?_)
      ·
        have h5p := of_decide_eq_true h5
        refine tc_ok (fun s6 h6 => ?_)
        refine th_ok (fun s7 h7 => ?_)
        refine tb_ok (fun h8 => ?_) (fun h8 => ?_)
        ·
          have h8p := of_decide_eq_true h8
          exact fun e => nomatch e
        ·
          have h8p := of_decide_eq_false h8
          refine tp_ok (fun h9 => ?_)
          refine tp_ok (fun h10 => ?_)
          refine tc_ok (fun s11 h11 => ?_)
          refine tb_ok (fun h12 => ?_) (fun h12 => ?_)
          ·
            have h12p := eq_of_beq h12
            intro e; injection e with e; subst e
            exact leafR vw_eq (k := 300) (r := []) (hs := hz [(5, [.fc]), (1, [.fres (.i (s0))]), (2, [.no]), (1, [.fc]), (1, [.fres (.b (s2))]), (2, [.no]), (1, [.fc]), (1, [.fres (Sa.av (s4))]), (2, [.fc]), (17, [.yes]), (1, [.fc]), (15, [.fc, .fc]), (4, [.yes]), (1, [.fres (exs (s6))]), (4, [.head (sDo_L0_S s c s0 s2 s4 s6 s7)]), (1, [.no]), (12, [.yes, .yes, .yes, .yes, .fres (.tu [exs (s11.1), .i (s11.2)])]), (5, [.yes]), (2, [.yes]), (5, [.fc]), (4, [.yes]), (2, [.no]), (1, [.fc]), (1, [.fc]), (2, [.fc, .yes, .yes, .yes, .yes])]) (raw := (AV.tu [(AV.ag [(AV.i s4.blocks), (AV.i s4.gen), (exs s11.1), (AV.sl s4.points.length (List.flatMap Po.cells s4.points)), (AV.i s4.last), (bys s4.staged)]), (AV.i 0)])) kq (ac (sCheck_ok (s) _ h0).any0 (ac h1 (ac (cCheck_ok (c) _ h2).any0 (ac h3 (ac (sCopy_ok (s) _ h4) (ac h5 (ac (tq (p := (((0 : Nat) = (0 : Nat)) ∧ ((List.length [(AV.i c.lba), (AV.i c.n), (AV.i 2), (AV.i 0), (bys c.d)]) = (5 : Nat))))) (ac (sExtents_ok ([(Ex.mk c.lba c.n 2 0 c.d)]) _ h6) (ac (show EvHead Try.prog cf (lp Try.prog 97 0) (sDo_L0_I s c s0 s2 s4 s6) (sDo_L0_S s c s0 s2 s4 s6 s7) from (EvHead.of (sDo_L0_ok s c s0 s2 s4 s6) (absB_of [] [] kq (.consn kq (.pt rfl) (.consn kq (.rf rfl) (.consn kq (.eqv tq rfl) (.consn kq (.rf rfl) (.consn kq (.eqv tq rfl) (.consn kq (.eqv tq rfl) .nil)))))) (.cons (.old rfl rfl (.cells (.pl tq pq))) (.cons (.old rfl rfl (.ro (.pl rfl (by simp)))) (.cons (.old rfl rfl (.cells (.pl rfl pq))) (.cons (.old rfl rfl (.cells (.cons (.eqv tq rfl) (.cons (.eqv tq rfl) (.cons (.rf rfl) (.cons (.rf rfl) (.cons (.eqv tq rfl) (.cons (.rf rfl) .nil)))))))) (.cons (.old rfl rfl (.cells (.pl rfl (by simp)))) (.cons (.old rfl rfl (.cells (.pl rfl (by simp)))) (.cons (.old rfl rfl (.cells (.pl rfl (by simp)))) (.cons (.old rfl rfl (.cells (.cons (.eqv tq rfl) (.cons (.eqv tq rfl) (.cons .nl0 (.cons .nl0 (.cons (.eqv tq rfl) (.cons .nl0 .nil)))))))) (.cons (.old rfl rfl (.cells (.pl rfl pq))) (.cons (.old rfl rfl (.cells (.pl rfl pq))) .nil))))))))))) h7)) (ac h8 (ac h9 (ac (pq (p := Pl Bool.false ((List.flatMap Ex.cells s4.map)))) (ac h10 (ac (pq (p := Pl Bool.false ((List.flatMap Ex.cells s7.2)))) (ac (show EvFr Try.prog cf Bool.false 105 [(AV.i s4.blocks), (exs s4.map), (AV.sl s6.length (List.flatMap Ex.cells s7.2))] (.tu [exs (s11.1), .i (s11.2)]) from ((mLay_ok (s4.blocks) (s4.map) (s7.2) _ h11).cast tq)) (ac (show orderOk (rg Try.prog 97 0) = true ∧ allOk (Region.before (rg Try.prog 97 0)) [] 0 [(some [], some []), (some [], some []), (some [], some []), (some [6], some []), (some [], some []), (some [], some []), (some [], some []), (some [6], some []), (some [], some []), (some [3, 10], some [3, 10]), (some [], some []), (some [], some []), (some [], some []), (some [], some []), (some [], some [])] = true from (ord_of ord_97_0 bef_97_0 kq)) (ac h12 (ac (show orderOk (rg Try.prog 29 0) = true ∧ allOk (Region.before (rg Try.prog 29 0)) [] 0 [(some [], some [7]), (some [], some []), (some [1], some []), (some [7], some []), (some [1], some []), (none, none), (some [], some [])] = true from (ord_of ord_29_0 bef_29_0 kq)) (ac (congrArg not h12) (ac (fq (p := (((0 : Nat) = (0 : Nat)) ∧ ((List.length (List.flatMap Po.cells s4.points)) = (s4.points.length * 3))))) (ac (pq (p := Pl Bool.false ((List.flatMap Po.cells s4.points)))) (ac (tq (p := (((0 : Nat) = (0 : Nat)) ∧ ((List.length (List.map AV.y s4.staged)) = (s4.staged.length * 1))))) (ac (pq (p := Pl Bool.false ((List.map AV.y s4.staged)))) an))))))))))))))))))))))) tq
          ·
            have h12p := ne_of_beq_false h12
            refine tc_ok (fun s13 h13 => ?_)
            intro e; injection e with e; subst e
            exact leafR vw_eq (k := 300) (r := []) (hs := hz [(5, [.fc]), (1, [.fres (.i (s0))]), (2, [.no]), (1, [.fc]), (1, [.fres (.b (s2))]), (2, [.no]), (1, [.fc]), (1, [.fres (Sa.av (s4))]), (2, [.fc]), (17, [.yes]), (1, [.fc]), (15, [.fc, .fc]), (4, [.yes]), (1, [.fres (exs (s6))]), (4, [.head (sDo_L0_S s c s0 s2 s4 s6 s7)]), (1, [.no]), (12, [.yes, .yes, .yes, .yes, .fres (.tu [exs (s11.1), .i (s11.2)])]), (5, [.yes]), (2, [.no]), (4, [.yes]), (2, [.yes]), (1, [.fc]), (1, [.fres (Sa.av (s13))]), (2, [.fc]), (2, [.fc, .yes, .yes, .yes, .yes, .yes, .yes])]) (raw := (AV.tu [(AV.ag [(AV.i s13.blocks), (AV.i s13.gen), (exs s13.map), (AV.sl s13.points.length (List.flatMap Po.cells s13.points)), (AV.i s13.last), (bys s13.staged)]), (AV.i s11.2)])) kq (ac (sCheck_ok (s) _ h0).any0 (ac h1 (ac (cCheck_ok (c) _ h2).any0 (ac h3 (ac (sCopy_ok (s) _ h4) (ac h5 (ac (tq (p := (((0 : Nat) = (0 : Nat)) ∧ ((List.length [(AV.i c.lba), (AV.i c.n), (AV.i 2), (AV.i 0), (bys c.d)]) = (5 : Nat))))) (ac (sExtents_ok ([(Ex.mk c.lba c.n 2 0 c.d)]) _ h6) (ac (show EvHead Try.prog cf (lp Try.prog 97 0) (sDo_L0_I s c s0 s2 s4 s6) (sDo_L0_S s c s0 s2 s4 s6 s7) from (EvHead.of (sDo_L0_ok s c s0 s2 s4 s6) (absB_of [] [] kq (.consn kq (.pt rfl) (.consn kq (.rf rfl) (.consn kq (.eqv tq rfl) (.consn kq (.rf rfl) (.consn kq (.eqv tq rfl) (.consn kq (.eqv tq rfl) .nil)))))) (.cons (.old rfl rfl (.cells (.pl tq pq))) (.cons (.old rfl rfl (.ro (.pl rfl (by simp)))) (.cons (.old rfl rfl (.cells (.pl rfl pq))) (.cons (.old rfl rfl (.cells (.cons (.eqv tq rfl) (.cons (.eqv tq rfl) (.cons (.rf rfl) (.cons (.rf rfl) (.cons (.eqv tq rfl) (.cons (.rf rfl) .nil)))))))) (.cons (.old rfl rfl (.cells (.pl rfl (by simp)))) (.cons (.old rfl rfl (.cells (.pl rfl (by simp)))) (.cons (.old rfl rfl (.cells (.pl rfl (by simp)))) (.cons (.old rfl rfl (.cells (.cons (.eqv tq rfl) (.cons (.eqv tq rfl) (.cons .nl0 (.cons .nl0 (.cons (.eqv tq rfl) (.cons .nl0 .nil)))))))) (.cons (.old rfl rfl (.cells (.pl rfl pq))) (.cons (.old rfl rfl (.cells (.pl rfl pq))) .nil))))))))))) h7)) (ac h8 (ac h9 (ac (pq (p := Pl Bool.false ((List.flatMap Ex.cells s4.map)))) (ac h10 (ac (pq (p := Pl Bool.false ((List.flatMap Ex.cells s7.2)))) (ac (show EvFr Try.prog cf Bool.false 105 [(AV.i s4.blocks), (exs s4.map), (AV.sl s6.length (List.flatMap Ex.cells s7.2))] (.tu [exs (s11.1), .i (s11.2)]) from ((mLay_ok (s4.blocks) (s4.map) (s7.2) _ h11).cast tq)) (ac (show orderOk (rg Try.prog 97 0) = true ∧ allOk (Region.before (rg Try.prog 97 0)) [] 0 [(some [], some []), (some [], some []), (some [], some []), (some [6], some []), (some [], some []), (some [], some []), (some [], some []), (some [6], some []), (some [], some []), (some [3, 10], some [3, 10]), (some [], some []), (some [], some []), (some [], some []), (some [], some []), (some [], some [])] = true from (ord_of ord_97_0 bef_97_0 kq)) (ac h12 (ac (show orderOk (rg Try.prog 29 0) = true ∧ allOk (Region.before (rg Try.prog 29 0)) [] 0 [(some [], some [7]), (some [], some []), (some [1], some []), (some [7], some []), (some [1], some []), (none, none), (some [], some [])] = true from (ord_of ord_29_0 bef_29_0 kq)) (ac (congrArg not h12) (ac (sCopy_ok (s) _ h13) (ac (fq (p := (((0 : Nat) = (0 : Nat)) ∧ ((List.length (List.flatMap Ex.cells s13.map)) = (s13.map.length * 5))))) (ac (pq (p := Pl Bool.false ((List.flatMap Ex.cells s13.map)))) (ac (fq (p := (((0 : Nat) = (0 : Nat)) ∧ ((List.length (List.flatMap Po.cells s13.points)) = (s13.points.length * 3))))) (ac (pq (p := Pl Bool.false ((List.flatMap Po.cells s13.points)))) (ac (tq (p := (((0 : Nat) = (0 : Nat)) ∧ ((List.length (List.map AV.y s13.staged)) = (s13.staged.length * 1))))) (ac (pq (p := Pl Bool.false ((List.map AV.y s13.staged)))) an)))))))))))))))))))))))))) tq
      ·
        have h5p := of_decide_eq_false h5
        refine tb_ok (fun h6 => ?_) (fun h6 => ?_)
        ·
          have h6p := of_decide_eq_true h6
          refine tc_ok (fun s7 h7 => ?_)
          refine th_ok (fun s8 h8 => ?_)
          refine tb_ok (fun h9 => ?_) (fun h9 => ?_)
          ·
            have h9p := of_decide_eq_true h9
            exact fun e => nomatch e
          ·
            have h9p := of_decide_eq_false h9
            refine tp_ok (fun h10 => ?_)
            refine tp_ok (fun h11 => ?_)
            refine tc_ok (fun s12 h12 => ?_)
            refine tb_ok (fun h13 => ?_) (fun h13 => ?_)
            ·
              have h13p := eq_of_beq h13
              intro e; injection e with e; subst e
              exact leafR vw_eq (k := 300) (r := []) (hs := hz [(5, [.fc]), (1, [.fres (.i (s0))]), (2, [.no]), (1, [.fc]), (1, [.fres (.b (s2))]), (2, [.no]), (1, [.fc]), (1, [.fres (Sa.av (s4))]), (2, [.fc]), (17, [.no, .yes]), (1, [.fc]), (12, [.fc, .fc]), (4, [.yes]), (1, [.fres (exs (s7))]), (4, [.head (sDo_L1_S s c s0 s2 s4 s7 s8)]), (1, [.no]), (12, [.yes, .yes, .yes, .yes, .fres (.tu [exs (s12.1), .i (s12.2)])]), (5, [.yes]), (2, [.yes]), (5, [.fc]), (4, [.yes]), (2, [.no]), (1, [.fc]), (1, [.fc]), (2, [.fc, .yes, .yes, .yes, .yes])]) (raw := (AV.tu [(AV.ag [(AV.i s4.blocks), (AV.i s4.gen), (exs s12.1), (AV.sl s4.points.length (List.flatMap Po.cells s4.points)), (AV.i s4.last), (bys s4.staged)]), (AV.i 0)])) kq (ac (sCheck_ok (s) _ h0).any0 (ac h1 (ac (cCheck_ok (c) _ h2).any0 (ac h3 (ac (sCopy_ok (s) _ h4) (ac h5 (ac h6 (ac (tq (p := (((0 : Nat) = (0 : Nat)) ∧ ((List.length [(AV.i c.lba), (AV.i c.n), (AV.i (Int.ofNat 1)), (AV.i (Int.ofNat 0)), AV.nl]) = (5 : Nat))))) (ac (sExtents_ok ([(Ex.mk c.lba c.n 1 0 ([] : List UInt8))]) _ h7) (ac (show EvHead Try.prog cf (lp Try.prog 97 0) (sDo_L1_I s c s0 s2 s4 s7) (sDo_L1_S s c s0 s2 s4 s7 s8) from (EvHead.of (sDo_L1_ok s c s0 s2 s4 s7) (absB_of [] [] kq (.consn kq (.pt rfl) (.consn kq (.rf rfl) (.consn kq (.eqv tq rfl) (.consn kq (.rf rfl) (.consn kq (.eqv tq rfl) (.consn kq (.eqv tq rfl) .nil)))))) (.cons (.old rfl rfl (.cells (.pl tq pq))) (.cons (.old rfl rfl (.ro (.pl0 rfl))) (.cons (.old rfl rfl (.cells (.pl rfl pq))) (.cons (.old rfl rfl (.cells (.cons (.eqv tq rfl) (.cons (.eqv tq rfl) (.cons (.rf rfl) (.cons (.rf rfl) (.cons (.eqv tq rfl) (.cons (.rf rfl) .nil)))))))) (.cons (.old rfl rfl (.cells (.pl rfl (by simp)))) (.cons (.old rfl rfl (.cells (.pl rfl (by simp)))) (.cons (.old rfl rfl (.cells (.pl rfl (by simp)))) (.cons (.old rfl rfl (.cells (.cons (.eqv tq rfl) (.cons (.eqv tq rfl) (.cons .nl0 (.cons .nl0 (.cons (.eqv tq rfl) (.cons .nl0 .nil)))))))) (.cons (.old rfl rfl (.cells (.pl rfl pq))) (.cons (.old rfl rfl (.cells (.pl rfl pq))) .nil))))))))))) h8)) (ac h9 (ac h10 (ac (pq (p := Pl Bool.false ((List.flatMap Ex.cells s4.map)))) (ac h11 (ac (pq (p := Pl Bool.false ((List.flatMap Ex.cells s8.2)))) (ac (show EvFr Try.prog cf Bool.false 105 [(AV.i s4.blocks), (exs s4.map), (AV.sl s7.length (List.flatMap Ex.cells s8.2))] (.tu [exs (s12.1), .i (s12.2)]) from ((mLay_ok (s4.blocks) (s4.map) (s8.2) _ h12).cast tq)) (ac (show orderOk (rg Try.prog 97 0) = true ∧ allOk (Region.before (rg Try.prog 97 0)) [] 0 [(some [], some []), (some [], some []), (some [], some []), (some [6], some []), (some [], some []), (some [], some []), (some [], some []), (some [6], some []), (some [], some []), (some [3, 10], some [3, 10]), (some [], some []), (some [], some []), (some [], some []), (some [], some []), (some [], some [])] = true from (ord_of ord_97_0 bef_97_0 kq)) (ac h13 (ac (show orderOk (rg Try.prog 29 0) = true ∧ allOk (Region.before (rg Try.prog 29 0)) [] 0 [(some [], some [7]), (some [], some []), (some [1], some []), (some [7], some []), (some [1], some []), (none, none), (some [], some [])] = true from (ord_of ord_29_0 bef_29_0 kq)) (ac (congrArg not h13) (ac (fq (p := (((0 : Nat) = (0 : Nat)) ∧ ((List.length (List.flatMap Po.cells s4.points)) = (s4.points.length * 3))))) (ac (pq (p := Pl Bool.false ((List.flatMap Po.cells s4.points)))) (ac (tq (p := (((0 : Nat) = (0 : Nat)) ∧ ((List.length (List.map AV.y s4.staged)) = (s4.staged.length * 1))))) (ac (pq (p := Pl Bool.false ((List.map AV.y s4.staged)))) an)))))))))))))))))))))))) tq
            ·
              have h13p := ne_of_beq_false h13
              refine tc_ok (fun s14 h14 => ?_)
              intro e; injection e with e; subst e
              exact leafR vw_eq (k := 300) (r := []) (hs := hz [(5, [.fc]), (1, [.fres (.i (s0))]), (2, [.no]), (1, [.fc]), (1, [.fres (.b (s2))]), (2, [.no]), (1, [.fc]), (1, [.fres (Sa.av (s4))]), (2, [.fc]), (17, [.no, .yes]), (1, [.fc]), (12, [.fc, .fc]), (4, [.yes]), (1, [.fres (exs (s7))]), (4, [.head (sDo_L1_S s c s0 s2 s4 s7 s8)]), (1, [.no]), (12, [.yes, .yes, .yes, .yes, .fres (.tu [exs (s12.1), .i (s12.2)])]), (5, [.yes]), (2, [.no]), (4, [.yes]), (2, [.yes]), (1, [.fc]), (1, [.fres (Sa.av (s14))]), (2, [.fc]), (2, [.fc, .yes, .yes, .yes, .yes, .yes, .yes])]) (raw := (AV.tu [(AV.ag [(AV.i s14.blocks), (AV.i s14.gen), (exs s14.map), (AV.sl s14.points.length (List.flatMap Po.cells s14.points)), (AV.i s14.last), (bys s14.staged)]), (AV.i s12.2)])) kq (ac (sCheck_ok (s) _ h0).any0 (ac h1 (ac (cCheck_ok (c) _ h2).any0 (ac h3 (ac (sCopy_ok (s) _ h4) (ac h5 (ac h6 (ac (tq (p := (((0 : Nat) = (0 : Nat)) ∧ ((List.length [(AV.i c.lba), (AV.i c.n), (AV.i (Int.ofNat 1)), (AV.i (Int.ofNat 0)), AV.nl]) = (5 : Nat))))) (ac (sExtents_ok ([(Ex.mk c.lba c.n 1 0 ([] : List UInt8))]) _ h7) (ac (show EvHead Try.prog cf (lp Try.prog 97 0) (sDo_L1_I s c s0 s2 s4 s7) (sDo_L1_S s c s0 s2 s4 s7 s8) from (EvHead.of (sDo_L1_ok s c s0 s2 s4 s7) (absB_of [] [] kq (.consn kq (.pt rfl) (.consn kq (.rf rfl) (.consn kq (.eqv tq rfl) (.consn kq (.rf rfl) (.consn kq (.eqv tq rfl) (.consn kq (.eqv tq rfl) .nil)))))) (.cons (.old rfl rfl (.cells (.pl tq pq))) (.cons (.old rfl rfl (.ro (.pl0 rfl))) (.cons (.old rfl rfl (.cells (.pl rfl pq))) (.cons (.old rfl rfl (.cells (.cons (.eqv tq rfl) (.cons (.eqv tq rfl) (.cons (.rf rfl) (.cons (.rf rfl) (.cons (.eqv tq rfl) (.cons (.rf rfl) .nil)))))))) (.cons (.old rfl rfl (.cells (.pl rfl (by simp)))) (.cons (.old rfl rfl (.cells (.pl rfl (by simp)))) (.cons (.old rfl rfl (.cells (.pl rfl (by simp)))) (.cons (.old rfl rfl (.cells (.cons (.eqv tq rfl) (.cons (.eqv tq rfl) (.cons .nl0 (.cons .nl0 (.cons (.eqv tq rfl) (.cons .nl0 .nil)))))))) (.cons (.old rfl rfl (.cells (.pl rfl pq))) (.cons (.old rfl rfl (.cells (.pl rfl pq))) .nil))))))))))) h8)) (ac h9 (ac h10 (ac (pq (p := Pl Bool.false ((List.flatMap Ex.cells s4.map)))) (ac h11 (ac (pq (p := Pl Bool.false ((List.flatMap Ex.cells s8.2)))) (ac (show EvFr Try.prog cf Bool.false 105 [(AV.i s4.blocks), (exs s4.map), (AV.sl s7.length (List.flatMap Ex.cells s8.2))] (.tu [exs (s12.1), .i (s12.2)]) from ((mLay_ok (s4.blocks) (s4.map) (s8.2) _ h12).cast tq)) (ac (show orderOk (rg Try.prog 97 0) = true ∧ allOk (Region.before (rg Try.prog 97 0)) [] 0 [(some [], some []), (some [], some []), (some [], some []), (some [6], some []), (some [], some []), (some [], some []), (some [], some []), (some [6], some []), (some [], some []), (some [3, 10], some [3, 10]), (some [], some []), (some [], some []), (some [], some []), (some [], some []), (some [], some [])] = true from (ord_of ord_97_0 bef_97_0 kq)) (ac h13 (ac (show orderOk (rg Try.prog 29 0) = true ∧ allOk (Region.before (rg Try.prog 29 0)) [] 0 [(some [], some [7]), (some [], some []), (some [1], some []), (some [7], some []), (some [1], some []), (none, none), (some [], some [])] = true from (ord_of ord_29_0 bef_29_0 kq)) (ac (congrArg not h13) (ac (sCopy_ok (s) _ h14) (ac (fq (p := (((0 : Nat) = (0 : Nat)) ∧ ((List.length (List.flatMap Ex.cells s14.map)) = (s14.map.length * 5))))) (ac (pq (p := Pl Bool.false ((List.flatMap Ex.cells s14.map)))) (ac (fq (p := (((0 : Nat) = (0 : Nat)) ∧ ((List.length (List.flatMap Po.cells s14.points)) = (s14.points.length * 3))))) (ac (pq (p := Pl Bool.false ((List.flatMap Po.cells s14.points)))) (ac (tq (p := (((0 : Nat) = (0 : Nat)) ∧ ((List.length (List.map AV.y s14.staged)) = (s14.staged.length * 1))))) (ac (pq (p := Pl Bool.false ((List.map AV.y s14.staged)))) an))))))))))))))))))))))))))) tq
        ·
          have h6p := of_decide_eq_false h6
          refine tb_ok (fun h7 => ?_) (fun h7 => ?_)
          ·
            have h7p := of_decide_eq_true h7
            refine tc_ok (fun s8 h8 => ?_)
            refine th_ok (fun s9 h9 => ?_)
            refine tb_ok (fun h10 => ?_) (fun h10 => ?_)
            ·
              have h10p := of_decide_eq_true h10
              exact fun e => nomatch e
            ·
              have h10p := of_decide_eq_false h10
              refine tp_ok (fun h11 => ?_)
              refine tp_ok (fun h12 => ?_)
              refine tc_ok (fun s13 h13 => ?_)
              refine tb_ok (fun h14 => ?_) (fun h14 => ?_)
              ·
                have h14p := eq_of_beq h14
                intro e; injection e with e; subst e
                exact leafR vw_eq (k := 300) (r := []) (hs := hz [(5, [.fc]), (1, [.fres (.i (s0))]), (2, [.no]), (1, [.fc]), (1, [.fres (.b (s2))]), (2, [.no]), (1, [.fc]), (1, [.fres (Sa.av (s4))]), (2, [.fc]), (17, [.no, .no, .yes]), (1, [.fc]), (12, [.fc, .fc]), (4, [.yes]), (1, [.fres (exs (s8))]), (4, [.head (sDo_L2_S s c s0 s2 s4 s8 s9)]), (1, [.no]), (12, [.yes, .yes, .yes, .yes, .fres (.tu [exs (s13.1), .i (s13.2)])]), (5, [.yes]), (2, [.yes]), (5, [.fc]), (4, [.yes]), (2, [.no]), (1, [.fc]), (1, [.fc]), (2, [.fc, .yes, .yes, .yes, .yes])]) (raw := (AV.tu [(AV.ag [(AV.i s4.blocks), (AV.i s4.gen), (exs s13.1), (AV.sl s4.points.length (List.flatMap Po.cells s4.points)), (AV.i s4.last), (bys s4.staged)]), (AV.i 0)])) kq (ac (sCheck_ok (s) _ h0).any0 (ac h1 (ac (cCheck_ok (c) _ h2).any0 (ac h3 (ac (sCopy_ok (s) _ h4) (ac h5 (ac h6 (ac h7 (ac (tq (p := (((0 : Nat) = (0 : Nat)) ∧ ((List.length [(AV.i c.lba), (AV.i c.n), (AV.i (Int.ofNat 0)), (AV.i (Int.ofNat 0)), AV.nl]) = (5 : Nat))))) (ac (sExtents_ok ([(Ex.mk c.lba c.n 0 0 ([] : List UInt8))]) _ h8) (ac (show EvHead Try.prog cf (lp Try.prog 97 0) (sDo_L2_I s c s0 s2 s4 s8) (sDo_L2_S s c s0 s2 s4 s8 s9) from (EvHead.of (sDo_L2_ok s c s0 s2 s4 s8) (absB_of [] [] kq (.consn kq (.pt rfl) (.consn kq (.rf rfl) (.consn kq (.eqv tq rfl) (.consn kq (.rf rfl) (.consn kq (.eqv tq rfl) (.consn kq (.eqv tq rfl) .nil)))))) (.cons (.old rfl rfl (.cells (.pl tq pq))) (.cons (.old rfl rfl (.ro (.pl0 rfl))) (.cons (.old rfl rfl (.cells (.pl rfl pq))) (.cons (.old rfl rfl (.cells (.cons (.eqv tq rfl) (.cons (.eqv tq rfl) (.cons (.rf rfl) (.cons (.rf rfl) (.cons (.eqv tq rfl) (.cons (.rf rfl) .nil)))))))) (.cons (.old rfl rfl (.cells (.pl rfl (by simp)))) (.cons (.old rfl rfl (.cells (.pl rfl (by simp)))) (.cons (.old rfl rfl (.cells (.pl rfl (by simp)))) (.cons (.old rfl rfl (.cells (.cons (.eqv tq rfl) (.cons (.eqv tq rfl) (.cons .nl0 (.cons .nl0 (.cons (.eqv tq rfl) (.cons .nl0 .nil)))))))) (.cons (.old rfl rfl (.cells (.pl rfl pq))) (.cons (.old rfl rfl (.cells (.pl rfl pq))) .nil))))))))))) h9)) (ac h10 (ac h11 (ac (pq (p := Pl Bool.false ((List.flatMap Ex.cells s4.map)))) (ac h12 (ac (pq (p := Pl Bool.false ((List.flatMap Ex.cells s9.2)))) (ac (show EvFr Try.prog cf Bool.false 105 [(AV.i s4.blocks), (exs s4.map), (AV.sl s8.length (List.flatMap Ex.cells s9.2))] (.tu [exs (s13.1), .i (s13.2)]) from ((mLay_ok (s4.blocks) (s4.map) (s9.2) _ h13).cast tq)) (ac (show orderOk (rg Try.prog 97 0) = true ∧ allOk (Region.before (rg Try.prog 97 0)) [] 0 [(some [], some []), (some [], some []), (some [], some []), (some [6], some []), (some [], some []), (some [], some []), (some [], some []), (some [6], some []), (some [], some []), (some [3, 10], some [3, 10]), (some [], some []), (some [], some []), (some [], some []), (some [], some []), (some [], some [])] = true from (ord_of ord_97_0 bef_97_0 kq)) (ac h14 (ac (show orderOk (rg Try.prog 29 0) = true ∧ allOk (Region.before (rg Try.prog 29 0)) [] 0 [(some [], some [7]), (some [], some []), (some [1], some []), (some [7], some []), (some [1], some []), (none, none), (some [], some [])] = true from (ord_of ord_29_0 bef_29_0 kq)) (ac (congrArg not h14) (ac (fq (p := (((0 : Nat) = (0 : Nat)) ∧ ((List.length (List.flatMap Po.cells s4.points)) = (s4.points.length * 3))))) (ac (pq (p := Pl Bool.false ((List.flatMap Po.cells s4.points)))) (ac (tq (p := (((0 : Nat) = (0 : Nat)) ∧ ((List.length (List.map AV.y s4.staged)) = (s4.staged.length * 1))))) (ac (pq (p := Pl Bool.false ((List.map AV.y s4.staged)))) an))))))))))))))))))))))))) tq
              ·
                have h14p := ne_of_beq_false h14
                refine tc_ok (fun s15 h15 => ?_)
                intro e; injection e with e; subst e
                exact leafR vw_eq (k := 300) (r := []) (hs := hz [(5, [.fc]), (1, [.fres (.i (s0))]), (2, [.no]), (1, [.fc]), (1, [.fres (.b (s2))]), (2, [.no]), (1, [.fc]), (1, [.fres (Sa.av (s4))]), (2, [.fc]), (17, [.no, .no, .yes]), (1, [.fc]), (12, [.fc, .fc]), (4, [.yes]), (1, [.fres (exs (s8))]), (4, [.head (sDo_L2_S s c s0 s2 s4 s8 s9)]), (1, [.no]), (12, [.yes, .yes, .yes, .yes, .fres (.tu [exs (s13.1), .i (s13.2)])]), (5, [.yes]), (2, [.no]), (4, [.yes]), (2, [.yes]), (1, [.fc]), (1, [.fres (Sa.av (s15))]), (2, [.fc]), (2, [.fc, .yes, .yes, .yes, .yes, .yes, .yes])]) (raw := (AV.tu [(AV.ag [(AV.i s15.blocks), (AV.i s15.gen), (exs s15.map), (AV.sl s15.points.length (List.flatMap Po.cells s15.points)), (AV.i s15.last), (bys s15.staged)]), (AV.i s13.2)])) kq (ac (sCheck_ok (s) _ h0).any0 (ac h1 (ac (cCheck_ok (c) _ h2).any0 (ac h3 (ac (sCopy_ok (s) _ h4) (ac h5 (ac h6 (ac h7 (ac (tq (p := (((0 : Nat) = (0 : Nat)) ∧ ((List.length [(AV.i c.lba), (AV.i c.n), (AV.i (Int.ofNat 0)), (AV.i (Int.ofNat 0)), AV.nl]) = (5 : Nat))))) (ac (sExtents_ok ([(Ex.mk c.lba c.n 0 0 ([] : List UInt8))]) _ h8) (ac (show EvHead Try.prog cf (lp Try.prog 97 0) (sDo_L2_I s c s0 s2 s4 s8) (sDo_L2_S s c s0 s2 s4 s8 s9) from (EvHead.of (sDo_L2_ok s c s0 s2 s4 s8) (absB_of [] [] kq (.consn kq (.pt rfl) (.consn kq (.rf rfl) (.consn kq (.eqv tq rfl) (.consn kq (.rf rfl) (.consn kq (.eqv tq rfl) (.consn kq (.eqv tq rfl) .nil)))))) (.cons (.old rfl rfl (.cells (.pl tq pq))) (.cons (.old rfl rfl (.ro (.pl0 rfl))) (.cons (.old rfl rfl (.cells (.pl rfl pq))) (.cons (.old rfl rfl (.cells (.cons (.eqv tq rfl) (.cons (.eqv tq rfl) (.cons (.rf rfl) (.cons (.rf rfl) (.cons (.eqv tq rfl) (.cons (.rf rfl) .nil)))))))) (.cons (.old rfl rfl (.cells (.pl rfl (by simp)))) (.cons (.old rfl rfl (.cells (.pl rfl (by simp)))) (.cons (.old rfl rfl (.cells (.pl rfl (by simp)))) (.cons (.old rfl rfl (.cells (.cons (.eqv tq rfl) (.cons (.eqv tq rfl) (.cons .nl0 (.cons .nl0 (.cons (.eqv tq rfl) (.cons .nl0 .nil)))))))) (.cons (.old rfl rfl (.cells (.pl rfl pq))) (.cons (.old rfl rfl (.cells (.pl rfl pq))) .nil))))))))))) h9)) (ac h10 (ac h11 (ac (pq (p := Pl Bool.false ((List.flatMap Ex.cells s4.map)))) (ac h12 (ac (pq (p := Pl Bool.false ((List.flatMap Ex.cells s9.2)))) (ac (show EvFr Try.prog cf Bool.false 105 [(AV.i s4.blocks), (exs s4.map), (AV.sl s8.length (List.flatMap Ex.cells s9.2))] (.tu [exs (s13.1), .i (s13.2)]) from ((mLay_ok (s4.blocks) (s4.map) (s9.2) _ h13).cast tq)) (ac (show orderOk (rg Try.prog 97 0) = true ∧ allOk (Region.before (rg Try.prog 97 0)) [] 0 [(some [], some []), (some [], some []), (some [], some []), (some [6], some []), (some [], some []), (some [], some []), (some [], some []), (some [6], some []), (some [], some []), (some [3, 10], some [3, 10]), (some [], some []), (some [], some []), (some [], some []), (some [], some []), (some [], some [])] = true from (ord_of ord_97_0 bef_97_0 kq)) (ac h14 (ac (show orderOk (rg Try.prog 29 0) = true ∧ allOk (Region.before (rg Try.prog 29 0)) [] 0 [(some [], some [7]), (some [], some []), (some [1], some []), (some [7], some []), (some [1], some []), (none, none), (some [], some [])] = true from (ord_of ord_29_0 bef_29_0 kq)) (ac (congrArg not h14) (ac (sCopy_ok (s) _ h15) (ac (fq (p := (((0 : Nat) = (0 : Nat)) ∧ ((List.length (List.flatMap Ex.cells s15.map)) = (s15.map.length * 5))))) (ac (pq (p := Pl Bool.false ((List.flatMap Ex.cells s15.map)))) (ac (fq (p := (((0 : Nat) = (0 : Nat)) ∧ ((List.length (List.flatMap Po.cells s15.points)) = (s15.points.length * 3))))) (ac (pq (p := Pl Bool.false ((List.flatMap Po.cells s15.points)))) (ac (tq (p := (((0 : Nat) = (0 : Nat)) ∧ ((List.length (List.map AV.y s15.staged)) = (s15.staged.length * 1))))) (ac (pq (p := Pl Bool.false ((List.map AV.y s15.staged)))) an)))))))))))))))))))))))))))) tq
          ·
            have h7p := of_decide_eq_false h7
            refine tb_ok (fun h8 => ?_) (fun h8 => ?_)
            ·
              have h8p := of_decide_eq_true h8
              refine tb_ok (fun h9 => ?_) (fun h9 => ?_)
              ·
                have h9p := of_decide_eq_true h9
                refine tc_ok (fun s10 h10 => ?_)
                refine tp_ok (fun h11 => ?_)
                intro e; injection e with e; subst e
                exact leafR vw_eq (k := 300) (r := []) (hs := hz [(5, [.fc]), (1, [.fres (.i (s0))]), (2, [.no]), (1, [.fc]), (1, [.fres (.b (s2))]), (2, [.no]), (1, [.fc]), (1, [.fres (Sa.av (s4))]), (2, [.fc]), (17, [.no, .no, .no, .yes]), (1, [.fc]), (13, [.yes, .yes]), (2, [.yes]), (4, [.fc]), (1, [.fres (Sa.av (s10))]), (2, [.fc]), (2, [.fc, .yes, .yes, .yes, .yes, .yes, .yes])]) (raw := (AV.tu [(AV.ag [(AV.i s10.blocks), (AV.i s10.gen), (exs s10.map), (AV.sl s10.points.length (List.flatMap Po.cells s10.points)), (AV.i s10.last), (bys s10.staged)]), (AV.i 112)])) kq (ac (sCheck_ok (s) _ h0).any0 (ac h1 (ac (cCheck_ok (c) _ h2).any0 (ac h3 (ac (sCopy_ok (s) _ h4) (ac h5 (ac h6 (ac h7 (ac h8 (ac (show orderOk (rg Try.prog 78 0) = true ∧ allOk (Region.before (rg Try.prog 78 0)) [] 0 [(some [], some []), (some [8], some []), (some [], some []), (some [], some []), (some [], some []), (some [6], some []), (some [], some []), (some [], some [])] = true from (ord_of ord_78_0 bef_78_0 kq)) (ac h9 (ac (show orderOk (rg Try.prog 29 0) = true ∧ allOk (Region.before (rg Try.prog 29 0)) [] 0 [(some [], some [7]), (some [], some []), (some [1], some []), (some [7], some []), (some [1], some []), (none, none), (some [], some [])] = true from (ord_of ord_29_0 bef_29_0 kq)) (ac (sCopy_ok (s) _ h10) (ac h11 (ac (pq (p := Pl Bool.false ((List.flatMap Ex.cells s10.map)))) (ac (fq (p := (((0 : Nat) = (0 : Nat)) ∧ ((List.length (List.flatMap Po.cells s10.points)) = (s10.points.length * 3))))) (ac (pq (p := Pl Bool.false ((List.flatMap Po.cells s10.points)))) (ac (tq (p := (((0 : Nat) = (0 : Nat)) ∧ ((List.length (List.map AV.y s10.staged)) = (s10.staged.length * 1))))) (ac (pq (p := Pl Bool.false ((List.map AV.y s10.staged)))) an))))))))))))))))))) tq
              ·
                have h9p := of_decide_eq_false h9
                refine tb_ok (fun h10 => ?_) (fun h10 => ?_)
                ·
                  have h10p := eq_of_beq h10
                  refine tc_ok (fun s11 h11 => ?_)
                  refine tp_ok (fun h12 => ?_)
                  intro e; injection e with e; subst e
                  exact leafR vw_eq (k := 300) (r := []) (hs := hz [(5, [.fc]), (1, [.fres (.i (s0))]), (2, [.no]), (1, [.fc]), (1, [.fres (.b (s2))]), (2, [.no]), (1, [.fc]), (1, [.fres (Sa.av (s4))]), (2, [.fc]), (17, [.no, .no, .no, .yes]), (1, [.fc]), (13, [.yes, .no]), (8, [.yes, .yes, .yes, .yes, .yes, .yes]), (4, [.yes]), (4, [.fc]), (1, [.fres (Sa.av (s11))]), (2, [.fc]), (2, [.fc, .yes, .yes, .yes, .yes, .yes, .yes])]) (raw := (AV.tu [(AV.ag [(AV.i s11.blocks), (AV.i s11.gen), (exs s11.map), (AV.sl s11.points.length (List.flatMap Po.cells s11.points)), (AV.i s11.last), (bys s11.staged)]), (AV.i 113)])) kq (ac (sCheck_ok (s) _ h0).any0 (ac h1 (ac (cCheck_ok (c) _ h2).any0 (ac h3 (ac (sCopy_ok (s) _ h4) (ac h5 (ac h6 (ac h7 (ac h8 (ac (show orderOk (rg Try.prog 78 0) = true ∧ allOk (Region.before (rg Try.prog 78 0)) [] 0 [(some [], some []), (some [8], some []), (some [], some []), (some [], some []), (some [], some []), (some [6], some []), (some [], some []), (some [], some [])] = true from (ord_of ord_78_0 bef_78_0 kq)) (ac h9 (ac h10 (ac h10 (ac h10 (ac h10 (ac h10 (ac h10 (ac (show orderOk (rg Try.prog 29 0) = true ∧ allOk (Region.before (rg Try.prog 29 0)) [] 0 [(some [], some [7]), (some [], some []), (some [1], some []), (some [7], some []), (some [1], some []), (none, none), (some [], some [])] = true from (ord_of ord_29_0 bef_29_0 kq)) (ac (sCopy_ok (s) _ h11) (ac h12 (ac (pq (p := Pl Bool.false ((List.flatMap Ex.cells s11.map)))) (ac (fq (p := (((0 : Nat) = (0 : Nat)) ∧ ((List.length (List.flatMap Po.cells s11.points)) = (s11.points.length * 3))))) (ac (pq (p := Pl Bool.false ((List.flatMap Po.cells s11.points)))) (ac (tq (p := (((0 : Nat) = (0 : Nat)) ∧ ((List.length (List.map AV.y s11.staged)) = (s11.staged.length * 1))))) (ac (pq (p := Pl Bool.false ((List.map AV.y s11.staged)))) an))))))))))))))))))))))))) tq
                ·
                  have h10p := ne_of_beq_false h10
                  refine tb_ok (fun h11 => ?_) (fun h11 => ?_)
                  ·
                    have h11p := eq_of_beq h11
                    refine tc_ok (fun s12 h12 => ?_)
                    refine tp_ok (fun h13 => ?_)
                    intro e; injection e with e; subst e
                    exact leafR vw_eq (k := 300) (r := []) (hs := hz [(5, [.fc]), (1, [.fres (.i (s0))]), (2, [.no]), (1, [.fc]), (1, [.fres (.b (s2))]), (2, [.no]), (1, [.fc]), (1, [.fres (Sa.av (s4))]), (2, [.fc]), (17, [.no, .no, .no, .yes]), (1, [.fc]), (13, [.yes, .no]), (8, [.no]), (1, [.no]), (1, [.no]), (1, [.no]), (2, [.no]), (1, [.no]), (1, [.yes]), (2, [.yes]), (4, [.fc]), (1, [.fres (Sa.av (s12))]), (2, [.fc]), (2, [.fc, .yes, .yes, .yes, .yes, .yes, .yes])]) (raw := (AV.tu [(AV.ag [(AV.i s12.blocks), (AV.i s12.gen), (exs s12.map), (AV.sl s12.points.length (List.flatMap Po.cells s12.points)), (AV.i s12.last), (bys s12.staged)]), (AV.i 113)])) kq (ac (sCheck_ok (s) _ h0).any0 (ac h1 (ac (cCheck_ok (c) _ h2).any0 (ac h3 (ac (sCopy_ok (s) _ h4) (ac h5 (ac h6 (ac h7 (ac h8 (ac (show orderOk (rg Try.prog 78 0) = true ∧ allOk (Region.before (rg Try.prog 78 0)) [] 0 [(some [], some []), (some [8], some []), (some [], some []), (some [], some []), (some [], some []), (some [6], some []), (some [], some []), (some [], some [])] = true from (ord_of ord_78_0 bef_78_0 kq)) (ac h9 (ac h10 (ac h10 (ac h10 (ac h10 (ac h10 (ac h10 (ac h11 (ac (show orderOk (rg Try.prog 29 0) = true ∧ allOk (Region.before (rg Try.prog 29 0)) [] 0 [(some [], some [7]), (some [], some []), (some [1], some []), (some [7], some []), (some [1], some []), (none, none), (some [], some [])] = true from (ord_of ord_29_0 bef_29_0 kq)) (ac (sCopy_ok (s) _ h12) (ac h13 (ac (pq (p := Pl Bool.false ((List.flatMap Ex.cells s12.map)))) (ac (fq (p := (((0 : Nat) = (0 : Nat)) ∧ ((List.length (List.flatMap Po.cells s12.points)) = (s12.points.length * 3))))) (ac (pq (p := Pl Bool.false ((List.flatMap Po.cells s12.points)))) (ac (tq (p := (((0 : Nat) = (0 : Nat)) ∧ ((List.length (List.map AV.y s12.staged)) = (s12.staged.length * 1))))) (ac (pq (p := Pl Bool.false ((List.map AV.y s12.staged)))) an)))))))))))))))))))))))))) tq
                  ·
                    have h11p := ne_of_beq_false h11
                    refine tp_ok (fun h12 => ?_)
                    refine tc_ok (fun s13 h13 => ?_)
                    refine tp_ok (fun h14 => ?_)
                    refine tp_ok (fun h15 => ?_)
                    intro e; injection e with e; subst e
                    exact leafR vw_eq (k := 300) (r := []) (hs := hz [(5, [.fc]), (1, [.fres (.i (s0))]), (2, [.no]), (1, [.fc]), (1, [.fres (.b (s2))]), (2, [.no]), (1, [.fc]), (1, [.fres (Sa.av (s4))]), (2, [.fc]), (17, [.no, .no, .no, .yes]), (1, [.fc]), (13, [.yes, .no]), (8, [.no]), (1, [.no]), (1, [.no]), (1, [.no]), (2, [.no]), (1, [.no]), (1, [.no]), (20, [.yes, .yes, .fres (exs (s13))]), (2, [.fc, .fc, .yes, .yes]), (3, [.fc, .yes]), (7, [.fc]), (9, [.fc]), (2, [.yes]), (4, [.fc]), (1, [.fc]), (2, [.fc, .yes, .yes, .yes, .cellsb ((List.flatMap Po.cells s4.points) ++ [(AV.i c.id), (AV.i s4.gen), (AV.sl s13.length (List.take (s13.length * 5) (List.flatMap Ex.cells s13)))]) [9], .yes, .yes])]) (raw := (AV.tu [(AV.ag [(AV.i s4.blocks), (AV.i (wr (s4.gen + (1 : Int)))), (exs s4.map), (AV.sl (s4.points.length + (1 : Nat)) ((List.flatMap Po.cells s4.points) ++ [(AV.i c.id), (AV.i s4.gen), (AV.sl s13.length (List.take (s13.length * 5) (List.flatMap Ex.cells s13)))])), (AV.i c.id), (bys s4.staged)]), (AV.i 0)])) kq (ac (sCheck_ok (s) _ h0).any0 (ac h1 (ac (cCheck_ok (c) _ h2).any0 (ac h3 (ac (sCopy_ok (s) _ h4) (ac h5 (ac h6 (ac h7 (ac h8 (ac (show orderOk (rg Try.prog 78 0) = true ∧ allOk (Region.before (rg Try.prog 78 0)) [] 0 [(some [], some []), (some [8], some []), (some [], some []), (some [], some []), (some [], some []), (some [6], some []), (some [], some []), (some [], some [])] = true from (ord_of ord_78_0 bef_78_0 kq)) (ac h9 (ac h10 (ac h10 (ac h10 (ac h10 (ac h10 (ac h10 (ac h11 (ac h12 (ac (pq (p := Pl Bool.false ((List.flatMap Ex.cells s4.map)))) (ac (sExtents_ok (s4.map) _ h13) (ac (tq (p := (((0 : Nat) = (0 : Nat)) ∧ ((List.length [(AV.i c.id), (AV.i s4.gen), (AV.rf 9 5 0 s13.length)]) = (3 : Nat))))) (ac h14 (ac (show orderOk (rg Try.prog 78 1) = true ∧ allOk (Region.before (rg Try.prog 78 1)) [] 0 [(some [], some []), (some [], some []), (some [], some []), (some [], some []), (some [6], some []), (some [], some []), (some [8], some []), (some [], some []), (some [], some []), (some [], some []), (some [6], some []), (some [], some []), (some [], some []), (some [], some []), (some [6], some []), (some [3], some [3, 9]), (some [], some []), (some [], some [10]), (some [4, 10], some [4, 11]), (some [], some []), (some [], some []), (some [6], some [6])] = true from (ord_of ord_78_1 bef_78_1 kq)) (ac (show orderOk (rg Try.prog 29 0) = true ∧ allOk (Region.before (rg Try.prog 29 0)) [] 0 [(some [], some [7]), (some [], some []), (some [1], some []), (some [7], some []), (some [1], some []), (none, none), (some [], some [])] = true from (ord_of ord_29_0 bef_29_0 kq)) (ac h12 (ac (pq (p := Pl Bool.false ((List.flatMap Ex.cells s4.map)))) (ac h15 (ac (show mapP (purV (AH.mk 12 [(11, (AObj.cells ((List.flatMap Po.cells s4.points) ++ [(AV.i c.id), (AV.i s4.gen), (AV.rf 9 5 0 s13.length)]))), (10, (AObj.cells [(AV.i c.id), (AV.i s4.gen), (AV.rf 9 5 0 s13.length)])), (9, (AObj.cells (List.flatMap Ex.cells s13))), (8, (AObj.cells [(AV.i c.kind), (AV.i c.lba), (AV.i c.n), (AV.i c.id), (bys c.d), (exs c.list)])), (7, (AObj.map [((AV.i 1), (AV.fn (75 : Nat) ([] : List AV))), ((AV.i 2), (AV.fn (76 : Nat) ([] : List AV))), ((AV.i 3), (AV.fn (77 : Nat) ([] : List AV))), ((AV.i 4), (AV.fn (78 : Nat) ([] : List AV))), ((AV.i 5), (AV.fn (79 : Nat) ([] : List AV))), ((AV.i 6), (AV.fn (80 : Nat) ([] : List AV))), ((AV.i 7), (AV.fn (81 : Nat) ([] : List AV))), ((AV.i 8), (AV.fn (82 : Nat) ([] : List AV)))])), (6, (AObj.cells [(AV.i s4.blocks), (AV.i (wr (s4.gen + (1 : Int)))), (AV.rf 3 5 0 s4.map.length), (AV.rf 11 3 0 (s4.points.length + (1 : Nat))), (AV.i c.id), (AV.rf 5 1 0 s4.staged.length)])), ((((3 : Nat) + (1 : Nat)) + (1 : Nat)), (AObj.cells (List.map AV.y s4.staged))), (4, AObj.dead), (3, (AObj.ro (List.flatMap Ex.cells s4.map))), (2, (AObj.cells [(AV.i s4.blocks), (AV.i (wr (s4.gen + (1 : Int)))), (AV.rf 3 5 0 s4.map.length), (AV.rf 11 3 0 (s4.points.length + (1 : Nat))), (AV.i c.id), (AV.rf 5 1 0 s4.staged.length)])), (1, (AObj.cells [(AV.i c.kind), (AV.i c.lba), (AV.i c.n), (AV.i c.id), (bys c.d), (exs c.list)])), (0, (AObj.cells [(AV.i s.blocks), (AV.i s.gen), (exs s.map), (AV.sl s.points.length (List.flatMap Po.cells s.points)), (AV.i s.last), (bys s.staged)]))]) Bool.false 9) ((List.flatMap Po.cells s4.points) ++ [(AV.i c.id), (AV.i s4.gen), (AV.rf 9 5 0 s13.length)]) = some (((List.flatMap Po.cells s4.points) ++ [(AV.i c.id), (AV.i s4.gen), (AV.sl s13.length (List.take (s13.length * 5) (List.flatMap Ex.cells s13)))]), [9]) from (mapP_appB (x := []) (y := [9]) (pur_plain _ _ _ _ pq) (mapP_consB (x := []) (y := [9]) (purV_plain rfl) (mapP_consB (x := []) (y := [9]) (purV_plain rfl) (mapP_consB (x := [9]) (y := []) (purV_rfB (cs := (List.flatMap Ex.cells s13)) rfl tq pq) rfl))))) (ac (tq (p := (((0 : Nat) = (0 : Nat)) ∧ ((List.length (List.map AV.y s4.staged)) = (s4.staged.length * 1))))) (ac (pq (p := Pl Bool.false ((List.map AV.y s4.staged)))) an))))))))))))))))))))))))))))))) tq
            ·
              have h8p := of_decide_eq_false h8
              refine tb_ok (fun h9 => ?_) (fun h9 => ?_)
              ·
                have h9p := of_decide_eq_true h9
                refine th_ok (fun s10 h10 => ?_)
                refine tb_ok (fun h11 => ?_) (fun h11 => ?_)
                ·
                  have h11p := of_decide_eq_true h11
                  refine tp_ok (fun h12 => ?_)
                  refine tb_ok (fun h13 => ?_) (fun h13 => ?_)
                  ·
                    have h13p := eq_of_beq h13
                    refine tb_ok (fun h14 => ?_) (fun h14 => ?_)
                    ·
                      have h14p := of_decide_eq_true h14
                      refine tc_ok (fun s15 h15 => ?_)
                      intro e; injection e with e; subst e
                      exact leafR vw_eq (k := 300) (r := []) (hs := hz [(5, [.fc]), (1, [.fres (.i (s0))]), (2, [.no]), (1, [.fc]), (1, [.fres (.b (s2))]), (2, [.no]), (1, [.fc]), (1, [.fres (Sa.av (s4))]), (2, [.fc]), (17, [.no, .no, .no, .no, .yes]), (1, [.fc]), (14, [.head (sDo_L3_S s c s0 s2 s4 s10)]), (1, [.yes]), (5, [.yes, .yes, .cells ((Po.cells (poAt s4.points s10.toNat)))]), (11, [.yes]), (5, [.yes]), (2, [.yes]), (4, [.fc]), (1, [.fres (Sa.av (s15))]), (2, [.fc]), (2, [.fc, .yes, .yes, .yes, .yes, .yes, .yes])]) (raw := (AV.tu [(AV.ag [(AV.i s15.blocks), (AV.i s15.gen), (exs s15.map), (AV.sl s15.points.length (List.flatMap Po.cells s15.points)), (AV.i s15.last), (bys s15.staged)]), (AV.i 111)])) kq (ac (sCheck_ok (s) _ h0).any0 (ac h1 (ac (cCheck_ok (c) _ h2).any0 (ac h3 (ac (sCopy_ok (s) _ h4) (ac h5 (ac h6 (ac h7 (ac h8 (ac h9 (ac (show EvHead Try.prog cf (lp Try.prog 98 0) (sDo_L3_I s c s0 s2 s4) (sDo_L3_S s c s0 s2 s4 s10) from (EvHead.of (sDo_L3_ok s c s0 s2 s4) (absB_of [] [] kq (.consn kq (.rf rfl) (.consn kq (.fn (.cons (.pt rfl) .nil)) (.consn kq (.eqv tq rfl) (.consn kq (.eqv tq rfl) .nil)))) (.cons (.old rfl rfl (.cells (.pl rfl pq))) (.cons (.old rfl rfl (.cells (.cons (.eqv tq rfl) (.cons (.eqv tq rfl) (.cons (.rf rfl) (.cons (.rf rfl) (.cons (.eqv tq rfl) (.cons (.rf rfl) .nil)))))))) (.cons (.old rfl rfl (.cells (.pl rfl (by simp)))) (.cons (.old rfl rfl (.cells (.pl rfl (by simp)))) (.cons (.old rfl rfl (.cells (.pl rfl (by simp)))) (.cons (.old rfl rfl (.cells (.cons (.eqv tq rfl) (.cons (.eqv tq rfl) (.cons .nl0 (.cons .nl0 (.cons (.eqv tq rfl) (.cons .nl0 .nil)))))))) (.cons (.old rfl rfl (.cells (.pl rfl pq))) (.cons (.old rfl rfl (.cells (.pl rfl pq))) .nil))))))))) h10)) (ac h11 (ac h12 (ac (fq (p := ((((0 : Nat) + (s10.toNat * 3)) + (3 : Nat)) ≤ (List.length (List.flatMap Po.cells s4.points))))) (ac (show (List.take 3 (List.drop ((0 : Nat) + (s10.toNat * 3)) (List.flatMap Po.cells s4.points))) = (Po.cells (poAt s4.points s10.toNat)) from (po_takeO bq bq)) (ac h13 (ac h14 (ac (show orderOk (rg Try.prog 29 0) = true ∧ allOk (Region.before (rg Try.prog 29 0)) [] 0 [(some [], some [7]), (some [], some []), (some [1], some []), (some [7], some []), (some [1], some []), (none, none), (some [], some [])] = true from (ord_of ord_29_0 bef_29_0 kq)) (ac (sCopy_ok (s) _ h15) (ac (fq (p := (((0 : Nat) = (0 : Nat)) ∧ ((List.length (List.flatMap Ex.cells s15.map)) = (s15.map.length * 5))))) (ac (pq (p := Pl Bool.false ((List.flatMap Ex.cells s15.map)))) (ac (fq (p := (((0 : Nat) = (0 : Nat)) ∧ ((List.length (List.flatMap Po.cells s15.points)) = (s15.points.length * 3))))) (ac (pq (p := Pl Bool.false ((List.flatMap Po.cells s15.points)))) (ac (tq (p := (((0 : Nat) = (0 : Nat)) ∧ ((List.length (List.map AV.y s15.staged)) = (s15.staged.length * 1))))) (ac (pq (p := Pl Bool.false ((List.map AV.y s15.staged)))) an))))))))))))))))))))))))) tq
                    ·
                      have h14p := of_decide_eq_false h14
                      refine tp_ok (fun h15 => ?_)
                      refine tp_ok (fun h16 => ?_)
                      refine tp_ok (fun h17 => ?_)
                      refine tp_ok (fun h18 => ?_)
                      refine tp_ok (fun h19 => ?_)
                      intro e; injection e with e; subst e
                      exact leafR vw_eq (k := 300) (r := []) (hs := hz [(5, [.fc]), (1, [.fres (.i (s0))]), (2, [.no]), (1, [.fc]), (1, [.fres (.b (s2))]), (2, [.no]), (1, [.fc]), (1, [.fres (Sa.av (s4))]), (2, [.fc]), (17, [.no, .no, .no, .no, .yes]), (1, [.fc]), (14, [.head (sDo_L3_S s c s0 s2 s4 s10)]), (1, [.yes]), (5, [.yes, .yes, .cells ((Po.cells (poAt s4.points s10.toNat)))]), (11, [.yes]), (5, [.no]), (10, [.yes, .yes, .yes, .yes, .cells ((List.flatMap Po.cells ((List.take s10.toNat s4.points) ++ (List.drop (s10.toNat + (1 : Nat)) s4.points))))]), (3, [.fc]), (2, [.yes]), (4, [.fc]), (1, [.fc]), (2, [.fc, .yes, .yes, .yes, .yes, .yes, .yes])]) (raw := (AV.tu [(AV.ag [(AV.i s4.blocks), (AV.i s4.gen), (exs s4.map), (AV.sl (s4.points.length - (1 : Nat)) (List.flatMap Po.cells ((List.take s10.toNat s4.points) ++ (List.drop (s10.toNat + (1 : Nat)) s4.points)))), (AV.i s4.last), (bys s4.staged)]), (AV.i 0)])) kq (ac (sCheck_ok (s) _ h0).any0 (ac h1 (ac (cCheck_ok (c) _ h2).any0 (ac h3 (ac (sCopy_ok (s) _ h4) (ac h5 (ac h6 (ac h7 (ac h8 (ac h9 (ac (show EvHead Try.prog cf (lp Try.prog 98 0) (sDo_L3_I s c s0 s2 s4) (sDo_L3_S s c s0 s2 s4 s10) from (EvHead.of (sDo_L3_ok s c s0 s2 s4) (absB_of [] [] kq (.consn kq (.rf rfl) (.consn kq (.fn (.cons (.pt rfl) .nil)) (.consn kq (.eqv tq rfl) (.consn kq (.eqv tq rfl) .nil)))) (.cons (.old rfl rfl (.cells (.pl rfl pq))) (.cons (.old rfl rfl (.cells (.cons (.eqv tq rfl) (.cons (.eqv tq rfl) (.cons (.rf rfl) (.cons (.rf rfl) (.cons (.eqv tq rfl) (.cons (.rf rfl) .nil)))))))) (.cons (.old rfl rfl (.cells (.pl rfl (by simp)))) (.cons (.old rfl rfl (.cells (.pl rfl (by simp)))) (.cons (.old rfl rfl (.cells (.pl rfl (by simp)))) (.cons (.old rfl rfl (.cells (.cons (.eqv tq rfl) (.cons (.eqv tq rfl) (.cons .nl0 (.cons .nl0 (.cons (.eqv tq rfl) (.cons .nl0 .nil)))))))) (.cons (.old rfl rfl (.cells (.pl rfl pq))) (.cons (.old rfl rfl (.cells (.pl rfl pq))) .nil))))))))) h10)) (ac h11 (ac h12 (ac (fq (p := ((((0 : Nat) + (s10.toNat * 3)) + (3 : Nat)) ≤ (List.length (List.flatMap Po.cells s4.points))))) (ac (show (List.take 3 (List.drop ((0 : Nat) + (s10.toNat * 3)) (List.flatMap Po.cells s4.points))) = (Po.cells (poAt s4.points s10.toNat)) from (po_takeO bq bq)) (ac h13 (ac h14 (ac h15 (ac h16 (ac h12 (ac h17 (ac (show delC 3 (s10.toNat) ((List.flatMap Po.cells s4.points)) = (List.flatMap Po.cells ((List.take s10.toNat s4.points) ++ (List.drop (s10.toNat + (1 : Nat)) s4.points))) from (pos_del _ _)) (ac (show orderOk (rg Try.prog 29 0) = true ∧ allOk (Region.before (rg Try.prog 29 0)) [] 0 [(some [], some [7]), (some [], some []), (some [1], some []), (some [7], some []), (some [1], some []), (none, none), (some [], some [])] = true from (ord_of ord_29_0 bef_29_0 kq)) (ac h18 (ac (pq (p := Pl Bool.false ((List.flatMap Ex.cells s4.map)))) (ac h19 (ac (pq (p := Pl Bool.false ((List.flatMap Po.cells ((List.take s10.toNat s4.points) ++ (List.drop (s10.toNat + (1 : Nat)) s4.points)))))) (ac (tq (p := (((0 : Nat) = (0 : Nat)) ∧ ((List.length (List.map AV.y s4.staged)) = (s4.staged.length * 1))))) (ac (pq (p := Pl Bool.false ((List.map AV.y s4.staged)))) an))))))))))))))))))))))))))))) tq
                  ·
                    have h13p := ne_of_beq_false h13
                    exact fun e => nomatch e
                ·
                  have h11p := of_decide_eq_false h11
                  refine tc_ok (fun s12 h12 => ?_)
                  refine tp_ok (fun h13 => ?_)
                  intro e; injection e with e; subst e
                  exact leafR vw_eq (k := 300) (r := []) (hs := hz [(5, [.fc]), (1, [.fres (.i (s0))]), (2, [.no]), (1, [.fc]), (1, [.fres (.b (s2))]), (2, [.no]), (1, [.fc]), (1, [.fres (Sa.av (s4))]), (2, [.fc]), (17, [.no, .no, .no, .no, .yes]), (1, [.fc]), (14, [.head (sDo_L3_S s c s0 s2 s4 s10)]), (1, [.no]), (7, [.yes]), (4, [.fc]), (1, [.fres (Sa.av (s12))]), (2, [.fc]), (2, [.fc, .yes, .yes, .yes, .yes, .yes, .yes])]) (raw := (AV.tu [(AV.ag [(AV.i s12.blocks), (AV.i s12.gen), (exs s12.map), (AV.sl s12.points.length (List.flatMap Po.cells s12.points)), (AV.i s12.last), (bys s12.staged)]), (AV.i 111)])) kq (ac (sCheck_ok (s) _ h0).any0 (ac h1 (ac (cCheck_ok (c) _ h2).any0 (ac h3 (ac (sCopy_ok (s) _ h4) (ac h5 (ac h6 (ac h7 (ac h8 (ac h9 (ac (show EvHead Try.prog cf (lp Try.prog 98 0) (sDo_L3_I s c s0 s2 s4) (sDo_L3_S s c s0 s2 s4 s10) from (EvHead.of (sDo_L3_ok s c s0 s2 s4) (absB_of [] [] kq (.consn kq (.rf rfl) (.consn kq (.fn (.cons (.pt rfl) .nil)) (.consn kq (.eqv tq rfl) (.consn kq (.eqv tq rfl) .nil)))) (.cons (.old rfl rfl (.cells (.pl rfl pq))) (.cons (.old rfl rfl (.cells (.cons (.eqv tq rfl) (.cons (.eqv tq rfl) (.cons (.rf rfl) (.cons (.rf rfl) (.cons (.eqv tq rfl) (.cons (.rf rfl) .nil)))))))) (.cons (.old rfl rfl (.cells (.pl rfl (by simp)))) (.cons (.old rfl rfl (.cells (.pl rfl (by simp)))) (.cons (.old rfl rfl (.cells (.pl rfl (by simp)))) (.cons (.old rfl rfl (.cells (.cons (.eqv tq rfl) (.cons (.eqv tq rfl) (.cons .nl0 (.cons .nl0 (.cons (.eqv tq rfl) (.cons .nl0 .nil)))))))) (.cons (.old rfl rfl (.cells (.pl rfl pq))) (.cons (.old rfl rfl (.cells (.pl rfl pq))) .nil))))))))) h10)) (ac h11 (ac (show orderOk (rg Try.prog 29 0) = true ∧ allOk (Region.before (rg Try.prog 29 0)) [] 0 [(some [], some [7]), (some [], some []), (some [1], some []), (some [7], some []), (some [1], some []), (none, none), (some [], some [])] = true from (ord_of ord_29_0 bef_29_0 kq)) (ac (sCopy_ok (s) _ h12) (ac h13 (ac (pq (p := Pl Bool.false ((List.flatMap Ex.cells s12.map)))) (ac (fq (p := (((0 : Nat) = (0 : Nat)) ∧ ((List.length (List.flatMap Po.cells s12.points)) = (s12.points.length * 3))))) (ac (pq (p := Pl Bool.false ((List.flatMap Po.cells s12.points)))) (ac (tq (p := (((0 : Nat) = (0 : Nat)) ∧ ((List.length (List.map AV.y s12.staged)) = (s12.staged.length * 1))))) (ac (pq (p := Pl Bool.false ((List.map AV.y s12.staged)))) an)))))))))))))))))))) tq
              ·
                have h9p := of_decide_eq_false h9
                refine tb_ok (fun h10 => ?_) (fun h10 => ?_)
                ·
                  have h10p := of_decide_eq_true h10
                  refine tb_ok (fun h11 => ?_) (fun h11 => ?_)
                  ·
                    have h11p := of_decide_eq_true h11
                    refine tc_ok (fun s12 h12 => ?_)
                    refine tp_ok (fun h13 => ?_)
                    intro e; injection e with e; subst e
                    exact leafR vw_eq (k := 300) (r := []) (hs := hz [(5, [.fc]), (1, [.fres (.i (s0))]), (2, [.no]), (1, [.fc]), (1, [.fres (.b (s2))]), (2, [.no]), (1, [.fc]), (1, [.fres (Sa.av (s4))]), (2, [.fc]), (17, [.no, .no, .no, .no, .no, .yes]), (1, [.fc]), (15, [.yes, .yes]), (2, [.yes]), (4, [.fc]), (1, [.fres (Sa.av (s12))]), (2, [.fc]), (2, [.fc, .yes, .yes, .yes, .yes, .yes, .yes])]) (raw := (AV.tu [(AV.ag [(AV.i s12.blocks), (AV.i s12.gen), (exs s12.map), (AV.sl s12.points.length (List.flatMap Po.cells s12.points)), (AV.i s12.last), (bys s12.staged)]), (AV.i 113)])) kq (ac (sCheck_ok (s) _ h0).any0 (ac h1 (ac (cCheck_ok (c) _ h2).any0 (ac h3 (ac (sCopy_ok (s) _ h4) (ac h5 (ac h6 (ac h7 (ac h8 (ac h9 (ac h10 (ac (show orderOk (rg Try.prog 80 0) = true ∧ allOk (Region.before (rg Try.prog 80 0)) [] 0 [(some [], some []), (some [8], some []), (some [], some []), (some [], some []), (some [], some []), (some [], some []), (some [6], some []), (some [], some []), (some [], some []), (some [], some [])] = true from (ord_of ord_80_0 bef_80_0 kq)) (ac h11 (ac (show orderOk (rg Try.prog 29 0) = true ∧ allOk (Region.before (rg Try.prog 29 0)) [] 0 [(some [], some [7]), (some [], some []), (some [1], some []), (some [7], some []), (some [1], some []), (none, none), (some [], some [])] = true from (ord_of ord_29_0 bef_29_0 kq)) (ac (sCopy_ok (s) _ h12) (ac h13 (ac (pq (p := Pl Bool.false ((List.flatMap Ex.cells s12.map)))) (ac (fq (p := (((0 : Nat) = (0 : Nat)) ∧ ((List.length (List.flatMap Po.cells s12.points)) = (s12.points.length * 3))))) (ac (pq (p := Pl Bool.false ((List.flatMap Po.cells s12.points)))) (ac (tq (p := (((0 : Nat) = (0 : Nat)) ∧ ((List.length (List.map AV.y s12.staged)) = (s12.staged.length * 1))))) (ac (pq (p := Pl Bool.false ((List.map AV.y s12.staged)))) an))))))))))))))))))))) tq
                  ·
                    have h11p := of_decide_eq_false h11
                    refine tp_ok (fun h12 => ?_)
                    refine tp_ok (fun h13 => ?_)
                    intro e; injection e with e; subst e
                    exact leafR vw_eq (k := 300) (r := []) (hs := hz [(5, [.fc]), (1, [.fres (.i (s0))]), (2, [.no]), (1, [.fc]), (1, [.fres (.b (s2))]), (2, [.no]), (1, [.fc]), (1, [.fres (Sa.av (s4))]), (2, [.fc]), (17, [.no, .no, .no, .no, .no, .yes]), (1, [.fc]), (15, [.yes, .no]), (9, [.yes, .yes]), (3, [.fc, .yes]), (2, [.yes]), (4, [.fc]), (1, [.fc]), (2, [.fc, .yes, .yes, .yes, .yes, .yes, .yes])]) (raw := (AV.tu [(AV.ag [(AV.i s4.blocks), (AV.i s4.gen), (exs s4.map), (AV.sl s4.points.length (List.flatMap Po.cells s4.points)), (AV.i s4.last), (AV.sl (s4.staged.length + c.d.length) ((List.map AV.y s4.staged) ++ (List.map AV.y c.d)))]), (AV.i 0)])) kq (ac (sCheck_ok (s) _ h0).any0 (ac h1 (ac (cCheck_ok (c) _ h2).any0 (ac h3 (ac (sCopy_ok (s) _ h4) (ac h5 (ac h6 (ac h7 (ac h8 (ac h9 (ac h10 (ac (show orderOk (rg Try.prog 80 0) = true ∧ allOk (Region.before (rg Try.prog 80 0)) [] 0 [(some [], some []), (some [8], some []), (some [], some []), (some [], some []), (some [], some []), (some [], some []), (some [6], some []), (some [], some []), (some [], some []), (some [], some [])] = true from (ord_of ord_80_0 bef_80_0 kq)) (ac h11 (ac (tq (p := ((List.length (List.map AV.y c.d)) = (c.d.length * 1)))) (ac h12 (ac (show orderOk (rg Try.prog 80 1) = true ∧ allOk (Region.before (rg Try.prog 80 1)) [] 0 [(some [], some []), (some [], some []), (some [], some []), (some [], some []), (some [6], some []), (some [], some []), (some [8], some []), (some [5], some [5, 9]), (some [], some []), (some [], some []), (some [6], some [6])] = true from (ord_of ord_80_1 bef_80_1 kq)) (ac (show orderOk (rg Try.prog 29 0) = true ∧ allOk (Region.before (rg Try.prog 29 0)) [] 0 [(some [], some [7]), (some [], some []), (some [1], some []), (some [7], some []), (some [1], some []), (none, none), (some [], some [])] = true from (ord_of ord_29_0 bef_29_0 kq)) (ac h13 (ac (pq (p := Pl Bool.false ((List.flatMap Ex.cells s4.map)))) (ac (fq (p := (((0 : Nat) = (0 : Nat)) ∧ ((List.length (List.flatMap Po.cells s4.points)) = (s4.points.length * 3))))) (ac (pq (p := Pl Bool.false ((List.flatMap Po.cells s4.points)))) (ac (tq (p := (((0 : Nat) = (0 : Nat)) ∧ ((List.length ((List.map AV.y s4.staged) ++ (List.map AV.y c.d))) = ((s4.staged.length + c.d.length) * 1))))) (ac (pq (p := Pl Bool.false (((List.map AV.y s4.staged) ++ (List.map AV.y c.d))))) an))))))))))))))))))))))) tq
                ·
                  have h10p := of_decide_eq_false h10
                  refine tb_ok (fun h11 => ?_) (fun h11 => ?_)
                  ·
                    have h11p := of_decide_eq_true h11
                    refine tp_ok (fun h12 => ?_)
                    intro e; injection e with e; subst e
                    exact leafR vw_eq (k := 300) (r := []) (hs := hz [(5, [.fc]), (1, [.fres (.i (s0))]), (2, [.no]), (1, [.fc]), (1, [.fres (.b (s2))]), (2, [.no]), (1, [.fc]), (1, [.fres (Sa.av (s4))]), (2, [.fc]), (17, [.no, .no, .no, .no, .no, .no, .yes]), (1, [.fc]), (7, [.fc]), (2, [.yes]), (4, [.fc]), (1, [.fc]), (2, [.fc, .yes, .yes, .yes, .yes])]) (raw := (AV.tu [(AV.ag [(AV.i s4.blocks), (AV.i s4.gen), (exs s4.map), (AV.sl s4.points.length (List.flatMap Po.cells s4.points)), (AV.i s4.last), (AV.sl 0 ([] : List AV))]), (AV.i 0)])) kq (ac (sCheck_ok (s) _ h0).any0 (ac h1 (ac (cCheck_ok (c) _ h2).any0 (ac h3 (ac (sCopy_ok (s) _ h4) (ac h5 (ac h6 (ac h7 (ac h8 (ac h9 (ac h10 (ac h11 (ac (show orderOk (rg Try.prog 29 0) = true ∧ allOk (Region.before (rg Try.prog 29 0)) [] 0 [(some [], some [7]), (some [], some []), (some [1], some []), (some [7], some []), (some [1], some []), (none, none), (some [], some [])] = true from (ord_of ord_29_0 bef_29_0 kq)) (ac h12 (ac (pq (p := Pl Bool.false ((List.flatMap Ex.cells s4.map)))) (ac (fq (p := (((0 : Nat) = (0 : Nat)) ∧ ((List.length (List.flatMap Po.cells s4.points)) = (s4.points.length * 3))))) (ac (pq (p := Pl Bool.false ((List.flatMap Po.cells s4.points)))) an))))))))))))))))) tq
                  ·
                    have h11p := of_decide_eq_false h11
                    refine tb_ok (fun h12 => ?_) (fun h12 => ?_)
                    ·
                      have h12p := of_decide_eq_true h12
                      refine tc_ok (fun s13 h13 => ?_)
                      refine th_ok (fun s14 h14 => ?_)
                      refine tb_ok (fun h15 => ?_) (fun h15 => ?_)
                      ·
                        have h15p := of_decide_eq_true h15
                        exact fun e => nomatch e
                      ·
                        have h15p := of_decide_eq_false h15
                        refine tp_ok (fun h16 => ?_)
                        refine tp_ok (fun h17 => ?_)
                        refine tc_ok (fun s18 h18 => ?_)
                        refine tb_ok (fun h19 => ?_) (fun h19 => ?_)
                        ·
                          have h19p := eq_of_beq h19
                          refine tb_ok (fun h20 => ?_) (fun h20 => ?_)
                          ·
                            have h20p := of_decide_eq_true h20
                            refine tc_ok (fun s21 h21 => ?_)
                            intro e; injection e with e; subst e
                            exact leafR vw_eq (k := 300) (r := []) (hs := hz [(5, [.fc]), (1, [.fres (.i (s0))]), (2, [.no]), (1, [.fc]), (1, [.fres (.b (s2))]), (2, [.no]), (1, [.fc]), (1, [.fres (Sa.av (s4))]), (2, [.fc]), (17, [.no, .no, .no, .no, .no, .no, .no, .yes]), (1, [.fc]), (11, [.fres (exs (s13))]), (4, [.head (sDo_L4_S s c s0 s2 s4 s13 s14)]), (1, [.no]), (12, [.yes, .yes, .yes, .yes, .fres (.tu [exs (s18.1), .i (s18.2)])]), (5, [.yes]), (2, [.yes]), (5, [.fc]), (5, [.no]), (2, [.fc]), (13, [.yes, .yes]), (8, [.yes]), (4, [.fc]), (1, [.fres (Sa.av (s21))]), (2, [.fc]), (2, [.fc, .yes, .yes, .yes, .yes, .yes, .yes])]) (raw := (AV.tu [(AV.ag [(AV.i s21.blocks), (AV.i s21.gen), (exs s21.map), (AV.sl s21.points.length (List.flatMap Po.cells s21.points)), (AV.i s21.last), (bys s21.staged)]), (AV.i 112)])) kq (ac (sCheck_ok (s) _ h0).any0 (ac h1 (ac (cCheck_ok (c) _ h2).any0 (ac h3 (ac (sCopy_ok (s) _ h4) (ac h5 (ac h6 (ac h7 (ac h8 (ac h9 (ac h10 (ac h11 (ac h12 (ac (sExtents_ok (c.list) _ h13) (ac (show EvHead Try.prog cf (lp Try.prog 97 0) (sDo_L4_I s c s0 s2 s4 s13) (sDo_L4_S s c s0 s2 s4 s13 s14) from (EvHead.of (sDo_L4_ok s c s0 s2 s4 s13) (absB_of [] [] kq (.consn kq (.pt rfl) (.consn kq (.eqv tq rfl) (.consn kq (.eqv tq rfl) (.consn kq (.rf rfl) (.consn kq (.eqv tq rfl) (.consn kq (.eqv tq rfl) .nil)))))) (.cons (.old rfl rfl (.cells (.pl tq pq))) (.cons (.old rfl rfl (.cells (.pl rfl pq))) (.cons (.old rfl rfl (.cells (.cons (.eqv tq rfl) (.cons (.eqv tq rfl) (.cons (.rf rfl) (.cons (.rf rfl) (.cons (.eqv tq rfl) (.cons (.rf rfl) .nil)))))))) (.cons (.old rfl rfl (.cells (.pl rfl (by simp)))) (.cons (.old rfl rfl (.cells (.pl rfl (by simp)))) (.cons (.old rfl rfl (.cells (.pl rfl (by simp)))) (.cons (.old rfl rfl (.cells (.cons (.eqv tq rfl) (.cons (.eqv tq rfl) (.cons .nl0 (.cons .nl0 (.cons (.eqv tq rfl) (.cons .nl0 .nil)))))))) (.cons (.old rfl rfl (.cells (.pl rfl pq))) (.cons (.old rfl rfl (.cells (.pl rfl pq))) .nil)))))))))) h14)) (ac h15 (ac h16 (ac (pq (p := Pl Bool.false ((List.flatMap Ex.cells s4.map)))) (ac h17 (ac (pq (p := Pl Bool.false ((List.flatMap Ex.cells s14.2)))) (ac (show EvFr Try.prog cf Bool.false 105 [(AV.i s4.blocks), (exs s4.map), (AV.sl s13.length (List.flatMap Ex.cells s14.2))] (.tu [exs (s18.1), .i (s18.2)]) from ((mLay_ok (s4.blocks) (s4.map) (s14.2) _ h18).cast tq)) (ac (show orderOk (rg Try.prog 97 0) = true ∧ allOk (Region.before (rg Try.prog 97 0)) [] 0 [(some [], some []), (some [], some []), (some [], some []), (some [6], some []), (some [], some []), (some [], some []), (some [], some []), (some [6], some []), (some [], some []), (some [3, 9], some [3, 9]), (some [], some []), (some [], some []), (some [], some []), (some [], some []), (some [], some [])] = true from (ord_of ord_97_0 bef_97_0 kq)) (ac h19 (ac (congrArg not h19) (ac (show orderOk (rg Try.prog 78 0) = true ∧ allOk (Region.before (rg Try.prog 78 0)) [] 0 [(some [], some []), (some [10], some []), (some [], some []), (some [], some []), (some [], some []), (some [6], some []), (some [], some []), (some [], some [])] = true from (ord_of ord_78_0 bef_78_0 kq)) (ac h20 (ac (show orderOk (rg Try.prog 29 0) = true ∧ allOk (Region.before (rg Try.prog 29 0)) [] 0 [(some [], some [7]), (some [], some []), (some [1], some []), (some [7], some []), (some [1], some []), (none, none), (some [], some [])] = true from (ord_of ord_29_0 bef_29_0 kq)) (ac (sCopy_ok (s) _ h21) (ac (fq (p := (((0 : Nat) = (0 : Nat)) ∧ ((List.length (List.flatMap Ex.cells s21.map)) = (s21.map.length * 5))))) (ac (pq (p := Pl Bool.false ((List.flatMap Ex.cells s21.map)))) (ac (fq (p := (((0 : Nat) = (0 : Nat)) ∧ ((List.length (List.flatMap Po.cells s21.points)) = (s21.points.length * 3))))) (ac (pq (p := Pl Bool.false ((List.flatMap Po.cells s21.points)))) (ac (tq (p := (((0 : Nat) = (0 : Nat)) ∧ ((List.length (List.map AV.y s21.staged)) = (s21.staged.length * 1))))) (ac (pq (p := Pl Bool.false ((List.map AV.y s21.staged)))) an)))))))))))))))))))))))))))))))))) tq
                          ·
                            have h20p := of_decide_eq_false h20
                            refine tb_ok (fun h21 => ?_) (fun h21 => ?_)
                            ·
                              have h21p := eq_of_beq h21
                              refine tc_ok (fun s22 h22 => ?_)
                              intro e; injection e with e; subst e
                              exact leafR vw_eq (k := 300) (r := []) (hs := hz [(5, [.fc]), (1, [.fres (.i (s0))]), (2, [.no]), (1, [.fc]), (1, [.fres (.b (s2))]), (2, [.no]), (1, [.fc]), (1, [.fres (Sa.av (s4))]), (2, [.fc]), (17, [.no, .no, .no, .no, .no, .no, .no, .yes]), (1, [.fc]), (11, [.fres (exs (s13))]), (4, [.head (sDo_L4_S s c s0 s2 s4 s13 s14)]), (1, [.no]), (12, [.yes, .yes, .yes, .yes, .fres (.tu [exs (s18.1), .i (s18.2)])]), (5, [.yes]), (2, [.yes]), (5, [.fc]), (5, [.no]), (2, [.fc]), (13, [.yes, .no]), (8, [.yes, .yes, .yes, .yes, .yes, .yes]), (10, [.yes]), (4, [.fc]), (1, [.fres (Sa.av (s22))]), (2, [.fc]), (2, [.fc, .yes, .yes, .yes, .yes, .yes, .yes])]) (raw := (AV.tu [(AV.ag [(AV.i s22.blocks), (AV.i s22.gen), (exs s22.map), (AV.sl s22.points.length (List.flatMap Po.cells s22.points)), (AV.i s22.last), (bys s22.staged)]), (AV.i 113)])) kq (ac (sCheck_ok (s) _ h0).any0 (ac h1 (ac (cCheck_ok (c) _ h2).any0 (ac h3 (ac (sCopy_ok (s) _ h4) (ac h5 (ac h6 (ac h7 (ac h8 (ac h9 (ac h10 (ac h11 (ac h12 (ac (sExtents_ok (c.list) _ h13) (ac (show EvHead Try.prog cf (lp Try.prog 97 0) (sDo_L4_I s c s0 s2 s4 s13) (sDo_L4_S s c s0 s2 s4 s13 s14) from (EvHead.of (sDo_L4_ok s c s0 s2 s4 s13) (absB_of [] [] kq (.consn kq (.pt rfl) (.consn kq (.eqv tq rfl) (.consn kq (.eqv tq rfl) (.consn kq (.rf rfl) (.consn kq (.eqv tq rfl) (.consn kq (.eqv tq rfl) .nil)))))) (.cons (.old rfl rfl (.cells (.pl tq pq))) (.cons (.old rfl rfl (.cells (.pl rfl pq))) (.cons (.old rfl rfl (.cells (.cons (.eqv tq rfl) (.cons (.eqv tq rfl) (.cons (.rf rfl) (.cons (.rf rfl) (.cons (.eqv tq rfl) (.cons (.rf rfl) .nil)))))))) (.cons (.old rfl rfl (.cells (.pl rfl (by simp)))) (.cons (.old rfl rfl (.cells (.pl rfl (by simp)))) (.cons (.old rfl rfl (.cells (.pl rfl (by simp)))) (.cons (.old rfl rfl (.cells (.cons (.eqv tq rfl) (.cons (.eqv tq rfl) (.cons .nl0 (.cons .nl0 (.cons (.eqv tq rfl) (.cons .nl0 .nil)))))))) (.cons (.old rfl rfl (.cells (.pl rfl pq))) (.cons (.old rfl rfl (.cells (.pl rfl pq))) .nil)))))))))) h14)) (ac h15 (ac h16 (ac (pq (p := Pl Bool.false ((List.flatMap Ex.cells s4.map)))) (ac h17 (ac (pq (p := Pl Bool.false ((List.flatMap Ex.cells s14.2)))) (ac (show EvFr Try.prog cf Bool.false 105 [(AV.i s4.blocks), (exs s4.map), (AV.sl s13.length (List.flatMap Ex.cells s14.2))] (.tu [exs (s18.1), .i (s18.2)]) from ((mLay_ok (s4.blocks) (s4.map) (s14.2) _ h18).cast tq)) (ac (show orderOk (rg Try.prog 97 0) = true ∧ allOk (Region.before (rg Try.prog 97 0)) [] 0 [(some [], some []), (some [], some []), (some [], some []), (some [6], some []), (some [], some []), (some [], some []), (some [], some []), (some [6], some []), (some [], some []), (some [3, 9], some [3, 9]), (some [], some []), (some [], some []), (some [], some []), (some [], some []), (some [], some [])] = true from (ord_of ord_97_0 bef_97_0 kq)) (ac h19 (ac (congrArg not h19) (ac (show orderOk (rg Try.prog 78 0) = true ∧ allOk (Region.before (rg Try.prog 78 0)) [] 0 [(some [], some []), (some [10], some []), (some [], some []), (some [], some []), (some [], some []), (some [6], some []), (some [], some []), (some [], some [])] = true from (ord_of ord_78_0 bef_78_0 kq)) (ac h20 (ac h21 (ac h21 (ac h21 (ac h21 (ac h21 (ac h21 (ac (show orderOk (rg Try.prog 29 0) = true ∧ allOk (Region.before (rg Try.prog 29 0)) [] 0 [(some [], some [7]), (some [], some []), (some [1], some []), (some [7], some []), (some [1], some []), (none, none), (some [], some [])] = true from (ord_of ord_29_0 bef_29_0 kq)) (ac (sCopy_ok (s) _ h22) (ac (fq (p := (((0 : Nat) = (0 : Nat)) ∧ ((List.length (List.flatMap Ex.cells s22.map)) = (s22.map.length * 5))))) (ac (pq (p := Pl Bool.false ((List.flatMap Ex.cells s22.map)))) (ac (fq (p := (((0 : Nat) = (0 : Nat)) ∧ ((List.length (List.flatMap Po.cells s22.points)) = (s22.points.length * 3))))) (ac (pq (p := Pl Bool.false ((List.flatMap Po.cells s22.points)))) (ac (tq (p := (((0 : Nat) = (0 : Nat)) ∧ ((List.length (List.map AV.y s22.staged)) = (s22.staged.length * 1))))) (ac (pq (p := Pl Bool.false ((List.map AV.y s22.staged)))) an)))))))))))))))))))))))))))))))))))))))) tq
                            ·
                              have h21p := ne_of_beq_false h21
                              refine tb_ok (fun h22 => ?_) (fun h22 => ?_)
                              ·
                                have h22p := eq_of_beq h22
                                refine tc_ok (fun s23 h23 => ?_)
                                intro e; injection e with e; subst e
                                exact leafR vw_eq (k := 300) (r := []) (hs := hz [(5, [.fc]), (1, [.fres (.i (s0))]), (2, [.no]), (1, [.fc]), (1, [.fres (.b (s2))]), (2, [.no]), (1, [.fc]), (1, [.fres (Sa.av (s4))]), (2, [.fc]), (17, [.no, .no, .no, .no, .no, .no, .no, .yes]), (1, [.fc]), (11, [.fres (exs (s13))]), (4, [.head (sDo_L4_S s c s0 s2 s4 s13 s14)]), (1, [.no]), (12, [.yes, .yes, .yes, .yes, .fres (.tu [exs (s18.1), .i (s18.2)])]), (5, [.yes]), (2, [.yes]), (5, [.fc]), (5, [.no]), (2, [.fc]), (13, [.yes, .no]), (8, [.no]), (1, [.no]), (1, [.no]), (1, [.no]), (2, [.no]), (1, [.no]), (1, [.yes]), (8, [.yes]), (4, [.fc]), (1, [.fres (Sa.av (s23))]), (2, [.fc]), (2, [.fc, .yes, .yes, .yes, .yes, .yes, .yes])]) (raw := (AV.tu [(AV.ag [(AV.i s23.blocks), (AV.i s23.gen), (exs s23.map), (AV.sl s23.points.length (List.flatMap Po.cells s23.points)), (AV.i s23.last), (bys s23.staged)]), (AV.i 113)])) kq (ac (sCheck_ok (s) _ h0).any0 (ac h1 (ac (cCheck_ok (c) _ h2).any0 (ac h3 (ac (sCopy_ok (s) _ h4) (ac h5 (ac h6 (ac h7 (ac h8 (ac h9 (ac h10 (ac h11 (ac h12 (ac (sExtents_ok (c.list) _ h13) (ac (show EvHead Try.prog cf (lp Try.prog 97 0) (sDo_L4_I s c s0 s2 s4 s13) (sDo_L4_S s c s0 s2 s4 s13 s14) from (EvHead.of (sDo_L4_ok s c s0 s2 s4 s13) (absB_of [] [] kq (.consn kq (.pt rfl) (.consn kq (.eqv tq rfl) (.consn kq (.eqv tq rfl) (.consn kq (.rf rfl) (.consn kq (.eqv tq rfl) (.consn kq (.eqv tq rfl) .nil)))))) (.cons (.old rfl rfl (.cells (.pl tq pq))) (.cons (.old rfl rfl (.cells (.pl rfl pq))) (.cons (.old rfl rfl (.cells (.cons (.eqv tq rfl) (.cons (.eqv tq rfl) (.cons (.rf rfl) (.cons (.rf rfl) (.cons (.eqv tq rfl) (.cons (.rf rfl) .nil)))))))) (.cons (.old rfl rfl (.cells (.pl rfl (by simp)))) (.cons (.old rfl rfl (.cells (.pl rfl (by simp)))) (.cons (.old rfl rfl (.cells (.pl rfl (by simp)))) (.cons (.old rfl rfl (.cells (.cons (.eqv tq rfl) (.cons (.eqv tq rfl) (.cons .nl0 (.cons .nl0 (.cons (.eqv tq rfl) (.cons .nl0 .nil)))))))) (.cons (.old rfl rfl (.cells (.pl rfl pq))) (.cons (.old rfl rfl (.cells (.pl rfl pq))) .nil)))))))))) h14)) (ac h15 (ac h16 (ac (pq (p := Pl Bool.false ((List.flatMap Ex.cells s4.map)))) (ac h17 (ac (pq (p := Pl Bool.false ((List.flatMap Ex.cells s14.2)))) (ac (show EvFr Try.prog cf Bool.false 105 [(AV.i s4.blocks), (exs s4.map), (AV.sl s13.length (List.flatMap Ex.cells s14.2))] (.tu [exs (s18.1), .i (s18.2)]) from ((mLay_ok (s4.blocks) (s4.map) (s14.2) _ h18).cast tq)) (ac (show orderOk (rg Try.prog 97 0) = true ∧ allOk (Region.before (rg Try.prog 97 0)) [] 0 [(some [], some []), (some [], some []), (some [], some []), (some [6], some []), (some [], some []), (some [], some []), (some [], some []), (some [6], some []), (some [], some []), (some [3, 9], some [3, 9]), (some [], some []), (some [], some []), (some [], some []), (some [], some []), (some [], some [])] = true from (ord_of ord_97_0 bef_97_0 kq)) (ac h19 (ac (congrArg not h19) (ac (show orderOk (rg Try.prog 78 0) = true ∧ allOk (Region.before (rg Try.prog 78 0)) [] 0 [(some [], some []), (some [10], some []), (some [], some []), (some [], some []), (some [], some []), (some [6], some []), (some [], some []), (some [], some [])] = true from (ord_of ord_78_0 bef_78_0 kq)) (ac h20 (ac h21 (ac h21 (ac h21 (ac h21 (ac h21 (ac h21 (ac h22 (ac (show orderOk (rg Try.prog 29 0) = true ∧ allOk (Region.before (rg Try.prog 29 0)) [] 0 [(some [], some [7]), (some [], some []), (some [1], some []), (some [7], some []), (some [1], some []), (none, none), (some [], some [])] = true from (ord_of ord_29_0 bef_29_0 kq)) (ac (sCopy_ok (s) _ h23) (ac (fq (p := (((0 : Nat) = (0 : Nat)) ∧ ((List.length (List.flatMap Ex.cells s23.map)) = (s23.map.length * 5))))) (ac (pq (p := Pl Bool.false ((List.flatMap Ex.cells s23.map)))) (ac (fq (p := (((0 : Nat) = (0 : Nat)) ∧ ((List.length (List.flatMap Po.cells s23.points)) = (s23.points.length * 3))))) (ac (pq (p := Pl Bool.false ((List.flatMap Po.cells s23.points)))) (ac (tq (p := (((0 : Nat) = (0 : Nat)) ∧ ((List.length (List.map AV.y s23.staged)) = (s23.staged.length * 1))))) (ac (pq (p := Pl Bool.false ((List.map AV.y s23.staged)))) an))))))))))))))))))))))))))))))))))))))))) tq
                              ·
                                have h22p := ne_of_beq_false h22
                                refine tc_ok (fun s23 h23 => ?_)
                                refine tp_ok (fun h24 => ?_)
                                refine tp_ok (fun h25 => ?_)
                                intro e; injection e with e; subst e
                                exact leafR vw_eq (k := 300) (r := []) (hs := hz [(5, [.fc]), (1, [.fres (.i (s0))]), (2, [.no]), (1, [.fc]), (1, [.fres (.b (s2))]), (2, [.no]), (1, [.fc]), (1, [.fres (Sa.av (s4))]), (2, [.fc]), (17, [.no, .no, .no, .no, .no, .no, .no, .yes]), (1, [.fc]), (11, [.fres (exs (s13))]), (4, [.head (sDo_L4_S s c s0 s2 s4 s13 s14)]), (1, [.no]), (12, [.yes, .yes, .yes, .yes, .fres (.tu [exs (s18.1), .i (s18.2)])]), (5, [.yes]), (2, [.yes]), (5, [.fc]), (5, [.no]), (2, [.fc]), (13, [.yes, .no]), (8, [.no]), (1, [.no]), (1, [.no]), (1, [.no]), (2, [.no]), (1, [.no]), (1, [.no]), (20, [.fres (exs (s23))]), (2, [.fc, .fc, .yes, .yes]), (3, [.fc, .yes]), (7, [.fc]), (9, [.fc]), (7, [.fc]), (7, [.fc]), (3, [.yes]), (4, [.fc]), (1, [.fc]), (2, [.fc, .yes, .cellsb ((List.flatMap Po.cells s4.points) ++ [(AV.i c.id), (AV.i s4.gen), (AV.sl s23.length (List.take (s23.length * 5) (List.flatMap Ex.cells s23)))]) [11]])]) (raw := (AV.tu [(AV.ag [(AV.i s4.blocks), (AV.i (wr (s4.gen + (1 : Int)))), (exs s18.1), (AV.sl (s4.points.length + (1 : Nat)) ((List.flatMap Po.cells s4.points) ++ [(AV.i c.id), (AV.i s4.gen), (AV.sl s23.length (List.take (s23.length * 5) (List.flatMap Ex.cells s23)))])), (AV.i c.id), (AV.sl 0 ([] : List AV))]), (AV.i 0)])) kq (ac (sCheck_ok (s) _ h0).any0 (ac h1 (ac (cCheck_ok (c) _ h2).any0 (ac h3 (ac (sCopy_ok (s) _ h4) (ac h5 (ac h6 (ac h7 (ac h8 (ac h9 (ac h10 (ac h11 (ac h12 (ac (sExtents_ok (c.list) _ h13) (ac (show EvHead Try.prog cf (lp Try.prog 97 0) (sDo_L4_I s c s0 s2 s4 s13) (sDo_L4_S s c s0 s2 s4 s13 s14) from (EvHead.of (sDo_L4_ok s c s0 s2 s4 s13) (absB_of [] [] kq (.consn kq (.pt rfl) (.consn kq (.eqv tq rfl) (.consn kq (.eqv tq rfl) (.consn kq (.rf rfl) (.consn kq (.eqv tq rfl) (.consn kq (.eqv tq rfl) .nil)))))) (.cons (.old rfl rfl (.cells (.pl tq pq))) (.cons (.old rfl rfl (.cells (.pl rfl pq))) (.cons (.old rfl rfl (.cells (.cons (.eqv tq rfl) (.cons (.eqv tq rfl) (.cons (.rf rfl) (.cons (.rf rfl) (.cons (.eqv tq rfl) (.cons (.rf rfl) .nil)))))))) (.cons (.old rfl rfl (.cells (.pl rfl (by simp)))) (.cons (.old rfl rfl (.cells (.pl rfl (by simp)))) (.cons (.old rfl rfl (.cells (.pl rfl (by simp)))) (.cons (.old rfl rfl (.cells (.cons (.eqv tq rfl) (.cons (.eqv tq rfl) (.cons .nl0 (.cons .nl0 (.cons (.eqv tq rfl) (.cons .nl0 .nil)))))))) (.cons (.old rfl rfl (.cells (.pl rfl pq))) (.cons (.old rfl rfl (.cells (.pl rfl pq))) .nil)))))))))) h14)) (ac h15 (ac h16 (ac (pq (p := Pl Bool.false ((List.flatMap Ex.cells s4.map)))) (ac h17 (ac (pq (p := Pl Bool.false ((List.flatMap Ex.cells s14.2)))) (ac (show EvFr Try.prog cf Bool.false 105 [(AV.i s4.blocks), (exs s4.map), (AV.sl s13.length (List.flatMap Ex.cells s14.2))] (.tu [exs (s18.1), .i (s18.2)]) from ((mLay_ok (s4.blocks) (s4.map) (s14.2) _ h18).cast tq)) (ac (show orderOk (rg Try.prog 97 0) = true ∧ allOk (Region.before (rg Try.prog 97 0)) [] 0 [(some [], some []), (some [], some []), (some [], some []), (some [6], some []), (some [], some []), (some [], some []), (some [], some []), (some [6], some []), (some [], some []), (some [3, 9], some [3, 9]), (some [], some []), (some [], some []), (some [], some []), (some [], some []), (some [], some [])] = true from (ord_of ord_97_0 bef_97_0 kq)) (ac h19 (ac (congrArg not h19) (ac (show orderOk (rg Try.prog 78 0) = true ∧ allOk (Region.before (rg Try.prog 78 0)) [] 0 [(some [], some []), (some [10], some []), (some [], some []), (some [], some []), (some [], some []), (some [6], some []), (some [], some []), (some [], some [])] = true from (ord_of ord_78_0 bef_78_0 kq)) (ac h20 (ac h21 (ac h21 (ac h21 (ac h21 (ac h21 (ac h21 (ac h22 (ac (sExtents_ok (s18.1) _ h23) (ac (tq (p := (((0 : Nat) = (0 : Nat)) ∧ ((List.length [(AV.i c.id), (AV.i s4.gen), (AV.rf 11 5 0 s23.length)]) = (3 : Nat))))) (ac h24 (ac (show orderOk (rg Try.prog 78 1) = true ∧ allOk (Region.before (rg Try.prog 78 1)) [] 0 [(some [], some []), (some [], some []), (some [], some []), (some [], some []), (some [6], some []), (some [], some []), (some [10], some []), (some [], some []), (some [], some []), (some [], some []), (some [6], some []), (some [], some []), (some [], some []), (some [], some []), (some [6], some []), (some [], some [11]), (some [], some []), (some [], some [12]), (some [4, 12], some [4, 13]), (some [], some []), (some [], some []), (some [6], some [6])] = true from (ord_of ord_78_1 bef_78_1 kq)) (ac (show orderOk (rg Try.prog 29 0) = true ∧ allOk (Region.before (rg Try.prog 29 0)) [] 0 [(some [], some [7]), (some [], some []), (some [1], some []), (some [7], some []), (some [1], some []), (none, none), (some [], some [])] = true from (ord_of ord_29_0 bef_29_0 kq)) (ac h25 (ac (show mapP (purV (AH.mk 15 [(14, (AObj.cells [(AV.i c.kind), (AV.i c.lba), (AV.i c.n), (AV.i c.id), (bys c.d), (exs c.list)])), (13, (AObj.cells ((List.flatMap Po.cells s4.points) ++ [(AV.i c.id), (AV.i s4.gen), (AV.rf 11 5 0 s23.length)]))), (12, (AObj.cells [(AV.i c.id), (AV.i s4.gen), (AV.rf 11 5 0 s23.length)])), (11, (AObj.cells (List.flatMap Ex.cells s23))), (10, (AObj.cells [(AV.i c.kind), (AV.i c.lba), (AV.i c.n), (AV.i c.id), (bys c.d), (exs c.list)])), (9, (AObj.ro (List.flatMap Ex.cells s14.2))), (8, (AObj.cells [(AV.i c.kind), (AV.i c.lba), (AV.i c.n), (AV.i c.id), (bys c.d), (exs c.list)])), (6, (AObj.cells [(AV.i s4.blocks), (AV.i (wr (s4.gen + (1 : Int)))), (exs s18.1), (AV.rf 13 3 0 (s4.points.length + (1 : Nat))), (AV.i c.id), AV.nl])), (5, (AObj.cells (List.map AV.y s4.staged))), (4, AObj.dead), (3, (AObj.ro (List.flatMap Ex.cells s4.map))), (2, (AObj.cells [(AV.i s4.blocks), (AV.i (wr (s4.gen + (1 : Int)))), (exs s18.1), (AV.rf 13 3 0 (s4.points.length + (1 : Nat))), (AV.i c.id), AV.nl])), (1, (AObj.cells [(AV.i c.kind), (AV.i c.lba), (AV.i c.n), (AV.i c.id), (bys c.d), (exs c.list)])), (0, (AObj.cells [(AV.i s.blocks), (AV.i s.gen), (exs s.map), (AV.sl s.points.length (List.flatMap Po.cells s.points)), (AV.i s.last), (bys s.staged)]))]) Bool.false 9) ((List.flatMap Po.cells s4.points) ++ [(AV.i c.id), (AV.i s4.gen), (AV.rf 11 5 0 s23.length)]) = some (((List.flatMap Po.cells s4.points) ++ [(AV.i c.id), (AV.i s4.gen), (AV.sl s23.length (List.take (s23.length * 5) (List.flatMap Ex.cells s23)))]), [11]) from (mapP_appB (x := []) (y := [11]) (pur_plain _ _ _ _ pq) (mapP_consB (x := []) (y := [11]) (purV_plain rfl) (mapP_consB (x := []) (y := [11]) (purV_plain rfl) (mapP_consB (x := [11]) (y := []) (purV_rfB (cs := (List.flatMap Ex.cells s23)) rfl tq pq) rfl))))) an)))))))))))))))))))))))))))))))))))))))) tq
                        ·
                          have h19p := ne_of_beq_false h19
                          refine tc_ok (fun s20 h20 => ?_)
                          intro e; injection e with e; subst e
                          exact leafR vw_eq (k := 300) (r := []) (hs := hz [(5, [.fc]), (1, [.fres (.i (s0))]), (2, [.no]), (1, [.fc]), (1, [.fres (.b (s2))]), (2, [.no]), (1, [.fc]), (1, [.fres (Sa.av (s4))]), (2, [.fc]), (17, [.no, .no, .no, .no, .no, .no, .no, .yes]), (1, [.fc]), (11, [.fres (exs (s13))]), (4, [.head (sDo_L4_S s c s0 s2 s4 s13 s14)]), (1, [.no]), (12, [.yes, .yes, .yes, .yes, .fres (.tu [exs (s18.1), .i (s18.2)])]), (5, [.yes]), (2, [.no]), (5, [.yes]), (3, [.yes]), (2, [.yes]), (1, [.fc]), (1, [.fres (Sa.av (s20))]), (2, [.fc]), (2, [.fc, .yes, .yes, .yes, .yes, .yes, .yes])]) (raw := (AV.tu [(AV.ag [(AV.i s20.blocks), (AV.i s20.gen), (exs s20.map), (AV.sl s20.points.length (List.flatMap Po.cells s20.points)), (AV.i s20.last), (bys s20.staged)]), (AV.i s18.2)])) kq (ac (sCheck_ok (s) _ h0).any0 (ac h1 (ac (cCheck_ok (c) _ h2).any0 (ac h3 (ac (sCopy_ok (s) _ h4) (ac h5 (ac h6 (ac h7 (ac h8 (ac h9 (ac h10 (ac h11 (ac h12 (ac (sExtents_ok (c.list) _ h13) (ac (show EvHead Try.prog cf (lp Try.prog 97 0) (sDo_L4_I s c s0 s2 s4 s13) (sDo_L4_S s c s0 s2 s4 s13 s14) from (EvHead.of (sDo_L4_ok s c s0 s2 s4 s13) (absB_of [] [] kq (.consn kq (.pt rfl) (.consn kq (.eqv tq rfl) (.consn kq (.eqv tq rfl) (.consn kq (.rf rfl) (.consn kq (.eqv tq rfl) (.consn kq (.eqv tq rfl) .nil)))))) (.cons (.old rfl rfl (.cells (.pl tq pq))) (.cons (.old rfl rfl (.cells (.pl rfl pq))) (.cons (.old rfl rfl (.cells (.cons (.eqv tq rfl) (.cons (.eqv tq rfl) (.cons (.rf rfl) (.cons (.rf rfl) (.cons (.eqv tq rfl) (.cons (.rf rfl) .nil)))))))) (.cons (.old rfl rfl (.cells (.pl rfl (by simp)))) (.cons (.old rfl rfl (.cells (.pl rfl (by simp)))) (.cons (.old rfl rfl (.cells (.pl rfl (by simp)))) (.cons (.old rfl rfl (.cells (.cons (.eqv tq rfl) (.cons (.eqv tq rfl) (.cons .nl0 (.cons .nl0 (.cons (.eqv tq rfl) (.cons .nl0 .nil)))))))) (.cons (.old rfl rfl (.cells (.pl rfl pq))) (.cons (.old rfl rfl (.cells (.pl rfl pq))) .nil)))))))))) h14)) (ac h15 (ac h16 (ac (pq (p := Pl Bool.false ((List.flatMap Ex.cells s4.map)))) (ac h17 (ac (pq (p := Pl Bool.false ((List.flatMap Ex.cells s14.2)))) (ac (show EvFr Try.prog cf Bool.false 105 [(AV.i s4.blocks), (exs s4.map), (AV.sl s13.length (List.flatMap Ex.cells s14.2))] (.tu [exs (s18.1), .i (s18.2)]) from ((mLay_ok (s4.blocks) (s4.map) (s14.2) _ h18).cast tq)) (ac (show orderOk (rg Try.prog 97 0) = true ∧ allOk (Region.before (rg Try.prog 97 0)) [] 0 [(some [], some []), (some [], some []), (some [], some []), (some [6], some []), (some [], some []), (some [], some []), (some [], some []), (some [6], some []), (some [], some []), (some [3, 9], some [3, 9]), (some [], some []), (some [], some []), (some [], some []), (some [], some []), (some [], some [])] = true from (ord_of ord_97_0 bef_97_0 kq)) (ac h19 (ac (congrArg not h19) (ac (show orderOk (rg Try.prog 29 0) = true ∧ allOk (Region.before (rg Try.prog 29 0)) [] 0 [(some [], some [7]), (some [], some []), (some [1], some []), (some [7], some []), (some [1], some []), (none, none), (some [], some [])] = true from (ord_of ord_29_0 bef_29_0 kq)) (ac (congrArg not h19) (ac (sCopy_ok (s) _ h20) (ac (fq (p := (((0 : Nat) = (0 : Nat)) ∧ ((List.length (List.flatMap Ex.cells s20.map)) = (s20.map.length * 5))))) (ac (pq (p := Pl Bool.false ((List.flatMap Ex.cells s20.map)))) (ac (fq (p := (((0 : Nat) = (0 : Nat)) ∧ ((List.length (List.flatMap Po.cells s20.points)) = (s20.points.length * 3))))) (ac (pq (p := Pl Bool.false ((List.flatMap Po.cells s20.points)))) (ac (tq (p := (((0 : Nat) = (0 : Nat)) ∧ ((List.length (List.map AV.y s20.staged)) = (s20.staged.length * 1))))) (ac (pq (p := Pl Bool.false ((List.map AV.y s20.staged)))) an))))))))))))))))))))))))))))))))) tq
                    ·
                      have h12p := of_decide_eq_false h12
                      exact fun e => nomatch e
end Ab
end Go.Proofs.Ytimcbhhebnikiaa
namespace Go.Proofs.Ytimcbhhebnikiaa
open Go Go.Proofs.Ytimcbhhebnikiaa.Ab
set_option linter.unusedVariables false
set_option linter.unusedSimpArgs false
namespace Ab
/-- Some of a block's bytes, the others 0. -/
def part (d : List UInt8) (k : Nat) : List UInt8 := (pad 32 d).take k ++ List.replicate (32 - k) 0
end Ab
end Go.Proofs.Ytimcbhhebnikiaa
namespace Go.Proofs.Ytimcbhhebnikiaa
open Go Go.Proofs.Ytimcbhhebnikiaa.Ab
set_option linter.unusedVariables false
set_option linter.unusedSimpArgs false
namespace Ab
/-- A block at first. -/
def c0 : Ce := ⟨0, 0, List.replicate 32 0⟩
end Ab
end Go.Proofs.Ytimcbhhebnikiaa
namespace Go.Proofs.Ytimcbhhebnikiaa
open Go Go.Proofs.Ytimcbhhebnikiaa.Ab
set_option linter.unusedVariables false
set_option linter.unusedSimpArgs false
namespace Ab
/-- Do two extents tell the same of the blocks that both tell? -/
def Ag (x y : Ex) : Prop := ∀ k, x.lba ≤ k → k < x.lba + x.len → y.lba ≤ k → k < y.lba + y.len → bAt x k = bAt y k
def Kp (was l : List Ex) (gen : Int) : Prop := ∀ x ∈ l, x.gen ≤ gen → ∀ y ∈ was, Ag x y
open Classical in
noncomputable def kp (was l : List Ex) (gen : Int) : Bool := decide (Kp was l gen)
open Classical in
theorem kp_t {was l : List Ex} {gen : Int} (h : Kp was l gen) : kp was l gen = true := by unfold kp; exact decide_eq_true h
open Classical in
theorem kp_f {was l : List Ex} {gen : Int} (h : ¬ Kp was l gen) : kp was l gen = false := by unfold kp; exact decide_eq_false h
theorem cu_in {x y : Ex} (hx : Ck x) (h : Cu y x.lba x.len) : Cu x (cu y x.lba x.len).lba (cu y x.lba x.len).len := by
  have px := ck_pos hx
  have py := ck_pos h.1
  have h6 := h.2.2.2.2.2
  refine ⟨hx, ?_, ?_, ?_, ?_, ?_⟩ <;> simp only [cu] <;> omega
theorem ag_iff {x y : Ex} (hx : Ck x) (h : Cu y x.lba x.len) : ((cu x (cu y x.lba x.len).lba (cu y x.lba x.len).len).kind = (cu y x.lba x.len).kind ∧ (cu x (cu y x.lba x.len).lba (cu y x.lba x.len).len).gen = (cu y x.lba x.len).gen ∧ (cu x (cu y x.lba x.len).lba (cu y x.lba x.len).len).d = (cu y x.lba x.len).d) ↔ Ag x y := by
  have hw := cu_in hx h
  have px := ck_pos hx
  have py := ck_pos h.1
  have h6 := h.2.2.2.2.2
  have zl : (cu y x.lba x.len).lba = max y.lba x.lba := rfl
  have zn : (cu y x.lba x.len).len = min (y.lba + y.len) (x.lba + x.len) - max y.lba x.lba := rfl
  have cz := cu_ck h
  have bz : ∀ k, max y.lba x.lba ≤ k → k < min (y.lba + y.len) (x.lba + x.len) → bAt (cu y x.lba x.len) k = bAt y k := fun k a b => bAt_cu h.1 a b
  generalize cu y x.lba x.len = z at hw zl zn cz bz ⊢
  have wl : (cu x z.lba z.len).lba = max x.lba z.lba := rfl
  have wn : (cu x z.lba z.len).len = min (x.lba + x.len) (z.lba + z.len) - max x.lba z.lba := rfl
  have cw := cu_ck hw
  have bw : ∀ k, max x.lba z.lba ≤ k → k < min (x.lba + x.len) (z.lba + z.len) → bAt (cu x z.lba z.len) k = bAt x k := fun k a b => bAt_cu hx a b
  generalize cu x z.lba z.len = w at wl wn cw bw ⊢
  constructor
  · rintro ⟨e1, e2, e3⟩ k a b c d
    have e : w = z := by
      obtain ⟨w1, w2, w3, w4, w5⟩ := w
      obtain ⟨z1, z2, z3, z4, z5⟩ := z
      simp only at e1 e2 e3 wl wn zl zn
      subst e1; subst e2; subst e3
      congr 1 <;> omega
    rw [← bw k (by omega) (by omega), ← bz k (by omega) (by omega), e]
  · intro g
    have e : w = z := by
      refine d_ext cw cz (by omega) (by omega) fun k a b => ?_
      rw [bw k (by omega) (by omega), bz k (by omega) (by omega)]
      exact g k (by omega) (by omega) (by omega) (by omega)
    rw [e]; exact ⟨rfl, rfl, rfl⟩
theorem ag_no {x y : Ex} (hx : Ck x) (hy : Ck y) (h : ¬ Cu y x.lba x.len) : Ag x y := by
  intro k a b c d
  have px := ck_pos hx
  have py := ck_pos hy
  exact absurd ⟨hy, by omega, by omega, by omega, by omega, by omega⟩ h
open Classical in
theorem kept_key {α : Type} {x y : Ex} (hx : Ck x) (hy : Ck y) (F N G : Option α) :
    tc (eCut y x.lba x.len) (fun s7 => tb (!s7.2) N (tc (eCut x s7.1.lba s7.1.len) fun s9 => tb (s9.1.kind != s7.1.kind) F (tb (s9.1.gen != s7.1.gen) F (tb (!(s9.1.d == s7.1.d)) F G))))
      = if Ag x y then (if Cu y x.lba x.len then G else N) else F := by
  rw [eCut_eq, tc_some]
  by_cases h : Cu y x.lba x.len
  case neg =>
    rw [cutv_neg h, if_pos (ag_no hx hy h), if_neg h]
    simp only [Bool.not_false, tb_t]
  rw [cutv_pos h]
  simp only [Bool.not_true, tb_f]
  rw [eCut_eq, tc_some, cutv_pos (cu_in hx h), if_pos h]
  simp only [tb_bne, tb_not]
  have hi := ag_iff hx h
  by_cases g : Ag x y
  · obtain ⟨e1, e2, e3⟩ := hi.2 g
    rw [if_pos e1, if_pos e2, e3, if_pos g]; simp [tb_t]
  · rw [if_neg g]
    by_cases e1 : (cu x (cu y x.lba x.len).lba (cu y x.lba x.len).len).kind = (cu y x.lba x.len).kind
    case neg => rw [if_neg e1]
    rw [if_pos e1]
    by_cases e2 : (cu x (cu y x.lba x.len).lba (cu y x.lba x.len).len).gen = (cu y x.lba x.len).gen
    case neg => rw [if_neg e2]
    rw [if_pos e2]
    by_cases e3 : (cu x (cu y x.lba x.len).lba (cu y x.lba x.len).len).d = (cu y x.lba x.len).d
    · exact absurd (hi.1 ⟨e1, e2, e3⟩) g
    · rw [tb_neg (by simpa using e3)]
open Classical in
theorem sKept_eq (was l : List Ex) (gen : Int) (hw : ∀ x ∈ was, Ck x) (hl : ∀ x ∈ l, Ck x) (nw : was.length ≤ 9223372036854775807) (nl : l.length ≤ 9223372036854775807) : sKept was l gen = some (kp was l gen) := by
  have hw' := (exAt_all was Ck).2 hw
  have hl' := (exAt_all l Ck).2 hl
  unfold sKept
  rw [th_all (some false) (some true) l.length (fun i => (exAt l i).gen ≤ gen → ∀ y ∈ was, Ag (exAt l i) y) (Kp was l gen) (exAt_all l fun x => x.gen ≤ gen → ∀ y ∈ was, Ag x y)]
  · by_cases h : Kp was l gen
    · rw [if_pos h, kp_t h]
    · rw [if_neg h, kp_f h]
  · intro i hi hp
    unfold sKept_L0_step
    simp only [tb_dec, Int.toNat_natCast]
    rw [if_pos (by omega), tp_pos (by omega), wr_id (x := (i : Int) + 1) (by omega) (by omega)]
    by_cases hg : (exAt l i).gen > gen
    · rw [if_pos hg]
    rw [if_neg hg]
    rw [th_all none (some ((i : Int) + 1)) was.length (fun j => Ag (exAt l i) (exAt was j)) (∀ y ∈ was, Ag (exAt l i) y) (exAt_all was fun y => Ag (exAt l i) y)]
    · rw [if_pos (hp (by omega))]
    · intro j hj hq
      unfold sKept_L1_step
      simp only [tb_dec, Int.toNat_natCast]
      rw [if_pos (by omega), tp_pos (by omega), wr_id (x := (j : Int) + 1) (by omega) (by omega), kept_key (hl' i hi) (hw' j hj), if_pos hq]
      split <;> rfl
    · intro j hj hq
      unfold sKept_L1_step
      simp only [tb_dec, Int.toNat_natCast]
      rw [if_pos (by omega), tp_pos (by omega), wr_id (x := (j : Int) + 1) (by omega) (by omega), kept_key (hl' i hi) (hw' j hj), if_neg hq, if_pos (by omega)]
      exact ⟨rfl, rfl⟩
    · unfold sKept_L1_step
      simp only [tb_dec]
      rw [if_neg (by omega), if_neg (by omega)]
      exact ⟨rfl, rfl⟩
  · intro i hi hp
    have hg : ¬ (exAt l i).gen > gen := fun g => hp fun g2 => by omega
    have hn : ¬ ∀ y ∈ was, Ag (exAt l i) y := fun g => hp fun _ => g
    constructor
    · unfold sKept_L0_step
      simp only [tb_dec, Int.toNat_natCast]
      rw [if_pos (by omega), tp_pos (by omega), if_neg hg]
      rw [th_all none (some (wr ((i : Int) + 1))) was.length (fun j => Ag (exAt l i) (exAt was j)) (∀ y ∈ was, Ag (exAt l i) y) (exAt_all was fun y => Ag (exAt l i) y)]
      · rw [if_neg hn]
      · intro j hj hq
        unfold sKept_L1_step
        simp only [tb_dec, Int.toNat_natCast]
        rw [if_pos (by omega), tp_pos (by omega), wr_id (x := (j : Int) + 1) (by omega) (by omega), kept_key (hl' i hi) (hw' j hj), if_pos hq]
        split <;> rfl
      · intro j hj hq
        unfold sKept_L1_step
        simp only [tb_dec, Int.toNat_natCast]
        rw [if_pos (by omega), tp_pos (by omega), wr_id (x := (j : Int) + 1) (by omega) (by omega), kept_key (hl' i hi) (hw' j hj), if_neg hq, if_pos (by omega)]
        exact ⟨rfl, rfl⟩
      · unfold sKept_L1_step
        simp only [tb_dec]
        rw [if_neg (by omega), if_neg (by omega)]
        exact ⟨rfl, rfl⟩
    · simp only [tb_dec, Int.toNat_natCast]
      rw [if_pos (by omega), tp_pos (by omega), if_neg hg]
      rw [th_all (some false) none was.length (fun j => Ag (exAt l i) (exAt was j)) (∀ y ∈ was, Ag (exAt l i) y) (exAt_all was fun y => Ag (exAt l i) y)]
      · rw [if_neg hn]
      · intro j hj hq
        unfold sKept_L2_step
        simp only [tb_dec, Int.toNat_natCast]
        rw [if_pos (by omega), tp_pos (by omega), wr_id (x := (j : Int) + 1) (by omega) (by omega), kept_key (hl' i hi) (hw' j hj), if_pos hq]
        split <;> rfl
      · intro j hj hq
        constructor
        · unfold sKept_L2_step
          simp only [tb_dec, Int.toNat_natCast]
          rw [if_pos (by omega), tp_pos (by omega), wr_id (x := (j : Int) + 1) (by omega) (by omega), kept_key (hl' i hi) (hw' j hj), if_neg hq]
        · simp only [Int.toNat_natCast]
          rw [if_pos (by omega), tp_pos (by omega), kept_key (hl' i hi) (hw' j hj), if_neg hq]
      · unfold sKept_L2_step
        simp only [tb_dec]
        rw [if_neg (by omega), if_neg (by omega)]
        exact ⟨rfl, rfl⟩
  · unfold sKept_L0_step
    simp only [tb_dec]
    rw [if_neg (by omega), if_neg (by omega)]
    exact ⟨rfl, rfl⟩
end Ab
end Go.Proofs.Ytimcbhhebnikiaa
namespace Go.Proofs.Ytimcbhhebnikiaa
open Go Go.Proofs.Ytimcbhhebnikiaa.Ab
set_option linter.unusedVariables false
set_option linter.unusedSimpArgs false
namespace Ab
def Up (blocks : Int) (l : List Ex) (gen : Int) : Prop := Mk blocks l ∧ ∀ x ∈ l, x.gen ≤ gen
instance (blocks : Int) (l : List Ex) (gen : Int) : Decidable (Up blocks l gen) := by unfold Up; infer_instance
theorem sUpto_eq (blocks : Int) (l : List Ex) (gen : Int) (nl : l.length ≤ 9223372036854775807) : sUpto blocks l gen = some (decide (Up blocks l gen)) := by
  unfold sUpto
  rw [mCheck_eq blocks l nl, tc_some]
  by_cases hm : Mk blocks l
  case neg => rw [mk_f hm, tb_f, decide_eq_false fun h => hm h.1]
  rw [mk_t hm, tb_t]
  rw [th_all (some false) (some true) l.length (fun i => (exAt l i).gen ≤ gen) (∀ x ∈ l, x.gen ≤ gen) (exAt_all l fun x => x.gen ≤ gen)]
  · by_cases h : ∀ x ∈ l, x.gen ≤ gen
    · have u : Up blocks l gen := ⟨hm, h⟩
      rw [if_pos h, decide_eq_true u]
    · rw [if_neg h, decide_eq_false fun g : Up blocks l gen => h g.2]
  · intro i hi hp
    unfold sUpto_L0_step
    simp only [tb_dec, Int.toNat_natCast]
    rw [if_pos (by omega), tp_pos (by omega), if_neg (by omega), wr_id (by omega) (by omega)]
  · intro i hi hp
    unfold sUpto_L0_step
    simp only [tb_dec, Int.toNat_natCast]
    rw [if_pos (by omega), tp_pos (by omega), if_pos (by omega), if_pos (by omega), tp_pos (by omega), if_pos (by omega)]
    exact ⟨rfl, by rw [decide_eq_true (show (i : Int) ≥ 0 by omega)]; rfl⟩
  · unfold sUpto_L0_step
    simp only [tb_dec]
    rw [if_neg (by omega), if_neg (by omega)]
    exact ⟨rfl, rfl⟩
theorem sWithin_eq (n low high : Int) : sWithin n low high = some (decide (low ≤ n ∧ n ≤ high)) := by
  unfold sWithin
  rw [tb_dec]
  by_cases h : n ≥ low
  · rw [if_pos h]; congr 1; rw [Bool.eq_iff_iff, decide_eq_true_iff, decide_eq_true_iff]; exact ⟨fun g => ⟨h, g⟩, fun g => g.2⟩
  · rw [if_neg h, decide_eq_false fun g => h g.1]
theorem poAt_all (l : List Po) (p : Po → Prop) : (∀ i, i < l.length → p (poAt l i)) ↔ ∀ x ∈ l, p x := by
  unfold poAt; exact getD_all _ l p
/-- Is all of it small? -/
def Sx (l : List Ex) : Prop := l.length ≤ 1000 ∧ ∀ x ∈ l, x.d.length ≤ 1000000
def Sz (s : Sa) : Prop := Sx s.map ∧ s.points.length ≤ 1000 ∧ (∀ p ∈ s.points, Sx p.map) ∧ s.staged.length ≤ 1000000
/-- The checkpoint ahead of one. -/
def pv (s : Sa) (i : Nat) : Po := if i = 0 then ⟨0, 0, []⟩ else poAt s.points (i - 1)
theorem pv_succ (s : Sa) (i : Nat) : pv s (i + 1) = poAt s.points i := by simp [pv]
def PP (s : Sa) (i : Nat) : Prop :=
  Up s.blocks (poAt s.points i).map (poAt s.points i).gen ∧ (pv s i).id < (poAt s.points i).id ∧ (poAt s.points i).id ≤ s.last ∧ (pv s i).gen < (poAt s.points i).gen ∧ (poAt s.points i).gen < s.gen ∧ Kp (pv s i).map (poAt s.points i).map (pv s i).gen
/-- May a state be? -/
def SOk (s : Sa) : Prop :=
  Up s.blocks s.map s.gen ∧ 1 ≤ s.gen ∧ s.gen ≤ 2147483647 ∧ s.points.length ≤ 4 ∧ 0 ≤ s.last ∧ s.last ≤ 2147483647 ∧ s.staged.length ≤ 4000 ∧ (∀ i, i < s.points.length → PP s i) ∧ Kp (pv s s.points.length).map s.map (pv s s.points.length).gen
open Classical in
noncomputable def st (s : Sa) : Int := if SOk s then 0 else 110
theorem st_t {s : Sa} (h : SOk s) : st s = 0 := by unfold st; rw [if_pos h]
theorem st_f {s : Sa} (h : ¬ SOk s) : st s = 110 := by unfold st; rw [if_neg h]
theorem up_ck {blocks : Int} {l : List Ex} {gen : Int} (h : Up blocks l gen) : ∀ x ∈ l, Ck x := fun x hx => (ch_ck (mk_ch h.1) x hx).1
theorem pv_ck {s : Sa} {i : Nat} (hp : ∀ j, j < i → PP s j) : ∀ x ∈ (pv s i).map, Ck x := by
  unfold pv
  split
  · intro x hx; cases hx
  · exact up_ck (hp (i - 1) (by omega)).1
def PS (s : Sa) (i : Nat) : Int × Int × Int × List Ex := ((i : Int), (pv s i).id, (pv s i).gen, (pv s i).map)
theorem pts_run {α : Type} (s : Sa) {step : Int × Int × Int × List Ex → Option (Int × Int × Int × List Ex)} {f : Int × Int × Int × List Ex → Option α} (n : Nat) (hs : ∀ i, i < n → step (PS s i) = some (PS s (i + 1))) (he : step (PS s n) = none) : th step (0, (0, (0, ([] : List Ex)))) f = f (PS s n) := by
  have := th_run (step := step) (f := f) (PS s) n hs he
  rwa [show PS s 0 = (0, 0, 0, []) from rfl] at this
theorem ps_end (s : Sa) {α : Type} (x y : Option α) : tb (decide ((PS s s.points.length).1 < (s.points.length : Int))) x y = y := tb_neg (decide_eq_false (by show ¬ ((s.points.length : Int) < s.points.length); omega))
open Classical in
noncomputable def MS (s : Sa) (i : Nat) : Bool × Int × Int × Int × List Ex := (decide (s.staged.length ≤ 4000 ∧ ∀ j, j < i → PP s j), PS s i)
/-- Are all lists of it such as may be? -/
def Bg (s : Sa) : Prop := s.map.length ≤ 9223372036854775807 ∧ s.points.length ≤ 9223372036854775807 ∧ ∀ p ∈ s.points, p.map.length ≤ 9223372036854775807
theorem sz_bg {s : Sa} (h : Sz s) : Bg s := ⟨by have := h.1.1; omega, by have := h.2.1; omega, fun p hp => by have := (h.2.2.1 p hp).1; omega⟩
theorem pv_bg {s : Sa} (h : Bg s) (i : Nat) (hi : i ≤ s.points.length) : (pv s i).map.length ≤ 9223372036854775807 := by
  unfold pv
  split
  · simp
  · exact (poAt_all s.points (fun p => p.map.length ≤ 9223372036854775807)).2 h.2.2 _ (by omega)
open Classical in
theorem sCheck_step {s : Sa} (h : Bg s) (a b c : Bool) {i : Nat} (hi : i < s.points.length) : sCheck_L0_step s a b c (MS s i) = some (MS s (i + 1)) := by
  have hz := h.2.1
  unfold MS PS sCheck_L0_step
  simp only [tb_dec, Int.toNat_natCast, pv_succ]
  rw [if_pos (by omega), tp_pos (by omega), wr_id (x := (i : Int) + 1) (by omega) (by omega)]
  have e1 : ((i + 1 : Nat) : Int) = (i : Int) + 1 := by omega
  rw [e1]
  have sx := (poAt_all s.points (fun p => p.map.length ≤ 9223372036854775807)).2 h.2.2 i hi
  have px := pv_bg h i (by omega)
  have hM : ∀ p : Prop, [Decidable p] → ((s.staged.length ≤ 4000 ∧ ∀ j, j < i + 1 → PP s j) ↔ p) → decide (s.staged.length ≤ 4000 ∧ ∀ j, j < i + 1 → PP s j) = decide p := fun p _ g => by
    rw [Bool.eq_iff_iff, decide_eq_true_iff, decide_eq_true_iff]; exact g
  have no : ¬ PP s i → decide (s.staged.length ≤ 4000 ∧ ∀ j, j < i + 1 → PP s j) = false := fun g => decide_eq_false fun q => g (q.2 i (by omega))
  by_cases hm : s.staged.length ≤ 4000 ∧ ∀ j, j < i → PP s j
  case neg =>
    rw [if_neg hm, decide_eq_false fun q => hm ⟨q.1, fun j hj => q.2 j (by omega)⟩]
  rw [if_pos hm, sUpto_eq _ _ _ sx, tc_some, tb_dec]
  by_cases h1 : Up s.blocks (poAt s.points i).map (poAt s.points i).gen
  case neg => rw [if_neg h1, no fun q => h1 q.1]
  rw [if_pos h1]
  by_cases h2 : (poAt s.points i).id > (pv s i).id
  case neg => rw [if_neg h2, no fun q => h2 q.2.1]
  rw [if_pos h2]
  by_cases h3 : (poAt s.points i).id ≤ s.last
  case neg => rw [if_neg h3, no fun q => h3 q.2.2.1]
  rw [if_pos h3]
  by_cases h4 : (poAt s.points i).gen > (pv s i).gen
  case neg => rw [if_neg h4, no fun q => h4 q.2.2.2.1]
  rw [if_pos h4]
  by_cases h5 : (poAt s.points i).gen < s.gen
  case neg => rw [if_neg h5, no fun q => h5 q.2.2.2.2.1]
  rw [if_pos h5, sKept_eq _ _ _ (pv_ck hm.2) (up_ck h1) px sx, tc_some]
  by_cases h6 : Kp (pv s i).map (poAt s.points i).map (pv s i).gen
  · rw [kp_t h6, decide_eq_true]
    refine ⟨hm.1, fun j hj => ?_⟩
    by_cases g : j = i
    · subst g; exact ⟨h1, h2, h3, h4, h5, h6⟩
    · exact hm.2 j (by omega)
  · rw [kp_f h6, no fun q => h6 q.2.2.2.2.2]
open Classical in
theorem sCheck_eqB {s : Sa} (h : Bg s) : sCheck s = some (st s) := by
  have hz := h.2.1
  have hx := h.1
  have e1 : ∀ i : Nat, ((i + 1 : Nat) : Int) = (i : Int) + 1 := fun i => by omega
  unfold sCheck
  rw [sUpto_eq _ _ _ hx, tc_some, tb_dec]
  by_cases h1 : Up s.blocks s.map s.gen
  case neg =>
    rw [if_neg h1, st_f fun q => h1 q.1, pts_run s s.points.length]
    · exact ps_end s _ _
    · intro i hi
      unfold PS sCheck_L4_step
      simp only [tb_dec, Int.toNat_natCast, pv_succ]
      rw [if_pos (by omega), tp_pos (by omega), wr_id (x := (i : Int) + 1) (by omega) (by omega), e1]
    · unfold PS sCheck_L4_step
      simp only [tb_dec]
      rw [if_neg (by omega)]
  rw [if_pos h1, sWithin_eq, tc_some, tb_dec]
  by_cases h2 : 1 ≤ s.gen ∧ s.gen ≤ 2147483647
  case neg =>
    rw [if_neg h2, st_f fun q => h2 ⟨q.2.1, q.2.2.1⟩, pts_run s s.points.length]
    · exact ps_end s _ _
    · intro i hi
      unfold PS sCheck_L3_step
      simp only [tb_dec, Int.toNat_natCast, pv_succ]
      rw [if_pos (by omega), tp_pos (by omega), wr_id (x := (i : Int) + 1) (by omega) (by omega), e1]
    · unfold PS sCheck_L3_step
      simp only [tb_dec]
      rw [if_neg (by omega)]
  rw [if_pos h2, tb_dec]
  by_cases h3 : (s.points.length : Int) ≤ 4
  case neg =>
    rw [if_neg h3, st_f fun q => h3 (by have := q.2.2.2.1; omega), pts_run s s.points.length]
    · exact ps_end s _ _
    · intro i hi
      unfold PS sCheck_L2_step
      simp only [tb_dec, Int.toNat_natCast, pv_succ]
      rw [if_pos (by omega), tp_pos (by omega), wr_id (x := (i : Int) + 1) (by omega) (by omega), e1]
    · unfold PS sCheck_L2_step
      simp only [tb_dec]
      rw [if_neg (by omega)]
  rw [if_pos h3, sWithin_eq, tc_some, tb_dec]
  by_cases h4 : 0 ≤ s.last ∧ s.last ≤ 2147483647
  case neg =>
    rw [if_neg h4, st_f fun q => h4 ⟨q.2.2.2.2.1, q.2.2.2.2.2.1⟩, pts_run s s.points.length]
    · exact ps_end s _ _
    · intro i hi
      unfold PS sCheck_L1_step
      simp only [tb_dec, Int.toNat_natCast, pv_succ]
      rw [if_pos (by omega), tp_pos (by omega), wr_id (x := (i : Int) + 1) (by omega) (by omega), e1]
    · unfold PS sCheck_L1_step
      simp only [tb_dec]
      rw [if_neg (by omega)]
  rw [if_pos h4]
  have hr := th_run (step := sCheck_L0_step s (decide (Up s.blocks s.map s.gen)) (decide (1 ≤ s.gen ∧ s.gen ≤ 2147483647)) (decide (0 ≤ s.last ∧ s.last ≤ 2147483647))) (f := fun s7 =>
    tb (decide (s7.2.1 < (s.points.length : Int))) none (tb (!s7.1) (some (110 : Int)) (tc (sKept s7.2.2.2.2 s.map s7.2.2.2.1) fun s10 => tb (!s10) (some 110) (some 0)))) (MS s) s.points.length (fun i hi => sCheck_step h _ _ _ hi) (by
      unfold MS PS sCheck_L0_step
      simp only [tb_dec]
      rw [if_neg (by omega)])
  have e0 : MS s 0 = (decide ((s.staged.length : Int) ≤ 4000), 0, 0, 0, []) := by
    unfold MS PS
    congr 1
    rw [Bool.eq_iff_iff, decide_eq_true_iff, decide_eq_true_iff]
    exact ⟨fun q => by have := q.1; omega, fun q => ⟨by omega, fun j hj => by omega⟩⟩
  rw [e0] at hr
  rw [hr]
  unfold MS PS
  simp only [tb_dec, tb_not]
  rw [if_neg (by omega)]
  by_cases h5 : s.staged.length ≤ 4000 ∧ ∀ j, j < s.points.length → PP s j
  case neg => rw [if_neg h5, st_f fun q => h5 ⟨q.2.2.2.2.2.2.1, q.2.2.2.2.2.2.2.1⟩]
  rw [if_pos h5, sKept_eq _ _ _ (pv_ck h5.2) (up_ck h1) (pv_bg h _ (Nat.le_refl _)) hx, tc_some]
  by_cases h6 : Kp (pv s s.points.length).map s.map (pv s s.points.length).gen
  · rw [kp_t h6, tb_t, st_t ⟨h1, h2.1, h2.2, by omega, h4.1, h4.2, h5.1, h5.2, h6⟩]
  · rw [kp_f h6, tb_f, st_f fun q => h6 q.2.2.2.2.2.2.2.2]
theorem sCheck_eq {s : Sa} (h : Sz s) : sCheck s = some (st s) := sCheck_eqB (sz_bg h)
end Ab
end Go.Proofs.Ytimcbhhebnikiaa
namespace Go.Proofs.Ytimcbhhebnikiaa
open Go Go.Proofs.Ytimcbhhebnikiaa.Ab
set_option linter.unusedVariables false
set_option linter.unusedSimpArgs false
namespace Ab
theorem sExtents_eq {l : List Ex} (h : Sx l) : sExtents l = some l := by
  have hz := h.1
  have hd := (exAt_all l (fun x => x.d.length ≤ 1000000)).2 h.2
  unfold sExtents
  have := th_run (step := sExtents_L0_step l) (f := fun s0 => tb (decide (s0.2 < (l.length : Int))) none (tp (0 = 0 ∧ (List.flatMap Ex.cells s0.1).length = s0.1.length * 5) (some s0.1))) (fun i => (l.take i, (i : Int))) l.length (fun i hi => by
    have := hd i hi
    unfold sExtents_L0_step
    simp only [tb_dec, Int.toNat_natCast]
    rw [if_pos (by omega), tp_pos (by omega), tp_pos (by omega), tp_pos ⟨exs_len _, by rw [List.length_take]; omega⟩, wr_id (by omega) (by omega), ← ex_take1 l i hi]
    rfl) (by
    unfold sExtents_L0_step
    simp only [tb_dec]
    rw [if_neg (by omega)])
  rw [List.take_zero, List.take_length] at this
  refine this.trans ?_
  simp only [tb_dec]
  rw [if_neg (by omega), tp_pos ⟨by trivial, exs_len _⟩]
/-- No state. -/
def sa0 : Sa := ⟨0, 0, [], [], 0, []⟩
open Classical in
noncomputable def cpy (s : Sa) : Sa := if SOk s then s else sa0
theorem cpy_t {s : Sa} (h : SOk s) : cpy s = s := by unfold cpy; rw [if_pos h]
theorem cpy_f {s : Sa} (h : ¬ SOk s) : cpy s = sa0 := by unfold cpy; rw [if_neg h]
theorem po_set_self (l : List Po) (i : Nat) : l.set i (poAt l i) = l := by
  refine List.ext_getElem? fun j => ?_
  rw [List.getElem?_set]
  by_cases h : i = j
  · subst h
    rw [if_pos rfl]
    by_cases g : i < l.length
    · rw [if_pos g]; unfold poAt; simp [g]
    · rw [if_neg g, List.getElem?_eq_none (by omega)]
  · rw [if_neg h]
theorem po_take1 (l : List Po) (i : Nat) (hi : i < l.length) : l.take (i + 1) = l.take i ++ [poAt l i] := by unfold poAt; exact take_at _ l i hi
theorem sCopy_eq {s : Sa} (h : Sz s) : sCopy s = some (cpy s) := by
  have hz := h.2.1
  have hx := h.1
  unfold sCopy
  rw [sCheck_eq h, tc_some, tb_bne]
  by_cases ho : SOk s
  case neg => rw [st_f ho, if_neg (by decide), cpy_f ho]; rfl
  rw [st_t ho, if_pos rfl, sExtents_eq hx, tc_some, tp_pos (pos_len _), tp_pos (by omega), tp_pos (by have := h.2.2.2; omega), cpy_t ho]
  have hp := (poAt_all s.points (fun p => Sx p.map)).2 h.2.2.1
  have := th_run (step := sCopy_L0_step s 0 s.map) (f := fun s6 => tb (decide (s6.1 < (s.points.length : Int))) none (tp (0 = 0 ∧ (List.flatMap Ex.cells s.map).length = s.map.length * 5) (tp (0 = 0 ∧ (List.flatMap Po.cells s6.2).length = s.points.length * 3) (some (Sa.mk s.blocks s.gen s.map s6.2 s.last s.staged))))) (fun i => ((i : Int), s.points)) s.points.length (fun i hi => by
    have e := pos_len s.points
    unfold sCopy_L0_step
    simp only [tb_dec, Int.toNat_natCast]
    rw [if_pos (by omega), tp_pos (by omega), tp_pos (by omega), sExtents_eq (hp i hi), tc_some, tp_pos ⟨rfl, by simp only [List.length_cons, List.length_nil]; omega⟩, wr_id (by omega) (by omega), List.take_length]
    have e2 : (Po.mk (poAt s.points i).id (poAt s.points i).gen (poAt s.points i).map) = poAt s.points i := rfl
    rw [e2, po_set_self]
    rfl) (by
    unfold sCopy_L0_step
    simp only [tb_dec]
    rw [if_neg (by omega)])
  refine this.trans ?_
  simp only [tb_dec]
  rw [if_neg (by omega), tp_pos ⟨by trivial, exs_len _⟩, tp_pos ⟨by trivial, pos_len _⟩]
theorem mk_sxx {b : Int} {l : List Ex} (h : Mk b l) : Sx l := ⟨by have := mk_len h; omega, fun x hx => by have := ck_dlen (ch_ck (mk_ch h) x hx).1; omega⟩
theorem sok_sz {s : Sa} (h : SOk s) : Sz s := by
  refine ⟨mk_sxx h.1.1, by have := h.2.2.2.1; omega, ?_, by have := h.2.2.2.2.2.2.1; omega⟩
  exact (poAt_all s.points fun p => Sx p.map).1 fun i hi => mk_sxx (h.2.2.2.2.2.2.2.1 i hi).1.1
theorem sCopy_eqB {s : Sa} (h : Bg s) : sCopy s = some (cpy s) := by
  by_cases ho : SOk s
  · exact sCopy_eq (sok_sz ho)
  unfold sCopy
  rw [sCheck_eqB h, tc_some, tb_bne, st_f ho, if_neg (by decide), cpy_f ho]
  rfl
/-- A new state. -/
def nw (blocks : Int) : Sa × Int := if 1 ≤ blocks ∧ blocks ≤ 64 then (⟨blocks, 1, [⟨0, blocks, 0, 0, []⟩], [], 0, []⟩, 0) else (sa0, 81)
theorem th_find {α β : Type} (l : List β) (d : β) (p : β → Bool) {step : Int → Option Int} {f : Int → Option α} (g : Option β → Option α) (hs : ∀ i : Nat, i < l.length → p (l.getD i d) = false → step (i : Int) = some ((i : Int) + 1)) (hf : ∀ i : Nat, i < l.length → p (l.getD i d) = true → step (i : Int) = none ∧ f (i : Int) = g (some (l.getD i d))) (he : step (l.length : Int) = none ∧ f (l.length : Int) = g none) : th step 0 f = g (l.find? p) := by
  have gd : ∀ i (hi : i < l.length), l.getD i d = l[i] := fun i hi => by simp [hi]
  cases h : l.find? p with
  | none =>
    have hn := List.find?_eq_none.1 h
    have := th_run (step := step) (f := f) (fun i => (i : Int)) l.length (fun i hi => hs i hi (by
      rw [gd i hi]
      have := hn l[i] (List.getElem_mem hi)
      simpa using this)) he.1
    simp only [Int.natCast_zero] at this
    rw [this]; exact he.2
  | some x =>
    obtain ⟨hx, i, hi, e, hlt⟩ := List.find?_eq_some_iff_getElem.1 h
    have hfi := hf i hi (by rw [gd i hi, e]; exact hx)
    have := th_run (step := step) (f := f) (fun i => (i : Int)) i (fun j hj => hs j (by omega) (by
      rw [gd j (by omega)]
      have := hlt j hj
      simpa using this)) hfi.1
    simp only [Int.natCast_zero] at this
    rw [this, hfi.2, gd i hi, e]
def po0 : Po := ⟨0, 0, []⟩
/-- The checkpoint of a number. -/
def fd (l : List Po) (id : Int) : Option Po := l.find? fun p => p.id == id
def fdv : Option Po → Po × Int
  | some p => (p, 0)
  | none => (po0, 111)
open Classical in
noncomputable def pnt (s : Sa) (id : Int) : Po × Int := if SOk s then fdv (fd s.points id) else (po0, 110)
theorem sPoint_eq {s : Sa} (h : Sz s) (id : Int) : sPoint s id = some (pnt s id) := by
  have hz := h.2.1
  unfold sPoint pnt
  rw [sCheck_eq h, tc_some, tb_bne]
  by_cases ho : SOk s
  case neg => rw [st_f ho, if_neg (by decide), if_neg ho]; rfl
  rw [st_t ho, if_pos rfl, if_pos ho, sCopy_eq h, tc_some, cpy_t ho]
  refine (th_find s.points ⟨0, 0, []⟩ (fun p => p.id == id) (fun o => some (fdv o)) ?_ ?_ ?_)
  · intro i hi hp
    have hp : ((poAt s.points i).id == id) = false := hp
    unfold sPoint_L0_step
    simp only [tb_dec, Int.toNat_natCast]
    rw [if_pos (by omega), tp_pos (by omega), tb_neg hp, wr_id (by omega) (by omega)]
  · intro i hi hp
    have hp : ((poAt s.points i).id == id) = true := hp
    unfold sPoint_L0_step
    simp only [tb_dec, Int.toNat_natCast]
    rw [if_pos (by omega), tp_pos (by omega), tb_pos hp, if_pos (by omega), tp_pos (by omega), tb_pos hp]
    exact ⟨rfl, rfl⟩
  · unfold sPoint_L0_step
    simp only [tb_dec]
    rw [if_neg (by omega), if_neg (by omega)]
    exact ⟨rfl, rfl⟩
theorem sIds_eqB {s : Sa} (h : Bg s) : sIds s = some ((cpy s).points.map Po.id) := by
  unfold sIds
  rw [sCopy_eqB h, tc_some]
  have hz : (cpy s).points.length ≤ 1000 := by
    unfold cpy; split
    · rename_i ho; exact (sok_sz ho).2.1
    · simp [sa0]
  generalize cpy s = t at hz ⊢
  have := th_run (step := sIds_L0_step s t) (f := fun s1 => tb (decide (s1.2 < (t.points.length : Int))) none (some s1.1)) (fun i => ((t.points.take i).map Po.id, (i : Int))) t.points.length (fun i hi => by
    unfold sIds_L0_step
    simp only [tb_dec, Int.toNat_natCast]
    rw [if_pos (by omega), tp_pos (by omega), tp_pos ⟨by simp, by rw [List.length_map, List.length_take]; omega⟩, wr_id (by omega) (by omega), po_take1 t.points i hi]
    simp) (by
    unfold sIds_L0_step
    simp only [tb_dec]
    rw [if_neg (by omega)])
  rw [List.take_zero, List.take_length] at this
  refine this.trans ?_
  simp only [tb_dec]
  rw [if_neg (by omega)]
theorem sIds_eq {s : Sa} (h : Sz s) : sIds s = some ((cpy s).points.map Po.id) := sIds_eqB (sz_bg h)
def FewX (l : List Ex) : Prop := l.length ≤ 70 ∧ ∀ x ∈ l, x.d.length ≤ 3000
instance (l : List Ex) : Decidable (FewX l) := by unfold FewX; infer_instance
theorem few_eqX (l : List Ex) : few l = some (decide (FewX l)) := few_eq l
def FewS (s : Sa) : Prop := s.points.length ≤ 10 ∧ s.staged.length ≤ 6000 ∧ FewX s.map ∧ ∀ p ∈ s.points, FewX p.map
instance (s : Sa) : Decidable (FewS s) := by unfold FewS; infer_instance
theorem fewx_sx {l : List Ex} (h : FewX l) : Sx l := ⟨by have := h.1; omega, fun x hx => by have := h.2 x hx; omega⟩
theorem fews_sz {s : Sa} (h : FewS s) : Sz s := ⟨fewx_sx h.2.2.1, by have := h.1; omega, fun p hp => fewx_sx (h.2.2.2 p hp), by have := h.2.1; omega⟩
theorem few11_eq (s : Sa) : few11 s = some (decide (FewS s)) := by
  unfold few11
  simp only [tb_dec]
  by_cases h1 : (s.points.length : Int) > 10
  · rw [if_pos h1, decide_eq_false fun q : FewS s => by have := q.1; omega]
  rw [if_neg h1]
  by_cases h2 : (s.staged.length : Int) > 6000
  · rw [if_pos h2, decide_eq_false fun q : FewS s => by have := q.2.1; omega]
  rw [if_neg h2, few_eqX, tc_some, tb_not, tb_dec]
  by_cases h3 : FewX s.map
  case neg => rw [if_neg h3, decide_eq_false fun q : FewS s => h3 q.2.2.1]
  rw [if_pos h3]
  rw [th_all (some false) (some true) s.points.length (fun i => FewX (poAt s.points i).map) (∀ p ∈ s.points, FewX p.map) (poAt_all s.points fun p => FewX p.map)]
  · by_cases g : ∀ p ∈ s.points, FewX p.map
    · have u : FewS s := ⟨by omega, by omega, h3, g⟩
      rw [if_pos g, decide_eq_true u]
    · rw [if_neg g, decide_eq_false fun q : FewS s => g q.2.2.2]
  · intro i hi hq
    unfold few11_L0_step
    simp only [tb_dec, tb_not, Int.toNat_natCast]
    rw [if_pos (by omega), tp_pos (by omega), few_eqX, tc_some, decide_eq_true hq, tb_t, wr_id (by omega) (by omega)]
  · intro i hi hq
    unfold few11_L0_step
    simp only [tb_dec, tb_not, Int.toNat_natCast]
    rw [if_pos (by omega), tp_pos (by omega), few_eqX, tc_some, decide_eq_false hq, tb_f, if_pos (by omega), tp_pos (by omega), tc_some, tb_f]
    exact ⟨rfl, rfl⟩
  · unfold few11_L0_step
    simp only [tb_dec]
    rw [if_neg (by omega), if_neg (by omega)]
    exact ⟨rfl, rfl⟩
end Ab
end Go.Proofs.Ytimcbhhebnikiaa
namespace Go.Proofs.Ytimcbhhebnikiaa
open Go Go.Proofs.Ytimcbhhebnikiaa.Ab
set_option linter.unusedVariables false
set_option linter.unusedSimpArgs false
namespace Ab
theorem cWithin_eq (n low high : Int) : cWithin n low high = some (decide (low ≤ n ∧ n ≤ high)) := by
  unfold cWithin
  rw [tb_dec]
  by_cases h : n ≥ low
  · rw [if_pos h]; congr 1; exact decide_eq_decide.2 ⟨fun g => ⟨h, g⟩, fun g => g.2⟩
  · rw [if_neg h, decide_eq_false fun g : low ≤ n ∧ n ≤ high => h g.1]
/-- Where extents ahead end. -/
def endAt (l : List Ex) (i : Nat) : Int := if i = 0 then 0 else (exAt l (i - 1)).lba + (exAt l (i - 1)).len
theorem endAt_succ (l : List Ex) (i : Nat) : endAt l (i + 1) = (exAt l i).lba + (exAt l i).len := by simp [endAt]
def FP (l : List Ex) (i : Nat) : Prop := Ck (exAt l i) ∧ endAt l i ≤ (exAt l i).lba
/-- Extents one behind the other. -/
def Fo (l : List Ex) : Prop := (∀ i, i < l.length → FP l i) ∧ l.length ≤ 64
instance (l : List Ex) (i : Nat) : Decidable (FP l i) := by unfold FP; infer_instance
instance (l : List Ex) : Decidable (Fo l) := by unfold Fo; infer_instance
theorem fo_nil : Fo [] := ⟨fun i hi => by simp at hi, by simp⟩
theorem cFollows_eq (l : List Ex) (hl : l.length ≤ 4294967296) : cFollows l = some (decide (Fo l)) := by
  unfold cFollows
  have h0 : ((0 : Int), (0 : Int)) = (endAt l 0, ((0 : Nat) : Int)) := by simp [endAt]
  rw [h0]
  have := fun f hs hf he => th_first (α := Bool) (step := cFollows_L0_step l) (f := f) (some false) (some (decide ((l.length : Int) ≤ 64))) (fun i => (endAt l i, (i : Int))) l.length (FP l) (∀ i, i < l.length → FP l i) Iff.rfl hs hf he
  rw [this _ ?_ ?_ ?_]
  · by_cases h : ∀ i, i < l.length → FP l i
    · rw [if_pos h]; congr 1; exact decide_eq_decide.2 ⟨fun g => ⟨h, by omega⟩, fun g => by have := g.2; omega⟩
    · rw [if_neg h, decide_eq_false fun g : Fo l => h g.1]
  · intro i hi _ hp
    unfold cFollows_L0_step
    have h1 := hp.1
    have h2 := hp.2
    have h3 := ck_pos h1
    simp only [tb_dec, tb_not, eCheck_eq, tc_some, Int.toNat_natCast]
    rw [if_pos (by omega), tp_pos (by omega), ck_t h1, tb_t, if_neg (by omega), wr_id (by omega) (by omega), wr_id (by omega) (by omega), endAt_succ]
    rfl
  · intro i hi _ hp
    unfold cFollows_L0_step
    simp only [tb_dec, tb_not, eCheck_eq, tc_some, Int.toNat_natCast]
    by_cases h1 : Ck (exAt l i)
    · have h2 : (exAt l i).lba < endAt l i := by
        rcases Int.lt_or_le (exAt l i).lba (endAt l i) with g | g
        · exact g
        · exact absurd ⟨h1, g⟩ hp
      refine ⟨?_, ?_⟩ <;> rw [if_pos (by omega), tp_pos (by omega), ck_t h1, tb_t, if_pos h2]
    · refine ⟨?_, ?_⟩ <;> rw [if_pos (by omega), tp_pos (by omega), ck_f h1, tb_f]
  · intro _
    unfold cFollows_L0_step
    simp only [tb_dec]
    rw [if_neg (by omega), if_neg (by omega)]
    exact ⟨rfl, rfl⟩
/-- May a change be? -/
def CkH (c : Ch) : Prop :=
  (c.kind = 1 ∧ (0 ≤ c.lba ∧ c.lba ≤ 64 ∧ 1 ≤ c.n ∧ c.n ≤ 64 - c.lba) ∧ c.id = 0 ∧ (c.d.length : Int) = c.n * 32 ∧ c.list.length = 0) ∨
  ((c.kind = 2 ∨ c.kind = 3) ∧ (0 ≤ c.lba ∧ c.lba ≤ 64 ∧ 1 ≤ c.n ∧ c.n ≤ 64 - c.lba) ∧ c.id = 0 ∧ c.d.length = 0 ∧ c.list.length = 0) ∨
  ((c.kind = 4 ∨ c.kind = 5) ∧ (c.lba = 0 ∧ c.n = 0) ∧ (1 ≤ c.id ∧ c.id ≤ 2147483647) ∧ c.d.length = 0 ∧ c.list.length = 0) ∨
  (c.kind = 6 ∧ (c.lba = 0 ∧ c.n = 0) ∧ c.id = 0 ∧ (1 ≤ c.d.length ∧ c.d.length ≤ 1000) ∧ c.list.length = 0) ∨
  (c.kind = 7 ∧ (c.lba = 0 ∧ c.n = 0) ∧ c.id = 0 ∧ c.d.length = 0 ∧ c.list.length = 0) ∨
  (c.kind = 8 ∧ (c.lba = 0 ∧ c.n = 0) ∧ (1 ≤ c.id ∧ c.id ≤ 2147483647) ∧ c.d.length = 0 ∧ Fo c.list)
instance (c : Ch) : Decidable (CkH c) := by unfold CkH; infer_instance
theorem ckh_1 {c : Ch} (h : c.kind = 1) : CkH c ↔ (0 ≤ c.lba ∧ c.lba ≤ 64 ∧ 1 ≤ c.n ∧ c.n ≤ 64 - c.lba) ∧ c.id = 0 ∧ (c.d.length : Int) = c.n * 32 ∧ c.list.length = 0 := by simp [CkH, h]
theorem ckh_2 {c : Ch} (h : c.kind = 2) : CkH c ↔ (0 ≤ c.lba ∧ c.lba ≤ 64 ∧ 1 ≤ c.n ∧ c.n ≤ 64 - c.lba) ∧ c.id = 0 ∧ c.d.length = 0 ∧ c.list.length = 0 := by simp [CkH, h]
theorem ckh_3 {c : Ch} (h : c.kind = 3) : CkH c ↔ (0 ≤ c.lba ∧ c.lba ≤ 64 ∧ 1 ≤ c.n ∧ c.n ≤ 64 - c.lba) ∧ c.id = 0 ∧ c.d.length = 0 ∧ c.list.length = 0 := by simp [CkH, h]
theorem ckh_4 {c : Ch} (h : c.kind = 4) : CkH c ↔ (c.lba = 0 ∧ c.n = 0) ∧ (1 ≤ c.id ∧ c.id ≤ 2147483647) ∧ c.d.length = 0 ∧ c.list.length = 0 := by simp [CkH, h]
theorem ckh_5 {c : Ch} (h : c.kind = 5) : CkH c ↔ (c.lba = 0 ∧ c.n = 0) ∧ (1 ≤ c.id ∧ c.id ≤ 2147483647) ∧ c.d.length = 0 ∧ c.list.length = 0 := by simp [CkH, h]
theorem ckh_6 {c : Ch} (h : c.kind = 6) : CkH c ↔ (c.lba = 0 ∧ c.n = 0) ∧ c.id = 0 ∧ (1 ≤ c.d.length ∧ c.d.length ≤ 1000) ∧ c.list.length = 0 := by simp [CkH, h]
theorem ckh_7 {c : Ch} (h : c.kind = 7) : CkH c ↔ (c.lba = 0 ∧ c.n = 0) ∧ c.id = 0 ∧ c.d.length = 0 ∧ c.list.length = 0 := by simp [CkH, h]
theorem ckh_8 {c : Ch} (h : c.kind = 8) : CkH c ↔ (c.lba = 0 ∧ c.n = 0) ∧ (1 ≤ c.id ∧ c.id ≤ 2147483647) ∧ c.d.length = 0 ∧ Fo c.list := by simp [CkH, h]
theorem ckh_kind {c : Ch} (h : CkH c) : 1 ≤ c.kind ∧ c.kind ≤ 8 := by unfold CkH at h; omega
theorem some_t {p : Prop} [Decidable p] (h : p) : some true = some (decide p) := by rw [decide_eq_true h]
theorem some_f {p : Prop} [Decidable p] (h : ¬ p) : some false = some (decide p) := by rw [decide_eq_false h]
theorem it_b (p : Prop) [Decidable p] : (if p then some true else some false) = some (decide p) := by by_cases h : p <;> simp [h]
theorem it_and (p q : Prop) [Decidable p] [Decidable q] : (if p then some (decide q) else some false) = some (decide (p ∧ q)) := by by_cases h : p <;> simp [h]
theorem cCheck_eq (c : Ch) (hl : c.list.length ≤ 4294967296) : cCheck c = some (decide (CkH c)) := by
  unfold cCheck
  simp only [cWithin_eq, tc_some, tb_not, tb_dec, tb_beq, cFollows_eq _ hl]
  by_cases hk : 1 ≤ c.kind ∧ c.kind ≤ 8
  case neg => rw [if_neg hk]; exact some_f fun h => hk (ckh_kind h)
  rw [if_pos hk, if_neg (by omega)]
  have w : 0 ≤ c.lba → c.lba ≤ 64 → wr (64 - c.lba) = 64 - c.lba := fun h1 h2 => wr_id (by omega) (by omega)
  have w2 : 0 ≤ c.n → c.n ≤ 64 → wr (c.n * 32) = c.n * 32 := fun h1 h2 => wr_id (by omega) (by omega)
  by_cases k1 : c.kind = 1
  · rw [if_pos k1]
    by_cases hb : 0 ≤ c.lba ∧ c.lba ≤ 64
    case neg => simp only [if_neg hb, ite_self]; exact some_f fun h => by rw [ckh_1 k1] at h; omega
    simp only [if_pos hb, w hb.1 hb.2]
    by_cases hn : 1 ≤ c.n ∧ c.n ≤ 64 - c.lba
    case neg => simp only [if_neg hn, ite_self]; exact some_f fun h => by rw [ckh_1 k1] at h; omega
    simp only [if_pos hn, w2 (by omega) (by omega)]
    simp only [ite_self, it_b, it_and]
    congr 1
    exact decide_eq_decide.2 (by rw [ckh_1 k1]; omega)
  rw [if_neg k1]
  by_cases k2 : c.kind = 2
  · rw [if_pos k2]
    by_cases hb : 0 ≤ c.lba ∧ c.lba ≤ 64
    case neg => simp only [if_neg hb, ite_self]; exact some_f fun h => by rw [ckh_2 k2] at h; omega
    simp only [if_pos hb, w hb.1 hb.2]
    simp only [ite_self, it_b, it_and]
    congr 1
    exact decide_eq_decide.2 (by rw [ckh_2 k2]; omega)
  rw [if_neg k2]
  by_cases k3 : c.kind = 3
  · rw [if_pos k3]
    by_cases hb : 0 ≤ c.lba ∧ c.lba ≤ 64
    case neg => simp only [if_neg hb, ite_self]; exact some_f fun h => by rw [ckh_3 k3] at h; omega
    simp only [if_pos hb, w hb.1 hb.2]
    simp only [ite_self, it_b, it_and]
    congr 1
    exact decide_eq_decide.2 (by rw [ckh_3 k3]; omega)
  rw [if_neg k3]
  by_cases k4 : c.kind = 4
  · rw [if_pos k4]
    simp only [ite_self, it_b, it_and]
    congr 1
    exact decide_eq_decide.2 (by rw [ckh_4 k4]; omega)
  rw [if_neg k4]
  by_cases k5 : c.kind = 5
  · rw [if_pos k5]
    simp only [ite_self, it_b, it_and]
    congr 1
    exact decide_eq_decide.2 (by rw [ckh_5 k5]; omega)
  rw [if_neg k5]
  by_cases k6 : c.kind = 6
  · rw [if_pos k6]
    simp only [ite_self, it_b, it_and]
    congr 1
    exact decide_eq_decide.2 (by rw [ckh_6 k6]; omega)
  rw [if_neg k6]
  by_cases k7 : c.kind = 7
  · rw [if_pos k7]
    simp only [ite_self, it_b, it_and]
    congr 1
    exact decide_eq_decide.2 (by rw [ckh_7 k7]; omega)
  rw [if_neg k7]
  have k8 : c.kind = 8 := by omega
  rw [if_pos k8]
  have e8 : Fo c.list → (c.lba = 0 ∧ c.n = 0) → (1 ≤ c.id ∧ c.id ≤ 2147483647) → c.d.length = 0 → CkH c := fun a b d e => (ckh_8 k8).2 ⟨b, d, e, a⟩
  have f8 : CkH c → (c.lba = 0 ∧ c.n = 0) ∧ (1 ≤ c.id ∧ c.id ≤ 2147483647) ∧ c.d.length = 0 ∧ Fo c.list := (ckh_8 k8).1
  by_cases h1 : c.lba = 0
  case neg => rw [if_neg h1]; exact some_f fun h => h1 (f8 h).1.1
  rw [if_pos h1]
  by_cases h2 : c.n = 0
  case neg => rw [if_neg h2]; exact some_f fun h => h2 (f8 h).1.2
  rw [if_pos h2]
  by_cases h3 : 1 ≤ c.id ∧ c.id ≤ 2147483647
  case neg => rw [if_neg h3]; exact some_f fun h => h3 (f8 h).2.1
  rw [if_pos h3]
  by_cases h4 : (c.d.length : Int) = 0
  case neg => rw [if_neg h4]; exact some_f fun h => h4 (by have := (f8 h).2.2.1; omega)
  rw [if_pos h4]
  by_cases h5 : (c.list.length : Int) = 0
  · rw [if_pos h5]
    have : c.list = [] := List.eq_nil_of_length_eq_zero (by omega)
    exact some_t (e8 (this ▸ fo_nil) ⟨h1, h2⟩ h3 (by omega))
  rw [if_neg h5]
  congr 1
  exact decide_eq_decide.2 ⟨fun h => e8 h ⟨h1, h2⟩ h3 (by omega), fun h => (f8 h).2.2.2⟩
def FewC (c : Ch) : Prop := c.d.length ≤ 5000 ∧ FewX c.list
instance (c : Ch) : Decidable (FewC c) := by unfold FewC; infer_instance
def FewL (l : List Ch) : Prop := l.length ≤ 30 ∧ ∀ c ∈ l, FewC c
instance (l : List Ch) : Decidable (FewL l) := by unfold FewL; infer_instance
end Ab
end Go.Proofs.Ytimcbhhebnikiaa
namespace Go.Proofs.Ytimcbhhebnikiaa
open Go Go.Proofs.Ytimcbhhebnikiaa.Ab
set_option linter.unusedVariables false
set_option linter.unusedSimpArgs false
namespace Ab
theorem mOwn_eq (l : List Ex) (hl : l.length ≤ 4294967295) (hd : ∀ x ∈ l, x.d.length ≤ 4294967296) : mOwn l = some l := by
  unfold mOwn
  have hstep : ∀ i : Nat, i < l.length → mOwn_L0_step l (l.take i, (i : Int)) = some (l.take (i + 1), (i : Int) + 1) := by
    intro i hi
    have h1 := (exAt_all l (fun x => x.d.length ≤ 4294967296)).2 hd i hi
    unfold mOwn_L0_step
    simp only [tb_dec, Int.toNat_natCast]
    rw [if_pos (by omega), tp_pos (by omega), tp_pos h1, tp_pos ⟨exs_len _, by rw [List.length_take]; omega⟩, wr_id (by omega) (by omega), take_at ⟨0, 0, 0, 0, []⟩ l i hi]
    rfl
  have he : mOwn_L0_step l (l.take l.length, (l.length : Int)) = none := by
    unfold mOwn_L0_step
    simp only [tb_dec]
    rw [if_neg (by omega)]
  have := fun f => th_gath (α := List Ex) (step := mOwn_L0_step l) (f := f) (fun i => l.take i) l.length hstep he
  simp only [List.take_zero] at this
  rw [this]
  simp only [tb_dec]
  rw [if_neg (by omega), tp_pos (by first | exact ⟨rfl, exs_len _⟩ | exact ⟨trivial, exs_len _⟩), List.take_length]
end Ab
end Go.Proofs.Ytimcbhhebnikiaa
namespace Go.Proofs.Ytimcbhhebnikiaa
open Go Go.Proofs.Ytimcbhhebnikiaa.Ab
set_option linter.unusedVariables false
set_option linter.unusedSimpArgs false
namespace Ab
noncomputable def putB (out : List Ex) (y : Ex) : Option (List Ex × List Ex) :=
 (tb ((decide ((↑(List.length out) : Int) > (0 : Int))))
  (tp ((((0 : Int) ≤ (wr ((↑(List.length out) : Int) - (1 : Int)))) ∧ ((wr ((↑(List.length out) : Int) - (1 : Int))) < (↑(List.length out) : Int))))
   (tc (eJoin ((exAt out (Int.toNat (wr ((↑(List.length out) : Int) - (1 : Int)))))) (y)) fun s13 =>
    (tb ((s13.2 == (0 : Int)))
     (tp ((((List.length (xc s13.1)) = (5 : Nat)) ∧ ((((0 : Nat) + ((Int.toNat (wr ((↑(List.length out) : Int) - (1 : Int)))) * (5 : Nat))) + (List.length (xc s13.1))) ≤ (List.length (List.flatMap Ex.cells out)))))
      (some ((([] : List Ex), (List.set out (Int.toNat (wr ((↑(List.length out) : Int) - (1 : Int)))) s13.1)))))
     (tp ((((List.length (List.flatMap Ex.cells out)) = ((List.length out) * (5 : Nat))) ∧ (((List.length out) + (1 : Nat)) ≤ (4294967296 : Nat))))
      (some ((([] : List Ex), (out ++ [y]))))))))
  (tp ((((List.length (List.flatMap Ex.cells out)) = ((List.length out) * (5 : Nat))) ∧ (((List.length out) + (1 : Nat)) ≤ (4294967296 : Nat))))
   (some ((([] : List Ex), (out ++ [y]))))))
theorem putB_eq (out : List Ex) (y : Ex) (ho : out.length ≤ 1000000) : putB out y = some ([], add out y) := by
  unfold putB
  simp only [tb_dec, tb_beq]
  by_cases h0 : out = []
  · subst h0
    rw [if_neg (by simp), tp_pos ⟨by simp, by simp⟩, add_nil]; rfl
  · have hl : 0 < out.length := List.length_pos_iff.2 h0
    have hw : wr ((out.length : Int) - 1) = ((out.length - 1 : Nat) : Int) := by rw [wr_id (by omega) (by omega)]; omega
    rw [if_pos (by omega), hw, tp_pos (by omega), Int.toNat_natCast, last_at out h0 _ rfl, eJoin_eq, tc_some]
    by_cases hj : Jn (out.getLastD ⟨0, 0, 0, 0, []⟩) y
    · have e : jnv (out.getLastD ⟨0, 0, 0, 0, []⟩) y = (jnx (out.getLastD ⟨0, 0, 0, 0, []⟩) y, 0) := if_pos hj
      rw [e, if_pos rfl, tp_pos ⟨rfl, by rw [exs_len]; simp; omega⟩, add_jn h0 hj, set_last_ex out h0 _ rfl]
    · have e : jnv (out.getLastD ⟨0, 0, 0, 0, []⟩) y = (⟨0, 0, 0, 0, []⟩, 70) := if_neg hj
      rw [e, if_neg (by simp), tp_pos ⟨exs_len _, by omega⟩, add_no hj]
section
variable (blocks : Int) (l : List Ex) (x : Ex) (s0 s2 : Bool)
theorem b1_eq (s5 : Bool × Int × List Ex) (s8 : Ex × Bool) (h : s5.2.2.length ≤ 1000000) : mPut_B1 blocks l x s0 s2 s5 s8 = some ([], add s5.2.2 s8.1) := putB_eq s5.2.2 s8.1 h
theorem b2_eq (s5 : Bool × Int × List Ex) (s8 : Ex × Bool) (s10 : List Ex × List Ex) (h : s10.2.length ≤ 1000000) : mPut_B2 blocks l x s0 s2 s5 s8 s10 = some ([], add s10.2 x) := putB_eq s10.2 x h
theorem b3_eq (s5 : Bool × Int × List Ex) (s8 : Ex × Bool) (s10 s13 : List Ex × List Ex) (s14 : Ex × Bool) (h : s13.2.length ≤ 1000000) : mPut_B3 blocks l x s0 s2 s5 s8 s10 s13 s14 = some ([], add s13.2 s14.1) := putB_eq s13.2 s14.1 h
theorem b4_eq (s5 : Bool × Int × List Ex) (s8 : Ex × Bool) (s10 : List Ex × List Ex) (s13 : Ex × Bool) (h : s10.2.length ≤ 1000000) : mPut_B4 blocks l x s0 s2 s5 s8 s10 s13 = some ([], add s10.2 s13.1) := putB_eq s10.2 s13.1 h
theorem b5_eq (s5 : Bool × Int × List Ex) (s8 : Ex × Bool) (s10 : List Ex × List Ex) (s12 : Ex × Bool) (h : s10.2.length ≤ 1000000) : mPut_B5 blocks l x s0 s2 s5 s8 s10 s12 = some ([], add s10.2 s12.1) := putB_eq s10.2 s12.1 h
theorem b6_eq (s5 : Bool × Int × List Ex) (s8 : Ex × Bool) (h : s5.2.2.length ≤ 1000000) : mPut_B6 blocks l x s0 s2 s5 s8 = some ([], add s5.2.2 x) := putB_eq s5.2.2 x h
theorem b7_eq (s5 : Bool × Int × List Ex) (s8 : Ex × Bool) (s12 : List Ex × List Ex) (s13 : Ex × Bool) (h : s12.2.length ≤ 1000000) : mPut_B7 blocks l x s0 s2 s5 s8 s12 s13 = some ([], add s12.2 s13.1) := putB_eq s12.2 s13.1 h
theorem b8_eq (s5 : Bool × Int × List Ex) (s8 s12 : Ex × Bool) (h : s5.2.2.length ≤ 1000000) : mPut_B8 blocks l x s0 s2 s5 s8 s12 = some ([], add s5.2.2 s12.1) := putB_eq s5.2.2 s12.1 h
theorem b9_eq (s5 : Bool × Int × List Ex) (s8 s11 : Ex × Bool) (h : s5.2.2.length ≤ 1000000) : mPut_B9 blocks l x s0 s2 s5 s8 s11 = some ([], add s5.2.2 s11.1) := putB_eq s5.2.2 s11.1 h
theorem step_eq (fl : Bool) (i : Nat) (out : List Ex) (hi : i < l.length) (hl : l.length ≤ 1000000) (he : Ck (exAt l i)) (hx : Ck x) (ho : out.length ≤ 900000) :
    mPut_L0_step blocks l x s0 s2 (fl, (i : Int), out) = some ((stp x (fl, out) (exAt l i)).1, (i : Int) + 1, (stp x (fl, out) (exAt l i)).2) := by
  have px := ck_pos hx
  have pe := ck_pos he
  unfold mPut_L0_step
  simp only [tb_dec, Int.toNat_natCast, eCut_eq, tc_some, tb_not]
  have w1 : wr ((i : Int) + 1) = (i : Int) + 1 := wr_id (by omega) (by omega)
  have w2 : wr (x.lba + x.len) = x.lba + x.len := wr_id (by omega) (by omega)
  have w3 : wr ((exAt l i).lba + (exAt l i).len) = (exAt l i).lba + (exAt l i).len := wr_id (by omega) (by omega)
  simp only [w1, w2, w3]
  rw [if_pos (by omega), tp_pos (by omega)]
  clear w1 w2 w3
  generalize exAt l i = e at he pe ⊢
  unfold stp F1 P1
  have a1 := add_len out (cu e 0 x.lba)
  have a2 := add_len out x
  have a3 := add_len (add out (cu e 0 x.lba)) x
  by_cases g1 : Cu e 0 x.lba <;> by_cases g3 : Cu e (x.lba + x.len) 64 <;> by_cases g2 : e.lba + e.len > x.lba <;> cases fl
  all_goals
    simp only [cutv_pos, cutv_neg, cut_pos, cut_neg, g1, g2, g3, not_false_eq_true, tb_t, tb_f, if_true, if_false, decide_true, decide_false, Bool.true_or, Bool.false_or, Bool.or_false, Option.toList_some, Option.toList_none, List.nil_append, List.append_nil, List.cons_append, List.foldl_cons, List.foldl_nil, and_true, and_false, true_and, false_and, Bool.true_eq_false, reduceCtorEq]
  all_goals first
    | rfl
    | (first
        | (rw [b1_eq _ _ _ _ _ _ _ (by first | assumption | (simp only; omega))]; simp only [tc_some])
        | (rw [b6_eq _ _ _ _ _ _ _ (by first | assumption | (simp only; omega))]; simp only [tc_some])
        | (rw [b8_eq _ _ _ _ _ _ _ _ (by first | assumption | (simp only; omega))]; simp only [tc_some]; done)
        | (rw [b9_eq _ _ _ _ _ _ _ _ (by first | assumption | (simp only; omega))]; simp only [tc_some]; done)
        | skip)
      <;> (try (rw [b2_eq _ _ _ _ _ _ _ _ (by simp only; omega)]; simp only [tc_some]))
      <;> (try (rw [b3_eq _ _ _ _ _ _ _ _ _ _ (by simp only; omega)]; simp only [tc_some]))
      <;> (try (rw [b4_eq _ _ _ _ _ _ _ _ _ (by simp only; omega)]; simp only [tc_some]))
      <;> (try (rw [b5_eq _ _ _ _ _ _ _ _ _ (by simp only; omega)]; simp only [tc_some]))
      <;> (try (rw [b7_eq _ _ _ _ _ _ _ _ _ (by simp only; omega)]; simp only [tc_some]))
end
end Ab
end Go.Proofs.Ytimcbhhebnikiaa
namespace Go.Proofs.Ytimcbhhebnikiaa
open Go Go.Proofs.Ytimcbhhebnikiaa.Ab
set_option linter.unusedVariables false
set_option linter.unusedSimpArgs false
namespace Ab
theorem mk_cks {blocks : Int} {l : List Ex} (h : Mk blocks l) : ∀ x ∈ l, Ck x := fun x hx => (ch_ck (mk_ch h) x hx).1
theorem own_mk {blocks : Int} {l : List Ex} (h : Mk blocks l) : mOwn l = some l :=
  mOwn_eq l (by have := mk_len h; omega) fun x hx => by have := ck_dlen (mk_cks h x hx); omega
/-- It may be, and lies within so many blocks. -/
def Fit8 (blocks : Int) (x : Ex) : Prop := Ck x ∧ x.lba + x.len ≤ blocks
instance (blocks : Int) (x : Ex) : Decidable (Fit8 blocks x) := by unfold Fit8; infer_instance
def puts (blocks : Int) (l : List Ex) (x : Ex) : List Ex × Int := if Mk blocks l then (if Fit8 blocks x then (put l x, 0) else (l, 81)) else ([], 80)
theorem P1_len (x : Ex) (fl : Bool) (e : Ex) : (P1 x fl e).length ≤ 3 := by
  unfold P1
  rw [List.length_append, List.length_append]
  have h : ∀ o : Option Ex, o.toList.length ≤ 1 := fun o => by cases o <;> simp
  have h1 := h (cut e 0 x.lba)
  have h2 := h (cut e (x.lba + x.len) 64)
  split <;> simp only [List.length_cons, List.length_nil] <;> omega
theorem stp_len (x : Ex) : ∀ (l : List Ex) (p : Bool × List Ex), (l.foldl (stp x) p).2.length ≤ p.2.length + 3 * l.length
  | [], p => by simp
  | e :: l, p => by
    have h1 := stp_len x l (stp x p e)
    have h2 := adds_len (P1 x p.1 e) p.2
    have h3 := P1_len x p.1 e
    have h4 : (stp x p e).2 = (P1 x p.1 e).foldl add p.2 := rfl
    rw [h4] at h1
    rw [List.foldl_cons, List.length_cons]; omega
theorem stp_take (x : Ex) (l : List Ex) (i : Nat) (hi : i < l.length) (p : Bool × List Ex) : (l.take (i + 1)).foldl (stp x) p = stp x ((l.take i).foldl (stp x) p) (exAt l i) := by
  rw [ex_take1 l i hi, List.foldl_append]; rfl
theorem mPut_eq (blocks : Int) (l : List Ex) (x : Ex) (hl : l.length ≤ 4294967296) : mPut blocks l x = some (puts blocks l x) := by
  unfold mPut puts
  rw [mCheck_eq _ _ (by omega), tc_some, tb_not]
  by_cases hm : Mk blocks l
  case neg => rw [mk_f hm, if_neg hm]; rfl
  rw [mk_t hm, tb_t, if_pos hm, eCheck_eq, tc_some, tb_not]
  by_cases hx : Ck x
  case neg => rw [ck_f hx, tb_f, own_mk hm, tc_some, if_neg fun h => hx h.1]
  have px := ck_pos hx
  have hlen := mk_len hm
  rw [ck_t hx, tb_t, tb_dec, wr_id (x := x.lba + x.len) (by omega) (by omega)]
  by_cases hf : x.lba + x.len > blocks
  · rw [if_pos hf, own_mk hm, tc_some, if_neg fun h => by have := h.2; omega]
  rw [if_neg hf, if_pos (show Fit8 blocks x from ⟨hx, by omega⟩)]
  have hS := fun (f : Bool × Int × List Ex → Option (List Ex × Int)) => th_run (f := f) (step := mPut_L0_step blocks l x true true) (fun i => (((l.take i).foldl (stp x) (false, [])).1, (i : Int), ((l.take i).foldl (stp x) (false, [])).2)) l.length (fun i hi => ?_) ?_
  rotate_left
  · have hb := stp_len x (l.take i) (false, [])
    rw [List.length_take] at hb
    simp only [List.length_nil] at hb
    rw [step_eq blocks l x true true _ i _ hi (by omega) (hm.2.1 i hi).1 hx (by omega), stp_take _ _ _ hi]
    simp
  · unfold mPut_L0_step
    simp only [tb_dec]
    rw [if_neg (by omega)]
  refine (hS _).trans ?_
  have hp : ((l.take l.length).foldl (stp x) (false, [])).2 = put l x := by rw [List.take_length, stp_pcs]; rfl
  simp only [tb_dec, hp]
  have hmk := (put_spec hm hx (by omega)).1
  rw [if_neg (by omega), tp_pos (by first | exact ⟨rfl, exs_len _⟩ | exact ⟨trivial, exs_len _⟩), own_mk hmk, tc_some]
theorem puts_mk {blocks : Int} : ∀ (o l : List Ex), Mk blocks l → (∀ x ∈ o, Fit8 blocks x) → Mk blocks (o.foldl put l)
  | [], l, h, _ => h
  | x :: o, l, h, hf => by
    have h1 := hf x (by simp)
    exact puts_mk o (put l x) (put_spec h h1.1 h1.2).1 fun y hy => hf y (by simp [hy])
end Ab
end Go.Proofs.Ytimcbhhebnikiaa
namespace Go.Proofs.Ytimcbhhebnikiaa
open Go Go.Proofs.Ytimcbhhebnikiaa.Ab
set_option linter.unusedVariables false
set_option linter.unusedSimpArgs false
namespace Ab
def lays (blocks : Int) (l o : List Ex) : List Ex × Int := if Mk blocks l then (if ∀ x ∈ o, Fit8 blocks x then (o.foldl put l, 0) else (l, 81)) else ([], 80)
theorem put_take (o l : List Ex) (i : Nat) (hi : i < o.length) : (o.take (i + 1)).foldl put l = put ((o.take i).foldl put l) (exAt o i) := by
  rw [ex_take1 o i hi, List.foldl_append]; rfl
theorem mem_take {o : List Ex} {n : Nat} {P : Ex → Prop} (hn : n ≤ o.length) (h : ∀ j, j < n → P (exAt o j)) : ∀ x ∈ o.take n, P x := by
  intro x hx
  obtain ⟨j, hj, e⟩ := List.getElem_of_mem hx
  rw [List.length_take] at hj
  rw [List.getElem_take] at e
  have := h j (by omega)
  rw [← e]
  have e2 : exAt o j = o[j]'(by omega) := by unfold exAt; simp [show j < o.length by omega]
  rw [← e2]; exact this
def layS (l o : List Ex) (i : Nat) : List Ex × Int := ((o.take (i + 1)).foldl put l, ((i + 1 : Nat) : Int))
theorem layS_0 (l o : List Ex) (h : 0 < o.length) : layS l o 0 = (put l (exAt o 0), 1) := by
  unfold layS; rw [put_take o l 0 h]; rfl
theorem mLay_eq (blocks : Int) (l o : List Ex) (hl : l.length ≤ 4294967296) (ho : o.length ≤ 4294967296) : mLay blocks l o = some (lays blocks l o) := by
  unfold mLay lays
  rw [mCheck_eq _ _ (by omega), tc_some, tb_not]
  by_cases hm : Mk blocks l
  case neg => rw [mk_f hm, if_neg hm]; rfl
  rw [mk_t hm, tb_t, if_pos hm, own_mk hm, tc_some, tb_beq]
  by_cases h0 : o.length = 0
  · have : o = [] := List.eq_nil_of_length_eq_zero h0
    subst this
    rw [if_pos (show (0 : Int) = (([] : List Ex).length : Int) from rfl), if_pos (by simp)]; rfl
  rw [if_neg (by omega), mPut_eq _ _ _ hl, tc_some, tb_bne]
  by_cases f0 : Fit8 blocks (exAt o 0)
  case neg =>
    have e : puts blocks l (exAt o 0) = (l, 81) := by unfold puts; rw [if_pos hm, if_neg f0]
    have hex : ¬ ∀ x ∈ o, Fit8 blocks x := fun h => f0 (h _ (by
      unfold exAt; rw [List.getD_eq_getElem?_getD, List.getElem?_eq_getElem (by omega)]; exact List.getElem_mem _))
    rw [e, if_neg (by simp), tc_some, if_neg hex]
  have e : puts blocks l (exAt o 0) = (put l (exAt o 0), 0) := by unfold puts; rw [if_pos hm, if_pos f0]
  rw [e, if_pos rfl]
  have hQ : (∀ i, i < o.length - 1 → Fit8 blocks (exAt o (i + 1))) ↔ ∀ x ∈ o, Fit8 blocks x := by
    constructor
    · intro h
      have := mem_take (o := o) (n := o.length) (P := Fit8 blocks) (Nat.le_refl _) fun j hj => by
        cases j with
        | zero => exact f0
        | succ j => exact h j (by omega)
      rwa [List.take_length] at this
    · intro h i hi
      refine h _ ?_
      unfold exAt; rw [List.getD_eq_getElem?_getD, List.getElem?_eq_getElem (by omega)]; exact List.getElem_mem _
  have hmk : ∀ i, i < o.length → (∀ j, j < i → Fit8 blocks (exAt o (j + 1))) → Mk blocks ((o.take (i + 1)).foldl put l) := fun i hi h => puts_mk _ _ hm (mem_take (by omega) fun j hj => by
    cases j with
    | zero => exact f0
    | succ j => exact h j (by omega))
  show th (mLay_G0_step blocks l o true l (put l (exAt o 0), 0)) (put l (exAt o 0), 1) _ = _
  rw [← layS_0 l o (by omega)]
  refine Eq.trans (th_first (some (l, 81)) (some (o.foldl put l, 0)) (layS l o) (o.length - 1) (fun i => Fit8 blocks (exAt o (i + 1))) (∀ x ∈ o, Fit8 blocks x) hQ (fun i hi hpre hp => ?_) (fun i hi hpre hp => ?_) (fun hall => ?_)) ?_
  · have hk := hmk i (by omega) hpre
    unfold mLay_G0_step layS
    simp only [tb_beq, tb_bne, Int.toNat_natCast]
    rw [if_neg (by omega), tp_pos (by omega), mPut_eq _ _ _ (by have := mk_len hk; omega), tc_some]
    unfold puts
    rw [if_pos hk, if_pos hp, if_pos rfl, wr_id (by omega) (by omega), put_take _ _ _ (show i + 1 < o.length by omega)]
    simp
  · have hk := hmk i (by omega) hpre
    have e2 : puts blocks ((o.take (i + 1)).foldl put l) (exAt o (i + 1)) = ((o.take (i + 1)).foldl put l, 81) := by unfold puts; rw [if_pos hk, if_neg hp]
    unfold mLay_G0_step layS
    simp only [tb_beq, tb_bne, Int.toNat_natCast]
    rw [mPut_eq _ _ _ (by have := mk_len hk; omega), e2]
    simp only [tc_some]
    rw [if_neg (by omega), tp_pos (by omega), if_neg (by omega), if_neg (by omega), tp_pos (by omega)]
    exact ⟨rfl, rfl⟩
  · unfold mLay_G0_step layS
    simp only [tb_beq]
    rw [if_pos (by omega), if_pos (by omega), show o.length - 1 + 1 = o.length by omega, List.take_length]
    exact ⟨rfl, rfl⟩
  · by_cases hall : ∀ x ∈ o, Fit8 blocks x
    · rw [if_pos hall, if_pos hall]
    · rw [if_neg hall, if_neg hall]
end Ab
end Go.Proofs.Ytimcbhhebnikiaa
