/- The law 'ZerosPacks': it returns true, and nothing that was there changes. No condition. (Part 11 of 13.) -/
import Derived.Test.YtiaelfmohamipaaZp10
import Derived.Test.YtiaelfmohamipaaRows
namespace Go.Proofs.Ytiaelfmohamipaa
open Go Go.Proofs.Ytiaelfmohamipaa.Ab
set_option linter.unusedVariables false
set_option linter.unusedSimpArgs false
set_option maxRecDepth 1000000
namespace Ab
noncomputable abbrev mPut_L0_I (blocks : Int) (l : List Ex) (x : Ex) (s0 : Bool) (s2 : Bool) : St := (St.mk [(0, (AV.yl 4)), (1, (AV.pt 3 0)), (2, (AV.pt 2 0)), (12, (AV.pt 3 0)), (13, (AV.i x.lba)), (14, (AV.pt 3 1)), (15, (AV.i x.len)), (16, (AV.i (wr (x.lba + x.len)))), (4, (AV.i (wr (x.lba + x.len)))), (5, (AV.b Bool.false)), (17, (exs l)), (18, (AV.i (↑(List.length l) : Int))), (19, (AV.i 0))] 67 (AH.mk 5 [(4, (AObj.loop Go.LoopState.ready Option.none [(0, (AV.i blocks)), (1, (exs l)), (2, (AV.ag (xc x))), (5, (AV.pt 0 0)), (6, (AV.pt 1 0)), (7, (AV.i 0)), (13, (AV.i blocks)), (14, (exs l)), (15, (AV.b s0)), (16, (AV.b (!s0))), (12, (AV.b (!s0))), (18, (AV.ag (xc x))), (19, (AV.b s2)), (20, (AV.b (!s2))), (21, (AV.b (!s2))), (22, (AV.pt 0 0)), (23, (AV.i x.lba)), (24, (AV.pt 0 1)), (25, (AV.i x.len)), (26, (AV.i (wr (x.lba + x.len)))), (27, (AV.i blocks)), (28, (AV.b (decide ((wr (x.lba + x.len)) > blocks)))), (29, (AV.b (decide ((wr (x.lba + x.len)) > blocks)))), (17, (AV.b (decide ((wr (x.lba + x.len)) > blocks)))), (32, (exs l)), (33, (AV.ag (xc x))), (34, (AV.fn (48 : Nat) [(AV.pt 3 0), (AV.pt 2 0)]))] 63 [(35 : Nat)] (rfA Try.prog 38 0) (rfB Try.prog 38 0))), (3, (AObj.cells (xc x))), (2, (AObj.cells [(exs l)])), (1, (AObj.cells [AV.nl])), (0, (AObj.cells (xc x)))]) Bool.false)
noncomputable abbrev mPut_L0_S (blocks : Int) (l : List Ex) (x : Ex) (s0 : Bool) (s2 : Bool) (s5 : Bool × Int × List Ex) : St := (St.mk [(0, (AV.yl 4)), (1, (AV.pt 3 0)), (2, (AV.pt 2 0)), (4, (AV.i (wr (x.lba + x.len)))), (5, (AV.b s5.1)), (17, (exs l)), (18, (AV.i (↑(List.length l) : Int))), (19, (AV.i s5.2.1))] 67 (AH.mk 6 [(4, (AObj.loop Go.LoopState.ready Option.none [(0, (AV.i blocks)), (1, (exs l)), (2, (AV.ag (xc x))), (5, (AV.pt 0 0)), (6, (AV.pt 1 0)), (7, (AV.i 0)), (12, (AV.b (!s0))), (17, (AV.b (decide ((wr (x.lba + x.len)) > blocks)))), (34, (AV.fn (48 : Nat) [(AV.pt 3 0), (AV.pt 2 0)]))] 63 [(35 : Nat)] (rfA Try.prog 38 0) (rfB Try.prog 38 0))), (3, (AObj.cells (xc x))), (2, (AObj.cells [(exs l)])), (1, (AObj.cells [(AV.rf 5 5 0 (List.length s5.2.2))])), (0, (AObj.cells (xc x))), (5, (AObj.cells (List.flatMap Ex.cells s5.2.2)))]) Bool.false)
noncomputable def mPut_L0_step (blocks : Int) (l : List Ex) (x : Ex) (s0 : Bool) (s2 : Bool) (s5 : Bool × Int × List Ex) : Option (Bool × Int × List Ex) :=
 (tb ((decide (s5.2.1 < (↑(List.length l) : Int))))
  (tp ((((0 : Int) ≤ s5.2.1) ∧ (s5.2.1 < (↑(List.length l) : Int))))
   (tc (eCut ((exAt l (Int.toNat s5.2.1))) ((0 : Int)) (x.lba)) fun s8 =>
    (tb (s8.2)
     (tc (mPut_B1 blocks l x s0 s2 s5 s8) fun s10 =>
      (tb ((!s5.1))
       (tb ((decide ((wr ((exAt l (Int.toNat s5.2.1)).lba + (exAt l (Int.toNat s5.2.1)).len)) > x.lba)))
        (tc (mPut_B2 blocks l x s0 s2 s5 s8 s10) fun s13 =>
         (tc (eCut ((exAt l (Int.toNat s5.2.1))) ((wr (x.lba + x.len))) ((64 : Int))) fun s14 =>
          (tb (s14.2)
           (tc (mPut_B3 blocks l x s0 s2 s5 s8 s10 s13 s14) fun s16 =>
            (some ((Bool.true, ((wr (s5.2.1 + (1 : Int))), s16.2)))))
           (some ((Bool.true, ((wr (s5.2.1 + (1 : Int))), s13.2)))))))
        (tc (eCut ((exAt l (Int.toNat s5.2.1))) ((wr (x.lba + x.len))) ((64 : Int))) fun s13 =>
         (tb (s13.2)
          (tc (mPut_B4 blocks l x s0 s2 s5 s8 s10 s13) fun s15 =>
           (some ((s5.1, ((wr (s5.2.1 + (1 : Int))), s15.2)))))
          (some ((s5.1, ((wr (s5.2.1 + (1 : Int))), s10.2)))))))
       (tc (eCut ((exAt l (Int.toNat s5.2.1))) ((wr (x.lba + x.len))) ((64 : Int))) fun s12 =>
        (tb (s12.2)
         (tc (mPut_B5 blocks l x s0 s2 s5 s8 s10 s12) fun s14 =>
          (some ((s5.1, ((wr (s5.2.1 + (1 : Int))), s14.2)))))
         (some ((s5.1, ((wr (s5.2.1 + (1 : Int))), s10.2))))))))
     (tb ((!s5.1))
      (tb ((decide ((wr ((exAt l (Int.toNat s5.2.1)).lba + (exAt l (Int.toNat s5.2.1)).len)) > x.lba)))
       (tc (mPut_B6 blocks l x s0 s2 s5 s8) fun s12 =>
        (tc (eCut ((exAt l (Int.toNat s5.2.1))) ((wr (x.lba + x.len))) ((64 : Int))) fun s13 =>
         (tb (s13.2)
          (tc (mPut_B7 blocks l x s0 s2 s5 s8 s12 s13) fun s15 =>
           (some ((Bool.true, ((wr (s5.2.1 + (1 : Int))), s15.2)))))
          (some ((Bool.true, ((wr (s5.2.1 + (1 : Int))), s12.2)))))))
       (tc (eCut ((exAt l (Int.toNat s5.2.1))) ((wr (x.lba + x.len))) ((64 : Int))) fun s12 =>
        (tb (s12.2)
         (tc (mPut_B8 blocks l x s0 s2 s5 s8 s12) fun s14 =>
          (some ((s5.1, ((wr (s5.2.1 + (1 : Int))), s14.2)))))
         (some ((s5.1, ((wr (s5.2.1 + (1 : Int))), s5.2.2)))))))
      (tc (eCut ((exAt l (Int.toNat s5.2.1))) ((wr (x.lba + x.len))) ((64 : Int))) fun s11 =>
       (tb (s11.2)
        (tc (mPut_B9 blocks l x s0 s2 s5 s8 s11) fun s13 =>
         (some ((s5.1, ((wr (s5.2.1 + (1 : Int))), s13.2)))))
        (some ((s5.1, ((wr (s5.2.1 + (1 : Int))), s5.2.2))))))))))
  none /- exit -/)
theorem mPut_L0_s0 (blocks : Int) (l : List Ex) (x : Ex) (s0 : Bool) (s2 : Bool) (s5 : Bool × Int × List Ex) (h6 : ((decide (s5.2.1 < (↑(List.length l) : Int)))) = true) (h6p : (s5.2.1 < (↑(List.length l) : Int))) (h7 : (((0 : Int) ≤ s5.2.1) ∧ (s5.2.1 < (↑(List.length l) : Int)))) (s8 : Ex × Bool) (h8 : eCut ((exAt l (Int.toNat s5.2.1))) ((0 : Int)) (x.lba) = some s8) (h9 : (s8.2) = true) (s10 : List Ex × List Ex) (h10 : mPut_B1 blocks l x s0 s2 s5 s8 = some s10) (h11 : ((!s5.1)) = true) (h12 : ((decide ((wr ((exAt l (Int.toNat s5.2.1)).lba + (exAt l (Int.toNat s5.2.1)).len)) > x.lba))) = true) (h12p : ((wr ((exAt l (Int.toNat s5.2.1)).lba + (exAt l (Int.toNat s5.2.1)).len)) > x.lba)) (s13 : List Ex × List Ex) (h13 : mPut_B2 blocks l x s0 s2 s5 s8 s10 = some s13) (s14 : Ex × Bool) (h14 : eCut ((exAt l (Int.toNat s5.2.1))) ((wr (x.lba + x.len))) ((64 : Int)) = some s14) (h15 : (s14.2) = true) (s16 : List Ex × List Ex) (h16 : mPut_B3 blocks l x s0 s2 s5 s8 s10 s13 s14 = some s16) : EvStep Try.prog cf 5 (lp Try.prog 48 0) (mPut_L0_S blocks l x s0 s2 s5) (mPut_L0_S blocks l x s0 s2 ((Bool.true, ((wr (s5.2.1 + (1 : Int))), s16.2)))) :=
  leafS vw_eq (k := 300) (r := []) (hs := hz [(1, [.yes, .yes, .yes, .cells ((Ex.cells (exAt l (Int.toNat s5.2.1))))]), (2, [.cells ((xc (exAt l (Int.toNat s5.2.1))))]), (1, [.cells ((xc (exAt l (Int.toNat s5.2.1))))]), (4, [.fres (.tu [Ex.av (s8.1), .b (s8.2)])]), (5, [.cells ((xc s8.1))]), (3, [.yes]), (1, [.yes]), (1, [.cells ((xc s8.1)), .yes]), (3, [.cells ((xc s8.1)), .res .normal (mPut_B1_S blocks l x s0 s2 s5 s8 s10), .yes]), (1, [.yes]), (4, [.yes]), (1, [.yes]), (2, [.yes]), (1, [.yes]), (2, [.yes]), (1, [.yes]), (1, [.yes]), (2, [.yes]), (1, [.yes, .yes]), (3, [.cells ((xc x))]), (3, [.cells ((xc x)), .res .normal (mPut_B2_S blocks l x s0 s2 s5 s8 s10 s13)]), (3, [.cells ((xc (exAt l (Int.toNat s5.2.1))))]), (2, [.fres (.tu [Ex.av (s14.1), .b (s14.2)])]), (5, [.cells ((xc s14.1))]), (3, [.yes]), (1, [.yes]), (1, [.cells ((xc s14.1)), .yes]), (3, [.cells ((xc s14.1)), .res .normal (mPut_B3_S blocks l x s0 s2 s5 s8 s10 s13 s14 s16), .yes]), (1, [.yes]), (3, [])]) (st1 := (St.mk [(0, (AV.yl 4)), (1, (AV.pt 3 0)), (2, (AV.pt 2 0)), (4, (AV.i (wr (x.lba + x.len)))), (5, (AV.b Bool.true)), (17, (exs l)), (18, (AV.i (↑(List.length l) : Int))), (19, (AV.i (wr (s5.2.1 + (1 : Int))))), (20, (AV.b (decide (s5.2.1 < (↑(List.length l) : Int))))), (21, (AV.ip (List.drop ((Int.toNat s5.2.1) * (5 : Nat)) (List.flatMap Ex.cells l)))), (22, (AV.ag (xc (exAt l (Int.toNat s5.2.1))))), (7, (AV.pt 6 0)), (24, (AV.ag (xc (exAt l (Int.toNat s5.2.1))))), (25, (AV.pt 3 0)), (26, (AV.i x.lba)), (27, (AV.tu [(AV.ag (xc s8.1)), (AV.b s8.2)])), (23, (AV.tu [(AV.ag (xc s8.1)), (AV.b s8.2)])), (28, (AV.ag (xc s8.1))), (29, (AV.b s8.2)), (8, (AV.pt 7 0)), (9, (AV.b s8.2)), (30, (AV.b s8.2)), (31, (AV.b s8.2)), (32, (AV.yl 4)), (33, (AV.ag (xc s8.1))), (34, (AV.b Bool.true)), (35, (AV.b (!Bool.true))), (36, (AV.b (!Bool.true))), (37, (AV.b s5.1)), (38, (AV.b (!s5.1))), (39, (AV.b (!s5.1))), (40, (AV.pt 6 0)), (41, (AV.i (exAt l (Int.toNat s5.2.1)).lba)), (42, (AV.pt 6 1)), (43, (AV.i (exAt l (Int.toNat s5.2.1)).len)), (44, (AV.i (wr ((exAt l (Int.toNat s5.2.1)).lba + (exAt l (Int.toNat s5.2.1)).len)))), (45, (AV.pt 3 0)), (46, (AV.i x.lba)), (47, (AV.b (decide ((wr ((exAt l (Int.toNat s5.2.1)).lba + (exAt l (Int.toNat s5.2.1)).len)) > x.lba)))), (48, (AV.b (decide ((wr ((exAt l (Int.toNat s5.2.1)).lba + (exAt l (Int.toNat s5.2.1)).len)) > x.lba)))), (49, (AV.yl 4)), (50, (AV.ag (xc x))), (51, (AV.b Bool.true)), (52, (AV.b (!Bool.true))), (54, (AV.ag (xc (exAt l (Int.toNat s5.2.1))))), (55, (AV.i (wr (x.lba + x.len)))), (56, (AV.tu [(AV.ag (xc s14.1)), (AV.b s14.2)])), (53, (AV.tu [(AV.ag (xc s14.1)), (AV.b s14.2)])), (57, (AV.ag (xc s14.1))), (58, (AV.b s14.2)), (10, (AV.pt 12 0)), (11, (AV.b s14.2)), (59, (AV.b s14.2)), (60, (AV.b s14.2)), (61, (AV.yl 4)), (62, (AV.ag (xc s14.1))), (63, (AV.b Bool.true)), (64, (AV.b (!Bool.true))), (65, (AV.b (!Bool.true))), (66, (AV.i (wr (s5.2.1 + (1 : Int)))))] 67 (AH.mk 15 [(13, (AObj.cells (xc s14.1))), (12, (AObj.cells (xc s14.1))), (10, (AObj.cells (xc x))), (8, (AObj.cells (xc s8.1))), (7, (AObj.cells (xc s8.1))), (6, (AObj.cells (xc (exAt l (Int.toNat s5.2.1))))), (4, (AObj.loop Go.LoopState.ready Option.none [(0, (AV.i blocks)), (1, (exs l)), (2, (AV.ag (xc x))), (5, (AV.pt 0 0)), (6, (AV.pt 1 0)), (7, (AV.i 0)), (12, (AV.b (!s0))), (17, (AV.b (decide ((wr (x.lba + x.len)) > blocks)))), (34, (AV.fn (48 : Nat) [(AV.pt 3 0), (AV.pt 2 0)]))] 63 [(35 : Nat)] (rfA Try.prog 38 0) (rfB Try.prog 38 0))), (3, (AObj.cells (xc x))), (2, (AObj.cells [(exs l)])), (1, (AObj.cells [(AV.rf 14 5 0 (List.length s16.2))])), (0, (AObj.cells (xc x))), (14, (AObj.cells (List.flatMap Ex.cells s16.2)))]) Bool.false)) kq (ac h6 (ac h7 (ac (fq (p := ((5 : Nat) ≤ (List.length (List.drop ((Int.toNat s5.2.1) * (5 : Nat)) (List.flatMap Ex.cells l)))))) (ac (show (List.take 5 (List.drop ((Int.toNat s5.2.1) * (5 : Nat)) (List.flatMap Ex.cells l))) = (Ex.cells (exAt l (Int.toNat s5.2.1))) from (ex_takeO bq bq)) (ac (Eq.refl ((xc (exAt l (Int.toNat s5.2.1))) : List AV)) (ac (Eq.refl ((xc (exAt l (Int.toNat s5.2.1))) : List AV)) (ac (eCut_ok ((exAt l (Int.toNat s5.2.1))) ((0 : Int)) (x.lba) _ h8).any0 (ac (Eq.refl ((xc s8.1) : List AV)) (ac h9 (ac h9 (ac (Eq.refl ((xc s8.1) : List AV)) (ac h9 (ac (Eq.refl ((xc s8.1) : List AV)) (ac (show Ev Try.prog cf ((rfB Try.prog 38 0)) (mPut_B1_I blocks l x s0 s2 s5 s8) (.normal, mPut_B1_S blocks l x s0 s2 s5 s8 s10) from (EvStep.ev (mPut_B1_ok blocks l x s0 s2 s5 s8 _ h10) rfl)) (ac h9 (ac h9 (ac h11 (ac h11 (ac h11 (ac h11 (ac h11 (ac h11 (ac h11 (ac h11 (ac h11 (ac h12 (ac (Eq.refl ((xc x) : List AV)) (ac (Eq.refl ((xc x) : List AV)) (ac (show Ev Try.prog cf ((rfB Try.prog 38 0)) (mPut_B2_I blocks l x s0 s2 s5 s8 s10) (.normal, mPut_B2_S blocks l x s0 s2 s5 s8 s10 s13) from (EvStep.ev (mPut_B2_ok blocks l x s0 s2 s5 s8 s10 _ h13) rfl)) (ac (Eq.refl ((xc (exAt l (Int.toNat s5.2.1))) : List AV)) (ac (eCut_ok ((exAt l (Int.toNat s5.2.1))) ((wr (x.lba + x.len))) ((64 : Int)) _ h14).any0 (ac (Eq.refl ((xc s14.1) : List AV)) (ac h15 (ac h15 (ac (Eq.refl ((xc s14.1) : List AV)) (ac h15 (ac (Eq.refl ((xc s14.1) : List AV)) (ac (show Ev Try.prog cf ((rfB Try.prog 38 0)) (mPut_B3_I blocks l x s0 s2 s5 s8 s10 s13 s14) (.normal, mPut_B3_S blocks l x s0 s2 s5 s8 s10 s13 s14 s16) from (EvStep.ev (mPut_B3_ok blocks l x s0 s2 s5 s8 s10 s13 s14 _ h16) rfl)) (ac h15 (ac h15 an)))))))))))))))))))))))))))))))))))))))) (Nat.le_of_ble_eq_true rfl) (absB_of [14] [] kq (.consn kq (.yl rfl) (.consn kq (.pt rfl) (.consn kq (.pt rfl) (.consn kq (.eqv tq rfl) (.consn kq (.eqv tq rfl) (.consn kq (.eqv tq rfl) (.consn kq (.eqv tq rfl) (.consn kq (.eqv tq rfl) .nil)))))))) (.cons (.old rfl rfl (.loop (.consn kq (.eqv tq rfl) (.consn kq (.eqv tq rfl) (.consn kq (.agp pq) (.consn kq (.pt rfl) (.consn kq (.pt rfl) (.consn kq (.eqv tq rfl) (.consn kq (.eqv tq rfl) (.consn kq (.eqv tq rfl) (.consn kq (.fn (.cons (.pt rfl) (.cons (.pt rfl) .nil))) .nil))))))))))) (.cons (.old rfl rfl (.cells (.pl rfl pq))) (.cons (.old rfl rfl (.cells (.cons (.eqv tq rfl) .nil))) (.cons (.old rfl rfl (.cells (.cons (.rfn (n := (List.length s16.2)) rfl tq) .nil))) (.cons (.old rfl rfl (.cells (.pl rfl pq))) (.cons (.old rfl rfl (.cells (.pl tq pq))) .nil)))))))
theorem mPut_L0_s1 (blocks : Int) (l : List Ex) (x : Ex) (s0 : Bool) (s2 : Bool) (s5 : Bool × Int × List Ex) (h6 : ((decide (s5.2.1 < (↑(List.length l) : Int)))) = true) (h6p : (s5.2.1 < (↑(List.length l) : Int))) (h7 : (((0 : Int) ≤ s5.2.1) ∧ (s5.2.1 < (↑(List.length l) : Int)))) (s8 : Ex × Bool) (h8 : eCut ((exAt l (Int.toNat s5.2.1))) ((0 : Int)) (x.lba) = some s8) (h9 : (s8.2) = true) (s10 : List Ex × List Ex) (h10 : mPut_B1 blocks l x s0 s2 s5 s8 = some s10) (h11 : ((!s5.1)) = true) (h12 : ((decide ((wr ((exAt l (Int.toNat s5.2.1)).lba + (exAt l (Int.toNat s5.2.1)).len)) > x.lba))) = true) (h12p : ((wr ((exAt l (Int.toNat s5.2.1)).lba + (exAt l (Int.toNat s5.2.1)).len)) > x.lba)) (s13 : List Ex × List Ex) (h13 : mPut_B2 blocks l x s0 s2 s5 s8 s10 = some s13) (s14 : Ex × Bool) (h14 : eCut ((exAt l (Int.toNat s5.2.1))) ((wr (x.lba + x.len))) ((64 : Int)) = some s14) (h15 : (s14.2) = false) : EvStep Try.prog cf 5 (lp Try.prog 48 0) (mPut_L0_S blocks l x s0 s2 s5) (mPut_L0_S blocks l x s0 s2 ((Bool.true, ((wr (s5.2.1 + (1 : Int))), s13.2)))) :=
  leafS vw_eq (k := 300) (r := []) (hs := hz [(1, [.yes, .yes, .yes, .cells ((Ex.cells (exAt l (Int.toNat s5.2.1))))]), (2, [.cells ((xc (exAt l (Int.toNat s5.2.1))))]), (1, [.cells ((xc (exAt l (Int.toNat s5.2.1))))]), (4, [.fres (.tu [Ex.av (s8.1), .b (s8.2)])]), (5, [.cells ((xc s8.1))]), (3, [.yes]), (1, [.yes]), (1, [.cells ((xc s8.1)), .yes]), (3, [.cells ((xc s8.1)), .res .normal (mPut_B1_S blocks l x s0 s2 s5 s8 s10), .yes]), (1, [.yes]), (4, [.yes]), (1, [.yes]), (2, [.yes]), (1, [.yes]), (2, [.yes]), (1, [.yes]), (1, [.yes]), (2, [.yes]), (1, [.yes, .yes]), (3, [.cells ((xc x))]), (3, [.cells ((xc x)), .res .normal (mPut_B2_S blocks l x s0 s2 s5 s8 s10 s13)]), (3, [.cells ((xc (exAt l (Int.toNat s5.2.1))))]), (2, [.fres (.tu [Ex.av (s14.1), .b (s14.2)])]), (5, [.cells ((xc s14.1))]), (3, [.no, .no, .no, .no, .no]), (3, [])]) (st1 := (St.mk [(0, (AV.yl 4)), (1, (AV.pt 3 0)), (2, (AV.pt 2 0)), (4, (AV.i (wr (x.lba + x.len)))), (5, (AV.b Bool.true)), (17, (exs l)), (18, (AV.i (↑(List.length l) : Int))), (19, (AV.i (wr (s5.2.1 + (1 : Int))))), (20, (AV.b (decide (s5.2.1 < (↑(List.length l) : Int))))), (21, (AV.ip (List.drop ((Int.toNat s5.2.1) * (5 : Nat)) (List.flatMap Ex.cells l)))), (22, (AV.ag (xc (exAt l (Int.toNat s5.2.1))))), (7, (AV.pt 6 0)), (24, (AV.ag (xc (exAt l (Int.toNat s5.2.1))))), (25, (AV.pt 3 0)), (26, (AV.i x.lba)), (27, (AV.tu [(AV.ag (xc s8.1)), (AV.b s8.2)])), (23, (AV.tu [(AV.ag (xc s8.1)), (AV.b s8.2)])), (28, (AV.ag (xc s8.1))), (29, (AV.b s8.2)), (8, (AV.pt 7 0)), (9, (AV.b s8.2)), (30, (AV.b s8.2)), (31, (AV.b s8.2)), (32, (AV.yl 4)), (33, (AV.ag (xc s8.1))), (34, (AV.b Bool.true)), (35, (AV.b (!Bool.true))), (36, (AV.b (!Bool.true))), (37, (AV.b s5.1)), (38, (AV.b (!s5.1))), (39, (AV.b (!s5.1))), (40, (AV.pt 6 0)), (41, (AV.i (exAt l (Int.toNat s5.2.1)).lba)), (42, (AV.pt 6 1)), (43, (AV.i (exAt l (Int.toNat s5.2.1)).len)), (44, (AV.i (wr ((exAt l (Int.toNat s5.2.1)).lba + (exAt l (Int.toNat s5.2.1)).len)))), (45, (AV.pt 3 0)), (46, (AV.i x.lba)), (47, (AV.b (decide ((wr ((exAt l (Int.toNat s5.2.1)).lba + (exAt l (Int.toNat s5.2.1)).len)) > x.lba)))), (48, (AV.b (decide ((wr ((exAt l (Int.toNat s5.2.1)).lba + (exAt l (Int.toNat s5.2.1)).len)) > x.lba)))), (49, (AV.yl 4)), (50, (AV.ag (xc x))), (51, (AV.b Bool.true)), (52, (AV.b (!Bool.true))), (54, (AV.ag (xc (exAt l (Int.toNat s5.2.1))))), (55, (AV.i (wr (x.lba + x.len)))), (56, (AV.tu [(AV.ag (xc s14.1)), (AV.b s14.2)])), (53, (AV.tu [(AV.ag (xc s14.1)), (AV.b s14.2)])), (57, (AV.ag (xc s14.1))), (58, (AV.b s14.2)), (10, (AV.pt 12 0)), (11, (AV.b s14.2)), (59, (AV.b s14.2)), (60, (AV.b s14.2)), (61, (AV.tu ([] : List AV))), (62, (AV.tu ([] : List AV))), (63, (AV.tu ([] : List AV))), (64, (AV.tu ([] : List AV))), (65, (AV.b Bool.false)), (66, (AV.i (wr (s5.2.1 + (1 : Int)))))] 67 (AH.mk 13 [(12, (AObj.cells (xc s14.1))), (10, (AObj.cells (xc x))), (8, (AObj.cells (xc s8.1))), (7, (AObj.cells (xc s8.1))), (6, (AObj.cells (xc (exAt l (Int.toNat s5.2.1))))), (4, (AObj.loop Go.LoopState.ready Option.none [(0, (AV.i blocks)), (1, (exs l)), (2, (AV.ag (xc x))), (5, (AV.pt 0 0)), (6, (AV.pt 1 0)), (7, (AV.i 0)), (12, (AV.b (!s0))), (17, (AV.b (decide ((wr (x.lba + x.len)) > blocks)))), (34, (AV.fn (48 : Nat) [(AV.pt 3 0), (AV.pt 2 0)]))] 63 [(35 : Nat)] (rfA Try.prog 38 0) (rfB Try.prog 38 0))), (3, (AObj.cells (xc x))), (2, (AObj.cells [(exs l)])), (1, (AObj.cells [(AV.rf 11 5 0 (List.length s13.2))])), (0, (AObj.cells (xc x))), (11, (AObj.cells (List.flatMap Ex.cells s13.2)))]) Bool.false)) kq (ac h6 (ac h7 (ac (fq (p := ((5 : Nat) ≤ (List.length (List.drop ((Int.toNat s5.2.1) * (5 : Nat)) (List.flatMap Ex.cells l)))))) (ac (show (List.take 5 (List.drop ((Int.toNat s5.2.1) * (5 : Nat)) (List.flatMap Ex.cells l))) = (Ex.cells (exAt l (Int.toNat s5.2.1))) from (ex_takeO bq bq)) (ac (Eq.refl ((xc (exAt l (Int.toNat s5.2.1))) : List AV)) (ac (Eq.refl ((xc (exAt l (Int.toNat s5.2.1))) : List AV)) (ac (eCut_ok ((exAt l (Int.toNat s5.2.1))) ((0 : Int)) (x.lba) _ h8).any0 (ac (Eq.refl ((xc s8.1) : List AV)) (ac h9 (ac h9 (ac (Eq.refl ((xc s8.1) : List AV)) (ac h9 (ac (Eq.refl ((xc s8.1) : List AV)) (ac (show Ev Try.prog cf ((rfB Try.prog 38 0)) (mPut_B1_I blocks l x s0 s2 s5 s8) (.normal, mPut_B1_S blocks l x s0 s2 s5 s8 s10) from (EvStep.ev (mPut_B1_ok blocks l x s0 s2 s5 s8 _ h10) rfl)) (ac h9 (ac h9 (ac h11 (ac h11 (ac h11 (ac h11 (ac h11 (ac h11 (ac h11 (ac h11 (ac h11 (ac h12 (ac (Eq.refl ((xc x) : List AV)) (ac (Eq.refl ((xc x) : List AV)) (ac (show Ev Try.prog cf ((rfB Try.prog 38 0)) (mPut_B2_I blocks l x s0 s2 s5 s8 s10) (.normal, mPut_B2_S blocks l x s0 s2 s5 s8 s10 s13) from (EvStep.ev (mPut_B2_ok blocks l x s0 s2 s5 s8 s10 _ h13) rfl)) (ac (Eq.refl ((xc (exAt l (Int.toNat s5.2.1))) : List AV)) (ac (eCut_ok ((exAt l (Int.toNat s5.2.1))) ((wr (x.lba + x.len))) ((64 : Int)) _ h14).any0 (ac (Eq.refl ((xc s14.1) : List AV)) (ac h15 (ac h15 (ac h15 (ac h15 (ac h15 an))))))))))))))))))))))))))))))))))))) (Nat.le_of_ble_eq_true rfl) (absB_of [11] [] kq (.consn kq (.yl rfl) (.consn kq (.pt rfl) (.consn kq (.pt rfl) (.consn kq (.eqv tq rfl) (.consn kq (.eqv tq rfl) (.consn kq (.eqv tq rfl) (.consn kq (.eqv tq rfl) (.consn kq (.eqv tq rfl) .nil)))))))) (.cons (.old rfl rfl (.loop (.consn kq (.eqv tq rfl) (.consn kq (.eqv tq rfl) (.consn kq (.agp pq) (.consn kq (.pt rfl) (.consn kq (.pt rfl) (.consn kq (.eqv tq rfl) (.consn kq (.eqv tq rfl) (.consn kq (.eqv tq rfl) (.consn kq (.fn (.cons (.pt rfl) (.cons (.pt rfl) .nil))) .nil))))))))))) (.cons (.old rfl rfl (.cells (.pl rfl pq))) (.cons (.old rfl rfl (.cells (.cons (.eqv tq rfl) .nil))) (.cons (.old rfl rfl (.cells (.cons (.rfn (n := (List.length s13.2)) rfl tq) .nil))) (.cons (.old rfl rfl (.cells (.pl rfl pq))) (.cons (.old rfl rfl (.cells (.pl tq pq))) .nil)))))))
theorem mPut_L0_s2 (blocks : Int) (l : List Ex) (x : Ex) (s0 : Bool) (s2 : Bool) (s5 : Bool × Int × List Ex) (h6 : ((decide (s5.2.1 < (↑(List.length l) : Int)))) = true) (h6p : (s5.2.1 < (↑(List.length l) : Int))) (h7 : (((0 : Int) ≤ s5.2.1) ∧ (s5.2.1 < (↑(List.length l) : Int)))) (s8 : Ex × Bool) (h8 : eCut ((exAt l (Int.toNat s5.2.1))) ((0 : Int)) (x.lba) = some s8) (h9 : (s8.2) = true) (s10 : List Ex × List Ex) (h10 : mPut_B1 blocks l x s0 s2 s5 s8 = some s10) (h11 : ((!s5.1)) = true) (h12 : ((decide ((wr ((exAt l (Int.toNat s5.2.1)).lba + (exAt l (Int.toNat s5.2.1)).len)) > x.lba))) = false) (h12p : ¬ ((wr ((exAt l (Int.toNat s5.2.1)).lba + (exAt l (Int.toNat s5.2.1)).len)) > x.lba)) (s13 : Ex × Bool) (h13 : eCut ((exAt l (Int.toNat s5.2.1))) ((wr (x.lba + x.len))) ((64 : Int)) = some s13) (h14 : (s13.2) = true) (s15 : List Ex × List Ex) (h15 : mPut_B4 blocks l x s0 s2 s5 s8 s10 s13 = some s15) : EvStep Try.prog cf 5 (lp Try.prog 48 0) (mPut_L0_S blocks l x s0 s2 s5) (mPut_L0_S blocks l x s0 s2 ((s5.1, ((wr (s5.2.1 + (1 : Int))), s15.2)))) :=
  leafS vw_eq (k := 300) (r := []) (hs := hz [(1, [.yes, .yes, .yes, .cells ((Ex.cells (exAt l (Int.toNat s5.2.1))))]), (2, [.cells ((xc (exAt l (Int.toNat s5.2.1))))]), (1, [.cells ((xc (exAt l (Int.toNat s5.2.1))))]), (4, [.fres (.tu [Ex.av (s8.1), .b (s8.2)])]), (5, [.cells ((xc s8.1))]), (3, [.yes]), (1, [.yes]), (1, [.cells ((xc s8.1)), .yes]), (3, [.cells ((xc s8.1)), .res .normal (mPut_B1_S blocks l x s0 s2 s5 s8 s10), .yes]), (1, [.yes]), (4, [.yes]), (1, [.yes]), (2, [.yes]), (1, [.yes]), (2, [.yes]), (1, [.yes]), (1, [.yes]), (2, [.yes]), (1, [.yes, .no]), (1, [.cells ((xc (exAt l (Int.toNat s5.2.1))))]), (2, [.fres (.tu [Ex.av (s13.1), .b (s13.2)])]), (5, [.cells ((xc s13.1))]), (3, [.yes]), (1, [.yes]), (1, [.cells ((xc s13.1)), .yes]), (3, [.cells ((xc s13.1)), .res .normal (mPut_B4_S blocks l x s0 s2 s5 s8 s10 s13 s15), .yes]), (1, [.yes]), (3, [])]) (st1 := (St.mk [(0, (AV.yl 4)), (1, (AV.pt 3 0)), (2, (AV.pt 2 0)), (4, (AV.i (wr (x.lba + x.len)))), (5, (AV.b s5.1)), (17, (exs l)), (18, (AV.i (↑(List.length l) : Int))), (19, (AV.i (wr (s5.2.1 + (1 : Int))))), (20, (AV.b (decide (s5.2.1 < (↑(List.length l) : Int))))), (21, (AV.ip (List.drop ((Int.toNat s5.2.1) * (5 : Nat)) (List.flatMap Ex.cells l)))), (22, (AV.ag (xc (exAt l (Int.toNat s5.2.1))))), (7, (AV.pt 6 0)), (24, (AV.ag (xc (exAt l (Int.toNat s5.2.1))))), (25, (AV.pt 3 0)), (26, (AV.i x.lba)), (27, (AV.tu [(AV.ag (xc s8.1)), (AV.b s8.2)])), (23, (AV.tu [(AV.ag (xc s8.1)), (AV.b s8.2)])), (28, (AV.ag (xc s8.1))), (29, (AV.b s8.2)), (8, (AV.pt 7 0)), (9, (AV.b s8.2)), (30, (AV.b s8.2)), (31, (AV.b s8.2)), (32, (AV.yl 4)), (33, (AV.ag (xc s8.1))), (34, (AV.b Bool.true)), (35, (AV.b (!Bool.true))), (36, (AV.b (!Bool.true))), (37, (AV.b s5.1)), (38, (AV.b (!s5.1))), (39, (AV.b (!s5.1))), (40, (AV.pt 6 0)), (41, (AV.i (exAt l (Int.toNat s5.2.1)).lba)), (42, (AV.pt 6 1)), (43, (AV.i (exAt l (Int.toNat s5.2.1)).len)), (44, (AV.i (wr ((exAt l (Int.toNat s5.2.1)).lba + (exAt l (Int.toNat s5.2.1)).len)))), (45, (AV.pt 3 0)), (46, (AV.i x.lba)), (47, (AV.b (decide ((wr ((exAt l (Int.toNat s5.2.1)).lba + (exAt l (Int.toNat s5.2.1)).len)) > x.lba)))), (48, (AV.b (decide ((wr ((exAt l (Int.toNat s5.2.1)).lba + (exAt l (Int.toNat s5.2.1)).len)) > x.lba)))), (54, (AV.ag (xc (exAt l (Int.toNat s5.2.1))))), (55, (AV.i (wr (x.lba + x.len)))), (56, (AV.tu [(AV.ag (xc s13.1)), (AV.b s13.2)])), (53, (AV.tu [(AV.ag (xc s13.1)), (AV.b s13.2)])), (57, (AV.ag (xc s13.1))), (58, (AV.b s13.2)), (10, (AV.pt 10 0)), (11, (AV.b s13.2)), (59, (AV.b s13.2)), (60, (AV.b s13.2)), (61, (AV.yl 4)), (62, (AV.ag (xc s13.1))), (63, (AV.b Bool.true)), (64, (AV.b (!Bool.true))), (65, (AV.b (!Bool.true))), (66, (AV.i (wr (s5.2.1 + (1 : Int)))))] 67 (AH.mk 13 [(11, (AObj.cells (xc s13.1))), (10, (AObj.cells (xc s13.1))), (8, (AObj.cells (xc s8.1))), (7, (AObj.cells (xc s8.1))), (6, (AObj.cells (xc (exAt l (Int.toNat s5.2.1))))), (4, (AObj.loop Go.LoopState.ready Option.none [(0, (AV.i blocks)), (1, (exs l)), (2, (AV.ag (xc x))), (5, (AV.pt 0 0)), (6, (AV.pt 1 0)), (7, (AV.i 0)), (12, (AV.b (!s0))), (17, (AV.b (decide ((wr (x.lba + x.len)) > blocks)))), (34, (AV.fn (48 : Nat) [(AV.pt 3 0), (AV.pt 2 0)]))] 63 [(35 : Nat)] (rfA Try.prog 38 0) (rfB Try.prog 38 0))), (3, (AObj.cells (xc x))), (2, (AObj.cells [(exs l)])), (1, (AObj.cells [(AV.rf 12 5 0 (List.length s15.2))])), (0, (AObj.cells (xc x))), (12, (AObj.cells (List.flatMap Ex.cells s15.2)))]) Bool.false)) kq (ac h6 (ac h7 (ac (fq (p := ((5 : Nat) ≤ (List.length (List.drop ((Int.toNat s5.2.1) * (5 : Nat)) (List.flatMap Ex.cells l)))))) (ac (show (List.take 5 (List.drop ((Int.toNat s5.2.1) * (5 : Nat)) (List.flatMap Ex.cells l))) = (Ex.cells (exAt l (Int.toNat s5.2.1))) from (ex_takeO bq bq)) (ac (Eq.refl ((xc (exAt l (Int.toNat s5.2.1))) : List AV)) (ac (Eq.refl ((xc (exAt l (Int.toNat s5.2.1))) : List AV)) (ac (eCut_ok ((exAt l (Int.toNat s5.2.1))) ((0 : Int)) (x.lba) _ h8).any0 (ac (Eq.refl ((xc s8.1) : List AV)) (ac h9 (ac h9 (ac (Eq.refl ((xc s8.1) : List AV)) (ac h9 (ac (Eq.refl ((xc s8.1) : List AV)) (ac (show Ev Try.prog cf ((rfB Try.prog 38 0)) (mPut_B1_I blocks l x s0 s2 s5 s8) (.normal, mPut_B1_S blocks l x s0 s2 s5 s8 s10) from (EvStep.ev (mPut_B1_ok blocks l x s0 s2 s5 s8 _ h10) rfl)) (ac h9 (ac h9 (ac h11 (ac h11 (ac h11 (ac h11 (ac h11 (ac h11 (ac h11 (ac h11 (ac h11 (ac h12 (ac (Eq.refl ((xc (exAt l (Int.toNat s5.2.1))) : List AV)) (ac (eCut_ok ((exAt l (Int.toNat s5.2.1))) ((wr (x.lba + x.len))) ((64 : Int)) _ h13).any0 (ac (Eq.refl ((xc s13.1) : List AV)) (ac h14 (ac h14 (ac (Eq.refl ((xc s13.1) : List AV)) (ac h14 (ac (Eq.refl ((xc s13.1) : List AV)) (ac (show Ev Try.prog cf ((rfB Try.prog 38 0)) (mPut_B4_I blocks l x s0 s2 s5 s8 s10 s13) (.normal, mPut_B4_S blocks l x s0 s2 s5 s8 s10 s13 s15) from (EvStep.ev (mPut_B4_ok blocks l x s0 s2 s5 s8 s10 s13 _ h15) rfl)) (ac h14 (ac h14 an))))))))))))))))))))))))))))))))))))) (Nat.le_of_ble_eq_true rfl) (absB_of [12] [] kq (.consn kq (.yl rfl) (.consn kq (.pt rfl) (.consn kq (.pt rfl) (.consn kq (.eqv tq rfl) (.consn kq (.eqv tq rfl) (.consn kq (.eqv tq rfl) (.consn kq (.eqv tq rfl) (.consn kq (.eqv tq rfl) .nil)))))))) (.cons (.old rfl rfl (.loop (.consn kq (.eqv tq rfl) (.consn kq (.eqv tq rfl) (.consn kq (.agp pq) (.consn kq (.pt rfl) (.consn kq (.pt rfl) (.consn kq (.eqv tq rfl) (.consn kq (.eqv tq rfl) (.consn kq (.eqv tq rfl) (.consn kq (.fn (.cons (.pt rfl) (.cons (.pt rfl) .nil))) .nil))))))))))) (.cons (.old rfl rfl (.cells (.pl rfl pq))) (.cons (.old rfl rfl (.cells (.cons (.eqv tq rfl) .nil))) (.cons (.old rfl rfl (.cells (.cons (.rfn (n := (List.length s15.2)) rfl tq) .nil))) (.cons (.old rfl rfl (.cells (.pl rfl pq))) (.cons (.old rfl rfl (.cells (.pl tq pq))) .nil)))))))
theorem mPut_L0_s3 (blocks : Int) (l : List Ex) (x : Ex) (s0 : Bool) (s2 : Bool) (s5 : Bool × Int × List Ex) (h6 : ((decide (s5.2.1 < (↑(List.length l) : Int)))) = true) (h6p : (s5.2.1 < (↑(List.length l) : Int))) (h7 : (((0 : Int) ≤ s5.2.1) ∧ (s5.2.1 < (↑(List.length l) : Int)))) (s8 : Ex × Bool) (h8 : eCut ((exAt l (Int.toNat s5.2.1))) ((0 : Int)) (x.lba) = some s8) (h9 : (s8.2) = true) (s10 : List Ex × List Ex) (h10 : mPut_B1 blocks l x s0 s2 s5 s8 = some s10) (h11 : ((!s5.1)) = true) (h12 : ((decide ((wr ((exAt l (Int.toNat s5.2.1)).lba + (exAt l (Int.toNat s5.2.1)).len)) > x.lba))) = false) (h12p : ¬ ((wr ((exAt l (Int.toNat s5.2.1)).lba + (exAt l (Int.toNat s5.2.1)).len)) > x.lba)) (s13 : Ex × Bool) (h13 : eCut ((exAt l (Int.toNat s5.2.1))) ((wr (x.lba + x.len))) ((64 : Int)) = some s13) (h14 : (s13.2) = false) : EvStep Try.prog cf 5 (lp Try.prog 48 0) (mPut_L0_S blocks l x s0 s2 s5) (mPut_L0_S blocks l x s0 s2 ((s5.1, ((wr (s5.2.1 + (1 : Int))), s10.2)))) :=
  leafS vw_eq (k := 300) (r := []) (hs := hz [(1, [.yes, .yes, .yes, .cells ((Ex.cells (exAt l (Int.toNat s5.2.1))))]), (2, [.cells ((xc (exAt l (Int.toNat s5.2.1))))]), (1, [.cells ((xc (exAt l (Int.toNat s5.2.1))))]), (4, [.fres (.tu [Ex.av (s8.1), .b (s8.2)])]), (5, [.cells ((xc s8.1))]), (3, [.yes]), (1, [.yes]), (1, [.cells ((xc s8.1)), .yes]), (3, [.cells ((xc s8.1)), .res .normal (mPut_B1_S blocks l x s0 s2 s5 s8 s10), .yes]), (1, [.yes]), (4, [.yes]), (1, [.yes]), (2, [.yes]), (1, [.yes]), (2, [.yes]), (1, [.yes]), (1, [.yes]), (2, [.yes]), (1, [.yes, .no]), (1, [.cells ((xc (exAt l (Int.toNat s5.2.1))))]), (2, [.fres (.tu [Ex.av (s13.1), .b (s13.2)])]), (5, [.cells ((xc s13.1))]), (3, [.no, .no, .no, .no, .no]), (3, [])]) (st1 := (St.mk [(0, (AV.yl 4)), (1, (AV.pt 3 0)), (2, (AV.pt 2 0)), (4, (AV.i (wr (x.lba + x.len)))), (5, (AV.b s5.1)), (17, (exs l)), (18, (AV.i (↑(List.length l) : Int))), (19, (AV.i (wr (s5.2.1 + (1 : Int))))), (20, (AV.b (decide (s5.2.1 < (↑(List.length l) : Int))))), (21, (AV.ip (List.drop ((Int.toNat s5.2.1) * (5 : Nat)) (List.flatMap Ex.cells l)))), (22, (AV.ag (xc (exAt l (Int.toNat s5.2.1))))), (7, (AV.pt 6 0)), (24, (AV.ag (xc (exAt l (Int.toNat s5.2.1))))), (25, (AV.pt 3 0)), (26, (AV.i x.lba)), (27, (AV.tu [(AV.ag (xc s8.1)), (AV.b s8.2)])), (23, (AV.tu [(AV.ag (xc s8.1)), (AV.b s8.2)])), (28, (AV.ag (xc s8.1))), (29, (AV.b s8.2)), (8, (AV.pt 7 0)), (9, (AV.b s8.2)), (30, (AV.b s8.2)), (31, (AV.b s8.2)), (32, (AV.yl 4)), (33, (AV.ag (xc s8.1))), (34, (AV.b Bool.true)), (35, (AV.b (!Bool.true))), (36, (AV.b (!Bool.true))), (37, (AV.b s5.1)), (38, (AV.b (!s5.1))), (39, (AV.b (!s5.1))), (40, (AV.pt 6 0)), (41, (AV.i (exAt l (Int.toNat s5.2.1)).lba)), (42, (AV.pt 6 1)), (43, (AV.i (exAt l (Int.toNat s5.2.1)).len)), (44, (AV.i (wr ((exAt l (Int.toNat s5.2.1)).lba + (exAt l (Int.toNat s5.2.1)).len)))), (45, (AV.pt 3 0)), (46, (AV.i x.lba)), (47, (AV.b (decide ((wr ((exAt l (Int.toNat s5.2.1)).lba + (exAt l (Int.toNat s5.2.1)).len)) > x.lba)))), (48, (AV.b (decide ((wr ((exAt l (Int.toNat s5.2.1)).lba + (exAt l (Int.toNat s5.2.1)).len)) > x.lba)))), (54, (AV.ag (xc (exAt l (Int.toNat s5.2.1))))), (55, (AV.i (wr (x.lba + x.len)))), (56, (AV.tu [(AV.ag (xc s13.1)), (AV.b s13.2)])), (53, (AV.tu [(AV.ag (xc s13.1)), (AV.b s13.2)])), (57, (AV.ag (xc s13.1))), (58, (AV.b s13.2)), (10, (AV.pt 10 0)), (11, (AV.b s13.2)), (59, (AV.b s13.2)), (60, (AV.b s13.2)), (61, (AV.tu ([] : List AV))), (62, (AV.tu ([] : List AV))), (63, (AV.tu ([] : List AV))), (64, (AV.tu ([] : List AV))), (65, (AV.b Bool.false)), (66, (AV.i (wr (s5.2.1 + (1 : Int)))))] 67 (AH.mk 11 [(10, (AObj.cells (xc s13.1))), (8, (AObj.cells (xc s8.1))), (7, (AObj.cells (xc s8.1))), (6, (AObj.cells (xc (exAt l (Int.toNat s5.2.1))))), (4, (AObj.loop Go.LoopState.ready Option.none [(0, (AV.i blocks)), (1, (exs l)), (2, (AV.ag (xc x))), (5, (AV.pt 0 0)), (6, (AV.pt 1 0)), (7, (AV.i 0)), (12, (AV.b (!s0))), (17, (AV.b (decide ((wr (x.lba + x.len)) > blocks)))), (34, (AV.fn (48 : Nat) [(AV.pt 3 0), (AV.pt 2 0)]))] 63 [(35 : Nat)] (rfA Try.prog 38 0) (rfB Try.prog 38 0))), (3, (AObj.cells (xc x))), (2, (AObj.cells [(exs l)])), (1, (AObj.cells [(AV.rf 9 5 0 (List.length s10.2))])), (0, (AObj.cells (xc x))), (9, (AObj.cells (List.flatMap Ex.cells s10.2)))]) Bool.false)) kq (ac h6 (ac h7 (ac (fq (p := ((5 : Nat) ≤ (List.length (List.drop ((Int.toNat s5.2.1) * (5 : Nat)) (List.flatMap Ex.cells l)))))) (ac (show (List.take 5 (List.drop ((Int.toNat s5.2.1) * (5 : Nat)) (List.flatMap Ex.cells l))) = (Ex.cells (exAt l (Int.toNat s5.2.1))) from (ex_takeO bq bq)) (ac (Eq.refl ((xc (exAt l (Int.toNat s5.2.1))) : List AV)) (ac (Eq.refl ((xc (exAt l (Int.toNat s5.2.1))) : List AV)) (ac (eCut_ok ((exAt l (Int.toNat s5.2.1))) ((0 : Int)) (x.lba) _ h8).any0 (ac (Eq.refl ((xc s8.1) : List AV)) (ac h9 (ac h9 (ac (Eq.refl ((xc s8.1) : List AV)) (ac h9 (ac (Eq.refl ((xc s8.1) : List AV)) (ac (show Ev Try.prog cf ((rfB Try.prog 38 0)) (mPut_B1_I blocks l x s0 s2 s5 s8) (.normal, mPut_B1_S blocks l x s0 s2 s5 s8 s10) from (EvStep.ev (mPut_B1_ok blocks l x s0 s2 s5 s8 _ h10) rfl)) (ac h9 (ac h9 (ac h11 (ac h11 (ac h11 (ac h11 (ac h11 (ac h11 (ac h11 (ac h11 (ac h11 (ac h12 (ac (Eq.refl ((xc (exAt l (Int.toNat s5.2.1))) : List AV)) (ac (eCut_ok ((exAt l (Int.toNat s5.2.1))) ((wr (x.lba + x.len))) ((64 : Int)) _ h13).any0 (ac (Eq.refl ((xc s13.1) : List AV)) (ac h14 (ac h14 (ac h14 (ac h14 (ac h14 an)))))))))))))))))))))))))))))))))) (Nat.le_of_ble_eq_true rfl) (absB_of [9] [] kq (.consn kq (.yl rfl) (.consn kq (.pt rfl) (.consn kq (.pt rfl) (.consn kq (.eqv tq rfl) (.consn kq (.eqv tq rfl) (.consn kq (.eqv tq rfl) (.consn kq (.eqv tq rfl) (.consn kq (.eqv tq rfl) .nil)))))))) (.cons (.old rfl rfl (.loop (.consn kq (.eqv tq rfl) (.consn kq (.eqv tq rfl) (.consn kq (.agp pq) (.consn kq (.pt rfl) (.consn kq (.pt rfl) (.consn kq (.eqv tq rfl) (.consn kq (.eqv tq rfl) (.consn kq (.eqv tq rfl) (.consn kq (.fn (.cons (.pt rfl) (.cons (.pt rfl) .nil))) .nil))))))))))) (.cons (.old rfl rfl (.cells (.pl rfl pq))) (.cons (.old rfl rfl (.cells (.cons (.eqv tq rfl) .nil))) (.cons (.old rfl rfl (.cells (.cons (.rfn (n := (List.length s10.2)) rfl tq) .nil))) (.cons (.old rfl rfl (.cells (.pl rfl pq))) (.cons (.old rfl rfl (.cells (.pl tq pq))) .nil)))))))
theorem mPut_L0_s4 (blocks : Int) (l : List Ex) (x : Ex) (s0 : Bool) (s2 : Bool) (s5 : Bool × Int × List Ex) (h6 : ((decide (s5.2.1 < (↑(List.length l) : Int)))) = true) (h6p : (s5.2.1 < (↑(List.length l) : Int))) (h7 : (((0 : Int) ≤ s5.2.1) ∧ (s5.2.1 < (↑(List.length l) : Int)))) (s8 : Ex × Bool) (h8 : eCut ((exAt l (Int.toNat s5.2.1))) ((0 : Int)) (x.lba) = some s8) (h9 : (s8.2) = true) (s10 : List Ex × List Ex) (h10 : mPut_B1 blocks l x s0 s2 s5 s8 = some s10) (h11 : ((!s5.1)) = false) (s12 : Ex × Bool) (h12 : eCut ((exAt l (Int.toNat s5.2.1))) ((wr (x.lba + x.len))) ((64 : Int)) = some s12) (h13 : (s12.2) = true) (s14 : List Ex × List Ex) (h14 : mPut_B5 blocks l x s0 s2 s5 s8 s10 s12 = some s14) : EvStep Try.prog cf 5 (lp Try.prog 48 0) (mPut_L0_S blocks l x s0 s2 s5) (mPut_L0_S blocks l x s0 s2 ((s5.1, ((wr (s5.2.1 + (1 : Int))), s14.2)))) :=
  leafS vw_eq (k := 300) (r := []) (hs := hz [(1, [.yes, .yes, .yes, .cells ((Ex.cells (exAt l (Int.toNat s5.2.1))))]), (2, [.cells ((xc (exAt l (Int.toNat s5.2.1))))]), (1, [.cells ((xc (exAt l (Int.toNat s5.2.1))))]), (4, [.fres (.tu [Ex.av (s8.1), .b (s8.2)])]), (5, [.cells ((xc s8.1))]), (3, [.yes]), (1, [.yes]), (1, [.cells ((xc s8.1)), .yes]), (3, [.cells ((xc s8.1)), .res .normal (mPut_B1_S blocks l x s0 s2 s5 s8 s10), .yes]), (1, [.yes]), (4, [.no, .no, .no, .no, .no, .no, .no, .no, .no]), (2, [.cells ((xc (exAt l (Int.toNat s5.2.1))))]), (2, [.fres (.tu [Ex.av (s12.1), .b (s12.2)])]), (5, [.cells ((xc s12.1))]), (3, [.yes]), (1, [.yes]), (1, [.cells ((xc s12.1)), .yes]), (3, [.cells ((xc s12.1)), .res .normal (mPut_B5_S blocks l x s0 s2 s5 s8 s10 s12 s14), .yes]), (1, [.yes]), (3, [])]) (st1 := (St.mk [(0, (AV.yl 4)), (1, (AV.pt 3 0)), (2, (AV.pt 2 0)), (4, (AV.i (wr (x.lba + x.len)))), (5, (AV.b s5.1)), (17, (exs l)), (18, (AV.i (↑(List.length l) : Int))), (19, (AV.i (wr (s5.2.1 + (1 : Int))))), (20, (AV.b (decide (s5.2.1 < (↑(List.length l) : Int))))), (21, (AV.ip (List.drop ((Int.toNat s5.2.1) * (5 : Nat)) (List.flatMap Ex.cells l)))), (22, (AV.ag (xc (exAt l (Int.toNat s5.2.1))))), (7, (AV.pt 6 0)), (24, (AV.ag (xc (exAt l (Int.toNat s5.2.1))))), (25, (AV.pt 3 0)), (26, (AV.i x.lba)), (27, (AV.tu [(AV.ag (xc s8.1)), (AV.b s8.2)])), (23, (AV.tu [(AV.ag (xc s8.1)), (AV.b s8.2)])), (28, (AV.ag (xc s8.1))), (29, (AV.b s8.2)), (8, (AV.pt 7 0)), (9, (AV.b s8.2)), (30, (AV.b s8.2)), (31, (AV.b s8.2)), (32, (AV.yl 4)), (33, (AV.ag (xc s8.1))), (34, (AV.b Bool.true)), (35, (AV.b (!Bool.true))), (36, (AV.b (!Bool.true))), (37, (AV.b s5.1)), (38, (AV.b (!s5.1))), (39, (AV.b (!s5.1))), (40, (AV.tu ([] : List AV))), (41, (AV.tu ([] : List AV))), (42, (AV.tu ([] : List AV))), (43, (AV.tu ([] : List AV))), (44, (AV.tu ([] : List AV))), (45, (AV.tu ([] : List AV))), (46, (AV.tu ([] : List AV))), (47, (AV.tu ([] : List AV))), (48, (AV.b Bool.false)), (54, (AV.ag (xc (exAt l (Int.toNat s5.2.1))))), (55, (AV.i (wr (x.lba + x.len)))), (56, (AV.tu [(AV.ag (xc s12.1)), (AV.b s12.2)])), (53, (AV.tu [(AV.ag (xc s12.1)), (AV.b s12.2)])), (57, (AV.ag (xc s12.1))), (58, (AV.b s12.2)), (10, (AV.pt 10 0)), (11, (AV.b s12.2)), (59, (AV.b s12.2)), (60, (AV.b s12.2)), (61, (AV.yl 4)), (62, (AV.ag (xc s12.1))), (63, (AV.b Bool.true)), (64, (AV.b (!Bool.true))), (65, (AV.b (!Bool.true))), (66, (AV.i (wr (s5.2.1 + (1 : Int)))))] 67 (AH.mk 13 [(11, (AObj.cells (xc s12.1))), (10, (AObj.cells (xc s12.1))), (8, (AObj.cells (xc s8.1))), (7, (AObj.cells (xc s8.1))), (6, (AObj.cells (xc (exAt l (Int.toNat s5.2.1))))), (4, (AObj.loop Go.LoopState.ready Option.none [(0, (AV.i blocks)), (1, (exs l)), (2, (AV.ag (xc x))), (5, (AV.pt 0 0)), (6, (AV.pt 1 0)), (7, (AV.i 0)), (12, (AV.b (!s0))), (17, (AV.b (decide ((wr (x.lba + x.len)) > blocks)))), (34, (AV.fn (48 : Nat) [(AV.pt 3 0), (AV.pt 2 0)]))] 63 [(35 : Nat)] (rfA Try.prog 38 0) (rfB Try.prog 38 0))), (3, (AObj.cells (xc x))), (2, (AObj.cells [(exs l)])), (1, (AObj.cells [(AV.rf 12 5 0 (List.length s14.2))])), (0, (AObj.cells (xc x))), (12, (AObj.cells (List.flatMap Ex.cells s14.2)))]) Bool.false)) kq (ac h6 (ac h7 (ac (fq (p := ((5 : Nat) ≤ (List.length (List.drop ((Int.toNat s5.2.1) * (5 : Nat)) (List.flatMap Ex.cells l)))))) (ac (show (List.take 5 (List.drop ((Int.toNat s5.2.1) * (5 : Nat)) (List.flatMap Ex.cells l))) = (Ex.cells (exAt l (Int.toNat s5.2.1))) from (ex_takeO bq bq)) (ac (Eq.refl ((xc (exAt l (Int.toNat s5.2.1))) : List AV)) (ac (Eq.refl ((xc (exAt l (Int.toNat s5.2.1))) : List AV)) (ac (eCut_ok ((exAt l (Int.toNat s5.2.1))) ((0 : Int)) (x.lba) _ h8).any0 (ac (Eq.refl ((xc s8.1) : List AV)) (ac h9 (ac h9 (ac (Eq.refl ((xc s8.1) : List AV)) (ac h9 (ac (Eq.refl ((xc s8.1) : List AV)) (ac (show Ev Try.prog cf ((rfB Try.prog 38 0)) (mPut_B1_I blocks l x s0 s2 s5 s8) (.normal, mPut_B1_S blocks l x s0 s2 s5 s8 s10) from (EvStep.ev (mPut_B1_ok blocks l x s0 s2 s5 s8 _ h10) rfl)) (ac h9 (ac h9 (ac h11 (ac h11 (ac h11 (ac h11 (ac h11 (ac h11 (ac h11 (ac h11 (ac h11 (ac (Eq.refl ((xc (exAt l (Int.toNat s5.2.1))) : List AV)) (ac (eCut_ok ((exAt l (Int.toNat s5.2.1))) ((wr (x.lba + x.len))) ((64 : Int)) _ h12).any0 (ac (Eq.refl ((xc s12.1) : List AV)) (ac h13 (ac h13 (ac (Eq.refl ((xc s12.1) : List AV)) (ac h13 (ac (Eq.refl ((xc s12.1) : List AV)) (ac (show Ev Try.prog cf ((rfB Try.prog 38 0)) (mPut_B5_I blocks l x s0 s2 s5 s8 s10 s12) (.normal, mPut_B5_S blocks l x s0 s2 s5 s8 s10 s12 s14) from (EvStep.ev (mPut_B5_ok blocks l x s0 s2 s5 s8 s10 s12 _ h14) rfl)) (ac h13 (ac h13 an)))))))))))))))))))))))))))))))))))) (Nat.le_of_ble_eq_true rfl) (absB_of [12] [] kq (.consn kq (.yl rfl) (.consn kq (.pt rfl) (.consn kq (.pt rfl) (.consn kq (.eqv tq rfl) (.consn kq (.eqv tq rfl) (.consn kq (.eqv tq rfl) (.consn kq (.eqv tq rfl) (.consn kq (.eqv tq rfl) .nil)))))))) (.cons (.old rfl rfl (.loop (.consn kq (.eqv tq rfl) (.consn kq (.eqv tq rfl) (.consn kq (.agp pq) (.consn kq (.pt rfl) (.consn kq (.pt rfl) (.consn kq (.eqv tq rfl) (.consn kq (.eqv tq rfl) (.consn kq (.eqv tq rfl) (.consn kq (.fn (.cons (.pt rfl) (.cons (.pt rfl) .nil))) .nil))))))))))) (.cons (.old rfl rfl (.cells (.pl rfl pq))) (.cons (.old rfl rfl (.cells (.cons (.eqv tq rfl) .nil))) (.cons (.old rfl rfl (.cells (.cons (.rfn (n := (List.length s14.2)) rfl tq) .nil))) (.cons (.old rfl rfl (.cells (.pl rfl pq))) (.cons (.old rfl rfl (.cells (.pl tq pq))) .nil)))))))
theorem mPut_L0_s5 (blocks : Int) (l : List Ex) (x : Ex) (s0 : Bool) (s2 : Bool) (s5 : Bool × Int × List Ex) (h6 : ((decide (s5.2.1 < (↑(List.length l) : Int)))) = true) (h6p : (s5.2.1 < (↑(List.length l) : Int))) (h7 : (((0 : Int) ≤ s5.2.1) ∧ (s5.2.1 < (↑(List.length l) : Int)))) (s8 : Ex × Bool) (h8 : eCut ((exAt l (Int.toNat s5.2.1))) ((0 : Int)) (x.lba) = some s8) (h9 : (s8.2) = true) (s10 : List Ex × List Ex) (h10 : mPut_B1 blocks l x s0 s2 s5 s8 = some s10) (h11 : ((!s5.1)) = false) (s12 : Ex × Bool) (h12 : eCut ((exAt l (Int.toNat s5.2.1))) ((wr (x.lba + x.len))) ((64 : Int)) = some s12) (h13 : (s12.2) = false) : EvStep Try.prog cf 5 (lp Try.prog 48 0) (mPut_L0_S blocks l x s0 s2 s5) (mPut_L0_S blocks l x s0 s2 ((s5.1, ((wr (s5.2.1 + (1 : Int))), s10.2)))) :=
  leafS vw_eq (k := 300) (r := []) (hs := hz [(1, [.yes, .yes, .yes, .cells ((Ex.cells (exAt l (Int.toNat s5.2.1))))]), (2, [.cells ((xc (exAt l (Int.toNat s5.2.1))))]), (1, [.cells ((xc (exAt l (Int.toNat s5.2.1))))]), (4, [.fres (.tu [Ex.av (s8.1), .b (s8.2)])]), (5, [.cells ((xc s8.1))]), (3, [.yes]), (1, [.yes]), (1, [.cells ((xc s8.1)), .yes]), (3, [.cells ((xc s8.1)), .res .normal (mPut_B1_S blocks l x s0 s2 s5 s8 s10), .yes]), (1, [.yes]), (4, [.no, .no, .no, .no, .no, .no, .no, .no, .no]), (2, [.cells ((xc (exAt l (Int.toNat s5.2.1))))]), (2, [.fres (.tu [Ex.av (s12.1), .b (s12.2)])]), (5, [.cells ((xc s12.1))]), (3, [.no, .no, .no, .no, .no]), (3, [])]) (st1 := (St.mk [(0, (AV.yl 4)), (1, (AV.pt 3 0)), (2, (AV.pt 2 0)), (4, (AV.i (wr (x.lba + x.len)))), (5, (AV.b s5.1)), (17, (exs l)), (18, (AV.i (↑(List.length l) : Int))), (19, (AV.i (wr (s5.2.1 + (1 : Int))))), (20, (AV.b (decide (s5.2.1 < (↑(List.length l) : Int))))), (21, (AV.ip (List.drop ((Int.toNat s5.2.1) * (5 : Nat)) (List.flatMap Ex.cells l)))), (22, (AV.ag (xc (exAt l (Int.toNat s5.2.1))))), (7, (AV.pt 6 0)), (24, (AV.ag (xc (exAt l (Int.toNat s5.2.1))))), (25, (AV.pt 3 0)), (26, (AV.i x.lba)), (27, (AV.tu [(AV.ag (xc s8.1)), (AV.b s8.2)])), (23, (AV.tu [(AV.ag (xc s8.1)), (AV.b s8.2)])), (28, (AV.ag (xc s8.1))), (29, (AV.b s8.2)), (8, (AV.pt 7 0)), (9, (AV.b s8.2)), (30, (AV.b s8.2)), (31, (AV.b s8.2)), (32, (AV.yl 4)), (33, (AV.ag (xc s8.1))), (34, (AV.b Bool.true)), (35, (AV.b (!Bool.true))), (36, (AV.b (!Bool.true))), (37, (AV.b s5.1)), (38, (AV.b (!s5.1))), (39, (AV.b (!s5.1))), (40, (AV.tu ([] : List AV))), (41, (AV.tu ([] : List AV))), (42, (AV.tu ([] : List AV))), (43, (AV.tu ([] : List AV))), (44, (AV.tu ([] : List AV))), (45, (AV.tu ([] : List AV))), (46, (AV.tu ([] : List AV))), (47, (AV.tu ([] : List AV))), (48, (AV.b Bool.false)), (54, (AV.ag (xc (exAt l (Int.toNat s5.2.1))))), (55, (AV.i (wr (x.lba + x.len)))), (56, (AV.tu [(AV.ag (xc s12.1)), (AV.b s12.2)])), (53, (AV.tu [(AV.ag (xc s12.1)), (AV.b s12.2)])), (57, (AV.ag (xc s12.1))), (58, (AV.b s12.2)), (10, (AV.pt 10 0)), (11, (AV.b s12.2)), (59, (AV.b s12.2)), (60, (AV.b s12.2)), (61, (AV.tu ([] : List AV))), (62, (AV.tu ([] : List AV))), (63, (AV.tu ([] : List AV))), (64, (AV.tu ([] : List AV))), (65, (AV.b Bool.false)), (66, (AV.i (wr (s5.2.1 + (1 : Int)))))] 67 (AH.mk 11 [(10, (AObj.cells (xc s12.1))), (8, (AObj.cells (xc s8.1))), (7, (AObj.cells (xc s8.1))), (6, (AObj.cells (xc (exAt l (Int.toNat s5.2.1))))), (4, (AObj.loop Go.LoopState.ready Option.none [(0, (AV.i blocks)), (1, (exs l)), (2, (AV.ag (xc x))), (5, (AV.pt 0 0)), (6, (AV.pt 1 0)), (7, (AV.i 0)), (12, (AV.b (!s0))), (17, (AV.b (decide ((wr (x.lba + x.len)) > blocks)))), (34, (AV.fn (48 : Nat) [(AV.pt 3 0), (AV.pt 2 0)]))] 63 [(35 : Nat)] (rfA Try.prog 38 0) (rfB Try.prog 38 0))), (3, (AObj.cells (xc x))), (2, (AObj.cells [(exs l)])), (1, (AObj.cells [(AV.rf 9 5 0 (List.length s10.2))])), (0, (AObj.cells (xc x))), (9, (AObj.cells (List.flatMap Ex.cells s10.2)))]) Bool.false)) kq (ac h6 (ac h7 (ac (fq (p := ((5 : Nat) ≤ (List.length (List.drop ((Int.toNat s5.2.1) * (5 : Nat)) (List.flatMap Ex.cells l)))))) (ac (show (List.take 5 (List.drop ((Int.toNat s5.2.1) * (5 : Nat)) (List.flatMap Ex.cells l))) = (Ex.cells (exAt l (Int.toNat s5.2.1))) from (ex_takeO bq bq)) (ac (Eq.refl ((xc (exAt l (Int.toNat s5.2.1))) : List AV)) (ac (Eq.refl ((xc (exAt l (Int.toNat s5.2.1))) : List AV)) (ac (eCut_ok ((exAt l (Int.toNat s5.2.1))) ((0 : Int)) (x.lba) _ h8).any0 (ac (Eq.refl ((xc s8.1) : List AV)) (ac h9 (ac h9 (ac (Eq.refl ((xc s8.1) : List AV)) (ac h9 (ac (Eq.refl ((xc s8.1) : List AV)) (ac (show Ev Try.prog cf ((rfB Try.prog 38 0)) (mPut_B1_I blocks l x s0 s2 s5 s8) (.normal, mPut_B1_S blocks l x s0 s2 s5 s8 s10) from (EvStep.ev (mPut_B1_ok blocks l x s0 s2 s5 s8 _ h10) rfl)) (ac h9 (ac h9 (ac h11 (ac h11 (ac h11 (ac h11 (ac h11 (ac h11 (ac h11 (ac h11 (ac h11 (ac (Eq.refl ((xc (exAt l (Int.toNat s5.2.1))) : List AV)) (ac (eCut_ok ((exAt l (Int.toNat s5.2.1))) ((wr (x.lba + x.len))) ((64 : Int)) _ h12).any0 (ac (Eq.refl ((xc s12.1) : List AV)) (ac h13 (ac h13 (ac h13 (ac h13 (ac h13 an))))))))))))))))))))))))))))))))) (Nat.le_of_ble_eq_true rfl) (absB_of [9] [] kq (.consn kq (.yl rfl) (.consn kq (.pt rfl) (.consn kq (.pt rfl) (.consn kq (.eqv tq rfl) (.consn kq (.eqv tq rfl) (.consn kq (.eqv tq rfl) (.consn kq (.eqv tq rfl) (.consn kq (.eqv tq rfl) .nil)))))))) (.cons (.old rfl rfl (.loop (.consn kq (.eqv tq rfl) (.consn kq (.eqv tq rfl) (.consn kq (.agp pq) (.consn kq (.pt rfl) (.consn kq (.pt rfl) (.consn kq (.eqv tq rfl) (.consn kq (.eqv tq rfl) (.consn kq (.eqv tq rfl) (.consn kq (.fn (.cons (.pt rfl) (.cons (.pt rfl) .nil))) .nil))))))))))) (.cons (.old rfl rfl (.cells (.pl rfl pq))) (.cons (.old rfl rfl (.cells (.cons (.eqv tq rfl) .nil))) (.cons (.old rfl rfl (.cells (.cons (.rfn (n := (List.length s10.2)) rfl tq) .nil))) (.cons (.old rfl rfl (.cells (.pl rfl pq))) (.cons (.old rfl rfl (.cells (.pl tq pq))) .nil)))))))
theorem mPut_L0_s6 (blocks : Int) (l : List Ex) (x : Ex) (s0 : Bool) (s2 : Bool) (s5 : Bool × Int × List Ex) (h6 : ((decide (s5.2.1 < (↑(List.length l) : Int)))) = true) (h6p : (s5.2.1 < (↑(List.length l) : Int))) (h7 : (((0 : Int) ≤ s5.2.1) ∧ (s5.2.1 < (↑(List.length l) : Int)))) (s8 : Ex × Bool) (h8 : eCut ((exAt l (Int.toNat s5.2.1))) ((0 : Int)) (x.lba) = some s8) (h9 : (s8.2) = false) (h10 : ((!s5.1)) = true) (h11 : ((decide ((wr ((exAt l (Int.toNat s5.2.1)).lba + (exAt l (Int.toNat s5.2.1)).len)) > x.lba))) = true) (h11p : ((wr ((exAt l (Int.toNat s5.2.1)).lba + (exAt l (Int.toNat s5.2.1)).len)) > x.lba)) (s12 : List Ex × List Ex) (h12 : mPut_B6 blocks l x s0 s2 s5 s8 = some s12) (s13 : Ex × Bool) (h13 : eCut ((exAt l (Int.toNat s5.2.1))) ((wr (x.lba + x.len))) ((64 : Int)) = some s13) (h14 : (s13.2) = true) (s15 : List Ex × List Ex) (h15 : mPut_B7 blocks l x s0 s2 s5 s8 s12 s13 = some s15) : EvStep Try.prog cf 5 (lp Try.prog 48 0) (mPut_L0_S blocks l x s0 s2 s5) (mPut_L0_S blocks l x s0 s2 ((Bool.true, ((wr (s5.2.1 + (1 : Int))), s15.2)))) :=
  leafS vw_eq (k := 300) (r := []) (hs := hz [(1, [.yes, .yes, .yes, .cells ((Ex.cells (exAt l (Int.toNat s5.2.1))))]), (2, [.cells ((xc (exAt l (Int.toNat s5.2.1))))]), (1, [.cells ((xc (exAt l (Int.toNat s5.2.1))))]), (4, [.fres (.tu [Ex.av (s8.1), .b (s8.2)])]), (5, [.cells ((xc s8.1))]), (3, [.no, .no, .no, .no, .no]), (4, [.yes]), (1, [.yes]), (2, [.yes]), (1, [.yes]), (2, [.yes]), (1, [.yes]), (1, [.yes]), (2, [.yes]), (1, [.yes, .yes]), (3, [.cells ((xc x))]), (3, [.cells ((xc x)), .res .normal (mPut_B6_S blocks l x s0 s2 s5 s8 s12)]), (3, [.cells ((xc (exAt l (Int.toNat s5.2.1))))]), (2, [.fres (.tu [Ex.av (s13.1), .b (s13.2)])]), (5, [.cells ((xc s13.1))]), (3, [.yes]), (1, [.yes]), (1, [.cells ((xc s13.1)), .yes]), (3, [.cells ((xc s13.1)), .res .normal (mPut_B7_S blocks l x s0 s2 s5 s8 s12 s13 s15), .yes]), (1, [.yes]), (3, [])]) (st1 := (St.mk [(0, (AV.yl 4)), (1, (AV.pt 3 0)), (2, (AV.pt 2 0)), (4, (AV.i (wr (x.lba + x.len)))), (5, (AV.b Bool.true)), (17, (exs l)), (18, (AV.i (↑(List.length l) : Int))), (19, (AV.i (wr (s5.2.1 + (1 : Int))))), (20, (AV.b (decide (s5.2.1 < (↑(List.length l) : Int))))), (21, (AV.ip (List.drop ((Int.toNat s5.2.1) * (5 : Nat)) (List.flatMap Ex.cells l)))), (22, (AV.ag (xc (exAt l (Int.toNat s5.2.1))))), (7, (AV.pt 6 0)), (24, (AV.ag (xc (exAt l (Int.toNat s5.2.1))))), (25, (AV.pt 3 0)), (26, (AV.i x.lba)), (27, (AV.tu [(AV.ag (xc s8.1)), (AV.b s8.2)])), (23, (AV.tu [(AV.ag (xc s8.1)), (AV.b s8.2)])), (28, (AV.ag (xc s8.1))), (29, (AV.b s8.2)), (8, (AV.pt 7 0)), (9, (AV.b s8.2)), (30, (AV.b s8.2)), (31, (AV.b s8.2)), (32, (AV.tu ([] : List AV))), (33, (AV.tu ([] : List AV))), (34, (AV.tu ([] : List AV))), (35, (AV.tu ([] : List AV))), (36, (AV.b Bool.false)), (37, (AV.b s5.1)), (38, (AV.b (!s5.1))), (39, (AV.b (!s5.1))), (40, (AV.pt 6 0)), (41, (AV.i (exAt l (Int.toNat s5.2.1)).lba)), (42, (AV.pt 6 1)), (43, (AV.i (exAt l (Int.toNat s5.2.1)).len)), (44, (AV.i (wr ((exAt l (Int.toNat s5.2.1)).lba + (exAt l (Int.toNat s5.2.1)).len)))), (45, (AV.pt 3 0)), (46, (AV.i x.lba)), (47, (AV.b (decide ((wr ((exAt l (Int.toNat s5.2.1)).lba + (exAt l (Int.toNat s5.2.1)).len)) > x.lba)))), (48, (AV.b (decide ((wr ((exAt l (Int.toNat s5.2.1)).lba + (exAt l (Int.toNat s5.2.1)).len)) > x.lba)))), (49, (AV.yl 4)), (50, (AV.ag (xc x))), (51, (AV.b Bool.true)), (52, (AV.b (!Bool.true))), (54, (AV.ag (xc (exAt l (Int.toNat s5.2.1))))), (55, (AV.i (wr (x.lba + x.len)))), (56, (AV.tu [(AV.ag (xc s13.1)), (AV.b s13.2)])), (53, (AV.tu [(AV.ag (xc s13.1)), (AV.b s13.2)])), (57, (AV.ag (xc s13.1))), (58, (AV.b s13.2)), (10, (AV.pt 10 0)), (11, (AV.b s13.2)), (59, (AV.b s13.2)), (60, (AV.b s13.2)), (61, (AV.yl 4)), (62, (AV.ag (xc s13.1))), (63, (AV.b Bool.true)), (64, (AV.b (!Bool.true))), (65, (AV.b (!Bool.true))), (66, (AV.i (wr (s5.2.1 + (1 : Int)))))] 67 (AH.mk 13 [(11, (AObj.cells (xc s13.1))), (10, (AObj.cells (xc s13.1))), (8, (AObj.cells (xc x))), (7, (AObj.cells (xc s8.1))), (6, (AObj.cells (xc (exAt l (Int.toNat s5.2.1))))), (4, (AObj.loop Go.LoopState.ready Option.none [(0, (AV.i blocks)), (1, (exs l)), (2, (AV.ag (xc x))), (5, (AV.pt 0 0)), (6, (AV.pt 1 0)), (7, (AV.i 0)), (12, (AV.b (!s0))), (17, (AV.b (decide ((wr (x.lba + x.len)) > blocks)))), (34, (AV.fn (48 : Nat) [(AV.pt 3 0), (AV.pt 2 0)]))] 63 [(35 : Nat)] (rfA Try.prog 38 0) (rfB Try.prog 38 0))), (3, (AObj.cells (xc x))), (2, (AObj.cells [(exs l)])), (1, (AObj.cells [(AV.rf 12 5 0 (List.length s15.2))])), (0, (AObj.cells (xc x))), (12, (AObj.cells (List.flatMap Ex.cells s15.2)))]) Bool.false)) kq (ac h6 (ac h7 (ac (fq (p := ((5 : Nat) ≤ (List.length (List.drop ((Int.toNat s5.2.1) * (5 : Nat)) (List.flatMap Ex.cells l)))))) (ac (show (List.take 5 (List.drop ((Int.toNat s5.2.1) * (5 : Nat)) (List.flatMap Ex.cells l))) = (Ex.cells (exAt l (Int.toNat s5.2.1))) from (ex_takeO bq bq)) (ac (Eq.refl ((xc (exAt l (Int.toNat s5.2.1))) : List AV)) (ac (Eq.refl ((xc (exAt l (Int.toNat s5.2.1))) : List AV)) (ac (eCut_ok ((exAt l (Int.toNat s5.2.1))) ((0 : Int)) (x.lba) _ h8).any0 (ac (Eq.refl ((xc s8.1) : List AV)) (ac h9 (ac h9 (ac h9 (ac h9 (ac h9 (ac h10 (ac h10 (ac h10 (ac h10 (ac h10 (ac h10 (ac h10 (ac h10 (ac h10 (ac h11 (ac (Eq.refl ((xc x) : List AV)) (ac (Eq.refl ((xc x) : List AV)) (ac (show Ev Try.prog cf ((rfB Try.prog 38 0)) (mPut_B6_I blocks l x s0 s2 s5 s8) (.normal, mPut_B6_S blocks l x s0 s2 s5 s8 s12) from (EvStep.ev (mPut_B6_ok blocks l x s0 s2 s5 s8 _ h12) rfl)) (ac (Eq.refl ((xc (exAt l (Int.toNat s5.2.1))) : List AV)) (ac (eCut_ok ((exAt l (Int.toNat s5.2.1))) ((wr (x.lba + x.len))) ((64 : Int)) _ h13).any0 (ac (Eq.refl ((xc s13.1) : List AV)) (ac h14 (ac h14 (ac (Eq.refl ((xc s13.1) : List AV)) (ac h14 (ac (Eq.refl ((xc s13.1) : List AV)) (ac (show Ev Try.prog cf ((rfB Try.prog 38 0)) (mPut_B7_I blocks l x s0 s2 s5 s8 s12 s13) (.normal, mPut_B7_S blocks l x s0 s2 s5 s8 s12 s13 s15) from (EvStep.ev (mPut_B7_ok blocks l x s0 s2 s5 s8 s12 s13 _ h15) rfl)) (ac h14 (ac h14 an))))))))))))))))))))))))))))))))))))) (Nat.le_of_ble_eq_true rfl) (absB_of [12] [] kq (.consn kq (.yl rfl) (.consn kq (.pt rfl) (.consn kq (.pt rfl) (.consn kq (.eqv tq rfl) (.consn kq (.eqv tq rfl) (.consn kq (.eqv tq rfl) (.consn kq (.eqv tq rfl) (.consn kq (.eqv tq rfl) .nil)))))))) (.cons (.old rfl rfl (.loop (.consn kq (.eqv tq rfl) (.consn kq (.eqv tq rfl) (.consn kq (.agp pq) (.consn kq (.pt rfl) (.consn kq (.pt rfl) (.consn kq (.eqv tq rfl) (.consn kq (.eqv tq rfl) (.consn kq (.eqv tq rfl) (.consn kq (.fn (.cons (.pt rfl) (.cons (.pt rfl) .nil))) .nil))))))))))) (.cons (.old rfl rfl (.cells (.pl rfl pq))) (.cons (.old rfl rfl (.cells (.cons (.eqv tq rfl) .nil))) (.cons (.old rfl rfl (.cells (.cons (.rfn (n := (List.length s15.2)) rfl tq) .nil))) (.cons (.old rfl rfl (.cells (.pl rfl pq))) (.cons (.old rfl rfl (.cells (.pl tq pq))) .nil)))))))
theorem mPut_L0_s7 (blocks : Int) (l : List Ex) (x : Ex) (s0 : Bool) (s2 : Bool) (s5 : Bool × Int × List Ex) (h6 : ((decide (s5.2.1 < (↑(List.length l) : Int)))) = true) (h6p : (s5.2.1 < (↑(List.length l) : Int))) (h7 : (((0 : Int) ≤ s5.2.1) ∧ (s5.2.1 < (↑(List.length l) : Int)))) (s8 : Ex × Bool) (h8 : eCut ((exAt l (Int.toNat s5.2.1))) ((0 : Int)) (x.lba) = some s8) (h9 : (s8.2) = false) (h10 : ((!s5.1)) = true) (h11 : ((decide ((wr ((exAt l (Int.toNat s5.2.1)).lba + (exAt l (Int.toNat s5.2.1)).len)) > x.lba))) = true) (h11p : ((wr ((exAt l (Int.toNat s5.2.1)).lba + (exAt l (Int.toNat s5.2.1)).len)) > x.lba)) (s12 : List Ex × List Ex) (h12 : mPut_B6 blocks l x s0 s2 s5 s8 = some s12) (s13 : Ex × Bool) (h13 : eCut ((exAt l (Int.toNat s5.2.1))) ((wr (x.lba + x.len))) ((64 : Int)) = some s13) (h14 : (s13.2) = false) : EvStep Try.prog cf 5 (lp Try.prog 48 0) (mPut_L0_S blocks l x s0 s2 s5) (mPut_L0_S blocks l x s0 s2 ((Bool.true, ((wr (s5.2.1 + (1 : Int))), s12.2)))) :=
  leafS vw_eq (k := 300) (r := []) (hs := hz [(1, [.yes, .yes, .yes, .cells ((Ex.cells (exAt l (Int.toNat s5.2.1))))]), (2, [.cells ((xc (exAt l (Int.toNat s5.2.1))))]), (1, [.cells ((xc (exAt l (Int.toNat s5.2.1))))]), (4, [.fres (.tu [Ex.av (s8.1), .b (s8.2)])]), (5, [.cells ((xc s8.1))]), (3, [.no, .no, .no, .no, .no]), (4, [.yes]), (1, [.yes]), (2, [.yes]), (1, [.yes]), (2, [.yes]), (1, [.yes]), (1, [.yes]), (2, [.yes]), (1, [.yes, .yes]), (3, [.cells ((xc x))]), (3, [.cells ((xc x)), .res .normal (mPut_B6_S blocks l x s0 s2 s5 s8 s12)]), (3, [.cells ((xc (exAt l (Int.toNat s5.2.1))))]), (2, [.fres (.tu [Ex.av (s13.1), .b (s13.2)])]), (5, [.cells ((xc s13.1))]), (3, [.no, .no, .no, .no, .no]), (3, [])]) (st1 := (St.mk [(0, (AV.yl 4)), (1, (AV.pt 3 0)), (2, (AV.pt 2 0)), (4, (AV.i (wr (x.lba + x.len)))), (5, (AV.b Bool.true)), (17, (exs l)), (18, (AV.i (↑(List.length l) : Int))), (19, (AV.i (wr (s5.2.1 + (1 : Int))))), (20, (AV.b (decide (s5.2.1 < (↑(List.length l) : Int))))), (21, (AV.ip (List.drop ((Int.toNat s5.2.1) * (5 : Nat)) (List.flatMap Ex.cells l)))), (22, (AV.ag (xc (exAt l (Int.toNat s5.2.1))))), (7, (AV.pt 6 0)), (24, (AV.ag (xc (exAt l (Int.toNat s5.2.1))))), (25, (AV.pt 3 0)), (26, (AV.i x.lba)), (27, (AV.tu [(AV.ag (xc s8.1)), (AV.b s8.2)])), (23, (AV.tu [(AV.ag (xc s8.1)), (AV.b s8.2)])), (28, (AV.ag (xc s8.1))), (29, (AV.b s8.2)), (8, (AV.pt 7 0)), (9, (AV.b s8.2)), (30, (AV.b s8.2)), (31, (AV.b s8.2)), (32, (AV.tu ([] : List AV))), (33, (AV.tu ([] : List AV))), (34, (AV.tu ([] : List AV))), (35, (AV.tu ([] : List AV))), (36, (AV.b Bool.false)), (37, (AV.b s5.1)), (38, (AV.b (!s5.1))), (39, (AV.b (!s5.1))), (40, (AV.pt 6 0)), (41, (AV.i (exAt l (Int.toNat s5.2.1)).lba)), (42, (AV.pt 6 1)), (43, (AV.i (exAt l (Int.toNat s5.2.1)).len)), (44, (AV.i (wr ((exAt l (Int.toNat s5.2.1)).lba + (exAt l (Int.toNat s5.2.1)).len)))), (45, (AV.pt 3 0)), (46, (AV.i x.lba)), (47, (AV.b (decide ((wr ((exAt l (Int.toNat s5.2.1)).lba + (exAt l (Int.toNat s5.2.1)).len)) > x.lba)))), (48, (AV.b (decide ((wr ((exAt l (Int.toNat s5.2.1)).lba + (exAt l (Int.toNat s5.2.1)).len)) > x.lba)))), (49, (AV.yl 4)), (50, (AV.ag (xc x))), (51, (AV.b Bool.true)), (52, (AV.b (!Bool.true))), (54, (AV.ag (xc (exAt l (Int.toNat s5.2.1))))), (55, (AV.i (wr (x.lba + x.len)))), (56, (AV.tu [(AV.ag (xc s13.1)), (AV.b s13.2)])), (53, (AV.tu [(AV.ag (xc s13.1)), (AV.b s13.2)])), (57, (AV.ag (xc s13.1))), (58, (AV.b s13.2)), (10, (AV.pt 10 0)), (11, (AV.b s13.2)), (59, (AV.b s13.2)), (60, (AV.b s13.2)), (61, (AV.tu ([] : List AV))), (62, (AV.tu ([] : List AV))), (63, (AV.tu ([] : List AV))), (64, (AV.tu ([] : List AV))), (65, (AV.b Bool.false)), (66, (AV.i (wr (s5.2.1 + (1 : Int)))))] 67 (AH.mk 11 [(10, (AObj.cells (xc s13.1))), (8, (AObj.cells (xc x))), (7, (AObj.cells (xc s8.1))), (6, (AObj.cells (xc (exAt l (Int.toNat s5.2.1))))), (4, (AObj.loop Go.LoopState.ready Option.none [(0, (AV.i blocks)), (1, (exs l)), (2, (AV.ag (xc x))), (5, (AV.pt 0 0)), (6, (AV.pt 1 0)), (7, (AV.i 0)), (12, (AV.b (!s0))), (17, (AV.b (decide ((wr (x.lba + x.len)) > blocks)))), (34, (AV.fn (48 : Nat) [(AV.pt 3 0), (AV.pt 2 0)]))] 63 [(35 : Nat)] (rfA Try.prog 38 0) (rfB Try.prog 38 0))), (3, (AObj.cells (xc x))), (2, (AObj.cells [(exs l)])), (1, (AObj.cells [(AV.rf 9 5 0 (List.length s12.2))])), (0, (AObj.cells (xc x))), (9, (AObj.cells (List.flatMap Ex.cells s12.2)))]) Bool.false)) kq (ac h6 (ac h7 (ac (fq (p := ((5 : Nat) ≤ (List.length (List.drop ((Int.toNat s5.2.1) * (5 : Nat)) (List.flatMap Ex.cells l)))))) (ac (show (List.take 5 (List.drop ((Int.toNat s5.2.1) * (5 : Nat)) (List.flatMap Ex.cells l))) = (Ex.cells (exAt l (Int.toNat s5.2.1))) from (ex_takeO bq bq)) (ac (Eq.refl ((xc (exAt l (Int.toNat s5.2.1))) : List AV)) (ac (Eq.refl ((xc (exAt l (Int.toNat s5.2.1))) : List AV)) (ac (eCut_ok ((exAt l (Int.toNat s5.2.1))) ((0 : Int)) (x.lba) _ h8).any0 (ac (Eq.refl ((xc s8.1) : List AV)) (ac h9 (ac h9 (ac h9 (ac h9 (ac h9 (ac h10 (ac h10 (ac h10 (ac h10 (ac h10 (ac h10 (ac h10 (ac h10 (ac h10 (ac h11 (ac (Eq.refl ((xc x) : List AV)) (ac (Eq.refl ((xc x) : List AV)) (ac (show Ev Try.prog cf ((rfB Try.prog 38 0)) (mPut_B6_I blocks l x s0 s2 s5 s8) (.normal, mPut_B6_S blocks l x s0 s2 s5 s8 s12) from (EvStep.ev (mPut_B6_ok blocks l x s0 s2 s5 s8 _ h12) rfl)) (ac (Eq.refl ((xc (exAt l (Int.toNat s5.2.1))) : List AV)) (ac (eCut_ok ((exAt l (Int.toNat s5.2.1))) ((wr (x.lba + x.len))) ((64 : Int)) _ h13).any0 (ac (Eq.refl ((xc s13.1) : List AV)) (ac h14 (ac h14 (ac h14 (ac h14 (ac h14 an)))))))))))))))))))))))))))))))))) (Nat.le_of_ble_eq_true rfl) (absB_of [9] [] kq (.consn kq (.yl rfl) (.consn kq (.pt rfl) (.consn kq (.pt rfl) (.consn kq (.eqv tq rfl) (.consn kq (.eqv tq rfl) (.consn kq (.eqv tq rfl) (.consn kq (.eqv tq rfl) (.consn kq (.eqv tq rfl) .nil)))))))) (.cons (.old rfl rfl (.loop (.consn kq (.eqv tq rfl) (.consn kq (.eqv tq rfl) (.consn kq (.agp pq) (.consn kq (.pt rfl) (.consn kq (.pt rfl) (.consn kq (.eqv tq rfl) (.consn kq (.eqv tq rfl) (.consn kq (.eqv tq rfl) (.consn kq (.fn (.cons (.pt rfl) (.cons (.pt rfl) .nil))) .nil))))))))))) (.cons (.old rfl rfl (.cells (.pl rfl pq))) (.cons (.old rfl rfl (.cells (.cons (.eqv tq rfl) .nil))) (.cons (.old rfl rfl (.cells (.cons (.rfn (n := (List.length s12.2)) rfl tq) .nil))) (.cons (.old rfl rfl (.cells (.pl rfl pq))) (.cons (.old rfl rfl (.cells (.pl tq pq))) .nil)))))))
theorem mPut_L0_s8 (blocks : Int) (l : List Ex) (x : Ex) (s0 : Bool) (s2 : Bool) (s5 : Bool × Int × List Ex) (h6 : ((decide (s5.2.1 < (↑(List.length l) : Int)))) = true) (h6p : (s5.2.1 < (↑(List.length l) : Int))) (h7 : (((0 : Int) ≤ s5.2.1) ∧ (s5.2.1 < (↑(List.length l) : Int)))) (s8 : Ex × Bool) (h8 : eCut ((exAt l (Int.toNat s5.2.1))) ((0 : Int)) (x.lba) = some s8) (h9 : (s8.2) = false) (h10 : ((!s5.1)) = true) (h11 : ((decide ((wr ((exAt l (Int.toNat s5.2.1)).lba + (exAt l (Int.toNat s5.2.1)).len)) > x.lba))) = false) (h11p : ¬ ((wr ((exAt l (Int.toNat s5.2.1)).lba + (exAt l (Int.toNat s5.2.1)).len)) > x.lba)) (s12 : Ex × Bool) (h12 : eCut ((exAt l (Int.toNat s5.2.1))) ((wr (x.lba + x.len))) ((64 : Int)) = some s12) (h13 : (s12.2) = true) (s14 : List Ex × List Ex) (h14 : mPut_B8 blocks l x s0 s2 s5 s8 s12 = some s14) : EvStep Try.prog cf 5 (lp Try.prog 48 0) (mPut_L0_S blocks l x s0 s2 s5) (mPut_L0_S blocks l x s0 s2 ((s5.1, ((wr (s5.2.1 + (1 : Int))), s14.2)))) :=
  leafS vw_eq (k := 300) (r := []) (hs := hz [(1, [.yes, .yes, .yes, .cells ((Ex.cells (exAt l (Int.toNat s5.2.1))))]), (2, [.cells ((xc (exAt l (Int.toNat s5.2.1))))]), (1, [.cells ((xc (exAt l (Int.toNat s5.2.1))))]), (4, [.fres (.tu [Ex.av (s8.1), .b (s8.2)])]), (5, [.cells ((xc s8.1))]), (3, [.no, .no, .no, .no, .no]), (4, [.yes]), (1, [.yes]), (2, [.yes]), (1, [.yes]), (2, [.yes]), (1, [.yes]), (1, [.yes]), (2, [.yes]), (1, [.yes, .no]), (1, [.cells ((xc (exAt l (Int.toNat s5.2.1))))]), (2, [.fres (.tu [Ex.av (s12.1), .b (s12.2)])]), (5, [.cells ((xc s12.1))]), (3, [.yes]), (1, [.yes]), (1, [.cells ((xc s12.1)), .yes]), (3, [.cells ((xc s12.1)), .res .normal (mPut_B8_S blocks l x s0 s2 s5 s8 s12 s14), .yes]), (1, [.yes]), (3, [])]) (st1 := (St.mk [(0, (AV.yl 4)), (1, (AV.pt 3 0)), (2, (AV.pt 2 0)), (4, (AV.i (wr (x.lba + x.len)))), (5, (AV.b s5.1)), (17, (exs l)), (18, (AV.i (↑(List.length l) : Int))), (19, (AV.i (wr (s5.2.1 + (1 : Int))))), (20, (AV.b (decide (s5.2.1 < (↑(List.length l) : Int))))), (21, (AV.ip (List.drop ((Int.toNat s5.2.1) * (5 : Nat)) (List.flatMap Ex.cells l)))), (22, (AV.ag (xc (exAt l (Int.toNat s5.2.1))))), (7, (AV.pt 6 0)), (24, (AV.ag (xc (exAt l (Int.toNat s5.2.1))))), (25, (AV.pt 3 0)), (26, (AV.i x.lba)), (27, (AV.tu [(AV.ag (xc s8.1)), (AV.b s8.2)])), (23, (AV.tu [(AV.ag (xc s8.1)), (AV.b s8.2)])), (28, (AV.ag (xc s8.1))), (29, (AV.b s8.2)), (8, (AV.pt 7 0)), (9, (AV.b s8.2)), (30, (AV.b s8.2)), (31, (AV.b s8.2)), (32, (AV.tu ([] : List AV))), (33, (AV.tu ([] : List AV))), (34, (AV.tu ([] : List AV))), (35, (AV.tu ([] : List AV))), (36, (AV.b Bool.false)), (37, (AV.b s5.1)), (38, (AV.b (!s5.1))), (39, (AV.b (!s5.1))), (40, (AV.pt 6 0)), (41, (AV.i (exAt l (Int.toNat s5.2.1)).lba)), (42, (AV.pt 6 1)), (43, (AV.i (exAt l (Int.toNat s5.2.1)).len)), (44, (AV.i (wr ((exAt l (Int.toNat s5.2.1)).lba + (exAt l (Int.toNat s5.2.1)).len)))), (45, (AV.pt 3 0)), (46, (AV.i x.lba)), (47, (AV.b (decide ((wr ((exAt l (Int.toNat s5.2.1)).lba + (exAt l (Int.toNat s5.2.1)).len)) > x.lba)))), (48, (AV.b (decide ((wr ((exAt l (Int.toNat s5.2.1)).lba + (exAt l (Int.toNat s5.2.1)).len)) > x.lba)))), (54, (AV.ag (xc (exAt l (Int.toNat s5.2.1))))), (55, (AV.i (wr (x.lba + x.len)))), (56, (AV.tu [(AV.ag (xc s12.1)), (AV.b s12.2)])), (53, (AV.tu [(AV.ag (xc s12.1)), (AV.b s12.2)])), (57, (AV.ag (xc s12.1))), (58, (AV.b s12.2)), (10, (AV.pt 8 0)), (11, (AV.b s12.2)), (59, (AV.b s12.2)), (60, (AV.b s12.2)), (61, (AV.yl 4)), (62, (AV.ag (xc s12.1))), (63, (AV.b Bool.true)), (64, (AV.b (!Bool.true))), (65, (AV.b (!Bool.true))), (66, (AV.i (wr (s5.2.1 + (1 : Int)))))] 67 (AH.mk 11 [(9, (AObj.cells (xc s12.1))), (8, (AObj.cells (xc s12.1))), (7, (AObj.cells (xc s8.1))), (6, (AObj.cells (xc (exAt l (Int.toNat s5.2.1))))), (4, (AObj.loop Go.LoopState.ready Option.none [(0, (AV.i blocks)), (1, (exs l)), (2, (AV.ag (xc x))), (5, (AV.pt 0 0)), (6, (AV.pt 1 0)), (7, (AV.i 0)), (12, (AV.b (!s0))), (17, (AV.b (decide ((wr (x.lba + x.len)) > blocks)))), (34, (AV.fn (48 : Nat) [(AV.pt 3 0), (AV.pt 2 0)]))] 63 [(35 : Nat)] (rfA Try.prog 38 0) (rfB Try.prog 38 0))), (3, (AObj.cells (xc x))), (2, (AObj.cells [(exs l)])), (1, (AObj.cells [(AV.rf 10 5 0 (List.length s14.2))])), (0, (AObj.cells (xc x))), (10, (AObj.cells (List.flatMap Ex.cells s14.2)))]) Bool.false)) kq (ac h6 (ac h7 (ac (fq (p := ((5 : Nat) ≤ (List.length (List.drop ((Int.toNat s5.2.1) * (5 : Nat)) (List.flatMap Ex.cells l)))))) (ac (show (List.take 5 (List.drop ((Int.toNat s5.2.1) * (5 : Nat)) (List.flatMap Ex.cells l))) = (Ex.cells (exAt l (Int.toNat s5.2.1))) from (ex_takeO bq bq)) (ac (Eq.refl ((xc (exAt l (Int.toNat s5.2.1))) : List AV)) (ac (Eq.refl ((xc (exAt l (Int.toNat s5.2.1))) : List AV)) (ac (eCut_ok ((exAt l (Int.toNat s5.2.1))) ((0 : Int)) (x.lba) _ h8).any0 (ac (Eq.refl ((xc s8.1) : List AV)) (ac h9 (ac h9 (ac h9 (ac h9 (ac h9 (ac h10 (ac h10 (ac h10 (ac h10 (ac h10 (ac h10 (ac h10 (ac h10 (ac h10 (ac h11 (ac (Eq.refl ((xc (exAt l (Int.toNat s5.2.1))) : List AV)) (ac (eCut_ok ((exAt l (Int.toNat s5.2.1))) ((wr (x.lba + x.len))) ((64 : Int)) _ h12).any0 (ac (Eq.refl ((xc s12.1) : List AV)) (ac h13 (ac h13 (ac (Eq.refl ((xc s12.1) : List AV)) (ac h13 (ac (Eq.refl ((xc s12.1) : List AV)) (ac (show Ev Try.prog cf ((rfB Try.prog 38 0)) (mPut_B8_I blocks l x s0 s2 s5 s8 s12) (.normal, mPut_B8_S blocks l x s0 s2 s5 s8 s12 s14) from (EvStep.ev (mPut_B8_ok blocks l x s0 s2 s5 s8 s12 _ h14) rfl)) (ac h13 (ac h13 an)))))))))))))))))))))))))))))))))) (Nat.le_of_ble_eq_true rfl) (absB_of [10] [] kq (.consn kq (.yl rfl) (.consn kq (.pt rfl) (.consn kq (.pt rfl) (.consn kq (.eqv tq rfl) (.consn kq (.eqv tq rfl) (.consn kq (.eqv tq rfl) (.consn kq (.eqv tq rfl) (.consn kq (.eqv tq rfl) .nil)))))))) (.cons (.old rfl rfl (.loop (.consn kq (.eqv tq rfl) (.consn kq (.eqv tq rfl) (.consn kq (.agp pq) (.consn kq (.pt rfl) (.consn kq (.pt rfl) (.consn kq (.eqv tq rfl) (.consn kq (.eqv tq rfl) (.consn kq (.eqv tq rfl) (.consn kq (.fn (.cons (.pt rfl) (.cons (.pt rfl) .nil))) .nil))))))))))) (.cons (.old rfl rfl (.cells (.pl rfl pq))) (.cons (.old rfl rfl (.cells (.cons (.eqv tq rfl) .nil))) (.cons (.old rfl rfl (.cells (.cons (.rfn (n := (List.length s14.2)) rfl tq) .nil))) (.cons (.old rfl rfl (.cells (.pl rfl pq))) (.cons (.old rfl rfl (.cells (.pl tq pq))) .nil)))))))
theorem mPut_L0_s9 (blocks : Int) (l : List Ex) (x : Ex) (s0 : Bool) (s2 : Bool) (s5 : Bool × Int × List Ex) (h6 : ((decide (s5.2.1 < (↑(List.length l) : Int)))) = true) (h6p : (s5.2.1 < (↑(List.length l) : Int))) (h7 : (((0 : Int) ≤ s5.2.1) ∧ (s5.2.1 < (↑(List.length l) : Int)))) (s8 : Ex × Bool) (h8 : eCut ((exAt l (Int.toNat s5.2.1))) ((0 : Int)) (x.lba) = some s8) (h9 : (s8.2) = false) (h10 : ((!s5.1)) = true) (h11 : ((decide ((wr ((exAt l (Int.toNat s5.2.1)).lba + (exAt l (Int.toNat s5.2.1)).len)) > x.lba))) = false) (h11p : ¬ ((wr ((exAt l (Int.toNat s5.2.1)).lba + (exAt l (Int.toNat s5.2.1)).len)) > x.lba)) (s12 : Ex × Bool) (h12 : eCut ((exAt l (Int.toNat s5.2.1))) ((wr (x.lba + x.len))) ((64 : Int)) = some s12) (h13 : (s12.2) = false) : EvStep Try.prog cf 5 (lp Try.prog 48 0) (mPut_L0_S blocks l x s0 s2 s5) (mPut_L0_S blocks l x s0 s2 ((s5.1, ((wr (s5.2.1 + (1 : Int))), s5.2.2)))) :=
  leafS vw_eq (k := 300) (r := []) (hs := hz [(1, [.yes, .yes, .yes, .cells ((Ex.cells (exAt l (Int.toNat s5.2.1))))]), (2, [.cells ((xc (exAt l (Int.toNat s5.2.1))))]), (1, [.cells ((xc (exAt l (Int.toNat s5.2.1))))]), (4, [.fres (.tu [Ex.av (s8.1), .b (s8.2)])]), (5, [.cells ((xc s8.1))]), (3, [.no, .no, .no, .no, .no]), (4, [.yes]), (1, [.yes]), (2, [.yes]), (1, [.yes]), (2, [.yes]), (1, [.yes]), (1, [.yes]), (2, [.yes]), (1, [.yes, .no]), (1, [.cells ((xc (exAt l (Int.toNat s5.2.1))))]), (2, [.fres (.tu [Ex.av (s12.1), .b (s12.2)])]), (5, [.cells ((xc s12.1))]), (3, [.no, .no, .no, .no, .no]), (3, [])]) (st1 := (St.mk [(0, (AV.yl 4)), (1, (AV.pt 3 0)), (2, (AV.pt 2 0)), (4, (AV.i (wr (x.lba + x.len)))), (5, (AV.b s5.1)), (17, (exs l)), (18, (AV.i (↑(List.length l) : Int))), (19, (AV.i (wr (s5.2.1 + (1 : Int))))), (20, (AV.b (decide (s5.2.1 < (↑(List.length l) : Int))))), (21, (AV.ip (List.drop ((Int.toNat s5.2.1) * (5 : Nat)) (List.flatMap Ex.cells l)))), (22, (AV.ag (xc (exAt l (Int.toNat s5.2.1))))), (7, (AV.pt 6 0)), (24, (AV.ag (xc (exAt l (Int.toNat s5.2.1))))), (25, (AV.pt 3 0)), (26, (AV.i x.lba)), (27, (AV.tu [(AV.ag (xc s8.1)), (AV.b s8.2)])), (23, (AV.tu [(AV.ag (xc s8.1)), (AV.b s8.2)])), (28, (AV.ag (xc s8.1))), (29, (AV.b s8.2)), (8, (AV.pt 7 0)), (9, (AV.b s8.2)), (30, (AV.b s8.2)), (31, (AV.b s8.2)), (32, (AV.tu ([] : List AV))), (33, (AV.tu ([] : List AV))), (34, (AV.tu ([] : List AV))), (35, (AV.tu ([] : List AV))), (36, (AV.b Bool.false)), (37, (AV.b s5.1)), (38, (AV.b (!s5.1))), (39, (AV.b (!s5.1))), (40, (AV.pt 6 0)), (41, (AV.i (exAt l (Int.toNat s5.2.1)).lba)), (42, (AV.pt 6 1)), (43, (AV.i (exAt l (Int.toNat s5.2.1)).len)), (44, (AV.i (wr ((exAt l (Int.toNat s5.2.1)).lba + (exAt l (Int.toNat s5.2.1)).len)))), (45, (AV.pt 3 0)), (46, (AV.i x.lba)), (47, (AV.b (decide ((wr ((exAt l (Int.toNat s5.2.1)).lba + (exAt l (Int.toNat s5.2.1)).len)) > x.lba)))), (48, (AV.b (decide ((wr ((exAt l (Int.toNat s5.2.1)).lba + (exAt l (Int.toNat s5.2.1)).len)) > x.lba)))), (54, (AV.ag (xc (exAt l (Int.toNat s5.2.1))))), (55, (AV.i (wr (x.lba + x.len)))), (56, (AV.tu [(AV.ag (xc s12.1)), (AV.b s12.2)])), (53, (AV.tu [(AV.ag (xc s12.1)), (AV.b s12.2)])), (57, (AV.ag (xc s12.1))), (58, (AV.b s12.2)), (10, (AV.pt 8 0)), (11, (AV.b s12.2)), (59, (AV.b s12.2)), (60, (AV.b s12.2)), (61, (AV.tu ([] : List AV))), (62, (AV.tu ([] : List AV))), (63, (AV.tu ([] : List AV))), (64, (AV.tu ([] : List AV))), (65, (AV.b Bool.false)), (66, (AV.i (wr (s5.2.1 + (1 : Int)))))] 67 (AH.mk 9 [(8, (AObj.cells (xc s12.1))), (7, (AObj.cells (xc s8.1))), (6, (AObj.cells (xc (exAt l (Int.toNat s5.2.1))))), (4, (AObj.loop Go.LoopState.ready Option.none [(0, (AV.i blocks)), (1, (exs l)), (2, (AV.ag (xc x))), (5, (AV.pt 0 0)), (6, (AV.pt 1 0)), (7, (AV.i 0)), (12, (AV.b (!s0))), (17, (AV.b (decide ((wr (x.lba + x.len)) > blocks)))), (34, (AV.fn (48 : Nat) [(AV.pt 3 0), (AV.pt 2 0)]))] 63 [(35 : Nat)] (rfA Try.prog 38 0) (rfB Try.prog 38 0))), (3, (AObj.cells (xc x))), (2, (AObj.cells [(exs l)])), (1, (AObj.cells [(AV.rf 5 5 0 (List.length s5.2.2))])), (0, (AObj.cells (xc x))), (5, (AObj.cells (List.flatMap Ex.cells s5.2.2)))]) Bool.false)) kq (ac h6 (ac h7 (ac (fq (p := ((5 : Nat) ≤ (List.length (List.drop ((Int.toNat s5.2.1) * (5 : Nat)) (List.flatMap Ex.cells l)))))) (ac (show (List.take 5 (List.drop ((Int.toNat s5.2.1) * (5 : Nat)) (List.flatMap Ex.cells l))) = (Ex.cells (exAt l (Int.toNat s5.2.1))) from (ex_takeO bq bq)) (ac (Eq.refl ((xc (exAt l (Int.toNat s5.2.1))) : List AV)) (ac (Eq.refl ((xc (exAt l (Int.toNat s5.2.1))) : List AV)) (ac (eCut_ok ((exAt l (Int.toNat s5.2.1))) ((0 : Int)) (x.lba) _ h8).any0 (ac (Eq.refl ((xc s8.1) : List AV)) (ac h9 (ac h9 (ac h9 (ac h9 (ac h9 (ac h10 (ac h10 (ac h10 (ac h10 (ac h10 (ac h10 (ac h10 (ac h10 (ac h10 (ac h11 (ac (Eq.refl ((xc (exAt l (Int.toNat s5.2.1))) : List AV)) (ac (eCut_ok ((exAt l (Int.toNat s5.2.1))) ((wr (x.lba + x.len))) ((64 : Int)) _ h12).any0 (ac (Eq.refl ((xc s12.1) : List AV)) (ac h13 (ac h13 (ac h13 (ac h13 (ac h13 an))))))))))))))))))))))))))))))) (Nat.le_of_ble_eq_true rfl) (absB_of [5] [] kq (.consn kq (.yl rfl) (.consn kq (.pt rfl) (.consn kq (.pt rfl) (.consn kq (.eqv tq rfl) (.consn kq (.eqv tq rfl) (.consn kq (.eqv tq rfl) (.consn kq (.eqv tq rfl) (.consn kq (.eqv tq rfl) .nil)))))))) (.cons (.old rfl rfl (.loop (.consn kq (.eqv tq rfl) (.consn kq (.eqv tq rfl) (.consn kq (.agp pq) (.consn kq (.pt rfl) (.consn kq (.pt rfl) (.consn kq (.eqv tq rfl) (.consn kq (.eqv tq rfl) (.consn kq (.eqv tq rfl) (.consn kq (.fn (.cons (.pt rfl) (.cons (.pt rfl) .nil))) .nil))))))))))) (.cons (.old rfl rfl (.cells (.pl rfl pq))) (.cons (.old rfl rfl (.cells (.cons (.eqv tq rfl) .nil))) (.cons (.old rfl rfl (.cells (.cons (.rfn (n := (List.length s5.2.2)) rfl tq) .nil))) (.cons (.old rfl rfl (.cells (.pl rfl pq))) (.cons (.old rfl rfl (.cells (.pl tq pq))) .nil)))))))
theorem mPut_L0_s10 (blocks : Int) (l : List Ex) (x : Ex) (s0 : Bool) (s2 : Bool) (s5 : Bool × Int × List Ex) (h6 : ((decide (s5.2.1 < (↑(List.length l) : Int)))) = true) (h6p : (s5.2.1 < (↑(List.length l) : Int))) (h7 : (((0 : Int) ≤ s5.2.1) ∧ (s5.2.1 < (↑(List.length l) : Int)))) (s8 : Ex × Bool) (h8 : eCut ((exAt l (Int.toNat s5.2.1))) ((0 : Int)) (x.lba) = some s8) (h9 : (s8.2) = false) (h10 : ((!s5.1)) = false) (s11 : Ex × Bool) (h11 : eCut ((exAt l (Int.toNat s5.2.1))) ((wr (x.lba + x.len))) ((64 : Int)) = some s11) (h12 : (s11.2) = true) (s13 : List Ex × List Ex) (h13 : mPut_B9 blocks l x s0 s2 s5 s8 s11 = some s13) : EvStep Try.prog cf 5 (lp Try.prog 48 0) (mPut_L0_S blocks l x s0 s2 s5) (mPut_L0_S blocks l x s0 s2 ((s5.1, ((wr (s5.2.1 + (1 : Int))), s13.2)))) :=
  leafS vw_eq (k := 300) (r := []) (hs := hz [(1, [.yes, .yes, .yes, .cells ((Ex.cells (exAt l (Int.toNat s5.2.1))))]), (2, [.cells ((xc (exAt l (Int.toNat s5.2.1))))]), (1, [.cells ((xc (exAt l (Int.toNat s5.2.1))))]), (4, [.fres (.tu [Ex.av (s8.1), .b (s8.2)])]), (5, [.cells ((xc s8.1))]), (3, [.no, .no, .no, .no, .no]), (4, [.no, .no, .no, .no, .no, .no, .no, .no, .no]), (2, [.cells ((xc (exAt l (Int.toNat s5.2.1))))]), (2, [.fres (.tu [Ex.av (s11.1), .b (s11.2)])]), (5, [.cells ((xc s11.1))]), (3, [.yes]), (1, [.yes]), (1, [.cells ((xc s11.1)), .yes]), (3, [.cells ((xc s11.1)), .res .normal (mPut_B9_S blocks l x s0 s2 s5 s8 s11 s13), .yes]), (1, [.yes]), (3, [])]) (st1 := (St.mk [(0, (AV.yl 4)), (1, (AV.pt 3 0)), (2, (AV.pt 2 0)), (4, (AV.i (wr (x.lba + x.len)))), (5, (AV.b s5.1)), (17, (exs l)), (18, (AV.i (↑(List.length l) : Int))), (19, (AV.i (wr (s5.2.1 + (1 : Int))))), (20, (AV.b (decide (s5.2.1 < (↑(List.length l) : Int))))), (21, (AV.ip (List.drop ((Int.toNat s5.2.1) * (5 : Nat)) (List.flatMap Ex.cells l)))), (22, (AV.ag (xc (exAt l (Int.toNat s5.2.1))))), (7, (AV.pt 6 0)), (24, (AV.ag (xc (exAt l (Int.toNat s5.2.1))))), (25, (AV.pt 3 0)), (26, (AV.i x.lba)), (27, (AV.tu [(AV.ag (xc s8.1)), (AV.b s8.2)])), (23, (AV.tu [(AV.ag (xc s8.1)), (AV.b s8.2)])), (28, (AV.ag (xc s8.1))), (29, (AV.b s8.2)), (8, (AV.pt 7 0)), (9, (AV.b s8.2)), (30, (AV.b s8.2)), (31, (AV.b s8.2)), (32, (AV.tu ([] : List AV))), (33, (AV.tu ([] : List AV))), (34, (AV.tu ([] : List AV))), (35, (AV.tu ([] : List AV))), (36, (AV.b Bool.false)), (37, (AV.b s5.1)), (38, (AV.b (!s5.1))), (39, (AV.b (!s5.1))), (40, (AV.tu ([] : List AV))), (41, (AV.tu ([] : List AV))), (42, (AV.tu ([] : List AV))), (43, (AV.tu ([] : List AV))), (44, (AV.tu ([] : List AV))), (45, (AV.tu ([] : List AV))), (46, (AV.tu ([] : List AV))), (47, (AV.tu ([] : List AV))), (48, (AV.b Bool.false)), (54, (AV.ag (xc (exAt l (Int.toNat s5.2.1))))), (55, (AV.i (wr (x.lba + x.len)))), (56, (AV.tu [(AV.ag (xc s11.1)), (AV.b s11.2)])), (53, (AV.tu [(AV.ag (xc s11.1)), (AV.b s11.2)])), (57, (AV.ag (xc s11.1))), (58, (AV.b s11.2)), (10, (AV.pt 8 0)), (11, (AV.b s11.2)), (59, (AV.b s11.2)), (60, (AV.b s11.2)), (61, (AV.yl 4)), (62, (AV.ag (xc s11.1))), (63, (AV.b Bool.true)), (64, (AV.b (!Bool.true))), (65, (AV.b (!Bool.true))), (66, (AV.i (wr (s5.2.1 + (1 : Int)))))] 67 (AH.mk 11 [(9, (AObj.cells (xc s11.1))), (8, (AObj.cells (xc s11.1))), (7, (AObj.cells (xc s8.1))), (6, (AObj.cells (xc (exAt l (Int.toNat s5.2.1))))), (4, (AObj.loop Go.LoopState.ready Option.none [(0, (AV.i blocks)), (1, (exs l)), (2, (AV.ag (xc x))), (5, (AV.pt 0 0)), (6, (AV.pt 1 0)), (7, (AV.i 0)), (12, (AV.b (!s0))), (17, (AV.b (decide ((wr (x.lba + x.len)) > blocks)))), (34, (AV.fn (48 : Nat) [(AV.pt 3 0), (AV.pt 2 0)]))] 63 [(35 : Nat)] (rfA Try.prog 38 0) (rfB Try.prog 38 0))), (3, (AObj.cells (xc x))), (2, (AObj.cells [(exs l)])), (1, (AObj.cells [(AV.rf 10 5 0 (List.length s13.2))])), (0, (AObj.cells (xc x))), (10, (AObj.cells (List.flatMap Ex.cells s13.2)))]) Bool.false)) kq (ac h6 (ac h7 (ac (fq (p := ((5 : Nat) ≤ (List.length (List.drop ((Int.toNat s5.2.1) * (5 : Nat)) (List.flatMap Ex.cells l)))))) (ac (show (List.take 5 (List.drop ((Int.toNat s5.2.1) * (5 : Nat)) (List.flatMap Ex.cells l))) = (Ex.cells (exAt l (Int.toNat s5.2.1))) from (ex_takeO bq bq)) (ac (Eq.refl ((xc (exAt l (Int.toNat s5.2.1))) : List AV)) (ac (Eq.refl ((xc (exAt l (Int.toNat s5.2.1))) : List AV)) (ac (eCut_ok ((exAt l (Int.toNat s5.2.1))) ((0 : Int)) (x.lba) _ h8).any0 (ac (Eq.refl ((xc s8.1) : List AV)) (ac h9 (ac h9 (ac h9 (ac h9 (ac h9 (ac h10 (ac h10 (ac h10 (ac h10 (ac h10 (ac h10 (ac h10 (ac h10 (ac h10 (ac (Eq.refl ((xc (exAt l (Int.toNat s5.2.1))) : List AV)) (ac (eCut_ok ((exAt l (Int.toNat s5.2.1))) ((wr (x.lba + x.len))) ((64 : Int)) _ h11).any0 (ac (Eq.refl ((xc s11.1) : List AV)) (ac h12 (ac h12 (ac (Eq.refl ((xc s11.1) : List AV)) (ac h12 (ac (Eq.refl ((xc s11.1) : List AV)) (ac (show Ev Try.prog cf ((rfB Try.prog 38 0)) (mPut_B9_I blocks l x s0 s2 s5 s8 s11) (.normal, mPut_B9_S blocks l x s0 s2 s5 s8 s11 s13) from (EvStep.ev (mPut_B9_ok blocks l x s0 s2 s5 s8 s11 _ h13) rfl)) (ac h12 (ac h12 an))))))))))))))))))))))))))))))))) (Nat.le_of_ble_eq_true rfl) (absB_of [10] [] kq (.consn kq (.yl rfl) (.consn kq (.pt rfl) (.consn kq (.pt rfl) (.consn kq (.eqv tq rfl) (.consn kq (.eqv tq rfl) (.consn kq (.eqv tq rfl) (.consn kq (.eqv tq rfl) (.consn kq (.eqv tq rfl) .nil)))))))) (.cons (.old rfl rfl (.loop (.consn kq (.eqv tq rfl) (.consn kq (.eqv tq rfl) (.consn kq (.agp pq) (.consn kq (.pt rfl) (.consn kq (.pt rfl) (.consn kq (.eqv tq rfl) (.consn kq (.eqv tq rfl) (.consn kq (.eqv tq rfl) (.consn kq (.fn (.cons (.pt rfl) (.cons (.pt rfl) .nil))) .nil))))))))))) (.cons (.old rfl rfl (.cells (.pl rfl pq))) (.cons (.old rfl rfl (.cells (.cons (.eqv tq rfl) .nil))) (.cons (.old rfl rfl (.cells (.cons (.rfn (n := (List.length s13.2)) rfl tq) .nil))) (.cons (.old rfl rfl (.cells (.pl rfl pq))) (.cons (.old rfl rfl (.cells (.pl tq pq))) .nil)))))))
theorem mPut_L0_s11 (blocks : Int) (l : List Ex) (x : Ex) (s0 : Bool) (s2 : Bool) (s5 : Bool × Int × List Ex) (h6 : ((decide (s5.2.1 < (↑(List.length l) : Int)))) = true) (h6p : (s5.2.1 < (↑(List.length l) : Int))) (h7 : (((0 : Int) ≤ s5.2.1) ∧ (s5.2.1 < (↑(List.length l) : Int)))) (s8 : Ex × Bool) (h8 : eCut ((exAt l (Int.toNat s5.2.1))) ((0 : Int)) (x.lba) = some s8) (h9 : (s8.2) = false) (h10 : ((!s5.1)) = false) (s11 : Ex × Bool) (h11 : eCut ((exAt l (Int.toNat s5.2.1))) ((wr (x.lba + x.len))) ((64 : Int)) = some s11) (h12 : (s11.2) = false) : EvStep Try.prog cf 5 (lp Try.prog 48 0) (mPut_L0_S blocks l x s0 s2 s5) (mPut_L0_S blocks l x s0 s2 ((s5.1, ((wr (s5.2.1 + (1 : Int))), s5.2.2)))) :=
  leafS vw_eq (k := 300) (r := []) (hs := hz [(1, [.yes, .yes, .yes, .cells ((Ex.cells (exAt l (Int.toNat s5.2.1))))]), (2, [.cells ((xc (exAt l (Int.toNat s5.2.1))))]), (1, [.cells ((xc (exAt l (Int.toNat s5.2.1))))]), (4, [.fres (.tu [Ex.av (s8.1), .b (s8.2)])]), (5, [.cells ((xc s8.1))]), (3, [.no, .no, .no, .no, .no]), (4, [.no, .no, .no, .no, .no, .no, .no, .no, .no]), (2, [.cells ((xc (exAt l (Int.toNat s5.2.1))))]), (2, [.fres (.tu [Ex.av (s11.1), .b (s11.2)])]), (5, [.cells ((xc s11.1))]), (3, [.no, .no, .no, .no, .no]), (3, [])]) (st1 := (St.mk [(0, (AV.yl 4)), (1, (AV.pt 3 0)), (2, (AV.pt 2 0)), (4, (AV.i (wr (x.lba + x.len)))), (5, (AV.b s5.1)), (17, (exs l)), (18, (AV.i (↑(List.length l) : Int))), (19, (AV.i (wr (s5.2.1 + (1 : Int))))), (20, (AV.b (decide (s5.2.1 < (↑(List.length l) : Int))))), (21, (AV.ip (List.drop ((Int.toNat s5.2.1) * (5 : Nat)) (List.flatMap Ex.cells l)))), (22, (AV.ag (xc (exAt l (Int.toNat s5.2.1))))), (7, (AV.pt 6 0)), (24, (AV.ag (xc (exAt l (Int.toNat s5.2.1))))), (25, (AV.pt 3 0)), (26, (AV.i x.lba)), (27, (AV.tu [(AV.ag (xc s8.1)), (AV.b s8.2)])), (23, (AV.tu [(AV.ag (xc s8.1)), (AV.b s8.2)])), (28, (AV.ag (xc s8.1))), (29, (AV.b s8.2)), (8, (AV.pt 7 0)), (9, (AV.b s8.2)), (30, (AV.b s8.2)), (31, (AV.b s8.2)), (32, (AV.tu ([] : List AV))), (33, (AV.tu ([] : List AV))), (34, (AV.tu ([] : List AV))), (35, (AV.tu ([] : List AV))), (36, (AV.b Bool.false)), (37, (AV.b s5.1)), (38, (AV.b (!s5.1))), (39, (AV.b (!s5.1))), (40, (AV.tu ([] : List AV))), (41, (AV.tu ([] : List AV))), (42, (AV.tu ([] : List AV))), (43, (AV.tu ([] : List AV))), (44, (AV.tu ([] : List AV))), (45, (AV.tu ([] : List AV))), (46, (AV.tu ([] : List AV))), (47, (AV.tu ([] : List AV))), (48, (AV.b Bool.false)), (54, (AV.ag (xc (exAt l (Int.toNat s5.2.1))))), (55, (AV.i (wr (x.lba + x.len)))), (56, (AV.tu [(AV.ag (xc s11.1)), (AV.b s11.2)])), (53, (AV.tu [(AV.ag (xc s11.1)), (AV.b s11.2)])), (57, (AV.ag (xc s11.1))), (58, (AV.b s11.2)), (10, (AV.pt 8 0)), (11, (AV.b s11.2)), (59, (AV.b s11.2)), (60, (AV.b s11.2)), (61, (AV.tu ([] : List AV))), (62, (AV.tu ([] : List AV))), (63, (AV.tu ([] : List AV))), (64, (AV.tu ([] : List AV))), (65, (AV.b Bool.false)), (66, (AV.i (wr (s5.2.1 + (1 : Int)))))] 67 (AH.mk 9 [(8, (AObj.cells (xc s11.1))), (7, (AObj.cells (xc s8.1))), (6, (AObj.cells (xc (exAt l (Int.toNat s5.2.1))))), (4, (AObj.loop Go.LoopState.ready Option.none [(0, (AV.i blocks)), (1, (exs l)), (2, (AV.ag (xc x))), (5, (AV.pt 0 0)), (6, (AV.pt 1 0)), (7, (AV.i 0)), (12, (AV.b (!s0))), (17, (AV.b (decide ((wr (x.lba + x.len)) > blocks)))), (34, (AV.fn (48 : Nat) [(AV.pt 3 0), (AV.pt 2 0)]))] 63 [(35 : Nat)] (rfA Try.prog 38 0) (rfB Try.prog 38 0))), (3, (AObj.cells (xc x))), (2, (AObj.cells [(exs l)])), (1, (AObj.cells [(AV.rf 5 5 0 (List.length s5.2.2))])), (0, (AObj.cells (xc x))), (5, (AObj.cells (List.flatMap Ex.cells s5.2.2)))]) Bool.false)) kq (ac h6 (ac h7 (ac (fq (p := ((5 : Nat) ≤ (List.length (List.drop ((Int.toNat s5.2.1) * (5 : Nat)) (List.flatMap Ex.cells l)))))) (ac (show (List.take 5 (List.drop ((Int.toNat s5.2.1) * (5 : Nat)) (List.flatMap Ex.cells l))) = (Ex.cells (exAt l (Int.toNat s5.2.1))) from (ex_takeO bq bq)) (ac (Eq.refl ((xc (exAt l (Int.toNat s5.2.1))) : List AV)) (ac (Eq.refl ((xc (exAt l (Int.toNat s5.2.1))) : List AV)) (ac (eCut_ok ((exAt l (Int.toNat s5.2.1))) ((0 : Int)) (x.lba) _ h8).any0 (ac (Eq.refl ((xc s8.1) : List AV)) (ac h9 (ac h9 (ac h9 (ac h9 (ac h9 (ac h10 (ac h10 (ac h10 (ac h10 (ac h10 (ac h10 (ac h10 (ac h10 (ac h10 (ac (Eq.refl ((xc (exAt l (Int.toNat s5.2.1))) : List AV)) (ac (eCut_ok ((exAt l (Int.toNat s5.2.1))) ((wr (x.lba + x.len))) ((64 : Int)) _ h11).any0 (ac (Eq.refl ((xc s11.1) : List AV)) (ac h12 (ac h12 (ac h12 (ac h12 (ac h12 an)))))))))))))))))))))))))))))) (Nat.le_of_ble_eq_true rfl) (absB_of [5] [] kq (.consn kq (.yl rfl) (.consn kq (.pt rfl) (.consn kq (.pt rfl) (.consn kq (.eqv tq rfl) (.consn kq (.eqv tq rfl) (.consn kq (.eqv tq rfl) (.consn kq (.eqv tq rfl) (.consn kq (.eqv tq rfl) .nil)))))))) (.cons (.old rfl rfl (.loop (.consn kq (.eqv tq rfl) (.consn kq (.eqv tq rfl) (.consn kq (.agp pq) (.consn kq (.pt rfl) (.consn kq (.pt rfl) (.consn kq (.eqv tq rfl) (.consn kq (.eqv tq rfl) (.consn kq (.eqv tq rfl) (.consn kq (.fn (.cons (.pt rfl) (.cons (.pt rfl) .nil))) .nil))))))))))) (.cons (.old rfl rfl (.cells (.pl rfl pq))) (.cons (.old rfl rfl (.cells (.cons (.eqv tq rfl) .nil))) (.cons (.old rfl rfl (.cells (.cons (.rfn (n := (List.length s5.2.2)) rfl tq) .nil))) (.cons (.old rfl rfl (.cells (.pl rfl pq))) (.cons (.old rfl rfl (.cells (.pl tq pq))) .nil)))))))
theorem mPut_L0_ok (blocks : Int) (l : List Ex) (x : Ex) (s0 : Bool) (s2 : Bool) (s5 zz : Bool × Int × List Ex) : mPut_L0_step blocks l x s0 s2 s5 = some zz → EvStep Try.prog cf 5 (lp Try.prog 48 0) (mPut_L0_S blocks l x s0 s2 s5) (mPut_L0_S blocks l x s0 s2 zz) := by
  unfold mPut_L0_step
  refine tb_ok (fun h6 => ?_) (fun h6 => ?_)
  ·
    have h6p := of_decide_eq_true h6
    refine tp_ok (fun h7 => ?_)
    refine tc_ok (fun s8 h8 => ?_)
    refine tb_ok (fun h9 => ?_) (fun h9 => ?_)
    ·
      refine tc_ok (fun s10 h10 => ?_)
      refine tb_ok (fun h11 => ?_) (fun h11 => ?_)
      ·
        refine tb_ok (fun h12 => ?_) (fun h12 => ?_)
        ·
          have h12p := of_decide_eq_true h12
          refine tc_ok (fun s13 h13 => ?_)
          refine tc_ok (fun s14 h14 => ?_)
          refine tb_ok (fun h15 => ?_) (fun h15 => ?_)
          ·
            refine tc_ok (fun s16 h16 => ?_)
            exact fun e => tl_ok (G := (fun zz => EvStep Try.prog cf 5 (lp Try.prog 48 0) (mPut_L0_S blocks l x s0 s2 s5) (mPut_L0_S blocks l x s0 s2 zz))) (mPut_L0_s0 blocks l x s0 s2 s5 h6 h6p h7 s8 h8 h9 s10 h10 h11 h12 h12p s13 h13 s14 h14 h15 s16 h16) e
          ·
            exact fun e => tl_ok (G := (fun zz => EvStep Try.prog cf 5 (lp Try.prog 48 0) (mPut_L0_S blocks l x s0 s2 s5) (mPut_L0_S blocks l x s0 s2 zz))) (mPut_L0_s1 blocks l x s0 s2 s5 h6 h6p h7 s8 h8 h9 s10 h10 h11 h12 h12p s13 h13 s14 h14 h15) e
        ·
          have h12p := of_decide_eq_false h12
          refine tc_ok (fun s13 h13 => ?_)
          refine tb_ok (fun h14 => ?_) (fun h14 => ?_)
          ·
            refine tc_ok (fun s15 h15 => ?_)
            exact fun e => tl_ok (G := (fun zz => EvStep Try.prog cf 5 (lp Try.prog 48 0) (mPut_L0_S blocks l x s0 s2 s5) (mPut_L0_S blocks l x s0 s2 zz))) (mPut_L0_s2 blocks l x s0 s2 s5 h6 h6p h7 s8 h8 h9 s10 h10 h11 h12 h12p s13 h13 h14 s15 h15) e
          ·
            exact fun e => tl_ok (G := (fun zz => EvStep Try.prog cf 5 (lp Try.prog 48 0) (mPut_L0_S blocks l x s0 s2 s5) (mPut_L0_S blocks l x s0 s2 zz))) (mPut_L0_s3 blocks l x s0 s2 s5 h6 h6p h7 s8 h8 h9 s10 h10 h11 h12 h12p s13 h13 h14) e
      ·
        refine tc_ok (fun s12 h12 => ?_)
        refine tb_ok (fun h13 => ?_) (fun h13 => ?_)
        ·
          refine tc_ok (fun s14 h14 => ?_)
          exact fun e => tl_ok (G := (fun zz => EvStep Try.prog cf 5 (lp Try.prog 48 0) (mPut_L0_S blocks l x s0 s2 s5) (mPut_L0_S blocks l x s0 s2 zz))) (mPut_L0_s4 blocks l x s0 s2 s5 h6 h6p h7 s8 h8 h9 s10 h10 h11 s12 h12 h13 s14 h14) e
        ·
          exact fun e => tl_ok (G := (fun zz => EvStep Try.prog cf 5 (lp Try.prog 48 0) (mPut_L0_S blocks l x s0 s2 s5) (mPut_L0_S blocks l x s0 s2 zz))) (mPut_L0_s5 blocks l x s0 s2 s5 h6 h6p h7 s8 h8 h9 s10 h10 h11 s12 h12 h13) e
    ·
      refine tb_ok (fun h10 => ?_) (fun h10 => ?_)
      ·
        refine tb_ok (fun h11 => ?_) (fun h11 => ?_)
        ·
          have h11p := of_decide_eq_true h11
          refine tc_ok (fun s12 h12 => ?_)
          refine tc_ok (fun s13 h13 => ?_)
          refine tb_ok (fun h14 => ?_) (fun h14 => ?_)
          ·
            refine tc_ok (fun s15 h15 => ?_)
            exact fun e => tl_ok (G := (fun zz => EvStep Try.prog cf 5 (lp Try.prog 48 0) (mPut_L0_S blocks l x s0 s2 s5) (mPut_L0_S blocks l x s0 s2 zz))) (mPut_L0_s6 blocks l x s0 s2 s5 h6 h6p h7 s8 h8 h9 h10 h11 h11p s12 h12 s13 h13 h14 s15 h15) e
          ·
            exact fun e => tl_ok (G := (fun zz => EvStep Try.prog cf 5 (lp Try.prog 48 0) (mPut_L0_S blocks l x s0 s2 s5) (mPut_L0_S blocks l x s0 s2 zz))) (mPut_L0_s7 blocks l x s0 s2 s5 h6 h6p h7 s8 h8 h9 h10 h11 h11p s12 h12 s13 h13 h14) e
        ·
          have h11p := of_decide_eq_false h11
          refine tc_ok (fun s12 h12 => ?_)
          refine tb_ok (fun h13 => ?_) (fun h13 => ?_)
          ·
            refine tc_ok (fun s14 h14 => ?_)
            exact fun e => tl_ok (G := (fun zz => EvStep Try.prog cf 5 (lp Try.prog 48 0) (mPut_L0_S blocks l x s0 s2 s5) (mPut_L0_S blocks l x s0 s2 zz))) (mPut_L0_s8 blocks l x s0 s2 s5 h6 h6p h7 s8 h8 h9 h10 h11 h11p s12 h12 h13 s14 h14) e
          ·
            exact fun e => tl_ok (G := (fun zz => EvStep Try.prog cf 5 (lp Try.prog 48 0) (mPut_L0_S blocks l x s0 s2 s5) (mPut_L0_S blocks l x s0 s2 zz))) (mPut_L0_s9 blocks l x s0 s2 s5 h6 h6p h7 s8 h8 h9 h10 h11 h11p s12 h12 h13) e
      ·
        refine tc_ok (fun s11 h11 => ?_)
        refine tb_ok (fun h12 => ?_) (fun h12 => ?_)
        ·
          refine tc_ok (fun s13 h13 => ?_)
          exact fun e => tl_ok (G := (fun zz => EvStep Try.prog cf 5 (lp Try.prog 48 0) (mPut_L0_S blocks l x s0 s2 s5) (mPut_L0_S blocks l x s0 s2 zz))) (mPut_L0_s10 blocks l x s0 s2 s5 h6 h6p h7 s8 h8 h9 h10 s11 h11 h12 s13 h13) e
        ·
          exact fun e => tl_ok (G := (fun zz => EvStep Try.prog cf 5 (lp Try.prog 48 0) (mPut_L0_S blocks l x s0 s2 s5) (mPut_L0_S blocks l x s0 s2 zz))) (mPut_L0_s11 blocks l x s0 s2 s5 h6 h6p h7 s8 h8 h9 h10 s11 h11 h12) e
  ·
    have h6p := of_decide_eq_false h6
    exact fun e => nomatch e
noncomputable def mPut (blocks : Int) (l : List Ex) (x : Ex) : Option (List Ex × Int) :=
 (tc (mCheck (blocks) (l)) fun s0 =>
  (tb ((!s0))
   (some ((([] : List Ex), (80 : Int))))
   (tc (eCheck (x)) fun s2 =>
    (tb ((!s2))
     (tc (mOwn (l)) fun s4 =>
      (some ((s4, (81 : Int)))))
     (tb ((decide ((wr (x.lba + x.len)) > blocks)))
      (tc (mOwn (l)) fun s5 =>
       (some ((s5, (81 : Int)))))
      (th (mPut_L0_step blocks l x s0 s2) ((Bool.false, ((0 : Int), ([] : List Ex)))) fun s5 =>
       (tb ((decide (s5.2.1 < (↑(List.length l) : Int))))
        none /- stop behind an operation -/
        (tp ((((0 : Nat) = (0 : Nat)) ∧ ((List.length (List.flatMap Ex.cells s5.2.2)) = ((List.length s5.2.2) * (5 : Nat)))))
         (tc (mOwn (s5.2.2)) fun s8 =>
          (some ((s8, (0 : Int)))))))))))))
abbrev mPut_G (blocks : Int) (l : List Ex) (x : Ex) (r : List Ex × Int) : Prop := EvFr Try.prog cf false 38 [.i (blocks), exs (l), Ex.av (x)] (.tu [exs (r.1), .i (r.2)])
theorem mPut_l0 (blocks : Int) (l : List Ex) (x : Ex) (s0 : Bool) (h0 : mCheck (blocks) (l) = some s0) (h1 : ((!s0)) = true) : mPut_G blocks l x ((([] : List Ex), (80 : Int))) :=
  leafR vw_eq (k := 300) (r := []) (hs := hz [(6, [.fres (.b (s0))]), (2, [.yes]), (1, [.cells ([AV.nl])]), (1, [])]) (raw := (AV.tu [(AV.sl 0 ([] : List AV)), (AV.i 80)])) kq (ac (mCheck_ok (blocks) (l) _ h0).any0 (ac h1 (ac (Eq.refl ([AV.nl] : List AV)) an))) tq
theorem mPut_l1 (blocks : Int) (l : List Ex) (x : Ex) (s0 : Bool) (h0 : mCheck (blocks) (l) = some s0) (h1 : ((!s0)) = false) (s2 : Bool) (h2 : eCheck (x) = some s2) (h3 : ((!s2)) = true) (s4 : List Ex) (h4 : mOwn (l) = some s4) : mPut_G blocks l x ((s4, (81 : Int))) :=
  leafR vw_eq (k := 300) (r := []) (hs := hz [(6, [.fres (.b (s0))]), (2, [.no]), (1, [.cells ((xc x))]), (1, [.fres (.b (s2))]), (2, [.yes, .yes, .yes, .yes, .yes, .yes, .yes, .yes]), (4, [.fres (exs (s4))]), (1, [.cells ([(exs s4)])]), (1, [])]) (raw := (AV.tu [(exs s4), (AV.i 81)])) kq (ac (mCheck_ok (blocks) (l) _ h0).any0 (ac h1 (ac (Eq.refl ((xc x) : List AV)) (ac (eCheck_ok (x) _ h2).any0 (ac h3 (ac h3 (ac h3 (ac h3 (ac h3 (ac h3 (ac h3 (ac h3 (ac (mOwn_ok (l) _ h4) (ac (Eq.refl ([(exs s4)] : List AV)) an)))))))))))))) tq
theorem mPut_l2 (blocks : Int) (l : List Ex) (x : Ex) (s0 : Bool) (h0 : mCheck (blocks) (l) = some s0) (h1 : ((!s0)) = false) (s2 : Bool) (h2 : eCheck (x) = some s2) (h3 : ((!s2)) = false) (h4 : ((decide ((wr (x.lba + x.len)) > blocks))) = true) (h4p : ((wr (x.lba + x.len)) > blocks)) (s5 : List Ex) (h5 : mOwn (l) = some s5) : mPut_G blocks l x ((s5, (81 : Int))) :=
  leafR vw_eq (k := 300) (r := []) (hs := hz [(6, [.fres (.b (s0))]), (2, [.no]), (1, [.cells ((xc x))]), (1, [.fres (.b (s2))]), (2, [.no]), (1, [.no]), (2, [.no]), (1, [.no]), (2, [.no]), (1, [.no]), (1, [.no]), (1, [.no]), (1, [.yes]), (2, [.fres (exs (s5))]), (1, [.cells ([(exs s5)])]), (1, [])]) (raw := (AV.tu [(exs s5), (AV.i 81)])) kq (ac (mCheck_ok (blocks) (l) _ h0).any0 (ac h1 (ac (Eq.refl ((xc x) : List AV)) (ac (eCheck_ok (x) _ h2).any0 (ac h3 (ac h3 (ac h3 (ac h3 (ac h3 (ac h3 (ac h3 (ac h3 (ac h4 (ac (mOwn_ok (l) _ h5) (ac (Eq.refl ([(exs s5)] : List AV)) an))))))))))))))) tq
theorem mPut_l3 (blocks : Int) (l : List Ex) (x : Ex) (s0 : Bool) (h0 : mCheck (blocks) (l) = some s0) (h1 : ((!s0)) = false) (s2 : Bool) (h2 : eCheck (x) = some s2) (h3 : ((!s2)) = false) (h4 : ((decide ((wr (x.lba + x.len)) > blocks))) = false) (h4p : ¬ ((wr (x.lba + x.len)) > blocks)) (s5 : Bool × Int × List Ex) (h5 : Runs (mPut_L0_step blocks l x s0 s2) ((Bool.false, ((0 : Int), ([] : List Ex)))) s5) (h6 : ((decide (s5.2.1 < (↑(List.length l) : Int)))) = false) (h6p : ¬ (s5.2.1 < (↑(List.length l) : Int))) (h7 : (((0 : Nat) = (0 : Nat)) ∧ ((List.length (List.flatMap Ex.cells s5.2.2)) = ((List.length s5.2.2) * (5 : Nat))))) (s8 : List Ex) (h8 : mOwn (s5.2.2) = some s8) : mPut_G blocks l x ((s8, (0 : Int))) :=
  leafR vw_eq (k := 300) (r := []) (hs := hz [(6, [.fres (.b (s0))]), (2, [.no]), (1, [.cells ((xc x))]), (1, [.fres (.b (s2))]), (2, [.no]), (1, [.no]), (2, [.no]), (1, [.no]), (2, [.no]), (1, [.no]), (1, [.no]), (1, [.no]), (1, [.no]), (2, [.cells ((xc x))]), (19, [.head (mPut_L0_S blocks l x s0 s2 s5)]), (1, [.no]), (3, [.yes, .yes, .fres (exs (s8))]), (1, [.cells ([(exs s8)])]), (1, [])]) (raw := (AV.tu [(exs s8), (AV.i 0)])) kq (ac (mCheck_ok (blocks) (l) _ h0).any0 (ac h1 (ac (Eq.refl ((xc x) : List AV)) (ac (eCheck_ok (x) _ h2).any0 (ac h3 (ac h3 (ac h3 (ac h3 (ac h3 (ac h3 (ac h3 (ac h3 (ac h4 (ac (Eq.refl ((xc x) : List AV)) (ac (show EvHead Try.prog cf (lp Try.prog 48 0) (mPut_L0_I blocks l x s0 s2) (mPut_L0_S blocks l x s0 s2 s5) from (EvHead.of (mPut_L0_ok blocks l x s0 s2) (absB_of [5] [] kq (.consn kq (.yl rfl) (.consn kq (.pt rfl) (.consn kq (.pt rfl) (.consn kq (.eqv tq rfl) (.consn kq (.eqv tq rfl) (.consn kq (.eqv tq rfl) (.consn kq (.eqv tq rfl) (.consn kq (.eqv tq rfl) .nil)))))))) (.cons (.old rfl rfl (.loop (.consn kq (.eqv tq rfl) (.consn kq (.eqv tq rfl) (.consn kq (.agp pq) (.consn kq (.pt rfl) (.consn kq (.pt rfl) (.consn kq (.eqv tq rfl) (.consn kq (.eqv tq rfl) (.consn kq (.eqv tq rfl) (.consn kq (.fn (.cons (.pt rfl) (.cons (.pt rfl) .nil))) .nil))))))))))) (.cons (.old rfl rfl (.cells (.pl rfl pq))) (.cons (.old rfl rfl (.cells (.cons (.eqv tq rfl) .nil))) (.cons (.old rfl rfl (.cells (.cons (.nln tq) .nil))) (.cons (.old rfl rfl (.cells (.pl rfl pq))) (.cons (.none rfl (Nat.le_refl _) rfl) .nil))))))) h5)) (ac h6 (ac h7 (ac (pq (p := Pl Bool.false ((List.flatMap Ex.cells s5.2.2)))) (ac (mOwn_ok (s5.2.2) _ h8) (ac (Eq.refl ([(exs s8)] : List AV)) an)))))))))))))))))))) tq
theorem mPut_ok (blocks : Int) (l : List Ex) (x : Ex) (r : List Ex × Int) : mPut blocks l x = some r → mPut_G blocks l x r := by
  unfold mPut
  refine tc_ok (fun s0 h0 => ?_)
  refine tb_ok (fun h1 => ?_) (fun h1 => ?_)
  ·
    exact fun e => tl_ok (G := mPut_G blocks l x) (mPut_l0 blocks l x s0 h0 h1) e
  ·
    refine tc_ok (fun s2 h2 => ?_)
    refine tb_ok (fun h3 => ?_) (fun h3 => ?_)
    ·
      refine tc_ok (fun s4 h4 => ?_)
      exact fun e => tl_ok (G := mPut_G blocks l x) (mPut_l1 blocks l x s0 h0 h1 s2 h2 h3 s4 h4) e
    ·
      refine tb_ok (fun h4 => ?_) (fun h4 => ?_)
      ·
        have h4p := of_decide_eq_true h4
        refine tc_ok (fun s5 h5 => ?_)
        exact fun e => tl_ok (G := mPut_G blocks l x) (mPut_l2 blocks l x s0 h0 h1 s2 h2 h3 h4 h4p s5 h5) e
      ·
        have h4p := of_decide_eq_false h4
        refine th_ok (fun s5 h5 => ?_)
        refine tb_ok (fun h6 => ?_) (fun h6 => ?_)
        ·
          have h6p := of_decide_eq_true h6
          exact fun e => nomatch e
        ·
          have h6p := of_decide_eq_false h6
          refine tp_ok (fun h7 => ?_)
          refine tc_ok (fun s8 h8 => ?_)
          exact fun e => tl_ok (G := mPut_G blocks l x) (mPut_l3 blocks l x s0 h0 h1 s2 h2 h3 h4 h4p s5 h5 h6 h6p h7 s8 h8) e
noncomputable def mNew (blocks : Int) : Option (List Ex × Int) :=
 (tb ((decide (blocks < (1 : Int))))
  (some ((([] : List Ex), (81 : Int))))
  (tb ((decide (blocks > (64 : Int))))
   (some ((([] : List Ex), (81 : Int))))
   (some (([(Ex.mk 0 blocks 0 0 ([] : List UInt8))], (0 : Int))))))
abbrev mNew_G (blocks : Int) (r : List Ex × Int) : Prop := EvFr Try.prog cf false 24 [.i (blocks)] (.tu [exs (r.1), .i (r.2)])
theorem mNew_l0 (blocks : Int) (h0 : ((decide (blocks < (1 : Int)))) = true) (h0p : (blocks < (1 : Int))) : mNew_G blocks ((([] : List Ex), (81 : Int))) :=
  leafR vw_eq (k := 300) (r := []) (hs := hz [(5, [.yes, .yes, .yes]), (3, [])]) (raw := (AV.tu [(AV.sl 0 ([] : List AV)), (AV.i 81)])) kq (ac h0 (ac h0 (ac h0 an))) tq
theorem mNew_l1 (blocks : Int) (h0 : ((decide (blocks < (1 : Int)))) = false) (h0p : ¬ (blocks < (1 : Int))) (h1 : ((decide (blocks > (64 : Int)))) = true) (h1p : (blocks > (64 : Int))) : mNew_G blocks ((([] : List Ex), (81 : Int))) :=
  leafR vw_eq (k := 300) (r := []) (hs := hz [(5, [.no]), (1, [.no]), (1, [.no, .yes]), (2, [])]) (raw := (AV.tu [(AV.sl 0 ([] : List AV)), (AV.i 81)])) kq (ac h0 (ac h0 (ac h0 (ac h1 an)))) tq
theorem mNew_l2 (blocks : Int) (h0 : ((decide (blocks < (1 : Int)))) = false) (h0p : ¬ (blocks < (1 : Int))) (h1 : ((decide (blocks > (64 : Int)))) = false) (h1p : ¬ (blocks > (64 : Int))) : mNew_G blocks (([(Ex.mk 0 blocks 0 0 ([] : List UInt8))], (0 : Int))) :=
  leafR vw_eq (k := 300) (r := []) (hs := hz [(5, [.no]), (1, [.no]), (1, [.no, .no]), (3, [.cells ([(AV.i 0), (AV.i blocks), (AV.i 0), (AV.i 0), AV.nl]), .cells ([(AV.i 0), (AV.i blocks), (AV.i 0), (AV.i 0), AV.nl])]), (2, [.yes]), (1, [])]) (raw := (AV.tu [(AV.sl 1 [(AV.i 0), (AV.i blocks), (AV.i 0), (AV.i 0), (AV.sl 0 ([] : List AV))]), (AV.i 0)])) kq (ac h0 (ac h0 (ac h0 (ac h1 (ac (Eq.refl ([(AV.i 0), (AV.i blocks), (AV.i 0), (AV.i 0), AV.nl] : List AV)) (ac (Eq.refl ([(AV.i 0), (AV.i blocks), (AV.i 0), (AV.i 0), AV.nl] : List AV)) (ac (tq (p := (((0 : Nat) = (0 : Nat)) ∧ ((List.length [(AV.i 0), (AV.i blocks), (AV.i (Int.ofNat 0)), (AV.i (Int.ofNat 0)), AV.nl]) = (5 : Nat))))) an))))))) tq
theorem mNew_ok (blocks : Int) (r : List Ex × Int) : mNew blocks = some r → mNew_G blocks r := by
  unfold mNew
  refine tb_ok (fun h0 => ?_) (fun h0 => ?_)
  ·
    have h0p := of_decide_eq_true h0
    exact fun e => tl_ok (G := mNew_G blocks) (mNew_l0 blocks h0 h0p) e
  ·
    have h0p := of_decide_eq_false h0
    refine tb_ok (fun h1 => ?_) (fun h1 => ?_)
    ·
      have h1p := of_decide_eq_true h1
      exact fun e => tl_ok (G := mNew_G blocks) (mNew_l1 blocks h0 h0p h1 h1p) e
    ·
      have h1p := of_decide_eq_false h1
      exact fun e => tl_ok (G := mNew_G blocks) (mNew_l2 blocks h0 h0p h1 h1p) e
end Ab
end Go.Proofs.Ytiaelfmohamipaa
namespace Go.Proofs.Ytiaelfmohamipaa
open Go Go.Proofs.Ytiaelfmohamipaa.Ab
set_option linter.unusedVariables false
set_option linter.unusedSimpArgs false
namespace Ab
theorem mOwn_eq (l : List Ex) (hl : l.length ≤ 4294967295) (hd : ∀ x ∈ l, x.d.length ≤ 4294967296) : mOwn l = some l := by
  unfold mOwn
  have hstep : ∀ i : Nat, i < l.length → mOwn_L0_step l (l.take i, (i : Int)) = some (l.take (i + 1), (i : Int) + 1) := by
    intro i hi
    have h1 := (exAt_all l (fun x => x.d.length ≤ 4294967296)).2 hd i hi
    unfold mOwn_L0_step
    simp only [tb_dec, Int.toNat_natCast]
    rw [if_pos (by omega), tp_pos (by omega), tp_pos h1, tp_pos ⟨exs_len _, by rw [List.length_take]; omega⟩, wr_id (by omega) (by omega), take_at ⟨0, 0, 0, 0, []⟩ l i hi]
    rfl
  have he : mOwn_L0_step l (l.take l.length, (l.length : Int)) = none := by
    unfold mOwn_L0_step
    simp only [tb_dec]
    rw [if_neg (by omega)]
  have := fun f => th_gath (α := List Ex) (step := mOwn_L0_step l) (f := f) (fun i => l.take i) l.length hstep he
  simp only [List.take_zero] at this
  rw [this]
  simp only [tb_dec]
  rw [if_neg (by omega), tp_pos (by first | exact ⟨rfl, exs_len _⟩ | exact ⟨trivial, exs_len _⟩), List.take_length]
end Ab
end Go.Proofs.Ytiaelfmohamipaa
namespace Go.Proofs.Ytiaelfmohamipaa
open Go Go.Proofs.Ytiaelfmohamipaa.Ab
set_option linter.unusedVariables false
set_option linter.unusedSimpArgs false
namespace Ab
noncomputable def putB (out : List Ex) (y : Ex) : Option (List Ex × List Ex) :=
 (tb ((decide ((↑(List.length out) : Int) > (0 : Int))))
  (tp ((((0 : Int) ≤ (wr ((↑(List.length out) : Int) - (1 : Int)))) ∧ ((wr ((↑(List.length out) : Int) - (1 : Int))) < (↑(List.length out) : Int))))
   (tc (eJoin ((exAt out (Int.toNat (wr ((↑(List.length out) : Int) - (1 : Int)))))) (y)) fun s13 =>
    (tb ((s13.2 == (0 : Int)))
     (tp ((((List.length (xc s13.1)) = (5 : Nat)) ∧ ((((0 : Nat) + ((Int.toNat (wr ((↑(List.length out) : Int) - (1 : Int)))) * (5 : Nat))) + (List.length (xc s13.1))) ≤ (List.length (List.flatMap Ex.cells out)))))
      (some ((([] : List Ex), (List.set out (Int.toNat (wr ((↑(List.length out) : Int) - (1 : Int)))) s13.1)))))
     (tp ((((List.length (List.flatMap Ex.cells out)) = ((List.length out) * (5 : Nat))) ∧ (((List.length out) + (1 : Nat)) ≤ (4294967296 : Nat))))
      (some ((([] : List Ex), (out ++ [y]))))))))
  (tp ((((List.length (List.flatMap Ex.cells out)) = ((List.length out) * (5 : Nat))) ∧ (((List.length out) + (1 : Nat)) ≤ (4294967296 : Nat))))
   (some ((([] : List Ex), (out ++ [y]))))))
theorem putB_eq (out : List Ex) (y : Ex) (ho : out.length ≤ 1000000) : putB out y = some ([], add out y) := by
  unfold putB
  simp only [tb_dec, tb_beq]
  by_cases h0 : out = []
  · subst h0
    rw [if_neg (by simp), tp_pos ⟨by simp, by simp⟩, add_nil]; rfl
  · have hl : 0 < out.length := List.length_pos_iff.2 h0
    have hw : wr ((out.length : Int) - 1) = ((out.length - 1 : Nat) : Int) := by rw [wr_id (by omega) (by omega)]; omega
    rw [if_pos (by omega), hw, tp_pos (by omega), Int.toNat_natCast, last_at out h0 _ rfl, eJoin_eq, tc_some]
    by_cases hj : Jn (out.getLastD ⟨0, 0, 0, 0, []⟩) y
    · have e : jnv (out.getLastD ⟨0, 0, 0, 0, []⟩) y = (jnx (out.getLastD ⟨0, 0, 0, 0, []⟩) y, 0) := if_pos hj
      rw [e, if_pos rfl, tp_pos ⟨rfl, by rw [exs_len]; simp; omega⟩, add_jn h0 hj, set_last_ex out h0 _ rfl]
    · have e : jnv (out.getLastD ⟨0, 0, 0, 0, []⟩) y = (⟨0, 0, 0, 0, []⟩, 70) := if_neg hj
      rw [e, if_neg (by simp), tp_pos ⟨exs_len _, by omega⟩, add_no hj]
section
variable (blocks : Int) (l : List Ex) (x : Ex) (s0 s2 : Bool)
theorem b1_eq (s5 : Bool × Int × List Ex) (s8 : Ex × Bool) (h : s5.2.2.length ≤ 1000000) : mPut_B1 blocks l x s0 s2 s5 s8 = some ([], add s5.2.2 s8.1) := putB_eq s5.2.2 s8.1 h
theorem b2_eq (s5 : Bool × Int × List Ex) (s8 : Ex × Bool) (s10 : List Ex × List Ex) (h : s10.2.length ≤ 1000000) : mPut_B2 blocks l x s0 s2 s5 s8 s10 = some ([], add s10.2 x) := putB_eq s10.2 x h
theorem b3_eq (s5 : Bool × Int × List Ex) (s8 : Ex × Bool) (s10 s13 : List Ex × List Ex) (s14 : Ex × Bool) (h : s13.2.length ≤ 1000000) : mPut_B3 blocks l x s0 s2 s5 s8 s10 s13 s14 = some ([], add s13.2 s14.1) := putB_eq s13.2 s14.1 h
theorem b4_eq (s5 : Bool × Int × List Ex) (s8 : Ex × Bool) (s10 : List Ex × List Ex) (s13 : Ex × Bool) (h : s10.2.length ≤ 1000000) : mPut_B4 blocks l x s0 s2 s5 s8 s10 s13 = some ([], add s10.2 s13.1) := putB_eq s10.2 s13.1 h
theorem b5_eq (s5 : Bool × Int × List Ex) (s8 : Ex × Bool) (s10 : List Ex × List Ex) (s12 : Ex × Bool) (h : s10.2.length ≤ 1000000) : mPut_B5 blocks l x s0 s2 s5 s8 s10 s12 = some ([], add s10.2 s12.1) := putB_eq s10.2 s12.1 h
theorem b6_eq (s5 : Bool × Int × List Ex) (s8 : Ex × Bool) (h : s5.2.2.length ≤ 1000000) : mPut_B6 blocks l x s0 s2 s5 s8 = some ([], add s5.2.2 x) := putB_eq s5.2.2 x h
theorem b7_eq (s5 : Bool × Int × List Ex) (s8 : Ex × Bool) (s12 : List Ex × List Ex) (s13 : Ex × Bool) (h : s12.2.length ≤ 1000000) : mPut_B7 blocks l x s0 s2 s5 s8 s12 s13 = some ([], add s12.2 s13.1) := putB_eq s12.2 s13.1 h
theorem b8_eq (s5 : Bool × Int × List Ex) (s8 s12 : Ex × Bool) (h : s5.2.2.length ≤ 1000000) : mPut_B8 blocks l x s0 s2 s5 s8 s12 = some ([], add s5.2.2 s12.1) := putB_eq s5.2.2 s12.1 h
theorem b9_eq (s5 : Bool × Int × List Ex) (s8 s11 : Ex × Bool) (h : s5.2.2.length ≤ 1000000) : mPut_B9 blocks l x s0 s2 s5 s8 s11 = some ([], add s5.2.2 s11.1) := putB_eq s5.2.2 s11.1 h
theorem step_eq (fl : Bool) (i : Nat) (out : List Ex) (hi : i < l.length) (hl : l.length ≤ 1000000) (he : Ck (exAt l i)) (hx : Ck x) (ho : out.length ≤ 900000) :
    mPut_L0_step blocks l x s0 s2 (fl, (i : Int), out) = some ((stp x (fl, out) (exAt l i)).1, (i : Int) + 1, (stp x (fl, out) (exAt l i)).2) := by
  have px := ck_pos hx
  have pe := ck_pos he
  unfold mPut_L0_step
  simp only [tb_dec, Int.toNat_natCast, eCut_eq, tc_some, tb_not]
  have w1 : wr ((i : Int) + 1) = (i : Int) + 1 := wr_id (by omega) (by omega)
  have w2 : wr (x.lba + x.len) = x.lba + x.len := wr_id (by omega) (by omega)
  have w3 : wr ((exAt l i).lba + (exAt l i).len) = (exAt l i).lba + (exAt l i).len := wr_id (by omega) (by omega)
  simp only [w1, w2, w3]
  rw [if_pos (by omega), tp_pos (by omega)]
  clear w1 w2 w3
  generalize exAt l i = e at he pe ⊢
  unfold stp F1 P1
  have a1 := add_len out (cu e 0 x.lba)
  have a2 := add_len out x
  have a3 := add_len (add out (cu e 0 x.lba)) x
  by_cases g1 : Cu e 0 x.lba <;> by_cases g3 : Cu e (x.lba + x.len) 64 <;> by_cases g2 : e.lba + e.len > x.lba <;> cases fl
  all_goals
    simp only [cutv_pos, cutv_neg, cut_pos, cut_neg, g1, g2, g3, not_false_eq_true, tb_t, tb_f, if_true, if_false, decide_true, decide_false, Bool.true_or, Bool.false_or, Bool.or_false, Option.toList_some, Option.toList_none, List.nil_append, List.append_nil, List.cons_append, List.foldl_cons, List.foldl_nil, and_true, and_false, true_and, false_and, Bool.true_eq_false, reduceCtorEq]
  all_goals first
    | rfl
    | (first
        | (rw [b1_eq _ _ _ _ _ _ _ (by first | assumption | (simp only; omega))]; simp only [tc_some])
        | (rw [b6_eq _ _ _ _ _ _ _ (by first | assumption | (simp only; omega))]; simp only [tc_some])
        | (rw [b8_eq _ _ _ _ _ _ _ _ (by first | assumption | (simp only; omega))]; simp only [tc_some]; done)
        | (rw [b9_eq _ _ _ _ _ _ _ _ (by first | assumption | (simp only; omega))]; simp only [tc_some]; done)
        | skip)
      <;> (try (rw [b2_eq _ _ _ _ _ _ _ _ (by simp only; omega)]; simp only [tc_some]))
      <;> (try (rw [b3_eq _ _ _ _ _ _ _ _ _ _ (by simp only; omega)]; simp only [tc_some]))
      <;> (try (rw [b4_eq _ _ _ _ _ _ _ _ _ (by simp only; omega)]; simp only [tc_some]))
      <;> (try (rw [b5_eq _ _ _ _ _ _ _ _ _ (by simp only; omega)]; simp only [tc_some]))
      <;> (try (rw [b7_eq _ _ _ _ _ _ _ _ _ (by simp only; omega)]; simp only [tc_some]))
end
end Ab
end Go.Proofs.Ytiaelfmohamipaa
namespace Go.Proofs.Ytiaelfmohamipaa
open Go Go.Proofs.Ytiaelfmohamipaa.Ab
set_option linter.unusedVariables false
set_option linter.unusedSimpArgs false
namespace Ab
theorem ch_len : ∀ {l : List Ex} {s : Int}, CH s l → (l.length : Int) ≤ sl l
  | [], _, _ => by simp [sl]
  | x :: l, s, h => by
    have := ch_len h.2.2.2
    have := ck_pos h.1
    simp only [sl, List.length_cons]; omega
theorem mk_len {blocks : Int} {l : List Ex} (h : Mk blocks l) : l.length ≤ 64 := by
  have h1 := ch_len (mk_ch h)
  have h2 := mk_blocks h
  have h3 := h.2.2
  omega
theorem ch_fun : ∀ {l : List Ex} {s : Int}, CH s l → ∀ {k : Int} {c c' : Int × Int × List UInt8}, Den l k c → Den l k c' → c = c'
  | [], _, _, _, _, _, h1, _ => absurd h1 den_nil
  | x :: l, s, h, k, c, c', h1, h2 => by
    have bx := h.2.1
    rcases den_cons.1 h1 with a | a <;> rcases den_cons.1 h2 with b | b
    · rw [a.2.2, b.2.2]
    · have := den_ge h.2.2.2 b; have := a.2.1; omega
    · have := den_ge h.2.2.2 a; have := b.2.1; omega
    · exact ch_fun h.2.2.2 a b
theorem ch_cov : ∀ {l : List Ex} {s : Int}, CH s l → ∀ {k : Int}, s ≤ k → k < s + sl l → ∃ x ∈ l, x.lba ≤ k ∧ k < x.lba + x.len
  | [], s, _, k, h1, h2 => by simp only [sl] at h2; omega
  | x :: l, s, h, k, h1, h2 => by
    have bx := h.2.1
    simp only [sl] at h2
    by_cases g : k < x.lba + x.len
    · exact ⟨x, by simp, by omega, g⟩
    · obtain ⟨y, hy, q⟩ := ch_cov h.2.2.2 (k := k) (by omega) (by omega)
      exact ⟨y, by simp [hy], q⟩
end Ab
end Go.Proofs.Ytiaelfmohamipaa
namespace Go.Proofs.Ytiaelfmohamipaa
open Go Go.Proofs.Ytiaelfmohamipaa.Ab
set_option linter.unusedVariables false
set_option linter.unusedSimpArgs false
namespace Ab
theorem mk_cks {blocks : Int} {l : List Ex} (h : Mk blocks l) : ∀ x ∈ l, Ck x := fun x hx => (ch_ck (mk_ch h) x hx).1
theorem own_mk {blocks : Int} {l : List Ex} (h : Mk blocks l) : mOwn l = some l :=
  mOwn_eq l (by have := mk_len h; omega) fun x hx => by have := ck_dlen (mk_cks h x hx); omega
def Fit8 (blocks : Int) (x : Ex) : Prop := Ck x ∧ x.lba + x.len ≤ blocks
instance (blocks : Int) (x : Ex) : Decidable (Fit8 blocks x) := by unfold Fit8; infer_instance
def puts (blocks : Int) (l : List Ex) (x : Ex) : List Ex × Int := if Mk blocks l then (if Fit8 blocks x then (put l x, 0) else (l, 81)) else ([], 80)
theorem P1_len (x : Ex) (fl : Bool) (e : Ex) : (P1 x fl e).length ≤ 3 := by
  unfold P1
  rw [List.length_append, List.length_append]
  have h : ∀ o : Option Ex, o.toList.length ≤ 1 := fun o => by cases o <;> simp
  have h1 := h (cut e 0 x.lba)
  have h2 := h (cut e (x.lba + x.len) 64)
  split <;> simp only [List.length_cons, List.length_nil] <;> omega
theorem stp_len (x : Ex) : ∀ (l : List Ex) (p : Bool × List Ex), (l.foldl (stp x) p).2.length ≤ p.2.length + 3 * l.length
  | [], p => by simp
  | e :: l, p => by
    have h1 := stp_len x l (stp x p e)
    have h2 := adds_len (P1 x p.1 e) p.2
    have h3 := P1_len x p.1 e
    have h4 : (stp x p e).2 = (P1 x p.1 e).foldl add p.2 := rfl
    rw [h4] at h1
    rw [List.foldl_cons, List.length_cons]; omega
theorem stp_take (x : Ex) (l : List Ex) (i : Nat) (hi : i < l.length) (p : Bool × List Ex) : (l.take (i + 1)).foldl (stp x) p = stp x ((l.take i).foldl (stp x) p) (exAt l i) := by
  rw [ex_take1 l i hi, List.foldl_append]; rfl
theorem mPut_eq (blocks : Int) (l : List Ex) (x : Ex) (hl : l.length ≤ 4294967296) : mPut blocks l x = some (puts blocks l x) := by
  unfold mPut puts
  rw [mCheck_eq _ _ hl, tc_some, tb_not]
  by_cases hm : Mk blocks l
  case neg => rw [mk_f hm, if_neg hm]; rfl
  rw [mk_t hm, tb_t, if_pos hm, eCheck_eq, tc_some, tb_not]
  by_cases hx : Ck x
  case neg => rw [ck_f hx, tb_f, own_mk hm, tc_some, if_neg fun h => hx h.1]
  have px := ck_pos hx
  have hlen := mk_len hm
  rw [ck_t hx, tb_t, tb_dec, wr_id (x := x.lba + x.len) (by omega) (by omega)]
  by_cases hf : x.lba + x.len > blocks
  · rw [if_pos hf, own_mk hm, tc_some, if_neg fun h => by have := h.2; omega]
  rw [if_neg hf, if_pos (show Fit8 blocks x from ⟨hx, by omega⟩)]
  have hS := fun (f : Bool × Int × List Ex → Option (List Ex × Int)) => th_run (f := f) (step := mPut_L0_step blocks l x true true) (fun i => (((l.take i).foldl (stp x) (false, [])).1, (i : Int), ((l.take i).foldl (stp x) (false, [])).2)) l.length (fun i hi => ?_) ?_
  rotate_left
  · have hb := stp_len x (l.take i) (false, [])
    rw [List.length_take] at hb
    simp only [List.length_nil] at hb
    rw [step_eq blocks l x true true _ i _ hi (by omega) (hm.2.1 i hi).1 hx (by omega), stp_take _ _ _ hi]
    simp
  · unfold mPut_L0_step
    simp only [tb_dec]
    rw [if_neg (by omega)]
  refine (hS _).trans ?_
  have hp : ((l.take l.length).foldl (stp x) (false, [])).2 = put l x := by rw [List.take_length, stp_pcs]; rfl
  simp only [tb_dec, hp]
  have hmk := (put_spec hm hx (by omega)).1
  rw [if_neg (by omega), tp_pos (by first | exact ⟨rfl, exs_len _⟩ | exact ⟨trivial, exs_len _⟩), own_mk hmk, tc_some]
theorem puts_mk {blocks : Int} : ∀ (o l : List Ex), Mk blocks l → (∀ x ∈ o, Fit8 blocks x) → Mk blocks (o.foldl put l)
  | [], l, h, _ => h
  | x :: o, l, h, hf => by
    have h1 := hf x (by simp)
    exact puts_mk o (put l x) (put_spec h h1.1 h1.2).1 fun y hy => hf y (by simp [hy])
end Ab
end Go.Proofs.Ytiaelfmohamipaa
namespace Go.Proofs.Ytiaelfmohamipaa
open Go Go.Proofs.Ytiaelfmohamipaa.Ab
set_option linter.unusedVariables false
set_option linter.unusedSimpArgs false
set_option maxRecDepth 1000000
namespace Ab
noncomputable abbrev mLay_G0_I (blocks : Int) (l : List Ex) (over_ : List Ex) (s0 : Bool) (s2 : List Ex) (s4 : List Ex × Int) : St := (St.mk [(0, (AV.i blocks)), (1, (exs l)), (2, (exs over_)), (6, AV.nl), (7, (AV.i 0)), (12, (AV.i blocks)), (13, (exs l)), (14, (AV.b s0)), (15, (AV.b (!s0))), (16, (exs l)), (17, (exs s2)), (8, (exs s4.1)), (9, (AV.i 1)), (18, (AV.i 0)), (19, (exs over_)), (20, (AV.i (↑(List.length over_) : Int))), (21, (AV.b ((0 : Int) == (↑(List.length over_) : Int)))), (24, (AV.i blocks)), (25, (exs s2)), (26, (exs over_)), (27, (AV.i 0)), (28, (AV.ip (List.flatMap Ex.cells over_))), (29, (AV.ag (xc (exAt over_ 0)))), (30, (AV.tu [(exs s4.1), (AV.i s4.2)])), (23, (AV.tu [(exs s4.1), (AV.i s4.2)])), (31, (exs s4.1)), (32, (AV.i s4.2)), (10, (exs s4.1)), (11, (AV.i s4.2)), (33, (AV.i s4.2)), (34, (AV.b (s4.2 != (0 : Int)))), (38, (exs s4.1)), (39, (AV.i 0)), (40, (AV.i 1))] 41 (AH.mk 0 ([] : List (Prod Nat AObj))) Bool.false)
noncomputable abbrev mLay_G0_S (blocks : Int) (l : List Ex) (over_ : List Ex) (s0 : Bool) (s2 : List Ex) (s4 : List Ex × Int) (s6 : List Ex × Int) : St := (St.mk [(0, (AV.i blocks)), (1, (exs l)), (2, (exs over_)), (15, (AV.b (!s0))), (8, (exs s6.1)), (9, (AV.i s6.2))] 41 (AH.mk 0 ([] : List (Prod Nat AObj))) Bool.false)
noncomputable def mLay_G0_step (blocks : Int) (l : List Ex) (over_ : List Ex) (s0 : Bool) (s2 : List Ex) (s4 : List Ex × Int) (s6 : List Ex × Int) : Option (List Ex × Int) :=
 (tb ((s6.2 == (↑(List.length over_) : Int)))
  none /- exit -/
  (tp ((((0 : Int) ≤ s6.2) ∧ (s6.2 < (↑(List.length over_) : Int))))
   (tc (mPut (blocks) (s6.1) ((exAt over_ (Int.toNat s6.2)))) fun s9 =>
    (tb ((s9.2 != (0 : Int)))
     none /- exit -/
     (some ((s9.1, (wr (s6.2 + (1 : Int))))))))))
theorem mLay_G0_s0 (blocks : Int) (l : List Ex) (over_ : List Ex) (s0 : Bool) (s2 : List Ex) (s4 : List Ex × Int) (s6 : List Ex × Int) (h7 : ((s6.2 == (↑(List.length over_) : Int))) = false) (h7p : ¬ (s6.2 = (↑(List.length over_) : Int))) (h8 : (((0 : Int) ≤ s6.2) ∧ (s6.2 < (↑(List.length over_) : Int)))) (s9 : List Ex × Int) (h9 : mPut (blocks) (s6.1) ((exAt over_ (Int.toNat s6.2))) = some s9) (h10 : ((s9.2 != (0 : Int))) = false) (h10p : (s9.2 = (0 : Int))) : EvSStep Try.prog cf 0 (sc Try.prog 25 0) (sr Try.prog 25 0 0) (mLay_G0_S blocks l over_ s0 s2 s4 s6) (mLay_G0_S blocks l over_ s0 s2 s4 ((s9.1, (wr (s6.2 + (1 : Int)))))) :=
  leafT vw_eq (l := 0) kq (k := 300) (r := []) (hs := hz [(4, [.no]), (4, [.yes, .yes, .cells ((Ex.cells (exAt over_ (Int.toNat s6.2))))]), (1, [.fres (.tu [exs (s9.1), .i (s9.2)])]), (7, [.no]), (5, [])]) (st1 := (St.mk [(0, (AV.i blocks)), (1, (exs l)), (2, (exs over_)), (15, (AV.b (!s0))), (8, (exs s9.1)), (9, (AV.i (wr (s6.2 + (1 : Int))))), (18, (AV.i s6.2)), (19, (exs over_)), (20, (AV.i (↑(List.length over_) : Int))), (21, (AV.b (s6.2 == (↑(List.length over_) : Int)))), (24, (AV.i blocks)), (25, (exs s6.1)), (26, (exs over_)), (27, (AV.i s6.2)), (28, (AV.ip (List.drop ((Int.toNat s6.2) * (5 : Nat)) (List.flatMap Ex.cells over_)))), (29, (AV.ag (xc (exAt over_ (Int.toNat s6.2))))), (30, (AV.tu [(exs s9.1), (AV.i s9.2)])), (23, (AV.tu [(exs s9.1), (AV.i s9.2)])), (31, (exs s9.1)), (32, (AV.i s9.2)), (10, (exs s9.1)), (11, (AV.i s9.2)), (33, (AV.i s9.2)), (34, (AV.b (s9.2 != (0 : Int)))), (38, (exs s9.1)), (39, (AV.i s6.2)), (40, (AV.i (wr (s6.2 + (1 : Int)))))] 41 (AH.mk 0 ([] : List (Prod Nat AObj))) Bool.false)) kq (ac h7 (ac h8 (ac (fq (p := ((5 : Nat) ≤ (List.length (List.drop ((Int.toNat s6.2) * (5 : Nat)) (List.flatMap Ex.cells over_)))))) (ac (show (List.take 5 (List.drop ((Int.toNat s6.2) * (5 : Nat)) (List.flatMap Ex.cells over_))) = (Ex.cells (exAt over_ (Int.toNat s6.2))) from (ex_takeO bq bq)) (ac (mPut_ok (blocks) (s6.1) ((exAt over_ (Int.toNat s6.2))) _ h9) (ac h10 an)))))) (Nat.le_of_ble_eq_true rfl) (absB_of [] [] kq (.consn kq (.eqv tq rfl) (.consn kq (.eqv tq rfl) (.consn kq (.eqv tq rfl) (.consn kq (.eqv tq rfl) (.consn (x := (exs s9.1)) kq (.eqv tq rfl) (.consn kq (.eqv tq rfl) .nil)))))) .nil)
theorem mLay_G0_ok (blocks : Int) (l : List Ex) (over_ : List Ex) (s0 : Bool) (s2 : List Ex) (s4 : List Ex × Int) (s6 zz : List Ex × Int) : mLay_G0_step blocks l over_ s0 s2 s4 s6 = some zz → EvSStep Try.prog cf 0 (sc Try.prog 25 0) (sr Try.prog 25 0 0) (mLay_G0_S blocks l over_ s0 s2 s4 s6) (mLay_G0_S blocks l over_ s0 s2 s4 zz) := by
  unfold mLay_G0_step
  refine tb_ok (fun h7 => ?_) (fun h7 => ?_)
  ·
    have h7p := eq_of_beq h7
    exact fun e => nomatch e
  ·
    have h7p := ne_of_beq_false h7
    refine tp_ok (fun h8 => ?_)
    refine tc_ok (fun s9 h9 => ?_)
    refine tb_ok (fun h10 => ?_) (fun h10 => ?_)
    ·
      have h10p := bne_iff_ne.1 h10
      exact fun e => nomatch e
    ·
      have h10p := bne_eq_false_iff_eq.1 h10
      exact fun e => tl_ok (G := (fun zz => EvSStep Try.prog cf 0 (sc Try.prog 25 0) (sr Try.prog 25 0 0) (mLay_G0_S blocks l over_ s0 s2 s4 s6) (mLay_G0_S blocks l over_ s0 s2 s4 zz))) (mLay_G0_s0 blocks l over_ s0 s2 s4 s6 h7 h7p h8 s9 h9 h10 h10p) e
noncomputable def mLay (blocks : Int) (l : List Ex) (over_ : List Ex) : Option (List Ex × Int) :=
 (tc (mCheck (blocks) (l)) fun s0 =>
  (tb ((!s0))
   (some ((([] : List Ex), (80 : Int))))
   (tc (mOwn (l)) fun s2 =>
    (tb (((0 : Int) == (↑(List.length over_) : Int)))
     (some ((s2, (0 : Int))))
     (tc (mPut (blocks) (s2) ((exAt over_ 0))) fun s4 =>
      (tb ((s4.2 != (0 : Int)))
       (tc (mOwn (l)) fun s6 =>
        (some ((s6, s4.2))))
       (th (mLay_G0_step blocks l over_ s0 s2 s4) ((s4.1, (1 : Int))) fun s6 =>
        (tb ((s6.2 == (↑(List.length over_) : Int)))
         (some ((s6.1, (0 : Int))))
         (tp ((((0 : Int) ≤ s6.2) ∧ (s6.2 < (↑(List.length over_) : Int))))
          (tc (mPut (blocks) (s6.1) ((exAt over_ (Int.toNat s6.2)))) fun s9 =>
           (tb ((s9.2 != (0 : Int)))
            (tc (mOwn (l)) fun s11 =>
             (some ((s11, s9.2))))
            none /- stop behind an operation -/)))))))))))
abbrev mLay_G (blocks : Int) (l : List Ex) (over_ : List Ex) (r : List Ex × Int) : Prop := EvFr Try.prog cf false 25 [.i (blocks), exs (l), exs (over_)] (.tu [exs (r.1), .i (r.2)])
theorem mLay_l0 (blocks : Int) (l : List Ex) (over_ : List Ex) (s0 : Bool) (h0 : mCheck (blocks) (l) = some s0) (h1 : ((!s0)) = true) : mLay_G blocks l over_ ((([] : List Ex), (80 : Int))) :=
  leafR vw_eq (k := 300) (r := []) (hs := hz [(5, [.fres (.b (s0))]), (1, [.yes]), (2, [])]) (raw := (AV.tu [(AV.sl 0 ([] : List AV)), (AV.i 80)])) kq (ac (mCheck_ok (blocks) (l) _ h0).any0 (ac h1 an)) tq
theorem mLay_l1 (blocks : Int) (l : List Ex) (over_ : List Ex) (s0 : Bool) (h0 : mCheck (blocks) (l) = some s0) (h1 : ((!s0)) = false) (s2 : List Ex) (h2 : mOwn (l) = some s2) (h3 : (((0 : Int) == (↑(List.length over_) : Int))) = true) (h3p : ((0 : Int) = (↑(List.length over_) : Int))) : mLay_G blocks l over_ ((s2, (0 : Int))) :=
  leafR vw_eq (k := 300) (r := []) (hs := hz [(5, [.fres (.b (s0))]), (1, [.no]), (2, [.fres (exs (s2))]), (6, [.yes]), (3, [])]) (raw := (AV.tu [(exs s2), (AV.i 0)])) kq (ac (mCheck_ok (blocks) (l) _ h0).any0 (ac h1 (ac (mOwn_ok (l) _ h2) (ac h3 an)))) tq
theorem mLay_l2 (blocks : Int) (l : List Ex) (over_ : List Ex) (s0 : Bool) (h0 : mCheck (blocks) (l) = some s0) (h1 : ((!s0)) = false) (s2 : List Ex) (h2 : mOwn (l) = some s2) (h3 : (((0 : Int) == (↑(List.length over_) : Int))) = false) (h3p : ¬ ((0 : Int) = (↑(List.length over_) : Int))) (s4 : List Ex × Int) (h4 : mPut (blocks) (s2) ((exAt over_ 0)) = some s4) (h5 : ((s4.2 != (0 : Int))) = true) (h5p : ¬ (s4.2 = (0 : Int))) (s6 : List Ex) (h6 : mOwn (l) = some s6) : mLay_G blocks l over_ ((s6, s4.2)) :=
  leafR vw_eq (k := 300) (r := []) (hs := hz [(5, [.fres (.b (s0))]), (1, [.no]), (2, [.fres (exs (s2))]), (6, [.no]), (4, [.yes, .yes, .cells ((Ex.cells (exAt over_ 0)))]), (1, [.fres (.tu [exs (s4.1), .i (s4.2)])]), (7, [.yes]), (2, [.fres (exs (s6))]), (3, [])]) (raw := (AV.tu [(exs s6), (AV.i s4.2)])) kq (ac (mCheck_ok (blocks) (l) _ h0).any0 (ac h1 (ac (mOwn_ok (l) _ h2) (ac h3 (ac (fq (p := (((0 : Int) ≤ (0 : Int)) ∧ ((0 : Int) < (↑(List.length over_) : Int))))) (ac (fq (p := ((5 : Nat) ≤ (List.length (List.flatMap Ex.cells over_))))) (ac (show (List.take 5 (List.flatMap Ex.cells over_)) = (Ex.cells (exAt over_ 0)) from (by have h := ex_take (over_) 0 bq; rwa [Nat.zero_mul, List.drop_zero] at h)) (ac (mPut_ok (blocks) (s2) ((exAt over_ 0)) _ h4) (ac h5 (ac (mOwn_ok (l) _ h6) an)))))))))) tq
theorem mLay_l3 (blocks : Int) (l : List Ex) (over_ : List Ex) (s0 : Bool) (h0 : mCheck (blocks) (l) = some s0) (h1 : ((!s0)) = false) (s2 : List Ex) (h2 : mOwn (l) = some s2) (h3 : (((0 : Int) == (↑(List.length over_) : Int))) = false) (h3p : ¬ ((0 : Int) = (↑(List.length over_) : Int))) (s4 : List Ex × Int) (h4 : mPut (blocks) (s2) ((exAt over_ 0)) = some s4) (h5 : ((s4.2 != (0 : Int))) = false) (h5p : (s4.2 = (0 : Int))) (s6 : List Ex × Int) (h6 : Runs (mLay_G0_step blocks l over_ s0 s2 s4) ((s4.1, (1 : Int))) s6) (h7 : ((s6.2 == (↑(List.length over_) : Int))) = true) (h7p : (s6.2 = (↑(List.length over_) : Int))) : mLay_G blocks l over_ ((s6.1, (0 : Int))) :=
  leafR vw_eq (k := 300) (r := []) (hs := hz [(5, [.fres (.b (s0))]), (1, [.no]), (2, [.fres (exs (s2))]), (6, [.no]), (4, [.yes, .yes, .cells ((Ex.cells (exAt over_ 0)))]), (1, [.fres (.tu [exs (s4.1), .i (s4.2)])]), (7, [.no]), (5, [.head (mLay_G0_S blocks l over_ s0 s2 s4 s6)]), (4, [.yes]), (3, [])]) (raw := (AV.tu [(exs s6.1), (AV.i 0)])) kq (ac (mCheck_ok (blocks) (l) _ h0).any0 (ac h1 (ac (mOwn_ok (l) _ h2) (ac h3 (ac (fq (p := (((0 : Int) ≤ (0 : Int)) ∧ ((0 : Int) < (↑(List.length over_) : Int))))) (ac (fq (p := ((5 : Nat) ≤ (List.length (List.flatMap Ex.cells over_))))) (ac (show (List.take 5 (List.flatMap Ex.cells over_)) = (Ex.cells (exAt over_ 0)) from (by have h := ex_take (over_) 0 bq; rwa [Nat.zero_mul, List.drop_zero] at h)) (ac (mPut_ok (blocks) (s2) ((exAt over_ 0)) _ h4) (ac h5 (ac (show EvSHead Try.prog cf (sc Try.prog 25 0) (sr Try.prog 25 0 0) (mLay_G0_I blocks l over_ s0 s2 s4) (mLay_G0_S blocks l over_ s0 s2 s4 s6) from (EvSHead.of (mLay_G0_ok blocks l over_ s0 s2 s4) (absB_of [] [] kq (.consn kq (.eqv tq rfl) (.consn kq (.eqv tq rfl) (.consn kq (.eqv tq rfl) (.consn kq (.eqv tq rfl) (.consn (x := (exs s4.1)) kq (.eqv tq rfl) (.consn kq (.eqv tq rfl) .nil)))))) .nil) h6)) (ac h7 an))))))))))) tq
theorem mLay_l4 (blocks : Int) (l : List Ex) (over_ : List Ex) (s0 : Bool) (h0 : mCheck (blocks) (l) = some s0) (h1 : ((!s0)) = false) (s2 : List Ex) (h2 : mOwn (l) = some s2) (h3 : (((0 : Int) == (↑(List.length over_) : Int))) = false) (h3p : ¬ ((0 : Int) = (↑(List.length over_) : Int))) (s4 : List Ex × Int) (h4 : mPut (blocks) (s2) ((exAt over_ 0)) = some s4) (h5 : ((s4.2 != (0 : Int))) = false) (h5p : (s4.2 = (0 : Int))) (s6 : List Ex × Int) (h6 : Runs (mLay_G0_step blocks l over_ s0 s2 s4) ((s4.1, (1 : Int))) s6) (h7 : ((s6.2 == (↑(List.length over_) : Int))) = false) (h7p : ¬ (s6.2 = (↑(List.length over_) : Int))) (h8 : (((0 : Int) ≤ s6.2) ∧ (s6.2 < (↑(List.length over_) : Int)))) (s9 : List Ex × Int) (h9 : mPut (blocks) (s6.1) ((exAt over_ (Int.toNat s6.2))) = some s9) (h10 : ((s9.2 != (0 : Int))) = true) (h10p : ¬ (s9.2 = (0 : Int))) (s11 : List Ex) (h11 : mOwn (l) = some s11) : mLay_G blocks l over_ ((s11, s9.2)) :=
  leafR vw_eq (k := 300) (r := []) (hs := hz [(5, [.fres (.b (s0))]), (1, [.no]), (2, [.fres (exs (s2))]), (6, [.no]), (4, [.yes, .yes, .cells ((Ex.cells (exAt over_ 0)))]), (1, [.fres (.tu [exs (s4.1), .i (s4.2)])]), (7, [.no]), (5, [.head (mLay_G0_S blocks l over_ s0 s2 s4 s6)]), (4, [.no]), (4, [.yes, .yes, .cells ((Ex.cells (exAt over_ (Int.toNat s6.2))))]), (1, [.fres (.tu [exs (s9.1), .i (s9.2)])]), (7, [.yes]), (2, [.fres (exs (s11))]), (3, [])]) (raw := (AV.tu [(exs s11), (AV.i s9.2)])) kq (ac (mCheck_ok (blocks) (l) _ h0).any0 (ac h1 (ac (mOwn_ok (l) _ h2) (ac h3 (ac (fq (p := (((0 : Int) ≤ (0 : Int)) ∧ ((0 : Int) < (↑(List.length over_) : Int))))) (ac (fq (p := ((5 : Nat) ≤ (List.length (List.flatMap Ex.cells over_))))) (ac (show (List.take 5 (List.flatMap Ex.cells over_)) = (Ex.cells (exAt over_ 0)) from (by have h := ex_take (over_) 0 bq; rwa [Nat.zero_mul, List.drop_zero] at h)) (ac (mPut_ok (blocks) (s2) ((exAt over_ 0)) _ h4) (ac h5 (ac (show EvSHead Try.prog cf (sc Try.prog 25 0) (sr Try.prog 25 0 0) (mLay_G0_I blocks l over_ s0 s2 s4) (mLay_G0_S blocks l over_ s0 s2 s4 s6) from (EvSHead.of (mLay_G0_ok blocks l over_ s0 s2 s4) (absB_of [] [] kq (.consn kq (.eqv tq rfl) (.consn kq (.eqv tq rfl) (.consn kq (.eqv tq rfl) (.consn kq (.eqv tq rfl) (.consn (x := (exs s4.1)) kq (.eqv tq rfl) (.consn kq (.eqv tq rfl) .nil)))))) .nil) h6)) (ac h7 (ac h8 (ac (fq (p := ((5 : Nat) ≤ (List.length (List.drop ((Int.toNat s6.2) * (5 : Nat)) (List.flatMap Ex.cells over_)))))) (ac (show (List.take 5 (List.drop ((Int.toNat s6.2) * (5 : Nat)) (List.flatMap Ex.cells over_))) = (Ex.cells (exAt over_ (Int.toNat s6.2))) from (ex_takeO bq bq)) (ac (mPut_ok (blocks) (s6.1) ((exAt over_ (Int.toNat s6.2))) _ h9) (ac h10 (ac (mOwn_ok (l) _ h11) an))))))))))))))))) tq
theorem mLay_ok (blocks : Int) (l : List Ex) (over_ : List Ex) (r : List Ex × Int) : mLay blocks l over_ = some r → mLay_G blocks l over_ r := by
  unfold mLay
  refine tc_ok (fun s0 h0 => ?_)
  refine tb_ok (fun h1 => ?_) (fun h1 => ?_)
  ·
    exact fun e => tl_ok (G := mLay_G blocks l over_) (mLay_l0 blocks l over_ s0 h0 h1) e
  ·
    refine tc_ok (fun s2 h2 => ?_)
    refine tb_ok (fun h3 => ?_) (fun h3 => ?_)
    ·
      have h3p := eq_of_beq h3
      exact fun e => tl_ok (G := mLay_G blocks l over_) (mLay_l1 blocks l over_ s0 h0 h1 s2 h2 h3 h3p) e
    ·
      have h3p := ne_of_beq_false h3
      refine tc_ok (fun s4 h4 => ?_)
      refine tb_ok (fun h5 => ?_) (fun h5 => ?_)
      ·
        have h5p := bne_iff_ne.1 h5
        refine tc_ok (fun s6 h6 => ?_)
        exact fun e => tl_ok (G := mLay_G blocks l over_) (mLay_l2 blocks l over_ s0 h0 h1 s2 h2 h3 h3p s4 h4 h5 h5p s6 h6) e
      ·
        have h5p := bne_eq_false_iff_eq.1 h5
        refine th_ok (fun s6 h6 => ?_)
        refine tb_ok (fun h7 => ?_) (fun h7 => ?_)
        ·
          have h7p := eq_of_beq h7
          exact fun e => tl_ok (G := mLay_G blocks l over_) (mLay_l3 blocks l over_ s0 h0 h1 s2 h2 h3 h3p s4 h4 h5 h5p s6 h6 h7 h7p) e
        ·
          have h7p := ne_of_beq_false h7
          refine tp_ok (fun h8 => ?_)
          refine tc_ok (fun s9 h9 => ?_)
          refine tb_ok (fun h10 => ?_) (fun h10 => ?_)
          ·
            have h10p := bne_iff_ne.1 h10
            refine tc_ok (fun s11 h11 => ?_)
            exact fun e => tl_ok (G := mLay_G blocks l over_) (mLay_l4 blocks l over_ s0 h0 h1 s2 h2 h3 h3p s4 h4 h5 h5p s6 h6 h7 h7p h8 s9 h9 h10 h10p s11 h11) e
          ·
            have h10p := bne_eq_false_iff_eq.1 h10
            exact fun e => nomatch e
end Ab
end Go.Proofs.Ytiaelfmohamipaa
namespace Go.Proofs.Ytiaelfmohamipaa
open Go Go.Proofs.Ytiaelfmohamipaa.Ab
set_option linter.unusedVariables false
set_option linter.unusedSimpArgs false
namespace Ab
def lays (blocks : Int) (l o : List Ex) : List Ex × Int := if Mk blocks l then (if ∀ x ∈ o, Fit8 blocks x then (o.foldl put l, 0) else (l, 81)) else ([], 80)
theorem put_take (o l : List Ex) (i : Nat) (hi : i < o.length) : (o.take (i + 1)).foldl put l = put ((o.take i).foldl put l) (exAt o i) := by
  rw [ex_take1 o i hi, List.foldl_append]; rfl
theorem mem_take {o : List Ex} {n : Nat} {P : Ex → Prop} (hn : n ≤ o.length) (h : ∀ j, j < n → P (exAt o j)) : ∀ x ∈ o.take n, P x := by
  intro x hx
  obtain ⟨j, hj, e⟩ := List.getElem_of_mem hx
  rw [List.length_take] at hj
  rw [List.getElem_take] at e
  have := h j (by omega)
  rw [← e]
  have e2 : exAt o j = o[j]'(by omega) := by unfold exAt; simp [show j < o.length by omega]
  rw [← e2]; exact this
def layS (l o : List Ex) (i : Nat) : List Ex × Int := ((o.take (i + 1)).foldl put l, ((i + 1 : Nat) : Int))
theorem layS_0 (l o : List Ex) (h : 0 < o.length) : layS l o 0 = (put l (exAt o 0), 1) := by
  unfold layS; rw [put_take o l 0 h]; rfl
theorem mLay_eq (blocks : Int) (l o : List Ex) (hl : l.length ≤ 4294967296) (ho : o.length ≤ 4294967296) : mLay blocks l o = some (lays blocks l o) := by
  unfold mLay lays
  rw [mCheck_eq _ _ hl, tc_some, tb_not]
  by_cases hm : Mk blocks l
  case neg => rw [mk_f hm, if_neg hm]; rfl
  rw [mk_t hm, tb_t, if_pos hm, own_mk hm, tc_some, tb_beq]
  by_cases h0 : o.length = 0
  · have : o = [] := List.eq_nil_of_length_eq_zero h0
    subst this
    rw [if_pos (show (0 : Int) = (([] : List Ex).length : Int) from rfl), if_pos (by simp)]; rfl
  rw [if_neg (by omega), mPut_eq _ _ _ hl, tc_some, tb_bne]
  by_cases f0 : Fit8 blocks (exAt o 0)
  case neg =>
    have e : puts blocks l (exAt o 0) = (l, 81) := by unfold puts; rw [if_pos hm, if_neg f0]
    have hex : ¬ ∀ x ∈ o, Fit8 blocks x := fun h => f0 (h _ (by
      unfold exAt; rw [List.getD_eq_getElem?_getD, List.getElem?_eq_getElem (by omega)]; exact List.getElem_mem _))
    rw [e, if_neg (by simp), tc_some, if_neg hex]
  have e : puts blocks l (exAt o 0) = (put l (exAt o 0), 0) := by unfold puts; rw [if_pos hm, if_pos f0]
  rw [e, if_pos rfl]
  have hQ : (∀ i, i < o.length - 1 → Fit8 blocks (exAt o (i + 1))) ↔ ∀ x ∈ o, Fit8 blocks x := by
    constructor
    · intro h
      have := mem_take (o := o) (n := o.length) (P := Fit8 blocks) (Nat.le_refl _) fun j hj => by
        cases j with
        | zero => exact f0
        | succ j => exact h j (by omega)
      rwa [List.take_length] at this
    · intro h i hi
      refine h _ ?_
      unfold exAt; rw [List.getD_eq_getElem?_getD, List.getElem?_eq_getElem (by omega)]; exact List.getElem_mem _
  have hmk : ∀ i, i < o.length → (∀ j, j < i → Fit8 blocks (exAt o (j + 1))) → Mk blocks ((o.take (i + 1)).foldl put l) := fun i hi h => puts_mk _ _ hm (mem_take (by omega) fun j hj => by
    cases j with
    | zero => exact f0
    | succ j => exact h j (by omega))
  show th (mLay_G0_step blocks l o true l (put l (exAt o 0), 0)) (put l (exAt o 0), 1) _ = _
  rw [← layS_0 l o (by omega)]
  refine Eq.trans (th_first (some (l, 81)) (some (o.foldl put l, 0)) (layS l o) (o.length - 1) (fun i => Fit8 blocks (exAt o (i + 1))) (∀ x ∈ o, Fit8 blocks x) hQ (fun i hi hpre hp => ?_) (fun i hi hpre hp => ?_) (fun hall => ?_)) ?_
  · have hk := hmk i (by omega) hpre
    unfold mLay_G0_step layS
    simp only [tb_beq, tb_bne, Int.toNat_natCast]
    rw [if_neg (by omega), tp_pos (by omega), mPut_eq _ _ _ (by have := mk_len hk; omega), tc_some]
    unfold puts
    rw [if_pos hk, if_pos hp, if_pos rfl, wr_id (by omega) (by omega), put_take _ _ _ (show i + 1 < o.length by omega)]
    simp
  · have hk := hmk i (by omega) hpre
    have e2 : puts blocks ((o.take (i + 1)).foldl put l) (exAt o (i + 1)) = ((o.take (i + 1)).foldl put l, 81) := by unfold puts; rw [if_pos hk, if_neg hp]
    unfold mLay_G0_step layS
    simp only [tb_beq, tb_bne, Int.toNat_natCast]
    rw [mPut_eq _ _ _ (by have := mk_len hk; omega), e2]
    simp only [tc_some]
    rw [if_neg (by omega), tp_pos (by omega), if_neg (by omega), if_neg (by omega), tp_pos (by omega)]
    exact ⟨rfl, rfl⟩
  · unfold mLay_G0_step layS
    simp only [tb_beq]
    rw [if_pos (by omega), if_pos (by omega), show o.length - 1 + 1 = o.length by omega, List.take_length]
    exact ⟨rfl, rfl⟩
  · by_cases hall : ∀ x ∈ o, Fit8 blocks x
    · rw [if_pos hall, if_pos hall]
    · rw [if_neg hall, if_neg hall]
end Ab
end Go.Proofs.Ytiaelfmohamipaa
namespace Go.Proofs.Ytiaelfmohamipaa
open Go Go.Proofs.Ytiaelfmohamipaa.Ab
set_option linter.unusedVariables false
set_option linter.unusedSimpArgs false
namespace Ab
theorem den_lay {blocks : Int} : ∀ (o m : List Ex), Mk blocks m → (∀ x ∈ o, Fit8 blocks x) → (∀ x ∈ o, ∀ y ∈ o, ∀ k, x.lba ≤ k → k < x.lba + x.len → y.lba ≤ k → k < y.lba + y.len → bAt x k = bAt y k) →
    ∀ k c, Den (o.foldl put m) k c ↔ Den o k c ∨ ((∀ x ∈ o, k < x.lba ∨ x.lba + x.len ≤ k) ∧ Den m k c)
  | [], m, hm, _, _, k, c => by
    rw [List.foldl_nil]
    exact ⟨fun q => .inr ⟨(by intro x hx; cases hx), q⟩, fun q => q.elim (fun q => absurd q den_nil) (·.2)⟩
  | x :: o, m, hm, hf, hc, k, c => by
    have fx := hf x (by simp)
    obtain ⟨h1, d1⟩ := put_spec hm fx.1 fx.2
    have ih := den_lay o (put m x) h1 (fun y hy => hf y (by simp [hy])) (fun y hy z hz => hc y (by simp [hy]) z (by simp [hz])) k c
    rw [List.foldl_cons, ih, d1, den_cons]
    constructor
    · rintro (q | ⟨a, ⟨b, q⟩ | q⟩)
      · exact .inl (.inr q)
      · refine .inr ⟨fun y hy => ?_, q⟩
        rcases List.mem_cons.1 hy with e | e
        · subst e; exact b
        · exact a y e
      · exact .inl (.inl q)
    · rintro ((q | q) | ⟨a, q⟩)
      · by_cases g : ∀ y ∈ o, k < y.lba ∨ y.lba + y.len ≤ k
        · exact .inr ⟨g, .inr q⟩
        · have : ∃ y, y ∈ o ∧ ¬ (k < y.lba ∨ y.lba + y.len ≤ k) := Classical.byContradiction fun hn => g fun y hy => Classical.byContradiction fun hp => hn ⟨y, hy, hp⟩
          obtain ⟨y, hy, hk⟩ := this
          have e := hc x (by simp) y (by simp [hy]) k q.1 q.2.1 (by omega) (by omega)
          exact .inl ⟨y, hy, by omega, by omega, by rw [← e]; exact q.2.2⟩
      · exact .inl q
      · exact .inr ⟨fun y hy => a y (by simp [hy]), .inl ⟨a x (by simp), q⟩⟩
def new (blocks : Int) : List Ex := [⟨0, blocks, 0, 0, []⟩]
theorem mk_new {blocks : Int} (h : 1 ≤ blocks ∧ blocks ≤ 64) : Mk blocks (new blocks) := by
  refine ch_mk (l := new blocks) ⟨?_, rfl, (by intro y hy; cases hy), trivial⟩ (by simp [new, sl]) h.1
  refine ⟨by simp, by simp, by simp only; omega, by simp only; omega, by simp, by simp, by simp, by simp, by simp, by simp⟩
end Ab
end Go.Proofs.Ytiaelfmohamipaa
namespace Go.Proofs.Ytiaelfmohamipaa
open Go Go.Proofs.Ytiaelfmohamipaa.Ab
set_option linter.unusedVariables false
set_option linter.unusedSimpArgs false
namespace Ab
def So : Int → List Ex → Prop
  | _, [] => True
  | s, x :: l => Ck x ∧ s ≤ x.lba ∧ So (x.lba + x.len) l
def en : Int → List Ex → Int
  | s, [] => s
  | _, x :: l => en (x.lba + x.len) l
theorem en_app : ∀ (a b : List Ex) (s : Int), en s (a ++ b) = en (en s a) b
  | [], b, s => rfl
  | x :: a, b, s => en_app a b _
theorem so_app : ∀ (a b : List Ex) (s : Int), So s (a ++ b) ↔ So s a ∧ So (en s a) b
  | [], b, s => by simp [So, en]
  | x :: a, b, s => by
    have ih := so_app a b (x.lba + x.len)
    simp only [List.cons_append, So, en, ih]
    exact ⟨fun ⟨h1, h2, h3, h4⟩ => ⟨⟨h1, h2, h3⟩, h4⟩, fun ⟨⟨h1, h2, h3⟩, h4⟩ => ⟨h1, h2, h3, h4⟩⟩
theorem so_ck : ∀ {l : List Ex} {s : Int}, So s l → ∀ x ∈ l, Ck x ∧ s ≤ x.lba
  | [], _, _, x, hx => by cases hx
  | y :: l, s, h, x, hx => by
    have p := ck_pos h.1
    rcases List.mem_cons.1 hx with e | e
    · subst e; exact ⟨h.1, h.2.1⟩
    · have := so_ck h.2.2 x e
      have := h.2.1
      exact ⟨(so_ck h.2.2 x e).1, by omega⟩
theorem so_en : ∀ {l : List Ex} {s : Int}, So s l → s ≤ en s l
  | [], _, _ => Int.le_refl _
  | x :: l, s, h => by
    have p := ck_pos h.1
    have := so_en h.2.2
    have := h.2.1
    simp only [en]; omega
theorem so_le : ∀ {l : List Ex} {s : Int}, So s l → ∀ x ∈ l, x.lba + x.len ≤ en s l
  | [], _, _, x, hx => by cases hx
  | y :: l, s, h, x, hx => by
    simp only [en]
    rcases List.mem_cons.1 hx with e | e
    · subst e; exact so_en h.2.2
    · exact so_le h.2.2 x e
theorem so_mono {l : List Ex} {s t : Int} (h : So s l) (ht : t ≤ s) : So t l := by
  cases l with
  | nil => trivial
  | cons x l => exact ⟨h.1, by have := h.2.1; omega, h.2.2⟩
theorem so_one : ∀ {l : List Ex} {s : Int}, So s l → ∀ x ∈ l, ∀ y ∈ l, ∀ k, x.lba ≤ k → k < x.lba + x.len → y.lba ≤ k → k < y.lba + y.len → x = y
  | [], _, _, x, hx, _, _, _, _, _, _, _ => by cases hx
  | z :: l, s, h, x, hx, y, hy, k, a1, a2, b1, b2 => by
    rcases List.mem_cons.1 hx with e | e <;> rcases List.mem_cons.1 hy with g | g
    · rw [e, g]
    · subst e; have := (so_ck h.2.2 y g).2; omega
    · subst g; have := (so_ck h.2.2 x e).2; omega
    · exact so_one h.2.2 x e y g k a1 a2 b1 b2
theorem ls_so {l : List Ex} (h : Ls l) : So 0 l := by
  have key : ∀ j, j ≤ l.length → So (atp l (l.length - j)) (l.drop (l.length - j)) := by
    intro j
    induction j with
    | zero => intro _; rw [Nat.sub_zero, List.drop_length]; trivial
    | succ j ih =>
      intro hj
      have hi : l.length - (j + 1) < l.length := by omega
      have hp := h.2 _ hi
      have e : l.drop (l.length - (j + 1)) = exAt l (l.length - (j + 1)) :: l.drop (l.length - (j + 1) + 1) := by unfold exAt; exact drop_at _ l _ hi
      rw [e]
      refine ⟨hp.1, hp.2, ?_⟩
      rw [← atp_succ, show l.length - (j + 1) + 1 = l.length - j by omega]
      exact ih (by omega)
  have := key l.length (Nat.le_refl _)
  simpa [atp] using this
theorem so_ls : ∀ (l : List Ex) (s : Int), So s l → ∀ i, i < l.length → Ck (exAt l i) ∧ (if i = 0 then s else (exAt l (i - 1)).lba + (exAt l (i - 1)).len) ≤ (exAt l i).lba
  | [], _, _, i, hi => by simp at hi
  | x :: l, s, h, 0, hi => ⟨h.1, h.2.1⟩
  | x :: l, s, h, i + 1, hi => by
    have ih := so_ls l _ h.2.2 i (by simpa using hi)
    refine ⟨ih.1, ?_⟩
    rw [if_neg (by omega), Nat.add_sub_cancel]
    have e : exAt (x :: l) (i + 1) = exAt l i := rfl
    rw [e]
    cases i with
    | zero => exact ih.2
    | succ i => have := ih.2; rw [if_neg (by omega), Nat.add_sub_cancel] at this; exact this
theorem so_lp {l : List Ex} (h : So 0 l) : ∀ i, i < l.length → LP l i := fun i hi => by
  have := so_ls l 0 h i hi
  unfold LP atp; exact this
def NJ : List Ex → Prop
  | [] => True
  | [_] => True
  | x :: y :: l => ¬ Jn x y ∧ NJ (y :: l)
theorem nj_snoc : ∀ (o : List Ex) (y : Ex), NJ (o ++ [y]) ↔ NJ o ∧ ∀ a, o.getLast? = some a → ¬ Jn a y
  | [], y => by simp [NJ]
  | [x], y => by simp [NJ]
  | x :: z :: o, y => by
    have ih := nj_snoc (z :: o) y
    simp only [List.cons_append, NJ] at ih ⊢
    rw [ih, List.getLast?_cons_cons, and_assoc]
theorem so_snoc (o : List Ex) (y : Ex) (s : Int) : So s (o ++ [y]) ↔ So s o ∧ Ck y ∧ en s o ≤ y.lba := by
  rw [so_app]; simp [So]
def Gd (x : Ex) : Prop := x.kind = 2 → ∀ z ∈ flags x.d, z = false
theorem gd_jnx {a b : Ex} (h : Jn a b) (ha : Gd a) (hb : Gd b) : Gd (jnx a b) := by
  intro hk z hz
  have hk : a.kind = 2 := hk
  have hl := ck_d2 h.1 hk
  have e : flags (jnx a b).d = flags a.d ++ flags b.d := flags_append _ (by omega)
  rw [e] at hz
  rcases List.mem_append.1 hz with g | g
  · exact ha hk z g
  · exact hb (h.2.2.2.1 ▸ hk) z g
theorem add_so {out : List Ex} {y : Ex} (h1 : So 0 out) (h2 : NJ out) (h3 : ∀ x ∈ out, Gd x) (hy : Ck y) (hg : Gd y) (hl : en 0 out ≤ y.lba) : So 0 (add out y) ∧ NJ (add out y) ∧ (∀ x ∈ add out y, Gd x) ∧ en 0 (add out y) = y.lba + y.len := by
  unfold add
  by_cases g : out ≠ [] ∧ Jn (out.getLastD ⟨0, 0, 0, 0, []⟩) y
  · rw [if_pos g]
    have e := snoc_of g.1
    generalize out.getLastD ⟨0, 0, 0, 0, []⟩ = a at g e ⊢
    generalize out.dropLast = o at e ⊢
    rw [e] at h1 h2 h3
    obtain ⟨a1, a2, a3⟩ := (so_snoc o a 0).1 h1
    obtain ⟨b1, b2⟩ := (nj_snoc o a).1 h2
    have hj := g.2
    refine ⟨(so_snoc o _ 0).2 ⟨a1, ck_jnx hj, a3⟩, (nj_snoc o _).2 ⟨b1, fun b hb q => b2 b hb ⟨q.1, a2, q.2.2.1, q.2.2.2.1, q.2.2.2.2⟩⟩, fun x hx => ?_, ?_⟩
    · rcases List.mem_append.1 hx with q | q
      · exact h3 x (List.mem_append_left _ q)
      · rw [List.mem_singleton] at q; subst q
        exact gd_jnx hj (h3 a (by simp)) hg
    · rw [en_app]
      simp only [en, jnx]
      have := hj.2.2.1
      omega
  · rw [if_neg g]
    refine ⟨(so_snoc out y 0).2 ⟨h1, hy, hl⟩, (nj_snoc out y).2 ⟨h2, fun a ha q => g ⟨?_, ?_⟩⟩, fun x hx => ?_, ?_⟩
    · intro e0; rw [e0] at ha; cases ha
    · rw [List.getLastD_eq_getLast?, ha]; exact q
    · rcases List.mem_append.1 hx with q | q
      · exact h3 x q
      · rw [List.mem_singleton] at q; subst q; exact hg
    · rw [en_app]; rfl
theorem adds_so : ∀ (ys out : List Ex), So 0 out → NJ out → (∀ x ∈ out, Gd x) → So (en 0 out) ys → (∀ x ∈ ys, Gd x) → So 0 (ys.foldl add out) ∧ NJ (ys.foldl add out) ∧ (∀ x ∈ ys.foldl add out, Gd x)
  | [], out, h1, h2, h3, _, _ => ⟨h1, h2, h3⟩
  | y :: ys, out, h1, h2, h3, h4, h5 => by
    obtain ⟨a, b, c, d⟩ := add_so h1 h2 h3 h4.1 (h5 y (by simp)) h4.2.1
    rw [List.foldl_cons]
    exact adds_so ys _ a b c (by rw [d]; exact h4.2.2) fun x hx => h5 x (by simp [hx])
theorem nj_fold : ∀ (l o : List Ex), NJ (o ++ l) → l.foldl add o = o ++ l
  | [], o, _ => by simp
  | y :: l, o, h => by
    have e : add o y = o ++ [y] := by
      unfold add
      rw [if_neg]
      rintro ⟨g1, g2⟩
      have hs := snoc_of g1
      have h' : NJ ((o ++ [y]) ++ l) := by rw [List.append_assoc]; exact h
      have key : ∀ (l p : List Ex), NJ (p ++ l) → NJ p := by
        intro l
        induction l with
        | nil => intro p hp; simpa using hp
        | cons z l ih =>
          intro p hp
          have := ih (p ++ [z]) (by rw [List.append_assoc]; exact hp)
          exact ((nj_snoc p z).1 this).1
      have h2 := (nj_snoc o y).1 (key l _ h')
      refine h2.2 _ ?_ g2
      rw [List.getLastD_eq_getLast?]
      cases hq : o.getLast? with
      | none => rw [List.getLast?_eq_none_iff] at hq; exact absurd hq g1
      | some a => rfl
    rw [List.foldl_cons, e, nj_fold l _ (by rw [List.append_assoc]; exact h), List.append_assoc]; rfl
/-! What is told apart. -/
theorem ly_ff : ∀ (zs : List Bool) (lba : Int) (b : List UInt8) (n : Int), (∀ z ∈ zs, z = false) → 0 ≤ n → ly lba b false n zs = if n + zs.length = 0 then [] else [mkx lba b false (n + zs.length)]
  | [], lba, b, n, _, hn => by simp [ly]
  | z :: zs, lba, b, n, h, hn => by
    have hz := h z (by simp)
    subst hz
    unfold ly
    rw [if_pos rfl, ly_ff zs lba b (n + 1) (fun y hy => h y (by simp [hy])) (by omega)]
    simp only [List.length_cons]
    rw [if_neg (by omega), if_neg (by omega), show n + 1 + (zs.length : Int) = n + ((zs.length + 1 : Nat) : Int) by omega]
theorem told_gd {x : Ex} (h : Ck x) (hg : Gd x) : told x = [x] := by
  unfold told
  by_cases hk : x.kind = 2
  · rw [if_pos hk]
    have hl := ck_d2 h hk
    have p := ck_pos h
    have hf : (flags x.d).length = x.d.length / 32 := fl_length _ _
    rw [ly_ff _ _ _ _ (hg hk) (Int.le_refl _), if_neg (by omega)]
    have e : (0 : Int) + ((flags x.d).length : Int) = x.len := by omega
    rw [e]
    simp only [List.map_cons, List.map_nil, mkx, sg, Bool.false_eq_true, if_false]
    rw [List.take_of_length_le (by omega), ← hk]
  · rw [if_neg hk]
    have := ck_d0 h hk
    cases x with
    | mk a b c e d => simp only at this; subst this; rfl
theorem flags_32 {b : List UInt8} (h : b.length = 32) : flags b = [zb b] := by
  rw [flags_cons (b := b) (by omega), flags_nil (by rw [List.length_drop]; omega), List.take_of_length_le (by omega)]
theorem wl_gd : ∀ (zs : List Bool) (lba : Int) (b : List UInt8) (c : Bool) (m : Nat), b.length = 32 * (m + zs.length) → flags (b.drop (32 * m)) = zs → (c = false → ∀ z ∈ flags (b.take (32 * m)), z = false) → ∀ x ∈ ly lba b c m zs, Gd x
  | [], lba, b, c, m, h3, h5, h6, x, hx => by
    unfold ly at hx
    split at hx
    · cases hx
    · rw [List.mem_singleton] at hx
      subst hx
      intro hk
      unfold mkx at hk ⊢
      cases c with
      | true => simp at hk
      | false =>
        simp only [Bool.false_eq_true, if_false]
        rw [show (32 * (m : Int)).toNat = 32 * m by omega]
        exact h6 rfl
  | z :: zs, lba, b, c, m, h3, h5, h6, x, hx => by
    simp only [List.length_cons] at h3
    have hf := flags_cons (b := b.drop (32 * m)) (by rw [List.length_drop]; omega)
    rw [h5] at hf
    injection hf with hz hzs
    have hd : (b.drop (32 * m)).drop 32 = b.drop (32 * (m + 1)) := by rw [List.drop_drop]; congr 1
    rw [hd] at hzs
    have h32 : ((b.drop (32 * m)).take 32).length = 32 := by rw [List.length_take, List.length_drop]; omega
    unfold ly at hx
    split at hx
    · rename_i hc
      refine wl_gd zs lba b c (m + 1) (by omega) hzs.symm (fun hcf => ?_) x (by rw [show ((m + 1 : Nat) : Int) = (m : Int) + 1 by omega]; exact hx)
      have e : b.take (32 * (m + 1)) = b.take (32 * m) ++ (b.drop (32 * m)).take 32 := by rw [show 32 * (m + 1) = 32 * m + 32 by omega, List.take_add]
      rw [e, flags_append _ (by rw [List.length_take]; omega), flags_32 h32]
      intro y hy
      rcases List.mem_append.1 hy with g | g
      · exact h6 hcf y g
      · rw [List.mem_singleton] at g
        rw [g, ← hz, hc, hcf]
    · rename_i hc
      split at hx
      · rename_i hm
        have hm0 : m = 0 := by omega
        subst hm0
        refine wl_gd zs lba b z 1 (by omega) hzs.symm (fun hcf => ?_) x (by simpa using hx)
        rw [Nat.mul_zero, List.drop_zero] at hz h32
        rw [Nat.mul_one, flags_32 h32]
        intro y hy
        rw [List.mem_singleton] at hy
        rw [hy, ← hz, hcf]
      · rcases List.mem_cons.1 hx with g | g
        · subst g
          intro hk
          unfold mkx at hk ⊢
          cases c with
          | true => simp at hk
          | false =>
            simp only [Bool.false_eq_true, if_false]
            rw [show (32 * (m : Int)).toNat = 32 * m by omega]
            exact h6 rfl
        · have e : (32 * (m : Int)).toNat = 32 * m := by omega
          rw [e] at g
          refine wl_gd zs (lba + m) (b.drop (32 * m)) z 1 (by rw [List.length_drop]; omega) (by rw [Nat.mul_one, hd]; exact hzs.symm) (fun hcf => ?_) x (by simpa using g)
          rw [Nat.mul_one, flags_32 h32]
          intro y hy
          rw [List.mem_singleton] at hy
          rw [hy, ← hz, hcf]
theorem wl_so : ∀ (l : List Ex) (lba k : Int) (b : List UInt8) (g : Int), 0 ≤ g ∧ g ≤ 2147483647 → WL lba k l b → So lba (l.map (sg g)) ∧ (en lba (l.map (sg g)) : Int) * 32 = lba * 32 + b.length
  | [], lba, k, b, g, _, h => by
    have h : b = [] := h
    subst h; simp [So, en]
  | x :: l, lba, k, b, g, hg, h => by
    obtain ⟨h1, h2, h3, b', h4, h5⟩ := h
    obtain ⟨i1, i2⟩ := wl_so l _ _ _ g hg h5
    have hl := eb_len h1
    have hc := h1
    unfold Ck at hc
    refine ⟨⟨?_, by show lba ≤ x.lba; omega, by show So (x.lba + x.len) _; rw [h2]; exact i1⟩, ?_⟩
    · exact ⟨hc.1, hc.2.1, hc.2.2.1, hc.2.2.2.1, hc.2.2.2.2.1, hc.2.2.2.2.2.1, hg.1, hg.2, hc.2.2.2.2.2.2.2.2.1, hc.2.2.2.2.2.2.2.2.2⟩
    · have hlen : b.length = (eb x).length + b'.length := by rw [h4, List.length_append]
      show en (x.lba + x.len) _ * 32 = _
      rw [h2, i2]; omega
theorem told_so {x : Ex} (h : Ck x) : So x.lba (told x) ∧ en x.lba (told x) = x.lba + x.len ∧ ∀ y ∈ told x, Gd y := by
  by_cases hk : x.kind = 2
  · have hw := lay_wl (ck_lo h hk)
    have hc := h
    unfold Ck at hc
    have hl := ck_d2 h hk
    obtain ⟨i1, i2⟩ := wl_so _ _ _ _ x.gen ⟨hc.2.2.2.2.2.2.1, hc.2.2.2.2.2.2.2.1⟩ hw
    unfold told
    rw [if_pos hk]
    refine ⟨i1, by omega, fun y hy => ?_⟩
    obtain ⟨z, hz, rfl⟩ := List.mem_map.1 hy
    have hf : (flags x.d).length = x.d.length / 32 := fl_length _ _
    have := wl_gd (flags x.d) x.lba x.d false 0 (by omega) (by simp) (fun _ y hy => by simp [flags_nil] at hy) z hz
    exact this
  · have e := told_gd h fun q => absurd q hk
    rw [e]
    exact ⟨⟨h, Int.le_refl _, trivial⟩, rfl, fun y hy => by rw [List.mem_singleton] at hy; subst hy; exact fun q => absurd q hk⟩
theorem tolds_so : ∀ (l : List Ex) (s : Int), So s l → So s (l.flatMap told) ∧ en s (l.flatMap told) = en s l ∧ ∀ y ∈ l.flatMap told, Gd y
  | [], s, _ => ⟨trivial, rfl, fun y hy => by simp at hy⟩
  | x :: l, s, h => by
    obtain ⟨a, b, c⟩ := told_so h.1
    obtain ⟨i1, i2, i3⟩ := tolds_so l _ h.2.2
    have p := ck_pos h.1
    have he : en s (told x) = x.lba + x.len := by
      cases hq : told x with
      | nil => rw [hq] at b; simp only [en] at b; omega
      | cons y q => rw [hq] at b; exact b
    rw [List.flatMap_cons]
    refine ⟨(so_app _ _ _).2 ⟨so_mono a h.2.1, by rw [he]; exact i1⟩, by rw [en_app, he, i2]; rfl, fun y hy => ?_⟩
    rcases List.mem_append.1 hy with g | g
    · exact c y g
    · exact i3 y g
theorem pk_spec {l : List Ex} (h : Ls l) : So 0 (pk l).1 ∧ NJ (pk l).1 ∧ (∀ x ∈ (pk l).1, Gd x) ∧ (pk l).2 = 0 ∧ (pk l).1 = (l.flatMap told).foldl add [] := by
  obtain ⟨a, b, c⟩ := tolds_so l 0 (ls_so h)
  have := adds_so (l.flatMap told) [] trivial trivial (fun x hx => by cases hx) a c
  have e : pk l = ((l.flatMap told).foldl add [], 0) := by unfold pk; rw [if_pos h]
  rw [e]
  exact ⟨this.1, this.2.1, this.2.2, rfl, rfl⟩
theorem pk_twice {l : List Ex} (h : Ls l) : (Ls (pk l).1 → pk (pk l).1 = ((pk l).1, 0)) ∧ (¬ Ls (pk l).1 → (pk l).1.length > 64 ∧ pk (pk l).1 = ([], 70)) := by
  obtain ⟨a, b, c, d, e⟩ := pk_spec h
  generalize (pk l).1 = x at a b c
  constructor
  · intro hx
    unfold pk
    rw [if_pos hx]
    have hf : x.flatMap told = x := by
      have key : ∀ y : List Ex, (∀ z ∈ y, Ck z ∧ Gd z) → y.flatMap told = y := by
        intro y
        induction y with
        | nil => intro _; rfl
        | cons z y ih => intro hz; rw [List.flatMap_cons, told_gd (hz z (by simp)).1 (hz z (by simp)).2, ih fun w hw => hz w (by simp [hw])]; rfl
      exact key x fun z hz => ⟨(so_ck a z hz).1, c z hz⟩
    rw [hf, nj_fold x [] b]; rfl
  · intro hx
    refine ⟨?_, by unfold pk; rw [if_neg hx]⟩
    rcases Nat.lt_or_ge 64 x.length with g | g
    · exact g
    · exact absurd ⟨g, so_lp a⟩ hx
end Ab
end Go.Proofs.Ytiaelfmohamipaa
namespace Go.Proofs.Ytiaelfmohamipaa
open Go Go.Proofs.Ytiaelfmohamipaa.Ab
set_option linter.unusedVariables false
set_option linter.unusedSimpArgs false
namespace Ab
theorem th_run_at {σ α : Type} {step : σ → Option σ} {f : σ → Option α} (S : Nat → σ) (k : Nat) {s0 : σ} (h0 : s0 = S 0) (hs : ∀ i, i < k → step (S i) = some (S (i + 1))) (he : step (S k) = none) : th step s0 f = f (S k) := by
  subst h0; exact th_run S k hs he
theorem pad_rep (n m : Nat) : pad n (List.replicate m 0) = List.replicate n 0 := by
  unfold pad
  rw [List.replicate_append_replicate, List.take_replicate]
  congr 1; omega
theorem pad_nil (n : Nat) : pad n [] = List.replicate n 0 := pad_rep n 0
def CkC (c : Ce) : Prop := 0 ≤ c.kind ∧ c.kind ≤ 2 ∧ 0 ≤ c.gen ∧ c.gen ≤ 2147483647 ∧ (c.kind ≠ 2 → pad 32 c.d = List.replicate 32 0)
instance (c : Ce) : Decidable (CkC c) := by unfold CkC; infer_instance
def CkI (l : List Ce) : Prop := 1 ≤ l.length ∧ l.length ≤ 64 ∧ ∀ c ∈ l, CkC c
instance (l : List Ce) : Decidable (CkI l) := by unfold CkI; infer_instance
theorem ceAt_all (l : List Ce) (p : Ce → Prop) : (∀ i, i < l.length → p (ceAt l i)) ↔ ∀ x ∈ l, p x := by
  unfold ceAt; exact getD_all _ l p
end Ab
end Go.Proofs.Ytiaelfmohamipaa
namespace Go.Proofs.Ytiaelfmohamipaa
open Go Go.Proofs.Ytiaelfmohamipaa.Ab
set_option linter.unusedVariables false
set_option linter.unusedSimpArgs false
namespace Ab
def blk (c : Ce) : Int × Int × List UInt8 := (c.kind, c.gen, if c.kind = 2 then pad 32 c.d else [])
def cb (c : Int × Int × List UInt8) : Ce := ⟨c.1, c.2.1, pad 32 c.2.2⟩
/-! Blocks of a map. -/
def xcs (x : Ex) : List Ce := (List.range x.len.toNat).map fun k => ⟨x.kind, x.gen, pad 32 ((eb x).drop (32 * k))⟩
def cellsM (m : List Ex) : List Ce := m.flatMap xcs
theorem pad_take (l : List UInt8) : pad 32 (l.take 32) = pad 32 l := by
  unfold pad
  rw [List.take_append, List.take_append, List.take_take, Nat.min_self, List.take_replicate, List.take_replicate, List.length_take]
  congr 2
  omega
theorem xcs_at {x : Ex} (h : Ck x) {k : Int} (h1 : x.lba ≤ k) (h2 : k < x.lba + x.len) : (xcs x)[(k - x.lba).toNat]? = some (cb (bAt x k)) := by
  unfold xcs
  rw [List.getElem?_map, List.getElem?_range (by omega)]
  simp only [Option.map_some, Option.some.injEq, cb, bAt, Ce.mk.injEq, true_and]
  unfold eb
  have e : 32 * (k - x.lba).toNat = (32 * (k - x.lba)).toNat := by omega
  rw [e, pad_take]
  split
  · rfl
  · rename_i hk
    rw [ck_d0 h hk, List.drop_replicate, List.drop_nil, pad_rep, pad_nil]
theorem xcs_len (x : Ex) : (xcs x).length = x.len.toNat := by simp [xcs]
theorem cellsM_len : ∀ {m : List Ex} {s : Int}, CH s m → ((cellsM m).length : Int) = sl m
  | [], _, _ => rfl
  | x :: m, s, h => by
    have := cellsM_len h.2.2.2
    have p := ck_pos h.1
    simp only [cellsM, List.flatMap_cons, List.length_append, xcs_len, sl] at this ⊢
    omega
theorem cellsM_den : ∀ {m : List Ex} {s : Int}, CH s m → ∀ {k : Int} {c : Int × Int × List UInt8}, Den m k c → (cellsM m)[(k - s).toNat]? = some (cb c)
  | [], _, _, k, c, hd => absurd hd den_nil
  | x :: m, s, h, k, c, hd => by
    have p := ck_pos h.1
    have hb := h.2.1
    simp only [cellsM, List.flatMap_cons]
    rcases den_cons.1 hd with q | q
    · rw [List.getElem?_append_left (by rw [xcs_len]; have := q.1; have := q.2.1; omega), q.2.2, ← hb]
      exact xcs_at h.1 q.1 q.2.1
    · have hg := den_ge h.2.2.2 q
      rw [List.getElem?_append_right (by rw [xcs_len]; omega), xcs_len]
      have := cellsM_den h.2.2.2 q
      rw [show (k - s).toNat - x.len.toNat = (k - (s + x.len)).toNat by omega]
      exact this
theorem den_ck {x : Ex} (h : Ck x) {k : Int} (h1 : x.lba ≤ k) (h2 : k < x.lba + x.len) : blk (cb (bAt x k)) = bAt x k ∧ CkC (cb (bAt x k)) := by
  have hc := h
  unfold Ck at hc
  have hl : x.kind = 2 → ((x.d.drop (32 * (k - x.lba)).toNat).take 32).length = 32 := fun hk => by
    have := ck_d2 h hk
    rw [List.length_take, List.length_drop]; omega
  constructor
  · have e : blk (cb (bAt x k)) = (x.kind, x.gen, if x.kind = 2 then pad 32 (pad 32 ((x.d.drop (32 * (k - x.lba)).toNat).take 32)) else []) := rfl
    rw [e]
    by_cases hk : x.kind = 2
    · rw [if_pos hk, pad_pad, pad_of (hl hk)]; rfl
    · rw [if_neg hk]; unfold bAt; rw [ck_d0 h hk]; simp
  · refine ⟨by simp only [cb, bAt]; omega, by simp only [cb, bAt]; omega, by simp only [cb, bAt]; omega, by simp only [cb, bAt]; omega, fun hk => ?_⟩
    have hk : x.kind ≠ 2 := hk
    simp only [cb, bAt, ck_d0 h hk, List.drop_nil, List.take_nil, pad_nil, pad_rep]
theorem mk_get {blocks : Int} {m : List Ex} (h : Mk blocks m) {i : Nat} (hi : (i : Int) < blocks) : ∃ x ∈ m, Ck x ∧ x.lba ≤ i ∧ (i : Int) < x.lba + x.len ∧ Den m i (bAt x i) ∧ (cellsM m)[i]? = some (cb (bAt x i)) := by
  have hc := mk_ch h
  obtain ⟨x, hx, h1, h2⟩ := ch_cov hc (k := i) (by omega) (by rw [h.2.2]; omega)
  have hd : Den m i (bAt x i) := ⟨x, hx, h1, h2, rfl⟩
  have := cellsM_den hc hd
  rw [Int.sub_zero, Int.toNat_natCast] at this
  exact ⟨x, hx, (ch_ck hc x hx).1, h1, h2, hd, this⟩
theorem cellsM_mk {blocks : Int} {m : List Ex} (h : Mk blocks m) : CkI (cellsM m) ∧ ((cellsM m).length : Int) = blocks ∧ ∀ c ∈ cellsM m, c.d.length = 32 := by
  have hl : ((cellsM m).length : Int) = blocks := (cellsM_len (mk_ch h)).trans h.2.2
  have hb := mk_blocks h
  have key : ∀ c ∈ cellsM m, CkC c ∧ c.d.length = 32 := by
    intro c hc
    obtain ⟨i, hi, e⟩ := List.getElem_of_mem hc
    obtain ⟨x, hx, k1, k2, k3, k4, k5⟩ := mk_get h (i := i) (by omega)
    rw [List.getElem?_eq_getElem hi, e] at k5
    injection k5 with k5
    subst k5
    exact ⟨(den_ck k1 k2 k3).2, by simp only [cb, pad_len]⟩
  exact ⟨⟨by omega, by omega, fun c hc => (key c hc).1⟩, hl, fun c hc => (key c hc).2⟩
end Ab
end Go.Proofs.Ytiaelfmohamipaa
namespace Go.Proofs.Ytiaelfmohamipaa
open Go Go.Proofs.Ytiaelfmohamipaa.Ab
set_option linter.unusedVariables false
set_option linter.unusedSimpArgs false
namespace Ab
theorem u8z : UInt8.ofNat 0 = 0 := rfl
theorem ceAt_one (c : Ce) : ceAt [c] 0 = c := rfl
theorem tb_lb {α : Type} (a b : List UInt8) (x y : Option α) : tb (a == b) x y = if a = b then x else y := by
  by_cases h : a = b
  · rw [if_pos h]; exact tb_pos (beq_iff_eq.2 h)
  · rw [if_neg h]; exact tb_neg (beq_eq_false_iff_ne.2 h)
theorem iWithin_eq (n lo hi : Int) : iWithin n lo hi = some (decide (lo ≤ n ∧ n ≤ hi)) := by
  unfold iWithin
  rw [tb_dec]
  by_cases h : n ≥ lo
  · rw [if_pos h]; congr 1; exact decide_eq_decide.2 ⟨fun q => ⟨h, q⟩, fun q => q.2⟩
  · rw [if_neg h]; congr 1; symm; rw [decide_eq_false_iff_not]; exact fun q => h q.1
theorem key_i (c : Ce) {α : Type} (x y : Option α) : (if 0 ≤ c.kind ∧ c.kind ≤ 2 then (if 0 ≤ c.gen ∧ c.gen ≤ 2147483647 then (if c.kind = 2 then x else if pad 32 c.d = List.replicate 32 0 then x else y) else y) else y) = if CkC c then x else y := by
  by_cases h1 : 0 ≤ c.kind ∧ c.kind ≤ 2
  case neg => rw [if_neg h1, if_neg fun q : CkC c => h1 ⟨q.1, q.2.1⟩]
  by_cases h2 : 0 ≤ c.gen ∧ c.gen ≤ 2147483647
  case neg => rw [if_pos h1, if_neg h2, if_neg fun q : CkC c => h2 ⟨q.2.2.1, q.2.2.2.1⟩]
  rw [if_pos h1, if_pos h2]
  by_cases h3 : c.kind = 2
  · rw [if_pos h3, if_pos (show CkC c from ⟨h1.1, h1.2, h2.1, h2.2, fun q => absurd h3 q⟩)]
  rw [if_neg h3]
  by_cases h4 : pad 32 c.d = List.replicate 32 0
  · rw [if_pos h4, if_pos (show CkC c from ⟨h1.1, h1.2, h2.1, h2.2, fun _ => h4⟩)]
  · rw [if_neg h4, if_neg fun q : CkC c => h4 (q.2.2.2.2 h3)]
theorem iCheck_eq (l : List Ce) (hl : l.length ≤ 4294967296) : iCheck l = some (decide (CkI l)) := by
  unfold iCheck
  rw [iWithin_eq, tc_some, tb_dec]
  by_cases h1 : (1 : Int) ≤ l.length ∧ (l.length : Int) ≤ 64
  case neg => rw [if_neg h1]; congr 1; symm; rw [decide_eq_false_iff_not]; rintro ⟨q1, q2, _⟩; exact h1 (by omega)
  rw [if_pos h1]
  rw [th_all (some false) (some true) l.length (fun i => CkC (ceAt l i)) (∀ c ∈ l, CkC c) (ceAt_all l CkC)]
  · by_cases h : ∀ c ∈ l, CkC c
    · rw [if_pos h]; congr 1; symm; rw [decide_eq_true_iff]; exact ⟨by omega, by omega, h⟩
    · rw [if_neg h]; congr 1; symm; rw [decide_eq_false_iff_not]; exact fun q => h q.2.2
  · intro i hi hp
    unfold iCheck_L0_step
    simp only [iWithin_eq, tc_some, tb_not, tb_dec, tb_bne, tb_lb, u8z, ceAt_one, Int.toNat_natCast]
    rw [if_pos (by omega), tp_pos (by omega), key_i, if_pos hp, wr_id (by omega) (by omega)]
  · intro i hi hp
    unfold iCheck_L0_step
    simp only [iWithin_eq, tc_some, tb_not, tb_dec, tb_bne, tb_lb, u8z, ceAt_one, Int.toNat_natCast]
    refine ⟨by rw [if_pos (by omega), tp_pos (by omega), key_i, if_neg hp], ?_⟩
    rw [if_pos (by omega), tp_pos (by omega), key_i, if_neg hp, decide_eq_true (by omega)]; rfl
  · unfold iCheck_L0_step
    simp only [tb_dec]
    rw [if_neg (by omega), if_neg (by omega)]
    exact ⟨rfl, rfl⟩
def Fits (l : List Ce) (lba n : Int) : Prop := 0 ≤ lba ∧ lba ≤ l.length ∧ 1 ≤ n ∧ n ≤ l.length - lba
instance (l : List Ce) (lba n : Int) : Decidable (Fits l lba n) := by unfold Fits; infer_instance
end Ab
end Go.Proofs.Ytiaelfmohamipaa
namespace Go.Proofs.Ytiaelfmohamipaa
open Go Go.Proofs.Ytiaelfmohamipaa.Ab
set_option linter.unusedVariables false
set_option linter.unusedSimpArgs false
set_option maxRecDepth 1000000
namespace Ab
noncomputable abbrev iFill_L0_I (l : List Ce) (lba : Int) (n : Int) (kind : Int) (gen : Int) (s0 : Bool) (s2 : Bool) (s3 : Bool) (s8 : Bool) (s10 : Bool) : St := (St.mk [(0, (ces l)), (1, (AV.i lba)), (2, (AV.i n)), (3, (AV.b s2)), (4, (AV.fn (47 : Nat) [(AV.pt 0 0), (AV.pt 1 0)])), (10, AV.nl), (11, (AV.i 0)), (14, (ces l)), (15, (AV.b s3)), (16, (AV.b (!s3))), (17, (ces l)), (18, (AV.rf 2 34 0 (List.length l))), (12, (AV.rf 2 34 0 (List.length l))), (19, (AV.b s2)), (20, (AV.b (!s2))), (21, (AV.b (!s2))), (22, (AV.i lba)), (23, (ces l)), (24, (AV.i (↑(List.length l) : Int))), (25, (AV.b s8)), (26, (AV.b (!s8))), (27, (AV.b (!s8))), (28, (AV.b (!s8))), (29, (AV.i n)), (30, (ces l)), (31, (AV.i (↑(List.length l) : Int))), (32, (AV.i lba)), (33, (AV.i (wr ((↑(List.length l) : Int) - lba)))), (34, (AV.b s10)), (35, (AV.b (!s10))), (36, (AV.b (!s10))), (38, (AV.i n)), (39, (AV.i 0))] 52 (AH.mk 3 [(2, (AObj.cells (List.flatMap Ce.cells l))), (1, (AObj.cells [(AV.i gen)])), (0, (AObj.cells [(AV.i kind)]))]) Bool.false)
noncomputable abbrev iFill_L0_S (l : List Ce) (lba : Int) (n : Int) (kind : Int) (gen : Int) (s0 : Bool) (s2 : Bool) (s3 : Bool) (s8 : Bool) (s10 : Bool) (s12 : Int × List Ce) : St := (St.mk [(0, (ces l)), (1, (AV.i lba)), (2, (AV.i n)), (3, (AV.b s2)), (4, (AV.fn (47 : Nat) [(AV.pt 0 0), (AV.pt 1 0)])), (10, AV.nl), (11, (AV.i 0)), (16, (AV.b (!s3))), (12, (AV.rf 2 34 0 (List.length l))), (36, (AV.b (!s10))), (38, (AV.i n)), (39, (AV.i s12.1))] 52 (AH.mk 3 [(2, (AObj.cells (List.flatMap Ce.cells s12.2))), (1, (AObj.cells [(AV.i gen)])), (0, (AObj.cells [(AV.i kind)]))]) Bool.false)
noncomputable def iFill_L0_step (l : List Ce) (lba : Int) (n : Int) (kind : Int) (gen : Int) (s0 : Bool) (s2 : Bool) (s3 : Bool) (s8 : Bool) (s10 : Bool) (s12 : Int × List Ce) : Option (Int × List Ce) :=
 (tb ((decide (s12.1 < n)))
  (tp ((((0 : Int) ≤ (wr (lba + s12.1))) ∧ ((wr (lba + s12.1)) < (↑(List.length l) : Int))))
   (tp ((((List.length ((AV.i kind) :: (AV.i gen) :: List.replicate (32 : Nat) (AV.y (UInt8.ofNat (0 : Nat))))) = (34 : Nat)) ∧ ((((0 : Nat) + ((Int.toNat (wr (lba + s12.1))) * (34 : Nat))) + (List.length ((AV.i kind) :: (AV.i gen) :: List.replicate (32 : Nat) (AV.y (UInt8.ofNat (0 : Nat)))))) ≤ (List.length (List.flatMap Ce.cells s12.2)))))
    (some (((wr (s12.1 + (1 : Int))), (List.set s12.2 (Int.toNat (wr (lba + s12.1))) (Ce.mk kind gen (List.replicate (32 : Nat) (UInt8.ofNat (0 : Nat))))))))))
  none /- exit -/)
theorem iFill_L0_s0 (l : List Ce) (lba : Int) (n : Int) (kind : Int) (gen : Int) (s0 : Bool) (s2 : Bool) (s3 : Bool) (s8 : Bool) (s10 : Bool) (s12 : Int × List Ce) (h13 : ((decide (s12.1 < n))) = true) (h13p : (s12.1 < n)) (h14 : (((0 : Int) ≤ (wr (lba + s12.1))) ∧ ((wr (lba + s12.1)) < (↑(List.length l) : Int)))) (h15 : (((List.length ((AV.i kind) :: (AV.i gen) :: List.replicate (32 : Nat) (AV.y (UInt8.ofNat (0 : Nat))))) = (34 : Nat)) ∧ ((((0 : Nat) + ((Int.toNat (wr (lba + s12.1))) * (34 : Nat))) + (List.length ((AV.i kind) :: (AV.i gen) :: List.replicate (32 : Nat) (AV.y (UInt8.ofNat (0 : Nat)))))) ≤ (List.length (List.flatMap Ce.cells s12.2))))) : EvStep Try.prog cf 3 (lp Try.prog 45 0) (iFill_L0_S l lba n kind gen s0 s2 s3 s8 s10 s12) (iFill_L0_S l lba n kind gen s0 s2 s3 s8 s10 (((wr (s12.1 + (1 : Int))), (List.set s12.2 (Int.toNat (wr (lba + s12.1))) (Ce.mk kind gen (List.replicate (32 : Nat) (UInt8.ofNat (0 : Nat)))))))) :=
  leafS vw_eq (k := 300) (r := []) (hs := hz [(1, [.yes]), (16, [.cells (((AV.i kind) :: (AV.i gen) :: List.replicate (32 : Nat) (AV.y (UInt8.ofNat (0 : Nat)))))]), (1, [.cells (((AV.i kind) :: (AV.i gen) :: List.replicate (32 : Nat) (AV.y (UInt8.ofNat (0 : Nat))))), .yes, .yes, .cells ((List.flatMap Ce.cells (List.set s12.2 (Int.toNat (wr (lba + s12.1))) (Ce.mk kind gen (List.replicate (32 : Nat) (UInt8.ofNat (0 : Nat)))))))]), (2, [])]) (st1 := (St.mk [(0, (ces l)), (1, (AV.i lba)), (2, (AV.i n)), (3, (AV.b s2)), (4, (AV.fn (47 : Nat) [(AV.pt 0 0), (AV.pt 1 0)])), (10, AV.nl), (11, (AV.i 0)), (16, (AV.b (!s3))), (12, (AV.rf 2 34 0 (List.length l))), (36, (AV.b (!s10))), (38, (AV.i n)), (39, (AV.i (wr (s12.1 + (1 : Int))))), (40, (AV.b (decide (s12.1 < n)))), (41, (AV.i s12.1)), (13, (AV.i s12.1)), (42, (AV.rf 2 34 0 (List.length l))), (43, (AV.i lba)), (44, (AV.i s12.1)), (45, (AV.i (wr (lba + s12.1)))), (46, (AV.fn (47 : Nat) [(AV.pt 0 0), (AV.pt 1 0)])), (47, (AV.i s12.1)), (48, (AV.ag ((AV.i kind) :: (AV.i gen) :: List.replicate (32 : Nat) (AV.y (UInt8.ofNat (0 : Nat)))))), (49, (AV.pt 2 ((0 : Nat) + ((Int.toNat (wr (lba + s12.1))) * (34 : Nat))))), (50, (AV.i (wr (s12.1 + (1 : Int)))))] 52 (AH.mk 4 [(3, (AObj.cells ((AV.i kind) :: (AV.i gen) :: List.replicate (32 : Nat) (AV.y (UInt8.ofNat (0 : Nat)))))), (2, (AObj.cells (List.flatMap Ce.cells (List.set s12.2 (Int.toNat (wr (lba + s12.1))) (Ce.mk kind gen (List.replicate (32 : Nat) (UInt8.ofNat (0 : Nat)))))))), (1, (AObj.cells [(AV.i gen)])), (0, (AObj.cells [(AV.i kind)]))]) Bool.false)) kq (ac h13 (ac (Eq.refl (((AV.i kind) :: (AV.i gen) :: List.replicate (32 : Nat) (AV.y (UInt8.ofNat (0 : Nat)))) : List AV)) (ac (Eq.refl (((AV.i kind) :: (AV.i gen) :: List.replicate (32 : Nat) (AV.y (UInt8.ofNat (0 : Nat)))) : List AV)) (ac h14 (ac h15 (ac (show (((List.take ((0 : Nat) + ((Int.toNat (wr (lba + s12.1))) * (34 : Nat))) (List.flatMap Ce.cells s12.2)) ++ ((AV.i kind) :: (AV.i gen) :: List.replicate (32 : Nat) (AV.y (UInt8.ofNat (0 : Nat))))) ++ (List.drop (((0 : Nat) + ((Int.toNat (wr (lba + s12.1))) * (34 : Nat))) + (List.length ((AV.i kind) :: (AV.i gen) :: List.replicate (32 : Nat) (AV.y (UInt8.ofNat (0 : Nat)))))) (List.flatMap Ce.cells s12.2))) = (List.flatMap Ce.cells (List.set s12.2 (Int.toNat (wr (lba + s12.1))) (Ce.mk kind gen (List.replicate (32 : Nat) (UInt8.ofNat (0 : Nat)))))) from (ce_setO (x := (Ce.mk kind gen (List.replicate (32 : Nat) (UInt8.ofNat (0 : Nat))))) bq bq tq)) an)))))) (Nat.le_of_ble_eq_true rfl) (absB_of [] [] kq (.consn kq (.eqv tq rfl) (.consn kq (.eqv tq rfl) (.consn kq (.eqv tq rfl) (.consn kq (.eqv tq rfl) (.consn kq (.fn (.cons (.pt rfl) (.cons (.pt rfl) .nil))) (.consn kq .nl0 (.consn kq (.eqv tq rfl) (.consn kq (.eqv tq rfl) (.consn kq (.rf rfl) (.consn kq (.eqv tq rfl) (.consn kq (.eqv tq rfl) (.consn kq (.eqv tq rfl) .nil)))))))))))) (.cons (.old rfl rfl (.cells (.pl tq pq))) (.cons (.old rfl rfl (.cells (.cons (.eqv tq rfl) .nil))) (.cons (.old rfl rfl (.cells (.cons (.eqv tq rfl) .nil))) .nil))))
theorem iFill_L0_ok (l : List Ce) (lba : Int) (n : Int) (kind : Int) (gen : Int) (s0 : Bool) (s2 : Bool) (s3 : Bool) (s8 : Bool) (s10 : Bool) (s12 zz : Int × List Ce) : iFill_L0_step l lba n kind gen s0 s2 s3 s8 s10 s12 = some zz → EvStep Try.prog cf 3 (lp Try.prog 45 0) (iFill_L0_S l lba n kind gen s0 s2 s3 s8 s10 s12) (iFill_L0_S l lba n kind gen s0 s2 s3 s8 s10 zz) := by
  unfold iFill_L0_step
  refine tb_ok (fun h13 => ?_) (fun h13 => ?_)
  ·
    have h13p := of_decide_eq_true h13
    refine tp_ok (fun h14 => ?_)
    refine tp_ok (fun h15 => ?_)
    exact fun e => tl_ok (G := (fun zz => EvStep Try.prog cf 3 (lp Try.prog 45 0) (iFill_L0_S l lba n kind gen s0 s2 s3 s8 s10 s12) (iFill_L0_S l lba n kind gen s0 s2 s3 s8 s10 zz))) (iFill_L0_s0 l lba n kind gen s0 s2 s3 s8 s10 s12 h13 h13p h14 h15) e
  ·
    have h13p := of_decide_eq_false h13
    exact fun e => nomatch e
noncomputable def iFill (l : List Ce) (lba : Int) (n : Int) (kind : Int) (gen : Int) : Option (List Ce × Int) :=
 (tc (iWithin (kind) ((0 : Int)) ((1 : Int))) fun s0 =>
  (tb (s0)
   (tc (iWithin (gen) ((0 : Int)) ((2147483647 : Int))) fun s2 =>
    (tc (iCheck (l)) fun s3 =>
     (tb ((!s3))
      (some ((([] : List Ce), (90 : Int))))
      (tp (((List.length (List.flatMap Ce.cells l)) = ((List.length l) * (34 : Nat))))
       (tp (((List.length l) ≤ (4294967296 : Nat)))
        (tb ((!s2))
         (tp ((((0 : Nat) = (0 : Nat)) ∧ ((List.length (List.flatMap Ce.cells l)) = ((List.length l) * (34 : Nat)))))
          (some ((l, (81 : Int)))))
         (tc (iWithin (lba) ((0 : Int)) ((↑(List.length l) : Int))) fun s8 =>
          (tb ((!s8))
           (tp ((((0 : Nat) = (0 : Nat)) ∧ ((List.length (List.flatMap Ce.cells l)) = ((List.length l) * (34 : Nat)))))
            (some ((l, (81 : Int)))))
           (tc (iWithin (n) ((1 : Int)) ((wr ((↑(List.length l) : Int) - lba)))) fun s10 =>
            (tb ((!s10))
             (tp ((((0 : Nat) = (0 : Nat)) ∧ ((List.length (List.flatMap Ce.cells l)) = ((List.length l) * (34 : Nat)))))
              (some ((l, (81 : Int)))))
             (th (iFill_L0_step l lba n kind gen s0 s2 s3 s8 s10) (((0 : Int), l)) fun s12 =>
              (tb ((decide (s12.1 < n)))
               none /- stop behind an operation -/
               (tp ((((0 : Nat) = (0 : Nat)) ∧ ((List.length (List.flatMap Ce.cells s12.2)) = ((List.length l) * (34 : Nat)))))
                (some ((s12.2, (0 : Int)))))))))))))))))
   (tc (iCheck (l)) fun s2 =>
    (tb ((!s2))
     (some ((([] : List Ce), (90 : Int))))
     (tp (((List.length (List.flatMap Ce.cells l)) = ((List.length l) * (34 : Nat))))
      (tp (((List.length l) ≤ (4294967296 : Nat)))
       (tp ((((0 : Nat) = (0 : Nat)) ∧ ((List.length (List.flatMap Ce.cells l)) = ((List.length l) * (34 : Nat)))))
        (some ((l, (81 : Int)))))))))))
abbrev iFill_G (l : List Ce) (lba : Int) (n : Int) (kind : Int) (gen : Int) (r : List Ce × Int) : Prop := EvFr Try.prog cf true 39 [ces (l), .i (lba), .i (n), .i (kind), .i (gen)] (.tu [ces (r.1), .i (r.2)])
theorem iFill_l0 (l : List Ce) (lba : Int) (n : Int) (kind : Int) (gen : Int) (s0 : Bool) (h0 : iWithin (kind) ((0 : Int)) ((1 : Int)) = some s0) (h1 : (s0) = true) (s2 : Bool) (h2 : iWithin (gen) ((0 : Int)) ((2147483647 : Int)) = some s2) (s3 : Bool) (h3 : iCheck (l) = some s3) (h4 : ((!s3)) = true) : iFill_G l lba n kind gen ((([] : List Ce), (90 : Int))) :=
  leafR vw_eq (k := 300) (r := []) (hs := hz [(10, [.fres (.b (s0))]), (1, [.yes]), (2, [.yes]), (1, [.fres (.b (s2)), .yes]), (6, [.fres (.b (s3))]), (1, [.yes]), (6, [])]) (raw := (AV.tu [(AV.sl 0 ([] : List AV)), (AV.i 90)])) kq (ac (iWithin_ok (kind) ((0 : Int)) ((1 : Int)) _ h0).any0 (ac h1 (ac h1 (ac (iWithin_ok (gen) ((0 : Int)) ((2147483647 : Int)) _ h2).any0 (ac h1 (ac (iCheck_ok (l) _ h3).any0 (ac h4 an))))))) tq
theorem iFill_l1 (l : List Ce) (lba : Int) (n : Int) (kind : Int) (gen : Int) (s0 : Bool) (h0 : iWithin (kind) ((0 : Int)) ((1 : Int)) = some s0) (h1 : (s0) = true) (s2 : Bool) (h2 : iWithin (gen) ((0 : Int)) ((2147483647 : Int)) = some s2) (s3 : Bool) (h3 : iCheck (l) = some s3) (h4 : ((!s3)) = false) (h5 : ((List.length (List.flatMap Ce.cells l)) = ((List.length l) * (34 : Nat)))) (h6 : ((List.length l) ≤ (4294967296 : Nat))) (h7 : ((!s2)) = true) (h8 : (((0 : Nat) = (0 : Nat)) ∧ ((List.length (List.flatMap Ce.cells l)) = ((List.length l) * (34 : Nat))))) : iFill_G l lba n kind gen ((l, (81 : Int))) :=
  leafR vw_eq (k := 300) (r := []) (hs := hz [(10, [.fres (.b (s0))]), (1, [.yes]), (2, [.yes]), (1, [.fres (.b (s2)), .yes]), (6, [.fres (.b (s3))]), (1, [.no]), (2, [.yes, .yes]), (4, [.yes, .yes, .yes, .yes, .yes, .yes]), (17, [.yes, .yes])]) (raw := (AV.tu [(ces l), (AV.i 81)])) kq (ac (iWithin_ok (kind) ((0 : Int)) ((1 : Int)) _ h0).any0 (ac h1 (ac h1 (ac (iWithin_ok (gen) ((0 : Int)) ((2147483647 : Int)) _ h2).any0 (ac h1 (ac (iCheck_ok (l) _ h3).any0 (ac h4 (ac h5 (ac h6 (ac h7 (ac h7 (ac h7 (ac h7 (ac h7 (ac h7 (ac h8 (ac (pq (p := Pl Bool.true ((List.flatMap Ce.cells l)))) an))))))))))))))))) tq
theorem iFill_l2 (l : List Ce) (lba : Int) (n : Int) (kind : Int) (gen : Int) (s0 : Bool) (h0 : iWithin (kind) ((0 : Int)) ((1 : Int)) = some s0) (h1 : (s0) = true) (s2 : Bool) (h2 : iWithin (gen) ((0 : Int)) ((2147483647 : Int)) = some s2) (s3 : Bool) (h3 : iCheck (l) = some s3) (h4 : ((!s3)) = false) (h5 : ((List.length (List.flatMap Ce.cells l)) = ((List.length l) * (34 : Nat)))) (h6 : ((List.length l) ≤ (4294967296 : Nat))) (h7 : ((!s2)) = false) (s8 : Bool) (h8 : iWithin (lba) ((0 : Int)) ((↑(List.length l) : Int)) = some s8) (h9 : ((!s8)) = true) (h10 : (((0 : Nat) = (0 : Nat)) ∧ ((List.length (List.flatMap Ce.cells l)) = ((List.length l) * (34 : Nat))))) : iFill_G l lba n kind gen ((l, (81 : Int))) :=
  leafR vw_eq (k := 300) (r := []) (hs := hz [(10, [.fres (.b (s0))]), (1, [.yes]), (2, [.yes]), (1, [.fres (.b (s2)), .yes]), (6, [.fres (.b (s3))]), (1, [.no]), (2, [.yes, .yes]), (4, [.no]), (1, [.no]), (1, [.no]), (1, [.no]), (1, [.fres (.b (s8)), .no]), (1, [.no]), (1, [.yes, .yes, .yes, .yes, .yes, .yes, .yes, .yes]), (8, [.yes, .yes])]) (raw := (AV.tu [(ces l), (AV.i 81)])) kq (ac (iWithin_ok (kind) ((0 : Int)) ((1 : Int)) _ h0).any0 (ac h1 (ac h1 (ac (iWithin_ok (gen) ((0 : Int)) ((2147483647 : Int)) _ h2).any0 (ac h1 (ac (iCheck_ok (l) _ h3).any0 (ac h4 (ac h5 (ac h6 (ac h7 (ac h7 (ac h7 (ac h7 (ac (iWithin_ok (lba) ((0 : Int)) ((↑(List.length l) : Int)) _ h8).any0 (ac h7 (ac h7 (ac h9 (ac h9 (ac h9 (ac h9 (ac h9 (ac h9 (ac h9 (ac h9 (ac h10 (ac (pq (p := Pl Bool.true ((List.flatMap Ce.cells l)))) an)))))))))))))))))))))))))) tq
theorem iFill_l3 (l : List Ce) (lba : Int) (n : Int) (kind : Int) (gen : Int) (s0 : Bool) (h0 : iWithin (kind) ((0 : Int)) ((1 : Int)) = some s0) (h1 : (s0) = true) (s2 : Bool) (h2 : iWithin (gen) ((0 : Int)) ((2147483647 : Int)) = some s2) (s3 : Bool) (h3 : iCheck (l) = some s3) (h4 : ((!s3)) = false) (h5 : ((List.length (List.flatMap Ce.cells l)) = ((List.length l) * (34 : Nat)))) (h6 : ((List.length l) ≤ (4294967296 : Nat))) (h7 : ((!s2)) = false) (s8 : Bool) (h8 : iWithin (lba) ((0 : Int)) ((↑(List.length l) : Int)) = some s8) (h9 : ((!s8)) = false) (s10 : Bool) (h10 : iWithin (n) ((1 : Int)) ((wr ((↑(List.length l) : Int) - lba))) = some s10) (h11 : ((!s10)) = true) (h12 : (((0 : Nat) = (0 : Nat)) ∧ ((List.length (List.flatMap Ce.cells l)) = ((List.length l) * (34 : Nat))))) : iFill_G l lba n kind gen ((l, (81 : Int))) :=
  leafR vw_eq (k := 300) (r := []) (hs := hz [(10, [.fres (.b (s0))]), (1, [.yes]), (2, [.yes]), (1, [.fres (.b (s2)), .yes]), (6, [.fres (.b (s3))]), (1, [.no]), (2, [.yes, .yes]), (4, [.no]), (1, [.no]), (1, [.no]), (1, [.no]), (1, [.fres (.b (s8)), .no]), (1, [.no]), (1, [.no]), (1, [.no]), (1, [.no]), (1, [.no]), (1, [.no]), (1, [.no]), (1, [.fres (.b (s10)), .no]), (1, [.no, .yes]), (7, [.yes, .yes])]) (raw := (AV.tu [(ces l), (AV.i 81)])) kq (ac (iWithin_ok (kind) ((0 : Int)) ((1 : Int)) _ h0).any0 (ac h1 (ac h1 (ac (iWithin_ok (gen) ((0 : Int)) ((2147483647 : Int)) _ h2).any0 (ac h1 (ac (iCheck_ok (l) _ h3).any0 (ac h4 (ac h5 (ac h6 (ac h7 (ac h7 (ac h7 (ac h7 (ac (iWithin_ok (lba) ((0 : Int)) ((↑(List.length l) : Int)) _ h8).any0 (ac h7 (ac h7 (ac h9 (ac h9 (ac h9 (ac h9 (ac h9 (ac h9 (ac (iWithin_ok (n) ((1 : Int)) ((wr ((↑(List.length l) : Int) - lba))) _ h10).any0 (ac h9 (ac h9 (ac h11 (ac h12 (ac (pq (p := Pl Bool.true ((List.flatMap Ce.cells l)))) an)))))))))))))))))))))))))))) tq
theorem iFill_l4 (l : List Ce) (lba : Int) (n : Int) (kind : Int) (gen : Int) (s0 : Bool) (h0 : iWithin (kind) ((0 : Int)) ((1 : Int)) = some s0) (h1 : (s0) = true) (s2 : Bool) (h2 : iWithin (gen) ((0 : Int)) ((2147483647 : Int)) = some s2) (s3 : Bool) (h3 : iCheck (l) = some s3) (h4 : ((!s3)) = false) (h5 : ((List.length (List.flatMap Ce.cells l)) = ((List.length l) * (34 : Nat)))) (h6 : ((List.length l) ≤ (4294967296 : Nat))) (h7 : ((!s2)) = false) (s8 : Bool) (h8 : iWithin (lba) ((0 : Int)) ((↑(List.length l) : Int)) = some s8) (h9 : ((!s8)) = false) (s10 : Bool) (h10 : iWithin (n) ((1 : Int)) ((wr ((↑(List.length l) : Int) - lba))) = some s10) (h11 : ((!s10)) = false) (s12 : Int × List Ce) (h12 : Runs (iFill_L0_step l lba n kind gen s0 s2 s3 s8 s10) (((0 : Int), l)) s12) (h13 : ((decide (s12.1 < n))) = false) (h13p : ¬ (s12.1 < n)) (h14 : (((0 : Nat) = (0 : Nat)) ∧ ((List.length (List.flatMap Ce.cells s12.2)) = ((List.length l) * (34 : Nat))))) : iFill_G l lba n kind gen ((s12.2, (0 : Int))) :=
  leafR vw_eq (k := 300) (r := []) (hs := hz [(10, [.fres (.b (s0))]), (1, [.yes]), (2, [.yes]), (1, [.fres (.b (s2)), .yes]), (6, [.fres (.b (s3))]), (1, [.no]), (2, [.yes, .yes]), (4, [.no]), (1, [.no]), (1, [.no]), (1, [.no]), (1, [.fres (.b (s8)), .no]), (1, [.no]), (1, [.no]), (1, [.no]), (1, [.no]), (1, [.no]), (1, [.no]), (1, [.no]), (1, [.fres (.b (s10)), .no]), (1, [.no, .no]), (2, [.head (iFill_L0_S l lba n kind gen s0 s2 s3 s8 s10 s12)]), (1, [.no]), (7, [.yes, .yes])]) (raw := (AV.tu [(AV.sl (List.length l) (List.flatMap Ce.cells s12.2)), (AV.i 0)])) kq (ac (iWithin_ok (kind) ((0 : Int)) ((1 : Int)) _ h0).any0 (ac h1 (ac h1 (ac (iWithin_ok (gen) ((0 : Int)) ((2147483647 : Int)) _ h2).any0 (ac h1 (ac (iCheck_ok (l) _ h3).any0 (ac h4 (ac h5 (ac h6 (ac h7 (ac h7 (ac h7 (ac h7 (ac (iWithin_ok (lba) ((0 : Int)) ((↑(List.length l) : Int)) _ h8).any0 (ac h7 (ac h7 (ac h9 (ac h9 (ac h9 (ac h9 (ac h9 (ac h9 (ac (iWithin_ok (n) ((1 : Int)) ((wr ((↑(List.length l) : Int) - lba))) _ h10).any0 (ac h9 (ac h9 (ac h11 (ac (show EvHead Try.prog cf (lp Try.prog 45 0) (iFill_L0_I l lba n kind gen s0 s2 s3 s8 s10) (iFill_L0_S l lba n kind gen s0 s2 s3 s8 s10 s12) from (EvHead.of (iFill_L0_ok l lba n kind gen s0 s2 s3 s8 s10) (absB_of [] [] kq (.consn kq (.eqv tq rfl) (.consn kq (.eqv tq rfl) (.consn kq (.eqv tq rfl) (.consn kq (.eqv tq rfl) (.consn kq (.fn (.cons (.pt rfl) (.cons (.pt rfl) .nil))) (.consn kq .nl0 (.consn kq (.eqv tq rfl) (.consn kq (.eqv tq rfl) (.consn kq (.rf rfl) (.consn kq (.eqv tq rfl) (.consn kq (.eqv tq rfl) (.consn kq (.eqv tq rfl) .nil)))))))))))) (.cons (.old rfl rfl (.cells (.pl tq pq))) (.cons (.old rfl rfl (.cells (.cons (.eqv tq rfl) .nil))) (.cons (.old rfl rfl (.cells (.cons (.eqv tq rfl) .nil))) .nil)))) h12)) (ac h13 (ac h14 (ac (pq (p := Pl Bool.true ((List.flatMap Ce.cells s12.2)))) an)))))))))))))))))))))))))))))) tq
theorem iFill_l5 (l : List Ce) (lba : Int) (n : Int) (kind : Int) (gen : Int) (s0 : Bool) (h0 : iWithin (kind) ((0 : Int)) ((1 : Int)) = some s0) (h1 : (s0) = false) (s2 : Bool) (h2 : iCheck (l) = some s2) (h3 : ((!s2)) = true) : iFill_G l lba n kind gen ((([] : List Ce), (90 : Int))) :=
  leafR vw_eq (k := 300) (r := []) (hs := hz [(10, [.fres (.b (s0))]), (1, [.no, .no, .no]), (6, [.fres (.b (s2))]), (1, [.yes]), (6, [])]) (raw := (AV.tu [(AV.sl 0 ([] : List AV)), (AV.i 90)])) kq (ac (iWithin_ok (kind) ((0 : Int)) ((1 : Int)) _ h0).any0 (ac h1 (ac h1 (ac h1 (ac (iCheck_ok (l) _ h2).any0 (ac h3 an)))))) tq
theorem iFill_l6 (l : List Ce) (lba : Int) (n : Int) (kind : Int) (gen : Int) (s0 : Bool) (h0 : iWithin (kind) ((0 : Int)) ((1 : Int)) = some s0) (h1 : (s0) = false) (s2 : Bool) (h2 : iCheck (l) = some s2) (h3 : ((!s2)) = false) (h4 : ((List.length (List.flatMap Ce.cells l)) = ((List.length l) * (34 : Nat)))) (h5 : ((List.length l) ≤ (4294967296 : Nat))) (h6 : (((0 : Nat) = (0 : Nat)) ∧ ((List.length (List.flatMap Ce.cells l)) = ((List.length l) * (34 : Nat))))) : iFill_G l lba n kind gen ((l, (81 : Int))) :=
  leafR vw_eq (k := 300) (r := []) (hs := hz [(10, [.fres (.b (s0))]), (1, [.no, .no, .no]), (6, [.fres (.b (s2))]), (1, [.no]), (2, [.yes, .yes]), (27, [.yes, .yes])]) (raw := (AV.tu [(ces l), (AV.i 81)])) kq (ac (iWithin_ok (kind) ((0 : Int)) ((1 : Int)) _ h0).any0 (ac h1 (ac h1 (ac h1 (ac (iCheck_ok (l) _ h2).any0 (ac h3 (ac h4 (ac h5 (ac h6 (ac (pq (p := Pl Bool.true ((List.flatMap Ce.cells l)))) an)))))))))) tq
theorem iFill_ok (l : List Ce) (lba : Int) (n : Int) (kind : Int) (gen : Int) (r : List Ce × Int) : iFill l lba n kind gen = some r → iFill_G l lba n kind gen r := by
  unfold iFill
  refine tc_ok (fun s0 h0 => ?_)
  refine tb_ok (fun h1 => ?_) (fun h1 => ?_)
  ·
    refine tc_ok (fun s2 h2 => ?_)
    refine tc_ok (fun s3 h3 => ?_)
    refine tb_ok (fun h4 => ?_) (fun h4 => ?_)
    ·
      exact fun e => tl_ok (G := iFill_G l lba n kind gen) (iFill_l0 l lba n kind gen s0 h0 h1 s2 h2 s3 h3 h4) e
    ·
      refine tp_ok (fun h5 => ?_)
      refine tp_ok (fun h6 => ?_)
      refine tb_ok (fun h7 => ?_) (fun h7 => ?_)
      ·
        refine tp_ok (fun h8 => ?_)
        exact fun e => tl_ok (G := iFill_G l lba n kind gen) (iFill_l1 l lba n kind gen s0 h0 h1 s2 h2 s3 h3 h4 h5 h6 h7 h8) e
      ·
        refine tc_ok (fun s8 h8 => ?_)
        refine tb_ok (fun h9 => ?_) (fun h9 => ?_)
        ·
          refine tp_ok (fun h10 => ?_)
          exact fun e => tl_ok (G := iFill_G l lba n kind gen) (iFill_l2 l lba n kind gen s0 h0 h1 s2 h2 s3 h3 h4 h5 h6 h7 s8 h8 h9 h10) e
        ·
          refine tc_ok (fun s10 h10 => ?_)
          refine tb_ok (fun h11 => ?_) (fun h11 => ?_)
          ·
            refine tp_ok (fun h12 => ?_)
            exact fun e => tl_ok (G := iFill_G l lba n kind gen) (iFill_l3 l lba n kind gen s0 h0 h1 s2 h2 s3 h3 h4 h5 h6 h7 s8 h8 h9 s10 h10 h11 h12) e
          ·
            refine th_ok (fun s12 h12 => ?_)
            refine tb_ok (fun h13 => ?_) (fun h13 => ?_)
            ·
              have h13p := of_decide_eq_true h13
              exact fun e => nomatch e
            ·
              have h13p := of_decide_eq_false h13
              refine tp_ok (fun h14 => ?_)
              exact fun e => tl_ok (G := iFill_G l lba n kind gen) (iFill_l4 l lba n kind gen s0 h0 h1 s2 h2 s3 h3 h4 h5 h6 h7 s8 h8 h9 s10 h10 h11 s12 h12 h13 h13p h14) e
  ·
    refine tc_ok (fun s2 h2 => ?_)
    refine tb_ok (fun h3 => ?_) (fun h3 => ?_)
    ·
      exact fun e => tl_ok (G := iFill_G l lba n kind gen) (iFill_l5 l lba n kind gen s0 h0 h1 s2 h2 h3) e
    ·
      refine tp_ok (fun h4 => ?_)
      refine tp_ok (fun h5 => ?_)
      refine tp_ok (fun h6 => ?_)
      exact fun e => tl_ok (G := iFill_G l lba n kind gen) (iFill_l6 l lba n kind gen s0 h0 h1 s2 h2 h3 h4 h5 h6) e
noncomputable abbrev iOf_L1_I (blocks : Int) (l : List Ex) (s0 : Bool) (s2 : List Ce × Int) (s5 : List UInt8) : St := (St.mk [(0, (AV.i blocks)), (1, (exs l)), (4, (AV.rf 0 34 0 (List.length s2.1))), (5, (AV.i 0)), (12, (AV.b (!s0))), (13, (exs l)), (14, (AV.i (↑(List.length l) : Int))), (15, (AV.i s2.2)), (16, (AV.b (decide (s2.2 < (↑(List.length l) : Int))))), (17, (AV.ip (List.drop ((Int.toNat s2.2) * (5 : Nat)) (List.flatMap Ex.cells l)))), (18, (AV.ag (xc (exAt l (Int.toNat s2.2))))), (7, (AV.pt 1 0)), (19, (AV.ag (xc (exAt l (Int.toNat s2.2))))), (20, (bys s5)), (8, (bys s5))] 40 (AH.mk 2 [(1, (AObj.cells (xc (exAt l (Int.toNat s2.2))))), (0, (AObj.cells (List.flatMap Ce.cells s2.1)))]) Bool.false)
noncomputable abbrev iOf_L1_S (blocks : Int) (l : List Ex) (s0 : Bool) (s2 : List Ce × Int) (s5 : List UInt8) (s6 : List Ce × List UInt8) : St := (St.mk [(0, (AV.i blocks)), (1, (exs l)), (4, (AV.rf 2 34 0 (List.length s6.1))), (5, (AV.i 0)), (12, (AV.b (!s0))), (13, (exs l)), (14, (AV.i (↑(List.length l) : Int))), (15, (AV.i s2.2)), (16, (AV.b (decide (s2.2 < (↑(List.length l) : Int))))), (7, (AV.pt 1 0)), (8, (bys s6.2))] 40 (AH.mk 3 [(1, (AObj.cells (xc (exAt l (Int.toNat s2.2))))), (2, (AObj.cells (List.flatMap Ce.cells s6.1)))]) Bool.false)
noncomputable def iOf_L1_step (blocks : Int) (l : List Ex) (s0 : Bool) (s2 : List Ce × Int) (s5 : List UInt8) (s6 : List Ce × List UInt8) : Option (List Ce × List UInt8) :=
 (tb ((decide ((↑(List.length s6.2) : Int) > (0 : Int))))
  (tp ((((0 : Nat) ≤ (32 : Nat)) ∧ (((32 : Nat) ≤ (List.length s6.2)) ∧ ((List.length (List.map AV.y s6.2)) = ((List.length s6.2) * (1 : Nat))))))
   (tp ((((List.length (List.flatMap Ce.cells s6.1)) = ((List.length s6.1) * (34 : Nat))) ∧ (((List.length s6.1) + (1 : Nat)) ≤ (4294967296 : Nat))))
    (some (((s6.1 ++ [(Ce.mk (exAt l (Int.toNat s2.2)).kind (exAt l (Int.toNat s2.2)).gen (pad 32 s6.2))]), (List.take (((List.length s6.2) - (32 : Nat)) * (1 : Nat)) (List.drop 32 s6.2)))))))
  none /- exit -/)
theorem iOf_L1_s0 (blocks : Int) (l : List Ex) (s0 : Bool) (s2 : List Ce × Int) (s5 : List UInt8) (s6 : List Ce × List UInt8) (h7 : ((decide ((↑(List.length s6.2) : Int) > (0 : Int)))) = true) (h7p : ((↑(List.length s6.2) : Int) > (0 : Int))) (h8 : (((0 : Nat) ≤ (32 : Nat)) ∧ (((32 : Nat) ≤ (List.length s6.2)) ∧ ((List.length (List.map AV.y s6.2)) = ((List.length s6.2) * (1 : Nat)))))) (h9 : (((List.length (List.flatMap Ce.cells s6.1)) = ((List.length s6.1) * (34 : Nat))) ∧ (((List.length s6.1) + (1 : Nat)) ≤ (4294967296 : Nat)))) : EvStep Try.prog cf 2 (lp Try.prog 26 1) (iOf_L1_S blocks l s0 s2 s5 s6) (iOf_L1_S blocks l s0 s2 s5 (((s6.1 ++ [(Ce.mk (exAt l (Int.toNat s2.2)).kind (exAt l (Int.toNat s2.2)).gen (pad 32 s6.2))]), (List.take (((List.length s6.2) - (32 : Nat)) * (1 : Nat)) (List.drop 32 s6.2))))) :=
  leafS vw_eq (k := 300) (r := []) (hs := hz [(3, [.yes]), (9, [.yes]), (1, [.yes, .cells ((List.map AV.y (pad 32 s6.2))), .yes]), (1, [.cells (((AV.i (exAt l (Int.toNat s2.2)).kind) :: (AV.i (exAt l (Int.toNat s2.2)).gen) :: (List.map AV.y (pad 32 s6.2)))), .yes]), (1, [.cells (((AV.i (exAt l (Int.toNat s2.2)).kind) :: (AV.i (exAt l (Int.toNat s2.2)).gen) :: (List.map AV.y (pad 32 s6.2)))), .yes, .yes]), (1, [.yes]), (2, [.yes]), (1, [])]) (st1 := (St.mk [(0, (AV.i blocks)), (1, (exs l)), (4, (AV.rf 4 34 0 ((List.length s6.1) + (1 : Nat)))), (5, (AV.i 0)), (12, (AV.b (!s0))), (13, (exs l)), (14, (AV.i (↑(List.length l) : Int))), (15, (AV.i s2.2)), (16, (AV.b (decide (s2.2 < (↑(List.length l) : Int))))), (7, (AV.pt 1 0)), (8, (AV.sl ((List.length s6.2) - (32 : Nat)) (List.take (((List.length s6.2) - (32 : Nat)) * (1 : Nat)) (List.drop 32 (List.map AV.y s6.2))))), (21, (bys s6.2)), (22, (AV.i (↑(List.length s6.2) : Int))), (23, (AV.b (decide ((↑(List.length s6.2) : Int) > (0 : Int))))), (26, (AV.rf 2 34 0 (List.length s6.1))), (27, (AV.pt 1 2)), (28, (AV.i (exAt l (Int.toNat s2.2)).kind)), (29, (AV.pt 1 3)), (30, (AV.i (exAt l (Int.toNat s2.2)).gen)), (31, (bys s6.2)), (32, (AV.sl 32 (List.take 32 (List.map AV.y s6.2)))), (33, (AV.ip (List.take 32 (List.map AV.y s6.2)))), (34, (AV.ag (List.map AV.y (pad 32 s6.2)))), (35, (AV.ag ((AV.i (exAt l (Int.toNat s2.2)).kind) :: (AV.i (exAt l (Int.toNat s2.2)).gen) :: (List.map AV.y (pad 32 s6.2))))), (36, (AV.rf 3 34 0 1)), (37, (AV.rf 4 34 0 ((List.length s6.1) + (1 : Nat)))), (24, (bys s6.2)), (25, (AV.sl ((List.length s6.2) - (32 : Nat)) (List.take (((List.length s6.2) - (32 : Nat)) * (1 : Nat)) (List.drop 32 (List.map AV.y s6.2)))))] 40 (AH.mk 5 [(4, (AObj.cells ((List.flatMap Ce.cells s6.1) ++ ((AV.i (exAt l (Int.toNat s2.2)).kind) :: (AV.i (exAt l (Int.toNat s2.2)).gen) :: (List.map AV.y (pad 32 s6.2)))))), (3, (AObj.cells ((AV.i (exAt l (Int.toNat s2.2)).kind) :: (AV.i (exAt l (Int.toNat s2.2)).gen) :: (List.map AV.y (pad 32 s6.2))))), (1, (AObj.cells (xc (exAt l (Int.toNat s2.2))))), (2, AObj.dead)]) Bool.false)) kq (ac h7 (ac h8 (ac (fq (p := ((32 : Nat) ≤ (List.length (List.take 32 (List.map AV.y s6.2)))))) (ac (show (List.take 32 (List.take 32 (List.map AV.y s6.2))) = (List.map AV.y (pad 32 s6.2)) from (pad_takeC (x := s6.2) tq bq)) (ac (tq (p := (((List.length (List.map AV.y (pad 32 s6.2))) = (32 : Nat)) ∧ (((2 : Nat) + (List.length (List.map AV.y (pad 32 s6.2)))) ≤ (List.length (List.set (List.set ((AV.i (Int.ofNat 0)) :: (AV.i (Int.ofNat 0)) :: List.replicate (32 : Nat) (AV.y (UInt8.ofNat (0 : Nat)))) 0 (AV.i (exAt l (Int.toNat s2.2)).kind)) 1 (AV.i (exAt l (Int.toNat s2.2)).gen))))))) (ac (Eq.refl (((AV.i (exAt l (Int.toNat s2.2)).kind) :: (AV.i (exAt l (Int.toNat s2.2)).gen) :: (List.map AV.y (pad 32 s6.2))) : List AV)) (ac (tq (p := (((List.length ((AV.i (exAt l (Int.toNat s2.2)).kind) :: (AV.i (exAt l (Int.toNat s2.2)).gen) :: (List.map AV.y (pad 32 s6.2)))) = (34 : Nat)) ∧ (((0 : Nat) + (List.length ((AV.i (exAt l (Int.toNat s2.2)).kind) :: (AV.i (exAt l (Int.toNat s2.2)).gen) :: (List.map AV.y (pad 32 s6.2))))) ≤ (34 : Nat))))) (ac (Eq.refl (((AV.i (exAt l (Int.toNat s2.2)).kind) :: (AV.i (exAt l (Int.toNat s2.2)).gen) :: (List.map AV.y (pad 32 s6.2))) : List AV)) (ac (tq (p := (((0 : Nat) = (0 : Nat)) ∧ ((List.length ((AV.i (exAt l (Int.toNat s2.2)).kind) :: (AV.i (exAt l (Int.toNat s2.2)).gen) :: (List.map AV.y (pad 32 s6.2)))) = (34 : Nat))))) (ac h9 (ac (show orderOk (rg Try.prog 26 0) = true ∧ allOk (Region.before (rg Try.prog 26 0)) [] 0 [(some [], some []), (some [], some []), (some [1], some []), (some [], some []), (some [1], some []), (some [], some []), (some [], some []), (some [], some []), (some [], some []), (some [], some []), (some [], some [3]), (some [2, 3], some [2, 4]), (some [], some [])] = true from (ord_of ord_26_0 bef_26_0 kq)) (ac (fq (p := (((32 : Nat) ≤ (List.length s6.2)) ∧ (((List.length s6.2) ≤ (List.length s6.2)) ∧ ((List.length (List.map AV.y s6.2)) = ((List.length s6.2) * (1 : Nat))))))) an)))))))))))) (Nat.le_of_ble_eq_true rfl) (absB_of [4] [] kq (.consn kq (.eqv tq rfl) (.consn kq (.eqv tq rfl) (.consn kq (.rfn (n := ((List.length s6.1) + (1 : Nat))) rfl tq) (.consn kq (.eqv tq rfl) (.consn kq (.eqv tq rfl) (.consn kq (.eqv tq rfl) (.consn kq (.eqv tq rfl) (.consn kq (.eqv tq rfl) (.consn kq (.eqv tq rfl) (.consn kq (.pt rfl) (.consn (x := (AV.sl ((List.length s6.2) - (32 : Nat)) (List.take (((List.length s6.2) - (32 : Nat)) * (1 : Nat)) (List.drop 32 (List.map AV.y s6.2))))) kq (.eqv tq rfl) .nil))))))))))) (.cons (.old rfl rfl (.cells (.pl rfl pq))) (.cons (.old rfl rfl (.cells (.pl tq pq))) .nil)))
theorem iOf_L1_ok (blocks : Int) (l : List Ex) (s0 : Bool) (s2 : List Ce × Int) (s5 : List UInt8) (s6 zz : List Ce × List UInt8) : iOf_L1_step blocks l s0 s2 s5 s6 = some zz → EvStep Try.prog cf 2 (lp Try.prog 26 1) (iOf_L1_S blocks l s0 s2 s5 s6) (iOf_L1_S blocks l s0 s2 s5 zz) := by
  unfold iOf_L1_step
  refine tb_ok (fun h7 => ?_) (fun h7 => ?_)
  ·
    have h7p := of_decide_eq_true h7
    refine tp_ok (fun h8 => ?_)
    refine tp_ok (fun h9 => ?_)
    exact fun e => tl_ok (G := (fun zz => EvStep Try.prog cf 2 (lp Try.prog 26 1) (iOf_L1_S blocks l s0 s2 s5 s6) (iOf_L1_S blocks l s0 s2 s5 zz))) (iOf_L1_s0 blocks l s0 s2 s5 s6 h7 h7p h8 h9) e
  ·
    have h7p := of_decide_eq_false h7
    exact fun e => nomatch e
noncomputable abbrev iOf_L0_I (blocks : Int) (l : List Ex) (s0 : Bool) : St := (St.mk [(0, (AV.i blocks)), (1, (exs l)), (4, AV.nl), (5, (AV.i 0)), (9, (AV.i blocks)), (10, (exs l)), (11, (AV.b s0)), (12, (AV.b (!s0))), (13, (exs l)), (14, (AV.i (↑(List.length l) : Int))), (15, (AV.i 0))] 40 (AH.mk 0 ([] : List (Prod Nat AObj))) Bool.false)
noncomputable abbrev iOf_L0_S (blocks : Int) (l : List Ex) (s0 : Bool) (s2 : List Ce × Int) : St := (St.mk [(0, (AV.i blocks)), (1, (exs l)), (4, (AV.rf 0 34 0 (List.length s2.1))), (5, (AV.i 0)), (12, (AV.b (!s0))), (13, (exs l)), (14, (AV.i (↑(List.length l) : Int))), (15, (AV.i s2.2))] 40 (AH.mk 1 [(0, (AObj.cells (List.flatMap Ce.cells s2.1)))]) Bool.false)
noncomputable def iOf_L0_step (blocks : Int) (l : List Ex) (s0 : Bool) (s2 : List Ce × Int) : Option (List Ce × Int) :=
 (tb ((decide (s2.2 < (↑(List.length l) : Int))))
  (tp ((((0 : Int) ≤ s2.2) ∧ (s2.2 < (↑(List.length l) : Int))))
   (tc (eBytes ((exAt l (Int.toNat s2.2)))) fun s5 =>
    (th (iOf_L1_step blocks l s0 s2 s5) ((s2.1, s5)) fun s6 =>
     (tb ((decide ((↑(List.length s6.2) : Int) > (0 : Int))))
      none /- stop behind an operation -/
      (some ((s6.1, (wr (s2.2 + (1 : Int))))))))))
  none /- exit -/)
theorem iOf_L0_s0 (blocks : Int) (l : List Ex) (s0 : Bool) (s2 : List Ce × Int) (h3 : ((decide (s2.2 < (↑(List.length l) : Int)))) = true) (h3p : (s2.2 < (↑(List.length l) : Int))) (h4 : (((0 : Int) ≤ s2.2) ∧ (s2.2 < (↑(List.length l) : Int)))) (s5 : List UInt8) (h5 : eBytes ((exAt l (Int.toNat s2.2))) = some s5) (s6 : List Ce × List UInt8) (h6 : Runs (iOf_L1_step blocks l s0 s2 s5) ((s2.1, s5)) s6) (h7 : ((decide ((↑(List.length s6.2) : Int) > (0 : Int)))) = false) (h7p : ¬ ((↑(List.length s6.2) : Int) > (0 : Int))) : EvStep Try.prog cf 0 (lp Try.prog 26 0) (iOf_L0_S blocks l s0 s2) (iOf_L0_S blocks l s0 ((s6.1, (wr (s2.2 + (1 : Int)))))) :=
  leafS vw_eq (k := 300) (r := []) (hs := hz [(1, [.yes, .yes, .yes, .cells ((Ex.cells (exAt l (Int.toNat s2.2))))]), (2, [.cells ((xc (exAt l (Int.toNat s2.2))))]), (1, [.cells ((xc (exAt l (Int.toNat s2.2))))]), (1, [.fres (bys (s5))]), (1, [.head (iOf_L1_S blocks l s0 s2 s5 s6)]), (3, [.no]), (2, [])]) (st1 := (St.mk [(0, (AV.i blocks)), (1, (exs l)), (4, (AV.rf 2 34 0 (List.length s6.1))), (5, (AV.i 0)), (12, (AV.b (!s0))), (13, (exs l)), (14, (AV.i (↑(List.length l) : Int))), (15, (AV.i (wr (s2.2 + (1 : Int))))), (16, (AV.b (decide (s2.2 < (↑(List.length l) : Int))))), (7, (AV.pt 1 0)), (8, (bys s6.2)), (21, (bys s6.2)), (22, (AV.i (↑(List.length s6.2) : Int))), (23, (AV.b (decide ((↑(List.length s6.2) : Int) > (0 : Int))))), (38, (AV.i (wr (s2.2 + (1 : Int)))))] 40 (AH.mk 3 [(1, (AObj.cells (xc (exAt l (Int.toNat s2.2))))), (2, (AObj.cells (List.flatMap Ce.cells s6.1)))]) Bool.false)) kq (ac h3 (ac h4 (ac (fq (p := ((5 : Nat) ≤ (List.length (List.drop ((Int.toNat s2.2) * (5 : Nat)) (List.flatMap Ex.cells l)))))) (ac (show (List.take 5 (List.drop ((Int.toNat s2.2) * (5 : Nat)) (List.flatMap Ex.cells l))) = (Ex.cells (exAt l (Int.toNat s2.2))) from (ex_takeO bq bq)) (ac (Eq.refl ((xc (exAt l (Int.toNat s2.2))) : List AV)) (ac (Eq.refl ((xc (exAt l (Int.toNat s2.2))) : List AV)) (ac (eBytes_ok ((exAt l (Int.toNat s2.2))) _ h5).any0 (ac (show EvHead Try.prog cf (lp Try.prog 26 1) (iOf_L1_I blocks l s0 s2 s5) (iOf_L1_S blocks l s0 s2 s5 s6) from (EvHead.of (iOf_L1_ok blocks l s0 s2 s5) (absB_of [0] [] kq (.consn kq (.eqv tq rfl) (.consn kq (.eqv tq rfl) (.consn kq (.rfn (n := (List.length s2.1)) rfl tq) (.consn kq (.eqv tq rfl) (.consn kq (.eqv tq rfl) (.consn kq (.eqv tq rfl) (.consn kq (.eqv tq rfl) (.consn kq (.eqv tq rfl) (.consn kq (.eqv tq rfl) (.consn kq (.pt rfl) (.consn (x := (bys s5)) kq (.eqv tq rfl) .nil))))))))))) (.cons (.old rfl rfl (.cells (.pl rfl pq))) (.cons (.old rfl rfl (.cells (.pl tq pq))) .nil))) h6)) (ac h7 an))))))))) (Nat.le_of_ble_eq_true rfl) (absB_of [2] [] kq (.consn kq (.eqv tq rfl) (.consn kq (.eqv tq rfl) (.consn kq (.rfn (n := (List.length s6.1)) rfl tq) (.consn kq (.eqv tq rfl) (.consn kq (.eqv tq rfl) (.consn kq (.eqv tq rfl) (.consn kq (.eqv tq rfl) (.consn kq (.eqv tq rfl) .nil)))))))) (.cons (.old rfl rfl (.cells (.pl tq pq))) .nil))
theorem iOf_L0_ok (blocks : Int) (l : List Ex) (s0 : Bool) (s2 zz : List Ce × Int) : iOf_L0_step blocks l s0 s2 = some zz → EvStep Try.prog cf 0 (lp Try.prog 26 0) (iOf_L0_S blocks l s0 s2) (iOf_L0_S blocks l s0 zz) := by
  unfold iOf_L0_step
  refine tb_ok (fun h3 => ?_) (fun h3 => ?_)
  ·
    have h3p := of_decide_eq_true h3
    refine tp_ok (fun h4 => ?_)
    refine tc_ok (fun s5 h5 => ?_)
    refine th_ok (fun s6 h6 => ?_)
    refine tb_ok (fun h7 => ?_) (fun h7 => ?_)
    ·
      have h7p := of_decide_eq_true h7
      exact fun e => nomatch e
    ·
      have h7p := of_decide_eq_false h7
      exact fun e => tl_ok (G := (fun zz => EvStep Try.prog cf 0 (lp Try.prog 26 0) (iOf_L0_S blocks l s0 s2) (iOf_L0_S blocks l s0 zz))) (iOf_L0_s0 blocks l s0 s2 h3 h3p h4 s5 h5 s6 h6 h7 h7p) e
  ·
    have h3p := of_decide_eq_false h3
    exact fun e => nomatch e
noncomputable def iOf (blocks : Int) (l : List Ex) : Option (List Ce × Int) :=
 (tc (mCheck (blocks) (l)) fun s0 =>
  (tb ((!s0))
   (some ((([] : List Ce), (80 : Int))))
   (th (iOf_L0_step blocks l s0) ((([] : List Ce), (0 : Int))) fun s2 =>
    (tb ((decide (s2.2 < (↑(List.length l) : Int))))
     none /- stop behind an operation -/
     (tp ((((0 : Nat) = (0 : Nat)) ∧ ((List.length (List.flatMap Ce.cells s2.1)) = ((List.length s2.1) * (34 : Nat)))))
      (some ((s2.1, (0 : Int)))))))))
abbrev iOf_G (blocks : Int) (l : List Ex) (r : List Ce × Int) : Prop := EvFr Try.prog cf true 26 [.i (blocks), exs (l)] (.tu [ces (r.1), .i (r.2)])
theorem iOf_l0 (blocks : Int) (l : List Ex) (s0 : Bool) (h0 : mCheck (blocks) (l) = some s0) (h1 : ((!s0)) = true) : iOf_G blocks l ((([] : List Ce), (80 : Int))) :=
  leafR vw_eq (k := 300) (r := []) (hs := hz [(5, [.fres (.b (s0))]), (1, [.yes]), (2, [])]) (raw := (AV.tu [(AV.sl 0 ([] : List AV)), (AV.i 80)])) kq (ac (mCheck_ok (blocks) (l) _ h0).any0 (ac h1 an)) tq
theorem iOf_l1 (blocks : Int) (l : List Ex) (s0 : Bool) (h0 : mCheck (blocks) (l) = some s0) (h1 : ((!s0)) = false) (s2 : List Ce × Int) (h2 : Runs (iOf_L0_step blocks l s0) ((([] : List Ce), (0 : Int))) s2) (h3 : ((decide (s2.2 < (↑(List.length l) : Int)))) = false) (h3p : ¬ (s2.2 < (↑(List.length l) : Int))) (h4 : (((0 : Nat) = (0 : Nat)) ∧ ((List.length (List.flatMap Ce.cells s2.1)) = ((List.length s2.1) * (34 : Nat))))) : iOf_G blocks l ((s2.1, (0 : Int))) :=
  leafR vw_eq (k := 300) (r := []) (hs := hz [(5, [.fres (.b (s0))]), (1, [.no]), (3, [.head (iOf_L0_S blocks l s0 s2)]), (1, [.no]), (3, [.yes, .yes])]) (raw := (AV.tu [(ces s2.1), (AV.i 0)])) kq (ac (mCheck_ok (blocks) (l) _ h0).any0 (ac h1 (ac (show EvHead Try.prog cf (lp Try.prog 26 0) (iOf_L0_I blocks l s0) (iOf_L0_S blocks l s0 s2) from (EvHead.of (iOf_L0_ok blocks l s0) (absB_of [0] [] kq (.consn kq (.eqv tq rfl) (.consn kq (.eqv tq rfl) (.consn kq (.nln tq) (.consn kq (.eqv tq rfl) (.consn kq (.eqv tq rfl) (.consn kq (.eqv tq rfl) (.consn kq (.eqv tq rfl) (.consn kq (.eqv tq rfl) .nil)))))))) (.cons (.none rfl (Nat.le_refl _) rfl) .nil)) h2)) (ac h3 (ac h4 (ac (pq (p := Pl Bool.true ((List.flatMap Ce.cells s2.1)))) an)))))) tq
theorem iOf_ok (blocks : Int) (l : List Ex) (r : List Ce × Int) : iOf blocks l = some r → iOf_G blocks l r := by
  unfold iOf
  refine tc_ok (fun s0 h0 => ?_)
  refine tb_ok (fun h1 => ?_) (fun h1 => ?_)
  ·
    exact fun e => tl_ok (G := iOf_G blocks l) (iOf_l0 blocks l s0 h0 h1) e
  ·
    refine th_ok (fun s2 h2 => ?_)
    refine tb_ok (fun h3 => ?_) (fun h3 => ?_)
    ·
      have h3p := of_decide_eq_true h3
      exact fun e => nomatch e
    ·
      have h3p := of_decide_eq_false h3
      refine tp_ok (fun h4 => ?_)
      exact fun e => tl_ok (G := iOf_G blocks l) (iOf_l1 blocks l s0 h0 h1 s2 h2 h3 h3p h4) e
noncomputable abbrev iRead_L0_I (l : List Ce) (lba : Int) (n : Int) (s0 : List Ce × Int) : St := (St.mk [(0, (ces l)), (1, (AV.i lba)), (2, (AV.i n)), (6, AV.nl), (7, (AV.i 0)), (13, (ces l)), (14, (AV.i lba)), (15, (AV.i n)), (16, (AV.tu [(ces s0.1), (AV.i s0.2)])), (12, (AV.tu [(ces s0.1), (AV.i s0.2)])), (17, (ces s0.1)), (18, (AV.i s0.2)), (8, (ces s0.1)), (9, (AV.i s0.2)), (19, (AV.i s0.2)), (20, (AV.b (s0.2 != (0 : Int)))), (22, (ces l)), (23, (AV.i lba)), (24, (AV.i lba)), (25, (AV.i n)), (26, (AV.i (wr (lba + n)))), (27, (AV.sl ((Int.toNat (wr (lba + n))) - (Int.toNat lba)) (List.take (((Int.toNat (wr (lba + n))) - (Int.toNat lba)) * (34 : Nat)) (List.drop ((Int.toNat lba) * (34 : Nat)) (List.flatMap Ce.cells l))))), (28, (AV.i (↑((Int.toNat (wr (lba + n))) - (Int.toNat lba)) : Int))), (29, (AV.i 0))] 39 (AH.mk 0 ([] : List (Prod Nat AObj))) Bool.false)
noncomputable abbrev iRead_L0_S (l : List Ce) (lba : Int) (n : Int) (s0 : List Ce × Int) (s5 : List UInt8 × Int) : St := (St.mk [(0, (ces l)), (1, (AV.i lba)), (2, (AV.i n)), (6, (AV.rf 0 1 0 (List.length s5.1))), (7, (AV.i 0)), (9, (AV.i s0.2)), (20, (AV.b (s0.2 != (0 : Int)))), (27, (AV.sl ((Int.toNat (wr (lba + n))) - (Int.toNat lba)) (List.take (((Int.toNat (wr (lba + n))) - (Int.toNat lba)) * (34 : Nat)) (List.drop ((Int.toNat lba) * (34 : Nat)) (List.flatMap Ce.cells l))))), (28, (AV.i (↑((Int.toNat (wr (lba + n))) - (Int.toNat lba)) : Int))), (29, (AV.i s5.2))] 39 (AH.mk 1 [(0, (AObj.cells (List.map AV.y s5.1)))]) Bool.false)
noncomputable def iRead_L0_step (l : List Ce) (lba : Int) (n : Int) (s0 : List Ce × Int) (s5 : List UInt8 × Int) : Option (List UInt8 × Int) :=
 (tb ((decide (s5.2 < (↑((Int.toNat (wr (lba + n))) - (Int.toNat lba)) : Int))))
  (tp ((((0 : Int) ≤ s5.2) ∧ (s5.2 < (↑((Int.toNat (wr (lba + n))) - (Int.toNat lba)) : Int))))
   (tp (((34 : Nat) ≤ (List.length (List.drop ((Int.toNat s5.2) * (34 : Nat)) (List.take (((Int.toNat (wr (lba + n))) - (Int.toNat lba)) * (34 : Nat)) (List.drop ((Int.toNat lba) * (34 : Nat)) (List.flatMap Ce.cells l)))))))
    (tp ((((List.length (List.map AV.y s5.1)) = ((List.length s5.1) * (1 : Nat))) ∧ (((List.length s5.1) + (32 : Nat)) ≤ (4294967296 : Nat))))
     (some (((s5.1 ++ (pad 32 (ceAt (List.take ((Int.toNat (wr (lba + n))) - (Int.toNat lba)) (List.drop (Int.toNat lba) l)) (Int.toNat s5.2)).d)), (wr (s5.2 + (1 : Int)))))))))
  none /- exit -/)
theorem iRead_L0_s0 (l : List Ce) (lba : Int) (n : Int) (s0 : List Ce × Int) (s5 : List UInt8 × Int) (h6 : ((decide (s5.2 < (↑((Int.toNat (wr (lba + n))) - (Int.toNat lba)) : Int)))) = true) (h6p : (s5.2 < (↑((Int.toNat (wr (lba + n))) - (Int.toNat lba)) : Int))) (h7 : (((0 : Int) ≤ s5.2) ∧ (s5.2 < (↑((Int.toNat (wr (lba + n))) - (Int.toNat lba)) : Int)))) (h8 : ((34 : Nat) ≤ (List.length (List.drop ((Int.toNat s5.2) * (34 : Nat)) (List.take (((Int.toNat (wr (lba + n))) - (Int.toNat lba)) * (34 : Nat)) (List.drop ((Int.toNat lba) * (34 : Nat)) (List.flatMap Ce.cells l))))))) (h9 : (((List.length (List.map AV.y s5.1)) = ((List.length s5.1) * (1 : Nat))) ∧ (((List.length s5.1) + (32 : Nat)) ≤ (4294967296 : Nat)))) : EvStep Try.prog cf 0 (lp Try.prog 27 0) (iRead_L0_S l lba n s0 s5) (iRead_L0_S l lba n s0 (((s5.1 ++ (pad 32 (ceAt (List.take ((Int.toNat (wr (lba + n))) - (Int.toNat lba)) (List.drop (Int.toNat lba) l)) (Int.toNat s5.2)).d)), (wr (s5.2 + (1 : Int)))))) :=
  leafS vw_eq (k := 300) (r := []) (hs := hz [(1, [.yes, .yes, .yes, .cells ((Ce.cells (ceAt (List.take ((Int.toNat (wr (lba + n))) - (Int.toNat lba)) (List.drop (Int.toNat lba) l)) (Int.toNat s5.2))))]), (1, [.yes, .cells (((AV.i (ceAt (List.take ((Int.toNat (wr (lba + n))) - (Int.toNat lba)) (List.drop (Int.toNat lba) l)) (Int.toNat s5.2)).kind) :: (AV.i (ceAt (List.take ((Int.toNat (wr (lba + n))) - (Int.toNat lba)) (List.drop (Int.toNat lba) l)) (Int.toNat s5.2)).gen) :: (List.map AV.y (pad 32 (ceAt (List.take ((Int.toNat (wr (lba + n))) - (Int.toNat lba)) (List.drop (Int.toNat lba) l)) (Int.toNat s5.2)).d))))]), (2, [.yes, .no, .yes, .yes]), (3, [])]) (st1 := (St.mk [(0, (ces l)), (1, (AV.i lba)), (2, (AV.i n)), (6, (AV.rf 2 1 0 ((List.length s5.1) + (32 : Nat)))), (7, (AV.i 0)), (9, (AV.i s0.2)), (20, (AV.b (s0.2 != (0 : Int)))), (27, (AV.sl ((Int.toNat (wr (lba + n))) - (Int.toNat lba)) (List.take (((Int.toNat (wr (lba + n))) - (Int.toNat lba)) * (34 : Nat)) (List.drop ((Int.toNat lba) * (34 : Nat)) (List.flatMap Ce.cells l))))), (28, (AV.i (↑((Int.toNat (wr (lba + n))) - (Int.toNat lba)) : Int))), (29, (AV.i (wr (s5.2 + (1 : Int))))), (30, (AV.b (decide (s5.2 < (↑((Int.toNat (wr (lba + n))) - (Int.toNat lba)) : Int))))), (31, (AV.ip (List.drop ((Int.toNat s5.2) * (34 : Nat)) (List.take (((Int.toNat (wr (lba + n))) - (Int.toNat lba)) * (34 : Nat)) (List.drop ((Int.toNat lba) * (34 : Nat)) (List.flatMap Ce.cells l)))))), (32, (AV.ag (Ce.cells (ceAt (List.take ((Int.toNat (wr (lba + n))) - (Int.toNat lba)) (List.drop (Int.toNat lba) l)) (Int.toNat s5.2))))), (11, (AV.pt 1 0)), (33, (AV.rf 0 1 0 (List.length s5.1))), (34, (AV.pt 1 2)), (35, (AV.rf 1 1 2 32)), (36, (AV.rf 2 1 0 ((List.length s5.1) + (32 : Nat)))), (37, (AV.i (wr (s5.2 + (1 : Int)))))] 39 (AH.mk 3 [(2, (AObj.cells ((List.map AV.y s5.1) ++ (List.take 32 (List.map AV.y (pad 32 (ceAt (List.take ((Int.toNat (wr (lba + n))) - (Int.toNat lba)) (List.drop (Int.toNat lba) l)) (Int.toNat s5.2)).d)))))), (1, (AObj.cells ((AV.i (ceAt (List.take ((Int.toNat (wr (lba + n))) - (Int.toNat lba)) (List.drop (Int.toNat lba) l)) (Int.toNat s5.2)).kind) :: (AV.i (ceAt (List.take ((Int.toNat (wr (lba + n))) - (Int.toNat lba)) (List.drop (Int.toNat lba) l)) (Int.toNat s5.2)).gen) :: (List.map AV.y (pad 32 (ceAt (List.take ((Int.toNat (wr (lba + n))) - (Int.toNat lba)) (List.drop (Int.toNat lba) l)) (Int.toNat s5.2)).d))))), (0, AObj.dead)]) Bool.false)) kq (ac h6 (ac h7 (ac h8 (ac (show (List.take 34 (List.drop ((Int.toNat s5.2) * (34 : Nat)) (List.take (((Int.toNat (wr (lba + n))) - (Int.toNat lba)) * (34 : Nat)) (List.drop ((Int.toNat lba) * (34 : Nat)) (List.flatMap Ce.cells l))))) = (Ce.cells (ceAt (List.take ((Int.toNat (wr (lba + n))) - (Int.toNat lba)) (List.drop (Int.toNat lba) l)) (Int.toNat s5.2))) from (by (try simp only [List.drop_drop]); rw [show ((Int.toNat s5.2) * (34 : Nat)) = ((Int.toNat s5.2)) * 34 by omega]; exact ce_takeC (l := (List.take ((Int.toNat (wr (lba + n))) - (Int.toNat lba)) (List.drop (Int.toNat lba) l))) tq _ bq)) (ac (tq (p := (((List.length ((AV.i (ceAt (List.take ((Int.toNat (wr (lba + n))) - (Int.toNat lba)) (List.drop (Int.toNat lba) l)) (Int.toNat s5.2)).kind) :: (AV.i (ceAt (List.take ((Int.toNat (wr (lba + n))) - (Int.toNat lba)) (List.drop (Int.toNat lba) l)) (Int.toNat s5.2)).gen) :: (List.map AV.y (pad 32 (ceAt (List.take ((Int.toNat (wr (lba + n))) - (Int.toNat lba)) (List.drop (Int.toNat lba) l)) (Int.toNat s5.2)).d)))) = (34 : Nat)) ∧ (((0 : Nat) + (List.length ((AV.i (ceAt (List.take ((Int.toNat (wr (lba + n))) - (Int.toNat lba)) (List.drop (Int.toNat lba) l)) (Int.toNat s5.2)).kind) :: (AV.i (ceAt (List.take ((Int.toNat (wr (lba + n))) - (Int.toNat lba)) (List.drop (Int.toNat lba) l)) (Int.toNat s5.2)).gen) :: (List.map AV.y (pad 32 (ceAt (List.take ((Int.toNat (wr (lba + n))) - (Int.toNat lba)) (List.drop (Int.toNat lba) l)) (Int.toNat s5.2)).d))))) ≤ (34 : Nat))))) (ac (show (over ((AV.i (Int.ofNat 0)) :: (AV.i (Int.ofNat 0)) :: List.replicate (32 : Nat) (AV.y (UInt8.ofNat (0 : Nat)))) 0 ((AV.i (ceAt (List.take ((Int.toNat (wr (lba + n))) - (Int.toNat lba)) (List.drop (Int.toNat lba) l)) (Int.toNat s5.2)).kind) :: (AV.i (ceAt (List.take ((Int.toNat (wr (lba + n))) - (Int.toNat lba)) (List.drop (Int.toNat lba) l)) (Int.toNat s5.2)).gen) :: (List.map AV.y (pad 32 (ceAt (List.take ((Int.toNat (wr (lba + n))) - (Int.toNat lba)) (List.drop (Int.toNat lba) l)) (Int.toNat s5.2)).d)))) = ((AV.i (ceAt (List.take ((Int.toNat (wr (lba + n))) - (Int.toNat lba)) (List.drop (Int.toNat lba) l)) (Int.toNat s5.2)).kind) :: (AV.i (ceAt (List.take ((Int.toNat (wr (lba + n))) - (Int.toNat lba)) (List.drop (Int.toNat lba) l)) (Int.toNat s5.2)).gen) :: (List.map AV.y (pad 32 (ceAt (List.take ((Int.toNat (wr (lba + n))) - (Int.toNat lba)) (List.drop (Int.toNat lba) l)) (Int.toNat s5.2)).d))) from (over_all tq)) (ac (tq (p := (((0 : Nat) ≤ (32 : Nat)) ∧ (((32 : Nat) ≤ (32 : Nat)) ∧ ((34 : Nat) ≤ (List.length ((AV.i (ceAt (List.take ((Int.toNat (wr (lba + n))) - (Int.toNat lba)) (List.drop (Int.toNat lba) l)) (Int.toNat s5.2)).kind) :: (AV.i (ceAt (List.take ((Int.toNat (wr (lba + n))) - (Int.toNat lba)) (List.drop (Int.toNat lba) l)) (Int.toNat s5.2)).gen) :: (List.map AV.y (pad 32 (ceAt (List.take ((Int.toNat (wr (lba + n))) - (Int.toNat lba)) (List.drop (Int.toNat lba) l)) (Int.toNat s5.2)).d))))))))) (ac (tq (p := ((34 : Nat) ≤ (List.length ((AV.i (ceAt (List.take ((Int.toNat (wr (lba + n))) - (Int.toNat lba)) (List.drop (Int.toNat lba) l)) (Int.toNat s5.2)).kind) :: (AV.i (ceAt (List.take ((Int.toNat (wr (lba + n))) - (Int.toNat lba)) (List.drop (Int.toNat lba) l)) (Int.toNat s5.2)).gen) :: (List.map AV.y (pad 32 (ceAt (List.take ((Int.toNat (wr (lba + n))) - (Int.toNat lba)) (List.drop (Int.toNat lba) l)) (Int.toNat s5.2)).d))))))) (ac h9 an))))))))) (Nat.le_of_ble_eq_true rfl) (absB_of [2] [] kq (.consn kq (.eqv tq rfl) (.consn kq (.eqv tq rfl) (.consn kq (.eqv tq rfl) (.consn kq (.rfn (n := ((List.length s5.1) + (32 : Nat))) rfl tq) (.consn kq (.eqv tq rfl) (.consn kq (.eqv tq rfl) (.consn kq (.eqv tq rfl) (.consn kq (.eqv tq rfl) (.consn kq (.eqv tq rfl) (.consn kq (.eqv tq rfl) .nil)))))))))) (.cons (.old rfl rfl (.cells (.pl tq pq))) .nil))
theorem iRead_L0_ok (l : List Ce) (lba : Int) (n : Int) (s0 : List Ce × Int) (s5 zz : List UInt8 × Int) : iRead_L0_step l lba n s0 s5 = some zz → EvStep Try.prog cf 0 (lp Try.prog 27 0) (iRead_L0_S l lba n s0 s5) (iRead_L0_S l lba n s0 zz) := by
  unfold iRead_L0_step
  refine tb_ok (fun h6 => ?_) (fun h6 => ?_)
  ·
    have h6p := of_decide_eq_true h6
    refine tp_ok (fun h7 => ?_)
    refine tp_ok (fun h8 => ?_)
    refine tp_ok (fun h9 => ?_)
    exact fun e => tl_ok (G := (fun zz => EvStep Try.prog cf 0 (lp Try.prog 27 0) (iRead_L0_S l lba n s0 s5) (iRead_L0_S l lba n s0 zz))) (iRead_L0_s0 l lba n s0 s5 h6 h6p h7 h8 h9) e
  ·
    have h6p := of_decide_eq_false h6
    exact fun e => nomatch e
noncomputable def iRead (l : List Ce) (lba : Int) (n : Int) : Option (List UInt8 × Int) :=
 (tc (iFill (l) (lba) (n) ((1 : Int)) ((0 : Int))) fun s0 =>
  (tb ((s0.2 != (0 : Int)))
   (some ((([] : List UInt8), s0.2)))
   (tp (((0 : Int) ≤ lba))
    (tp (((0 : Int) ≤ (wr (lba + n))))
     (tp ((((Int.toNat lba) ≤ (Int.toNat (wr (lba + n)))) ∧ (((Int.toNat (wr (lba + n))) ≤ (List.length l)) ∧ ((List.length (List.flatMap Ce.cells l)) = ((List.length l) * (34 : Nat))))))
      (th (iRead_L0_step l lba n s0) ((([] : List UInt8), (0 : Int))) fun s5 =>
       (tb ((decide (s5.2 < (↑((Int.toNat (wr (lba + n))) - (Int.toNat lba)) : Int))))
        none /- stop behind an operation -/
        (some ((s5.1, (0 : Int)))))))))))
abbrev iRead_G (l : List Ce) (lba : Int) (n : Int) (r : List UInt8 × Int) : Prop := EvFr Try.prog cf true 27 [ces (l), .i (lba), .i (n)] (.tu [bys (r.1), .i (r.2)])
theorem iRead_l0 (l : List Ce) (lba : Int) (n : Int) (s0 : List Ce × Int) (h0 : iFill (l) (lba) (n) ((1 : Int)) ((0 : Int)) = some s0) (h1 : ((s0.2 != (0 : Int))) = true) (h1p : ¬ (s0.2 = (0 : Int))) : iRead_G l lba n ((([] : List UInt8), s0.2)) :=
  leafR vw_eq (k := 300) (r := []) (hs := hz [(6, [.fres (.tu [ces (s0.1), .i (s0.2)])]), (7, [.yes]), (3, [])]) (raw := (AV.tu [(AV.sl 0 ([] : List AV)), (AV.i s0.2)])) kq (ac (iFill_ok (l) (lba) (n) ((1 : Int)) ((0 : Int)) _ h0).any0 (ac h1 an)) tq
theorem iRead_l1 (l : List Ce) (lba : Int) (n : Int) (s0 : List Ce × Int) (h0 : iFill (l) (lba) (n) ((1 : Int)) ((0 : Int)) = some s0) (h1 : ((s0.2 != (0 : Int))) = false) (h1p : (s0.2 = (0 : Int))) (h2 : ((0 : Int) ≤ lba)) (h3 : ((0 : Int) ≤ (wr (lba + n)))) (h4 : (((Int.toNat lba) ≤ (Int.toNat (wr (lba + n)))) ∧ (((Int.toNat (wr (lba + n))) ≤ (List.length l)) ∧ ((List.length (List.flatMap Ce.cells l)) = ((List.length l) * (34 : Nat)))))) (s5 : List UInt8 × Int) (h5 : Runs (iRead_L0_step l lba n s0) ((([] : List UInt8), (0 : Int))) s5) (h6 : ((decide (s5.2 < (↑((Int.toNat (wr (lba + n))) - (Int.toNat lba)) : Int)))) = false) (h6p : ¬ (s5.2 < (↑((Int.toNat (wr (lba + n))) - (Int.toNat lba)) : Int))) : iRead_G l lba n ((s5.1, (0 : Int))) :=
  leafR vw_eq (k := 300) (r := []) (hs := hz [(6, [.fres (.tu [ces (s0.1), .i (s0.2)])]), (7, [.no]), (5, [.yes, .yes, .yes]), (2, [.head (iRead_L0_S l lba n s0 s5)]), (1, [.no]), (3, [.yes, .yes])]) (raw := (AV.tu [(bys s5.1), (AV.i 0)])) kq (ac (iFill_ok (l) (lba) (n) ((1 : Int)) ((0 : Int)) _ h0).any0 (ac h1 (ac h2 (ac h3 (ac h4 (ac (show EvHead Try.prog cf (lp Try.prog 27 0) (iRead_L0_I l lba n s0) (iRead_L0_S l lba n s0 s5) from (EvHead.of (iRead_L0_ok l lba n s0) (absB_of [0] [] kq (.consn kq (.eqv tq rfl) (.consn kq (.eqv tq rfl) (.consn kq (.eqv tq rfl) (.consn kq (.nln tq) (.consn kq (.eqv tq rfl) (.consn kq (.eqv tq rfl) (.consn kq (.eqv tq rfl) (.consn kq (.eqv tq rfl) (.consn kq (.eqv tq rfl) (.consn kq (.eqv tq rfl) .nil)))))))))) (.cons (.none rfl (Nat.le_refl _) rfl) .nil)) h5)) (ac h6 (ac (tq (p := (((0 : Nat) = (0 : Nat)) ∧ ((List.length (List.map AV.y s5.1)) = ((List.length s5.1) * (1 : Nat)))))) (ac (pq (p := Pl Bool.true ((List.map AV.y s5.1)))) an))))))))) tq
theorem iRead_ok (l : List Ce) (lba : Int) (n : Int) (r : List UInt8 × Int) : iRead l lba n = some r → iRead_G l lba n r := by
  unfold iRead
  refine tc_ok (fun s0 h0 => ?_)
  refine tb_ok (fun h1 => ?_) (fun h1 => ?_)
  ·
    have h1p := bne_iff_ne.1 h1
    exact fun e => tl_ok (G := iRead_G l lba n) (iRead_l0 l lba n s0 h0 h1 h1p) e
  ·
    have h1p := bne_eq_false_iff_eq.1 h1
    refine tp_ok (fun h2 => ?_)
    refine tp_ok (fun h3 => ?_)
    refine tp_ok (fun h4 => ?_)
    refine th_ok (fun s5 h5 => ?_)
    refine tb_ok (fun h6 => ?_) (fun h6 => ?_)
    ·
      have h6p := of_decide_eq_true h6
      exact fun e => nomatch e
    ·
      have h6p := of_decide_eq_false h6
      exact fun e => tl_ok (G := iRead_G l lba n) (iRead_l1 l lba n s0 h0 h1 h1p h2 h3 h4 s5 h5 h6 h6p) e
end Ab
end Go.Proofs.Ytiaelfmohamipaa
namespace Go.Proofs.Ytiaelfmohamipaa
open Go Go.Proofs.Ytiaelfmohamipaa.Ab
set_option linter.unusedVariables false
set_option linter.unusedSimpArgs false
namespace Ab
theorem eBytes_eq {x : Ex} (h : Ck x) : eBytes x = some (eb x) := by
  unfold eBytes eb
  have hc := h
  unfold Ck at hc
  have w1 : wr (x.len * 32) = 32 * x.len := by rw [wr_id (by omega) (by omega)]; omega
  rw [eCheck_eq, tc_some, ck_t h, w1]
  simp only [Bool.not_true, tb_f]
  rw [tp_pos (by first | exact ⟨rfl, by omega, by omega⟩ | exact ⟨trivial, by omega, by omega⟩)]
  by_cases hk : x.kind = 2
  · have hl := hc.2.2.2.2.2.2.2.2.1 hk
    rw [if_pos hk, List.take_zero, List.nil_append, Nat.mul_one, show min x.d.length (32 * x.len).toNat = x.d.length by omega, List.take_length, List.take_of_length_le (by simp), List.length_map, List.drop_of_length_le (by rw [List.length_replicate]; omega), List.append_nil]
  · have hl := hc.2.2.2.2.2.2.2.2.2 hk
    rw [if_neg hk, hl]
    simp
def ofS (blocks : Int) (m : List Ex) : List Ce × Int := if Mk blocks m then (cellsM m, 0) else ([], 80)
theorem xcs_take (x : Ex) (h : Ck x) : ∀ k, k ≤ x.len.toNat → (xcs x).take k = (List.range k).map fun k => (⟨x.kind, x.gen, pad 32 ((eb x).drop (32 * k))⟩ : Ce) := by
  intro k hk
  unfold xcs
  rw [← List.map_take, List.take_range, Nat.min_eq_left hk]
theorem cellsM_take (m : List Ex) (i : Nat) (hi : i < m.length) : cellsM (m.take (i + 1)) = cellsM (m.take i) ++ xcs (exAt m i) := by
  have e : m.take (i + 1) = m.take i ++ [exAt m i] := take_at _ m i hi
  rw [e]; simp [cellsM]
theorem cellsM_le {blocks : Int} {m : List Ex} (h : Mk blocks m) (i : Nat) : (cellsM (m.take i)).length ≤ 64 := by
  have h1 := (cellsM_mk h).2.1
  have hb := mk_blocks h
  have e : cellsM m = cellsM (m.take i) ++ cellsM (m.drop i) := by unfold cellsM; rw [← List.flatMap_append, List.take_append_drop]
  rw [e, List.length_append] at h1
  omega
theorem mk_at {blocks : Int} {m : List Ex} (h : Mk blocks m) {i : Nat} (hi : i < m.length) : Ck (exAt m i) := (h.2.1 i hi).1
theorem ofL {α : Type} (x : Ex) (out : List Ce) (hx : Ck x) (ho : out.length ≤ 100) (step : List Ce × List UInt8 → Option (List Ce × List UInt8)) (f : List Ce × List UInt8 → Option α)
    (hs : ∀ (o : List Ce) (b : List UInt8), o.length ≤ 1000 → 32 ≤ b.length → b.length ≤ 100000 → step (o, b) = some (o ++ [⟨x.kind, x.gen, pad 32 b⟩], b.drop 32)) (he : ∀ o, step (o, []) = none) :
    th step (out, eb x) f = f (out ++ xcs x, []) := by
  have hl := eb_len hx
  have hc := hx
  unfold Ck at hc
  rw [th_run_at (S := fun k => (out ++ (xcs x).take k, (eb x).drop (32 * k))) (k := x.len.toNat) (by simp) ?_ ?_]
  · rw [List.take_of_length_le (by rw [xcs_len]; exact Nat.le_refl _), List.drop_of_length_le (by omega)]
  · intro k hk
    rw [hs _ _ (by rw [List.length_append, List.length_take, xcs_len]; omega) (by rw [List.length_drop]; omega) (by rw [List.length_drop]; omega), List.drop_drop, show 32 * k + 32 = 32 * (k + 1) by omega]
    have e : (xcs x).take (k + 1) = (xcs x).take k ++ [⟨x.kind, x.gen, pad 32 ((eb x).drop (32 * k))⟩] := by
      rw [xcs_take x hx _ (by omega), xcs_take x hx _ (by omega), List.range_succ, List.map_append]; rfl
    rw [e, List.append_assoc]
  · rw [List.drop_of_length_le (by omega)]
    exact he _
theorem iOf_eq (blocks : Int) (m : List Ex) (hm : m.length ≤ 4294967296) : iOf blocks m = some (ofS blocks m) := by
  unfold iOf ofS
  rw [mCheck_eq blocks m hm, tc_some, tb_not]
  by_cases h : Mk blocks m
  case neg => rw [mk_f h, tb_f, if_neg h]
  rw [mk_t h, tb_t, if_pos h]
  have hlen := mk_len h
  rw [th_run_at (S := fun i => (cellsM (m.take i), (i : Int))) (k := m.length) (by simp [cellsM]) ?_ ?_]
  · simp only [tb_dec]
    rw [if_neg (by omega), List.take_length, tp_pos (by rw [ces_len]; simp)]
  · intro i hi
    have hck := mk_at h hi
    have hle := cellsM_le h i
    unfold iOf_L0_step
    simp only [tb_dec, Int.toNat_natCast]
    rw [if_pos (by omega), tp_pos (by omega), eBytes_eq hck, tc_some, ofL (exAt m i) _ hck (by omega) _ _ ?_ ?_]
    · simp only [List.length_nil]
      rw [if_neg (by simp), cellsM_take m i hi, wr_id (by omega) (by omega)]; rfl
    · intro o b ho hb1 hb2
      unfold iOf_L1_step
      simp only [tb_dec, Int.toNat_natCast]
      rw [if_pos (by omega), tp_pos (by refine ⟨by omega, hb1, by simp⟩), tp_pos (by rw [ces_len]; omega), List.take_of_length_le (by rw [List.length_drop]; omega)]
    · intro o
      unfold iOf_L1_step
      simp only [tb_dec, List.length_nil]
      rw [if_neg (by simp)]
  · unfold iOf_L0_step
    simp only [tb_dec]
    rw [if_neg (by omega)]
end Ab
end Go.Proofs.Ytiaelfmohamipaa
namespace Go.Proofs.Ytiaelfmohamipaa
open Go Go.Proofs.Ytiaelfmohamipaa.Ab
set_option linter.unusedVariables false
set_option linter.unusedSimpArgs false
namespace Ab
def putN (l : List Ce) (s : Nat) (f : Nat → Ce) : Nat → List Ce
  | 0 => l
  | i + 1 => (putN l s f i).set (s + i) (f i)
theorem putN_len (l : List Ce) (s : Nat) (f : Nat → Ce) : ∀ i, (putN l s f i).length = l.length
  | 0 => rfl
  | i + 1 => by rw [putN, List.length_set, putN_len l s f i]
def z32 : List UInt8 := List.replicate 32 0
def fillF_ (kind gen : Int) : Nat → Ce := fun _ => ⟨kind, gen, z32⟩
def fillS (l : List Ce) (lba n kind gen : Int) : List Ce × Int :=
  if CkI l then (if Fits l lba n ∧ (0 ≤ kind ∧ kind ≤ 1) ∧ (0 ≤ gen ∧ gen ≤ 2147483647) then (putN l lba.toNat (fillF_ kind gen) n.toNat, 0) else (l, 81)) else ([], 90)
theorem iFill_eq (l : List Ce) (lba n kind gen : Int) (hl : l.length ≤ 4294967296) : iFill l lba n kind gen = some (fillS l lba n kind gen) := by
  unfold iFill fillS
  simp only [iWithin_eq, iCheck_eq l hl, tc_some, tb_not, tb_dec, ces_len]
  have p1 : l.length * 34 = l.length * 34 := rfl
  by_cases hc : CkI l
  case neg =>
    by_cases hk : 0 ≤ kind ∧ kind ≤ 1
    · simp only [if_pos hk, if_neg hc]
    · simp only [if_neg hk, if_neg hc]
  have h64 := hc.2.1
  simp only [if_pos hc]
  by_cases hk : 0 ≤ kind ∧ kind ≤ 1
  case neg =>
    rw [if_neg hk, if_neg fun q => hk q.2.1, tp_pos (by first | rfl | trivial), tp_pos (by omega), tp_pos (by simp)]
  rw [if_pos hk, tp_pos (by first | rfl | trivial), tp_pos (by omega)]
  by_cases hg : 0 ≤ gen ∧ gen ≤ 2147483647
  case neg => rw [if_neg hg, if_neg fun q => hg q.2.2, tp_pos (by simp)]
  rw [if_pos hg]
  by_cases h1 : 0 ≤ lba ∧ lba ≤ l.length
  case neg => rw [if_neg h1, if_neg fun q => h1 ⟨q.1.1, q.1.2.1⟩, tp_pos (by simp)]
  rw [if_pos h1, wr_id (x := (l.length : Int) - lba) (by omega) (by omega)]
  by_cases h2 : 1 ≤ n ∧ n ≤ l.length - lba
  case neg => rw [if_neg h2, if_neg fun q => h2 q.1.2.2, tp_pos (by simp)]
  rw [if_pos h2, if_pos ⟨⟨h1.1, h1.2, h2.1, h2.2⟩, hk, hg⟩]
  have := th_run (step := iFill_L0_step l lba n kind gen true true true true true) (f := fun s12 => if s12.1 < n then none else tp (0 = 0 ∧ s12.2.length * 34 = l.length * 34) (some (s12.2, (0 : Int)))) (fun i => ((i : Int), putN l lba.toNat (fillF_ kind gen) i)) n.toNat ?_ ?_
  · simp only [Int.natCast_zero, putN] at this
    rw [decide_eq_true hk, decide_eq_true hg, decide_eq_true hc, decide_eq_true h1, decide_eq_true h2, this, if_neg (by omega), tp_pos (by simp [putN_len])]
  · intro i hi
    unfold iFill_L0_step
    simp only [tb_dec, ces_len, putN_len, u8z]
    rw [wr_id (x := lba + (i : Int)) (by omega) (by omega), wr_id (x := (i : Int) + 1) (by omega) (by omega), if_pos (by omega), tp_pos (by omega), tp_pos (by constructor <;> simp <;> omega)]
    have e1 : (lba + (i : Int)).toNat = lba.toNat + i := by omega
    rw [e1]
    rfl
  · unfold iFill_L0_step
    simp only [tb_dec]
    rw [if_neg (by omega)]
def part (d : List UInt8) (k : Nat) : List UInt8 := (pad 32 d).take k ++ List.replicate (32 - k) 0
def byt (l : List Ce) : List UInt8 := l.flatMap fun c => pad 32 c.d
theorem byt_len (l : List Ce) : (byt l).length = 32 * l.length := by
  induction l with
  | nil => rfl
  | cons c l ih => simp only [byt, List.flatMap_cons, List.length_append, pad_len, List.length_cons] at ih ⊢; omega
theorem byt_take (l : List Ce) (i : Nat) (h : i < l.length) : byt (l.take (i + 1)) = byt (l.take i) ++ pad 32 (ceAt l i).d := by
  have e : l.take (i + 1) = l.take i ++ [ceAt l i] := take_at _ l i h
  rw [e]; simp [byt]
def readS (l : List Ce) (lba n : Int) : List UInt8 × Int :=
  if CkI l then (if Fits l lba n then (byt ((l.drop lba.toNat).take n.toNat), 0) else ([], 81)) else ([], 90)
theorem iRead_eq (l : List Ce) (lba n : Int) (hl : l.length ≤ 4294967296) : iRead l lba n = some (readS l lba n) := by
  unfold iRead readS
  simp only [iFill_eq l lba n 1 0 hl, tc_some, tb_bne, tb_dec, ces_len]
  unfold fillS
  by_cases hc : CkI l
  case neg => simp only [if_neg hc]; rfl
  have h64 := hc.2.1
  simp only [if_pos hc]
  by_cases hf : Fits l lba n
  case neg =>
    have hn : ¬ (Fits l lba n ∧ ((0 : Int) ≤ 1 ∧ (1 : Int) ≤ 1) ∧ ((0 : Int) ≤ 0 ∧ (0 : Int) ≤ 2147483647)) := fun q => hf q.1
    simp only [if_neg hn, if_neg hf]; rfl
  have hp : Fits l lba n ∧ ((0 : Int) ≤ 1 ∧ (1 : Int) ≤ 1) ∧ ((0 : Int) ≤ 0 ∧ (0 : Int) ≤ 2147483647) := ⟨hf, by omega, by omega⟩
  have hff := hf
  unfold Fits at hff
  have w : wr (lba + n) = lba + n := wr_id (by omega) (by omega)
  simp only [w, if_pos hp, if_pos hf]
  rw [if_pos trivial, tp_pos (by omega), tp_pos (by omega), tp_pos (by refine ⟨by omega, by omega, ?_⟩; first | trivial | rfl)]
  have e0 : (lba + n).toNat - lba.toNat = n.toNat := by omega
  rw [e0]
  rw [th_run_at (S := fun i => (byt ((l.drop lba.toNat).take i), (i : Int))) (k := n.toNat) (by simp [byt]) ?_ ?_]
  · simp only; rw [if_neg (by omega)]
  · intro i hi
    unfold iRead_L0_step
    have hbl : (byt ((l.drop lba.toNat).take i)).length ≤ 32 * i := by rw [byt_len, List.length_take]; omega
    simp only [tb_dec, w, e0, Int.toNat_natCast]
    rw [if_pos (by omega), tp_pos (by omega), tp_pos (by rw [List.length_drop, List.length_take, List.length_drop, ces_len]; omega), tp_pos (by refine ⟨by simp, by omega⟩), wr_id (by omega) (by omega)]
    have e1 : ceAt (List.take n.toNat (List.drop lba.toNat l)) i = ceAt (l.drop lba.toNat) i := by
      unfold ceAt
      rw [List.getD_eq_getElem?_getD, List.getD_eq_getElem?_getD, List.getElem?_take_of_lt (by omega)]
    rw [e1, byt_take (l.drop lba.toNat) i (by rw [List.length_drop]; omega)]
    rfl
  · unfold iRead_L0_step
    simp only [tb_dec, w, e0]
    rw [if_neg (by omega)]
end Ab
end Go.Proofs.Ytiaelfmohamipaa
namespace Go.Proofs.Ytiaelfmohamipaa
open Go Go.Proofs.Ytiaelfmohamipaa.Ab
set_option linter.unusedVariables false
set_option linter.unusedSimpArgs false
set_option maxRecDepth 1000000
namespace Ab
def aw15 : Option Bool := some true
theorem aw15_eval : aCall Try.prog cf 4000 7 [] = some (.b true) := by kernel_rfl
theorem aw15_ok (r : Bool) : aw15 = some r → EvFr Try.prog cf true 7 [] (.b r) := fun h => by
  cases h
  exact EvFr.of_bool aw15_eval
end Ab
end Go.Proofs.Ytiaelfmohamipaa
