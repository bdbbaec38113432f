/- Functions, as they answer: printed by a program of this repo, out of the program's form; each with its proof. -/
import Derived.Test.YtphnpgdamacfmaaRows
import Derived.Test.YtphnpgdamacfmaaAbsY
import Derived.Test.YtphnpgdamacfmaaShr
import Derived.Test.YtphnpgdamacfmaaTab
import Derived.Test.YtphnpgdamacfmaaFnA
import Derived.Test.YtphnpgdamacfmaaFnB
namespace Go.Proofs.Ytphnpgdamacfmaa
open Go Go.Proofs.Ytphnpgdamacfmaa.Ab
set_option linter.unusedVariables false
set_option linter.unusedSimpArgs false
set_option maxRecDepth 1000000
namespace Ab
noncomputable abbrev mOwn_L0_I (l : List Ex) : St := (St.mk [(0, (AV.sl (List.length l) (List.flatMap Ex.cells l))), (2, AV.nl), (5, (AV.sl (List.length l) (List.flatMap Ex.cells l))), (6, (AV.i (↑(List.length l) : Int))), (7, (AV.i 0))] 21 (AH.mk 0 ([] : List (Prod Nat AObj))) Bool.false)
noncomputable abbrev mOwn_L0_S (l : List Ex) (s0 : List Ex × Int) : St := (St.mk [(0, (AV.sl (List.length l) (List.flatMap Ex.cells l))), (2, (AV.rf 0 5 0 (List.length s0.1))), (5, (AV.sl (List.length l) (List.flatMap Ex.cells l))), (6, (AV.i (↑(List.length l) : Int))), (7, (AV.i s0.2))] 21 (AH.mk 1 [(0, (AObj.cells (List.flatMap Ex.cells s0.1)))]) Bool.false)
noncomputable def mOwn_L0_step (l : List Ex) (s0 : List Ex × Int) : Option (List Ex × Int) :=
 (tb ((decide (s0.2 < (↑(List.length l) : Int))))
  (tp ((((0 : Int) ≤ s0.2) ∧ (s0.2 < (↑(List.length l) : Int))))
   (tp (((List.length (exAt l (Int.toNat s0.2)).d) ≤ (4294967296 : Nat)))
    (tp ((((List.length (List.flatMap Ex.cells s0.1)) = ((List.length s0.1) * (5 : Nat))) ∧ (((List.length s0.1) + (1 : Nat)) ≤ (4294967296 : Nat))))
     (some (((s0.1 ++ [(exAt l (Int.toNat s0.2))]), (wr (s0.2 + (1 : Int)))))))))
  none /- exit -/)
theorem mOwn_L0_s0 (l : List Ex) (s0 : List Ex × Int) (h1 : ((decide (s0.2 < (↑(List.length l) : Int)))) = true) (h1p : (s0.2 < (↑(List.length l) : Int))) (h2 : (((0 : Int) ≤ s0.2) ∧ (s0.2 < (↑(List.length l) : Int)))) (h3 : ((List.length (exAt l (Int.toNat s0.2)).d) ≤ (4294967296 : Nat))) (h4 : (((List.length (List.flatMap Ex.cells s0.1)) = ((List.length s0.1) * (5 : Nat))) ∧ (((List.length s0.1) + (1 : Nat)) ≤ (4294967296 : Nat)))) : EvStep Try.prog cf 0 (lp Try.prog 28 0) (mOwn_L0_S l s0) (mOwn_L0_S l (((s0.1 ++ [(exAt l (Int.toNat s0.2))]), (wr (s0.2 + (1 : Int)))))) :=
  leafS vw_eq (k := 300) (r := []) (hs := hz [(1, [.yes, .yes, .yes, .cells ((Ex.cells (exAt l (Int.toNat s0.2))))]), (2, [.cells ((xc (exAt l (Int.toNat s0.2))))]), (3, [.yes, .yes]), (2, [.cells ([(AV.i (exAt l (Int.toNat s0.2)).lba), (AV.i (exAt l (Int.toNat s0.2)).len), (AV.i (exAt l (Int.toNat s0.2)).kind), (AV.i (exAt l (Int.toNat s0.2)).gen), (AV.rf 2 1 0 (List.length (exAt l (Int.toNat s0.2)).d))])]), (2, [.cells ([(AV.i (exAt l (Int.toNat s0.2)).lba), (AV.i (exAt l (Int.toNat s0.2)).len), (AV.i (exAt l (Int.toNat s0.2)).kind), (AV.i (exAt l (Int.toNat s0.2)).gen), (AV.rf 2 1 0 (List.length (exAt l (Int.toNat s0.2)).d))])]), (1, [.yes, .yes]), (3, [])]) (st1 := (St.mk [(0, (AV.sl (List.length l) (List.flatMap Ex.cells l))), (2, (AV.rf 4 5 0 ((List.length s0.1) + (1 : Nat)))), (5, (AV.sl (List.length l) (List.flatMap Ex.cells l))), (6, (AV.i (↑(List.length l) : Int))), (7, (AV.i (wr (s0.2 + (1 : Int))))), (8, (AV.b (decide (s0.2 < (↑(List.length l) : Int))))), (9, (AV.ip (List.drop ((Int.toNat s0.2) * (5 : Nat)) (List.flatMap Ex.cells l)))), (10, (AV.ag (xc (exAt l (Int.toNat s0.2))))), (4, (AV.pt 1 0)), (11, (AV.pt 1 4)), (12, (AV.sl (List.length (exAt l (Int.toNat s0.2)).d) (List.map AV.y (exAt l (Int.toNat s0.2)).d))), (13, (AV.rf 2 1 0 (List.length (exAt l (Int.toNat s0.2)).d))), (14, (AV.pt 1 4)), (15, (AV.rf 0 5 0 (List.length s0.1))), (16, (AV.ag [(AV.i (exAt l (Int.toNat s0.2)).lba), (AV.i (exAt l (Int.toNat s0.2)).len), (AV.i (exAt l (Int.toNat s0.2)).kind), (AV.i (exAt l (Int.toNat s0.2)).gen), (AV.rf 2 1 0 (List.length (exAt l (Int.toNat s0.2)).d))])), (17, (AV.rf 3 5 0 1)), (18, (AV.rf 4 5 0 ((List.length s0.1) + (1 : Nat)))), (19, (AV.i (wr (s0.2 + (1 : Int)))))] 21 (AH.mk 5 [(4, (AObj.cells ((List.flatMap Ex.cells s0.1) ++ [(AV.i (exAt l (Int.toNat s0.2)).lba), (AV.i (exAt l (Int.toNat s0.2)).len), (AV.i (exAt l (Int.toNat s0.2)).kind), (AV.i (exAt l (Int.toNat s0.2)).gen), (AV.rf 2 1 0 (List.length (exAt l (Int.toNat s0.2)).d))]))), (3, (AObj.cells [(AV.i (exAt l (Int.toNat s0.2)).lba), (AV.i (exAt l (Int.toNat s0.2)).len), (AV.i (exAt l (Int.toNat s0.2)).kind), (AV.i (exAt l (Int.toNat s0.2)).gen), (AV.rf 2 1 0 (List.length (exAt l (Int.toNat s0.2)).d))])), (2, (AObj.cells (List.map AV.y (exAt l (Int.toNat s0.2)).d))), (1, (AObj.cells [(AV.i (exAt l (Int.toNat s0.2)).lba), (AV.i (exAt l (Int.toNat s0.2)).len), (AV.i (exAt l (Int.toNat s0.2)).kind), (AV.i (exAt l (Int.toNat s0.2)).gen), (AV.rf 2 1 0 (List.length (exAt l (Int.toNat s0.2)).d))])), (0, AObj.dead)]) Bool.false)) (ps := [((decide (s0.2 < (↑(List.length l) : Int)))) = true, (((0 : Int) ≤ s0.2) ∧ (s0.2 < (↑(List.length l) : Int))), ((5 : Nat) ≤ (List.length (List.drop ((Int.toNat s0.2) * (5 : Nat)) (List.flatMap Ex.cells l)))), (List.take 5 (List.drop ((Int.toNat s0.2) * (5 : Nat)) (List.flatMap Ex.cells l))) = (Ex.cells (exAt l (Int.toNat s0.2))), ((xc (exAt l (Int.toNat s0.2))) : List AV) = (xc (exAt l (Int.toNat s0.2))), ((List.length (List.map AV.y (exAt l (Int.toNat s0.2)).d)) = ((List.length (exAt l (Int.toNat s0.2)).d) * (1 : Nat))), ((List.length (exAt l (Int.toNat s0.2)).d) ≤ (4294967296 : Nat)), ([(AV.i (exAt l (Int.toNat s0.2)).lba), (AV.i (exAt l (Int.toNat s0.2)).len), (AV.i (exAt l (Int.toNat s0.2)).kind), (AV.i (exAt l (Int.toNat s0.2)).gen), (AV.rf 2 1 0 (List.length (exAt l (Int.toNat s0.2)).d))] : List AV) = [(AV.i (exAt l (Int.toNat s0.2)).lba), (AV.i (exAt l (Int.toNat s0.2)).len), (AV.i (exAt l (Int.toNat s0.2)).kind), (AV.i (exAt l (Int.toNat s0.2)).gen), (AV.rf 2 1 0 (List.length (exAt l (Int.toNat s0.2)).d))], ([(AV.i (exAt l (Int.toNat s0.2)).lba), (AV.i (exAt l (Int.toNat s0.2)).len), (AV.i (exAt l (Int.toNat s0.2)).kind), (AV.i (exAt l (Int.toNat s0.2)).gen), (AV.rf 2 1 0 (List.length (exAt l (Int.toNat s0.2)).d))] : List AV) = [(AV.i (exAt l (Int.toNat s0.2)).lba), (AV.i (exAt l (Int.toNat s0.2)).len), (AV.i (exAt l (Int.toNat s0.2)).kind), (AV.i (exAt l (Int.toNat s0.2)).gen), (AV.rf 2 1 0 (List.length (exAt l (Int.toNat s0.2)).d))], (((0 : Nat) = (0 : Nat)) ∧ ((List.length [(AV.i (exAt l (Int.toNat s0.2)).lba), (AV.i (exAt l (Int.toNat s0.2)).len), (AV.i (exAt l (Int.toNat s0.2)).kind), (AV.i (exAt l (Int.toNat s0.2)).gen), (AV.rf 2 1 0 (List.length (exAt l (Int.toNat s0.2)).d))]) = (5 : Nat))), (((List.length (List.flatMap Ex.cells s0.1)) = ((List.length s0.1) * (5 : Nat))) ∧ (((List.length s0.1) + (1 : Nat)) ≤ (4294967296 : Nat)))]) kq ⟨h1, h2, fq, (by first | exact ex_take _ _ bq | (simpa using ex_take _ _ bq) | ((try simp only [List.drop_drop]); rw [show ((Int.toNat s0.2) * (5 : Nat)) = ((Int.toNat s0.2)) * 5 by omega]; exact ex_take _ _ bq)), rfl, tq, h3, rfl, rfl, tq, h4, trivial⟩ (Nat.le_of_ble_eq_true rfl) (absB_of [4] [2] kq (.consn kq (.eqv tq rfl) (.consn kq (.rfn (n := ((List.length s0.1) + (1 : Nat))) rfl tq) (.consn kq (.eqv tq rfl) (.consn kq (.eqv tq rfl) (.consn kq (.eqv tq rfl) .nil))))) (.cons (.old rfl rfl (.cells (.cast rfl tq (.app (.pl rfl pq) (.cons (.eqv rfl rfl) (.cons (.eqv rfl rfl) (.cons (.eqv rfl rfl) (.cons (.eqv rfl rfl) (.cons (.frzn rfl tq pq (by simp) tq) .nil))))))))) .nil))
theorem mOwn_L0_ok (l : List Ex) (s0 zz : List Ex × Int) : mOwn_L0_step l s0 = some zz → EvStep Try.prog cf 0 (lp Try.prog 28 0) (mOwn_L0_S l s0) (mOwn_L0_S l zz) := by
  unfold mOwn_L0_step
  refine tb_ok (fun h1 => ?_) (fun h1 => ?_)
  ·
    have h1p := of_decide_eq_true h1
    refine tp_ok (fun h2 => ?_)
    refine tp_ok (fun h3 => ?_)
    refine tp_ok (fun h4 => ?_)
    exact fun e => tl_ok (G := (fun zz => EvStep Try.prog cf 0 (lp Try.prog 28 0) (mOwn_L0_S l s0) (mOwn_L0_S l zz))) (mOwn_L0_s0 l s0 h1 h1p h2 h3 h4) e
  ·
    have h1p := of_decide_eq_false h1
    exact fun e => nomatch e
/-- Function 28, as it answers. -/
noncomputable def mOwn (l : List Ex) : Option (List Ex) :=
 (th (mOwn_L0_step l) ((([] : List Ex), (0 : Int))) fun s0 =>
  (tb ((decide (s0.2 < (↑(List.length l) : Int))))
   none /- stop behind an operation -/
   (tp ((((0 : Nat) = (0 : Nat)) ∧ ((List.length (List.flatMap Ex.cells s0.1)) = ((List.length s0.1) * (5 : Nat)))))
    (some (s0.1)))))
abbrev mOwn_G (l : List Ex) (r : List Ex) : Prop := EvFr Try.prog cf false 28 [exs (l)] (exs (r))
theorem mOwn_l0 (l : List Ex) (s0 : List Ex × Int) (h0 : Runs (mOwn_L0_step l) ((([] : List Ex), (0 : Int))) s0) (h1 : ((decide (s0.2 < (↑(List.length l) : Int)))) = false) (h1p : ¬ (s0.2 < (↑(List.length l) : Int))) (h2 : (((0 : Nat) = (0 : Nat)) ∧ ((List.length (List.flatMap Ex.cells s0.1)) = ((List.length s0.1) * (5 : Nat))))) : mOwn_G l (s0.1) :=
  leafR vw_eq (k := 300) (r := []) (hs := hz [(4, [.head (mOwn_L0_S l s0)]), (1, [.no]), (2, [.yes, .yes])]) (raw := (AV.sl (List.length s0.1) (List.flatMap Ex.cells s0.1))) (ps := [EvHead Try.prog cf (lp Try.prog 28 0) (mOwn_L0_I l) (mOwn_L0_S l s0), ((decide (s0.2 < (↑(List.length l) : Int)))) = false, (((0 : Nat) = (0 : Nat)) ∧ ((List.length (List.flatMap Ex.cells s0.1)) = ((List.length s0.1) * (5 : Nat)))), Pl Bool.false ((List.flatMap Ex.cells s0.1))]) kq ⟨(EvHead.of (mOwn_L0_ok l) (absB_of [0] [] kq (.consn kq (.eqv tq rfl) (.consn kq (.nln tq) (.consn kq (.eqv tq rfl) (.consn kq (.eqv tq rfl) (.consn kq (.eqv tq rfl) .nil))))) (.cons (.none rfl (Nat.le_refl _) rfl) .nil)) h0), h1, h2, pq, trivial⟩ tq
theorem mOwn_ok (l : List Ex) (r : List Ex) : mOwn l = some r → mOwn_G l r := by
  unfold mOwn
  refine th_ok (fun s0 h0 => ?_)
  refine tb_ok (fun h1 => ?_) (fun h1 => ?_)
  ·
    have h1p := of_decide_eq_true h1
    exact fun e => nomatch e
  ·
    have h1p := of_decide_eq_false h1
    refine tp_ok (fun h2 => ?_)
    exact fun e => tl_ok (G := mOwn_G l) (mOwn_l0 l s0 h0 h1 h1p h2) e
noncomputable abbrev mRange_L0_I (blocks : Int) (l : List Ex) (lba : Int) (n : Int) (s0 : Bool) : St := (St.mk [(0, (AV.i blocks)), (1, (AV.sl (List.length l) (List.flatMap Ex.cells l))), (2, (AV.i lba)), (3, (AV.i n)), (8, AV.nl), (9, (AV.i 0)), (15, (AV.i blocks)), (16, (AV.sl (List.length l) (List.flatMap Ex.cells l))), (17, (AV.b s0)), (18, (AV.b (!s0))), (14, (AV.b (!s0))), (20, (AV.i lba)), (21, (AV.b (decide (lba < (0 : Int))))), (22, (AV.b (decide (lba < (0 : Int))))), (23, (AV.i lba)), (24, (AV.i blocks)), (25, (AV.b (decide (lba > blocks)))), (26, (AV.b (decide (lba > blocks)))), (27, (AV.b (decide (lba > blocks)))), (28, (AV.i n)), (29, (AV.b (decide (n < (1 : Int))))), (30, (AV.b (decide (n < (1 : Int))))), (31, (AV.b (decide (n < (1 : Int))))), (32, (AV.i n)), (33, (AV.i blocks)), (34, (AV.i lba)), (35, (AV.i (wr (blocks - lba)))), (36, (AV.b (decide (n > (wr (blocks - lba)))))), (37, (AV.b (decide (n > (wr (blocks - lba)))))), (19, (AV.b (decide (n > (wr (blocks - lba)))))), (38, (AV.sl (List.length l) (List.flatMap Ex.cells l))), (39, (AV.i (↑(List.length l) : Int))), (40, (AV.i 0))] 58 (AH.mk 0 ([] : List (Prod Nat AObj))) Bool.false)
noncomputable abbrev mRange_L0_S (blocks : Int) (l : List Ex) (lba : Int) (n : Int) (s0 : Bool) (s6 : List Ex × Int) : St := (St.mk [(0, (AV.i blocks)), (1, (AV.sl (List.length l) (List.flatMap Ex.cells l))), (2, (AV.i lba)), (3, (AV.i n)), (8, (AV.rf 0 5 0 (List.length s6.1))), (9, (AV.i 0)), (14, (AV.b (!s0))), (19, (AV.b (decide (n > (wr (blocks - lba)))))), (38, (AV.sl (List.length l) (List.flatMap Ex.cells l))), (39, (AV.i (↑(List.length l) : Int))), (40, (AV.i s6.2))] 58 (AH.mk 1 [(0, (AObj.cells (List.flatMap Ex.cells s6.1)))]) Bool.false)
noncomputable def mRange_L0_step (blocks : Int) (l : List Ex) (lba : Int) (n : Int) (s0 : Bool) (s6 : List Ex × Int) : Option (List Ex × Int) :=
 (tb ((decide (s6.2 < (↑(List.length l) : Int))))
  (tp ((((0 : Int) ≤ s6.2) ∧ (s6.2 < (↑(List.length l) : Int))))
   (tc (eCut ((exAt l (Int.toNat s6.2))) (lba) (n)) fun s9 =>
    (tb (s9.2)
     (tp ((((List.length (List.flatMap Ex.cells s6.1)) = ((List.length s6.1) * (5 : Nat))) ∧ (((List.length s6.1) + (1 : Nat)) ≤ (4294967296 : Nat))))
      (some (((s6.1 ++ [s9.1]), (wr (s6.2 + (1 : Int)))))))
     (some ((s6.1, (wr (s6.2 + (1 : Int)))))))))
  none /- exit -/)
theorem mRange_L0_s0 (blocks : Int) (l : List Ex) (lba : Int) (n : Int) (s0 : Bool) (s6 : List Ex × Int) (h7 : ((decide (s6.2 < (↑(List.length l) : Int)))) = true) (h7p : (s6.2 < (↑(List.length l) : Int))) (h8 : (((0 : Int) ≤ s6.2) ∧ (s6.2 < (↑(List.length l) : Int)))) (s9 : Ex × Bool) (h9 : eCut ((exAt l (Int.toNat s6.2))) (lba) (n) = some s9) (h10 : (s9.2) = true) (h11 : (((List.length (List.flatMap Ex.cells s6.1)) = ((List.length s6.1) * (5 : Nat))) ∧ (((List.length s6.1) + (1 : Nat)) ≤ (4294967296 : Nat)))) : EvStep Try.prog cf 0 (lp Try.prog 11 0) (mRange_L0_S blocks l lba n s0 s6) (mRange_L0_S blocks l lba n s0 (((s6.1 ++ [s9.1]), (wr (s6.2 + (1 : Int)))))) :=
  leafS vw_eq (k := 300) (r := []) (hs := hz [(1, [.yes, .yes, .yes, .cells ((Ex.cells (exAt l (Int.toNat s6.2))))]), (2, [.cells ((xc (exAt l (Int.toNat s6.2))))]), (1, [.cells ((xc (exAt l (Int.toNat s6.2))))]), (3, [.fres (.tu [Ex.av (s9.1), .b (s9.2)])]), (5, [.cells ((xc s9.1))]), (2, [.yes]), (2, [.cells ((xc s9.1))]), (1, [.yes, .yes]), (3, [])]) (st1 := (St.mk [(0, (AV.i blocks)), (1, (AV.sl (List.length l) (List.flatMap Ex.cells l))), (2, (AV.i lba)), (3, (AV.i n)), (8, (AV.rf 4 5 0 ((List.length s6.1) + (1 : Nat)))), (9, (AV.i 0)), (14, (AV.b (!s0))), (19, (AV.b (decide (n > (wr (blocks - lba)))))), (38, (AV.sl (List.length l) (List.flatMap Ex.cells l))), (39, (AV.i (↑(List.length l) : Int))), (40, (AV.i (wr (s6.2 + (1 : Int))))), (41, (AV.b (decide (s6.2 < (↑(List.length l) : Int))))), (42, (AV.ip (List.drop ((Int.toNat s6.2) * (5 : Nat)) (List.flatMap Ex.cells l)))), (43, (AV.ag (xc (exAt l (Int.toNat s6.2))))), (11, (AV.pt 1 0)), (45, (AV.ag (xc (exAt l (Int.toNat s6.2))))), (46, (AV.i lba)), (47, (AV.i n)), (48, (AV.tu [(AV.ag (xc s9.1)), (AV.b s9.2)])), (44, (AV.tu [(AV.ag (xc s9.1)), (AV.b s9.2)])), (49, (AV.ag (xc s9.1))), (50, (AV.b s9.2)), (12, (AV.pt 2 0)), (13, (AV.b s9.2)), (51, (AV.b s9.2)), (52, (AV.rf 0 5 0 (List.length s6.1))), (53, (AV.ag (xc s9.1))), (54, (AV.rf 3 5 0 1)), (55, (AV.rf 4 5 0 ((List.length s6.1) + (1 : Nat)))), (56, (AV.i (wr (s6.2 + (1 : Int)))))] 58 (AH.mk 5 [(4, (AObj.cells ((List.flatMap Ex.cells s6.1) ++ (xc s9.1)))), (3, (AObj.cells (xc s9.1))), (2, (AObj.cells (xc s9.1))), (1, (AObj.cells (xc (exAt l (Int.toNat s6.2))))), (0, AObj.dead)]) Bool.false)) (ps := [((decide (s6.2 < (↑(List.length l) : Int)))) = true, (((0 : Int) ≤ s6.2) ∧ (s6.2 < (↑(List.length l) : Int))), ((5 : Nat) ≤ (List.length (List.drop ((Int.toNat s6.2) * (5 : Nat)) (List.flatMap Ex.cells l)))), (List.take 5 (List.drop ((Int.toNat s6.2) * (5 : Nat)) (List.flatMap Ex.cells l))) = (Ex.cells (exAt l (Int.toNat s6.2))), ((xc (exAt l (Int.toNat s6.2))) : List AV) = (xc (exAt l (Int.toNat s6.2))), ((xc (exAt l (Int.toNat s6.2))) : List AV) = (xc (exAt l (Int.toNat s6.2))), EvFr Try.prog cf Bool.false 25 [(AV.ag (xc (exAt l (Int.toNat s6.2)))), (AV.i lba), (AV.i n)] (.tu [Ex.av (s9.1), .b (s9.2)]), ((xc s9.1) : List AV) = (xc s9.1), (s9.2) = true, ((xc s9.1) : List AV) = (xc s9.1), (((0 : Nat) = (0 : Nat)) ∧ ((List.length (xc s9.1)) = (5 : Nat))), (((List.length (List.flatMap Ex.cells s6.1)) = ((List.length s6.1) * (5 : Nat))) ∧ (((List.length s6.1) + (1 : Nat)) ≤ (4294967296 : Nat)))]) kq ⟨h7, h8, fq, (by first | exact ex_take _ _ bq | (simpa using ex_take _ _ bq) | ((try simp only [List.drop_drop]); rw [show ((Int.toNat s6.2) * (5 : Nat)) = ((Int.toNat s6.2)) * 5 by omega]; exact ex_take _ _ bq)), rfl, rfl, ((eCut_ok ((exAt l (Int.toNat s6.2))) (lba) (n) _ h9).any.cast tq), rfl, h10, rfl, tq, h11, trivial⟩ (Nat.le_of_ble_eq_true rfl) (absB_of [4] [] kq (.consn kq (.eqv tq rfl) (.consn kq (.eqv tq rfl) (.consn kq (.eqv tq rfl) (.consn kq (.eqv tq rfl) (.consn kq (.rfn (n := ((List.length s6.1) + (1 : Nat))) rfl tq) (.consn kq (.eqv tq rfl) (.consn kq (.eqv tq rfl) (.consn kq (.eqv tq rfl) (.consn kq (.eqv tq rfl) (.consn kq (.eqv tq rfl) (.consn kq (.eqv tq rfl) .nil))))))))))) (.cons (.old rfl rfl (.cells (.pl tq pq))) .nil))
theorem mRange_L0_s1 (blocks : Int) (l : List Ex) (lba : Int) (n : Int) (s0 : Bool) (s6 : List Ex × Int) (h7 : ((decide (s6.2 < (↑(List.length l) : Int)))) = true) (h7p : (s6.2 < (↑(List.length l) : Int))) (h8 : (((0 : Int) ≤ s6.2) ∧ (s6.2 < (↑(List.length l) : Int)))) (s9 : Ex × Bool) (h9 : eCut ((exAt l (Int.toNat s6.2))) (lba) (n) = some s9) (h10 : (s9.2) = false) : EvStep Try.prog cf 0 (lp Try.prog 11 0) (mRange_L0_S blocks l lba n s0 s6) (mRange_L0_S blocks l lba n s0 ((s6.1, (wr (s6.2 + (1 : Int)))))) :=
  leafS vw_eq (k := 300) (r := []) (hs := hz [(1, [.yes, .yes, .yes, .cells ((Ex.cells (exAt l (Int.toNat s6.2))))]), (2, [.cells ((xc (exAt l (Int.toNat s6.2))))]), (1, [.cells ((xc (exAt l (Int.toNat s6.2))))]), (3, [.fres (.tu [Ex.av (s9.1), .b (s9.2)])]), (5, [.cells ((xc s9.1))]), (2, [.no]), (2, [])]) (st1 := (St.mk [(0, (AV.i blocks)), (1, (AV.sl (List.length l) (List.flatMap Ex.cells l))), (2, (AV.i lba)), (3, (AV.i n)), (8, (AV.rf 0 5 0 (List.length s6.1))), (9, (AV.i 0)), (14, (AV.b (!s0))), (19, (AV.b (decide (n > (wr (blocks - lba)))))), (38, (AV.sl (List.length l) (List.flatMap Ex.cells l))), (39, (AV.i (↑(List.length l) : Int))), (40, (AV.i (wr (s6.2 + (1 : Int))))), (41, (AV.b (decide (s6.2 < (↑(List.length l) : Int))))), (42, (AV.ip (List.drop ((Int.toNat s6.2) * (5 : Nat)) (List.flatMap Ex.cells l)))), (43, (AV.ag (xc (exAt l (Int.toNat s6.2))))), (11, (AV.pt 1 0)), (45, (AV.ag (xc (exAt l (Int.toNat s6.2))))), (46, (AV.i lba)), (47, (AV.i n)), (48, (AV.tu [(AV.ag (xc s9.1)), (AV.b s9.2)])), (44, (AV.tu [(AV.ag (xc s9.1)), (AV.b s9.2)])), (49, (AV.ag (xc s9.1))), (50, (AV.b s9.2)), (12, (AV.pt 2 0)), (13, (AV.b s9.2)), (51, (AV.b s9.2)), (56, (AV.i (wr (s6.2 + (1 : Int)))))] 58 (AH.mk 3 [(2, (AObj.cells (xc s9.1))), (1, (AObj.cells (xc (exAt l (Int.toNat s6.2))))), (0, (AObj.cells (List.flatMap Ex.cells s6.1)))]) Bool.false)) (ps := [((decide (s6.2 < (↑(List.length l) : Int)))) = true, (((0 : Int) ≤ s6.2) ∧ (s6.2 < (↑(List.length l) : Int))), ((5 : Nat) ≤ (List.length (List.drop ((Int.toNat s6.2) * (5 : Nat)) (List.flatMap Ex.cells l)))), (List.take 5 (List.drop ((Int.toNat s6.2) * (5 : Nat)) (List.flatMap Ex.cells l))) = (Ex.cells (exAt l (Int.toNat s6.2))), ((xc (exAt l (Int.toNat s6.2))) : List AV) = (xc (exAt l (Int.toNat s6.2))), ((xc (exAt l (Int.toNat s6.2))) : List AV) = (xc (exAt l (Int.toNat s6.2))), EvFr Try.prog cf Bool.false 25 [(AV.ag (xc (exAt l (Int.toNat s6.2)))), (AV.i lba), (AV.i n)] (.tu [Ex.av (s9.1), .b (s9.2)]), ((xc s9.1) : List AV) = (xc s9.1), (s9.2) = false]) kq ⟨h7, h8, fq, (by first | exact ex_take _ _ bq | (simpa using ex_take _ _ bq) | ((try simp only [List.drop_drop]); rw [show ((Int.toNat s6.2) * (5 : Nat)) = ((Int.toNat s6.2)) * 5 by omega]; exact ex_take _ _ bq)), rfl, rfl, ((eCut_ok ((exAt l (Int.toNat s6.2))) (lba) (n) _ h9).any.cast tq), rfl, h10, trivial⟩ (Nat.le_of_ble_eq_true rfl) (absB_of [0] [] kq (.consn kq (.eqv tq rfl) (.consn kq (.eqv tq rfl) (.consn kq (.eqv tq rfl) (.consn kq (.eqv tq rfl) (.consn kq (.rfn (n := (List.length s6.1)) rfl tq) (.consn kq (.eqv tq rfl) (.consn kq (.eqv tq rfl) (.consn kq (.eqv tq rfl) (.consn kq (.eqv tq rfl) (.consn kq (.eqv tq rfl) (.consn kq (.eqv tq rfl) .nil))))))))))) (.cons (.old rfl rfl (.cells (.pl tq pq))) .nil))
theorem mRange_L0_ok (blocks : Int) (l : List Ex) (lba : Int) (n : Int) (s0 : Bool) (s6 zz : List Ex × Int) : mRange_L0_step blocks l lba n s0 s6 = some zz → EvStep Try.prog cf 0 (lp Try.prog 11 0) (mRange_L0_S blocks l lba n s0 s6) (mRange_L0_S blocks l lba n s0 zz) := by
  unfold mRange_L0_step
  refine tb_ok (fun h7 => ?_) (fun h7 => ?_)
  ·
    have h7p := of_decide_eq_true h7
    refine tp_ok (fun h8 => ?_)
    refine tc_ok (fun s9 h9 => ?_)
    refine tb_ok (fun h10 => ?_) (fun h10 => ?_)
    ·
      refine tp_ok (fun h11 => ?_)
      exact fun e => tl_ok (G := (fun zz => EvStep Try.prog cf 0 (lp Try.prog 11 0) (mRange_L0_S blocks l lba n s0 s6) (mRange_L0_S blocks l lba n s0 zz))) (mRange_L0_s0 blocks l lba n s0 s6 h7 h7p h8 s9 h9 h10 h11) e
    ·
      exact fun e => tl_ok (G := (fun zz => EvStep Try.prog cf 0 (lp Try.prog 11 0) (mRange_L0_S blocks l lba n s0 s6) (mRange_L0_S blocks l lba n s0 zz))) (mRange_L0_s1 blocks l lba n s0 s6 h7 h7p h8 s9 h9 h10) e
  ·
    have h7p := of_decide_eq_false h7
    exact fun e => nomatch e
/-- Function 11, as it answers. -/
noncomputable def mRange (blocks : Int) (l : List Ex) (lba : Int) (n : Int) : Option (List Ex × Int) :=
 (tc (mCheck (blocks) (l)) fun s0 =>
  (tb ((!s0))
   (some ((([] : List Ex), (80 : Int))))
   (tb ((decide (lba < (0 : Int))))
    (some ((([] : List Ex), (81 : Int))))
    (tb ((decide (lba > blocks)))
     (some ((([] : List Ex), (81 : Int))))
     (tb ((decide (n < (1 : Int))))
      (some ((([] : List Ex), (81 : Int))))
      (tb ((decide (n > (wr (blocks - lba)))))
       (some ((([] : List Ex), (81 : Int))))
       (th (mRange_L0_step blocks l lba n s0) ((([] : List Ex), (0 : Int))) fun s6 =>
        (tb ((decide (s6.2 < (↑(List.length l) : Int))))
         none /- stop behind an operation -/
         (tp ((((0 : Nat) = (0 : Nat)) ∧ ((List.length (List.flatMap Ex.cells s6.1)) = ((List.length s6.1) * (5 : Nat)))))
          (some ((s6.1, (0 : Int)))))))))))))
abbrev mRange_G (blocks : Int) (l : List Ex) (lba : Int) (n : Int) (r : List Ex × Int) : Prop := EvFr Try.prog cf false 11 [.i (blocks), exs (l), .i (lba), .i (n)] (.tu [exs (r.1), .i (r.2)])
theorem mRange_l0 (blocks : Int) (l : List Ex) (lba : Int) (n : Int) (s0 : Bool) (h0 : mCheck (blocks) (l) = some s0) (h1 : ((!s0)) = true) : mRange_G blocks l lba n ((([] : List Ex), (80 : Int))) :=
  leafR vw_eq (k := 300) (r := []) (hs := hz [(5, [.fres (.b (s0))]), (2, [.yes]), (2, [])]) (raw := (AV.tu [(AV.sl 0 ([] : List AV)), (AV.i 80)])) (ps := [EvFr Try.prog cf Bool.false 21 [(AV.i blocks), (AV.sl (List.length l) (List.flatMap Ex.cells l))] (.b (s0)), ((!s0)) = true]) kq ⟨((mCheck_ok (blocks) (l) _ h0).any.cast tq), h1, trivial⟩ tq
theorem mRange_l1 (blocks : Int) (l : List Ex) (lba : Int) (n : Int) (s0 : Bool) (h0 : mCheck (blocks) (l) = some s0) (h1 : ((!s0)) = false) (h2 : ((decide (lba < (0 : Int)))) = true) (h2p : (lba < (0 : Int))) : mRange_G blocks l lba n ((([] : List Ex), (81 : Int))) :=
  leafR vw_eq (k := 300) (r := []) (hs := hz [(5, [.fres (.b (s0))]), (2, [.no]), (3, [.yes, .yes, .yes, .yes]), (15, [])]) (raw := (AV.tu [(AV.sl 0 ([] : List AV)), (AV.i 81)])) (ps := [EvFr Try.prog cf Bool.false 21 [(AV.i blocks), (AV.sl (List.length l) (List.flatMap Ex.cells l))] (.b (s0)), ((!s0)) = false, ((decide (lba < (0 : Int)))) = true, ((decide (lba < (0 : Int)))) = true, ((decide (lba < (0 : Int)))) = true, ((decide (lba < (0 : Int)))) = true]) kq ⟨((mCheck_ok (blocks) (l) _ h0).any.cast tq), h1, h2, h2, h2, h2, trivial⟩ tq
theorem mRange_l2 (blocks : Int) (l : List Ex) (lba : Int) (n : Int) (s0 : Bool) (h0 : mCheck (blocks) (l) = some s0) (h1 : ((!s0)) = false) (h2 : ((decide (lba < (0 : Int)))) = false) (h2p : ¬ (lba < (0 : Int))) (h3 : ((decide (lba > blocks))) = true) (h3p : (lba > blocks)) : mRange_G blocks l lba n ((([] : List Ex), (81 : Int))) :=
  leafR vw_eq (k := 300) (r := []) (hs := hz [(5, [.fres (.b (s0))]), (2, [.no]), (3, [.no]), (1, [.no]), (1, [.no]), (1, [.no]), (1, [.yes, .yes, .yes]), (11, [])]) (raw := (AV.tu [(AV.sl 0 ([] : List AV)), (AV.i 81)])) (ps := [EvFr Try.prog cf Bool.false 21 [(AV.i blocks), (AV.sl (List.length l) (List.flatMap Ex.cells l))] (.b (s0)), ((!s0)) = false, ((decide (lba < (0 : Int)))) = false, ((decide (lba < (0 : Int)))) = false, ((decide (lba < (0 : Int)))) = false, ((decide (lba < (0 : Int)))) = false, ((decide (lba > blocks))) = true, ((decide (lba > blocks))) = true, ((decide (lba > blocks))) = true]) kq ⟨((mCheck_ok (blocks) (l) _ h0).any.cast tq), h1, h2, h2, h2, h2, h3, h3, h3, trivial⟩ tq
theorem mRange_l3 (blocks : Int) (l : List Ex) (lba : Int) (n : Int) (s0 : Bool) (h0 : mCheck (blocks) (l) = some s0) (h1 : ((!s0)) = false) (h2 : ((decide (lba < (0 : Int)))) = false) (h2p : ¬ (lba < (0 : Int))) (h3 : ((decide (lba > blocks))) = false) (h3p : ¬ (lba > blocks)) (h4 : ((decide (n < (1 : Int)))) = true) (h4p : (n < (1 : Int))) : mRange_G blocks l lba n ((([] : List Ex), (81 : Int))) :=
  leafR vw_eq (k := 300) (r := []) (hs := hz [(5, [.fres (.b (s0))]), (2, [.no]), (3, [.no]), (1, [.no]), (1, [.no]), (1, [.no]), (1, [.no]), (1, [.no]), (1, [.no]), (1, [.yes, .yes, .yes, .yes, .yes, .yes]), (4, [])]) (raw := (AV.tu [(AV.sl 0 ([] : List AV)), (AV.i 81)])) (ps := [EvFr Try.prog cf Bool.false 21 [(AV.i blocks), (AV.sl (List.length l) (List.flatMap Ex.cells l))] (.b (s0)), ((!s0)) = false, ((decide (lba < (0 : Int)))) = false, ((decide (lba < (0 : Int)))) = false, ((decide (lba < (0 : Int)))) = false, ((decide (lba < (0 : Int)))) = false, ((decide (lba > blocks))) = false, ((decide (lba > blocks))) = false, ((decide (lba > blocks))) = false, ((decide (n < (1 : Int)))) = true, ((decide (n < (1 : Int)))) = true, ((decide (n < (1 : Int)))) = true, ((decide (n < (1 : Int)))) = true, ((decide (n < (1 : Int)))) = true, ((decide (n < (1 : Int)))) = true]) kq ⟨((mCheck_ok (blocks) (l) _ h0).any.cast tq), h1, h2, h2, h2, h2, h3, h3, h3, h4, h4, h4, h4, h4, h4, trivial⟩ tq
theorem mRange_l4 (blocks : Int) (l : List Ex) (lba : Int) (n : Int) (s0 : Bool) (h0 : mCheck (blocks) (l) = some s0) (h1 : ((!s0)) = false) (h2 : ((decide (lba < (0 : Int)))) = false) (h2p : ¬ (lba < (0 : Int))) (h3 : ((decide (lba > blocks))) = false) (h3p : ¬ (lba > blocks)) (h4 : ((decide (n < (1 : Int)))) = false) (h4p : ¬ (n < (1 : Int))) (h5 : ((decide (n > (wr (blocks - lba))))) = true) (h5p : (n > (wr (blocks - lba)))) : mRange_G blocks l lba n ((([] : List Ex), (81 : Int))) :=
  leafR vw_eq (k := 300) (r := []) (hs := hz [(5, [.fres (.b (s0))]), (2, [.no]), (3, [.no]), (1, [.no]), (1, [.no]), (1, [.no]), (1, [.no]), (1, [.no]), (1, [.no]), (1, [.no]), (1, [.no]), (1, [.no]), (1, [.no]), (1, [.no]), (1, [.no]), (1, [.yes]), (2, [])]) (raw := (AV.tu [(AV.sl 0 ([] : List AV)), (AV.i 81)])) (ps := [EvFr Try.prog cf Bool.false 21 [(AV.i blocks), (AV.sl (List.length l) (List.flatMap Ex.cells l))] (.b (s0)), ((!s0)) = false, ((decide (lba < (0 : Int)))) = false, ((decide (lba < (0 : Int)))) = false, ((decide (lba < (0 : Int)))) = false, ((decide (lba < (0 : Int)))) = false, ((decide (lba > blocks))) = false, ((decide (lba > blocks))) = false, ((decide (lba > blocks))) = false, ((decide (n < (1 : Int)))) = false, ((decide (n < (1 : Int)))) = false, ((decide (n < (1 : Int)))) = false, ((decide (n < (1 : Int)))) = false, ((decide (n < (1 : Int)))) = false, ((decide (n < (1 : Int)))) = false, ((decide (n > (wr (blocks - lba))))) = true]) kq ⟨((mCheck_ok (blocks) (l) _ h0).any.cast tq), h1, h2, h2, h2, h2, h3, h3, h3, h4, h4, h4, h4, h4, h4, h5, trivial⟩ tq
theorem mRange_l5 (blocks : Int) (l : List Ex) (lba : Int) (n : Int) (s0 : Bool) (h0 : mCheck (blocks) (l) = some s0) (h1 : ((!s0)) = false) (h2 : ((decide (lba < (0 : Int)))) = false) (h2p : ¬ (lba < (0 : Int))) (h3 : ((decide (lba > blocks))) = false) (h3p : ¬ (lba > blocks)) (h4 : ((decide (n < (1 : Int)))) = false) (h4p : ¬ (n < (1 : Int))) (h5 : ((decide (n > (wr (blocks - lba))))) = false) (h5p : ¬ (n > (wr (blocks - lba)))) (s6 : List Ex × Int) (h6 : Runs (mRange_L0_step blocks l lba n s0) ((([] : List Ex), (0 : Int))) s6) (h7 : ((decide (s6.2 < (↑(List.length l) : Int)))) = false) (h7p : ¬ (s6.2 < (↑(List.length l) : Int))) (h8 : (((0 : Nat) = (0 : Nat)) ∧ ((List.length (List.flatMap Ex.cells s6.1)) = ((List.length s6.1) * (5 : Nat))))) : mRange_G blocks l lba n ((s6.1, (0 : Int))) :=
  leafR vw_eq (k := 300) (r := []) (hs := hz [(5, [.fres (.b (s0))]), (2, [.no]), (3, [.no]), (1, [.no]), (1, [.no]), (1, [.no]), (1, [.no]), (1, [.no]), (1, [.no]), (1, [.no]), (1, [.no]), (1, [.no]), (1, [.no]), (1, [.no]), (1, [.no]), (1, [.no]), (3, [.head (mRange_L0_S blocks l lba n s0 s6)]), (1, [.no]), (3, [.yes, .yes])]) (raw := (AV.tu [(AV.sl (List.length s6.1) (List.flatMap Ex.cells s6.1)), (AV.i 0)])) (ps := [EvFr Try.prog cf Bool.false 21 [(AV.i blocks), (AV.sl (List.length l) (List.flatMap Ex.cells l))] (.b (s0)), ((!s0)) = false, ((decide (lba < (0 : Int)))) = false, ((decide (lba < (0 : Int)))) = false, ((decide (lba < (0 : Int)))) = false, ((decide (lba < (0 : Int)))) = false, ((decide (lba > blocks))) = false, ((decide (lba > blocks))) = false, ((decide (lba > blocks))) = false, ((decide (n < (1 : Int)))) = false, ((decide (n < (1 : Int)))) = false, ((decide (n < (1 : Int)))) = false, ((decide (n < (1 : Int)))) = false, ((decide (n < (1 : Int)))) = false, ((decide (n < (1 : Int)))) = false, ((decide (n > (wr (blocks - lba))))) = false, EvHead Try.prog cf (lp Try.prog 11 0) (mRange_L0_I blocks l lba n s0) (mRange_L0_S blocks l lba n s0 s6), ((decide (s6.2 < (↑(List.length l) : Int)))) = false, (((0 : Nat) = (0 : Nat)) ∧ ((List.length (List.flatMap Ex.cells s6.1)) = ((List.length s6.1) * (5 : Nat)))), Pl Bool.false ((List.flatMap Ex.cells s6.1))]) kq ⟨((mCheck_ok (blocks) (l) _ h0).any.cast tq), h1, h2, h2, h2, h2, h3, h3, h3, h4, h4, h4, h4, h4, h4, h5, (EvHead.of (mRange_L0_ok blocks l lba n s0) (absB_of [0] [] kq (.consn kq (.eqv tq rfl) (.consn kq (.eqv tq rfl) (.consn kq (.eqv tq rfl) (.consn kq (.eqv tq rfl) (.consn kq (.nln tq) (.consn kq (.eqv tq rfl) (.consn kq (.eqv tq rfl) (.consn kq (.eqv tq rfl) (.consn kq (.eqv tq rfl) (.consn kq (.eqv tq rfl) (.consn kq (.eqv tq rfl) .nil))))))))))) (.cons (.none rfl (Nat.le_refl _) rfl) .nil)) h6), h7, h8, pq, trivial⟩ tq
theorem mRange_ok (blocks : Int) (l : List Ex) (lba : Int) (n : Int) (r : List Ex × Int) : mRange blocks l lba n = some r → mRange_G blocks l lba n r := by
  unfold mRange
  refine tc_ok (fun s0 h0 => ?_)
  refine tb_ok (fun h1 => ?_) (fun h1 => ?_)
  ·
    exact fun e => tl_ok (G := mRange_G blocks l lba n) (mRange_l0 blocks l lba n s0 h0 h1) e
  ·
    refine tb_ok (fun h2 => ?_) (fun h2 => ?_)
    ·
      have h2p := of_decide_eq_true h2
      exact fun e => tl_ok (G := mRange_G blocks l lba n) (mRange_l1 blocks l lba n s0 h0 h1 h2 h2p) e
    ·
      have h2p := of_decide_eq_false h2
      refine tb_ok (fun h3 => ?_) (fun h3 => ?_)
      ·
        have h3p := of_decide_eq_true h3
        exact fun e => tl_ok (G := mRange_G blocks l lba n) (mRange_l2 blocks l lba n s0 h0 h1 h2 h2p h3 h3p) e
      ·
        have h3p := of_decide_eq_false h3
        refine tb_ok (fun h4 => ?_) (fun h4 => ?_)
        ·
          have h4p := of_decide_eq_true h4
          exact fun e => tl_ok (G := mRange_G blocks l lba n) (mRange_l3 blocks l lba n s0 h0 h1 h2 h2p h3 h3p h4 h4p) e
        ·
          have h4p := of_decide_eq_false h4
          refine tb_ok (fun h5 => ?_) (fun h5 => ?_)
          ·
            have h5p := of_decide_eq_true h5
            exact fun e => tl_ok (G := mRange_G blocks l lba n) (mRange_l4 blocks l lba n s0 h0 h1 h2 h2p h3 h3p h4 h4p h5 h5p) e
          ·
            have h5p := of_decide_eq_false h5
            refine th_ok (fun s6 h6 => ?_)
            refine tb_ok (fun h7 => ?_) (fun h7 => ?_)
            ·
              have h7p := of_decide_eq_true h7
              exact fun e => nomatch e
            ·
              have h7p := of_decide_eq_false h7
              refine tp_ok (fun h8 => ?_)
              exact fun e => tl_ok (G := mRange_G blocks l lba n) (mRange_l5 blocks l lba n s0 h0 h1 h2 h2p h3 h3p h4 h4p h5 h5p s6 h6 h7 h7p h8) e
noncomputable abbrev mSince_L0_I (blocks : Int) (l : List Ex) (gen : Int) (s0 : Bool) (s2 : List Ex) : St := (St.mk [(0, (AV.i blocks)), (1, (AV.sl (List.length l) (List.flatMap Ex.cells l))), (2, (AV.i gen)), (6, AV.nl), (7, (AV.i 0)), (10, (AV.i blocks)), (11, (AV.sl (List.length l) (List.flatMap Ex.cells l))), (12, (AV.b s0)), (13, (AV.b (!s0))), (14, (AV.sl (List.length l) (List.flatMap Ex.cells l))), (15, (AV.sl (List.length s2) (List.flatMap Ex.cells s2))), (16, (AV.i (↑(List.length s2) : Int))), (17, (AV.i 0))] 31 (AH.mk 0 ([] : List (Prod Nat AObj))) Bool.false)
noncomputable abbrev mSince_L0_S (blocks : Int) (l : List Ex) (gen : Int) (s0 : Bool) (s2 : List Ex) (s3 : List Ex × Int) : St := (St.mk [(0, (AV.i blocks)), (1, (AV.sl (List.length l) (List.flatMap Ex.cells l))), (2, (AV.i gen)), (6, (AV.rf 0 5 0 (List.length s3.1))), (7, (AV.i 0)), (13, (AV.b (!s0))), (15, (AV.sl (List.length s2) (List.flatMap Ex.cells s2))), (16, (AV.i (↑(List.length s2) : Int))), (17, (AV.i s3.2))] 31 (AH.mk 1 [(0, (AObj.cells (List.flatMap Ex.cells s3.1)))]) Bool.false)
noncomputable def mSince_L0_step (blocks : Int) (l : List Ex) (gen : Int) (s0 : Bool) (s2 : List Ex) (s3 : List Ex × Int) : Option (List Ex × Int) :=
 (tb ((decide (s3.2 < (↑(List.length s2) : Int))))
  (tp ((((0 : Int) ≤ s3.2) ∧ (s3.2 < (↑(List.length s2) : Int))))
   (tb ((decide ((exAt s2 (Int.toNat s3.2)).gen > gen)))
    (tp ((((List.length (List.flatMap Ex.cells s3.1)) = ((List.length s3.1) * (5 : Nat))) ∧ (((List.length s3.1) + (1 : Nat)) ≤ (4294967296 : Nat))))
     (some (((s3.1 ++ [(exAt s2 (Int.toNat s3.2))]), (wr (s3.2 + (1 : Int)))))))
    (some ((s3.1, (wr (s3.2 + (1 : Int))))))))
  none /- exit -/)
theorem mSince_L0_s0 (blocks : Int) (l : List Ex) (gen : Int) (s0 : Bool) (s2 : List Ex) (s3 : List Ex × Int) (h4 : ((decide (s3.2 < (↑(List.length s2) : Int)))) = true) (h4p : (s3.2 < (↑(List.length s2) : Int))) (h5 : (((0 : Int) ≤ s3.2) ∧ (s3.2 < (↑(List.length s2) : Int)))) (h6 : ((decide ((exAt s2 (Int.toNat s3.2)).gen > gen))) = true) (h6p : ((exAt s2 (Int.toNat s3.2)).gen > gen)) (h7 : (((List.length (List.flatMap Ex.cells s3.1)) = ((List.length s3.1) * (5 : Nat))) ∧ (((List.length s3.1) + (1 : Nat)) ≤ (4294967296 : Nat)))) : EvStep Try.prog cf 0 (lp Try.prog 13 0) (mSince_L0_S blocks l gen s0 s2 s3) (mSince_L0_S blocks l gen s0 s2 (((s3.1 ++ [(exAt s2 (Int.toNat s3.2))]), (wr (s3.2 + (1 : Int)))))) :=
  leafS vw_eq (k := 300) (r := []) (hs := hz [(1, [.yes, .yes, .yes, .cells ((Ex.cells (exAt s2 (Int.toNat s3.2))))]), (2, [.cells ((xc (exAt s2 (Int.toNat s3.2))))]), (5, [.yes]), (2, [.cells ((xc (exAt s2 (Int.toNat s3.2))))]), (1, [.yes, .yes]), (3, [])]) (st1 := (St.mk [(0, (AV.i blocks)), (1, (AV.sl (List.length l) (List.flatMap Ex.cells l))), (2, (AV.i gen)), (6, (AV.rf 3 5 0 ((List.length s3.1) + (1 : Nat)))), (7, (AV.i 0)), (13, (AV.b (!s0))), (15, (AV.sl (List.length s2) (List.flatMap Ex.cells s2))), (16, (AV.i (↑(List.length s2) : Int))), (17, (AV.i (wr (s3.2 + (1 : Int))))), (18, (AV.b (decide (s3.2 < (↑(List.length s2) : Int))))), (19, (AV.ip (List.drop ((Int.toNat s3.2) * (5 : Nat)) (List.flatMap Ex.cells s2)))), (20, (AV.ag (xc (exAt s2 (Int.toNat s3.2))))), (9, (AV.pt 1 0)), (21, (AV.pt 1 3)), (22, (AV.i (exAt s2 (Int.toNat s3.2)).gen)), (23, (AV.i gen)), (24, (AV.b (decide ((exAt s2 (Int.toNat s3.2)).gen > gen)))), (25, (AV.rf 0 5 0 (List.length s3.1))), (26, (AV.ag (xc (exAt s2 (Int.toNat s3.2))))), (27, (AV.rf 2 5 0 1)), (28, (AV.rf 3 5 0 ((List.length s3.1) + (1 : Nat)))), (29, (AV.i (wr (s3.2 + (1 : Int)))))] 31 (AH.mk 4 [(3, (AObj.cells ((List.flatMap Ex.cells s3.1) ++ (xc (exAt s2 (Int.toNat s3.2)))))), (2, (AObj.cells (xc (exAt s2 (Int.toNat s3.2))))), (1, (AObj.cells (xc (exAt s2 (Int.toNat s3.2))))), (0, AObj.dead)]) Bool.false)) (ps := [((decide (s3.2 < (↑(List.length s2) : Int)))) = true, (((0 : Int) ≤ s3.2) ∧ (s3.2 < (↑(List.length s2) : Int))), ((5 : Nat) ≤ (List.length (List.drop ((Int.toNat s3.2) * (5 : Nat)) (List.flatMap Ex.cells s2)))), (List.take 5 (List.drop ((Int.toNat s3.2) * (5 : Nat)) (List.flatMap Ex.cells s2))) = (Ex.cells (exAt s2 (Int.toNat s3.2))), ((xc (exAt s2 (Int.toNat s3.2))) : List AV) = (xc (exAt s2 (Int.toNat s3.2))), ((decide ((exAt s2 (Int.toNat s3.2)).gen > gen))) = true, ((xc (exAt s2 (Int.toNat s3.2))) : List AV) = (xc (exAt s2 (Int.toNat s3.2))), (((0 : Nat) = (0 : Nat)) ∧ ((List.length (xc (exAt s2 (Int.toNat s3.2)))) = (5 : Nat))), (((List.length (List.flatMap Ex.cells s3.1)) = ((List.length s3.1) * (5 : Nat))) ∧ (((List.length s3.1) + (1 : Nat)) ≤ (4294967296 : Nat)))]) kq ⟨h4, h5, fq, (by first | exact ex_take _ _ bq | (simpa using ex_take _ _ bq) | ((try simp only [List.drop_drop]); rw [show ((Int.toNat s3.2) * (5 : Nat)) = ((Int.toNat s3.2)) * 5 by omega]; exact ex_take _ _ bq)), rfl, h6, rfl, tq, h7, trivial⟩ (Nat.le_of_ble_eq_true rfl) (absB_of [3] [] kq (.consn kq (.eqv tq rfl) (.consn kq (.eqv tq rfl) (.consn kq (.eqv tq rfl) (.consn kq (.rfn (n := ((List.length s3.1) + (1 : Nat))) rfl tq) (.consn kq (.eqv tq rfl) (.consn kq (.eqv tq rfl) (.consn kq (.eqv tq rfl) (.consn kq (.eqv tq rfl) (.consn kq (.eqv tq rfl) .nil))))))))) (.cons (.old rfl rfl (.cells (.pl tq pq))) .nil))
theorem mSince_L0_s1 (blocks : Int) (l : List Ex) (gen : Int) (s0 : Bool) (s2 : List Ex) (s3 : List Ex × Int) (h4 : ((decide (s3.2 < (↑(List.length s2) : Int)))) = true) (h4p : (s3.2 < (↑(List.length s2) : Int))) (h5 : (((0 : Int) ≤ s3.2) ∧ (s3.2 < (↑(List.length s2) : Int)))) (h6 : ((decide ((exAt s2 (Int.toNat s3.2)).gen > gen))) = false) (h6p : ¬ ((exAt s2 (Int.toNat s3.2)).gen > gen)) : EvStep Try.prog cf 0 (lp Try.prog 13 0) (mSince_L0_S blocks l gen s0 s2 s3) (mSince_L0_S blocks l gen s0 s2 ((s3.1, (wr (s3.2 + (1 : Int)))))) :=
  leafS vw_eq (k := 300) (r := []) (hs := hz [(1, [.yes, .yes, .yes, .cells ((Ex.cells (exAt s2 (Int.toNat s3.2))))]), (2, [.cells ((xc (exAt s2 (Int.toNat s3.2))))]), (5, [.no]), (2, [])]) (st1 := (St.mk [(0, (AV.i blocks)), (1, (AV.sl (List.length l) (List.flatMap Ex.cells l))), (2, (AV.i gen)), (6, (AV.rf 0 5 0 (List.length s3.1))), (7, (AV.i 0)), (13, (AV.b (!s0))), (15, (AV.sl (List.length s2) (List.flatMap Ex.cells s2))), (16, (AV.i (↑(List.length s2) : Int))), (17, (AV.i (wr (s3.2 + (1 : Int))))), (18, (AV.b (decide (s3.2 < (↑(List.length s2) : Int))))), (19, (AV.ip (List.drop ((Int.toNat s3.2) * (5 : Nat)) (List.flatMap Ex.cells s2)))), (20, (AV.ag (xc (exAt s2 (Int.toNat s3.2))))), (9, (AV.pt 1 0)), (21, (AV.pt 1 3)), (22, (AV.i (exAt s2 (Int.toNat s3.2)).gen)), (23, (AV.i gen)), (24, (AV.b (decide ((exAt s2 (Int.toNat s3.2)).gen > gen)))), (29, (AV.i (wr (s3.2 + (1 : Int)))))] 31 (AH.mk 2 [(1, (AObj.cells (xc (exAt s2 (Int.toNat s3.2))))), (0, (AObj.cells (List.flatMap Ex.cells s3.1)))]) Bool.false)) (ps := [((decide (s3.2 < (↑(List.length s2) : Int)))) = true, (((0 : Int) ≤ s3.2) ∧ (s3.2 < (↑(List.length s2) : Int))), ((5 : Nat) ≤ (List.length (List.drop ((Int.toNat s3.2) * (5 : Nat)) (List.flatMap Ex.cells s2)))), (List.take 5 (List.drop ((Int.toNat s3.2) * (5 : Nat)) (List.flatMap Ex.cells s2))) = (Ex.cells (exAt s2 (Int.toNat s3.2))), ((xc (exAt s2 (Int.toNat s3.2))) : List AV) = (xc (exAt s2 (Int.toNat s3.2))), ((decide ((exAt s2 (Int.toNat s3.2)).gen > gen))) = false]) kq ⟨h4, h5, fq, (by first | exact ex_take _ _ bq | (simpa using ex_take _ _ bq) | ((try simp only [List.drop_drop]); rw [show ((Int.toNat s3.2) * (5 : Nat)) = ((Int.toNat s3.2)) * 5 by omega]; exact ex_take _ _ bq)), rfl, h6, trivial⟩ (Nat.le_of_ble_eq_true rfl) (absB_of [0] [] kq (.consn kq (.eqv tq rfl) (.consn kq (.eqv tq rfl) (.consn kq (.eqv tq rfl) (.consn kq (.rfn (n := (List.length s3.1)) rfl tq) (.consn kq (.eqv tq rfl) (.consn kq (.eqv tq rfl) (.consn kq (.eqv tq rfl) (.consn kq (.eqv tq rfl) (.consn kq (.eqv tq rfl) .nil))))))))) (.cons (.old rfl rfl (.cells (.pl tq pq))) .nil))
theorem mSince_L0_ok (blocks : Int) (l : List Ex) (gen : Int) (s0 : Bool) (s2 : List Ex) (s3 zz : List Ex × Int) : mSince_L0_step blocks l gen s0 s2 s3 = some zz → EvStep Try.prog cf 0 (lp Try.prog 13 0) (mSince_L0_S blocks l gen s0 s2 s3) (mSince_L0_S blocks l gen s0 s2 zz) := by
  unfold mSince_L0_step
  refine tb_ok (fun h4 => ?_) (fun h4 => ?_)
  ·
    have h4p := of_decide_eq_true h4
    refine tp_ok (fun h5 => ?_)
    refine tb_ok (fun h6 => ?_) (fun h6 => ?_)
    ·
      have h6p := of_decide_eq_true h6
      refine tp_ok (fun h7 => ?_)
      exact fun e => tl_ok (G := (fun zz => EvStep Try.prog cf 0 (lp Try.prog 13 0) (mSince_L0_S blocks l gen s0 s2 s3) (mSince_L0_S blocks l gen s0 s2 zz))) (mSince_L0_s0 blocks l gen s0 s2 s3 h4 h4p h5 h6 h6p h7) e
    ·
      have h6p := of_decide_eq_false h6
      exact fun e => tl_ok (G := (fun zz => EvStep Try.prog cf 0 (lp Try.prog 13 0) (mSince_L0_S blocks l gen s0 s2 s3) (mSince_L0_S blocks l gen s0 s2 zz))) (mSince_L0_s1 blocks l gen s0 s2 s3 h4 h4p h5 h6 h6p) e
  ·
    have h4p := of_decide_eq_false h4
    exact fun e => nomatch e
/-- Function 13, as it answers. -/
noncomputable def mSince (blocks : Int) (l : List Ex) (gen : Int) : Option (List Ex × Int) :=
 (tc (mCheck (blocks) (l)) fun s0 =>
  (tb ((!s0))
   (some ((([] : List Ex), (80 : Int))))
   (tc (mOwn (l)) fun s2 =>
    (th (mSince_L0_step blocks l gen s0 s2) ((([] : List Ex), (0 : Int))) fun s3 =>
     (tb ((decide (s3.2 < (↑(List.length s2) : Int))))
      none /- stop behind an operation -/
      (tp ((((0 : Nat) = (0 : Nat)) ∧ ((List.length (List.flatMap Ex.cells s3.1)) = ((List.length s3.1) * (5 : Nat)))))
       (some ((s3.1, (0 : Int))))))))))
abbrev mSince_G (blocks : Int) (l : List Ex) (gen : Int) (r : List Ex × Int) : Prop := EvFr Try.prog cf false 13 [.i (blocks), exs (l), .i (gen)] (.tu [exs (r.1), .i (r.2)])
theorem mSince_l0 (blocks : Int) (l : List Ex) (gen : Int) (s0 : Bool) (h0 : mCheck (blocks) (l) = some s0) (h1 : ((!s0)) = true) : mSince_G blocks l gen ((([] : List Ex), (80 : Int))) :=
  leafR vw_eq (k := 300) (r := []) (hs := hz [(5, [.fres (.b (s0))]), (1, [.yes]), (2, [])]) (raw := (AV.tu [(AV.sl 0 ([] : List AV)), (AV.i 80)])) (ps := [EvFr Try.prog cf Bool.false 21 [(AV.i blocks), (AV.sl (List.length l) (List.flatMap Ex.cells l))] (.b (s0)), ((!s0)) = true]) kq ⟨((mCheck_ok (blocks) (l) _ h0).any.cast tq), h1, trivial⟩ tq
theorem mSince_l1 (blocks : Int) (l : List Ex) (gen : Int) (s0 : Bool) (h0 : mCheck (blocks) (l) = some s0) (h1 : ((!s0)) = false) (s2 : List Ex) (h2 : mOwn (l) = some s2) (s3 : List Ex × Int) (h3 : Runs (mSince_L0_step blocks l gen s0 s2) ((([] : List Ex), (0 : Int))) s3) (h4 : ((decide (s3.2 < (↑(List.length s2) : Int)))) = false) (h4p : ¬ (s3.2 < (↑(List.length s2) : Int))) (h5 : (((0 : Nat) = (0 : Nat)) ∧ ((List.length (List.flatMap Ex.cells s3.1)) = ((List.length s3.1) * (5 : Nat))))) : mSince_G blocks l gen ((s3.1, (0 : Int))) :=
  leafR vw_eq (k := 300) (r := []) (hs := hz [(5, [.fres (.b (s0))]), (1, [.no]), (2, [.fres (exs (s2))]), (2, [.head (mSince_L0_S blocks l gen s0 s2 s3)]), (1, [.no]), (3, [.yes, .yes])]) (raw := (AV.tu [(AV.sl (List.length s3.1) (List.flatMap Ex.cells s3.1)), (AV.i 0)])) (ps := [EvFr Try.prog cf Bool.false 21 [(AV.i blocks), (AV.sl (List.length l) (List.flatMap Ex.cells l))] (.b (s0)), ((!s0)) = false, EvFr Try.prog cf Bool.false 28 [(AV.sl (List.length l) (List.flatMap Ex.cells l))] (exs (s2)), EvHead Try.prog cf (lp Try.prog 13 0) (mSince_L0_I blocks l gen s0 s2) (mSince_L0_S blocks l gen s0 s2 s3), ((decide (s3.2 < (↑(List.length s2) : Int)))) = false, (((0 : Nat) = (0 : Nat)) ∧ ((List.length (List.flatMap Ex.cells s3.1)) = ((List.length s3.1) * (5 : Nat)))), Pl Bool.false ((List.flatMap Ex.cells s3.1))]) kq ⟨((mCheck_ok (blocks) (l) _ h0).any.cast tq), h1, ((mOwn_ok (l) _ h2).cast tq), (EvHead.of (mSince_L0_ok blocks l gen s0 s2) (absB_of [0] [] kq (.consn kq (.eqv tq rfl) (.consn kq (.eqv tq rfl) (.consn kq (.eqv tq rfl) (.consn kq (.nln tq) (.consn kq (.eqv tq rfl) (.consn kq (.eqv tq rfl) (.consn kq (.eqv tq rfl) (.consn kq (.eqv tq rfl) (.consn kq (.eqv tq rfl) .nil))))))))) (.cons (.none rfl (Nat.le_refl _) rfl) .nil)) h3), h4, h5, pq, trivial⟩ tq
theorem mSince_ok (blocks : Int) (l : List Ex) (gen : Int) (r : List Ex × Int) : mSince blocks l gen = some r → mSince_G blocks l gen r := by
  unfold mSince
  refine tc_ok (fun s0 h0 => ?_)
  refine tb_ok (fun h1 => ?_) (fun h1 => ?_)
  ·
    exact fun e => tl_ok (G := mSince_G blocks l gen) (mSince_l0 blocks l gen s0 h0 h1) e
  ·
    refine tc_ok (fun s2 h2 => ?_)
    refine th_ok (fun s3 h3 => ?_)
    refine tb_ok (fun h4 => ?_) (fun h4 => ?_)
    ·
      have h4p := of_decide_eq_true h4
      exact fun e => nomatch e
    ·
      have h4p := of_decide_eq_false h4
      refine tp_ok (fun h5 => ?_)
      exact fun e => tl_ok (G := mSince_G blocks l gen) (mSince_l1 blocks l gen s0 h0 h1 s2 h2 s3 h3 h4 h4p h5) e
end Ab
end Go.Proofs.Ytphnpgdamacfmaa
