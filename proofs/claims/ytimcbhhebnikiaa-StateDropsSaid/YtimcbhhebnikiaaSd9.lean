/- The law 'StateDrops': it returns true, and nothing that was there changes. No condition. (Part 9 of 12.) -/
import Derived.Test.YtimcbhhebnikiaaSd8
import Derived.Test.YtimcbhhebnikiaaRows
namespace Go.Proofs.Ytimcbhhebnikiaa
open Go Go.Proofs.Ytimcbhhebnikiaa.Ab
set_option linter.unusedVariables false
set_option linter.unusedSimpArgs false
set_option maxRecDepth 1000000
set_option maxHeartbeats 0
namespace Ab
/-- Function 110, as it answers. -/
noncomputable def eJoin (a : Ex) (b : Ex) : Option (Ex × Int) :=
 (tc (eJoins (a) (b)) fun s0 =>
  (tb ((!s0))
   (some (((Ex.mk 0 0 0 0 ([] : List UInt8)), (70 : Int))))
   (tp ((a.d.length ≤ (4294967296 : Nat)))
    (tp ((((List.length (List.map AV.y a.d)) = (a.d.length * 1)) ∧ ((a.d.length + b.d.length) ≤ (4294967296 : Nat))))
     (some (((Ex.mk a.lba (wr (a.len + b.len)) a.kind a.gen (a.d ++ b.d)), (0 : Int))))))))
abbrev eJoin_G (a : Ex) (b : Ex) (r : Ex × Int) : Prop := EvFr Try.prog cf true 110 [Ex.av (a), Ex.av (b)] (.tu [Ex.av (r.1), .i (r.2)])
theorem eJoin_ok (a : Ex) (b : Ex) (r : Ex × Int) : eJoin a b = some r → eJoin_G a b r := by
  unfold eJoin
  refine tc_ok (fun s0 h0 => ?_)
  refine tb_ok (fun h1 => ?_) (fun h1 => ?_)
  ·
    intro e; injection e with e; subst e
    exact leafR vw_eq (k := 300) (r := []) (hs := hz [(5, [.fc]), (1, [.fc]), (1, [.fres (.b (s0))]), (1, [.yes]), (2, [.fc]), (2, [.fc])]) (raw := (AV.tu [(AV.ag [(AV.i 0), (AV.i 0), (AV.i 0), (AV.i 0), (AV.sl 0 ([] : List AV))]), (AV.i 70)])) kq (ac (eJoins_ok (a) (b) _ h0).any0 (ac h1 an)) tq
  ·
    refine tp_ok (fun h2 => ?_)
    refine tp_ok (fun h3 => ?_)
    intro e; injection e with e; subst e
    exact leafR vw_eq (k := 300) (r := []) (hs := hz [(5, [.fc]), (1, [.fc]), (1, [.fres (.b (s0))]), (1, [.no]), (9, [.fc]), (4, [.yes, .yes]), (3, [.yes, .yes]), (2, [.fc, .yes]), (1, [.fc]), (1, [.fc]), (2, [.fc, .yes, .yes])]) (raw := (AV.tu [(AV.ag [(AV.i a.lba), (AV.i (wr (a.len + b.len))), (AV.i a.kind), (AV.i a.gen), (AV.sl (a.d.length + b.d.length) ((List.map AV.y a.d) ++ (List.map AV.y b.d)))]), (AV.i 0)])) kq (ac (eJoins_ok (a) (b) _ h0).any0 (ac h1 (ac (tq (p := ((List.length (List.map AV.y a.d)) = (a.d.length * 1)))) (ac h2 (ac (tq (p := ((List.length (List.map AV.y b.d)) = (b.d.length * 1)))) (ac h3 (ac (show orderOk (rg Try.prog 110 0) = true ∧ allOk (Region.before (rg Try.prog 110 0)) [] 0 [(some [], some []), (some [0], some []), (some [], some [3]), (some [], some []), (some [1], some []), (some [3], some [3, 4]), (some [], some []), (some [0], some [0])] = true from (ord_of ord_110_0 bef_110_0 kq)) (ac (tq (p := (((0 : Nat) = (0 : Nat)) ∧ ((List.length ((List.map AV.y a.d) ++ (List.map AV.y b.d))) = ((a.d.length + b.d.length) * 1))))) (ac (pq (p := Pl Bool.true (((List.map AV.y a.d) ++ (List.map AV.y b.d))))) an))))))))) tq
noncomputable abbrev mOwn_L0_I (l : List Ex) : St := (St.mk [(0, (exs l)), (2, AV.nl), (5, (exs l)), (6, (AV.i (l.length : Int))), (7, (AV.i 0))] 21 (AH.mk 0 ([] : List (Prod Nat AObj))) Bool.false)
noncomputable abbrev mOwn_L0_S (l : List Ex) (s0 : List Ex × Int) : St := (St.mk [(0, (exs l)), (2, (AV.rf 0 5 0 s0.1.length)), (5, (exs l)), (6, (AV.i (l.length : Int))), (7, (AV.i s0.2))] 21 (AH.mk 1 [(0, (AObj.cells (List.flatMap Ex.cells s0.1)))]) Bool.false)
noncomputable def mOwn_L0_step (l : List Ex) (s0 : List Ex × Int) : Option (List Ex × Int) :=
 (tb ((decide (s0.2 < (l.length : Int))))
  (tp ((((0 : Int) ≤ s0.2) ∧ (s0.2 < (l.length : Int))))
   (tp (((List.length (exAt l s0.2.toNat).d) ≤ (4294967296 : Nat)))
    (tp ((((List.length (List.flatMap Ex.cells s0.1)) = (s0.1.length * 5)) ∧ ((s0.1.length + (1 : Nat)) ≤ (4294967296 : Nat))))
     (some (((s0.1 ++ [(exAt l s0.2.toNat)]), (wr (s0.2 + (1 : Int)))))))))
  none /- exit -/)
theorem mOwn_L0_ok (l : List Ex) (s0 zz : List Ex × Int) : mOwn_L0_step l s0 = some zz → EvStep Try.prog cf 0 (lp Try.prog 59 0) (mOwn_L0_S l s0) (mOwn_L0_S l zz) := by
  unfold mOwn_L0_step
  refine tb_ok (fun h1 => ?_) (fun h1 => ?_)
  ·
    have h1p := of_decide_eq_true h1
    refine tp_ok (fun h2 => ?_)
    refine tp_ok (fun h3 => ?_)
    refine tp_ok (fun h4 => ?_)
    intro e; injection e with e; subst e
    exact leafS vw_eq (k := 300) (r := []) (hs := hz [(1, [.yes, .yes, .yes, .cells ((Ex.cells (exAt l s0.2.toNat)))]), (2, [.fc]), (3, [.yes, .yes]), (2, [.fc]), (2, [.fc]), (1, [.fc, .fc, .yes, .yes]), (3, [])]) (ks := [0, 2, 5, 6, 7]) (st1 := (St.mk [(0, (exs l)), (2, (AV.rf 4 5 0 (s0.1.length + (1 : Nat)))), (5, (exs l)), (6, (AV.i (l.length : Int))), (7, (AV.i (wr (s0.2 + (1 : Int)))))] 21 (AH.mk 5 [(4, (AObj.cells ((List.flatMap Ex.cells s0.1) ++ [(AV.i (exAt l s0.2.toNat).lba), (AV.i (exAt l s0.2.toNat).len), (AV.i (exAt l s0.2.toNat).kind), (AV.i (exAt l s0.2.toNat).gen), (AV.rf 2 1 0 (List.length (exAt l s0.2.toNat).d))]))), (3, (AObj.cells [(AV.i (exAt l s0.2.toNat).lba), (AV.i (exAt l s0.2.toNat).len), (AV.i (exAt l s0.2.toNat).kind), (AV.i (exAt l s0.2.toNat).gen), (AV.rf 2 1 0 (List.length (exAt l s0.2.toNat).d))])), (2, (AObj.cells (List.map AV.y (exAt l s0.2.toNat).d))), (1, (AObj.cells [(AV.i (exAt l s0.2.toNat).lba), (AV.i (exAt l s0.2.toNat).len), (AV.i (exAt l s0.2.toNat).kind), (AV.i (exAt l s0.2.toNat).gen), (AV.rf 2 1 0 (List.length (exAt l s0.2.toNat).d))])), (0, AObj.dead)]) Bool.false)) kq (ac h1 (ac h2 (ac (fq (p := ((5 : Nat) ≤ (List.length (List.drop (s0.2.toNat * 5) (List.flatMap Ex.cells l)))))) (ac (show (List.take 5 (List.drop (s0.2.toNat * 5) (List.flatMap Ex.cells l))) = (Ex.cells (exAt l s0.2.toNat)) from (ex_takeO bq bq)) (ac (tq (p := ((List.length (List.map AV.y (exAt l s0.2.toNat).d)) = ((List.length (exAt l s0.2.toNat).d) * 1)))) (ac h3 (ac (tq (p := (((0 : Nat) = (0 : Nat)) ∧ ((List.length [(AV.i (exAt l s0.2.toNat).lba), (AV.i (exAt l s0.2.toNat).len), (AV.i (exAt l s0.2.toNat).kind), (AV.i (exAt l s0.2.toNat).gen), (AV.rf 2 1 0 (List.length (exAt l s0.2.toNat).d))]) = (5 : Nat))))) (ac h4 an)))))))) (Nat.le_of_ble_eq_true rfl) (Nat.le_of_ble_eq_true rfl) (absB_of [4] [2] kq (.consn kq (.eqv tq rfl) (.consn kq (.rfn (n := (s0.1.length + (1 : Nat))) rfl tq) (.consn kq (.eqv tq rfl) (.consn kq (.eqv tq rfl) (.consn kq (.eqv tq rfl) .nil))))) (.cons (.old rfl rfl (.cells (.cast rfl tq (.app (.pl rfl pq) (.cons (.eqv rfl rfl) (.cons (.eqv rfl rfl) (.cons (.eqv rfl rfl) (.cons (.eqv rfl rfl) (.cons (.frzn rfl tq pq (by simp) tq) .nil))))))))) .nil))
  ·
    have h1p := of_decide_eq_false h1
    exact fun e => nomatch e
/-- Function 59, as it answers. -/
noncomputable def mOwn (l : List Ex) : Option (List Ex) :=
 (th (mOwn_L0_step l) ((([] : List Ex), (0 : Int))) fun s0 =>
  (tb ((decide (s0.2 < (l.length : Int))))
   none /- stop behind an operation -/
   (tp ((((0 : Nat) = (0 : Nat)) ∧ ((List.length (List.flatMap Ex.cells s0.1)) = (s0.1.length * 5))))
    (some (s0.1)))))
abbrev mOwn_G (l : List Ex) (r : List Ex) : Prop := EvFr Try.prog cf false 59 [exs (l)] (exs (r))
theorem mOwn_ok (l : List Ex) (r : List Ex) : mOwn l = some r → mOwn_G l r := by
  unfold mOwn
  refine th_ok (fun s0 h0 => ?_)
  refine tb_ok (fun h1 => ?_) (fun h1 => ?_)
  ·
    have h1p := of_decide_eq_true h1
    exact fun e => nomatch e
  ·
    have h1p := of_decide_eq_false h1
    refine tp_ok (fun h2 => ?_)
    intro e; injection e with e; subst e
    exact leafR vw_eq (k := 300) (r := []) (hs := hz [(4, [.head (mOwn_L0_S l s0)]), (1, [.no]), (2, [.yes, .yes])]) (raw := (exs s0.1)) kq (ac (show EvHead Try.prog cf (lp Try.prog 59 0) (mOwn_L0_I l) (mOwn_L0_S l s0) from (EvHead.of (mOwn_L0_ok l) (absB_of [0] [] kq (.consn kq (.eqv tq rfl) (.consn kq (.nln tq) (.consn kq (.eqv tq rfl) (.consn kq (.eqv tq rfl) (.consn kq (.eqv tq rfl) .nil))))) (.cons (.none rfl (Nat.le_refl _) rfl) .nil)) h0)) (ac h1 (ac h2 (ac (pq (p := Pl Bool.false ((List.flatMap Ex.cells s0.1)))) an)))) tq
noncomputable abbrev mPut_B1_I (blocks : Int) (l : List Ex) (x : Ex) (s0 : Bool) (s2 : Bool) (s5 : Bool × Int × List Ex) (s8 : Ex × Bool) : St := (St.mk [(0, (AV.i blocks)), (1, (exs l)), (2, (AV.ag (xc x))), (5, (AV.pt 0 0)), (6, (AV.pt 1 0)), (7, (AV.i 0)), (12, (AV.b (!s0))), (17, (AV.b (decide ((wr (x.lba + x.len)) > blocks)))), (34, (AV.fn (111 : Nat) [(AV.pt 3 0), (AV.pt 2 0)])), (35, (AV.ag (xc s8.1))), (8, (AV.pt 8 0))] 63 (AH.mk 9 [(8, (AObj.cells (xc s8.1))), (7, (AObj.cells (xc s8.1))), (6, (AObj.cells (xc (exAt l s5.2.1.toNat)))), (4, (AObj.loop Go.LoopState.busy Option.none [(0, (AV.i blocks)), (1, (exs l)), (2, (AV.ag (xc x))), (5, (AV.pt 0 0)), (6, (AV.pt 1 0)), (7, (AV.i 0)), (12, (AV.b (!s0))), (17, (AV.b (decide ((wr (x.lba + x.len)) > blocks)))), (34, (AV.fn (111 : Nat) [(AV.pt 3 0), (AV.pt 2 0)]))] 63 [(35 : Nat)] (rfA Try.prog 108 0) (rfB Try.prog 108 0))), (3, (AObj.cells (xc x))), (2, (AObj.cells [(exs l)])), (1, (AObj.cells [(AV.rf 5 5 0 s5.2.2.length)])), (0, (AObj.cells (xc x))), (5, (AObj.cells (List.flatMap Ex.cells s5.2.2)))]) Bool.true)
noncomputable abbrev mPut_B1_S (blocks : Int) (l : List Ex) (x : Ex) (s0 : Bool) (s2 : Bool) (s5 : Bool × Int × List Ex) (s8 : Ex × Bool) (s10 : List Ex × List Ex) : St := (St.mk [(0, (AV.i blocks)), (1, (exs l)), (2, (AV.ag (xc x))), (5, (AV.pt 0 0)), (6, (AV.pt 1 0)), (7, (AV.i 0)), (12, (AV.b (!s0))), (17, (AV.b (decide ((wr (x.lba + x.len)) > blocks)))), (34, (AV.fn (111 : Nat) [(AV.pt 3 0), (AV.pt 2 0)])), (35, (AV.ag (xc s8.1))), (8, (AV.pt 8 0))] 63 (AH.mk 10 [(8, (AObj.cells (xc s8.1))), (7, (AObj.cells (xc s8.1))), (6, (AObj.cells (xc (exAt l s5.2.1.toNat)))), (4, (AObj.loop Go.LoopState.busy Option.none [(0, (AV.i blocks)), (1, (exs l)), (2, (AV.ag (xc x))), (5, (AV.pt 0 0)), (6, (AV.pt 1 0)), (7, (AV.i 0)), (12, (AV.b (!s0))), (17, (AV.b (decide ((wr (x.lba + x.len)) > blocks)))), (34, (AV.fn (111 : Nat) [(AV.pt 3 0), (AV.pt 2 0)]))] 63 [(35 : Nat)] (rfA Try.prog 108 0) (rfB Try.prog 108 0))), (3, (AObj.cells (xc x))), (2, (AObj.cells [(exs l)])), (1, (AObj.cells [(AV.rf 9 5 0 s10.2.length)])), (0, (AObj.cells (xc x))), (9, (AObj.cells (List.flatMap Ex.cells s10.2)))]) Bool.true)
noncomputable def mPut_B1 (blocks : Int) (l : List Ex) (x : Ex) (s0 : Bool) (s2 : Bool) (s5 : Bool × Int × List Ex) (s8 : Ex × Bool) : Option (List Ex × List Ex) :=
 (tb ((decide ((s5.2.2.length : Int) > (0 : Int))))
  (tp ((((0 : Int) ≤ (wr ((s5.2.2.length : Int) - (1 : Int)))) ∧ ((wr ((s5.2.2.length : Int) - (1 : Int))) < (s5.2.2.length : Int))))
   (tc (eJoin ((exAt s5.2.2 (Int.toNat (wr ((s5.2.2.length : Int) - (1 : Int)))))) (s8.1)) fun s13 =>
    (tb ((s13.2 == (0 : Int)))
     (tp ((((List.length (xc s13.1)) = (5 : Nat)) ∧ ((((0 : Nat) + ((Int.toNat (wr ((s5.2.2.length : Int) - (1 : Int)))) * 5)) + (List.length (xc s13.1))) ≤ (List.length (List.flatMap Ex.cells s5.2.2)))))
      (some ((([] : List Ex), (List.set s5.2.2 (Int.toNat (wr ((s5.2.2.length : Int) - (1 : Int)))) s13.1)))))
     (tp ((((List.length (List.flatMap Ex.cells s5.2.2)) = (s5.2.2.length * 5)) ∧ ((s5.2.2.length + (1 : Nat)) ≤ (4294967296 : Nat))))
      (some ((([] : List Ex), (s5.2.2 ++ [s8.1]))))))))
  (tp ((((List.length (List.flatMap Ex.cells s5.2.2)) = (s5.2.2.length * 5)) ∧ ((s5.2.2.length + (1 : Nat)) ≤ (4294967296 : Nat))))
   (some ((([] : List Ex), (s5.2.2 ++ [s8.1]))))))
theorem mPut_B1_ok (blocks : Int) (l : List Ex) (x : Ex) (s0 : Bool) (s2 : Bool) (s5 : Bool × Int × List Ex) (s8 : Ex × Bool) (zz : List Ex × List Ex) : mPut_B1 blocks l x s0 s2 s5 s8 = some zz → EvStep Try.prog cf 9 ((rfB Try.prog 108 0)) (mPut_B1_I blocks l x s0 s2 s5 s8) (mPut_B1_S blocks l x s0 s2 s5 s8 zz) := by
  unfold mPut_B1
  refine tb_ok (fun h11 => ?_) (fun h11 => ?_)
  ·
    have h11p := of_decide_eq_true h11
    refine tp_ok (fun h12 => ?_)
    refine tc_ok (fun s13 h13 => ?_)
    refine tb_ok (fun h14 => ?_) (fun h14 => ?_)
    ·
      have h14p := eq_of_beq h14
      refine tp_ok (fun h15 => ?_)
      intro e; injection e with e; subst e
      exact leafS vw_eq (k := 300) (r := []) (hs := hz [(6, [.yes]), (4, [.yes, .yes, .cells ((Ex.cells (exAt s5.2.2 (Int.toNat (wr ((s5.2.2.length : Int) - (1 : Int)))))))]), (1, [.fc]), (1, [.fres (.tu [Ex.av (s13.1), .i (s13.2)])]), (5, [.fc]), (1, [.yes]), (2, [.yes]), (5, [.fc, .yes, .yes, .cells ((List.flatMap Ex.cells (List.set s5.2.2 (Int.toNat (wr ((s5.2.2.length : Int) - (1 : Int)))) s13.1)))])]) (ks := [0, 1, 2, 5, 6, 7, 12, 17, 34, 35, 8]) (st1 := (St.mk [(0, (AV.i blocks)), (1, (exs l)), (2, (AV.ag (xc x))), (5, (AV.pt 0 0)), (6, (AV.pt 1 0)), (7, (AV.i 0)), (12, (AV.b (!s0))), (17, (AV.b (decide ((wr (x.lba + x.len)) > blocks)))), (34, (AV.fn (111 : Nat) [(AV.pt 3 0), (AV.pt 2 0)])), (35, (AV.ag (xc s8.1))), (8, (AV.pt 8 0))] 63 (AH.mk 10 [(9, (AObj.cells (xc s13.1))), (8, (AObj.cells (xc s8.1))), (7, (AObj.cells (xc s8.1))), (6, (AObj.cells (xc (exAt l s5.2.1.toNat)))), (4, (AObj.loop Go.LoopState.busy Option.none [(0, (AV.i blocks)), (1, (exs l)), (2, (AV.ag (xc x))), (5, (AV.pt 0 0)), (6, (AV.pt 1 0)), (7, (AV.i 0)), (12, (AV.b (!s0))), (17, (AV.b (decide ((wr (x.lba + x.len)) > blocks)))), (34, (AV.fn (111 : Nat) [(AV.pt 3 0), (AV.pt 2 0)]))] 63 [(35 : Nat)] (rfA Try.prog 108 0) (rfB Try.prog 108 0))), (3, (AObj.cells (xc x))), (2, (AObj.cells [(exs l)])), (1, (AObj.cells [(AV.rf 5 5 0 s5.2.2.length)])), (0, (AObj.cells (xc x))), (5, (AObj.cells (List.flatMap Ex.cells (List.set s5.2.2 (Int.toNat (wr ((s5.2.2.length : Int) - (1 : Int)))) s13.1))))]) Bool.true)) kq (ac h11 (ac h12 (ac (fq (p := ((((0 : Nat) + ((Int.toNat (wr ((s5.2.2.length : Int) - (1 : Int)))) * 5)) + (5 : Nat)) ≤ (List.length (List.flatMap Ex.cells s5.2.2))))) (ac (show (List.take 5 (List.drop ((0 : Nat) + ((Int.toNat (wr ((s5.2.2.length : Int) - (1 : Int)))) * 5)) (List.flatMap Ex.cells s5.2.2))) = (Ex.cells (exAt s5.2.2 (Int.toNat (wr ((s5.2.2.length : Int) - (1 : Int)))))) from (ex_takeO bq bq)) (ac (eJoin_ok ((exAt s5.2.2 (Int.toNat (wr ((s5.2.2.length : Int) - (1 : Int)))))) (s8.1) _ h13).any0 (ac (show orderOk (rg Try.prog 108 0) = true ∧ allOk (Region.before (rg Try.prog 108 0)) [] 0 [(some [1], some []), (some [], some []), (some [], some []), (some [], some []), (some [5], some []), (some [8], some []), (some [], some []), (some [], some []), (some [], some []), (some [], some []), (some [], some [9]), (some [9], some [9]), (some [], some [])] = true from (ord_of ord_108_0 bef_108_0 kq)) (ac h14 (ac h12 (ac h15 (ac (show (((List.take ((0 : Nat) + ((Int.toNat (wr ((s5.2.2.length : Int) - (1 : Int)))) * 5)) (List.flatMap Ex.cells s5.2.2)) ++ (xc s13.1)) ++ (List.drop (((0 : Nat) + ((Int.toNat (wr ((s5.2.2.length : Int) - (1 : Int)))) * 5)) + (List.length (xc s13.1))) (List.flatMap Ex.cells s5.2.2))) = (List.flatMap Ex.cells (List.set s5.2.2 (Int.toNat (wr ((s5.2.2.length : Int) - (1 : Int)))) s13.1)) from (ex_setO (x := s13.1) bq bq tq)) an)))))))))) (Nat.le_of_ble_eq_true rfl) (Nat.le_of_ble_eq_true rfl) (absB_of [5] [] kq (.consn kq (.eqv tq rfl) (.consn kq (.eqv tq rfl) (.consn kq (.agp pq) (.consn kq (.pt rfl) (.consn kq (.pt rfl) (.consn kq (.eqv tq rfl) (.consn kq (.eqv tq rfl) (.consn kq (.eqv tq rfl) (.consn kq (.fn (.cons (.pt rfl) (.cons (.pt rfl) .nil))) (.consn kq (.agp pq) (.consn kq (.pt rfl) .nil))))))))))) (.cons (.old rfl rfl (.cells (.pl rfl pq))) (.cons (.old rfl rfl (.cells (.pl rfl pq))) (.cons (.old rfl rfl (.cells (.pl rfl pq))) (.cons (.old rfl rfl (.loop (.consn kq (.eqv tq rfl) (.consn kq (.eqv tq rfl) (.consn kq (.agp pq) (.consn kq (.pt rfl) (.consn kq (.pt rfl) (.consn kq (.eqv tq rfl) (.consn kq (.eqv tq rfl) (.consn kq (.eqv tq rfl) (.consn kq (.fn (.cons (.pt rfl) (.cons (.pt rfl) .nil))) .nil))))))))))) (.cons (.old rfl rfl (.cells (.pl rfl pq))) (.cons (.old rfl rfl (.cells (.cons (.eqv tq rfl) .nil))) (.cons (.old rfl rfl (.cells (.cons (.rfn (n := s5.2.2.length) rfl tq) .nil))) (.cons (.old rfl rfl (.cells (.pl rfl pq))) (.cons (.old rfl rfl (.cells (.pl tq pq))) .nil))))))))))
    ·
      have h14p := ne_of_beq_false h14
      refine tp_ok (fun h15 => ?_)
      intro e; injection e with e; subst e
      exact leafS vw_eq (k := 300) (r := []) (hs := hz [(6, [.yes]), (4, [.yes, .yes, .cells ((Ex.cells (exAt s5.2.2 (Int.toNat (wr ((s5.2.2.length : Int) - (1 : Int)))))))]), (1, [.fc]), (1, [.fres (.tu [Ex.av (s13.1), .i (s13.2)])]), (5, [.fc]), (1, [.yes]), (2, [.no]), (3, [.fc]), (1, [.fc, .fc, .yes, .yes]), (1, [.fc])]) (ks := [0, 1, 2, 5, 6, 7, 12, 17, 34, 35, 8]) (st1 := (St.mk [(0, (AV.i blocks)), (1, (exs l)), (2, (AV.ag (xc x))), (5, (AV.pt 0 0)), (6, (AV.pt 1 0)), (7, (AV.i 0)), (12, (AV.b (!s0))), (17, (AV.b (decide ((wr (x.lba + x.len)) > blocks)))), (34, (AV.fn (111 : Nat) [(AV.pt 3 0), (AV.pt 2 0)])), (35, (AV.ag (xc s8.1))), (8, (AV.pt 8 0))] 63 (AH.mk 12 [(11, (AObj.cells ((List.flatMap Ex.cells s5.2.2) ++ (xc s8.1)))), (10, (AObj.cells (xc s8.1))), (9, (AObj.cells (xc s13.1))), (8, (AObj.cells (xc s8.1))), (7, (AObj.cells (xc s8.1))), (6, (AObj.cells (xc (exAt l s5.2.1.toNat)))), (4, (AObj.loop Go.LoopState.busy Option.none [(0, (AV.i blocks)), (1, (exs l)), (2, (AV.ag (xc x))), (5, (AV.pt 0 0)), (6, (AV.pt 1 0)), (7, (AV.i 0)), (12, (AV.b (!s0))), (17, (AV.b (decide ((wr (x.lba + x.len)) > blocks)))), (34, (AV.fn (111 : Nat) [(AV.pt 3 0), (AV.pt 2 0)]))] 63 [(35 : Nat)] (rfA Try.prog 108 0) (rfB Try.prog 108 0))), (3, (AObj.cells (xc x))), (2, (AObj.cells [(exs l)])), (1, (AObj.cells [(AV.rf 11 5 0 (s5.2.2.length + (1 : Nat)))])), (0, (AObj.cells (xc x))), (5, AObj.dead)]) Bool.true)) kq (ac h11 (ac h12 (ac (fq (p := ((((0 : Nat) + ((Int.toNat (wr ((s5.2.2.length : Int) - (1 : Int)))) * 5)) + (5 : Nat)) ≤ (List.length (List.flatMap Ex.cells s5.2.2))))) (ac (show (List.take 5 (List.drop ((0 : Nat) + ((Int.toNat (wr ((s5.2.2.length : Int) - (1 : Int)))) * 5)) (List.flatMap Ex.cells s5.2.2))) = (Ex.cells (exAt s5.2.2 (Int.toNat (wr ((s5.2.2.length : Int) - (1 : Int)))))) from (ex_takeO bq bq)) (ac (eJoin_ok ((exAt s5.2.2 (Int.toNat (wr ((s5.2.2.length : Int) - (1 : Int)))))) (s8.1) _ h13).any0 (ac (show orderOk (rg Try.prog 108 0) = true ∧ allOk (Region.before (rg Try.prog 108 0)) [] 0 [(some [1], some []), (some [], some []), (some [], some []), (some [], some []), (some [5], some []), (some [8], some []), (some [], some []), (some [], some []), (some [], some []), (some [], some []), (some [], some [9]), (some [9], some [9]), (some [], some [])] = true from (ord_of ord_108_0 bef_108_0 kq)) (ac h14 (ac (tq (p := (((0 : Nat) = (0 : Nat)) ∧ ((List.length (xc s8.1)) = (5 : Nat))))) (ac h15 an))))))))) (Nat.le_of_ble_eq_true rfl) (Nat.le_of_ble_eq_true rfl) (absB_of [11] [] kq (.consn kq (.eqv tq rfl) (.consn kq (.eqv tq rfl) (.consn kq (.agp pq) (.consn kq (.pt rfl) (.consn kq (.pt rfl) (.consn kq (.eqv tq rfl) (.consn kq (.eqv tq rfl) (.consn kq (.eqv tq rfl) (.consn kq (.fn (.cons (.pt rfl) (.cons (.pt rfl) .nil))) (.consn kq (.agp pq) (.consn kq (.pt rfl) .nil))))))))))) (.cons (.old rfl rfl (.cells (.pl rfl pq))) (.cons (.old rfl rfl (.cells (.pl rfl pq))) (.cons (.old rfl rfl (.cells (.pl rfl pq))) (.cons (.old rfl rfl (.loop (.consn kq (.eqv tq rfl) (.consn kq (.eqv tq rfl) (.consn kq (.agp pq) (.consn kq (.pt rfl) (.consn kq (.pt rfl) (.consn kq (.eqv tq rfl) (.consn kq (.eqv tq rfl) (.consn kq (.eqv tq rfl) (.consn kq (.fn (.cons (.pt rfl) (.cons (.pt rfl) .nil))) .nil))))))))))) (.cons (.old rfl rfl (.cells (.pl rfl pq))) (.cons (.old rfl rfl (.cells (.cons (.eqv tq rfl) .nil))) (.cons (.old rfl rfl (.cells (.cons (.rfn (n := (s5.2.2.length + (1 : Nat))) rfl tq) .nil))) (.cons (.old rfl rfl (.cells (.pl rfl pq))) (.cons (.old rfl rfl (.cells (.pl tq pq))) .nil))))))))))
  ·
    have h11p := of_decide_eq_false h11
    refine tp_ok (fun h12 => ?_)
    intro e; injection e with e; subst e
    exact leafS vw_eq (k := 300) (r := []) (hs := hz [(6, [.no]), (3, [.fc]), (1, [.fc, .fc, .yes, .yes]), (1, [.fc])]) (ks := [0, 1, 2, 5, 6, 7, 12, 17, 34, 35, 8]) (st1 := (St.mk [(0, (AV.i blocks)), (1, (exs l)), (2, (AV.ag (xc x))), (5, (AV.pt 0 0)), (6, (AV.pt 1 0)), (7, (AV.i 0)), (12, (AV.b (!s0))), (17, (AV.b (decide ((wr (x.lba + x.len)) > blocks)))), (34, (AV.fn (111 : Nat) [(AV.pt 3 0), (AV.pt 2 0)])), (35, (AV.ag (xc s8.1))), (8, (AV.pt 8 0))] 63 (AH.mk 11 [(10, (AObj.cells ((List.flatMap Ex.cells s5.2.2) ++ (xc s8.1)))), (9, (AObj.cells (xc s8.1))), (8, (AObj.cells (xc s8.1))), (7, (AObj.cells (xc s8.1))), (6, (AObj.cells (xc (exAt l s5.2.1.toNat)))), (4, (AObj.loop Go.LoopState.busy Option.none [(0, (AV.i blocks)), (1, (exs l)), (2, (AV.ag (xc x))), (5, (AV.pt 0 0)), (6, (AV.pt 1 0)), (7, (AV.i 0)), (12, (AV.b (!s0))), (17, (AV.b (decide ((wr (x.lba + x.len)) > blocks)))), (34, (AV.fn (111 : Nat) [(AV.pt 3 0), (AV.pt 2 0)]))] 63 [(35 : Nat)] (rfA Try.prog 108 0) (rfB Try.prog 108 0))), (3, (AObj.cells (xc x))), (2, (AObj.cells [(exs l)])), (1, (AObj.cells [(AV.rf 10 5 0 (s5.2.2.length + (1 : Nat)))])), (0, (AObj.cells (xc x))), (5, AObj.dead)]) Bool.true)) kq (ac h11 (ac (tq (p := (((0 : Nat) = (0 : Nat)) ∧ ((List.length (xc s8.1)) = (5 : Nat))))) (ac h12 an))) (Nat.le_of_ble_eq_true rfl) (Nat.le_of_ble_eq_true rfl) (absB_of [10] [] kq (.consn kq (.eqv tq rfl) (.consn kq (.eqv tq rfl) (.consn kq (.agp pq) (.consn kq (.pt rfl) (.consn kq (.pt rfl) (.consn kq (.eqv tq rfl) (.consn kq (.eqv tq rfl) (.consn kq (.eqv tq rfl) (.consn kq (.fn (.cons (.pt rfl) (.cons (.pt rfl) .nil))) (.consn kq (.agp pq) (.consn kq (.pt rfl) .nil))))))))))) (.cons (.old rfl rfl (.cells (.pl rfl pq))) (.cons (.old rfl rfl (.cells (.pl rfl pq))) (.cons (.old rfl rfl (.cells (.pl rfl pq))) (.cons (.old rfl rfl (.loop (.consn kq (.eqv tq rfl) (.consn kq (.eqv tq rfl) (.consn kq (.agp pq) (.consn kq (.pt rfl) (.consn kq (.pt rfl) (.consn kq (.eqv tq rfl) (.consn kq (.eqv tq rfl) (.consn kq (.eqv tq rfl) (.consn kq (.fn (.cons (.pt rfl) (.cons (.pt rfl) .nil))) .nil))))))))))) (.cons (.old rfl rfl (.cells (.pl rfl pq))) (.cons (.old rfl rfl (.cells (.cons (.eqv tq rfl) .nil))) (.cons (.old rfl rfl (.cells (.cons (.rfn (n := (s5.2.2.length + (1 : Nat))) rfl tq) .nil))) (.cons (.old rfl rfl (.cells (.pl rfl pq))) (.cons (.old rfl rfl (.cells (.pl tq pq))) .nil))))))))))
noncomputable abbrev mPut_B2_I (blocks : Int) (l : List Ex) (x : Ex) (s0 : Bool) (s2 : Bool) (s5 : Bool × Int × List Ex) (s8 : Ex × Bool) (s10 : List Ex × List Ex) : St := (St.mk [(0, (AV.i blocks)), (1, (exs l)), (2, (AV.ag (xc x))), (5, (AV.pt 0 0)), (6, (AV.pt 1 0)), (7, (AV.i 0)), (12, (AV.b (!s0))), (17, (AV.b (decide ((wr (x.lba + x.len)) > blocks)))), (34, (AV.fn (111 : Nat) [(AV.pt 3 0), (AV.pt 2 0)])), (35, (AV.ag (xc x))), (8, (AV.pt 10 0))] 63 (AH.mk 11 [(10, (AObj.cells (xc x))), (8, (AObj.cells (xc s8.1))), (7, (AObj.cells (xc s8.1))), (6, (AObj.cells (xc (exAt l s5.2.1.toNat)))), (4, (AObj.loop Go.LoopState.busy Option.none [(0, (AV.i blocks)), (1, (exs l)), (2, (AV.ag (xc x))), (5, (AV.pt 0 0)), (6, (AV.pt 1 0)), (7, (AV.i 0)), (12, (AV.b (!s0))), (17, (AV.b (decide ((wr (x.lba + x.len)) > blocks)))), (34, (AV.fn (111 : Nat) [(AV.pt 3 0), (AV.pt 2 0)]))] 63 [(35 : Nat)] (rfA Try.prog 108 0) (rfB Try.prog 108 0))), (3, (AObj.cells (xc x))), (2, (AObj.cells [(exs l)])), (1, (AObj.cells [(AV.rf 9 5 0 s10.2.length)])), (0, (AObj.cells (xc x))), (9, (AObj.cells (List.flatMap Ex.cells s10.2)))]) Bool.true)
noncomputable abbrev mPut_B2_S (blocks : Int) (l : List Ex) (x : Ex) (s0 : Bool) (s2 : Bool) (s5 : Bool × Int × List Ex) (s8 : Ex × Bool) (s10 : List Ex × List Ex) (s13 : List Ex × List Ex) : St := (St.mk [(0, (AV.i blocks)), (1, (exs l)), (2, (AV.ag (xc x))), (5, (AV.pt 0 0)), (6, (AV.pt 1 0)), (7, (AV.i 0)), (12, (AV.b (!s0))), (17, (AV.b (decide ((wr (x.lba + x.len)) > blocks)))), (34, (AV.fn (111 : Nat) [(AV.pt 3 0), (AV.pt 2 0)])), (35, (AV.ag (xc x))), (8, (AV.pt 10 0))] 63 (AH.mk 12 [(10, (AObj.cells (xc x))), (8, (AObj.cells (xc s8.1))), (7, (AObj.cells (xc s8.1))), (6, (AObj.cells (xc (exAt l s5.2.1.toNat)))), (4, (AObj.loop Go.LoopState.busy Option.none [(0, (AV.i blocks)), (1, (exs l)), (2, (AV.ag (xc x))), (5, (AV.pt 0 0)), (6, (AV.pt 1 0)), (7, (AV.i 0)), (12, (AV.b (!s0))), (17, (AV.b (decide ((wr (x.lba + x.len)) > blocks)))), (34, (AV.fn (111 : Nat) [(AV.pt 3 0), (AV.pt 2 0)]))] 63 [(35 : Nat)] (rfA Try.prog 108 0) (rfB Try.prog 108 0))), (3, (AObj.cells (xc x))), (2, (AObj.cells [(exs l)])), (1, (AObj.cells [(AV.rf 11 5 0 s13.2.length)])), (0, (AObj.cells (xc x))), (11, (AObj.cells (List.flatMap Ex.cells s13.2)))]) Bool.true)
noncomputable def mPut_B2 (blocks : Int) (l : List Ex) (x : Ex) (s0 : Bool) (s2 : Bool) (s5 : Bool × Int × List Ex) (s8 : Ex × Bool) (s10 : List Ex × List Ex) : Option (List Ex × List Ex) :=
 (tb ((decide ((s10.2.length : Int) > (0 : Int))))
  (tp ((((0 : Int) ≤ (wr ((s10.2.length : Int) - (1 : Int)))) ∧ ((wr ((s10.2.length : Int) - (1 : Int))) < (s10.2.length : Int))))
   (tc (eJoin ((exAt s10.2 (Int.toNat (wr ((s10.2.length : Int) - (1 : Int)))))) (x)) fun s16 =>
    (tb ((s16.2 == (0 : Int)))
     (tp ((((List.length (xc s16.1)) = (5 : Nat)) ∧ ((((0 : Nat) + ((Int.toNat (wr ((s10.2.length : Int) - (1 : Int)))) * 5)) + (List.length (xc s16.1))) ≤ (List.length (List.flatMap Ex.cells s10.2)))))
      (some ((([] : List Ex), (List.set s10.2 (Int.toNat (wr ((s10.2.length : Int) - (1 : Int)))) s16.1)))))
     (tp ((((List.length (List.flatMap Ex.cells s10.2)) = (s10.2.length * 5)) ∧ ((s10.2.length + (1 : Nat)) ≤ (4294967296 : Nat))))
      (some ((([] : List Ex), (s10.2 ++ [x]))))))))
  (tp ((((List.length (List.flatMap Ex.cells s10.2)) = (s10.2.length * 5)) ∧ ((s10.2.length + (1 : Nat)) ≤ (4294967296 : Nat))))
   (some ((([] : List Ex), (s10.2 ++ [x]))))))
theorem mPut_B2_ok (blocks : Int) (l : List Ex) (x : Ex) (s0 : Bool) (s2 : Bool) (s5 : Bool × Int × List Ex) (s8 : Ex × Bool) (s10 : List Ex × List Ex) (zz : List Ex × List Ex) : mPut_B2 blocks l x s0 s2 s5 s8 s10 = some zz → EvStep Try.prog cf 11 ((rfB Try.prog 108 0)) (mPut_B2_I blocks l x s0 s2 s5 s8 s10) (mPut_B2_S blocks l x s0 s2 s5 s8 s10 zz) := by
  unfold mPut_B2
  refine tb_ok (fun h14 => ?_) (fun h14 => ?_)
  ·
    have h14p := of_decide_eq_true h14
    refine tp_ok (fun h15 => ?_)
    refine tc_ok (fun s16 h16 => ?_)
    refine tb_ok (fun h17 => ?_) (fun h17 => ?_)
    ·
      have h17p := eq_of_beq h17
      refine tp_ok (fun h18 => ?_)
      intro e; injection e with e; subst e
      exact leafS vw_eq (k := 300) (r := []) (hs := hz [(6, [.yes]), (4, [.yes, .yes, .cells ((Ex.cells (exAt s10.2 (Int.toNat (wr ((s10.2.length : Int) - (1 : Int)))))))]), (1, [.fc]), (1, [.fres (.tu [Ex.av (s16.1), .i (s16.2)])]), (5, [.fc]), (1, [.yes]), (2, [.yes]), (5, [.fc, .yes, .yes, .cells ((List.flatMap Ex.cells (List.set s10.2 (Int.toNat (wr ((s10.2.length : Int) - (1 : Int)))) s16.1)))])]) (ks := [0, 1, 2, 5, 6, 7, 12, 17, 34, 35, 8]) (st1 := (St.mk [(0, (AV.i blocks)), (1, (exs l)), (2, (AV.ag (xc x))), (5, (AV.pt 0 0)), (6, (AV.pt 1 0)), (7, (AV.i 0)), (12, (AV.b (!s0))), (17, (AV.b (decide ((wr (x.lba + x.len)) > blocks)))), (34, (AV.fn (111 : Nat) [(AV.pt 3 0), (AV.pt 2 0)])), (35, (AV.ag (xc x))), (8, (AV.pt 10 0))] 63 (AH.mk 12 [(11, (AObj.cells (xc s16.1))), (10, (AObj.cells (xc x))), (8, (AObj.cells (xc s8.1))), (7, (AObj.cells (xc s8.1))), (6, (AObj.cells (xc (exAt l s5.2.1.toNat)))), (4, (AObj.loop Go.LoopState.busy Option.none [(0, (AV.i blocks)), (1, (exs l)), (2, (AV.ag (xc x))), (5, (AV.pt 0 0)), (6, (AV.pt 1 0)), (7, (AV.i 0)), (12, (AV.b (!s0))), (17, (AV.b (decide ((wr (x.lba + x.len)) > blocks)))), (34, (AV.fn (111 : Nat) [(AV.pt 3 0), (AV.pt 2 0)]))] 63 [(35 : Nat)] (rfA Try.prog 108 0) (rfB Try.prog 108 0))), (3, (AObj.cells (xc x))), (2, (AObj.cells [(exs l)])), (1, (AObj.cells [(AV.rf 9 5 0 s10.2.length)])), (0, (AObj.cells (xc x))), (9, (AObj.cells (List.flatMap Ex.cells (List.set s10.2 (Int.toNat (wr ((s10.2.length : Int) - (1 : Int)))) s16.1))))]) Bool.true)) kq (ac h14 (ac h15 (ac (fq (p := ((((0 : Nat) + ((Int.toNat (wr ((s10.2.length : Int) - (1 : Int)))) * 5)) + (5 : Nat)) ≤ (List.length (List.flatMap Ex.cells s10.2))))) (ac (show (List.take 5 (List.drop ((0 : Nat) + ((Int.toNat (wr ((s10.2.length : Int) - (1 : Int)))) * 5)) (List.flatMap Ex.cells s10.2))) = (Ex.cells (exAt s10.2 (Int.toNat (wr ((s10.2.length : Int) - (1 : Int)))))) from (ex_takeO bq bq)) (ac (eJoin_ok ((exAt s10.2 (Int.toNat (wr ((s10.2.length : Int) - (1 : Int)))))) (x) _ h16).any0 (ac (show orderOk (rg Try.prog 108 0) = true ∧ allOk (Region.before (rg Try.prog 108 0)) [] 0 [(some [1], some []), (some [], some []), (some [], some []), (some [], some []), (some [9], some []), (some [10], some []), (some [], some []), (some [], some []), (some [], some []), (some [], some []), (some [], some [11]), (some [11], some [11]), (some [], some [])] = true from (ord_of ord_108_0 bef_108_0 kq)) (ac h17 (ac h15 (ac h18 (ac (show (((List.take ((0 : Nat) + ((Int.toNat (wr ((s10.2.length : Int) - (1 : Int)))) * 5)) (List.flatMap Ex.cells s10.2)) ++ (xc s16.1)) ++ (List.drop (((0 : Nat) + ((Int.toNat (wr ((s10.2.length : Int) - (1 : Int)))) * 5)) + (List.length (xc s16.1))) (List.flatMap Ex.cells s10.2))) = (List.flatMap Ex.cells (List.set s10.2 (Int.toNat (wr ((s10.2.length : Int) - (1 : Int)))) s16.1)) from (ex_setO (x := s16.1) bq bq tq)) an)))))))))) (Nat.le_of_ble_eq_true rfl) (Nat.le_of_ble_eq_true rfl) (absB_of [9] [] kq (.consn kq (.eqv tq rfl) (.consn kq (.eqv tq rfl) (.consn kq (.agp pq) (.consn kq (.pt rfl) (.consn kq (.pt rfl) (.consn kq (.eqv tq rfl) (.consn kq (.eqv tq rfl) (.consn kq (.eqv tq rfl) (.consn kq (.fn (.cons (.pt rfl) (.cons (.pt rfl) .nil))) (.consn kq (.agp pq) (.consn kq (.pt rfl) .nil))))))))))) (.cons (.old rfl rfl (.cells (.pl rfl pq))) (.cons (.old rfl rfl (.cells (.pl rfl pq))) (.cons (.old rfl rfl (.cells (.pl rfl pq))) (.cons (.old rfl rfl (.cells (.pl rfl pq))) (.cons (.old rfl rfl (.loop (.consn kq (.eqv tq rfl) (.consn kq (.eqv tq rfl) (.consn kq (.agp pq) (.consn kq (.pt rfl) (.consn kq (.pt rfl) (.consn kq (.eqv tq rfl) (.consn kq (.eqv tq rfl) (.consn kq (.eqv tq rfl) (.consn kq (.fn (.cons (.pt rfl) (.cons (.pt rfl) .nil))) .nil))))))))))) (.cons (.old rfl rfl (.cells (.pl rfl pq))) (.cons (.old rfl rfl (.cells (.cons (.eqv tq rfl) .nil))) (.cons (.old rfl rfl (.cells (.cons (.rfn (n := s10.2.length) rfl tq) .nil))) (.cons (.old rfl rfl (.cells (.pl rfl pq))) (.cons (.old rfl rfl (.cells (.pl tq pq))) .nil)))))))))))
    ·
      have h17p := ne_of_beq_false h17
      refine tp_ok (fun h18 => ?_)
      intro e; injection e with e; subst e
      exact leafS vw_eq (k := 300) (r := []) (hs := hz [(6, [.yes]), (4, [.yes, .yes, .cells ((Ex.cells (exAt s10.2 (Int.toNat (wr ((s10.2.length : Int) - (1 : Int)))))))]), (1, [.fc]), (1, [.fres (.tu [Ex.av (s16.1), .i (s16.2)])]), (5, [.fc]), (1, [.yes]), (2, [.no]), (3, [.fc]), (1, [.fc, .fc, .yes, .yes]), (1, [.fc])]) (ks := [0, 1, 2, 5, 6, 7, 12, 17, 34, 35, 8]) (st1 := (St.mk [(0, (AV.i blocks)), (1, (exs l)), (2, (AV.ag (xc x))), (5, (AV.pt 0 0)), (6, (AV.pt 1 0)), (7, (AV.i 0)), (12, (AV.b (!s0))), (17, (AV.b (decide ((wr (x.lba + x.len)) > blocks)))), (34, (AV.fn (111 : Nat) [(AV.pt 3 0), (AV.pt 2 0)])), (35, (AV.ag (xc x))), (8, (AV.pt 10 0))] 63 (AH.mk 14 [(13, (AObj.cells ((List.flatMap Ex.cells s10.2) ++ (xc x)))), (12, (AObj.cells (xc x))), (11, (AObj.cells (xc s16.1))), (10, (AObj.cells (xc x))), (8, (AObj.cells (xc s8.1))), (7, (AObj.cells (xc s8.1))), (6, (AObj.cells (xc (exAt l s5.2.1.toNat)))), (4, (AObj.loop Go.LoopState.busy Option.none [(0, (AV.i blocks)), (1, (exs l)), (2, (AV.ag (xc x))), (5, (AV.pt 0 0)), (6, (AV.pt 1 0)), (7, (AV.i 0)), (12, (AV.b (!s0))), (17, (AV.b (decide ((wr (x.lba + x.len)) > blocks)))), (34, (AV.fn (111 : Nat) [(AV.pt 3 0), (AV.pt 2 0)]))] 63 [(35 : Nat)] (rfA Try.prog 108 0) (rfB Try.prog 108 0))), (3, (AObj.cells (xc x))), (2, (AObj.cells [(exs l)])), (1, (AObj.cells [(AV.rf 13 5 0 (s10.2.length + (1 : Nat)))])), (0, (AObj.cells (xc x))), (9, AObj.dead)]) Bool.true)) kq (ac h14 (ac h15 (ac (fq (p := ((((0 : Nat) + ((Int.toNat (wr ((s10.2.length : Int) - (1 : Int)))) * 5)) + (5 : Nat)) ≤ (List.length (List.flatMap Ex.cells s10.2))))) (ac (show (List.take 5 (List.drop ((0 : Nat) + ((Int.toNat (wr ((s10.2.length : Int) - (1 : Int)))) * 5)) (List.flatMap Ex.cells s10.2))) = (Ex.cells (exAt s10.2 (Int.toNat (wr ((s10.2.length : Int) - (1 : Int)))))) from (ex_takeO bq bq)) (ac (eJoin_ok ((exAt s10.2 (Int.toNat (wr ((s10.2.length : Int) - (1 : Int)))))) (x) _ h16).any0 (ac (show orderOk (rg Try.prog 108 0) = true ∧ allOk (Region.before (rg Try.prog 108 0)) [] 0 [(some [1], some []), (some [], some []), (some [], some []), (some [], some []), (some [9], some []), (some [10], some []), (some [], some []), (some [], some []), (some [], some []), (some [], some []), (some [], some [11]), (some [11], some [11]), (some [], some [])] = true from (ord_of ord_108_0 bef_108_0 kq)) (ac h17 (ac (tq (p := (((0 : Nat) = (0 : Nat)) ∧ ((List.length (xc x)) = (5 : Nat))))) (ac h18 an))))))))) (Nat.le_of_ble_eq_true rfl) (Nat.le_of_ble_eq_true rfl) (absB_of [13] [] kq (.consn kq (.eqv tq rfl) (.consn kq (.eqv tq rfl) (.consn kq (.agp pq) (.consn kq (.pt rfl) (.consn kq (.pt rfl) (.consn kq (.eqv tq rfl) (.consn kq (.eqv tq rfl) (.consn kq (.eqv tq rfl) (.consn kq (.fn (.cons (.pt rfl) (.cons (.pt rfl) .nil))) (.consn kq (.agp pq) (.consn kq (.pt rfl) .nil))))))))))) (.cons (.old rfl rfl (.cells (.pl rfl pq))) (.cons (.old rfl rfl (.cells (.pl rfl pq))) (.cons (.old rfl rfl (.cells (.pl rfl pq))) (.cons (.old rfl rfl (.cells (.pl rfl pq))) (.cons (.old rfl rfl (.loop (.consn kq (.eqv tq rfl) (.consn kq (.eqv tq rfl) (.consn kq (.agp pq) (.consn kq (.pt rfl) (.consn kq (.pt rfl) (.consn kq (.eqv tq rfl) (.consn kq (.eqv tq rfl) (.consn kq (.eqv tq rfl) (.consn kq (.fn (.cons (.pt rfl) (.cons (.pt rfl) .nil))) .nil))))))))))) (.cons (.old rfl rfl (.cells (.pl rfl pq))) (.cons (.old rfl rfl (.cells (.cons (.eqv tq rfl) .nil))) (.cons (.old rfl rfl (.cells (.cons (.rfn (n := (s10.2.length + (1 : Nat))) rfl tq) .nil))) (.cons (.old rfl rfl (.cells (.pl rfl pq))) (.cons (.old rfl rfl (.cells (.pl tq pq))) .nil)))))))))))
  ·
    have h14p := of_decide_eq_false h14
    refine tp_ok (fun h15 => ?_)
    intro e; injection e with e; subst e
    exact leafS vw_eq (k := 300) (r := []) (hs := hz [(6, [.no]), (3, [.fc]), (1, [.fc, .fc, .yes, .yes]), (1, [.fc])]) (ks := [0, 1, 2, 5, 6, 7, 12, 17, 34, 35, 8]) (st1 := (St.mk [(0, (AV.i blocks)), (1, (exs l)), (2, (AV.ag (xc x))), (5, (AV.pt 0 0)), (6, (AV.pt 1 0)), (7, (AV.i 0)), (12, (AV.b (!s0))), (17, (AV.b (decide ((wr (x.lba + x.len)) > blocks)))), (34, (AV.fn (111 : Nat) [(AV.pt 3 0), (AV.pt 2 0)])), (35, (AV.ag (xc x))), (8, (AV.pt 10 0))] 63 (AH.mk 13 [(12, (AObj.cells ((List.flatMap Ex.cells s10.2) ++ (xc x)))), (11, (AObj.cells (xc x))), (10, (AObj.cells (xc x))), (8, (AObj.cells (xc s8.1))), (7, (AObj.cells (xc s8.1))), (6, (AObj.cells (xc (exAt l s5.2.1.toNat)))), (4, (AObj.loop Go.LoopState.busy Option.none [(0, (AV.i blocks)), (1, (exs l)), (2, (AV.ag (xc x))), (5, (AV.pt 0 0)), (6, (AV.pt 1 0)), (7, (AV.i 0)), (12, (AV.b (!s0))), (17, (AV.b (decide ((wr (x.lba + x.len)) > blocks)))), (34, (AV.fn (111 : Nat) [(AV.pt 3 0), (AV.pt 2 0)]))] 63 [(35 : Nat)] (rfA Try.prog 108 0) (rfB Try.prog 108 0))), (3, (AObj.cells (xc x))), (2, (AObj.cells [(exs l)])), (1, (AObj.cells [(AV.rf 12 5 0 (s10.2.length + (1 : Nat)))])), (0, (AObj.cells (xc x))), (9, AObj.dead)]) Bool.true)) kq (ac h14 (ac (tq (p := (((0 : Nat) = (0 : Nat)) ∧ ((List.length (xc x)) = (5 : Nat))))) (ac h15 an))) (Nat.le_of_ble_eq_true rfl) (Nat.le_of_ble_eq_true rfl) (absB_of [12] [] kq (.consn kq (.eqv tq rfl) (.consn kq (.eqv tq rfl) (.consn kq (.agp pq) (.consn kq (.pt rfl) (.consn kq (.pt rfl) (.consn kq (.eqv tq rfl) (.consn kq (.eqv tq rfl) (.consn kq (.eqv tq rfl) (.consn kq (.fn (.cons (.pt rfl) (.cons (.pt rfl) .nil))) (.consn kq (.agp pq) (.consn kq (.pt rfl) .nil))))))))))) (.cons (.old rfl rfl (.cells (.pl rfl pq))) (.cons (.old rfl rfl (.cells (.pl rfl pq))) (.cons (.old rfl rfl (.cells (.pl rfl pq))) (.cons (.old rfl rfl (.cells (.pl rfl pq))) (.cons (.old rfl rfl (.loop (.consn kq (.eqv tq rfl) (.consn kq (.eqv tq rfl) (.consn kq (.agp pq) (.consn kq (.pt rfl) (.consn kq (.pt rfl) (.consn kq (.eqv tq rfl) (.consn kq (.eqv tq rfl) (.consn kq (.eqv tq rfl) (.consn kq (.fn (.cons (.pt rfl) (.cons (.pt rfl) .nil))) .nil))))))))))) (.cons (.old rfl rfl (.cells (.pl rfl pq))) (.cons (.old rfl rfl (.cells (.cons (.eqv tq rfl) .nil))) (.cons (.old rfl rfl (.cells (.cons (.rfn (n := (s10.2.length + (1 : Nat))) rfl tq) .nil))) (.cons (.old rfl rfl (.cells (.pl rfl pq))) (.cons (.old rfl rfl (.cells (.pl tq pq))) .nil)))))))))))
noncomputable abbrev mPut_B3_I (blocks : Int) (l : List Ex) (x : Ex) (s0 : Bool) (s2 : Bool) (s5 : Bool × Int × List Ex) (s8 : Ex × Bool) (s10 : List Ex × List Ex) (s13 : List Ex × List Ex) (s14 : Ex × Bool) : St := (St.mk [(0, (AV.i blocks)), (1, (exs l)), (2, (AV.ag (xc x))), (5, (AV.pt 0 0)), (6, (AV.pt 1 0)), (7, (AV.i 0)), (12, (AV.b (!s0))), (17, (AV.b (decide ((wr (x.lba + x.len)) > blocks)))), (34, (AV.fn (111 : Nat) [(AV.pt 3 0), (AV.pt 2 0)])), (35, (AV.ag (xc s14.1))), (8, (AV.pt 13 0))] 63 (AH.mk 14 [(13, (AObj.cells (xc s14.1))), (12, (AObj.cells (xc s14.1))), (10, (AObj.cells (xc x))), (8, (AObj.cells (xc s8.1))), (7, (AObj.cells (xc s8.1))), (6, (AObj.cells (xc (exAt l s5.2.1.toNat)))), (4, (AObj.loop Go.LoopState.busy Option.none [(0, (AV.i blocks)), (1, (exs l)), (2, (AV.ag (xc x))), (5, (AV.pt 0 0)), (6, (AV.pt 1 0)), (7, (AV.i 0)), (12, (AV.b (!s0))), (17, (AV.b (decide ((wr (x.lba + x.len)) > blocks)))), (34, (AV.fn (111 : Nat) [(AV.pt 3 0), (AV.pt 2 0)]))] 63 [(35 : Nat)] (rfA Try.prog 108 0) (rfB Try.prog 108 0))), (3, (AObj.cells (xc x))), (2, (AObj.cells [(exs l)])), (1, (AObj.cells [(AV.rf 11 5 0 s13.2.length)])), (0, (AObj.cells (xc x))), (11, (AObj.cells (List.flatMap Ex.cells s13.2)))]) Bool.true)
noncomputable abbrev mPut_B3_S (blocks : Int) (l : List Ex) (x : Ex) (s0 : Bool) (s2 : Bool) (s5 : Bool × Int × List Ex) (s8 : Ex × Bool) (s10 : List Ex × List Ex) (s13 : List Ex × List Ex) (s14 : Ex × Bool) (s16 : List Ex × List Ex) : St := (St.mk [(0, (AV.i blocks)), (1, (exs l)), (2, (AV.ag (xc x))), (5, (AV.pt 0 0)), (6, (AV.pt 1 0)), (7, (AV.i 0)), (12, (AV.b (!s0))), (17, (AV.b (decide ((wr (x.lba + x.len)) > blocks)))), (34, (AV.fn (111 : Nat) [(AV.pt 3 0), (AV.pt 2 0)])), (35, (AV.ag (xc s14.1))), (8, (AV.pt 13 0))] 63 (AH.mk 15 [(13, (AObj.cells (xc s14.1))), (12, (AObj.cells (xc s14.1))), (10, (AObj.cells (xc x))), (8, (AObj.cells (xc s8.1))), (7, (AObj.cells (xc s8.1))), (6, (AObj.cells (xc (exAt l s5.2.1.toNat)))), (4, (AObj.loop Go.LoopState.busy Option.none [(0, (AV.i blocks)), (1, (exs l)), (2, (AV.ag (xc x))), (5, (AV.pt 0 0)), (6, (AV.pt 1 0)), (7, (AV.i 0)), (12, (AV.b (!s0))), (17, (AV.b (decide ((wr (x.lba + x.len)) > blocks)))), (34, (AV.fn (111 : Nat) [(AV.pt 3 0), (AV.pt 2 0)]))] 63 [(35 : Nat)] (rfA Try.prog 108 0) (rfB Try.prog 108 0))), (3, (AObj.cells (xc x))), (2, (AObj.cells [(exs l)])), (1, (AObj.cells [(AV.rf 14 5 0 s16.2.length)])), (0, (AObj.cells (xc x))), (14, (AObj.cells (List.flatMap Ex.cells s16.2)))]) Bool.true)
noncomputable def mPut_B3 (blocks : Int) (l : List Ex) (x : Ex) (s0 : Bool) (s2 : Bool) (s5 : Bool × Int × List Ex) (s8 : Ex × Bool) (s10 : List Ex × List Ex) (s13 : List Ex × List Ex) (s14 : Ex × Bool) : Option (List Ex × List Ex) :=
 (tb ((decide ((s13.2.length : Int) > (0 : Int))))
  (tp ((((0 : Int) ≤ (wr ((s13.2.length : Int) - (1 : Int)))) ∧ ((wr ((s13.2.length : Int) - (1 : Int))) < (s13.2.length : Int))))
   (tc (eJoin ((exAt s13.2 (Int.toNat (wr ((s13.2.length : Int) - (1 : Int)))))) (s14.1)) fun s19 =>
    (tb ((s19.2 == (0 : Int)))
     (tp ((((List.length (xc s19.1)) = (5 : Nat)) ∧ ((((0 : Nat) + ((Int.toNat (wr ((s13.2.length : Int) - (1 : Int)))) * 5)) + (List.length (xc s19.1))) ≤ (List.length (List.flatMap Ex.cells s13.2)))))
      (some ((([] : List Ex), (List.set s13.2 (Int.toNat (wr ((s13.2.length : Int) - (1 : Int)))) s19.1)))))
     (tp ((((List.length (List.flatMap Ex.cells s13.2)) = (s13.2.length * 5)) ∧ ((s13.2.length + (1 : Nat)) ≤ (4294967296 : Nat))))
      (some ((([] : List Ex), (s13.2 ++ [s14.1]))))))))
  (tp ((((List.length (List.flatMap Ex.cells s13.2)) = (s13.2.length * 5)) ∧ ((s13.2.length + (1 : Nat)) ≤ (4294967296 : Nat))))
   (some ((([] : List Ex), (s13.2 ++ [s14.1]))))))
theorem mPut_B3_ok (blocks : Int) (l : List Ex) (x : Ex) (s0 : Bool) (s2 : Bool) (s5 : Bool × Int × List Ex) (s8 : Ex × Bool) (s10 : List Ex × List Ex) (s13 : List Ex × List Ex) (s14 : Ex × Bool) (zz : List Ex × List Ex) : mPut_B3 blocks l x s0 s2 s5 s8 s10 s13 s14 = some zz → EvStep Try.prog cf 14 ((rfB Try.prog 108 0)) (mPut_B3_I blocks l x s0 s2 s5 s8 s10 s13 s14) (mPut_B3_S blocks l x s0 s2 s5 s8 s10 s13 s14 zz) := by
  unfold mPut_B3
  refine tb_ok (fun h17 => ?_) (fun h17 => ?_)
  ·
    have h17p := of_decide_eq_true h17
    refine tp_ok (fun h18 => ?_)
    refine tc_ok (fun s19 h19 => ?_)
    refine tb_ok (fun h20 => ?_) (fun h20 => ?_)
    ·
      have h20p := eq_of_beq h20
      refine tp_ok (fun h21 => ?_)
      intro e; injection e with e; subst e
      exact leafS vw_eq (k := 300) (r := []) (hs := hz [(6, [.yes]), (4, [.yes, .yes, .cells ((Ex.cells (exAt s13.2 (Int.toNat (wr ((s13.2.length : Int) - (1 : Int)))))))]), (1, [.fc]), (1, [.fres (.tu [Ex.av (s19.1), .i (s19.2)])]), (5, [.fc]), (1, [.yes]), (2, [.yes]), (5, [.fc, .yes, .yes, .cells ((List.flatMap Ex.cells (List.set s13.2 (Int.toNat (wr ((s13.2.length : Int) - (1 : Int)))) s19.1)))])]) (ks := [0, 1, 2, 5, 6, 7, 12, 17, 34, 35, 8]) (st1 := (St.mk [(0, (AV.i blocks)), (1, (exs l)), (2, (AV.ag (xc x))), (5, (AV.pt 0 0)), (6, (AV.pt 1 0)), (7, (AV.i 0)), (12, (AV.b (!s0))), (17, (AV.b (decide ((wr (x.lba + x.len)) > blocks)))), (34, (AV.fn (111 : Nat) [(AV.pt 3 0), (AV.pt 2 0)])), (35, (AV.ag (xc s14.1))), (8, (AV.pt 13 0))] 63 (AH.mk 15 [(14, (AObj.cells (xc s19.1))), (13, (AObj.cells (xc s14.1))), (12, (AObj.cells (xc s14.1))), (10, (AObj.cells (xc x))), (8, (AObj.cells (xc s8.1))), (7, (AObj.cells (xc s8.1))), (6, (AObj.cells (xc (exAt l s5.2.1.toNat)))), (4, (AObj.loop Go.LoopState.busy Option.none [(0, (AV.i blocks)), (1, (exs l)), (2, (AV.ag (xc x))), (5, (AV.pt 0 0)), (6, (AV.pt 1 0)), (7, (AV.i 0)), (12, (AV.b (!s0))), (17, (AV.b (decide ((wr (x.lba + x.len)) > blocks)))), (34, (AV.fn (111 : Nat) [(AV.pt 3 0), (AV.pt 2 0)]))] 63 [(35 : Nat)] (rfA Try.prog 108 0) (rfB Try.prog 108 0))), (3, (AObj.cells (xc x))), (2, (AObj.cells [(exs l)])), (1, (AObj.cells [(AV.rf 11 5 0 s13.2.length)])), (0, (AObj.cells (xc x))), (11, (AObj.cells (List.flatMap Ex.cells (List.set s13.2 (Int.toNat (wr ((s13.2.length : Int) - (1 : Int)))) s19.1))))]) Bool.true)) kq (ac h17 (ac h18 (ac (fq (p := ((((0 : Nat) + ((Int.toNat (wr ((s13.2.length : Int) - (1 : Int)))) * 5)) + (5 : Nat)) ≤ (List.length (List.flatMap Ex.cells s13.2))))) (ac (show (List.take 5 (List.drop ((0 : Nat) + ((Int.toNat (wr ((s13.2.length : Int) - (1 : Int)))) * 5)) (List.flatMap Ex.cells s13.2))) = (Ex.cells (exAt s13.2 (Int.toNat (wr ((s13.2.length : Int) - (1 : Int)))))) from (ex_takeO bq bq)) (ac (eJoin_ok ((exAt s13.2 (Int.toNat (wr ((s13.2.length : Int) - (1 : Int)))))) (s14.1) _ h19).any0 (ac (show orderOk (rg Try.prog 108 0) = true ∧ allOk (Region.before (rg Try.prog 108 0)) [] 0 [(some [1], some []), (some [], some []), (some [], some []), (some [], some []), (some [11], some []), (some [13], some []), (some [], some []), (some [], some []), (some [], some []), (some [], some []), (some [], some [14]), (some [14], some [14]), (some [], some [])] = true from (ord_of ord_108_0 bef_108_0 kq)) (ac h20 (ac h18 (ac h21 (ac (show (((List.take ((0 : Nat) + ((Int.toNat (wr ((s13.2.length : Int) - (1 : Int)))) * 5)) (List.flatMap Ex.cells s13.2)) ++ (xc s19.1)) ++ (List.drop (((0 : Nat) + ((Int.toNat (wr ((s13.2.length : Int) - (1 : Int)))) * 5)) + (List.length (xc s19.1))) (List.flatMap Ex.cells s13.2))) = (List.flatMap Ex.cells (List.set s13.2 (Int.toNat (wr ((s13.2.length : Int) - (1 : Int)))) s19.1)) from (ex_setO (x := s19.1) bq bq tq)) an)))))))))) (Nat.le_of_ble_eq_true rfl) (Nat.le_of_ble_eq_true rfl) (absB_of [11] [] kq (.consn kq (.eqv tq rfl) (.consn kq (.eqv tq rfl) (.consn kq (.agp pq) (.consn kq (.pt rfl) (.consn kq (.pt rfl) (.consn kq (.eqv tq rfl) (.consn kq (.eqv tq rfl) (.consn kq (.eqv tq rfl) (.consn kq (.fn (.cons (.pt rfl) (.cons (.pt rfl) .nil))) (.consn kq (.agp pq) (.consn kq (.pt rfl) .nil))))))))))) (.cons (.old rfl rfl (.cells (.pl rfl pq))) (.cons (.old rfl rfl (.cells (.pl rfl pq))) (.cons (.old rfl rfl (.cells (.pl rfl pq))) (.cons (.old rfl rfl (.cells (.pl rfl pq))) (.cons (.old rfl rfl (.cells (.pl rfl pq))) (.cons (.old rfl rfl (.cells (.pl rfl pq))) (.cons (.old rfl rfl (.loop (.consn kq (.eqv tq rfl) (.consn kq (.eqv tq rfl) (.consn kq (.agp pq) (.consn kq (.pt rfl) (.consn kq (.pt rfl) (.consn kq (.eqv tq rfl) (.consn kq (.eqv tq rfl) (.consn kq (.eqv tq rfl) (.consn kq (.fn (.cons (.pt rfl) (.cons (.pt rfl) .nil))) .nil))))))))))) (.cons (.old rfl rfl (.cells (.pl rfl pq))) (.cons (.old rfl rfl (.cells (.cons (.eqv tq rfl) .nil))) (.cons (.old rfl rfl (.cells (.cons (.rfn (n := s13.2.length) rfl tq) .nil))) (.cons (.old rfl rfl (.cells (.pl rfl pq))) (.cons (.old rfl rfl (.cells (.pl tq pq))) .nil)))))))))))))
    ·
      have h20p := ne_of_beq_false h20
      refine tp_ok (fun h21 => ?_)
      intro e; injection e with e; subst e
      exact leafS vw_eq (k := 300) (r := []) (hs := hz [(6, [.yes]), (4, [.yes, .yes, .cells ((Ex.cells (exAt s13.2 (Int.toNat (wr ((s13.2.length : Int) - (1 : Int)))))))]), (1, [.fc]), (1, [.fres (.tu [Ex.av (s19.1), .i (s19.2)])]), (5, [.fc]), (1, [.yes]), (2, [.no]), (3, [.fc]), (1, [.fc, .fc, .yes, .yes]), (1, [.fc])]) (ks := [0, 1, 2, 5, 6, 7, 12, 17, 34, 35, 8]) (st1 := (St.mk [(0, (AV.i blocks)), (1, (exs l)), (2, (AV.ag (xc x))), (5, (AV.pt 0 0)), (6, (AV.pt 1 0)), (7, (AV.i 0)), (12, (AV.b (!s0))), (17, (AV.b (decide ((wr (x.lba + x.len)) > blocks)))), (34, (AV.fn (111 : Nat) [(AV.pt 3 0), (AV.pt 2 0)])), (35, (AV.ag (xc s14.1))), (8, (AV.pt 13 0))] 63 (AH.mk 17 [(16, (AObj.cells ((List.flatMap Ex.cells s13.2) ++ (xc s14.1)))), (15, (AObj.cells (xc s14.1))), (14, (AObj.cells (xc s19.1))), (13, (AObj.cells (xc s14.1))), (12, (AObj.cells (xc s14.1))), (10, (AObj.cells (xc x))), (8, (AObj.cells (xc s8.1))), (7, (AObj.cells (xc s8.1))), (6, (AObj.cells (xc (exAt l s5.2.1.toNat)))), (4, (AObj.loop Go.LoopState.busy Option.none [(0, (AV.i blocks)), (1, (exs l)), (2, (AV.ag (xc x))), (5, (AV.pt 0 0)), (6, (AV.pt 1 0)), (7, (AV.i 0)), (12, (AV.b (!s0))), (17, (AV.b (decide ((wr (x.lba + x.len)) > blocks)))), (34, (AV.fn (111 : Nat) [(AV.pt 3 0), (AV.pt 2 0)]))] 63 [(35 : Nat)] (rfA Try.prog 108 0) (rfB Try.prog 108 0))), (3, (AObj.cells (xc x))), (2, (AObj.cells [(exs l)])), (1, (AObj.cells [(AV.rf 16 5 0 (s13.2.length + (1 : Nat)))])), (0, (AObj.cells (xc x))), (11, AObj.dead)]) Bool.true)) kq (ac h17 (ac h18 (ac (fq (p := ((((0 : Nat) + ((Int.toNat (wr ((s13.2.length : Int) - (1 : Int)))) * 5)) + (5 : Nat)) ≤ (List.length (List.flatMap Ex.cells s13.2))))) (ac (show (List.take 5 (List.drop ((0 : Nat) + ((Int.toNat (wr ((s13.2.length : Int) - (1 : Int)))) * 5)) (List.flatMap Ex.cells s13.2))) = (Ex.cells (exAt s13.2 (Int.toNat (wr ((s13.2.length : Int) - (1 : Int)))))) from (ex_takeO bq bq)) (ac (eJoin_ok ((exAt s13.2 (Int.toNat (wr ((s13.2.length : Int) - (1 : Int)))))) (s14.1) _ h19).any0 (ac (show orderOk (rg Try.prog 108 0) = true ∧ allOk (Region.before (rg Try.prog 108 0)) [] 0 [(some [1], some []), (some [], some []), (some [], some []), (some [], some []), (some [11], some []), (some [13], some []), (some [], some []), (some [], some []), (some [], some []), (some [], some []), (some [], some [14]), (some [14], some [14]), (some [], some [])] = true from (ord_of ord_108_0 bef_108_0 kq)) (ac h20 (ac (tq (p := (((0 : Nat) = (0 : Nat)) ∧ ((List.length (xc s14.1)) = (5 : Nat))))) (ac h21 an))))))))) (Nat.le_of_ble_eq_true rfl) (Nat.le_of_ble_eq_true rfl) (absB_of [16] [] kq (.consn kq (.eqv tq rfl) (.consn kq (.eqv tq rfl) (.consn kq (.agp pq) (.consn kq (.pt rfl) (.consn kq (.pt rfl) (.consn kq (.eqv tq rfl) (.consn kq (.eqv tq rfl) (.consn kq (.eqv tq rfl) (.consn kq (.fn (.cons (.pt rfl) (.cons (.pt rfl) .nil))) (.consn kq (.agp pq) (.consn kq (.pt rfl) .nil))))))))))) (.cons (.old rfl rfl (.cells (.pl rfl pq))) (.cons (.old rfl rfl (.cells (.pl rfl pq))) (.cons (.old rfl rfl (.cells (.pl rfl pq))) (.cons (.old rfl rfl (.cells (.pl rfl pq))) (.cons (.old rfl rfl (.cells (.pl rfl pq))) (.cons (.old rfl rfl (.cells (.pl rfl pq))) (.cons (.old rfl rfl (.loop (.consn kq (.eqv tq rfl) (.consn kq (.eqv tq rfl) (.consn kq (.agp pq) (.consn kq (.pt rfl) (.consn kq (.pt rfl) (.consn kq (.eqv tq rfl) (.consn kq (.eqv tq rfl) (.consn kq (.eqv tq rfl) (.consn kq (.fn (.cons (.pt rfl) (.cons (.pt rfl) .nil))) .nil))))))))))) (.cons (.old rfl rfl (.cells (.pl rfl pq))) (.cons (.old rfl rfl (.cells (.cons (.eqv tq rfl) .nil))) (.cons (.old rfl rfl (.cells (.cons (.rfn (n := (s13.2.length + (1 : Nat))) rfl tq) .nil))) (.cons (.old rfl rfl (.cells (.pl rfl pq))) (.cons (.old rfl rfl (.cells (.pl tq pq))) .nil)))))))))))))
  ·
    have h17p := of_decide_eq_false h17
    refine tp_ok (fun h18 => ?_)
    intro e; injection e with e; subst e
    exact leafS vw_eq (k := 300) (r := []) (hs := hz [(6, [.no]), (3, [.fc]), (1, [.fc, .fc, .yes, .yes]), (1, [.fc])]) (ks := [0, 1, 2, 5, 6, 7, 12, 17, 34, 35, 8]) (st1 := (St.mk [(0, (AV.i blocks)), (1, (exs l)), (2, (AV.ag (xc x))), (5, (AV.pt 0 0)), (6, (AV.pt 1 0)), (7, (AV.i 0)), (12, (AV.b (!s0))), (17, (AV.b (decide ((wr (x.lba + x.len)) > blocks)))), (34, (AV.fn (111 : Nat) [(AV.pt 3 0), (AV.pt 2 0)])), (35, (AV.ag (xc s14.1))), (8, (AV.pt 13 0))] 63 (AH.mk 16 [(15, (AObj.cells ((List.flatMap Ex.cells s13.2) ++ (xc s14.1)))), (14, (AObj.cells (xc s14.1))), (13, (AObj.cells (xc s14.1))), (12, (AObj.cells (xc s14.1))), (10, (AObj.cells (xc x))), (8, (AObj.cells (xc s8.1))), (7, (AObj.cells (xc s8.1))), (6, (AObj.cells (xc (exAt l s5.2.1.toNat)))), (4, (AObj.loop Go.LoopState.busy Option.none [(0, (AV.i blocks)), (1, (exs l)), (2, (AV.ag (xc x))), (5, (AV.pt 0 0)), (6, (AV.pt 1 0)), (7, (AV.i 0)), (12, (AV.b (!s0))), (17, (AV.b (decide ((wr (x.lba + x.len)) > blocks)))), (34, (AV.fn (111 : Nat) [(AV.pt 3 0), (AV.pt 2 0)]))] 63 [(35 : Nat)] (rfA Try.prog 108 0) (rfB Try.prog 108 0))), (3, (AObj.cells (xc x))), (2, (AObj.cells [(exs l)])), (1, (AObj.cells [(AV.rf 15 5 0 (s13.2.length + (1 : Nat)))])), (0, (AObj.cells (xc x))), (11, AObj.dead)]) Bool.true)) kq (ac h17 (ac (tq (p := (((0 : Nat) = (0 : Nat)) ∧ ((List.length (xc s14.1)) = (5 : Nat))))) (ac h18 an))) (Nat.le_of_ble_eq_true rfl) (Nat.le_of_ble_eq_true rfl) (absB_of [15] [] kq (.consn kq (.eqv tq rfl) (.consn kq (.eqv tq rfl) (.consn kq (.agp pq) (.consn kq (.pt rfl) (.consn kq (.pt rfl) (.consn kq (.eqv tq rfl) (.consn kq (.eqv tq rfl) (.consn kq (.eqv tq rfl) (.consn kq (.fn (.cons (.pt rfl) (.cons (.pt rfl) .nil))) (.consn kq (.agp pq) (.consn kq (.pt rfl) .nil))))))))))) (.cons (.old rfl rfl (.cells (.pl rfl pq))) (.cons (.old rfl rfl (.cells (.pl rfl pq))) (.cons (.old rfl rfl (.cells (.pl rfl pq))) (.cons (.old rfl rfl (.cells (.pl rfl pq))) (.cons (.old rfl rfl (.cells (.pl rfl pq))) (.cons (.old rfl rfl (.cells (.pl rfl pq))) (.cons (.old rfl rfl (.loop (.consn kq (.eqv tq rfl) (.consn kq (.eqv tq rfl) (.consn kq (.agp pq) (.consn kq (.pt rfl) (.consn kq (.pt rfl) (.consn kq (.eqv tq rfl) (.consn kq (.eqv tq rfl) (.consn kq (.eqv tq rfl) (.consn kq (.fn (.cons (.pt rfl) (.cons (.pt rfl) .nil))) .nil))))))))))) (.cons (.old rfl rfl (.cells (.pl rfl pq))) (.cons (.old rfl rfl (.cells (.cons (.eqv tq rfl) .nil))) (.cons (.old rfl rfl (.cells (.cons (.rfn (n := (s13.2.length + (1 : Nat))) rfl tq) .nil))) (.cons (.old rfl rfl (.cells (.pl rfl pq))) (.cons (.old rfl rfl (.cells (.pl tq pq))) .nil)))))))))))))
noncomputable abbrev mPut_B4_I (blocks : Int) (l : List Ex) (x : Ex) (s0 : Bool) (s2 : Bool) (s5 : Bool × Int × List Ex) (s8 : Ex × Bool) (s10 : List Ex × List Ex) (s13 : Ex × Bool) : St := (St.mk [(0, (AV.i blocks)), (1, (exs l)), (2, (AV.ag (xc x))), (5, (AV.pt 0 0)), (6, (AV.pt 1 0)), (7, (AV.i 0)), (12, (AV.b (!s0))), (17, (AV.b (decide ((wr (x.lba + x.len)) > blocks)))), (34, (AV.fn (111 : Nat) [(AV.pt 3 0), (AV.pt 2 0)])), (35, (AV.ag (xc s13.1))), (8, (AV.pt 11 0))] 63 (AH.mk 12 [(11, (AObj.cells (xc s13.1))), (10, (AObj.cells (xc s13.1))), (8, (AObj.cells (xc s8.1))), (7, (AObj.cells (xc s8.1))), (6, (AObj.cells (xc (exAt l s5.2.1.toNat)))), (4, (AObj.loop Go.LoopState.busy Option.none [(0, (AV.i blocks)), (1, (exs l)), (2, (AV.ag (xc x))), (5, (AV.pt 0 0)), (6, (AV.pt 1 0)), (7, (AV.i 0)), (12, (AV.b (!s0))), (17, (AV.b (decide ((wr (x.lba + x.len)) > blocks)))), (34, (AV.fn (111 : Nat) [(AV.pt 3 0), (AV.pt 2 0)]))] 63 [(35 : Nat)] (rfA Try.prog 108 0) (rfB Try.prog 108 0))), (3, (AObj.cells (xc x))), (2, (AObj.cells [(exs l)])), (1, (AObj.cells [(AV.rf 9 5 0 s10.2.length)])), (0, (AObj.cells (xc x))), (9, (AObj.cells (List.flatMap Ex.cells s10.2)))]) Bool.true)
noncomputable abbrev mPut_B4_S (blocks : Int) (l : List Ex) (x : Ex) (s0 : Bool) (s2 : Bool) (s5 : Bool × Int × List Ex) (s8 : Ex × Bool) (s10 : List Ex × List Ex) (s13 : Ex × Bool) (s15 : List Ex × List Ex) : St := (St.mk [(0, (AV.i blocks)), (1, (exs l)), (2, (AV.ag (xc x))), (5, (AV.pt 0 0)), (6, (AV.pt 1 0)), (7, (AV.i 0)), (12, (AV.b (!s0))), (17, (AV.b (decide ((wr (x.lba + x.len)) > blocks)))), (34, (AV.fn (111 : Nat) [(AV.pt 3 0), (AV.pt 2 0)])), (35, (AV.ag (xc s13.1))), (8, (AV.pt 11 0))] 63 (AH.mk 13 [(11, (AObj.cells (xc s13.1))), (10, (AObj.cells (xc s13.1))), (8, (AObj.cells (xc s8.1))), (7, (AObj.cells (xc s8.1))), (6, (AObj.cells (xc (exAt l s5.2.1.toNat)))), (4, (AObj.loop Go.LoopState.busy Option.none [(0, (AV.i blocks)), (1, (exs l)), (2, (AV.ag (xc x))), (5, (AV.pt 0 0)), (6, (AV.pt 1 0)), (7, (AV.i 0)), (12, (AV.b (!s0))), (17, (AV.b (decide ((wr (x.lba + x.len)) > blocks)))), (34, (AV.fn (111 : Nat) [(AV.pt 3 0), (AV.pt 2 0)]))] 63 [(35 : Nat)] (rfA Try.prog 108 0) (rfB Try.prog 108 0))), (3, (AObj.cells (xc x))), (2, (AObj.cells [(exs l)])), (1, (AObj.cells [(AV.rf 12 5 0 s15.2.length)])), (0, (AObj.cells (xc x))), (12, (AObj.cells (List.flatMap Ex.cells s15.2)))]) Bool.true)
noncomputable def mPut_B4 (blocks : Int) (l : List Ex) (x : Ex) (s0 : Bool) (s2 : Bool) (s5 : Bool × Int × List Ex) (s8 : Ex × Bool) (s10 : List Ex × List Ex) (s13 : Ex × Bool) : Option (List Ex × List Ex) :=
 (tb ((decide ((s10.2.length : Int) > (0 : Int))))
  (tp ((((0 : Int) ≤ (wr ((s10.2.length : Int) - (1 : Int)))) ∧ ((wr ((s10.2.length : Int) - (1 : Int))) < (s10.2.length : Int))))
   (tc (eJoin ((exAt s10.2 (Int.toNat (wr ((s10.2.length : Int) - (1 : Int)))))) (s13.1)) fun s18 =>
    (tb ((s18.2 == (0 : Int)))
     (tp ((((List.length (xc s18.1)) = (5 : Nat)) ∧ ((((0 : Nat) + ((Int.toNat (wr ((s10.2.length : Int) - (1 : Int)))) * 5)) + (List.length (xc s18.1))) ≤ (List.length (List.flatMap Ex.cells s10.2)))))
      (some ((([] : List Ex), (List.set s10.2 (Int.toNat (wr ((s10.2.length : Int) - (1 : Int)))) s18.1)))))
     (tp ((((List.length (List.flatMap Ex.cells s10.2)) = (s10.2.length * 5)) ∧ ((s10.2.length + (1 : Nat)) ≤ (4294967296 : Nat))))
      (some ((([] : List Ex), (s10.2 ++ [s13.1]))))))))
  (tp ((((List.length (List.flatMap Ex.cells s10.2)) = (s10.2.length * 5)) ∧ ((s10.2.length + (1 : Nat)) ≤ (4294967296 : Nat))))
   (some ((([] : List Ex), (s10.2 ++ [s13.1]))))))
theorem mPut_B4_ok (blocks : Int) (l : List Ex) (x : Ex) (s0 : Bool) (s2 : Bool) (s5 : Bool × Int × List Ex) (s8 : Ex × Bool) (s10 : List Ex × List Ex) (s13 : Ex × Bool) (zz : List Ex × List Ex) : mPut_B4 blocks l x s0 s2 s5 s8 s10 s13 = some zz → EvStep Try.prog cf 12 ((rfB Try.prog 108 0)) (mPut_B4_I blocks l x s0 s2 s5 s8 s10 s13) (mPut_B4_S blocks l x s0 s2 s5 s8 s10 s13 zz) := by
  unfold mPut_B4
  refine tb_ok (fun h16 => ?_) (fun h16 => ?_)
  ·
    have h16p := of_decide_eq_true h16
    refine tp_ok (fun h17 => ?_)
    refine tc_ok (fun s18 h18 => ?_)
    refine tb_ok (fun h19 => ?_) (fun h19 => ?_)
    ·
      have h19p := eq_of_beq h19
      refine tp_ok (fun h20 => ?_)
      intro e; injection e with e; subst e
      exact leafS vw_eq (k := 300) (r := []) (hs := hz [(6, [.yes]), (4, [.yes, .yes, .cells ((Ex.cells (exAt s10.2 (Int.toNat (wr ((s10.2.length : Int) - (1 : Int)))))))]), (1, [.fc]), (1, [.fres (.tu [Ex.av (s18.1), .i (s18.2)])]), (5, [.fc]), (1, [.yes]), (2, [.yes]), (5, [.fc, .yes, .yes, .cells ((List.flatMap Ex.cells (List.set s10.2 (Int.toNat (wr ((s10.2.length : Int) - (1 : Int)))) s18.1)))])]) (ks := [0, 1, 2, 5, 6, 7, 12, 17, 34, 35, 8]) (st1 := (St.mk [(0, (AV.i blocks)), (1, (exs l)), (2, (AV.ag (xc x))), (5, (AV.pt 0 0)), (6, (AV.pt 1 0)), (7, (AV.i 0)), (12, (AV.b (!s0))), (17, (AV.b (decide ((wr (x.lba + x.len)) > blocks)))), (34, (AV.fn (111 : Nat) [(AV.pt 3 0), (AV.pt 2 0)])), (35, (AV.ag (xc s13.1))), (8, (AV.pt 11 0))] 63 (AH.mk 13 [(12, (AObj.cells (xc s18.1))), (11, (AObj.cells (xc s13.1))), (10, (AObj.cells (xc s13.1))), (8, (AObj.cells (xc s8.1))), (7, (AObj.cells (xc s8.1))), (6, (AObj.cells (xc (exAt l s5.2.1.toNat)))), (4, (AObj.loop Go.LoopState.busy Option.none [(0, (AV.i blocks)), (1, (exs l)), (2, (AV.ag (xc x))), (5, (AV.pt 0 0)), (6, (AV.pt 1 0)), (7, (AV.i 0)), (12, (AV.b (!s0))), (17, (AV.b (decide ((wr (x.lba + x.len)) > blocks)))), (34, (AV.fn (111 : Nat) [(AV.pt 3 0), (AV.pt 2 0)]))] 63 [(35 : Nat)] (rfA Try.prog 108 0) (rfB Try.prog 108 0))), (3, (AObj.cells (xc x))), (2, (AObj.cells [(exs l)])), (1, (AObj.cells [(AV.rf 9 5 0 s10.2.length)])), (0, (AObj.cells (xc x))), (9, (AObj.cells (List.flatMap Ex.cells (List.set s10.2 (Int.toNat (wr ((s10.2.length : Int) - (1 : Int)))) s18.1))))]) Bool.true)) kq (ac h16 (ac h17 (ac (fq (p := ((((0 : Nat) + ((Int.toNat (wr ((s10.2.length : Int) - (1 : Int)))) * 5)) + (5 : Nat)) ≤ (List.length (List.flatMap Ex.cells s10.2))))) (ac (show (List.take 5 (List.drop ((0 : Nat) + ((Int.toNat (wr ((s10.2.length : Int) - (1 : Int)))) * 5)) (List.flatMap Ex.cells s10.2))) = (Ex.cells (exAt s10.2 (Int.toNat (wr ((s10.2.length : Int) - (1 : Int)))))) from (ex_takeO bq bq)) (ac (eJoin_ok ((exAt s10.2 (Int.toNat (wr ((s10.2.length : Int) - (1 : Int)))))) (s13.1) _ h18).any0 (ac (show orderOk (rg Try.prog 108 0) = true ∧ allOk (Region.before (rg Try.prog 108 0)) [] 0 [(some [1], some []), (some [], some []), (some [], some []), (some [], some []), (some [9], some []), (some [11], some []), (some [], some []), (some [], some []), (some [], some []), (some [], some []), (some [], some [12]), (some [12], some [12]), (some [], some [])] = true from (ord_of ord_108_0 bef_108_0 kq)) (ac h19 (ac h17 (ac h20 (ac (show (((List.take ((0 : Nat) + ((Int.toNat (wr ((s10.2.length : Int) - (1 : Int)))) * 5)) (List.flatMap Ex.cells s10.2)) ++ (xc s18.1)) ++ (List.drop (((0 : Nat) + ((Int.toNat (wr ((s10.2.length : Int) - (1 : Int)))) * 5)) + (List.length (xc s18.1))) (List.flatMap Ex.cells s10.2))) = (List.flatMap Ex.cells (List.set s10.2 (Int.toNat (wr ((s10.2.length : Int) - (1 : Int)))) s18.1)) from (ex_setO (x := s18.1) bq bq tq)) an)))))))))) (Nat.le_of_ble_eq_true rfl) (Nat.le_of_ble_eq_true rfl) (absB_of [9] [] kq (.consn kq (.eqv tq rfl) (.consn kq (.eqv tq rfl) (.consn kq (.agp pq) (.consn kq (.pt rfl) (.consn kq (.pt rfl) (.consn kq (.eqv tq rfl) (.consn kq (.eqv tq rfl) (.consn kq (.eqv tq rfl) (.consn kq (.fn (.cons (.pt rfl) (.cons (.pt rfl) .nil))) (.consn kq (.agp pq) (.consn kq (.pt rfl) .nil))))))))))) (.cons (.old rfl rfl (.cells (.pl rfl pq))) (.cons (.old rfl rfl (.cells (.pl rfl pq))) (.cons (.old rfl rfl (.cells (.pl rfl pq))) (.cons (.old rfl rfl (.cells (.pl rfl pq))) (.cons (.old rfl rfl (.cells (.pl rfl pq))) (.cons (.old rfl rfl (.loop (.consn kq (.eqv tq rfl) (.consn kq (.eqv tq rfl) (.consn kq (.agp pq) (.consn kq (.pt rfl) (.consn kq (.pt rfl) (.consn kq (.eqv tq rfl) (.consn kq (.eqv tq rfl) (.consn kq (.eqv tq rfl) (.consn kq (.fn (.cons (.pt rfl) (.cons (.pt rfl) .nil))) .nil))))))))))) (.cons (.old rfl rfl (.cells (.pl rfl pq))) (.cons (.old rfl rfl (.cells (.cons (.eqv tq rfl) .nil))) (.cons (.old rfl rfl (.cells (.cons (.rfn (n := s10.2.length) rfl tq) .nil))) (.cons (.old rfl rfl (.cells (.pl rfl pq))) (.cons (.old rfl rfl (.cells (.pl tq pq))) .nil))))))))))))
    ·
      have h19p := ne_of_beq_false h19
      refine tp_ok (fun h20 => ?_)
      intro e; injection e with e; subst e
      exact leafS vw_eq (k := 300) (r := []) (hs := hz [(6, [.yes]), (4, [.yes, .yes, .cells ((Ex.cells (exAt s10.2 (Int.toNat (wr ((s10.2.length : Int) - (1 : Int)))))))]), (1, [.fc]), (1, [.fres (.tu [Ex.av (s18.1), .i (s18.2)])]), (5, [.fc]), (1, [.yes]), (2, [.no]), (3, [.fc]), (1, [.fc, .fc, .yes, .yes]), (1, [.fc])]) (ks := [0, 1, 2, 5, 6, 7, 12, 17, 34, 35, 8]) (st1 := (St.mk [(0, (AV.i blocks)), (1, (exs l)), (2, (AV.ag (xc x))), (5, (AV.pt 0 0)), (6, (AV.pt 1 0)), (7, (AV.i 0)), (12, (AV.b (!s0))), (17, (AV.b (decide ((wr (x.lba + x.len)) > blocks)))), (34, (AV.fn (111 : Nat) [(AV.pt 3 0), (AV.pt 2 0)])), (35, (AV.ag (xc s13.1))), (8, (AV.pt 11 0))] 63 (AH.mk 15 [(14, (AObj.cells ((List.flatMap Ex.cells s10.2) ++ (xc s13.1)))), (13, (AObj.cells (xc s13.1))), (12, (AObj.cells (xc s18.1))), (11, (AObj.cells (xc s13.1))), (10, (AObj.cells (xc s13.1))), (8, (AObj.cells (xc s8.1))), (7, (AObj.cells (xc s8.1))), (6, (AObj.cells (xc (exAt l s5.2.1.toNat)))), (4, (AObj.loop Go.LoopState.busy Option.none [(0, (AV.i blocks)), (1, (exs l)), (2, (AV.ag (xc x))), (5, (AV.pt 0 0)), (6, (AV.pt 1 0)), (7, (AV.i 0)), (12, (AV.b (!s0))), (17, (AV.b (decide ((wr (x.lba + x.len)) > blocks)))), (34, (AV.fn (111 : Nat) [(AV.pt 3 0), (AV.pt 2 0)]))] 63 [(35 : Nat)] (rfA Try.prog 108 0) (rfB Try.prog 108 0))), (3, (AObj.cells (xc x))), (2, (AObj.cells [(exs l)])), (1, (AObj.cells [(AV.rf 14 5 0 (s10.2.length + (1 : Nat)))])), (0, (AObj.cells (xc x))), (9, AObj.dead)]) Bool.true)) kq (ac h16 (ac h17 (ac (fq (p := ((((0 : Nat) + ((Int.toNat (wr ((s10.2.length : Int) - (1 : Int)))) * 5)) + (5 : Nat)) ≤ (List.length (List.flatMap Ex.cells s10.2))))) (ac (show (List.take 5 (List.drop ((0 : Nat) + ((Int.toNat (wr ((s10.2.length : Int) - (1 : Int)))) * 5)) (List.flatMap Ex.cells s10.2))) = (Ex.cells (exAt s10.2 (Int.toNat (wr ((s10.2.length : Int) - (1 : Int)))))) from (ex_takeO bq bq)) (ac (eJoin_ok ((exAt s10.2 (Int.toNat (wr ((s10.2.length : Int) - (1 : Int)))))) (s13.1) _ h18).any0 (ac (show orderOk (rg Try.prog 108 0) = true ∧ allOk (Region.before (rg Try.prog 108 0)) [] 0 [(some [1], some []), (some [], some []), (some [], some []), (some [], some []), (some [9], some []), (some [11], some []), (some [], some []), (some [], some []), (some [], some []), (some [], some []), (some [], some [12]), (some [12], some [12]), (some [], some [])] = true from (ord_of ord_108_0 bef_108_0 kq)) (ac h19 (ac (tq (p := (((0 : Nat) = (0 : Nat)) ∧ ((List.length (xc s13.1)) = (5 : Nat))))) (ac h20 an))))))))) (Nat.le_of_ble_eq_true rfl) (Nat.le_of_ble_eq_true rfl) (absB_of [14] [] kq (.consn kq (.eqv tq rfl) (.consn kq (.eqv tq rfl) (.consn kq (.agp pq) (.consn kq (.pt rfl) (.consn kq (.pt rfl) (.consn kq (.eqv tq rfl) (.consn kq (.eqv tq rfl) (.consn kq (.eqv tq rfl) (.consn kq (.fn (.cons (.pt rfl) (.cons (.pt rfl) .nil))) (.consn kq (.agp pq) (.consn kq (.pt rfl) .nil))))))))))) (.cons (.old rfl rfl (.cells (.pl rfl pq))) (.cons (.old rfl rfl (.cells (.pl rfl pq))) (.cons (.old rfl rfl (.cells (.pl rfl pq))) (.cons (.old rfl rfl (.cells (.pl rfl pq))) (.cons (.old rfl rfl (.cells (.pl rfl pq))) (.cons (.old rfl rfl (.loop (.consn kq (.eqv tq rfl) (.consn kq (.eqv tq rfl) (.consn kq (.agp pq) (.consn kq (.pt rfl) (.consn kq (.pt rfl) (.consn kq (.eqv tq rfl) (.consn kq (.eqv tq rfl) (.consn kq (.eqv tq rfl) (.consn kq (.fn (.cons (.pt rfl) (.cons (.pt rfl) .nil))) .nil))))))))))) (.cons (.old rfl rfl (.cells (.pl rfl pq))) (.cons (.old rfl rfl (.cells (.cons (.eqv tq rfl) .nil))) (.cons (.old rfl rfl (.cells (.cons (.rfn (n := (s10.2.length + (1 : Nat))) rfl tq) .nil))) (.cons (.old rfl rfl (.cells (.pl rfl pq))) (.cons (.old rfl rfl (.cells (.pl tq pq))) .nil))))))))))))
  ·
    have h16p := of_decide_eq_false h16
    refine tp_ok (fun h17 => ?_)
    intro e; injection e with e; subst e
    exact leafS vw_eq (k := 300) (r := []) (hs := hz [(6, [.no]), (3, [.fc]), (1, [.fc, .fc, .yes, .yes]), (1, [.fc])]) (ks := [0, 1, 2, 5, 6, 7, 12, 17, 34, 35, 8]) (st1 := (St.mk [(0, (AV.i blocks)), (1, (exs l)), (2, (AV.ag (xc x))), (5, (AV.pt 0 0)), (6, (AV.pt 1 0)), (7, (AV.i 0)), (12, (AV.b (!s0))), (17, (AV.b (decide ((wr (x.lba + x.len)) > blocks)))), (34, (AV.fn (111 : Nat) [(AV.pt 3 0), (AV.pt 2 0)])), (35, (AV.ag (xc s13.1))), (8, (AV.pt 11 0))] 63 (AH.mk 14 [(13, (AObj.cells ((List.flatMap Ex.cells s10.2) ++ (xc s13.1)))), (12, (AObj.cells (xc s13.1))), (11, (AObj.cells (xc s13.1))), (10, (AObj.cells (xc s13.1))), (8, (AObj.cells (xc s8.1))), (7, (AObj.cells (xc s8.1))), (6, (AObj.cells (xc (exAt l s5.2.1.toNat)))), (4, (AObj.loop Go.LoopState.busy Option.none [(0, (AV.i blocks)), (1, (exs l)), (2, (AV.ag (xc x))), (5, (AV.pt 0 0)), (6, (AV.pt 1 0)), (7, (AV.i 0)), (12, (AV.b (!s0))), (17, (AV.b (decide ((wr (x.lba + x.len)) > blocks)))), (34, (AV.fn (111 : Nat) [(AV.pt 3 0), (AV.pt 2 0)]))] 63 [(35 : Nat)] (rfA Try.prog 108 0) (rfB Try.prog 108 0))), (3, (AObj.cells (xc x))), (2, (AObj.cells [(exs l)])), (1, (AObj.cells [(AV.rf 13 5 0 (s10.2.length + (1 : Nat)))])), (0, (AObj.cells (xc x))), (9, AObj.dead)]) Bool.true)) kq (ac h16 (ac (tq (p := (((0 : Nat) = (0 : Nat)) ∧ ((List.length (xc s13.1)) = (5 : Nat))))) (ac h17 an))) (Nat.le_of_ble_eq_true rfl) (Nat.le_of_ble_eq_true rfl) (absB_of [13] [] kq (.consn kq (.eqv tq rfl) (.consn kq (.eqv tq rfl) (.consn kq (.agp pq) (.consn kq (.pt rfl) (.consn kq (.pt rfl) (.consn kq (.eqv tq rfl) (.consn kq (.eqv tq rfl) (.consn kq (.eqv tq rfl) (.consn kq (.fn (.cons (.pt rfl) (.cons (.pt rfl) .nil))) (.consn kq (.agp pq) (.consn kq (.pt rfl) .nil))))))))))) (.cons (.old rfl rfl (.cells (.pl rfl pq))) (.cons (.old rfl rfl (.cells (.pl rfl pq))) (.cons (.old rfl rfl (.cells (.pl rfl pq))) (.cons (.old rfl rfl (.cells (.pl rfl pq))) (.cons (.old rfl rfl (.cells (.pl rfl pq))) (.cons (.old rfl rfl (.loop (.consn kq (.eqv tq rfl) (.consn kq (.eqv tq rfl) (.consn kq (.agp pq) (.consn kq (.pt rfl) (.consn kq (.pt rfl) (.consn kq (.eqv tq rfl) (.consn kq (.eqv tq rfl) (.consn kq (.eqv tq rfl) (.consn kq (.fn (.cons (.pt rfl) (.cons (.pt rfl) .nil))) .nil))))))))))) (.cons (.old rfl rfl (.cells (.pl rfl pq))) (.cons (.old rfl rfl (.cells (.cons (.eqv tq rfl) .nil))) (.cons (.old rfl rfl (.cells (.cons (.rfn (n := (s10.2.length + (1 : Nat))) rfl tq) .nil))) (.cons (.old rfl rfl (.cells (.pl rfl pq))) (.cons (.old rfl rfl (.cells (.pl tq pq))) .nil))))))))))))
noncomputable abbrev mPut_B5_I (blocks : Int) (l : List Ex) (x : Ex) (s0 : Bool) (s2 : Bool) (s5 : Bool × Int × List Ex) (s8 : Ex × Bool) (s10 : List Ex × List Ex) (s12 : Ex × Bool) : St := (St.mk [(0, (AV.i blocks)), (1, (exs l)), (2, (AV.ag (xc x))), (5, (AV.pt 0 0)), (6, (AV.pt 1 0)), (7, (AV.i 0)), (12, (AV.b (!s0))), (17, (AV.b (decide ((wr (x.lba + x.len)) > blocks)))), (34, (AV.fn (111 : Nat) [(AV.pt 3 0), (AV.pt 2 0)])), (35, (AV.ag (xc s12.1))), (8, (AV.pt 11 0))] 63 (AH.mk 12 [(11, (AObj.cells (xc s12.1))), (10, (AObj.cells (xc s12.1))), (8, (AObj.cells (xc s8.1))), (7, (AObj.cells (xc s8.1))), (6, (AObj.cells (xc (exAt l s5.2.1.toNat)))), (4, (AObj.loop Go.LoopState.busy Option.none [(0, (AV.i blocks)), (1, (exs l)), (2, (AV.ag (xc x))), (5, (AV.pt 0 0)), (6, (AV.pt 1 0)), (7, (AV.i 0)), (12, (AV.b (!s0))), (17, (AV.b (decide ((wr (x.lba + x.len)) > blocks)))), (34, (AV.fn (111 : Nat) [(AV.pt 3 0), (AV.pt 2 0)]))] 63 [(35 : Nat)] (rfA Try.prog 108 0) (rfB Try.prog 108 0))), (3, (AObj.cells (xc x))), (2, (AObj.cells [(exs l)])), (1, (AObj.cells [(AV.rf 9 5 0 s10.2.length)])), (0, (AObj.cells (xc x))), (9, (AObj.cells (List.flatMap Ex.cells s10.2)))]) Bool.true)
noncomputable abbrev mPut_B5_S (blocks : Int) (l : List Ex) (x : Ex) (s0 : Bool) (s2 : Bool) (s5 : Bool × Int × List Ex) (s8 : Ex × Bool) (s10 : List Ex × List Ex) (s12 : Ex × Bool) (s14 : List Ex × List Ex) : St := (St.mk [(0, (AV.i blocks)), (1, (exs l)), (2, (AV.ag (xc x))), (5, (AV.pt 0 0)), (6, (AV.pt 1 0)), (7, (AV.i 0)), (12, (AV.b (!s0))), (17, (AV.b (decide ((wr (x.lba + x.len)) > blocks)))), (34, (AV.fn (111 : Nat) [(AV.pt 3 0), (AV.pt 2 0)])), (35, (AV.ag (xc s12.1))), (8, (AV.pt 11 0))] 63 (AH.mk 13 [(11, (AObj.cells (xc s12.1))), (10, (AObj.cells (xc s12.1))), (8, (AObj.cells (xc s8.1))), (7, (AObj.cells (xc s8.1))), (6, (AObj.cells (xc (exAt l s5.2.1.toNat)))), (4, (AObj.loop Go.LoopState.busy Option.none [(0, (AV.i blocks)), (1, (exs l)), (2, (AV.ag (xc x))), (5, (AV.pt 0 0)), (6, (AV.pt 1 0)), (7, (AV.i 0)), (12, (AV.b (!s0))), (17, (AV.b (decide ((wr (x.lba + x.len)) > blocks)))), (34, (AV.fn (111 : Nat) [(AV.pt 3 0), (AV.pt 2 0)]))] 63 [(35 : Nat)] (rfA Try.prog 108 0) (rfB Try.prog 108 0))), (3, (AObj.cells (xc x))), (2, (AObj.cells [(exs l)])), (1, (AObj.cells [(AV.rf 12 5 0 s14.2.length)])), (0, (AObj.cells (xc x))), (12, (AObj.cells (List.flatMap Ex.cells s14.2)))]) Bool.true)
noncomputable def mPut_B5 (blocks : Int) (l : List Ex) (x : Ex) (s0 : Bool) (s2 : Bool) (s5 : Bool × Int × List Ex) (s8 : Ex × Bool) (s10 : List Ex × List Ex) (s12 : Ex × Bool) : Option (List Ex × List Ex) :=
 (tb ((decide ((s10.2.length : Int) > (0 : Int))))
  (tp ((((0 : Int) ≤ (wr ((s10.2.length : Int) - (1 : Int)))) ∧ ((wr ((s10.2.length : Int) - (1 : Int))) < (s10.2.length : Int))))
   (tc (eJoin ((exAt s10.2 (Int.toNat (wr ((s10.2.length : Int) - (1 : Int)))))) (s12.1)) fun s17 =>
    (tb ((s17.2 == (0 : Int)))
     (tp ((((List.length (xc s17.1)) = (5 : Nat)) ∧ ((((0 : Nat) + ((Int.toNat (wr ((s10.2.length : Int) - (1 : Int)))) * 5)) + (List.length (xc s17.1))) ≤ (List.length (List.flatMap Ex.cells s10.2)))))
      (some ((([] : List Ex), (List.set s10.2 (Int.toNat (wr ((s10.2.length : Int) - (1 : Int)))) s17.1)))))
     (tp ((((List.length (List.flatMap Ex.cells s10.2)) = (s10.2.length * 5)) ∧ ((s10.2.length + (1 : Nat)) ≤ (4294967296 : Nat))))
      (some ((([] : List Ex), (s10.2 ++ [s12.1]))))))))
  (tp ((((List.length (List.flatMap Ex.cells s10.2)) = (s10.2.length * 5)) ∧ ((s10.2.length + (1 : Nat)) ≤ (4294967296 : Nat))))
   (some ((([] : List Ex), (s10.2 ++ [s12.1]))))))
theorem mPut_B5_ok (blocks : Int) (l : List Ex) (x : Ex) (s0 : Bool) (s2 : Bool) (s5 : Bool × Int × List Ex) (s8 : Ex × Bool) (s10 : List Ex × List Ex) (s12 : Ex × Bool) (zz : List Ex × List Ex) : mPut_B5 blocks l x s0 s2 s5 s8 s10 s12 = some zz → EvStep Try.prog cf 12 ((rfB Try.prog 108 0)) (mPut_B5_I blocks l x s0 s2 s5 s8 s10 s12) (mPut_B5_S blocks l x s0 s2 s5 s8 s10 s12 zz) := by
  unfold mPut_B5
  refine tb_ok (fun h15 => ?_) (fun h15 => ?_)
  ·
    have h15p := of_decide_eq_true h15
    refine tp_ok (fun h16 => ?_)
    refine tc_ok (fun s17 h17 => ?_)
    refine tb_ok (fun h18 => ?_) (fun h18 => ?_)
    ·
      have h18p := eq_of_beq h18
      refine tp_ok (fun h19 => ?_)
      intro e; injection e with e; subst e
      exact leafS vw_eq (k := 300) (r := []) (hs := hz [(6, [.yes]), (4, [.yes, .yes, .cells ((Ex.cells (exAt s10.2 (Int.toNat (wr ((s10.2.length : Int) - (1 : Int)))))))]), (1, [.fc]), (1, [.fres (.tu [Ex.av (s17.1), .i (s17.2)])]), (5, [.fc]), (1, [.yes]), (2, [.yes]), (5, [.fc, .yes, .yes, .cells ((List.flatMap Ex.cells (List.set s10.2 (Int.toNat (wr ((s10.2.length : Int) - (1 : Int)))) s17.1)))])]) (ks := [0, 1, 2, 5, 6, 7, 12, 17, 34, 35, 8]) (st1 := (St.mk [(0, (AV.i blocks)), (1, (exs l)), (2, (AV.ag (xc x))), (5, (AV.pt 0 0)), (6, (AV.pt 1 0)), (7, (AV.i 0)), (12, (AV.b (!s0))), (17, (AV.b (decide ((wr (x.lba + x.len)) > blocks)))), (34, (AV.fn (111 : Nat) [(AV.pt 3 0), (AV.pt 2 0)])), (35, (AV.ag (xc s12.1))), (8, (AV.pt 11 0))] 63 (AH.mk 13 [(12, (AObj.cells (xc s17.1))), (11, (AObj.cells (xc s12.1))), (10, (AObj.cells (xc s12.1))), (8, (AObj.cells (xc s8.1))), (7, (AObj.cells (xc s8.1))), (6, (AObj.cells (xc (exAt l s5.2.1.toNat)))), (4, (AObj.loop Go.LoopState.busy Option.none [(0, (AV.i blocks)), (1, (exs l)), (2, (AV.ag (xc x))), (5, (AV.pt 0 0)), (6, (AV.pt 1 0)), (7, (AV.i 0)), (12, (AV.b (!s0))), (17, (AV.b (decide ((wr (x.lba + x.len)) > blocks)))), (34, (AV.fn (111 : Nat) [(AV.pt 3 0), (AV.pt 2 0)]))] 63 [(35 : Nat)] (rfA Try.prog 108 0) (rfB Try.prog 108 0))), (3, (AObj.cells (xc x))), (2, (AObj.cells [(exs l)])), (1, (AObj.cells [(AV.rf 9 5 0 s10.2.length)])), (0, (AObj.cells (xc x))), (9, (AObj.cells (List.flatMap Ex.cells (List.set s10.2 (Int.toNat (wr ((s10.2.length : Int) - (1 : Int)))) s17.1))))]) Bool.true)) kq (ac h15 (ac h16 (ac (fq (p := ((((0 : Nat) + ((Int.toNat (wr ((s10.2.length : Int) - (1 : Int)))) * 5)) + (5 : Nat)) ≤ (List.length (List.flatMap Ex.cells s10.2))))) (ac (show (List.take 5 (List.drop ((0 : Nat) + ((Int.toNat (wr ((s10.2.length : Int) - (1 : Int)))) * 5)) (List.flatMap Ex.cells s10.2))) = (Ex.cells (exAt s10.2 (Int.toNat (wr ((s10.2.length : Int) - (1 : Int)))))) from (ex_takeO bq bq)) (ac (eJoin_ok ((exAt s10.2 (Int.toNat (wr ((s10.2.length : Int) - (1 : Int)))))) (s12.1) _ h17).any0 (ac (show orderOk (rg Try.prog 108 0) = true ∧ allOk (Region.before (rg Try.prog 108 0)) [] 0 [(some [1], some []), (some [], some []), (some [], some []), (some [], some []), (some [9], some []), (some [11], some []), (some [], some []), (some [], some []), (some [], some []), (some [], some []), (some [], some [12]), (some [12], some [12]), (some [], some [])] = true from (ord_of ord_108_0 bef_108_0 kq)) (ac h18 (ac h16 (ac h19 (ac (show (((List.take ((0 : Nat) + ((Int.toNat (wr ((s10.2.length : Int) - (1 : Int)))) * 5)) (List.flatMap Ex.cells s10.2)) ++ (xc s17.1)) ++ (List.drop (((0 : Nat) + ((Int.toNat (wr ((s10.2.length : Int) - (1 : Int)))) * 5)) + (List.length (xc s17.1))) (List.flatMap Ex.cells s10.2))) = (List.flatMap Ex.cells (List.set s10.2 (Int.toNat (wr ((s10.2.length : Int) - (1 : Int)))) s17.1)) from (ex_setO (x := s17.1) bq bq tq)) an)))))))))) (Nat.le_of_ble_eq_true rfl) (Nat.le_of_ble_eq_true rfl) (absB_of [9] [] kq (.consn kq (.eqv tq rfl) (.consn kq (.eqv tq rfl) (.consn kq (.agp pq) (.consn kq (.pt rfl) (.consn kq (.pt rfl) (.consn kq (.eqv tq rfl) (.consn kq (.eqv tq rfl) (.consn kq (.eqv tq rfl) (.consn kq (.fn (.cons (.pt rfl) (.cons (.pt rfl) .nil))) (.consn kq (.agp pq) (.consn kq (.pt rfl) .nil))))))))))) (.cons (.old rfl rfl (.cells (.pl rfl pq))) (.cons (.old rfl rfl (.cells (.pl rfl pq))) (.cons (.old rfl rfl (.cells (.pl rfl pq))) (.cons (.old rfl rfl (.cells (.pl rfl pq))) (.cons (.old rfl rfl (.cells (.pl rfl pq))) (.cons (.old rfl rfl (.loop (.consn kq (.eqv tq rfl) (.consn kq (.eqv tq rfl) (.consn kq (.agp pq) (.consn kq (.pt rfl) (.consn kq (.pt rfl) (.consn kq (.eqv tq rfl) (.consn kq (.eqv tq rfl) (.consn kq (.eqv tq rfl) (.consn kq (.fn (.cons (.pt rfl) (.cons (.pt rfl) .nil))) .nil))))))))))) (.cons (.old rfl rfl (.cells (.pl rfl pq))) (.cons (.old rfl rfl (.cells (.cons (.eqv tq rfl) .nil))) (.cons (.old rfl rfl (.cells (.cons (.rfn (n := s10.2.length) rfl tq) .nil))) (.cons (.old rfl rfl (.cells (.pl rfl pq))) (.cons (.old rfl rfl (.cells (.pl tq pq))) .nil))))))))))))
    ·
      have h18p := ne_of_beq_false h18
      refine tp_ok (fun h19 => ?_)
      intro e; injection e with e; subst e
      exact leafS vw_eq (k := 300) (r := []) (hs := hz [(6, [.yes]), (4, [.yes, .yes, .cells ((Ex.cells (exAt s10.2 (Int.toNat (wr ((s10.2.length : Int) - (1 : Int)))))))]), (1, [.fc]), (1, [.fres (.tu [Ex.av (s17.1), .i (s17.2)])]), (5, [.fc]), (1, [.yes]), (2, [.no]), (3, [.fc]), (1, [.fc, .fc, .yes, .yes]), (1, [.fc])]) (ks := [0, 1, 2, 5, 6, 7, 12, 17, 34, 35, 8]) (st1 := (St.mk [(0, (AV.i blocks)), (1, (exs l)), (2, (AV.ag (xc x))), (5, (AV.pt 0 0)), (6, (AV.pt 1 0)), (7, (AV.i 0)), (12, (AV.b (!s0))), (17, (AV.b (decide ((wr (x.lba + x.len)) > blocks)))), (34, (AV.fn (111 : Nat) [(AV.pt 3 0), (AV.pt 2 0)])), (35, (AV.ag (xc s12.1))), (8, (AV.pt 11 0))] 63 (AH.mk 15 [(14, (AObj.cells ((List.flatMap Ex.cells s10.2) ++ (xc s12.1)))), (13, (AObj.cells (xc s12.1))), (12, (AObj.cells (xc s17.1))), (11, (AObj.cells (xc s12.1))), (10, (AObj.cells (xc s12.1))), (8, (AObj.cells (xc s8.1))), (7, (AObj.cells (xc s8.1))), (6, (AObj.cells (xc (exAt l s5.2.1.toNat)))), (4, (AObj.loop Go.LoopState.busy Option.none [(0, (AV.i blocks)), (1, (exs l)), (2, (AV.ag (xc x))), (5, (AV.pt 0 0)), (6, (AV.pt 1 0)), (7, (AV.i 0)), (12, (AV.b (!s0))), (17, (AV.b (decide ((wr (x.lba + x.len)) > blocks)))), (34, (AV.fn (111 : Nat) [(AV.pt 3 0), (AV.pt 2 0)]))] 63 [(35 : Nat)] (rfA Try.prog 108 0) (rfB Try.prog 108 0))), (3, (AObj.cells (xc x))), (2, (AObj.cells [(exs l)])), (1, (AObj.cells [(AV.rf 14 5 0 (s10.2.length + (1 : Nat)))])), (0, (AObj.cells (xc x))), (9, AObj.dead)]) Bool.true)) kq (ac h15 (ac h16 (ac (fq (p := ((((0 : Nat) + ((Int.toNat (wr ((s10.2.length : Int) - (1 : Int)))) * 5)) + (5 : Nat)) ≤ (List.length (List.flatMap Ex.cells s10.2))))) (ac (show (List.take 5 (List.drop ((0 : Nat) + ((Int.toNat (wr ((s10.2.length : Int) - (1 : Int)))) * 5)) (List.flatMap Ex.cells s10.2))) = (Ex.cells (exAt s10.2 (Int.toNat (wr ((s10.2.length : Int) - (1 : Int)))))) from (ex_takeO bq bq)) (ac (eJoin_ok ((exAt s10.2 (Int.toNat (wr ((s10.2.length : Int) - (1 : Int)))))) (s12.1) _ h17).any0 (ac (show orderOk (rg Try.prog 108 0) = true ∧ allOk (Region.before (rg Try.prog 108 0)) [] 0 [(some [1], some []), (some [], some []), (some [], some []), (some [], some []), (some [9], some []), (some [11], some []), (some [], some []), (some [], some []), (some [], some []), (some [], some []), (some [], some [12]), (some [12], some [12]), (some [], some [])] = true from (ord_of ord_108_0 bef_108_0 kq)) (ac h18 (ac (tq (p := (((0 : Nat) = (0 : Nat)) ∧ ((List.length (xc s12.1)) = (5 : Nat))))) (ac h19 an))))))))) (Nat.le_of_ble_eq_true rfl) (Nat.le_of_ble_eq_true rfl) (absB_of [14] [] kq (.consn kq (.eqv tq rfl) (.consn kq (.eqv tq rfl) (.consn kq (.agp pq) (.consn kq (.pt rfl) (.consn kq (.pt rfl) (.consn kq (.eqv tq rfl) (.consn kq (.eqv tq rfl) (.consn kq (.eqv tq rfl) (.consn kq (.fn (.cons (.pt rfl) (.cons (.pt rfl) .nil))) (.consn kq (.agp pq) (.consn kq (.pt rfl) .nil))))))))))) (.cons (.old rfl rfl (.cells (.pl rfl pq))) (.cons (.old rfl rfl (.cells (.pl rfl pq))) (.cons (.old rfl rfl (.cells (.pl rfl pq))) (.cons (.old rfl rfl (.cells (.pl rfl pq))) (.cons (.old rfl rfl (.cells (.pl rfl pq))) (.cons (.old rfl rfl (.loop (.consn kq (.eqv tq rfl) (.consn kq (.eqv tq rfl) (.consn kq (.agp pq) (.consn kq (.pt rfl) (.consn kq (.pt rfl) (.consn kq (.eqv tq rfl) (.consn kq (.eqv tq rfl) (.consn kq (.eqv tq rfl) (.consn kq (.fn (.cons (.pt rfl) (.cons (.pt rfl) .nil))) .nil))))))))))) (.cons (.old rfl rfl (.cells (.pl rfl pq))) (.cons (.old rfl rfl (.cells (.cons (.eqv tq rfl) .nil))) (.cons (.old rfl rfl (.cells (.cons (.rfn (n := (s10.2.length + (1 : Nat))) rfl tq) .nil))) (.cons (.old rfl rfl (.cells (.pl rfl pq))) (.cons (.old rfl rfl (.cells (.pl tq pq))) .nil))))))))))))
  ·
    have h15p := of_decide_eq_false h15
    refine tp_ok (fun h16 => ?_)
    intro e; injection e with e; subst e
    exact leafS vw_eq (k := 300) (r := []) (hs := hz [(6, [.no]), (3, [.fc]), (1, [.fc, .fc, .yes, .yes]), (1, [.fc])]) (ks := [0, 1, 2, 5, 6, 7, 12, 17, 34, 35, 8]) (st1 := (St.mk [(0, (AV.i blocks)), (1, (exs l)), (2, (AV.ag (xc x))), (5, (AV.pt 0 0)), (6, (AV.pt 1 0)), (7, (AV.i 0)), (12, (AV.b (!s0))), (17, (AV.b (decide ((wr (x.lba + x.len)) > blocks)))), (34, (AV.fn (111 : Nat) [(AV.pt 3 0), (AV.pt 2 0)])), (35, (AV.ag (xc s12.1))), (8, (AV.pt 11 0))] 63 (AH.mk 14 [(13, (AObj.cells ((List.flatMap Ex.cells s10.2) ++ (xc s12.1)))), (12, (AObj.cells (xc s12.1))), (11, (AObj.cells (xc s12.1))), (10, (AObj.cells (xc s12.1))), (8, (AObj.cells (xc s8.1))), (7, (AObj.cells (xc s8.1))), (6, (AObj.cells (xc (exAt l s5.2.1.toNat)))), (4, (AObj.loop Go.LoopState.busy Option.none [(0, (AV.i blocks)), (1, (exs l)), (2, (AV.ag (xc x))), (5, (AV.pt 0 0)), (6, (AV.pt 1 0)), (7, (AV.i 0)), (12, (AV.b (!s0))), (17, (AV.b (decide ((wr (x.lba + x.len)) > blocks)))), (34, (AV.fn (111 : Nat) [(AV.pt 3 0), (AV.pt 2 0)]))] 63 [(35 : Nat)] (rfA Try.prog 108 0) (rfB Try.prog 108 0))), (3, (AObj.cells (xc x))), (2, (AObj.cells [(exs l)])), (1, (AObj.cells [(AV.rf 13 5 0 (s10.2.length + (1 : Nat)))])), (0, (AObj.cells (xc x))), (9, AObj.dead)]) Bool.true)) kq (ac h15 (ac (tq (p := (((0 : Nat) = (0 : Nat)) ∧ ((List.length (xc s12.1)) = (5 : Nat))))) (ac h16 an))) (Nat.le_of_ble_eq_true rfl) (Nat.le_of_ble_eq_true rfl) (absB_of [13] [] kq (.consn kq (.eqv tq rfl) (.consn kq (.eqv tq rfl) (.consn kq (.agp pq) (.consn kq (.pt rfl) (.consn kq (.pt rfl) (.consn kq (.eqv tq rfl) (.consn kq (.eqv tq rfl) (.consn kq (.eqv tq rfl) (.consn kq (.fn (.cons (.pt rfl) (.cons (.pt rfl) .nil))) (.consn kq (.agp pq) (.consn kq (.pt rfl) .nil))))))))))) (.cons (.old rfl rfl (.cells (.pl rfl pq))) (.cons (.old rfl rfl (.cells (.pl rfl pq))) (.cons (.old rfl rfl (.cells (.pl rfl pq))) (.cons (.old rfl rfl (.cells (.pl rfl pq))) (.cons (.old rfl rfl (.cells (.pl rfl pq))) (.cons (.old rfl rfl (.loop (.consn kq (.eqv tq rfl) (.consn kq (.eqv tq rfl) (.consn kq (.agp pq) (.consn kq (.pt rfl) (.consn kq (.pt rfl) (.consn kq (.eqv tq rfl) (.consn kq (.eqv tq rfl) (.consn kq (.eqv tq rfl) (.consn kq (.fn (.cons (.pt rfl) (.cons (.pt rfl) .nil))) .nil))))))))))) (.cons (.old rfl rfl (.cells (.pl rfl pq))) (.cons (.old rfl rfl (.cells (.cons (.eqv tq rfl) .nil))) (.cons (.old rfl rfl (.cells (.cons (.rfn (n := (s10.2.length + (1 : Nat))) rfl tq) .nil))) (.cons (.old rfl rfl (.cells (.pl rfl pq))) (.cons (.old rfl rfl (.cells (.pl tq pq))) .nil))))))))))))
noncomputable abbrev mPut_B6_I (blocks : Int) (l : List Ex) (x : Ex) (s0 : Bool) (s2 : Bool) (s5 : Bool × Int × List Ex) (s8 : Ex × Bool) : St := (St.mk [(0, (AV.i blocks)), (1, (exs l)), (2, (AV.ag (xc x))), (5, (AV.pt 0 0)), (6, (AV.pt 1 0)), (7, (AV.i 0)), (12, (AV.b (!s0))), (17, (AV.b (decide ((wr (x.lba + x.len)) > blocks)))), (34, (AV.fn (111 : Nat) [(AV.pt 3 0), (AV.pt 2 0)])), (35, (AV.ag (xc x))), (8, (AV.pt 8 0))] 63 (AH.mk 9 [(8, (AObj.cells (xc x))), (7, (AObj.cells (xc s8.1))), (6, (AObj.cells (xc (exAt l s5.2.1.toNat)))), (4, (AObj.loop Go.LoopState.busy Option.none [(0, (AV.i blocks)), (1, (exs l)), (2, (AV.ag (xc x))), (5, (AV.pt 0 0)), (6, (AV.pt 1 0)), (7, (AV.i 0)), (12, (AV.b (!s0))), (17, (AV.b (decide ((wr (x.lba + x.len)) > blocks)))), (34, (AV.fn (111 : Nat) [(AV.pt 3 0), (AV.pt 2 0)]))] 63 [(35 : Nat)] (rfA Try.prog 108 0) (rfB Try.prog 108 0))), (3, (AObj.cells (xc x))), (2, (AObj.cells [(exs l)])), (1, (AObj.cells [(AV.rf 5 5 0 s5.2.2.length)])), (0, (AObj.cells (xc x))), (5, (AObj.cells (List.flatMap Ex.cells s5.2.2)))]) Bool.true)
noncomputable abbrev mPut_B6_S (blocks : Int) (l : List Ex) (x : Ex) (s0 : Bool) (s2 : Bool) (s5 : Bool × Int × List Ex) (s8 : Ex × Bool) (s12 : List Ex × List Ex) : St := (St.mk [(0, (AV.i blocks)), (1, (exs l)), (2, (AV.ag (xc x))), (5, (AV.pt 0 0)), (6, (AV.pt 1 0)), (7, (AV.i 0)), (12, (AV.b (!s0))), (17, (AV.b (decide ((wr (x.lba + x.len)) > blocks)))), (34, (AV.fn (111 : Nat) [(AV.pt 3 0), (AV.pt 2 0)])), (35, (AV.ag (xc x))), (8, (AV.pt 8 0))] 63 (AH.mk 10 [(8, (AObj.cells (xc x))), (7, (AObj.cells (xc s8.1))), (6, (AObj.cells (xc (exAt l s5.2.1.toNat)))), (4, (AObj.loop Go.LoopState.busy Option.none [(0, (AV.i blocks)), (1, (exs l)), (2, (AV.ag (xc x))), (5, (AV.pt 0 0)), (6, (AV.pt 1 0)), (7, (AV.i 0)), (12, (AV.b (!s0))), (17, (AV.b (decide ((wr (x.lba + x.len)) > blocks)))), (34, (AV.fn (111 : Nat) [(AV.pt 3 0), (AV.pt 2 0)]))] 63 [(35 : Nat)] (rfA Try.prog 108 0) (rfB Try.prog 108 0))), (3, (AObj.cells (xc x))), (2, (AObj.cells [(exs l)])), (1, (AObj.cells [(AV.rf 9 5 0 s12.2.length)])), (0, (AObj.cells (xc x))), (9, (AObj.cells (List.flatMap Ex.cells s12.2)))]) Bool.true)
noncomputable def mPut_B6 (blocks : Int) (l : List Ex) (x : Ex) (s0 : Bool) (s2 : Bool) (s5 : Bool × Int × List Ex) (s8 : Ex × Bool) : Option (List Ex × List Ex) :=
 (tb ((decide ((s5.2.2.length : Int) > (0 : Int))))
  (tp ((((0 : Int) ≤ (wr ((s5.2.2.length : Int) - (1 : Int)))) ∧ ((wr ((s5.2.2.length : Int) - (1 : Int))) < (s5.2.2.length : Int))))
   (tc (eJoin ((exAt s5.2.2 (Int.toNat (wr ((s5.2.2.length : Int) - (1 : Int)))))) (x)) fun s15 =>
    (tb ((s15.2 == (0 : Int)))
     (tp ((((List.length (xc s15.1)) = (5 : Nat)) ∧ ((((0 : Nat) + ((Int.toNat (wr ((s5.2.2.length : Int) - (1 : Int)))) * 5)) + (List.length (xc s15.1))) ≤ (List.length (List.flatMap Ex.cells s5.2.2)))))
      (some ((([] : List Ex), (List.set s5.2.2 (Int.toNat (wr ((s5.2.2.length : Int) - (1 : Int)))) s15.1)))))
     (tp ((((List.length (List.flatMap Ex.cells s5.2.2)) = (s5.2.2.length * 5)) ∧ ((s5.2.2.length + (1 : Nat)) ≤ (4294967296 : Nat))))
      (some ((([] : List Ex), (s5.2.2 ++ [x]))))))))
  (tp ((((List.length (List.flatMap Ex.cells s5.2.2)) = (s5.2.2.length * 5)) ∧ ((s5.2.2.length + (1 : Nat)) ≤ (4294967296 : Nat))))
   (some ((([] : List Ex), (s5.2.2 ++ [x]))))))
theorem mPut_B6_ok (blocks : Int) (l : List Ex) (x : Ex) (s0 : Bool) (s2 : Bool) (s5 : Bool × Int × List Ex) (s8 : Ex × Bool) (zz : List Ex × List Ex) : mPut_B6 blocks l x s0 s2 s5 s8 = some zz → EvStep Try.prog cf 9 ((rfB Try.prog 108 0)) (mPut_B6_I blocks l x s0 s2 s5 s8) (mPut_B6_S blocks l x s0 s2 s5 s8 zz) := by
  unfold mPut_B6
  refine tb_ok (fun h13 => ?_) (fun h13 => ?_)
  ·
    have h13p := of_decide_eq_true h13
    refine tp_ok (fun h14 => ?_)
    refine tc_ok (fun s15 h15 => ?_)
    refine tb_ok (fun h16 => ?_) (fun h16 => ?_)
    ·
      have h16p := eq_of_beq h16
      refine tp_ok (fun h17 => ?_)
      intro e; injection e with e; subst e
      exact leafS vw_eq (k := 300) (r := []) (hs := hz [(6, [.yes]), (4, [.yes, .yes, .cells ((Ex.cells (exAt s5.2.2 (Int.toNat (wr ((s5.2.2.length : Int) - (1 : Int)))))))]), (1, [.fc]), (1, [.fres (.tu [Ex.av (s15.1), .i (s15.2)])]), (5, [.fc]), (1, [.yes]), (2, [.yes]), (5, [.fc, .yes, .yes, .cells ((List.flatMap Ex.cells (List.set s5.2.2 (Int.toNat (wr ((s5.2.2.length : Int) - (1 : Int)))) s15.1)))])]) (ks := [0, 1, 2, 5, 6, 7, 12, 17, 34, 35, 8]) (st1 := (St.mk [(0, (AV.i blocks)), (1, (exs l)), (2, (AV.ag (xc x))), (5, (AV.pt 0 0)), (6, (AV.pt 1 0)), (7, (AV.i 0)), (12, (AV.b (!s0))), (17, (AV.b (decide ((wr (x.lba + x.len)) > blocks)))), (34, (AV.fn (111 : Nat) [(AV.pt 3 0), (AV.pt 2 0)])), (35, (AV.ag (xc x))), (8, (AV.pt 8 0))] 63 (AH.mk 10 [(9, (AObj.cells (xc s15.1))), (8, (AObj.cells (xc x))), (7, (AObj.cells (xc s8.1))), (6, (AObj.cells (xc (exAt l s5.2.1.toNat)))), (4, (AObj.loop Go.LoopState.busy Option.none [(0, (AV.i blocks)), (1, (exs l)), (2, (AV.ag (xc x))), (5, (AV.pt 0 0)), (6, (AV.pt 1 0)), (7, (AV.i 0)), (12, (AV.b (!s0))), (17, (AV.b (decide ((wr (x.lba + x.len)) > blocks)))), (34, (AV.fn (111 : Nat) [(AV.pt 3 0), (AV.pt 2 0)]))] 63 [(35 : Nat)] (rfA Try.prog 108 0) (rfB Try.prog 108 0))), (3, (AObj.cells (xc x))), (2, (AObj.cells [(exs l)])), (1, (AObj.cells [(AV.rf 5 5 0 s5.2.2.length)])), (0, (AObj.cells (xc x))), (5, (AObj.cells (List.flatMap Ex.cells (List.set s5.2.2 (Int.toNat (wr ((s5.2.2.length : Int) - (1 : Int)))) s15.1))))]) Bool.true)) kq (ac h13 (ac h14 (ac (fq (p := ((((0 : Nat) + ((Int.toNat (wr ((s5.2.2.length : Int) - (1 : Int)))) * 5)) + (5 : Nat)) ≤ (List.length (List.flatMap Ex.cells s5.2.2))))) (ac (show (List.take 5 (List.drop ((0 : Nat) + ((Int.toNat (wr ((s5.2.2.length : Int) - (1 : Int)))) * 5)) (List.flatMap Ex.cells s5.2.2))) = (Ex.cells (exAt s5.2.2 (Int.toNat (wr ((s5.2.2.length : Int) - (1 : Int)))))) from (ex_takeO bq bq)) (ac (eJoin_ok ((exAt s5.2.2 (Int.toNat (wr ((s5.2.2.length : Int) - (1 : Int)))))) (x) _ h15).any0 (ac (show orderOk (rg Try.prog 108 0) = true ∧ allOk (Region.before (rg Try.prog 108 0)) [] 0 [(some [1], some []), (some [], some []), (some [], some []), (some [], some []), (some [5], some []), (some [8], some []), (some [], some []), (some [], some []), (some [], some []), (some [], some []), (some [], some [9]), (some [9], some [9]), (some [], some [])] = true from (ord_of ord_108_0 bef_108_0 kq)) (ac h16 (ac h14 (ac h17 (ac (show (((List.take ((0 : Nat) + ((Int.toNat (wr ((s5.2.2.length : Int) - (1 : Int)))) * 5)) (List.flatMap Ex.cells s5.2.2)) ++ (xc s15.1)) ++ (List.drop (((0 : Nat) + ((Int.toNat (wr ((s5.2.2.length : Int) - (1 : Int)))) * 5)) + (List.length (xc s15.1))) (List.flatMap Ex.cells s5.2.2))) = (List.flatMap Ex.cells (List.set s5.2.2 (Int.toNat (wr ((s5.2.2.length : Int) - (1 : Int)))) s15.1)) from (ex_setO (x := s15.1) bq bq tq)) an)))))))))) (Nat.le_of_ble_eq_true rfl) (Nat.le_of_ble_eq_true rfl) (absB_of [5] [] kq (.consn kq (.eqv tq rfl) (.consn kq (.eqv tq rfl) (.consn kq (.agp pq) (.consn kq (.pt rfl) (.consn kq (.pt rfl) (.consn kq (.eqv tq rfl) (.consn kq (.eqv tq rfl) (.consn kq (.eqv tq rfl) (.consn kq (.fn (.cons (.pt rfl) (.cons (.pt rfl) .nil))) (.consn kq (.agp pq) (.consn kq (.pt rfl) .nil))))))))))) (.cons (.old rfl rfl (.cells (.pl rfl pq))) (.cons (.old rfl rfl (.cells (.pl rfl pq))) (.cons (.old rfl rfl (.cells (.pl rfl pq))) (.cons (.old rfl rfl (.loop (.consn kq (.eqv tq rfl) (.consn kq (.eqv tq rfl) (.consn kq (.agp pq) (.consn kq (.pt rfl) (.consn kq (.pt rfl) (.consn kq (.eqv tq rfl) (.consn kq (.eqv tq rfl) (.consn kq (.eqv tq rfl) (.consn kq (.fn (.cons (.pt rfl) (.cons (.pt rfl) .nil))) .nil))))))))))) (.cons (.old rfl rfl (.cells (.pl rfl pq))) (.cons (.old rfl rfl (.cells (.cons (.eqv tq rfl) .nil))) (.cons (.old rfl rfl (.cells (.cons (.rfn (n := s5.2.2.length) rfl tq) .nil))) (.cons (.old rfl rfl (.cells (.pl rfl pq))) (.cons (.old rfl rfl (.cells (.pl tq pq))) .nil))))))))))
    ·
      have h16p := ne_of_beq_false h16
      refine tp_ok (fun h17 => ?_)
      intro e; injection e with e; subst e
      exact leafS vw_eq (k := 300) (r := []) (hs := hz [(6, [.yes]), (4, [.yes, .yes, .cells ((Ex.cells (exAt s5.2.2 (Int.toNat (wr ((s5.2.2.length : Int) - (1 : Int)))))))]), (1, [.fc]), (1, [.fres (.tu [Ex.av (s15.1), .i (s15.2)])]), (5, [.fc]), (1, [.yes]), (2, [.no]), (3, [.fc]), (1, [.fc, .fc, .yes, .yes]), (1, [.fc])]) (ks := [0, 1, 2, 5, 6, 7, 12, 17, 34, 35, 8]) (st1 := (St.mk [(0, (AV.i blocks)), (1, (exs l)), (2, (AV.ag (xc x))), (5, (AV.pt 0 0)), (6, (AV.pt 1 0)), (7, (AV.i 0)), (12, (AV.b (!s0))), (17, (AV.b (decide ((wr (x.lba + x.len)) > blocks)))), (34, (AV.fn (111 : Nat) [(AV.pt 3 0), (AV.pt 2 0)])), (35, (AV.ag (xc x))), (8, (AV.pt 8 0))] 63 (AH.mk 12 [(11, (AObj.cells ((List.flatMap Ex.cells s5.2.2) ++ (xc x)))), (10, (AObj.cells (xc x))), (9, (AObj.cells (xc s15.1))), (8, (AObj.cells (xc x))), (7, (AObj.cells (xc s8.1))), (6, (AObj.cells (xc (exAt l s5.2.1.toNat)))), (4, (AObj.loop Go.LoopState.busy Option.none [(0, (AV.i blocks)), (1, (exs l)), (2, (AV.ag (xc x))), (5, (AV.pt 0 0)), (6, (AV.pt 1 0)), (7, (AV.i 0)), (12, (AV.b (!s0))), (17, (AV.b (decide ((wr (x.lba + x.len)) > blocks)))), (34, (AV.fn (111 : Nat) [(AV.pt 3 0), (AV.pt 2 0)]))] 63 [(35 : Nat)] (rfA Try.prog 108 0) (rfB Try.prog 108 0))), (3, (AObj.cells (xc x))), (2, (AObj.cells [(exs l)])), (1, (AObj.cells [(AV.rf 11 5 0 (s5.2.2.length + (1 : Nat)))])), (0, (AObj.cells (xc x))), (5, AObj.dead)]) Bool.true)) kq (ac h13 (ac h14 (ac (fq (p := ((((0 : Nat) + ((Int.toNat (wr ((s5.2.2.length : Int) - (1 : Int)))) * 5)) + (5 : Nat)) ≤ (List.length (List.flatMap Ex.cells s5.2.2))))) (ac (show (List.take 5 (List.drop ((0 : Nat) + ((Int.toNat (wr ((s5.2.2.length : Int) - (1 : Int)))) * 5)) (List.flatMap Ex.cells s5.2.2))) = (Ex.cells (exAt s5.2.2 (Int.toNat (wr ((s5.2.2.length : Int) - (1 : Int)))))) from (ex_takeO bq bq)) (ac (eJoin_ok ((exAt s5.2.2 (Int.toNat (wr ((s5.2.2.length : Int) - (1 : Int)))))) (x) _ h15).any0 (ac (show orderOk (rg Try.prog 108 0) = true ∧ allOk (Region.before (rg Try.prog 108 0)) [] 0 [(some [1], some []), (some [], some []), (some [], some []), (some [], some []), (some [5], some []), (some [8], some []), (some [], some []), (some [], some []), (some [], some []), (some [], some []), (some [], some [9]), (some [9], some [9]), (some [], some [])] = true from (ord_of ord_108_0 bef_108_0 kq)) (ac h16 (ac (tq (p := (((0 : Nat) = (0 : Nat)) ∧ ((List.length (xc x)) = (5 : Nat))))) (ac h17 an))))))))) (Nat.le_of_ble_eq_true rfl) (Nat.le_of_ble_eq_true rfl) (absB_of [11] [] kq (.consn kq (.eqv tq rfl) (.consn kq (.eqv tq rfl) (.consn kq (.agp pq) (.consn kq (.pt rfl) (.consn kq (.pt rfl) (.consn kq (.eqv tq rfl) (.consn kq (.eqv tq rfl) (.consn kq (.eqv tq rfl) (.consn kq (.fn (.cons (.pt rfl) (.cons (.pt rfl) .nil))) (.consn kq (.agp pq) (.consn kq (.pt rfl) .nil))))))))))) (.cons (.old rfl rfl (.cells (.pl rfl pq))) (.cons (.old rfl rfl (.cells (.pl rfl pq))) (.cons (.old rfl rfl (.cells (.pl rfl pq))) (.cons (.old rfl rfl (.loop (.consn kq (.eqv tq rfl) (.consn kq (.eqv tq rfl) (.consn kq (.agp pq) (.consn kq (.pt rfl) (.consn kq (.pt rfl) (.consn kq (.eqv tq rfl) (.consn kq (.eqv tq rfl) (.consn kq (.eqv tq rfl) (.consn kq (.fn (.cons (.pt rfl) (.cons (.pt rfl) .nil))) .nil))))))))))) (.cons (.old rfl rfl (.cells (.pl rfl pq))) (.cons (.old rfl rfl (.cells (.cons (.eqv tq rfl) .nil))) (.cons (.old rfl rfl (.cells (.cons (.rfn (n := (s5.2.2.length + (1 : Nat))) rfl tq) .nil))) (.cons (.old rfl rfl (.cells (.pl rfl pq))) (.cons (.old rfl rfl (.cells (.pl tq pq))) .nil))))))))))
  ·
    have h13p := of_decide_eq_false h13
    refine tp_ok (fun h14 => ?_)
    intro e; injection e with e; subst e
    exact leafS vw_eq (k := 300) (r := []) (hs := hz [(6, [.no]), (3, [.fc]), (1, [.fc, .fc, .yes, .yes]), (1, [.fc])]) (ks := [0, 1, 2, 5, 6, 7, 12, 17, 34, 35, 8]) (st1 := (St.mk [(0, (AV.i blocks)), (1, (exs l)), (2, (AV.ag (xc x))), (5, (AV.pt 0 0)), (6, (AV.pt 1 0)), (7, (AV.i 0)), (12, (AV.b (!s0))), (17, (AV.b (decide ((wr (x.lba + x.len)) > blocks)))), (34, (AV.fn (111 : Nat) [(AV.pt 3 0), (AV.pt 2 0)])), (35, (AV.ag (xc x))), (8, (AV.pt 8 0))] 63 (AH.mk 11 [(10, (AObj.cells ((List.flatMap Ex.cells s5.2.2) ++ (xc x)))), (9, (AObj.cells (xc x))), (8, (AObj.cells (xc x))), (7, (AObj.cells (xc s8.1))), (6, (AObj.cells (xc (exAt l s5.2.1.toNat)))), (4, (AObj.loop Go.LoopState.busy Option.none [(0, (AV.i blocks)), (1, (exs l)), (2, (AV.ag (xc x))), (5, (AV.pt 0 0)), (6, (AV.pt 1 0)), (7, (AV.i 0)), (12, (AV.b (!s0))), (17, (AV.b (decide ((wr (x.lba + x.len)) > blocks)))), (34, (AV.fn (111 : Nat) [(AV.pt 3 0), (AV.pt 2 0)]))] 63 [(35 : Nat)] (rfA Try.prog 108 0) (rfB Try.prog 108 0))), (3, (AObj.cells (xc x))), (2, (AObj.cells [(exs l)])), (1, (AObj.cells [(AV.rf 10 5 0 (s5.2.2.length + (1 : Nat)))])), (0, (AObj.cells (xc x))), (5, AObj.dead)]) Bool.true)) kq (ac h13 (ac (tq (p := (((0 : Nat) = (0 : Nat)) ∧ ((List.length (xc x)) = (5 : Nat))))) (ac h14 an))) (Nat.le_of_ble_eq_true rfl) (Nat.le_of_ble_eq_true rfl) (absB_of [10] [] kq (.consn kq (.eqv tq rfl) (.consn kq (.eqv tq rfl) (.consn kq (.agp pq) (.consn kq (.pt rfl) (.consn kq (.pt rfl) (.consn kq (.eqv tq rfl) (.consn kq (.eqv tq rfl) (.consn kq (.eqv tq rfl) (.consn kq (.fn (.cons (.pt rfl) (.cons (.pt rfl) .nil))) (.consn kq (.agp pq) (.consn kq (.pt rfl) .nil))))))))))) (.cons (.old rfl rfl (.cells (.pl rfl pq))) (.cons (.old rfl rfl (.cells (.pl rfl pq))) (.cons (.old rfl rfl (.cells (.pl rfl pq))) (.cons (.old rfl rfl (.loop (.consn kq (.eqv tq rfl) (.consn kq (.eqv tq rfl) (.consn kq (.agp pq) (.consn kq (.pt rfl) (.consn kq (.pt rfl) (.consn kq (.eqv tq rfl) (.consn kq (.eqv tq rfl) (.consn kq (.eqv tq rfl) (.consn kq (.fn (.cons (.pt rfl) (.cons (.pt rfl) .nil))) .nil))))))))))) (.cons (.old rfl rfl (.cells (.pl rfl pq))) (.cons (.old rfl rfl (.cells (.cons (.eqv tq rfl) .nil))) (.cons (.old rfl rfl (.cells (.cons (.rfn (n := (s5.2.2.length + (1 : Nat))) rfl tq) .nil))) (.cons (.old rfl rfl (.cells (.pl rfl pq))) (.cons (.old rfl rfl (.cells (.pl tq pq))) .nil))))))))))
noncomputable abbrev mPut_B7_I (blocks : Int) (l : List Ex) (x : Ex) (s0 : Bool) (s2 : Bool) (s5 : Bool × Int × List Ex) (s8 : Ex × Bool) (s12 : List Ex × List Ex) (s13 : Ex × Bool) : St := (St.mk [(0, (AV.i blocks)), (1, (exs l)), (2, (AV.ag (xc x))), (5, (AV.pt 0 0)), (6, (AV.pt 1 0)), (7, (AV.i 0)), (12, (AV.b (!s0))), (17, (AV.b (decide ((wr (x.lba + x.len)) > blocks)))), (34, (AV.fn (111 : Nat) [(AV.pt 3 0), (AV.pt 2 0)])), (35, (AV.ag (xc s13.1))), (8, (AV.pt 11 0))] 63 (AH.mk 12 [(11, (AObj.cells (xc s13.1))), (10, (AObj.cells (xc s13.1))), (8, (AObj.cells (xc x))), (7, (AObj.cells (xc s8.1))), (6, (AObj.cells (xc (exAt l s5.2.1.toNat)))), (4, (AObj.loop Go.LoopState.busy Option.none [(0, (AV.i blocks)), (1, (exs l)), (2, (AV.ag (xc x))), (5, (AV.pt 0 0)), (6, (AV.pt 1 0)), (7, (AV.i 0)), (12, (AV.b (!s0))), (17, (AV.b (decide ((wr (x.lba + x.len)) > blocks)))), (34, (AV.fn (111 : Nat) [(AV.pt 3 0), (AV.pt 2 0)]))] 63 [(35 : Nat)] (rfA Try.prog 108 0) (rfB Try.prog 108 0))), (3, (AObj.cells (xc x))), (2, (AObj.cells [(exs l)])), (1, (AObj.cells [(AV.rf 9 5 0 s12.2.length)])), (0, (AObj.cells (xc x))), (9, (AObj.cells (List.flatMap Ex.cells s12.2)))]) Bool.true)
noncomputable abbrev mPut_B7_S (blocks : Int) (l : List Ex) (x : Ex) (s0 : Bool) (s2 : Bool) (s5 : Bool × Int × List Ex) (s8 : Ex × Bool) (s12 : List Ex × List Ex) (s13 : Ex × Bool) (s15 : List Ex × List Ex) : St := (St.mk [(0, (AV.i blocks)), (1, (exs l)), (2, (AV.ag (xc x))), (5, (AV.pt 0 0)), (6, (AV.pt 1 0)), (7, (AV.i 0)), (12, (AV.b (!s0))), (17, (AV.b (decide ((wr (x.lba + x.len)) > blocks)))), (34, (AV.fn (111 : Nat) [(AV.pt 3 0), (AV.pt 2 0)])), (35, (AV.ag (xc s13.1))), (8, (AV.pt 11 0))] 63 (AH.mk 13 [(11, (AObj.cells (xc s13.1))), (10, (AObj.cells (xc s13.1))), (8, (AObj.cells (xc x))), (7, (AObj.cells (xc s8.1))), (6, (AObj.cells (xc (exAt l s5.2.1.toNat)))), (4, (AObj.loop Go.LoopState.busy Option.none [(0, (AV.i blocks)), (1, (exs l)), (2, (AV.ag (xc x))), (5, (AV.pt 0 0)), (6, (AV.pt 1 0)), (7, (AV.i 0)), (12, (AV.b (!s0))), (17, (AV.b (decide ((wr (x.lba + x.len)) > blocks)))), (34, (AV.fn (111 : Nat) [(AV.pt 3 0), (AV.pt 2 0)]))] 63 [(35 : Nat)] (rfA Try.prog 108 0) (rfB Try.prog 108 0))), (3, (AObj.cells (xc x))), (2, (AObj.cells [(exs l)])), (1, (AObj.cells [(AV.rf 12 5 0 s15.2.length)])), (0, (AObj.cells (xc x))), (12, (AObj.cells (List.flatMap Ex.cells s15.2)))]) Bool.true)
noncomputable def mPut_B7 (blocks : Int) (l : List Ex) (x : Ex) (s0 : Bool) (s2 : Bool) (s5 : Bool × Int × List Ex) (s8 : Ex × Bool) (s12 : List Ex × List Ex) (s13 : Ex × Bool) : Option (List Ex × List Ex) :=
 (tb ((decide ((s12.2.length : Int) > (0 : Int))))
  (tp ((((0 : Int) ≤ (wr ((s12.2.length : Int) - (1 : Int)))) ∧ ((wr ((s12.2.length : Int) - (1 : Int))) < (s12.2.length : Int))))
   (tc (eJoin ((exAt s12.2 (Int.toNat (wr ((s12.2.length : Int) - (1 : Int)))))) (s13.1)) fun s18 =>
    (tb ((s18.2 == (0 : Int)))
     (tp ((((List.length (xc s18.1)) = (5 : Nat)) ∧ ((((0 : Nat) + ((Int.toNat (wr ((s12.2.length : Int) - (1 : Int)))) * 5)) + (List.length (xc s18.1))) ≤ (List.length (List.flatMap Ex.cells s12.2)))))
      (some ((([] : List Ex), (List.set s12.2 (Int.toNat (wr ((s12.2.length : Int) - (1 : Int)))) s18.1)))))
     (tp ((((List.length (List.flatMap Ex.cells s12.2)) = (s12.2.length * 5)) ∧ ((s12.2.length + (1 : Nat)) ≤ (4294967296 : Nat))))
      (some ((([] : List Ex), (s12.2 ++ [s13.1]))))))))
  (tp ((((List.length (List.flatMap Ex.cells s12.2)) = (s12.2.length * 5)) ∧ ((s12.2.length + (1 : Nat)) ≤ (4294967296 : Nat))))
   (some ((([] : List Ex), (s12.2 ++ [s13.1]))))))
theorem mPut_B7_ok (blocks : Int) (l : List Ex) (x : Ex) (s0 : Bool) (s2 : Bool) (s5 : Bool × Int × List Ex) (s8 : Ex × Bool) (s12 : List Ex × List Ex) (s13 : Ex × Bool) (zz : List Ex × List Ex) : mPut_B7 blocks l x s0 s2 s5 s8 s12 s13 = some zz → EvStep Try.prog cf 12 ((rfB Try.prog 108 0)) (mPut_B7_I blocks l x s0 s2 s5 s8 s12 s13) (mPut_B7_S blocks l x s0 s2 s5 s8 s12 s13 zz) := by
  unfold mPut_B7
  refine tb_ok (fun h16 => ?_) (fun h16 => ?_)
  ·
    have h16p := of_decide_eq_true h16
    refine tp_ok (fun h17 => ?_)
    refine tc_ok (fun s18 h18 => ?_)
    refine tb_ok (fun h19 => ?_) (fun h19 => ?_)
    ·
      have h19p := eq_of_beq h19
      refine tp_ok (fun h20 => ?_)
      intro e; injection e with e; subst e
      exact leafS vw_eq (k := 300) (r := []) (hs := hz [(6, [.yes]), (4, [.yes, .yes, .cells ((Ex.cells (exAt s12.2 (Int.toNat (wr ((s12.2.length : Int) - (1 : Int)))))))]), (1, [.fc]), (1, [.fres (.tu [Ex.av (s18.1), .i (s18.2)])]), (5, [.fc]), (1, [.yes]), (2, [.yes]), (5, [.fc, .yes, .yes, .cells ((List.flatMap Ex.cells (List.set s12.2 (Int.toNat (wr ((s12.2.length : Int) - (1 : Int)))) s18.1)))])]) (ks := [0, 1, 2, 5, 6, 7, 12, 17, 34, 35, 8]) (st1 := (St.mk [(0, (AV.i blocks)), (1, (exs l)), (2, (AV.ag (xc x))), (5, (AV.pt 0 0)), (6, (AV.pt 1 0)), (7, (AV.i 0)), (12, (AV.b (!s0))), (17, (AV.b (decide ((wr (x.lba + x.len)) > blocks)))), (34, (AV.fn (111 : Nat) [(AV.pt 3 0), (AV.pt 2 0)])), (35, (AV.ag (xc s13.1))), (8, (AV.pt 11 0))] 63 (AH.mk 13 [(12, (AObj.cells (xc s18.1))), (11, (AObj.cells (xc s13.1))), (10, (AObj.cells (xc s13.1))), (8, (AObj.cells (xc x))), (7, (AObj.cells (xc s8.1))), (6, (AObj.cells (xc (exAt l s5.2.1.toNat)))), (4, (AObj.loop Go.LoopState.busy Option.none [(0, (AV.i blocks)), (1, (exs l)), (2, (AV.ag (xc x))), (5, (AV.pt 0 0)), (6, (AV.pt 1 0)), (7, (AV.i 0)), (12, (AV.b (!s0))), (17, (AV.b (decide ((wr (x.lba + x.len)) > blocks)))), (34, (AV.fn (111 : Nat) [(AV.pt 3 0), (AV.pt 2 0)]))] 63 [(35 : Nat)] (rfA Try.prog 108 0) (rfB Try.prog 108 0))), (3, (AObj.cells (xc x))), (2, (AObj.cells [(exs l)])), (1, (AObj.cells [(AV.rf 9 5 0 s12.2.length)])), (0, (AObj.cells (xc x))), (9, (AObj.cells (List.flatMap Ex.cells (List.set s12.2 (Int.toNat (wr ((s12.2.length : Int) - (1 : Int)))) s18.1))))]) Bool.true)) kq (ac h16 (ac h17 (ac (fq (p := ((((0 : Nat) + ((Int.toNat (wr ((s12.2.length : Int) - (1 : Int)))) * 5)) + (5 : Nat)) ≤ (List.length (List.flatMap Ex.cells s12.2))))) (ac (show (List.take 5 (List.drop ((0 : Nat) + ((Int.toNat (wr ((s12.2.length : Int) - (1 : Int)))) * 5)) (List.flatMap Ex.cells s12.2))) = (Ex.cells (exAt s12.2 (Int.toNat (wr ((s12.2.length : Int) - (1 : Int)))))) from (ex_takeO bq bq)) (ac (eJoin_ok ((exAt s12.2 (Int.toNat (wr ((s12.2.length : Int) - (1 : Int)))))) (s13.1) _ h18).any0 (ac (show orderOk (rg Try.prog 108 0) = true ∧ allOk (Region.before (rg Try.prog 108 0)) [] 0 [(some [1], some []), (some [], some []), (some [], some []), (some [], some []), (some [9], some []), (some [11], some []), (some [], some []), (some [], some []), (some [], some []), (some [], some []), (some [], some [12]), (some [12], some [12]), (some [], some [])] = true from (ord_of ord_108_0 bef_108_0 kq)) (ac h19 (ac h17 (ac h20 (ac (show (((List.take ((0 : Nat) + ((Int.toNat (wr ((s12.2.length : Int) - (1 : Int)))) * 5)) (List.flatMap Ex.cells s12.2)) ++ (xc s18.1)) ++ (List.drop (((0 : Nat) + ((Int.toNat (wr ((s12.2.length : Int) - (1 : Int)))) * 5)) + (List.length (xc s18.1))) (List.flatMap Ex.cells s12.2))) = (List.flatMap Ex.cells (List.set s12.2 (Int.toNat (wr ((s12.2.length : Int) - (1 : Int)))) s18.1)) from (ex_setO (x := s18.1) bq bq tq)) an)))))))))) (Nat.le_of_ble_eq_true rfl) (Nat.le_of_ble_eq_true rfl) (absB_of [9] [] kq (.consn kq (.eqv tq rfl) (.consn kq (.eqv tq rfl) (.consn kq (.agp pq) (.consn kq (.pt rfl) (.consn kq (.pt rfl) (.consn kq (.eqv tq rfl) (.consn kq (.eqv tq rfl) (.consn kq (.eqv tq rfl) (.consn kq (.fn (.cons (.pt rfl) (.cons (.pt rfl) .nil))) (.consn kq (.agp pq) (.consn kq (.pt rfl) .nil))))))))))) (.cons (.old rfl rfl (.cells (.pl rfl pq))) (.cons (.old rfl rfl (.cells (.pl rfl pq))) (.cons (.old rfl rfl (.cells (.pl rfl pq))) (.cons (.old rfl rfl (.cells (.pl rfl pq))) (.cons (.old rfl rfl (.cells (.pl rfl pq))) (.cons (.old rfl rfl (.loop (.consn kq (.eqv tq rfl) (.consn kq (.eqv tq rfl) (.consn kq (.agp pq) (.consn kq (.pt rfl) (.consn kq (.pt rfl) (.consn kq (.eqv tq rfl) (.consn kq (.eqv tq rfl) (.consn kq (.eqv tq rfl) (.consn kq (.fn (.cons (.pt rfl) (.cons (.pt rfl) .nil))) .nil))))))))))) (.cons (.old rfl rfl (.cells (.pl rfl pq))) (.cons (.old rfl rfl (.cells (.cons (.eqv tq rfl) .nil))) (.cons (.old rfl rfl (.cells (.cons (.rfn (n := s12.2.length) rfl tq) .nil))) (.cons (.old rfl rfl (.cells (.pl rfl pq))) (.cons (.old rfl rfl (.cells (.pl tq pq))) .nil))))))))))))
    ·
      have h19p := ne_of_beq_false h19
      refine tp_ok (fun h20 => ?_)
      intro e; injection e with e; subst e
      exact leafS vw_eq (k := 300) (r := []) (hs := hz [(6, [.yes]), (4, [.yes, .yes, .cells ((Ex.cells (exAt s12.2 (Int.toNat (wr ((s12.2.length : Int) - (1 : Int)))))))]), (1, [.fc]), (1, [.fres (.tu [Ex.av (s18.1), .i (s18.2)])]), (5, [.fc]), (1, [.yes]), (2, [.no]), (3, [.fc]), (1, [.fc, .fc, .yes, .yes]), (1, [.fc])]) (ks := [0, 1, 2, 5, 6, 7, 12, 17, 34, 35, 8]) (st1 := (St.mk [(0, (AV.i blocks)), (1, (exs l)), (2, (AV.ag (xc x))), (5, (AV.pt 0 0)), (6, (AV.pt 1 0)), (7, (AV.i 0)), (12, (AV.b (!s0))), (17, (AV.b (decide ((wr (x.lba + x.len)) > blocks)))), (34, (AV.fn (111 : Nat) [(AV.pt 3 0), (AV.pt 2 0)])), (35, (AV.ag (xc s13.1))), (8, (AV.pt 11 0))] 63 (AH.mk 15 [(14, (AObj.cells ((List.flatMap Ex.cells s12.2) ++ (xc s13.1)))), (13, (AObj.cells (xc s13.1))), (12, (AObj.cells (xc s18.1))), (11, (AObj.cells (xc s13.1))), (10, (AObj.cells (xc s13.1))), (8, (AObj.cells (xc x))), (7, (AObj.cells (xc s8.1))), (6, (AObj.cells (xc (exAt l s5.2.1.toNat)))), (4, (AObj.loop Go.LoopState.busy Option.none [(0, (AV.i blocks)), (1, (exs l)), (2, (AV.ag (xc x))), (5, (AV.pt 0 0)), (6, (AV.pt 1 0)), (7, (AV.i 0)), (12, (AV.b (!s0))), (17, (AV.b (decide ((wr (x.lba + x.len)) > blocks)))), (34, (AV.fn (111 : Nat) [(AV.pt 3 0), (AV.pt 2 0)]))] 63 [(35 : Nat)] (rfA Try.prog 108 0) (rfB Try.prog 108 0))), (3, (AObj.cells (xc x))), (2, (AObj.cells [(exs l)])), (1, (AObj.cells [(AV.rf 14 5 0 (s12.2.length + (1 : Nat)))])), (0, (AObj.cells (xc x))), (9, AObj.dead)]) Bool.true)) kq (ac h16 (ac h17 (ac (fq (p := ((((0 : Nat) + ((Int.toNat (wr ((s12.2.length : Int) - (1 : Int)))) * 5)) + (5 : Nat)) ≤ (List.length (List.flatMap Ex.cells s12.2))))) (ac (show (List.take 5 (List.drop ((0 : Nat) + ((Int.toNat (wr ((s12.2.length : Int) - (1 : Int)))) * 5)) (List.flatMap Ex.cells s12.2))) = (Ex.cells (exAt s12.2 (Int.toNat (wr ((s12.2.length : Int) - (1 : Int)))))) from (ex_takeO bq bq)) (ac (eJoin_ok ((exAt s12.2 (Int.toNat (wr ((s12.2.length : Int) - (1 : Int)))))) (s13.1) _ h18).any0 (ac (show orderOk (rg Try.prog 108 0) = true ∧ allOk (Region.before (rg Try.prog 108 0)) [] 0 [(some [1], some []), (some [], some []), (some [], some []), (some [], some []), (some [9], some []), (some [11], some []), (some [], some []), (some [], some []), (some [], some []), (some [], some []), (some [], some [12]), (some [12], some [12]), (some [], some [])] = true from (ord_of ord_108_0 bef_108_0 kq)) (ac h19 (ac (tq (p := (((0 : Nat) = (0 : Nat)) ∧ ((List.length (xc s13.1)) = (5 : Nat))))) (ac h20 an))))))))) (Nat.le_of_ble_eq_true rfl) (Nat.le_of_ble_eq_true rfl) (absB_of [14] [] kq (.consn kq (.eqv tq rfl) (.consn kq (.eqv tq rfl) (.consn kq (.agp pq) (.consn kq (.pt rfl) (.consn kq (.pt rfl) (.consn kq (.eqv tq rfl) (.consn kq (.eqv tq rfl) (.consn kq (.eqv tq rfl) (.consn kq (.fn (.cons (.pt rfl) (.cons (.pt rfl) .nil))) (.consn kq (.agp pq) (.consn kq (.pt rfl) .nil))))))))))) (.cons (.old rfl rfl (.cells (.pl rfl pq))) (.cons (.old rfl rfl (.cells (.pl rfl pq))) (.cons (.old rfl rfl (.cells (.pl rfl pq))) (.cons (.old rfl rfl (.cells (.pl rfl pq))) (.cons (.old rfl rfl (.cells (.pl rfl pq))) (.cons (.old rfl rfl (.loop (.consn kq (.eqv tq rfl) (.consn kq (.eqv tq rfl) (.consn kq (.agp pq) (.consn kq (.pt rfl) (.consn kq (.pt rfl) (.consn kq (.eqv tq rfl) (.consn kq (.eqv tq rfl) (.consn kq (.eqv tq rfl) (.consn kq (.fn (.cons (.pt rfl) (.cons (.pt rfl) .nil))) .nil))))))))))) (.cons (.old rfl rfl (.cells (.pl rfl pq))) (.cons (.old rfl rfl (.cells (.cons (.eqv tq rfl) .nil))) (.cons (.old rfl rfl (.cells (.cons (.rfn (n := (s12.2.length + (1 : Nat))) rfl tq) .nil))) (.cons (.old rfl rfl (.cells (.pl rfl pq))) (.cons (.old rfl rfl (.cells (.pl tq pq))) .nil))))))))))))
  ·
    have h16p := of_decide_eq_false h16
    refine tp_ok (fun h17 => ?_)
    intro e; injection e with e; subst e
    exact leafS vw_eq (k := 300) (r := []) (hs := hz [(6, [.no]), (3, [.fc]), (1, [.fc, .fc, .yes, .yes]), (1, [.fc])]) (ks := [0, 1, 2, 5, 6, 7, 12, 17, 34, 35, 8]) (st1 := (St.mk [(0, (AV.i blocks)), (1, (exs l)), (2, (AV.ag (xc x))), (5, (AV.pt 0 0)), (6, (AV.pt 1 0)), (7, (AV.i 0)), (12, (AV.b (!s0))), (17, (AV.b (decide ((wr (x.lba + x.len)) > blocks)))), (34, (AV.fn (111 : Nat) [(AV.pt 3 0), (AV.pt 2 0)])), (35, (AV.ag (xc s13.1))), (8, (AV.pt 11 0))] 63 (AH.mk 14 [(13, (AObj.cells ((List.flatMap Ex.cells s12.2) ++ (xc s13.1)))), (12, (AObj.cells (xc s13.1))), (11, (AObj.cells (xc s13.1))), (10, (AObj.cells (xc s13.1))), (8, (AObj.cells (xc x))), (7, (AObj.cells (xc s8.1))), (6, (AObj.cells (xc (exAt l s5.2.1.toNat)))), (4, (AObj.loop Go.LoopState.busy Option.none [(0, (AV.i blocks)), (1, (exs l)), (2, (AV.ag (xc x))), (5, (AV.pt 0 0)), (6, (AV.pt 1 0)), (7, (AV.i 0)), (12, (AV.b (!s0))), (17, (AV.b (decide ((wr (x.lba + x.len)) > blocks)))), (34, (AV.fn (111 : Nat) [(AV.pt 3 0), (AV.pt 2 0)]))] 63 [(35 : Nat)] (rfA Try.prog 108 0) (rfB Try.prog 108 0))), (3, (AObj.cells (xc x))), (2, (AObj.cells [(exs l)])), (1, (AObj.cells [(AV.rf 13 5 0 (s12.2.length + (1 : Nat)))])), (0, (AObj.cells (xc x))), (9, AObj.dead)]) Bool.true)) kq (ac h16 (ac (tq (p := (((0 : Nat) = (0 : Nat)) ∧ ((List.length (xc s13.1)) = (5 : Nat))))) (ac h17 an))) (Nat.le_of_ble_eq_true rfl) (Nat.le_of_ble_eq_true rfl) (absB_of [13] [] kq (.consn kq (.eqv tq rfl) (.consn kq (.eqv tq rfl) (.consn kq (.agp pq) (.consn kq (.pt rfl) (.consn kq (.pt rfl) (.consn kq (.eqv tq rfl) (.consn kq (.eqv tq rfl) (.consn kq (.eqv tq rfl) (.consn kq (.fn (.cons (.pt rfl) (.cons (.pt rfl) .nil))) (.consn kq (.agp pq) (.consn kq (.pt rfl) .nil))))))))))) (.cons (.old rfl rfl (.cells (.pl rfl pq))) (.cons (.old rfl rfl (.cells (.pl rfl pq))) (.cons (.old rfl rfl (.cells (.pl rfl pq))) (.cons (.old rfl rfl (.cells (.pl rfl pq))) (.cons (.old rfl rfl (.cells (.pl rfl pq))) (.cons (.old rfl rfl (.loop (.consn kq (.eqv tq rfl) (.consn kq (.eqv tq rfl) (.consn kq (.agp pq) (.consn kq (.pt rfl) (.consn kq (.pt rfl) (.consn kq (.eqv tq rfl) (.consn kq (.eqv tq rfl) (.consn kq (.eqv tq rfl) (.consn kq (.fn (.cons (.pt rfl) (.cons (.pt rfl) .nil))) .nil))))))))))) (.cons (.old rfl rfl (.cells (.pl rfl pq))) (.cons (.old rfl rfl (.cells (.cons (.eqv tq rfl) .nil))) (.cons (.old rfl rfl (.cells (.cons (.rfn (n := (s12.2.length + (1 : Nat))) rfl tq) .nil))) (.cons (.old rfl rfl (.cells (.pl rfl pq))) (.cons (.old rfl rfl (.cells (.pl tq pq))) .nil))))))))))))
noncomputable abbrev mPut_B8_I (blocks : Int) (l : List Ex) (x : Ex) (s0 : Bool) (s2 : Bool) (s5 : Bool × Int × List Ex) (s8 : Ex × Bool) (s12 : Ex × Bool) : St := (St.mk [(0, (AV.i blocks)), (1, (exs l)), (2, (AV.ag (xc x))), (5, (AV.pt 0 0)), (6, (AV.pt 1 0)), (7, (AV.i 0)), (12, (AV.b (!s0))), (17, (AV.b (decide ((wr (x.lba + x.len)) > blocks)))), (34, (AV.fn (111 : Nat) [(AV.pt 3 0), (AV.pt 2 0)])), (35, (AV.ag (xc s12.1))), (8, (AV.pt 9 0))] 63 (AH.mk 10 [(9, (AObj.cells (xc s12.1))), (8, (AObj.cells (xc s12.1))), (7, (AObj.cells (xc s8.1))), (6, (AObj.cells (xc (exAt l s5.2.1.toNat)))), (4, (AObj.loop Go.LoopState.busy Option.none [(0, (AV.i blocks)), (1, (exs l)), (2, (AV.ag (xc x))), (5, (AV.pt 0 0)), (6, (AV.pt 1 0)), (7, (AV.i 0)), (12, (AV.b (!s0))), (17, (AV.b (decide ((wr (x.lba + x.len)) > blocks)))), (34, (AV.fn (111 : Nat) [(AV.pt 3 0), (AV.pt 2 0)]))] 63 [(35 : Nat)] (rfA Try.prog 108 0) (rfB Try.prog 108 0))), (3, (AObj.cells (xc x))), (2, (AObj.cells [(exs l)])), (1, (AObj.cells [(AV.rf 5 5 0 s5.2.2.length)])), (0, (AObj.cells (xc x))), (5, (AObj.cells (List.flatMap Ex.cells s5.2.2)))]) Bool.true)
noncomputable abbrev mPut_B8_S (blocks : Int) (l : List Ex) (x : Ex) (s0 : Bool) (s2 : Bool) (s5 : Bool × Int × List Ex) (s8 : Ex × Bool) (s12 : Ex × Bool) (s14 : List Ex × List Ex) : St := (St.mk [(0, (AV.i blocks)), (1, (exs l)), (2, (AV.ag (xc x))), (5, (AV.pt 0 0)), (6, (AV.pt 1 0)), (7, (AV.i 0)), (12, (AV.b (!s0))), (17, (AV.b (decide ((wr (x.lba + x.len)) > blocks)))), (34, (AV.fn (111 : Nat) [(AV.pt 3 0), (AV.pt 2 0)])), (35, (AV.ag (xc s12.1))), (8, (AV.pt 9 0))] 63 (AH.mk 11 [(9, (AObj.cells (xc s12.1))), (8, (AObj.cells (xc s12.1))), (7, (AObj.cells (xc s8.1))), (6, (AObj.cells (xc (exAt l s5.2.1.toNat)))), (4, (AObj.loop Go.LoopState.busy Option.none [(0, (AV.i blocks)), (1, (exs l)), (2, (AV.ag (xc x))), (5, (AV.pt 0 0)), (6, (AV.pt 1 0)), (7, (AV.i 0)), (12, (AV.b (!s0))), (17, (AV.b (decide ((wr (x.lba + x.len)) > blocks)))), (34, (AV.fn (111 : Nat) [(AV.pt 3 0), (AV.pt 2 0)]))] 63 [(35 : Nat)] (rfA Try.prog 108 0) (rfB Try.prog 108 0))), (3, (AObj.cells (xc x))), (2, (AObj.cells [(exs l)])), (1, (AObj.cells [(AV.rf 10 5 0 s14.2.length)])), (0, (AObj.cells (xc x))), (10, (AObj.cells (List.flatMap Ex.cells s14.2)))]) Bool.true)
noncomputable def mPut_B8 (blocks : Int) (l : List Ex) (x : Ex) (s0 : Bool) (s2 : Bool) (s5 : Bool × Int × List Ex) (s8 : Ex × Bool) (s12 : Ex × Bool) : Option (List Ex × List Ex) :=
 (tb ((decide ((s5.2.2.length : Int) > (0 : Int))))
  (tp ((((0 : Int) ≤ (wr ((s5.2.2.length : Int) - (1 : Int)))) ∧ ((wr ((s5.2.2.length : Int) - (1 : Int))) < (s5.2.2.length : Int))))
   (tc (eJoin ((exAt s5.2.2 (Int.toNat (wr ((s5.2.2.length : Int) - (1 : Int)))))) (s12.1)) fun s17 =>
    (tb ((s17.2 == (0 : Int)))
     (tp ((((List.length (xc s17.1)) = (5 : Nat)) ∧ ((((0 : Nat) + ((Int.toNat (wr ((s5.2.2.length : Int) - (1 : Int)))) * 5)) + (List.length (xc s17.1))) ≤ (List.length (List.flatMap Ex.cells s5.2.2)))))
      (some ((([] : List Ex), (List.set s5.2.2 (Int.toNat (wr ((s5.2.2.length : Int) - (1 : Int)))) s17.1)))))
     (tp ((((List.length (List.flatMap Ex.cells s5.2.2)) = (s5.2.2.length * 5)) ∧ ((s5.2.2.length + (1 : Nat)) ≤ (4294967296 : Nat))))
      (some ((([] : List Ex), (s5.2.2 ++ [s12.1]))))))))
  (tp ((((List.length (List.flatMap Ex.cells s5.2.2)) = (s5.2.2.length * 5)) ∧ ((s5.2.2.length + (1 : Nat)) ≤ (4294967296 : Nat))))
   (some ((([] : List Ex), (s5.2.2 ++ [s12.1]))))))
theorem mPut_B8_ok (blocks : Int) (l : List Ex) (x : Ex) (s0 : Bool) (s2 : Bool) (s5 : Bool × Int × List Ex) (s8 : Ex × Bool) (s12 : Ex × Bool) (zz : List Ex × List Ex) : mPut_B8 blocks l x s0 s2 s5 s8 s12 = some zz → EvStep Try.prog cf 10 ((rfB Try.prog 108 0)) (mPut_B8_I blocks l x s0 s2 s5 s8 s12) (mPut_B8_S blocks l x s0 s2 s5 s8 s12 zz) := by
  unfold mPut_B8
  refine tb_ok (fun h15 => ?_) (fun h15 => ?_)
  ·
    have h15p := of_decide_eq_true h15
    refine tp_ok (fun h16 => ?_)
    refine tc_ok (fun s17 h17 => ?_)
    refine tb_ok (fun h18 => ?_) (fun h18 => ?_)
    ·
      have h18p := eq_of_beq h18
      refine tp_ok (fun h19 => ?_)
      intro e; injection e with e; subst e
      exact leafS vw_eq (k := 300) (r := []) (hs := hz [(6, [.yes]), (4, [.yes, .yes, .cells ((Ex.cells (exAt s5.2.2 (Int.toNat (wr ((s5.2.2.length : Int) - (1 : Int)))))))]), (1, [.fc]), (1, [.fres (.tu [Ex.av (s17.1), .i (s17.2)])]), (5, [.fc]), (1, [.yes]), (2, [.yes]), (5, [.fc, .yes, .yes, .cells ((List.flatMap Ex.cells (List.set s5.2.2 (Int.toNat (wr ((s5.2.2.length : Int) - (1 : Int)))) s17.1)))])]) (ks := [0, 1, 2, 5, 6, 7, 12, 17, 34, 35, 8]) (st1 := (St.mk [(0, (AV.i blocks)), (1, (exs l)), (2, (AV.ag (xc x))), (5, (AV.pt 0 0)), (6, (AV.pt 1 0)), (7, (AV.i 0)), (12, (AV.b (!s0))), (17, (AV.b (decide ((wr (x.lba + x.len)) > blocks)))), (34, (AV.fn (111 : Nat) [(AV.pt 3 0), (AV.pt 2 0)])), (35, (AV.ag (xc s12.1))), (8, (AV.pt 9 0))] 63 (AH.mk 11 [(10, (AObj.cells (xc s17.1))), (9, (AObj.cells (xc s12.1))), (8, (AObj.cells (xc s12.1))), (7, (AObj.cells (xc s8.1))), (6, (AObj.cells (xc (exAt l s5.2.1.toNat)))), (4, (AObj.loop Go.LoopState.busy Option.none [(0, (AV.i blocks)), (1, (exs l)), (2, (AV.ag (xc x))), (5, (AV.pt 0 0)), (6, (AV.pt 1 0)), (7, (AV.i 0)), (12, (AV.b (!s0))), (17, (AV.b (decide ((wr (x.lba + x.len)) > blocks)))), (34, (AV.fn (111 : Nat) [(AV.pt 3 0), (AV.pt 2 0)]))] 63 [(35 : Nat)] (rfA Try.prog 108 0) (rfB Try.prog 108 0))), (3, (AObj.cells (xc x))), (2, (AObj.cells [(exs l)])), (1, (AObj.cells [(AV.rf 5 5 0 s5.2.2.length)])), (0, (AObj.cells (xc x))), (5, (AObj.cells (List.flatMap Ex.cells (List.set s5.2.2 (Int.toNat (wr ((s5.2.2.length : Int) - (1 : Int)))) s17.1))))]) Bool.true)) kq (ac h15 (ac h16 (ac (fq (p := ((((0 : Nat) + ((Int.toNat (wr ((s5.2.2.length : Int) - (1 : Int)))) * 5)) + (5 : Nat)) ≤ (List.length (List.flatMap Ex.cells s5.2.2))))) (ac (show (List.take 5 (List.drop ((0 : Nat) + ((Int.toNat (wr ((s5.2.2.length : Int) - (1 : Int)))) * 5)) (List.flatMap Ex.cells s5.2.2))) = (Ex.cells (exAt s5.2.2 (Int.toNat (wr ((s5.2.2.length : Int) - (1 : Int)))))) from (ex_takeO bq bq)) (ac (eJoin_ok ((exAt s5.2.2 (Int.toNat (wr ((s5.2.2.length : Int) - (1 : Int)))))) (s12.1) _ h17).any0 (ac (show orderOk (rg Try.prog 108 0) = true ∧ allOk (Region.before (rg Try.prog 108 0)) [] 0 [(some [1], some []), (some [], some []), (some [], some []), (some [], some []), (some [5], some []), (some [9], some []), (some [], some []), (some [], some []), (some [], some []), (some [], some []), (some [], some [10]), (some [10], some [10]), (some [], some [])] = true from (ord_of ord_108_0 bef_108_0 kq)) (ac h18 (ac h16 (ac h19 (ac (show (((List.take ((0 : Nat) + ((Int.toNat (wr ((s5.2.2.length : Int) - (1 : Int)))) * 5)) (List.flatMap Ex.cells s5.2.2)) ++ (xc s17.1)) ++ (List.drop (((0 : Nat) + ((Int.toNat (wr ((s5.2.2.length : Int) - (1 : Int)))) * 5)) + (List.length (xc s17.1))) (List.flatMap Ex.cells s5.2.2))) = (List.flatMap Ex.cells (List.set s5.2.2 (Int.toNat (wr ((s5.2.2.length : Int) - (1 : Int)))) s17.1)) from (ex_setO (x := s17.1) bq bq tq)) an)))))))))) (Nat.le_of_ble_eq_true rfl) (Nat.le_of_ble_eq_true rfl) (absB_of [5] [] kq (.consn kq (.eqv tq rfl) (.consn kq (.eqv tq rfl) (.consn kq (.agp pq) (.consn kq (.pt rfl) (.consn kq (.pt rfl) (.consn kq (.eqv tq rfl) (.consn kq (.eqv tq rfl) (.consn kq (.eqv tq rfl) (.consn kq (.fn (.cons (.pt rfl) (.cons (.pt rfl) .nil))) (.consn kq (.agp pq) (.consn kq (.pt rfl) .nil))))))))))) (.cons (.old rfl rfl (.cells (.pl rfl pq))) (.cons (.old rfl rfl (.cells (.pl rfl pq))) (.cons (.old rfl rfl (.cells (.pl rfl pq))) (.cons (.old rfl rfl (.cells (.pl rfl pq))) (.cons (.old rfl rfl (.loop (.consn kq (.eqv tq rfl) (.consn kq (.eqv tq rfl) (.consn kq (.agp pq) (.consn kq (.pt rfl) (.consn kq (.pt rfl) (.consn kq (.eqv tq rfl) (.consn kq (.eqv tq rfl) (.consn kq (.eqv tq rfl) (.consn kq (.fn (.cons (.pt rfl) (.cons (.pt rfl) .nil))) .nil))))))))))) (.cons (.old rfl rfl (.cells (.pl rfl pq))) (.cons (.old rfl rfl (.cells (.cons (.eqv tq rfl) .nil))) (.cons (.old rfl rfl (.cells (.cons (.rfn (n := s5.2.2.length) rfl tq) .nil))) (.cons (.old rfl rfl (.cells (.pl rfl pq))) (.cons (.old rfl rfl (.cells (.pl tq pq))) .nil)))))))))))
    ·
      have h18p := ne_of_beq_false h18
      refine tp_ok (fun h19 => ?_)
      intro e; injection e with e; subst e
      exact leafS vw_eq (k := 300) (r := []) (hs := hz [(6, [.yes]), (4, [.yes, .yes, .cells ((Ex.cells (exAt s5.2.2 (Int.toNat (wr ((s5.2.2.length : Int) - (1 : Int)))))))]), (1, [.fc]), (1, [.fres (.tu [Ex.av (s17.1), .i (s17.2)])]), (5, [.fc]), (1, [.yes]), (2, [.no]), (3, [.fc]), (1, [.fc, .fc, .yes, .yes]), (1, [.fc])]) (ks := [0, 1, 2, 5, 6, 7, 12, 17, 34, 35, 8]) (st1 := (St.mk [(0, (AV.i blocks)), (1, (exs l)), (2, (AV.ag (xc x))), (5, (AV.pt 0 0)), (6, (AV.pt 1 0)), (7, (AV.i 0)), (12, (AV.b (!s0))), (17, (AV.b (decide ((wr (x.lba + x.len)) > blocks)))), (34, (AV.fn (111 : Nat) [(AV.pt 3 0), (AV.pt 2 0)])), (35, (AV.ag (xc s12.1))), (8, (AV.pt 9 0))] 63 (AH.mk 13 [(12, (AObj.cells ((List.flatMap Ex.cells s5.2.2) ++ (xc s12.1)))), (11, (AObj.cells (xc s12.1))), (10, (AObj.cells (xc s17.1))), (9, (AObj.cells (xc s12.1))), (8, (AObj.cells (xc s12.1))), (7, (AObj.cells (xc s8.1))), (6, (AObj.cells (xc (exAt l s5.2.1.toNat)))), (4, (AObj.loop Go.LoopState.busy Option.none [(0, (AV.i blocks)), (1, (exs l)), (2, (AV.ag (xc x))), (5, (AV.pt 0 0)), (6, (AV.pt 1 0)), (7, (AV.i 0)), (12, (AV.b (!s0))), (17, (AV.b (decide ((wr (x.lba + x.len)) > blocks)))), (34, (AV.fn (111 : Nat) [(AV.pt 3 0), (AV.pt 2 0)]))] 63 [(35 : Nat)] (rfA Try.prog 108 0) (rfB Try.prog 108 0))), (3, (AObj.cells (xc x))), (2, (AObj.cells [(exs l)])), (1, (AObj.cells [(AV.rf 12 5 0 (s5.2.2.length + (1 : Nat)))])), (0, (AObj.cells (xc x))), (5, AObj.dead)]) Bool.true)) kq (ac h15 (ac h16 (ac (fq (p := ((((0 : Nat) + ((Int.toNat (wr ((s5.2.2.length : Int) - (1 : Int)))) * 5)) + (5 : Nat)) ≤ (List.length (List.flatMap Ex.cells s5.2.2))))) (ac (show (List.take 5 (List.drop ((0 : Nat) + ((Int.toNat (wr ((s5.2.2.length : Int) - (1 : Int)))) * 5)) (List.flatMap Ex.cells s5.2.2))) = (Ex.cells (exAt s5.2.2 (Int.toNat (wr ((s5.2.2.length : Int) - (1 : Int)))))) from (ex_takeO bq bq)) (ac (eJoin_ok ((exAt s5.2.2 (Int.toNat (wr ((s5.2.2.length : Int) - (1 : Int)))))) (s12.1) _ h17).any0 (ac (show orderOk (rg Try.prog 108 0) = true ∧ allOk (Region.before (rg Try.prog 108 0)) [] 0 [(some [1], some []), (some [], some []), (some [], some []), (some [], some []), (some [5], some []), (some [9], some []), (some [], some []), (some [], some []), (some [], some []), (some [], some []), (some [], some [10]), (some [10], some [10]), (some [], some [])] = true from (ord_of ord_108_0 bef_108_0 kq)) (ac h18 (ac (tq (p := (((0 : Nat) = (0 : Nat)) ∧ ((List.length (xc s12.1)) = (5 : Nat))))) (ac h19 an))))))))) (Nat.le_of_ble_eq_true rfl) (Nat.le_of_ble_eq_true rfl) (absB_of [12] [] kq (.consn kq (.eqv tq rfl) (.consn kq (.eqv tq rfl) (.consn kq (.agp pq) (.consn kq (.pt rfl) (.consn kq (.pt rfl) (.consn kq (.eqv tq rfl) (.consn kq (.eqv tq rfl) (.consn kq (.eqv tq rfl) (.consn kq (.fn (.cons (.pt rfl) (.cons (.pt rfl) .nil))) (.consn kq (.agp pq) (.consn kq (.pt rfl) .nil))))))))))) (.cons (.old rfl rfl (.cells (.pl rfl pq))) (.cons (.old rfl rfl (.cells (.pl rfl pq))) (.cons (.old rfl rfl (.cells (.pl rfl pq))) (.cons (.old rfl rfl (.cells (.pl rfl pq))) (.cons (.old rfl rfl (.loop (.consn kq (.eqv tq rfl) (.consn kq (.eqv tq rfl) (.consn kq (.agp pq) (.consn kq (.pt rfl) (.consn kq (.pt rfl) (.consn kq (.eqv tq rfl) (.consn kq (.eqv tq rfl) (.consn kq (.eqv tq rfl) (.consn kq (.fn (.cons (.pt rfl) (.cons (.pt rfl) .nil))) .nil))))))))))) (.cons (.old rfl rfl (.cells (.pl rfl pq))) (.cons (.old rfl rfl (.cells (.cons (.eqv tq rfl) .nil))) (.cons (.old rfl rfl (.cells (.cons (.rfn (n := (s5.2.2.length + (1 : Nat))) rfl tq) .nil))) (.cons (.old rfl rfl (.cells (.pl rfl pq))) (.cons (.old rfl rfl (.cells (.pl tq pq))) .nil)))))))))))
  ·
    have h15p := of_decide_eq_false h15
    refine tp_ok (fun h16 => ?_)
    intro e; injection e with e; subst e
    exact leafS vw_eq (k := 300) (r := []) (hs := hz [(6, [.no]), (3, [.fc]), (1, [.fc, .fc, .yes, .yes]), (1, [.fc])]) (ks := [0, 1, 2, 5, 6, 7, 12, 17, 34, 35, 8]) (st1 := (St.mk [(0, (AV.i blocks)), (1, (exs l)), (2, (AV.ag (xc x))), (5, (AV.pt 0 0)), (6, (AV.pt 1 0)), (7, (AV.i 0)), (12, (AV.b (!s0))), (17, (AV.b (decide ((wr (x.lba + x.len)) > blocks)))), (34, (AV.fn (111 : Nat) [(AV.pt 3 0), (AV.pt 2 0)])), (35, (AV.ag (xc s12.1))), (8, (AV.pt 9 0))] 63 (AH.mk 12 [(11, (AObj.cells ((List.flatMap Ex.cells s5.2.2) ++ (xc s12.1)))), (10, (AObj.cells (xc s12.1))), (9, (AObj.cells (xc s12.1))), (8, (AObj.cells (xc s12.1))), (7, (AObj.cells (xc s8.1))), (6, (AObj.cells (xc (exAt l s5.2.1.toNat)))), (4, (AObj.loop Go.LoopState.busy Option.none [(0, (AV.i blocks)), (1, (exs l)), (2, (AV.ag (xc x))), (5, (AV.pt 0 0)), (6, (AV.pt 1 0)), (7, (AV.i 0)), (12, (AV.b (!s0))), (17, (AV.b (decide ((wr (x.lba + x.len)) > blocks)))), (34, (AV.fn (111 : Nat) [(AV.pt 3 0), (AV.pt 2 0)]))] 63 [(35 : Nat)] (rfA Try.prog 108 0) (rfB Try.prog 108 0))), (3, (AObj.cells (xc x))), (2, (AObj.cells [(exs l)])), (1, (AObj.cells [(AV.rf 11 5 0 (s5.2.2.length + (1 : Nat)))])), (0, (AObj.cells (xc x))), (5, AObj.dead)]) Bool.true)) kq (ac h15 (ac (tq (p := (((0 : Nat) = (0 : Nat)) ∧ ((List.length (xc s12.1)) = (5 : Nat))))) (ac h16 an))) (Nat.le_of_ble_eq_true rfl) (Nat.le_of_ble_eq_true rfl) (absB_of [11] [] kq (.consn kq (.eqv tq rfl) (.consn kq (.eqv tq rfl) (.consn kq (.agp pq) (.consn kq (.pt rfl) (.consn kq (.pt rfl) (.consn kq (.eqv tq rfl) (.consn kq (.eqv tq rfl) (.consn kq (.eqv tq rfl) (.consn kq (.fn (.cons (.pt rfl) (.cons (.pt rfl) .nil))) (.consn kq (.agp pq) (.consn kq (.pt rfl) .nil))))))))))) (.cons (.old rfl rfl (.cells (.pl rfl pq))) (.cons (.old rfl rfl (.cells (.pl rfl pq))) (.cons (.old rfl rfl (.cells (.pl rfl pq))) (.cons (.old rfl rfl (.cells (.pl rfl pq))) (.cons (.old rfl rfl (.loop (.consn kq (.eqv tq rfl) (.consn kq (.eqv tq rfl) (.consn kq (.agp pq) (.consn kq (.pt rfl) (.consn kq (.pt rfl) (.consn kq (.eqv tq rfl) (.consn kq (.eqv tq rfl) (.consn kq (.eqv tq rfl) (.consn kq (.fn (.cons (.pt rfl) (.cons (.pt rfl) .nil))) .nil))))))))))) (.cons (.old rfl rfl (.cells (.pl rfl pq))) (.cons (.old rfl rfl (.cells (.cons (.eqv tq rfl) .nil))) (.cons (.old rfl rfl (.cells (.cons (.rfn (n := (s5.2.2.length + (1 : Nat))) rfl tq) .nil))) (.cons (.old rfl rfl (.cells (.pl rfl pq))) (.cons (.old rfl rfl (.cells (.pl tq pq))) .nil)))))))))))
noncomputable abbrev mPut_B9_I (blocks : Int) (l : List Ex) (x : Ex) (s0 : Bool) (s2 : Bool) (s5 : Bool × Int × List Ex) (s8 : Ex × Bool) (s11 : Ex × Bool) : St := (St.mk [(0, (AV.i blocks)), (1, (exs l)), (2, (AV.ag (xc x))), (5, (AV.pt 0 0)), (6, (AV.pt 1 0)), (7, (AV.i 0)), (12, (AV.b (!s0))), (17, (AV.b (decide ((wr (x.lba + x.len)) > blocks)))), (34, (AV.fn (111 : Nat) [(AV.pt 3 0), (AV.pt 2 0)])), (35, (AV.ag (xc s11.1))), (8, (AV.pt 9 0))] 63 (AH.mk 10 [(9, (AObj.cells (xc s11.1))), (8, (AObj.cells (xc s11.1))), (7, (AObj.cells (xc s8.1))), (6, (AObj.cells (xc (exAt l s5.2.1.toNat)))), (4, (AObj.loop Go.LoopState.busy Option.none [(0, (AV.i blocks)), (1, (exs l)), (2, (AV.ag (xc x))), (5, (AV.pt 0 0)), (6, (AV.pt 1 0)), (7, (AV.i 0)), (12, (AV.b (!s0))), (17, (AV.b (decide ((wr (x.lba + x.len)) > blocks)))), (34, (AV.fn (111 : Nat) [(AV.pt 3 0), (AV.pt 2 0)]))] 63 [(35 : Nat)] (rfA Try.prog 108 0) (rfB Try.prog 108 0))), (3, (AObj.cells (xc x))), (2, (AObj.cells [(exs l)])), (1, (AObj.cells [(AV.rf 5 5 0 s5.2.2.length)])), (0, (AObj.cells (xc x))), (5, (AObj.cells (List.flatMap Ex.cells s5.2.2)))]) Bool.true)
noncomputable abbrev mPut_B9_S (blocks : Int) (l : List Ex) (x : Ex) (s0 : Bool) (s2 : Bool) (s5 : Bool × Int × List Ex) (s8 : Ex × Bool) (s11 : Ex × Bool) (s13 : List Ex × List Ex) : St := (St.mk [(0, (AV.i blocks)), (1, (exs l)), (2, (AV.ag (xc x))), (5, (AV.pt 0 0)), (6, (AV.pt 1 0)), (7, (AV.i 0)), (12, (AV.b (!s0))), (17, (AV.b (decide ((wr (x.lba + x.len)) > blocks)))), (34, (AV.fn (111 : Nat) [(AV.pt 3 0), (AV.pt 2 0)])), (35, (AV.ag (xc s11.1))), (8, (AV.pt 9 0))] 63 (AH.mk 11 [(9, (AObj.cells (xc s11.1))), (8, (AObj.cells (xc s11.1))), (7, (AObj.cells (xc s8.1))), (6, (AObj.cells (xc (exAt l s5.2.1.toNat)))), (4, (AObj.loop Go.LoopState.busy Option.none [(0, (AV.i blocks)), (1, (exs l)), (2, (AV.ag (xc x))), (5, (AV.pt 0 0)), (6, (AV.pt 1 0)), (7, (AV.i 0)), (12, (AV.b (!s0))), (17, (AV.b (decide ((wr (x.lba + x.len)) > blocks)))), (34, (AV.fn (111 : Nat) [(AV.pt 3 0), (AV.pt 2 0)]))] 63 [(35 : Nat)] (rfA Try.prog 108 0) (rfB Try.prog 108 0))), (3, (AObj.cells (xc x))), (2, (AObj.cells [(exs l)])), (1, (AObj.cells [(AV.rf 10 5 0 s13.2.length)])), (0, (AObj.cells (xc x))), (10, (AObj.cells (List.flatMap Ex.cells s13.2)))]) Bool.true)
noncomputable def mPut_B9 (blocks : Int) (l : List Ex) (x : Ex) (s0 : Bool) (s2 : Bool) (s5 : Bool × Int × List Ex) (s8 : Ex × Bool) (s11 : Ex × Bool) : Option (List Ex × List Ex) :=
 (tb ((decide ((s5.2.2.length : Int) > (0 : Int))))
  (tp ((((0 : Int) ≤ (wr ((s5.2.2.length : Int) - (1 : Int)))) ∧ ((wr ((s5.2.2.length : Int) - (1 : Int))) < (s5.2.2.length : Int))))
   (tc (eJoin ((exAt s5.2.2 (Int.toNat (wr ((s5.2.2.length : Int) - (1 : Int)))))) (s11.1)) fun s16 =>
    (tb ((s16.2 == (0 : Int)))
     (tp ((((List.length (xc s16.1)) = (5 : Nat)) ∧ ((((0 : Nat) + ((Int.toNat (wr ((s5.2.2.length : Int) - (1 : Int)))) * 5)) + (List.length (xc s16.1))) ≤ (List.length (List.flatMap Ex.cells s5.2.2)))))
      (some ((([] : List Ex), (List.set s5.2.2 (Int.toNat (wr ((s5.2.2.length : Int) - (1 : Int)))) s16.1)))))
     (tp ((((List.length (List.flatMap Ex.cells s5.2.2)) = (s5.2.2.length * 5)) ∧ ((s5.2.2.length + (1 : Nat)) ≤ (4294967296 : Nat))))
      (some ((([] : List Ex), (s5.2.2 ++ [s11.1]))))))))
  (tp ((((List.length (List.flatMap Ex.cells s5.2.2)) = (s5.2.2.length * 5)) ∧ ((s5.2.2.length + (1 : Nat)) ≤ (4294967296 : Nat))))
   (some ((([] : List Ex), (s5.2.2 ++ [s11.1]))))))
theorem mPut_B9_ok (blocks : Int) (l : List Ex) (x : Ex) (s0 : Bool) (s2 : Bool) (s5 : Bool × Int × List Ex) (s8 : Ex × Bool) (s11 : Ex × Bool) (zz : List Ex × List Ex) : mPut_B9 blocks l x s0 s2 s5 s8 s11 = some zz → EvStep Try.prog cf 10 ((rfB Try.prog 108 0)) (mPut_B9_I blocks l x s0 s2 s5 s8 s11) (mPut_B9_S blocks l x s0 s2 s5 s8 s11 zz) := by
  unfold mPut_B9
  refine tb_ok (fun h14 => ?_) (fun h14 => ?_)
  ·
    have h14p := of_decide_eq_true h14
    refine tp_ok (fun h15 => ?_)
    refine tc_ok (fun s16 h16 => ?_)
    refine tb_ok (fun h17 => ?_) (fun h17 => ?_)
    ·
      have h17p := eq_of_beq h17
      refine tp_ok (fun h18 => ?_)
      intro e; injection e with e; subst e
      exact leafS vw_eq (k := 300) (r := []) (hs := hz [(6, [.yes]), (4, [.yes, .yes, .cells ((Ex.cells (exAt s5.2.2 (Int.toNat (wr ((s5.2.2.length : Int) - (1 : Int)))))))]), (1, [.fc]), (1, [.fres (.tu [Ex.av (s16.1), .i (s16.2)])]), (5, [.fc]), (1, [.yes]), (2, [.yes]), (5, [.fc, .yes, .yes, .cells ((List.flatMap Ex.cells (List.set s5.2.2 (Int.toNat (wr ((s5.2.2.length : Int) - (1 : Int)))) s16.1)))])]) (ks := [0, 1, 2, 5, 6, 7, 12, 17, 34, 35, 8]) (st1 := (St.mk [(0, (AV.i blocks)), (1, (exs l)), (2, (AV.ag (xc x))), (5, (AV.pt 0 0)), (6, (AV.pt 1 0)), (7, (AV.i 0)), (12, (AV.b (!s0))), (17, (AV.b (decide ((wr (x.lba + x.len)) > blocks)))), (34, (AV.fn (111 : Nat) [(AV.pt 3 0), (AV.pt 2 0)])), (35, (AV.ag (xc s11.1))), (8, (AV.pt 9 0))] 63 (AH.mk 11 [(10, (AObj.cells (xc s16.1))), (9, (AObj.cells (xc s11.1))), (8, (AObj.cells (xc s11.1))), (7, (AObj.cells (xc s8.1))), (6, (AObj.cells (xc (exAt l s5.2.1.toNat)))), (4, (AObj.loop Go.LoopState.busy Option.none [(0, (AV.i blocks)), (1, (exs l)), (2, (AV.ag (xc x))), (5, (AV.pt 0 0)), (6, (AV.pt 1 0)), (7, (AV.i 0)), (12, (AV.b (!s0))), (17, (AV.b (decide ((wr (x.lba + x.len)) > blocks)))), (34, (AV.fn (111 : Nat) [(AV.pt 3 0), (AV.pt 2 0)]))] 63 [(35 : Nat)] (rfA Try.prog 108 0) (rfB Try.prog 108 0))), (3, (AObj.cells (xc x))), (2, (AObj.cells [(exs l)])), (1, (AObj.cells [(AV.rf 5 5 0 s5.2.2.length)])), (0, (AObj.cells (xc x))), (5, (AObj.cells (List.flatMap Ex.cells (List.set s5.2.2 (Int.toNat (wr ((s5.2.2.length : Int) - (1 : Int)))) s16.1))))]) Bool.true)) kq (ac h14 (ac h15 (ac (fq (p := ((((0 : Nat) + ((Int.toNat (wr ((s5.2.2.length : Int) - (1 : Int)))) * 5)) + (5 : Nat)) ≤ (List.length (List.flatMap Ex.cells s5.2.2))))) (ac (show (List.take 5 (List.drop ((0 : Nat) + ((Int.toNat (wr ((s5.2.2.length : Int) - (1 : Int)))) * 5)) (List.flatMap Ex.cells s5.2.2))) = (Ex.cells (exAt s5.2.2 (Int.toNat (wr ((s5.2.2.length : Int) - (1 : Int)))))) from (ex_takeO bq bq)) (ac (eJoin_ok ((exAt s5.2.2 (Int.toNat (wr ((s5.2.2.length : Int) - (1 : Int)))))) (s11.1) _ h16).any0 (ac (show orderOk (rg Try.prog 108 0) = true ∧ allOk (Region.before (rg Try.prog 108 0)) [] 0 [(some [1], some []), (some [], some []), (some [], some []), (some [], some []), (some [5], some []), (some [9], some []), (some [], some []), (some [], some []), (some [], some []), (some [], some []), (some [], some [10]), (some [10], some [10]), (some [], some [])] = true from (ord_of ord_108_0 bef_108_0 kq)) (ac h17 (ac h15 (ac h18 (ac (show (((List.take ((0 : Nat) + ((Int.toNat (wr ((s5.2.2.length : Int) - (1 : Int)))) * 5)) (List.flatMap Ex.cells s5.2.2)) ++ (xc s16.1)) ++ (List.drop (((0 : Nat) + ((Int.toNat (wr ((s5.2.2.length : Int) - (1 : Int)))) * 5)) + (List.length (xc s16.1))) (List.flatMap Ex.cells s5.2.2))) = (List.flatMap Ex.cells (List.set s5.2.2 (Int.toNat (wr ((s5.2.2.length : Int) - (1 : Int)))) s16.1)) from (ex_setO (x := s16.1) bq bq tq)) an)))))))))) (Nat.le_of_ble_eq_true rfl) (Nat.le_of_ble_eq_true rfl) (absB_of [5] [] kq (.consn kq (.eqv tq rfl) (.consn kq (.eqv tq rfl) (.consn kq (.agp pq) (.consn kq (.pt rfl) (.consn kq (.pt rfl) (.consn kq (.eqv tq rfl) (.consn kq (.eqv tq rfl) (.consn kq (.eqv tq rfl) (.consn kq (.fn (.cons (.pt rfl) (.cons (.pt rfl) .nil))) (.consn kq (.agp pq) (.consn kq (.pt rfl) .nil))))))))))) (.cons (.old rfl rfl (.cells (.pl rfl pq))) (.cons (.old rfl rfl (.cells (.pl rfl pq))) (.cons (.old rfl rfl (.cells (.pl rfl pq))) (.cons (.old rfl rfl (.cells (.pl rfl pq))) (.cons (.old rfl rfl (.loop (.consn kq (.eqv tq rfl) (.consn kq (.eqv tq rfl) (.consn kq (.agp pq) (.consn kq (.pt rfl) (.consn kq (.pt rfl) (.consn kq (.eqv tq rfl) (.consn kq (.eqv tq rfl) (.consn kq (.eqv tq rfl) (.consn kq (.fn (.cons (.pt rfl) (.cons (.pt rfl) .nil))) .nil))))))))))) (.cons (.old rfl rfl (.cells (.pl rfl pq))) (.cons (.old rfl rfl (.cells (.cons (.eqv tq rfl) .nil))) (.cons (.old rfl rfl (.cells (.cons (.rfn (n := s5.2.2.length) rfl tq) .nil))) (.cons (.old rfl rfl (.cells (.pl rfl pq))) (.cons (.old rfl rfl (.cells (.pl tq pq))) .nil)))))))))))
    ·
      have h17p := ne_of_beq_false h17
      refine tp_ok (fun h18 => ?_)
      intro e; injection e with e; subst e
      exact leafS vw_eq (k := 300) (r := []) (hs := hz [(6, [.yes]), (4, [.yes, .yes, .cells ((Ex.cells (exAt s5.2.2 (Int.toNat (wr ((s5.2.2.length : Int) - (1 : Int)))))))]), (1, [.fc]), (1, [.fres (.tu [Ex.av (s16.1), .i (s16.2)])]), (5, [.fc]), (1, [.yes]), (2, [.no]), (3, [.fc]), (1, [.fc, .fc, .yes, .yes]), (1, [.fc])]) (ks := [0, 1, 2, 5, 6, 7, 12, 17, 34, 35, 8]) (st1 := (St.mk [(0, (AV.i blocks)), (1, (exs l)), (2, (AV.ag (xc x))), (5, (AV.pt 0 0)), (6, (AV.pt 1 0)), (7, (AV.i 0)), (12, (AV.b (!s0))), (17, (AV.b (decide ((wr (x.lba + x.len)) > blocks)))), (34, (AV.fn (111 : Nat) [(AV.pt 3 0), (AV.pt 2 0)])), (35, (AV.ag (xc s11.1))), (8, (AV.pt 9 0))] 63 (AH.mk 13 [(12, (AObj.cells ((List.flatMap Ex.cells s5.2.2) ++ (xc s11.1)))), (11, (AObj.cells (xc s11.1))), (10, (AObj.cells (xc s16.1))), (9, (AObj.cells (xc s11.1))), (8, (AObj.cells (xc s11.1))), (7, (AObj.cells (xc s8.1))), (6, (AObj.cells (xc (exAt l s5.2.1.toNat)))), (4, (AObj.loop Go.LoopState.busy Option.none [(0, (AV.i blocks)), (1, (exs l)), (2, (AV.ag (xc x))), (5, (AV.pt 0 0)), (6, (AV.pt 1 0)), (7, (AV.i 0)), (12, (AV.b (!s0))), (17, (AV.b (decide ((wr (x.lba + x.len)) > blocks)))), (34, (AV.fn (111 : Nat) [(AV.pt 3 0), (AV.pt 2 0)]))] 63 [(35 : Nat)] (rfA Try.prog 108 0) (rfB Try.prog 108 0))), (3, (AObj.cells (xc x))), (2, (AObj.cells [(exs l)])), (1, (AObj.cells [(AV.rf 12 5 0 (s5.2.2.length + (1 : Nat)))])), (0, (AObj.cells (xc x))), (5, AObj.dead)]) Bool.true)) kq (ac h14 (ac h15 (ac (fq (p := ((((0 : Nat) + ((Int.toNat (wr ((s5.2.2.length : Int) - (1 : Int)))) * 5)) + (5 : Nat)) ≤ (List.length (List.flatMap Ex.cells s5.2.2))))) (ac (show (List.take 5 (List.drop ((0 : Nat) + ((Int.toNat (wr ((s5.2.2.length : Int) - (1 : Int)))) * 5)) (List.flatMap Ex.cells s5.2.2))) = (Ex.cells (exAt s5.2.2 (Int.toNat (wr ((s5.2.2.length : Int) - (1 : Int)))))) from (ex_takeO bq bq)) (ac (eJoin_ok ((exAt s5.2.2 (Int.toNat (wr ((s5.2.2.length : Int) - (1 : Int)))))) (s11.1) _ h16).any0 (ac (show orderOk (rg Try.prog 108 0) = true ∧ allOk (Region.before (rg Try.prog 108 0)) [] 0 [(some [1], some []), (some [], some []), (some [], some []), (some [], some []), (some [5], some []), (some [9], some []), (some [], some []), (some [], some []), (some [], some []), (some [], some []), (some [], some [10]), (some [10], some [10]), (some [], some [])] = true from (ord_of ord_108_0 bef_108_0 kq)) (ac h17 (ac (tq (p := (((0 : Nat) = (0 : Nat)) ∧ ((List.length (xc s11.1)) = (5 : Nat))))) (ac h18 an))))))))) (Nat.le_of_ble_eq_true rfl) (Nat.le_of_ble_eq_true rfl) (absB_of [12] [] kq (.consn kq (.eqv tq rfl) (.consn kq (.eqv tq rfl) (.consn kq (.agp pq) (.consn kq (.pt rfl) (.consn kq (.pt rfl) (.consn kq (.eqv tq rfl) (.consn kq (.eqv tq rfl) (.consn kq (.eqv tq rfl) (.consn kq (.fn (.cons (.pt rfl) (.cons (.pt rfl) .nil))) (.consn kq (.agp pq) (.consn kq (.pt rfl) .nil))))))))))) (.cons (.old rfl rfl (.cells (.pl rfl pq))) (.cons (.old rfl rfl (.cells (.pl rfl pq))) (.cons (.old rfl rfl (.cells (.pl rfl pq))) (.cons (.old rfl rfl (.cells (.pl rfl pq))) (.cons (.old rfl rfl (.loop (.consn kq (.eqv tq rfl) (.consn kq (.eqv tq rfl) (.consn kq (.agp pq) (.consn kq (.pt rfl) (.consn kq (.pt rfl) (.consn kq (.eqv tq rfl) (.consn kq (.eqv tq rfl) (.consn kq (.eqv tq rfl) (.consn kq (.fn (.cons (.pt rfl) (.cons (.pt rfl) .nil))) .nil))))))))))) (.cons (.old rfl rfl (.cells (.pl rfl pq))) (.cons (.old rfl rfl (.cells (.cons (.eqv tq rfl) .nil))) (.cons (.old rfl rfl (.cells (.cons (.rfn (n := (s5.2.2.length + (1 : Nat))) rfl tq) .nil))) (.cons (.old rfl rfl (.cells (.pl rfl pq))) (.cons (.old rfl rfl (.cells (.pl tq pq))) .nil)))))))))))
  ·
    have h14p := of_decide_eq_false h14
    refine tp_ok (fun h15 => ?_)
    intro e; injection e with e; subst e
    exact leafS vw_eq (k := 300) (r := []) (hs := hz [(6, [.no]), (3, [.fc]), (1, [.fc, .fc, .yes, .yes]), (1, [.fc])]) (ks := [0, 1, 2, 5, 6, 7, 12, 17, 34, 35, 8]) (st1 := (St.mk [(0, (AV.i blocks)), (1, (exs l)), (2, (AV.ag (xc x))), (5, (AV.pt 0 0)), (6, (AV.pt 1 0)), (7, (AV.i 0)), (12, (AV.b (!s0))), (17, (AV.b (decide ((wr (x.lba + x.len)) > blocks)))), (34, (AV.fn (111 : Nat) [(AV.pt 3 0), (AV.pt 2 0)])), (35, (AV.ag (xc s11.1))), (8, (AV.pt 9 0))] 63 (AH.mk 12 [(11, (AObj.cells ((List.flatMap Ex.cells s5.2.2) ++ (xc s11.1)))), (10, (AObj.cells (xc s11.1))), (9, (AObj.cells (xc s11.1))), (8, (AObj.cells (xc s11.1))), (7, (AObj.cells (xc s8.1))), (6, (AObj.cells (xc (exAt l s5.2.1.toNat)))), (4, (AObj.loop Go.LoopState.busy Option.none [(0, (AV.i blocks)), (1, (exs l)), (2, (AV.ag (xc x))), (5, (AV.pt 0 0)), (6, (AV.pt 1 0)), (7, (AV.i 0)), (12, (AV.b (!s0))), (17, (AV.b (decide ((wr (x.lba + x.len)) > blocks)))), (34, (AV.fn (111 : Nat) [(AV.pt 3 0), (AV.pt 2 0)]))] 63 [(35 : Nat)] (rfA Try.prog 108 0) (rfB Try.prog 108 0))), (3, (AObj.cells (xc x))), (2, (AObj.cells [(exs l)])), (1, (AObj.cells [(AV.rf 11 5 0 (s5.2.2.length + (1 : Nat)))])), (0, (AObj.cells (xc x))), (5, AObj.dead)]) Bool.true)) kq (ac h14 (ac (tq (p := (((0 : Nat) = (0 : Nat)) ∧ ((List.length (xc s11.1)) = (5 : Nat))))) (ac h15 an))) (Nat.le_of_ble_eq_true rfl) (Nat.le_of_ble_eq_true rfl) (absB_of [11] [] kq (.consn kq (.eqv tq rfl) (.consn kq (.eqv tq rfl) (.consn kq (.agp pq) (.consn kq (.pt rfl) (.consn kq (.pt rfl) (.consn kq (.eqv tq rfl) (.consn kq (.eqv tq rfl) (.consn kq (.eqv tq rfl) (.consn kq (.fn (.cons (.pt rfl) (.cons (.pt rfl) .nil))) (.consn kq (.agp pq) (.consn kq (.pt rfl) .nil))))))))))) (.cons (.old rfl rfl (.cells (.pl rfl pq))) (.cons (.old rfl rfl (.cells (.pl rfl pq))) (.cons (.old rfl rfl (.cells (.pl rfl pq))) (.cons (.old rfl rfl (.cells (.pl rfl pq))) (.cons (.old rfl rfl (.loop (.consn kq (.eqv tq rfl) (.consn kq (.eqv tq rfl) (.consn kq (.agp pq) (.consn kq (.pt rfl) (.consn kq (.pt rfl) (.consn kq (.eqv tq rfl) (.consn kq (.eqv tq rfl) (.consn kq (.eqv tq rfl) (.consn kq (.fn (.cons (.pt rfl) (.cons (.pt rfl) .nil))) .nil))))))))))) (.cons (.old rfl rfl (.cells (.pl rfl pq))) (.cons (.old rfl rfl (.cells (.cons (.eqv tq rfl) .nil))) (.cons (.old rfl rfl (.cells (.cons (.rfn (n := (s5.2.2.length + (1 : Nat))) rfl tq) .nil))) (.cons (.old rfl rfl (.cells (.pl rfl pq))) (.cons (.old rfl rfl (.cells (.pl tq pq))) .nil)))))))))))
noncomputable abbrev mPut_L0_I (blocks : Int) (l : List Ex) (x : Ex) (s0 : Bool) (s2 : Bool) : St := (St.mk [(0, (AV.yl 4)), (1, (AV.pt 3 0)), (2, (AV.pt 2 0)), (12, (AV.pt 3 0)), (13, (AV.i x.lba)), (14, (AV.pt 3 1)), (15, (AV.i x.len)), (16, (AV.i (wr (x.lba + x.len)))), (4, (AV.i (wr (x.lba + x.len)))), (5, (AV.b Bool.false)), (17, (exs l)), (18, (AV.i (l.length : Int))), (19, (AV.i 0))] 67 (AH.mk 5 [(4, (AObj.loop Go.LoopState.ready Option.none [(0, (AV.i blocks)), (1, (exs l)), (2, (AV.ag (xc x))), (5, (AV.pt 0 0)), (6, (AV.pt 1 0)), (7, (AV.i 0)), (13, (AV.i blocks)), (14, (exs l)), (15, (AV.b s0)), (16, (AV.b (!s0))), (12, (AV.b (!s0))), (18, (AV.ag (xc x))), (19, (AV.b s2)), (20, (AV.b (!s2))), (21, (AV.b (!s2))), (22, (AV.pt 0 0)), (23, (AV.i x.lba)), (24, (AV.pt 0 1)), (25, (AV.i x.len)), (26, (AV.i (wr (x.lba + x.len)))), (27, (AV.i blocks)), (28, (AV.b (decide ((wr (x.lba + x.len)) > blocks)))), (29, (AV.b (decide ((wr (x.lba + x.len)) > blocks)))), (17, (AV.b (decide ((wr (x.lba + x.len)) > blocks)))), (32, (exs l)), (33, (AV.ag (xc x))), (34, (AV.fn (111 : Nat) [(AV.pt 3 0), (AV.pt 2 0)]))] 63 [(35 : Nat)] (rfA Try.prog 108 0) (rfB Try.prog 108 0))), (3, (AObj.cells (xc x))), (2, (AObj.cells [(exs l)])), (1, (AObj.cells [AV.nl])), (0, (AObj.cells (xc x)))]) Bool.false)
noncomputable abbrev mPut_L0_S (blocks : Int) (l : List Ex) (x : Ex) (s0 : Bool) (s2 : Bool) (s5 : Bool × Int × List Ex) : St := (St.mk [(0, (AV.yl 4)), (1, (AV.pt 3 0)), (2, (AV.pt 2 0)), (4, (AV.i (wr (x.lba + x.len)))), (5, (AV.b s5.1)), (17, (exs l)), (18, (AV.i (l.length : Int))), (19, (AV.i s5.2.1))] 67 (AH.mk 6 [(4, (AObj.loop Go.LoopState.ready Option.none [(0, (AV.i blocks)), (1, (exs l)), (2, (AV.ag (xc x))), (5, (AV.pt 0 0)), (6, (AV.pt 1 0)), (7, (AV.i 0)), (12, (AV.b (!s0))), (17, (AV.b (decide ((wr (x.lba + x.len)) > blocks)))), (34, (AV.fn (111 : Nat) [(AV.pt 3 0), (AV.pt 2 0)]))] 63 [(35 : Nat)] (rfA Try.prog 108 0) (rfB Try.prog 108 0))), (3, (AObj.cells (xc x))), (2, (AObj.cells [(exs l)])), (1, (AObj.cells [(AV.rf 5 5 0 s5.2.2.length)])), (0, (AObj.cells (xc x))), (5, (AObj.cells (List.flatMap Ex.cells s5.2.2)))]) Bool.false)
noncomputable def mPut_L0_step (blocks : Int) (l : List Ex) (x : Ex) (s0 : Bool) (s2 : Bool) (s5 : Bool × Int × List Ex) : Option (Bool × Int × List Ex) :=
 (tb ((decide (s5.2.1 < (l.length : Int))))
  (tp ((((0 : Int) ≤ s5.2.1) ∧ (s5.2.1 < (l.length : Int))))
   (tc (eCut ((exAt l s5.2.1.toNat)) ((0 : Int)) (x.lba)) fun s8 =>
    (tb (s8.2)
     (tc (mPut_B1 blocks l x s0 s2 s5 s8) fun s10 =>
      (tb ((!s5.1))
       (tb ((decide ((wr ((exAt l s5.2.1.toNat).lba + (exAt l s5.2.1.toNat).len)) > x.lba)))
        (tc (mPut_B2 blocks l x s0 s2 s5 s8 s10) fun s13 =>
         (tc (eCut ((exAt l s5.2.1.toNat)) ((wr (x.lba + x.len))) ((64 : Int))) fun s14 =>
          (tb (s14.2)
           (tc (mPut_B3 blocks l x s0 s2 s5 s8 s10 s13 s14) fun s16 =>
            (some ((Bool.true, ((wr (s5.2.1 + (1 : Int))), s16.2)))))
           (some ((Bool.true, ((wr (s5.2.1 + (1 : Int))), s13.2)))))))
        (tc (eCut ((exAt l s5.2.1.toNat)) ((wr (x.lba + x.len))) ((64 : Int))) fun s13 =>
         (tb (s13.2)
          (tc (mPut_B4 blocks l x s0 s2 s5 s8 s10 s13) fun s15 =>
           (some ((s5.1, ((wr (s5.2.1 + (1 : Int))), s15.2)))))
          (some ((s5.1, ((wr (s5.2.1 + (1 : Int))), s10.2)))))))
       (tc (eCut ((exAt l s5.2.1.toNat)) ((wr (x.lba + x.len))) ((64 : Int))) fun s12 =>
        (tb (s12.2)
         (tc (mPut_B5 blocks l x s0 s2 s5 s8 s10 s12) fun s14 =>
          (some ((s5.1, ((wr (s5.2.1 + (1 : Int))), s14.2)))))
         (some ((s5.1, ((wr (s5.2.1 + (1 : Int))), s10.2))))))))
     (tb ((!s5.1))
      (tb ((decide ((wr ((exAt l s5.2.1.toNat).lba + (exAt l s5.2.1.toNat).len)) > x.lba)))
       (tc (mPut_B6 blocks l x s0 s2 s5 s8) fun s12 =>
        (tc (eCut ((exAt l s5.2.1.toNat)) ((wr (x.lba + x.len))) ((64 : Int))) fun s13 =>
         (tb (s13.2)
          (tc (mPut_B7 blocks l x s0 s2 s5 s8 s12 s13) fun s15 =>
           (some ((Bool.true, ((wr (s5.2.1 + (1 : Int))), s15.2)))))
          (some ((Bool.true, ((wr (s5.2.1 + (1 : Int))), s12.2)))))))
       (tc (eCut ((exAt l s5.2.1.toNat)) ((wr (x.lba + x.len))) ((64 : Int))) fun s12 =>
        (tb (s12.2)
         (tc (mPut_B8 blocks l x s0 s2 s5 s8 s12) fun s14 =>
          (some ((s5.1, ((wr (s5.2.1 + (1 : Int))), s14.2)))))
         (some ((s5.1, ((wr (s5.2.1 + (1 : Int))), s5.2.2)))))))
      (tc (eCut ((exAt l s5.2.1.toNat)) ((wr (x.lba + x.len))) ((64 : Int))) fun s11 =>
       (tb (s11.2)
        (tc (mPut_B9 blocks l x s0 s2 s5 s8 s11) fun s13 =>
         (some ((s5.1, ((wr (s5.2.1 + (1 : Int))), s13.2)))))
        (some ((s5.1, ((wr (s5.2.1 + (1 : Int))), s5.2.2))))))))))
  none /- exit -/)
theorem mPut_L0_ok (blocks : Int) (l : List Ex) (x : Ex) (s0 : Bool) (s2 : Bool) (s5 zz : Bool × Int × List Ex) : mPut_L0_step blocks l x s0 s2 s5 = some zz → EvStep Try.prog cf 5 (lp Try.prog 111 0) (mPut_L0_S blocks l x s0 s2 s5) (mPut_L0_S blocks l x s0 s2 zz) := by
  unfold mPut_L0_step
  refine tb_ok (fun h6 => ?_) (fun h6 => ?_)
  ·
    have h6p := of_decide_eq_true h6
    refine tp_ok (fun h7 => ?_)
    refine tc_ok (fun s8 h8 => ?_)
    refine tb_ok (fun h9 => ?_) (fun h9 => ?_)
    ·
      refine tc_ok (fun s10 h10 => ?_)
      refine tb_ok (fun h11 => ?_) (fun h11 => ?_)
      ·
        refine tb_ok (fun h12 => ?_) (fun h12 => ?_)
        ·
          have h12p := of_decide_eq_true h12
          refine tc_ok (fun s13 h13 => ?_)
          refine tc_ok (fun s14 h14 => ?_)
          refine tb_ok (fun h15 => ?_) (fun h15 => ?_)
          ·
            refine tc_ok (fun s16 h16 => ?_)
            intro e; injection e with e; subst e
            exact leafS vw_eq (k := 300) (r := []) (hs := hz [(1, [.yes, .yes, .yes, .cells ((Ex.cells (exAt l s5.2.1.toNat)))]), (2, [.fc]), (1, [.fc]), (4, [.fres (.tu [Ex.av (s8.1), .b (s8.2)])]), (5, [.fc]), (3, [.yes]), (1, [.yes]), (1, [.fc, .yes]), (3, [.fc, .res .normal (mPut_B1_S blocks l x s0 s2 s5 s8 s10), .yes]), (1, [.yes]), (4, [.yes]), (1, [.yes]), (2, [.yes]), (1, [.yes]), (2, [.yes]), (1, [.yes]), (1, [.yes]), (2, [.yes]), (1, [.yes, .yes]), (3, [.fc]), (3, [.fc, .res .normal (mPut_B2_S blocks l x s0 s2 s5 s8 s10 s13)]), (3, [.fc]), (2, [.fres (.tu [Ex.av (s14.1), .b (s14.2)])]), (5, [.fc]), (3, [.yes]), (1, [.yes]), (1, [.fc, .yes]), (3, [.fc, .res .normal (mPut_B3_S blocks l x s0 s2 s5 s8 s10 s13 s14 s16), .yes]), (1, [.yes]), (3, [])]) (ks := [0, 1, 2, 4, 5, 17, 18, 19]) (st1 := (St.mk [(0, (AV.yl 4)), (1, (AV.pt 3 0)), (2, (AV.pt 2 0)), (4, (AV.i (wr (x.lba + x.len)))), (5, (AV.b Bool.true)), (17, (exs l)), (18, (AV.i (l.length : Int))), (19, (AV.i (wr (s5.2.1 + (1 : Int)))))] 67 (AH.mk 15 [(13, (AObj.cells (xc s14.1))), (12, (AObj.cells (xc s14.1))), (10, (AObj.cells (xc x))), (8, (AObj.cells (xc s8.1))), (7, (AObj.cells (xc s8.1))), (6, (AObj.cells (xc (exAt l s5.2.1.toNat)))), (4, (AObj.loop Go.LoopState.ready Option.none [(0, (AV.i blocks)), (1, (exs l)), (2, (AV.ag (xc x))), (5, (AV.pt 0 0)), (6, (AV.pt 1 0)), (7, (AV.i 0)), (12, (AV.b (!s0))), (17, (AV.b (decide ((wr (x.lba + x.len)) > blocks)))), (34, (AV.fn (111 : Nat) [(AV.pt 3 0), (AV.pt 2 0)]))] 63 [(35 : Nat)] (rfA Try.prog 108 0) (rfB Try.prog 108 0))), (3, (AObj.cells (xc x))), (2, (AObj.cells [(exs l)])), (1, (AObj.cells [(AV.rf 14 5 0 s16.2.length)])), (0, (AObj.cells (xc x))), (14, (AObj.cells (List.flatMap Ex.cells s16.2)))]) Bool.false)) kq (ac h6 (ac h7 (ac (fq (p := ((5 : Nat) ≤ (List.length (List.drop (s5.2.1.toNat * 5) (List.flatMap Ex.cells l)))))) (ac (show (List.take 5 (List.drop (s5.2.1.toNat * 5) (List.flatMap Ex.cells l))) = (Ex.cells (exAt l s5.2.1.toNat)) from (ex_takeO bq bq)) (ac (eCut_ok ((exAt l s5.2.1.toNat)) ((0 : Int)) (x.lba) _ h8).any0 (ac h9 (ac h9 (ac h9 (ac (show Ev Try.prog cf ((rfB Try.prog 108 0)) (mPut_B1_I blocks l x s0 s2 s5 s8) (.normal, mPut_B1_S blocks l x s0 s2 s5 s8 s10) from (EvStep.ev (mPut_B1_ok blocks l x s0 s2 s5 s8 _ h10) rfl)) (ac h9 (ac h9 (ac h11 (ac h11 (ac h11 (ac h11 (ac h11 (ac h11 (ac h11 (ac h11 (ac h11 (ac h12 (ac (show Ev Try.prog cf ((rfB Try.prog 108 0)) (mPut_B2_I blocks l x s0 s2 s5 s8 s10) (.normal, mPut_B2_S blocks l x s0 s2 s5 s8 s10 s13) from (EvStep.ev (mPut_B2_ok blocks l x s0 s2 s5 s8 s10 _ h13) rfl)) (ac (eCut_ok ((exAt l s5.2.1.toNat)) ((wr (x.lba + x.len))) ((64 : Int)) _ h14).any0 (ac h15 (ac h15 (ac h15 (ac (show Ev Try.prog cf ((rfB Try.prog 108 0)) (mPut_B3_I blocks l x s0 s2 s5 s8 s10 s13 s14) (.normal, mPut_B3_S blocks l x s0 s2 s5 s8 s10 s13 s14 s16) from (EvStep.ev (mPut_B3_ok blocks l x s0 s2 s5 s8 s10 s13 s14 _ h16) rfl)) (ac h15 (ac h15 an))))))))))))))))))))))))))))) (Nat.le_of_ble_eq_true rfl) (Nat.le_of_ble_eq_true rfl) (absB_of [14] [] kq (.consn kq (.yl rfl) (.consn kq (.pt rfl) (.consn kq (.pt rfl) (.consn kq (.eqv tq rfl) (.consn kq (.eqv tq rfl) (.consn kq (.eqv tq rfl) (.consn kq (.eqv tq rfl) (.consn kq (.eqv tq rfl) .nil)))))))) (.cons (.old rfl rfl (.loop (.consn kq (.eqv tq rfl) (.consn kq (.eqv tq rfl) (.consn kq (.agp pq) (.consn kq (.pt rfl) (.consn kq (.pt rfl) (.consn kq (.eqv tq rfl) (.consn kq (.eqv tq rfl) (.consn kq (.eqv tq rfl) (.consn kq (.fn (.cons (.pt rfl) (.cons (.pt rfl) .nil))) .nil))))))))))) (.cons (.old rfl rfl (.cells (.pl rfl pq))) (.cons (.old rfl rfl (.cells (.cons (.eqv tq rfl) .nil))) (.cons (.old rfl rfl (.cells (.cons (.rfn (n := s16.2.length) rfl tq) .nil))) (.cons (.old rfl rfl (.cells (.pl rfl pq))) (.cons (.old rfl rfl (.cells (.pl tq pq))) .nil)))))))
          ·
            intro e; injection e with e; subst e
            exact leafS vw_eq (k := 300) (r := []) (hs := hz [(1, [.yes, .yes, .yes, .cells ((Ex.cells (exAt l s5.2.1.toNat)))]), (2, [.fc]), (1, [.fc]), (4, [.fres (.tu [Ex.av (s8.1), .b (s8.2)])]), (5, [.fc]), (3, [.yes]), (1, [.yes]), (1, [.fc, .yes]), (3, [.fc, .res .normal (mPut_B1_S blocks l x s0 s2 s5 s8 s10), .yes]), (1, [.yes]), (4, [.yes]), (1, [.yes]), (2, [.yes]), (1, [.yes]), (2, [.yes]), (1, [.yes]), (1, [.yes]), (2, [.yes]), (1, [.yes, .yes]), (3, [.fc]), (3, [.fc, .res .normal (mPut_B2_S blocks l x s0 s2 s5 s8 s10 s13)]), (3, [.fc]), (2, [.fres (.tu [Ex.av (s14.1), .b (s14.2)])]), (5, [.fc]), (3, [.no, .no, .no, .no, .no]), (3, [])]) (ks := [0, 1, 2, 4, 5, 17, 18, 19]) (st1 := (St.mk [(0, (AV.yl 4)), (1, (AV.pt 3 0)), (2, (AV.pt 2 0)), (4, (AV.i (wr (x.lba + x.len)))), (5, (AV.b Bool.true)), (17, (exs l)), (18, (AV.i (l.length : Int))), (19, (AV.i (wr (s5.2.1 + (1 : Int)))))] 67 (AH.mk 13 [(12, (AObj.cells (xc s14.1))), (10, (AObj.cells (xc x))), (8, (AObj.cells (xc s8.1))), (7, (AObj.cells (xc s8.1))), (6, (AObj.cells (xc (exAt l s5.2.1.toNat)))), (4, (AObj.loop Go.LoopState.ready Option.none [(0, (AV.i blocks)), (1, (exs l)), (2, (AV.ag (xc x))), (5, (AV.pt 0 0)), (6, (AV.pt 1 0)), (7, (AV.i 0)), (12, (AV.b (!s0))), (17, (AV.b (decide ((wr (x.lba + x.len)) > blocks)))), (34, (AV.fn (111 : Nat) [(AV.pt 3 0), (AV.pt 2 0)]))] 63 [(35 : Nat)] (rfA Try.prog 108 0) (rfB Try.prog 108 0))), (3, (AObj.cells (xc x))), (2, (AObj.cells [(exs l)])), (1, (AObj.cells [(AV.rf 11 5 0 s13.2.length)])), (0, (AObj.cells (xc x))), (11, (AObj.cells (List.flatMap Ex.cells s13.2)))]) Bool.false)) kq (ac h6 (ac h7 (ac (fq (p := ((5 : Nat) ≤ (List.length (List.drop (s5.2.1.toNat * 5) (List.flatMap Ex.cells l)))))) (ac (show (List.take 5 (List.drop (s5.2.1.toNat * 5) (List.flatMap Ex.cells l))) = (Ex.cells (exAt l s5.2.1.toNat)) from (ex_takeO bq bq)) (ac (eCut_ok ((exAt l s5.2.1.toNat)) ((0 : Int)) (x.lba) _ h8).any0 (ac h9 (ac h9 (ac h9 (ac (show Ev Try.prog cf ((rfB Try.prog 108 0)) (mPut_B1_I blocks l x s0 s2 s5 s8) (.normal, mPut_B1_S blocks l x s0 s2 s5 s8 s10) from (EvStep.ev (mPut_B1_ok blocks l x s0 s2 s5 s8 _ h10) rfl)) (ac h9 (ac h9 (ac h11 (ac h11 (ac h11 (ac h11 (ac h11 (ac h11 (ac h11 (ac h11 (ac h11 (ac h12 (ac (show Ev Try.prog cf ((rfB Try.prog 108 0)) (mPut_B2_I blocks l x s0 s2 s5 s8 s10) (.normal, mPut_B2_S blocks l x s0 s2 s5 s8 s10 s13) from (EvStep.ev (mPut_B2_ok blocks l x s0 s2 s5 s8 s10 _ h13) rfl)) (ac (eCut_ok ((exAt l s5.2.1.toNat)) ((wr (x.lba + x.len))) ((64 : Int)) _ h14).any0 (ac h15 (ac h15 (ac h15 (ac h15 (ac h15 an)))))))))))))))))))))))))))) (Nat.le_of_ble_eq_true rfl) (Nat.le_of_ble_eq_true rfl) (absB_of [11] [] kq (.consn kq (.yl rfl) (.consn kq (.pt rfl) (.consn kq (.pt rfl) (.consn kq (.eqv tq rfl) (.consn kq (.eqv tq rfl) (.consn kq (.eqv tq rfl) (.consn kq (.eqv tq rfl) (.consn kq (.eqv tq rfl) .nil)))))))) (.cons (.old rfl rfl (.loop (.consn kq (.eqv tq rfl) (.consn kq (.eqv tq rfl) (.consn kq (.agp pq) (.consn kq (.pt rfl) (.consn kq (.pt rfl) (.consn kq (.eqv tq rfl) (.consn kq (.eqv tq rfl) (.consn kq (.eqv tq rfl) (.consn kq (.fn (.cons (.pt rfl) (.cons (.pt rfl) .nil))) .nil))))))))))) (.cons (.old rfl rfl (.cells (.pl rfl pq))) (.cons (.old rfl rfl (.cells (.cons (.eqv tq rfl) .nil))) (.cons (.old rfl rfl (.cells (.cons (.rfn (n := s13.2.length) rfl tq) .nil))) (.cons (.old rfl rfl (.cells (.pl rfl pq))) (.cons (.old rfl rfl (.cells (.pl tq pq))) .nil)))))))
        ·
          have h12p := of_decide_eq_false h12
          refine tc_ok (fun s13 h13 => ?_)
          refine tb_ok (fun h14 => ?_) (fun h14 => ?_)
          ·
            refine tc_ok (fun s15 h15 => ?_)
            intro e; injection e with e; subst e
            exact leafS vw_eq (k := 300) (r := []) (hs := hz [(1, [.yes, .yes, .yes, .cells ((Ex.cells (exAt l s5.2.1.toNat)))]), (2, [.fc]), (1, [.fc]), (4, [.fres (.tu [Ex.av (s8.1), .b (s8.2)])]), (5, [.fc]), (3, [.yes]), (1, [.yes]), (1, [.fc, .yes]), (3, [.fc, .res .normal (mPut_B1_S blocks l x s0 s2 s5 s8 s10), .yes]), (1, [.yes]), (4, [.yes]), (1, [.yes]), (2, [.yes]), (1, [.yes]), (2, [.yes]), (1, [.yes]), (1, [.yes]), (2, [.yes]), (1, [.yes, .no]), (1, [.fc]), (2, [.fres (.tu [Ex.av (s13.1), .b (s13.2)])]), (5, [.fc]), (3, [.yes]), (1, [.yes]), (1, [.fc, .yes]), (3, [.fc, .res .normal (mPut_B4_S blocks l x s0 s2 s5 s8 s10 s13 s15), .yes]), (1, [.yes]), (3, [])]) (ks := [0, 1, 2, 4, 5, 17, 18, 19]) (st1 := (St.mk [(0, (AV.yl 4)), (1, (AV.pt 3 0)), (2, (AV.pt 2 0)), (4, (AV.i (wr (x.lba + x.len)))), (5, (AV.b s5.1)), (17, (exs l)), (18, (AV.i (l.length : Int))), (19, (AV.i (wr (s5.2.1 + (1 : Int)))))] 67 (AH.mk 13 [(11, (AObj.cells (xc s13.1))), (10, (AObj.cells (xc s13.1))), (8, (AObj.cells (xc s8.1))), (7, (AObj.cells (xc s8.1))), (6, (AObj.cells (xc (exAt l s5.2.1.toNat)))), (4, (AObj.loop Go.LoopState.ready Option.none [(0, (AV.i blocks)), (1, (exs l)), (2, (AV.ag (xc x))), (5, (AV.pt 0 0)), (6, (AV.pt 1 0)), (7, (AV.i 0)), (12, (AV.b (!s0))), (17, (AV.b (decide ((wr (x.lba + x.len)) > blocks)))), (34, (AV.fn (111 : Nat) [(AV.pt 3 0), (AV.pt 2 0)]))] 63 [(35 : Nat)] (rfA Try.prog 108 0) (rfB Try.prog 108 0))), (3, (AObj.cells (xc x))), (2, (AObj.cells [(exs l)])), (1, (AObj.cells [(AV.rf 12 5 0 s15.2.length)])), (0, (AObj.cells (xc x))), (12, (AObj.cells (List.flatMap Ex.cells s15.2)))]) Bool.false)) kq (ac h6 (ac h7 (ac (fq (p := ((5 : Nat) ≤ (List.length (List.drop (s5.2.1.toNat * 5) (List.flatMap Ex.cells l)))))) (ac (show (List.take 5 (List.drop (s5.2.1.toNat * 5) (List.flatMap Ex.cells l))) = (Ex.cells (exAt l s5.2.1.toNat)) from (ex_takeO bq bq)) (ac (eCut_ok ((exAt l s5.2.1.toNat)) ((0 : Int)) (x.lba) _ h8).any0 (ac h9 (ac h9 (ac h9 (ac (show Ev Try.prog cf ((rfB Try.prog 108 0)) (mPut_B1_I blocks l x s0 s2 s5 s8) (.normal, mPut_B1_S blocks l x s0 s2 s5 s8 s10) from (EvStep.ev (mPut_B1_ok blocks l x s0 s2 s5 s8 _ h10) rfl)) (ac h9 (ac h9 (ac h11 (ac h11 (ac h11 (ac h11 (ac h11 (ac h11 (ac h11 (ac h11 (ac h11 (ac h12 (ac (eCut_ok ((exAt l s5.2.1.toNat)) ((wr (x.lba + x.len))) ((64 : Int)) _ h13).any0 (ac h14 (ac h14 (ac h14 (ac (show Ev Try.prog cf ((rfB Try.prog 108 0)) (mPut_B4_I blocks l x s0 s2 s5 s8 s10 s13) (.normal, mPut_B4_S blocks l x s0 s2 s5 s8 s10 s13 s15) from (EvStep.ev (mPut_B4_ok blocks l x s0 s2 s5 s8 s10 s13 _ h15) rfl)) (ac h14 (ac h14 an)))))))))))))))))))))))))))) (Nat.le_of_ble_eq_true rfl) (Nat.le_of_ble_eq_true rfl) (absB_of [12] [] kq (.consn kq (.yl rfl) (.consn kq (.pt rfl) (.consn kq (.pt rfl) (.consn kq (.eqv tq rfl) (.consn kq (.eqv tq rfl) (.consn kq (.eqv tq rfl) (.consn kq (.eqv tq rfl) (.consn kq (.eqv tq rfl) .nil)))))))) (.cons (.old rfl rfl (.loop (.consn kq (.eqv tq rfl) (.consn kq (.eqv tq rfl) (.consn kq (.agp pq) (.consn kq (.pt rfl) (.consn kq (.pt rfl) (.consn kq (.eqv tq rfl) (.consn kq (.eqv tq rfl) (.consn kq (.eqv tq rfl) (.consn kq (.fn (.cons (.pt rfl) (.cons (.pt rfl) .nil))) .nil))))))))))) (.cons (.old rfl rfl (.cells (.pl rfl pq))) (.cons (.old rfl rfl (.cells (.cons (.eqv tq rfl) .nil))) (.cons (.old rfl rfl (.cells (.cons (.rfn (n := s15.2.length) rfl tq) .nil))) (.cons (.old rfl rfl (.cells (.pl rfl pq))) (.cons (.old rfl rfl (.cells (.pl tq pq))) .nil)))))))
          ·
            intro e; injection e with e; subst e
            exact leafS vw_eq (k := 300) (r := []) (hs := hz [(1, [.yes, .yes, .yes, .cells ((Ex.cells (exAt l s5.2.1.toNat)))]), (2, [.fc]), (1, [.fc]), (4, [.fres (.tu [Ex.av (s8.1), .b (s8.2)])]), (5, [.fc]), (3, [.yes]), (1, [.yes]), (1, [.fc, .yes]), (3, [.fc, .res .normal (mPut_B1_S blocks l x s0 s2 s5 s8 s10), .yes]), (1, [.yes]), (4, [.yes]), (1, [.yes]), (2, [.yes]), (1, [.yes]), (2, [.yes]), (1, [.yes]), (1, [.yes]), (2, [.yes]), (1, [.yes, .no]), (1, [.fc]), (2, [.fres (.tu [Ex.av (s13.1), .b (s13.2)])]), (5, [.fc]), (3, [.no, .no, .no, .no, .no]), (3, [])]) (ks := [0, 1, 2, 4, 5, 17, 18, 19]) (st1 := (St.mk [(0, (AV.yl 4)), (1, (AV.pt 3 0)), (2, (AV.pt 2 0)), (4, (AV.i (wr (x.lba + x.len)))), (5, (AV.b s5.1)), (17, (exs l)), (18, (AV.i (l.length : Int))), (19, (AV.i (wr (s5.2.1 + (1 : Int)))))] 67 (AH.mk 11 [(10, (AObj.cells (xc s13.1))), (8, (AObj.cells (xc s8.1))), (7, (AObj.cells (xc s8.1))), (6, (AObj.cells (xc (exAt l s5.2.1.toNat)))), (4, (AObj.loop Go.LoopState.ready Option.none [(0, (AV.i blocks)), (1, (exs l)), (2, (AV.ag (xc x))), (5, (AV.pt 0 0)), (6, (AV.pt 1 0)), (7, (AV.i 0)), (12, (AV.b (!s0))), (17, (AV.b (decide ((wr (x.lba + x.len)) > blocks)))), (34, (AV.fn (111 : Nat) [(AV.pt 3 0), (AV.pt 2 0)]))] 63 [(35 : Nat)] (rfA Try.prog 108 0) (rfB Try.prog 108 0))), (3, (AObj.cells (xc x))), (2, (AObj.cells [(exs l)])), (1, (AObj.cells [(AV.rf 9 5 0 s10.2.length)])), (0, (AObj.cells (xc x))), (9, (AObj.cells (List.flatMap Ex.cells s10.2)))]) Bool.false)) kq (ac h6 (ac h7 (ac (fq (p := ((5 : Nat) ≤ (List.length (List.drop (s5.2.1.toNat * 5) (List.flatMap Ex.cells l)))))) (ac (show (List.take 5 (List.drop (s5.2.1.toNat * 5) (List.flatMap Ex.cells l))) = (Ex.cells (exAt l s5.2.1.toNat)) from (ex_takeO bq bq)) (ac (eCut_ok ((exAt l s5.2.1.toNat)) ((0 : Int)) (x.lba) _ h8).any0 (ac h9 (ac h9 (ac h9 (ac (show Ev Try.prog cf ((rfB Try.prog 108 0)) (mPut_B1_I blocks l x s0 s2 s5 s8) (.normal, mPut_B1_S blocks l x s0 s2 s5 s8 s10) from (EvStep.ev (mPut_B1_ok blocks l x s0 s2 s5 s8 _ h10) rfl)) (ac h9 (ac h9 (ac h11 (ac h11 (ac h11 (ac h11 (ac h11 (ac h11 (ac h11 (ac h11 (ac h11 (ac h12 (ac (eCut_ok ((exAt l s5.2.1.toNat)) ((wr (x.lba + x.len))) ((64 : Int)) _ h13).any0 (ac h14 (ac h14 (ac h14 (ac h14 (ac h14 an))))))))))))))))))))))))))) (Nat.le_of_ble_eq_true rfl) (Nat.le_of_ble_eq_true rfl) (absB_of [9] [] kq (.consn kq (.yl rfl) (.consn kq (.pt rfl) (.consn kq (.pt rfl) (.consn kq (.eqv tq rfl) (.consn kq (.eqv tq rfl) (.consn kq (.eqv tq rfl) (.consn kq (.eqv tq rfl) (.consn kq (.eqv tq rfl) .nil)))))))) (.cons (.old rfl rfl (.loop (.consn kq (.eqv tq rfl) (.consn kq (.eqv tq rfl) (.consn kq (.agp pq) (.consn kq (.pt rfl) (.consn kq (.pt rfl) (.consn kq (.eqv tq rfl) (.consn kq (.eqv tq rfl) (.consn kq (.eqv tq rfl) (.consn kq (.fn (.cons (.pt rfl) (.cons (.pt rfl) .nil))) .nil))))))))))) (.cons (.old rfl rfl (.cells (.pl rfl pq))) (.cons (.old rfl rfl (.cells (.cons (.eqv tq rfl) .nil))) (.cons (.old rfl rfl (.cells (.cons (.rfn (n := s10.2.length) rfl tq) .nil))) (.cons (.old rfl rfl (.cells (.pl rfl pq))) (.cons (.old rfl rfl (.cells (.pl tq pq))) .nil)))))))
      ·
        refine tc_ok (fun s12 h12 => ?_)
        refine tb_ok (fun h13 => ?_) (fun h13 => ?_)
        ·
          refine tc_ok (fun s14 h14 => ?_)
          intro e; injection e with e; subst e
          exact leafS vw_eq (k := 300) (r := []) (hs := hz [(1, [.yes, .yes, .yes, .cells ((Ex.cells (exAt l s5.2.1.toNat)))]), (2, [.fc]), (1, [.fc]), (4, [.fres (.tu [Ex.av (s8.1), .b (s8.2)])]), (5, [.fc]), (3, [.yes]), (1, [.yes]), (1, [.fc, .yes]), (3, [.fc, .res .normal (mPut_B1_S blocks l x s0 s2 s5 s8 s10), .yes]), (1, [.yes]), (4, [.no, .no, .no, .no, .no, .no, .no, .no, .no]), (2, [.fc]), (2, [.fres (.tu [Ex.av (s12.1), .b (s12.2)])]), (5, [.fc]), (3, [.yes]), (1, [.yes]), (1, [.fc, .yes]), (3, [.fc, .res .normal (mPut_B5_S blocks l x s0 s2 s5 s8 s10 s12 s14), .yes]), (1, [.yes]), (3, [])]) (ks := [0, 1, 2, 4, 5, 17, 18, 19]) (st1 := (St.mk [(0, (AV.yl 4)), (1, (AV.pt 3 0)), (2, (AV.pt 2 0)), (4, (AV.i (wr (x.lba + x.len)))), (5, (AV.b s5.1)), (17, (exs l)), (18, (AV.i (l.length : Int))), (19, (AV.i (wr (s5.2.1 + (1 : Int)))))] 67 (AH.mk 13 [(11, (AObj.cells (xc s12.1))), (10, (AObj.cells (xc s12.1))), (8, (AObj.cells (xc s8.1))), (7, (AObj.cells (xc s8.1))), (6, (AObj.cells (xc (exAt l s5.2.1.toNat)))), (4, (AObj.loop Go.LoopState.ready Option.none [(0, (AV.i blocks)), (1, (exs l)), (2, (AV.ag (xc x))), (5, (AV.pt 0 0)), (6, (AV.pt 1 0)), (7, (AV.i 0)), (12, (AV.b (!s0))), (17, (AV.b (decide ((wr (x.lba + x.len)) > blocks)))), (34, (AV.fn (111 : Nat) [(AV.pt 3 0), (AV.pt 2 0)]))] 63 [(35 : Nat)] (rfA Try.prog 108 0) (rfB Try.prog 108 0))), (3, (AObj.cells (xc x))), (2, (AObj.cells [(exs l)])), (1, (AObj.cells [(AV.rf 12 5 0 s14.2.length)])), (0, (AObj.cells (xc x))), (12, (AObj.cells (List.flatMap Ex.cells s14.2)))]) Bool.false)) kq (ac h6 (ac h7 (ac (fq (p := ((5 : Nat) ≤ (List.length (List.drop (s5.2.1.toNat * 5) (List.flatMap Ex.cells l)))))) (ac (show (List.take 5 (List.drop (s5.2.1.toNat * 5) (List.flatMap Ex.cells l))) = (Ex.cells (exAt l s5.2.1.toNat)) from (ex_takeO bq bq)) (ac (eCut_ok ((exAt l s5.2.1.toNat)) ((0 : Int)) (x.lba) _ h8).any0 (ac h9 (ac h9 (ac h9 (ac (show Ev Try.prog cf ((rfB Try.prog 108 0)) (mPut_B1_I blocks l x s0 s2 s5 s8) (.normal, mPut_B1_S blocks l x s0 s2 s5 s8 s10) from (EvStep.ev (mPut_B1_ok blocks l x s0 s2 s5 s8 _ h10) rfl)) (ac h9 (ac h9 (ac h11 (ac h11 (ac h11 (ac h11 (ac h11 (ac h11 (ac h11 (ac h11 (ac h11 (ac (eCut_ok ((exAt l s5.2.1.toNat)) ((wr (x.lba + x.len))) ((64 : Int)) _ h12).any0 (ac h13 (ac h13 (ac h13 (ac (show Ev Try.prog cf ((rfB Try.prog 108 0)) (mPut_B5_I blocks l x s0 s2 s5 s8 s10 s12) (.normal, mPut_B5_S blocks l x s0 s2 s5 s8 s10 s12 s14) from (EvStep.ev (mPut_B5_ok blocks l x s0 s2 s5 s8 s10 s12 _ h14) rfl)) (ac h13 (ac h13 an))))))))))))))))))))))))))) (Nat.le_of_ble_eq_true rfl) (Nat.le_of_ble_eq_true rfl) (absB_of [12] [] kq (.consn kq (.yl rfl) (.consn kq (.pt rfl) (.consn kq (.pt rfl) (.consn kq (.eqv tq rfl) (.consn kq (.eqv tq rfl) (.consn kq (.eqv tq rfl) (.consn kq (.eqv tq rfl) (.consn kq (.eqv tq rfl) .nil)))))))) (.cons (.old rfl rfl (.loop (.consn kq (.eqv tq rfl) (.consn kq (.eqv tq rfl) (.consn kq (.agp pq) (.consn kq (.pt rfl) (.consn kq (.pt rfl) (.consn kq (.eqv tq rfl) (.consn kq (.eqv tq rfl) (.consn kq (.eqv tq rfl) (.consn kq (.fn (.cons (.pt rfl) (.cons (.pt rfl) .nil))) .nil))))))))))) (.cons (.old rfl rfl (.cells (.pl rfl pq))) (.cons (.old rfl rfl (.cells (.cons (.eqv tq rfl) .nil))) (.cons (.old rfl rfl (.cells (.cons (.rfn (n := s14.2.length) rfl tq) .nil))) (.cons (.old rfl rfl (.cells (.pl rfl pq))) (.cons (.old rfl rfl (.cells (.pl tq pq))) .nil)))))))
        ·
          intro e; injection e with e; subst e
          exact leafS vw_eq (k := 300) (r := []) (hs := hz [(1, [.yes, .yes, .yes, .cells ((Ex.cells (exAt l s5.2.1.toNat)))]), (2, [.fc]), (1, [.fc]), (4, [.fres (.tu [Ex.av (s8.1), .b (s8.2)])]), (5, [.fc]), (3, [.yes]), (1, [.yes]), (1, [.fc, .yes]), (3, [.fc, .res .normal (mPut_B1_S blocks l x s0 s2 s5 s8 s10), .yes]), (1, [.yes]), (4, [.no, .no, .no, .no, .no, .no, .no, .no, .no]), (2, [.fc]), (2, [.fres (.tu [Ex.av (s12.1), .b (s12.2)])]), (5, [.fc]), (3, [.no, .no, .no, .no, .no]), (3, [])]) (ks := [0, 1, 2, 4, 5, 17, 18, 19]) (st1 := (St.mk [(0, (AV.yl 4)), (1, (AV.pt 3 0)), (2, (AV.pt 2 0)), (4, (AV.i (wr (x.lba + x.len)))), (5, (AV.b s5.1)), (17, (exs l)), (18, (AV.i (l.length : Int))), (19, (AV.i (wr (s5.2.1 + (1 : Int)))))] 67 (AH.mk 11 [(10, (AObj.cells (xc s12.1))), (8, (AObj.cells (xc s8.1))), (7, (AObj.cells (xc s8.1))), (6, (AObj.cells (xc (exAt l s5.2.1.toNat)))), (4, (AObj.loop Go.LoopState.ready Option.none [(0, (AV.i blocks)), (1, (exs l)), (2, (AV.ag (xc x))), (5, (AV.pt 0 0)), (6, (AV.pt 1 0)), (7, (AV.i 0)), (12, (AV.b (!s0))), (17, (AV.b (decide ((wr (x.lba + x.len)) > blocks)))), (34, (AV.fn (111 : Nat) [(AV.pt 3 0), (AV.pt 2 0)]))] 63 [(35 : Nat)] (rfA Try.prog 108 0) (rfB Try.prog 108 0))), (3, (AObj.cells (xc x))), (2, (AObj.cells [(exs l)])), (1, (AObj.cells [(AV.rf 9 5 0 s10.2.length)])), (0, (AObj.cells (xc x))), (9, (AObj.cells (List.flatMap Ex.cells s10.2)))]) Bool.false)) kq (ac h6 (ac h7 (ac (fq (p := ((5 : Nat) ≤ (List.length (List.drop (s5.2.1.toNat * 5) (List.flatMap Ex.cells l)))))) (ac (show (List.take 5 (List.drop (s5.2.1.toNat * 5) (List.flatMap Ex.cells l))) = (Ex.cells (exAt l s5.2.1.toNat)) from (ex_takeO bq bq)) (ac (eCut_ok ((exAt l s5.2.1.toNat)) ((0 : Int)) (x.lba) _ h8).any0 (ac h9 (ac h9 (ac h9 (ac (show Ev Try.prog cf ((rfB Try.prog 108 0)) (mPut_B1_I blocks l x s0 s2 s5 s8) (.normal, mPut_B1_S blocks l x s0 s2 s5 s8 s10) from (EvStep.ev (mPut_B1_ok blocks l x s0 s2 s5 s8 _ h10) rfl)) (ac h9 (ac h9 (ac h11 (ac h11 (ac h11 (ac h11 (ac h11 (ac h11 (ac h11 (ac h11 (ac h11 (ac (eCut_ok ((exAt l s5.2.1.toNat)) ((wr (x.lba + x.len))) ((64 : Int)) _ h12).any0 (ac h13 (ac h13 (ac h13 (ac h13 (ac h13 an)))))))))))))))))))))))))) (Nat.le_of_ble_eq_true rfl) (Nat.le_of_ble_eq_true rfl) (absB_of [9] [] kq (.consn kq (.yl rfl) (.consn kq (.pt rfl) (.consn kq (.pt rfl) (.consn kq (.eqv tq rfl) (.consn kq (.eqv tq rfl) (.consn kq (.eqv tq rfl) (.consn kq (.eqv tq rfl) (.consn kq (.eqv tq rfl) .nil)))))))) (.cons (.old rfl rfl (.loop (.consn kq (.eqv tq rfl) (.consn kq (.eqv tq rfl) (.consn kq (.agp pq) (.consn kq (.pt rfl) (.consn kq (.pt rfl) (.consn kq (.eqv tq rfl) (.consn kq (.eqv tq rfl) (.consn kq (.eqv tq rfl) (.consn kq (.fn (.cons (.pt rfl) (.cons (.pt rfl) .nil))) .nil))))))))))) (.cons (.old rfl rfl (.cells (.pl rfl pq))) (.cons (.old rfl rfl (.cells (.cons (.eqv tq rfl) .nil))) (.cons (.old rfl rfl (.cells (.cons (.rfn (n := s10.2.length) rfl tq) .nil))) (.cons (.old rfl rfl (.cells (.pl rfl pq))) (.cons (.old rfl rfl (.cells (.pl tq pq))) .nil)))))))
    ·
      refine tb_ok (fun h10 => ?_) (fun h10 => ?_)
      ·
        refine tb_ok (fun h11 => ?_) (fun h11 => ?_)
        ·
          have h11p := of_decide_eq_true h11
          refine tc_ok (fun s12 h12 => ?_)
          refine tc_ok (fun s13 h13 => ?_)
          refine tb_ok (fun h14 => ?_) (fun h14 => ?_)
          ·
            refine tc_ok (fun s15 h15 => ?_)
            intro e; injection e with e; subst e
            exact leafS vw_eq (k := 300) (r := []) (hs := hz [(1, [.yes, .yes, .yes, .cells ((Ex.cells (exAt l s5.2.1.toNat)))]), (2, [.fc]), (1, [.fc]), (4, [.fres (.tu [Ex.av (s8.1), .b (s8.2)])]), (5, [.fc]), (3, [.no, .no, .no, .no, .no]), (4, [.yes]), (1, [.yes]), (2, [.yes]), (1, [.yes]), (2, [.yes]), (1, [.yes]), (1, [.yes]), (2, [.yes]), (1, [.yes, .yes]), (3, [.fc]), (3, [.fc, .res .normal (mPut_B6_S blocks l x s0 s2 s5 s8 s12)]), (3, [.fc]), (2, [.fres (.tu [Ex.av (s13.1), .b (s13.2)])]), (5, [.fc]), (3, [.yes]), (1, [.yes]), (1, [.fc, .yes]), (3, [.fc, .res .normal (mPut_B7_S blocks l x s0 s2 s5 s8 s12 s13 s15), .yes]), (1, [.yes]), (3, [])]) (ks := [0, 1, 2, 4, 5, 17, 18, 19]) (st1 := (St.mk [(0, (AV.yl 4)), (1, (AV.pt 3 0)), (2, (AV.pt 2 0)), (4, (AV.i (wr (x.lba + x.len)))), (5, (AV.b Bool.true)), (17, (exs l)), (18, (AV.i (l.length : Int))), (19, (AV.i (wr (s5.2.1 + (1 : Int)))))] 67 (AH.mk 13 [(11, (AObj.cells (xc s13.1))), (10, (AObj.cells (xc s13.1))), (8, (AObj.cells (xc x))), (7, (AObj.cells (xc s8.1))), (6, (AObj.cells (xc (exAt l s5.2.1.toNat)))), (4, (AObj.loop Go.LoopState.ready Option.none [(0, (AV.i blocks)), (1, (exs l)), (2, (AV.ag (xc x))), (5, (AV.pt 0 0)), (6, (AV.pt 1 0)), (7, (AV.i 0)), (12, (AV.b (!s0))), (17, (AV.b (decide ((wr (x.lba + x.len)) > blocks)))), (34, (AV.fn (111 : Nat) [(AV.pt 3 0), (AV.pt 2 0)]))] 63 [(35 : Nat)] (rfA Try.prog 108 0) (rfB Try.prog 108 0))), (3, (AObj.cells (xc x))), (2, (AObj.cells [(exs l)])), (1, (AObj.cells [(AV.rf 12 5 0 s15.2.length)])), (0, (AObj.cells (xc x))), (12, (AObj.cells (List.flatMap Ex.cells s15.2)))]) Bool.false)) kq (ac h6 (ac h7 (ac (fq (p := ((5 : Nat) ≤ (List.length (List.drop (s5.2.1.toNat * 5) (List.flatMap Ex.cells l)))))) (ac (show (List.take 5 (List.drop (s5.2.1.toNat * 5) (List.flatMap Ex.cells l))) = (Ex.cells (exAt l s5.2.1.toNat)) from (ex_takeO bq bq)) (ac (eCut_ok ((exAt l s5.2.1.toNat)) ((0 : Int)) (x.lba) _ h8).any0 (ac h9 (ac h9 (ac h9 (ac h9 (ac h9 (ac h10 (ac h10 (ac h10 (ac h10 (ac h10 (ac h10 (ac h10 (ac h10 (ac h10 (ac h11 (ac (show Ev Try.prog cf ((rfB Try.prog 108 0)) (mPut_B6_I blocks l x s0 s2 s5 s8) (.normal, mPut_B6_S blocks l x s0 s2 s5 s8 s12) from (EvStep.ev (mPut_B6_ok blocks l x s0 s2 s5 s8 _ h12) rfl)) (ac (eCut_ok ((exAt l s5.2.1.toNat)) ((wr (x.lba + x.len))) ((64 : Int)) _ h13).any0 (ac h14 (ac h14 (ac h14 (ac (show Ev Try.prog cf ((rfB Try.prog 108 0)) (mPut_B7_I blocks l x s0 s2 s5 s8 s12 s13) (.normal, mPut_B7_S blocks l x s0 s2 s5 s8 s12 s13 s15) from (EvStep.ev (mPut_B7_ok blocks l x s0 s2 s5 s8 s12 s13 _ h15) rfl)) (ac h14 (ac h14 an)))))))))))))))))))))))))))) (Nat.le_of_ble_eq_true rfl) (Nat.le_of_ble_eq_true rfl) (absB_of [12] [] kq (.consn kq (.yl rfl) (.consn kq (.pt rfl) (.consn kq (.pt rfl) (.consn kq (.eqv tq rfl) (.consn kq (.eqv tq rfl) (.consn kq (.eqv tq rfl) (.consn kq (.eqv tq rfl) (.consn kq (.eqv tq rfl) .nil)))))))) (.cons (.old rfl rfl (.loop (.consn kq (.eqv tq rfl) (.consn kq (.eqv tq rfl) (.consn kq (.agp pq) (.consn kq (.pt rfl) (.consn kq (.pt rfl) (.consn kq (.eqv tq rfl) (.consn kq (.eqv tq rfl) (.consn kq (.eqv tq rfl) (.consn kq (.fn (.cons (.pt rfl) (.cons (.pt rfl) .nil))) .nil))))))))))) (.cons (.old rfl rfl (.cells (.pl rfl pq))) (.cons (.old rfl rfl (.cells (.cons (.eqv tq rfl) .nil))) (.cons (.old rfl rfl (.cells (.cons (.rfn (n := s15.2.length) rfl tq) .nil))) (.cons (.old rfl rfl (.cells (.pl rfl pq))) (.cons (.old rfl rfl (.cells (.pl tq pq))) .nil)))))))
          ·
            intro e; injection e with e; subst e
            exact leafS vw_eq (k := 300) (r := []) (hs := hz [(1, [.yes, .yes, .yes, .cells ((Ex.cells (exAt l s5.2.1.toNat)))]), (2, [.fc]), (1, [.fc]), (4, [.fres (.tu [Ex.av (s8.1), .b (s8.2)])]), (5, [.fc]), (3, [.no, .no, .no, .no, .no]), (4, [.yes]), (1, [.yes]), (2, [.yes]), (1, [.yes]), (2, [.yes]), (1, [.yes]), (1, [.yes]), (2, [.yes]), (1, [.yes, .yes]), (3, [.fc]), (3, [.fc, .res .normal (mPut_B6_S blocks l x s0 s2 s5 s8 s12)]), (3, [.fc]), (2, [.fres (.tu [Ex.av (s13.1), .b (s13.2)])]), (5, [.fc]), (3, [.no, .no, .no, .no, .no]), (3, [])]) (ks := [0, 1, 2, 4, 5, 17, 18, 19]) (st1 := (St.mk [(0, (AV.yl 4)), (1, (AV.pt 3 0)), (2, (AV.pt 2 0)), (4, (AV.i (wr (x.lba + x.len)))), (5, (AV.b Bool.true)), (17, (exs l)), (18, (AV.i (l.length : Int))), (19, (AV.i (wr (s5.2.1 + (1 : Int)))))] 67 (AH.mk 11 [(10, (AObj.cells (xc s13.1))), (8, (AObj.cells (xc x))), (7, (AObj.cells (xc s8.1))), (6, (AObj.cells (xc (exAt l s5.2.1.toNat)))), (4, (AObj.loop Go.LoopState.ready Option.none [(0, (AV.i blocks)), (1, (exs l)), (2, (AV.ag (xc x))), (5, (AV.pt 0 0)), (6, (AV.pt 1 0)), (7, (AV.i 0)), (12, (AV.b (!s0))), (17, (AV.b (decide ((wr (x.lba + x.len)) > blocks)))), (34, (AV.fn (111 : Nat) [(AV.pt 3 0), (AV.pt 2 0)]))] 63 [(35 : Nat)] (rfA Try.prog 108 0) (rfB Try.prog 108 0))), (3, (AObj.cells (xc x))), (2, (AObj.cells [(exs l)])), (1, (AObj.cells [(AV.rf 9 5 0 s12.2.length)])), (0, (AObj.cells (xc x))), (9, (AObj.cells (List.flatMap Ex.cells s12.2)))]) Bool.false)) kq (ac h6 (ac h7 (ac (fq (p := ((5 : Nat) ≤ (List.length (List.drop (s5.2.1.toNat * 5) (List.flatMap Ex.cells l)))))) (ac (show (List.take 5 (List.drop (s5.2.1.toNat * 5) (List.flatMap Ex.cells l))) = (Ex.cells (exAt l s5.2.1.toNat)) from (ex_takeO bq bq)) (ac (eCut_ok ((exAt l s5.2.1.toNat)) ((0 : Int)) (x.lba) _ h8).any0 (ac h9 (ac h9 (ac h9 (ac h9 (ac h9 (ac h10 (ac h10 (ac h10 (ac h10 (ac h10 (ac h10 (ac h10 (ac h10 (ac h10 (ac h11 (ac (show Ev Try.prog cf ((rfB Try.prog 108 0)) (mPut_B6_I blocks l x s0 s2 s5 s8) (.normal, mPut_B6_S blocks l x s0 s2 s5 s8 s12) from (EvStep.ev (mPut_B6_ok blocks l x s0 s2 s5 s8 _ h12) rfl)) (ac (eCut_ok ((exAt l s5.2.1.toNat)) ((wr (x.lba + x.len))) ((64 : Int)) _ h13).any0 (ac h14 (ac h14 (ac h14 (ac h14 (ac h14 an))))))))))))))))))))))))))) (Nat.le_of_ble_eq_true rfl) (Nat.le_of_ble_eq_true rfl) (absB_of [9] [] kq (.consn kq (.yl rfl) (.consn kq (.pt rfl) (.consn kq (.pt rfl) (.consn kq (.eqv tq rfl) (.consn kq (.eqv tq rfl) (.consn kq (.eqv tq rfl) (.consn kq (.eqv tq rfl) (.consn kq (.eqv tq rfl) .nil)))))))) (.cons (.old rfl rfl (.loop (.consn kq (.eqv tq rfl) (.consn kq (.eqv tq rfl) (.consn kq (.agp pq) (.consn kq (.pt rfl) (.consn kq (.pt rfl) (.consn kq (.eqv tq rfl) (.consn kq (.eqv tq rfl) (.consn kq (.eqv tq rfl) (.consn kq (.fn (.cons (.pt rfl) (.cons (.pt rfl) .nil))) .nil))))))))))) (.cons (.old rfl rfl (.cells (.pl rfl pq))) (.cons (.old rfl rfl (.cells (.cons (.eqv tq rfl) .nil))) (.cons (.old rfl rfl (.cells (.cons (.rfn (n := s12.2.length) rfl tq) .nil))) (.cons (.old rfl rfl (.cells (.pl rfl pq))) (.cons (.old rfl rfl (.cells (.pl tq pq))) .nil)))))))
        ·
          have h11p := of_decide_eq_false h11
          refine tc_ok (fun s12 h12 => ?_)
          refine tb_ok (fun h13 => ?_) (fun h13 => ?_)
          ·
            refine tc_ok (fun s14 h14 => ?_)
            intro e; injection e with e; subst e
            exact leafS vw_eq (k := 300) (r := []) (hs := hz [(1, [.yes, .yes, .yes, .cells ((Ex.cells (exAt l s5.2.1.toNat)))]), (2, [.fc]), (1, [.fc]), (4, [.fres (.tu [Ex.av (s8.1), .b (s8.2)])]), (5, [.fc]), (3, [.no, .no, .no, .no, .no]), (4, [.yes]), (1, [.yes]), (2, [.yes]), (1, [.yes]), (2, [.yes]), (1, [.yes]), (1, [.yes]), (2, [.yes]), (1, [.yes, .no]), (1, [.fc]), (2, [.fres (.tu [Ex.av (s12.1), .b (s12.2)])]), (5, [.fc]), (3, [.yes]), (1, [.yes]), (1, [.fc, .yes]), (3, [.fc, .res .normal (mPut_B8_S blocks l x s0 s2 s5 s8 s12 s14), .yes]), (1, [.yes]), (3, [])]) (ks := [0, 1, 2, 4, 5, 17, 18, 19]) (st1 := (St.mk [(0, (AV.yl 4)), (1, (AV.pt 3 0)), (2, (AV.pt 2 0)), (4, (AV.i (wr (x.lba + x.len)))), (5, (AV.b s5.1)), (17, (exs l)), (18, (AV.i (l.length : Int))), (19, (AV.i (wr (s5.2.1 + (1 : Int)))))] 67 (AH.mk 11 [(9, (AObj.cells (xc s12.1))), (8, (AObj.cells (xc s12.1))), (7, (AObj.cells (xc s8.1))), (6, (AObj.cells (xc (exAt l s5.2.1.toNat)))), (4, (AObj.loop Go.LoopState.ready Option.none [(0, (AV.i blocks)), (1, (exs l)), (2, (AV.ag (xc x))), (5, (AV.pt 0 0)), (6, (AV.pt 1 0)), (7, (AV.i 0)), (12, (AV.b (!s0))), (17, (AV.b (decide ((wr (x.lba + x.len)) > blocks)))), (34, (AV.fn (111 : Nat) [(AV.pt 3 0), (AV.pt 2 0)]))] 63 [(35 : Nat)] (rfA Try.prog 108 0) (rfB Try.prog 108 0))), (3, (AObj.cells (xc x))), (2, (AObj.cells [(exs l)])), (1, (AObj.cells [(AV.rf 10 5 0 s14.2.length)])), (0, (AObj.cells (xc x))), (10, (AObj.cells (List.flatMap Ex.cells s14.2)))]) Bool.false)) kq (ac h6 (ac h7 (ac (fq (p := ((5 : Nat) ≤ (List.length (List.drop (s5.2.1.toNat * 5) (List.flatMap Ex.cells l)))))) (ac (show (List.take 5 (List.drop (s5.2.1.toNat * 5) (List.flatMap Ex.cells l))) = (Ex.cells (exAt l s5.2.1.toNat)) from (ex_takeO bq bq)) (ac (eCut_ok ((exAt l s5.2.1.toNat)) ((0 : Int)) (x.lba) _ h8).any0 (ac h9 (ac h9 (ac h9 (ac h9 (ac h9 (ac h10 (ac h10 (ac h10 (ac h10 (ac h10 (ac h10 (ac h10 (ac h10 (ac h10 (ac h11 (ac (eCut_ok ((exAt l s5.2.1.toNat)) ((wr (x.lba + x.len))) ((64 : Int)) _ h12).any0 (ac h13 (ac h13 (ac h13 (ac (show Ev Try.prog cf ((rfB Try.prog 108 0)) (mPut_B8_I blocks l x s0 s2 s5 s8 s12) (.normal, mPut_B8_S blocks l x s0 s2 s5 s8 s12 s14) from (EvStep.ev (mPut_B8_ok blocks l x s0 s2 s5 s8 s12 _ h14) rfl)) (ac h13 (ac h13 an))))))))))))))))))))))))))) (Nat.le_of_ble_eq_true rfl) (Nat.le_of_ble_eq_true rfl) (absB_of [10] [] kq (.consn kq (.yl rfl) (.consn kq (.pt rfl) (.consn kq (.pt rfl) (.consn kq (.eqv tq rfl) (.consn kq (.eqv tq rfl) (.consn kq (.eqv tq rfl) (.consn kq (.eqv tq rfl) (.consn kq (.eqv tq rfl) .nil)))))))) (.cons (.old rfl rfl (.loop (.consn kq (.eqv tq rfl) (.consn kq (.eqv tq rfl) (.consn kq (.agp pq) (.consn kq (.pt rfl) (.consn kq (.pt rfl) (.consn kq (.eqv tq rfl) (.consn kq (.eqv tq rfl) (.consn kq (.eqv tq rfl) (.consn kq (.fn (.cons (.pt rfl) (.cons (.pt rfl) .nil))) .nil))))))))))) (.cons (.old rfl rfl (.cells (.pl rfl pq))) (.cons (.old rfl rfl (.cells (.cons (.eqv tq rfl) .nil))) (.cons (.old rfl rfl (.cells (.cons (.rfn (n := s14.2.length) rfl tq) .nil))) (.cons (.old rfl rfl (.cells (.pl rfl pq))) (.cons (.old rfl rfl (.cells (.pl tq pq))) .nil)))))))
          ·
            intro e; injection e with e; subst e
            exact leafS vw_eq (k := 300) (r := []) (hs := hz [(1, [.yes, .yes, .yes, .cells ((Ex.cells (exAt l s5.2.1.toNat)))]), (2, [.fc]), (1, [.fc]), (4, [.fres (.tu [Ex.av (s8.1), .b (s8.2)])]), (5, [.fc]), (3, [.no, .no, .no, .no, .no]), (4, [.yes]), (1, [.yes]), (2, [.yes]), (1, [.yes]), (2, [.yes]), (1, [.yes]), (1, [.yes]), (2, [.yes]), (1, [.yes, .no]), (1, [.fc]), (2, [.fres (.tu [Ex.av (s12.1), .b (s12.2)])]), (5, [.fc]), (3, [.no, .no, .no, .no, .no]), (3, [])]) (ks := [0, 1, 2, 4, 5, 17, 18, 19]) (st1 := (St.mk [(0, (AV.yl 4)), (1, (AV.pt 3 0)), (2, (AV.pt 2 0)), (4, (AV.i (wr (x.lba + x.len)))), (5, (AV.b s5.1)), (17, (exs l)), (18, (AV.i (l.length : Int))), (19, (AV.i (wr (s5.2.1 + (1 : Int)))))] 67 (AH.mk 9 [(8, (AObj.cells (xc s12.1))), (7, (AObj.cells (xc s8.1))), (6, (AObj.cells (xc (exAt l s5.2.1.toNat)))), (4, (AObj.loop Go.LoopState.ready Option.none [(0, (AV.i blocks)), (1, (exs l)), (2, (AV.ag (xc x))), (5, (AV.pt 0 0)), (6, (AV.pt 1 0)), (7, (AV.i 0)), (12, (AV.b (!s0))), (17, (AV.b (decide ((wr (x.lba + x.len)) > blocks)))), (34, (AV.fn (111 : Nat) [(AV.pt 3 0), (AV.pt 2 0)]))] 63 [(35 : Nat)] (rfA Try.prog 108 0) (rfB Try.prog 108 0))), (3, (AObj.cells (xc x))), (2, (AObj.cells [(exs l)])), (1, (AObj.cells [(AV.rf 5 5 0 s5.2.2.length)])), (0, (AObj.cells (xc x))), (5, (AObj.cells (List.flatMap Ex.cells s5.2.2)))]) Bool.false)) kq (ac h6 (ac h7 (ac (fq (p := ((5 : Nat) ≤ (List.length (List.drop (s5.2.1.toNat * 5) (List.flatMap Ex.cells l)))))) (ac (show (List.take 5 (List.drop (s5.2.1.toNat * 5) (List.flatMap Ex.cells l))) = (Ex.cells (exAt l s5.2.1.toNat)) from (ex_takeO bq bq)) (ac (eCut_ok ((exAt l s5.2.1.toNat)) ((0 : Int)) (x.lba) _ h8).any0 (ac h9 (ac h9 (ac h9 (ac h9 (ac h9 (ac h10 (ac h10 (ac h10 (ac h10 (ac h10 (ac h10 (ac h10 (ac h10 (ac h10 (ac h11 (ac (eCut_ok ((exAt l s5.2.1.toNat)) ((wr (x.lba + x.len))) ((64 : Int)) _ h12).any0 (ac h13 (ac h13 (ac h13 (ac h13 (ac h13 an)))))))))))))))))))))))))) (Nat.le_of_ble_eq_true rfl) (Nat.le_of_ble_eq_true rfl) (absB_of [5] [] kq (.consn kq (.yl rfl) (.consn kq (.pt rfl) (.consn kq (.pt rfl) (.consn kq (.eqv tq rfl) (.consn kq (.eqv tq rfl) (.consn kq (.eqv tq rfl) (.consn kq (.eqv tq rfl) (.consn kq (.eqv tq rfl) .nil)))))))) (.cons (.old rfl rfl (.loop (.consn kq (.eqv tq rfl) (.consn kq (.eqv tq rfl) (.consn kq (.agp pq) (.consn kq (.pt rfl) (.consn kq (.pt rfl) (.consn kq (.eqv tq rfl) (.consn kq (.eqv tq rfl) (.consn kq (.eqv tq rfl) (.consn kq (.fn (.cons (.pt rfl) (.cons (.pt rfl) .nil))) .nil))))))))))) (.cons (.old rfl rfl (.cells (.pl rfl pq))) (.cons (.old rfl rfl (.cells (.cons (.eqv tq rfl) .nil))) (.cons (.old rfl rfl (.cells (.cons (.rfn (n := s5.2.2.length) rfl tq) .nil))) (.cons (.old rfl rfl (.cells (.pl rfl pq))) (.cons (.old rfl rfl (.cells (.pl tq pq))) .nil)))))))
      ·
        refine tc_ok (fun s11 h11 => ?_)
        refine tb_ok (fun h12 => ?_) (fun h12 => ?_)
        ·
          refine tc_ok (fun s13 h13 => ?_)
          intro e; injection e with e; subst e
          exact leafS vw_eq (k := 300) (r := []) (hs := hz [(1, [.yes, .yes, .yes, .cells ((Ex.cells (exAt l s5.2.1.toNat)))]), (2, [.fc]), (1, [.fc]), (4, [.fres (.tu [Ex.av (s8.1), .b (s8.2)])]), (5, [.fc]), (3, [.no, .no, .no, .no, .no]), (4, [.no, .no, .no, .no, .no, .no, .no, .no, .no]), (2, [.fc]), (2, [.fres (.tu [Ex.av (s11.1), .b (s11.2)])]), (5, [.fc]), (3, [.yes]), (1, [.yes]), (1, [.fc, .yes]), (3, [.fc, .res .normal (mPut_B9_S blocks l x s0 s2 s5 s8 s11 s13), .yes]), (1, [.yes]), (3, [])]) (ks := [0, 1, 2, 4, 5, 17, 18, 19]) (st1 := (St.mk [(0, (AV.yl 4)), (1, (AV.pt 3 0)), (2, (AV.pt 2 0)), (4, (AV.i (wr (x.lba + x.len)))), (5, (AV.b s5.1)), (17, (exs l)), (18, (AV.i (l.length : Int))), (19, (AV.i (wr (s5.2.1 + (1 : Int)))))] 67 (AH.mk 11 [(9, (AObj.cells (xc s11.1))), (8, (AObj.cells (xc s11.1))), (7, (AObj.cells (xc s8.1))), (6, (AObj.cells (xc (exAt l s5.2.1.toNat)))), (4, (AObj.loop Go.LoopState.ready Option.none [(0, (AV.i blocks)), (1, (exs l)), (2, (AV.ag (xc x))), (5, (AV.pt 0 0)), (6, (AV.pt 1 0)), (7, (AV.i 0)), (12, (AV.b (!s0))), (17, (AV.b (decide ((wr (x.lba + x.len)) > blocks)))), (34, (AV.fn (111 : Nat) [(AV.pt 3 0), (AV.pt 2 0)]))] 63 [(35 : Nat)] (rfA Try.prog 108 0) (rfB Try.prog 108 0))), (3, (AObj.cells (xc x))), (2, (AObj.cells [(exs l)])), (1, (AObj.cells [(AV.rf 10 5 0 s13.2.length)])), (0, (AObj.cells (xc x))), (10, (AObj.cells (List.flatMap Ex.cells s13.2)))]) Bool.false)) kq (ac h6 (ac h7 (ac (fq (p := ((5 : Nat) ≤ (List.length (List.drop (s5.2.1.toNat * 5) (List.flatMap Ex.cells l)))))) (ac (show (List.take 5 (List.drop (s5.2.1.toNat * 5) (List.flatMap Ex.cells l))) = (Ex.cells (exAt l s5.2.1.toNat)) from (ex_takeO bq bq)) (ac (eCut_ok ((exAt l s5.2.1.toNat)) ((0 : Int)) (x.lba) _ h8).any0 (ac h9 (ac h9 (ac h9 (ac h9 (ac h9 (ac h10 (ac h10 (ac h10 (ac h10 (ac h10 (ac h10 (ac h10 (ac h10 (ac h10 (ac (eCut_ok ((exAt l s5.2.1.toNat)) ((wr (x.lba + x.len))) ((64 : Int)) _ h11).any0 (ac h12 (ac h12 (ac h12 (ac (show Ev Try.prog cf ((rfB Try.prog 108 0)) (mPut_B9_I blocks l x s0 s2 s5 s8 s11) (.normal, mPut_B9_S blocks l x s0 s2 s5 s8 s11 s13) from (EvStep.ev (mPut_B9_ok blocks l x s0 s2 s5 s8 s11 _ h13) rfl)) (ac h12 (ac h12 an)))))))))))))))))))))))))) (Nat.le_of_ble_eq_true rfl) (Nat.le_of_ble_eq_true rfl) (absB_of [10] [] kq (.consn kq (.yl rfl) (.consn kq (.pt rfl) (.consn kq (.pt rfl) (.consn kq (.eqv tq rfl) (.consn kq (.eqv tq rfl) (.consn kq (.eqv tq rfl) (.consn kq (.eqv tq rfl) (.consn kq (.eqv tq rfl) .nil)))))))) (.cons (.old rfl rfl (.loop (.consn kq (.eqv tq rfl) (.consn kq (.eqv tq rfl) (.consn kq (.agp pq) (.consn kq (.pt rfl) (.consn kq (.pt rfl) (.consn kq (.eqv tq rfl) (.consn kq (.eqv tq rfl) (.consn kq (.eqv tq rfl) (.consn kq (.fn (.cons (.pt rfl) (.cons (.pt rfl) .nil))) .nil))))))))))) (.cons (.old rfl rfl (.cells (.pl rfl pq))) (.cons (.old rfl rfl (.cells (.cons (.eqv tq rfl) .nil))) (.cons (.old rfl rfl (.cells (.cons (.rfn (n := s13.2.length) rfl tq) .nil))) (.cons (.old rfl rfl (.cells (.pl rfl pq))) (.cons (.old rfl rfl (.cells (.pl tq pq))) .nil)))))))
        ·
          intro e; injection e with e; subst e
          exact leafS vw_eq (k := 300) (r := []) (hs := hz [(1, [.yes, .yes, .yes, .cells ((Ex.cells (exAt l s5.2.1.toNat)))]), (2, [.fc]), (1, [.fc]), (4, [.fres (.tu [Ex.av (s8.1), .b (s8.2)])]), (5, [.fc]), (3, [.no, .no, .no, .no, .no]), (4, [.no, .no, .no, .no, .no, .no, .no, .no, .no]), (2, [.fc]), (2, [.fres (.tu [Ex.av (s11.1), .b (s11.2)])]), (5, [.fc]), (3, [.no, .no, .no, .no, .no]), (3, [])]) (ks := [0, 1, 2, 4, 5, 17, 18, 19]) (st1 := (St.mk [(0, (AV.yl 4)), (1, (AV.pt 3 0)), (2, (AV.pt 2 0)), (4, (AV.i (wr (x.lba + x.len)))), (5, (AV.b s5.1)), (17, (exs l)), (18, (AV.i (l.length : Int))), (19, (AV.i (wr (s5.2.1 + (1 : Int)))))] 67 (AH.mk 9 [(8, (AObj.cells (xc s11.1))), (7, (AObj.cells (xc s8.1))), (6, (AObj.cells (xc (exAt l s5.2.1.toNat)))), (4, (AObj.loop Go.LoopState.ready Option.none [(0, (AV.i blocks)), (1, (exs l)), (2, (AV.ag (xc x))), (5, (AV.pt 0 0)), (6, (AV.pt 1 0)), (7, (AV.i 0)), (12, (AV.b (!s0))), (17, (AV.b (decide ((wr (x.lba + x.len)) > blocks)))), (34, (AV.fn (111 : Nat) [(AV.pt 3 0), (AV.pt 2 0)]))] 63 [(35 : Nat)] (rfA Try.prog 108 0) (rfB Try.prog 108 0))), (3, (AObj.cells (xc x))), (2, (AObj.cells [(exs l)])), (1, (AObj.cells [(AV.rf 5 5 0 s5.2.2.length)])), (0, (AObj.cells (xc x))), (5, (AObj.cells (List.flatMap Ex.cells s5.2.2)))]) Bool.false)) kq (ac h6 (ac h7 (ac (fq (p := ((5 : Nat) ≤ (List.length (List.drop (s5.2.1.toNat * 5) (List.flatMap Ex.cells l)))))) (ac (show (List.take 5 (List.drop (s5.2.1.toNat * 5) (List.flatMap Ex.cells l))) = (Ex.cells (exAt l s5.2.1.toNat)) from (ex_takeO bq bq)) (ac (eCut_ok ((exAt l s5.2.1.toNat)) ((0 : Int)) (x.lba) _ h8).any0 (ac h9 (ac h9 (ac h9 (ac h9 (ac h9 (ac h10 (ac h10 (ac h10 (ac h10 (ac h10 (ac h10 (ac h10 (ac h10 (ac h10 (ac (eCut_ok ((exAt l s5.2.1.toNat)) ((wr (x.lba + x.len))) ((64 : Int)) _ h11).any0 (ac h12 (ac h12 (ac h12 (ac h12 (ac h12 an))))))))))))))))))))))))) (Nat.le_of_ble_eq_true rfl) (Nat.le_of_ble_eq_true rfl) (absB_of [5] [] kq (.consn kq (.yl rfl) (.consn kq (.pt rfl) (.consn kq (.pt rfl) (.consn kq (.eqv tq rfl) (.consn kq (.eqv tq rfl) (.consn kq (.eqv tq rfl) (.consn kq (.eqv tq rfl) (.consn kq (.eqv tq rfl) .nil)))))))) (.cons (.old rfl rfl (.loop (.consn kq (.eqv tq rfl) (.consn kq (.eqv tq rfl) (.consn kq (.agp pq) (.consn kq (.pt rfl) (.consn kq (.pt rfl) (.consn kq (.eqv tq rfl) (.consn kq (.eqv tq rfl) (.consn kq (.eqv tq rfl) (.consn kq (.fn (.cons (.pt rfl) (.cons (.pt rfl) .nil))) .nil))))))))))) (.cons (.old rfl rfl (.cells (.pl rfl pq))) (.cons (.old rfl rfl (.cells (.cons (.eqv tq rfl) .nil))) (.cons (.old rfl rfl (.cells (.cons (.rfn (n := s5.2.2.length) rfl tq) .nil))) (.cons (.old rfl rfl (.cells (.pl rfl pq))) (.cons (.old rfl rfl (.cells (.pl tq pq))) .nil)))))))
  ·
    have h6p := of_decide_eq_false h6
    exact fun e => nomatch e
/-- Function 108, as it answers. -/
noncomputable def mPut (blocks : Int) (l : List Ex) (x : Ex) : Option (List Ex × Int) :=
 (tc (mCheck (blocks) (l)) fun s0 =>
  (tb ((!s0))
   (some ((([] : List Ex), (80 : Int))))
   (tc (eCheck (x)) fun s2 =>
    (tb ((!s2))
     (tc (mOwn (l)) fun s4 =>
      (some ((s4, (81 : Int)))))
     (tb ((decide ((wr (x.lba + x.len)) > blocks)))
      (tc (mOwn (l)) fun s5 =>
       (some ((s5, (81 : Int)))))
      (th (mPut_L0_step blocks l x s0 s2) ((Bool.false, ((0 : Int), ([] : List Ex)))) fun s5 =>
       (tb ((decide (s5.2.1 < (l.length : Int))))
        none /- stop behind an operation -/
        (tp ((((0 : Nat) = (0 : Nat)) ∧ ((List.length (List.flatMap Ex.cells s5.2.2)) = (s5.2.2.length * 5))))
         (tc (mOwn (s5.2.2)) fun s8 =>
          (some ((s8, (0 : Int)))))))))))))
abbrev mPut_G (blocks : Int) (l : List Ex) (x : Ex) (r : List Ex × Int) : Prop := EvFr Try.prog cf false 108 [.i (blocks), exs (l), Ex.av (x)] (.tu [exs (r.1), .i (r.2)])
theorem mPut_ok (blocks : Int) (l : List Ex) (x : Ex) (r : List Ex × Int) : mPut blocks l x = some r → mPut_G blocks l x r := by
  unfold mPut
  refine tc_ok (fun s0 h0 => ?_)
  refine tb_ok (fun h1 => ?_) (fun h1 => ?_)
  ·
    intro e; injection e with e; subst e
    exact leafR vw_eq (k := 300) (r := []) (hs := hz [(6, [.fres (.b (s0))]), (2, [.yes]), (1, [.fc]), (1, [])]) (raw := (AV.tu [(AV.sl 0 ([] : List AV)), (AV.i 80)])) kq (ac (mCheck_ok (blocks) (l) _ h0).any0 (ac h1 an)) tq
  ·
    refine tc_ok (fun s2 h2 => ?_)
    refine tb_ok (fun h3 => ?_) (fun h3 => ?_)
    ·
      refine tc_ok (fun s4 h4 => ?_)
      intro e; injection e with e; subst e
      exact leafR vw_eq (k := 300) (r := []) (hs := hz [(6, [.fres (.b (s0))]), (2, [.no]), (1, [.fc]), (1, [.fres (.b (s2))]), (2, [.yes, .yes, .yes, .yes, .yes, .yes, .yes, .yes]), (4, [.fres (exs (s4))]), (1, [.fc]), (1, [])]) (raw := (AV.tu [(exs s4), (AV.i 81)])) kq (ac (mCheck_ok (blocks) (l) _ h0).any0 (ac h1 (ac (eCheck_ok (x) _ h2).any0 (ac h3 (ac h3 (ac h3 (ac h3 (ac h3 (ac h3 (ac h3 (ac h3 (ac (mOwn_ok (l) _ h4) an)))))))))))) tq
    ·
      refine tb_ok (fun h4 => ?_) (fun h4 => ?_)
      ·
        have h4p := of_decide_eq_true h4
        refine tc_ok (fun s5 h5 => ?_)
        intro e; injection e with e; subst e
        exact leafR vw_eq (k := 300) (r := []) (hs := hz [(6, [.fres (.b (s0))]), (2, [.no]), (1, [.fc]), (1, [.fres (.b (s2))]), (2, [.no]), (1, [.no]), (2, [.no]), (1, [.no]), (2, [.no]), (1, [.no]), (1, [.no]), (1, [.no]), (1, [.yes]), (2, [.fres (exs (s5))]), (1, [.fc]), (1, [])]) (raw := (AV.tu [(exs s5), (AV.i 81)])) kq (ac (mCheck_ok (blocks) (l) _ h0).any0 (ac h1 (ac (eCheck_ok (x) _ h2).any0 (ac h3 (ac h3 (ac h3 (ac h3 (ac h3 (ac h3 (ac h3 (ac h3 (ac h4 (ac (mOwn_ok (l) _ h5) an))))))))))))) tq
      ·
        have h4p := of_decide_eq_false h4
        refine th_ok (fun s5 h5 => ?_)
        refine tb_ok (fun h6 => ?_) (fun h6 => ?_)
        ·
          have h6p := of_decide_eq_true h6
          exact fun e => nomatch e
        ·
          have h6p := of_decide_eq_false h6
          refine tp_ok (fun h7 => ?_)
          refine tc_ok (fun s8 h8 => ?_)
          intro e; injection e with e; subst e
          exact leafR vw_eq (k := 300) (r := []) (hs := hz [(6, [.fres (.b (s0))]), (2, [.no]), (1, [.fc]), (1, [.fres (.b (s2))]), (2, [.no]), (1, [.no]), (2, [.no]), (1, [.no]), (2, [.no]), (1, [.no]), (1, [.no]), (1, [.no]), (1, [.no]), (2, [.fc]), (19, [.head (mPut_L0_S blocks l x s0 s2 s5)]), (1, [.no]), (3, [.yes, .yes, .fres (exs (s8))]), (1, [.fc]), (1, [])]) (raw := (AV.tu [(exs s8), (AV.i 0)])) kq (ac (mCheck_ok (blocks) (l) _ h0).any0 (ac h1 (ac (eCheck_ok (x) _ h2).any0 (ac h3 (ac h3 (ac h3 (ac h3 (ac h3 (ac h3 (ac h3 (ac h3 (ac h4 (ac (show EvHead Try.prog cf (lp Try.prog 111 0) (mPut_L0_I blocks l x s0 s2) (mPut_L0_S blocks l x s0 s2 s5) from (EvHead.of (mPut_L0_ok blocks l x s0 s2) (absB_of [5] [] kq (.consn kq (.yl rfl) (.consn kq (.pt rfl) (.consn kq (.pt rfl) (.consn kq (.eqv tq rfl) (.consn kq (.eqv tq rfl) (.consn kq (.eqv tq rfl) (.consn kq (.eqv tq rfl) (.consn kq (.eqv tq rfl) .nil)))))))) (.cons (.old rfl rfl (.loop (.consn kq (.eqv tq rfl) (.consn kq (.eqv tq rfl) (.consn kq (.agp pq) (.consn kq (.pt rfl) (.consn kq (.pt rfl) (.consn kq (.eqv tq rfl) (.consn kq (.eqv tq rfl) (.consn kq (.eqv tq rfl) (.consn kq (.fn (.cons (.pt rfl) (.cons (.pt rfl) .nil))) .nil))))))))))) (.cons (.old rfl rfl (.cells (.pl rfl pq))) (.cons (.old rfl rfl (.cells (.cons (.eqv tq rfl) .nil))) (.cons (.old rfl rfl (.cells (.cons (.nln tq) .nil))) (.cons (.old rfl rfl (.cells (.pl rfl pq))) (.cons (.none rfl (Nat.le_refl _) rfl) .nil))))))) h5)) (ac h6 (ac h7 (ac (pq (p := Pl Bool.false ((List.flatMap Ex.cells s5.2.2)))) (ac (mOwn_ok (s5.2.2) _ h8) an))))))))))))))))) tq
end Ab
end Go.Proofs.Ytimcbhhebnikiaa
namespace Go.Proofs.Ytimcbhhebnikiaa
open Go Go.Proofs.Ytimcbhhebnikiaa.Ab
set_option linter.unusedVariables false
set_option linter.unusedSimpArgs false
namespace Ab
def jnx (a b : Ex) : Ex := ⟨a.lba, a.len + b.len, a.kind, a.gen, a.d ++ b.d⟩
def jnv (a b : Ex) : Ex × Int := if Jn a b then (jnx a b, 0) else (⟨0, 0, 0, 0, []⟩, 70)
theorem ck_dlen {x : Ex} (h : Ck x) : x.d.length ≤ 2048 := by
  unfold Ck at h
  by_cases hk : x.kind = 2
  · have := h.2.2.2.2.2.2.2.2.1 hk; omega
  · have := h.2.2.2.2.2.2.2.2.2 hk; rw [this]; simp
theorem eJoin_eq (a b : Ex) : eJoin a b = some (jnv a b) := by
  unfold eJoin jnv
  rw [eJoins_eq, tc_some, tb_not]
  by_cases h : Jn a b
  case neg => rw [jn_f h, tb_f, if_neg h]
  have ha := ck_dlen h.1
  have hb := ck_dlen h.2.1
  have ca := h.1
  have cb := h.2.1
  unfold Ck at ca cb
  rw [jn_t h, tb_t, if_pos h, wr_id (by omega) (by omega), tp_pos (by omega), tp_pos (by rw [List.length_map]; omega)]
  rfl
/-- Behind others: joined with the last one, if it goes on it. -/
def add (out : List Ex) (y : Ex) : List Ex := if out ≠ [] ∧ Jn (out.getLastD ⟨0, 0, 0, 0, []⟩) y then out.dropLast ++ [jnx (out.getLastD ⟨0, 0, 0, 0, []⟩) y] else out ++ [y]
theorem add_nil (y : Ex) : add [] y = [y] := by unfold add; simp
theorem add_jn {out : List Ex} {y : Ex} (h0 : out ≠ []) (h : Jn (out.getLastD ⟨0, 0, 0, 0, []⟩) y) : add out y = out.dropLast ++ [jnx (out.getLastD ⟨0, 0, 0, 0, []⟩) y] := by unfold add; rw [if_pos ⟨h0, h⟩]
theorem add_no {out : List Ex} {y : Ex} (h : ¬ Jn (out.getLastD ⟨0, 0, 0, 0, []⟩) y) : add out y = out ++ [y] := by unfold add; rw [if_neg fun g => h g.2]
theorem add_len (out : List Ex) (y : Ex) : (add out y).length ≤ out.length + 1 := by
  unfold add
  split
  · first | (simp; done) | (simp; omega)
  · simp
theorem adds_len : ∀ (ys out : List Ex), (ys.foldl add out).length ≤ out.length + ys.length
  | [], out => by simp
  | y :: ys, out => by
    have := adds_len ys (add out y)
    have := add_len out y
    simp only [List.foldl_cons, List.length_cons]; omega
theorem last_at (out : List Ex) (h : out ≠ []) (k : Nat) (hk : k = out.length - 1) : exAt out k = out.getLastD ⟨0, 0, 0, 0, []⟩ := by
  subst hk
  have : 0 < out.length := List.length_pos_iff.2 h
  unfold exAt
  rw [List.getD_eq_getElem?_getD, List.getLastD_eq_getLast?, List.getLast?_eq_getElem?]
theorem set_last_ex (out : List Ex) (h : out ≠ []) (k : Nat) (hk : k = out.length - 1) (v : Ex) : out.set k v = out.dropLast ++ [v] := by
  subst hk
  have e : out = out.dropLast ++ [out.getLast h] := (List.dropLast_concat_getLast h).symm
  have hl : out.length - 1 = out.dropLast.length := by simp
  rw [hl]
  conv => lhs; rw [e]
  rw [List.set_append_right _ _ (by simp)]
  simp
end Ab
end Go.Proofs.Ytimcbhhebnikiaa
namespace Go.Proofs.Ytimcbhhebnikiaa
open Go Go.Proofs.Ytimcbhhebnikiaa.Ab
set_option linter.unusedVariables false
set_option linter.unusedSimpArgs false
namespace Ab
/-- Extents one behind the other, from a block on, none of which goes on the one before it. -/
def CH : Int → List Ex → Prop
  | _, [] => True
  | s, x :: l => Ck x ∧ x.lba = s ∧ (∀ y, l.head? = some y → ¬ Jn x y) ∧ CH (s + x.len) l
theorem mk_ch {blocks : Int} {l : List Ex} (h : Mk blocks l) : CH 0 l := by
  have key : ∀ j, j ≤ l.length → CH (sl (l.take (l.length - j))) (l.drop (l.length - j)) := by
    intro j
    induction j with
    | zero => intro _; rw [Nat.sub_zero, List.drop_length]; trivial
    | succ j ih =>
      intro hj
      have hi : l.length - (j + 1) < l.length := by omega
      have hm := h.2.1 (l.length - (j + 1)) hi
      have e : l.drop (l.length - (j + 1)) = exAt l (l.length - (j + 1)) :: l.drop (l.length - (j + 1) + 1) := by unfold exAt; exact drop_at _ l _ hi
      rw [e]
      have hs := sl_take l (l.length - (j + 1)) hi
      have e2 : l.length - (j + 1) + 1 = l.length - j := by omega
      rw [e2] at hs ⊢
      refine ⟨hm.1, hm.2.1, fun y hy => ?_, by rw [← hs]; exact ih (by omega)⟩
      have hy2 : l.length - j < l.length ∧ y = exAt l (l.length - j) := by
        rw [List.head?_drop] at hy
        obtain ⟨g, e3⟩ := List.getElem?_eq_some_iff.1 hy
        exact ⟨g, by unfold exAt; simp [g, e3]⟩
      have hm2 := (h.2.1 (l.length - j) hy2.1).2.2 (by omega)
      rw [show l.length - j - 1 = l.length - (j + 1) by omega, ← hy2.2] at hm2
      exact hm2
  have := key l.length (Nat.le_refl _)
  simpa [sl] using this
theorem ch_ck : ∀ {l : List Ex} {s : Int}, CH s l → ∀ z ∈ l, Ck z ∧ s ≤ z.lba
  | [], _, _, z, hz => by cases hz
  | x :: l, s, h, z, hz => by
    have hc := h.1
    unfold Ck at hc
    rcases List.mem_cons.1 hz with e | e
    · subst e; exact ⟨h.1, by have := h.2.1; omega⟩
    · have := ch_ck h.2.2.2 z e
      exact ⟨this.1, by omega⟩
theorem cu_ck {x : Ex} {lo n : Int} (h : Cu x lo n) : Ck (cu x lo n) := by
  obtain ⟨c1, c2, c3, c4, c5, c6⟩ := h
  unfold Ck at c1
  refine ⟨by simp only [cu]; omega, by simp only [cu]; omega, by simp only [cu]; omega, by simp only [cu]; omega, by simp only [cu]; omega, by simp only [cu]; omega, by simp only [cu]; omega, by simp only [cu]; omega, fun hk => ?_, fun hk => ?_⟩
  · have hk : x.kind = 2 := hk
    have := c1.2.2.2.2.2.2.2.2.1 hk
    simp only [cu, if_pos hk, List.length_take, List.length_drop]; omega
  · have hk : ¬ x.kind = 2 := hk
    simp only [cu, if_neg hk]
end Ab
end Go.Proofs.Ytimcbhhebnikiaa
namespace Go.Proofs.Ytimcbhhebnikiaa
open Go Go.Proofs.Ytimcbhhebnikiaa.Ab
set_option linter.unusedVariables false
set_option linter.unusedSimpArgs false
namespace Ab
/-- A block of an extent. -/
def bAt (x : Ex) (k : Int) : Int × Int × List UInt8 := (x.kind, x.gen, (x.d.drop (32 * (k - x.lba)).toNat).take 32)
/-- An extent holds at a block so much. -/
def Cv (x : Ex) (k : Int) (c : Int × Int × List UInt8) : Prop := x.lba ≤ k ∧ k < x.lba + x.len ∧ c = bAt x k
def Den (l : List Ex) (k : Int) (c : Int × Int × List UInt8) : Prop := ∃ x ∈ l, Cv x k c
theorem den_nil {k : Int} {c : Int × Int × List UInt8} : ¬ Den [] k c := fun ⟨x, hx, _⟩ => by cases hx
theorem den_cons {x : Ex} {l : List Ex} {k : Int} {c : Int × Int × List UInt8} : Den (x :: l) k c ↔ Cv x k c ∨ Den l k c := by
  unfold Den; simp
theorem den_app {a b : List Ex} {k : Int} {c : Int × Int × List UInt8} : Den (a ++ b) k c ↔ Den a k c ∨ Den b k c := by
  unfold Den
  constructor
  · rintro ⟨x, hx, h⟩
    rcases List.mem_append.1 hx with e | e
    · exact .inl ⟨x, e, h⟩
    · exact .inr ⟨x, e, h⟩
  · rintro (⟨x, hx, h⟩ | ⟨x, hx, h⟩)
    · exact ⟨x, List.mem_append.2 (.inl hx), h⟩
    · exact ⟨x, List.mem_append.2 (.inr hx), h⟩
theorem den_one {x : Ex} {k : Int} {c : Int × Int × List UInt8} : Den [x] k c ↔ Cv x k c := by
  rw [den_cons]; exact or_iff_left den_nil
theorem ck_pos {x : Ex} (h : Ck x) : 0 ≤ x.lba ∧ x.lba ≤ 64 ∧ 1 ≤ x.len ∧ x.lba + x.len ≤ 64 := by
  unfold Ck at h; omega
theorem ck_d2 {x : Ex} (h : Ck x) (hk : x.kind = 2) : (x.d.length : Int) = 32 * x.len := by
  unfold Ck at h; exact h.2.2.2.2.2.2.2.2.1 hk
theorem ck_d0 {x : Ex} (h : Ck x) (hk : x.kind ≠ 2) : x.d = [] := by
  unfold Ck at h; exact h.2.2.2.2.2.2.2.2.2 hk
/-- A part holds what the whole holds there. -/
theorem bAt_cu {x : Ex} {lo n k : Int} (h : Ck x) (h1 : max x.lba lo ≤ k) (h2 : k < min (x.lba + x.len) (lo + n)) : bAt (cu x lo n) k = bAt x k := by
  have hp := ck_pos h
  simp only [bAt, cu, Prod.mk.injEq, true_and]
  split
  · rename_i hk
    have e : (32 * (k - x.lba)).toNat = (32 * (max x.lba lo - x.lba)).toNat + (32 * (k - max x.lba lo)).toNat := by omega
    rw [e, ← List.drop_drop, List.drop_take, List.take_take]
    congr 1
    omega
  · rename_i hk
    rw [ck_d0 h hk]; simp
theorem cv_cut {x : Ex} {lo n k : Int} {c : Int × Int × List UInt8} (h : Ck x) (h1 : 0 ≤ lo ∧ lo ≤ 64) (h2 : 0 ≤ n ∧ n ≤ 64) : Den (cut x lo n).toList k c ↔ lo ≤ k ∧ k < lo + n ∧ Cv x k c := by
  by_cases g : Cu x lo n
  · rw [cut_pos g]
    show Den [cu x lo n] k c ↔ _
    rw [den_one]
    unfold Cv
    have e1 : (cu x lo n).lba = max x.lba lo := rfl
    have e2 : (cu x lo n).len = min (x.lba + x.len) (lo + n) - max x.lba lo := rfl
    rw [e1, e2]
    constructor
    · rintro ⟨a, b, e⟩
      rw [bAt_cu h (by omega) (by omega)] at e
      exact ⟨by omega, by omega, by omega, by omega, e⟩
    · rintro ⟨a, b, c1, c2, e⟩
      exact ⟨by omega, by omega, by rw [bAt_cu h (by omega) (by omega)]; exact e⟩
  · rw [cut_neg g]
    refine ⟨fun hd => absurd hd den_nil, fun ⟨a, b, c1, c2, e⟩ => absurd ?_ g⟩
    exact ⟨h, by omega, by omega, by omega, by omega, by omega⟩
theorem ck_jnx {a b : Ex} (h : Jn a b) : Ck (jnx a b) := by
  obtain ⟨ha, hb, h1, h2, h3⟩ := h
  have pa := ck_pos ha
  have pb := ck_pos hb
  have ca := ha
  unfold Ck at ca
  refine ⟨by simp only [jnx]; omega, by simp only [jnx]; omega, by simp only [jnx]; omega, by simp only [jnx]; omega, by simp only [jnx]; omega, by simp only [jnx]; omega, by simp only [jnx]; omega, by simp only [jnx]; omega, fun hk => ?_, fun hk => ?_⟩
  · have hk : a.kind = 2 := hk
    have e1 := ck_d2 ha hk
    have e2 := ck_d2 hb (h2 ▸ hk)
    simp only [jnx, List.length_append]; omega
  · have hk : a.kind ≠ 2 := hk
    simp only [jnx, ck_d0 ha hk, ck_d0 hb (h2 ▸ hk), List.append_nil]
theorem cv_jnx {a b : Ex} (h : Jn a b) {k : Int} {c : Int × Int × List UInt8} : Cv (jnx a b) k c ↔ Cv a k c ∨ Cv b k c := by
  obtain ⟨ha, hb, h1, h2, h3⟩ := h
  have pa := ck_pos ha
  have pb := ck_pos hb
  have e0 : (jnx a b).lba = a.lba := rfl
  have e1 : (jnx a b).len = a.len + b.len := rfl
  have k1 : ∀ k, a.lba ≤ k → k < a.lba + a.len → bAt (jnx a b) k = bAt a k := by
    intro k g1 g2
    simp only [bAt, jnx, Prod.mk.injEq, true_and]
    by_cases hk : a.kind = 2
    · have d1 := ck_d2 ha hk
      rw [List.drop_append_of_le_length (by omega), List.take_append_of_le_length (by rw [List.length_drop]; omega)]
    · rw [ck_d0 ha hk, ck_d0 hb (h2 ▸ hk)]; rfl
  have k2 : ∀ k, b.lba ≤ k → k < b.lba + b.len → bAt (jnx a b) k = bAt b k := by
    intro k g1 g2
    simp only [bAt, jnx, Prod.mk.injEq]
    refine ⟨h2, h3, ?_⟩
    by_cases hk : a.kind = 2
    · have d1 := ck_d2 ha hk
      have e : (32 * (k - a.lba)).toNat = a.d.length + (32 * (k - b.lba)).toNat := by omega
      rw [e, ← List.drop_drop, List.drop_left]
    · rw [ck_d0 ha hk, ck_d0 hb (h2 ▸ hk)]; simp
  unfold Cv
  rw [e0, e1]
  constructor
  · rintro ⟨g1, g2, e⟩
    by_cases g : k < a.lba + a.len
    · exact .inl ⟨g1, g, by rw [← k1 k g1 g]; exact e⟩
    · exact .inr ⟨by omega, by omega, by rw [← k2 k (by omega) (by omega)]; exact e⟩
  · rintro (⟨g1, g2, e⟩ | ⟨g1, g2, e⟩)
    · exact ⟨by omega, by omega, by rw [k1 k g1 g2]; exact e⟩
    · exact ⟨by omega, by omega, by rw [k2 k g1 g2]; exact e⟩
theorem snoc_of {out : List Ex} (h : out ≠ []) : out = out.dropLast ++ [out.getLastD ⟨0, 0, 0, 0, []⟩] := by
  have e : out = out.dropLast ++ [out.getLast h] := (List.dropLast_concat_getLast h).symm
  have e2 : out.getLastD ⟨0, 0, 0, 0, []⟩ = out.getLast h := (congrArg (fun l => List.getLastD l ⟨0, 0, 0, 0, []⟩) e).trans (by simp)
  rw [e2]; exact e
theorem den_add {out : List Ex} {y : Ex} {k : Int} {c : Int × Int × List UInt8} : Den (add out y) k c ↔ Den out k c ∨ Cv y k c := by
  unfold add
  by_cases h : out ≠ [] ∧ Jn (out.getLastD ⟨0, 0, 0, 0, []⟩) y
  · rw [if_pos h]
    have e := snoc_of h.1
    generalize out.getLastD ⟨0, 0, 0, 0, []⟩ = a at h e ⊢
    generalize out.dropLast = o at e ⊢
    rw [e, den_app, den_app, den_one, den_one, cv_jnx h.2, or_assoc]
  · rw [if_neg h, den_app, den_one]
theorem den_adds : ∀ (ys out : List Ex) {k : Int} {c : Int × Int × List UInt8}, Den (ys.foldl add out) k c ↔ Den out k c ∨ Den ys k c
  | [], out, k, c => by simp only [List.foldl_nil]; exact (or_iff_left den_nil).symm
  | y :: ys, out, k, c => by rw [List.foldl_cons, den_adds ys, den_add, den_cons, or_assoc]
theorem ch_snoc : ∀ (o : List Ex) (s : Int) (y : Ex), CH s (o ++ [y]) ↔ CH s o ∧ Ck y ∧ y.lba = s + sl o ∧ (∀ a, o.getLast? = some a → ¬ Jn a y)
  | [], s, y => by simp [CH, sl]
  | x :: o, s, y => by
    have ih := ch_snoc o (s + x.len) y
    rw [List.cons_append]
    unfold CH
    rw [ih]
    cases o with
    | nil =>
      simp only [List.nil_append, List.head?_cons, List.head?_nil, Option.some.injEq, forall_eq', List.getLast?_singleton, List.getLast?_nil, CH, sl]
      constructor
      · rintro ⟨a, b, d, e, f, g, _⟩
        exact ⟨⟨a, b, (by intro y h; cases h), trivial⟩, f, by omega, d⟩
      · rintro ⟨⟨a, b, _, _⟩, f, g, d⟩
        exact ⟨a, b, d, trivial, f, by omega, (by intro a h; cases h)⟩
    | cons z o =>
      simp only [List.cons_append, List.head?_cons, Option.some.injEq, forall_eq', List.getLast?_cons_cons, sl]
      constructor
      · rintro ⟨a, b, d, e, f, g, i⟩
        exact ⟨⟨a, b, d, e⟩, f, by omega, i⟩
      · rintro ⟨⟨a, b, d, e⟩, f, g, i⟩
        exact ⟨a, b, d, e, f, by omega, i⟩
theorem ch_add {s : Int} {out : List Ex} {y : Ex} (h : CH s out) (hy : Ck y) (hl : y.lba = s + sl out) : CH s (add out y) ∧ sl (add out y) = sl out + y.len := by
  unfold add
  by_cases g : out ≠ [] ∧ Jn (out.getLastD ⟨0, 0, 0, 0, []⟩) y
  · rw [if_pos g]
    have e := snoc_of g.1
    generalize out.getLastD ⟨0, 0, 0, 0, []⟩ = a at g e ⊢
    generalize out.dropLast = o at e ⊢
    rw [e] at h hl ⊢
    obtain ⟨c1, c2, c3, c4⟩ := (ch_snoc o s a).1 h
    refine ⟨(ch_snoc o s _).2 ⟨c1, ck_jnx g.2, c3, fun b hb hj => c4 b hb ⟨hj.1, c2, hj.2.2.1, hj.2.2.2.1, hj.2.2.2.2⟩⟩, ?_⟩
    rw [sl_append, sl_append]
    simp only [sl, jnx]; omega
  · rw [if_neg g]
    refine ⟨(ch_snoc out s y).2 ⟨h, hy, hl, fun a ha hj => g ⟨?_, ?_⟩⟩, ?_⟩
    · intro e0; rw [e0] at ha; cases ha
    · rw [List.getLastD_eq_getLast?, ha]; exact hj
    · rw [sl_append]; simp only [sl]; omega
/-- Extents one behind the other, from a block to a block. -/
def Cg : Int → List Ex → Int → Prop
  | s, [], e => s = e
  | s, p :: ps, e => Ck p ∧ p.lba = s ∧ Cg (s + p.len) ps e
theorem cg_app : ∀ (a b : List Ex) {s m e : Int}, Cg s a m → Cg m b e → Cg s (a ++ b) e
  | [], b, s, m, e, h1, h2 => by rw [show s = m from h1]; exact h2
  | x :: a, b, s, m, e, h1, h2 => ⟨h1.1, h1.2.1, cg_app a b h1.2.2 h2⟩
theorem ch_adds : ∀ (ps out : List Ex) {e : Int}, CH 0 out → Cg (sl out) ps e → CH 0 (ps.foldl add out) ∧ sl (ps.foldl add out) = e
  | [], out, e, h, hg => ⟨h, hg⟩
  | p :: ps, out, e, h, hg => by
    obtain ⟨a, b⟩ := ch_add h hg.1 (by rw [Int.zero_add]; exact hg.2.1)
    rw [List.foldl_cons]
    exact ch_adds ps _ a (by rw [b]; exact hg.2.2)
theorem ch_cg : ∀ {l : List Ex} {s : Int}, CH s l → Cg s l (s + sl l)
  | [], s, _ => by simp [Cg, sl]
  | x :: l, s, h => ⟨h.1, h.2.1, by rw [show s + sl (x :: l) = s + x.len + sl l by simp only [sl]; omega]; exact ch_cg h.2.2.2⟩
theorem den_ge {l : List Ex} {s : Int} (h : CH s l) {k : Int} {c : Int × Int × List UInt8} (hd : Den l k c) : s ≤ k := by
  obtain ⟨x, hx, hc⟩ := hd
  have := (ch_ck h x hx).2
  have := hc.1
  omega
theorem d_ext {x y : Ex} (hx : Ck x) (hy : Ck y) (hb : x.lba = y.lba) (hl : x.len = y.len) (h : ∀ k, x.lba ≤ k → k < x.lba + x.len → bAt x k = bAt y k) : x = y := by
  have px := ck_pos hx
  have h0 := h x.lba (by omega) (by omega)
  simp only [bAt, Prod.mk.injEq] at h0
  have hd : x.d = y.d := by
    by_cases hk : x.kind = 2
    · have d1 := ck_d2 hx hk
      have d2 := ck_d2 hy (h0.1 ▸ hk)
      apply List.ext_getElem?
      intro j
      by_cases hj : j < x.d.length
      · have hq := h (x.lba + (j / 32 : Nat)) (by omega) (by omega)
        simp only [bAt, Prod.mk.injEq] at hq
        have hq : (List.take 32 (List.drop (32 * (x.lba + ((j / 32 : Nat) : Int) - x.lba)).toNat x.d))[j % 32]? = (List.take 32 (List.drop (32 * (x.lba + ((j / 32 : Nat) : Int) - y.lba)).toNat y.d))[j % 32]? := congrArg (fun l => l[j % 32]?) hq.2.2
        have hm : j % 32 < 32 := Nat.mod_lt _ (by omega)
        rw [List.getElem?_take_of_lt hm, List.getElem?_take_of_lt hm, List.getElem?_drop, List.getElem?_drop] at hq
        have e1 : (32 * (x.lba + ((j / 32 : Nat) : Int) - x.lba)).toNat + j % 32 = j := by omega
        have e2 : (32 * (x.lba + ((j / 32 : Nat) : Int) - y.lba)).toNat + j % 32 = j := by omega
        rw [e1, e2] at hq
        exact hq
      · rw [List.getElem?_eq_none (by omega), List.getElem?_eq_none (by omega)]
    · rw [ck_d0 hx hk, ck_d0 hy (h0.1 ▸ hk)]
  cases x; cases y
  simp_all
theorem sl_nn : ∀ {l : List Ex}, (∀ x ∈ l, Ck x) → 0 ≤ sl l
  | [], _ => by simp [sl]
  | x :: l, h => by
    have h1 := sl_nn fun y hy => h y (List.mem_cons_of_mem _ hy)
    have h2 := ck_pos (h x (by simp))
    simp only [sl]; omega
end Ab
end Go.Proofs.Ytimcbhhebnikiaa
namespace Go.Proofs.Ytimcbhhebnikiaa
open Go Go.Proofs.Ytimcbhhebnikiaa.Ab
set_option linter.unusedVariables false
set_option linter.unusedSimpArgs false
namespace Ab
/-- Of one extent of the map: what is left of it before, the new one if it is its turn, what is left behind. -/
def P1 (x : Ex) (fl : Bool) (e : Ex) : List Ex := (cut e 0 x.lba).toList ++ ((if fl = false ∧ e.lba + e.len > x.lba then [x] else []) ++ (cut e (x.lba + x.len) 64).toList)
def F1 (x : Ex) (fl : Bool) (e : Ex) : Bool := fl || decide (e.lba + e.len > x.lba)
def pcs (x : Ex) : Bool → List Ex → List Ex
  | _, [] => []
  | fl, e :: l => P1 x fl e ++ pcs x (F1 x fl e) l
def stp (x : Ex) (p : Bool × List Ex) (e : Ex) : Bool × List Ex := (F1 x p.1 e, (P1 x p.1 e).foldl add p.2)
theorem stp_pcs (x : Ex) : ∀ (l : List Ex) (fl : Bool) (out : List Ex), (l.foldl (stp x) (fl, out)).2 = (pcs x fl l).foldl add out
  | [], _, _ => rfl
  | e :: l, fl, out => by
    rw [List.foldl_cons]
    show (l.foldl (stp x) (F1 x fl e, (P1 x fl e).foldl add out)).2 = _
    rw [stp_pcs x l, pcs, List.foldl_append]
/-- The map with the new extent over it. -/
def put (l : List Ex) (x : Ex) : List Ex := (pcs x false l).foldl add []
theorem den_P1 {x e : Ex} (hx : Ck x) (he : Ck e) {fl : Bool} {k : Int} {c : Int × Int × List UInt8} :
    Den (P1 x fl e) k c ↔ ((k < x.lba ∨ x.lba + x.len ≤ k) ∧ Cv e k c) ∨ (fl = false ∧ e.lba + e.len > x.lba ∧ Cv x k c) := by
  have px := ck_pos hx
  have pe := ck_pos he
  unfold P1
  rw [den_app, den_app, cv_cut he (by omega) (by omega), cv_cut he (by omega) (by omega)]
  have hm : Den (if fl = false ∧ e.lba + e.len > x.lba then [x] else []) k c ↔ fl = false ∧ e.lba + e.len > x.lba ∧ Cv x k c := by
    split
    · rename_i h
      rw [den_one]
      exact ⟨fun q => ⟨h.1, h.2, q⟩, fun q => q.2.2⟩
    · rename_i h
      exact ⟨fun q => absurd q den_nil, fun q => absurd ⟨q.1, q.2.1⟩ h⟩
  rw [hm]
  constructor
  · rintro (⟨a, b, q⟩ | q | ⟨a, b, q⟩)
    · exact .inl ⟨.inl (by omega), q⟩
    · exact .inr q
    · exact .inl ⟨.inr (by omega), q⟩
  · rintro (⟨a | a, q⟩ | q)
    · have := q.1; exact .inl ⟨by omega, by omega, q⟩
    · have := q.2.1; exact .inr (.inr ⟨by omega, by omega, q⟩)
    · exact .inr (.inl q)
theorem den_pcs_t {x : Ex} (hx : Ck x) : ∀ (l : List Ex), (∀ e ∈ l, Ck e) → ∀ {k : Int} {c : Int × Int × List UInt8}, Den (pcs x true l) k c ↔ (k < x.lba ∨ x.lba + x.len ≤ k) ∧ Den l k c
  | [], _, k, c => by simp only [pcs]; exact ⟨fun q => absurd q den_nil, fun q => absurd q.2 den_nil⟩
  | e :: l, h, k, c => by
    have ih := den_pcs_t hx l (fun y hy => h y (by simp [hy])) (k := k) (c := c)
    rw [pcs, den_app, den_P1 hx (h e (by simp)), den_cons]
    rw [show F1 x true e = true from rfl, ih]
    constructor
    · rintro ((⟨a, q⟩ | ⟨a, _⟩) | ⟨a, q⟩)
      · exact ⟨a, .inl q⟩
      · cases a
      · exact ⟨a, .inr q⟩
    · rintro ⟨a, q | q⟩
      · exact .inl (.inl ⟨a, q⟩)
      · exact .inr ⟨a, q⟩
theorem den_pcs_f {x : Ex} (hx : Ck x) : ∀ (l : List Ex), (∀ e ∈ l, Ck e) → ∀ {k : Int} {c : Int × Int × List UInt8}, Den (pcs x false l) k c ↔ ((k < x.lba ∨ x.lba + x.len ≤ k) ∧ Den l k c) ∨ (Cv x k c ∧ ∃ e ∈ l, e.lba + e.len > x.lba)
  | [], _, k, c => by
    simp only [pcs]
    refine ⟨fun q => absurd q den_nil, ?_⟩
    rintro (⟨_, q⟩ | ⟨_, e, he, _⟩)
    · exact absurd q den_nil
    · cases he
  | e :: l, h, k, c => by
    rw [pcs, den_app, den_P1 hx (h e (by simp)), den_cons]
    by_cases g : e.lba + e.len > x.lba
    · rw [show F1 x false e = true from decide_eq_true g, den_pcs_t hx l (fun y hy => h y (by simp [hy]))]
      constructor
      · rintro ((⟨a, q⟩ | ⟨_, _, q⟩) | ⟨a, q⟩)
        · exact .inl ⟨a, .inl q⟩
        · exact .inr ⟨q, e, by simp, g⟩
        · exact .inl ⟨a, .inr q⟩
      · rintro (⟨a, q | q⟩ | ⟨q, _⟩)
        · exact .inl (.inl ⟨a, q⟩)
        · exact .inr ⟨a, q⟩
        · exact .inl (.inr ⟨rfl, g, q⟩)
    · rw [show F1 x false e = false from decide_eq_false g, den_pcs_f hx l (fun y hy => h y (by simp [hy]))]
      constructor
      · rintro ((⟨a, q⟩ | ⟨_, q, _⟩) | ⟨a, q⟩ | ⟨q, y, hy, hg⟩)
        · exact .inl ⟨a, .inl q⟩
        · exact absurd q g
        · exact .inl ⟨a, .inr q⟩
        · exact .inr ⟨q, y, by simp [hy], hg⟩
      · rintro (⟨a, q | q⟩ | ⟨q, y, hy, hg⟩)
        · exact .inl (.inl ⟨a, q⟩)
        · exact .inr (.inl ⟨a, q⟩)
        · rcases List.mem_cons.1 hy with e1 | e1
          · subst e1; exact absurd hg g
          · exact .inr (.inr ⟨q, y, e1, hg⟩)
theorem cg_cut {e : Ex} {lo n a b : Int} (he : Ck e) (h1 : 0 ≤ lo ∧ lo ≤ 64) (h2 : 0 ≤ n ∧ n ≤ 64) (ha : a = max e.lba lo) (hb : b = min (e.lba + e.len) (lo + n)) (hab : a < b) : Cg a (cut e lo n).toList b := by
  have g : Cu e lo n := ⟨he, h1.1, h1.2, h2.1, h2.2, by omega⟩
  rw [cut_pos g]
  refine ⟨cu_ck g, ha.symm, ?_⟩
  show a + (min (e.lba + e.len) (lo + n) - max e.lba lo) = b
  omega
theorem cg_none {e : Ex} {lo n a : Int} (h : ¬ max e.lba lo < min (e.lba + e.len) (lo + n)) : Cg a (cut e lo n).toList a := by
  rw [cut_neg fun g => h g.2.2.2.2.2]; rfl
theorem cg_pcs_t {x : Ex} (hx : Ck x) : ∀ (l : List Ex) (s e : Int), Cg s l e → x.lba < s → Cg (max s (x.lba + x.len)) (pcs x true l) (max e (x.lba + x.len))
  | [], s, e, h, _ => by rw [show s = e from h]; rfl
  | y :: l, s, e, h, hs => by
    obtain ⟨h1, h2, h3⟩ := h
    have px := ck_pos hx
    have py := ck_pos h1
    rw [pcs, P1, if_neg (by simp), List.nil_append]
    have hr := cg_pcs_t hx l (s + y.len) e h3 (by omega)
    refine cg_app _ _ (cg_app _ _ (cg_none (a := max s (x.lba + x.len)) (by omega)) ?_) hr
    by_cases g : s + y.len > x.lba + x.len
    · exact cg_cut h1 (by omega) (by omega) (by omega) (by omega) (by omega)
    · have e1 : max (s + y.len) (x.lba + x.len) = x.lba + x.len := by omega
      have e2 : max s (x.lba + x.len) = x.lba + x.len := by omega
      rw [e1, e2]
      exact cg_none (by omega)
theorem cg_pcs_f {x : Ex} (hx : Ck x) : ∀ (l : List Ex) (s e : Int), 0 ≤ s → Cg s l e → s ≤ x.lba → x.lba < e → Cg s (pcs x false l) (max e (x.lba + x.len))
  | [], s, e, h0, h, hs, he => by have : s = e := h; omega
  | y :: l, s, e, h0, h, hs, he => by
    obtain ⟨h1, h2, h3⟩ := h
    have px := ck_pos hx
    have py := ck_pos h1
    rw [pcs, P1]
    by_cases g : y.lba + y.len > x.lba
    · rw [if_pos ⟨rfl, g⟩, show F1 x false y = true from decide_eq_true g]
      have hr := cg_pcs_t hx l (s + y.len) e h3 (by omega)
      have hleft : Cg s (cut y 0 x.lba).toList x.lba := by
        by_cases q : s < x.lba
        · exact cg_cut h1 (by omega) (by omega) (by omega) (by omega) q
        · rw [show s = x.lba by omega]; exact cg_none (by omega)
      have hright : Cg (x.lba + x.len) (cut y (x.lba + x.len) 64).toList (max (s + y.len) (x.lba + x.len)) := by
        by_cases q : s + y.len > x.lba + x.len
        · exact cg_cut h1 (by omega) (by omega) (by omega) (by omega) (by omega)
        · rw [show max (s + y.len) (x.lba + x.len) = x.lba + x.len by omega]; exact cg_none (by omega)
      exact cg_app _ _ (cg_app _ _ hleft (cg_app [x] _ (m := x.lba + x.len) ⟨hx, rfl, rfl⟩ hright)) hr
    · rw [if_neg (fun q => g q.2), show F1 x false y = false from decide_eq_false g, List.nil_append]
      have hr := cg_pcs_f hx l (s + y.len) e (by omega) h3 (by omega) he
      refine cg_app _ _ (cg_app _ _ (m := s + y.len) (cg_cut h1 (by omega) (by omega) (by omega) (by omega) (by omega)) (cg_none (by omega))) hr
/-- A chain from 0 to its end is a map of so many blocks. -/
theorem ch_mk {blocks : Int} {l : List Ex} (h : CH 0 l) (hs : sl l = blocks) (hb : 1 ≤ blocks) : Mk blocks l := by
  have hne : l ≠ [] := by intro e; subst e; simp only [sl] at hs; omega
  have key : ∀ (l : List Ex) (s : Int), CH s l → ∀ i, i < l.length → Ck (exAt l i) ∧ (exAt l i).lba = s + sl (l.take i) ∧ (0 < i → ¬ Jn (exAt l (i - 1)) (exAt l i)) := by
    intro l
    induction l with
    | nil => intro s _ i hi; simp at hi
    | cons x l ih =>
      intro s h i hi
      cases i with
      | zero => exact ⟨h.1, by rw [List.take_zero]; simp only [sl]; rw [Int.add_zero]; exact h.2.1, fun q => by omega⟩
      | succ i =>
        simp only [List.length_cons] at hi
        obtain ⟨a, b, d⟩ := ih _ h.2.2.2 i (by omega)
        refine ⟨a, ?_, fun _ => ?_⟩
        · show (exAt l i).lba = _
          rw [b, List.take_succ_cons]; simp only [sl]; omega
        · cases i with
          | zero =>
            cases l with
            | nil => simp at hi
            | cons y l => exact h.2.2.1 y rfl
          | succ j => exact d (by omega)
  refine ⟨hne, fun i hi => ?_, hs⟩
  obtain ⟨a, b, d⟩ := key l 0 h i hi
  exact ⟨a, by rw [b, Int.zero_add], d⟩
theorem put_spec {blocks : Int} {l : List Ex} {x : Ex} (h : Mk blocks l) (hx : Ck x) (hf : x.lba + x.len ≤ blocks) :
    Mk blocks (put l x) ∧ ∀ k c, Den (put l x) k c ↔ ((k < x.lba ∨ x.lba + x.len ≤ k) ∧ Den l k c) ∨ Cv x k c := by
  have hc := mk_ch h
  have hb := mk_blocks h
  have px := ck_pos hx
  have hg : Cg 0 l blocks := by
    have := ch_cg hc
    rwa [h.2.2, Int.zero_add] at this
  have hp := cg_pcs_f hx l 0 blocks (by omega) hg (by omega) (by omega)
  rw [show max blocks (x.lba + x.len) = blocks by omega] at hp
  obtain ⟨a, b⟩ := ch_adds (pcs x false l) [] (e := blocks) trivial hp
  refine ⟨ch_mk a b (by omega), fun k c => ?_⟩
  unfold put
  rw [den_adds, den_pcs_f hx l fun e he => (ch_ck hc e he).1]
  have hex : ∃ e ∈ l, e.lba + e.len > x.lba := by
    refine ⟨exAt l (l.length - 1), ?_, ?_⟩
    · have hl : 0 < l.length := List.length_pos_iff.2 h.1
      unfold exAt
      rw [List.getD_eq_getElem?_getD, List.getElem?_eq_getElem (by omega)]
      exact List.getElem_mem _
    · have hl : 0 < l.length := List.length_pos_iff.2 h.1
      have h1 := (h.2.1 (l.length - 1) (by omega)).2.1
      have h2 := sl_take l (l.length - 1) (by omega)
      rw [show l.length - 1 + 1 = l.length by omega, List.take_length, h.2.2] at h2
      omega
  constructor
  · rintro (q | q | q)
    · exact absurd q den_nil
    · exact .inl q
    · exact .inr q.1
  · rintro (q | q)
    · exact .inr (.inl q)
    · exact .inr (.inr ⟨q, hex⟩)
end Ab
end Go.Proofs.Ytimcbhhebnikiaa
namespace Go.Proofs.Ytimcbhhebnikiaa
open Go Go.Proofs.Ytimcbhhebnikiaa.Ab
set_option linter.unusedVariables false
set_option linter.unusedSimpArgs false
namespace Ab
theorem ch_len : ∀ {l : List Ex} {s : Int}, CH s l → (l.length : Int) ≤ sl l
  | [], _, _ => by simp [sl]
  | x :: l, s, h => by
    have := ch_len h.2.2.2
    have := ck_pos h.1
    simp only [sl, List.length_cons]; omega
theorem mk_len {blocks : Int} {l : List Ex} (h : Mk blocks l) : l.length ≤ 64 := by
  have h1 := ch_len (mk_ch h)
  have h2 := mk_blocks h
  have h3 := h.2.2
  omega
theorem ch_fun : ∀ {l : List Ex} {s : Int}, CH s l → ∀ {k : Int} {c c' : Int × Int × List UInt8}, Den l k c → Den l k c' → c = c'
  | [], _, _, _, _, _, h1, _ => absurd h1 den_nil
  | x :: l, s, h, k, c, c', h1, h2 => by
    have bx := h.2.1
    rcases den_cons.1 h1 with a | a <;> rcases den_cons.1 h2 with b | b
    · rw [a.2.2, b.2.2]
    · have := den_ge h.2.2.2 b; have := a.2.1; omega
    · have := den_ge h.2.2.2 a; have := b.2.1; omega
    · exact ch_fun h.2.2.2 a b
theorem ch_cov : ∀ {l : List Ex} {s : Int}, CH s l → ∀ {k : Int}, s ≤ k → k < s + sl l → ∃ x ∈ l, x.lba ≤ k ∧ k < x.lba + x.len
  | [], s, _, k, h1, h2 => by simp only [sl] at h2; omega
  | x :: l, s, h, k, h1, h2 => by
    have bx := h.2.1
    simp only [sl] at h2
    by_cases g : k < x.lba + x.len
    · exact ⟨x, by simp, by omega, g⟩
    · obtain ⟨y, hy, q⟩ := ch_cov h.2.2.2 (k := k) (by omega) (by omega)
      exact ⟨y, by simp [hy], q⟩
theorem ch_end : ∀ {l : List Ex} {s : Int}, CH s l → ∀ x ∈ l, x.lba + x.len ≤ s + sl l
  | [], _, _, x, hx => by cases hx
  | y :: l, s, h, x, hx => by
    have by_ := h.2.1
    have h0 : 0 ≤ sl l := sl_nn fun z hz => (ch_ck h.2.2.2 z hz).1
    simp only [sl]
    rcases List.mem_cons.1 hx with e | e
    · subst e; omega
    · have := ch_end h.2.2.2 x e
      omega
end Ab
end Go.Proofs.Ytimcbhhebnikiaa
namespace Go.Proofs.Ytimcbhhebnikiaa
open Go Go.Proofs.Ytimcbhhebnikiaa.Ab
set_option linter.unusedVariables false
set_option linter.unusedSimpArgs false
namespace Ab
/-- The bytes of an extent. -/
def eb (x : Ex) : List UInt8 := if x.kind = 2 then x.d else List.replicate (32 * x.len).toNat 0
end Ab
end Go.Proofs.Ytimcbhhebnikiaa
namespace Go.Proofs.Ytimcbhhebnikiaa
open Go Go.Proofs.Ytimcbhhebnikiaa.Ab
set_option linter.unusedVariables false
set_option linter.unusedSimpArgs false
namespace Ab
def CkC (c : Ce) : Prop := 0 ≤ c.kind ∧ c.kind ≤ 2 ∧ 0 ≤ c.gen ∧ c.gen ≤ 2147483647 ∧ (c.kind ≠ 2 → pad 32 c.d = List.replicate 32 0)
instance (c : Ce) : Decidable (CkC c) := by unfold CkC; infer_instance
/-- May blocks be? -/
def CkI (l : List Ce) : Prop := 1 ≤ l.length ∧ l.length ≤ 64 ∧ ∀ c ∈ l, CkC c
instance (l : List Ce) : Decidable (CkI l) := by unfold CkI; infer_instance
end Ab
end Go.Proofs.Ytimcbhhebnikiaa
namespace Go.Proofs.Ytimcbhhebnikiaa
open Go Go.Proofs.Ytimcbhhebnikiaa.Ab
set_option linter.unusedVariables false
set_option linter.unusedSimpArgs false
namespace Ab
def cb (c : Int × Int × List UInt8) : Ce := ⟨c.1, c.2.1, pad 32 c.2.2⟩
/-! Blocks of a map. -/
end Ab
end Go.Proofs.Ytimcbhhebnikiaa
namespace Go.Proofs.Ytimcbhhebnikiaa
open Go Go.Proofs.Ytimcbhhebnikiaa.Ab
set_option linter.unusedVariables false
set_option linter.unusedSimpArgs false
namespace Ab
/-- Are so many blocks there? -/
def Fits (l : List Ce) (lba n : Int) : Prop := 0 ≤ lba ∧ lba ≤ l.length ∧ 1 ≤ n ∧ n ≤ l.length - lba
instance (l : List Ce) (lba n : Int) : Decidable (Fits l lba n) := by unfold Fits; infer_instance
end Ab
end Go.Proofs.Ytimcbhhebnikiaa
