/- The law 'StateTells': it returns true, and nothing that was there changes. No condition. (Part 11 of 12.) -/
import Derived.Test.YtimcbhhebnikiaaSt10
import Derived.Test.YtimcbhhebnikiaaRows
namespace Go.Proofs.Ytimcbhhebnikiaa
open Go Go.Proofs.Ytimcbhhebnikiaa.Ab
set_option linter.unusedVariables false
set_option linter.unusedSimpArgs false
set_option maxRecDepth 1000000
namespace Ab
noncomputable abbrev sPoint_L0_I (s : Sa) (id : Int) (s0 : Int) (s2 : Sa) : St := (St.mk [((0 : Nat), (AV.ag [(AV.i s.blocks), (AV.i s.gen), (AV.sl (List.length s.map) (List.flatMap Ex.cells s.map)), (AV.sl (List.length s.points) (List.flatMap Po.cells s.points)), (AV.i s.last), (AV.sl (List.length s.staged) (List.map AV.y s.staged))])), ((1 : Nat), (AV.i id)), ((2 : Nat), (AV.pt 0 0)), ((4 : Nat), (AV.pt 1 0)), ((5 : Nat), (AV.i s0)), ((8 : Nat), (AV.ag [(AV.i s.blocks), (AV.i s.gen), (AV.sl (List.length s.map) (List.flatMap Ex.cells s.map)), (AV.sl (List.length s.points) (List.flatMap Po.cells s.points)), (AV.i s.last), (AV.sl (List.length s.staged) (List.map AV.y s.staged))])), ((9 : Nat), (AV.i s0)), ((10 : Nat), (AV.i s0)), ((11 : Nat), (AV.b (s0 != (0 : Int)))), ((14 : Nat), (AV.ag [(AV.i s.blocks), (AV.i s.gen), (AV.sl (List.length s.map) (List.flatMap Ex.cells s.map)), (AV.sl (List.length s.points) (List.flatMap Po.cells s.points)), (AV.i s.last), (AV.sl (List.length s.staged) (List.map AV.y s.staged))])), ((15 : Nat), (AV.ag [(AV.i s2.blocks), (AV.i s2.gen), (AV.rf 2 5 0 (List.length s2.map)), (AV.rf 3 3 0 (List.length s2.points)), (AV.i s2.last), (AV.rf 4 1 0 (List.length s2.staged))])), ((16 : Nat), (AV.rf 3 3 0 (List.length s2.points))), ((17 : Nat), (AV.i (↑(List.length s2.points) : Int))), ((18 : Nat), (AV.i 0))] 29 (AH.mk 5 [((4 : Nat), (AObj.cells (List.map AV.y s2.staged))), ((3 : Nat), (AObj.cells (List.flatMap Po.cells s2.points))), ((2 : Nat), (AObj.cells (List.flatMap Ex.cells s2.map))), ((1 : Nat), (AObj.cells [(AV.i 0), (AV.i 0), AV.nl])), ((0 : Nat), (AObj.cells [(AV.i s.blocks), (AV.i s.gen), (AV.sl (List.length s.map) (List.flatMap Ex.cells s.map)), (AV.sl (List.length s.points) (List.flatMap Po.cells s.points)), (AV.i s.last), (AV.sl (List.length s.staged) (List.map AV.y s.staged))]))]) Bool.false)
noncomputable abbrev sPoint_L0_S (s : Sa) (id : Int) (s0 : Int) (s2 : Sa) (s3 : Int) : St := (St.mk [((0 : Nat), (AV.ag [(AV.i s.blocks), (AV.i s.gen), (AV.sl (List.length s.map) (List.flatMap Ex.cells s.map)), (AV.sl (List.length s.points) (List.flatMap Po.cells s.points)), (AV.i s.last), (AV.sl (List.length s.staged) (List.map AV.y s.staged))])), ((1 : Nat), (AV.i id)), ((2 : Nat), (AV.pt 0 0)), ((4 : Nat), (AV.pt 1 0)), ((11 : Nat), (AV.b (s0 != (0 : Int)))), ((16 : Nat), (AV.rf 3 3 0 (List.length s2.points))), ((17 : Nat), (AV.i (↑(List.length s2.points) : Int))), ((18 : Nat), (AV.i s3))] 29 (AH.mk 5 [((4 : Nat), (AObj.cells (List.map AV.y s2.staged))), ((3 : Nat), (AObj.cells (List.flatMap Po.cells s2.points))), ((2 : Nat), (AObj.cells (List.flatMap Ex.cells s2.map))), ((1 : Nat), (AObj.cells [(AV.i 0), (AV.i 0), AV.nl])), ((0 : Nat), (AObj.cells [(AV.i s.blocks), (AV.i s.gen), (AV.sl (List.length s.map) (List.flatMap Ex.cells s.map)), (AV.sl (List.length s.points) (List.flatMap Po.cells s.points)), (AV.i s.last), (AV.sl (List.length s.staged) (List.map AV.y s.staged))]))]) Bool.false)
noncomputable def sPoint_L0_step (s : Sa) (id : Int) (s0 : Int) (s2 : Sa) (s3 : Int) : Option (Int) :=
 (tb ((decide (s3 < (↑(List.length s2.points) : Int))))
  (tp ((((0 : Int) ≤ s3) ∧ (s3 < (↑(List.length s2.points) : Int))))
   (tb (((poAt s2.points (Int.toNat s3)).id == id))
    none /- exit -/
    (some ((wr (s3 + (1 : Int)))))))
  none /- exit -/)
theorem sPoint_L0_s0 (s : Sa) (id : Int) (s0 : Int) (s2 : Sa) (s3 : Int) (h4 : ((decide (s3 < (↑(List.length s2.points) : Int)))) = true) (h4p : (s3 < (↑(List.length s2.points) : Int))) (h5 : (((0 : Int) ≤ s3) ∧ (s3 < (↑(List.length s2.points) : Int)))) (h6 : (((poAt s2.points (Int.toNat s3)).id == id)) = false) (h6p : ¬ ((poAt s2.points (Int.toNat s3)).id = id)) : EvStep Try.prog cf 5 (lp Try.prog 15 0) (sPoint_L0_S s id s0 s2 s3) (sPoint_L0_S s id s0 s2 ((wr (s3 + (1 : Int))))) :=
  leafS vw_eq (k := 300) (r := []) (hs := hz [(1, [.yes, .yes, .yes, .cells ((Po.cells (poAt s2.points (Int.toNat s3))))]), (2, [.cells ([(AV.i (poAt s2.points (Int.toNat s3)).id), (AV.i (poAt s2.points (Int.toNat s3)).gen), (AV.sl (List.length (poAt s2.points (Int.toNat s3)).map) (List.flatMap Ex.cells (poAt s2.points (Int.toNat s3)).map))])]), (5, [.no]), (2, [])]) (st1 := (St.mk [((0 : Nat), (AV.ag [(AV.i s.blocks), (AV.i s.gen), (AV.sl (List.length s.map) (List.flatMap Ex.cells s.map)), (AV.sl (List.length s.points) (List.flatMap Po.cells s.points)), (AV.i s.last), (AV.sl (List.length s.staged) (List.map AV.y s.staged))])), ((1 : Nat), (AV.i id)), ((2 : Nat), (AV.pt 0 0)), ((4 : Nat), (AV.pt 1 0)), ((11 : Nat), (AV.b (s0 != (0 : Int)))), ((16 : Nat), (AV.rf 3 3 0 (List.length s2.points))), ((17 : Nat), (AV.i (↑(List.length s2.points) : Int))), ((18 : Nat), (AV.i (wr (s3 + (1 : Int))))), ((19 : Nat), (AV.b (decide (s3 < (↑(List.length s2.points) : Int))))), ((20 : Nat), (AV.pt 3 ((0 : Nat) + ((Int.toNat s3) * (3 : Nat))))), ((21 : Nat), (AV.ag [(AV.i (poAt s2.points (Int.toNat s3)).id), (AV.i (poAt s2.points (Int.toNat s3)).gen), (AV.sl (List.length (poAt s2.points (Int.toNat s3)).map) (List.flatMap Ex.cells (poAt s2.points (Int.toNat s3)).map))])), ((7 : Nat), (AV.pt 5 0)), ((22 : Nat), (AV.pt 5 0)), ((23 : Nat), (AV.i (poAt s2.points (Int.toNat s3)).id)), ((24 : Nat), (AV.i id)), ((25 : Nat), (AV.b ((poAt s2.points (Int.toNat s3)).id == id))), ((27 : Nat), (AV.i (wr (s3 + (1 : Int)))))] 29 (AH.mk 6 [((5 : Nat), (AObj.cells [(AV.i (poAt s2.points (Int.toNat s3)).id), (AV.i (poAt s2.points (Int.toNat s3)).gen), (AV.sl (List.length (poAt s2.points (Int.toNat s3)).map) (List.flatMap Ex.cells (poAt s2.points (Int.toNat s3)).map))])), ((4 : Nat), (AObj.cells (List.map AV.y s2.staged))), ((3 : Nat), (AObj.cells (List.flatMap Po.cells s2.points))), ((2 : Nat), (AObj.cells (List.flatMap Ex.cells s2.map))), ((1 : Nat), (AObj.cells [(AV.i 0), (AV.i 0), AV.nl])), ((0 : Nat), (AObj.cells [(AV.i s.blocks), (AV.i s.gen), (AV.sl (List.length s.map) (List.flatMap Ex.cells s.map)), (AV.sl (List.length s.points) (List.flatMap Po.cells s.points)), (AV.i s.last), (AV.sl (List.length s.staged) (List.map AV.y s.staged))]))]) Bool.false)) kq (ac h4 (ac h5 (ac (fq (p := ((((0 : Nat) + ((Int.toNat s3) * (3 : Nat))) + (3 : Nat)) ≤ (List.length (List.flatMap Po.cells s2.points))))) (ac (show (List.take 3 (List.drop ((0 : Nat) + ((Int.toNat s3) * (3 : Nat))) (List.flatMap Po.cells s2.points))) = (Po.cells (poAt s2.points (Int.toNat s3))) from (po_takeO bq bq)) (ac (Eq.refl ([(AV.i (poAt s2.points (Int.toNat s3)).id), (AV.i (poAt s2.points (Int.toNat s3)).gen), (AV.sl (List.length (poAt s2.points (Int.toNat s3)).map) (List.flatMap Ex.cells (poAt s2.points (Int.toNat s3)).map))] : List AV)) (ac h6 an)))))) (Nat.le_of_ble_eq_true rfl) (absB_of [] [] kq (.consn kq (.agp pq) (.consn kq (.eqv tq rfl) (.consn kq (.pt rfl) (.consn kq (.pt rfl) (.consn kq (.eqv tq rfl) (.consn kq (.rf rfl) (.consn kq (.eqv tq rfl) (.consn kq (.eqv tq rfl) .nil)))))))) (.cons (.old rfl rfl (.cells (.pl rfl (by simp)))) (.cons (.old rfl rfl (.cells (.pl rfl (by simp)))) (.cons (.old rfl rfl (.cells (.pl rfl (by simp)))) (.cons (.old rfl rfl (.cells (.cons (.eqv tq rfl) (.cons (.eqv tq rfl) (.cons .nl0 .nil))))) (.cons (.old rfl rfl (.cells (.pl rfl pq))) .nil))))))
theorem sPoint_L0_ok (s : Sa) (id : Int) (s0 : Int) (s2 : Sa) (s3 zz : Int) : sPoint_L0_step s id s0 s2 s3 = some zz → EvStep Try.prog cf 5 (lp Try.prog 15 0) (sPoint_L0_S s id s0 s2 s3) (sPoint_L0_S s id s0 s2 zz) := by
  unfold sPoint_L0_step
  refine tb_ok (fun h4 => ?_) (fun h4 => ?_)
  ·
    have h4p := of_decide_eq_true h4
    refine tp_ok (fun h5 => ?_)
    refine tb_ok (fun h6 => ?_) (fun h6 => ?_)
    ·
      have h6p := eq_of_beq h6
      exact fun e => nomatch e
    ·
      have h6p := ne_of_beq_false h6
      exact fun e => tl_ok (G := (fun zz => EvStep Try.prog cf 5 (lp Try.prog 15 0) (sPoint_L0_S s id s0 s2 s3) (sPoint_L0_S s id s0 s2 zz))) (sPoint_L0_s0 s id s0 s2 s3 h4 h4p h5 h6 h6p) e
  ·
    have h4p := of_decide_eq_false h4
    exact fun e => nomatch e
/-- Function 15, as it answers. -/
noncomputable def sPoint (s : Sa) (id : Int) : Option (Po × Int) :=
 (tc (sCheck (s)) fun s0 =>
  (tb ((s0 != (0 : Int)))
   (some (((Po.mk 0 0 ([] : List Ex)), s0)))
   (tc (sCopy (s)) fun s2 =>
    (th (sPoint_L0_step s id s0 s2) ((0 : Int)) fun s3 =>
     (tb ((decide (s3 < (↑(List.length s2.points) : Int))))
      (tp ((((0 : Int) ≤ s3) ∧ (s3 < (↑(List.length s2.points) : Int))))
       (tb (((poAt s2.points (Int.toNat s3)).id == id))
        (some (((poAt s2.points (Int.toNat s3)), (0 : Int))))
        none /- stop behind an operation -/))
      (some (((Po.mk 0 0 ([] : List Ex)), (111 : Int)))))))))
abbrev sPoint_G (s : Sa) (id : Int) (r : Po × Int) : Prop := EvFr Try.prog cf false 15 [Sa.av (s), .i (id)] (.tu [Po.av (r.1), .i (r.2)])
theorem sPoint_l0 (s : Sa) (id : Int) (s0 : Int) (h0 : sCheck (s) = some s0) (h1 : ((s0 != (0 : Int))) = true) (h1p : ¬ (s0 = (0 : Int))) : sPoint_G s id (((Po.mk 0 0 ([] : List Ex)), s0)) :=
  leafR vw_eq (k := 300) (r := []) (hs := hz [(4, [.cells ([(AV.i s.blocks), (AV.i s.gen), (AV.sl (List.length s.map) (List.flatMap Ex.cells s.map)), (AV.sl (List.length s.points) (List.flatMap Po.cells s.points)), (AV.i s.last), (AV.sl (List.length s.staged) (List.map AV.y s.staged))])]), (1, [.fres (.i (s0))]), (3, [.yes]), (1, [.cells ([(AV.i 0), (AV.i 0), AV.nl])]), (2, [.cells ([(AV.i 0), (AV.i 0), AV.nl])]), (2, [.cells ([(AV.i 0), (AV.i 0), AV.nl])])]) (raw := (AV.tu [(AV.ag [(AV.i 0), (AV.i 0), (AV.sl 0 ([] : List AV))]), (AV.i s0)])) kq (ac (Eq.refl ([(AV.i s.blocks), (AV.i s.gen), (AV.sl (List.length s.map) (List.flatMap Ex.cells s.map)), (AV.sl (List.length s.points) (List.flatMap Po.cells s.points)), (AV.i s.last), (AV.sl (List.length s.staged) (List.map AV.y s.staged))] : List AV)) (ac (sCheck_ok (s) _ h0).any0 (ac h1 (ac (Eq.refl ([(AV.i 0), (AV.i 0), AV.nl] : List AV)) (ac (Eq.refl ([(AV.i 0), (AV.i 0), AV.nl] : List AV)) (ac (Eq.refl ([(AV.i 0), (AV.i 0), AV.nl] : List AV)) an)))))) tq
theorem sPoint_l1 (s : Sa) (id : Int) (s0 : Int) (h0 : sCheck (s) = some s0) (h1 : ((s0 != (0 : Int))) = false) (h1p : (s0 = (0 : Int))) (s2 : Sa) (h2 : sCopy (s) = some s2) (s3 : Int) (h3 : Runs (sPoint_L0_step s id s0 s2) ((0 : Int)) s3) (h4 : ((decide (s3 < (↑(List.length s2.points) : Int)))) = true) (h4p : (s3 < (↑(List.length s2.points) : Int))) (h5 : (((0 : Int) ≤ s3) ∧ (s3 < (↑(List.length s2.points) : Int)))) (h6 : (((poAt s2.points (Int.toNat s3)).id == id)) = true) (h6p : ((poAt s2.points (Int.toNat s3)).id = id)) : sPoint_G s id (((poAt s2.points (Int.toNat s3)), (0 : Int))) :=
  leafR vw_eq (k := 300) (r := []) (hs := hz [(4, [.cells ([(AV.i s.blocks), (AV.i s.gen), (AV.sl (List.length s.map) (List.flatMap Ex.cells s.map)), (AV.sl (List.length s.points) (List.flatMap Po.cells s.points)), (AV.i s.last), (AV.sl (List.length s.staged) (List.map AV.y s.staged))])]), (1, [.fres (.i (s0))]), (3, [.no]), (1, [.cells ([(AV.i s.blocks), (AV.i s.gen), (AV.sl (List.length s.map) (List.flatMap Ex.cells s.map)), (AV.sl (List.length s.points) (List.flatMap Po.cells s.points)), (AV.i s.last), (AV.sl (List.length s.staged) (List.map AV.y s.staged))])]), (1, [.fres (Sa.av (s2))]), (4, [.head (sPoint_L0_S s id s0 s2 s3)]), (1, [.yes, .yes, .yes, .cells ((Po.cells (poAt s2.points (Int.toNat s3))))]), (2, [.cells ([(AV.i (poAt s2.points (Int.toNat s3)).id), (AV.i (poAt s2.points (Int.toNat s3)).gen), (AV.sl (List.length (poAt s2.points (Int.toNat s3)).map) (List.flatMap Ex.cells (poAt s2.points (Int.toNat s3)).map))])]), (5, [.yes]), (1, [.cells ([(AV.i (poAt s2.points (Int.toNat s3)).id), (AV.i (poAt s2.points (Int.toNat s3)).gen), (AV.sl (List.length (poAt s2.points (Int.toNat s3)).map) (List.flatMap Ex.cells (poAt s2.points (Int.toNat s3)).map))])]), (1, [.cells ([(AV.i (poAt s2.points (Int.toNat s3)).id), (AV.i (poAt s2.points (Int.toNat s3)).gen), (AV.sl (List.length (poAt s2.points (Int.toNat s3)).map) (List.flatMap Ex.cells (poAt s2.points (Int.toNat s3)).map))])]), (2, [.cells ([(AV.i (poAt s2.points (Int.toNat s3)).id), (AV.i (poAt s2.points (Int.toNat s3)).gen), (AV.sl (List.length (poAt s2.points (Int.toNat s3)).map) (List.flatMap Ex.cells (poAt s2.points (Int.toNat s3)).map))])])]) (raw := (AV.tu [(AV.ag [(AV.i (poAt s2.points (Int.toNat s3)).id), (AV.i (poAt s2.points (Int.toNat s3)).gen), (AV.sl (List.length (poAt s2.points (Int.toNat s3)).map) (List.flatMap Ex.cells (poAt s2.points (Int.toNat s3)).map))]), (AV.i 0)])) kq (ac (Eq.refl ([(AV.i s.blocks), (AV.i s.gen), (AV.sl (List.length s.map) (List.flatMap Ex.cells s.map)), (AV.sl (List.length s.points) (List.flatMap Po.cells s.points)), (AV.i s.last), (AV.sl (List.length s.staged) (List.map AV.y s.staged))] : List AV)) (ac (sCheck_ok (s) _ h0).any0 (ac h1 (ac (Eq.refl ([(AV.i s.blocks), (AV.i s.gen), (AV.sl (List.length s.map) (List.flatMap Ex.cells s.map)), (AV.sl (List.length s.points) (List.flatMap Po.cells s.points)), (AV.i s.last), (AV.sl (List.length s.staged) (List.map AV.y s.staged))] : List AV)) (ac (sCopy_ok (s) _ h2) (ac (show EvHead Try.prog cf (lp Try.prog 15 0) (sPoint_L0_I s id s0 s2) (sPoint_L0_S s id s0 s2 s3) from (EvHead.of (sPoint_L0_ok s id s0 s2) (absB_of [] [] kq (.consn kq (.agp pq) (.consn kq (.eqv tq rfl) (.consn kq (.pt rfl) (.consn kq (.pt rfl) (.consn kq (.eqv tq rfl) (.consn kq (.rf rfl) (.consn kq (.eqv tq rfl) (.consn kq (.eqv tq rfl) .nil)))))))) (.cons (.old rfl rfl (.cells (.pl rfl (by simp)))) (.cons (.old rfl rfl (.cells (.pl rfl (by simp)))) (.cons (.old rfl rfl (.cells (.pl rfl (by simp)))) (.cons (.old rfl rfl (.cells (.cons (.eqv tq rfl) (.cons (.eqv tq rfl) (.cons .nl0 .nil))))) (.cons (.old rfl rfl (.cells (.pl rfl pq))) .nil)))))) h3)) (ac h4 (ac h5 (ac (fq (p := ((((0 : Nat) + ((Int.toNat s3) * (3 : Nat))) + (3 : Nat)) ≤ (List.length (List.flatMap Po.cells s2.points))))) (ac (show (List.take 3 (List.drop ((0 : Nat) + ((Int.toNat s3) * (3 : Nat))) (List.flatMap Po.cells s2.points))) = (Po.cells (poAt s2.points (Int.toNat s3))) from (po_takeO bq bq)) (ac (Eq.refl ([(AV.i (poAt s2.points (Int.toNat s3)).id), (AV.i (poAt s2.points (Int.toNat s3)).gen), (AV.sl (List.length (poAt s2.points (Int.toNat s3)).map) (List.flatMap Ex.cells (poAt s2.points (Int.toNat s3)).map))] : List AV)) (ac h6 (ac (Eq.refl ([(AV.i (poAt s2.points (Int.toNat s3)).id), (AV.i (poAt s2.points (Int.toNat s3)).gen), (AV.sl (List.length (poAt s2.points (Int.toNat s3)).map) (List.flatMap Ex.cells (poAt s2.points (Int.toNat s3)).map))] : List AV)) (ac (Eq.refl ([(AV.i (poAt s2.points (Int.toNat s3)).id), (AV.i (poAt s2.points (Int.toNat s3)).gen), (AV.sl (List.length (poAt s2.points (Int.toNat s3)).map) (List.flatMap Ex.cells (poAt s2.points (Int.toNat s3)).map))] : List AV)) (ac (Eq.refl ([(AV.i (poAt s2.points (Int.toNat s3)).id), (AV.i (poAt s2.points (Int.toNat s3)).gen), (AV.sl (List.length (poAt s2.points (Int.toNat s3)).map) (List.flatMap Ex.cells (poAt s2.points (Int.toNat s3)).map))] : List AV)) an))))))))))))))) tq
theorem sPoint_l2 (s : Sa) (id : Int) (s0 : Int) (h0 : sCheck (s) = some s0) (h1 : ((s0 != (0 : Int))) = false) (h1p : (s0 = (0 : Int))) (s2 : Sa) (h2 : sCopy (s) = some s2) (s3 : Int) (h3 : Runs (sPoint_L0_step s id s0 s2) ((0 : Int)) s3) (h4 : ((decide (s3 < (↑(List.length s2.points) : Int)))) = false) (h4p : ¬ (s3 < (↑(List.length s2.points) : Int))) : sPoint_G s id (((Po.mk 0 0 ([] : List Ex)), (111 : Int))) :=
  leafR vw_eq (k := 300) (r := []) (hs := hz [(4, [.cells ([(AV.i s.blocks), (AV.i s.gen), (AV.sl (List.length s.map) (List.flatMap Ex.cells s.map)), (AV.sl (List.length s.points) (List.flatMap Po.cells s.points)), (AV.i s.last), (AV.sl (List.length s.staged) (List.map AV.y s.staged))])]), (1, [.fres (.i (s0))]), (3, [.no]), (1, [.cells ([(AV.i s.blocks), (AV.i s.gen), (AV.sl (List.length s.map) (List.flatMap Ex.cells s.map)), (AV.sl (List.length s.points) (List.flatMap Po.cells s.points)), (AV.i s.last), (AV.sl (List.length s.staged) (List.map AV.y s.staged))])]), (1, [.fres (Sa.av (s2))]), (4, [.head (sPoint_L0_S s id s0 s2 s3)]), (1, [.no]), (1, [.cells ([(AV.i 0), (AV.i 0), AV.nl])]), (1, [.cells ([(AV.i 0), (AV.i 0), AV.nl])]), (2, [.cells ([(AV.i 0), (AV.i 0), AV.nl])])]) (raw := (AV.tu [(AV.ag [(AV.i 0), (AV.i 0), (AV.sl 0 ([] : List AV))]), (AV.i 111)])) kq (ac (Eq.refl ([(AV.i s.blocks), (AV.i s.gen), (AV.sl (List.length s.map) (List.flatMap Ex.cells s.map)), (AV.sl (List.length s.points) (List.flatMap Po.cells s.points)), (AV.i s.last), (AV.sl (List.length s.staged) (List.map AV.y s.staged))] : List AV)) (ac (sCheck_ok (s) _ h0).any0 (ac h1 (ac (Eq.refl ([(AV.i s.blocks), (AV.i s.gen), (AV.sl (List.length s.map) (List.flatMap Ex.cells s.map)), (AV.sl (List.length s.points) (List.flatMap Po.cells s.points)), (AV.i s.last), (AV.sl (List.length s.staged) (List.map AV.y s.staged))] : List AV)) (ac (sCopy_ok (s) _ h2) (ac (show EvHead Try.prog cf (lp Try.prog 15 0) (sPoint_L0_I s id s0 s2) (sPoint_L0_S s id s0 s2 s3) from (EvHead.of (sPoint_L0_ok s id s0 s2) (absB_of [] [] kq (.consn kq (.agp pq) (.consn kq (.eqv tq rfl) (.consn kq (.pt rfl) (.consn kq (.pt rfl) (.consn kq (.eqv tq rfl) (.consn kq (.rf rfl) (.consn kq (.eqv tq rfl) (.consn kq (.eqv tq rfl) .nil)))))))) (.cons (.old rfl rfl (.cells (.pl rfl (by simp)))) (.cons (.old rfl rfl (.cells (.pl rfl (by simp)))) (.cons (.old rfl rfl (.cells (.pl rfl (by simp)))) (.cons (.old rfl rfl (.cells (.cons (.eqv tq rfl) (.cons (.eqv tq rfl) (.cons .nl0 .nil))))) (.cons (.old rfl rfl (.cells (.pl rfl pq))) .nil)))))) h3)) (ac h4 (ac (Eq.refl ([(AV.i 0), (AV.i 0), AV.nl] : List AV)) (ac (Eq.refl ([(AV.i 0), (AV.i 0), AV.nl] : List AV)) (ac (Eq.refl ([(AV.i 0), (AV.i 0), AV.nl] : List AV)) an)))))))))) tq
theorem sPoint_ok (s : Sa) (id : Int) (r : Po × Int) : sPoint s id = some r → sPoint_G s id r := by
  unfold sPoint
  refine tc_ok (fun s0 h0 => ?_)
  refine tb_ok (fun h1 => ?_) (fun h1 => ?_)
  ·
    have h1p := bne_iff_ne.1 h1
    exact fun e => tl_ok (G := sPoint_G s id) (sPoint_l0 s id s0 h0 h1 h1p) e
  ·
    have h1p := bne_eq_false_iff_eq.1 h1
    refine tc_ok (fun s2 h2 => ?_)
    refine th_ok (fun s3 h3 => ?_)
    refine tb_ok (fun h4 => ?_) (fun h4 => ?_)
    ·
      have h4p := of_decide_eq_true h4
      refine tp_ok (fun h5 => ?_)
      refine tb_ok (fun h6 => ?_) (fun h6 => ?_)
      ·
        have h6p := eq_of_beq h6
        exact fun e => tl_ok (G := sPoint_G s id) (sPoint_l1 s id s0 h0 h1 h1p s2 h2 s3 h3 h4 h4p h5 h6 h6p) e
      ·
        have h6p := ne_of_beq_false h6
        exact fun e => nomatch e
    ·
      have h4p := of_decide_eq_false h4
      exact fun e => tl_ok (G := sPoint_G s id) (sPoint_l2 s id s0 h0 h1 h1p s2 h2 s3 h3 h4 h4p) e
noncomputable abbrev sIds_L0_I (s : Sa) (s0 : Sa) : St := (St.mk [((0 : Nat), (AV.ag [(AV.i s.blocks), (AV.i s.gen), (AV.sl (List.length s.map) (List.flatMap Ex.cells s.map)), (AV.sl (List.length s.points) (List.flatMap Po.cells s.points)), (AV.i s.last), (AV.sl (List.length s.staged) (List.map AV.y s.staged))])), ((1 : Nat), (AV.pt 0 0)), ((2 : Nat), AV.nl), ((5 : Nat), (AV.ag [(AV.i s.blocks), (AV.i s.gen), (AV.sl (List.length s.map) (List.flatMap Ex.cells s.map)), (AV.sl (List.length s.points) (List.flatMap Po.cells s.points)), (AV.i s.last), (AV.sl (List.length s.staged) (List.map AV.y s.staged))])), ((6 : Nat), (AV.ag [(AV.i s0.blocks), (AV.i s0.gen), (AV.rf 1 5 0 (List.length s0.map)), (AV.rf 2 3 0 (List.length s0.points)), (AV.i s0.last), (AV.rf 3 1 0 (List.length s0.staged))])), ((7 : Nat), (AV.rf 2 3 0 (List.length s0.points))), ((8 : Nat), (AV.i (↑(List.length s0.points) : Int))), ((9 : Nat), (AV.i 0))] 20 (AH.mk 4 [((3 : Nat), (AObj.cells (List.map AV.y s0.staged))), ((2 : Nat), (AObj.cells (List.flatMap Po.cells s0.points))), ((1 : Nat), (AObj.cells (List.flatMap Ex.cells s0.map))), ((0 : Nat), (AObj.cells [(AV.i s.blocks), (AV.i s.gen), (AV.sl (List.length s.map) (List.flatMap Ex.cells s.map)), (AV.sl (List.length s.points) (List.flatMap Po.cells s.points)), (AV.i s.last), (AV.sl (List.length s.staged) (List.map AV.y s.staged))]))]) Bool.false)
noncomputable abbrev sIds_L0_S (s : Sa) (s0 : Sa) (s1 : List Int × Int) : St := (St.mk [((0 : Nat), (AV.ag [(AV.i s.blocks), (AV.i s.gen), (AV.sl (List.length s.map) (List.flatMap Ex.cells s.map)), (AV.sl (List.length s.points) (List.flatMap Po.cells s.points)), (AV.i s.last), (AV.sl (List.length s.staged) (List.map AV.y s.staged))])), ((1 : Nat), (AV.pt 0 0)), ((2 : Nat), (AV.rf 4 1 0 (List.length s1.1))), ((7 : Nat), (AV.rf 2 3 0 (List.length s0.points))), ((8 : Nat), (AV.i (↑(List.length s0.points) : Int))), ((9 : Nat), (AV.i s1.2))] 20 (AH.mk 5 [((3 : Nat), (AObj.cells (List.map AV.y s0.staged))), ((2 : Nat), (AObj.cells (List.flatMap Po.cells s0.points))), ((1 : Nat), (AObj.cells (List.flatMap Ex.cells s0.map))), ((0 : Nat), (AObj.cells [(AV.i s.blocks), (AV.i s.gen), (AV.sl (List.length s.map) (List.flatMap Ex.cells s.map)), (AV.sl (List.length s.points) (List.flatMap Po.cells s.points)), (AV.i s.last), (AV.sl (List.length s.staged) (List.map AV.y s.staged))])), ((4 : Nat), (AObj.cells (List.map AV.i s1.1)))]) Bool.false)
noncomputable def sIds_L0_step (s : Sa) (s0 : Sa) (s1 : List Int × Int) : Option (List Int × Int) :=
 (tb ((decide (s1.2 < (↑(List.length s0.points) : Int))))
  (tp ((((0 : Int) ≤ s1.2) ∧ (s1.2 < (↑(List.length s0.points) : Int))))
   (tp ((((List.length (List.map AV.i s1.1)) = ((List.length s1.1) * (1 : Nat))) ∧ (((List.length s1.1) + (1 : Nat)) ≤ (4294967296 : Nat))))
    (some (((s1.1 ++ [(poAt s0.points (Int.toNat s1.2)).id]), (wr (s1.2 + (1 : Int))))))))
  none /- exit -/)
theorem sIds_L0_s0 (s : Sa) (s0 : Sa) (s1 : List Int × Int) (h2 : ((decide (s1.2 < (↑(List.length s0.points) : Int)))) = true) (h2p : (s1.2 < (↑(List.length s0.points) : Int))) (h3 : (((0 : Int) ≤ s1.2) ∧ (s1.2 < (↑(List.length s0.points) : Int)))) (h4 : (((List.length (List.map AV.i s1.1)) = ((List.length s1.1) * (1 : Nat))) ∧ (((List.length s1.1) + (1 : Nat)) ≤ (4294967296 : Nat)))) : EvStep Try.prog cf 4 (lp Try.prog 24 0) (sIds_L0_S s s0 s1) (sIds_L0_S s s0 (((s1.1 ++ [(poAt s0.points (Int.toNat s1.2)).id]), (wr (s1.2 + (1 : Int)))))) :=
  leafS vw_eq (k := 300) (r := []) (hs := hz [(1, [.yes, .yes, .yes, .cells ((Po.cells (poAt s0.points (Int.toNat s1.2))))]), (2, [.cells ([(AV.i (poAt s0.points (Int.toNat s1.2)).id), (AV.i (poAt s0.points (Int.toNat s1.2)).gen), (AV.sl (List.length (poAt s0.points (Int.toNat s1.2)).map) (List.flatMap Ex.cells (poAt s0.points (Int.toNat s1.2)).map))])]), (5, [.yes, .yes]), (3, [])]) (st1 := (St.mk [((0 : Nat), (AV.ag [(AV.i s.blocks), (AV.i s.gen), (AV.sl (List.length s.map) (List.flatMap Ex.cells s.map)), (AV.sl (List.length s.points) (List.flatMap Po.cells s.points)), (AV.i s.last), (AV.sl (List.length s.staged) (List.map AV.y s.staged))])), ((1 : Nat), (AV.pt 0 0)), ((2 : Nat), (AV.rf 7 1 0 ((List.length s1.1) + (1 : Nat)))), ((7 : Nat), (AV.rf 2 3 0 (List.length s0.points))), ((8 : Nat), (AV.i (↑(List.length s0.points) : Int))), ((9 : Nat), (AV.i (wr (s1.2 + (1 : Int))))), ((10 : Nat), (AV.b (decide (s1.2 < (↑(List.length s0.points) : Int))))), ((11 : Nat), (AV.pt 2 ((0 : Nat) + ((Int.toNat s1.2) * (3 : Nat))))), ((12 : Nat), (AV.ag [(AV.i (poAt s0.points (Int.toNat s1.2)).id), (AV.i (poAt s0.points (Int.toNat s1.2)).gen), (AV.sl (List.length (poAt s0.points (Int.toNat s1.2)).map) (List.flatMap Ex.cells (poAt s0.points (Int.toNat s1.2)).map))])), ((4 : Nat), (AV.pt 5 0)), ((13 : Nat), (AV.rf 4 1 0 (List.length s1.1))), ((14 : Nat), (AV.pt 5 0)), ((15 : Nat), (AV.i (poAt s0.points (Int.toNat s1.2)).id)), ((16 : Nat), (AV.rf 6 1 0 1)), ((17 : Nat), (AV.rf 7 1 0 ((List.length s1.1) + (1 : Nat)))), ((18 : Nat), (AV.i (wr (s1.2 + (1 : Int)))))] 20 (AH.mk 8 [((7 : Nat), (AObj.cells ((List.map AV.i s1.1) ++ [(AV.i (poAt s0.points (Int.toNat s1.2)).id)]))), ((6 : Nat), (AObj.cells [(AV.i (poAt s0.points (Int.toNat s1.2)).id)])), ((5 : Nat), (AObj.cells [(AV.i (poAt s0.points (Int.toNat s1.2)).id), (AV.i (poAt s0.points (Int.toNat s1.2)).gen), (AV.sl (List.length (poAt s0.points (Int.toNat s1.2)).map) (List.flatMap Ex.cells (poAt s0.points (Int.toNat s1.2)).map))])), ((3 : Nat), (AObj.cells (List.map AV.y s0.staged))), ((2 : Nat), (AObj.cells (List.flatMap Po.cells s0.points))), ((1 : Nat), (AObj.cells (List.flatMap Ex.cells s0.map))), ((0 : Nat), (AObj.cells [(AV.i s.blocks), (AV.i s.gen), (AV.sl (List.length s.map) (List.flatMap Ex.cells s.map)), (AV.sl (List.length s.points) (List.flatMap Po.cells s.points)), (AV.i s.last), (AV.sl (List.length s.staged) (List.map AV.y s.staged))])), ((4 : Nat), AObj.dead)]) Bool.false)) kq (ac h2 (ac h3 (ac (fq (p := ((((0 : Nat) + ((Int.toNat s1.2) * (3 : Nat))) + (3 : Nat)) ≤ (List.length (List.flatMap Po.cells s0.points))))) (ac (show (List.take 3 (List.drop ((0 : Nat) + ((Int.toNat s1.2) * (3 : Nat))) (List.flatMap Po.cells s0.points))) = (Po.cells (poAt s0.points (Int.toNat s1.2))) from (po_takeO bq bq)) (ac (Eq.refl ([(AV.i (poAt s0.points (Int.toNat s1.2)).id), (AV.i (poAt s0.points (Int.toNat s1.2)).gen), (AV.sl (List.length (poAt s0.points (Int.toNat s1.2)).map) (List.flatMap Ex.cells (poAt s0.points (Int.toNat s1.2)).map))] : List AV)) (ac (tq (p := (((0 : Nat) = (0 : Nat)) ∧ ((List.length [(AV.i (poAt s0.points (Int.toNat s1.2)).id)]) = (1 : Nat))))) (ac h4 an))))))) (Nat.le_of_ble_eq_true rfl) (absB_of [7] [] kq (.consn kq (.agp pq) (.consn kq (.pt rfl) (.consn kq (.rfn (n := ((List.length s1.1) + (1 : Nat))) rfl tq) (.consn kq (.rf rfl) (.consn kq (.eqv tq rfl) (.consn kq (.eqv tq rfl) .nil)))))) (.cons (.old rfl rfl (.cells (.pl rfl (by simp)))) (.cons (.old rfl rfl (.cells (.pl rfl (by simp)))) (.cons (.old rfl rfl (.cells (.pl rfl (by simp)))) (.cons (.old rfl rfl (.cells (.pl rfl pq))) (.cons (.old rfl rfl (.cells (.pl tq pq))) .nil))))))
theorem sIds_L0_ok (s : Sa) (s0 : Sa) (s1 zz : List Int × Int) : sIds_L0_step s s0 s1 = some zz → EvStep Try.prog cf 4 (lp Try.prog 24 0) (sIds_L0_S s s0 s1) (sIds_L0_S s s0 zz) := by
  unfold sIds_L0_step
  refine tb_ok (fun h2 => ?_) (fun h2 => ?_)
  ·
    have h2p := of_decide_eq_true h2
    refine tp_ok (fun h3 => ?_)
    refine tp_ok (fun h4 => ?_)
    exact fun e => tl_ok (G := (fun zz => EvStep Try.prog cf 4 (lp Try.prog 24 0) (sIds_L0_S s s0 s1) (sIds_L0_S s s0 zz))) (sIds_L0_s0 s s0 s1 h2 h2p h3 h4) e
  ·
    have h2p := of_decide_eq_false h2
    exact fun e => nomatch e
/-- Function 24, as it answers. -/
noncomputable def sIds (s : Sa) : Option (List Int) :=
 (tc (sCopy (s)) fun s0 =>
  (th (sIds_L0_step s s0) ((([] : List Int), (0 : Int))) fun s1 =>
   (tb ((decide (s1.2 < (↑(List.length s0.points) : Int))))
    none /- stop behind an operation -/
    (some (s1.1)))))
abbrev sIds_G (s : Sa) (r : List Int) : Prop := EvFr Try.prog cf true 24 [Sa.av (s)] (ints (r))
theorem sIds_l0 (s : Sa) (s0 : Sa) (h0 : sCopy (s) = some s0) (s1 : List Int × Int) (h1 : Runs (sIds_L0_step s s0) ((([] : List Int), (0 : Int))) s1) (h2 : ((decide (s1.2 < (↑(List.length s0.points) : Int)))) = false) (h2p : ¬ (s1.2 < (↑(List.length s0.points) : Int))) : sIds_G s (s1.1) :=
  leafR vw_eq (k := 300) (r := []) (hs := hz [(3, [.cells ([(AV.i s.blocks), (AV.i s.gen), (AV.sl (List.length s.map) (List.flatMap Ex.cells s.map)), (AV.sl (List.length s.points) (List.flatMap Po.cells s.points)), (AV.i s.last), (AV.sl (List.length s.staged) (List.map AV.y s.staged))])]), (1, [.fres (Sa.av (s0))]), (4, [.head (sIds_L0_S s s0 s1)]), (1, [.no]), (2, [.yes, .yes])]) (raw := (AV.sl (List.length s1.1) (List.map AV.i s1.1))) kq (ac (Eq.refl ([(AV.i s.blocks), (AV.i s.gen), (AV.sl (List.length s.map) (List.flatMap Ex.cells s.map)), (AV.sl (List.length s.points) (List.flatMap Po.cells s.points)), (AV.i s.last), (AV.sl (List.length s.staged) (List.map AV.y s.staged))] : List AV)) (ac (sCopy_ok (s) _ h0) (ac (show EvHead Try.prog cf (lp Try.prog 24 0) (sIds_L0_I s s0) (sIds_L0_S s s0 s1) from (EvHead.of (sIds_L0_ok s s0) (absB_of [4] [] kq (.consn kq (.agp pq) (.consn kq (.pt rfl) (.consn kq (.nln tq) (.consn kq (.rf rfl) (.consn kq (.eqv tq rfl) (.consn kq (.eqv tq rfl) .nil)))))) (.cons (.old rfl rfl (.cells (.pl rfl (by simp)))) (.cons (.old rfl rfl (.cells (.pl rfl (by simp)))) (.cons (.old rfl rfl (.cells (.pl rfl (by simp)))) (.cons (.old rfl rfl (.cells (.pl rfl pq))) (.cons (.none rfl (Nat.le_refl _) rfl) .nil)))))) h1)) (ac h2 (ac (tq (p := (((0 : Nat) = (0 : Nat)) ∧ ((List.length (List.map AV.i s1.1)) = ((List.length s1.1) * (1 : Nat)))))) (ac (pq (p := Pl Bool.true ((List.map AV.i s1.1)))) an)))))) tq
theorem sIds_ok (s : Sa) (r : List Int) : sIds s = some r → sIds_G s r := by
  unfold sIds
  refine tc_ok (fun s0 h0 => ?_)
  refine th_ok (fun s1 h1 => ?_)
  refine tb_ok (fun h2 => ?_) (fun h2 => ?_)
  ·
    have h2p := of_decide_eq_true h2
    exact fun e => nomatch e
  ·
    have h2p := of_decide_eq_false h2
    exact fun e => tl_ok (G := sIds_G s) (sIds_l0 s s0 h0 s1 h1 h2 h2p) e
noncomputable abbrev r11Point_L0_I (s : Sa) (id : Int) (s0 : Int) : St := (St.mk [((0 : Nat), (AV.ag [(AV.i s.blocks), (AV.i s.gen), (AV.sl (List.length s.map) (List.flatMap Ex.cells s.map)), (AV.sl (List.length s.points) (List.flatMap Po.cells s.points)), (AV.i s.last), (AV.sl (List.length s.staged) (List.map AV.y s.staged))])), ((1 : Nat), (AV.i id)), ((2 : Nat), (AV.pt 0 0)), ((4 : Nat), (AV.pt 1 0)), ((5 : Nat), (AV.i 0)), ((7 : Nat), (AV.ag [(AV.i s.blocks), (AV.i s.gen), (AV.sl (List.length s.map) (List.flatMap Ex.cells s.map)), (AV.sl (List.length s.points) (List.flatMap Po.cells s.points)), (AV.i s.last), (AV.sl (List.length s.staged) (List.map AV.y s.staged))])), ((8 : Nat), (AV.i s0)), ((9 : Nat), (AV.b (s0 != (0 : Int)))), ((6 : Nat), (AV.i 0))] 32 (AH.mk 2 [((1 : Nat), (AObj.cells [(AV.i 0), (AV.i 0), AV.nl])), ((0 : Nat), (AObj.cells [(AV.i s.blocks), (AV.i s.gen), (AV.sl (List.length s.map) (List.flatMap Ex.cells s.map)), (AV.sl (List.length s.points) (List.flatMap Po.cells s.points)), (AV.i s.last), (AV.sl (List.length s.staged) (List.map AV.y s.staged))]))]) Bool.false)
noncomputable abbrev r11Point_L0_S (s : Sa) (id : Int) (s0 : Int) (s2 : Int) : St := (St.mk [((0 : Nat), (AV.ag [(AV.i s.blocks), (AV.i s.gen), (AV.sl (List.length s.map) (List.flatMap Ex.cells s.map)), (AV.sl (List.length s.points) (List.flatMap Po.cells s.points)), (AV.i s.last), (AV.sl (List.length s.staged) (List.map AV.y s.staged))])), ((1 : Nat), (AV.i id)), ((2 : Nat), (AV.pt 0 0)), ((4 : Nat), (AV.pt 1 0)), ((9 : Nat), (AV.b (s0 != (0 : Int)))), ((6 : Nat), (AV.i s2))] 32 (AH.mk 2 [((1 : Nat), (AObj.cells [(AV.i 0), (AV.i 0), AV.nl])), ((0 : Nat), (AObj.cells [(AV.i s.blocks), (AV.i s.gen), (AV.sl (List.length s.map) (List.flatMap Ex.cells s.map)), (AV.sl (List.length s.points) (List.flatMap Po.cells s.points)), (AV.i s.last), (AV.sl (List.length s.staged) (List.map AV.y s.staged))]))]) Bool.false)
noncomputable def r11Point_L0_step (s : Sa) (id : Int) (s0 : Int) (s2 : Int) : Option (Int) :=
 (tb ((decide (s2 < (↑(List.length s.points) : Int))))
  (tp ((((0 : Int) ≤ s2) ∧ (s2 < (↑(List.length s.points) : Int))))
   (tb (((poAt s.points (Int.toNat s2)).id == id))
    none /- exit -/
    (some ((wr (s2 + (1 : Int)))))))
  none /- exit -/)
theorem r11Point_L0_s0 (s : Sa) (id : Int) (s0 : Int) (s2 : Int) (h3 : ((decide (s2 < (↑(List.length s.points) : Int)))) = true) (h3p : (s2 < (↑(List.length s.points) : Int))) (h4 : (((0 : Int) ≤ s2) ∧ (s2 < (↑(List.length s.points) : Int)))) (h5 : (((poAt s.points (Int.toNat s2)).id == id)) = false) (h5p : ¬ ((poAt s.points (Int.toNat s2)).id = id)) : EvStep Try.prog cf 2 (lp Try.prog 16 0) (r11Point_L0_S s id s0 s2) (r11Point_L0_S s id s0 ((wr (s2 + (1 : Int))))) :=
  leafS vw_eq (k := 300) (r := []) (hs := hz [(6, [.yes]), (4, [.yes]), (1, [.yes, .val ((AV.i (poAt s.points (Int.toNat s2)).id))]), (2, [.no]), (3, [])]) (st1 := (St.mk [((0 : Nat), (AV.ag [(AV.i s.blocks), (AV.i s.gen), (AV.sl (List.length s.map) (List.flatMap Ex.cells s.map)), (AV.sl (List.length s.points) (List.flatMap Po.cells s.points)), (AV.i s.last), (AV.sl (List.length s.staged) (List.map AV.y s.staged))])), ((1 : Nat), (AV.i id)), ((2 : Nat), (AV.pt 0 0)), ((4 : Nat), (AV.pt 1 0)), ((9 : Nat), (AV.b (s0 != (0 : Int)))), ((6 : Nat), (AV.i (wr (s2 + (1 : Int))))), ((11 : Nat), (AV.i s2)), ((12 : Nat), (AV.pt 0 3)), ((13 : Nat), (AV.sl (List.length s.points) (List.flatMap Po.cells s.points))), ((14 : Nat), (AV.i (↑(List.length s.points) : Int))), ((15 : Nat), (AV.b (decide (s2 < (↑(List.length s.points) : Int))))), ((18 : Nat), (AV.pt 0 3)), ((19 : Nat), (AV.sl (List.length s.points) (List.flatMap Po.cells s.points))), ((20 : Nat), (AV.i s2)), ((21 : Nat), (AV.ip (List.drop ((Int.toNat s2) * (3 : Nat)) (List.flatMap Po.cells s.points)))), ((22 : Nat), (AV.ip (List.drop ((Int.toNat s2) * (3 : Nat)) (List.flatMap Po.cells s.points)))), ((23 : Nat), (AV.i (poAt s.points (Int.toNat s2)).id)), ((24 : Nat), (AV.i id)), ((25 : Nat), (AV.b ((poAt s.points (Int.toNat s2)).id == id))), ((16 : Nat), (AV.i s2)), ((17 : Nat), (AV.i (wr (s2 + (1 : Int)))))] 32 (AH.mk 2 [((1 : Nat), (AObj.cells [(AV.i 0), (AV.i 0), AV.nl])), ((0 : Nat), (AObj.cells [(AV.i s.blocks), (AV.i s.gen), (AV.sl (List.length s.map) (List.flatMap Ex.cells s.map)), (AV.sl (List.length s.points) (List.flatMap Po.cells s.points)), (AV.i s.last), (AV.sl (List.length s.staged) (List.map AV.y s.staged))]))]) Bool.false)) kq (ac h3 (ac h4 (ac (fq (p := ((1 : Nat) ≤ (List.length (List.drop ((Int.toNat s2) * (3 : Nat)) (List.flatMap Po.cells s.points)))))) (ac (show (List.take 1 (List.drop ((Int.toNat s2) * (3 : Nat)) (List.flatMap Po.cells s.points))) = [(AV.i (poAt s.points (Int.toNat s2)).id)] from (by first | exact po_one0 _ _ _ bq rfl | (simpa using po_one (s.points) ((Int.toNat s2)) 0 _ bq rfl))) (ac h5 an))))) (Nat.le_of_ble_eq_true rfl) (absB_of [] [] kq (.consn kq (.agp pq) (.consn kq (.eqv tq rfl) (.consn kq (.pt rfl) (.consn kq (.pt rfl) (.consn kq (.eqv tq rfl) (.consn kq (.eqv tq rfl) .nil)))))) (.cons (.old rfl rfl (.cells (.cons (.eqv tq rfl) (.cons (.eqv tq rfl) (.cons .nl0 .nil))))) (.cons (.old rfl rfl (.cells (.pl rfl pq))) .nil)))
theorem r11Point_L0_ok (s : Sa) (id : Int) (s0 : Int) (s2 zz : Int) : r11Point_L0_step s id s0 s2 = some zz → EvStep Try.prog cf 2 (lp Try.prog 16 0) (r11Point_L0_S s id s0 s2) (r11Point_L0_S s id s0 zz) := by
  unfold r11Point_L0_step
  refine tb_ok (fun h3 => ?_) (fun h3 => ?_)
  ·
    have h3p := of_decide_eq_true h3
    refine tp_ok (fun h4 => ?_)
    refine tb_ok (fun h5 => ?_) (fun h5 => ?_)
    ·
      have h5p := eq_of_beq h5
      exact fun e => nomatch e
    ·
      have h5p := ne_of_beq_false h5
      exact fun e => tl_ok (G := (fun zz => EvStep Try.prog cf 2 (lp Try.prog 16 0) (r11Point_L0_S s id s0 s2) (r11Point_L0_S s id s0 zz))) (r11Point_L0_s0 s id s0 s2 h3 h3p h4 h5 h5p) e
  ·
    have h3p := of_decide_eq_false h3
    exact fun e => nomatch e
/-- Function 16, as it answers. -/
noncomputable def r11Point (s : Sa) (id : Int) : Option (Po × Int) :=
 (tc (r11Check (s)) fun s0 =>
  (tb ((s0 != (0 : Int)))
   (some (((Po.mk 0 0 ([] : List Ex)), (110 : Int))))
   (th (r11Point_L0_step s id s0) ((0 : Int)) fun s2 =>
    (tb ((decide (s2 < (↑(List.length s.points) : Int))))
     (tp ((((0 : Int) ≤ s2) ∧ (s2 < (↑(List.length s.points) : Int))))
      (tb (((poAt s.points (Int.toNat s2)).id == id))
       (some (((poAt s.points (Int.toNat s2)), (0 : Int))))
       none /- stop behind an operation -/))
     (some (((Po.mk 0 0 ([] : List Ex)), (111 : Int))))))))
abbrev r11Point_G (s : Sa) (id : Int) (r : Po × Int) : Prop := EvFr Try.prog cf false 16 [Sa.av (s), .i (id)] (.tu [Po.av (r.1), .i (r.2)])
theorem r11Point_l0 (s : Sa) (id : Int) (s0 : Int) (h0 : r11Check (s) = some s0) (h1 : ((s0 != (0 : Int))) = true) (h1p : ¬ (s0 = (0 : Int))) : r11Point_G s id (((Po.mk 0 0 ([] : List Ex)), (110 : Int))) :=
  leafR vw_eq (k := 300) (r := []) (hs := hz [(4, [.cells ([(AV.i s.blocks), (AV.i s.gen), (AV.sl (List.length s.map) (List.flatMap Ex.cells s.map)), (AV.sl (List.length s.points) (List.flatMap Po.cells s.points)), (AV.i s.last), (AV.sl (List.length s.staged) (List.map AV.y s.staged))])]), (1, [.fres (.i (s0))]), (1, [.yes]), (2, [.cells ([(AV.i 0), (AV.i 0), AV.nl])]), (2, [.cells ([(AV.i 0), (AV.i 0), AV.nl])])]) (raw := (AV.tu [(AV.ag [(AV.i 0), (AV.i 0), (AV.sl 0 ([] : List AV))]), (AV.i 110)])) kq (ac (Eq.refl ([(AV.i s.blocks), (AV.i s.gen), (AV.sl (List.length s.map) (List.flatMap Ex.cells s.map)), (AV.sl (List.length s.points) (List.flatMap Po.cells s.points)), (AV.i s.last), (AV.sl (List.length s.staged) (List.map AV.y s.staged))] : List AV)) (ac (r11Check_ok (s) _ h0).any0 (ac h1 (ac (Eq.refl ([(AV.i 0), (AV.i 0), AV.nl] : List AV)) (ac (Eq.refl ([(AV.i 0), (AV.i 0), AV.nl] : List AV)) an))))) tq
theorem r11Point_l1 (s : Sa) (id : Int) (s0 : Int) (h0 : r11Check (s) = some s0) (h1 : ((s0 != (0 : Int))) = false) (h1p : (s0 = (0 : Int))) (s2 : Int) (h2 : Runs (r11Point_L0_step s id s0) ((0 : Int)) s2) (h3 : ((decide (s2 < (↑(List.length s.points) : Int)))) = true) (h3p : (s2 < (↑(List.length s.points) : Int))) (h4 : (((0 : Int) ≤ s2) ∧ (s2 < (↑(List.length s.points) : Int)))) (h5 : (((poAt s.points (Int.toNat s2)).id == id)) = true) (h5p : ((poAt s.points (Int.toNat s2)).id = id)) : r11Point_G s id (((poAt s.points (Int.toNat s2)), (0 : Int))) :=
  leafR vw_eq (k := 300) (r := []) (hs := hz [(4, [.cells ([(AV.i s.blocks), (AV.i s.gen), (AV.sl (List.length s.map) (List.flatMap Ex.cells s.map)), (AV.sl (List.length s.points) (List.flatMap Po.cells s.points)), (AV.i s.last), (AV.sl (List.length s.staged) (List.map AV.y s.staged))])]), (1, [.fres (.i (s0))]), (1, [.no]), (1, [.head (r11Point_L0_S s id s0 s2)]), (6, [.yes]), (4, [.yes]), (1, [.yes, .val ((AV.i (poAt s.points (Int.toNat s2)).id))]), (2, [.yes]), (4, [.yes, .yes, .cells ((Po.cells (poAt s.points (Int.toNat s2))))]), (1, [.cells ([(AV.i (poAt s.points (Int.toNat s2)).id), (AV.i (poAt s.points (Int.toNat s2)).gen), (AV.sl (List.length (poAt s.points (Int.toNat s2)).map) (List.flatMap Ex.cells (poAt s.points (Int.toNat s2)).map))])]), (2, [.cells ([(AV.i (poAt s.points (Int.toNat s2)).id), (AV.i (poAt s.points (Int.toNat s2)).gen), (AV.sl (List.length (poAt s.points (Int.toNat s2)).map) (List.flatMap Ex.cells (poAt s.points (Int.toNat s2)).map))])])]) (raw := (AV.tu [(AV.ag [(AV.i (poAt s.points (Int.toNat s2)).id), (AV.i (poAt s.points (Int.toNat s2)).gen), (AV.sl (List.length (poAt s.points (Int.toNat s2)).map) (List.flatMap Ex.cells (poAt s.points (Int.toNat s2)).map))]), (AV.i 0)])) kq (ac (Eq.refl ([(AV.i s.blocks), (AV.i s.gen), (AV.sl (List.length s.map) (List.flatMap Ex.cells s.map)), (AV.sl (List.length s.points) (List.flatMap Po.cells s.points)), (AV.i s.last), (AV.sl (List.length s.staged) (List.map AV.y s.staged))] : List AV)) (ac (r11Check_ok (s) _ h0).any0 (ac h1 (ac (show EvHead Try.prog cf (lp Try.prog 16 0) (r11Point_L0_I s id s0) (r11Point_L0_S s id s0 s2) from (EvHead.of (r11Point_L0_ok s id s0) (absB_of [] [] kq (.consn kq (.agp pq) (.consn kq (.eqv tq rfl) (.consn kq (.pt rfl) (.consn kq (.pt rfl) (.consn kq (.eqv tq rfl) (.consn kq (.eqv tq rfl) .nil)))))) (.cons (.old rfl rfl (.cells (.cons (.eqv tq rfl) (.cons (.eqv tq rfl) (.cons .nl0 .nil))))) (.cons (.old rfl rfl (.cells (.pl rfl pq))) .nil))) h2)) (ac h3 (ac h4 (ac (fq (p := ((1 : Nat) ≤ (List.length (List.drop ((Int.toNat s2) * (3 : Nat)) (List.flatMap Po.cells s.points)))))) (ac (show (List.take 1 (List.drop ((Int.toNat s2) * (3 : Nat)) (List.flatMap Po.cells s.points))) = [(AV.i (poAt s.points (Int.toNat s2)).id)] from (by first | exact po_one0 _ _ _ bq rfl | (simpa using po_one (s.points) ((Int.toNat s2)) 0 _ bq rfl))) (ac h5 (ac h4 (ac (fq (p := ((3 : Nat) ≤ (List.length (List.drop ((Int.toNat s2) * (3 : Nat)) (List.flatMap Po.cells s.points)))))) (ac (show (List.take 3 (List.drop ((Int.toNat s2) * (3 : Nat)) (List.flatMap Po.cells s.points))) = (Po.cells (poAt s.points (Int.toNat s2))) from (po_takeO bq bq)) (ac (Eq.refl ([(AV.i (poAt s.points (Int.toNat s2)).id), (AV.i (poAt s.points (Int.toNat s2)).gen), (AV.sl (List.length (poAt s.points (Int.toNat s2)).map) (List.flatMap Ex.cells (poAt s.points (Int.toNat s2)).map))] : List AV)) (ac (Eq.refl ([(AV.i (poAt s.points (Int.toNat s2)).id), (AV.i (poAt s.points (Int.toNat s2)).gen), (AV.sl (List.length (poAt s.points (Int.toNat s2)).map) (List.flatMap Ex.cells (poAt s.points (Int.toNat s2)).map))] : List AV)) an)))))))))))))) tq
theorem r11Point_l2 (s : Sa) (id : Int) (s0 : Int) (h0 : r11Check (s) = some s0) (h1 : ((s0 != (0 : Int))) = false) (h1p : (s0 = (0 : Int))) (s2 : Int) (h2 : Runs (r11Point_L0_step s id s0) ((0 : Int)) s2) (h3 : ((decide (s2 < (↑(List.length s.points) : Int)))) = false) (h3p : ¬ (s2 < (↑(List.length s.points) : Int))) : r11Point_G s id (((Po.mk 0 0 ([] : List Ex)), (111 : Int))) :=
  leafR vw_eq (k := 300) (r := []) (hs := hz [(4, [.cells ([(AV.i s.blocks), (AV.i s.gen), (AV.sl (List.length s.map) (List.flatMap Ex.cells s.map)), (AV.sl (List.length s.points) (List.flatMap Po.cells s.points)), (AV.i s.last), (AV.sl (List.length s.staged) (List.map AV.y s.staged))])]), (1, [.fres (.i (s0))]), (1, [.no]), (1, [.head (r11Point_L0_S s id s0 s2)]), (6, [.no]), (2, [.cells ([(AV.i 0), (AV.i 0), AV.nl])]), (2, [.cells ([(AV.i 0), (AV.i 0), AV.nl])])]) (raw := (AV.tu [(AV.ag [(AV.i 0), (AV.i 0), (AV.sl 0 ([] : List AV))]), (AV.i 111)])) kq (ac (Eq.refl ([(AV.i s.blocks), (AV.i s.gen), (AV.sl (List.length s.map) (List.flatMap Ex.cells s.map)), (AV.sl (List.length s.points) (List.flatMap Po.cells s.points)), (AV.i s.last), (AV.sl (List.length s.staged) (List.map AV.y s.staged))] : List AV)) (ac (r11Check_ok (s) _ h0).any0 (ac h1 (ac (show EvHead Try.prog cf (lp Try.prog 16 0) (r11Point_L0_I s id s0) (r11Point_L0_S s id s0 s2) from (EvHead.of (r11Point_L0_ok s id s0) (absB_of [] [] kq (.consn kq (.agp pq) (.consn kq (.eqv tq rfl) (.consn kq (.pt rfl) (.consn kq (.pt rfl) (.consn kq (.eqv tq rfl) (.consn kq (.eqv tq rfl) .nil)))))) (.cons (.old rfl rfl (.cells (.cons (.eqv tq rfl) (.cons (.eqv tq rfl) (.cons .nl0 .nil))))) (.cons (.old rfl rfl (.cells (.pl rfl pq))) .nil))) h2)) (ac h3 (ac (Eq.refl ([(AV.i 0), (AV.i 0), AV.nl] : List AV)) (ac (Eq.refl ([(AV.i 0), (AV.i 0), AV.nl] : List AV)) an))))))) tq
theorem r11Point_ok (s : Sa) (id : Int) (r : Po × Int) : r11Point s id = some r → r11Point_G s id r := by
  unfold r11Point
  refine tc_ok (fun s0 h0 => ?_)
  refine tb_ok (fun h1 => ?_) (fun h1 => ?_)
  ·
    have h1p := bne_iff_ne.1 h1
    exact fun e => tl_ok (G := r11Point_G s id) (r11Point_l0 s id s0 h0 h1 h1p) e
  ·
    have h1p := bne_eq_false_iff_eq.1 h1
    refine th_ok (fun s2 h2 => ?_)
    refine tb_ok (fun h3 => ?_) (fun h3 => ?_)
    ·
      have h3p := of_decide_eq_true h3
      refine tp_ok (fun h4 => ?_)
      refine tb_ok (fun h5 => ?_) (fun h5 => ?_)
      ·
        have h5p := eq_of_beq h5
        exact fun e => tl_ok (G := r11Point_G s id) (r11Point_l1 s id s0 h0 h1 h1p s2 h2 h3 h3p h4 h5 h5p) e
      ·
        have h5p := ne_of_beq_false h5
        exact fun e => nomatch e
    ·
      have h3p := of_decide_eq_false h3
      exact fun e => tl_ok (G := r11Point_G s id) (r11Point_l2 s id s0 h0 h1 h1p s2 h2 h3 h3p) e
noncomputable abbrev r11Ids_L0_I (s : Sa) (s0 : Int) : St := (St.mk [((0 : Nat), (AV.ag [(AV.i s.blocks), (AV.i s.gen), (AV.sl (List.length s.map) (List.flatMap Ex.cells s.map)), (AV.sl (List.length s.points) (List.flatMap Po.cells s.points)), (AV.i s.last), (AV.sl (List.length s.staged) (List.map AV.y s.staged))])), ((1 : Nat), (AV.pt 0 0)), ((2 : Nat), AV.nl), ((3 : Nat), AV.nl), ((5 : Nat), (AV.ag [(AV.i s.blocks), (AV.i s.gen), (AV.sl (List.length s.map) (List.flatMap Ex.cells s.map)), (AV.sl (List.length s.points) (List.flatMap Po.cells s.points)), (AV.i s.last), (AV.sl (List.length s.staged) (List.map AV.y s.staged))])), ((6 : Nat), (AV.i s0)), ((7 : Nat), (AV.b (s0 != (0 : Int)))), ((4 : Nat), (AV.i 0))] 26 (AH.mk 1 [((0 : Nat), (AObj.cells [(AV.i s.blocks), (AV.i s.gen), (AV.sl (List.length s.map) (List.flatMap Ex.cells s.map)), (AV.sl (List.length s.points) (List.flatMap Po.cells s.points)), (AV.i s.last), (AV.sl (List.length s.staged) (List.map AV.y s.staged))]))]) Bool.false)
noncomputable abbrev r11Ids_L0_S (s : Sa) (s0 : Int) (s2 : List Int × Int) : St := (St.mk [((0 : Nat), (AV.ag [(AV.i s.blocks), (AV.i s.gen), (AV.sl (List.length s.map) (List.flatMap Ex.cells s.map)), (AV.sl (List.length s.points) (List.flatMap Po.cells s.points)), (AV.i s.last), (AV.sl (List.length s.staged) (List.map AV.y s.staged))])), ((1 : Nat), (AV.pt 0 0)), ((2 : Nat), AV.nl), ((3 : Nat), (AV.rf 1 1 0 (List.length s2.1))), ((7 : Nat), (AV.b (s0 != (0 : Int)))), ((4 : Nat), (AV.i s2.2))] 26 (AH.mk 2 [((0 : Nat), (AObj.cells [(AV.i s.blocks), (AV.i s.gen), (AV.sl (List.length s.map) (List.flatMap Ex.cells s.map)), (AV.sl (List.length s.points) (List.flatMap Po.cells s.points)), (AV.i s.last), (AV.sl (List.length s.staged) (List.map AV.y s.staged))])), ((1 : Nat), (AObj.cells (List.map AV.i s2.1)))]) Bool.false)
noncomputable def r11Ids_L0_step (s : Sa) (s0 : Int) (s2 : List Int × Int) : Option (List Int × Int) :=
 (tb ((decide (s2.2 < (↑(List.length s.points) : Int))))
  (tp ((((0 : Int) ≤ s2.2) ∧ (s2.2 < (↑(List.length s.points) : Int))))
   (tp ((((List.length (List.map AV.i s2.1)) = ((List.length s2.1) * (1 : Nat))) ∧ (((List.length s2.1) + (1 : Nat)) ≤ (4294967296 : Nat))))
    (some (((s2.1 ++ [(poAt s.points (Int.toNat s2.2)).id]), (wr (s2.2 + (1 : Int))))))))
  none /- exit -/)
theorem r11Ids_L0_s0 (s : Sa) (s0 : Int) (s2 : List Int × Int) (h3 : ((decide (s2.2 < (↑(List.length s.points) : Int)))) = true) (h3p : (s2.2 < (↑(List.length s.points) : Int))) (h4 : (((0 : Int) ≤ s2.2) ∧ (s2.2 < (↑(List.length s.points) : Int)))) (h5 : (((List.length (List.map AV.i s2.1)) = ((List.length s2.1) * (1 : Nat))) ∧ (((List.length s2.1) + (1 : Nat)) ≤ (4294967296 : Nat)))) : EvStep Try.prog cf 1 (lp Try.prog 25 0) (r11Ids_L0_S s s0 s2) (r11Ids_L0_S s s0 (((s2.1 ++ [(poAt s.points (Int.toNat s2.2)).id]), (wr (s2.2 + (1 : Int)))))) :=
  leafS vw_eq (k := 300) (r := []) (hs := hz [(6, [.yes]), (5, [.yes]), (1, [.yes, .val ((AV.i (poAt s.points (Int.toNat s2.2)).id))]), (1, [.yes, .yes]), (4, [])]) (st1 := (St.mk [((0 : Nat), (AV.ag [(AV.i s.blocks), (AV.i s.gen), (AV.sl (List.length s.map) (List.flatMap Ex.cells s.map)), (AV.sl (List.length s.points) (List.flatMap Po.cells s.points)), (AV.i s.last), (AV.sl (List.length s.staged) (List.map AV.y s.staged))])), ((1 : Nat), (AV.pt 0 0)), ((2 : Nat), AV.nl), ((3 : Nat), (AV.rf 3 1 0 ((List.length s2.1) + (1 : Nat)))), ((7 : Nat), (AV.b (s0 != (0 : Int)))), ((4 : Nat), (AV.i (wr (s2.2 + (1 : Int))))), ((9 : Nat), (AV.i s2.2)), ((10 : Nat), (AV.pt 0 3)), ((11 : Nat), (AV.sl (List.length s.points) (List.flatMap Po.cells s.points))), ((12 : Nat), (AV.i (↑(List.length s.points) : Int))), ((13 : Nat), (AV.b (decide (s2.2 < (↑(List.length s.points) : Int))))), ((16 : Nat), (AV.rf 1 1 0 (List.length s2.1))), ((17 : Nat), (AV.pt 0 3)), ((18 : Nat), (AV.sl (List.length s.points) (List.flatMap Po.cells s.points))), ((19 : Nat), (AV.i s2.2)), ((20 : Nat), (AV.ip (List.drop ((Int.toNat s2.2) * (3 : Nat)) (List.flatMap Po.cells s.points)))), ((21 : Nat), (AV.ip (List.drop ((Int.toNat s2.2) * (3 : Nat)) (List.flatMap Po.cells s.points)))), ((22 : Nat), (AV.i (poAt s.points (Int.toNat s2.2)).id)), ((23 : Nat), (AV.rf 2 1 0 1)), ((24 : Nat), (AV.rf 3 1 0 ((List.length s2.1) + (1 : Nat)))), ((14 : Nat), (AV.i s2.2)), ((15 : Nat), (AV.i (wr (s2.2 + (1 : Int)))))] 26 (AH.mk 4 [((3 : Nat), (AObj.cells ((List.map AV.i s2.1) ++ [(AV.i (poAt s.points (Int.toNat s2.2)).id)]))), ((2 : Nat), (AObj.cells [(AV.i (poAt s.points (Int.toNat s2.2)).id)])), ((0 : Nat), (AObj.cells [(AV.i s.blocks), (AV.i s.gen), (AV.sl (List.length s.map) (List.flatMap Ex.cells s.map)), (AV.sl (List.length s.points) (List.flatMap Po.cells s.points)), (AV.i s.last), (AV.sl (List.length s.staged) (List.map AV.y s.staged))])), ((1 : Nat), AObj.dead)]) Bool.false)) kq (ac h3 (ac h4 (ac (fq (p := ((1 : Nat) ≤ (List.length (List.drop ((Int.toNat s2.2) * (3 : Nat)) (List.flatMap Po.cells s.points)))))) (ac (show (List.take 1 (List.drop ((Int.toNat s2.2) * (3 : Nat)) (List.flatMap Po.cells s.points))) = [(AV.i (poAt s.points (Int.toNat s2.2)).id)] from (by first | exact po_one0 _ _ _ bq rfl | (simpa using po_one (s.points) ((Int.toNat s2.2)) 0 _ bq rfl))) (ac (tq (p := (((0 : Nat) = (0 : Nat)) ∧ ((List.length [(AV.i (poAt s.points (Int.toNat s2.2)).id)]) = (1 : Nat))))) (ac h5 an)))))) (Nat.le_of_ble_eq_true rfl) (absB_of [3] [] kq (.consn kq (.agp pq) (.consn kq (.pt rfl) (.consn kq .nl0 (.consn kq (.rfn (n := ((List.length s2.1) + (1 : Nat))) rfl tq) (.consn kq (.eqv tq rfl) (.consn kq (.eqv tq rfl) .nil)))))) (.cons (.old rfl rfl (.cells (.pl rfl pq))) (.cons (.old rfl rfl (.cells (.pl tq pq))) .nil)))
theorem r11Ids_L0_ok (s : Sa) (s0 : Int) (s2 zz : List Int × Int) : r11Ids_L0_step s s0 s2 = some zz → EvStep Try.prog cf 1 (lp Try.prog 25 0) (r11Ids_L0_S s s0 s2) (r11Ids_L0_S s s0 zz) := by
  unfold r11Ids_L0_step
  refine tb_ok (fun h3 => ?_) (fun h3 => ?_)
  ·
    have h3p := of_decide_eq_true h3
    refine tp_ok (fun h4 => ?_)
    refine tp_ok (fun h5 => ?_)
    exact fun e => tl_ok (G := (fun zz => EvStep Try.prog cf 1 (lp Try.prog 25 0) (r11Ids_L0_S s s0 s2) (r11Ids_L0_S s s0 zz))) (r11Ids_L0_s0 s s0 s2 h3 h3p h4 h5) e
  ·
    have h3p := of_decide_eq_false h3
    exact fun e => nomatch e
/-- Function 25, as it answers. -/
noncomputable def r11Ids (s : Sa) : Option (List Int) :=
 (tc (r11Check (s)) fun s0 =>
  (tb ((s0 != (0 : Int)))
   (some (([] : List Int)))
   (th (r11Ids_L0_step s s0) ((([] : List Int), (0 : Int))) fun s2 =>
    (tb ((decide (s2.2 < (↑(List.length s.points) : Int))))
     none /- stop behind an operation -/
     (some (s2.1))))))
abbrev r11Ids_G (s : Sa) (r : List Int) : Prop := EvFr Try.prog cf true 25 [Sa.av (s)] (ints (r))
theorem r11Ids_l0 (s : Sa) (s0 : Int) (h0 : r11Check (s) = some s0) (h1 : ((s0 != (0 : Int))) = true) (h1p : ¬ (s0 = (0 : Int))) : r11Ids_G s (([] : List Int)) :=
  leafR vw_eq (k := 300) (r := []) (hs := hz [(4, [.cells ([(AV.i s.blocks), (AV.i s.gen), (AV.sl (List.length s.map) (List.flatMap Ex.cells s.map)), (AV.sl (List.length s.points) (List.flatMap Po.cells s.points)), (AV.i s.last), (AV.sl (List.length s.staged) (List.map AV.y s.staged))])]), (1, [.fres (.i (s0))]), (1, [.yes]), (2, [])]) (raw := (AV.sl 0 ([] : List AV))) kq (ac (Eq.refl ([(AV.i s.blocks), (AV.i s.gen), (AV.sl (List.length s.map) (List.flatMap Ex.cells s.map)), (AV.sl (List.length s.points) (List.flatMap Po.cells s.points)), (AV.i s.last), (AV.sl (List.length s.staged) (List.map AV.y s.staged))] : List AV)) (ac (r11Check_ok (s) _ h0).any0 (ac h1 an))) tq
theorem r11Ids_l1 (s : Sa) (s0 : Int) (h0 : r11Check (s) = some s0) (h1 : ((s0 != (0 : Int))) = false) (h1p : (s0 = (0 : Int))) (s2 : List Int × Int) (h2 : Runs (r11Ids_L0_step s s0) ((([] : List Int), (0 : Int))) s2) (h3 : ((decide (s2.2 < (↑(List.length s.points) : Int)))) = false) (h3p : ¬ (s2.2 < (↑(List.length s.points) : Int))) : r11Ids_G s (s2.1) :=
  leafR vw_eq (k := 300) (r := []) (hs := hz [(4, [.cells ([(AV.i s.blocks), (AV.i s.gen), (AV.sl (List.length s.map) (List.flatMap Ex.cells s.map)), (AV.sl (List.length s.points) (List.flatMap Po.cells s.points)), (AV.i s.last), (AV.sl (List.length s.staged) (List.map AV.y s.staged))])]), (1, [.fres (.i (s0))]), (1, [.no]), (1, [.head (r11Ids_L0_S s s0 s2)]), (6, [.no]), (2, [.yes, .yes])]) (raw := (AV.sl (List.length s2.1) (List.map AV.i s2.1))) kq (ac (Eq.refl ([(AV.i s.blocks), (AV.i s.gen), (AV.sl (List.length s.map) (List.flatMap Ex.cells s.map)), (AV.sl (List.length s.points) (List.flatMap Po.cells s.points)), (AV.i s.last), (AV.sl (List.length s.staged) (List.map AV.y s.staged))] : List AV)) (ac (r11Check_ok (s) _ h0).any0 (ac h1 (ac (show EvHead Try.prog cf (lp Try.prog 25 0) (r11Ids_L0_I s s0) (r11Ids_L0_S s s0 s2) from (EvHead.of (r11Ids_L0_ok s s0) (absB_of [1] [] kq (.consn kq (.agp pq) (.consn kq (.pt rfl) (.consn kq .nl0 (.consn kq (.nln tq) (.consn kq (.eqv tq rfl) (.consn kq (.eqv tq rfl) .nil)))))) (.cons (.old rfl rfl (.cells (.pl rfl pq))) (.cons (.none rfl (Nat.le_refl _) rfl) .nil))) h2)) (ac h3 (ac (tq (p := (((0 : Nat) = (0 : Nat)) ∧ ((List.length (List.map AV.i s2.1)) = ((List.length s2.1) * (1 : Nat)))))) (ac (pq (p := Pl Bool.true ((List.map AV.i s2.1)))) an))))))) tq
theorem r11Ids_ok (s : Sa) (r : List Int) : r11Ids s = some r → r11Ids_G s r := by
  unfold r11Ids
  refine tc_ok (fun s0 h0 => ?_)
  refine tb_ok (fun h1 => ?_) (fun h1 => ?_)
  ·
    have h1p := bne_iff_ne.1 h1
    exact fun e => tl_ok (G := r11Ids_G s) (r11Ids_l0 s s0 h0 h1 h1p) e
  ·
    have h1p := bne_eq_false_iff_eq.1 h1
    refine th_ok (fun s2 h2 => ?_)
    refine tb_ok (fun h3 => ?_) (fun h3 => ?_)
    ·
      have h3p := of_decide_eq_true h3
      exact fun e => nomatch e
    ·
      have h3p := of_decide_eq_false h3
      exact fun e => tl_ok (G := r11Ids_G s) (r11Ids_l1 s s0 h0 h1 h1p s2 h2 h3 h3p) e
/-- Function 20, as it answers. -/
noncomputable def r11Points (a : Po) (b : Po) : Option (Bool) :=
 (tc (r7All (a.map) (b.map)) fun s0 =>
  (tb ((a.id == b.id))
   (tb ((a.gen == b.gen))
    (some (s0))
    (some (Bool.false)))
   (some (Bool.false))))
abbrev r11Points_G (a : Po) (b : Po) (r : Bool) : Prop := EvFr Try.prog cf true 20 [Po.av (a), Po.av (b)] (.b (r))
theorem r11Points_l0 (a : Po) (b : Po) (s0 : Bool) (h0 : r7All (a.map) (b.map) = some s0) (h1 : ((a.id == b.id)) = true) (h1p : (a.id = b.id)) (h2 : ((a.gen == b.gen)) = true) (h2p : (a.gen = b.gen)) : r11Points_G a b (s0) :=
  leafR vw_eq (k := 300) (r := []) (hs := hz [(10, [.fres (.b (s0))]), (9, [.yes]), (1, [.yes]), (2, [.yes]), (1, [.yes]), (2, [.yes]), (1, [.yes]), (1, [.yes]), (1, [.yes]), (1, [])]) (raw := (AV.b s0)) kq (ac (r7All_ok (a.map) (b.map) _ h0).any0 (ac h1 (ac h1 (ac h1 (ac h1 (ac h1 (ac h1 (ac h2 (ac h2 an))))))))) tq
theorem r11Points_l1 (a : Po) (b : Po) (s0 : Bool) (h0 : r7All (a.map) (b.map) = some s0) (h1 : ((a.id == b.id)) = true) (h1p : (a.id = b.id)) (h2 : ((a.gen == b.gen)) = false) (h2p : ¬ (a.gen = b.gen)) : r11Points_G a b (Bool.false) :=
  leafR vw_eq (k := 300) (r := []) (hs := hz [(10, [.fres (.b (s0))]), (9, [.yes]), (1, [.yes]), (2, [.yes]), (1, [.yes]), (2, [.yes]), (1, [.yes]), (1, [.no, .no]), (1, [])]) (raw := (AV.b Bool.false)) kq (ac (r7All_ok (a.map) (b.map) _ h0).any0 (ac h1 (ac h1 (ac h1 (ac h1 (ac h1 (ac h1 (ac h2 (ac h2 an))))))))) tq
theorem r11Points_l2 (a : Po) (b : Po) (s0 : Bool) (h0 : r7All (a.map) (b.map) = some s0) (h1 : ((a.id == b.id)) = false) (h1p : ¬ (a.id = b.id)) : r11Points_G a b (Bool.false) :=
  leafR vw_eq (k := 300) (r := []) (hs := hz [(10, [.fres (.b (s0))]), (9, [.no, .no, .no, .no, .no, .no]), (4, [])]) (raw := (AV.b Bool.false)) kq (ac (r7All_ok (a.map) (b.map) _ h0).any0 (ac h1 (ac h1 (ac h1 (ac h1 (ac h1 (ac h1 an))))))) tq
theorem r11Points_ok (a : Po) (b : Po) (r : Bool) : r11Points a b = some r → r11Points_G a b r := by
  unfold r11Points
  refine tc_ok (fun s0 h0 => ?_)
  refine tb_ok (fun h1 => ?_) (fun h1 => ?_)
  ·
    have h1p := eq_of_beq h1
    refine tb_ok (fun h2 => ?_) (fun h2 => ?_)
    ·
      have h2p := eq_of_beq h2
      exact fun e => tl_ok (G := r11Points_G a b) (r11Points_l0 a b s0 h0 h1 h1p h2 h2p) e
    ·
      have h2p := ne_of_beq_false h2
      exact fun e => tl_ok (G := r11Points_G a b) (r11Points_l1 a b s0 h0 h1 h1p h2 h2p) e
  ·
    have h1p := ne_of_beq_false h1
    exact fun e => tl_ok (G := r11Points_G a b) (r11Points_l2 a b s0 h0 h1 h1p) e
noncomputable abbrev r11Same_L0_I (a : Sa) (b : Sa) (s0 : Bool) : St := (St.mk [((0 : Nat), (AV.ag [(AV.i a.blocks), (AV.i a.gen), (AV.sl (List.length a.map) (List.flatMap Ex.cells a.map)), (AV.sl (List.length a.points) (List.flatMap Po.cells a.points)), (AV.i a.last), (AV.sl (List.length a.staged) (List.map AV.y a.staged))])), ((1 : Nat), (AV.ag [(AV.i b.blocks), (AV.i b.gen), (AV.sl (List.length b.map) (List.flatMap Ex.cells b.map)), (AV.sl (List.length b.points) (List.flatMap Po.cells b.points)), (AV.i b.last), (AV.sl (List.length b.staged) (List.map AV.y b.staged))])), ((2 : Nat), (AV.pt 0 0)), ((3 : Nat), (AV.pt 1 0)), ((4 : Nat), (AV.b Bool.false)), ((8 : Nat), (AV.pt 0 2)), ((9 : Nat), (AV.sl (List.length a.map) (List.flatMap Ex.cells a.map))), ((10 : Nat), (AV.pt 1 2)), ((11 : Nat), (AV.sl (List.length b.map) (List.flatMap Ex.cells b.map))), ((12 : Nat), (AV.b s0)), ((5 : Nat), (AV.b s0)), ((13 : Nat), (AV.b s0)), ((14 : Nat), (AV.b (!s0))), ((15 : Nat), (AV.b (!s0))), ((16 : Nat), (AV.pt 0 0)), ((17 : Nat), (AV.i a.blocks)), ((18 : Nat), (AV.pt 1 0)), ((19 : Nat), (AV.i b.blocks)), ((20 : Nat), (AV.b (a.blocks != b.blocks))), ((21 : Nat), (AV.b (a.blocks != b.blocks))), ((22 : Nat), (AV.b (a.blocks != b.blocks))), ((23 : Nat), (AV.pt 0 1)), ((24 : Nat), (AV.i a.gen)), ((25 : Nat), (AV.pt 1 1)), ((26 : Nat), (AV.i b.gen)), ((27 : Nat), (AV.b (a.gen != b.gen))), ((28 : Nat), (AV.b (a.gen != b.gen))), ((29 : Nat), (AV.b (a.gen != b.gen))), ((30 : Nat), (AV.pt 0 4)), ((31 : Nat), (AV.i a.last)), ((32 : Nat), (AV.pt 1 4)), ((33 : Nat), (AV.i b.last)), ((34 : Nat), (AV.b (a.last != b.last))), ((35 : Nat), (AV.b (a.last != b.last))), ((36 : Nat), (AV.b (a.last != b.last))), ((37 : Nat), (AV.pt 0 5)), ((38 : Nat), (AV.sl (List.length a.staged) (List.map AV.y a.staged))), ((39 : Nat), (AV.st a.staged)), ((40 : Nat), (AV.pt 1 5)), ((41 : Nat), (AV.sl (List.length b.staged) (List.map AV.y b.staged))), ((42 : Nat), (AV.st b.staged)), ((43 : Nat), (AV.b (!(a.staged == b.staged)))), ((44 : Nat), (AV.b (!(a.staged == b.staged)))), ((45 : Nat), (AV.b (!(a.staged == b.staged)))), ((46 : Nat), (AV.pt 0 3)), ((47 : Nat), (AV.sl (List.length a.points) (List.flatMap Po.cells a.points))), ((48 : Nat), (AV.i (↑(List.length a.points) : Int))), ((49 : Nat), (AV.pt 1 3)), ((50 : Nat), (AV.sl (List.length b.points) (List.flatMap Po.cells b.points))), ((51 : Nat), (AV.i (↑(List.length b.points) : Int))), ((52 : Nat), (AV.b ((↑(List.length a.points) : Int) != (↑(List.length b.points) : Int)))), ((53 : Nat), (AV.b ((↑(List.length a.points) : Int) != (↑(List.length b.points) : Int)))), ((6 : Nat), (AV.i 0))] 74 (AH.mk 2 [((1 : Nat), (AObj.cells [(AV.i b.blocks), (AV.i b.gen), (AV.sl (List.length b.map) (List.flatMap Ex.cells b.map)), (AV.sl (List.length b.points) (List.flatMap Po.cells b.points)), (AV.i b.last), (AV.sl (List.length b.staged) (List.map AV.y b.staged))])), ((0 : Nat), (AObj.cells [(AV.i a.blocks), (AV.i a.gen), (AV.sl (List.length a.map) (List.flatMap Ex.cells a.map)), (AV.sl (List.length a.points) (List.flatMap Po.cells a.points)), (AV.i a.last), (AV.sl (List.length a.staged) (List.map AV.y a.staged))]))]) Bool.false)
noncomputable abbrev r11Same_L0_S (a : Sa) (b : Sa) (s0 : Bool) (s7 : Int) : St := (St.mk [((0 : Nat), (AV.ag [(AV.i a.blocks), (AV.i a.gen), (AV.sl (List.length a.map) (List.flatMap Ex.cells a.map)), (AV.sl (List.length a.points) (List.flatMap Po.cells a.points)), (AV.i a.last), (AV.sl (List.length a.staged) (List.map AV.y a.staged))])), ((1 : Nat), (AV.ag [(AV.i b.blocks), (AV.i b.gen), (AV.sl (List.length b.map) (List.flatMap Ex.cells b.map)), (AV.sl (List.length b.points) (List.flatMap Po.cells b.points)), (AV.i b.last), (AV.sl (List.length b.staged) (List.map AV.y b.staged))])), ((2 : Nat), (AV.pt 0 0)), ((3 : Nat), (AV.pt 1 0)), ((5 : Nat), (AV.b s0)), ((53 : Nat), (AV.b ((↑(List.length a.points) : Int) != (↑(List.length b.points) : Int)))), ((6 : Nat), (AV.i s7))] 74 (AH.mk 2 [((1 : Nat), (AObj.cells [(AV.i b.blocks), (AV.i b.gen), (AV.sl (List.length b.map) (List.flatMap Ex.cells b.map)), (AV.sl (List.length b.points) (List.flatMap Po.cells b.points)), (AV.i b.last), (AV.sl (List.length b.staged) (List.map AV.y b.staged))])), ((0 : Nat), (AObj.cells [(AV.i a.blocks), (AV.i a.gen), (AV.sl (List.length a.map) (List.flatMap Ex.cells a.map)), (AV.sl (List.length a.points) (List.flatMap Po.cells a.points)), (AV.i a.last), (AV.sl (List.length a.staged) (List.map AV.y a.staged))]))]) Bool.false)
noncomputable def r11Same_L0_step (a : Sa) (b : Sa) (s0 : Bool) (s7 : Int) : Option (Int) :=
 (tb ((decide (s7 < (↑(List.length a.points) : Int))))
  (tp ((((0 : Int) ≤ s7) ∧ (s7 < (↑(List.length a.points) : Int))))
   (tp ((((0 : Int) ≤ s7) ∧ (s7 < (↑(List.length b.points) : Int))))
    (tc (r11Points ((poAt a.points (Int.toNat s7))) ((poAt b.points (Int.toNat s7)))) fun s11 =>
     (tb ((!s11))
      none /- exit -/
      (some ((wr (s7 + (1 : Int)))))))))
  none /- exit -/)
theorem r11Same_L0_s0 (a : Sa) (b : Sa) (s0 : Bool) (s7 : Int) (h8 : ((decide (s7 < (↑(List.length a.points) : Int)))) = true) (h8p : (s7 < (↑(List.length a.points) : Int))) (h9 : (((0 : Int) ≤ s7) ∧ (s7 < (↑(List.length a.points) : Int)))) (h10 : (((0 : Int) ≤ s7) ∧ (s7 < (↑(List.length b.points) : Int)))) (s11 : Bool) (h11 : r11Points ((poAt a.points (Int.toNat s7))) ((poAt b.points (Int.toNat s7))) = some s11) (h12 : ((!s11)) = false) : EvStep Try.prog cf 2 (lp Try.prog 17 0) (r11Same_L0_S a b s0 s7) (r11Same_L0_S a b s0 ((wr (s7 + (1 : Int))))) :=
  leafS vw_eq (k := 300) (r := []) (hs := hz [(6, [.yes]), (4, [.yes, .yes, .cells ((Po.cells (poAt a.points (Int.toNat s7))))]), (4, [.yes, .yes, .cells ((Po.cells (poAt b.points (Int.toNat s7))))]), (1, [.fres (.b (s11))]), (1, [.yes]), (2, [.no]), (3, [])]) (st1 := (St.mk [((0 : Nat), (AV.ag [(AV.i a.blocks), (AV.i a.gen), (AV.sl (List.length a.map) (List.flatMap Ex.cells a.map)), (AV.sl (List.length a.points) (List.flatMap Po.cells a.points)), (AV.i a.last), (AV.sl (List.length a.staged) (List.map AV.y a.staged))])), ((1 : Nat), (AV.ag [(AV.i b.blocks), (AV.i b.gen), (AV.sl (List.length b.map) (List.flatMap Ex.cells b.map)), (AV.sl (List.length b.points) (List.flatMap Po.cells b.points)), (AV.i b.last), (AV.sl (List.length b.staged) (List.map AV.y b.staged))])), ((2 : Nat), (AV.pt 0 0)), ((3 : Nat), (AV.pt 1 0)), ((5 : Nat), (AV.b s0)), ((53 : Nat), (AV.b ((↑(List.length a.points) : Int) != (↑(List.length b.points) : Int)))), ((6 : Nat), (AV.i (wr (s7 + (1 : Int))))), ((54 : Nat), (AV.i s7)), ((55 : Nat), (AV.pt 0 3)), ((56 : Nat), (AV.sl (List.length a.points) (List.flatMap Po.cells a.points))), ((57 : Nat), (AV.i (↑(List.length a.points) : Int))), ((58 : Nat), (AV.b (decide (s7 < (↑(List.length a.points) : Int))))), ((61 : Nat), (AV.pt 0 3)), ((62 : Nat), (AV.sl (List.length a.points) (List.flatMap Po.cells a.points))), ((63 : Nat), (AV.i s7)), ((64 : Nat), (AV.ip (List.drop ((Int.toNat s7) * (3 : Nat)) (List.flatMap Po.cells a.points)))), ((65 : Nat), (AV.ag [(AV.i (poAt a.points (Int.toNat s7)).id), (AV.i (poAt a.points (Int.toNat s7)).gen), (AV.sl (List.length (poAt a.points (Int.toNat s7)).map) (List.flatMap Ex.cells (poAt a.points (Int.toNat s7)).map))])), ((66 : Nat), (AV.pt 1 3)), ((67 : Nat), (AV.sl (List.length b.points) (List.flatMap Po.cells b.points))), ((68 : Nat), (AV.i s7)), ((69 : Nat), (AV.ip (List.drop ((Int.toNat s7) * (3 : Nat)) (List.flatMap Po.cells b.points)))), ((70 : Nat), (AV.ag [(AV.i (poAt b.points (Int.toNat s7)).id), (AV.i (poAt b.points (Int.toNat s7)).gen), (AV.sl (List.length (poAt b.points (Int.toNat s7)).map) (List.flatMap Ex.cells (poAt b.points (Int.toNat s7)).map))])), ((71 : Nat), (AV.b s11)), ((7 : Nat), (AV.b s11)), ((72 : Nat), (AV.b s11)), ((73 : Nat), (AV.b (!s11))), ((59 : Nat), (AV.i s7)), ((60 : Nat), (AV.i (wr (s7 + (1 : Int)))))] 74 (AH.mk 2 [((1 : Nat), (AObj.cells [(AV.i b.blocks), (AV.i b.gen), (AV.sl (List.length b.map) (List.flatMap Ex.cells b.map)), (AV.sl (List.length b.points) (List.flatMap Po.cells b.points)), (AV.i b.last), (AV.sl (List.length b.staged) (List.map AV.y b.staged))])), ((0 : Nat), (AObj.cells [(AV.i a.blocks), (AV.i a.gen), (AV.sl (List.length a.map) (List.flatMap Ex.cells a.map)), (AV.sl (List.length a.points) (List.flatMap Po.cells a.points)), (AV.i a.last), (AV.sl (List.length a.staged) (List.map AV.y a.staged))]))]) Bool.false)) kq (ac h8 (ac h9 (ac (fq (p := ((3 : Nat) ≤ (List.length (List.drop ((Int.toNat s7) * (3 : Nat)) (List.flatMap Po.cells a.points)))))) (ac (show (List.take 3 (List.drop ((Int.toNat s7) * (3 : Nat)) (List.flatMap Po.cells a.points))) = (Po.cells (poAt a.points (Int.toNat s7))) from (po_takeO bq bq)) (ac h10 (ac (fq (p := ((3 : Nat) ≤ (List.length (List.drop ((Int.toNat s7) * (3 : Nat)) (List.flatMap Po.cells b.points)))))) (ac (show (List.take 3 (List.drop ((Int.toNat s7) * (3 : Nat)) (List.flatMap Po.cells b.points))) = (Po.cells (poAt b.points (Int.toNat s7))) from (po_takeO bq bq)) (ac (r11Points_ok ((poAt a.points (Int.toNat s7))) ((poAt b.points (Int.toNat s7))) _ h11).any0 (ac (show orderOk (rg Try.prog 17 0) = true ∧ allOk (Region.before (rg Try.prog 17 0)) [] 0 [(some [], some []), (some [0], some []), (some [], some []), (some [], some []), (some [], some []), (some [], some []), (some [1], some []), (some [], some []), (some [], some []), (some [], some []), (some [], some []), (some [], some [])] = true from (ord_of ord_17_0 bef_17_0 kq)) (ac h12 an)))))))))) (Nat.le_of_ble_eq_true rfl) (absB_of [] [] kq (.consn kq (.agp pq) (.consn kq (.agp pq) (.consn kq (.pt rfl) (.consn kq (.pt rfl) (.consn kq (.eqv tq rfl) (.consn kq (.eqv tq rfl) (.consn kq (.eqv tq rfl) .nil))))))) (.cons (.old rfl rfl (.cells (.pl rfl pq))) (.cons (.old rfl rfl (.cells (.pl rfl pq))) .nil)))
theorem r11Same_L0_ok (a : Sa) (b : Sa) (s0 : Bool) (s7 zz : Int) : r11Same_L0_step a b s0 s7 = some zz → EvStep Try.prog cf 2 (lp Try.prog 17 0) (r11Same_L0_S a b s0 s7) (r11Same_L0_S a b s0 zz) := by
  unfold r11Same_L0_step
  refine tb_ok (fun h8 => ?_) (fun h8 => ?_)
  ·
    have h8p := of_decide_eq_true h8
    refine tp_ok (fun h9 => ?_)
    refine tp_ok (fun h10 => ?_)
    refine tc_ok (fun s11 h11 => ?_)
    refine tb_ok (fun h12 => ?_) (fun h12 => ?_)
    ·
      exact fun e => nomatch e
    ·
      exact fun e => tl_ok (G := (fun zz => EvStep Try.prog cf 2 (lp Try.prog 17 0) (r11Same_L0_S a b s0 s7) (r11Same_L0_S a b s0 zz))) (r11Same_L0_s0 a b s0 s7 h8 h8p h9 h10 s11 h11 h12) e
  ·
    have h8p := of_decide_eq_false h8
    exact fun e => nomatch e
/-- Function 17, as it answers. -/
noncomputable def r11Same (a : Sa) (b : Sa) : Option (Bool) :=
 (tc (r7All (a.map) (b.map)) fun s0 =>
  (tb ((!s0))
   (some (Bool.false))
   (tb ((a.blocks != b.blocks))
    (some (Bool.false))
    (tb ((a.gen != b.gen))
     (some (Bool.false))
     (tb ((a.last != b.last))
      (some (Bool.false))
      (tb ((!(a.staged == b.staged)))
       (some (Bool.false))
       (tb (((↑(List.length a.points) : Int) != (↑(List.length b.points) : Int)))
        (some (Bool.false))
        (th (r11Same_L0_step a b s0) ((0 : Int)) fun s7 =>
         (tb ((decide (s7 < (↑(List.length a.points) : Int))))
          (tp ((((0 : Int) ≤ s7) ∧ (s7 < (↑(List.length a.points) : Int))))
           (tc (r11Points ((poAt a.points (Int.toNat s7))) ((poAt b.points (Int.toNat s7)))) fun s10 =>
            (tb ((!s10))
             (some (Bool.false))
             none /- stop behind an operation -/)))
          (some (Bool.true)))))))))))
abbrev r11Same_G (a : Sa) (b : Sa) (r : Bool) : Prop := EvFr Try.prog cf true 17 [Sa.av (a), Sa.av (b)] (.b (r))
theorem r11Same_l0 (a : Sa) (b : Sa) (s0 : Bool) (h0 : r7All (a.map) (b.map) = some s0) (h1 : ((!s0)) = true) : r11Same_G a b (Bool.false) :=
  leafR vw_eq (k := 300) (r := []) (hs := hz [(10, [.fres (.b (s0))]), (4, [.yes, .yes, .yes, .yes, .yes, .yes]), (34, [])]) (raw := (AV.b Bool.false)) kq (ac (r7All_ok (a.map) (b.map) _ h0).any0 (ac h1 (ac h1 (ac h1 (ac h1 (ac h1 (ac h1 an))))))) tq
theorem r11Same_l1 (a : Sa) (b : Sa) (s0 : Bool) (h0 : r7All (a.map) (b.map) = some s0) (h1 : ((!s0)) = false) (h2 : ((a.blocks != b.blocks)) = true) (h2p : ¬ (a.blocks = b.blocks)) : r11Same_G a b (Bool.false) :=
  leafR vw_eq (k := 300) (r := []) (hs := hz [(10, [.fres (.b (s0))]), (4, [.no]), (1, [.no]), (2, [.no]), (1, [.no]), (2, [.no]), (1, [.no]), (1, [.yes, .yes, .yes, .yes, .yes, .yes]), (27, [])]) (raw := (AV.b Bool.false)) kq (ac (r7All_ok (a.map) (b.map) _ h0).any0 (ac h1 (ac h1 (ac h1 (ac h1 (ac h1 (ac h1 (ac h2 (ac h2 (ac h2 (ac h2 (ac h2 (ac h2 an))))))))))))) tq
theorem r11Same_l2 (a : Sa) (b : Sa) (s0 : Bool) (h0 : r7All (a.map) (b.map) = some s0) (h1 : ((!s0)) = false) (h2 : ((a.blocks != b.blocks)) = false) (h2p : (a.blocks = b.blocks)) (h3 : ((a.gen != b.gen)) = true) (h3p : ¬ (a.gen = b.gen)) : r11Same_G a b (Bool.false) :=
  leafR vw_eq (k := 300) (r := []) (hs := hz [(10, [.fres (.b (s0))]), (4, [.no]), (1, [.no]), (2, [.no]), (1, [.no]), (2, [.no]), (1, [.no]), (1, [.no]), (1, [.no]), (2, [.no]), (1, [.no]), (2, [.no]), (1, [.no]), (1, [.yes, .yes, .yes, .yes, .yes, .yes]), (20, [])]) (raw := (AV.b Bool.false)) kq (ac (r7All_ok (a.map) (b.map) _ h0).any0 (ac h1 (ac h1 (ac h1 (ac h1 (ac h1 (ac h1 (ac h2 (ac h2 (ac h2 (ac h2 (ac h2 (ac h2 (ac h3 (ac h3 (ac h3 (ac h3 (ac h3 (ac h3 an))))))))))))))))))) tq
theorem r11Same_l3 (a : Sa) (b : Sa) (s0 : Bool) (h0 : r7All (a.map) (b.map) = some s0) (h1 : ((!s0)) = false) (h2 : ((a.blocks != b.blocks)) = false) (h2p : (a.blocks = b.blocks)) (h3 : ((a.gen != b.gen)) = false) (h3p : (a.gen = b.gen)) (h4 : ((a.last != b.last)) = true) (h4p : ¬ (a.last = b.last)) : r11Same_G a b (Bool.false) :=
  leafR vw_eq (k := 300) (r := []) (hs := hz [(10, [.fres (.b (s0))]), (4, [.no]), (1, [.no]), (2, [.no]), (1, [.no]), (2, [.no]), (1, [.no]), (1, [.no]), (1, [.no]), (2, [.no]), (1, [.no]), (2, [.no]), (1, [.no]), (1, [.no]), (1, [.no]), (2, [.no]), (1, [.no]), (2, [.no]), (1, [.no]), (1, [.yes, .yes, .yes, .yes, .yes, .yes, .yes, .yes]), (11, [])]) (raw := (AV.b Bool.false)) kq (ac (r7All_ok (a.map) (b.map) _ h0).any0 (ac h1 (ac h1 (ac h1 (ac h1 (ac h1 (ac h1 (ac h2 (ac h2 (ac h2 (ac h2 (ac h2 (ac h2 (ac h3 (ac h3 (ac h3 (ac h3 (ac h3 (ac h3 (ac h4 (ac h4 (ac h4 (ac h4 (ac h4 (ac h4 (ac h4 (ac h4 an))))))))))))))))))))))))))) tq
theorem r11Same_l4 (a : Sa) (b : Sa) (s0 : Bool) (h0 : r7All (a.map) (b.map) = some s0) (h1 : ((!s0)) = false) (h2 : ((a.blocks != b.blocks)) = false) (h2p : (a.blocks = b.blocks)) (h3 : ((a.gen != b.gen)) = false) (h3p : (a.gen = b.gen)) (h4 : ((a.last != b.last)) = false) (h4p : (a.last = b.last)) (h5 : ((!(a.staged == b.staged))) = true) : r11Same_G a b (Bool.false) :=
  leafR vw_eq (k := 300) (r := []) (hs := hz [(10, [.fres (.b (s0))]), (4, [.no]), (1, [.no]), (2, [.no]), (1, [.no]), (2, [.no]), (1, [.no]), (1, [.no]), (1, [.no]), (2, [.no]), (1, [.no]), (2, [.no]), (1, [.no]), (1, [.no]), (1, [.no]), (2, [.no]), (1, [.no]), (2, [.no]), (1, [.no]), (1, [.no]), (1, [.no]), (2, [.no, .yes, .str (a.staged), .no]), (1, [.no]), (2, [.no, .yes, .str (b.staged), .no]), (1, [.no]), (1, [.yes, .yes, .yes, .yes, .yes, .yes, .yes, .yes]), (2, [])]) (raw := (AV.b Bool.false)) kq (ac (r7All_ok (a.map) (b.map) _ h0).any0 (ac h1 (ac h1 (ac h1 (ac h1 (ac h1 (ac h1 (ac h2 (ac h2 (ac h2 (ac h2 (ac h2 (ac h2 (ac h3 (ac h3 (ac h3 (ac h3 (ac h3 (ac h3 (ac h4 (ac h4 (ac h4 (ac (tq (p := ((List.length (List.map AV.y a.staged)) = ((List.length a.staged) * (1 : Nat))))) (ac (tq (p := bytesOf ((List.map AV.y a.staged)) = some (a.staged))) (ac h4 (ac h4 (ac h4 (ac (tq (p := ((List.length (List.map AV.y b.staged)) = ((List.length b.staged) * (1 : Nat))))) (ac (tq (p := bytesOf ((List.map AV.y b.staged)) = some (b.staged))) (ac h4 (ac h4 (ac h5 (ac h5 (ac h5 (ac h5 (ac h5 (ac h5 (ac h5 (ac h5 an))))))))))))))))))))))))))))))))))))))) tq
theorem r11Same_l5 (a : Sa) (b : Sa) (s0 : Bool) (h0 : r7All (a.map) (b.map) = some s0) (h1 : ((!s0)) = false) (h2 : ((a.blocks != b.blocks)) = false) (h2p : (a.blocks = b.blocks)) (h3 : ((a.gen != b.gen)) = false) (h3p : (a.gen = b.gen)) (h4 : ((a.last != b.last)) = false) (h4p : (a.last = b.last)) (h5 : ((!(a.staged == b.staged))) = false) (h6 : (((↑(List.length a.points) : Int) != (↑(List.length b.points) : Int))) = true) (h6p : ¬ ((↑(List.length a.points) : Int) = (↑(List.length b.points) : Int))) : r11Same_G a b (Bool.false) :=
  leafR vw_eq (k := 300) (r := []) (hs := hz [(10, [.fres (.b (s0))]), (4, [.no]), (1, [.no]), (2, [.no]), (1, [.no]), (2, [.no]), (1, [.no]), (1, [.no]), (1, [.no]), (2, [.no]), (1, [.no]), (2, [.no]), (1, [.no]), (1, [.no]), (1, [.no]), (2, [.no]), (1, [.no]), (2, [.no]), (1, [.no]), (1, [.no]), (1, [.no]), (2, [.no, .yes, .str (a.staged), .no]), (1, [.no]), (2, [.no, .yes, .str (b.staged), .no]), (1, [.no]), (1, [.no]), (1, [.no]), (2, [.no]), (1, [.no]), (1, [.no]), (2, [.no]), (1, [.no]), (1, [.no, .yes]), (1, [])]) (raw := (AV.b Bool.false)) kq (ac (r7All_ok (a.map) (b.map) _ h0).any0 (ac h1 (ac h1 (ac h1 (ac h1 (ac h1 (ac h1 (ac h2 (ac h2 (ac h2 (ac h2 (ac h2 (ac h2 (ac h3 (ac h3 (ac h3 (ac h3 (ac h3 (ac h3 (ac h4 (ac h4 (ac h4 (ac (tq (p := ((List.length (List.map AV.y a.staged)) = ((List.length a.staged) * (1 : Nat))))) (ac (tq (p := bytesOf ((List.map AV.y a.staged)) = some (a.staged))) (ac h4 (ac h4 (ac h4 (ac (tq (p := ((List.length (List.map AV.y b.staged)) = ((List.length b.staged) * (1 : Nat))))) (ac (tq (p := bytesOf ((List.map AV.y b.staged)) = some (b.staged))) (ac h4 (ac h4 (ac h5 (ac h5 (ac h5 (ac h5 (ac h5 (ac h5 (ac h5 (ac h5 (ac h6 an)))))))))))))))))))))))))))))))))))))))) tq
theorem r11Same_l6 (a : Sa) (b : Sa) (s0 : Bool) (h0 : r7All (a.map) (b.map) = some s0) (h1 : ((!s0)) = false) (h2 : ((a.blocks != b.blocks)) = false) (h2p : (a.blocks = b.blocks)) (h3 : ((a.gen != b.gen)) = false) (h3p : (a.gen = b.gen)) (h4 : ((a.last != b.last)) = false) (h4p : (a.last = b.last)) (h5 : ((!(a.staged == b.staged))) = false) (h6 : (((↑(List.length a.points) : Int) != (↑(List.length b.points) : Int))) = false) (h6p : ((↑(List.length a.points) : Int) = (↑(List.length b.points) : Int))) (s7 : Int) (h7 : Runs (r11Same_L0_step a b s0) ((0 : Int)) s7) (h8 : ((decide (s7 < (↑(List.length a.points) : Int)))) = true) (h8p : (s7 < (↑(List.length a.points) : Int))) (h9 : (((0 : Int) ≤ s7) ∧ (s7 < (↑(List.length a.points) : Int)))) (s10 : Bool) (h10 : r11Points ((poAt a.points (Int.toNat s7))) ((poAt b.points (Int.toNat s7))) = some s10) (h11 : ((!s10)) = true) : r11Same_G a b (Bool.false) :=
  leafR vw_eq (k := 300) (r := []) (hs := hz [(10, [.fres (.b (s0))]), (4, [.no]), (1, [.no]), (2, [.no]), (1, [.no]), (2, [.no]), (1, [.no]), (1, [.no]), (1, [.no]), (2, [.no]), (1, [.no]), (2, [.no]), (1, [.no]), (1, [.no]), (1, [.no]), (2, [.no]), (1, [.no]), (2, [.no]), (1, [.no]), (1, [.no]), (1, [.no]), (2, [.no, .yes, .str (a.staged), .no]), (1, [.no]), (2, [.no, .yes, .str (b.staged), .no]), (1, [.no]), (1, [.no]), (1, [.no]), (2, [.no]), (1, [.no]), (1, [.no]), (2, [.no]), (1, [.no]), (1, [.no, .no]), (1, [.head (r11Same_L0_S a b s0 s7)]), (6, [.yes]), (4, [.yes, .yes, .cells ((Po.cells (poAt a.points (Int.toNat s7))))]), (4, [.yes, .yes, .cells ((Po.cells (poAt b.points (Int.toNat s7))))]), (1, [.fres (.b (s10))]), (1, [.yes]), (2, [.yes]), (1, [])]) (raw := (AV.b Bool.false)) kq (ac (r7All_ok (a.map) (b.map) _ h0).any0 (ac h1 (ac h1 (ac h1 (ac h1 (ac h1 (ac h1 (ac h2 (ac h2 (ac h2 (ac h2 (ac h2 (ac h2 (ac h3 (ac h3 (ac h3 (ac h3 (ac h3 (ac h3 (ac h4 (ac h4 (ac h4 (ac (tq (p := ((List.length (List.map AV.y a.staged)) = ((List.length a.staged) * (1 : Nat))))) (ac (tq (p := bytesOf ((List.map AV.y a.staged)) = some (a.staged))) (ac h4 (ac h4 (ac h4 (ac (tq (p := ((List.length (List.map AV.y b.staged)) = ((List.length b.staged) * (1 : Nat))))) (ac (tq (p := bytesOf ((List.map AV.y b.staged)) = some (b.staged))) (ac h4 (ac h4 (ac h5 (ac h5 (ac h5 (ac h5 (ac h5 (ac h5 (ac h5 (ac h5 (ac h6 (ac (show EvHead Try.prog cf (lp Try.prog 17 0) (r11Same_L0_I a b s0) (r11Same_L0_S a b s0 s7) from (EvHead.of (r11Same_L0_ok a b s0) (absB_of [] [] kq (.consn kq (.agp pq) (.consn kq (.agp pq) (.consn kq (.pt rfl) (.consn kq (.pt rfl) (.consn kq (.eqv tq rfl) (.consn kq (.eqv tq rfl) (.consn kq (.eqv tq rfl) .nil))))))) (.cons (.old rfl rfl (.cells (.pl rfl pq))) (.cons (.old rfl rfl (.cells (.pl rfl pq))) .nil))) h7)) (ac h8 (ac h9 (ac (fq (p := ((3 : Nat) ≤ (List.length (List.drop ((Int.toNat s7) * (3 : Nat)) (List.flatMap Po.cells a.points)))))) (ac (show (List.take 3 (List.drop ((Int.toNat s7) * (3 : Nat)) (List.flatMap Po.cells a.points))) = (Po.cells (poAt a.points (Int.toNat s7))) from (po_takeO bq bq)) (ac (fq (p := (((0 : Int) ≤ s7) ∧ (s7 < (↑(List.length b.points) : Int))))) (ac (fq (p := ((3 : Nat) ≤ (List.length (List.drop ((Int.toNat s7) * (3 : Nat)) (List.flatMap Po.cells b.points)))))) (ac (show (List.take 3 (List.drop ((Int.toNat s7) * (3 : Nat)) (List.flatMap Po.cells b.points))) = (Po.cells (poAt b.points (Int.toNat s7))) from (po_takeO bq bq)) (ac (r11Points_ok ((poAt a.points (Int.toNat s7))) ((poAt b.points (Int.toNat s7))) _ h10).any0 (ac (show orderOk (rg Try.prog 17 0) = true ∧ allOk (Region.before (rg Try.prog 17 0)) [] 0 [(some [], some []), (some [0], some []), (some [], some []), (some [], some []), (some [], some []), (some [], some []), (some [1], some []), (some [], some []), (some [], some []), (some [], some []), (some [], some []), (some [], some [])] = true from (ord_of ord_17_0 bef_17_0 kq)) (ac h11 an))))))))))))))))))))))))))))))))))))))))))))))))))) tq
theorem r11Same_l7 (a : Sa) (b : Sa) (s0 : Bool) (h0 : r7All (a.map) (b.map) = some s0) (h1 : ((!s0)) = false) (h2 : ((a.blocks != b.blocks)) = false) (h2p : (a.blocks = b.blocks)) (h3 : ((a.gen != b.gen)) = false) (h3p : (a.gen = b.gen)) (h4 : ((a.last != b.last)) = false) (h4p : (a.last = b.last)) (h5 : ((!(a.staged == b.staged))) = false) (h6 : (((↑(List.length a.points) : Int) != (↑(List.length b.points) : Int))) = false) (h6p : ((↑(List.length a.points) : Int) = (↑(List.length b.points) : Int))) (s7 : Int) (h7 : Runs (r11Same_L0_step a b s0) ((0 : Int)) s7) (h8 : ((decide (s7 < (↑(List.length a.points) : Int)))) = false) (h8p : ¬ (s7 < (↑(List.length a.points) : Int))) : r11Same_G a b (Bool.true) :=
  leafR vw_eq (k := 300) (r := []) (hs := hz [(10, [.fres (.b (s0))]), (4, [.no]), (1, [.no]), (2, [.no]), (1, [.no]), (2, [.no]), (1, [.no]), (1, [.no]), (1, [.no]), (2, [.no]), (1, [.no]), (2, [.no]), (1, [.no]), (1, [.no]), (1, [.no]), (2, [.no]), (1, [.no]), (2, [.no]), (1, [.no]), (1, [.no]), (1, [.no]), (2, [.no, .yes, .str (a.staged), .no]), (1, [.no]), (2, [.no, .yes, .str (b.staged), .no]), (1, [.no]), (1, [.no]), (1, [.no]), (2, [.no]), (1, [.no]), (1, [.no]), (2, [.no]), (1, [.no]), (1, [.no, .no]), (1, [.head (r11Same_L0_S a b s0 s7)]), (6, [.no]), (1, [])]) (raw := (AV.b Bool.true)) kq (ac (r7All_ok (a.map) (b.map) _ h0).any0 (ac h1 (ac h1 (ac h1 (ac h1 (ac h1 (ac h1 (ac h2 (ac h2 (ac h2 (ac h2 (ac h2 (ac h2 (ac h3 (ac h3 (ac h3 (ac h3 (ac h3 (ac h3 (ac h4 (ac h4 (ac h4 (ac (tq (p := ((List.length (List.map AV.y a.staged)) = ((List.length a.staged) * (1 : Nat))))) (ac (tq (p := bytesOf ((List.map AV.y a.staged)) = some (a.staged))) (ac h4 (ac h4 (ac h4 (ac (tq (p := ((List.length (List.map AV.y b.staged)) = ((List.length b.staged) * (1 : Nat))))) (ac (tq (p := bytesOf ((List.map AV.y b.staged)) = some (b.staged))) (ac h4 (ac h4 (ac h5 (ac h5 (ac h5 (ac h5 (ac h5 (ac h5 (ac h5 (ac h5 (ac h6 (ac (show EvHead Try.prog cf (lp Try.prog 17 0) (r11Same_L0_I a b s0) (r11Same_L0_S a b s0 s7) from (EvHead.of (r11Same_L0_ok a b s0) (absB_of [] [] kq (.consn kq (.agp pq) (.consn kq (.agp pq) (.consn kq (.pt rfl) (.consn kq (.pt rfl) (.consn kq (.eqv tq rfl) (.consn kq (.eqv tq rfl) (.consn kq (.eqv tq rfl) .nil))))))) (.cons (.old rfl rfl (.cells (.pl rfl pq))) (.cons (.old rfl rfl (.cells (.pl rfl pq))) .nil))) h7)) (ac h8 an)))))))))))))))))))))))))))))))))))))))))) tq
theorem r11Same_ok (a : Sa) (b : Sa) (r : Bool) : r11Same a b = some r → r11Same_G a b r := by
  unfold r11Same
  refine tc_ok (fun s0 h0 => ?_)
  refine tb_ok (fun h1 => ?_) (fun h1 => ?_)
  ·
    exact fun e => tl_ok (G := r11Same_G a b) (r11Same_l0 a b s0 h0 h1) e
  ·
    refine tb_ok (fun h2 => ?_) (fun h2 => ?_)
    ·
      have h2p := bne_iff_ne.1 h2
      exact fun e => tl_ok (G := r11Same_G a b) (r11Same_l1 a b s0 h0 h1 h2 h2p) e
    ·
      have h2p := bne_eq_false_iff_eq.1 h2
      refine tb_ok (fun h3 => ?_) (fun h3 => ?_)
      ·
        have h3p := bne_iff_ne.1 h3
        exact fun e => tl_ok (G := r11Same_G a b) (r11Same_l2 a b s0 h0 h1 h2 h2p h3 h3p) e
      ·
        have h3p := bne_eq_false_iff_eq.1 h3
        refine tb_ok (fun h4 => ?_) (fun h4 => ?_)
        ·
          have h4p := bne_iff_ne.1 h4
          exact fun e => tl_ok (G := r11Same_G a b) (r11Same_l3 a b s0 h0 h1 h2 h2p h3 h3p h4 h4p) e
        ·
          have h4p := bne_eq_false_iff_eq.1 h4
          refine tb_ok (fun h5 => ?_) (fun h5 => ?_)
          ·
            exact fun e => tl_ok (G := r11Same_G a b) (r11Same_l4 a b s0 h0 h1 h2 h2p h3 h3p h4 h4p h5) e
          ·
            refine tb_ok (fun h6 => ?_) (fun h6 => ?_)
            ·
              have h6p := bne_iff_ne.1 h6
              exact fun e => tl_ok (G := r11Same_G a b) (r11Same_l5 a b s0 h0 h1 h2 h2p h3 h3p h4 h4p h5 h6 h6p) e
            ·
              have h6p := bne_eq_false_iff_eq.1 h6
              refine th_ok (fun s7 h7 => ?_)
              refine tb_ok (fun h8 => ?_) (fun h8 => ?_)
              ·
                have h8p := of_decide_eq_true h8
                refine tp_ok (fun h9 => ?_)
                refine tc_ok (fun s10 h10 => ?_)
                refine tb_ok (fun h11 => ?_) (fun h11 => ?_)
                ·
                  exact fun e => tl_ok (G := r11Same_G a b) (r11Same_l6 a b s0 h0 h1 h2 h2p h3 h3p h4 h4p h5 h6 h6p s7 h7 h8 h8p h9 s10 h10 h11) e
                ·
                  exact fun e => nomatch e
              ·
                have h8p := of_decide_eq_false h8
                exact fun e => tl_ok (G := r11Same_G a b) (r11Same_l7 a b s0 h0 h1 h2 h2p h3 h3p h4 h4p h5 h6 h6p s7 h7 h8 h8p) e
end Ab
end Go.Proofs.Ytimcbhhebnikiaa
namespace Go.Proofs.Ytimcbhhebnikiaa
open Go Go.Proofs.Ytimcbhhebnikiaa.Ab
set_option linter.unusedVariables false
set_option linter.unusedSimpArgs false
namespace Ab
theorem sExtents_eq {l : List Ex} (h : Sx l) : sExtents l = some l := by
  have hz := h.1
  have hd := (exAt_all l (fun x => x.d.length ≤ 1000000)).2 h.2
  unfold sExtents
  have := th_run (step := sExtents_L0_step l) (f := fun s0 => tb (decide (s0.2 < (l.length : Int))) none (tp (0 = 0 ∧ (List.flatMap Ex.cells s0.1).length = s0.1.length * 5) (some s0.1))) (fun i => (l.take i, (i : Int))) l.length (fun i hi => by
    have := hd i hi
    unfold sExtents_L0_step
    simp only [tb_dec, Int.toNat_natCast]
    rw [if_pos (by omega), tp_pos (by omega), tp_pos (by omega), tp_pos ⟨exs_len _, by rw [List.length_take]; omega⟩, wr_id (by omega) (by omega), ← ex_take1 l i hi]
    rfl) (by
    unfold sExtents_L0_step
    simp only [tb_dec]
    rw [if_neg (by omega)])
  rw [List.take_zero, List.take_length] at this
  refine this.trans ?_
  simp only [tb_dec]
  rw [if_neg (by omega), tp_pos ⟨by trivial, exs_len _⟩]
theorem r7Copy_eq {x : Ex} (h : x.d.length ≤ 1000000) : r7Copy x = some x := by
  unfold r7Copy
  rw [tp_pos (by omega)]
theorem r11extents_eq {l : List Ex} (h : Sx l) : r11extents l = some l := by
  have hz := h.1
  have hd := (exAt_all l (fun x => x.d.length ≤ 1000000)).2 h.2
  unfold r11extents
  have := th_run (step := r11extents_L0_step l) (f := fun s0 => tb (decide (s0.2 < (l.length : Int))) none (tp (0 = 0 ∧ (List.flatMap Ex.cells s0.1).length = s0.1.length * 5) (some s0.1))) (fun i => (l.take i, (i : Int))) l.length (fun i hi => by
    unfold r11extents_L0_step
    simp only [tb_dec, Int.toNat_natCast]
    rw [if_pos (by omega), tp_pos (by omega), r7Copy_eq (hd i hi), tc_some, tp_pos ⟨exs_len _, by rw [List.length_take]; omega⟩, wr_id (by omega) (by omega), ← ex_take1 l i hi]
    rfl) (by
    unfold r11extents_L0_step
    simp only [tb_dec]
    rw [if_neg (by omega)])
  rw [List.take_zero, List.take_length] at this
  refine this.trans ?_
  simp only [tb_dec]
  rw [if_neg (by omega), tp_pos ⟨by trivial, exs_len _⟩]
/-- No state. -/
def sa0 : Sa := ⟨0, 0, [], [], 0, []⟩
open Classical in
noncomputable def cpy (s : Sa) : Sa := if SOk s then s else sa0
theorem cpy_t {s : Sa} (h : SOk s) : cpy s = s := by unfold cpy; rw [if_pos h]
theorem cpy_f {s : Sa} (h : ¬ SOk s) : cpy s = sa0 := by unfold cpy; rw [if_neg h]
theorem po_set_self (l : List Po) (i : Nat) : l.set i (poAt l i) = l := by
  refine List.ext_getElem? fun j => ?_
  rw [List.getElem?_set]
  by_cases h : i = j
  · subst h
    rw [if_pos rfl]
    by_cases g : i < l.length
    · rw [if_pos g]; unfold poAt; simp [g]
    · rw [if_neg g, List.getElem?_eq_none (by omega)]
  · rw [if_neg h]
theorem po_take1 (l : List Po) (i : Nat) (hi : i < l.length) : l.take (i + 1) = l.take i ++ [poAt l i] := by unfold poAt; exact take_at _ l i hi
theorem sCopy_eq {s : Sa} (h : Sz s) : sCopy s = some (cpy s) := by
  have hz := h.2.1
  have hx := h.1
  unfold sCopy
  rw [sCheck_eq h, tc_some, tb_bne]
  by_cases ho : SOk s
  case neg => rw [st_f ho, if_neg (by decide), cpy_f ho]; rfl
  rw [st_t ho, if_pos rfl, sExtents_eq hx, tc_some, tp_pos (pos_len _), tp_pos (by omega), tp_pos (by have := h.2.2.2; omega), cpy_t ho]
  have hp := (poAt_all s.points (fun p => Sx p.map)).2 h.2.2.1
  have := th_run (step := sCopy_L0_step s 0 s.map) (f := fun s6 => tb (decide (s6.1 < (s.points.length : Int))) none (tp (0 = 0 ∧ (List.flatMap Ex.cells s.map).length = s.map.length * 5) (tp (0 = 0 ∧ (List.flatMap Po.cells s6.2).length = s.points.length * 3) (some (Sa.mk s.blocks s.gen s.map s6.2 s.last s.staged))))) (fun i => ((i : Int), s.points)) s.points.length (fun i hi => by
    have e := pos_len s.points
    unfold sCopy_L0_step
    simp only [tb_dec, Int.toNat_natCast]
    rw [if_pos (by omega), tp_pos (by omega), tp_pos (by omega), sExtents_eq (hp i hi), tc_some, tp_pos ⟨rfl, by simp only [List.length_cons, List.length_nil]; omega⟩, wr_id (by omega) (by omega), List.take_length]
    have e2 : (Po.mk (poAt s.points i).id (poAt s.points i).gen (poAt s.points i).map) = poAt s.points i := rfl
    rw [e2, po_set_self]
    rfl) (by
    unfold sCopy_L0_step
    simp only [tb_dec]
    rw [if_neg (by omega)])
  refine this.trans ?_
  simp only [tb_dec]
  rw [if_neg (by omega), tp_pos ⟨by trivial, exs_len _⟩, tp_pos ⟨by trivial, pos_len _⟩]
theorem r11Copy_eq {s : Sa} (h : Sz s) : r11Copy s = some (cpy s) := by
  have hz := h.2.1
  have hx := h.1
  unfold r11Copy
  rw [r11Check_eq h, tc_some, tb_bne]
  by_cases ho : SOk s
  case neg => rw [st_f ho, if_neg (by decide), cpy_f ho]; rfl
  rw [st_t ho, if_pos rfl, r11extents_eq hx, tc_some, tp_pos (by have := h.2.2.2; omega), cpy_t ho]
  have hp := (poAt_all s.points (fun p => Sx p.map)).2 h.2.2.1
  have := th_run (step := r11Copy_L0_step s 0 s.map) (f := fun s6 => tb (decide (s6.1 < (s.points.length : Int))) none (tp (0 = 0 ∧ (List.flatMap Ex.cells s.map).length = s.map.length * 5) (some (Sa.mk s.blocks s.gen s.map s6.2 s.last s.staged)))) (fun i => ((i : Int), s.points.take i)) s.points.length (fun i hi => by
    unfold r11Copy_L0_step
    simp only [tb_dec, Int.toNat_natCast]
    rw [if_pos (by omega), tp_pos (by omega), r11extents_eq (hp i hi), tc_some, tp_pos ⟨pos_len _, by rw [List.length_take]; omega⟩, wr_id (by omega) (by omega), List.take_length]
    have e2 : (Po.mk (poAt s.points i).id (poAt s.points i).gen (poAt s.points i).map) = poAt s.points i := rfl
    rw [e2, ← po_take1 s.points i hi]
    rfl) (by
    unfold r11Copy_L0_step
    simp only [tb_dec]
    rw [if_neg (by omega)])
  rw [List.take_zero, List.take_length] at this
  refine this.trans ?_
  simp only [tb_dec]
  rw [if_neg (by omega), tp_pos ⟨by trivial, exs_len _⟩]
/-- A new state. -/
def nw (blocks : Int) : Sa × Int := if 1 ≤ blocks ∧ blocks ≤ 64 then (⟨blocks, 1, [⟨0, blocks, 0, 0, []⟩], [], 0, []⟩, 0) else (sa0, 81)
theorem mNew_eq (blocks : Int) : mNew blocks = some (if 1 ≤ blocks ∧ blocks ≤ 64 then ([⟨0, blocks, 0, 0, []⟩], 0) else ([], 81)) := by
  unfold mNew
  simp only [tb_dec]
  by_cases h1 : blocks < 1
  · rw [if_pos h1, if_neg (by omega)]
  by_cases h2 : blocks > 64
  · rw [if_neg h1, if_pos h2, if_neg (by omega)]
  · rw [if_neg h1, if_neg h2, if_pos (by omega)]
theorem r8New_eq (blocks : Int) : r8New blocks = some (if 1 ≤ blocks ∧ blocks ≤ 64 then ([⟨0, blocks, 0, 0, []⟩], 0) else ([], 81)) := by
  unfold r8New
  simp only [tb_dec]
  by_cases h1 : blocks < 1
  · rw [if_pos h1, if_neg (by omega)]
  by_cases h2 : blocks > 64
  · rw [if_neg h1, if_pos h2, if_neg (by omega)]
  · rw [if_neg h1, if_neg h2, if_pos (by omega)]
theorem sNew_eq (blocks : Int) : sNew blocks = some (nw blocks) := by
  unfold sNew nw
  rw [mNew_eq, tc_some]
  split <;> rfl
theorem r11New_eq (blocks : Int) : r11New blocks = some (nw blocks) := by
  unfold r11New nw
  rw [r8New_eq, tc_some]
  split <;> rfl
theorem th_find {α β : Type} (l : List β) (d : β) (p : β → Bool) {step : Int → Option Int} {f : Int → Option α} (g : Option β → Option α) (hs : ∀ i : Nat, i < l.length → p (l.getD i d) = false → step (i : Int) = some ((i : Int) + 1)) (hf : ∀ i : Nat, i < l.length → p (l.getD i d) = true → step (i : Int) = none ∧ f (i : Int) = g (some (l.getD i d))) (he : step (l.length : Int) = none ∧ f (l.length : Int) = g none) : th step 0 f = g (l.find? p) := by
  have gd : ∀ i (hi : i < l.length), l.getD i d = l[i] := fun i hi => by simp [hi]
  cases h : l.find? p with
  | none =>
    have hn := List.find?_eq_none.1 h
    have := th_run (step := step) (f := f) (fun i => (i : Int)) l.length (fun i hi => hs i hi (by
      rw [gd i hi]
      have := hn l[i] (List.getElem_mem hi)
      simpa using this)) he.1
    simp only [Int.natCast_zero] at this
    rw [this]; exact he.2
  | some x =>
    obtain ⟨hx, i, hi, e, hlt⟩ := List.find?_eq_some_iff_getElem.1 h
    have hfi := hf i hi (by rw [gd i hi, e]; exact hx)
    have := th_run (step := step) (f := f) (fun i => (i : Int)) i (fun j hj => hs j (by omega) (by
      rw [gd j (by omega)]
      have := hlt j hj
      simpa using this)) hfi.1
    simp only [Int.natCast_zero] at this
    rw [this, hfi.2, gd i hi, e]
def po0 : Po := ⟨0, 0, []⟩
/-- The checkpoint of a number. -/
def fd (l : List Po) (id : Int) : Option Po := l.find? fun p => p.id == id
def fdv : Option Po → Po × Int
  | some p => (p, 0)
  | none => (po0, 111)
open Classical in
noncomputable def pnt (s : Sa) (id : Int) : Po × Int := if SOk s then fdv (fd s.points id) else (po0, 110)
theorem sPoint_eq {s : Sa} (h : Sz s) (id : Int) : sPoint s id = some (pnt s id) := by
  have hz := h.2.1
  unfold sPoint pnt
  rw [sCheck_eq h, tc_some, tb_bne]
  by_cases ho : SOk s
  case neg => rw [st_f ho, if_neg (by decide), if_neg ho]; rfl
  rw [st_t ho, if_pos rfl, if_pos ho, sCopy_eq h, tc_some, cpy_t ho]
  refine (th_find s.points ⟨0, 0, []⟩ (fun p => p.id == id) (fun o => some (fdv o)) ?_ ?_ ?_)
  · intro i hi hp
    have hp : ((poAt s.points i).id == id) = false := hp
    unfold sPoint_L0_step
    simp only [tb_dec, Int.toNat_natCast]
    rw [if_pos (by omega), tp_pos (by omega), tb_neg hp, wr_id (by omega) (by omega)]
  · intro i hi hp
    have hp : ((poAt s.points i).id == id) = true := hp
    unfold sPoint_L0_step
    simp only [tb_dec, Int.toNat_natCast]
    rw [if_pos (by omega), tp_pos (by omega), tb_pos hp, if_pos (by omega), tp_pos (by omega), tb_pos hp]
    exact ⟨rfl, rfl⟩
  · unfold sPoint_L0_step
    simp only [tb_dec]
    rw [if_neg (by omega), if_neg (by omega)]
    exact ⟨rfl, rfl⟩
theorem r11Point_eq {s : Sa} (h : Sz s) (id : Int) : r11Point s id = some (pnt s id) := by
  have hz := h.2.1
  unfold r11Point pnt
  rw [r11Check_eq h, tc_some, tb_bne]
  by_cases ho : SOk s
  case neg => rw [st_f ho, if_neg (by decide), if_neg ho]; rfl
  rw [st_t ho, if_pos rfl, if_pos ho]
  refine (th_find s.points ⟨0, 0, []⟩ (fun p => p.id == id) (fun o => some (fdv o)) ?_ ?_ ?_)
  · intro i hi hp
    have hp : ((poAt s.points i).id == id) = false := hp
    unfold r11Point_L0_step
    simp only [tb_dec, Int.toNat_natCast]
    rw [if_pos (by omega), tp_pos (by omega), tb_neg hp, wr_id (by omega) (by omega)]
  · intro i hi hp
    have hp : ((poAt s.points i).id == id) = true := hp
    unfold r11Point_L0_step
    simp only [tb_dec, Int.toNat_natCast]
    rw [if_pos (by omega), tp_pos (by omega), tb_pos hp, if_pos (by omega), tp_pos (by omega), tb_pos hp]
    exact ⟨rfl, rfl⟩
  · unfold r11Point_L0_step
    simp only [tb_dec]
    rw [if_neg (by omega), if_neg (by omega)]
    exact ⟨rfl, rfl⟩
theorem sIds_eq {s : Sa} (h : Sz s) : sIds s = some ((cpy s).points.map Po.id) := by
  unfold sIds
  rw [sCopy_eq h, tc_some]
  have hz : (cpy s).points.length ≤ 1000 := by
    unfold cpy; split
    · exact h.2.1
    · simp [sa0]
  generalize cpy s = t at hz ⊢
  have := th_run (step := sIds_L0_step s t) (f := fun s1 => tb (decide (s1.2 < (t.points.length : Int))) none (some s1.1)) (fun i => ((t.points.take i).map Po.id, (i : Int))) t.points.length (fun i hi => by
    unfold sIds_L0_step
    simp only [tb_dec, Int.toNat_natCast]
    rw [if_pos (by omega), tp_pos (by omega), tp_pos ⟨by simp, by rw [List.length_map, List.length_take]; omega⟩, wr_id (by omega) (by omega), po_take1 t.points i hi]
    simp) (by
    unfold sIds_L0_step
    simp only [tb_dec]
    rw [if_neg (by omega)])
  rw [List.take_zero, List.take_length] at this
  refine this.trans ?_
  simp only [tb_dec]
  rw [if_neg (by omega)]
theorem r11Ids_eq {s : Sa} (h : Sz s) : r11Ids s = some ((cpy s).points.map Po.id) := by
  unfold r11Ids
  rw [r11Check_eq h, tc_some, tb_bne]
  have hz := h.2.1
  by_cases ho : SOk s
  case neg => rw [st_f ho, if_neg (by decide), cpy_f ho]; rfl
  rw [st_t ho, if_pos rfl, cpy_t ho]
  have := th_run (step := r11Ids_L0_step s 0) (f := fun s1 => tb (decide (s1.2 < (s.points.length : Int))) none (some s1.1)) (fun i => ((s.points.take i).map Po.id, (i : Int))) s.points.length (fun i hi => by
    unfold r11Ids_L0_step
    simp only [tb_dec, Int.toNat_natCast]
    rw [if_pos (by omega), tp_pos (by omega), tp_pos ⟨by simp, by rw [List.length_map, List.length_take]; omega⟩, wr_id (by omega) (by omega), po_take1 s.points i hi]
    simp) (by
    unfold r11Ids_L0_step
    simp only [tb_dec]
    rw [if_neg (by omega)])
  rw [List.take_zero, List.take_length] at this
  refine this.trans ?_
  simp only [tb_dec]
  rw [if_neg (by omega)]
theorem r11Points_eq (a b : Po) (h : a.map.length ≤ 1000) : r11Points a b = some (decide (a = b)) := by
  unfold r11Points
  rw [r7All_eq _ _ (by omega), tc_some, tb_beq, tb_beq]
  obtain ⟨a1, a2, a3⟩ := a
  obtain ⟨b1, b2, b3⟩ := b
  simp only [Po.mk.injEq]
  by_cases h1 : a1 = b1
  case neg => rw [if_neg h1]; simp [h1]
  by_cases h2 : a2 = b2
  case neg => rw [if_pos h1, if_neg h2]; simp [h2]
  rw [if_pos h1, if_pos h2]; simp [h1, h2]
/-- Is all of it of few things? (Bytes may be many.) -/
def Sy (s : Sa) : Prop := s.map.length ≤ 1000 ∧ s.points.length ≤ 1000 ∧ ∀ p ∈ s.points, p.map.length ≤ 1000
theorem sz_sy {s : Sa} (h : Sz s) : Sy s := ⟨h.1.1, h.2.1, fun p hp => (h.2.2.1 p hp).1⟩
theorem sa0_sy : Sy sa0 := ⟨by simp [sa0], by simp [sa0], fun p hp => by cases hp⟩
theorem r11Same_eq (a b : Sa) (h : Sy a) : r11Same a b = some (decide (a = b)) := by
  have hz := h.2.1
  unfold r11Same
  rw [r7All_eq _ _ (by have := h.1; omega), tc_some]
  simp only [tb_not, tb_bne, tb_dec]
  have hp := (poAt_all a.points (fun p => p.map.length ≤ 1000)).2 h.2.2
  by_cases h1 : a.map = b.map
  case neg => rw [if_neg h1, decide_eq_false fun e : a = b => h1 (by rw [e])]
  rw [if_pos h1]
  by_cases h2 : a.blocks = b.blocks
  case neg => rw [if_neg h2, decide_eq_false fun e : a = b => h2 (by rw [e])]
  rw [if_pos h2]
  by_cases h3 : a.gen = b.gen
  case neg => rw [if_neg h3, decide_eq_false fun e : a = b => h3 (by rw [e])]
  rw [if_pos h3]
  by_cases h4 : a.last = b.last
  case neg => rw [if_neg h4, decide_eq_false fun e : a = b => h4 (by rw [e])]
  rw [if_pos h4]
  by_cases h5 : a.staged = b.staged
  case neg => rw [tb_neg (by simpa using h5), decide_eq_false fun e : a = b => h5 (by rw [e])]
  rw [tb_pos (by simpa using h5)]
  by_cases h6 : (a.points.length : Int) = b.points.length
  case neg => rw [if_neg h6, decide_eq_false fun e : a = b => h6 (by rw [e])]
  rw [if_pos h6]
  rw [th_all (some false) (some true) a.points.length (fun i => poAt a.points i = poAt b.points i) (a.points = b.points)]
  · by_cases g : a.points = b.points
    · rw [if_pos g, decide_eq_true]
      obtain ⟨a1, a2, a3, a4, a5, a6⟩ := a
      obtain ⟨b1, b2, b3, b4, b5, b6⟩ := b
      simp_all
    · rw [if_neg g, decide_eq_false fun e : a = b => g (by rw [e])]
  · constructor
    · intro h
      refine List.ext_getElem (by omega) fun i h1 h2 => ?_
      have := h i h1
      simpa [poAt, h1, h2] using this
    · intro e; rw [e]; exact fun _ _ => rfl
  · intro i hi hq
    unfold r11Same_L0_step
    simp only [tb_dec, tb_not, Int.toNat_natCast]
    rw [if_pos (by omega), tp_pos (by omega), tp_pos (by omega), r11Points_eq _ _ (hp i hi), tc_some, decide_eq_true hq, tb_t, wr_id (by omega) (by omega)]
  · intro i hi hq
    unfold r11Same_L0_step
    simp only [tb_dec, tb_not, Int.toNat_natCast]
    rw [if_pos (by omega), tp_pos (by omega), tp_pos (by omega), r11Points_eq _ _ (hp i hi), tc_some, decide_eq_false hq, tb_f, if_pos (by omega), tp_pos (by omega), tc_some, tb_f]
    exact ⟨rfl, rfl⟩
  · unfold r11Same_L0_step
    simp only [tb_dec]
    rw [if_neg (by omega), if_neg (by omega)]
    exact ⟨rfl, rfl⟩
def FewX (l : List Ex) : Prop := l.length ≤ 70 ∧ ∀ x ∈ l, x.d.length ≤ 3000
instance (l : List Ex) : Decidable (FewX l) := by unfold FewX; infer_instance
theorem few_eqX (l : List Ex) : few l = some (decide (FewX l)) := few_eq l
def FewS (s : Sa) : Prop := s.points.length ≤ 10 ∧ s.staged.length ≤ 6000 ∧ FewX s.map ∧ ∀ p ∈ s.points, FewX p.map
instance (s : Sa) : Decidable (FewS s) := by unfold FewS; infer_instance
theorem fewx_sx {l : List Ex} (h : FewX l) : Sx l := ⟨by have := h.1; omega, fun x hx => by have := h.2 x hx; omega⟩
theorem fews_sz {s : Sa} (h : FewS s) : Sz s := ⟨fewx_sx h.2.2.1, by have := h.1; omega, fun p hp => fewx_sx (h.2.2.2 p hp), by have := h.2.1; omega⟩
theorem few11_eq (s : Sa) : few11 s = some (decide (FewS s)) := by
  unfold few11
  simp only [tb_dec]
  by_cases h1 : (s.points.length : Int) > 10
  · rw [if_pos h1, decide_eq_false fun q : FewS s => by have := q.1; omega]
  rw [if_neg h1]
  by_cases h2 : (s.staged.length : Int) > 6000
  · rw [if_pos h2, decide_eq_false fun q : FewS s => by have := q.2.1; omega]
  rw [if_neg h2, few_eqX, tc_some, tb_not, tb_dec]
  by_cases h3 : FewX s.map
  case neg => rw [if_neg h3, decide_eq_false fun q : FewS s => h3 q.2.2.1]
  rw [if_pos h3]
  rw [th_all (some false) (some true) s.points.length (fun i => FewX (poAt s.points i).map) (∀ p ∈ s.points, FewX p.map) (poAt_all s.points fun p => FewX p.map)]
  · by_cases g : ∀ p ∈ s.points, FewX p.map
    · have u : FewS s := ⟨by omega, by omega, h3, g⟩
      rw [if_pos g, decide_eq_true u]
    · rw [if_neg g, decide_eq_false fun q : FewS s => g q.2.2.2]
  · intro i hi hq
    unfold few11_L0_step
    simp only [tb_dec, tb_not, Int.toNat_natCast]
    rw [if_pos (by omega), tp_pos (by omega), few_eqX, tc_some, decide_eq_true hq, tb_t, wr_id (by omega) (by omega)]
  · intro i hi hq
    unfold few11_L0_step
    simp only [tb_dec, tb_not, Int.toNat_natCast]
    rw [if_pos (by omega), tp_pos (by omega), few_eqX, tc_some, decide_eq_false hq, tb_f, if_pos (by omega), tp_pos (by omega), tc_some, tb_f]
    exact ⟨rfl, rfl⟩
  · unfold few11_L0_step
    simp only [tb_dec]
    rw [if_neg (by omega), if_neg (by omega)]
    exact ⟨rfl, rfl⟩
theorem numbers_eq (a b : List Int) (h : a.length ≤ 4294967296) : numbers a b = some (decide (a = b)) := by
  unfold numbers
  rw [tb_bne]
  by_cases hl : (a.length : Int) = b.length
  · rw [if_pos hl]
    rw [th_all (some false) (some true) a.length (fun i => a.getD i 0 = b.getD i 0) (a = b)]
    · split <;> rename_i h <;> simp [h]
    · constructor
      · intro h
        refine List.ext_getElem (by omega) fun i h1 h2 => ?_
        have := h i h1
        simpa [h1, h2] using this
      · rintro rfl; exact fun _ _ => rfl
    · intro i hi hp
      unfold numbers_L0_step
      simp only [tb_dec, tb_bne, Int.toNat_natCast, Nat.mul_one]
      rw [if_pos (by omega), tp_pos (by omega), tp_pos (by omega), if_pos hp, wr_id (by omega) (by omega)]
    · intro i hi hp
      unfold numbers_L0_step
      simp only [tb_dec, tb_bne, Int.toNat_natCast, Nat.mul_one]
      rw [if_pos (by omega), tp_pos (by omega), tp_pos (by omega), if_neg hp, if_pos (by omega), tp_pos (by omega), if_neg hp]
      exact ⟨rfl, rfl⟩
    · unfold numbers_L0_step
      simp only [tb_dec]
      rw [if_neg (by omega), if_neg (by omega)]
      exact ⟨rfl, rfl⟩
  · rw [if_neg hl]
    congr 1; symm; rw [decide_eq_false_iff_not]; rintro rfl; exact hl rfl
end Ab
end Go.Proofs.Ytimcbhhebnikiaa
namespace Go.Proofs.Ytimcbhhebnikiaa
open Go Go.Proofs.Ytimcbhhebnikiaa.Ab
set_option linter.unusedVariables false
set_option linter.unusedSimpArgs false
set_option maxRecDepth 1000000
namespace Ab
def aw11 : Option Bool := some true
theorem aw11_eval : aCall Try.prog cf 4000 11 [] = some (.b true) := by kernel_rfl
theorem aw11_ok (r : Bool) : aw11 = some r → EvFr Try.prog cf true 11 [] (.b r) := fun h => by
  cases h
  exact EvFr.of_bool aw11_eval
end Ab
end Go.Proofs.Ytimcbhhebnikiaa
namespace Go.Proofs.Ytimcbhhebnikiaa
open Go Go.Proofs.Ytimcbhhebnikiaa.Ab
set_option linter.unusedVariables false
set_option linter.unusedSimpArgs false
set_option maxRecDepth 1000000
namespace Ab
/-- Function 4, as it answers. -/
noncomputable def lStateTells (s : Sa) (blocks : Int) (id : Int) : Option (Bool) :=
 (tc (aw11) fun s0 =>
  (tc (few11 (s)) fun s1 =>
   (tb ((!s1))
    (some (s0))
    (tc (sNew (blocks)) fun s3 =>
     (tc (r11New (blocks)) fun s4 =>
      (tc (sPoint (s) (id)) fun s5 =>
       (tc (r11Point (s) (id)) fun s6 =>
        (tc (r11Same (s3.1) (s4.1)) fun s7 =>
         (tb (s7)
          (tc (sCopy (s)) fun s9 =>
           (tc (r11Copy (s)) fun s10 =>
            (tp ((((0 : Nat) = (0 : Nat)) ∧ ((List.length (List.flatMap Ex.cells s9.map)) = ((List.length s9.map) * (5 : Nat)))))
             (tc (r11Same (s9) (s10)) fun s12 =>
              (tb (s12)
               (tc (r11Points (s5.1) (s6.1)) fun s14 =>
                (tb (s0)
                 (tc (sCheck (s)) fun s16 =>
                  (tc (r11Check (s)) fun s17 =>
                   (tb ((s16 == s17))
                    (tb (s14)
                     (tb ((s3.2 == s4.2))
                      (tb ((s5.2 == s6.2))
                       (tc (sIds (s)) fun s22 =>
                        (tc (r11Ids (s)) fun s23 =>
                         (tc (numbers (s22) (s23)) fun s24 =>
                          (some (s24)))))
                       none /- false -/)
                      none /- false -/)
                     none /- false -/)
                    none /- false -/)))
                 none /- false -/))
               none /- false -/)))))
          none /- false -/)))))))))
abbrev lStateTells_G (s : Sa) (blocks : Int) (id : Int) (r : Bool) : Prop := EvFr Try.prog cf false 4 [Sa.av (s), .i (blocks), .i (id)] (.b (r))
theorem lStateTells_l0 (s : Sa) (blocks : Int) (id : Int) (s0 : Bool) (h0 : aw11 = some s0) (s1 : Bool) (h1 : few11 (s) = some s1) (h2 : ((!s1)) = true) : lStateTells_G s blocks id (s0) :=
  leafR vw_eq (k := 300) (r := []) (hs := hz [(3, [.fres (.b (s0))]), (2, [.cells ([(AV.i s.blocks), (AV.i s.gen), (AV.sl (List.length s.map) (List.flatMap Ex.cells s.map)), (AV.sl (List.length s.points) (List.flatMap Po.cells s.points)), (AV.i s.last), (AV.sl (List.length s.staged) (List.map AV.y s.staged))])]), (1, [.fres (.b (s1))]), (1, [.yes]), (2, [])]) (raw := (AV.b s0)) kq (ac (aw11_ok  _ h0).any0 (ac (Eq.refl ([(AV.i s.blocks), (AV.i s.gen), (AV.sl (List.length s.map) (List.flatMap Ex.cells s.map)), (AV.sl (List.length s.points) (List.flatMap Po.cells s.points)), (AV.i s.last), (AV.sl (List.length s.staged) (List.map AV.y s.staged))] : List AV)) (ac (few11_ok (s) _ h1).any0 (ac h2 an)))) tq
theorem lStateTells_l1 (s : Sa) (blocks : Int) (id : Int) (s0 : Bool) (h0 : aw11 = some s0) (s1 : Bool) (h1 : few11 (s) = some s1) (h2 : ((!s1)) = false) (s3 : Sa × Int) (h3 : sNew (blocks) = some s3) (s4 : Sa × Int) (h4 : r11New (blocks) = some s4) (s5 : Po × Int) (h5 : sPoint (s) (id) = some s5) (s6 : Po × Int) (h6 : r11Point (s) (id) = some s6) (s7 : Bool) (h7 : r11Same (s3.1) (s4.1) = some s7) (h8 : (s7) = true) (s9 : Sa) (h9 : sCopy (s) = some s9) (s10 : Sa) (h10 : r11Copy (s) = some s10) (h11 : (((0 : Nat) = (0 : Nat)) ∧ ((List.length (List.flatMap Ex.cells s9.map)) = ((List.length s9.map) * (5 : Nat))))) (s12 : Bool) (h12 : r11Same (s9) (s10) = some s12) (h13 : (s12) = true) (s14 : Bool) (h14 : r11Points (s5.1) (s6.1) = some s14) (h15 : (s0) = true) (s16 : Int) (h16 : sCheck (s) = some s16) (s17 : Int) (h17 : r11Check (s) = some s17) (h18 : ((s16 == s17)) = true) (h18p : (s16 = s17)) (h19 : (s14) = true) (h20 : ((s3.2 == s4.2)) = true) (h20p : (s3.2 = s4.2)) (h21 : ((s5.2 == s6.2)) = true) (h21p : (s5.2 = s6.2)) (s22 : List Int) (h22 : sIds (s) = some s22) (s23 : List Int) (h23 : r11Ids (s) = some s23) (s24 : Bool) (h24 : numbers (s22) (s23) = some s24) : lStateTells_G s blocks id (s24) :=
  leafR vw_eq (k := 300) (r := []) (hs := hz [(3, [.fres (.b (s0))]), (2, [.cells ([(AV.i s.blocks), (AV.i s.gen), (AV.sl (List.length s.map) (List.flatMap Ex.cells s.map)), (AV.sl (List.length s.points) (List.flatMap Po.cells s.points)), (AV.i s.last), (AV.sl (List.length s.staged) (List.map AV.y s.staged))])]), (1, [.fres (.b (s1))]), (1, [.no]), (2, [.fres (.tu [Sa.av (s3.1), .i (s3.2)])]), (5, [.cells ([(AV.i s3.1.blocks), (AV.i s3.1.gen), (AV.sl (List.length s3.1.map) (List.flatMap Ex.cells s3.1.map)), (AV.sl (List.length s3.1.points) (List.flatMap Po.cells s3.1.points)), (AV.i s3.1.last), (AV.sl (List.length s3.1.staged) (List.map AV.y s3.1.staged))])]), (3, [.fres (.tu [Sa.av (s4.1), .i (s4.2)])]), (5, [.cells ([(AV.i s4.1.blocks), (AV.i s4.1.gen), (AV.sl (List.length s4.1.map) (List.flatMap Ex.cells s4.1.map)), (AV.sl (List.length s4.1.points) (List.flatMap Po.cells s4.1.points)), (AV.i s4.1.last), (AV.sl (List.length s4.1.staged) (List.map AV.y s4.1.staged))])]), (2, [.cells ([(AV.i s.blocks), (AV.i s.gen), (AV.sl (List.length s.map) (List.flatMap Ex.cells s.map)), (AV.sl (List.length s.points) (List.flatMap Po.cells s.points)), (AV.i s.last), (AV.sl (List.length s.staged) (List.map AV.y s.staged))])]), (2, [.fres (.tu [Po.av (s5.1), .i (s5.2)])]), (5, [.cells ([(AV.i s5.1.id), (AV.i s5.1.gen), (AV.sl (List.length s5.1.map) (List.flatMap Ex.cells s5.1.map))])]), (2, [.cells ([(AV.i s.blocks), (AV.i s.gen), (AV.sl (List.length s.map) (List.flatMap Ex.cells s.map)), (AV.sl (List.length s.points) (List.flatMap Po.cells s.points)), (AV.i s.last), (AV.sl (List.length s.staged) (List.map AV.y s.staged))])]), (2, [.fres (.tu [Po.av (s6.1), .i (s6.2)])]), (5, [.cells ([(AV.i s6.1.id), (AV.i s6.1.gen), (AV.sl (List.length s6.1.map) (List.flatMap Ex.cells s6.1.map))])]), (2, [.cells ([(AV.i s3.1.blocks), (AV.i s3.1.gen), (AV.sl (List.length s3.1.map) (List.flatMap Ex.cells s3.1.map)), (AV.sl (List.length s3.1.points) (List.flatMap Po.cells s3.1.points)), (AV.i s3.1.last), (AV.sl (List.length s3.1.staged) (List.map AV.y s3.1.staged))])]), (1, [.cells ([(AV.i s4.1.blocks), (AV.i s4.1.gen), (AV.sl (List.length s4.1.map) (List.flatMap Ex.cells s4.1.map)), (AV.sl (List.length s4.1.points) (List.flatMap Po.cells s4.1.points)), (AV.i s4.1.last), (AV.sl (List.length s4.1.staged) (List.map AV.y s4.1.staged))])]), (1, [.fres (.b (s7))]), (1, [.yes]), (1, [.cells ([(AV.i s.blocks), (AV.i s.gen), (AV.sl (List.length s.map) (List.flatMap Ex.cells s.map)), (AV.sl (List.length s.points) (List.flatMap Po.cells s.points)), (AV.i s.last), (AV.sl (List.length s.staged) (List.map AV.y s.staged))]), .yes]), (1, [.fres (Sa.av (s9)), .yes]), (1, [.cells ([(AV.i s.blocks), (AV.i s.gen), (AV.sl (List.length s.map) (List.flatMap Ex.cells s.map)), (AV.sl (List.length s.points) (List.flatMap Po.cells s.points)), (AV.i s.last), (AV.sl (List.length s.staged) (List.map AV.y s.staged))]), .yes]), (1, [.fres (Sa.av (s10)), .yes]), (1, [.yes, .yes, .yes, .yes, .yes, .yes, .yes, .yes, .yes, .yes, .yes, .yes, .fres (.b (s12)), .yes]), (1, [.yes]), (1, [.cells ([(AV.i s5.1.id), (AV.i s5.1.gen), (AV.sl (List.length s5.1.map) (List.flatMap Ex.cells s5.1.map))]), .yes]), (1, [.cells ([(AV.i s6.1.id), (AV.i s6.1.gen), (AV.sl (List.length s6.1.map) (List.flatMap Ex.cells s6.1.map))]), .yes]), (1, [.fres (.b (s14)), .yes]), (1, [.yes]), (2, [.yes]), (1, [.cells ([(AV.i s.blocks), (AV.i s.gen), (AV.sl (List.length s.map) (List.flatMap Ex.cells s.map)), (AV.sl (List.length s.points) (List.flatMap Po.cells s.points)), (AV.i s.last), (AV.sl (List.length s.staged) (List.map AV.y s.staged))]), .yes]), (1, [.fres (.i (s16)), .yes]), (1, [.cells ([(AV.i s.blocks), (AV.i s.gen), (AV.sl (List.length s.map) (List.flatMap Ex.cells s.map)), (AV.sl (List.length s.points) (List.flatMap Po.cells s.points)), (AV.i s.last), (AV.sl (List.length s.staged) (List.map AV.y s.staged))]), .yes]), (1, [.fres (.i (s17)), .yes]), (1, [.yes]), (1, [.yes]), (1, [.yes]), (1, [.yes]), (1, [.yes]), (1, [.yes]), (1, [.yes]), (1, [.yes]), (1, [.yes]), (1, [.yes]), (1, [.yes]), (1, [.yes]), (1, [.cells ([(AV.i s.blocks), (AV.i s.gen), (AV.sl (List.length s.map) (List.flatMap Ex.cells s.map)), (AV.sl (List.length s.points) (List.flatMap Po.cells s.points)), (AV.i s.last), (AV.sl (List.length s.staged) (List.map AV.y s.staged))]), .yes]), (1, [.fres (ints (s22)), .yes]), (1, [.cells ([(AV.i s.blocks), (AV.i s.gen), (AV.sl (List.length s.map) (List.flatMap Ex.cells s.map)), (AV.sl (List.length s.points) (List.flatMap Po.cells s.points)), (AV.i s.last), (AV.sl (List.length s.staged) (List.map AV.y s.staged))]), .yes]), (1, [.fres (ints (s23)), .yes]), (1, [.fres (.b (s24)), .yes]), (1, [.yes])]) (raw := (AV.b s24)) kq (ac (aw11_ok  _ h0).any0 (ac (Eq.refl ([(AV.i s.blocks), (AV.i s.gen), (AV.sl (List.length s.map) (List.flatMap Ex.cells s.map)), (AV.sl (List.length s.points) (List.flatMap Po.cells s.points)), (AV.i s.last), (AV.sl (List.length s.staged) (List.map AV.y s.staged))] : List AV)) (ac (few11_ok (s) _ h1).any0 (ac h2 (ac (sNew_ok (blocks) _ h3) (ac (Eq.refl ([(AV.i s3.1.blocks), (AV.i s3.1.gen), (AV.sl (List.length s3.1.map) (List.flatMap Ex.cells s3.1.map)), (AV.sl (List.length s3.1.points) (List.flatMap Po.cells s3.1.points)), (AV.i s3.1.last), (AV.sl (List.length s3.1.staged) (List.map AV.y s3.1.staged))] : List AV)) (ac (r11New_ok (blocks) _ h4) (ac (Eq.refl ([(AV.i s4.1.blocks), (AV.i s4.1.gen), (AV.sl (List.length s4.1.map) (List.flatMap Ex.cells s4.1.map)), (AV.sl (List.length s4.1.points) (List.flatMap Po.cells s4.1.points)), (AV.i s4.1.last), (AV.sl (List.length s4.1.staged) (List.map AV.y s4.1.staged))] : List AV)) (ac (Eq.refl ([(AV.i s.blocks), (AV.i s.gen), (AV.sl (List.length s.map) (List.flatMap Ex.cells s.map)), (AV.sl (List.length s.points) (List.flatMap Po.cells s.points)), (AV.i s.last), (AV.sl (List.length s.staged) (List.map AV.y s.staged))] : List AV)) (ac (sPoint_ok (s) (id) _ h5) (ac (Eq.refl ([(AV.i s5.1.id), (AV.i s5.1.gen), (AV.sl (List.length s5.1.map) (List.flatMap Ex.cells s5.1.map))] : List AV)) (ac (Eq.refl ([(AV.i s.blocks), (AV.i s.gen), (AV.sl (List.length s.map) (List.flatMap Ex.cells s.map)), (AV.sl (List.length s.points) (List.flatMap Po.cells s.points)), (AV.i s.last), (AV.sl (List.length s.staged) (List.map AV.y s.staged))] : List AV)) (ac (r11Point_ok (s) (id) _ h6) (ac (Eq.refl ([(AV.i s6.1.id), (AV.i s6.1.gen), (AV.sl (List.length s6.1.map) (List.flatMap Ex.cells s6.1.map))] : List AV)) (ac (Eq.refl ([(AV.i s3.1.blocks), (AV.i s3.1.gen), (AV.sl (List.length s3.1.map) (List.flatMap Ex.cells s3.1.map)), (AV.sl (List.length s3.1.points) (List.flatMap Po.cells s3.1.points)), (AV.i s3.1.last), (AV.sl (List.length s3.1.staged) (List.map AV.y s3.1.staged))] : List AV)) (ac (Eq.refl ([(AV.i s4.1.blocks), (AV.i s4.1.gen), (AV.sl (List.length s4.1.map) (List.flatMap Ex.cells s4.1.map)), (AV.sl (List.length s4.1.points) (List.flatMap Po.cells s4.1.points)), (AV.i s4.1.last), (AV.sl (List.length s4.1.staged) (List.map AV.y s4.1.staged))] : List AV)) (ac (r11Same_ok (s3.1) (s4.1) _ h7).any0 (ac h8 (ac (Eq.refl ([(AV.i s.blocks), (AV.i s.gen), (AV.sl (List.length s.map) (List.flatMap Ex.cells s.map)), (AV.sl (List.length s.points) (List.flatMap Po.cells s.points)), (AV.i s.last), (AV.sl (List.length s.staged) (List.map AV.y s.staged))] : List AV)) (ac h8 (ac (sCopy_ok (s) _ h9) (ac h8 (ac (Eq.refl ([(AV.i s.blocks), (AV.i s.gen), (AV.sl (List.length s.map) (List.flatMap Ex.cells s.map)), (AV.sl (List.length s.points) (List.flatMap Po.cells s.points)), (AV.i s.last), (AV.sl (List.length s.staged) (List.map AV.y s.staged))] : List AV)) (ac h8 (ac (r11Copy_ok (s) _ h10) (ac h8 (ac h11 (ac (pq (p := Pl Bool.false ((List.flatMap Ex.cells s9.map)))) (ac (fq (p := (((0 : Nat) = (0 : Nat)) ∧ ((List.length (List.flatMap Po.cells s9.points)) = ((List.length s9.points) * (3 : Nat)))))) (ac (pq (p := Pl Bool.false ((List.flatMap Po.cells s9.points)))) (ac (tq (p := (((0 : Nat) = (0 : Nat)) ∧ ((List.length (List.map AV.y s9.staged)) = ((List.length s9.staged) * (1 : Nat)))))) (ac (pq (p := Pl Bool.false ((List.map AV.y s9.staged)))) (ac (fq (p := (((0 : Nat) = (0 : Nat)) ∧ ((List.length (List.flatMap Ex.cells s10.map)) = ((List.length s10.map) * (5 : Nat)))))) (ac (pq (p := Pl Bool.false ((List.flatMap Ex.cells s10.map)))) (ac (fq (p := (((0 : Nat) = (0 : Nat)) ∧ ((List.length (List.flatMap Po.cells s10.points)) = ((List.length s10.points) * (3 : Nat)))))) (ac (pq (p := Pl Bool.false ((List.flatMap Po.cells s10.points)))) (ac (tq (p := (((0 : Nat) = (0 : Nat)) ∧ ((List.length (List.map AV.y s10.staged)) = ((List.length s10.staged) * (1 : Nat)))))) (ac (pq (p := Pl Bool.false ((List.map AV.y s10.staged)))) (ac (r11Same_ok (s9) (s10) _ h12) (ac h8 (ac h13 (ac (Eq.refl ([(AV.i s5.1.id), (AV.i s5.1.gen), (AV.sl (List.length s5.1.map) (List.flatMap Ex.cells s5.1.map))] : List AV)) (ac h13 (ac (Eq.refl ([(AV.i s6.1.id), (AV.i s6.1.gen), (AV.sl (List.length s6.1.map) (List.flatMap Ex.cells s6.1.map))] : List AV)) (ac h13 (ac (r11Points_ok (s5.1) (s6.1) _ h14).any0 (ac h13 (ac (show orderOk (rg Try.prog 4 0) = true ∧ allOk (Region.before (rg Try.prog 4 0)) [] 0 [(some [1], some []), (some [2], some []), (some [], some []), (some [], some []), (some [0], some []), (some [], some [5, 6, 7]), (some [0], some []), (some [], some [8, 9, 10]), (some [5, 6, 7, 8, 9, 10], some []), (some [], some []), (some [], some []), (some [3], some []), (some [4], some []), (some [], some []), (some [], some []), (some [], some [])] = true from (ord_of ord_4_0 bef_4_0 kq)) (ac h15 (ac (Eq.refl ([(AV.i s.blocks), (AV.i s.gen), (AV.sl (List.length s.map) (List.flatMap Ex.cells s.map)), (AV.sl (List.length s.points) (List.flatMap Po.cells s.points)), (AV.i s.last), (AV.sl (List.length s.staged) (List.map AV.y s.staged))] : List AV)) (ac h15 (ac (sCheck_ok (s) _ h16).any0 (ac h15 (ac (Eq.refl ([(AV.i s.blocks), (AV.i s.gen), (AV.sl (List.length s.map) (List.flatMap Ex.cells s.map)), (AV.sl (List.length s.points) (List.flatMap Po.cells s.points)), (AV.i s.last), (AV.sl (List.length s.staged) (List.map AV.y s.staged))] : List AV)) (ac h15 (ac (r11Check_ok (s) _ h17).any0 (ac h15 (ac h15 (ac h18 (ac h18 (ac h19 (ac h19 (ac h19 (ac h19 (ac h20 (ac h20 (ac h20 (ac h20 (ac h21 (ac (Eq.refl ([(AV.i s.blocks), (AV.i s.gen), (AV.sl (List.length s.map) (List.flatMap Ex.cells s.map)), (AV.sl (List.length s.points) (List.flatMap Po.cells s.points)), (AV.i s.last), (AV.sl (List.length s.staged) (List.map AV.y s.staged))] : List AV)) (ac h21 (ac (sIds_ok (s) _ h22).any0 (ac h21 (ac (Eq.refl ([(AV.i s.blocks), (AV.i s.gen), (AV.sl (List.length s.map) (List.flatMap Ex.cells s.map)), (AV.sl (List.length s.points) (List.flatMap Po.cells s.points)), (AV.i s.last), (AV.sl (List.length s.staged) (List.map AV.y s.staged))] : List AV)) (ac h21 (ac (r11Ids_ok (s) _ h23).any0 (ac h21 (ac (numbers_ok (s22) (s23) _ h24).any0 (ac h21 (ac (show orderOk (rg Try.prog 4 1) = true ∧ allOk (Region.before (rg Try.prog 4 1)) [] 0 [(some [], some []), (some [], some []), (some [0], some []), (some [], some []), (some [0], some []), (some [], some []), (some [], some []), (some [], some []), (some [], some []), (some [], some []), (some [], some []), (some [], some []), (some [], some []), (some [], some []), (some [], some []), (some [], some []), (some [], some []), (some [], some []), (some [], some []), (some [], some []), (some [], some []), (some [], some []), (some [0], some []), (some [], some []), (some [0], some []), (some [], some []), (some [], some []), (some [], some []), (some [], some [])] = true from (ord_of ord_4_1 bef_4_1 kq)) an)))))))))))))))))))))))))))))))))))))))))))))))))))))))))))))))))))))))))))))))) tq
theorem lStateTells_ok (s : Sa) (blocks : Int) (id : Int) (r : Bool) : lStateTells s blocks id = some r → lStateTells_G s blocks id r := by
  unfold lStateTells
  refine tc_ok (fun s0 h0 => ?_)
  refine tc_ok (fun s1 h1 => ?_)
  refine tb_ok (fun h2 => ?_) (fun h2 => ?_)
  ·
    exact fun e => tl_ok (G := lStateTells_G s blocks id) (lStateTells_l0 s blocks id s0 h0 s1 h1 h2) e
  ·
    refine tc_ok (fun s3 h3 => ?_)
    refine tc_ok (fun s4 h4 => ?_)
    refine tc_ok (fun s5 h5 => ?_)
    refine tc_ok (fun s6 h6 => ?_)
    refine tc_ok (fun s7 h7 => ?_)
    refine tb_ok (fun h8 => ?_) (fun h8 => ?_)
    ·
      refine tc_ok (fun s9 h9 => ?_)
      refine tc_ok (fun s10 h10 => ?_)
      refine tp_ok (fun h11 => ?_)
      refine tc_ok (fun s12 h12 => ?_)
      refine tb_ok (fun h13 => ?_) (fun h13 => ?_)
      ·
        refine tc_ok (fun s14 h14 => ?_)
        refine tb_ok (fun h15 => ?_) (fun h15 => ?_)
        ·
          refine tc_ok (fun s16 h16 => ?_)
          refine tc_ok (fun s17 h17 => ?_)
          refine tb_ok (fun h18 => ?_) (fun h18 => ?_)
          ·
            have h18p := eq_of_beq h18
            refine tb_ok (fun h19 => ?_) (fun h19 => ?_)
            ·
              refine tb_ok (fun h20 => ?_) (fun h20 => ?_)
              ·
                have h20p := eq_of_beq h20
                refine tb_ok (fun h21 => ?_) (fun h21 => ?_)
                ·
                  have h21p := eq_of_beq h21
                  refine tc_ok (fun s22 h22 => ?_)
                  refine tc_ok (fun s23 h23 => ?_)
                  refine tc_ok (fun s24 h24 => ?_)
                  exact fun e => tl_ok (G := lStateTells_G s blocks id) (lStateTells_l1 s blocks id s0 h0 s1 h1 h2 s3 h3 s4 h4 s5 h5 s6 h6 s7 h7 h8 s9 h9 s10 h10 h11 s12 h12 h13 s14 h14 h15 s16 h16 s17 h17 h18 h18p h19 h20 h20p h21 h21p s22 h22 s23 h23 s24 h24) e
                ·
                  have h21p := ne_of_beq_false h21
                  exact fun e => nomatch e
              ·
                have h20p := ne_of_beq_false h20
                exact fun e => nomatch e
            ·
              exact fun e => nomatch e
          ·
            have h18p := ne_of_beq_false h18
            exact fun e => nomatch e
        ·
          exact fun e => nomatch e
      ·
        exact fun e => nomatch e
    ·
      exact fun e => nomatch e
end Ab
end Go.Proofs.Ytimcbhhebnikiaa
namespace Go.Proofs.Ytimcbhhebnikiaa
open Go Go.Proofs.Ytimcbhhebnikiaa.Ab
set_option linter.unusedVariables false
set_option linter.unusedSimpArgs false
namespace Ab
theorem nw_sy (blocks : Int) : Sy (nw blocks).1 := by
  unfold nw
  split
  · exact ⟨by simp, by simp, fun p hp => by cases hp⟩
  · exact sa0_sy
theorem cpy_sy {s : Sa} (h : Sz s) : Sy (cpy s) := by
  unfold cpy
  split
  · exact sz_sy h
  · exact sa0_sy
theorem pnt_len {s : Sa} (h : Sz s) (id : Int) : (pnt s id).1.map.length ≤ 1000 := by
  unfold pnt
  split
  · cases hf : fd s.points id with
    | none => simp [fdv, po0]
    | some p => exact ((sz_sy h).2.2 p (List.mem_of_find?_eq_some hf))
  · simp [po0]
theorem lStateTells_true (s : Sa) (blocks id : Int) : lStateTells s blocks id = some true := by
  unfold lStateTells
  have ha : aw11 = some true := rfl
  rw [ha, tc_some, few11_eq, tc_some, tb_not, tb_dec]
  by_cases hf : FewS s
  case neg => rw [if_neg hf]
  have hz := fews_sz hf
  rw [if_pos hf, sNew_eq, tc_some, r11New_eq, tc_some, sPoint_eq hz, tc_some, r11Point_eq hz, tc_some, r11Same_eq _ _ (nw_sy blocks), tc_some, decide_eq_true rfl, tb_t, sCopy_eq hz, tc_some, r11Copy_eq hz, tc_some, tp_pos ⟨rfl, exs_len _⟩, r11Same_eq _ _ (cpy_sy hz), tc_some, decide_eq_true rfl, tb_t, r11Points_eq _ _ (pnt_len hz id), tc_some, decide_eq_true rfl, tb_t, sCheck_eq hz, tc_some, r11Check_eq hz, tc_some, tb_beq, if_pos rfl, tb_t, tb_beq, if_pos rfl, tb_beq, if_pos rfl, sIds_eq hz, tc_some, r11Ids_eq hz, tc_some, numbers_eq _ _ (by rw [List.length_map]; have := (cpy_sy hz).2.1; omega), tc_some, decide_eq_true rfl]
theorem stateTells_call (s : Sa) (blocks id : Int) (_ : Sa.ok s) (_ : I64 blocks) (_ : I64 id) : EvFr Try.prog cf false 4 [s.av, .i blocks, .i id] (.b true) := lStateTells_ok s blocks id true (lStateTells_true s blocks id)
end Ab
end Go.Proofs.Ytimcbhhebnikiaa
