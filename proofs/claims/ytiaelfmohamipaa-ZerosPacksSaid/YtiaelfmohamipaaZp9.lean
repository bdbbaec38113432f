/- The law 'ZerosPacks': it returns true, and nothing that was there changes. No condition. (Part 9 of 13.) -/
import Derived.Test.YtiaelfmohamipaaZp8
import Derived.Test.YtiaelfmohamipaaRows
namespace Go.Proofs.Ytiaelfmohamipaa
open Go Go.Proofs.Ytiaelfmohamipaa.Ab
set_option linter.unusedVariables false
set_option linter.unusedSimpArgs false
namespace Ab
def jnx (a b : Ex) : Ex := ⟨a.lba, a.len + b.len, a.kind, a.gen, a.d ++ b.d⟩
def jnv (a b : Ex) : Ex × Int := if Jn a b then (jnx a b, 0) else (⟨0, 0, 0, 0, []⟩, 70)
theorem ck_dlen {x : Ex} (h : Ck x) : x.d.length ≤ 2048 := by
  unfold Ck at h
  by_cases hk : x.kind = 2
  · have := h.2.2.2.2.2.2.2.2.1 hk; omega
  · have := h.2.2.2.2.2.2.2.2.2 hk; rw [this]; simp
theorem eJoin_eq (a b : Ex) : eJoin a b = some (jnv a b) := by
  unfold eJoin jnv
  rw [eJoins_eq, tc_some, tb_not]
  by_cases h : Jn a b
  case neg => rw [jn_f h, tb_f, if_neg h]
  have ha := ck_dlen h.1
  have hb := ck_dlen h.2.1
  have ca := h.1
  have cb := h.2.1
  unfold Ck at ca cb
  rw [jn_t h, tb_t, if_pos h, wr_id (by omega) (by omega), tp_pos (by omega), tp_pos (by rw [List.length_map]; omega)]
  rfl
def add (out : List Ex) (y : Ex) : List Ex := if out ≠ [] ∧ Jn (out.getLastD ⟨0, 0, 0, 0, []⟩) y then out.dropLast ++ [jnx (out.getLastD ⟨0, 0, 0, 0, []⟩) y] else out ++ [y]
theorem add_nil (y : Ex) : add [] y = [y] := by unfold add; simp
theorem add_jn {out : List Ex} {y : Ex} (h0 : out ≠ []) (h : Jn (out.getLastD ⟨0, 0, 0, 0, []⟩) y) : add out y = out.dropLast ++ [jnx (out.getLastD ⟨0, 0, 0, 0, []⟩) y] := by unfold add; rw [if_pos ⟨h0, h⟩]
theorem add_no {out : List Ex} {y : Ex} (h : ¬ Jn (out.getLastD ⟨0, 0, 0, 0, []⟩) y) : add out y = out ++ [y] := by unfold add; rw [if_neg fun g => h g.2]
theorem add_len (out : List Ex) (y : Ex) : (add out y).length ≤ out.length + 1 := by
  unfold add
  split
  · first | (simp; done) | (simp; omega)
  · simp
theorem adds_len : ∀ (ys out : List Ex), (ys.foldl add out).length ≤ out.length + ys.length
  | [], out => by simp
  | y :: ys, out => by
    have := adds_len ys (add out y)
    have := add_len out y
    simp only [List.foldl_cons, List.length_cons]; omega
theorem last_at (out : List Ex) (h : out ≠ []) (k : Nat) (hk : k = out.length - 1) : exAt out k = out.getLastD ⟨0, 0, 0, 0, []⟩ := by
  subst hk
  have : 0 < out.length := List.length_pos_iff.2 h
  unfold exAt
  rw [List.getD_eq_getElem?_getD, List.getLastD_eq_getLast?, List.getLast?_eq_getElem?]
theorem set_last_ex (out : List Ex) (h : out ≠ []) (k : Nat) (hk : k = out.length - 1) (v : Ex) : out.set k v = out.dropLast ++ [v] := by
  subst hk
  have e : out = out.dropLast ++ [out.getLast h] := (List.dropLast_concat_getLast h).symm
  have hl : out.length - 1 = out.dropLast.length := by simp
  rw [hl]
  conv => lhs; rw [e]
  rw [List.set_append_right _ _ (by simp)]
  simp
end Ab
end Go.Proofs.Ytiaelfmohamipaa
namespace Go.Proofs.Ytiaelfmohamipaa
open Go Go.Proofs.Ytiaelfmohamipaa.Ab
set_option linter.unusedVariables false
set_option linter.unusedSimpArgs false
set_option maxRecDepth 1000000
namespace Ab
noncomputable abbrev pTold_L0_I (x : Ex) (s1 : List Ex × Int) : St := (St.mk [(0, (AV.ag (xc x))), (1, (AV.pt 0 0)), (2, AV.nl), (6, (AV.pt 0 2)), (7, (AV.i x.kind)), (8, (AV.b (x.kind != (2 : Int)))), (13, (AV.pt 0 0)), (14, (AV.i x.lba)), (15, (AV.pt 0 4)), (16, (bys x.d)), (17, (AV.tu [(AV.rf 1 5 0 (List.length s1.1)), (AV.i s1.2)])), (12, (AV.tu [(AV.rf 1 5 0 (List.length s1.1)), (AV.i s1.2)])), (18, (AV.rf 1 5 0 (List.length s1.1))), (19, (AV.i s1.2)), (3, (AV.rf 1 5 0 (List.length s1.1))), (4, (AV.i s1.2)), (20, (AV.rf 1 5 0 (List.length s1.1))), (21, (AV.i (↑(List.length s1.1) : Int))), (22, (AV.i 0))] 33 (AH.mk 2 [(1, (AObj.cells (List.flatMap Ex.cells s1.1))), (0, (AObj.cells (xc x)))]) Bool.false)
noncomputable abbrev pTold_L0_S (x : Ex) (s1 : List Ex × Int) (s2 : Int × List Ex) : St := (St.mk [(0, (AV.ag (xc x))), (1, (AV.pt 0 0)), (2, AV.nl), (8, (AV.b (x.kind != (2 : Int)))), (3, (AV.rf 1 5 0 (List.length s1.1))), (21, (AV.i (↑(List.length s1.1) : Int))), (22, (AV.i s2.1))] 33 (AH.mk 2 [(1, (AObj.cells (List.flatMap Ex.cells s2.2))), (0, (AObj.cells (xc x)))]) Bool.false)
noncomputable def pTold_L0_step (x : Ex) (s1 : List Ex × Int) (s2 : Int × List Ex) : Option (Int × List Ex) :=
 (tb ((decide (s2.1 < (↑(List.length s1.1) : Int))))
  (tp ((((0 : Int) ≤ s2.1) ∧ (s2.1 < (↑(List.length s1.1) : Int))))
   (tp ((((List.length [(AV.i x.gen)]) = (1 : Nat)) ∧ (((((0 : Nat) + ((Int.toNat s2.1) * (5 : Nat))) + (3 : Nat)) + (List.length [(AV.i x.gen)])) ≤ (List.length (List.flatMap Ex.cells s2.2)))))
    (some (((wr (s2.1 + (1 : Int))), (List.set s2.2 (Int.toNat s2.1) (Ex.mk (exAt s2.2 (Int.toNat s2.1)).lba (exAt s2.2 (Int.toNat s2.1)).len (exAt s2.2 (Int.toNat s2.1)).kind x.gen (exAt s2.2 (Int.toNat s2.1)).d)))))))
  none /- exit -/)
theorem pTold_L0_s0 (x : Ex) (s1 : List Ex × Int) (s2 : Int × List Ex) (h3 : ((decide (s2.1 < (↑(List.length s1.1) : Int)))) = true) (h3p : (s2.1 < (↑(List.length s1.1) : Int))) (h4 : (((0 : Int) ≤ s2.1) ∧ (s2.1 < (↑(List.length s1.1) : Int)))) (h5 : (((List.length [(AV.i x.gen)]) = (1 : Nat)) ∧ (((((0 : Nat) + ((Int.toNat s2.1) * (5 : Nat))) + (3 : Nat)) + (List.length [(AV.i x.gen)])) ≤ (List.length (List.flatMap Ex.cells s2.2))))) : EvStep Try.prog cf 2 (lp Try.prog 29 0) (pTold_L0_S x s1 s2) (pTold_L0_S x s1 (((wr (s2.1 + (1 : Int))), (List.set s2.2 (Int.toNat s2.1) (Ex.mk (exAt s2.2 (Int.toNat s2.1)).lba (exAt s2.2 (Int.toNat s2.1)).len (exAt s2.2 (Int.toNat s2.1)).kind x.gen (exAt s2.2 (Int.toNat s2.1)).d))))) :=
  leafS vw_eq (k := 300) (r := []) (hs := hz [(1, [.yes]), (7, [.yes]), (1, [.yes, .cells ((List.flatMap Ex.cells (List.set s2.2 (Int.toNat s2.1) (Ex.mk (exAt s2.2 (Int.toNat s2.1)).lba (exAt s2.2 (Int.toNat s2.1)).len (exAt s2.2 (Int.toNat s2.1)).kind x.gen (exAt s2.2 (Int.toNat s2.1)).d))))]), (2, [])]) (st1 := (St.mk [(0, (AV.ag (xc x))), (1, (AV.pt 0 0)), (2, AV.nl), (8, (AV.b (x.kind != (2 : Int)))), (3, (AV.rf 1 5 0 (List.length s1.1))), (21, (AV.i (↑(List.length s1.1) : Int))), (22, (AV.i (wr (s2.1 + (1 : Int))))), (23, (AV.b (decide (s2.1 < (↑(List.length s1.1) : Int))))), (24, (AV.i s2.1)), (5, (AV.i s2.1)), (25, (AV.rf 1 5 0 (List.length s1.1))), (26, (AV.i s2.1)), (27, (AV.pt 0 3)), (28, (AV.i x.gen)), (29, (AV.pt 1 ((0 : Nat) + ((Int.toNat s2.1) * (5 : Nat))))), (30, (AV.pt 1 (((0 : Nat) + ((Int.toNat s2.1) * (5 : Nat))) + (3 : Nat)))), (31, (AV.i (wr (s2.1 + (1 : Int)))))] 33 (AH.mk 2 [(1, (AObj.cells (List.flatMap Ex.cells (List.set s2.2 (Int.toNat s2.1) (Ex.mk (exAt s2.2 (Int.toNat s2.1)).lba (exAt s2.2 (Int.toNat s2.1)).len (exAt s2.2 (Int.toNat s2.1)).kind x.gen (exAt s2.2 (Int.toNat s2.1)).d))))), (0, (AObj.cells (xc x)))]) Bool.false)) kq (ac h3 (ac h4 (ac h5 (ac (show (((List.take (((0 : Nat) + ((Int.toNat s2.1) * (5 : Nat))) + (3 : Nat)) (List.flatMap Ex.cells s2.2)) ++ [(AV.i x.gen)]) ++ (List.drop ((((0 : Nat) + ((Int.toNat s2.1) * (5 : Nat))) + (3 : Nat)) + (List.length [(AV.i x.gen)])) (List.flatMap Ex.cells s2.2))) = (List.flatMap Ex.cells (List.set s2.2 (Int.toNat s2.1) (Ex.mk (exAt s2.2 (Int.toNat s2.1)).lba (exAt s2.2 (Int.toNat s2.1)).len (exAt s2.2 (Int.toNat s2.1)).kind x.gen (exAt s2.2 (Int.toNat s2.1)).d))) from (by rw [show (((0 : Nat) + ((Int.toNat s2.1) * (5 : Nat))) + (3 : Nat)) = ((Int.toNat s2.1)) * 5 + 3 by omega]; exact ex_setf _ _ 3 _ ((Ex.mk (exAt s2.2 (Int.toNat s2.1)).lba (exAt s2.2 (Int.toNat s2.1)).len (exAt s2.2 (Int.toNat s2.1)).kind x.gen (exAt s2.2 (Int.toNat s2.1)).d)) bq (by simp) rfl)) an)))) (Nat.le_of_ble_eq_true rfl) (absB_of [] [] kq (.consn kq (.agp pq) (.consn kq (.pt rfl) (.consn kq .nl0 (.consn kq (.eqv tq rfl) (.consn kq (.rf rfl) (.consn kq (.eqv tq rfl) (.consn kq (.eqv tq rfl) .nil))))))) (.cons (.old rfl rfl (.cells (.pl tq pq))) (.cons (.old rfl rfl (.cells (.pl rfl pq))) .nil)))
theorem pTold_L0_ok (x : Ex) (s1 : List Ex × Int) (s2 zz : Int × List Ex) : pTold_L0_step x s1 s2 = some zz → EvStep Try.prog cf 2 (lp Try.prog 29 0) (pTold_L0_S x s1 s2) (pTold_L0_S x s1 zz) := by
  unfold pTold_L0_step
  refine tb_ok (fun h3 => ?_) (fun h3 => ?_)
  ·
    have h3p := of_decide_eq_true h3
    refine tp_ok (fun h4 => ?_)
    refine tp_ok (fun h5 => ?_)
    exact fun e => tl_ok (G := (fun zz => EvStep Try.prog cf 2 (lp Try.prog 29 0) (pTold_L0_S x s1 s2) (pTold_L0_S x s1 zz))) (pTold_L0_s0 x s1 s2 h3 h3p h4 h5) e
  ·
    have h3p := of_decide_eq_false h3
    exact fun e => nomatch e
noncomputable def pTold (x : Ex) : Option (List Ex) :=
 (tb ((x.kind != (2 : Int)))
  (some ([(Ex.mk x.lba x.len x.kind x.gen ([] : List UInt8))]))
  (tc (pLay (x.lba) (x.d)) fun s1 =>
   (th (pTold_L0_step x s1) (((0 : Int), s1.1)) fun s2 =>
    (tb ((decide (s2.1 < (↑(List.length s1.1) : Int))))
     none /- stop behind an operation -/
     (tp ((((0 : Nat) = (0 : Nat)) ∧ ((List.length (List.flatMap Ex.cells s2.2)) = ((List.length s1.1) * (5 : Nat)))))
      (some (s2.2)))))))
abbrev pTold_G (x : Ex) (r : List Ex) : Prop := EvFr Try.prog cf false 29 [Ex.av (x)] (exs (r))
theorem pTold_l0 (x : Ex) (h0 : ((x.kind != (2 : Int))) = true) (h0p : ¬ (x.kind = (2 : Int))) : pTold_G x ([(Ex.mk x.lba x.len x.kind x.gen ([] : List UInt8))]) :=
  leafR vw_eq (k := 300) (r := []) (hs := hz [(6, [.yes]), (2, [.cells ([(AV.i x.lba), (AV.i x.len), (AV.i x.kind), (AV.i x.gen), AV.nl])]), (1, [.cells ([(AV.i x.lba), (AV.i x.len), (AV.i x.kind), (AV.i x.gen), AV.nl])]), (1, [.cells ([(AV.i x.lba), (AV.i x.len), (AV.i x.kind), (AV.i x.gen), AV.nl]), .cells ([(AV.i x.lba), (AV.i x.len), (AV.i x.kind), (AV.i x.gen), AV.nl])]), (1, [.yes]), (1, [])]) (raw := (AV.sl 1 [(AV.i x.lba), (AV.i x.len), (AV.i x.kind), (AV.i x.gen), (AV.sl 0 ([] : List AV))])) kq (ac h0 (ac (Eq.refl ([(AV.i x.lba), (AV.i x.len), (AV.i x.kind), (AV.i x.gen), AV.nl] : List AV)) (ac (Eq.refl ([(AV.i x.lba), (AV.i x.len), (AV.i x.kind), (AV.i x.gen), AV.nl] : List AV)) (ac (Eq.refl ([(AV.i x.lba), (AV.i x.len), (AV.i x.kind), (AV.i x.gen), AV.nl] : List AV)) (ac (Eq.refl ([(AV.i x.lba), (AV.i x.len), (AV.i x.kind), (AV.i x.gen), AV.nl] : List AV)) (ac (tq (p := (((0 : Nat) = (0 : Nat)) ∧ ((List.length [(AV.i x.lba), (AV.i x.len), (AV.i x.kind), (AV.i x.gen), AV.nl]) = (5 : Nat))))) an)))))) tq
theorem pTold_l1 (x : Ex) (h0 : ((x.kind != (2 : Int))) = false) (h0p : (x.kind = (2 : Int))) (s1 : List Ex × Int) (h1 : pLay (x.lba) (x.d) = some s1) (s2 : Int × List Ex) (h2 : Runs (pTold_L0_step x s1) (((0 : Int), s1.1)) s2) (h3 : ((decide (s2.1 < (↑(List.length s1.1) : Int)))) = false) (h3p : ¬ (s2.1 < (↑(List.length s1.1) : Int))) (h4 : (((0 : Nat) = (0 : Nat)) ∧ ((List.length (List.flatMap Ex.cells s2.2)) = ((List.length s1.1) * (5 : Nat))))) : pTold_G x (s2.2) :=
  leafR vw_eq (k := 300) (r := []) (hs := hz [(6, [.no]), (7, [.fres (.tu [exs (s1.1), .i (s1.2)])]), (8, [.head (pTold_L0_S x s1 s2)]), (1, [.no]), (2, [.yes, .yes])]) (raw := (AV.sl (List.length s1.1) (List.flatMap Ex.cells s2.2))) kq (ac h0 (ac (pLay_ok (x.lba) (x.d) _ h1) (ac (show EvHead Try.prog cf (lp Try.prog 29 0) (pTold_L0_I x s1) (pTold_L0_S x s1 s2) from (EvHead.of (pTold_L0_ok x s1) (absB_of [] [] kq (.consn kq (.agp pq) (.consn kq (.pt rfl) (.consn kq .nl0 (.consn kq (.eqv tq rfl) (.consn kq (.rf rfl) (.consn kq (.eqv tq rfl) (.consn kq (.eqv tq rfl) .nil))))))) (.cons (.old rfl rfl (.cells (.pl tq pq))) (.cons (.old rfl rfl (.cells (.pl rfl pq))) .nil))) h2)) (ac h3 (ac h4 (ac (pq (p := Pl Bool.false ((List.flatMap Ex.cells s2.2)))) an)))))) tq
theorem pTold_ok (x : Ex) (r : List Ex) : pTold x = some r → pTold_G x r := by
  unfold pTold
  refine tb_ok (fun h0 => ?_) (fun h0 => ?_)
  ·
    have h0p := bne_iff_ne.1 h0
    exact fun e => tl_ok (G := pTold_G x) (pTold_l0 x h0 h0p) e
  ·
    have h0p := bne_eq_false_iff_eq.1 h0
    refine tc_ok (fun s1 h1 => ?_)
    refine th_ok (fun s2 h2 => ?_)
    refine tb_ok (fun h3 => ?_) (fun h3 => ?_)
    ·
      have h3p := of_decide_eq_true h3
      exact fun e => nomatch e
    ·
      have h3p := of_decide_eq_false h3
      refine tp_ok (fun h4 => ?_)
      exact fun e => tl_ok (G := pTold_G x) (pTold_l1 x h0 h0p s1 h1 s2 h2 h3 h3p h4) e
noncomputable abbrev pPack_L1_I (l : List Ex) (s1 : List Ex × Int × Int) (s4 : Bool) (s7 : List Ex) : St := (St.mk [(0, (exs l)), (2, (AV.rf 0 5 0 (List.length s1.1))), (4, (AV.i (wr ((exAt l (Int.toNat s1.2.2)).lba + (exAt l (Int.toNat s1.2.2)).len)))), (14, (AV.b (decide ((↑(List.length l) : Int) > (64 : Int))))), (15, (exs l)), (16, (AV.i (↑(List.length l) : Int))), (17, (AV.i s1.2.2)), (18, (AV.b (decide (s1.2.2 < (↑(List.length l) : Int))))), (19, (AV.ip (List.drop ((Int.toNat s1.2.2) * (5 : Nat)) (List.flatMap Ex.cells l)))), (20, (AV.ag (xc (exAt l (Int.toNat s1.2.2))))), (6, (AV.pt 1 0)), (21, (AV.ag (xc (exAt l (Int.toNat s1.2.2))))), (22, (AV.b s4)), (23, (AV.b (!s4))), (24, (AV.b (!s4))), (25, (AV.pt 1 0)), (26, (AV.i (exAt l (Int.toNat s1.2.2)).lba)), (27, (AV.i s1.2.1)), (28, (AV.b (decide ((exAt l (Int.toNat s1.2.2)).lba < s1.2.1)))), (29, (AV.b (decide ((exAt l (Int.toNat s1.2.2)).lba < s1.2.1)))), (30, (AV.pt 1 0)), (31, (AV.i (exAt l (Int.toNat s1.2.2)).lba)), (32, (AV.pt 1 1)), (33, (AV.i (exAt l (Int.toNat s1.2.2)).len)), (34, (AV.i (wr ((exAt l (Int.toNat s1.2.2)).lba + (exAt l (Int.toNat s1.2.2)).len)))), (35, (AV.ag (xc (exAt l (Int.toNat s1.2.2))))), (36, (exs s7)), (37, (AV.i (↑(List.length s7) : Int))), (38, (AV.i 0))] 70 (AH.mk 2 [(1, (AObj.cells (xc (exAt l (Int.toNat s1.2.2))))), (0, (AObj.cells (List.flatMap Ex.cells s1.1)))]) Bool.false)
noncomputable abbrev pPack_L1_S (l : List Ex) (s1 : List Ex × Int × Int) (s4 : Bool) (s7 : List Ex) (s8 : Int × List Ex × List Ex) : St := (St.mk [(0, (exs l)), (2, (AV.rf 2 5 0 (List.length s8.2.2))), (4, (AV.i (wr ((exAt l (Int.toNat s1.2.2)).lba + (exAt l (Int.toNat s1.2.2)).len)))), (14, (AV.b (decide ((↑(List.length l) : Int) > (64 : Int))))), (15, (exs l)), (16, (AV.i (↑(List.length l) : Int))), (17, (AV.i s1.2.2)), (18, (AV.b (decide (s1.2.2 < (↑(List.length l) : Int))))), (6, (AV.pt 1 0)), (29, (AV.b (decide ((exAt l (Int.toNat s1.2.2)).lba < s1.2.1)))), (36, (exs s7)), (37, (AV.i (↑(List.length s7) : Int))), (38, (AV.i s8.1))] 70 (AH.mk 3 [(1, (AObj.cells (xc (exAt l (Int.toNat s1.2.2))))), (2, (AObj.cells (List.flatMap Ex.cells s8.2.2)))]) Bool.false)
noncomputable def pPack_L1_step (l : List Ex) (s1 : List Ex × Int × Int) (s4 : Bool) (s7 : List Ex) (s8 : Int × List Ex × List Ex) : Option (Int × List Ex × List Ex) :=
 (tb ((decide (s8.1 < (↑(List.length s7) : Int))))
  (tp ((((0 : Int) ≤ s8.1) ∧ (s8.1 < (↑(List.length s7) : Int))))
   (tb ((decide ((↑(List.length s8.2.2) : Int) > (0 : Int))))
    (tp ((((0 : Int) ≤ (wr ((↑(List.length s8.2.2) : Int) - (1 : Int)))) ∧ ((wr ((↑(List.length s8.2.2) : Int) - (1 : Int))) < (↑(List.length s8.2.2) : Int))))
     (tc (eJoin ((exAt s8.2.2 (Int.toNat (wr ((↑(List.length s8.2.2) : Int) - (1 : Int)))))) ((exAt s7 (Int.toNat s8.1)))) fun s13 =>
      (tb ((s13.2 == (0 : Int)))
       (tp ((((List.length (xc s13.1)) = (5 : Nat)) ∧ ((((0 : Nat) + ((Int.toNat (wr ((↑(List.length s8.2.2) : Int) - (1 : Int)))) * (5 : Nat))) + (List.length (xc s13.1))) ≤ (List.length (List.flatMap Ex.cells s8.2.2)))))
        (some (((wr (s8.1 + (1 : Int))), (([] : List Ex), (List.set s8.2.2 (Int.toNat (wr ((↑(List.length s8.2.2) : Int) - (1 : Int)))) s13.1))))))
       (tp ((((List.length (List.flatMap Ex.cells s8.2.2)) = ((List.length s8.2.2) * (5 : Nat))) ∧ (((List.length s8.2.2) + (1 : Nat)) ≤ (4294967296 : Nat))))
        (some (((wr (s8.1 + (1 : Int))), (([] : List Ex), (s8.2.2 ++ [(exAt s7 (Int.toNat s8.1))])))))))))
    (tp ((((List.length (List.flatMap Ex.cells s8.2.2)) = ((List.length s8.2.2) * (5 : Nat))) ∧ (((List.length s8.2.2) + (1 : Nat)) ≤ (4294967296 : Nat))))
     (some (((wr (s8.1 + (1 : Int))), (([] : List Ex), (s8.2.2 ++ [(exAt s7 (Int.toNat s8.1))]))))))))
  none /- exit -/)
theorem pPack_L1_s0 (l : List Ex) (s1 : List Ex × Int × Int) (s4 : Bool) (s7 : List Ex) (s8 : Int × List Ex × List Ex) (h9 : ((decide (s8.1 < (↑(List.length s7) : Int)))) = true) (h9p : (s8.1 < (↑(List.length s7) : Int))) (h10 : (((0 : Int) ≤ s8.1) ∧ (s8.1 < (↑(List.length s7) : Int)))) (h11 : ((decide ((↑(List.length s8.2.2) : Int) > (0 : Int)))) = true) (h11p : ((↑(List.length s8.2.2) : Int) > (0 : Int))) (h12 : (((0 : Int) ≤ (wr ((↑(List.length s8.2.2) : Int) - (1 : Int)))) ∧ ((wr ((↑(List.length s8.2.2) : Int) - (1 : Int))) < (↑(List.length s8.2.2) : Int)))) (s13 : Ex × Int) (h13 : eJoin ((exAt s8.2.2 (Int.toNat (wr ((↑(List.length s8.2.2) : Int) - (1 : Int)))))) ((exAt s7 (Int.toNat s8.1))) = some s13) (h14 : ((s13.2 == (0 : Int))) = true) (h14p : (s13.2 = (0 : Int))) (h15 : (((List.length (xc s13.1)) = (5 : Nat)) ∧ ((((0 : Nat) + ((Int.toNat (wr ((↑(List.length s8.2.2) : Int) - (1 : Int)))) * (5 : Nat))) + (List.length (xc s13.1))) ≤ (List.length (List.flatMap Ex.cells s8.2.2))))) : EvStep Try.prog cf 2 (lp Try.prog 13 1) (pPack_L1_S l s1 s4 s7 s8) (pPack_L1_S l s1 s4 s7 (((wr (s8.1 + (1 : Int))), (([] : List Ex), (List.set s8.2.2 (Int.toNat (wr ((↑(List.length s8.2.2) : Int) - (1 : Int)))) s13.1))))) :=
  leafS vw_eq (k := 300) (r := []) (hs := hz [(1, [.yes, .yes, .yes, .cells ((Ex.cells (exAt s7 (Int.toNat s8.1))))]), (2, [.cells ((xc (exAt s7 (Int.toNat s8.1))))]), (5, [.yes]), (3, [.yes, .yes, .cells ((Ex.cells (exAt s8.2.2 (Int.toNat (wr ((↑(List.length s8.2.2) : Int) - (1 : Int)))))))]), (1, [.cells ((xc (exAt s7 (Int.toNat s8.1))))]), (1, [.fres (.tu [Ex.av (s13.1), .i (s13.2)])]), (5, [.cells ((xc s13.1))]), (1, [.yes]), (2, [.yes]), (4, [.cells ((xc s13.1)), .yes, .yes, .cells ((List.flatMap Ex.cells (List.set s8.2.2 (Int.toNat (wr ((↑(List.length s8.2.2) : Int) - (1 : Int)))) s13.1)))]), (2, [])]) (st1 := (St.mk [(0, (exs l)), (2, (AV.rf 2 5 0 (List.length s8.2.2))), (4, (AV.i (wr ((exAt l (Int.toNat s1.2.2)).lba + (exAt l (Int.toNat s1.2.2)).len)))), (14, (AV.b (decide ((↑(List.length l) : Int) > (64 : Int))))), (15, (exs l)), (16, (AV.i (↑(List.length l) : Int))), (17, (AV.i s1.2.2)), (18, (AV.b (decide (s1.2.2 < (↑(List.length l) : Int))))), (6, (AV.pt 1 0)), (29, (AV.b (decide ((exAt l (Int.toNat s1.2.2)).lba < s1.2.1)))), (36, (exs s7)), (37, (AV.i (↑(List.length s7) : Int))), (38, (AV.i (wr (s8.1 + (1 : Int))))), (39, (AV.b (decide (s8.1 < (↑(List.length s7) : Int))))), (40, (AV.ip (List.drop ((Int.toNat s8.1) * (5 : Nat)) (List.flatMap Ex.cells s7)))), (41, (AV.ag (xc (exAt s7 (Int.toNat s8.1))))), (8, (AV.pt 3 0)), (42, (AV.rf 2 5 0 (List.length s8.2.2))), (43, (AV.i (↑(List.length s8.2.2) : Int))), (9, (AV.i (↑(List.length s8.2.2) : Int))), (44, (AV.i (↑(List.length s8.2.2) : Int))), (45, (AV.b (decide ((↑(List.length s8.2.2) : Int) > (0 : Int))))), (47, (AV.rf 2 5 0 (List.length s8.2.2))), (48, (AV.i (↑(List.length s8.2.2) : Int))), (49, (AV.i (wr ((↑(List.length s8.2.2) : Int) - (1 : Int))))), (50, (AV.pt 2 ((0 : Nat) + ((Int.toNat (wr ((↑(List.length s8.2.2) : Int) - (1 : Int)))) * (5 : Nat))))), (51, (AV.ag (xc (exAt s8.2.2 (Int.toNat (wr ((↑(List.length s8.2.2) : Int) - (1 : Int)))))))), (52, (AV.ag (xc (exAt s7 (Int.toNat s8.1))))), (53, (AV.tu [(AV.ag (xc s13.1)), (AV.i s13.2)])), (46, (AV.tu [(AV.ag (xc s13.1)), (AV.i s13.2)])), (54, (AV.ag (xc s13.1))), (55, (AV.i s13.2)), (10, (AV.pt 4 0)), (11, (AV.i s13.2)), (56, (AV.i s13.2)), (57, (AV.b (s13.2 == (0 : Int)))), (58, (AV.rf 2 5 0 (List.length s8.2.2))), (59, (AV.i (↑(List.length s8.2.2) : Int))), (60, (AV.i (wr ((↑(List.length s8.2.2) : Int) - (1 : Int))))), (61, (AV.ag (xc s13.1))), (62, (AV.pt 2 ((0 : Nat) + ((Int.toNat (wr ((↑(List.length s8.2.2) : Int) - (1 : Int)))) * (5 : Nat))))), (67, (AV.i (wr (s8.1 + (1 : Int)))))] 70 (AH.mk 5 [(4, (AObj.cells (xc s13.1))), (3, (AObj.cells (xc (exAt s7 (Int.toNat s8.1))))), (1, (AObj.cells (xc (exAt l (Int.toNat s1.2.2))))), (2, (AObj.cells (List.flatMap Ex.cells (List.set s8.2.2 (Int.toNat (wr ((↑(List.length s8.2.2) : Int) - (1 : Int)))) s13.1))))]) Bool.false)) kq (ac h9 (ac h10 (ac (fq (p := ((5 : Nat) ≤ (List.length (List.drop ((Int.toNat s8.1) * (5 : Nat)) (List.flatMap Ex.cells s7)))))) (ac (show (List.take 5 (List.drop ((Int.toNat s8.1) * (5 : Nat)) (List.flatMap Ex.cells s7))) = (Ex.cells (exAt s7 (Int.toNat s8.1))) from (ex_takeO bq bq)) (ac (Eq.refl ((xc (exAt s7 (Int.toNat s8.1))) : List AV)) (ac h11 (ac h12 (ac (fq (p := ((((0 : Nat) + ((Int.toNat (wr ((↑(List.length s8.2.2) : Int) - (1 : Int)))) * (5 : Nat))) + (5 : Nat)) ≤ (List.length (List.flatMap Ex.cells s8.2.2))))) (ac (show (List.take 5 (List.drop ((0 : Nat) + ((Int.toNat (wr ((↑(List.length s8.2.2) : Int) - (1 : Int)))) * (5 : Nat))) (List.flatMap Ex.cells s8.2.2))) = (Ex.cells (exAt s8.2.2 (Int.toNat (wr ((↑(List.length s8.2.2) : Int) - (1 : Int)))))) from (ex_takeO bq bq)) (ac (Eq.refl ((xc (exAt s7 (Int.toNat s8.1))) : List AV)) (ac (eJoin_ok ((exAt s8.2.2 (Int.toNat (wr ((↑(List.length s8.2.2) : Int) - (1 : Int)))))) ((exAt s7 (Int.toNat s8.1))) _ h13).any0 (ac (Eq.refl ((xc s13.1) : List AV)) (ac (show orderOk (rg Try.prog 13 0) = true ∧ allOk (Region.before (rg Try.prog 13 0)) [] 0 [(some [], some []), (some [], some []), (some [], some []), (some [], some []), (some [2], some []), (some [3], some []), (some [], some []), (some [], some []), (some [], some []), (some [], some []), (some [], some [4]), (some [4], some [4]), (some [], some [])] = true from (ord_of ord_13_0 bef_13_0 kq)) (ac h14 (ac (Eq.refl ((xc s13.1) : List AV)) (ac h12 (ac h15 (ac (show (((List.take ((0 : Nat) + ((Int.toNat (wr ((↑(List.length s8.2.2) : Int) - (1 : Int)))) * (5 : Nat))) (List.flatMap Ex.cells s8.2.2)) ++ (xc s13.1)) ++ (List.drop (((0 : Nat) + ((Int.toNat (wr ((↑(List.length s8.2.2) : Int) - (1 : Int)))) * (5 : Nat))) + (List.length (xc s13.1))) (List.flatMap Ex.cells s8.2.2))) = (List.flatMap Ex.cells (List.set s8.2.2 (Int.toNat (wr ((↑(List.length s8.2.2) : Int) - (1 : Int)))) s13.1)) from (ex_setO (x := s13.1) bq bq tq)) an)))))))))))))))))) (Nat.le_of_ble_eq_true rfl) (absB_of [2] [] kq (.consn kq (.eqv tq rfl) (.consn kq (.rfn (n := (List.length s8.2.2)) rfl tq) (.consn kq (.eqv tq rfl) (.consn kq (.eqv tq rfl) (.consn kq (.eqv tq rfl) (.consn kq (.eqv tq rfl) (.consn kq (.eqv tq rfl) (.consn kq (.eqv tq rfl) (.consn kq (.pt rfl) (.consn kq (.eqv tq rfl) (.consn kq (.eqv tq rfl) (.consn kq (.eqv tq rfl) (.consn kq (.eqv tq rfl) .nil))))))))))))) (.cons (.old rfl rfl (.cells (.pl rfl pq))) (.cons (.old rfl rfl (.cells (.pl tq pq))) .nil)))
theorem pPack_L1_s1 (l : List Ex) (s1 : List Ex × Int × Int) (s4 : Bool) (s7 : List Ex) (s8 : Int × List Ex × List Ex) (h9 : ((decide (s8.1 < (↑(List.length s7) : Int)))) = true) (h9p : (s8.1 < (↑(List.length s7) : Int))) (h10 : (((0 : Int) ≤ s8.1) ∧ (s8.1 < (↑(List.length s7) : Int)))) (h11 : ((decide ((↑(List.length s8.2.2) : Int) > (0 : Int)))) = true) (h11p : ((↑(List.length s8.2.2) : Int) > (0 : Int))) (h12 : (((0 : Int) ≤ (wr ((↑(List.length s8.2.2) : Int) - (1 : Int)))) ∧ ((wr ((↑(List.length s8.2.2) : Int) - (1 : Int))) < (↑(List.length s8.2.2) : Int)))) (s13 : Ex × Int) (h13 : eJoin ((exAt s8.2.2 (Int.toNat (wr ((↑(List.length s8.2.2) : Int) - (1 : Int)))))) ((exAt s7 (Int.toNat s8.1))) = some s13) (h14 : ((s13.2 == (0 : Int))) = false) (h14p : ¬ (s13.2 = (0 : Int))) (h15 : (((List.length (List.flatMap Ex.cells s8.2.2)) = ((List.length s8.2.2) * (5 : Nat))) ∧ (((List.length s8.2.2) + (1 : Nat)) ≤ (4294967296 : Nat)))) : EvStep Try.prog cf 2 (lp Try.prog 13 1) (pPack_L1_S l s1 s4 s7 s8) (pPack_L1_S l s1 s4 s7 (((wr (s8.1 + (1 : Int))), (([] : List Ex), (s8.2.2 ++ [(exAt s7 (Int.toNat s8.1))]))))) :=
  leafS vw_eq (k := 300) (r := []) (hs := hz [(1, [.yes, .yes, .yes, .cells ((Ex.cells (exAt s7 (Int.toNat s8.1))))]), (2, [.cells ((xc (exAt s7 (Int.toNat s8.1))))]), (5, [.yes]), (3, [.yes, .yes, .cells ((Ex.cells (exAt s8.2.2 (Int.toNat (wr ((↑(List.length s8.2.2) : Int) - (1 : Int)))))))]), (1, [.cells ((xc (exAt s7 (Int.toNat s8.1))))]), (1, [.fres (.tu [Ex.av (s13.1), .i (s13.2)])]), (5, [.cells ((xc s13.1))]), (1, [.yes]), (2, [.no]), (2, [.cells ((xc (exAt s7 (Int.toNat s8.1))))]), (1, [.cells ((xc (exAt s7 (Int.toNat s8.1)))), .cells ((xc (exAt s7 (Int.toNat s8.1)))), .yes, .yes]), (3, [])]) (st1 := (St.mk [(0, (exs l)), (2, (AV.rf 6 5 0 ((List.length s8.2.2) + (1 : Nat)))), (4, (AV.i (wr ((exAt l (Int.toNat s1.2.2)).lba + (exAt l (Int.toNat s1.2.2)).len)))), (14, (AV.b (decide ((↑(List.length l) : Int) > (64 : Int))))), (15, (exs l)), (16, (AV.i (↑(List.length l) : Int))), (17, (AV.i s1.2.2)), (18, (AV.b (decide (s1.2.2 < (↑(List.length l) : Int))))), (6, (AV.pt 1 0)), (29, (AV.b (decide ((exAt l (Int.toNat s1.2.2)).lba < s1.2.1)))), (36, (exs s7)), (37, (AV.i (↑(List.length s7) : Int))), (38, (AV.i (wr (s8.1 + (1 : Int))))), (39, (AV.b (decide (s8.1 < (↑(List.length s7) : Int))))), (40, (AV.ip (List.drop ((Int.toNat s8.1) * (5 : Nat)) (List.flatMap Ex.cells s7)))), (41, (AV.ag (xc (exAt s7 (Int.toNat s8.1))))), (8, (AV.pt 3 0)), (42, (AV.rf 2 5 0 (List.length s8.2.2))), (43, (AV.i (↑(List.length s8.2.2) : Int))), (9, (AV.i (↑(List.length s8.2.2) : Int))), (44, (AV.i (↑(List.length s8.2.2) : Int))), (45, (AV.b (decide ((↑(List.length s8.2.2) : Int) > (0 : Int))))), (47, (AV.rf 2 5 0 (List.length s8.2.2))), (48, (AV.i (↑(List.length s8.2.2) : Int))), (49, (AV.i (wr ((↑(List.length s8.2.2) : Int) - (1 : Int))))), (50, (AV.pt 2 ((0 : Nat) + ((Int.toNat (wr ((↑(List.length s8.2.2) : Int) - (1 : Int)))) * (5 : Nat))))), (51, (AV.ag (xc (exAt s8.2.2 (Int.toNat (wr ((↑(List.length s8.2.2) : Int) - (1 : Int)))))))), (52, (AV.ag (xc (exAt s7 (Int.toNat s8.1))))), (53, (AV.tu [(AV.ag (xc s13.1)), (AV.i s13.2)])), (46, (AV.tu [(AV.ag (xc s13.1)), (AV.i s13.2)])), (54, (AV.ag (xc s13.1))), (55, (AV.i s13.2)), (10, (AV.pt 4 0)), (11, (AV.i s13.2)), (56, (AV.i s13.2)), (57, (AV.b (s13.2 == (0 : Int)))), (63, (AV.rf 2 5 0 (List.length s8.2.2))), (64, (AV.ag (xc (exAt s7 (Int.toNat s8.1))))), (65, (AV.rf 5 5 0 1)), (66, (AV.rf 6 5 0 ((List.length s8.2.2) + (1 : Nat)))), (67, (AV.i (wr (s8.1 + (1 : Int)))))] 70 (AH.mk 7 [(6, (AObj.cells ((List.flatMap Ex.cells s8.2.2) ++ (xc (exAt s7 (Int.toNat s8.1)))))), (5, (AObj.cells (xc (exAt s7 (Int.toNat s8.1))))), (4, (AObj.cells (xc s13.1))), (3, (AObj.cells (xc (exAt s7 (Int.toNat s8.1))))), (1, (AObj.cells (xc (exAt l (Int.toNat s1.2.2))))), (2, AObj.dead)]) Bool.false)) kq (ac h9 (ac h10 (ac (fq (p := ((5 : Nat) ≤ (List.length (List.drop ((Int.toNat s8.1) * (5 : Nat)) (List.flatMap Ex.cells s7)))))) (ac (show (List.take 5 (List.drop ((Int.toNat s8.1) * (5 : Nat)) (List.flatMap Ex.cells s7))) = (Ex.cells (exAt s7 (Int.toNat s8.1))) from (ex_takeO bq bq)) (ac (Eq.refl ((xc (exAt s7 (Int.toNat s8.1))) : List AV)) (ac h11 (ac h12 (ac (fq (p := ((((0 : Nat) + ((Int.toNat (wr ((↑(List.length s8.2.2) : Int) - (1 : Int)))) * (5 : Nat))) + (5 : Nat)) ≤ (List.length (List.flatMap Ex.cells s8.2.2))))) (ac (show (List.take 5 (List.drop ((0 : Nat) + ((Int.toNat (wr ((↑(List.length s8.2.2) : Int) - (1 : Int)))) * (5 : Nat))) (List.flatMap Ex.cells s8.2.2))) = (Ex.cells (exAt s8.2.2 (Int.toNat (wr ((↑(List.length s8.2.2) : Int) - (1 : Int)))))) from (ex_takeO bq bq)) (ac (Eq.refl ((xc (exAt s7 (Int.toNat s8.1))) : List AV)) (ac (eJoin_ok ((exAt s8.2.2 (Int.toNat (wr ((↑(List.length s8.2.2) : Int) - (1 : Int)))))) ((exAt s7 (Int.toNat s8.1))) _ h13).any0 (ac (Eq.refl ((xc s13.1) : List AV)) (ac (show orderOk (rg Try.prog 13 0) = true ∧ allOk (Region.before (rg Try.prog 13 0)) [] 0 [(some [], some []), (some [], some []), (some [], some []), (some [], some []), (some [2], some []), (some [3], some []), (some [], some []), (some [], some []), (some [], some []), (some [], some []), (some [], some [4]), (some [4], some [4]), (some [], some [])] = true from (ord_of ord_13_0 bef_13_0 kq)) (ac h14 (ac (Eq.refl ((xc (exAt s7 (Int.toNat s8.1))) : List AV)) (ac (Eq.refl ((xc (exAt s7 (Int.toNat s8.1))) : List AV)) (ac (Eq.refl ((xc (exAt s7 (Int.toNat s8.1))) : List AV)) (ac (tq (p := (((0 : Nat) = (0 : Nat)) ∧ ((List.length (xc (exAt s7 (Int.toNat s8.1)))) = (5 : Nat))))) (ac h15 an))))))))))))))))))) (Nat.le_of_ble_eq_true rfl) (absB_of [6] [] kq (.consn kq (.eqv tq rfl) (.consn kq (.rfn (n := ((List.length s8.2.2) + (1 : Nat))) rfl tq) (.consn kq (.eqv tq rfl) (.consn kq (.eqv tq rfl) (.consn kq (.eqv tq rfl) (.consn kq (.eqv tq rfl) (.consn kq (.eqv tq rfl) (.consn kq (.eqv tq rfl) (.consn kq (.pt rfl) (.consn kq (.eqv tq rfl) (.consn kq (.eqv tq rfl) (.consn kq (.eqv tq rfl) (.consn kq (.eqv tq rfl) .nil))))))))))))) (.cons (.old rfl rfl (.cells (.pl rfl pq))) (.cons (.old rfl rfl (.cells (.pl tq pq))) .nil)))
theorem pPack_L1_s2 (l : List Ex) (s1 : List Ex × Int × Int) (s4 : Bool) (s7 : List Ex) (s8 : Int × List Ex × List Ex) (h9 : ((decide (s8.1 < (↑(List.length s7) : Int)))) = true) (h9p : (s8.1 < (↑(List.length s7) : Int))) (h10 : (((0 : Int) ≤ s8.1) ∧ (s8.1 < (↑(List.length s7) : Int)))) (h11 : ((decide ((↑(List.length s8.2.2) : Int) > (0 : Int)))) = false) (h11p : ¬ ((↑(List.length s8.2.2) : Int) > (0 : Int))) (h12 : (((List.length (List.flatMap Ex.cells s8.2.2)) = ((List.length s8.2.2) * (5 : Nat))) ∧ (((List.length s8.2.2) + (1 : Nat)) ≤ (4294967296 : Nat)))) : EvStep Try.prog cf 2 (lp Try.prog 13 1) (pPack_L1_S l s1 s4 s7 s8) (pPack_L1_S l s1 s4 s7 (((wr (s8.1 + (1 : Int))), (([] : List Ex), (s8.2.2 ++ [(exAt s7 (Int.toNat s8.1))]))))) :=
  leafS vw_eq (k := 300) (r := []) (hs := hz [(1, [.yes, .yes, .yes, .cells ((Ex.cells (exAt s7 (Int.toNat s8.1))))]), (2, [.cells ((xc (exAt s7 (Int.toNat s8.1))))]), (5, [.no]), (2, [.cells ((xc (exAt s7 (Int.toNat s8.1))))]), (1, [.cells ((xc (exAt s7 (Int.toNat s8.1)))), .cells ((xc (exAt s7 (Int.toNat s8.1)))), .yes, .yes]), (3, [])]) (st1 := (St.mk [(0, (exs l)), (2, (AV.rf 5 5 0 ((List.length s8.2.2) + (1 : Nat)))), (4, (AV.i (wr ((exAt l (Int.toNat s1.2.2)).lba + (exAt l (Int.toNat s1.2.2)).len)))), (14, (AV.b (decide ((↑(List.length l) : Int) > (64 : Int))))), (15, (exs l)), (16, (AV.i (↑(List.length l) : Int))), (17, (AV.i s1.2.2)), (18, (AV.b (decide (s1.2.2 < (↑(List.length l) : Int))))), (6, (AV.pt 1 0)), (29, (AV.b (decide ((exAt l (Int.toNat s1.2.2)).lba < s1.2.1)))), (36, (exs s7)), (37, (AV.i (↑(List.length s7) : Int))), (38, (AV.i (wr (s8.1 + (1 : Int))))), (39, (AV.b (decide (s8.1 < (↑(List.length s7) : Int))))), (40, (AV.ip (List.drop ((Int.toNat s8.1) * (5 : Nat)) (List.flatMap Ex.cells s7)))), (41, (AV.ag (xc (exAt s7 (Int.toNat s8.1))))), (8, (AV.pt 3 0)), (42, (AV.rf 2 5 0 (List.length s8.2.2))), (43, (AV.i (↑(List.length s8.2.2) : Int))), (9, (AV.i (↑(List.length s8.2.2) : Int))), (44, (AV.i (↑(List.length s8.2.2) : Int))), (45, (AV.b (decide ((↑(List.length s8.2.2) : Int) > (0 : Int))))), (63, (AV.rf 2 5 0 (List.length s8.2.2))), (64, (AV.ag (xc (exAt s7 (Int.toNat s8.1))))), (65, (AV.rf 4 5 0 1)), (66, (AV.rf 5 5 0 ((List.length s8.2.2) + (1 : Nat)))), (67, (AV.i (wr (s8.1 + (1 : Int)))))] 70 (AH.mk 6 [(5, (AObj.cells ((List.flatMap Ex.cells s8.2.2) ++ (xc (exAt s7 (Int.toNat s8.1)))))), (4, (AObj.cells (xc (exAt s7 (Int.toNat s8.1))))), (3, (AObj.cells (xc (exAt s7 (Int.toNat s8.1))))), (1, (AObj.cells (xc (exAt l (Int.toNat s1.2.2))))), (2, AObj.dead)]) Bool.false)) kq (ac h9 (ac h10 (ac (fq (p := ((5 : Nat) ≤ (List.length (List.drop ((Int.toNat s8.1) * (5 : Nat)) (List.flatMap Ex.cells s7)))))) (ac (show (List.take 5 (List.drop ((Int.toNat s8.1) * (5 : Nat)) (List.flatMap Ex.cells s7))) = (Ex.cells (exAt s7 (Int.toNat s8.1))) from (ex_takeO bq bq)) (ac (Eq.refl ((xc (exAt s7 (Int.toNat s8.1))) : List AV)) (ac h11 (ac (Eq.refl ((xc (exAt s7 (Int.toNat s8.1))) : List AV)) (ac (Eq.refl ((xc (exAt s7 (Int.toNat s8.1))) : List AV)) (ac (Eq.refl ((xc (exAt s7 (Int.toNat s8.1))) : List AV)) (ac (tq (p := (((0 : Nat) = (0 : Nat)) ∧ ((List.length (xc (exAt s7 (Int.toNat s8.1)))) = (5 : Nat))))) (ac h12 an))))))))))) (Nat.le_of_ble_eq_true rfl) (absB_of [5] [] kq (.consn kq (.eqv tq rfl) (.consn kq (.rfn (n := ((List.length s8.2.2) + (1 : Nat))) rfl tq) (.consn kq (.eqv tq rfl) (.consn kq (.eqv tq rfl) (.consn kq (.eqv tq rfl) (.consn kq (.eqv tq rfl) (.consn kq (.eqv tq rfl) (.consn kq (.eqv tq rfl) (.consn kq (.pt rfl) (.consn kq (.eqv tq rfl) (.consn kq (.eqv tq rfl) (.consn kq (.eqv tq rfl) (.consn kq (.eqv tq rfl) .nil))))))))))))) (.cons (.old rfl rfl (.cells (.pl rfl pq))) (.cons (.old rfl rfl (.cells (.pl tq pq))) .nil)))
theorem pPack_L1_ok (l : List Ex) (s1 : List Ex × Int × Int) (s4 : Bool) (s7 : List Ex) (s8 zz : Int × List Ex × List Ex) : pPack_L1_step l s1 s4 s7 s8 = some zz → EvStep Try.prog cf 2 (lp Try.prog 13 1) (pPack_L1_S l s1 s4 s7 s8) (pPack_L1_S l s1 s4 s7 zz) := by
  unfold pPack_L1_step
  refine tb_ok (fun h9 => ?_) (fun h9 => ?_)
  ·
    have h9p := of_decide_eq_true h9
    refine tp_ok (fun h10 => ?_)
    refine tb_ok (fun h11 => ?_) (fun h11 => ?_)
    ·
      have h11p := of_decide_eq_true h11
      refine tp_ok (fun h12 => ?_)
      refine tc_ok (fun s13 h13 => ?_)
      refine tb_ok (fun h14 => ?_) (fun h14 => ?_)
      ·
        have h14p := eq_of_beq h14
        refine tp_ok (fun h15 => ?_)
        exact fun e => tl_ok (G := (fun zz => EvStep Try.prog cf 2 (lp Try.prog 13 1) (pPack_L1_S l s1 s4 s7 s8) (pPack_L1_S l s1 s4 s7 zz))) (pPack_L1_s0 l s1 s4 s7 s8 h9 h9p h10 h11 h11p h12 s13 h13 h14 h14p h15) e
      ·
        have h14p := ne_of_beq_false h14
        refine tp_ok (fun h15 => ?_)
        exact fun e => tl_ok (G := (fun zz => EvStep Try.prog cf 2 (lp Try.prog 13 1) (pPack_L1_S l s1 s4 s7 s8) (pPack_L1_S l s1 s4 s7 zz))) (pPack_L1_s1 l s1 s4 s7 s8 h9 h9p h10 h11 h11p h12 s13 h13 h14 h14p h15) e
    ·
      have h11p := of_decide_eq_false h11
      refine tp_ok (fun h12 => ?_)
      exact fun e => tl_ok (G := (fun zz => EvStep Try.prog cf 2 (lp Try.prog 13 1) (pPack_L1_S l s1 s4 s7 s8) (pPack_L1_S l s1 s4 s7 zz))) (pPack_L1_s2 l s1 s4 s7 s8 h9 h9p h10 h11 h11p h12) e
  ·
    have h9p := of_decide_eq_false h9
    exact fun e => nomatch e
noncomputable abbrev pPack_L0_I (l : List Ex) : St := (St.mk [(0, (exs l)), (2, AV.nl), (3, (AV.i 0)), (4, (AV.i 0)), (12, (exs l)), (13, (AV.i (↑(List.length l) : Int))), (14, (AV.b (decide ((↑(List.length l) : Int) > (64 : Int))))), (15, (exs l)), (16, (AV.i (↑(List.length l) : Int))), (17, (AV.i 0))] 70 (AH.mk 0 ([] : List (Prod Nat AObj))) Bool.false)
noncomputable abbrev pPack_L0_S (l : List Ex) (s1 : List Ex × Int × Int) : St := (St.mk [(0, (exs l)), (2, (AV.rf 0 5 0 (List.length s1.1))), (4, (AV.i s1.2.1)), (14, (AV.b (decide ((↑(List.length l) : Int) > (64 : Int))))), (15, (exs l)), (16, (AV.i (↑(List.length l) : Int))), (17, (AV.i s1.2.2))] 70 (AH.mk 1 [(0, (AObj.cells (List.flatMap Ex.cells s1.1)))]) Bool.false)
noncomputable def pPack_L0_step (l : List Ex) (s1 : List Ex × Int × Int) : Option (List Ex × Int × Int) :=
 (tb ((decide (s1.2.2 < (↑(List.length l) : Int))))
  (tp ((((0 : Int) ≤ s1.2.2) ∧ (s1.2.2 < (↑(List.length l) : Int))))
   (tc (eCheck ((exAt l (Int.toNat s1.2.2)))) fun s4 =>
    (tb ((!s4))
     none /- exit -/
     (tb ((decide ((exAt l (Int.toNat s1.2.2)).lba < s1.2.1)))
      none /- exit -/
      (tc (pTold ((exAt l (Int.toNat s1.2.2)))) fun s7 =>
       (th (pPack_L1_step l s1 s4 s7) (((0 : Int), (([] : List Ex), s1.1))) fun s8 =>
        (tb ((decide (s8.1 < (↑(List.length s7) : Int))))
         none /- stop behind an operation -/
         (some ((s8.2.2, ((wr ((exAt l (Int.toNat s1.2.2)).lba + (exAt l (Int.toNat s1.2.2)).len)), (wr (s1.2.2 + (1 : Int))))))))))))))
  none /- exit -/)
theorem pPack_L0_s0 (l : List Ex) (s1 : List Ex × Int × Int) (h2 : ((decide (s1.2.2 < (↑(List.length l) : Int)))) = true) (h2p : (s1.2.2 < (↑(List.length l) : Int))) (h3 : (((0 : Int) ≤ s1.2.2) ∧ (s1.2.2 < (↑(List.length l) : Int)))) (s4 : Bool) (h4 : eCheck ((exAt l (Int.toNat s1.2.2))) = some s4) (h5 : ((!s4)) = false) (h6 : ((decide ((exAt l (Int.toNat s1.2.2)).lba < s1.2.1))) = false) (h6p : ¬ ((exAt l (Int.toNat s1.2.2)).lba < s1.2.1)) (s7 : List Ex) (h7 : pTold ((exAt l (Int.toNat s1.2.2))) = some s7) (s8 : Int × List Ex × List Ex) (h8 : Runs (pPack_L1_step l s1 s4 s7) (((0 : Int), (([] : List Ex), s1.1))) s8) (h9 : ((decide (s8.1 < (↑(List.length s7) : Int)))) = false) (h9p : ¬ (s8.1 < (↑(List.length s7) : Int))) : EvStep Try.prog cf 0 (lp Try.prog 13 0) (pPack_L0_S l s1) (pPack_L0_S l ((s8.2.2, ((wr ((exAt l (Int.toNat s1.2.2)).lba + (exAt l (Int.toNat s1.2.2)).len)), (wr (s1.2.2 + (1 : Int))))))) :=
  leafS vw_eq (k := 300) (r := []) (hs := hz [(1, [.yes, .yes, .yes, .cells ((Ex.cells (exAt l (Int.toNat s1.2.2))))]), (2, [.cells ((xc (exAt l (Int.toNat s1.2.2))))]), (1, [.cells ((xc (exAt l (Int.toNat s1.2.2))))]), (1, [.fres (.b (s4))]), (2, [.no]), (1, [.no]), (2, [.no]), (1, [.no]), (1, [.no, .no]), (9, [.cells ((xc (exAt l (Int.toNat s1.2.2))))]), (1, [.fres (exs (s7))]), (2, [.head (pPack_L1_S l s1 s4 s7 s8)]), (1, [.no]), (2, [])]) (st1 := (St.mk [(0, (exs l)), (2, (AV.rf 2 5 0 (List.length s8.2.2))), (4, (AV.i (wr ((exAt l (Int.toNat s1.2.2)).lba + (exAt l (Int.toNat s1.2.2)).len)))), (14, (AV.b (decide ((↑(List.length l) : Int) > (64 : Int))))), (15, (exs l)), (16, (AV.i (↑(List.length l) : Int))), (17, (AV.i (wr (s1.2.2 + (1 : Int))))), (18, (AV.b (decide (s1.2.2 < (↑(List.length l) : Int))))), (6, (AV.pt 1 0)), (29, (AV.b (decide ((exAt l (Int.toNat s1.2.2)).lba < s1.2.1)))), (36, (exs s7)), (37, (AV.i (↑(List.length s7) : Int))), (38, (AV.i s8.1)), (39, (AV.b (decide (s8.1 < (↑(List.length s7) : Int))))), (68, (AV.i (wr (s1.2.2 + (1 : Int)))))] 70 (AH.mk 3 [(1, (AObj.cells (xc (exAt l (Int.toNat s1.2.2))))), (2, (AObj.cells (List.flatMap Ex.cells s8.2.2)))]) Bool.false)) kq (ac h2 (ac h3 (ac (fq (p := ((5 : Nat) ≤ (List.length (List.drop ((Int.toNat s1.2.2) * (5 : Nat)) (List.flatMap Ex.cells l)))))) (ac (show (List.take 5 (List.drop ((Int.toNat s1.2.2) * (5 : Nat)) (List.flatMap Ex.cells l))) = (Ex.cells (exAt l (Int.toNat s1.2.2))) from (ex_takeO bq bq)) (ac (Eq.refl ((xc (exAt l (Int.toNat s1.2.2))) : List AV)) (ac (Eq.refl ((xc (exAt l (Int.toNat s1.2.2))) : List AV)) (ac (eCheck_ok ((exAt l (Int.toNat s1.2.2))) _ h4).any0 (ac h5 (ac h5 (ac h5 (ac h5 (ac h5 (ac h6 (ac (Eq.refl ((xc (exAt l (Int.toNat s1.2.2))) : List AV)) (ac (pTold_ok ((exAt l (Int.toNat s1.2.2))) _ h7) (ac (show EvHead Try.prog cf (lp Try.prog 13 1) (pPack_L1_I l s1 s4 s7) (pPack_L1_S l s1 s4 s7 s8) from (EvHead.of (pPack_L1_ok l s1 s4 s7) (absB_of [0] [] kq (.consn kq (.eqv tq rfl) (.consn kq (.rfn (n := (List.length s1.1)) rfl tq) (.consn kq (.eqv tq rfl) (.consn kq (.eqv tq rfl) (.consn kq (.eqv tq rfl) (.consn kq (.eqv tq rfl) (.consn kq (.eqv tq rfl) (.consn kq (.eqv tq rfl) (.consn kq (.pt rfl) (.consn kq (.eqv tq rfl) (.consn kq (.eqv tq rfl) (.consn kq (.eqv tq rfl) (.consn kq (.eqv tq rfl) .nil))))))))))))) (.cons (.old rfl rfl (.cells (.pl rfl pq))) (.cons (.old rfl rfl (.cells (.pl tq pq))) .nil))) h8)) (ac h9 an))))))))))))))))) (Nat.le_of_ble_eq_true rfl) (absB_of [2] [] kq (.consn kq (.eqv tq rfl) (.consn kq (.rfn (n := (List.length s8.2.2)) rfl tq) (.consn kq (.eqv tq rfl) (.consn kq (.eqv tq rfl) (.consn kq (.eqv tq rfl) (.consn kq (.eqv tq rfl) (.consn kq (.eqv tq rfl) .nil))))))) (.cons (.old rfl rfl (.cells (.pl tq pq))) .nil))
theorem pPack_L0_ok (l : List Ex) (s1 zz : List Ex × Int × Int) : pPack_L0_step l s1 = some zz → EvStep Try.prog cf 0 (lp Try.prog 13 0) (pPack_L0_S l s1) (pPack_L0_S l zz) := by
  unfold pPack_L0_step
  refine tb_ok (fun h2 => ?_) (fun h2 => ?_)
  ·
    have h2p := of_decide_eq_true h2
    refine tp_ok (fun h3 => ?_)
    refine tc_ok (fun s4 h4 => ?_)
    refine tb_ok (fun h5 => ?_) (fun h5 => ?_)
    ·
      exact fun e => nomatch e
    ·
      refine tb_ok (fun h6 => ?_) (fun h6 => ?_)
      ·
        have h6p := of_decide_eq_true h6
        exact fun e => nomatch e
      ·
        have h6p := of_decide_eq_false h6
        refine tc_ok (fun s7 h7 => ?_)
        refine th_ok (fun s8 h8 => ?_)
        refine tb_ok (fun h9 => ?_) (fun h9 => ?_)
        ·
          have h9p := of_decide_eq_true h9
          exact fun e => nomatch e
        ·
          have h9p := of_decide_eq_false h9
          exact fun e => tl_ok (G := (fun zz => EvStep Try.prog cf 0 (lp Try.prog 13 0) (pPack_L0_S l s1) (pPack_L0_S l zz))) (pPack_L0_s0 l s1 h2 h2p h3 s4 h4 h5 h6 h6p s7 h7 s8 h8 h9 h9p) e
  ·
    have h2p := of_decide_eq_false h2
    exact fun e => nomatch e
noncomputable def pPack (l : List Ex) : Option (List Ex × Int) :=
 (tb ((decide ((↑(List.length l) : Int) > (64 : Int))))
  (some ((([] : List Ex), (70 : Int))))
  (th (pPack_L0_step l) ((([] : List Ex), ((0 : Int), (0 : Int)))) fun s1 =>
   (tb ((decide (s1.2.2 < (↑(List.length l) : Int))))
    (tp ((((0 : Int) ≤ s1.2.2) ∧ (s1.2.2 < (↑(List.length l) : Int))))
     (tc (eCheck ((exAt l (Int.toNat s1.2.2)))) fun s4 =>
      (tb ((!s4))
       (some ((([] : List Ex), (70 : Int))))
       (tb ((decide ((exAt l (Int.toNat s1.2.2)).lba < s1.2.1)))
        (some ((([] : List Ex), (70 : Int))))
        none /- stop behind an operation -/))))
    (tp ((((0 : Nat) = (0 : Nat)) ∧ ((List.length (List.flatMap Ex.cells s1.1)) = ((List.length s1.1) * (5 : Nat)))))
     (some ((s1.1, (0 : Int))))))))
abbrev pPack_G (l : List Ex) (r : List Ex × Int) : Prop := EvFr Try.prog cf false 13 [exs (l)] (.tu [exs (r.1), .i (r.2)])
theorem pPack_l0 (l : List Ex) (h0 : ((decide ((↑(List.length l) : Int) > (64 : Int)))) = true) (h0p : ((↑(List.length l) : Int) > (64 : Int))) : pPack_G l ((([] : List Ex), (70 : Int))) :=
  leafR vw_eq (k := 300) (r := []) (hs := hz [(6, [.yes]), (2, [])]) (raw := (AV.tu [(AV.sl 0 ([] : List AV)), (AV.i 70)])) kq (ac h0 an) tq
theorem pPack_l1 (l : List Ex) (h0 : ((decide ((↑(List.length l) : Int) > (64 : Int)))) = false) (h0p : ¬ ((↑(List.length l) : Int) > (64 : Int))) (s1 : List Ex × Int × Int) (h1 : Runs (pPack_L0_step l) ((([] : List Ex), ((0 : Int), (0 : Int)))) s1) (h2 : ((decide (s1.2.2 < (↑(List.length l) : Int)))) = true) (h2p : (s1.2.2 < (↑(List.length l) : Int))) (h3 : (((0 : Int) ≤ s1.2.2) ∧ (s1.2.2 < (↑(List.length l) : Int)))) (s4 : Bool) (h4 : eCheck ((exAt l (Int.toNat s1.2.2))) = some s4) (h5 : ((!s4)) = true) : pPack_G l ((([] : List Ex), (70 : Int))) :=
  leafR vw_eq (k := 300) (r := []) (hs := hz [(6, [.no]), (3, [.head (pPack_L0_S l s1)]), (1, [.yes, .yes, .yes, .cells ((Ex.cells (exAt l (Int.toNat s1.2.2))))]), (2, [.cells ((xc (exAt l (Int.toNat s1.2.2))))]), (1, [.cells ((xc (exAt l (Int.toNat s1.2.2))))]), (1, [.fres (.b (s4))]), (2, [.yes, .yes, .yes, .yes, .yes]), (3, [])]) (raw := (AV.tu [(AV.sl 0 ([] : List AV)), (AV.i 70)])) kq (ac h0 (ac (show EvHead Try.prog cf (lp Try.prog 13 0) (pPack_L0_I l) (pPack_L0_S l s1) from (EvHead.of (pPack_L0_ok l) (absB_of [0] [] kq (.consn kq (.eqv tq rfl) (.consn kq (.nln tq) (.consn kq (.eqv tq rfl) (.consn kq (.eqv tq rfl) (.consn kq (.eqv tq rfl) (.consn kq (.eqv tq rfl) (.consn kq (.eqv tq rfl) .nil))))))) (.cons (.none rfl (Nat.le_refl _) rfl) .nil)) h1)) (ac h2 (ac h3 (ac (fq (p := ((5 : Nat) ≤ (List.length (List.drop ((Int.toNat s1.2.2) * (5 : Nat)) (List.flatMap Ex.cells l)))))) (ac (show (List.take 5 (List.drop ((Int.toNat s1.2.2) * (5 : Nat)) (List.flatMap Ex.cells l))) = (Ex.cells (exAt l (Int.toNat s1.2.2))) from (ex_takeO bq bq)) (ac (Eq.refl ((xc (exAt l (Int.toNat s1.2.2))) : List AV)) (ac (Eq.refl ((xc (exAt l (Int.toNat s1.2.2))) : List AV)) (ac (eCheck_ok ((exAt l (Int.toNat s1.2.2))) _ h4).any0 (ac h5 (ac h5 (ac h5 (ac h5 (ac h5 an)))))))))))))) tq
theorem pPack_l2 (l : List Ex) (h0 : ((decide ((↑(List.length l) : Int) > (64 : Int)))) = false) (h0p : ¬ ((↑(List.length l) : Int) > (64 : Int))) (s1 : List Ex × Int × Int) (h1 : Runs (pPack_L0_step l) ((([] : List Ex), ((0 : Int), (0 : Int)))) s1) (h2 : ((decide (s1.2.2 < (↑(List.length l) : Int)))) = true) (h2p : (s1.2.2 < (↑(List.length l) : Int))) (h3 : (((0 : Int) ≤ s1.2.2) ∧ (s1.2.2 < (↑(List.length l) : Int)))) (s4 : Bool) (h4 : eCheck ((exAt l (Int.toNat s1.2.2))) = some s4) (h5 : ((!s4)) = false) (h6 : ((decide ((exAt l (Int.toNat s1.2.2)).lba < s1.2.1))) = true) (h6p : ((exAt l (Int.toNat s1.2.2)).lba < s1.2.1)) : pPack_G l ((([] : List Ex), (70 : Int))) :=
  leafR vw_eq (k := 300) (r := []) (hs := hz [(6, [.no]), (3, [.head (pPack_L0_S l s1)]), (1, [.yes, .yes, .yes, .cells ((Ex.cells (exAt l (Int.toNat s1.2.2))))]), (2, [.cells ((xc (exAt l (Int.toNat s1.2.2))))]), (1, [.cells ((xc (exAt l (Int.toNat s1.2.2))))]), (1, [.fres (.b (s4))]), (2, [.no]), (1, [.no]), (2, [.no]), (1, [.no]), (1, [.no, .yes]), (2, [])]) (raw := (AV.tu [(AV.sl 0 ([] : List AV)), (AV.i 70)])) kq (ac h0 (ac (show EvHead Try.prog cf (lp Try.prog 13 0) (pPack_L0_I l) (pPack_L0_S l s1) from (EvHead.of (pPack_L0_ok l) (absB_of [0] [] kq (.consn kq (.eqv tq rfl) (.consn kq (.nln tq) (.consn kq (.eqv tq rfl) (.consn kq (.eqv tq rfl) (.consn kq (.eqv tq rfl) (.consn kq (.eqv tq rfl) (.consn kq (.eqv tq rfl) .nil))))))) (.cons (.none rfl (Nat.le_refl _) rfl) .nil)) h1)) (ac h2 (ac h3 (ac (fq (p := ((5 : Nat) ≤ (List.length (List.drop ((Int.toNat s1.2.2) * (5 : Nat)) (List.flatMap Ex.cells l)))))) (ac (show (List.take 5 (List.drop ((Int.toNat s1.2.2) * (5 : Nat)) (List.flatMap Ex.cells l))) = (Ex.cells (exAt l (Int.toNat s1.2.2))) from (ex_takeO bq bq)) (ac (Eq.refl ((xc (exAt l (Int.toNat s1.2.2))) : List AV)) (ac (Eq.refl ((xc (exAt l (Int.toNat s1.2.2))) : List AV)) (ac (eCheck_ok ((exAt l (Int.toNat s1.2.2))) _ h4).any0 (ac h5 (ac h5 (ac h5 (ac h5 (ac h5 (ac h6 an))))))))))))))) tq
theorem pPack_l3 (l : List Ex) (h0 : ((decide ((↑(List.length l) : Int) > (64 : Int)))) = false) (h0p : ¬ ((↑(List.length l) : Int) > (64 : Int))) (s1 : List Ex × Int × Int) (h1 : Runs (pPack_L0_step l) ((([] : List Ex), ((0 : Int), (0 : Int)))) s1) (h2 : ((decide (s1.2.2 < (↑(List.length l) : Int)))) = false) (h2p : ¬ (s1.2.2 < (↑(List.length l) : Int))) (h3 : (((0 : Nat) = (0 : Nat)) ∧ ((List.length (List.flatMap Ex.cells s1.1)) = ((List.length s1.1) * (5 : Nat))))) : pPack_G l ((s1.1, (0 : Int))) :=
  leafR vw_eq (k := 300) (r := []) (hs := hz [(6, [.no]), (3, [.head (pPack_L0_S l s1)]), (1, [.no]), (3, [.yes, .yes])]) (raw := (AV.tu [(exs s1.1), (AV.i 0)])) kq (ac h0 (ac (show EvHead Try.prog cf (lp Try.prog 13 0) (pPack_L0_I l) (pPack_L0_S l s1) from (EvHead.of (pPack_L0_ok l) (absB_of [0] [] kq (.consn kq (.eqv tq rfl) (.consn kq (.nln tq) (.consn kq (.eqv tq rfl) (.consn kq (.eqv tq rfl) (.consn kq (.eqv tq rfl) (.consn kq (.eqv tq rfl) (.consn kq (.eqv tq rfl) .nil))))))) (.cons (.none rfl (Nat.le_refl _) rfl) .nil)) h1)) (ac h2 (ac h3 (ac (pq (p := Pl Bool.false ((List.flatMap Ex.cells s1.1)))) an))))) tq
theorem pPack_ok (l : List Ex) (r : List Ex × Int) : pPack l = some r → pPack_G l r := by
  unfold pPack
  refine tb_ok (fun h0 => ?_) (fun h0 => ?_)
  ·
    have h0p := of_decide_eq_true h0
    exact fun e => tl_ok (G := pPack_G l) (pPack_l0 l h0 h0p) e
  ·
    have h0p := of_decide_eq_false h0
    refine th_ok (fun s1 h1 => ?_)
    refine tb_ok (fun h2 => ?_) (fun h2 => ?_)
    ·
      have h2p := of_decide_eq_true h2
      refine tp_ok (fun h3 => ?_)
      refine tc_ok (fun s4 h4 => ?_)
      refine tb_ok (fun h5 => ?_) (fun h5 => ?_)
      ·
        exact fun e => tl_ok (G := pPack_G l) (pPack_l1 l h0 h0p s1 h1 h2 h2p h3 s4 h4 h5) e
      ·
        refine tb_ok (fun h6 => ?_) (fun h6 => ?_)
        ·
          have h6p := of_decide_eq_true h6
          exact fun e => tl_ok (G := pPack_G l) (pPack_l2 l h0 h0p s1 h1 h2 h2p h3 s4 h4 h5 h6 h6p) e
        ·
          have h6p := of_decide_eq_false h6
          exact fun e => nomatch e
    ·
      have h2p := of_decide_eq_false h2
      refine tp_ok (fun h3 => ?_)
      exact fun e => tl_ok (G := pPack_G l) (pPack_l3 l h0 h0p s1 h1 h2 h2p h3) e
end Ab
end Go.Proofs.Ytiaelfmohamipaa
namespace Go.Proofs.Ytiaelfmohamipaa
open Go Go.Proofs.Ytiaelfmohamipaa.Ab
set_option linter.unusedVariables false
set_option linter.unusedSimpArgs false
namespace Ab
theorem ly_len : ∀ (zs : List Bool) (lba : Int) (b : List UInt8) (c : Bool) (n : Int), (ly lba b c n zs).length ≤ zs.length + 1
  | [], lba, b, c, n => by simp only [ly]; split <;> simp
  | z :: zs, lba, b, c, n => by
    simp only [ly]
    have h1 := ly_len zs lba b c (n + 1)
    have h2 := ly_len zs lba b z 1
    have h3 := ly_len zs (lba + n) (b.drop (32 * n).toNat) z 1
    split
    · simp only [List.length_cons]; omega
    · split
      · simp only [List.length_cons]; omega
      · simp only [List.length_cons]; omega
def sg (g : Int) (x : Ex) : Ex := ⟨x.lba, x.len, x.kind, g, x.d⟩
def told (x : Ex) : List Ex := if x.kind = 2 then (ly x.lba x.d false 0 (flags x.d)).map (sg x.gen) else [⟨x.lba, x.len, x.kind, x.gen, []⟩]
theorem ck_lo {x : Ex} (h : Ck x) (hk : x.kind = 2) : Lo x.lba x.d := by
  unfold Ck at h
  have := h.2.2.2.2.2.2.2.2.1 hk
  exact ⟨by omega, h.1, h.2.1, by omega⟩
theorem told_len {x : Ex} (h : Ck x) : (told x).length ≤ 65 := by
  unfold told
  split
  · have h1 := ly_len (flags x.d) x.lba x.d false 0
    have h2 : (flags x.d).length = x.d.length / 32 := fl_length _ _
    have h3 := ck_dlen h
    rw [List.length_map]; omega
  · simp
theorem map_set (f : Ex → Ex) (l : List Ex) (i : Nat) (hi : i < l.length) : ((l.take i).map f ++ l.drop i).set i (f (exAt l i)) = (l.take (i + 1)).map f ++ l.drop (i + 1) := by
  have h1 : l.drop i = exAt l i :: l.drop (i + 1) := by unfold exAt; exact drop_at _ l i hi
  have h2 : l.take (i + 1) = l.take i ++ [exAt l i] := by unfold exAt; exact take_at _ l i hi
  have hl : ((l.take i).map f).length = i := by simp; omega
  rw [List.set_append_right _ _ (by omega), hl, Nat.sub_self, h1, h2]
  simp
theorem map_at (f : Ex → Ex) (l : List Ex) (i : Nat) (hi : i < l.length) : exAt ((l.take i).map f ++ l.drop i) i = exAt l i := by
  have hl : ((l.take i).map f).length = i := by simp; omega
  unfold exAt
  rw [List.getD_eq_getElem?_getD, List.getElem?_append_right (by omega), hl, Nat.sub_self, drop_at ⟨0, 0, 0, 0, []⟩ l i hi]
  rfl
theorem pTold_eq (x : Ex) (h : Ck x) : pTold x = some (told x) := by
  unfold pTold told
  rw [tb_bne]
  by_cases hk : x.kind = 2
  case neg => rw [if_neg hk, if_neg hk]
  rw [if_pos hk, if_pos hk, pLay_eq _ _ (by have := ck_dlen h; omega), tc_some]
  have hlay : lay x.lba x.d = (ly x.lba x.d false 0 (flags x.d), 0) := if_pos (ck_lo h hk)
  rw [hlay]
  have h1 := ly_len (flags x.d) x.lba x.d false 0
  have h2 : (flags x.d).length = x.d.length / 32 := fl_length _ _
  have h3 := ck_dlen h
  generalize ly x.lba x.d false 0 (flags x.d) = l at h1 ⊢
  have hS := fun f => th_run (α := List Ex) (f := f) (step := pTold_L0_step x (l, 0)) (fun i => ((i : Int), (l.take i).map (sg x.gen) ++ l.drop i)) l.length (fun i hi => ?_) ?_
  · simp only [List.take_zero, List.map_nil, List.nil_append, List.drop_zero, Int.natCast_zero] at hS
    rw [hS]
    simp only [tb_dec]
    rw [if_neg (by omega), tp_pos (by first | exact ⟨rfl, by rw [exs_len]; simp⟩ | exact ⟨trivial, by rw [exs_len]; simp⟩)]
    simp
  · unfold pTold_L0_step
    simp only [tb_dec, Int.toNat_natCast]
    have hlen : ((l.take i).map (sg x.gen) ++ l.drop i).length = l.length := by simp; omega
    rw [if_pos (by omega), tp_pos (by omega), tp_pos ⟨rfl, by rw [exs_len, hlen]; simp; omega⟩, wr_id (by omega) (by omega), map_at _ _ _ hi]
    have e := map_set (sg x.gen) l i hi
    unfold sg at e ⊢
    rw [e]
    simp
  · unfold pTold_L0_step
    simp only [tb_dec]
    rw [if_neg (by omega)]
end Ab
end Go.Proofs.Ytiaelfmohamipaa
namespace Go.Proofs.Ytiaelfmohamipaa
open Go Go.Proofs.Ytiaelfmohamipaa.Ab
set_option linter.unusedVariables false
set_option linter.unusedSimpArgs false
namespace Ab
theorem th_firstZ {σ α : Type} {step : σ → Option σ} {f : σ → Option α} (r1 r2 : Option α) (S : Nat → σ) (n : Nat) (P : Nat → Prop) (Q : Prop) [Decidable Q] (hQ : (∀ i, i < n → P i) ↔ Q)
    (hs : ∀ i : Nat, i < n → (∀ j, j < i → P j) → P i → step (S i) = some (S (i + 1))) (hf : ∀ i : Nat, i < n → (∀ j, j < i → P j) → ¬ P i → step (S i) = none ∧ f (S i) = r1) (he : (∀ j, j < n → P j) → step (S n) = none ∧ f (S n) = r2) :
    th step (S 0) f = if Q then r2 else r1 := by
  by_cases h : ∀ i, i < n → P i
  · rw [if_pos (hQ.1 h), th_run (step := step) (f := f) S n (fun i hi => hs i hi (fun j hj => h j (by omega)) (h i hi)) (he h).1]
    exact (he h).2
  · rw [if_neg (fun g => h (hQ.2 g))]
    have hex : ∃ i, i < n ∧ ¬ P i := Classical.byContradiction fun hn => h fun i hi => Classical.byContradiction fun hp => hn ⟨i, hi, hp⟩
    have key : ∀ k, (∃ i, i < k ∧ i < n ∧ ¬ P i) → ∃ i, i < n ∧ ¬ P i ∧ ∀ j, j < i → P j := by
      intro k
      induction k with
      | zero => rintro ⟨i, hi, _⟩; omega
      | succ k ih =>
        rintro ⟨i, h1, h2, h3⟩
        by_cases hk : ∃ i, i < k ∧ i < n ∧ ¬ P i
        · exact ih hk
        · have hik : i = k := by
            rcases Nat.lt_or_ge i k with g | g
            · exact absurd ⟨i, g, h2, h3⟩ hk
            · omega
          refine ⟨i, h2, h3, fun j hj => ?_⟩
          exact Classical.byContradiction fun hp => hk ⟨j, by omega, by omega, hp⟩
    obtain ⟨i, h1, h2⟩ := hex
    obtain ⟨k, k1, k2, k3⟩ := key (i + 1) ⟨i, by omega, h1, h2⟩
    rw [th_run (step := step) (f := f) S k (fun i hi => hs i (by omega) (fun j hj => k3 j (by omega)) (k3 i hi)) (hf k k1 k3 k2).1]
    exact (hf k k1 k3 k2).2
def atp (l : List Ex) (i : Nat) : Int := if i = 0 then 0 else (exAt l (i - 1)).lba + (exAt l (i - 1)).len
theorem atp_succ (l : List Ex) (i : Nat) : atp l (i + 1) = (exAt l i).lba + (exAt l i).len := by unfold atp; rw [if_neg (by omega)]; rfl
def LP (l : List Ex) (i : Nat) : Prop := Ck (exAt l i) ∧ atp l i ≤ (exAt l i).lba
instance (l : List Ex) (i : Nat) : Decidable (LP l i) := by unfold LP; infer_instance
def Ls (l : List Ex) : Prop := l.length ≤ 64 ∧ ∀ i, i < l.length → LP l i
instance (l : List Ex) : Decidable (Ls l) := by unfold Ls; infer_instance
theorem r10List_eq (l : List Ex) : r10List l = some (decide (Ls l)) := by
  unfold r10List
  rw [tb_dec]
  by_cases hl : (l.length : Int) > 64
  · rw [if_pos hl, decide_eq_false fun h => by have := h.1; omega]
  rw [if_neg hl]
  have := th_firstZ (α := Bool) (step := r10List_L0_step l) (some false) (some true) (fun i => (atp l i, (i : Int))) l.length (LP l) (∀ i, i < l.length → LP l i) Iff.rfl (fun i hi hpre hp => ?_) (f := fun s1 => tb (decide (s1.2 < (l.length : Int))) (tp ((0 : Int) ≤ s1.2 ∧ s1.2 < (l.length : Int)) (tc (r7Check (exAt l s1.2.toNat)) fun s4 => tb (!s4) (some false) (tb (decide ((exAt l s1.2.toNat).lba < s1.1)) (some false) none))) (some true)) (fun i hi hpre hp => ?_) (fun hall => ?_)
  · have e0 : atp l 0 = 0 := rfl
    simp only [e0, Int.natCast_zero] at this
    rw [this]
    by_cases h : ∀ i, i < l.length → LP l i
    · rw [if_pos h, decide_eq_true (show Ls l from ⟨by omega, h⟩)]
    · rw [if_neg h, decide_eq_false fun g => h g.2]
  · have hc := hp.1
    have hb := hp.2
    unfold r10List_L0_step
    simp only [tb_dec, tb_not, r7Check_eq, tc_some, Int.toNat_natCast]
    unfold Ck at hc
    rw [if_pos (by omega), tp_pos (by omega), ck_t hp.1, tb_t, if_neg (by omega), wr_id (by omega) (by omega), wr_id (by omega) (by omega), atp_succ]
    simp
  · unfold r10List_L0_step
    simp only [tb_dec, tb_not, r7Check_eq, tc_some, Int.toNat_natCast]
    by_cases hc : Ck (exAt l i)
    case neg => refine ⟨?_, ?_⟩ <;> (rw [if_pos (by omega), tp_pos (by omega), ck_f hc]; rfl)
    have hlt : (exAt l i).lba < atp l i := by
      rcases Int.lt_or_le (exAt l i).lba (atp l i) with g | g
      · exact g
      · exact absurd ⟨hc, g⟩ hp
    refine ⟨?_, ?_⟩ <;> (rw [if_pos (by omega), tp_pos (by omega), ck_t hc, tb_t, if_pos hlt])
  · unfold r10List_L0_step
    simp only [tb_dec]
    rw [if_neg (by omega), if_neg (by omega)]
    exact ⟨rfl, rfl⟩
theorem fold_take (l : List Ex) (out : List Ex) (i : Nat) (hi : i < l.length) : (l.take (i + 1)).foldl add out = add ((l.take i).foldl add out) (exAt l i) := by
  have h2 : l.take (i + 1) = l.take i ++ [exAt l i] := by unfold exAt; exact take_at _ l i hi
  rw [h2, List.foldl_append]; rfl
theorem pPack_L1_step_eq (l : List Ex) (s1 : List Ex × Int × Int) (s4 : Bool) (s7 : List Ex) (out : List Ex) (i : Nat) (hi : i < s7.length) (h7 : s7.length ≤ 4294967296) (ho : out.length + 1 ≤ 4294967296) :
    pPack_L1_step l s1 s4 s7 ((i : Int), [], out) = some ((i : Int) + 1, [], add out (exAt s7 i)) := by
  unfold pPack_L1_step
  simp only [tb_dec, tb_beq, Int.toNat_natCast]
  rw [if_pos (by omega), tp_pos (by omega), wr_id (x := (i : Int) + 1) (by omega) (by omega)]
  by_cases h0 : out = []
  · subst h0
    rw [if_neg (by simp), tp_pos ⟨by simp, by simp⟩, add_nil]; rfl
  · have hl : 0 < out.length := List.length_pos_iff.2 h0
    have hw : wr ((out.length : Int) - 1) = ((out.length - 1 : Nat) : Int) := by rw [wr_id (by omega) (by omega)]; omega
    rw [if_pos (by omega), hw, tp_pos (by omega), Int.toNat_natCast, last_at out h0 _ rfl, eJoin_eq, tc_some]
    by_cases hj : Jn (out.getLastD ⟨0, 0, 0, 0, []⟩) (exAt s7 i)
    · have e : jnv (out.getLastD ⟨0, 0, 0, 0, []⟩) (exAt s7 i) = (jnx (out.getLastD ⟨0, 0, 0, 0, []⟩) (exAt s7 i), 0) := if_pos hj
      rw [e, if_pos rfl, tp_pos ⟨rfl, by rw [exs_len]; simp; omega⟩, add_jn h0 hj, set_last_ex out h0 _ rfl]
    · have e : jnv (out.getLastD ⟨0, 0, 0, 0, []⟩) (exAt s7 i) = (⟨0, 0, 0, 0, []⟩, 70) := if_neg hj
      rw [e, if_neg (by simp), tp_pos ⟨exs_len _, ho⟩, add_no hj]
theorem pPack_L1_eq {α : Type} (l : List Ex) (s1 : List Ex × Int × Int) (s4 : Bool) (s7 : List Ex) (out : List Ex) (f : Int × List Ex × List Ex → Option α) (h7 : s7.length ≤ 1000000) (ho : out.length ≤ 1000000) :
    th (pPack_L1_step l s1 s4 s7) (0, [], out) f = f ((s7.length : Int), [], s7.foldl add out) := by
  have := th_run (f := f) (step := pPack_L1_step l s1 s4 s7) (fun i => ((i : Int), ([] : List Ex), (s7.take i).foldl add out)) s7.length (fun i hi => ?_) ?_
  · simpa using this
  · have hb := adds_len (s7.take i) out
    rw [List.length_take] at hb
    rw [pPack_L1_step_eq _ _ _ _ _ _ hi (by omega) (by omega), fold_take _ _ _ hi]
    simp
  · unfold pPack_L1_step
    simp only [tb_dec]
    rw [if_neg (by omega)]
theorem tolds_len : ∀ (l : List Ex), (∀ x ∈ l, Ck x) → (l.flatMap told).length ≤ 65 * l.length
  | [], _ => by simp
  | x :: l, h => by
    have h1 := told_len (h x (by simp))
    have h2 := tolds_len l fun y hy => h y (by simp [hy])
    rw [List.flatMap_cons, List.length_append, List.length_cons]; omega
theorem lp_ck {l : List Ex} {i : Nat} (hi : i ≤ l.length) (h : ∀ j, j < i → LP l j) : ∀ x ∈ l.take i, Ck x := by
  intro x hx
  obtain ⟨j, hj, e⟩ := List.getElem_of_mem hx
  rw [List.length_take] at hj
  have := (h j (by omega)).1
  rw [List.getElem_take] at e
  rw [← e]
  have e2 : exAt l j = l[j]'(by omega) := by unfold exAt; simp [show j < l.length by omega]
  rw [← e2]; exact this
def pk (l : List Ex) : List Ex × Int := if Ls l then ((l.flatMap told).foldl add [], 0) else ([], 70)
theorem flat_take (l : List Ex) (i : Nat) (hi : i < l.length) : (l.take (i + 1)).flatMap told = (l.take i).flatMap told ++ told (exAt l i) := by
  have h2 : l.take (i + 1) = l.take i ++ [exAt l i] := by unfold exAt; exact take_at _ l i hi
  rw [h2, List.flatMap_append]; simp
theorem pPack_eq (l : List Ex) : pPack l = some (pk l) := by
  unfold pPack pk
  rw [tb_dec]
  by_cases hl : (l.length : Int) > 64
  · rw [if_pos hl, if_neg fun h => by have := h.1; omega]
  rw [if_neg hl]
  have := th_firstZ (α := List Ex × Int) (step := pPack_L0_step l) (some ([], 70)) (some ((l.flatMap told).foldl add [], 0)) (fun i => (((l.take i).flatMap told).foldl add [], atp l i, (i : Int))) l.length (LP l) (∀ i, i < l.length → LP l i) Iff.rfl (fun i hi hpre hp => ?_) (f := fun s1 => tb (decide (s1.2.2 < (l.length : Int))) (tp ((0 : Int) ≤ s1.2.2 ∧ s1.2.2 < (l.length : Int)) (tc (eCheck (exAt l s1.2.2.toNat)) fun s4 => tb (!s4) (some ([], 70)) (tb (decide ((exAt l s1.2.2.toNat).lba < s1.2.1)) (some ([], 70)) none))) (tp ((0 : Nat) = (0 : Nat) ∧ (List.flatMap Ex.cells s1.1).length = s1.1.length * (5 : Nat)) (some (s1.1, 0)))) (fun i hi hpre hp => ?_) (fun hall => ?_)
  · refine this.trans ?_
    by_cases h : ∀ i, i < l.length → LP l i
    · rw [if_pos h, if_pos ⟨by omega, h⟩]
    · rw [if_neg h, if_neg fun g => h g.2]
  · have hc := hp.1
    have hb := hp.2
    have hbd := tolds_len _ (lp_ck (by omega) hpre)
    have hbd2 := adds_len ((l.take i).flatMap told) []
    have hbd3 := told_len hc
    rw [List.length_take] at hbd
    simp only [List.length_nil, Nat.zero_add] at hbd2
    unfold pPack_L0_step
    simp only [tb_dec, tb_not, eCheck_eq, tc_some, Int.toNat_natCast]
    unfold Ck at hc
    rw [if_pos (by omega), tp_pos (by omega), ck_t hp.1, tb_t, if_neg (by omega), pTold_eq _ hp.1, tc_some, pPack_L1_eq _ _ _ _ _ _ (by omega) (by omega)]
    simp only
    rw [if_neg (by omega), wr_id (by omega) (by omega), wr_id (by omega) (by omega), atp_succ, flat_take _ _ hi, List.foldl_append]
    simp
  · unfold pPack_L0_step
    simp only [tb_dec, tb_not, eCheck_eq, tc_some, Int.toNat_natCast]
    by_cases hc : Ck (exAt l i)
    case neg => refine ⟨?_, ?_⟩ <;> (rw [if_pos (by omega), tp_pos (by omega), ck_f hc]; rfl)
    have hlt : (exAt l i).lba < atp l i := by
      rcases Int.lt_or_le (exAt l i).lba (atp l i) with g | g
      · exact g
      · exact absurd ⟨hc, g⟩ hp
    refine ⟨?_, ?_⟩ <;> (rw [if_pos (by omega), tp_pos (by omega), ck_t hc, tb_t, if_pos hlt])
  · unfold pPack_L0_step
    simp only [tb_dec]
    rw [if_neg (by omega), if_neg (by omega), List.take_length, tp_pos (by first | exact ⟨rfl, exs_len _⟩ | exact ⟨trivial, exs_len _⟩)]
    exact ⟨rfl, rfl⟩
end Ab
end Go.Proofs.Ytiaelfmohamipaa
namespace Go.Proofs.Ytiaelfmohamipaa
open Go Go.Proofs.Ytiaelfmohamipaa.Ab
set_option linter.unusedVariables false
set_option linter.unusedSimpArgs false
namespace Ab
def eb (x : Ex) : List UInt8 := if x.kind = 2 then x.d else List.replicate (32 * x.len).toNat 0
theorem eb_len {x : Ex} (h : Ck x) : ((eb x).length : Int) = 32 * x.len := by
  unfold eb
  unfold Ck at h
  split
  · rename_i hk; exact h.2.2.2.2.2.2.2.2.1 hk
  · rw [List.length_replicate]; omega
end Ab
end Go.Proofs.Ytiaelfmohamipaa
namespace Go.Proofs.Ytiaelfmohamipaa
open Go Go.Proofs.Ytiaelfmohamipaa.Ab
set_option linter.unusedVariables false
set_option linter.unusedSimpArgs false
namespace Ab
def WL : Int → Int → List Ex → List UInt8 → Prop
  | _, _, [], b => b = []
  | lba, k, x :: l, b => Ck x ∧ x.lba = lba ∧ x.kind ≠ k ∧ ∃ b', b = eb x ++ b' ∧ WL (lba + x.len) x.kind l b'
def kd (c : Bool) : Int := if c = true then 1 else 2
theorem ck_mkx (lba : Int) (b : List UInt8) (c : Bool) (n : Nat) (h1 : 0 ≤ lba) (h2 : 1 ≤ n) (h3 : lba + n ≤ 64) (hb : 32 * n ≤ b.length) : Ck (mkx lba b c n) := by
  unfold mkx Ck
  cases c with
  | true => refine ⟨h1, by simp; omega, by simp; omega, by simp; omega, by simp, by simp, by simp, by simp, by simp, by simp⟩
  | false => refine ⟨h1, by simp; omega, by simp; omega, by simp; omega, by simp, by simp, by simp, by simp, fun _ => ?_, by simp⟩
             simp only [Bool.false_eq_true, if_false, List.length_take]; omega
theorem mkx_lba (lba : Int) (b : List UInt8) (c : Bool) (n : Int) : (mkx lba b c n).lba = lba := by unfold mkx; split <;> rfl
theorem mkx_len (lba : Int) (b : List UInt8) (c : Bool) (n : Int) : (mkx lba b c n).len = n := by unfold mkx; split <;> rfl
theorem mkx_kind (lba : Int) (b : List UInt8) (c : Bool) (n : Int) : (mkx lba b c n).kind = kd c := by unfold mkx kd; split <;> rfl
theorem eb_mkx (lba : Int) (b : List UInt8) (c : Bool) (n : Nat) (hz : c = true → b.take (32 * n) = List.replicate (32 * n) 0) : eb (mkx lba b c n) = b.take (32 * n) := by
  unfold eb mkx
  have e : (32 * (n : Int)).toNat = 32 * n := by omega
  cases c with
  | true => simp only [if_true]; rw [hz rfl]; simp [e]
  | false => simp [e]
theorem ly_wl : ∀ (zs : List Bool) (lba : Int) (b : List UInt8) (c : Bool) (m : Nat) (k : Int), 0 ≤ lba → 1 ≤ m → b.length = 32 * (m + zs.length) → lba + m + zs.length ≤ 64 → flags (b.drop (32 * m)) = zs → (c = true → b.take (32 * m) = List.replicate (32 * m) 0) → kd c ≠ k → WL lba k (ly lba b c m zs) b
  | [], lba, b, c, m, k, h1, h2, h3, h4, h5, h6, h7 => by
    simp only [List.length_nil, Nat.add_zero] at h3 h4
    unfold ly
    rw [if_neg (by omega)]
    refine ⟨ck_mkx _ _ _ _ h1 h2 (by omega) (by omega), mkx_lba _ _ _ _, by rw [mkx_kind]; exact h7, [], ?_, rfl⟩
    rw [eb_mkx _ _ _ _ h6, List.append_nil, List.take_of_length_le (by omega)]
  | z :: zs, lba, b, c, m, k, h1, h2, h3, h4, h5, h6, h7 => by
    simp only [List.length_cons] at h3 h4
    have hf := flags_cons (b := b.drop (32 * m)) (by rw [List.length_drop]; omega)
    rw [h5] at hf
    injection hf with hz hzs
    have hd : (b.drop (32 * m)).drop 32 = b.drop (32 * (m + 1)) := by rw [List.drop_drop]; congr 1
    rw [hd] at hzs
    unfold ly
    split
    · rename_i hc
      have := ly_wl zs lba b c (m + 1) k h1 (by omega) (by omega) (by omega) hzs.symm (fun ht => ?_) h7
      · rw [show ((m + 1 : Nat) : Int) = (m : Int) + 1 by omega] at this; exact this
      · have h8 : (b.drop (32 * m)).take 32 = List.replicate 32 0 := by
          have : zb ((b.drop (32 * m)).take 32) = true := by rw [← hz, hc, ht]
          exact eq_of_beq this
        rw [show 32 * (m + 1) = 32 * m + 32 by omega, List.take_add, h8, h6 ht, List.replicate_append_replicate]
    · rename_i hc
      rw [if_neg (by omega)]
      have e : (32 * (m : Int)).toNat = 32 * m := by omega
      refine ⟨ck_mkx _ _ _ _ h1 h2 (by omega) (by omega), mkx_lba _ _ _ _, by rw [mkx_kind]; exact h7, b.drop (32 * m), ?_, ?_⟩
      · rw [eb_mkx _ _ _ _ h6, List.take_append_drop]
      · rw [mkx_len, mkx_kind, e]
        refine ly_wl zs (lba + m) (b.drop (32 * m)) z 1 (kd c) (by omega) (by omega) (by rw [List.length_drop]; omega) (by omega) (by rw [Nat.mul_one, hd]; exact hzs.symm) (fun ht => ?_) ?_
        · have : zb ((b.drop (32 * m)).take 32) = true := by rw [← hz, ht]
          exact eq_of_beq this
        · unfold kd; cases z <;> cases c <;> simp_all
theorem lay_wl {lba : Int} {b : List UInt8} (h : Lo lba b) : WL lba 0 (ly lba b false 0 (flags b)) b := by
  unfold Lo at h
  by_cases hb : b.length < 32
  · have : b = [] := List.eq_nil_of_length_eq_zero (by omega)
    subst this
    rw [flags_nil (by simp)]; simp [ly, WL]
  have hf := flags_cons (b := b) (by omega)
  have hl : (flags (b.drop 32)).length = (b.length - 32) / 32 := by rw [show (flags (b.drop 32)).length = (b.drop 32).length / 32 from fl_length _ _, List.length_drop]
  rw [hf]
  have key : ly lba b false 0 (zb (b.take 32) :: flags (b.drop 32)) = ly lba b (zb (b.take 32)) ((1 : Nat) : Int) (flags (b.drop 32)) := by
    conv => lhs; unfold ly
    split
    · rename_i hz; rw [hz]; rfl
    · rfl
  rw [key]
  refine ly_wl _ _ _ _ 1 0 h.2.1 (by omega) (by omega) (by omega) rfl (fun ht => eq_of_beq ht) (by unfold kd; split <;> omega)
end Ab
end Go.Proofs.Ytiaelfmohamipaa
namespace Go.Proofs.Ytiaelfmohamipaa
open Go Go.Proofs.Ytiaelfmohamipaa.Ab
set_option linter.unusedVariables false
set_option linter.unusedSimpArgs false
namespace Ab
theorem th_first {σ α : Type} {step : σ → Option σ} {f : σ → Option α} (r1 r2 : Option α) (S : Nat → σ) (n : Nat) (P : Nat → Prop) (Q : Prop) [Decidable Q] (hQ : (∀ i, i < n → P i) ↔ Q)
    (hs : ∀ i : Nat, i < n → (∀ j, j < i → P j) → P i → step (S i) = some (S (i + 1))) (hf : ∀ i : Nat, i < n → (∀ j, j < i → P j) → ¬ P i → step (S i) = none ∧ f (S i) = r1) (he : (∀ j, j < n → P j) → step (S n) = none ∧ f (S n) = r2) :
    th step (S 0) f = if Q then r2 else r1 := by
  by_cases h : ∀ i, i < n → P i
  · rw [if_pos (hQ.1 h), th_run (step := step) (f := f) S n (fun i hi => hs i hi (fun j hj => h j (by omega)) (h i hi)) (he h).1]
    exact (he h).2
  · rw [if_neg (fun g => h (hQ.2 g))]
    have hex : ∃ i, i < n ∧ ¬ P i := Classical.byContradiction fun hn => h fun i hi => Classical.byContradiction fun hp => hn ⟨i, hi, hp⟩
    have key : ∀ k, (∃ i, i < k ∧ i < n ∧ ¬ P i) → ∃ i, i < n ∧ ¬ P i ∧ ∀ j, j < i → P j := by
      intro k
      induction k with
      | zero => rintro ⟨i, hi, _⟩; omega
      | succ k ih =>
        rintro ⟨i, h1, h2, h3⟩
        by_cases hk : ∃ i, i < k ∧ i < n ∧ ¬ P i
        · exact ih hk
        · have hik : i = k := by
            rcases Nat.lt_or_ge i k with g | g
            · exact absurd ⟨i, g, h2, h3⟩ hk
            · omega
          refine ⟨i, h2, h3, fun j hj => ?_⟩
          exact Classical.byContradiction fun hp => hk ⟨j, by omega, by omega, hp⟩
    obtain ⟨i, h1, h2⟩ := hex
    obtain ⟨k, k1, k2, k3⟩ := key (i + 1) ⟨i, by omega, h1, h2⟩
    rw [th_run (step := step) (f := f) S k (fun i hi => hs i (by omega) (fun j hj => k3 j (by omega)) (k3 i hi)) (hf k k1 k3 k2).1]
    exact (hf k k1 k3 k2).2
def sl : List Ex → Int
  | [] => 0
  | x :: l => x.len + sl l
theorem sl_append : ∀ a b : List Ex, sl (a ++ b) = sl a + sl b
  | [], b => by simp [sl]
  | x :: a, b => by simp only [List.cons_append, sl, sl_append a b]; omega
theorem sl_take (l : List Ex) (i : Nat) (h : i < l.length) : sl (l.take (i + 1)) = sl (l.take i) + (exAt l i).len := by
  rw [take_at ⟨0, 0, 0, 0, []⟩ l i h, sl_append]; simp [sl, exAt]
def MP (l : List Ex) (i : Nat) : Prop := Ck (exAt l i) ∧ (exAt l i).lba = sl (l.take i) ∧ (0 < i → ¬ Jn (exAt l (i - 1)) (exAt l i))
def Mk (blocks : Int) (l : List Ex) : Prop := l ≠ [] ∧ (∀ i, i < l.length → MP l i) ∧ sl l = blocks
instance (l : List Ex) (i : Nat) : Decidable (MP l i) := by unfold MP; infer_instance
instance (blocks : Int) (l : List Ex) : Decidable (Mk blocks l) := by unfold Mk; infer_instance
def mk (blocks : Int) (l : List Ex) : Bool := decide (Mk blocks l)
theorem mk_iff {blocks : Int} {l : List Ex} : mk blocks l = true ↔ Mk blocks l := decide_eq_true_iff
theorem mk_t {blocks : Int} {l : List Ex} (h : Mk blocks l) : mk blocks l = true := mk_iff.2 h
theorem mk_f {blocks : Int} {l : List Ex} (h : ¬ Mk blocks l) : mk blocks l = false := decide_eq_false_iff_not.2 h
theorem mp_bound {l : List Ex} {i : Nat} (hi : i ≤ l.length) (h : ∀ j, j < i → MP l j) : 0 ≤ sl (l.take i) ∧ sl (l.take i) ≤ 64 ∧ (0 < i → 1 ≤ sl (l.take i)) := by
  induction i with
  | zero => simp [sl]
  | succ i ih =>
    have h1 := ih (by omega) fun j hj => h j (by omega)
    have h2 := h i (by omega)
    have h3 := h2.1
    have h4 := h2.2.1
    unfold Ck at h3
    rw [sl_take l i (by omega)]
    omega
theorem mCheck_eq (blocks : Int) (l : List Ex) (hl : l.length ≤ 4294967296) : mCheck blocks l = some (mk blocks l) := by
  unfold mCheck
  have hstep : ∀ i : Nat, i < l.length → (∀ j, j < i → MP l j) → MP l i → mCheck_L0_step blocks l (sl (l.take i), (i : Int)) = some (sl (l.take (i + 1)), ((i + 1 : Nat) : Int)) := by
    intro i hi hpre hp
    have hb := mp_bound (by omega) hpre
    have hck := hp.1
    have hlba := hp.2.1
    unfold mCheck_L0_step
    simp only [tb_dec, tb_bne, tb_not, eCheck_eq, eJoins_eq, tc_some, Int.toNat_natCast]
    unfold Ck at hck
    rw [if_pos (by omega), tp_pos (by omega), ck_t hp.1, tb_t, if_pos hlba, sl_take l i hi, wr_id (x := sl (l.take i) + (exAt l i).len) (by omega) (by omega), wr_id (x := (i : Int) + 1) (by omega) (by omega)]
    have e1 : ((i + 1 : Nat) : Int) = (i : Int) + 1 := by omega
    rw [e1]
    by_cases h0 : (i : Int) > 0
    · rw [if_pos h0, wr_id (x := (i : Int) - 1) (by omega) (by omega), tp_pos (by omega), show ((i : Int) - 1).toNat = i - 1 by omega, jn_f (hp.2.2 (by omega)), tb_f]
    · rw [if_neg h0]
  have := th_first (step := mCheck_L0_step blocks l) (some false) (if l ≠ [] ∧ sl l = blocks then some true else some false) (fun i => (sl (l.take i), (i : Int))) l.length (MP l) (∀ i, i < l.length → MP l i) Iff.rfl hstep (f := fun s0 =>
    tb (decide (s0.2 < (l.length : Int))) (tp ((0 : Int) ≤ s0.2 ∧ s0.2 < (l.length : Int)) (tc (eCheck (exAt l s0.2.toNat)) fun s3 => tb (!s3) (some false) (tb ((exAt l s0.2.toNat).lba != s0.1) (some false) (tb (decide (s0.2 > 0)) (tp ((0 : Int) ≤ wr (s0.2 - 1) ∧ wr (s0.2 - 1) < (l.length : Int)) (tc (eJoins (exAt l (wr (s0.2 - 1)).toNat) (exAt l s0.2.toNat)) fun s8 => tb s8 (some false) none)) none))))
      (tb (decide ((l.length : Int) > 0)) (some (s0.1 == blocks)) (some false))) ?_ ?_
  · simp only [List.take_zero, sl, Int.natCast_zero] at this
    rw [this]
    by_cases hall : ∀ i, i < l.length → MP l i
    · rw [if_pos hall]
      by_cases h : l ≠ [] ∧ sl l = blocks
      · rw [if_pos h, mk_t ⟨h.1, hall, h.2⟩]
      · rw [if_neg h, mk_f fun g => h ⟨g.1, g.2.2⟩]
    · rw [if_neg hall, mk_f fun g => hall g.2.1]
  · intro i hi hpre hp
    have hb := mp_bound (by omega) hpre
    unfold mCheck_L0_step
    simp only [tb_dec, tb_bne, tb_not, eCheck_eq, eJoins_eq, tc_some, Int.toNat_natCast]
    by_cases hck : Ck (exAt l i)
    case neg => refine ⟨?_, ?_⟩ <;> (rw [if_pos (by omega), tp_pos (by omega), ck_f hck]; rfl)
    by_cases hlba : (exAt l i).lba = sl (l.take i)
    case neg => refine ⟨?_, ?_⟩ <;> (rw [if_pos (by omega), tp_pos (by omega), ck_t hck, tb_t, if_neg hlba])
    have hj : 0 < i ∧ Jn (exAt l (i - 1)) (exAt l i) := by
      refine ⟨?_, ?_⟩
      · rcases Nat.eq_zero_or_pos i with h | h
        · subst h; exact absurd ⟨hck, hlba, fun h => by omega⟩ hp
        · exact h
      · exact Classical.byContradiction fun h => hp ⟨hck, hlba, fun _ => h⟩
    refine ⟨?_, ?_⟩ <;> (rw [if_pos (by omega), tp_pos (by omega), ck_t hck, tb_t, if_pos hlba, if_pos (by omega), wr_id (x := (i : Int) - 1) (by omega) (by omega), tp_pos (by omega), show ((i : Int) - 1).toNat = i - 1 by omega, jn_t hj.2]; rfl)
  · intro hall
    unfold mCheck_L0_step
    simp only [tb_dec]
    rw [if_neg (by omega), if_neg (by omega)]
    refine ⟨rfl, ?_⟩
    rw [List.take_length]
    by_cases h0 : l = []
    · subst h0; simp
    · have : 0 < l.length := List.length_pos_iff.2 h0
      rw [if_pos (by omega)]
      by_cases hb : sl l = blocks
      · rw [if_pos ⟨h0, hb⟩, hb]; simp
      · rw [if_neg (fun h => hb h.2)]; simp [hb]
theorem mk_blocks {blocks : Int} {l : List Ex} (h : Mk blocks l) : 1 ≤ blocks ∧ blocks ≤ 64 := by
  have hb := mp_bound (Nat.le_refl _) h.2.1
  rw [List.take_length, h.2.2] at hb
  have := List.length_pos_iff.2 h.1
  omega
end Ab
end Go.Proofs.Ytiaelfmohamipaa
namespace Go.Proofs.Ytiaelfmohamipaa
open Go Go.Proofs.Ytiaelfmohamipaa.Ab
set_option linter.unusedVariables false
set_option linter.unusedSimpArgs false
namespace Ab
def Cu (x : Ex) (lba n : Int) : Prop := Ck x ∧ 0 ≤ lba ∧ lba ≤ 64 ∧ 0 ≤ n ∧ n ≤ 64 ∧ max x.lba lba < min (x.lba + x.len) (lba + n)
instance (x : Ex) (lba n : Int) : Decidable (Cu x lba n) := by unfold Cu; infer_instance
def cu (x : Ex) (lba n : Int) : Ex :=
  ⟨max x.lba lba, min (x.lba + x.len) (lba + n) - max x.lba lba, x.kind, x.gen, if x.kind = 2 then (x.d.drop (32 * (max x.lba lba - x.lba)).toNat).take (32 * (min (x.lba + x.len) (lba + n) - max x.lba lba)).toNat else []⟩
def e0 : Ex := ⟨0, 0, 0, 0, []⟩
def cut (x : Ex) (lba n : Int) : Option Ex := if Cu x lba n then some (cu x lba n) else none
def cutv (x : Ex) (lba n : Int) : Ex × Bool := if Cu x lba n then (cu x lba n, true) else (e0, false)
theorem cut_pos {x : Ex} {lba n : Int} (h : Cu x lba n) : cut x lba n = some (cu x lba n) := if_pos h
theorem cut_neg {x : Ex} {lba n : Int} (h : ¬ Cu x lba n) : cut x lba n = none := if_neg h
theorem cutv_pos {x : Ex} {lba n : Int} (h : Cu x lba n) : cutv x lba n = (cu x lba n, true) := if_pos h
theorem cutv_neg {x : Ex} {lba n : Int} (h : ¬ Cu x lba n) : cutv x lba n = (e0, false) := if_neg h
theorem dslice (d : List UInt8) (x f t : Int) (h1 : 0 ≤ x) (h2 : x ≤ f) (h3 : f ≤ t) (h4 : t ≤ 64) (hd : 32 * (t - x) ≤ d.length) :
    List.take (((32 * (t - x)).toNat - (32 * (f - x)).toNat) * 1) (List.take (((32 * (t - x)).toNat - (32 * (f - x)).toNat) * 1) (List.drop ((32 * (f - x)).toNat * 1) d)) = (d.drop (32 * (f - x)).toNat).take (32 * (t - f)).toNat := by
  rw [Nat.mul_one, Nat.mul_one, List.take_take, Nat.min_self, show (32 * (t - x)).toNat - (32 * (f - x)).toNat = (32 * (t - f)).toNat by omega]
theorem eCut_eq (x : Ex) (lba n : Int) : eCut x lba n = some (cutv x lba n) := by
  unfold eCut
  simp only [eCheck_eq, tc_some, tb_not, tb_dec, tb_beq, imin_eq, imax_eq]
  by_cases hc : Ck x
  case neg => rw [ck_f hc, tb_f]; unfold cutv; rw [if_neg fun h => hc h.1]; rfl
  rw [ck_t hc, tb_t]
  by_cases h1 : lba ≥ 0
  case neg => rw [if_neg h1]; unfold cutv; rw [if_neg fun h => h1 h.2.1]; rfl
  by_cases h2 : lba ≤ 64
  case neg => rw [if_pos h1, if_neg h2]; unfold cutv; rw [if_neg fun h => h2 h.2.2.1]; rfl
  by_cases h3 : n ≥ 0
  case neg => rw [if_pos h1, if_pos h2, if_neg h3]; unfold cutv; rw [if_neg fun h => h3 h.2.2.2.1]; rfl
  by_cases h4 : n ≤ 64
  case neg => rw [if_pos h1, if_pos h2, if_pos h3, if_neg h4]; unfold cutv; rw [if_neg fun h => h4 h.2.2.2.2.1]; rfl
  have hcc := hc
  unfold Ck at hcc
  rw [if_pos h1, if_pos h2, if_pos h3, if_pos h4, wr_id (x := x.lba + x.len) (by omega) (by omega), wr_id (x := lba + n) (by omega) (by omega)]
  have hf1 : x.lba ≤ max x.lba lba := by omega
  have hf2 : max x.lba lba ≤ 64 := by omega
  have ht1 : min (x.lba + x.len) (lba + n) ≤ x.lba + x.len := by omega
  have hcu : (Cu x lba n) ↔ max x.lba lba < min (x.lba + x.len) (lba + n) := ⟨fun h => h.2.2.2.2.2, fun h => ⟨hc, h1, h2, h3, h4, h⟩⟩
  unfold cutv
  simp only [hcu]
  unfold cu
  generalize max x.lba lba = f at hf1 hf2 ⊢
  generalize min (x.lba + x.len) (lba + n) = t at ht1 ⊢
  by_cases h5 : f ≥ t
  · rw [if_pos h5, if_neg (show ¬ f < t by omega)]; rfl
  rw [if_neg h5, if_pos (show f < t by omega)]
  have w1 : wr (f - x.lba) = f - x.lba := wr_id (by omega) (by omega)
  have w2 : wr (t - x.lba) = t - x.lba := wr_id (by omega) (by omega)
  have w3 : wr (t - f) = t - f := wr_id (by omega) (by omega)
  have w4 : wr ((f - x.lba) * 32) = 32 * (f - x.lba) := by rw [wr_id (by omega) (by omega)]; omega
  have w5 : wr ((t - x.lba) * 32) = 32 * (t - x.lba) := by rw [wr_id (by omega) (by omega)]; omega
  rw [w1, w2, w3, w4, w5]
  by_cases hk : x.kind = 2
  · have hd := hcc.2.2.2.2.2.2.2.2.1 hk
    rw [if_pos hk, if_pos hk, tp_pos (by omega), tp_pos (by omega), tp_pos (by rw [List.length_map]; omega), tp_pos (by omega), dslice _ _ _ _ (by omega) (by omega) (by omega) (by omega) (by omega)]
  · rw [if_neg hk, if_neg hk]
theorem th_gath {σ α : Type} {step : σ × Int → Option (σ × Int)} {f : σ × Int → Option α} (A : Nat → σ) (n : Nat) (hs : ∀ i : Nat, i < n → step (A i, (i : Int)) = some (A (i + 1), (i : Int) + 1)) (he : step (A n, (n : Int)) = none) : th step (A 0, 0) f = f (A n, (n : Int)) := by
  have := th_run (step := step) (f := f) (fun i => (A i, (i : Int))) n (fun i hi => by rw [hs i hi]; simp) he
  simpa using this
def Ro (blocks lba n : Int) : Prop := 0 ≤ lba ∧ lba ≤ blocks ∧ 1 ≤ n ∧ n ≤ blocks - lba
instance (blocks lba n : Int) : Decidable (Ro blocks lba n) := by unfold Ro; infer_instance
theorem ex_take1 (l : List Ex) (i : Nat) (hi : i < l.length) : l.take (i + 1) = l.take i ++ [exAt l i] := by unfold exAt; exact take_at _ l i hi
end Ab
end Go.Proofs.Ytiaelfmohamipaa
namespace Go.Proofs.Ytiaelfmohamipaa
open Go Go.Proofs.Ytiaelfmohamipaa.Ab
set_option linter.unusedVariables false
set_option linter.unusedSimpArgs false
namespace Ab
def CH : Int → List Ex → Prop
  | _, [] => True
  | s, x :: l => Ck x ∧ x.lba = s ∧ (∀ y, l.head? = some y → ¬ Jn x y) ∧ CH (s + x.len) l
theorem mk_ch {blocks : Int} {l : List Ex} (h : Mk blocks l) : CH 0 l := by
  have key : ∀ j, j ≤ l.length → CH (sl (l.take (l.length - j))) (l.drop (l.length - j)) := by
    intro j
    induction j with
    | zero => intro _; rw [Nat.sub_zero, List.drop_length]; trivial
    | succ j ih =>
      intro hj
      have hi : l.length - (j + 1) < l.length := by omega
      have hm := h.2.1 (l.length - (j + 1)) hi
      have e : l.drop (l.length - (j + 1)) = exAt l (l.length - (j + 1)) :: l.drop (l.length - (j + 1) + 1) := by unfold exAt; exact drop_at _ l _ hi
      rw [e]
      have hs := sl_take l (l.length - (j + 1)) hi
      have e2 : l.length - (j + 1) + 1 = l.length - j := by omega
      rw [e2] at hs ⊢
      refine ⟨hm.1, hm.2.1, fun y hy => ?_, by rw [← hs]; exact ih (by omega)⟩
      have hy2 : l.length - j < l.length ∧ y = exAt l (l.length - j) := by
        rw [List.head?_drop] at hy
        obtain ⟨g, e3⟩ := List.getElem?_eq_some_iff.1 hy
        exact ⟨g, by unfold exAt; simp [g, e3]⟩
      have hm2 := (h.2.1 (l.length - j) hy2.1).2.2 (by omega)
      rw [show l.length - j - 1 = l.length - (j + 1) by omega, ← hy2.2] at hm2
      exact hm2
  have := key l.length (Nat.le_refl _)
  simpa [sl] using this
theorem ch_ck : ∀ {l : List Ex} {s : Int}, CH s l → ∀ z ∈ l, Ck z ∧ s ≤ z.lba
  | [], _, _, z, hz => by cases hz
  | x :: l, s, h, z, hz => by
    have hc := h.1
    unfold Ck at hc
    rcases List.mem_cons.1 hz with e | e
    · subst e; exact ⟨h.1, by have := h.2.1; omega⟩
    · have := ch_ck h.2.2.2 z e
      exact ⟨this.1, by omega⟩
theorem cu_ck {x : Ex} {lo n : Int} (h : Cu x lo n) : Ck (cu x lo n) := by
  obtain ⟨c1, c2, c3, c4, c5, c6⟩ := h
  unfold Ck at c1
  refine ⟨by simp only [cu]; omega, by simp only [cu]; omega, by simp only [cu]; omega, by simp only [cu]; omega, by simp only [cu]; omega, by simp only [cu]; omega, by simp only [cu]; omega, by simp only [cu]; omega, fun hk => ?_, fun hk => ?_⟩
  · have hk : x.kind = 2 := hk
    have := c1.2.2.2.2.2.2.2.2.1 hk
    simp only [cu, if_pos hk, List.length_take, List.length_drop]; omega
  · have hk : ¬ x.kind = 2 := hk
    simp only [cu, if_neg hk]
end Ab
end Go.Proofs.Ytiaelfmohamipaa
namespace Go.Proofs.Ytiaelfmohamipaa
open Go Go.Proofs.Ytiaelfmohamipaa.Ab
set_option linter.unusedVariables false
set_option linter.unusedSimpArgs false
namespace Ab
def bAt (x : Ex) (k : Int) : Int × Int × List UInt8 := (x.kind, x.gen, (x.d.drop (32 * (k - x.lba)).toNat).take 32)
def Cv (x : Ex) (k : Int) (c : Int × Int × List UInt8) : Prop := x.lba ≤ k ∧ k < x.lba + x.len ∧ c = bAt x k
def Den (l : List Ex) (k : Int) (c : Int × Int × List UInt8) : Prop := ∃ x ∈ l, Cv x k c
theorem den_nil {k : Int} {c : Int × Int × List UInt8} : ¬ Den [] k c := fun ⟨x, hx, _⟩ => by cases hx
theorem den_cons {x : Ex} {l : List Ex} {k : Int} {c : Int × Int × List UInt8} : Den (x :: l) k c ↔ Cv x k c ∨ Den l k c := by
  unfold Den; simp
theorem den_app {a b : List Ex} {k : Int} {c : Int × Int × List UInt8} : Den (a ++ b) k c ↔ Den a k c ∨ Den b k c := by
  unfold Den
  constructor
  · rintro ⟨x, hx, h⟩
    rcases List.mem_append.1 hx with e | e
    · exact .inl ⟨x, e, h⟩
    · exact .inr ⟨x, e, h⟩
  · rintro (⟨x, hx, h⟩ | ⟨x, hx, h⟩)
    · exact ⟨x, List.mem_append.2 (.inl hx), h⟩
    · exact ⟨x, List.mem_append.2 (.inr hx), h⟩
theorem den_one {x : Ex} {k : Int} {c : Int × Int × List UInt8} : Den [x] k c ↔ Cv x k c := by
  rw [den_cons]; exact or_iff_left den_nil
theorem ck_pos {x : Ex} (h : Ck x) : 0 ≤ x.lba ∧ x.lba ≤ 64 ∧ 1 ≤ x.len ∧ x.lba + x.len ≤ 64 := by
  unfold Ck at h; omega
theorem ck_d2 {x : Ex} (h : Ck x) (hk : x.kind = 2) : (x.d.length : Int) = 32 * x.len := by
  unfold Ck at h; exact h.2.2.2.2.2.2.2.2.1 hk
theorem ck_d0 {x : Ex} (h : Ck x) (hk : x.kind ≠ 2) : x.d = [] := by
  unfold Ck at h; exact h.2.2.2.2.2.2.2.2.2 hk
theorem bAt_cu {x : Ex} {lo n k : Int} (h : Ck x) (h1 : max x.lba lo ≤ k) (h2 : k < min (x.lba + x.len) (lo + n)) : bAt (cu x lo n) k = bAt x k := by
  have hp := ck_pos h
  simp only [bAt, cu, Prod.mk.injEq, true_and]
  split
  · rename_i hk
    have e : (32 * (k - x.lba)).toNat = (32 * (max x.lba lo - x.lba)).toNat + (32 * (k - max x.lba lo)).toNat := by omega
    rw [e, ← List.drop_drop, List.drop_take, List.take_take]
    congr 1
    omega
  · rename_i hk
    rw [ck_d0 h hk]; simp
theorem cv_cut {x : Ex} {lo n k : Int} {c : Int × Int × List UInt8} (h : Ck x) (h1 : 0 ≤ lo ∧ lo ≤ 64) (h2 : 0 ≤ n ∧ n ≤ 64) : Den (cut x lo n).toList k c ↔ lo ≤ k ∧ k < lo + n ∧ Cv x k c := by
  by_cases g : Cu x lo n
  · rw [cut_pos g]
    show Den [cu x lo n] k c ↔ _
    rw [den_one]
    unfold Cv
    have e1 : (cu x lo n).lba = max x.lba lo := rfl
    have e2 : (cu x lo n).len = min (x.lba + x.len) (lo + n) - max x.lba lo := rfl
    rw [e1, e2]
    constructor
    · rintro ⟨a, b, e⟩
      rw [bAt_cu h (by omega) (by omega)] at e
      exact ⟨by omega, by omega, by omega, by omega, e⟩
    · rintro ⟨a, b, c1, c2, e⟩
      exact ⟨by omega, by omega, by rw [bAt_cu h (by omega) (by omega)]; exact e⟩
  · rw [cut_neg g]
    refine ⟨fun hd => absurd hd den_nil, fun ⟨a, b, c1, c2, e⟩ => absurd ?_ g⟩
    exact ⟨h, by omega, by omega, by omega, by omega, by omega⟩
theorem ck_jnx {a b : Ex} (h : Jn a b) : Ck (jnx a b) := by
  obtain ⟨ha, hb, h1, h2, h3⟩ := h
  have pa := ck_pos ha
  have pb := ck_pos hb
  have ca := ha
  unfold Ck at ca
  refine ⟨by simp only [jnx]; omega, by simp only [jnx]; omega, by simp only [jnx]; omega, by simp only [jnx]; omega, by simp only [jnx]; omega, by simp only [jnx]; omega, by simp only [jnx]; omega, by simp only [jnx]; omega, fun hk => ?_, fun hk => ?_⟩
  · have hk : a.kind = 2 := hk
    have e1 := ck_d2 ha hk
    have e2 := ck_d2 hb (h2 ▸ hk)
    simp only [jnx, List.length_append]; omega
  · have hk : a.kind ≠ 2 := hk
    simp only [jnx, ck_d0 ha hk, ck_d0 hb (h2 ▸ hk), List.append_nil]
theorem cv_jnx {a b : Ex} (h : Jn a b) {k : Int} {c : Int × Int × List UInt8} : Cv (jnx a b) k c ↔ Cv a k c ∨ Cv b k c := by
  obtain ⟨ha, hb, h1, h2, h3⟩ := h
  have pa := ck_pos ha
  have pb := ck_pos hb
  have e0 : (jnx a b).lba = a.lba := rfl
  have e1 : (jnx a b).len = a.len + b.len := rfl
  have k1 : ∀ k, a.lba ≤ k → k < a.lba + a.len → bAt (jnx a b) k = bAt a k := by
    intro k g1 g2
    simp only [bAt, jnx, Prod.mk.injEq, true_and]
    by_cases hk : a.kind = 2
    · have d1 := ck_d2 ha hk
      rw [List.drop_append_of_le_length (by omega), List.take_append_of_le_length (by rw [List.length_drop]; omega)]
    · rw [ck_d0 ha hk, ck_d0 hb (h2 ▸ hk)]; rfl
  have k2 : ∀ k, b.lba ≤ k → k < b.lba + b.len → bAt (jnx a b) k = bAt b k := by
    intro k g1 g2
    simp only [bAt, jnx, Prod.mk.injEq]
    refine ⟨h2, h3, ?_⟩
    by_cases hk : a.kind = 2
    · have d1 := ck_d2 ha hk
      have e : (32 * (k - a.lba)).toNat = a.d.length + (32 * (k - b.lba)).toNat := by omega
      rw [e, ← List.drop_drop, List.drop_left]
    · rw [ck_d0 ha hk, ck_d0 hb (h2 ▸ hk)]; simp
  unfold Cv
  rw [e0, e1]
  constructor
  · rintro ⟨g1, g2, e⟩
    by_cases g : k < a.lba + a.len
    · exact .inl ⟨g1, g, by rw [← k1 k g1 g]; exact e⟩
    · exact .inr ⟨by omega, by omega, by rw [← k2 k (by omega) (by omega)]; exact e⟩
  · rintro (⟨g1, g2, e⟩ | ⟨g1, g2, e⟩)
    · exact ⟨by omega, by omega, by rw [k1 k g1 g2]; exact e⟩
    · exact ⟨by omega, by omega, by rw [k2 k g1 g2]; exact e⟩
theorem snoc_of {out : List Ex} (h : out ≠ []) : out = out.dropLast ++ [out.getLastD ⟨0, 0, 0, 0, []⟩] := by
  have e : out = out.dropLast ++ [out.getLast h] := (List.dropLast_concat_getLast h).symm
  have e2 : out.getLastD ⟨0, 0, 0, 0, []⟩ = out.getLast h := (congrArg (fun l => List.getLastD l ⟨0, 0, 0, 0, []⟩) e).trans (by simp)
  rw [e2]; exact e
theorem den_add {out : List Ex} {y : Ex} {k : Int} {c : Int × Int × List UInt8} : Den (add out y) k c ↔ Den out k c ∨ Cv y k c := by
  unfold add
  by_cases h : out ≠ [] ∧ Jn (out.getLastD ⟨0, 0, 0, 0, []⟩) y
  · rw [if_pos h]
    have e := snoc_of h.1
    generalize out.getLastD ⟨0, 0, 0, 0, []⟩ = a at h e ⊢
    generalize out.dropLast = o at e ⊢
    rw [e, den_app, den_app, den_one, den_one, cv_jnx h.2, or_assoc]
  · rw [if_neg h, den_app, den_one]
theorem den_adds : ∀ (ys out : List Ex) {k : Int} {c : Int × Int × List UInt8}, Den (ys.foldl add out) k c ↔ Den out k c ∨ Den ys k c
  | [], out, k, c => by simp only [List.foldl_nil]; exact (or_iff_left den_nil).symm
  | y :: ys, out, k, c => by rw [List.foldl_cons, den_adds ys, den_add, den_cons, or_assoc]
theorem ch_snoc : ∀ (o : List Ex) (s : Int) (y : Ex), CH s (o ++ [y]) ↔ CH s o ∧ Ck y ∧ y.lba = s + sl o ∧ (∀ a, o.getLast? = some a → ¬ Jn a y)
  | [], s, y => by simp [CH, sl]
  | x :: o, s, y => by
    have ih := ch_snoc o (s + x.len) y
    rw [List.cons_append]
    unfold CH
    rw [ih]
    cases o with
    | nil =>
      simp only [List.nil_append, List.head?_cons, List.head?_nil, Option.some.injEq, forall_eq', List.getLast?_singleton, List.getLast?_nil, CH, sl]
      constructor
      · rintro ⟨a, b, d, e, f, g, _⟩
        exact ⟨⟨a, b, (by intro y h; cases h), trivial⟩, f, by omega, d⟩
      · rintro ⟨⟨a, b, _, _⟩, f, g, d⟩
        exact ⟨a, b, d, trivial, f, by omega, (by intro a h; cases h)⟩
    | cons z o =>
      simp only [List.cons_append, List.head?_cons, Option.some.injEq, forall_eq', List.getLast?_cons_cons, sl]
      constructor
      · rintro ⟨a, b, d, e, f, g, i⟩
        exact ⟨⟨a, b, d, e⟩, f, by omega, i⟩
      · rintro ⟨⟨a, b, d, e⟩, f, g, i⟩
        exact ⟨a, b, d, e, f, by omega, i⟩
theorem ch_add {s : Int} {out : List Ex} {y : Ex} (h : CH s out) (hy : Ck y) (hl : y.lba = s + sl out) : CH s (add out y) ∧ sl (add out y) = sl out + y.len := by
  unfold add
  by_cases g : out ≠ [] ∧ Jn (out.getLastD ⟨0, 0, 0, 0, []⟩) y
  · rw [if_pos g]
    have e := snoc_of g.1
    generalize out.getLastD ⟨0, 0, 0, 0, []⟩ = a at g e ⊢
    generalize out.dropLast = o at e ⊢
    rw [e] at h hl ⊢
    obtain ⟨c1, c2, c3, c4⟩ := (ch_snoc o s a).1 h
    refine ⟨(ch_snoc o s _).2 ⟨c1, ck_jnx g.2, c3, fun b hb hj => c4 b hb ⟨hj.1, c2, hj.2.2.1, hj.2.2.2.1, hj.2.2.2.2⟩⟩, ?_⟩
    rw [sl_append, sl_append]
    simp only [sl, jnx]; omega
  · rw [if_neg g]
    refine ⟨(ch_snoc out s y).2 ⟨h, hy, hl, fun a ha hj => g ⟨?_, ?_⟩⟩, ?_⟩
    · intro e0; rw [e0] at ha; cases ha
    · rw [List.getLastD_eq_getLast?, ha]; exact hj
    · rw [sl_append]; simp only [sl]; omega
def Cg : Int → List Ex → Int → Prop
  | s, [], e => s = e
  | s, p :: ps, e => Ck p ∧ p.lba = s ∧ Cg (s + p.len) ps e
theorem cg_app : ∀ (a b : List Ex) {s m e : Int}, Cg s a m → Cg m b e → Cg s (a ++ b) e
  | [], b, s, m, e, h1, h2 => by rw [show s = m from h1]; exact h2
  | x :: a, b, s, m, e, h1, h2 => ⟨h1.1, h1.2.1, cg_app a b h1.2.2 h2⟩
theorem ch_adds : ∀ (ps out : List Ex) {e : Int}, CH 0 out → Cg (sl out) ps e → CH 0 (ps.foldl add out) ∧ sl (ps.foldl add out) = e
  | [], out, e, h, hg => ⟨h, hg⟩
  | p :: ps, out, e, h, hg => by
    obtain ⟨a, b⟩ := ch_add h hg.1 (by rw [Int.zero_add]; exact hg.2.1)
    rw [List.foldl_cons]
    exact ch_adds ps _ a (by rw [b]; exact hg.2.2)
theorem ch_cg : ∀ {l : List Ex} {s : Int}, CH s l → Cg s l (s + sl l)
  | [], s, _ => by simp [Cg, sl]
  | x :: l, s, h => ⟨h.1, h.2.1, by rw [show s + sl (x :: l) = s + x.len + sl l by simp only [sl]; omega]; exact ch_cg h.2.2.2⟩
theorem den_ge {l : List Ex} {s : Int} (h : CH s l) {k : Int} {c : Int × Int × List UInt8} (hd : Den l k c) : s ≤ k := by
  obtain ⟨x, hx, hc⟩ := hd
  have := (ch_ck h x hx).2
  have := hc.1
  omega
end Ab
end Go.Proofs.Ytiaelfmohamipaa
namespace Go.Proofs.Ytiaelfmohamipaa
open Go Go.Proofs.Ytiaelfmohamipaa.Ab
set_option linter.unusedVariables false
set_option linter.unusedSimpArgs false
namespace Ab
def P1 (x : Ex) (fl : Bool) (e : Ex) : List Ex := (cut e 0 x.lba).toList ++ ((if fl = false ∧ e.lba + e.len > x.lba then [x] else []) ++ (cut e (x.lba + x.len) 64).toList)
def F1 (x : Ex) (fl : Bool) (e : Ex) : Bool := fl || decide (e.lba + e.len > x.lba)
def pcs (x : Ex) : Bool → List Ex → List Ex
  | _, [] => []
  | fl, e :: l => P1 x fl e ++ pcs x (F1 x fl e) l
def stp (x : Ex) (p : Bool × List Ex) (e : Ex) : Bool × List Ex := (F1 x p.1 e, (P1 x p.1 e).foldl add p.2)
theorem stp_pcs (x : Ex) : ∀ (l : List Ex) (fl : Bool) (out : List Ex), (l.foldl (stp x) (fl, out)).2 = (pcs x fl l).foldl add out
  | [], _, _ => rfl
  | e :: l, fl, out => by
    rw [List.foldl_cons]
    show (l.foldl (stp x) (F1 x fl e, (P1 x fl e).foldl add out)).2 = _
    rw [stp_pcs x l, pcs, List.foldl_append]
def put (l : List Ex) (x : Ex) : List Ex := (pcs x false l).foldl add []
theorem den_P1 {x e : Ex} (hx : Ck x) (he : Ck e) {fl : Bool} {k : Int} {c : Int × Int × List UInt8} :
    Den (P1 x fl e) k c ↔ ((k < x.lba ∨ x.lba + x.len ≤ k) ∧ Cv e k c) ∨ (fl = false ∧ e.lba + e.len > x.lba ∧ Cv x k c) := by
  have px := ck_pos hx
  have pe := ck_pos he
  unfold P1
  rw [den_app, den_app, cv_cut he (by omega) (by omega), cv_cut he (by omega) (by omega)]
  have hm : Den (if fl = false ∧ e.lba + e.len > x.lba then [x] else []) k c ↔ fl = false ∧ e.lba + e.len > x.lba ∧ Cv x k c := by
    split
    · rename_i h
      rw [den_one]
      exact ⟨fun q => ⟨h.1, h.2, q⟩, fun q => q.2.2⟩
    · rename_i h
      exact ⟨fun q => absurd q den_nil, fun q => absurd ⟨q.1, q.2.1⟩ h⟩
  rw [hm]
  constructor
  · rintro (⟨a, b, q⟩ | q | ⟨a, b, q⟩)
    · exact .inl ⟨.inl (by omega), q⟩
    · exact .inr q
    · exact .inl ⟨.inr (by omega), q⟩
  · rintro (⟨a | a, q⟩ | q)
    · have := q.1; exact .inl ⟨by omega, by omega, q⟩
    · have := q.2.1; exact .inr (.inr ⟨by omega, by omega, q⟩)
    · exact .inr (.inl q)
theorem den_pcs_t {x : Ex} (hx : Ck x) : ∀ (l : List Ex), (∀ e ∈ l, Ck e) → ∀ {k : Int} {c : Int × Int × List UInt8}, Den (pcs x true l) k c ↔ (k < x.lba ∨ x.lba + x.len ≤ k) ∧ Den l k c
  | [], _, k, c => by simp only [pcs]; exact ⟨fun q => absurd q den_nil, fun q => absurd q.2 den_nil⟩
  | e :: l, h, k, c => by
    have ih := den_pcs_t hx l (fun y hy => h y (by simp [hy])) (k := k) (c := c)
    rw [pcs, den_app, den_P1 hx (h e (by simp)), den_cons]
    rw [show F1 x true e = true from rfl, ih]
    constructor
    · rintro ((⟨a, q⟩ | ⟨a, _⟩) | ⟨a, q⟩)
      · exact ⟨a, .inl q⟩
      · cases a
      · exact ⟨a, .inr q⟩
    · rintro ⟨a, q | q⟩
      · exact .inl (.inl ⟨a, q⟩)
      · exact .inr ⟨a, q⟩
theorem den_pcs_f {x : Ex} (hx : Ck x) : ∀ (l : List Ex), (∀ e ∈ l, Ck e) → ∀ {k : Int} {c : Int × Int × List UInt8}, Den (pcs x false l) k c ↔ ((k < x.lba ∨ x.lba + x.len ≤ k) ∧ Den l k c) ∨ (Cv x k c ∧ ∃ e ∈ l, e.lba + e.len > x.lba)
  | [], _, k, c => by
    simp only [pcs]
    refine ⟨fun q => absurd q den_nil, ?_⟩
    rintro (⟨_, q⟩ | ⟨_, e, he, _⟩)
    · exact absurd q den_nil
    · cases he
  | e :: l, h, k, c => by
    rw [pcs, den_app, den_P1 hx (h e (by simp)), den_cons]
    by_cases g : e.lba + e.len > x.lba
    · rw [show F1 x false e = true from decide_eq_true g, den_pcs_t hx l (fun y hy => h y (by simp [hy]))]
      constructor
      · rintro ((⟨a, q⟩ | ⟨_, _, q⟩) | ⟨a, q⟩)
        · exact .inl ⟨a, .inl q⟩
        · exact .inr ⟨q, e, by simp, g⟩
        · exact .inl ⟨a, .inr q⟩
      · rintro (⟨a, q | q⟩ | ⟨q, _⟩)
        · exact .inl (.inl ⟨a, q⟩)
        · exact .inr ⟨a, q⟩
        · exact .inl (.inr ⟨rfl, g, q⟩)
    · rw [show F1 x false e = false from decide_eq_false g, den_pcs_f hx l (fun y hy => h y (by simp [hy]))]
      constructor
      · rintro ((⟨a, q⟩ | ⟨_, q, _⟩) | ⟨a, q⟩ | ⟨q, y, hy, hg⟩)
        · exact .inl ⟨a, .inl q⟩
        · exact absurd q g
        · exact .inl ⟨a, .inr q⟩
        · exact .inr ⟨q, y, by simp [hy], hg⟩
      · rintro (⟨a, q | q⟩ | ⟨q, y, hy, hg⟩)
        · exact .inl (.inl ⟨a, q⟩)
        · exact .inr (.inl ⟨a, q⟩)
        · rcases List.mem_cons.1 hy with e1 | e1
          · subst e1; exact absurd hg g
          · exact .inr (.inr ⟨q, y, e1, hg⟩)
theorem cg_cut {e : Ex} {lo n a b : Int} (he : Ck e) (h1 : 0 ≤ lo ∧ lo ≤ 64) (h2 : 0 ≤ n ∧ n ≤ 64) (ha : a = max e.lba lo) (hb : b = min (e.lba + e.len) (lo + n)) (hab : a < b) : Cg a (cut e lo n).toList b := by
  have g : Cu e lo n := ⟨he, h1.1, h1.2, h2.1, h2.2, by omega⟩
  rw [cut_pos g]
  refine ⟨cu_ck g, ha.symm, ?_⟩
  show a + (min (e.lba + e.len) (lo + n) - max e.lba lo) = b
  omega
theorem cg_none {e : Ex} {lo n a : Int} (h : ¬ max e.lba lo < min (e.lba + e.len) (lo + n)) : Cg a (cut e lo n).toList a := by
  rw [cut_neg fun g => h g.2.2.2.2.2]; rfl
theorem cg_pcs_t {x : Ex} (hx : Ck x) : ∀ (l : List Ex) (s e : Int), Cg s l e → x.lba < s → Cg (max s (x.lba + x.len)) (pcs x true l) (max e (x.lba + x.len))
  | [], s, e, h, _ => by rw [show s = e from h]; rfl
  | y :: l, s, e, h, hs => by
    obtain ⟨h1, h2, h3⟩ := h
    have px := ck_pos hx
    have py := ck_pos h1
    rw [pcs, P1, if_neg (by simp), List.nil_append]
    have hr := cg_pcs_t hx l (s + y.len) e h3 (by omega)
    refine cg_app _ _ (cg_app _ _ (cg_none (a := max s (x.lba + x.len)) (by omega)) ?_) hr
    by_cases g : s + y.len > x.lba + x.len
    · exact cg_cut h1 (by omega) (by omega) (by omega) (by omega) (by omega)
    · have e1 : max (s + y.len) (x.lba + x.len) = x.lba + x.len := by omega
      have e2 : max s (x.lba + x.len) = x.lba + x.len := by omega
      rw [e1, e2]
      exact cg_none (by omega)
theorem cg_pcs_f {x : Ex} (hx : Ck x) : ∀ (l : List Ex) (s e : Int), 0 ≤ s → Cg s l e → s ≤ x.lba → x.lba < e → Cg s (pcs x false l) (max e (x.lba + x.len))
  | [], s, e, h0, h, hs, he => by have : s = e := h; omega
  | y :: l, s, e, h0, h, hs, he => by
    obtain ⟨h1, h2, h3⟩ := h
    have px := ck_pos hx
    have py := ck_pos h1
    rw [pcs, P1]
    by_cases g : y.lba + y.len > x.lba
    · rw [if_pos ⟨rfl, g⟩, show F1 x false y = true from decide_eq_true g]
      have hr := cg_pcs_t hx l (s + y.len) e h3 (by omega)
      have hleft : Cg s (cut y 0 x.lba).toList x.lba := by
        by_cases q : s < x.lba
        · exact cg_cut h1 (by omega) (by omega) (by omega) (by omega) q
        · rw [show s = x.lba by omega]; exact cg_none (by omega)
      have hright : Cg (x.lba + x.len) (cut y (x.lba + x.len) 64).toList (max (s + y.len) (x.lba + x.len)) := by
        by_cases q : s + y.len > x.lba + x.len
        · exact cg_cut h1 (by omega) (by omega) (by omega) (by omega) (by omega)
        · rw [show max (s + y.len) (x.lba + x.len) = x.lba + x.len by omega]; exact cg_none (by omega)
      exact cg_app _ _ (cg_app _ _ hleft (cg_app [x] _ (m := x.lba + x.len) ⟨hx, rfl, rfl⟩ hright)) hr
    · rw [if_neg (fun q => g q.2), show F1 x false y = false from decide_eq_false g, List.nil_append]
      have hr := cg_pcs_f hx l (s + y.len) e (by omega) h3 (by omega) he
      refine cg_app _ _ (cg_app _ _ (m := s + y.len) (cg_cut h1 (by omega) (by omega) (by omega) (by omega) (by omega)) (cg_none (by omega))) hr
theorem ch_mk {blocks : Int} {l : List Ex} (h : CH 0 l) (hs : sl l = blocks) (hb : 1 ≤ blocks) : Mk blocks l := by
  have hne : l ≠ [] := by intro e; subst e; simp only [sl] at hs; omega
  have key : ∀ (l : List Ex) (s : Int), CH s l → ∀ i, i < l.length → Ck (exAt l i) ∧ (exAt l i).lba = s + sl (l.take i) ∧ (0 < i → ¬ Jn (exAt l (i - 1)) (exAt l i)) := by
    intro l
    induction l with
    | nil => intro s _ i hi; simp at hi
    | cons x l ih =>
      intro s h i hi
      cases i with
      | zero => exact ⟨h.1, by rw [List.take_zero]; simp only [sl]; rw [Int.add_zero]; exact h.2.1, fun q => by omega⟩
      | succ i =>
        simp only [List.length_cons] at hi
        obtain ⟨a, b, d⟩ := ih _ h.2.2.2 i (by omega)
        refine ⟨a, ?_, fun _ => ?_⟩
        · show (exAt l i).lba = _
          rw [b, List.take_succ_cons]; simp only [sl]; omega
        · cases i with
          | zero =>
            cases l with
            | nil => simp at hi
            | cons y l => exact h.2.2.1 y rfl
          | succ j => exact d (by omega)
  refine ⟨hne, fun i hi => ?_, hs⟩
  obtain ⟨a, b, d⟩ := key l 0 h i hi
  exact ⟨a, by rw [b, Int.zero_add], d⟩
theorem put_spec {blocks : Int} {l : List Ex} {x : Ex} (h : Mk blocks l) (hx : Ck x) (hf : x.lba + x.len ≤ blocks) :
    Mk blocks (put l x) ∧ ∀ k c, Den (put l x) k c ↔ ((k < x.lba ∨ x.lba + x.len ≤ k) ∧ Den l k c) ∨ Cv x k c := by
  have hc := mk_ch h
  have hb := mk_blocks h
  have px := ck_pos hx
  have hg : Cg 0 l blocks := by
    have := ch_cg hc
    rwa [h.2.2, Int.zero_add] at this
  have hp := cg_pcs_f hx l 0 blocks (by omega) hg (by omega) (by omega)
  rw [show max blocks (x.lba + x.len) = blocks by omega] at hp
  obtain ⟨a, b⟩ := ch_adds (pcs x false l) [] (e := blocks) trivial hp
  refine ⟨ch_mk a b (by omega), fun k c => ?_⟩
  unfold put
  rw [den_adds, den_pcs_f hx l fun e he => (ch_ck hc e he).1]
  have hex : ∃ e ∈ l, e.lba + e.len > x.lba := by
    refine ⟨exAt l (l.length - 1), ?_, ?_⟩
    · have hl : 0 < l.length := List.length_pos_iff.2 h.1
      unfold exAt
      rw [List.getD_eq_getElem?_getD, List.getElem?_eq_getElem (by omega)]
      exact List.getElem_mem _
    · have hl : 0 < l.length := List.length_pos_iff.2 h.1
      have h1 := (h.2.1 (l.length - 1) (by omega)).2.1
      have h2 := sl_take l (l.length - 1) (by omega)
      rw [show l.length - 1 + 1 = l.length by omega, List.take_length, h.2.2] at h2
      omega
  constructor
  · rintro (q | q | q)
    · exact absurd q den_nil
    · exact .inl q
    · exact .inr q.1
  · rintro (q | q)
    · exact .inr (.inl q)
    · exact .inr (.inr ⟨q, hex⟩)
end Ab
end Go.Proofs.Ytiaelfmohamipaa
