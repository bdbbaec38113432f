/- Functions, as they answer: printed by a program of this repo, out of the program's form; each with its proof. -/
import Derived.Test.YtiaelfmohamipaaRows
import Derived.Test.YtiaelfmohamipaaAbsY
import Derived.Test.YtiaelfmohamipaaTab
import Derived.Test.YtiaelfmohamipaaFnA
namespace Go.Proofs.Ytiaelfmohamipaa
open Go Go.Proofs.Ytiaelfmohamipaa.Ab
set_option linter.unusedVariables false
set_option linter.unusedSimpArgs false
set_option maxRecDepth 1000000
namespace Ab
noncomputable abbrev pIs_L0_I (b : List UInt8) : St := (St.mk [((0 : Nat), (AV.sl (List.length b) (List.map AV.y b))), ((2 : Nat), (AV.b Bool.false)), ((5 : Nat), (AV.sl (List.length b) (List.map AV.y b))), ((6 : Nat), (AV.i (↑(List.length b) : Int))), ((7 : Nat), (AV.i 0))] 14 (AH.mk 0 ([] : List (Prod Nat AObj))) Bool.false)
noncomputable abbrev pIs_L0_S (b : List UInt8) (s0 : Int) : St := (St.mk [((0 : Nat), (AV.sl (List.length b) (List.map AV.y b))), ((5 : Nat), (AV.sl (List.length b) (List.map AV.y b))), ((6 : Nat), (AV.i (↑(List.length b) : Int))), ((7 : Nat), (AV.i s0))] 14 (AH.mk 0 ([] : List (Prod Nat AObj))) Bool.false)
noncomputable def pIs_L0_step (b : List UInt8) (s0 : Int) : Option (Int) :=
 (tb ((decide (s0 < (↑(List.length b) : Int))))
  (tp ((((0 : Int) ≤ s0) ∧ (s0 < (↑(List.length b) : Int))))
   (tb (((↑(UInt8.toNat (List.getD b ((Int.toNat s0) * (1 : Nat)) (OfNat.ofNat 0))) : Int) != (0 : Int)))
    none /- exit -/
    (some ((wr (s0 + (1 : Int)))))))
  none /- exit -/)
theorem pIs_L0_s0 (b : List UInt8) (s0 : Int) (h1 : ((decide (s0 < (↑(List.length b) : Int)))) = true) (h1p : (s0 < (↑(List.length b) : Int))) (h2 : (((0 : Int) ≤ s0) ∧ (s0 < (↑(List.length b) : Int)))) (h3 : (((↑(UInt8.toNat (List.getD b ((Int.toNat s0) * (1 : Nat)) (OfNat.ofNat 0))) : Int) != (0 : Int))) = false) (h3p : ((↑(UInt8.toNat (List.getD b ((Int.toNat s0) * (1 : Nat)) (OfNat.ofNat 0))) : Int) = (0 : Int))) : EvStep Try.prog cf 0 (lp Try.prog 17 0) (pIs_L0_S b s0) (pIs_L0_S b ((wr (s0 + (1 : Int))))) :=
  leafS vw_eq (k := 300) (r := []) (hs := hz [(1, [.yes, .yes, .yes, .val ((AV.y (List.getD b ((Int.toNat s0) * (1 : Nat)) (0 : UInt8))))]), (3, [.no]), (2, [])]) (st1 := (St.mk [((0 : Nat), (AV.sl (List.length b) (List.map AV.y b))), ((5 : Nat), (AV.sl (List.length b) (List.map AV.y b))), ((6 : Nat), (AV.i (↑(List.length b) : Int))), ((7 : Nat), (AV.i (wr (s0 + (1 : Int))))), ((8 : Nat), (AV.b (decide (s0 < (↑(List.length b) : Int))))), ((9 : Nat), (AV.ip (List.drop ((Int.toNat s0) * (1 : Nat)) (List.map AV.y b)))), ((10 : Nat), (AV.y (List.getD b ((Int.toNat s0) * (1 : Nat)) (OfNat.ofNat 0)))), ((4 : Nat), (AV.y (List.getD b ((Int.toNat s0) * (1 : Nat)) (OfNat.ofNat 0)))), ((11 : Nat), (AV.y (List.getD b ((Int.toNat s0) * (1 : Nat)) (OfNat.ofNat 0)))), ((12 : Nat), (AV.b ((↑(UInt8.toNat (List.getD b ((Int.toNat s0) * (1 : Nat)) (OfNat.ofNat 0))) : Int) != (0 : Int)))), ((13 : Nat), (AV.i (wr (s0 + (1 : Int)))))] 14 (AH.mk 0 ([] : List (Prod Nat AObj))) Bool.false)) (ps := [((decide (s0 < (↑(List.length b) : Int)))) = true, (((0 : Int) ≤ s0) ∧ (s0 < (↑(List.length b) : Int))), ((1 : Nat) ≤ (List.length (List.drop ((Int.toNat s0) * (1 : Nat)) (List.map AV.y b)))), (List.take 1 (List.drop ((Int.toNat s0) * (1 : Nat)) (List.map AV.y b))) = [(AV.y (List.getD b ((Int.toNat s0) * (1 : Nat)) (0 : UInt8)))], (((↑(UInt8.toNat (List.getD b ((Int.toNat s0) * (1 : Nat)) (OfNat.ofNat 0))) : Int) != (0 : Int))) = false]) (by kernel_rfl) ⟨h1, h2, fq, (by (try simp only [List.drop_drop]); exact one_drop_yC (l := b) tq bq), h3, trivial⟩ (Nat.le_of_ble_eq_true rfl) (absB_of [] [] (by kernel_rfl) (.consn (by kernel_rfl) (.eqv tq rfl) (.consn (by kernel_rfl) (.eqv tq rfl) (.consn (by kernel_rfl) (.eqv tq rfl) (.consn (by kernel_rfl) (.eqv tq rfl) .nil)))) .nil)
theorem pIs_L0_ok (b : List UInt8) (s0 zz : Int) : pIs_L0_step b s0 = some zz → EvStep Try.prog cf 0 (lp Try.prog 17 0) (pIs_L0_S b s0) (pIs_L0_S b zz) := by
  unfold pIs_L0_step
  refine tb_ok (fun h1 => ?_) (fun h1 => ?_)
  ·
    have h1p := of_decide_eq_true h1
    refine tp_ok (fun h2 => ?_)
    refine tb_ok (fun h3 => ?_) (fun h3 => ?_)
    ·
      have h3p := bne_iff_ne.1 h3
      exact fun e => nomatch e
    ·
      have h3p := bne_eq_false_iff_eq.1 h3
      exact fun e => tl_ok (G := (fun zz => EvStep Try.prog cf 0 (lp Try.prog 17 0) (pIs_L0_S b s0) (pIs_L0_S b zz))) (pIs_L0_s0 b s0 h1 h1p h2 h3 h3p) e
  ·
    have h1p := of_decide_eq_false h1
    exact fun e => nomatch e
/-- Function 17, as it answers. -/
noncomputable def pIs (b : List UInt8) : Option (Bool) :=
 (th (pIs_L0_step b) ((0 : Int)) fun s0 =>
  (tb ((decide (s0 < (↑(List.length b) : Int))))
   (tp ((((0 : Int) ≤ s0) ∧ (s0 < (↑(List.length b) : Int))))
    (tb (((↑(UInt8.toNat (List.getD b ((Int.toNat s0) * (1 : Nat)) (OfNat.ofNat 0))) : Int) != (0 : Int)))
     (some (Bool.false))
     none /- stop behind an operation -/))
   (some (Bool.true))))
abbrev pIs_G (b : List UInt8) (r : Bool) : Prop := EvFr Try.prog cf true 17 [bys (b)] (.b (r))
theorem pIs_l0 (b : List UInt8) (s0 : Int) (h0 : Runs (pIs_L0_step b) ((0 : Int)) s0) (h1 : ((decide (s0 < (↑(List.length b) : Int)))) = true) (h1p : (s0 < (↑(List.length b) : Int))) (h2 : (((0 : Int) ≤ s0) ∧ (s0 < (↑(List.length b) : Int)))) (h3 : (((↑(UInt8.toNat (List.getD b ((Int.toNat s0) * (1 : Nat)) (OfNat.ofNat 0))) : Int) != (0 : Int))) = true) (h3p : ¬ ((↑(UInt8.toNat (List.getD b ((Int.toNat s0) * (1 : Nat)) (OfNat.ofNat 0))) : Int) = (0 : Int))) : pIs_G b (Bool.false) :=
  leafR vw_eq (k := 300) (r := []) (hs := hz [(4, [.head (pIs_L0_S b s0)]), (1, [.yes, .yes, .yes, .val ((AV.y (List.getD b ((Int.toNat s0) * (1 : Nat)) (0 : UInt8))))]), (3, [.yes]), (1, [])]) (raw := (AV.b Bool.false)) (ps := [EvHead Try.prog cf (lp Try.prog 17 0) (pIs_L0_I b) (pIs_L0_S b s0), ((decide (s0 < (↑(List.length b) : Int)))) = true, (((0 : Int) ≤ s0) ∧ (s0 < (↑(List.length b) : Int))), ((1 : Nat) ≤ (List.length (List.drop ((Int.toNat s0) * (1 : Nat)) (List.map AV.y b)))), (List.take 1 (List.drop ((Int.toNat s0) * (1 : Nat)) (List.map AV.y b))) = [(AV.y (List.getD b ((Int.toNat s0) * (1 : Nat)) (0 : UInt8)))], (((↑(UInt8.toNat (List.getD b ((Int.toNat s0) * (1 : Nat)) (OfNat.ofNat 0))) : Int) != (0 : Int))) = true]) (by kernel_rfl) ⟨(EvHead.of (pIs_L0_ok b) (absB_of [] [] (by kernel_rfl) (.consn (by kernel_rfl) (.eqv tq rfl) (.consn (by kernel_rfl) (.eqv tq rfl) (.consn (by kernel_rfl) (.eqv tq rfl) (.consn (by kernel_rfl) (.eqv tq rfl) .nil)))) .nil) h0), h1, h2, fq, (by (try simp only [List.drop_drop]); exact one_drop_yC (l := b) tq bq), h3, trivial⟩ tq
theorem pIs_l1 (b : List UInt8) (s0 : Int) (h0 : Runs (pIs_L0_step b) ((0 : Int)) s0) (h1 : ((decide (s0 < (↑(List.length b) : Int)))) = false) (h1p : ¬ (s0 < (↑(List.length b) : Int))) : pIs_G b (Bool.true) :=
  leafR vw_eq (k := 300) (r := []) (hs := hz [(4, [.head (pIs_L0_S b s0)]), (1, [.no]), (1, [])]) (raw := (AV.b Bool.true)) (ps := [EvHead Try.prog cf (lp Try.prog 17 0) (pIs_L0_I b) (pIs_L0_S b s0), ((decide (s0 < (↑(List.length b) : Int)))) = false]) (by kernel_rfl) ⟨(EvHead.of (pIs_L0_ok b) (absB_of [] [] (by kernel_rfl) (.consn (by kernel_rfl) (.eqv tq rfl) (.consn (by kernel_rfl) (.eqv tq rfl) (.consn (by kernel_rfl) (.eqv tq rfl) (.consn (by kernel_rfl) (.eqv tq rfl) .nil)))) .nil) h0), h1, trivial⟩ tq
theorem pIs_ok (b : List UInt8) (r : Bool) : pIs b = some r → pIs_G b r := by
  unfold pIs
  refine th_ok (fun s0 h0 => ?_)
  refine tb_ok (fun h1 => ?_) (fun h1 => ?_)
  ·
    have h1p := of_decide_eq_true h1
    refine tp_ok (fun h2 => ?_)
    refine tb_ok (fun h3 => ?_) (fun h3 => ?_)
    ·
      have h3p := bne_iff_ne.1 h3
      exact fun e => tl_ok (G := pIs_G b) (pIs_l0 b s0 h0 h1 h1p h2 h3 h3p) e
    ·
      have h3p := bne_eq_false_iff_eq.1 h3
      exact fun e => nomatch e
  ·
    have h1p := of_decide_eq_false h1
    exact fun e => tl_ok (G := pIs_G b) (pIs_l1 b s0 h0 h1 h1p) e
noncomputable abbrev rIs_L0_I (b : List UInt8) : St := (St.mk [((0 : Nat), (AV.sl (List.length b) (List.map AV.y b))), ((2 : Nat), (AV.b Bool.false)), ((3 : Nat), (AV.i 0))] 15 (AH.mk 0 ([] : List (Prod Nat AObj))) Bool.false)
noncomputable abbrev rIs_L0_S (b : List UInt8) (s0 : Int) : St := (St.mk [((0 : Nat), (AV.sl (List.length b) (List.map AV.y b))), ((3 : Nat), (AV.i s0))] 15 (AH.mk 0 ([] : List (Prod Nat AObj))) Bool.false)
noncomputable def rIs_L0_step (b : List UInt8) (s0 : Int) : Option (Int) :=
 (tb ((decide (s0 < (↑(List.length b) : Int))))
  (tp ((((0 : Int) ≤ s0) ∧ (s0 < (↑(List.length b) : Int))))
   (tb (((↑(UInt8.toNat (List.getD b ((Int.toNat s0) * (1 : Nat)) (OfNat.ofNat 0))) : Int) != (0 : Int)))
    none /- exit -/
    (some ((wr (s0 + (1 : Int)))))))
  none /- exit -/)
theorem rIs_L0_s0 (b : List UInt8) (s0 : Int) (h1 : ((decide (s0 < (↑(List.length b) : Int)))) = true) (h1p : (s0 < (↑(List.length b) : Int))) (h2 : (((0 : Int) ≤ s0) ∧ (s0 < (↑(List.length b) : Int)))) (h3 : (((↑(UInt8.toNat (List.getD b ((Int.toNat s0) * (1 : Nat)) (OfNat.ofNat 0))) : Int) != (0 : Int))) = false) (h3p : ((↑(UInt8.toNat (List.getD b ((Int.toNat s0) * (1 : Nat)) (OfNat.ofNat 0))) : Int) = (0 : Int))) : EvStep Try.prog cf 0 (lp Try.prog 18 0) (rIs_L0_S b s0) (rIs_L0_S b ((wr (s0 + (1 : Int))))) :=
  leafS vw_eq (k := 300) (r := []) (hs := hz [(4, [.yes]), (2, [.yes, .yes, .val ((AV.y (List.getD b ((Int.toNat s0) * (1 : Nat)) (0 : UInt8))))]), (1, [.no]), (3, [])]) (st1 := (St.mk [((0 : Nat), (AV.sl (List.length b) (List.map AV.y b))), ((3 : Nat), (AV.i (wr (s0 + (1 : Int))))), ((4 : Nat), (AV.i s0)), ((5 : Nat), (AV.sl (List.length b) (List.map AV.y b))), ((6 : Nat), (AV.i (↑(List.length b) : Int))), ((7 : Nat), (AV.b (decide (s0 < (↑(List.length b) : Int))))), ((10 : Nat), (AV.sl (List.length b) (List.map AV.y b))), ((11 : Nat), (AV.i s0)), ((12 : Nat), (AV.ip (List.drop ((Int.toNat s0) * (1 : Nat)) (List.map AV.y b)))), ((13 : Nat), (AV.y (List.getD b ((Int.toNat s0) * (1 : Nat)) (OfNat.ofNat 0)))), ((14 : Nat), (AV.b ((↑(UInt8.toNat (List.getD b ((Int.toNat s0) * (1 : Nat)) (OfNat.ofNat 0))) : Int) != (0 : Int)))), ((8 : Nat), (AV.i s0)), ((9 : Nat), (AV.i (wr (s0 + (1 : Int)))))] 15 (AH.mk 0 ([] : List (Prod Nat AObj))) Bool.false)) (ps := [((decide (s0 < (↑(List.length b) : Int)))) = true, (((0 : Int) ≤ s0) ∧ (s0 < (↑(List.length b) : Int))), ((1 : Nat) ≤ (List.length (List.drop ((Int.toNat s0) * (1 : Nat)) (List.map AV.y b)))), (List.take 1 (List.drop ((Int.toNat s0) * (1 : Nat)) (List.map AV.y b))) = [(AV.y (List.getD b ((Int.toNat s0) * (1 : Nat)) (0 : UInt8)))], (((↑(UInt8.toNat (List.getD b ((Int.toNat s0) * (1 : Nat)) (OfNat.ofNat 0))) : Int) != (0 : Int))) = false]) (by kernel_rfl) ⟨h1, h2, fq, (by (try simp only [List.drop_drop]); exact one_drop_yC (l := b) tq bq), h3, trivial⟩ (Nat.le_of_ble_eq_true rfl) (absB_of [] [] (by kernel_rfl) (.consn (by kernel_rfl) (.eqv tq rfl) (.consn (by kernel_rfl) (.eqv tq rfl) .nil)) .nil)
theorem rIs_L0_ok (b : List UInt8) (s0 zz : Int) : rIs_L0_step b s0 = some zz → EvStep Try.prog cf 0 (lp Try.prog 18 0) (rIs_L0_S b s0) (rIs_L0_S b zz) := by
  unfold rIs_L0_step
  refine tb_ok (fun h1 => ?_) (fun h1 => ?_)
  ·
    have h1p := of_decide_eq_true h1
    refine tp_ok (fun h2 => ?_)
    refine tb_ok (fun h3 => ?_) (fun h3 => ?_)
    ·
      have h3p := bne_iff_ne.1 h3
      exact fun e => nomatch e
    ·
      have h3p := bne_eq_false_iff_eq.1 h3
      exact fun e => tl_ok (G := (fun zz => EvStep Try.prog cf 0 (lp Try.prog 18 0) (rIs_L0_S b s0) (rIs_L0_S b zz))) (rIs_L0_s0 b s0 h1 h1p h2 h3 h3p) e
  ·
    have h1p := of_decide_eq_false h1
    exact fun e => nomatch e
/-- Function 18, as it answers. -/
noncomputable def rIs (b : List UInt8) : Option (Bool) :=
 (th (rIs_L0_step b) ((0 : Int)) fun s0 =>
  (tb ((decide (s0 < (↑(List.length b) : Int))))
   (tp ((((0 : Int) ≤ s0) ∧ (s0 < (↑(List.length b) : Int))))
    (tb (((↑(UInt8.toNat (List.getD b ((Int.toNat s0) * (1 : Nat)) (OfNat.ofNat 0))) : Int) != (0 : Int)))
     (some (Bool.false))
     none /- stop behind an operation -/))
   (some (Bool.true))))
abbrev rIs_G (b : List UInt8) (r : Bool) : Prop := EvFr Try.prog cf true 18 [bys (b)] (.b (r))
theorem rIs_l0 (b : List UInt8) (s0 : Int) (h0 : Runs (rIs_L0_step b) ((0 : Int)) s0) (h1 : ((decide (s0 < (↑(List.length b) : Int)))) = true) (h1p : (s0 < (↑(List.length b) : Int))) (h2 : (((0 : Int) ≤ s0) ∧ (s0 < (↑(List.length b) : Int)))) (h3 : (((↑(UInt8.toNat (List.getD b ((Int.toNat s0) * (1 : Nat)) (OfNat.ofNat 0))) : Int) != (0 : Int))) = true) (h3p : ¬ ((↑(UInt8.toNat (List.getD b ((Int.toNat s0) * (1 : Nat)) (OfNat.ofNat 0))) : Int) = (0 : Int))) : rIs_G b (Bool.false) :=
  leafR vw_eq (k := 300) (r := []) (hs := hz [(2, [.head (rIs_L0_S b s0)]), (4, [.yes]), (2, [.yes, .yes, .val ((AV.y (List.getD b ((Int.toNat s0) * (1 : Nat)) (0 : UInt8))))]), (1, [.yes]), (1, [])]) (raw := (AV.b Bool.false)) (ps := [EvHead Try.prog cf (lp Try.prog 18 0) (rIs_L0_I b) (rIs_L0_S b s0), ((decide (s0 < (↑(List.length b) : Int)))) = true, (((0 : Int) ≤ s0) ∧ (s0 < (↑(List.length b) : Int))), ((1 : Nat) ≤ (List.length (List.drop ((Int.toNat s0) * (1 : Nat)) (List.map AV.y b)))), (List.take 1 (List.drop ((Int.toNat s0) * (1 : Nat)) (List.map AV.y b))) = [(AV.y (List.getD b ((Int.toNat s0) * (1 : Nat)) (0 : UInt8)))], (((↑(UInt8.toNat (List.getD b ((Int.toNat s0) * (1 : Nat)) (OfNat.ofNat 0))) : Int) != (0 : Int))) = true]) (by kernel_rfl) ⟨(EvHead.of (rIs_L0_ok b) (absB_of [] [] (by kernel_rfl) (.consn (by kernel_rfl) (.eqv tq rfl) (.consn (by kernel_rfl) (.eqv tq rfl) .nil)) .nil) h0), h1, h2, fq, (by (try simp only [List.drop_drop]); exact one_drop_yC (l := b) tq bq), h3, trivial⟩ tq
theorem rIs_l1 (b : List UInt8) (s0 : Int) (h0 : Runs (rIs_L0_step b) ((0 : Int)) s0) (h1 : ((decide (s0 < (↑(List.length b) : Int)))) = false) (h1p : ¬ (s0 < (↑(List.length b) : Int))) : rIs_G b (Bool.true) :=
  leafR vw_eq (k := 300) (r := []) (hs := hz [(2, [.head (rIs_L0_S b s0)]), (4, [.no]), (1, [])]) (raw := (AV.b Bool.true)) (ps := [EvHead Try.prog cf (lp Try.prog 18 0) (rIs_L0_I b) (rIs_L0_S b s0), ((decide (s0 < (↑(List.length b) : Int)))) = false]) (by kernel_rfl) ⟨(EvHead.of (rIs_L0_ok b) (absB_of [] [] (by kernel_rfl) (.consn (by kernel_rfl) (.eqv tq rfl) (.consn (by kernel_rfl) (.eqv tq rfl) .nil)) .nil) h0), h1, trivial⟩ tq
theorem rIs_ok (b : List UInt8) (r : Bool) : rIs b = some r → rIs_G b r := by
  unfold rIs
  refine th_ok (fun s0 h0 => ?_)
  refine tb_ok (fun h1 => ?_) (fun h1 => ?_)
  ·
    have h1p := of_decide_eq_true h1
    refine tp_ok (fun h2 => ?_)
    refine tb_ok (fun h3 => ?_) (fun h3 => ?_)
    ·
      have h3p := bne_iff_ne.1 h3
      exact fun e => tl_ok (G := rIs_G b) (rIs_l0 b s0 h0 h1 h1p h2 h3 h3p) e
    ·
      have h3p := bne_eq_false_iff_eq.1 h3
      exact fun e => nomatch e
  ·
    have h1p := of_decide_eq_false h1
    exact fun e => tl_ok (G := rIs_G b) (rIs_l1 b s0 h0 h1 h1p) e
noncomputable abbrev sum_L0_I (l : List Int) (from_ : Int) : St := (St.mk [((0 : Nat), (AV.sl (List.length l) (List.map AV.i l))), ((1 : Nat), (AV.i from_)), ((4 : Nat), (AV.i 0)), ((5 : Nat), (AV.i 0)), ((7 : Nat), (AV.i from_)), ((6 : Nat), (AV.i from_))] 21 (AH.mk 0 ([] : List (Prod Nat AObj))) Bool.false)
noncomputable abbrev sum_L0_S (l : List Int) (from_ : Int) (s0 : Int × Int) : St := (St.mk [((0 : Nat), (AV.sl (List.length l) (List.map AV.i l))), ((1 : Nat), (AV.i from_)), ((4 : Nat), (AV.i 0)), ((5 : Nat), (AV.i s0.1)), ((6 : Nat), (AV.i s0.2))] 21 (AH.mk 0 ([] : List (Prod Nat AObj))) Bool.false)
noncomputable def sum_L0_step (l : List Int) (from_ : Int) (s0 : Int × Int) : Option (Int × Int) :=
 (tb ((decide (s0.2 < (↑(List.length l) : Int))))
  (tp ((((0 : Int) ≤ s0.2) ∧ (s0.2 < (↑(List.length l) : Int))))
   (some (((wr (s0.1 + (List.getD l ((Int.toNat s0.2) * (1 : Nat)) (0 : Int)))), (wr (s0.2 + (2 : Int)))))))
  none /- exit -/)
theorem sum_L0_s0 (l : List Int) (from_ : Int) (s0 : Int × Int) (h1 : ((decide (s0.2 < (↑(List.length l) : Int)))) = true) (h1p : (s0.2 < (↑(List.length l) : Int))) (h2 : (((0 : Int) ≤ s0.2) ∧ (s0.2 < (↑(List.length l) : Int)))) : EvStep Try.prog cf 0 (lp Try.prog 19 0) (sum_L0_S l from_ s0) (sum_L0_S l from_ (((wr (s0.1 + (List.getD l ((Int.toNat s0.2) * (1 : Nat)) (0 : Int)))), (wr (s0.2 + (2 : Int)))))) :=
  leafS vw_eq (k := 300) (r := []) (hs := hz [(4, [.yes]), (3, [.yes, .yes, .val ((AV.i (List.getD l ((Int.toNat s0.2) * (1 : Nat)) (0 : Int))))]), (5, [])]) (st1 := (St.mk [((0 : Nat), (AV.sl (List.length l) (List.map AV.i l))), ((1 : Nat), (AV.i from_)), ((4 : Nat), (AV.i 0)), ((5 : Nat), (AV.i (wr (s0.1 + (List.getD l ((Int.toNat s0.2) * (1 : Nat)) (0 : Int)))))), ((6 : Nat), (AV.i (wr (s0.2 + (2 : Int))))), ((8 : Nat), (AV.i s0.2)), ((9 : Nat), (AV.sl (List.length l) (List.map AV.i l))), ((10 : Nat), (AV.i (↑(List.length l) : Int))), ((11 : Nat), (AV.b (decide (s0.2 < (↑(List.length l) : Int))))), ((14 : Nat), (AV.i s0.1)), ((15 : Nat), (AV.sl (List.length l) (List.map AV.i l))), ((16 : Nat), (AV.i s0.2)), ((17 : Nat), (AV.ip (List.drop ((Int.toNat s0.2) * (1 : Nat)) (List.map AV.i l)))), ((18 : Nat), (AV.i (List.getD l ((Int.toNat s0.2) * (1 : Nat)) (0 : Int)))), ((19 : Nat), (AV.i (wr (s0.1 + (List.getD l ((Int.toNat s0.2) * (1 : Nat)) (0 : Int)))))), ((12 : Nat), (AV.i s0.2)), ((13 : Nat), (AV.i (wr (s0.2 + (2 : Int)))))] 21 (AH.mk 0 ([] : List (Prod Nat AObj))) Bool.false)) (ps := [((decide (s0.2 < (↑(List.length l) : Int)))) = true, (((0 : Int) ≤ s0.2) ∧ (s0.2 < (↑(List.length l) : Int))), ((1 : Nat) ≤ (List.length (List.drop ((Int.toNat s0.2) * (1 : Nat)) (List.map AV.i l)))), (List.take 1 (List.drop ((Int.toNat s0.2) * (1 : Nat)) (List.map AV.i l))) = [(AV.i (List.getD l ((Int.toNat s0.2) * (1 : Nat)) (0 : Int)))]]) (by kernel_rfl) ⟨h1, h2, fq, (by (try simp only [List.drop_drop]); exact one_drop_iC (l := l) tq bq), trivial⟩ (Nat.le_of_ble_eq_true rfl) (absB_of [] [] (by kernel_rfl) (.consn (by kernel_rfl) (.eqv tq rfl) (.consn (by kernel_rfl) (.eqv tq rfl) (.consn (by kernel_rfl) (.eqv tq rfl) (.consn (by kernel_rfl) (.eqv tq rfl) (.consn (by kernel_rfl) (.eqv tq rfl) .nil))))) .nil)
theorem sum_L0_ok (l : List Int) (from_ : Int) (s0 zz : Int × Int) : sum_L0_step l from_ s0 = some zz → EvStep Try.prog cf 0 (lp Try.prog 19 0) (sum_L0_S l from_ s0) (sum_L0_S l from_ zz) := by
  unfold sum_L0_step
  refine tb_ok (fun h1 => ?_) (fun h1 => ?_)
  ·
    have h1p := of_decide_eq_true h1
    refine tp_ok (fun h2 => ?_)
    exact fun e => tl_ok (G := (fun zz => EvStep Try.prog cf 0 (lp Try.prog 19 0) (sum_L0_S l from_ s0) (sum_L0_S l from_ zz))) (sum_L0_s0 l from_ s0 h1 h1p h2) e
  ·
    have h1p := of_decide_eq_false h1
    exact fun e => nomatch e
/-- Function 19, as it answers. -/
noncomputable def sum (l : List Int) (from_ : Int) : Option (Int) :=
 (th (sum_L0_step l from_) (((0 : Int), from_)) fun s0 =>
  (tb ((decide (s0.2 < (↑(List.length l) : Int))))
   none /- stop behind an operation -/
   (some (s0.1))))
abbrev sum_G (l : List Int) (from_ : Int) (r : Int) : Prop := EvFr Try.prog cf true 19 [ints (l), .i (from_)] (.i (r))
theorem sum_l0 (l : List Int) (from_ : Int) (s0 : Int × Int) (h0 : Runs (sum_L0_step l from_) (((0 : Int), from_)) s0) (h1 : ((decide (s0.2 < (↑(List.length l) : Int)))) = false) (h1p : ¬ (s0.2 < (↑(List.length l) : Int))) : sum_G l from_ (s0.1) :=
  leafR vw_eq (k := 300) (r := []) (hs := hz [(4, [.head (sum_L0_S l from_ s0)]), (4, [.no]), (2, [])]) (raw := (AV.i s0.1)) (ps := [EvHead Try.prog cf (lp Try.prog 19 0) (sum_L0_I l from_) (sum_L0_S l from_ s0), ((decide (s0.2 < (↑(List.length l) : Int)))) = false]) (by kernel_rfl) ⟨(EvHead.of (sum_L0_ok l from_) (absB_of [] [] (by kernel_rfl) (.consn (by kernel_rfl) (.eqv tq rfl) (.consn (by kernel_rfl) (.eqv tq rfl) (.consn (by kernel_rfl) (.eqv tq rfl) (.consn (by kernel_rfl) (.eqv tq rfl) (.consn (by kernel_rfl) (.eqv tq rfl) .nil))))) .nil) h0), h1, trivial⟩ tq
theorem sum_ok (l : List Int) (from_ : Int) (r : Int) : sum l from_ = some r → sum_G l from_ r := by
  unfold sum
  refine th_ok (fun s0 h0 => ?_)
  refine tb_ok (fun h1 => ?_) (fun h1 => ?_)
  ·
    have h1p := of_decide_eq_true h1
    exact fun e => nomatch e
  ·
    have h1p := of_decide_eq_false h1
    exact fun e => tl_ok (G := sum_G l from_) (sum_l0 l from_ s0 h0 h1 h1p) e
noncomputable abbrev numbers_L0_I (a : List Int) (b : List Int) : St := (St.mk [((0 : Nat), (AV.sl (List.length a) (List.map AV.i a))), ((1 : Nat), (AV.sl (List.length b) (List.map AV.i b))), ((4 : Nat), (AV.b Bool.false)), ((6 : Nat), (AV.sl (List.length a) (List.map AV.i a))), ((7 : Nat), (AV.i (↑(List.length a) : Int))), ((8 : Nat), (AV.sl (List.length b) (List.map AV.i b))), ((9 : Nat), (AV.i (↑(List.length b) : Int))), ((10 : Nat), (AV.b ((↑(List.length a) : Int) != (↑(List.length b) : Int)))), ((5 : Nat), (AV.i 0))] 26 (AH.mk 0 ([] : List (Prod Nat AObj))) Bool.false)
noncomputable abbrev numbers_L0_S (a : List Int) (b : List Int) (s1 : Int) : St := (St.mk [((0 : Nat), (AV.sl (List.length a) (List.map AV.i a))), ((1 : Nat), (AV.sl (List.length b) (List.map AV.i b))), ((10 : Nat), (AV.b ((↑(List.length a) : Int) != (↑(List.length b) : Int)))), ((5 : Nat), (AV.i s1))] 26 (AH.mk 0 ([] : List (Prod Nat AObj))) Bool.false)
noncomputable def numbers_L0_step (a : List Int) (b : List Int) (s1 : Int) : Option (Int) :=
 (tb ((decide (s1 < (↑(List.length a) : Int))))
  (tp ((((0 : Int) ≤ s1) ∧ (s1 < (↑(List.length a) : Int))))
   (tp ((((0 : Int) ≤ s1) ∧ (s1 < (↑(List.length b) : Int))))
    (tb (((List.getD a ((Int.toNat s1) * (1 : Nat)) (0 : Int)) != (List.getD b ((Int.toNat s1) * (1 : Nat)) (0 : Int))))
     none /- exit -/
     (some ((wr (s1 + (1 : Int))))))))
  none /- exit -/)
theorem numbers_L0_s0 (a : List Int) (b : List Int) (s1 : Int) (h2 : ((decide (s1 < (↑(List.length a) : Int)))) = true) (h2p : (s1 < (↑(List.length a) : Int))) (h3 : (((0 : Int) ≤ s1) ∧ (s1 < (↑(List.length a) : Int)))) (h4 : (((0 : Int) ≤ s1) ∧ (s1 < (↑(List.length b) : Int)))) (h5 : (((List.getD a ((Int.toNat s1) * (1 : Nat)) (0 : Int)) != (List.getD b ((Int.toNat s1) * (1 : Nat)) (0 : Int)))) = false) (h5p : ((List.getD a ((Int.toNat s1) * (1 : Nat)) (0 : Int)) = (List.getD b ((Int.toNat s1) * (1 : Nat)) (0 : Int)))) : EvStep Try.prog cf 0 (lp Try.prog 15 0) (numbers_L0_S a b s1) (numbers_L0_S a b ((wr (s1 + (1 : Int))))) :=
  leafS vw_eq (k := 300) (r := []) (hs := hz [(4, [.yes]), (2, [.yes, .yes, .val ((AV.i (List.getD a ((Int.toNat s1) * (1 : Nat)) (0 : Int))))]), (2, [.yes, .yes, .val ((AV.i (List.getD b ((Int.toNat s1) * (1 : Nat)) (0 : Int))))]), (1, [.yes, .no]), (3, [])]) (st1 := (St.mk [((0 : Nat), (AV.sl (List.length a) (List.map AV.i a))), ((1 : Nat), (AV.sl (List.length b) (List.map AV.i b))), ((10 : Nat), (AV.b ((↑(List.length a) : Int) != (↑(List.length b) : Int)))), ((5 : Nat), (AV.i (wr (s1 + (1 : Int))))), ((11 : Nat), (AV.i s1)), ((12 : Nat), (AV.sl (List.length a) (List.map AV.i a))), ((13 : Nat), (AV.i (↑(List.length a) : Int))), ((14 : Nat), (AV.b (decide (s1 < (↑(List.length a) : Int))))), ((17 : Nat), (AV.sl (List.length a) (List.map AV.i a))), ((18 : Nat), (AV.i s1)), ((19 : Nat), (AV.ip (List.drop ((Int.toNat s1) * (1 : Nat)) (List.map AV.i a)))), ((20 : Nat), (AV.i (List.getD a ((Int.toNat s1) * (1 : Nat)) (0 : Int)))), ((21 : Nat), (AV.sl (List.length b) (List.map AV.i b))), ((22 : Nat), (AV.i s1)), ((23 : Nat), (AV.ip (List.drop ((Int.toNat s1) * (1 : Nat)) (List.map AV.i b)))), ((24 : Nat), (AV.i (List.getD b ((Int.toNat s1) * (1 : Nat)) (0 : Int)))), ((25 : Nat), (AV.b ((List.getD a ((Int.toNat s1) * (1 : Nat)) (0 : Int)) != (List.getD b ((Int.toNat s1) * (1 : Nat)) (0 : Int))))), ((15 : Nat), (AV.i s1)), ((16 : Nat), (AV.i (wr (s1 + (1 : Int)))))] 26 (AH.mk 0 ([] : List (Prod Nat AObj))) Bool.false)) (ps := [((decide (s1 < (↑(List.length a) : Int)))) = true, (((0 : Int) ≤ s1) ∧ (s1 < (↑(List.length a) : Int))), ((1 : Nat) ≤ (List.length (List.drop ((Int.toNat s1) * (1 : Nat)) (List.map AV.i a)))), (List.take 1 (List.drop ((Int.toNat s1) * (1 : Nat)) (List.map AV.i a))) = [(AV.i (List.getD a ((Int.toNat s1) * (1 : Nat)) (0 : Int)))], (((0 : Int) ≤ s1) ∧ (s1 < (↑(List.length b) : Int))), ((1 : Nat) ≤ (List.length (List.drop ((Int.toNat s1) * (1 : Nat)) (List.map AV.i b)))), (List.take 1 (List.drop ((Int.toNat s1) * (1 : Nat)) (List.map AV.i b))) = [(AV.i (List.getD b ((Int.toNat s1) * (1 : Nat)) (0 : Int)))], orderOk (rg Try.prog 15 0) = true ∧ allOk (Region.before (rg Try.prog 15 0)) [] 0 [(some [], some []), (some [], some []), (some [], some []), (some [], some []), (some [], some []), (some [], some []), (some [], some []), (some [], some []), (some [], some [])] = true, (((List.getD a ((Int.toNat s1) * (1 : Nat)) (0 : Int)) != (List.getD b ((Int.toNat s1) * (1 : Nat)) (0 : Int)))) = false]) (by kernel_rfl) ⟨h2, h3, fq, (by (try simp only [List.drop_drop]); exact one_drop_iC (l := a) tq bq), h4, fq, (by (try simp only [List.drop_drop]); exact one_drop_iC (l := b) tq bq), (ord_of ord_15_0 bef_15_0 (by kernel_rfl)), h5, trivial⟩ (Nat.le_of_ble_eq_true rfl) (absB_of [] [] (by kernel_rfl) (.consn (by kernel_rfl) (.eqv tq rfl) (.consn (by kernel_rfl) (.eqv tq rfl) (.consn (by kernel_rfl) (.eqv tq rfl) (.consn (by kernel_rfl) (.eqv tq rfl) .nil)))) .nil)
theorem numbers_L0_ok (a : List Int) (b : List Int) (s1 zz : Int) : numbers_L0_step a b s1 = some zz → EvStep Try.prog cf 0 (lp Try.prog 15 0) (numbers_L0_S a b s1) (numbers_L0_S a b zz) := by
  unfold numbers_L0_step
  refine tb_ok (fun h2 => ?_) (fun h2 => ?_)
  ·
    have h2p := of_decide_eq_true h2
    refine tp_ok (fun h3 => ?_)
    refine tp_ok (fun h4 => ?_)
    refine tb_ok (fun h5 => ?_) (fun h5 => ?_)
    ·
      have h5p := bne_iff_ne.1 h5
      exact fun e => nomatch e
    ·
      have h5p := bne_eq_false_iff_eq.1 h5
      exact fun e => tl_ok (G := (fun zz => EvStep Try.prog cf 0 (lp Try.prog 15 0) (numbers_L0_S a b s1) (numbers_L0_S a b zz))) (numbers_L0_s0 a b s1 h2 h2p h3 h4 h5 h5p) e
  ·
    have h2p := of_decide_eq_false h2
    exact fun e => nomatch e
/-- Function 15, as it answers. -/
noncomputable def numbers (a : List Int) (b : List Int) : Option (Bool) :=
 (tb (((↑(List.length a) : Int) != (↑(List.length b) : Int)))
  (some (Bool.false))
  (th (numbers_L0_step a b) ((0 : Int)) fun s1 =>
   (tb ((decide (s1 < (↑(List.length a) : Int))))
    (tp ((((0 : Int) ≤ s1) ∧ (s1 < (↑(List.length a) : Int))))
     (tb (((List.getD a ((Int.toNat s1) * (1 : Nat)) (0 : Int)) != (List.getD b ((Int.toNat s1) * (1 : Nat)) (0 : Int))))
      (some (Bool.false))
      none /- stop behind an operation -/))
    (some (Bool.true)))))
abbrev numbers_G (a : List Int) (b : List Int) (r : Bool) : Prop := EvFr Try.prog cf true 15 [ints (a), ints (b)] (.b (r))
theorem numbers_l0 (a : List Int) (b : List Int) (h0 : (((↑(List.length a) : Int) != (↑(List.length b) : Int))) = true) (h0p : ¬ ((↑(List.length a) : Int) = (↑(List.length b) : Int))) : numbers_G a b (Bool.false) :=
  leafR vw_eq (k := 300) (r := []) (hs := hz [(6, [.yes]), (1, [])]) (raw := (AV.b Bool.false)) (ps := [(((↑(List.length a) : Int) != (↑(List.length b) : Int))) = true]) (by kernel_rfl) ⟨h0, trivial⟩ tq
theorem numbers_l1 (a : List Int) (b : List Int) (h0 : (((↑(List.length a) : Int) != (↑(List.length b) : Int))) = false) (h0p : ((↑(List.length a) : Int) = (↑(List.length b) : Int))) (s1 : Int) (h1 : Runs (numbers_L0_step a b) ((0 : Int)) s1) (h2 : ((decide (s1 < (↑(List.length a) : Int)))) = true) (h2p : (s1 < (↑(List.length a) : Int))) (h3 : (((0 : Int) ≤ s1) ∧ (s1 < (↑(List.length a) : Int)))) (h4 : (((List.getD a ((Int.toNat s1) * (1 : Nat)) (0 : Int)) != (List.getD b ((Int.toNat s1) * (1 : Nat)) (0 : Int)))) = true) (h4p : ¬ ((List.getD a ((Int.toNat s1) * (1 : Nat)) (0 : Int)) = (List.getD b ((Int.toNat s1) * (1 : Nat)) (0 : Int)))) : numbers_G a b (Bool.false) :=
  leafR vw_eq (k := 300) (r := []) (hs := hz [(6, [.no]), (1, [.head (numbers_L0_S a b s1)]), (4, [.yes]), (2, [.yes, .yes, .val ((AV.i (List.getD a ((Int.toNat s1) * (1 : Nat)) (0 : Int))))]), (2, [.yes, .yes, .val ((AV.i (List.getD b ((Int.toNat s1) * (1 : Nat)) (0 : Int))))]), (1, [.yes, .yes]), (1, [])]) (raw := (AV.b Bool.false)) (ps := [(((↑(List.length a) : Int) != (↑(List.length b) : Int))) = false, EvHead Try.prog cf (lp Try.prog 15 0) (numbers_L0_I a b) (numbers_L0_S a b s1), ((decide (s1 < (↑(List.length a) : Int)))) = true, (((0 : Int) ≤ s1) ∧ (s1 < (↑(List.length a) : Int))), ((1 : Nat) ≤ (List.length (List.drop ((Int.toNat s1) * (1 : Nat)) (List.map AV.i a)))), (List.take 1 (List.drop ((Int.toNat s1) * (1 : Nat)) (List.map AV.i a))) = [(AV.i (List.getD a ((Int.toNat s1) * (1 : Nat)) (0 : Int)))], (((0 : Int) ≤ s1) ∧ (s1 < (↑(List.length b) : Int))), ((1 : Nat) ≤ (List.length (List.drop ((Int.toNat s1) * (1 : Nat)) (List.map AV.i b)))), (List.take 1 (List.drop ((Int.toNat s1) * (1 : Nat)) (List.map AV.i b))) = [(AV.i (List.getD b ((Int.toNat s1) * (1 : Nat)) (0 : Int)))], orderOk (rg Try.prog 15 0) = true ∧ allOk (Region.before (rg Try.prog 15 0)) [] 0 [(some [], some []), (some [], some []), (some [], some []), (some [], some []), (some [], some []), (some [], some []), (some [], some []), (some [], some []), (some [], some [])] = true, (((List.getD a ((Int.toNat s1) * (1 : Nat)) (0 : Int)) != (List.getD b ((Int.toNat s1) * (1 : Nat)) (0 : Int)))) = true]) (by kernel_rfl) ⟨h0, (EvHead.of (numbers_L0_ok a b) (absB_of [] [] (by kernel_rfl) (.consn (by kernel_rfl) (.eqv tq rfl) (.consn (by kernel_rfl) (.eqv tq rfl) (.consn (by kernel_rfl) (.eqv tq rfl) (.consn (by kernel_rfl) (.eqv tq rfl) .nil)))) .nil) h1), h2, h3, fq, (by (try simp only [List.drop_drop]); exact one_drop_iC (l := a) tq bq), fq, fq, (by (try simp only [List.drop_drop]); exact one_drop_iC (l := b) tq bq), (ord_of ord_15_0 bef_15_0 (by kernel_rfl)), h4, trivial⟩ tq
theorem numbers_l2 (a : List Int) (b : List Int) (h0 : (((↑(List.length a) : Int) != (↑(List.length b) : Int))) = false) (h0p : ((↑(List.length a) : Int) = (↑(List.length b) : Int))) (s1 : Int) (h1 : Runs (numbers_L0_step a b) ((0 : Int)) s1) (h2 : ((decide (s1 < (↑(List.length a) : Int)))) = false) (h2p : ¬ (s1 < (↑(List.length a) : Int))) : numbers_G a b (Bool.true) :=
  leafR vw_eq (k := 300) (r := []) (hs := hz [(6, [.no]), (1, [.head (numbers_L0_S a b s1)]), (4, [.no]), (1, [])]) (raw := (AV.b Bool.true)) (ps := [(((↑(List.length a) : Int) != (↑(List.length b) : Int))) = false, EvHead Try.prog cf (lp Try.prog 15 0) (numbers_L0_I a b) (numbers_L0_S a b s1), ((decide (s1 < (↑(List.length a) : Int)))) = false]) (by kernel_rfl) ⟨h0, (EvHead.of (numbers_L0_ok a b) (absB_of [] [] (by kernel_rfl) (.consn (by kernel_rfl) (.eqv tq rfl) (.consn (by kernel_rfl) (.eqv tq rfl) (.consn (by kernel_rfl) (.eqv tq rfl) (.consn (by kernel_rfl) (.eqv tq rfl) .nil)))) .nil) h1), h2, trivial⟩ tq
theorem numbers_ok (a : List Int) (b : List Int) (r : Bool) : numbers a b = some r → numbers_G a b r := by
  unfold numbers
  refine tb_ok (fun h0 => ?_) (fun h0 => ?_)
  ·
    have h0p := bne_iff_ne.1 h0
    exact fun e => tl_ok (G := numbers_G a b) (numbers_l0 a b h0 h0p) e
  ·
    have h0p := bne_eq_false_iff_eq.1 h0
    refine th_ok (fun s1 h1 => ?_)
    refine tb_ok (fun h2 => ?_) (fun h2 => ?_)
    ·
      have h2p := of_decide_eq_true h2
      refine tp_ok (fun h3 => ?_)
      refine tb_ok (fun h4 => ?_) (fun h4 => ?_)
      ·
        have h4p := bne_iff_ne.1 h4
        exact fun e => tl_ok (G := numbers_G a b) (numbers_l1 a b h0 h0p s1 h1 h2 h2p h3 h4 h4p) e
      ·
        have h4p := bne_eq_false_iff_eq.1 h4
        exact fun e => nomatch e
    ·
      have h2p := of_decide_eq_false h2
      exact fun e => tl_ok (G := numbers_G a b) (numbers_l2 a b h0 h0p s1 h1 h2 h2p) e
noncomputable abbrev r10List_L0_I (l : List Ex) : St := (St.mk [((0 : Nat), (AV.sl (List.length l) (List.flatMap Ex.cells l))), ((2 : Nat), (AV.b Bool.false)), ((6 : Nat), (AV.sl (List.length l) (List.flatMap Ex.cells l))), ((7 : Nat), (AV.i (↑(List.length l) : Int))), ((8 : Nat), (AV.b (decide ((↑(List.length l) : Int) > (64 : Int))))), ((3 : Nat), (AV.i 0)), ((4 : Nat), (AV.i 0))] 42 (AH.mk 0 ([] : List (Prod Nat AObj))) Bool.false)
noncomputable abbrev r10List_L0_S (l : List Ex) (s1 : Int × Int) : St := (St.mk [((0 : Nat), (AV.sl (List.length l) (List.flatMap Ex.cells l))), ((8 : Nat), (AV.b (decide ((↑(List.length l) : Int) > (64 : Int))))), ((3 : Nat), (AV.i s1.1)), ((4 : Nat), (AV.i s1.2))] 42 (AH.mk 0 ([] : List (Prod Nat AObj))) Bool.false)
noncomputable def r10List_L0_step (l : List Ex) (s1 : Int × Int) : Option (Int × Int) :=
 (tb ((decide (s1.2 < (↑(List.length l) : Int))))
  (tp ((((0 : Int) ≤ s1.2) ∧ (s1.2 < (↑(List.length l) : Int))))
   (tc (r7Check ((exAt l (Int.toNat s1.2)))) fun s4 =>
    (tb ((!s4))
     none /- exit -/
     (tb ((decide ((exAt l (Int.toNat s1.2)).lba < s1.1)))
      none /- exit -/
      (some (((wr ((exAt l (Int.toNat s1.2)).lba + (exAt l (Int.toNat s1.2)).len)), (wr (s1.2 + (1 : Int))))))))))
  none /- exit -/)
theorem r10List_L0_s0 (l : List Ex) (s1 : Int × Int) (h2 : ((decide (s1.2 < (↑(List.length l) : Int)))) = true) (h2p : (s1.2 < (↑(List.length l) : Int))) (h3 : (((0 : Int) ≤ s1.2) ∧ (s1.2 < (↑(List.length l) : Int)))) (s4 : Bool) (h4 : r7Check ((exAt l (Int.toNat s1.2))) = some s4) (h5 : ((!s4)) = false) (h6 : ((decide ((exAt l (Int.toNat s1.2)).lba < s1.1))) = false) (h6p : ¬ ((exAt l (Int.toNat s1.2)).lba < s1.1)) : EvStep Try.prog cf 0 (lp Try.prog 22 0) (r10List_L0_S l s1) (r10List_L0_S l (((wr ((exAt l (Int.toNat s1.2)).lba + (exAt l (Int.toNat s1.2)).len)), (wr (s1.2 + (1 : Int)))))) :=
  leafS vw_eq (k := 300) (r := []) (hs := hz [(4, [.yes]), (2, [.yes, .yes, .cells ((Ex.cells (exAt l (Int.toNat s1.2))))]), (1, [.fres (.b (s4))]), (4, [.no]), (1, [.no]), (1, [.no, .yes, .no]), (1, [.no, .yes, .val ((AV.i (exAt l (Int.toNat s1.2)).lba)), .no]), (1, [.no]), (1, [.no, .no]), (2, [.yes]), (1, [.yes, .val ((AV.i (exAt l (Int.toNat s1.2)).lba))]), (2, [.yes]), (1, [.yes, .val ((AV.i (exAt l (Int.toNat s1.2)).len))]), (2, [.yes]), (3, [])]) (st1 := (St.mk [((0 : Nat), (AV.sl (List.length l) (List.flatMap Ex.cells l))), ((8 : Nat), (AV.b (decide ((↑(List.length l) : Int) > (64 : Int))))), ((3 : Nat), (AV.i (wr ((exAt l (Int.toNat s1.2)).lba + (exAt l (Int.toNat s1.2)).len)))), ((4 : Nat), (AV.i (wr (s1.2 + (1 : Int))))), ((9 : Nat), (AV.i s1.2)), ((10 : Nat), (AV.sl (List.length l) (List.flatMap Ex.cells l))), ((11 : Nat), (AV.i (↑(List.length l) : Int))), ((12 : Nat), (AV.b (decide (s1.2 < (↑(List.length l) : Int))))), ((15 : Nat), (AV.sl (List.length l) (List.flatMap Ex.cells l))), ((16 : Nat), (AV.i s1.2)), ((17 : Nat), (AV.ip (List.drop ((Int.toNat s1.2) * (5 : Nat)) (List.flatMap Ex.cells l)))), ((18 : Nat), (AV.ag [(AV.i (exAt l (Int.toNat s1.2)).lba), (AV.i (exAt l (Int.toNat s1.2)).len), (AV.i (exAt l (Int.toNat s1.2)).kind), (AV.i (exAt l (Int.toNat s1.2)).gen), (AV.sl (List.length (exAt l (Int.toNat s1.2)).d) (List.map AV.y (exAt l (Int.toNat s1.2)).d))])), ((19 : Nat), (AV.b s4)), ((5 : Nat), (AV.b s4)), ((20 : Nat), (AV.b s4)), ((21 : Nat), (AV.b (!s4))), ((22 : Nat), (AV.b (!s4))), ((23 : Nat), (AV.sl (List.length l) (List.flatMap Ex.cells l))), ((24 : Nat), (AV.i s1.2)), ((25 : Nat), (AV.ip (List.drop ((Int.toNat s1.2) * (5 : Nat)) (List.flatMap Ex.cells l)))), ((26 : Nat), (AV.ip (List.drop 0 (List.drop ((Int.toNat s1.2) * (5 : Nat)) (List.flatMap Ex.cells l))))), ((27 : Nat), (AV.i (exAt l (Int.toNat s1.2)).lba)), ((28 : Nat), (AV.i s1.1)), ((29 : Nat), (AV.b (decide ((exAt l (Int.toNat s1.2)).lba < s1.1)))), ((30 : Nat), (AV.b (decide ((exAt l (Int.toNat s1.2)).lba < s1.1)))), ((31 : Nat), (AV.sl (List.length l) (List.flatMap Ex.cells l))), ((32 : Nat), (AV.i s1.2)), ((33 : Nat), (AV.ip (List.drop ((Int.toNat s1.2) * (5 : Nat)) (List.flatMap Ex.cells l)))), ((34 : Nat), (AV.ip (List.drop 0 (List.drop ((Int.toNat s1.2) * (5 : Nat)) (List.flatMap Ex.cells l))))), ((35 : Nat), (AV.i (exAt l (Int.toNat s1.2)).lba)), ((36 : Nat), (AV.sl (List.length l) (List.flatMap Ex.cells l))), ((37 : Nat), (AV.i s1.2)), ((38 : Nat), (AV.ip (List.drop ((Int.toNat s1.2) * (5 : Nat)) (List.flatMap Ex.cells l)))), ((39 : Nat), (AV.ip (List.drop 1 (List.drop ((Int.toNat s1.2) * (5 : Nat)) (List.flatMap Ex.cells l))))), ((40 : Nat), (AV.i (exAt l (Int.toNat s1.2)).len)), ((41 : Nat), (AV.i (wr ((exAt l (Int.toNat s1.2)).lba + (exAt l (Int.toNat s1.2)).len)))), ((13 : Nat), (AV.i s1.2)), ((14 : Nat), (AV.i (wr (s1.2 + (1 : Int)))))] 42 (AH.mk 0 ([] : List (Prod Nat AObj))) Bool.false)) (ps := [((decide (s1.2 < (↑(List.length l) : Int)))) = true, (((0 : Int) ≤ s1.2) ∧ (s1.2 < (↑(List.length l) : Int))), ((5 : Nat) ≤ (List.length (List.drop ((Int.toNat s1.2) * (5 : Nat)) (List.flatMap Ex.cells l)))), (List.take 5 (List.drop ((Int.toNat s1.2) * (5 : Nat)) (List.flatMap Ex.cells l))) = (Ex.cells (exAt l (Int.toNat s1.2))), EvFr Try.prog cf Bool.false 35 [(AV.ag [(AV.i (exAt l (Int.toNat s1.2)).lba), (AV.i (exAt l (Int.toNat s1.2)).len), (AV.i (exAt l (Int.toNat s1.2)).kind), (AV.i (exAt l (Int.toNat s1.2)).gen), (AV.sl (List.length (exAt l (Int.toNat s1.2)).d) (List.map AV.y (exAt l (Int.toNat s1.2)).d))])] (.b (s4)), ((!s4)) = false, ((!s4)) = false, ((!s4)) = false, (((0 : Int) ≤ s1.2) ∧ (s1.2 < (↑(List.length l) : Int))), ((!s4)) = false, ((!s4)) = false, ((1 : Nat) ≤ (List.length (List.drop 0 (List.drop ((Int.toNat s1.2) * (5 : Nat)) (List.flatMap Ex.cells l))))), (List.take 1 (List.drop 0 (List.drop ((Int.toNat s1.2) * (5 : Nat)) (List.flatMap Ex.cells l)))) = [(AV.i (exAt l (Int.toNat s1.2)).lba)], ((!s4)) = false, ((!s4)) = false, ((!s4)) = false, ((decide ((exAt l (Int.toNat s1.2)).lba < s1.1))) = false, (((0 : Int) ≤ s1.2) ∧ (s1.2 < (↑(List.length l) : Int))), ((1 : Nat) ≤ (List.length (List.drop 0 (List.drop ((Int.toNat s1.2) * (5 : Nat)) (List.flatMap Ex.cells l))))), (List.take 1 (List.drop 0 (List.drop ((Int.toNat s1.2) * (5 : Nat)) (List.flatMap Ex.cells l)))) = [(AV.i (exAt l (Int.toNat s1.2)).lba)], (((0 : Int) ≤ s1.2) ∧ (s1.2 < (↑(List.length l) : Int))), ((1 : Nat) ≤ (List.length (List.drop 1 (List.drop ((Int.toNat s1.2) * (5 : Nat)) (List.flatMap Ex.cells l))))), (List.take 1 (List.drop 1 (List.drop ((Int.toNat s1.2) * (5 : Nat)) (List.flatMap Ex.cells l)))) = [(AV.i (exAt l (Int.toNat s1.2)).len)], orderOk (rg Try.prog 22 0) = true ∧ allOk (Region.before (rg Try.prog 22 0)) [] 0 [(some [], some []), (some [], some []), (some [], some []), (some [], some []), (some [], some []), (some [], some []), (some [], some []), (some [], some []), (some [], some []), (some [], some []), (some [], some []), (some [], some [])] = true]) (by kernel_rfl) ⟨h2, h3, fq, (by first | exact ex_take _ _ bq | (simpa using ex_take _ _ bq) | ((try simp only [List.drop_drop]); rw [show ((Int.toNat s1.2) * (5 : Nat)) = ((Int.toNat s1.2)) * 5 by omega]; exact ex_take _ _ bq)), ((r7Check_ok ((exAt l (Int.toNat s1.2))) _ h4).any.cast tq), h5, h5, h5, h3, h5, h5, fq, (by first | exact ex_one _ _ _ _ bq rfl | exact ex_oneA _ _ _ _ bq rfl | (simpa using ex_one (l) ((Int.toNat s1.2)) 0 _ bq rfl) | ((try simp only [List.drop_drop]); rw [show ((0 : Nat) + ((Int.toNat s1.2) * (5 : Nat))) = ((Int.toNat s1.2)) * 5 + 0 by omega]; exact ex_oneA (l) ((Int.toNat s1.2)) 0 _ bq rfl)), h5, h5, h5, h6, h3, fq, (by first | exact ex_one _ _ _ _ bq rfl | exact ex_oneA _ _ _ _ bq rfl | (simpa using ex_one (l) ((Int.toNat s1.2)) 0 _ bq rfl) | ((try simp only [List.drop_drop]); rw [show ((0 : Nat) + ((Int.toNat s1.2) * (5 : Nat))) = ((Int.toNat s1.2)) * 5 + 0 by omega]; exact ex_oneA (l) ((Int.toNat s1.2)) 0 _ bq rfl)), h3, fq, (by first | exact ex_one _ _ _ _ bq rfl | exact ex_oneA _ _ _ _ bq rfl | (simpa using ex_one (l) ((Int.toNat s1.2)) 1 _ bq rfl) | ((try simp only [List.drop_drop]); rw [show ((1 : Nat) + ((Int.toNat s1.2) * (5 : Nat))) = ((Int.toNat s1.2)) * 5 + 1 by omega]; exact ex_oneA (l) ((Int.toNat s1.2)) 1 _ bq rfl)), (ord_of ord_22_0 bef_22_0 (by kernel_rfl)), trivial⟩ (Nat.le_of_ble_eq_true rfl) (absB_of [] [] (by kernel_rfl) (.consn (by kernel_rfl) (.eqv tq rfl) (.consn (by kernel_rfl) (.eqv tq rfl) (.consn (by kernel_rfl) (.eqv tq rfl) (.consn (by kernel_rfl) (.eqv tq rfl) .nil)))) .nil)
theorem r10List_L0_ok (l : List Ex) (s1 zz : Int × Int) : r10List_L0_step l s1 = some zz → EvStep Try.prog cf 0 (lp Try.prog 22 0) (r10List_L0_S l s1) (r10List_L0_S l zz) := by
  unfold r10List_L0_step
  refine tb_ok (fun h2 => ?_) (fun h2 => ?_)
  ·
    have h2p := of_decide_eq_true h2
    refine tp_ok (fun h3 => ?_)
    refine tc_ok (fun s4 h4 => ?_)
    refine tb_ok (fun h5 => ?_) (fun h5 => ?_)
    ·
      exact fun e => nomatch e
    ·
      refine tb_ok (fun h6 => ?_) (fun h6 => ?_)
      ·
        have h6p := of_decide_eq_true h6
        exact fun e => nomatch e
      ·
        have h6p := of_decide_eq_false h6
        exact fun e => tl_ok (G := (fun zz => EvStep Try.prog cf 0 (lp Try.prog 22 0) (r10List_L0_S l s1) (r10List_L0_S l zz))) (r10List_L0_s0 l s1 h2 h2p h3 s4 h4 h5 h6 h6p) e
  ·
    have h2p := of_decide_eq_false h2
    exact fun e => nomatch e
/-- Function 22, as it answers. -/
noncomputable def r10List (l : List Ex) : Option (Bool) :=
 (tb ((decide ((↑(List.length l) : Int) > (64 : Int))))
  (some (Bool.false))
  (th (r10List_L0_step l) (((0 : Int), (0 : Int))) fun s1 =>
   (tb ((decide (s1.2 < (↑(List.length l) : Int))))
    (tp ((((0 : Int) ≤ s1.2) ∧ (s1.2 < (↑(List.length l) : Int))))
     (tc (r7Check ((exAt l (Int.toNat s1.2)))) fun s4 =>
      (tb ((!s4))
       (some (Bool.false))
       (tb ((decide ((exAt l (Int.toNat s1.2)).lba < s1.1)))
        (some (Bool.false))
        none /- stop behind an operation -/))))
    (some (Bool.true)))))
abbrev r10List_G (l : List Ex) (r : Bool) : Prop := EvFr Try.prog cf true 22 [exs (l)] (.b (r))
theorem r10List_l0 (l : List Ex) (h0 : ((decide ((↑(List.length l) : Int) > (64 : Int)))) = true) (h0p : ((↑(List.length l) : Int) > (64 : Int))) : r10List_G l (Bool.false) :=
  leafR vw_eq (k := 300) (r := []) (hs := hz [(4, [.yes]), (1, [])]) (raw := (AV.b Bool.false)) (ps := [((decide ((↑(List.length l) : Int) > (64 : Int)))) = true]) (by kernel_rfl) ⟨h0, trivial⟩ tq
theorem r10List_l1 (l : List Ex) (h0 : ((decide ((↑(List.length l) : Int) > (64 : Int)))) = false) (h0p : ¬ ((↑(List.length l) : Int) > (64 : Int))) (s1 : Int × Int) (h1 : Runs (r10List_L0_step l) (((0 : Int), (0 : Int))) s1) (h2 : ((decide (s1.2 < (↑(List.length l) : Int)))) = true) (h2p : (s1.2 < (↑(List.length l) : Int))) (h3 : (((0 : Int) ≤ s1.2) ∧ (s1.2 < (↑(List.length l) : Int)))) (s4 : Bool) (h4 : r7Check ((exAt l (Int.toNat s1.2))) = some s4) (h5 : ((!s4)) = true) : r10List_G l (Bool.false) :=
  leafR vw_eq (k := 300) (r := []) (hs := hz [(4, [.no]), (2, [.head (r10List_L0_S l s1)]), (4, [.yes]), (2, [.yes, .yes, .cells ((Ex.cells (exAt l (Int.toNat s1.2))))]), (1, [.fres (.b (s4))]), (4, [.yes, .yes, .yes, .yes, .yes, .yes, .yes, .yes]), (2, [])]) (raw := (AV.b Bool.false)) (ps := [((decide ((↑(List.length l) : Int) > (64 : Int)))) = false, EvHead Try.prog cf (lp Try.prog 22 0) (r10List_L0_I l) (r10List_L0_S l s1), ((decide (s1.2 < (↑(List.length l) : Int)))) = true, (((0 : Int) ≤ s1.2) ∧ (s1.2 < (↑(List.length l) : Int))), ((5 : Nat) ≤ (List.length (List.drop ((Int.toNat s1.2) * (5 : Nat)) (List.flatMap Ex.cells l)))), (List.take 5 (List.drop ((Int.toNat s1.2) * (5 : Nat)) (List.flatMap Ex.cells l))) = (Ex.cells (exAt l (Int.toNat s1.2))), EvFr Try.prog cf Bool.false 35 [(AV.ag [(AV.i (exAt l (Int.toNat s1.2)).lba), (AV.i (exAt l (Int.toNat s1.2)).len), (AV.i (exAt l (Int.toNat s1.2)).kind), (AV.i (exAt l (Int.toNat s1.2)).gen), (AV.sl (List.length (exAt l (Int.toNat s1.2)).d) (List.map AV.y (exAt l (Int.toNat s1.2)).d))])] (.b (s4)), ((!s4)) = true, ((!s4)) = true, ((!s4)) = true, ((!s4)) = true, ((!s4)) = true, ((!s4)) = true, ((!s4)) = true, ((!s4)) = true]) (by kernel_rfl) ⟨h0, (EvHead.of (r10List_L0_ok l) (absB_of [] [] (by kernel_rfl) (.consn (by kernel_rfl) (.eqv tq rfl) (.consn (by kernel_rfl) (.eqv tq rfl) (.consn (by kernel_rfl) (.eqv tq rfl) (.consn (by kernel_rfl) (.eqv tq rfl) .nil)))) .nil) h1), h2, h3, fq, (by first | exact ex_take _ _ bq | (simpa using ex_take _ _ bq) | ((try simp only [List.drop_drop]); rw [show ((Int.toNat s1.2) * (5 : Nat)) = ((Int.toNat s1.2)) * 5 by omega]; exact ex_take _ _ bq)), ((r7Check_ok ((exAt l (Int.toNat s1.2))) _ h4).any.cast tq), h5, h5, h5, h5, h5, h5, h5, h5, trivial⟩ tq
theorem r10List_l2 (l : List Ex) (h0 : ((decide ((↑(List.length l) : Int) > (64 : Int)))) = false) (h0p : ¬ ((↑(List.length l) : Int) > (64 : Int))) (s1 : Int × Int) (h1 : Runs (r10List_L0_step l) (((0 : Int), (0 : Int))) s1) (h2 : ((decide (s1.2 < (↑(List.length l) : Int)))) = true) (h2p : (s1.2 < (↑(List.length l) : Int))) (h3 : (((0 : Int) ≤ s1.2) ∧ (s1.2 < (↑(List.length l) : Int)))) (s4 : Bool) (h4 : r7Check ((exAt l (Int.toNat s1.2))) = some s4) (h5 : ((!s4)) = false) (h6 : ((decide ((exAt l (Int.toNat s1.2)).lba < s1.1))) = true) (h6p : ((exAt l (Int.toNat s1.2)).lba < s1.1)) : r10List_G l (Bool.false) :=
  leafR vw_eq (k := 300) (r := []) (hs := hz [(4, [.no]), (2, [.head (r10List_L0_S l s1)]), (4, [.yes]), (2, [.yes, .yes, .cells ((Ex.cells (exAt l (Int.toNat s1.2))))]), (1, [.fres (.b (s4))]), (4, [.no]), (1, [.no]), (1, [.no, .yes, .no]), (1, [.no, .yes, .val ((AV.i (exAt l (Int.toNat s1.2)).lba)), .no]), (1, [.no]), (1, [.no, .yes]), (1, [])]) (raw := (AV.b Bool.false)) (ps := [((decide ((↑(List.length l) : Int) > (64 : Int)))) = false, EvHead Try.prog cf (lp Try.prog 22 0) (r10List_L0_I l) (r10List_L0_S l s1), ((decide (s1.2 < (↑(List.length l) : Int)))) = true, (((0 : Int) ≤ s1.2) ∧ (s1.2 < (↑(List.length l) : Int))), ((5 : Nat) ≤ (List.length (List.drop ((Int.toNat s1.2) * (5 : Nat)) (List.flatMap Ex.cells l)))), (List.take 5 (List.drop ((Int.toNat s1.2) * (5 : Nat)) (List.flatMap Ex.cells l))) = (Ex.cells (exAt l (Int.toNat s1.2))), EvFr Try.prog cf Bool.false 35 [(AV.ag [(AV.i (exAt l (Int.toNat s1.2)).lba), (AV.i (exAt l (Int.toNat s1.2)).len), (AV.i (exAt l (Int.toNat s1.2)).kind), (AV.i (exAt l (Int.toNat s1.2)).gen), (AV.sl (List.length (exAt l (Int.toNat s1.2)).d) (List.map AV.y (exAt l (Int.toNat s1.2)).d))])] (.b (s4)), ((!s4)) = false, ((!s4)) = false, ((!s4)) = false, (((0 : Int) ≤ s1.2) ∧ (s1.2 < (↑(List.length l) : Int))), ((!s4)) = false, ((!s4)) = false, ((1 : Nat) ≤ (List.length (List.drop 0 (List.drop ((Int.toNat s1.2) * (5 : Nat)) (List.flatMap Ex.cells l))))), (List.take 1 (List.drop 0 (List.drop ((Int.toNat s1.2) * (5 : Nat)) (List.flatMap Ex.cells l)))) = [(AV.i (exAt l (Int.toNat s1.2)).lba)], ((!s4)) = false, ((!s4)) = false, ((!s4)) = false, ((decide ((exAt l (Int.toNat s1.2)).lba < s1.1))) = true]) (by kernel_rfl) ⟨h0, (EvHead.of (r10List_L0_ok l) (absB_of [] [] (by kernel_rfl) (.consn (by kernel_rfl) (.eqv tq rfl) (.consn (by kernel_rfl) (.eqv tq rfl) (.consn (by kernel_rfl) (.eqv tq rfl) (.consn (by kernel_rfl) (.eqv tq rfl) .nil)))) .nil) h1), h2, h3, fq, (by first | exact ex_take _ _ bq | (simpa using ex_take _ _ bq) | ((try simp only [List.drop_drop]); rw [show ((Int.toNat s1.2) * (5 : Nat)) = ((Int.toNat s1.2)) * 5 by omega]; exact ex_take _ _ bq)), ((r7Check_ok ((exAt l (Int.toNat s1.2))) _ h4).any.cast tq), h5, h5, h5, h3, h5, h5, fq, (by first | exact ex_one _ _ _ _ bq rfl | exact ex_oneA _ _ _ _ bq rfl | (simpa using ex_one (l) ((Int.toNat s1.2)) 0 _ bq rfl) | ((try simp only [List.drop_drop]); rw [show ((0 : Nat) + ((Int.toNat s1.2) * (5 : Nat))) = ((Int.toNat s1.2)) * 5 + 0 by omega]; exact ex_oneA (l) ((Int.toNat s1.2)) 0 _ bq rfl)), h5, h5, h5, h6, trivial⟩ tq
theorem r10List_l3 (l : List Ex) (h0 : ((decide ((↑(List.length l) : Int) > (64 : Int)))) = false) (h0p : ¬ ((↑(List.length l) : Int) > (64 : Int))) (s1 : Int × Int) (h1 : Runs (r10List_L0_step l) (((0 : Int), (0 : Int))) s1) (h2 : ((decide (s1.2 < (↑(List.length l) : Int)))) = false) (h2p : ¬ (s1.2 < (↑(List.length l) : Int))) : r10List_G l (Bool.true) :=
  leafR vw_eq (k := 300) (r := []) (hs := hz [(4, [.no]), (2, [.head (r10List_L0_S l s1)]), (4, [.no]), (1, [])]) (raw := (AV.b Bool.true)) (ps := [((decide ((↑(List.length l) : Int) > (64 : Int)))) = false, EvHead Try.prog cf (lp Try.prog 22 0) (r10List_L0_I l) (r10List_L0_S l s1), ((decide (s1.2 < (↑(List.length l) : Int)))) = false]) (by kernel_rfl) ⟨h0, (EvHead.of (r10List_L0_ok l) (absB_of [] [] (by kernel_rfl) (.consn (by kernel_rfl) (.eqv tq rfl) (.consn (by kernel_rfl) (.eqv tq rfl) (.consn (by kernel_rfl) (.eqv tq rfl) (.consn (by kernel_rfl) (.eqv tq rfl) .nil)))) .nil) h1), h2, trivial⟩ tq
theorem r10List_ok (l : List Ex) (r : Bool) : r10List l = some r → r10List_G l r := by
  unfold r10List
  refine tb_ok (fun h0 => ?_) (fun h0 => ?_)
  ·
    have h0p := of_decide_eq_true h0
    exact fun e => tl_ok (G := r10List_G l) (r10List_l0 l h0 h0p) e
  ·
    have h0p := of_decide_eq_false h0
    refine th_ok (fun s1 h1 => ?_)
    refine tb_ok (fun h2 => ?_) (fun h2 => ?_)
    ·
      have h2p := of_decide_eq_true h2
      refine tp_ok (fun h3 => ?_)
      refine tc_ok (fun s4 h4 => ?_)
      refine tb_ok (fun h5 => ?_) (fun h5 => ?_)
      ·
        exact fun e => tl_ok (G := r10List_G l) (r10List_l1 l h0 h0p s1 h1 h2 h2p h3 s4 h4 h5) e
      ·
        refine tb_ok (fun h6 => ?_) (fun h6 => ?_)
        ·
          have h6p := of_decide_eq_true h6
          exact fun e => tl_ok (G := r10List_G l) (r10List_l2 l h0 h0p s1 h1 h2 h2p h3 s4 h4 h5 h6 h6p) e
        ·
          have h6p := of_decide_eq_false h6
          exact fun e => nomatch e
    ·
      have h2p := of_decide_eq_false h2
      exact fun e => tl_ok (G := r10List_G l) (r10List_l3 l h0 h0p s1 h1 h2 h2p) e
end Ab
end Go.Proofs.Ytiaelfmohamipaa
