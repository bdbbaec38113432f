/- Functions, as they answer: printed by a program of this repo, out of the program's form; each with its proof. -/
import Derived.Test.YtiaelfmohamipaaRows
import Derived.Test.YtiaelfmohamipaaAbsY
import Derived.Test.YtiaelfmohamipaaTab
import Derived.Test.YtiaelfmohamipaaFnA
import Derived.Test.YtiaelfmohamipaaFnZ
import Derived.Test.YtiaelfmohamipaaFnB
import Derived.Test.YtiaelfmohamipaaFnAw
namespace Go.Proofs.Ytiaelfmohamipaa
open Go Go.Proofs.Ytiaelfmohamipaa.Ab
set_option linter.unusedVariables false
set_option linter.unusedSimpArgs false
set_option maxRecDepth 1000000
namespace Ab
/-- Function 4, as it answers. -/
noncomputable def lZerosRuns (a : List UInt8) (b : List UInt8) : Option (Bool) :=
 (tc (aw15) fun s0 =>
  (tb ((decide ((↑(List.length a) : Int) > (5000 : Int))))
   (some (s0))
   (tb ((decide ((↑(List.length b) : Int) > (5000 : Int))))
    (some (s0))
    (tb (((Int.tmod (↑(List.length a) : Int) (32 : Int)) != (0 : Int)))
     (some (s0))
     (tc (pSplit (a)) fun s4 =>
      (tc (pSplit (b)) fun s5 =>
       (tc (pSplit ((a ++ b))) fun s6 =>
        (tb ((s5.2 != (0 : Int)))
         (tb (s0)
          (tb ((s4.2 == (0 : Int)))
           (some ((s6.2 == s5.2)))
           none /- false -/)
          none /- false -/)
         (tb (s0)
          (tb ((s4.2 == (0 : Int)))
           (tb ((s6.2 == (0 : Int)))
            (tc (sum (s6.1) ((0 : Int))) fun s11 =>
             (tc (sum (s4.1) ((0 : Int))) fun s12 =>
              (tc (sum (s5.1) ((0 : Int))) fun s13 =>
               (tb ((s11 == (wr (s12 + s13))))
                (tc (sum (s6.1) ((1 : Int))) fun s15 =>
                 (tc (sum (s4.1) ((1 : Int))) fun s16 =>
                  (tc (sum (s5.1) ((1 : Int))) fun s17 =>
                   (tb ((s15 == (wr (s16 + s17))))
                    (some ((decide ((↑(List.length s6.1) : Int) ≤ (wr ((wr ((↑(List.length s4.1) : Int) + (↑(List.length s5.1) : Int))) + (1 : Int)))))))
                    none /- false -/))))
                none /- false -/))))
            none /- false -/)
           none /- false -/)
          none /- false -/)))))))))
abbrev lZerosRuns_G (a : List UInt8) (b : List UInt8) (r : Bool) : Prop := EvFr Try.prog cf false 4 [bys (a), bys (b)] (.b (r))
theorem lZerosRuns_l0 (a : List UInt8) (b : List UInt8) (s0 : Bool) (h0 : aw15 = some s0) (h1 : ((decide ((↑(List.length a) : Int) > (5000 : Int)))) = true) (h1p : ((↑(List.length a) : Int) > (5000 : Int))) : lZerosRuns_G a b (s0) :=
  leafR vw_eq (k := 300) (r := []) (hs := hz [(2, [.fres (.b (s0))]), (5, [.yes, .yes, .yes, .yes]), (9, [])]) (raw := (AV.b s0)) (ps := [EvFr Try.prog cf Bool.false 7 ([] : List AV) (.b (s0)), ((decide ((↑(List.length a) : Int) > (5000 : Int)))) = true, ((decide ((↑(List.length a) : Int) > (5000 : Int)))) = true, ((decide ((↑(List.length a) : Int) > (5000 : Int)))) = true, ((decide ((↑(List.length a) : Int) > (5000 : Int)))) = true]) (by kernel_rfl) ⟨((aw15_ok  _ h0).any.cast tq), h1, h1, h1, h1, trivial⟩ tq
theorem lZerosRuns_l1 (a : List UInt8) (b : List UInt8) (s0 : Bool) (h0 : aw15 = some s0) (h1 : ((decide ((↑(List.length a) : Int) > (5000 : Int)))) = false) (h1p : ¬ ((↑(List.length a) : Int) > (5000 : Int))) (h2 : ((decide ((↑(List.length b) : Int) > (5000 : Int)))) = true) (h2p : ((↑(List.length b) : Int) > (5000 : Int))) : lZerosRuns_G a b (s0) :=
  leafR vw_eq (k := 300) (r := []) (hs := hz [(2, [.fres (.b (s0))]), (5, [.no]), (1, [.no]), (1, [.no]), (1, [.no]), (1, [.yes, .yes, .yes, .yes, .yes]), (3, [])]) (raw := (AV.b s0)) (ps := [EvFr Try.prog cf Bool.false 7 ([] : List AV) (.b (s0)), ((decide ((↑(List.length a) : Int) > (5000 : Int)))) = false, ((decide ((↑(List.length a) : Int) > (5000 : Int)))) = false, ((decide ((↑(List.length a) : Int) > (5000 : Int)))) = false, ((decide ((↑(List.length a) : Int) > (5000 : Int)))) = false, ((decide ((↑(List.length b) : Int) > (5000 : Int)))) = true, ((decide ((↑(List.length b) : Int) > (5000 : Int)))) = true, ((decide ((↑(List.length b) : Int) > (5000 : Int)))) = true, ((decide ((↑(List.length b) : Int) > (5000 : Int)))) = true, ((decide ((↑(List.length b) : Int) > (5000 : Int)))) = true]) (by kernel_rfl) ⟨((aw15_ok  _ h0).any.cast tq), h1, h1, h1, h1, h2, h2, h2, h2, h2, trivial⟩ tq
theorem lZerosRuns_l2 (a : List UInt8) (b : List UInt8) (s0 : Bool) (h0 : aw15 = some s0) (h1 : ((decide ((↑(List.length a) : Int) > (5000 : Int)))) = false) (h1p : ¬ ((↑(List.length a) : Int) > (5000 : Int))) (h2 : ((decide ((↑(List.length b) : Int) > (5000 : Int)))) = false) (h2p : ¬ ((↑(List.length b) : Int) > (5000 : Int))) (h3 : (((Int.tmod (↑(List.length a) : Int) (32 : Int)) != (0 : Int))) = true) (h3p : ¬ ((Int.tmod (↑(List.length a) : Int) (32 : Int)) = (0 : Int))) : lZerosRuns_G a b (s0) :=
  leafR vw_eq (k := 300) (r := []) (hs := hz [(2, [.fres (.b (s0))]), (5, [.no]), (1, [.no]), (1, [.no]), (1, [.no]), (1, [.no]), (1, [.no]), (1, [.no]), (1, [.no]), (1, [.no, .yes]), (2, [])]) (raw := (AV.b s0)) (ps := [EvFr Try.prog cf Bool.false 7 ([] : List AV) (.b (s0)), ((decide ((↑(List.length a) : Int) > (5000 : Int)))) = false, ((decide ((↑(List.length a) : Int) > (5000 : Int)))) = false, ((decide ((↑(List.length a) : Int) > (5000 : Int)))) = false, ((decide ((↑(List.length a) : Int) > (5000 : Int)))) = false, ((decide ((↑(List.length b) : Int) > (5000 : Int)))) = false, ((decide ((↑(List.length b) : Int) > (5000 : Int)))) = false, ((decide ((↑(List.length b) : Int) > (5000 : Int)))) = false, ((decide ((↑(List.length b) : Int) > (5000 : Int)))) = false, ((decide ((↑(List.length b) : Int) > (5000 : Int)))) = false, (((Int.tmod (↑(List.length a) : Int) (32 : Int)) != (0 : Int))) = true]) (by kernel_rfl) ⟨((aw15_ok  _ h0).any.cast tq), h1, h1, h1, h1, h2, h2, h2, h2, h2, h3, trivial⟩ tq
theorem lZerosRuns_l3 (a : List UInt8) (b : List UInt8) (s0 : Bool) (h0 : aw15 = some s0) (h1 : ((decide ((↑(List.length a) : Int) > (5000 : Int)))) = false) (h1p : ¬ ((↑(List.length a) : Int) > (5000 : Int))) (h2 : ((decide ((↑(List.length b) : Int) > (5000 : Int)))) = false) (h2p : ¬ ((↑(List.length b) : Int) > (5000 : Int))) (h3 : (((Int.tmod (↑(List.length a) : Int) (32 : Int)) != (0 : Int))) = false) (h3p : ((Int.tmod (↑(List.length a) : Int) (32 : Int)) = (0 : Int))) (s4 : List Int × Int) (h4 : pSplit (a) = some s4) (s5 : List Int × Int) (h5 : pSplit (b) = some s5) (s6 : List Int × Int) (h6 : pSplit ((a ++ b)) = some s6) (h7 : ((s5.2 != (0 : Int))) = true) (h7p : ¬ (s5.2 = (0 : Int))) (h8 : (s0) = true) (h9 : ((s4.2 == (0 : Int))) = true) (h9p : (s4.2 = (0 : Int))) : lZerosRuns_G a b ((s6.2 == s5.2)) :=
  leafR vw_eq (k := 300) (r := []) (hs := hz [(2, [.fres (.b (s0))]), (5, [.no]), (1, [.no]), (1, [.no]), (1, [.no]), (1, [.no]), (1, [.no]), (1, [.no]), (1, [.no]), (1, [.no, .no]), (2, [.fres (.tu [ints (s4.1), .i (s4.2)])]), (7, [.fres (.tu [ints (s5.1), .i (s5.2)])]), (7, [.yes, .yes]), (1, [.yes, .yes]), (1, [.yes, .yes, .fres (.tu [ints (s6.1), .i (s6.2)])]), (7, [.yes]), (2, [.yes]), (1, [.yes]), (1, [.yes]), (1, [.yes]), (1, [.yes]), (1, [.yes]), (1, [.yes]), (1, [])]) (raw := (AV.b (s6.2 == s5.2))) (ps := [EvFr Try.prog cf Bool.false 7 ([] : List AV) (.b (s0)), ((decide ((↑(List.length a) : Int) > (5000 : Int)))) = false, ((decide ((↑(List.length a) : Int) > (5000 : Int)))) = false, ((decide ((↑(List.length a) : Int) > (5000 : Int)))) = false, ((decide ((↑(List.length a) : Int) > (5000 : Int)))) = false, ((decide ((↑(List.length b) : Int) > (5000 : Int)))) = false, ((decide ((↑(List.length b) : Int) > (5000 : Int)))) = false, ((decide ((↑(List.length b) : Int) > (5000 : Int)))) = false, ((decide ((↑(List.length b) : Int) > (5000 : Int)))) = false, ((decide ((↑(List.length b) : Int) > (5000 : Int)))) = false, (((Int.tmod (↑(List.length a) : Int) (32 : Int)) != (0 : Int))) = false, EvFr Try.prog cf Bool.false 9 [(AV.sl (List.length a) (List.map AV.y a))] (.tu [ints (s4.1), .i (s4.2)]), EvFr Try.prog cf Bool.false 9 [(AV.sl (List.length b) (List.map AV.y b))] (.tu [ints (s5.1), .i (s5.2)]), ((List.length (List.map AV.y a)) = ((List.length a) * (1 : Nat))), ((List.length a) ≤ (4294967296 : Nat)), ((List.length (List.map AV.y b)) = ((List.length b) * (1 : Nat))), (((List.length (List.map AV.y a)) = ((List.length a) * (1 : Nat))) ∧ (((List.length a) + (List.length b)) ≤ (4294967296 : Nat))), (((0 : Nat) = (0 : Nat)) ∧ ((List.length ((List.map AV.y a) ++ (List.map AV.y b))) = (((List.length a) + (List.length b)) * (1 : Nat)))), Pl Bool.false (((List.map AV.y a) ++ (List.map AV.y b))), EvFr Try.prog cf Bool.true 9 [(AV.sl ((List.length a) + (List.length b)) ((List.map AV.y a) ++ (List.map AV.y b)))] (.tu [ints (s6.1), .i (s6.2)]), ((s5.2 != (0 : Int))) = true, (s0) = true, (s0) = true, (s0) = true, ((s4.2 == (0 : Int))) = true, ((s4.2 == (0 : Int))) = true, ((s4.2 == (0 : Int))) = true, ((s4.2 == (0 : Int))) = true]) (by kernel_rfl) ⟨((aw15_ok  _ h0).any.cast tq), h1, h1, h1, h1, h2, h2, h2, h2, h2, h3, ((pSplit_ok (a) _ h4).any.cast tq), ((pSplit_ok (b) _ h5).any.cast tq), tq, fq, tq, fq, tq, pq, ((pSplit_ok ((a ++ b)) _ h6).any.cast tq), h7, h8, h8, h8, h9, h9, h9, h9, trivial⟩ tq
theorem lZerosRuns_l4 (a : List UInt8) (b : List UInt8) (s0 : Bool) (h0 : aw15 = some s0) (h1 : ((decide ((↑(List.length a) : Int) > (5000 : Int)))) = false) (h1p : ¬ ((↑(List.length a) : Int) > (5000 : Int))) (h2 : ((decide ((↑(List.length b) : Int) > (5000 : Int)))) = false) (h2p : ¬ ((↑(List.length b) : Int) > (5000 : Int))) (h3 : (((Int.tmod (↑(List.length a) : Int) (32 : Int)) != (0 : Int))) = false) (h3p : ((Int.tmod (↑(List.length a) : Int) (32 : Int)) = (0 : Int))) (s4 : List Int × Int) (h4 : pSplit (a) = some s4) (s5 : List Int × Int) (h5 : pSplit (b) = some s5) (s6 : List Int × Int) (h6 : pSplit ((a ++ b)) = some s6) (h7 : ((s5.2 != (0 : Int))) = false) (h7p : (s5.2 = (0 : Int))) (h8 : (s0) = true) (h9 : ((s4.2 == (0 : Int))) = true) (h9p : (s4.2 = (0 : Int))) (h10 : ((s6.2 == (0 : Int))) = true) (h10p : (s6.2 = (0 : Int))) (s11 : Int) (h11 : sum (s6.1) ((0 : Int)) = some s11) (s12 : Int) (h12 : sum (s4.1) ((0 : Int)) = some s12) (s13 : Int) (h13 : sum (s5.1) ((0 : Int)) = some s13) (h14 : ((s11 == (wr (s12 + s13)))) = true) (h14p : (s11 = (wr (s12 + s13)))) (s15 : Int) (h15 : sum (s6.1) ((1 : Int)) = some s15) (s16 : Int) (h16 : sum (s4.1) ((1 : Int)) = some s16) (s17 : Int) (h17 : sum (s5.1) ((1 : Int)) = some s17) (h18 : ((s15 == (wr (s16 + s17)))) = true) (h18p : (s15 = (wr (s16 + s17)))) : lZerosRuns_G a b ((decide ((↑(List.length s6.1) : Int) ≤ (wr ((wr ((↑(List.length s4.1) : Int) + (↑(List.length s5.1) : Int))) + (1 : Int)))))) :=
  leafR vw_eq (k := 300) (r := []) (hs := hz [(2, [.fres (.b (s0))]), (5, [.no]), (1, [.no]), (1, [.no]), (1, [.no]), (1, [.no]), (1, [.no]), (1, [.no]), (1, [.no]), (1, [.no, .no]), (2, [.fres (.tu [ints (s4.1), .i (s4.2)])]), (7, [.fres (.tu [ints (s5.1), .i (s5.2)])]), (7, [.yes, .yes]), (1, [.yes, .yes]), (1, [.yes, .yes, .fres (.tu [ints (s6.1), .i (s6.2)])]), (7, [.no]), (2, [.yes]), (1, [.yes]), (1, [.yes]), (1, [.yes]), (1, [.yes]), (1, [.yes]), (1, [.yes]), (1, [.yes]), (1, [.fres (.i (s11)), .yes]), (1, [.yes]), (1, [.fres (.i (s12)), .yes]), (1, [.yes]), (1, [.fres (.i (s13)), .yes]), (1, [.yes]), (1, [.yes]), (1, [.yes]), (1, [.yes]), (1, [.fres (.i (s15)), .yes]), (1, [.yes]), (1, [.fres (.i (s16)), .yes]), (1, [.yes]), (1, [.fres (.i (s17)), .yes]), (1, [.yes]), (1, [.yes]), (1, [.yes]), (1, [.yes]), (1, [.yes]), (1, [.yes]), (1, [.yes]), (1, [.yes]), (1, [.yes]), (1, [.yes]), (1, [.yes]), (1, [.yes]), (1, [])]) (raw := (AV.b (decide ((↑(List.length s6.1) : Int) ≤ (wr ((wr ((↑(List.length s4.1) : Int) + (↑(List.length s5.1) : Int))) + (1 : Int))))))) (ps := [EvFr Try.prog cf Bool.false 7 ([] : List AV) (.b (s0)), ((decide ((↑(List.length a) : Int) > (5000 : Int)))) = false, ((decide ((↑(List.length a) : Int) > (5000 : Int)))) = false, ((decide ((↑(List.length a) : Int) > (5000 : Int)))) = false, ((decide ((↑(List.length a) : Int) > (5000 : Int)))) = false, ((decide ((↑(List.length b) : Int) > (5000 : Int)))) = false, ((decide ((↑(List.length b) : Int) > (5000 : Int)))) = false, ((decide ((↑(List.length b) : Int) > (5000 : Int)))) = false, ((decide ((↑(List.length b) : Int) > (5000 : Int)))) = false, ((decide ((↑(List.length b) : Int) > (5000 : Int)))) = false, (((Int.tmod (↑(List.length a) : Int) (32 : Int)) != (0 : Int))) = false, EvFr Try.prog cf Bool.false 9 [(AV.sl (List.length a) (List.map AV.y a))] (.tu [ints (s4.1), .i (s4.2)]), EvFr Try.prog cf Bool.false 9 [(AV.sl (List.length b) (List.map AV.y b))] (.tu [ints (s5.1), .i (s5.2)]), ((List.length (List.map AV.y a)) = ((List.length a) * (1 : Nat))), ((List.length a) ≤ (4294967296 : Nat)), ((List.length (List.map AV.y b)) = ((List.length b) * (1 : Nat))), (((List.length (List.map AV.y a)) = ((List.length a) * (1 : Nat))) ∧ (((List.length a) + (List.length b)) ≤ (4294967296 : Nat))), (((0 : Nat) = (0 : Nat)) ∧ ((List.length ((List.map AV.y a) ++ (List.map AV.y b))) = (((List.length a) + (List.length b)) * (1 : Nat)))), Pl Bool.false (((List.map AV.y a) ++ (List.map AV.y b))), EvFr Try.prog cf Bool.true 9 [(AV.sl ((List.length a) + (List.length b)) ((List.map AV.y a) ++ (List.map AV.y b)))] (.tu [ints (s6.1), .i (s6.2)]), ((s5.2 != (0 : Int))) = false, (s0) = true, (s0) = true, (s0) = true, ((s4.2 == (0 : Int))) = true, ((s4.2 == (0 : Int))) = true, ((s4.2 == (0 : Int))) = true, ((s6.2 == (0 : Int))) = true, ((s6.2 == (0 : Int))) = true, EvFr Try.prog cf Bool.false 19 [(AV.sl (List.length s6.1) (List.map AV.i s6.1)), (AV.i 0)] (.i (s11)), ((s6.2 == (0 : Int))) = true, ((s6.2 == (0 : Int))) = true, EvFr Try.prog cf Bool.false 19 [(AV.sl (List.length s4.1) (List.map AV.i s4.1)), (AV.i 0)] (.i (s12)), ((s6.2 == (0 : Int))) = true, ((s6.2 == (0 : Int))) = true, EvFr Try.prog cf Bool.false 19 [(AV.sl (List.length s5.1) (List.map AV.i s5.1)), (AV.i 0)] (.i (s13)), ((s6.2 == (0 : Int))) = true, ((s6.2 == (0 : Int))) = true, ((s6.2 == (0 : Int))) = true, ((s11 == (wr (s12 + s13)))) = true, ((s11 == (wr (s12 + s13)))) = true, EvFr Try.prog cf Bool.false 19 [(AV.sl (List.length s6.1) (List.map AV.i s6.1)), (AV.i 1)] (.i (s15)), ((s11 == (wr (s12 + s13)))) = true, ((s11 == (wr (s12 + s13)))) = true, EvFr Try.prog cf Bool.false 19 [(AV.sl (List.length s4.1) (List.map AV.i s4.1)), (AV.i 1)] (.i (s16)), ((s11 == (wr (s12 + s13)))) = true, ((s11 == (wr (s12 + s13)))) = true, EvFr Try.prog cf Bool.false 19 [(AV.sl (List.length s5.1) (List.map AV.i s5.1)), (AV.i 1)] (.i (s17)), ((s11 == (wr (s12 + s13)))) = true, ((s11 == (wr (s12 + s13)))) = true, ((s11 == (wr (s12 + s13)))) = true, ((s15 == (wr (s16 + s17)))) = true, ((s15 == (wr (s16 + s17)))) = true, ((s15 == (wr (s16 + s17)))) = true, ((s15 == (wr (s16 + s17)))) = true, ((s15 == (wr (s16 + s17)))) = true, ((s15 == (wr (s16 + s17)))) = true, ((s15 == (wr (s16 + s17)))) = true, ((s15 == (wr (s16 + s17)))) = true, ((s15 == (wr (s16 + s17)))) = true, ((s15 == (wr (s16 + s17)))) = true]) (by kernel_rfl) ⟨((aw15_ok  _ h0).any.cast tq), h1, h1, h1, h1, h2, h2, h2, h2, h2, h3, ((pSplit_ok (a) _ h4).any.cast tq), ((pSplit_ok (b) _ h5).any.cast tq), tq, fq, tq, fq, tq, pq, ((pSplit_ok ((a ++ b)) _ h6).any.cast tq), h7, h8, h8, h8, h9, h9, h9, h10, h10, ((sum_ok (s6.1) ((0 : Int)) _ h11).any.cast tq), h10, h10, ((sum_ok (s4.1) ((0 : Int)) _ h12).any.cast tq), h10, h10, ((sum_ok (s5.1) ((0 : Int)) _ h13).any.cast tq), h10, h10, h10, h14, h14, ((sum_ok (s6.1) ((1 : Int)) _ h15).any.cast tq), h14, h14, ((sum_ok (s4.1) ((1 : Int)) _ h16).any.cast tq), h14, h14, ((sum_ok (s5.1) ((1 : Int)) _ h17).any.cast tq), h14, h14, h14, h18, h18, h18, h18, h18, h18, h18, h18, h18, h18, trivial⟩ tq
theorem lZerosRuns_ok (a : List UInt8) (b : List UInt8) (r : Bool) : lZerosRuns a b = some r → lZerosRuns_G a b r := by
  unfold lZerosRuns
  refine tc_ok (fun s0 h0 => ?_)
  refine tb_ok (fun h1 => ?_) (fun h1 => ?_)
  ·
    have h1p := of_decide_eq_true h1
    exact fun e => tl_ok (G := lZerosRuns_G a b) (lZerosRuns_l0 a b s0 h0 h1 h1p) e
  ·
    have h1p := of_decide_eq_false h1
    refine tb_ok (fun h2 => ?_) (fun h2 => ?_)
    ·
      have h2p := of_decide_eq_true h2
      exact fun e => tl_ok (G := lZerosRuns_G a b) (lZerosRuns_l1 a b s0 h0 h1 h1p h2 h2p) e
    ·
      have h2p := of_decide_eq_false h2
      refine tb_ok (fun h3 => ?_) (fun h3 => ?_)
      ·
        have h3p := bne_iff_ne.1 h3
        exact fun e => tl_ok (G := lZerosRuns_G a b) (lZerosRuns_l2 a b s0 h0 h1 h1p h2 h2p h3 h3p) e
      ·
        have h3p := bne_eq_false_iff_eq.1 h3
        refine tc_ok (fun s4 h4 => ?_)
        refine tc_ok (fun s5 h5 => ?_)
        refine tc_ok (fun s6 h6 => ?_)
        refine tb_ok (fun h7 => ?_) (fun h7 => ?_)
        ·
          have h7p := bne_iff_ne.1 h7
          refine tb_ok (fun h8 => ?_) (fun h8 => ?_)
          ·
            refine tb_ok (fun h9 => ?_) (fun h9 => ?_)
            ·
              have h9p := eq_of_beq h9
              exact fun e => tl_ok (G := lZerosRuns_G a b) (lZerosRuns_l3 a b s0 h0 h1 h1p h2 h2p h3 h3p s4 h4 s5 h5 s6 h6 h7 h7p h8 h9 h9p) e
            ·
              have h9p := ne_of_beq_false h9
              exact fun e => nomatch e
          ·
            exact fun e => nomatch e
        ·
          have h7p := bne_eq_false_iff_eq.1 h7
          refine tb_ok (fun h8 => ?_) (fun h8 => ?_)
          ·
            refine tb_ok (fun h9 => ?_) (fun h9 => ?_)
            ·
              have h9p := eq_of_beq h9
              refine tb_ok (fun h10 => ?_) (fun h10 => ?_)
              ·
                have h10p := eq_of_beq h10
                refine tc_ok (fun s11 h11 => ?_)
                refine tc_ok (fun s12 h12 => ?_)
                refine tc_ok (fun s13 h13 => ?_)
                refine tb_ok (fun h14 => ?_) (fun h14 => ?_)
                ·
                  have h14p := eq_of_beq h14
                  refine tc_ok (fun s15 h15 => ?_)
                  refine tc_ok (fun s16 h16 => ?_)
                  refine tc_ok (fun s17 h17 => ?_)
                  refine tb_ok (fun h18 => ?_) (fun h18 => ?_)
                  ·
                    have h18p := eq_of_beq h18
                    exact fun e => tl_ok (G := lZerosRuns_G a b) (lZerosRuns_l4 a b s0 h0 h1 h1p h2 h2p h3 h3p s4 h4 s5 h5 s6 h6 h7 h7p h8 h9 h9p h10 h10p s11 h11 s12 h12 s13 h13 h14 h14p s15 h15 s16 h16 s17 h17 h18 h18p) e
                  ·
                    have h18p := ne_of_beq_false h18
                    exact fun e => nomatch e
                ·
                  have h14p := ne_of_beq_false h14
                  exact fun e => nomatch e
              ·
                have h10p := ne_of_beq_false h10
                exact fun e => nomatch e
            ·
              have h9p := ne_of_beq_false h9
              exact fun e => nomatch e
          ·
            exact fun e => nomatch e
end Ab
end Go.Proofs.Ytiaelfmohamipaa
