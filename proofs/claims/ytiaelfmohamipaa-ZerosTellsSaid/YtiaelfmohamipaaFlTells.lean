/- Functions, as they answer: printed by a program of this repo, out of the program's form; each with its proof. -/
import Derived.Test.YtiaelfmohamipaaRows
import Derived.Test.YtiaelfmohamipaaAbsY
import Derived.Test.YtiaelfmohamipaaTab
import Derived.Test.YtiaelfmohamipaaFnA
import Derived.Test.YtiaelfmohamipaaFnZ
import Derived.Test.YtiaelfmohamipaaFnB
import Derived.Test.YtiaelfmohamipaaFnC
import Derived.Test.YtiaelfmohamipaaFnD
import Derived.Test.YtiaelfmohamipaaFnE
import Derived.Test.YtiaelfmohamipaaFnAw
namespace Go.Proofs.Ytiaelfmohamipaa
open Go Go.Proofs.Ytiaelfmohamipaa.Ab
set_option linter.unusedVariables false
set_option linter.unusedSimpArgs false
set_option maxRecDepth 1000000
namespace Ab
/-- Function 3, as it answers. -/
noncomputable def lZerosTells (b : List UInt8) (lba : Int) (l : List Ex) : Option (Bool) :=
 (tc (aw15) fun s0 =>
  (tb ((decide ((↑(List.length b) : Int) > (5000 : Int))))
   (some (s0))
   (tc (few (l)) fun s2 =>
    (tb ((!s2))
     (some (s0))
     (tc (pSplit (b)) fun s4 =>
      (tc (rSplit (b)) fun s5 =>
       (tc (pLay (lba) (b)) fun s6 =>
        (tc (rLay (lba) (b)) fun s7 =>
         (tc (pPack (l)) fun s8 =>
          (tc (rPack (l)) fun s9 =>
           (tc (numbers (s4.1) (s5.1)) fun s10 =>
            (tb (s10)
             (tp ((((0 : Nat) = (0 : Nat)) ∧ ((List.length (List.flatMap Ex.cells s6.1)) = ((List.length s6.1) * (5 : Nat)))))
              (tc (r7All (s6.1) (s7.1)) fun s13 =>
               (tb (s13)
                (tc (r7All (s8.1) (s9.1)) fun s15 =>
                 (tb (s0)
                  (tc (pIs (b)) fun s17 =>
                   (tc (rIs (b)) fun s18 =>
                    (tb ((s17 == s18))
                     (tb (s15)
                      (tb ((s4.2 == s5.2))
                       (tb ((s6.2 == s7.2))
                        (some ((s8.2 == s9.2)))
                        none /- false -/)
                       none /- false -/)
                      none /- false -/)
                     none /- false -/)))
                  none /- false -/))
                none /- false -/)))
             none /- false -/))))))))))))
abbrev lZerosTells_G (b : List UInt8) (lba : Int) (l : List Ex) (r : Bool) : Prop := EvFr Try.prog cf false 3 [bys (b), .i (lba), exs (l)] (.b (r))
theorem lZerosTells_l0 (b : List UInt8) (lba : Int) (l : List Ex) (s0 : Bool) (h0 : aw15 = some s0) (h1 : ((decide ((↑(List.length b) : Int) > (5000 : Int)))) = true) (h1p : ((↑(List.length b) : Int) > (5000 : Int))) : lZerosTells_G b lba l (s0) :=
  leafR vw_eq (k := 300) (r := []) (hs := hz [(2, [.fres (.b (s0))]), (5, [.yes, .yes, .yes, .yes]), (3, [])]) (raw := (AV.b s0)) (ps := [EvFr Try.prog cf Bool.false 7 ([] : List AV) (.b (s0)), ((decide ((↑(List.length b) : Int) > (5000 : Int)))) = true, ((decide ((↑(List.length b) : Int) > (5000 : Int)))) = true, ((decide ((↑(List.length b) : Int) > (5000 : Int)))) = true, ((decide ((↑(List.length b) : Int) > (5000 : Int)))) = true]) (by kernel_rfl) ⟨((aw15_ok  _ h0).any.cast tq), h1, h1, h1, h1, trivial⟩ tq
theorem lZerosTells_l1 (b : List UInt8) (lba : Int) (l : List Ex) (s0 : Bool) (h0 : aw15 = some s0) (h1 : ((decide ((↑(List.length b) : Int) > (5000 : Int)))) = false) (h1p : ¬ ((↑(List.length b) : Int) > (5000 : Int))) (s2 : Bool) (h2 : few (l) = some s2) (h3 : ((!s2)) = true) : lZerosTells_G b lba l (s0) :=
  leafR vw_eq (k := 300) (r := []) (hs := hz [(2, [.fres (.b (s0))]), (5, [.no]), (1, [.no]), (1, [.fres (.b (s2)), .no]), (1, [.no, .yes]), (2, [])]) (raw := (AV.b s0)) (ps := [EvFr Try.prog cf Bool.false 7 ([] : List AV) (.b (s0)), ((decide ((↑(List.length b) : Int) > (5000 : Int)))) = false, ((decide ((↑(List.length b) : Int) > (5000 : Int)))) = false, EvFr Try.prog cf Bool.false 8 [(AV.sl (List.length l) (List.flatMap Ex.cells l))] (.b (s2)), ((decide ((↑(List.length b) : Int) > (5000 : Int)))) = false, ((decide ((↑(List.length b) : Int) > (5000 : Int)))) = false, ((!s2)) = true]) (by kernel_rfl) ⟨((aw15_ok  _ h0).any.cast tq), h1, h1, ((few_ok (l) _ h2).any.cast tq), h1, h1, h3, trivial⟩ tq
theorem lZerosTells_l2 (b : List UInt8) (lba : Int) (l : List Ex) (s0 : Bool) (h0 : aw15 = some s0) (h1 : ((decide ((↑(List.length b) : Int) > (5000 : Int)))) = false) (h1p : ¬ ((↑(List.length b) : Int) > (5000 : Int))) (s2 : Bool) (h2 : few (l) = some s2) (h3 : ((!s2)) = false) (s4 : List Int × Int) (h4 : pSplit (b) = some s4) (s5 : List Int × Int) (h5 : rSplit (b) = some s5) (s6 : List Ex × Int) (h6 : pLay (lba) (b) = some s6) (s7 : List Ex × Int) (h7 : rLay (lba) (b) = some s7) (s8 : List Ex × Int) (h8 : pPack (l) = some s8) (s9 : List Ex × Int) (h9 : rPack (l) = some s9) (s10 : Bool) (h10 : numbers (s4.1) (s5.1) = some s10) (h11 : (s10) = true) (h12 : (((0 : Nat) = (0 : Nat)) ∧ ((List.length (List.flatMap Ex.cells s6.1)) = ((List.length s6.1) * (5 : Nat))))) (s13 : Bool) (h13 : r7All (s6.1) (s7.1) = some s13) (h14 : (s13) = true) (s15 : Bool) (h15 : r7All (s8.1) (s9.1) = some s15) (h16 : (s0) = true) (s17 : Bool) (h17 : pIs (b) = some s17) (s18 : Bool) (h18 : rIs (b) = some s18) (h19 : ((s17 == s18)) = true) (h20 : (s15) = true) (h21 : ((s4.2 == s5.2)) = true) (h21p : (s4.2 = s5.2)) (h22 : ((s6.2 == s7.2)) = true) (h22p : (s6.2 = s7.2)) : lZerosTells_G b lba l ((s8.2 == s9.2)) :=
  leafR vw_eq (k := 300) (r := []) (hs := hz [(2, [.fres (.b (s0))]), (5, [.no]), (1, [.no]), (1, [.fres (.b (s2)), .no]), (1, [.no, .no]), (2, [.fres (.tu [ints (s4.1), .i (s4.2)])]), (7, [.fres (.tu [ints (s5.1), .i (s5.2)])]), (8, [.fres (.tu [exs (s6.1), .i (s6.2)])]), (8, [.fres (.tu [exs (s7.1), .i (s7.2)])]), (7, [.fres (.tu [exs (s8.1), .i (s8.2)])]), (7, [.fres (.tu [exs (s9.1), .i (s9.2)])]), (8, [.fres (.b (s10))]), (1, [.yes]), (1, [.yes]), (1, [.yes]), (1, [.yes, .yes, .yes, .yes, .fres (.b (s13)), .yes]), (1, [.yes]), (1, [.yes]), (1, [.yes]), (1, [.fres (.b (s15)), .yes]), (3, [.yes]), (1, [.yes]), (1, [.fres (.b (s17)), .yes]), (1, [.yes]), (1, [.fres (.b (s18)), .yes]), (1, [.yes]), (1, [.yes]), (1, [.yes]), (1, [.yes]), (1, [.yes]), (1, [.yes]), (1, [.yes]), (1, [.yes]), (1, [.yes]), (1, [.yes]), (1, [.yes]), (1, [.yes]), (1, [.yes]), (1, [.yes]), (1, [.yes]), (1, [])]) (raw := (AV.b (s8.2 == s9.2))) (ps := [EvFr Try.prog cf Bool.false 7 ([] : List AV) (.b (s0)), ((decide ((↑(List.length b) : Int) > (5000 : Int)))) = false, ((decide ((↑(List.length b) : Int) > (5000 : Int)))) = false, EvFr Try.prog cf Bool.false 8 [(AV.sl (List.length l) (List.flatMap Ex.cells l))] (.b (s2)), ((decide ((↑(List.length b) : Int) > (5000 : Int)))) = false, ((decide ((↑(List.length b) : Int) > (5000 : Int)))) = false, ((!s2)) = false, EvFr Try.prog cf Bool.false 9 [(AV.sl (List.length b) (List.map AV.y b))] (.tu [ints (s4.1), .i (s4.2)]), EvFr Try.prog cf Bool.false 10 [(AV.sl (List.length b) (List.map AV.y b))] (.tu [ints (s5.1), .i (s5.2)]), EvOw Try.prog cf Bool.false [[5], []] 11 [(AV.i lba), (AV.sl (List.length b) (List.map AV.y b))] (.tu [exs (s6.1), .i (s6.2)]), EvOw Try.prog cf Bool.false [[5], []] 12 [(AV.i lba), (AV.sl (List.length b) (List.map AV.y b))] (.tu [exs (s7.1), .i (s7.2)]), EvFr Try.prog cf Bool.false 13 [(AV.sl (List.length l) (List.flatMap Ex.cells l))] (.tu [exs (s8.1), .i (s8.2)]), EvFr Try.prog cf Bool.false 14 [(AV.sl (List.length l) (List.flatMap Ex.cells l))] (.tu [exs (s9.1), .i (s9.2)]), EvFr Try.prog cf Bool.false 15 [(AV.sl (List.length s4.1) (List.map AV.i s4.1)), (AV.sl (List.length s5.1) (List.map AV.i s5.1))] (.b (s10)), (s10) = true, (s10) = true, (s10) = true, (((0 : Nat) = (0 : Nat)) ∧ ((List.length (List.flatMap Ex.cells s6.1)) = ((List.length s6.1) * (5 : Nat)))), Pl Bool.false ((List.flatMap Ex.cells s6.1)), (((0 : Nat) = (0 : Nat)) ∧ ((List.length (List.flatMap Ex.cells s7.1)) = ((List.length s7.1) * (5 : Nat)))), Pl Bool.false ((List.flatMap Ex.cells s7.1)), EvFr Try.prog cf Bool.true 16 [(AV.sl (List.length s6.1) (List.flatMap Ex.cells s6.1)), (AV.sl (List.length s7.1) (List.flatMap Ex.cells s7.1))] (.b (s13)), (s10) = true, (s13) = true, (s13) = true, (s13) = true, EvFr Try.prog cf Bool.false 16 [(AV.sl (List.length s8.1) (List.flatMap Ex.cells s8.1)), (AV.sl (List.length s9.1) (List.flatMap Ex.cells s9.1))] (.b (s15)), (s13) = true, (s0) = true, (s0) = true, EvFr Try.prog cf Bool.false 17 [(AV.sl (List.length b) (List.map AV.y b))] (.b (s17)), (s0) = true, (s0) = true, EvFr Try.prog cf Bool.false 18 [(AV.sl (List.length b) (List.map AV.y b))] (.b (s18)), (s0) = true, (s0) = true, ((s17 == s18)) = true, ((s17 == s18)) = true, (s15) = true, (s15) = true, (s15) = true, (s15) = true, ((s4.2 == s5.2)) = true, ((s4.2 == s5.2)) = true, ((s4.2 == s5.2)) = true, ((s4.2 == s5.2)) = true, ((s6.2 == s7.2)) = true, ((s6.2 == s7.2)) = true, ((s6.2 == s7.2)) = true, ((s6.2 == s7.2)) = true]) (by kernel_rfl) ⟨((aw15_ok  _ h0).any.cast tq), h1, h1, ((few_ok (l) _ h2).any.cast tq), h1, h1, h3, ((pSplit_ok (b) _ h4).any.cast tq), ((rSplit_ok (b) _ h5).any.cast tq), ((pLay_ok (lba) (b) _ h6).cast tq), ((rLay_ok (lba) (b) _ h7).cast tq), ((pPack_ok (l) _ h8).cast tq), ((rPack_ok (l) _ h9).cast tq), ((numbers_ok (s4.1) (s5.1) _ h10).any.cast tq), h11, h11, h11, h12, pq, fq, pq, ((r7All_ok (s6.1) (s7.1) _ h13).any.cast tq), h11, h14, h14, h14, ((r7All_ok (s8.1) (s9.1) _ h15).any.cast tq), h14, h16, h16, ((pIs_ok (b) _ h17).any.cast tq), h16, h16, ((rIs_ok (b) _ h18).any.cast tq), h16, h16, h19, h19, h20, h20, h20, h20, h21, h21, h21, h21, h22, h22, h22, h22, trivial⟩ tq
theorem lZerosTells_ok (b : List UInt8) (lba : Int) (l : List Ex) (r : Bool) : lZerosTells b lba l = some r → lZerosTells_G b lba l r := by
  unfold lZerosTells
  refine tc_ok (fun s0 h0 => ?_)
  refine tb_ok (fun h1 => ?_) (fun h1 => ?_)
  ·
    have h1p := of_decide_eq_true h1
    exact fun e => tl_ok (G := lZerosTells_G b lba l) (lZerosTells_l0 b lba l s0 h0 h1 h1p) e
  ·
    have h1p := of_decide_eq_false h1
    refine tc_ok (fun s2 h2 => ?_)
    refine tb_ok (fun h3 => ?_) (fun h3 => ?_)
    ·
      exact fun e => tl_ok (G := lZerosTells_G b lba l) (lZerosTells_l1 b lba l s0 h0 h1 h1p s2 h2 h3) e
    ·
      refine tc_ok (fun s4 h4 => ?_)
      refine tc_ok (fun s5 h5 => ?_)
      refine tc_ok (fun s6 h6 => ?_)
      refine tc_ok (fun s7 h7 => ?_)
      refine tc_ok (fun s8 h8 => ?_)
      refine tc_ok (fun s9 h9 => ?_)
      refine tc_ok (fun s10 h10 => ?_)
      refine tb_ok (fun h11 => ?_) (fun h11 => ?_)
      ·
        refine tp_ok (fun h12 => ?_)
        refine tc_ok (fun s13 h13 => ?_)
        refine tb_ok (fun h14 => ?_) (fun h14 => ?_)
        ·
          refine tc_ok (fun s15 h15 => ?_)
          refine tb_ok (fun h16 => ?_) (fun h16 => ?_)
          ·
            refine tc_ok (fun s17 h17 => ?_)
            refine tc_ok (fun s18 h18 => ?_)
            refine tb_ok (fun h19 => ?_) (fun h19 => ?_)
            ·
              refine tb_ok (fun h20 => ?_) (fun h20 => ?_)
              ·
                refine tb_ok (fun h21 => ?_) (fun h21 => ?_)
                ·
                  have h21p := eq_of_beq h21
                  refine tb_ok (fun h22 => ?_) (fun h22 => ?_)
                  ·
                    have h22p := eq_of_beq h22
                    exact fun e => tl_ok (G := lZerosTells_G b lba l) (lZerosTells_l2 b lba l s0 h0 h1 h1p s2 h2 h3 s4 h4 s5 h5 s6 h6 s7 h7 s8 h8 s9 h9 s10 h10 h11 h12 s13 h13 h14 s15 h15 h16 s17 h17 s18 h18 h19 h20 h21 h21p h22 h22p) e
                  ·
                    have h22p := ne_of_beq_false h22
                    exact fun e => nomatch e
                ·
                  have h21p := ne_of_beq_false h21
                  exact fun e => nomatch e
              ·
                exact fun e => nomatch e
            ·
              exact fun e => nomatch e
          ·
            exact fun e => nomatch e
        ·
          exact fun e => nomatch e
      ·
        exact fun e => nomatch e
end Ab
end Go.Proofs.Ytiaelfmohamipaa
