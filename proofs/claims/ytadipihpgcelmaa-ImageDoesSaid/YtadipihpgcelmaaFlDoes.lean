/- Functions, as they answer: printed by a program of this repo, out of the program's form; each with its proof. -/
import Derived.Test.YtadipihpgcelmaaRows
import Derived.Test.YtadipihpgcelmaaAbsY
import Derived.Test.YtadipihpgcelmaaShr
import Derived.Test.YtadipihpgcelmaaTab
import Derived.Test.YtadipihpgcelmaaFnA
import Derived.Test.YtadipihpgcelmaaFnC
import Derived.Test.YtadipihpgcelmaaFnAw
namespace Go.Proofs.Ytadipihpgcelmaa
open Go Go.Proofs.Ytadipihpgcelmaa.Ab
set_option linter.unusedVariables false
set_option linter.unusedSimpArgs false
set_option maxRecDepth 1000000
namespace Ab
/-- Function 4, as it answers. -/
noncomputable def lImageDoes (l : List Ce) (lba : Int) (n : Int) (kind : Int) (gen : Int) (b : List UInt8) : Option (Bool) :=
 (tc (aw9) fun s0 =>
  (tb ((decide ((↑(List.length l) : Int) > (100 : Int))))
   (some (s0))
   (tb ((decide ((↑(List.length b) : Int) > (3000 : Int))))
    (some (s0))
    (tc (iFill (l) (lba) (n) (kind) (gen)) fun s3 =>
     (tc (r9Fill (l) (lba) (n) (kind) (gen)) fun s4 =>
      (tc (iWrite (l) (lba) (gen) (b)) fun s5 =>
       (tc (r9Write (l) (lba) (gen) (b)) fun s6 =>
        (tc (iRead (l) (lba) (n)) fun s7 =>
         (tc (r9Read (l) (lba) (n)) fun s8 =>
          (tc (r9Same (s3.1) (s4.1)) fun s9 =>
           (tb (s9)
            (tc (r9Same (s5.1) (s6.1)) fun s11 =>
             (tb (s0)
              (tb (s11)
               (tb ((s3.2 == s4.2))
                (tb ((s5.2 == s6.2))
                 (tb ((s7.1 == s8.1))
                  (some ((s7.2 == s8.2)))
                  none /- false -/)
                 none /- false -/)
                none /- false -/)
               none /- false -/)
              none /- false -/))
            none /- false -/)))))))))))
abbrev lImageDoes_G (l : List Ce) (lba : Int) (n : Int) (kind : Int) (gen : Int) (b : List UInt8) (r : Bool) : Prop := EvFr Try.prog cf false 4 [ces (l), .i (lba), .i (n), .i (kind), .i (gen), bys (b)] (.b (r))
theorem lImageDoes_l0 (l : List Ce) (lba : Int) (n : Int) (kind : Int) (gen : Int) (b : List UInt8) (s0 : Bool) (h0 : aw9 = some s0) (h1 : ((decide ((↑(List.length l) : Int) > (100 : Int)))) = true) (h1p : ((↑(List.length l) : Int) > (100 : Int))) : lImageDoes_G l lba n kind gen b (s0) :=
  leafR vw_eq (k := 300) (r := []) (hs := hz [(2, [.fres (.b (s0))]), (5, [.yes, .yes, .yes, .yes]), (3, [])]) (raw := (AV.b s0)) (ps := [EvFr Try.prog cf Bool.false 9 ([] : List AV) (.b (s0)), ((decide ((↑(List.length l) : Int) > (100 : Int)))) = true, ((decide ((↑(List.length l) : Int) > (100 : Int)))) = true, ((decide ((↑(List.length l) : Int) > (100 : Int)))) = true, ((decide ((↑(List.length l) : Int) > (100 : Int)))) = true]) kq ⟨((aw9_ok  _ h0).any.cast tq), h1, h1, h1, h1, trivial⟩ tq
theorem lImageDoes_l1 (l : List Ce) (lba : Int) (n : Int) (kind : Int) (gen : Int) (b : List UInt8) (s0 : Bool) (h0 : aw9 = some s0) (h1 : ((decide ((↑(List.length l) : Int) > (100 : Int)))) = false) (h1p : ¬ ((↑(List.length l) : Int) > (100 : Int))) (h2 : ((decide ((↑(List.length b) : Int) > (3000 : Int)))) = true) (h2p : ((↑(List.length b) : Int) > (3000 : Int))) : lImageDoes_G l lba n kind gen b (s0) :=
  leafR vw_eq (k := 300) (r := []) (hs := hz [(2, [.fres (.b (s0))]), (5, [.no]), (1, [.no]), (1, [.no]), (1, [.no, .yes]), (2, [])]) (raw := (AV.b s0)) (ps := [EvFr Try.prog cf Bool.false 9 ([] : List AV) (.b (s0)), ((decide ((↑(List.length l) : Int) > (100 : Int)))) = false, ((decide ((↑(List.length l) : Int) > (100 : Int)))) = false, ((decide ((↑(List.length l) : Int) > (100 : Int)))) = false, ((decide ((↑(List.length l) : Int) > (100 : Int)))) = false, ((decide ((↑(List.length b) : Int) > (3000 : Int)))) = true]) kq ⟨((aw9_ok  _ h0).any.cast tq), h1, h1, h1, h1, h2, trivial⟩ tq
theorem lImageDoes_l2 (l : List Ce) (lba : Int) (n : Int) (kind : Int) (gen : Int) (b : List UInt8) (s0 : Bool) (h0 : aw9 = some s0) (h1 : ((decide ((↑(List.length l) : Int) > (100 : Int)))) = false) (h1p : ¬ ((↑(List.length l) : Int) > (100 : Int))) (h2 : ((decide ((↑(List.length b) : Int) > (3000 : Int)))) = false) (h2p : ¬ ((↑(List.length b) : Int) > (3000 : Int))) (s3 : List Ce × Int) (h3 : iFill (l) (lba) (n) (kind) (gen) = some s3) (s4 : List Ce × Int) (h4 : r9Fill (l) (lba) (n) (kind) (gen) = some s4) (s5 : List Ce × Int) (h5 : iWrite (l) (lba) (gen) (b) = some s5) (s6 : List Ce × Int) (h6 : r9Write (l) (lba) (gen) (b) = some s6) (s7 : List UInt8 × Int) (h7 : iRead (l) (lba) (n) = some s7) (s8 : List UInt8 × Int) (h8 : r9Read (l) (lba) (n) = some s8) (s9 : Bool) (h9 : r9Same (s3.1) (s4.1) = some s9) (h10 : (s9) = true) (s11 : Bool) (h11 : r9Same (s5.1) (s6.1) = some s11) (h12 : (s0) = true) (h13 : (s11) = true) (h14 : ((s3.2 == s4.2)) = true) (h14p : (s3.2 = s4.2)) (h15 : ((s5.2 == s6.2)) = true) (h15p : (s5.2 = s6.2)) (h16 : ((s7.1 == s8.1)) = true) : lImageDoes_G l lba n kind gen b ((s7.2 == s8.2)) :=
  leafR vw_eq (k := 300) (r := []) (hs := hz [(2, [.fres (.b (s0))]), (5, [.no]), (1, [.no]), (1, [.no]), (1, [.no, .no]), (6, [.fres (.tu [ces (s3.1), .i (s3.2)])]), (11, [.fres (.tu [ces (s4.1), .i (s4.2)])]), (10, [.fres (.tu [ces (s5.1), .i (s5.2)])]), (10, [.fres (.tu [ces (s6.1), .i (s6.2)])]), (9, [.fres (.tu [bys (s7.1), .i (s7.2)])]), (9, [.fres (.tu [bys (s8.1), .i (s8.2)])]), (8, [.fres (.b (s9))]), (1, [.yes]), (1, [.yes]), (1, [.yes]), (1, [.fres (.b (s11)), .yes]), (3, [.yes]), (1, [.yes]), (1, [.yes]), (1, [.yes]), (1, [.yes]), (1, [.yes]), (1, [.yes]), (1, [.yes]), (1, [.yes]), (1, [.yes]), (1, [.yes]), (1, [.yes, .yes, .str (s7.1), .yes]), (1, [.yes, .yes, .str (s8.1), .yes]), (1, [.yes]), (1, [.yes]), (1, [.yes]), (1, [.yes]), (1, [.yes]), (1, [])]) (raw := (AV.b (s7.2 == s8.2))) (ps := [EvFr Try.prog cf Bool.false 9 ([] : List AV) (.b (s0)), ((decide ((↑(List.length l) : Int) > (100 : Int)))) = false, ((decide ((↑(List.length l) : Int) > (100 : Int)))) = false, ((decide ((↑(List.length l) : Int) > (100 : Int)))) = false, ((decide ((↑(List.length l) : Int) > (100 : Int)))) = false, ((decide ((↑(List.length b) : Int) > (3000 : Int)))) = false, EvFr Try.prog cf Bool.false 21 [(AV.sl (List.length l) (List.flatMap Ce.cells l)), (AV.i lba), (AV.i n), (AV.i kind), (AV.i gen)] (.tu [ces (s3.1), .i (s3.2)]), EvFr Try.prog cf Bool.false 22 [(AV.sl (List.length l) (List.flatMap Ce.cells l)), (AV.i lba), (AV.i n), (AV.i kind), (AV.i gen)] (.tu [ces (s4.1), .i (s4.2)]), EvFr Try.prog cf Bool.false 23 [(AV.sl (List.length l) (List.flatMap Ce.cells l)), (AV.i lba), (AV.i gen), (AV.sl (List.length b) (List.map AV.y b))] (.tu [ces (s5.1), .i (s5.2)]), EvFr Try.prog cf Bool.false 24 [(AV.sl (List.length l) (List.flatMap Ce.cells l)), (AV.i lba), (AV.i gen), (AV.sl (List.length b) (List.map AV.y b))] (.tu [ces (s6.1), .i (s6.2)]), EvFr Try.prog cf Bool.false 25 [(AV.sl (List.length l) (List.flatMap Ce.cells l)), (AV.i lba), (AV.i n)] (.tu [bys (s7.1), .i (s7.2)]), EvFr Try.prog cf Bool.false 26 [(AV.sl (List.length l) (List.flatMap Ce.cells l)), (AV.i lba), (AV.i n)] (.tu [bys (s8.1), .i (s8.2)]), EvFr Try.prog cf Bool.false 15 [(AV.sl (List.length s3.1) (List.flatMap Ce.cells s3.1)), (AV.sl (List.length s4.1) (List.flatMap Ce.cells s4.1))] (.b (s9)), (s9) = true, (s9) = true, (s9) = true, EvFr Try.prog cf Bool.false 15 [(AV.sl (List.length s5.1) (List.flatMap Ce.cells s5.1)), (AV.sl (List.length s6.1) (List.flatMap Ce.cells s6.1))] (.b (s11)), (s9) = true, (s0) = true, (s0) = true, (s11) = true, (s11) = true, (s11) = true, (s11) = true, ((s3.2 == s4.2)) = true, ((s3.2 == s4.2)) = true, ((s3.2 == s4.2)) = true, ((s3.2 == s4.2)) = true, ((s5.2 == s6.2)) = true, ((s5.2 == s6.2)) = true, ((List.length (List.map AV.y s7.1)) = ((List.length s7.1) * (1 : Nat))), bytesOf ((List.map AV.y s7.1)) = some (s7.1), ((s5.2 == s6.2)) = true, ((s5.2 == s6.2)) = true, ((List.length (List.map AV.y s8.1)) = ((List.length s8.1) * (1 : Nat))), bytesOf ((List.map AV.y s8.1)) = some (s8.1), ((s5.2 == s6.2)) = true, ((s5.2 == s6.2)) = true, ((s7.1 == s8.1)) = true, ((s7.1 == s8.1)) = true, ((s7.1 == s8.1)) = true, ((s7.1 == s8.1)) = true]) kq ⟨((aw9_ok  _ h0).any.cast tq), h1, h1, h1, h1, h2, ((iFill_ok (l) (lba) (n) (kind) (gen) _ h3).any.cast tq), ((r9Fill_ok (l) (lba) (n) (kind) (gen) _ h4).any.cast tq), ((iWrite_ok (l) (lba) (gen) (b) _ h5).any.cast tq), ((r9Write_ok (l) (lba) (gen) (b) _ h6).any.cast tq), ((iRead_ok (l) (lba) (n) _ h7).any.cast tq), ((r9Read_ok (l) (lba) (n) _ h8).any.cast tq), ((r9Same_ok (s3.1) (s4.1) _ h9).any.cast tq), h10, h10, h10, ((r9Same_ok (s5.1) (s6.1) _ h11).any.cast tq), h10, h12, h12, h13, h13, h13, h13, h14, h14, h14, h14, h15, h15, tq, tq, h15, h15, tq, tq, h15, h15, h16, h16, h16, h16, trivial⟩ tq
theorem lImageDoes_ok (l : List Ce) (lba : Int) (n : Int) (kind : Int) (gen : Int) (b : List UInt8) (r : Bool) : lImageDoes l lba n kind gen b = some r → lImageDoes_G l lba n kind gen b r := by
  unfold lImageDoes
  refine tc_ok (fun s0 h0 => ?_)
  refine tb_ok (fun h1 => ?_) (fun h1 => ?_)
  ·
    have h1p := of_decide_eq_true h1
    exact fun e => tl_ok (G := lImageDoes_G l lba n kind gen b) (lImageDoes_l0 l lba n kind gen b s0 h0 h1 h1p) e
  ·
    have h1p := of_decide_eq_false h1
    refine tb_ok (fun h2 => ?_) (fun h2 => ?_)
    ·
      have h2p := of_decide_eq_true h2
      exact fun e => tl_ok (G := lImageDoes_G l lba n kind gen b) (lImageDoes_l1 l lba n kind gen b s0 h0 h1 h1p h2 h2p) e
    ·
      have h2p := of_decide_eq_false h2
      refine tc_ok (fun s3 h3 => ?_)
      refine tc_ok (fun s4 h4 => ?_)
      refine tc_ok (fun s5 h5 => ?_)
      refine tc_ok (fun s6 h6 => ?_)
      refine tc_ok (fun s7 h7 => ?_)
      refine tc_ok (fun s8 h8 => ?_)
      refine tc_ok (fun s9 h9 => ?_)
      refine tb_ok (fun h10 => ?_) (fun h10 => ?_)
      ·
        refine tc_ok (fun s11 h11 => ?_)
        refine tb_ok (fun h12 => ?_) (fun h12 => ?_)
        ·
          refine tb_ok (fun h13 => ?_) (fun h13 => ?_)
          ·
            refine tb_ok (fun h14 => ?_) (fun h14 => ?_)
            ·
              have h14p := eq_of_beq h14
              refine tb_ok (fun h15 => ?_) (fun h15 => ?_)
              ·
                have h15p := eq_of_beq h15
                refine tb_ok (fun h16 => ?_) (fun h16 => ?_)
                ·
                  exact fun e => tl_ok (G := lImageDoes_G l lba n kind gen b) (lImageDoes_l2 l lba n kind gen b s0 h0 h1 h1p h2 h2p s3 h3 s4 h4 s5 h5 s6 h6 s7 h7 s8 h8 s9 h9 h10 s11 h11 h12 h13 h14 h14p h15 h15p h16) e
                ·
                  exact fun e => nomatch e
              ·
                have h15p := ne_of_beq_false h15
                exact fun e => nomatch e
            ·
              have h14p := ne_of_beq_false h14
              exact fun e => nomatch e
          ·
            exact fun e => nomatch e
        ·
          exact fun e => nomatch e
      ·
        exact fun e => nomatch e
end Ab
end Go.Proofs.Ytadipihpgcelmaa
