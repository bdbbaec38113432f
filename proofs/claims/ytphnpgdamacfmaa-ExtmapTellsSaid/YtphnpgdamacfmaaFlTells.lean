/- Functions, as they answer: printed by a program of this repo, out of the program's form; each with its proof. -/
import Derived.Test.YtphnpgdamacfmaaRows
import Derived.Test.YtphnpgdamacfmaaAbsY
import Derived.Test.YtphnpgdamacfmaaTab
import Derived.Test.YtphnpgdamacfmaaFnA
import Derived.Test.YtphnpgdamacfmaaFnB
import Derived.Test.YtphnpgdamacfmaaFnC
import Derived.Test.YtphnpgdamacfmaaFnAw
namespace Go.Proofs.Ytphnpgdamacfmaa
open Go Go.Proofs.Ytphnpgdamacfmaa.Ab
set_option linter.unusedVariables false
set_option linter.unusedSimpArgs false
set_option maxRecDepth 1000000
namespace Ab
/-- Function 3, as it answers. -/
noncomputable def lExtmapTells (blocks : Int) (l : List Ex) (lba : Int) (n : Int) (gen : Int) (kind : Int) : Option (Bool) :=
 (tc (aw8) fun s0 =>
  (tc (few (l)) fun s1 =>
   (tb ((!s1))
    (some (s0))
    (tc (mRange (blocks) (l) (lba) (n)) fun s3 =>
     (tc (r8Range (blocks) (l) (lba) (n)) fun s4 =>
      (tc (mSince (blocks) (l) (gen)) fun s5 =>
       (tc (r8Since (blocks) (l) (gen)) fun s6 =>
        (tc (r7All (s3.1) (s4.1)) fun s7 =>
         (tb (s7)
          (tc (r7All (s5.1) (s6.1)) fun s9 =>
           (tb (s0)
            (tb (s9)
             (tb ((s3.2 == s4.2))
              (tb ((s5.2 == s6.2))
               (tc (mMany (l) (kind)) fun s14 =>
                (tc (r8Many (l) (kind)) fun s15 =>
                 (some ((s14 == s15)))))
               none /- false -/)
              none /- false -/)
             none /- false -/)
            none /- false -/))
          none /- false -/)))))))))
abbrev lExtmapTells_G (blocks : Int) (l : List Ex) (lba : Int) (n : Int) (gen : Int) (kind : Int) (r : Bool) : Prop := EvFr Try.prog cf false 3 [.i (blocks), exs (l), .i (lba), .i (n), .i (gen), .i (kind)] (.b (r))
theorem lExtmapTells_l0 (blocks : Int) (l : List Ex) (lba : Int) (n : Int) (gen : Int) (kind : Int) (s0 : Bool) (h0 : aw8 = some s0) (s1 : Bool) (h1 : few (l) = some s1) (h2 : ((!s1)) = true) : lExtmapTells_G blocks l lba n gen kind (s0) :=
  leafR vw_eq (k := 300) (r := []) (hs := hz [(2, [.fres (.b (s0))]), (3, [.fres (.b (s1))]), (1, [.yes]), (2, [])]) (raw := (AV.b s0)) (ps := [EvFr Try.prog cf Bool.false 9 ([] : List AV) (.b (s0)), EvFr Try.prog cf Bool.false 10 [(AV.sl (List.length l) (List.flatMap Ex.cells l))] (.b (s1)), ((!s1)) = true]) (by kernel_rfl) ⟨((aw8_ok  _ h0).any.cast tq), ((few_ok (l) _ h1).any.cast tq), h2, trivial⟩ tq
theorem lExtmapTells_l1 (blocks : Int) (l : List Ex) (lba : Int) (n : Int) (gen : Int) (kind : Int) (s0 : Bool) (h0 : aw8 = some s0) (s1 : Bool) (h1 : few (l) = some s1) (h2 : ((!s1)) = false) (s3 : List Ex × Int) (h3 : mRange (blocks) (l) (lba) (n) = some s3) (s4 : List Ex × Int) (h4 : r8Range (blocks) (l) (lba) (n) = some s4) (s5 : List Ex × Int) (h5 : mSince (blocks) (l) (gen) = some s5) (s6 : List Ex × Int) (h6 : r8Since (blocks) (l) (gen) = some s6) (s7 : Bool) (h7 : r7All (s3.1) (s4.1) = some s7) (h8 : (s7) = true) (s9 : Bool) (h9 : r7All (s5.1) (s6.1) = some s9) (h10 : (s0) = true) (h11 : (s9) = true) (h12 : ((s3.2 == s4.2)) = true) (h12p : (s3.2 = s4.2)) (h13 : ((s5.2 == s6.2)) = true) (h13p : (s5.2 = s6.2)) (s14 : Int) (h14 : mMany (l) (kind) = some s14) (s15 : Int) (h15 : r8Many (l) (kind) = some s15) : lExtmapTells_G blocks l lba n gen kind ((s14 == s15)) :=
  leafR vw_eq (k := 300) (r := []) (hs := hz [(2, [.fres (.b (s0))]), (3, [.fres (.b (s1))]), (1, [.no]), (5, [.fres (.tu [exs (s3.1), .i (s3.2)])]), (10, [.fres (.tu [exs (s4.1), .i (s4.2)])]), (9, [.fres (.tu [exs (s5.1), .i (s5.2)])]), (9, [.fres (.tu [exs (s6.1), .i (s6.2)])]), (8, [.fres (.b (s7))]), (1, [.yes]), (1, [.yes]), (1, [.yes]), (1, [.fres (.b (s9)), .yes]), (3, [.yes]), (1, [.yes]), (1, [.yes]), (1, [.yes]), (1, [.yes]), (1, [.yes]), (1, [.yes]), (1, [.yes]), (1, [.yes]), (1, [.yes]), (1, [.yes]), (1, [.yes]), (1, [.yes]), (1, [.fres (.i (s14)), .yes]), (1, [.yes]), (1, [.yes]), (1, [.fres (.i (s15)), .yes]), (1, [.yes]), (1, [])]) (raw := (AV.b (s14 == s15))) (ps := [EvFr Try.prog cf Bool.false 9 ([] : List AV) (.b (s0)), EvFr Try.prog cf Bool.false 10 [(AV.sl (List.length l) (List.flatMap Ex.cells l))] (.b (s1)), ((!s1)) = false, EvFr Try.prog cf Bool.false 11 [(AV.i blocks), (AV.sl (List.length l) (List.flatMap Ex.cells l)), (AV.i lba), (AV.i n)] (.tu [exs (s3.1), .i (s3.2)]), EvFr Try.prog cf Bool.false 12 [(AV.i blocks), (AV.sl (List.length l) (List.flatMap Ex.cells l)), (AV.i lba), (AV.i n)] (.tu [exs (s4.1), .i (s4.2)]), EvFr Try.prog cf Bool.false 13 [(AV.i blocks), (AV.sl (List.length l) (List.flatMap Ex.cells l)), (AV.i gen)] (.tu [exs (s5.1), .i (s5.2)]), EvFr Try.prog cf Bool.false 14 [(AV.i blocks), (AV.sl (List.length l) (List.flatMap Ex.cells l)), (AV.i gen)] (.tu [exs (s6.1), .i (s6.2)]), EvFr Try.prog cf Bool.false 15 [(AV.sl (List.length s3.1) (List.flatMap Ex.cells s3.1)), (AV.sl (List.length s4.1) (List.flatMap Ex.cells s4.1))] (.b (s7)), (s7) = true, (s7) = true, (s7) = true, EvFr Try.prog cf Bool.false 15 [(AV.sl (List.length s5.1) (List.flatMap Ex.cells s5.1)), (AV.sl (List.length s6.1) (List.flatMap Ex.cells s6.1))] (.b (s9)), (s7) = true, (s0) = true, (s0) = true, (s9) = true, (s9) = true, (s9) = true, (s9) = true, ((s3.2 == s4.2)) = true, ((s3.2 == s4.2)) = true, ((s3.2 == s4.2)) = true, ((s3.2 == s4.2)) = true, ((s5.2 == s6.2)) = true, ((s5.2 == s6.2)) = true, ((s5.2 == s6.2)) = true, EvFr Try.prog cf Bool.false 16 [(AV.sl (List.length l) (List.flatMap Ex.cells l)), (AV.i kind)] (.i (s14)), ((s5.2 == s6.2)) = true, ((s5.2 == s6.2)) = true, ((s5.2 == s6.2)) = true, EvFr Try.prog cf Bool.false 17 [(AV.sl (List.length l) (List.flatMap Ex.cells l)), (AV.i kind)] (.i (s15)), ((s5.2 == s6.2)) = true, ((s5.2 == s6.2)) = true]) (by kernel_rfl) ⟨((aw8_ok  _ h0).any.cast tq), ((few_ok (l) _ h1).any.cast tq), h2, ((mRange_ok (blocks) (l) (lba) (n) _ h3).cast tq), ((r8Range_ok (blocks) (l) (lba) (n) _ h4).cast tq), ((mSince_ok (blocks) (l) (gen) _ h5).cast tq), ((r8Since_ok (blocks) (l) (gen) _ h6).cast tq), ((r7All_ok (s3.1) (s4.1) _ h7).any.cast tq), h8, h8, h8, ((r7All_ok (s5.1) (s6.1) _ h9).any.cast tq), h8, h10, h10, h11, h11, h11, h11, h12, h12, h12, h12, h13, h13, h13, ((mMany_ok (l) (kind) _ h14).any.cast tq), h13, h13, h13, ((r8Many_ok (l) (kind) _ h15).any.cast tq), h13, h13, trivial⟩ tq
theorem lExtmapTells_ok (blocks : Int) (l : List Ex) (lba : Int) (n : Int) (gen : Int) (kind : Int) (r : Bool) : lExtmapTells blocks l lba n gen kind = some r → lExtmapTells_G blocks l lba n gen kind r := by
  unfold lExtmapTells
  refine tc_ok (fun s0 h0 => ?_)
  refine tc_ok (fun s1 h1 => ?_)
  refine tb_ok (fun h2 => ?_) (fun h2 => ?_)
  ·
    exact fun e => tl_ok (G := lExtmapTells_G blocks l lba n gen kind) (lExtmapTells_l0 blocks l lba n gen kind s0 h0 s1 h1 h2) e
  ·
    refine tc_ok (fun s3 h3 => ?_)
    refine tc_ok (fun s4 h4 => ?_)
    refine tc_ok (fun s5 h5 => ?_)
    refine tc_ok (fun s6 h6 => ?_)
    refine tc_ok (fun s7 h7 => ?_)
    refine tb_ok (fun h8 => ?_) (fun h8 => ?_)
    ·
      refine tc_ok (fun s9 h9 => ?_)
      refine tb_ok (fun h10 => ?_) (fun h10 => ?_)
      ·
        refine tb_ok (fun h11 => ?_) (fun h11 => ?_)
        ·
          refine tb_ok (fun h12 => ?_) (fun h12 => ?_)
          ·
            have h12p := eq_of_beq h12
            refine tb_ok (fun h13 => ?_) (fun h13 => ?_)
            ·
              have h13p := eq_of_beq h13
              refine tc_ok (fun s14 h14 => ?_)
              refine tc_ok (fun s15 h15 => ?_)
              exact fun e => tl_ok (G := lExtmapTells_G blocks l lba n gen kind) (lExtmapTells_l1 blocks l lba n gen kind s0 h0 s1 h1 h2 s3 h3 s4 h4 s5 h5 s6 h6 s7 h7 h8 s9 h9 h10 h11 h12 h12p h13 h13p s14 h14 s15 h15) e
            ·
              have h13p := ne_of_beq_false h13
              exact fun e => nomatch e
          ·
            have h12p := ne_of_beq_false h12
            exact fun e => nomatch e
        ·
          exact fun e => nomatch e
      ·
        exact fun e => nomatch e
    ·
      exact fun e => nomatch e
end Ab
end Go.Proofs.Ytphnpgdamacfmaa
