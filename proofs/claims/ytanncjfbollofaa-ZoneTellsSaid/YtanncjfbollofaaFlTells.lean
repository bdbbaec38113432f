/- Functions, as they answer: printed by a program of this repo, out of the program's form; each with its proof. -/
import Derived.Test.YtanncjfbollofaaRows
import Derived.Test.YtanncjfbollofaaAbsY
import Derived.Test.YtanncjfbollofaaFnB
import Derived.Test.YtanncjfbollofaaFnAw
namespace Go.Proofs.Ytanncjfbollofaa
open Go Go.Proofs.Ytanncjfbollofaa.Ab
set_option linter.unusedVariables false
set_option linter.unusedSimpArgs false
set_option maxRecDepth 1000000
namespace Ab
/-- Function 8, as it answers. -/
def lTells (z : Zo) (size : Int) (b : List UInt8) (keep : Int) : Option (Bool) :=
 (tc (awake) fun s0 =>
  (tb (Decidable.decide ((↑z.d.length : Int) > (300 : Int)))
   (some (s0))
   (tb (Decidable.decide ((↑b.length : Int) > (300 : Int)))
    (some (s0))
    (tc (pAppend (z) (size) (b)) fun s3 =>
     (tc (rAppend (z) (size) (b)) fun s4 =>
      (tc (pReset (z)) fun s5 =>
       (tc (rReset (z)) fun s6 =>
        (tc (pFinish (z)) fun s7 =>
         (tc (rFinish (z)) fun s8 =>
          (tc (pClose (z)) fun s9 =>
           (tc (rClose (z)) fun s10 =>
            (tc (rSame (s3.fst) (s4.fst)) fun s11 =>
             (tb (s11)
              (tc (rSame (s5.fst) (s6.fst)) fun s13 =>
               (tb (s13)
                (tc (rSame (s7.fst) (s8.fst)) fun s15 =>
                 (tb (s15)
                  (tc (rSame (s9.fst) (s10.fst)) fun s17 =>
                   (tb (s17)
                    (tc (pFlush (z)) fun s19 =>
                     (tc (rFlush (z)) fun s20 =>
                      (tc (rSame (s19) (s20)) fun s21 =>
                       (tb (s21)
                        (tc (pCrash (z) (size) (keep)) fun s23 =>
                         (tc (rCrash (z) (size) (keep)) fun s24 =>
                          (tc (rSame (s23) (s24)) fun s25 =>
                           (tb (s0)
                            (tc (pCheck (z) (size)) fun s27 =>
                             (tc (rCheck (z) (size)) fun s28 =>
                              (tb (s27 == s28)
                               (tc (pRoom (z) (size)) fun s30 =>
                                (tc (rRoom (z) (size)) fun s31 =>
                                 (tb (s30 == s31)
                                  (tb (s25)
                                   (tb (s3.snd == s4.snd)
                                    (tb (s5.snd == s6.snd)
                                     (tb (s7.snd == s8.snd)
                                      (some (s9.snd == s10.snd))
                                      none /- false -/)
                                     none /- false -/)
                                    none /- false -/)
                                   none /- false -/)
                                  none /- false -/)))
                               none /- false -/)))
                            none /- false -/))))
                        none /- false -/))))
                    none /- false -/))
                  none /- false -/))
                none /- false -/))
              none /- false -/)))))))))))))
abbrev lTells_G (z : Zo) (size : Int) (b : List UInt8) (keep : Int) (r : Bool) : Prop := EvFr Try.prog cf true 8 [Zo.av (z), .i (size), bys (b), .i (keep)] (.b (r))
theorem lTells_l0 (z : Zo) (size : Int) (b : List UInt8) (keep : Int) (s0 : Bool) (h0 : awake = some s0) (h1 : (Decidable.decide ((↑z.d.length : Int) > (300 : Int))) = true) : lTells_G z size b keep (s0) :=
  leafR (k := 300) (r := []) (hs := hz [(3, [.fres (.b (s0))]), (7, [.yes, .yes, .yes, .yes]), (3, [])]) (raw := Go.Proofs.Ytanncjfbollofaa.Ab.AV.b s0) (ps := [EvFr Try.prog cf Bool.false 10 [] (.b (s0)), (Decidable.decide ((↑z.d.length : Int) > (300 : Int))) = true, (Decidable.decide ((↑z.d.length : Int) > (300 : Int))) = true, (Decidable.decide ((↑z.d.length : Int) > (300 : Int))) = true, (Decidable.decide ((↑z.d.length : Int) > (300 : Int))) = true]) (by kernel_rfl) ⟨((awake_ok  _ h0).any.cast (by first | rfl | assumption | (simp; done) | omega | (simp; omega) | (simp [imin, imax]; (repeat' split) <;> omega))), h1, h1, h1, h1, trivial⟩ (by first | rfl | assumption | (simp; done) | omega | (simp; omega) | (simp [imin, imax]; (repeat' split) <;> omega))
theorem lTells_l1 (z : Zo) (size : Int) (b : List UInt8) (keep : Int) (s0 : Bool) (h0 : awake = some s0) (h1 : (Decidable.decide ((↑z.d.length : Int) > (300 : Int))) = false) (h2 : (Decidable.decide ((↑b.length : Int) > (300 : Int))) = true) : lTells_G z size b keep (s0) :=
  leafR (k := 300) (r := []) (hs := hz [(3, [.fres (.b (s0))]), (7, [.no]), (1, [.no]), (1, [.no]), (1, [.no, .yes]), (2, [])]) (raw := Go.Proofs.Ytanncjfbollofaa.Ab.AV.b s0) (ps := [EvFr Try.prog cf Bool.false 10 [] (.b (s0)), (Decidable.decide ((↑z.d.length : Int) > (300 : Int))) = false, (Decidable.decide ((↑z.d.length : Int) > (300 : Int))) = false, (Decidable.decide ((↑z.d.length : Int) > (300 : Int))) = false, (Decidable.decide ((↑z.d.length : Int) > (300 : Int))) = false, (Decidable.decide ((↑b.length : Int) > (300 : Int))) = true]) (by kernel_rfl) ⟨((awake_ok  _ h0).any.cast (by first | rfl | assumption | (simp; done) | omega | (simp; omega) | (simp [imin, imax]; (repeat' split) <;> omega))), h1, h1, h1, h1, h2, trivial⟩ (by first | rfl | assumption | (simp; done) | omega | (simp; omega) | (simp [imin, imax]; (repeat' split) <;> omega))
theorem lTells_l2 (z : Zo) (size : Int) (b : List UInt8) (keep : Int) (s0 : Bool) (h0 : awake = some s0) (h1 : (Decidable.decide ((↑z.d.length : Int) > (300 : Int))) = false) (h2 : (Decidable.decide ((↑b.length : Int) > (300 : Int))) = false) (s3 : Zo × Int) (h3 : pAppend (z) (size) (b) = some s3) (s4 : Zo × Int) (h4 : rAppend (z) (size) (b) = some s4) (s5 : Zo × Int) (h5 : pReset (z) = some s5) (s6 : Zo × Int) (h6 : rReset (z) = some s6) (s7 : Zo × Int) (h7 : pFinish (z) = some s7) (s8 : Zo × Int) (h8 : rFinish (z) = some s8) (s9 : Zo × Int) (h9 : pClose (z) = some s9) (s10 : Zo × Int) (h10 : rClose (z) = some s10) (s11 : Bool) (h11 : rSame (s3.fst) (s4.fst) = some s11) (h12 : (s11) = true) (s13 : Bool) (h13 : rSame (s5.fst) (s6.fst) = some s13) (h14 : (s13) = true) (s15 : Bool) (h15 : rSame (s7.fst) (s8.fst) = some s15) (h16 : (s15) = true) (s17 : Bool) (h17 : rSame (s9.fst) (s10.fst) = some s17) (h18 : (s17) = true) (s19 : Zo) (h19 : pFlush (z) = some s19) (s20 : Zo) (h20 : rFlush (z) = some s20) (s21 : Bool) (h21 : rSame (s19) (s20) = some s21) (h22 : (s21) = true) (s23 : Zo) (h23 : pCrash (z) (size) (keep) = some s23) (s24 : Zo) (h24 : rCrash (z) (size) (keep) = some s24) (s25 : Bool) (h25 : rSame (s23) (s24) = some s25) (h26 : (s0) = true) (s27 : Bool) (h27 : pCheck (z) (size) = some s27) (s28 : Bool) (h28 : rCheck (z) (size) = some s28) (h29 : (s27 == s28) = true) (s30 : Int) (h30 : pRoom (z) (size) = some s30) (s31 : Int) (h31 : rRoom (z) (size) = some s31) (h32 : (s30 == s31) = true) (h33 : (s25) = true) (h34 : (s3.snd == s4.snd) = true) (h35 : (s5.snd == s6.snd) = true) (h36 : (s7.snd == s8.snd) = true) : lTells_G z size b keep (s9.snd == s10.snd) :=
  leafR (k := 300) (r := []) (hs := hz [(3, [.fres (.b (s0))]), (7, [.no]), (1, [.no]), (1, [.no]), (1, [.no, .no]), (5, [.fres (.tu [Zo.av (s3.1), .i (s3.2)])]), (11, [.fres (.tu [Zo.av (s4.1), .i (s4.2)])]), (9, [.fres (.tu [Zo.av (s5.1), .i (s5.2)])]), (9, [.fres (.tu [Zo.av (s6.1), .i (s6.2)])]), (9, [.fres (.tu [Zo.av (s7.1), .i (s7.2)])]), (9, [.fres (.tu [Zo.av (s8.1), .i (s8.2)])]), (9, [.fres (.tu [Zo.av (s9.1), .i (s9.2)])]), (9, [.fres (.tu [Zo.av (s10.1), .i (s10.2)])]), (11, [.fres (.b (s11))]), (1, [.yes]), (2, [.yes]), (2, [.yes]), (1, [.fres (.b (s13)), .yes]), (1, [.yes]), (2, [.yes]), (2, [.yes]), (1, [.fres (.b (s15)), .yes]), (1, [.yes]), (2, [.yes]), (2, [.yes]), (1, [.fres (.b (s17)), .yes]), (1, [.yes]), (2, [.yes]), (1, [.fres (Zo.av (s19)), .yes]), (2, [.yes]), (1, [.fres (Zo.av (s20)), .yes]), (1, [.fres (.b (s21)), .yes]), (1, [.yes]), (2, [.yes]), (1, [.yes]), (1, [.yes]), (1, [.fres (Zo.av (s23)), .yes]), (2, [.yes]), (1, [.yes]), (1, [.yes]), (1, [.fres (Zo.av (s24)), .yes]), (1, [.fres (.b (s25)), .yes]), (3, [.yes]), (2, [.yes]), (1, [.yes]), (1, [.fres (.b (s27)), .yes]), (2, [.yes]), (1, [.yes]), (1, [.fres (.b (s28)), .yes]), (1, [.yes]), (1, [.yes]), (2, [.yes]), (1, [.yes]), (1, [.fres (.i (s30)), .yes]), (2, [.yes]), (1, [.yes]), (1, [.fres (.i (s31)), .yes]), (1, [.yes]), (1, [.yes]), (1, [.yes]), (1, [.yes]), (1, [.yes]), (1, [.yes]), (1, [.yes]), (1, [.yes]), (1, [.yes]), (1, [.yes]), (1, [.yes]), (1, [.yes]), (1, [.yes]), (1, [.yes]), (1, [.yes]), (1, [.yes]), (1, [.yes]), (1, [.yes]), (1, [.yes]), (1, [])]) (raw := Go.Proofs.Ytanncjfbollofaa.Ab.AV.b (s9.snd == s10.snd)) (ps := [EvFr Try.prog cf Bool.false 10 [] (.b (s0)), (Decidable.decide ((↑z.d.length : Int) > (300 : Int))) = false, (Decidable.decide ((↑z.d.length : Int) > (300 : Int))) = false, (Decidable.decide ((↑z.d.length : Int) > (300 : Int))) = false, (Decidable.decide ((↑z.d.length : Int) > (300 : Int))) = false, (Decidable.decide ((↑b.length : Int) > (300 : Int))) = false, EvFr Try.prog cf Bool.false 11 [Go.Proofs.Ytanncjfbollofaa.Ab.AV.ag [Go.Proofs.Ytanncjfbollofaa.Ab.AV.i z.st, Go.Proofs.Ytanncjfbollofaa.Ab.AV.i z.rs, Go.Proofs.Ytanncjfbollofaa.Ab.AV.sl z.d.length (List.map Go.Proofs.Ytanncjfbollofaa.Ab.AV.y z.d), Go.Proofs.Ytanncjfbollofaa.Ab.AV.i z.la], Go.Proofs.Ytanncjfbollofaa.Ab.AV.i size, Go.Proofs.Ytanncjfbollofaa.Ab.AV.sl b.length (List.map Go.Proofs.Ytanncjfbollofaa.Ab.AV.y b)] (.tu [Zo.av (s3.1), .i (s3.2)]), EvFr Try.prog cf Bool.false 18 [Go.Proofs.Ytanncjfbollofaa.Ab.AV.ag [Go.Proofs.Ytanncjfbollofaa.Ab.AV.i z.st, Go.Proofs.Ytanncjfbollofaa.Ab.AV.i z.rs, Go.Proofs.Ytanncjfbollofaa.Ab.AV.sl z.d.length (List.map Go.Proofs.Ytanncjfbollofaa.Ab.AV.y z.d), Go.Proofs.Ytanncjfbollofaa.Ab.AV.i z.la], Go.Proofs.Ytanncjfbollofaa.Ab.AV.i size, Go.Proofs.Ytanncjfbollofaa.Ab.AV.sl b.length (List.map Go.Proofs.Ytanncjfbollofaa.Ab.AV.y b)] (.tu [Zo.av (s4.1), .i (s4.2)]), EvFr Try.prog cf Bool.false 15 [Go.Proofs.Ytanncjfbollofaa.Ab.AV.ag [Go.Proofs.Ytanncjfbollofaa.Ab.AV.i z.st, Go.Proofs.Ytanncjfbollofaa.Ab.AV.i z.rs, Go.Proofs.Ytanncjfbollofaa.Ab.AV.sl z.d.length (List.map Go.Proofs.Ytanncjfbollofaa.Ab.AV.y z.d), Go.Proofs.Ytanncjfbollofaa.Ab.AV.i z.la]] (.tu [Zo.av (s5.1), .i (s5.2)]), EvFr Try.prog cf Bool.false 19 [Go.Proofs.Ytanncjfbollofaa.Ab.AV.ag [Go.Proofs.Ytanncjfbollofaa.Ab.AV.i z.st, Go.Proofs.Ytanncjfbollofaa.Ab.AV.i z.rs, Go.Proofs.Ytanncjfbollofaa.Ab.AV.sl z.d.length (List.map Go.Proofs.Ytanncjfbollofaa.Ab.AV.y z.d), Go.Proofs.Ytanncjfbollofaa.Ab.AV.i z.la]] (.tu [Zo.av (s6.1), .i (s6.2)]), EvFr Try.prog cf Bool.false 20 [Go.Proofs.Ytanncjfbollofaa.Ab.AV.ag [Go.Proofs.Ytanncjfbollofaa.Ab.AV.i z.st, Go.Proofs.Ytanncjfbollofaa.Ab.AV.i z.rs, Go.Proofs.Ytanncjfbollofaa.Ab.AV.sl z.d.length (List.map Go.Proofs.Ytanncjfbollofaa.Ab.AV.y z.d), Go.Proofs.Ytanncjfbollofaa.Ab.AV.i z.la]] (.tu [Zo.av (s7.1), .i (s7.2)]), EvFr Try.prog cf Bool.false 21 [Go.Proofs.Ytanncjfbollofaa.Ab.AV.ag [Go.Proofs.Ytanncjfbollofaa.Ab.AV.i z.st, Go.Proofs.Ytanncjfbollofaa.Ab.AV.i z.rs, Go.Proofs.Ytanncjfbollofaa.Ab.AV.sl z.d.length (List.map Go.Proofs.Ytanncjfbollofaa.Ab.AV.y z.d), Go.Proofs.Ytanncjfbollofaa.Ab.AV.i z.la]] (.tu [Zo.av (s8.1), .i (s8.2)]), EvFr Try.prog cf Bool.false 16 [Go.Proofs.Ytanncjfbollofaa.Ab.AV.ag [Go.Proofs.Ytanncjfbollofaa.Ab.AV.i z.st, Go.Proofs.Ytanncjfbollofaa.Ab.AV.i z.rs, Go.Proofs.Ytanncjfbollofaa.Ab.AV.sl z.d.length (List.map Go.Proofs.Ytanncjfbollofaa.Ab.AV.y z.d), Go.Proofs.Ytanncjfbollofaa.Ab.AV.i z.la]] (.tu [Zo.av (s9.1), .i (s9.2)]), EvFr Try.prog cf Bool.false 22 [Go.Proofs.Ytanncjfbollofaa.Ab.AV.ag [Go.Proofs.Ytanncjfbollofaa.Ab.AV.i z.st, Go.Proofs.Ytanncjfbollofaa.Ab.AV.i z.rs, Go.Proofs.Ytanncjfbollofaa.Ab.AV.sl z.d.length (List.map Go.Proofs.Ytanncjfbollofaa.Ab.AV.y z.d), Go.Proofs.Ytanncjfbollofaa.Ab.AV.i z.la]] (.tu [Zo.av (s10.1), .i (s10.2)]), EvFr Try.prog cf Bool.false 12 [Go.Proofs.Ytanncjfbollofaa.Ab.AV.ag [Go.Proofs.Ytanncjfbollofaa.Ab.AV.i s3.fst.st, Go.Proofs.Ytanncjfbollofaa.Ab.AV.i s3.fst.rs, Go.Proofs.Ytanncjfbollofaa.Ab.AV.sl s3.fst.d.length (List.map Go.Proofs.Ytanncjfbollofaa.Ab.AV.y s3.fst.d), Go.Proofs.Ytanncjfbollofaa.Ab.AV.i s3.fst.la], Go.Proofs.Ytanncjfbollofaa.Ab.AV.ag [Go.Proofs.Ytanncjfbollofaa.Ab.AV.i s4.fst.st, Go.Proofs.Ytanncjfbollofaa.Ab.AV.i s4.fst.rs, Go.Proofs.Ytanncjfbollofaa.Ab.AV.sl s4.fst.d.length (List.map Go.Proofs.Ytanncjfbollofaa.Ab.AV.y s4.fst.d), Go.Proofs.Ytanncjfbollofaa.Ab.AV.i s4.fst.la]] (.b (s11)), (s11) = true, (s11) = true, (s11) = true, EvFr Try.prog cf Bool.false 12 [Go.Proofs.Ytanncjfbollofaa.Ab.AV.ag [Go.Proofs.Ytanncjfbollofaa.Ab.AV.i s5.fst.st, Go.Proofs.Ytanncjfbollofaa.Ab.AV.i s5.fst.rs, Go.Proofs.Ytanncjfbollofaa.Ab.AV.sl s5.fst.d.length (List.map Go.Proofs.Ytanncjfbollofaa.Ab.AV.y s5.fst.d), Go.Proofs.Ytanncjfbollofaa.Ab.AV.i s5.fst.la], Go.Proofs.Ytanncjfbollofaa.Ab.AV.ag [Go.Proofs.Ytanncjfbollofaa.Ab.AV.i s6.fst.st, Go.Proofs.Ytanncjfbollofaa.Ab.AV.i s6.fst.rs, Go.Proofs.Ytanncjfbollofaa.Ab.AV.sl s6.fst.d.length (List.map Go.Proofs.Ytanncjfbollofaa.Ab.AV.y s6.fst.d), Go.Proofs.Ytanncjfbollofaa.Ab.AV.i s6.fst.la]] (.b (s13)), (s11) = true, (s13) = true, (s13) = true, (s13) = true, EvFr Try.prog cf Bool.false 12 [Go.Proofs.Ytanncjfbollofaa.Ab.AV.ag [Go.Proofs.Ytanncjfbollofaa.Ab.AV.i s7.fst.st, Go.Proofs.Ytanncjfbollofaa.Ab.AV.i s7.fst.rs, Go.Proofs.Ytanncjfbollofaa.Ab.AV.sl s7.fst.d.length (List.map Go.Proofs.Ytanncjfbollofaa.Ab.AV.y s7.fst.d), Go.Proofs.Ytanncjfbollofaa.Ab.AV.i s7.fst.la], Go.Proofs.Ytanncjfbollofaa.Ab.AV.ag [Go.Proofs.Ytanncjfbollofaa.Ab.AV.i s8.fst.st, Go.Proofs.Ytanncjfbollofaa.Ab.AV.i s8.fst.rs, Go.Proofs.Ytanncjfbollofaa.Ab.AV.sl s8.fst.d.length (List.map Go.Proofs.Ytanncjfbollofaa.Ab.AV.y s8.fst.d), Go.Proofs.Ytanncjfbollofaa.Ab.AV.i s8.fst.la]] (.b (s15)), (s13) = true, (s15) = true, (s15) = true, (s15) = true, EvFr Try.prog cf Bool.false 12 [Go.Proofs.Ytanncjfbollofaa.Ab.AV.ag [Go.Proofs.Ytanncjfbollofaa.Ab.AV.i s9.fst.st, Go.Proofs.Ytanncjfbollofaa.Ab.AV.i s9.fst.rs, Go.Proofs.Ytanncjfbollofaa.Ab.AV.sl s9.fst.d.length (List.map Go.Proofs.Ytanncjfbollofaa.Ab.AV.y s9.fst.d), Go.Proofs.Ytanncjfbollofaa.Ab.AV.i s9.fst.la], Go.Proofs.Ytanncjfbollofaa.Ab.AV.ag [Go.Proofs.Ytanncjfbollofaa.Ab.AV.i s10.fst.st, Go.Proofs.Ytanncjfbollofaa.Ab.AV.i s10.fst.rs, Go.Proofs.Ytanncjfbollofaa.Ab.AV.sl s10.fst.d.length (List.map Go.Proofs.Ytanncjfbollofaa.Ab.AV.y s10.fst.d), Go.Proofs.Ytanncjfbollofaa.Ab.AV.i s10.fst.la]] (.b (s17)), (s15) = true, (s17) = true, (s17) = true, EvFr Try.prog cf Bool.false 23 [Go.Proofs.Ytanncjfbollofaa.Ab.AV.ag [Go.Proofs.Ytanncjfbollofaa.Ab.AV.i z.st, Go.Proofs.Ytanncjfbollofaa.Ab.AV.i z.rs, Go.Proofs.Ytanncjfbollofaa.Ab.AV.sl z.d.length (List.map Go.Proofs.Ytanncjfbollofaa.Ab.AV.y z.d), Go.Proofs.Ytanncjfbollofaa.Ab.AV.i z.la]] (Zo.av (s19)), (s17) = true, (s17) = true, EvFr Try.prog cf Bool.false 24 [Go.Proofs.Ytanncjfbollofaa.Ab.AV.ag [Go.Proofs.Ytanncjfbollofaa.Ab.AV.i z.st, Go.Proofs.Ytanncjfbollofaa.Ab.AV.i z.rs, Go.Proofs.Ytanncjfbollofaa.Ab.AV.sl z.d.length (List.map Go.Proofs.Ytanncjfbollofaa.Ab.AV.y z.d), Go.Proofs.Ytanncjfbollofaa.Ab.AV.i z.la]] (Zo.av (s20)), (s17) = true, EvFr Try.prog cf Bool.false 12 [Go.Proofs.Ytanncjfbollofaa.Ab.AV.ag [Go.Proofs.Ytanncjfbollofaa.Ab.AV.i s19.st, Go.Proofs.Ytanncjfbollofaa.Ab.AV.i s19.rs, Go.Proofs.Ytanncjfbollofaa.Ab.AV.sl s19.d.length (List.map Go.Proofs.Ytanncjfbollofaa.Ab.AV.y s19.d), Go.Proofs.Ytanncjfbollofaa.Ab.AV.i s19.la], Go.Proofs.Ytanncjfbollofaa.Ab.AV.ag [Go.Proofs.Ytanncjfbollofaa.Ab.AV.i s20.st, Go.Proofs.Ytanncjfbollofaa.Ab.AV.i s20.rs, Go.Proofs.Ytanncjfbollofaa.Ab.AV.sl s20.d.length (List.map Go.Proofs.Ytanncjfbollofaa.Ab.AV.y s20.d), Go.Proofs.Ytanncjfbollofaa.Ab.AV.i s20.la]] (.b (s21)), (s17) = true, (s21) = true, (s21) = true, (s21) = true, (s21) = true, EvFr Try.prog cf Bool.false 17 [Go.Proofs.Ytanncjfbollofaa.Ab.AV.ag [Go.Proofs.Ytanncjfbollofaa.Ab.AV.i z.st, Go.Proofs.Ytanncjfbollofaa.Ab.AV.i z.rs, Go.Proofs.Ytanncjfbollofaa.Ab.AV.sl z.d.length (List.map Go.Proofs.Ytanncjfbollofaa.Ab.AV.y z.d), Go.Proofs.Ytanncjfbollofaa.Ab.AV.i z.la], Go.Proofs.Ytanncjfbollofaa.Ab.AV.i size, Go.Proofs.Ytanncjfbollofaa.Ab.AV.i keep] (Zo.av (s23)), (s21) = true, (s21) = true, (s21) = true, (s21) = true, EvFr Try.prog cf Bool.false 25 [Go.Proofs.Ytanncjfbollofaa.Ab.AV.ag [Go.Proofs.Ytanncjfbollofaa.Ab.AV.i z.st, Go.Proofs.Ytanncjfbollofaa.Ab.AV.i z.rs, Go.Proofs.Ytanncjfbollofaa.Ab.AV.sl z.d.length (List.map Go.Proofs.Ytanncjfbollofaa.Ab.AV.y z.d), Go.Proofs.Ytanncjfbollofaa.Ab.AV.i z.la], Go.Proofs.Ytanncjfbollofaa.Ab.AV.i size, Go.Proofs.Ytanncjfbollofaa.Ab.AV.i keep] (Zo.av (s24)), (s21) = true, EvFr Try.prog cf Bool.false 12 [Go.Proofs.Ytanncjfbollofaa.Ab.AV.ag [Go.Proofs.Ytanncjfbollofaa.Ab.AV.i s23.st, Go.Proofs.Ytanncjfbollofaa.Ab.AV.i s23.rs, Go.Proofs.Ytanncjfbollofaa.Ab.AV.sl s23.d.length (List.map Go.Proofs.Ytanncjfbollofaa.Ab.AV.y s23.d), Go.Proofs.Ytanncjfbollofaa.Ab.AV.i s23.la], Go.Proofs.Ytanncjfbollofaa.Ab.AV.ag [Go.Proofs.Ytanncjfbollofaa.Ab.AV.i s24.st, Go.Proofs.Ytanncjfbollofaa.Ab.AV.i s24.rs, Go.Proofs.Ytanncjfbollofaa.Ab.AV.sl s24.d.length (List.map Go.Proofs.Ytanncjfbollofaa.Ab.AV.y s24.d), Go.Proofs.Ytanncjfbollofaa.Ab.AV.i s24.la]] (.b (s25)), (s21) = true, (s0) = true, (s0) = true, (s0) = true, EvFr Try.prog cf Bool.false 13 [Go.Proofs.Ytanncjfbollofaa.Ab.AV.ag [Go.Proofs.Ytanncjfbollofaa.Ab.AV.i z.st, Go.Proofs.Ytanncjfbollofaa.Ab.AV.i z.rs, Go.Proofs.Ytanncjfbollofaa.Ab.AV.sl z.d.length (List.map Go.Proofs.Ytanncjfbollofaa.Ab.AV.y z.d), Go.Proofs.Ytanncjfbollofaa.Ab.AV.i z.la], Go.Proofs.Ytanncjfbollofaa.Ab.AV.i size] (.b (s27)), (s0) = true, (s0) = true, (s0) = true, EvFr Try.prog cf Bool.false 26 [Go.Proofs.Ytanncjfbollofaa.Ab.AV.ag [Go.Proofs.Ytanncjfbollofaa.Ab.AV.i z.st, Go.Proofs.Ytanncjfbollofaa.Ab.AV.i z.rs, Go.Proofs.Ytanncjfbollofaa.Ab.AV.sl z.d.length (List.map Go.Proofs.Ytanncjfbollofaa.Ab.AV.y z.d), Go.Proofs.Ytanncjfbollofaa.Ab.AV.i z.la], Go.Proofs.Ytanncjfbollofaa.Ab.AV.i size] (.b (s28)), (s0) = true, (s0) = true, (s27 == s28) = true, (s27 == s28) = true, (s27 == s28) = true, EvFr Try.prog cf Bool.false 14 [Go.Proofs.Ytanncjfbollofaa.Ab.AV.ag [Go.Proofs.Ytanncjfbollofaa.Ab.AV.i z.st, Go.Proofs.Ytanncjfbollofaa.Ab.AV.i z.rs, Go.Proofs.Ytanncjfbollofaa.Ab.AV.sl z.d.length (List.map Go.Proofs.Ytanncjfbollofaa.Ab.AV.y z.d), Go.Proofs.Ytanncjfbollofaa.Ab.AV.i z.la], Go.Proofs.Ytanncjfbollofaa.Ab.AV.i size] (.i (s30)), (s27 == s28) = true, (s27 == s28) = true, (s27 == s28) = true, EvFr Try.prog cf Bool.false 27 [Go.Proofs.Ytanncjfbollofaa.Ab.AV.ag [Go.Proofs.Ytanncjfbollofaa.Ab.AV.i z.st, Go.Proofs.Ytanncjfbollofaa.Ab.AV.i z.rs, Go.Proofs.Ytanncjfbollofaa.Ab.AV.sl z.d.length (List.map Go.Proofs.Ytanncjfbollofaa.Ab.AV.y z.d), Go.Proofs.Ytanncjfbollofaa.Ab.AV.i z.la], Go.Proofs.Ytanncjfbollofaa.Ab.AV.i size] (.i (s31)), (s27 == s28) = true, (s27 == s28) = true, (s30 == s31) = true, (s30 == s31) = true, (s25) = true, (s25) = true, (s25) = true, (s25) = true, (s3.snd == s4.snd) = true, (s3.snd == s4.snd) = true, (s3.snd == s4.snd) = true, (s3.snd == s4.snd) = true, (s5.snd == s6.snd) = true, (s5.snd == s6.snd) = true, (s5.snd == s6.snd) = true, (s5.snd == s6.snd) = true, (s7.snd == s8.snd) = true, (s7.snd == s8.snd) = true, (s7.snd == s8.snd) = true, (s7.snd == s8.snd) = true]) (by kernel_rfl) ⟨((awake_ok  _ h0).any.cast (by first | rfl | assumption | (simp; done) | omega | (simp; omega) | (simp [imin, imax]; (repeat' split) <;> omega))), h1, h1, h1, h1, h2, ((pAppend_ok (z) (size) (b) _ h3).any.cast (by first | rfl | assumption | (simp; done) | omega | (simp; omega) | (simp [imin, imax]; (repeat' split) <;> omega))), ((rAppend_ok (z) (size) (b) _ h4).any.cast (by first | rfl | assumption | (simp; done) | omega | (simp; omega) | (simp [imin, imax]; (repeat' split) <;> omega))), ((pReset_ok (z) _ h5).any.cast (by first | rfl | assumption | (simp; done) | omega | (simp; omega) | (simp [imin, imax]; (repeat' split) <;> omega))), ((rReset_ok (z) _ h6).any.cast (by first | rfl | assumption | (simp; done) | omega | (simp; omega) | (simp [imin, imax]; (repeat' split) <;> omega))), ((pFinish_ok (z) _ h7).any.cast (by first | rfl | assumption | (simp; done) | omega | (simp; omega) | (simp [imin, imax]; (repeat' split) <;> omega))), ((rFinish_ok (z) _ h8).any.cast (by first | rfl | assumption | (simp; done) | omega | (simp; omega) | (simp [imin, imax]; (repeat' split) <;> omega))), ((pClose_ok (z) _ h9).any.cast (by first | rfl | assumption | (simp; done) | omega | (simp; omega) | (simp [imin, imax]; (repeat' split) <;> omega))), ((rClose_ok (z) _ h10).any.cast (by first | rfl | assumption | (simp; done) | omega | (simp; omega) | (simp [imin, imax]; (repeat' split) <;> omega))), ((rSame_ok (s3.fst) (s4.fst) _ h11).any.cast (by first | rfl | assumption | (simp; done) | omega | (simp; omega) | (simp [imin, imax]; (repeat' split) <;> omega))), h12, h12, h12, ((rSame_ok (s5.fst) (s6.fst) _ h13).any.cast (by first | rfl | assumption | (simp; done) | omega | (simp; omega) | (simp [imin, imax]; (repeat' split) <;> omega))), h12, h14, h14, h14, ((rSame_ok (s7.fst) (s8.fst) _ h15).any.cast (by first | rfl | assumption | (simp; done) | omega | (simp; omega) | (simp [imin, imax]; (repeat' split) <;> omega))), h14, h16, h16, h16, ((rSame_ok (s9.fst) (s10.fst) _ h17).any.cast (by first | rfl | assumption | (simp; done) | omega | (simp; omega) | (simp [imin, imax]; (repeat' split) <;> omega))), h16, h18, h18, ((pFlush_ok (z) _ h19).any.cast (by first | rfl | assumption | (simp; done) | omega | (simp; omega) | (simp [imin, imax]; (repeat' split) <;> omega))), h18, h18, ((rFlush_ok (z) _ h20).any.cast (by first | rfl | assumption | (simp; done) | omega | (simp; omega) | (simp [imin, imax]; (repeat' split) <;> omega))), h18, ((rSame_ok (s19) (s20) _ h21).any.cast (by first | rfl | assumption | (simp; done) | omega | (simp; omega) | (simp [imin, imax]; (repeat' split) <;> omega))), h18, h22, h22, h22, h22, ((pCrash_ok (z) (size) (keep) _ h23).any.cast (by first | rfl | assumption | (simp; done) | omega | (simp; omega) | (simp [imin, imax]; (repeat' split) <;> omega))), h22, h22, h22, h22, ((rCrash_ok (z) (size) (keep) _ h24).any.cast (by first | rfl | assumption | (simp; done) | omega | (simp; omega) | (simp [imin, imax]; (repeat' split) <;> omega))), h22, ((rSame_ok (s23) (s24) _ h25).any.cast (by first | rfl | assumption | (simp; done) | omega | (simp; omega) | (simp [imin, imax]; (repeat' split) <;> omega))), h22, h26, h26, h26, ((pCheck_ok (z) (size) _ h27).any.cast (by first | rfl | assumption | (simp; done) | omega | (simp; omega) | (simp [imin, imax]; (repeat' split) <;> omega))), h26, h26, h26, ((rCheck_ok (z) (size) _ h28).any.cast (by first | rfl | assumption | (simp; done) | omega | (simp; omega) | (simp [imin, imax]; (repeat' split) <;> omega))), h26, h26, h29, h29, h29, ((pRoom_ok (z) (size) _ h30).any.cast (by first | rfl | assumption | (simp; done) | omega | (simp; omega) | (simp [imin, imax]; (repeat' split) <;> omega))), h29, h29, h29, ((rRoom_ok (z) (size) _ h31).any.cast (by first | rfl | assumption | (simp; done) | omega | (simp; omega) | (simp [imin, imax]; (repeat' split) <;> omega))), h29, h29, h32, h32, h33, h33, h33, h33, h34, h34, h34, h34, h35, h35, h35, h35, h36, h36, h36, h36, trivial⟩ (by first | rfl | assumption | (simp; done) | omega | (simp; omega) | (simp [imin, imax]; (repeat' split) <;> omega))
theorem lTells_ok (z : Zo) (size : Int) (b : List UInt8) (keep : Int) (r : Bool) : lTells z size b keep = some r → lTells_G z size b keep r := by
  unfold lTells
  refine tc_ok (fun s0 h0 => ?_)
  refine tb_ok (fun h1 => ?_) (fun h1 => ?_)
  ·
    exact fun e => tl_ok (G := lTells_G z size b keep) (lTells_l0 z size b keep s0 h0 h1) e
  ·
    refine tb_ok (fun h2 => ?_) (fun h2 => ?_)
    ·
      exact fun e => tl_ok (G := lTells_G z size b keep) (lTells_l1 z size b keep s0 h0 h1 h2) e
    ·
      refine tc_ok (fun s3 h3 => ?_)
      refine tc_ok (fun s4 h4 => ?_)
      refine tc_ok (fun s5 h5 => ?_)
      refine tc_ok (fun s6 h6 => ?_)
      refine tc_ok (fun s7 h7 => ?_)
      refine tc_ok (fun s8 h8 => ?_)
      refine tc_ok (fun s9 h9 => ?_)
      refine tc_ok (fun s10 h10 => ?_)
      refine tc_ok (fun s11 h11 => ?_)
      refine tb_ok (fun h12 => ?_) (fun h12 => ?_)
      ·
        refine tc_ok (fun s13 h13 => ?_)
        refine tb_ok (fun h14 => ?_) (fun h14 => ?_)
        ·
          refine tc_ok (fun s15 h15 => ?_)
          refine tb_ok (fun h16 => ?_) (fun h16 => ?_)
          ·
            refine tc_ok (fun s17 h17 => ?_)
            refine tb_ok (fun h18 => ?_) (fun h18 => ?_)
            ·
              refine tc_ok (fun s19 h19 => ?_)
              refine tc_ok (fun s20 h20 => ?_)
              refine tc_ok (fun s21 h21 => ?_)
              refine tb_ok (fun h22 => ?_) (fun h22 => ?_)
              ·
                refine tc_ok (fun s23 h23 => ?_)
                refine tc_ok (fun s24 h24 => ?_)
                refine tc_ok (fun s25 h25 => ?_)
                refine tb_ok (fun h26 => ?_) (fun h26 => ?_)
                ·
                  refine tc_ok (fun s27 h27 => ?_)
                  refine tc_ok (fun s28 h28 => ?_)
                  refine tb_ok (fun h29 => ?_) (fun h29 => ?_)
                  ·
                    refine tc_ok (fun s30 h30 => ?_)
                    refine tc_ok (fun s31 h31 => ?_)
                    refine tb_ok (fun h32 => ?_) (fun h32 => ?_)
                    ·
                      refine tb_ok (fun h33 => ?_) (fun h33 => ?_)
                      ·
                        refine tb_ok (fun h34 => ?_) (fun h34 => ?_)
                        ·
                          refine tb_ok (fun h35 => ?_) (fun h35 => ?_)
                          ·
                            refine tb_ok (fun h36 => ?_) (fun h36 => ?_)
                            ·
                              exact fun e => tl_ok (G := lTells_G z size b keep) (lTells_l2 z size b keep s0 h0 h1 h2 s3 h3 s4 h4 s5 h5 s6 h6 s7 h7 s8 h8 s9 h9 s10 h10 s11 h11 h12 s13 h13 h14 s15 h15 h16 s17 h17 h18 s19 h19 s20 h20 s21 h21 h22 s23 h23 s24 h24 s25 h25 h26 s27 h27 s28 h28 h29 s30 h30 s31 h31 h32 h33 h34 h35 h36) e
                            ·
                              exact fun e => nomatch e
                          ·
                            exact fun e => nomatch e
                        ·
                          exact fun e => nomatch e
                      ·
                        exact fun e => nomatch e
                    ·
                      exact fun e => nomatch e
                  ·
                    exact fun e => nomatch e
                ·
                  exact fun e => nomatch e
              ·
                exact fun e => nomatch e
            ·
              exact fun e => nomatch e
          ·
            exact fun e => nomatch e
        ·
          exact fun e => nomatch e
      ·
        exact fun e => nomatch e
end Ab
end Go.Proofs.Ytanncjfbollofaa
