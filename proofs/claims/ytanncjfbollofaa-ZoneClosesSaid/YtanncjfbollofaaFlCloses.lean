/- Functions, as they answer: printed by a program of this repo, out of the program's form; each with its proof. -/
import Derived.Test.YtanncjfbollofaaRows
import Derived.Test.YtanncjfbollofaaAbsY
import Derived.Test.YtanncjfbollofaaFnB
import Derived.Test.YtanncjfbollofaaFnAw
namespace Go.Proofs.Ytanncjfbollofaa
open Go Go.Proofs.Ytanncjfbollofaa.Ab
set_option linter.unusedVariables false
set_option linter.unusedSimpArgs false
set_option maxRecDepth 1000000
namespace Ab
/-- Function 6, as it answers. -/
def lCloses (a : List UInt8) (b : List UInt8) (keep : Int) : Option (Bool) :=
 (tc (awake) fun s0 =>
  (tb ((↑a.length : Int) == (0 : Int))
   (some (s0))
   (tb (Decidable.decide ((↑a.length : Int) > (300 : Int)))
    (some (s0))
    (tb ((↑b.length : Int) == (0 : Int))
     (some (s0))
     (tb (Decidable.decide ((↑b.length : Int) > (300 : Int)))
      (some (s0))
      (tc (pAppend ({ st := (0 : Int), rs := (0 : Int), d := [], la := (0 : Int) }) ((700 : Int)) (a)) fun s5 =>
       (tc (pClose (s5.fst)) fun s6 =>
        (tc (pAppend (s6.fst) ((700 : Int)) (b)) fun s7 =>
         (tc (pClose (s6.fst)) fun s8 =>
          (tc (pCrash (s7.fst) ((700 : Int)) (keep)) fun s9 =>
           (tb ((↑s9.d.length : Int) == (0 : Int))
            (tb (s0)
             (tb (s5.snd == (0 : Int))
              (tb (s6.snd == (0 : Int))
               (tb (s7.snd == (0 : Int))
                (tb (s8.snd == (30 : Int))
                 (tb (s6.fst.d == a)
                  (tb (s7.fst.st == (1 : Int))
                   (tp (a.length ≤ (4294967296 : Nat))
                    (tp ((List.map Go.Proofs.Ytanncjfbollofaa.Ab.AV.y a).length = a.length * (1 : Nat) ∧ a.length + b.length ≤ (4294967296 : Nat))
                     (tb (s7.fst.d == a ++ b)
                      (some (s9.st == (0 : Int)))
                      none /- false -/)))
                   none /- false -/)
                  none /- false -/)
                 none /- false -/)
                none /- false -/)
               none /- false -/)
              none /- false -/)
             none /- false -/)
            (tb (s0)
             (tb (s5.snd == (0 : Int))
              (tb (s6.snd == (0 : Int))
               (tb (s7.snd == (0 : Int))
                (tb (s8.snd == (30 : Int))
                 (tb (s6.fst.d == a)
                  (tb (s7.fst.st == (1 : Int))
                   (tp (a.length ≤ (4294967296 : Nat))
                    (tp ((List.map Go.Proofs.Ytanncjfbollofaa.Ab.AV.y a).length = a.length * (1 : Nat) ∧ a.length + b.length ≤ (4294967296 : Nat))
                     (tb (s7.fst.d == a ++ b)
                      (some (s9.st == (2 : Int)))
                      none /- false -/)))
                   none /- false -/)
                  none /- false -/)
                 none /- false -/)
                none /- false -/)
               none /- false -/)
              none /- false -/)
             none /- false -/))))))))))))
abbrev lCloses_G (a : List UInt8) (b : List UInt8) (keep : Int) (r : Bool) : Prop := EvFr Try.prog cf true 6 [bys (a), bys (b), .i (keep)] (.b (r))
theorem lCloses_l0 (a : List UInt8) (b : List UInt8) (keep : Int) (s0 : Bool) (h0 : awake = some s0) (h1 : ((↑a.length : Int) == (0 : Int)) = true) : lCloses_G a b keep (s0) :=
  leafR (k := 300) (r := []) (hs := hz [(2, [.fres (.b (s0))]), (5, [.yes, .yes, .yes, .yes]), (13, [])]) (raw := Go.Proofs.Ytanncjfbollofaa.Ab.AV.b s0) (ps := [EvFr Try.prog cf Bool.false 10 [] (.b (s0)), ((↑a.length : Int) == (0 : Int)) = true, ((↑a.length : Int) == (0 : Int)) = true, ((↑a.length : Int) == (0 : Int)) = true, ((↑a.length : Int) == (0 : Int)) = true]) (by kernel_rfl) ⟨((awake_ok  _ h0).any.cast (by first | rfl | assumption | (simp; done) | omega | (simp; omega) | (simp [imin, imax]; (repeat' split) <;> omega))), h1, h1, h1, h1, trivial⟩ (by first | rfl | assumption | (simp; done) | omega | (simp; omega) | (simp [imin, imax]; (repeat' split) <;> omega))
theorem lCloses_l1 (a : List UInt8) (b : List UInt8) (keep : Int) (s0 : Bool) (h0 : awake = some s0) (h1 : ((↑a.length : Int) == (0 : Int)) = false) (h2 : (Decidable.decide ((↑a.length : Int) > (300 : Int))) = true) : lCloses_G a b keep (s0) :=
  leafR (k := 300) (r := []) (hs := hz [(2, [.fres (.b (s0))]), (5, [.no]), (1, [.no]), (1, [.no]), (1, [.no]), (1, [.yes, .yes, .yes, .yes]), (8, [])]) (raw := Go.Proofs.Ytanncjfbollofaa.Ab.AV.b s0) (ps := [EvFr Try.prog cf Bool.false 10 [] (.b (s0)), ((↑a.length : Int) == (0 : Int)) = false, ((↑a.length : Int) == (0 : Int)) = false, ((↑a.length : Int) == (0 : Int)) = false, ((↑a.length : Int) == (0 : Int)) = false, (Decidable.decide ((↑a.length : Int) > (300 : Int))) = true, (Decidable.decide ((↑a.length : Int) > (300 : Int))) = true, (Decidable.decide ((↑a.length : Int) > (300 : Int))) = true, (Decidable.decide ((↑a.length : Int) > (300 : Int))) = true]) (by kernel_rfl) ⟨((awake_ok  _ h0).any.cast (by first | rfl | assumption | (simp; done) | omega | (simp; omega) | (simp [imin, imax]; (repeat' split) <;> omega))), h1, h1, h1, h1, h2, h2, h2, h2, trivial⟩ (by first | rfl | assumption | (simp; done) | omega | (simp; omega) | (simp [imin, imax]; (repeat' split) <;> omega))
theorem lCloses_l2 (a : List UInt8) (b : List UInt8) (keep : Int) (s0 : Bool) (h0 : awake = some s0) (h1 : ((↑a.length : Int) == (0 : Int)) = false) (h2 : (Decidable.decide ((↑a.length : Int) > (300 : Int))) = false) (h3 : ((↑b.length : Int) == (0 : Int)) = true) : lCloses_G a b keep (s0) :=
  leafR (k := 300) (r := []) (hs := hz [(2, [.fres (.b (s0))]), (5, [.no]), (1, [.no]), (1, [.no]), (1, [.no]), (1, [.no]), (1, [.no]), (1, [.no]), (1, [.no]), (1, [.yes, .yes, .yes, .yes]), (3, [])]) (raw := Go.Proofs.Ytanncjfbollofaa.Ab.AV.b s0) (ps := [EvFr Try.prog cf Bool.false 10 [] (.b (s0)), ((↑a.length : Int) == (0 : Int)) = false, ((↑a.length : Int) == (0 : Int)) = false, ((↑a.length : Int) == (0 : Int)) = false, ((↑a.length : Int) == (0 : Int)) = false, (Decidable.decide ((↑a.length : Int) > (300 : Int))) = false, (Decidable.decide ((↑a.length : Int) > (300 : Int))) = false, (Decidable.decide ((↑a.length : Int) > (300 : Int))) = false, (Decidable.decide ((↑a.length : Int) > (300 : Int))) = false, ((↑b.length : Int) == (0 : Int)) = true, ((↑b.length : Int) == (0 : Int)) = true, ((↑b.length : Int) == (0 : Int)) = true, ((↑b.length : Int) == (0 : Int)) = true]) (by kernel_rfl) ⟨((awake_ok  _ h0).any.cast (by first | rfl | assumption | (simp; done) | omega | (simp; omega) | (simp [imin, imax]; (repeat' split) <;> omega))), h1, h1, h1, h1, h2, h2, h2, h2, h3, h3, h3, h3, trivial⟩ (by first | rfl | assumption | (simp; done) | omega | (simp; omega) | (simp [imin, imax]; (repeat' split) <;> omega))
theorem lCloses_l3 (a : List UInt8) (b : List UInt8) (keep : Int) (s0 : Bool) (h0 : awake = some s0) (h1 : ((↑a.length : Int) == (0 : Int)) = false) (h2 : (Decidable.decide ((↑a.length : Int) > (300 : Int))) = false) (h3 : ((↑b.length : Int) == (0 : Int)) = false) (h4 : (Decidable.decide ((↑b.length : Int) > (300 : Int))) = true) : lCloses_G a b keep (s0) :=
  leafR (k := 300) (r := []) (hs := hz [(2, [.fres (.b (s0))]), (5, [.no]), (1, [.no]), (1, [.no]), (1, [.no]), (1, [.no]), (1, [.no]), (1, [.no]), (1, [.no]), (1, [.no]), (1, [.no]), (1, [.no]), (1, [.no, .yes]), (2, [])]) (raw := Go.Proofs.Ytanncjfbollofaa.Ab.AV.b s0) (ps := [EvFr Try.prog cf Bool.false 10 [] (.b (s0)), ((↑a.length : Int) == (0 : Int)) = false, ((↑a.length : Int) == (0 : Int)) = false, ((↑a.length : Int) == (0 : Int)) = false, ((↑a.length : Int) == (0 : Int)) = false, (Decidable.decide ((↑a.length : Int) > (300 : Int))) = false, (Decidable.decide ((↑a.length : Int) > (300 : Int))) = false, (Decidable.decide ((↑a.length : Int) > (300 : Int))) = false, (Decidable.decide ((↑a.length : Int) > (300 : Int))) = false, ((↑b.length : Int) == (0 : Int)) = false, ((↑b.length : Int) == (0 : Int)) = false, ((↑b.length : Int) == (0 : Int)) = false, ((↑b.length : Int) == (0 : Int)) = false, (Decidable.decide ((↑b.length : Int) > (300 : Int))) = true]) (by kernel_rfl) ⟨((awake_ok  _ h0).any.cast (by first | rfl | assumption | (simp; done) | omega | (simp; omega) | (simp [imin, imax]; (repeat' split) <;> omega))), h1, h1, h1, h1, h2, h2, h2, h2, h3, h3, h3, h3, h4, trivial⟩ (by first | rfl | assumption | (simp; done) | omega | (simp; omega) | (simp [imin, imax]; (repeat' split) <;> omega))
theorem lCloses_l4 (a : List UInt8) (b : List UInt8) (keep : Int) (s0 : Bool) (h0 : awake = some s0) (h1 : ((↑a.length : Int) == (0 : Int)) = false) (h2 : (Decidable.decide ((↑a.length : Int) > (300 : Int))) = false) (h3 : ((↑b.length : Int) == (0 : Int)) = false) (h4 : (Decidable.decide ((↑b.length : Int) > (300 : Int))) = false) (s5 : Zo × Int) (h5 : pAppend ({ st := (0 : Int), rs := (0 : Int), d := [], la := (0 : Int) }) ((700 : Int)) (a) = some s5) (s6 : Zo × Int) (h6 : pClose (s5.fst) = some s6) (s7 : Zo × Int) (h7 : pAppend (s6.fst) ((700 : Int)) (b) = some s7) (s8 : Zo × Int) (h8 : pClose (s6.fst) = some s8) (s9 : Zo) (h9 : pCrash (s7.fst) ((700 : Int)) (keep) = some s9) (h10 : ((↑s9.d.length : Int) == (0 : Int)) = true) (h11 : (s0) = true) (h12 : (s5.snd == (0 : Int)) = true) (h13 : (s6.snd == (0 : Int)) = true) (h14 : (s7.snd == (0 : Int)) = true) (h15 : (s8.snd == (30 : Int)) = true) (h16 : (s6.fst.d == a) = true) (h17 : (s7.fst.st == (1 : Int)) = true) (h18 : a.length ≤ (4294967296 : Nat)) (h19 : (List.map Go.Proofs.Ytanncjfbollofaa.Ab.AV.y a).length = a.length * (1 : Nat) ∧ a.length + b.length ≤ (4294967296 : Nat)) (h20 : (s7.fst.d == a ++ b) = true) : lCloses_G a b keep (s9.st == (0 : Int)) :=
  leafR (k := 300) (r := []) (hs := hz [(2, [.fres (.b (s0))]), (5, [.no]), (1, [.no]), (1, [.no]), (1, [.no]), (1, [.no]), (1, [.no]), (1, [.no]), (1, [.no]), (1, [.no]), (1, [.no]), (1, [.no]), (1, [.no, .no]), (3, [.fres (.tu [Zo.av (s5.1), .i (s5.2)])]), (9, [.fres (.tu [Zo.av (s6.1), .i (s6.2)])]), (10, [.fres (.tu [Zo.av (s7.1), .i (s7.2)])]), (9, [.fres (.tu [Zo.av (s8.1), .i (s8.2)])]), (10, [.fres (Zo.av (s9))]), (8, [.yes]), (3, [.yes]), (1, [.yes]), (1, [.yes]), (1, [.yes]), (1, [.yes]), (1, [.yes]), (1, [.yes]), (1, [.yes]), (1, [.yes]), (1, [.yes]), (1, [.yes]), (1, [.yes]), (1, [.yes]), (1, [.yes]), (2, [.yes, .yes, .str (s6.fst.d), .yes]), (1, [.yes, .yes, .str (a), .yes]), (1, [.yes]), (1, [.yes]), (1, [.yes]), (2, [.yes]), (1, [.yes]), (1, [.yes]), (1, [.yes]), (2, [.yes, .yes, .str (s7.fst.d), .yes]), (1, [.yes]), (1, [.yes, .yes, .yes, .yes]), (1, [.yes, .yes, .yes, .yes, .yes, .str (a ++ b), .yes]), (1, [.yes]), (1, [.yes]), (1, [.yes]), (2, [.yes]), (1, [.yes]), (1, [.yes]), (1, [])]) (raw := Go.Proofs.Ytanncjfbollofaa.Ab.AV.b (s9.st == (0 : Int))) (ps := [EvFr Try.prog cf Bool.false 10 [] (.b (s0)), ((↑a.length : Int) == (0 : Int)) = false, ((↑a.length : Int) == (0 : Int)) = false, ((↑a.length : Int) == (0 : Int)) = false, ((↑a.length : Int) == (0 : Int)) = false, (Decidable.decide ((↑a.length : Int) > (300 : Int))) = false, (Decidable.decide ((↑a.length : Int) > (300 : Int))) = false, (Decidable.decide ((↑a.length : Int) > (300 : Int))) = false, (Decidable.decide ((↑a.length : Int) > (300 : Int))) = false, ((↑b.length : Int) == (0 : Int)) = false, ((↑b.length : Int) == (0 : Int)) = false, ((↑b.length : Int) == (0 : Int)) = false, ((↑b.length : Int) == (0 : Int)) = false, (Decidable.decide ((↑b.length : Int) > (300 : Int))) = false, EvFr Try.prog cf Bool.false 11 [Go.Proofs.Ytanncjfbollofaa.Ab.AV.ag [Go.Proofs.Ytanncjfbollofaa.Ab.AV.i (0 : Int), Go.Proofs.Ytanncjfbollofaa.Ab.AV.i (0 : Int), Go.Proofs.Ytanncjfbollofaa.Ab.AV.sl (0 : Nat) [], Go.Proofs.Ytanncjfbollofaa.Ab.AV.i (0 : Int)], Go.Proofs.Ytanncjfbollofaa.Ab.AV.i (700 : Int), Go.Proofs.Ytanncjfbollofaa.Ab.AV.sl a.length (List.map Go.Proofs.Ytanncjfbollofaa.Ab.AV.y a)] (.tu [Zo.av (s5.1), .i (s5.2)]), EvFr Try.prog cf Bool.false 16 [Go.Proofs.Ytanncjfbollofaa.Ab.AV.ag [Go.Proofs.Ytanncjfbollofaa.Ab.AV.i s5.fst.st, Go.Proofs.Ytanncjfbollofaa.Ab.AV.i s5.fst.rs, Go.Proofs.Ytanncjfbollofaa.Ab.AV.sl s5.fst.d.length (List.map Go.Proofs.Ytanncjfbollofaa.Ab.AV.y s5.fst.d), Go.Proofs.Ytanncjfbollofaa.Ab.AV.i s5.fst.la]] (.tu [Zo.av (s6.1), .i (s6.2)]), EvFr Try.prog cf Bool.false 11 [Go.Proofs.Ytanncjfbollofaa.Ab.AV.ag [Go.Proofs.Ytanncjfbollofaa.Ab.AV.i s6.fst.st, Go.Proofs.Ytanncjfbollofaa.Ab.AV.i s6.fst.rs, Go.Proofs.Ytanncjfbollofaa.Ab.AV.sl s6.fst.d.length (List.map Go.Proofs.Ytanncjfbollofaa.Ab.AV.y s6.fst.d), Go.Proofs.Ytanncjfbollofaa.Ab.AV.i s6.fst.la], Go.Proofs.Ytanncjfbollofaa.Ab.AV.i (700 : Int), Go.Proofs.Ytanncjfbollofaa.Ab.AV.sl b.length (List.map Go.Proofs.Ytanncjfbollofaa.Ab.AV.y b)] (.tu [Zo.av (s7.1), .i (s7.2)]), EvFr Try.prog cf Bool.false 16 [Go.Proofs.Ytanncjfbollofaa.Ab.AV.ag [Go.Proofs.Ytanncjfbollofaa.Ab.AV.i s6.fst.st, Go.Proofs.Ytanncjfbollofaa.Ab.AV.i s6.fst.rs, Go.Proofs.Ytanncjfbollofaa.Ab.AV.sl s6.fst.d.length (List.map Go.Proofs.Ytanncjfbollofaa.Ab.AV.y s6.fst.d), Go.Proofs.Ytanncjfbollofaa.Ab.AV.i s6.fst.la]] (.tu [Zo.av (s8.1), .i (s8.2)]), EvFr Try.prog cf Bool.false 17 [Go.Proofs.Ytanncjfbollofaa.Ab.AV.ag [Go.Proofs.Ytanncjfbollofaa.Ab.AV.i s7.fst.st, Go.Proofs.Ytanncjfbollofaa.Ab.AV.i s7.fst.rs, Go.Proofs.Ytanncjfbollofaa.Ab.AV.sl s7.fst.d.length (List.map Go.Proofs.Ytanncjfbollofaa.Ab.AV.y s7.fst.d), Go.Proofs.Ytanncjfbollofaa.Ab.AV.i s7.fst.la], Go.Proofs.Ytanncjfbollofaa.Ab.AV.i (700 : Int), Go.Proofs.Ytanncjfbollofaa.Ab.AV.i keep] (Zo.av (s9)), ((↑s9.d.length : Int) == (0 : Int)) = true, (s0) = true, (s0) = true, (s0) = true, (s5.snd == (0 : Int)) = true, (s5.snd == (0 : Int)) = true, (s5.snd == (0 : Int)) = true, (s6.snd == (0 : Int)) = true, (s6.snd == (0 : Int)) = true, (s6.snd == (0 : Int)) = true, (s7.snd == (0 : Int)) = true, (s7.snd == (0 : Int)) = true, (s7.snd == (0 : Int)) = true, (s8.snd == (30 : Int)) = true, (s8.snd == (30 : Int)) = true, (s8.snd == (30 : Int)) = true, (List.map Go.Proofs.Ytanncjfbollofaa.Ab.AV.y s6.fst.d).length = s6.fst.d.length * (1 : Nat), bytesOf (List.map Go.Proofs.Ytanncjfbollofaa.Ab.AV.y s6.fst.d) = some (s6.fst.d), (s8.snd == (30 : Int)) = true, (s8.snd == (30 : Int)) = true, (List.map Go.Proofs.Ytanncjfbollofaa.Ab.AV.y a).length = a.length * (1 : Nat), bytesOf (List.map Go.Proofs.Ytanncjfbollofaa.Ab.AV.y a) = some (a), (s8.snd == (30 : Int)) = true, (s8.snd == (30 : Int)) = true, (s6.fst.d == a) = true, (s6.fst.d == a) = true, (s6.fst.d == a) = true, (s6.fst.d == a) = true, (s7.fst.st == (1 : Int)) = true, (s7.fst.st == (1 : Int)) = true, (s7.fst.st == (1 : Int)) = true, (List.map Go.Proofs.Ytanncjfbollofaa.Ab.AV.y s7.fst.d).length = s7.fst.d.length * (1 : Nat), bytesOf (List.map Go.Proofs.Ytanncjfbollofaa.Ab.AV.y s7.fst.d) = some (s7.fst.d), (s7.fst.st == (1 : Int)) = true, (s7.fst.st == (1 : Int)) = true, (s7.fst.st == (1 : Int)) = true, (List.map Go.Proofs.Ytanncjfbollofaa.Ab.AV.y a).length = a.length * (1 : Nat), a.length ≤ (4294967296 : Nat), (s7.fst.st == (1 : Int)) = true, (s7.fst.st == (1 : Int)) = true, (List.map Go.Proofs.Ytanncjfbollofaa.Ab.AV.y b).length = b.length * (1 : Nat), (List.map Go.Proofs.Ytanncjfbollofaa.Ab.AV.y a).length = a.length * (1 : Nat) ∧ a.length + b.length ≤ (4294967296 : Nat), (s7.fst.st == (1 : Int)) = true, (0 : Nat) = (0 : Nat) ∧ (List.map Go.Proofs.Ytanncjfbollofaa.Ab.AV.y a ++ List.map Go.Proofs.Ytanncjfbollofaa.Ab.AV.y b).length = (a.length + b.length) * (1 : Nat), bytesOf (List.map Go.Proofs.Ytanncjfbollofaa.Ab.AV.y a ++ List.map Go.Proofs.Ytanncjfbollofaa.Ab.AV.y b) = some (a ++ b), (s7.fst.st == (1 : Int)) = true, (s7.fst.st == (1 : Int)) = true, (s7.fst.d == a ++ b) = true, (s7.fst.d == a ++ b) = true, (s7.fst.d == a ++ b) = true, (s7.fst.d == a ++ b) = true, (s7.fst.d == a ++ b) = true]) (by kernel_rfl) ⟨((awake_ok  _ h0).any.cast (by first | rfl | assumption | (simp; done) | omega | (simp; omega) | (simp [imin, imax]; (repeat' split) <;> omega))), h1, h1, h1, h1, h2, h2, h2, h2, h3, h3, h3, h3, h4, ((pAppend_ok ({ st := (0 : Int), rs := (0 : Int), d := [], la := (0 : Int) }) ((700 : Int)) (a) _ h5).any.cast (by first | rfl | assumption | (simp; done) | omega | (simp; omega) | (simp [imin, imax]; (repeat' split) <;> omega))), ((pClose_ok (s5.fst) _ h6).any.cast (by first | rfl | assumption | (simp; done) | omega | (simp; omega) | (simp [imin, imax]; (repeat' split) <;> omega))), ((pAppend_ok (s6.fst) ((700 : Int)) (b) _ h7).any.cast (by first | rfl | assumption | (simp; done) | omega | (simp; omega) | (simp [imin, imax]; (repeat' split) <;> omega))), ((pClose_ok (s6.fst) _ h8).any.cast (by first | rfl | assumption | (simp; done) | omega | (simp; omega) | (simp [imin, imax]; (repeat' split) <;> omega))), ((pCrash_ok (s7.fst) ((700 : Int)) (keep) _ h9).any.cast (by first | rfl | assumption | (simp; done) | omega | (simp; omega) | (simp [imin, imax]; (repeat' split) <;> omega))), h10, h11, h11, h11, h12, h12, h12, h13, h13, h13, h14, h14, h14, h15, h15, h15, (by first | rfl | assumption | (simp; done) | omega | (simp; omega) | (simp [imin, imax]; (repeat' split) <;> omega)), (by first | rfl | assumption | (simp; done) | omega | (simp; omega) | (simp [imin, imax]; (repeat' split) <;> omega)), h15, h15, (by first | rfl | assumption | (simp; done) | omega | (simp; omega) | (simp [imin, imax]; (repeat' split) <;> omega)), (by first | rfl | assumption | (simp; done) | omega | (simp; omega) | (simp [imin, imax]; (repeat' split) <;> omega)), h15, h15, h16, h16, h16, h16, h17, h17, h17, (by first | rfl | assumption | (simp; done) | omega | (simp; omega) | (simp [imin, imax]; (repeat' split) <;> omega)), (by first | rfl | assumption | (simp; done) | omega | (simp; omega) | (simp [imin, imax]; (repeat' split) <;> omega)), h17, h17, h17, (by first | rfl | assumption | (simp; done) | omega | (simp; omega) | (simp [imin, imax]; (repeat' split) <;> omega)), h18, h17, h17, (by first | rfl | assumption | (simp; done) | omega | (simp; omega) | (simp [imin, imax]; (repeat' split) <;> omega)), h19, h17, (by first | rfl | assumption | (simp; done) | omega | (simp; omega) | (simp [imin, imax]; (repeat' split) <;> omega)), (by first | rfl | assumption | (simp; done) | omega | (simp; omega) | (simp [imin, imax]; (repeat' split) <;> omega)), h17, h17, h20, h20, h20, h20, h20, trivial⟩ (by first | rfl | assumption | (simp; done) | omega | (simp; omega) | (simp [imin, imax]; (repeat' split) <;> omega))
theorem lCloses_l5 (a : List UInt8) (b : List UInt8) (keep : Int) (s0 : Bool) (h0 : awake = some s0) (h1 : ((↑a.length : Int) == (0 : Int)) = false) (h2 : (Decidable.decide ((↑a.length : Int) > (300 : Int))) = false) (h3 : ((↑b.length : Int) == (0 : Int)) = false) (h4 : (Decidable.decide ((↑b.length : Int) > (300 : Int))) = false) (s5 : Zo × Int) (h5 : pAppend ({ st := (0 : Int), rs := (0 : Int), d := [], la := (0 : Int) }) ((700 : Int)) (a) = some s5) (s6 : Zo × Int) (h6 : pClose (s5.fst) = some s6) (s7 : Zo × Int) (h7 : pAppend (s6.fst) ((700 : Int)) (b) = some s7) (s8 : Zo × Int) (h8 : pClose (s6.fst) = some s8) (s9 : Zo) (h9 : pCrash (s7.fst) ((700 : Int)) (keep) = some s9) (h10 : ((↑s9.d.length : Int) == (0 : Int)) = false) (h11 : (s0) = true) (h12 : (s5.snd == (0 : Int)) = true) (h13 : (s6.snd == (0 : Int)) = true) (h14 : (s7.snd == (0 : Int)) = true) (h15 : (s8.snd == (30 : Int)) = true) (h16 : (s6.fst.d == a) = true) (h17 : (s7.fst.st == (1 : Int)) = true) (h18 : a.length ≤ (4294967296 : Nat)) (h19 : (List.map Go.Proofs.Ytanncjfbollofaa.Ab.AV.y a).length = a.length * (1 : Nat) ∧ a.length + b.length ≤ (4294967296 : Nat)) (h20 : (s7.fst.d == a ++ b) = true) : lCloses_G a b keep (s9.st == (2 : Int)) :=
  leafR (k := 300) (r := []) (hs := hz [(2, [.fres (.b (s0))]), (5, [.no]), (1, [.no]), (1, [.no]), (1, [.no]), (1, [.no]), (1, [.no]), (1, [.no]), (1, [.no]), (1, [.no]), (1, [.no]), (1, [.no]), (1, [.no, .no]), (3, [.fres (.tu [Zo.av (s5.1), .i (s5.2)])]), (9, [.fres (.tu [Zo.av (s6.1), .i (s6.2)])]), (10, [.fres (.tu [Zo.av (s7.1), .i (s7.2)])]), (9, [.fres (.tu [Zo.av (s8.1), .i (s8.2)])]), (10, [.fres (Zo.av (s9))]), (8, [.no]), (2, [.yes]), (1, [.yes]), (1, [.yes]), (1, [.yes]), (1, [.yes]), (1, [.yes]), (1, [.yes]), (1, [.yes]), (1, [.yes]), (1, [.yes]), (1, [.yes]), (1, [.yes]), (1, [.yes]), (1, [.yes]), (2, [.yes, .yes, .str (s6.fst.d), .yes]), (1, [.yes, .yes, .str (a), .yes]), (1, [.yes]), (1, [.yes]), (1, [.yes]), (2, [.yes]), (1, [.yes]), (1, [.yes]), (1, [.yes]), (2, [.yes, .yes, .str (s7.fst.d), .yes]), (1, [.yes]), (1, [.yes, .yes, .yes, .yes]), (1, [.yes, .yes, .yes, .yes, .yes, .str (a ++ b), .yes]), (1, [.yes]), (1, [.yes]), (1, [.yes]), (2, [.yes]), (1, [.yes]), (1, [.yes]), (1, [])]) (raw := Go.Proofs.Ytanncjfbollofaa.Ab.AV.b (s9.st == (2 : Int))) (ps := [EvFr Try.prog cf Bool.false 10 [] (.b (s0)), ((↑a.length : Int) == (0 : Int)) = false, ((↑a.length : Int) == (0 : Int)) = false, ((↑a.length : Int) == (0 : Int)) = false, ((↑a.length : Int) == (0 : Int)) = false, (Decidable.decide ((↑a.length : Int) > (300 : Int))) = false, (Decidable.decide ((↑a.length : Int) > (300 : Int))) = false, (Decidable.decide ((↑a.length : Int) > (300 : Int))) = false, (Decidable.decide ((↑a.length : Int) > (300 : Int))) = false, ((↑b.length : Int) == (0 : Int)) = false, ((↑b.length : Int) == (0 : Int)) = false, ((↑b.length : Int) == (0 : Int)) = false, ((↑b.length : Int) == (0 : Int)) = false, (Decidable.decide ((↑b.length : Int) > (300 : Int))) = false, EvFr Try.prog cf Bool.false 11 [Go.Proofs.Ytanncjfbollofaa.Ab.AV.ag [Go.Proofs.Ytanncjfbollofaa.Ab.AV.i (0 : Int), Go.Proofs.Ytanncjfbollofaa.Ab.AV.i (0 : Int), Go.Proofs.Ytanncjfbollofaa.Ab.AV.sl (0 : Nat) [], Go.Proofs.Ytanncjfbollofaa.Ab.AV.i (0 : Int)], Go.Proofs.Ytanncjfbollofaa.Ab.AV.i (700 : Int), Go.Proofs.Ytanncjfbollofaa.Ab.AV.sl a.length (List.map Go.Proofs.Ytanncjfbollofaa.Ab.AV.y a)] (.tu [Zo.av (s5.1), .i (s5.2)]), EvFr Try.prog cf Bool.false 16 [Go.Proofs.Ytanncjfbollofaa.Ab.AV.ag [Go.Proofs.Ytanncjfbollofaa.Ab.AV.i s5.fst.st, Go.Proofs.Ytanncjfbollofaa.Ab.AV.i s5.fst.rs, Go.Proofs.Ytanncjfbollofaa.Ab.AV.sl s5.fst.d.length (List.map Go.Proofs.Ytanncjfbollofaa.Ab.AV.y s5.fst.d), Go.Proofs.Ytanncjfbollofaa.Ab.AV.i s5.fst.la]] (.tu [Zo.av (s6.1), .i (s6.2)]), EvFr Try.prog cf Bool.false 11 [Go.Proofs.Ytanncjfbollofaa.Ab.AV.ag [Go.Proofs.Ytanncjfbollofaa.Ab.AV.i s6.fst.st, Go.Proofs.Ytanncjfbollofaa.Ab.AV.i s6.fst.rs, Go.Proofs.Ytanncjfbollofaa.Ab.AV.sl s6.fst.d.length (List.map Go.Proofs.Ytanncjfbollofaa.Ab.AV.y s6.fst.d), Go.Proofs.Ytanncjfbollofaa.Ab.AV.i s6.fst.la], Go.Proofs.Ytanncjfbollofaa.Ab.AV.i (700 : Int), Go.Proofs.Ytanncjfbollofaa.Ab.AV.sl b.length (List.map Go.Proofs.Ytanncjfbollofaa.Ab.AV.y b)] (.tu [Zo.av (s7.1), .i (s7.2)]), EvFr Try.prog cf Bool.false 16 [Go.Proofs.Ytanncjfbollofaa.Ab.AV.ag [Go.Proofs.Ytanncjfbollofaa.Ab.AV.i s6.fst.st, Go.Proofs.Ytanncjfbollofaa.Ab.AV.i s6.fst.rs, Go.Proofs.Ytanncjfbollofaa.Ab.AV.sl s6.fst.d.length (List.map Go.Proofs.Ytanncjfbollofaa.Ab.AV.y s6.fst.d), Go.Proofs.Ytanncjfbollofaa.Ab.AV.i s6.fst.la]] (.tu [Zo.av (s8.1), .i (s8.2)]), EvFr Try.prog cf Bool.false 17 [Go.Proofs.Ytanncjfbollofaa.Ab.AV.ag [Go.Proofs.Ytanncjfbollofaa.Ab.AV.i s7.fst.st, Go.Proofs.Ytanncjfbollofaa.Ab.AV.i s7.fst.rs, Go.Proofs.Ytanncjfbollofaa.Ab.AV.sl s7.fst.d.length (List.map Go.Proofs.Ytanncjfbollofaa.Ab.AV.y s7.fst.d), Go.Proofs.Ytanncjfbollofaa.Ab.AV.i s7.fst.la], Go.Proofs.Ytanncjfbollofaa.Ab.AV.i (700 : Int), Go.Proofs.Ytanncjfbollofaa.Ab.AV.i keep] (Zo.av (s9)), ((↑s9.d.length : Int) == (0 : Int)) = false, (s0) = true, (s0) = true, (s0) = true, (s5.snd == (0 : Int)) = true, (s5.snd == (0 : Int)) = true, (s5.snd == (0 : Int)) = true, (s6.snd == (0 : Int)) = true, (s6.snd == (0 : Int)) = true, (s6.snd == (0 : Int)) = true, (s7.snd == (0 : Int)) = true, (s7.snd == (0 : Int)) = true, (s7.snd == (0 : Int)) = true, (s8.snd == (30 : Int)) = true, (s8.snd == (30 : Int)) = true, (s8.snd == (30 : Int)) = true, (List.map Go.Proofs.Ytanncjfbollofaa.Ab.AV.y s6.fst.d).length = s6.fst.d.length * (1 : Nat), bytesOf (List.map Go.Proofs.Ytanncjfbollofaa.Ab.AV.y s6.fst.d) = some (s6.fst.d), (s8.snd == (30 : Int)) = true, (s8.snd == (30 : Int)) = true, (List.map Go.Proofs.Ytanncjfbollofaa.Ab.AV.y a).length = a.length * (1 : Nat), bytesOf (List.map Go.Proofs.Ytanncjfbollofaa.Ab.AV.y a) = some (a), (s8.snd == (30 : Int)) = true, (s8.snd == (30 : Int)) = true, (s6.fst.d == a) = true, (s6.fst.d == a) = true, (s6.fst.d == a) = true, (s6.fst.d == a) = true, (s7.fst.st == (1 : Int)) = true, (s7.fst.st == (1 : Int)) = true, (s7.fst.st == (1 : Int)) = true, (List.map Go.Proofs.Ytanncjfbollofaa.Ab.AV.y s7.fst.d).length = s7.fst.d.length * (1 : Nat), bytesOf (List.map Go.Proofs.Ytanncjfbollofaa.Ab.AV.y s7.fst.d) = some (s7.fst.d), (s7.fst.st == (1 : Int)) = true, (s7.fst.st == (1 : Int)) = true, (s7.fst.st == (1 : Int)) = true, (List.map Go.Proofs.Ytanncjfbollofaa.Ab.AV.y a).length = a.length * (1 : Nat), a.length ≤ (4294967296 : Nat), (s7.fst.st == (1 : Int)) = true, (s7.fst.st == (1 : Int)) = true, (List.map Go.Proofs.Ytanncjfbollofaa.Ab.AV.y b).length = b.length * (1 : Nat), (List.map Go.Proofs.Ytanncjfbollofaa.Ab.AV.y a).length = a.length * (1 : Nat) ∧ a.length + b.length ≤ (4294967296 : Nat), (s7.fst.st == (1 : Int)) = true, (0 : Nat) = (0 : Nat) ∧ (List.map Go.Proofs.Ytanncjfbollofaa.Ab.AV.y a ++ List.map Go.Proofs.Ytanncjfbollofaa.Ab.AV.y b).length = (a.length + b.length) * (1 : Nat), bytesOf (List.map Go.Proofs.Ytanncjfbollofaa.Ab.AV.y a ++ List.map Go.Proofs.Ytanncjfbollofaa.Ab.AV.y b) = some (a ++ b), (s7.fst.st == (1 : Int)) = true, (s7.fst.st == (1 : Int)) = true, (s7.fst.d == a ++ b) = true, (s7.fst.d == a ++ b) = true, (s7.fst.d == a ++ b) = true, (s7.fst.d == a ++ b) = true, (s7.fst.d == a ++ b) = true]) (by kernel_rfl) ⟨((awake_ok  _ h0).any.cast (by first | rfl | assumption | (simp; done) | omega | (simp; omega) | (simp [imin, imax]; (repeat' split) <;> omega))), h1, h1, h1, h1, h2, h2, h2, h2, h3, h3, h3, h3, h4, ((pAppend_ok ({ st := (0 : Int), rs := (0 : Int), d := [], la := (0 : Int) }) ((700 : Int)) (a) _ h5).any.cast (by first | rfl | assumption | (simp; done) | omega | (simp; omega) | (simp [imin, imax]; (repeat' split) <;> omega))), ((pClose_ok (s5.fst) _ h6).any.cast (by first | rfl | assumption | (simp; done) | omega | (simp; omega) | (simp [imin, imax]; (repeat' split) <;> omega))), ((pAppend_ok (s6.fst) ((700 : Int)) (b) _ h7).any.cast (by first | rfl | assumption | (simp; done) | omega | (simp; omega) | (simp [imin, imax]; (repeat' split) <;> omega))), ((pClose_ok (s6.fst) _ h8).any.cast (by first | rfl | assumption | (simp; done) | omega | (simp; omega) | (simp [imin, imax]; (repeat' split) <;> omega))), ((pCrash_ok (s7.fst) ((700 : Int)) (keep) _ h9).any.cast (by first | rfl | assumption | (simp; done) | omega | (simp; omega) | (simp [imin, imax]; (repeat' split) <;> omega))), h10, h11, h11, h11, h12, h12, h12, h13, h13, h13, h14, h14, h14, h15, h15, h15, (by first | rfl | assumption | (simp; done) | omega | (simp; omega) | (simp [imin, imax]; (repeat' split) <;> omega)), (by first | rfl | assumption | (simp; done) | omega | (simp; omega) | (simp [imin, imax]; (repeat' split) <;> omega)), h15, h15, (by first | rfl | assumption | (simp; done) | omega | (simp; omega) | (simp [imin, imax]; (repeat' split) <;> omega)), (by first | rfl | assumption | (simp; done) | omega | (simp; omega) | (simp [imin, imax]; (repeat' split) <;> omega)), h15, h15, h16, h16, h16, h16, h17, h17, h17, (by first | rfl | assumption | (simp; done) | omega | (simp; omega) | (simp [imin, imax]; (repeat' split) <;> omega)), (by first | rfl | assumption | (simp; done) | omega | (simp; omega) | (simp [imin, imax]; (repeat' split) <;> omega)), h17, h17, h17, (by first | rfl | assumption | (simp; done) | omega | (simp; omega) | (simp [imin, imax]; (repeat' split) <;> omega)), h18, h17, h17, (by first | rfl | assumption | (simp; done) | omega | (simp; omega) | (simp [imin, imax]; (repeat' split) <;> omega)), h19, h17, (by first | rfl | assumption | (simp; done) | omega | (simp; omega) | (simp [imin, imax]; (repeat' split) <;> omega)), (by first | rfl | assumption | (simp; done) | omega | (simp; omega) | (simp [imin, imax]; (repeat' split) <;> omega)), h17, h17, h20, h20, h20, h20, h20, trivial⟩ (by first | rfl | assumption | (simp; done) | omega | (simp; omega) | (simp [imin, imax]; (repeat' split) <;> omega))
theorem lCloses_ok (a : List UInt8) (b : List UInt8) (keep : Int) (r : Bool) : lCloses a b keep = some r → lCloses_G a b keep r := by
  unfold lCloses
  refine tc_ok (fun s0 h0 => ?_)
  refine tb_ok (fun h1 => ?_) (fun h1 => ?_)
  ·
    exact fun e => tl_ok (G := lCloses_G a b keep) (lCloses_l0 a b keep s0 h0 h1) e
  ·
    refine tb_ok (fun h2 => ?_) (fun h2 => ?_)
    ·
      exact fun e => tl_ok (G := lCloses_G a b keep) (lCloses_l1 a b keep s0 h0 h1 h2) e
    ·
      refine tb_ok (fun h3 => ?_) (fun h3 => ?_)
      ·
        exact fun e => tl_ok (G := lCloses_G a b keep) (lCloses_l2 a b keep s0 h0 h1 h2 h3) e
      ·
        refine tb_ok (fun h4 => ?_) (fun h4 => ?_)
        ·
          exact fun e => tl_ok (G := lCloses_G a b keep) (lCloses_l3 a b keep s0 h0 h1 h2 h3 h4) e
        ·
          refine tc_ok (fun s5 h5 => ?_)
          refine tc_ok (fun s6 h6 => ?_)
          refine tc_ok (fun s7 h7 => ?_)
          refine tc_ok (fun s8 h8 => ?_)
          refine tc_ok (fun s9 h9 => ?_)
          refine tb_ok (fun h10 => ?_) (fun h10 => ?_)
          ·
            refine tb_ok (fun h11 => ?_) (fun h11 => ?_)
            ·
              refine tb_ok (fun h12 => ?_) (fun h12 => ?_)
              ·
                refine tb_ok (fun h13 => ?_) (fun h13 => ?_)
                ·
                  refine tb_ok (fun h14 => ?_) (fun h14 => ?_)
                  ·
                    refine tb_ok (fun h15 => ?_) (fun h15 => ?_)
                    ·
                      refine tb_ok (fun h16 => ?_) (fun h16 => ?_)
                      ·
                        refine tb_ok (fun h17 => ?_) (fun h17 => ?_)
                        ·
                          refine tp_ok (fun h18 => ?_)
                          refine tp_ok (fun h19 => ?_)
                          refine tb_ok (fun h20 => ?_) (fun h20 => ?_)
                          ·
                            exact fun e => tl_ok (G := lCloses_G a b keep) (lCloses_l4 a b keep s0 h0 h1 h2 h3 h4 s5 h5 s6 h6 s7 h7 s8 h8 s9 h9 h10 h11 h12 h13 h14 h15 h16 h17 h18 h19 h20) e
                          ·
                            exact fun e => nomatch e
                        ·
                          exact fun e => nomatch e
                      ·
                        exact fun e => nomatch e
                    ·
                      exact fun e => nomatch e
                  ·
                    exact fun e => nomatch e
                ·
                  exact fun e => nomatch e
              ·
                exact fun e => nomatch e
            ·
              exact fun e => nomatch e
          ·
            refine tb_ok (fun h11 => ?_) (fun h11 => ?_)
            ·
              refine tb_ok (fun h12 => ?_) (fun h12 => ?_)
              ·
                refine tb_ok (fun h13 => ?_) (fun h13 => ?_)
                ·
                  refine tb_ok (fun h14 => ?_) (fun h14 => ?_)
                  ·
                    refine tb_ok (fun h15 => ?_) (fun h15 => ?_)
                    ·
                      refine tb_ok (fun h16 => ?_) (fun h16 => ?_)
                      ·
                        refine tb_ok (fun h17 => ?_) (fun h17 => ?_)
                        ·
                          refine tp_ok (fun h18 => ?_)
                          refine tp_ok (fun h19 => ?_)
                          refine tb_ok (fun h20 => ?_) (fun h20 => ?_)
                          ·
                            exact fun e => tl_ok (G := lCloses_G a b keep) (lCloses_l5 a b keep s0 h0 h1 h2 h3 h4 s5 h5 s6 h6 s7 h7 s8 h8 s9 h9 h10 h11 h12 h13 h14 h15 h16 h17 h18 h19 h20) e
                          ·
                            exact fun e => nomatch e
                        ·
                          exact fun e => nomatch e
                      ·
                        exact fun e => nomatch e
                    ·
                      exact fun e => nomatch e
                  ·
                    exact fun e => nomatch e
                ·
                  exact fun e => nomatch e
              ·
                exact fun e => nomatch e
            ·
              exact fun e => nomatch e
end Ab
end Go.Proofs.Ytanncjfbollofaa
