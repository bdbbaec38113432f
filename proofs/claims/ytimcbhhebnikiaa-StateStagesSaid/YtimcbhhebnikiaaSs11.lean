/- The law 'StateStages': it returns true, and nothing that was there changes. No condition. (Part 11 of 12.) -/
import Derived.Test.YtimcbhhebnikiaaSs10
import Derived.Test.YtimcbhhebnikiaaRows
namespace Go.Proofs.Ytimcbhhebnikiaa
open Go Go.Proofs.Ytimcbhhebnikiaa.Ab
set_option linter.unusedVariables false
set_option linter.unusedSimpArgs false
set_option maxRecDepth 1000000
set_option maxHeartbeats 0
namespace Ab
/-- Function 8, as it answers. -/
noncomputable def lStateStages (blocks : UInt8) (a : List UInt8) (b : List UInt8) : Option (Bool) :=
 (tc (aw11) fun s0 =>
  (tb (((↑(List.length a) : Int) == (0 : Int)))
   (some (s0))
   (tb ((decide ((↑(List.length a) : Int) > (300 : Int))))
    (some (s0))
    (tb (((↑(List.length b) : Int) == (0 : Int)))
     (some (s0))
     (tb ((decide ((↑(List.length b) : Int) > (300 : Int))))
      (some (s0))
      (tc (sNew ((wr ((1 : Int) + (wr (↑(UInt8.toNat (blocks % (UInt8.ofNat (8 : Nat)))) : Int)))))) fun s5 =>
       (tc (sDo (s5.1) ((Ch.mk 6 0 0 0 a ([] : List Ex)))) fun s6 =>
        (tc (sDo (s6.1) ((Ch.mk 6 0 0 0 b ([] : List Ex)))) fun s7 =>
         (tc (sDo (s5.1) ((Ch.mk 6 0 0 0 (a ++ b) ([] : List Ex)))) fun s8 =>
          (tc (sDo (s7.1) ((Ch.mk 7 0 0 0 ([] : List UInt8) ([] : List Ex)))) fun s9 =>
           (tb ((s5.2 == (0 : Int)))
            (tb ((s6.2 == (0 : Int)))
             (tb ((s7.2 == (0 : Int)))
              (tb ((s8.2 == (0 : Int)))
               (tb (s0)
                (tb ((s9.2 == (0 : Int)))
                 (tb ((s7.1.staged == s8.1.staged))
                  (tb (((↑(List.length s7.1.staged) : Int) == (wr ((↑(List.length a) : Int) + (↑(List.length b) : Int)))))
                   (tb (((↑(List.length s9.1.staged) : Int) == (0 : Int)))
                    (tb (((↑(List.length s7.1.map) : Int) == (↑(List.length s5.1.map) : Int)))
                     (tb ((s7.1.gen == s5.1.gen))
                      (tb (((↑(List.length s7.1.points) : Int) == (0 : Int)))
                       (some ((s9.1.last == (0 : Int))))
                       none /- false -/)
                      none /- false -/)
                     none /- false -/)
                    none /- false -/)
                   none /- false -/)
                  none /- false -/)
                 none /- false -/)
                none /- false -/)
               none /- false -/)
              none /- false -/)
             none /- false -/)
            none /- false -/)))))))))))
abbrev lStateStages_G (blocks : UInt8) (a : List UInt8) (b : List UInt8) (r : Bool) : Prop := EvFr Try.prog cf false 8 [.y (blocks), bys (a), bys (b)] (.b (r))
theorem lStateStages_ok (blocks : UInt8) (a : List UInt8) (b : List UInt8) (r : Bool) : lStateStages blocks a b = some r → lStateStages_G blocks a b r := by
  unfold lStateStages
  refine tc_ok (fun s0 h0 => ?_)
  refine tb_ok (fun h1 => ?_) (fun h1 => ?_)
  ·
    have h1p := eq_of_beq h1
    intro e; injection e with e; subst e
    exact leafR vw_eq (k := 300) (r := []) (hs := hz [(2, [.fres (.b (s0))]), (5, [.yes, .yes, .yes, .yes]), (13, [])]) (raw := (AV.b s0)) kq (ac (aw11_ok  _ h0).any0 (ac h1 (ac h1 (ac h1 (ac h1 an))))) tq
  ·
    have h1p := ne_of_beq_false h1
    refine tb_ok (fun h2 => ?_) (fun h2 => ?_)
    ·
      have h2p := of_decide_eq_true h2
      intro e; injection e with e; subst e
      exact leafR vw_eq (k := 300) (r := []) (hs := hz [(2, [.fres (.b (s0))]), (5, [.no]), (1, [.no]), (1, [.no]), (1, [.no]), (1, [.yes, .yes, .yes, .yes]), (8, [])]) (raw := (AV.b s0)) kq (ac (aw11_ok  _ h0).any0 (ac h1 (ac h1 (ac h1 (ac h1 (ac h2 (ac h2 (ac h2 (ac h2 an))))))))) tq
    ·
      have h2p := of_decide_eq_false h2
      refine tb_ok (fun h3 => ?_) (fun h3 => ?_)
      ·
        have h3p := eq_of_beq h3
        intro e; injection e with e; subst e
        exact leafR vw_eq (k := 300) (r := []) (hs := hz [(2, [.fres (.b (s0))]), (5, [.no]), (1, [.no]), (1, [.no]), (1, [.no]), (1, [.no]), (1, [.no]), (1, [.no]), (1, [.no]), (1, [.yes, .yes, .yes, .yes]), (3, [])]) (raw := (AV.b s0)) kq (ac (aw11_ok  _ h0).any0 (ac h1 (ac h1 (ac h1 (ac h1 (ac h2 (ac h2 (ac h2 (ac h2 (ac h3 (ac h3 (ac h3 (ac h3 an))))))))))))) tq
      ·
        have h3p := ne_of_beq_false h3
        refine tb_ok (fun h4 => ?_) (fun h4 => ?_)
        ·
          have h4p := of_decide_eq_true h4
          intro e; injection e with e; subst e
          exact leafR vw_eq (k := 300) (r := []) (hs := hz [(2, [.fres (.b (s0))]), (5, [.no]), (1, [.no]), (1, [.no]), (1, [.no]), (1, [.no]), (1, [.no]), (1, [.no]), (1, [.no]), (1, [.no]), (1, [.no]), (1, [.no]), (1, [.no, .yes]), (2, [])]) (raw := (AV.b s0)) kq (ac (aw11_ok  _ h0).any0 (ac h1 (ac h1 (ac h1 (ac h1 (ac h2 (ac h2 (ac h2 (ac h2 (ac h3 (ac h3 (ac h3 (ac h3 (ac h4 an)))))))))))))) tq
        ·
          have h4p := of_decide_eq_false h4
          refine tc_ok (fun s5 h5 => ?_)
          refine tc_ok (fun s6 h6 => ?_)
          refine tc_ok (fun s7 h7 => ?_)
          refine tc_ok (fun s8 h8 => ?_)
          refine tc_ok (fun s9 h9 => ?_)
          refine tb_ok (fun h10 => ?_) (fun h10 => ?_)
          ·
            have h10p := eq_of_beq h10
            refine tb_ok (fun h11 => ?_) (fun h11 => ?_)
            ·
              have h11p := eq_of_beq h11
              refine tb_ok (fun h12 => ?_) (fun h12 => ?_)
              ·
                have h12p := eq_of_beq h12
                refine tb_ok (fun h13 => ?_) (fun h13 => ?_)
                ·
                  have h13p := eq_of_beq h13
                  refine tb_ok (fun h14 => ?_) (fun h14 => ?_)
                  ·
                    refine tb_ok (fun h15 => ?_) (fun h15 => ?_)
                    ·
                      have h15p := eq_of_beq h15
                      refine tb_ok (fun h16 => ?_) (fun h16 => ?_)
                      ·
                        refine tb_ok (fun h17 => ?_) (fun h17 => ?_)
                        ·
                          have h17p := eq_of_beq h17
                          refine tb_ok (fun h18 => ?_) (fun h18 => ?_)
                          ·
                            have h18p := eq_of_beq h18
                            refine tb_ok (fun h19 => ?_) (fun h19 => ?_)
                            ·
                              have h19p := eq_of_beq h19
                              refine tb_ok (fun h20 => ?_) (fun h20 => ?_)
                              ·
                                have h20p := eq_of_beq h20
                                refine tb_ok (fun h21 => ?_) (fun h21 => ?_)
                                ·
                                  have h21p := eq_of_beq h21
                                  intro e; injection e with e; subst e
                                  exact leafR vw_eq (k := 300) (r := []) (hs := hz [(2, [.fres (.b (s0))]), (5, [.no]), (1, [.no]), (1, [.no]), (1, [.no]), (1, [.no]), (1, [.no]), (1, [.no]), (1, [.no]), (1, [.no]), (1, [.no]), (1, [.no]), (1, [.no, .no]), (4, [.fres (.tu [Sa.av (s5.1), .i (s5.2)])]), (5, [.fc]), (2, [.fc]), (3, [.fres (.tu [Sa.av (s6.1), .i (s6.2)])]), (5, [.fc]), (2, [.fc]), (3, [.fres (.tu [Sa.av (s7.1), .i (s7.2)])]), (5, [.fc]), (2, [.fc]), (2, [.yes, .yes]), (1, [.yes, .yes]), (2, [.yes, .yes, .fres (.tu [Sa.av (s8.1), .i (s8.2)])]), (5, [.fc]), (1, [.yes]), (1, [.fc]), (2, [.fres (.tu [Sa.av (s9.1), .i (s9.2)])]), (5, [.fc]), (4, [.yes]), (1, [.yes]), (1, [.yes]), (1, [.yes]), (1, [.yes]), (1, [.yes]), (1, [.yes]), (1, [.yes]), (1, [.yes]), (1, [.yes]), (1, [.yes]), (1, [.yes]), (3, [.yes]), (1, [.yes]), (1, [.yes]), (1, [.yes]), (2, [.yes, .yes, .str (s7.1.staged), .yes]), (1, [.yes]), (2, [.yes, .yes, .str (s8.1.staged), .yes]), (1, [.yes]), (1, [.yes]), (1, [.yes]), (2, [.yes]), (1, [.yes]), (1, [.yes]), (1, [.yes]), (1, [.yes]), (1, [.yes]), (1, [.yes]), (1, [.yes]), (1, [.yes]), (1, [.yes]), (2, [.yes]), (1, [.yes]), (1, [.yes]), (1, [.yes]), (1, [.yes]), (2, [.yes]), (1, [.yes]), (1, [.yes]), (2, [.yes]), (1, [.yes]), (1, [.yes]), (1, [.yes]), (1, [.yes]), (2, [.yes]), (1, [.yes]), (2, [.yes]), (1, [.yes]), (1, [.yes]), (1, [.yes]), (2, [.yes]), (1, [.yes]), (1, [.yes]), (1, [.yes]), (1, [.yes]), (2, [.yes]), (1, [.yes]), (1, [])]) (raw := (AV.b (s9.1.last == (0 : Int)))) kq (ac (aw11_ok  _ h0).any0 (ac h1 (ac h1 (ac h1 (ac h1 (ac h2 (ac h2 (ac h2 (ac h2 (ac h3 (ac h3 (ac h3 (ac h3 (ac h4 (ac (sNew_ok ((wr ((1 : Int) + (wr (↑(UInt8.toNat (blocks % (UInt8.ofNat (8 : Nat)))) : Int))))) _ h5) (ac (sDo_ok (s5.1) ((Ch.mk 6 0 0 0 a ([] : List Ex))) _ h6) (ac (sDo_ok (s6.1) ((Ch.mk 6 0 0 0 b ([] : List Ex))) _ h7) (ac (tq (p := ((List.length (List.map AV.y a)) = ((List.length a) * (1 : Nat))))) (ac (fq (p := ((List.length a) ≤ (4294967296 : Nat)))) (ac (tq (p := ((List.length (List.map AV.y b)) = ((List.length b) * (1 : Nat))))) (ac (fq (p := (((List.length (List.map AV.y a)) = ((List.length a) * (1 : Nat))) ∧ (((List.length a) + (List.length b)) ≤ (4294967296 : Nat))))) (ac (tq (p := (((0 : Nat) = (0 : Nat)) ∧ ((List.length ((List.map AV.y a) ++ (List.map AV.y b))) = (((List.length a) + (List.length b)) * (1 : Nat)))))) (ac (pq (p := Pl Bool.false (((List.map AV.y a) ++ (List.map AV.y b))))) (ac (show EvFr Try.prog cf Bool.false 29 [(AV.ag [(AV.i s5.1.blocks), (AV.i s5.1.gen), (AV.sl (List.length s5.1.map) (List.flatMap Ex.cells s5.1.map)), (AV.sl (List.length s5.1.points) (List.flatMap Po.cells s5.1.points)), (AV.i s5.1.last), (AV.sl (List.length s5.1.staged) (List.map AV.y s5.1.staged))]), (AV.ag [(AV.i 6), (AV.i 0), (AV.i 0), (AV.i 0), (AV.sl ((List.length a) + (List.length b)) ((List.map AV.y a) ++ (List.map AV.y b))), (AV.sl 0 ([] : List AV))])] (.tu [Sa.av (s8.1), .i (s8.2)]) from ((sDo_ok (s5.1) ((Ch.mk 6 0 0 0 (a ++ b) ([] : List Ex))) _ h8).cast tq)) (ac (show orderOk (rg Try.prog 8 0) = true ∧ allOk (Region.before (rg Try.prog 8 0)) [] 0 [(some [0], some []), (some [], some []), (some [], some []), (some [], some [3]), (some [], some []), (some [3], some [3, 4]), (some [], some []), (some [4], some [4]), (some [], some []), (some [], some []), (some [], some []), (some [], some [5]), (some [5], some [5]), (some [], some [])] = true from (ord_of ord_8_0 bef_8_0 kq)) (ac (sDo_ok (s7.1) ((Ch.mk 7 0 0 0 ([] : List UInt8) ([] : List Ex))) _ h9) (ac h10 (ac h10 (ac h10 (ac h11 (ac h11 (ac h11 (ac h12 (ac h12 (ac h12 (ac h13 (ac h13 (ac h13 (ac h14 (ac h14 (ac h15 (ac h15 (ac h15 (ac (tq (p := ((List.length (List.map AV.y s7.1.staged)) = ((List.length s7.1.staged) * (1 : Nat))))) (ac (tq (p := bytesOf ((List.map AV.y s7.1.staged)) = some (s7.1.staged))) (ac h15 (ac h15 (ac h15 (ac (tq (p := ((List.length (List.map AV.y s8.1.staged)) = ((List.length s8.1.staged) * (1 : Nat))))) (ac (tq (p := bytesOf ((List.map AV.y s8.1.staged)) = some (s8.1.staged))) (ac h15 (ac h15 (ac h16 (ac h16 (ac h16 (ac h16 (ac h16 (ac h16 (ac h16 (ac h16 (ac h16 (ac h16 (ac h17 (ac h17 (ac h17 (ac h17 (ac h17 (ac h18 (ac h18 (ac h18 (ac h18 (ac h18 (ac h18 (ac h18 (ac h18 (ac h19 (ac h19 (ac h19 (ac h19 (ac h19 (ac h19 (ac h20 (ac h20 (ac h20 (ac h20 (ac h20 (ac h21 (ac h21 (ac h21 (ac h21 an)))))))))))))))))))))))))))))))))))))))))))))))))))))))))))))))))))))))))))))))))))))))))) tq
                                ·
                                  have h21p := ne_of_beq_false h21
                                  exact fun e => nomatch e
                              ·
                                have h20p := ne_of_beq_false h20
                                exact fun e => nomatch e
                            ·
                              have h19p := ne_of_beq_false h19
                              exact fun e => nomatch e
                          ·
                            have h18p := ne_of_beq_false h18
                            exact fun e => nomatch e
                        ·
                          have h17p := ne_of_beq_false h17
                          exact fun e => nomatch e
                      ·
                        exact fun e => nomatch e
                    ·
                      have h15p := ne_of_beq_false h15
                      exact fun e => nomatch e
                  ·
                    exact fun e => nomatch e
                ·
                  have h13p := ne_of_beq_false h13
                  exact fun e => nomatch e
              ·
                have h12p := ne_of_beq_false h12
                exact fun e => nomatch e
            ·
              have h11p := ne_of_beq_false h11
              exact fun e => nomatch e
          ·
            have h10p := ne_of_beq_false h10
            exact fun e => nomatch e
end Ab
end Go.Proofs.Ytimcbhhebnikiaa
namespace Go.Proofs.Ytimcbhhebnikiaa
open Go Go.Proofs.Ytimcbhhebnikiaa.Ab
set_option linter.unusedVariables false
set_option linter.unusedSimpArgs false
namespace Ab
theorem do_stage {s : Sa} {d : List UInt8} (hz : Sz s) (hs : SOk s) (h1 : 1 ≤ d.length) (h2 : d.length ≤ 1000) (h3 : d.length + s.staged.length ≤ 4000) : sDo s ⟨6, 0, 0, 0, d, []⟩ = some (⟨s.blocks, s.gen, s.map, s.points, s.last, s.staged ++ d⟩, 0) := by
  rw [sDo_eq hz ⟨by show d.length ≤ 1000000; omega, by simp [Sx]⟩, doS_t hs (.inr (.inr (.inr (.inl ⟨rfl, ⟨rfl, rfl⟩, rfl, ⟨h1, h2⟩, rfl⟩))))]
  show some (stS s d) = _
  unfold stS
  rw [if_neg (by omega)]
theorem do_abort {s : Sa} (hz : Sz s) (hs : SOk s) : sDo s ⟨7, 0, 0, 0, [], []⟩ = some (abS s, 0) := by
  rw [sDo_eq hz ⟨by simp, by simp [Sx]⟩, doS_t hs (.inr (.inr (.inr (.inr (.inl ⟨rfl, ⟨rfl, rfl⟩, rfl, rfl, rfl⟩)))))]
  rfl
theorem lStateStages_true (blocks : UInt8) (a b : List UInt8) : lStateStages blocks a b = some true := by
  unfold lStateStages
  have ha : aw11 = some true := rfl
  simp only [ha, tc_some, tb_beq, tb_dec]
  by_cases a0 : (a.length : Int) = 0
  · rw [if_pos a0]
  by_cases a1 : (a.length : Int) > 300
  · rw [if_neg a0, if_pos a1]
  by_cases b0 : (b.length : Int) = 0
  · rw [if_neg a0, if_neg a1, if_pos b0]
  by_cases b1 : (b.length : Int) > 300
  · rw [if_neg a0, if_neg a1, if_neg b0, if_pos b1]
  rw [if_neg a0, if_neg a1, if_neg b0, if_neg b1]
  have hm : (blocks % UInt8.ofNat 8).toNat < 8 := by
    rw [UInt8.toNat_mod]; exact Nat.mod_lt _ (by decide)
  generalize (blocks % UInt8.ofNat 8).toNat = m at hm
  rw [wr_id (x := (m : Int)) (by omega) (by omega), wr_id (x := 1 + (m : Int)) (by omega) (by omega), sNew_eq, tc_some, nw_eq (by omega)]
  have hs := s1_ok (b := 1 + (m : Int)) (by omega)
  have hz := s1_sz (1 + (m : Int))
  have e0 : (s1 (1 + (m : Int))).staged.length = 0 := rfl
  have e1 : (s1 (1 + (m : Int))).points.length = 0 ∧ (s1 (1 + (m : Int))).last = 0 := ⟨rfl, rfl⟩
  generalize s1 (1 + (m : Int)) = s at hs hz e0 e1 ⊢
  dsimp only
  have hp : s.points.length = 0 ∧ s.last = 0 := e1
  have ha1 : 1 ≤ a.length ∧ a.length ≤ 300 := by omega
  have hb1 : 1 ≤ b.length ∧ b.length ≤ 300 := by omega
  rw [do_stage hz hs (by omega) (by omega) (by omega), tc_some]
  have hs1 : SOk ⟨s.blocks, s.gen, s.map, s.points, s.last, s.staged ++ a⟩ := ok_staged hs (by simp; omega)
  have hz1 : Sz ⟨s.blocks, s.gen, s.map, s.points, s.last, s.staged ++ a⟩ := ⟨hz.1, hz.2.1, hz.2.2.1, by simp; omega⟩
  dsimp only
  rw [do_stage hz1 hs1 (by omega) (by omega) (by simp; omega), tc_some, do_stage hz hs (by simp; omega) (by simp; omega) (by simp; omega), tc_some]
  have hs2 : SOk ⟨s.blocks, s.gen, s.map, s.points, s.last, (s.staged ++ a) ++ b⟩ := ok_staged hs (by simp; omega)
  have hz2 : Sz ⟨s.blocks, s.gen, s.map, s.points, s.last, (s.staged ++ a) ++ b⟩ := ⟨hz.1, hz.2.1, hz.2.2.1, by simp; omega⟩
  dsimp only
  rw [do_abort hz2 hs2, tc_some]
  have w : wr ((a.length : Int) + (b.length : Int)) = (a.length : Int) + b.length := wr_id (by omega) (by omega)
  simp only [abS, w, List.append_assoc, beq_self_eq_true, tb_t, if_true, List.length_append, List.length_nil, hp.2]
  rw [if_pos (by omega), if_pos (by simp), if_pos (by omega)]
theorem stateStages_call (blocks : UInt8) (a b : List UInt8) (_ : True) (_ : True) : EvFr Try.prog cf false 8 [.y blocks, bys a, bys b] (.b true) := lStateStages_ok blocks a b true (lStateStages_true blocks a b)
end Ab
end Go.Proofs.Ytimcbhhebnikiaa
