/- The law 'SendMakes': it returns true, and nothing that was there changes. No condition. (Part 9 of 12.) -/
import Derived.Test.YtpflcogplhigcaaSm8
import Derived.Test.YtpflcogplhigcaaRows
namespace Go.Proofs.Ytpflcogplhigcaa
open Go Go.Proofs.Ytpflcogplhigcaa.Ab
set_option linter.unusedVariables false
set_option linter.unusedSimpArgs false
set_option maxRecDepth 1000000
set_option maxHeartbeats 0
namespace Ab
noncomputable abbrev sKept_L1_I (was : List Ex) (l : List Ex) (gen : Int) (s0 : Int) : St := (St.mk [(0, (exs was)), (1, (exs l)), (2, (AV.i gen)), (15, (exs l)), (16, (AV.i (l.length : Int))), (17, (AV.i s0)), (18, (AV.b (decide (s0 < (l.length : Int))))), (19, (AV.ip (List.drop (s0.toNat * 5) (l.flatMap Ex.cells)))), (20, (AV.ag (xc (exAt l s0.toNat)))), (8, (AV.pt 0 0)), (21, (AV.pt 0 3)), (22, (AV.i (exAt l s0.toNat).gen)), (23, (AV.i gen)), (24, (AV.b (decide ((exAt l s0.toNat).gen > gen)))), (25, (exs was)), (26, (AV.i (was.length : Int))), (27, (AV.i 0))] 73 (AH.mk 1 [(0, (AObj.cells (xc (exAt l s0.toNat))))]) false)
noncomputable abbrev sKept_L1_S (was : List Ex) (l : List Ex) (gen : Int) (s0 : Int) (s4 : Int) : St := (St.mk [(0, (exs was)), (1, (exs l)), (2, (AV.i gen)), (15, (exs l)), (16, (AV.i (l.length : Int))), (17, (AV.i s0)), (18, (AV.b (decide (s0 < (l.length : Int))))), (8, (AV.pt 0 0)), (24, (AV.b (decide ((exAt l s0.toNat).gen > gen)))), (25, (exs was)), (26, (AV.i (was.length : Int))), (27, (AV.i s4))] 73 (AH.mk 1 [(0, (AObj.cells (xc (exAt l s0.toNat))))]) false)
noncomputable def sKept_L1_step (was : List Ex) (l : List Ex) (gen : Int) (s0 : Int) (s4 : Int) : Option (Int) :=
 (tb ((decide (s4 < (was.length : Int)))) (tp ((((0 : Int) ≤ s4) ∧ (s4 < (was.length : Int)))) (tc (eCut ((exAt was s4.toNat)) ((exAt l s0.toNat).lba) ((exAt l s0.toNat).len)) fun s7 => (tb ((!s7.2)) (some ((wr (s4 + (1 : Int))))) (tc (eCut ((exAt l s0.toNat)) (s7.1.lba) (s7.1.len)) fun s9 => (tb ((s9.1.kind != s7.1.kind)) none (tb ((s9.1.gen != s7.1.gen)) none (tb ((!(s9.1.d == s7.1.d))) none (some ((wr (s4 + (1 : Int)))))))))))) none)
theorem sKept_L1_ok (was : List Ex) (l : List Ex) (gen : Int) (s0 : Int) (s4 zz : Int) : sKept_L1_step was l gen s0 s4 = some zz → EvStep Try.prog cf 1 (lp Try.prog 51 1) (sKept_L1_S was l gen s0 s4) (sKept_L1_S was l gen s0 zz) := by
  unfold sKept_L1_step
  exact tbD (fun h5 h5p => tp_ok fun h6 => tc_ok fun s7 h7 => tb_ok (fun h8 => by intro e; injection e with e; subst e; exact leafIS vw_eq (k := 300) (r := []) (hs := hz [(1, [.yes, .yes, .yes, .cells ((Ex.cells (exAt was s4.toNat)))]), (2, [.fc]), (1, [.fc]), (7, [.fres (.tu [Ex.av (s7.1), .b (s7.2)])]), (5, [.fc]), (3, [.yes]), (2, [])]) (ks := [0, 1, 2, 15, 16, 17, 18, 8, 24, 25, 26, 27]) (bs := [0]) kq (ac h5 (ac h6 (ac (fq (p := ((5 : Nat) ≤ (List.length (List.drop (s4.toNat * 5) (was.flatMap Ex.cells)))))) (ac (show (List.take 5 (List.drop (s4.toNat * 5) (was.flatMap Ex.cells))) = (Ex.cells (exAt was s4.toNat)) from (ex_takeO bq bq)) (ac (eCut_ok ((exAt was s4.toNat)) ((exAt l s0.toNat).lba) ((exAt l s0.toNat).len) _ h7).any0 (ac h8 an)))))) kq) fun h8 => tc_ok fun s9 h9 => tbN (fun h10 h10p => tn_ok) fun h10 h10p => tbN (fun h11 h11p => tn_ok) fun h11 h11p => tb_ok (fun h12 => tn_ok) fun h12 => by intro e; injection e with e; subst e; exact leafIS vw_eq (k := 300) (r := []) (hs := hz [(1, [.yes, .yes, .yes, .cells ((Ex.cells (exAt was s4.toNat)))]), (2, [.fc]), (1, [.fc]), (7, [.fres (.tu [Ex.av (s7.1), .b (s7.2)])]), (5, [.fc]), (3, [.no]), (1, [.fc]), (7, [.fres (.tu [Ex.av (s9.1), .b (s9.2)])]), (5, [.fc]), (9, [.no]), (1, [.no]), (2, [.no]), (1, [.no]), (2, [.no]), (1, [.no]), (1, [.no]), (1, [.no]), (2, [.no]), (1, [.no]), (2, [.no]), (4, [.yes, .str (s9.1.d)]), (1, [.yes, .str (s7.1.d)]), (2, [.no]), (1, [.no, .no]), (2, [])]) (ks := [0, 1, 2, 15, 16, 17, 18, 8, 24, 25, 26, 27]) (bs := [0]) kq (ac h5 (ac h6 (ac (fq (p := ((5 : Nat) ≤ (List.length (List.drop (s4.toNat * 5) (was.flatMap Ex.cells)))))) (ac (show (List.take 5 (List.drop (s4.toNat * 5) (was.flatMap Ex.cells))) = (Ex.cells (exAt was s4.toNat)) from (ex_takeO bq bq)) (ac (eCut_ok ((exAt was s4.toNat)) ((exAt l s0.toNat).lba) ((exAt l s0.toNat).len) _ h7).any0 (ac h8 (ac (eCut_ok ((exAt l s0.toNat)) (s7.1.lba) (s7.1.len) _ h9).any0 (ac h10 (ac h10 (ac h10 (ac h10 (ac h10 (ac h10 (ac h11 (ac h11 (ac h11 (ac h11 (ac h11 (ac (tq (p := ((List.length (List.map AV.y s9.1.d)) = (s9.1.d.length * 1)))) (ac (tq (p := bytesOf ((List.map AV.y s9.1.d)) = some (s9.1.d))) (ac (tq (p := ((List.length (List.map AV.y s7.1.d)) = (s7.1.d.length * 1)))) (ac (tq (p := bytesOf ((List.map AV.y s7.1.d)) = some (s7.1.d))) (ac h11 (ac h11 (ac h12 an))))))))))))))))))))))))) kq) fun h5 h5p => tn_ok
noncomputable abbrev sKept_L0_I (was : List Ex) (l : List Ex) (gen : Int) : St := (St.mk [(0, (exs was)), (1, (exs l)), (2, (AV.i gen)), (6, (AV.b false)), (15, (exs l)), (16, (AV.i (l.length : Int))), (17, (AV.i 0))] 73 (AH.mk 0 ([] : List (Prod Nat AObj))) false)
noncomputable abbrev sKept_L0_S (was : List Ex) (l : List Ex) (gen : Int) (s0 : Int) : St := (St.mk [(0, (exs was)), (1, (exs l)), (2, (AV.i gen)), (15, (exs l)), (16, (AV.i (l.length : Int))), (17, (AV.i s0))] 73 (AH.mk 0 ([] : List (Prod Nat AObj))) false)
noncomputable def sKept_L0_step (was : List Ex) (l : List Ex) (gen : Int) (s0 : Int) : Option (Int) :=
 (tb ((decide (s0 < (l.length : Int)))) (tp ((((0 : Int) ≤ s0) ∧ (s0 < (l.length : Int)))) (tb ((decide ((exAt l s0.toNat).gen > gen))) (some ((wr (s0 + (1 : Int))))) (th (sKept_L1_step was l gen s0) ((0 : Int)) fun s4 => (tb ((decide (s4 < (was.length : Int)))) none (some ((wr (s0 + (1 : Int))))))))) none)
theorem sKept_L0_ok (was : List Ex) (l : List Ex) (gen : Int) (s0 zz : Int) : sKept_L0_step was l gen s0 = some zz → EvStep Try.prog cf 0 (lp Try.prog 51 0) (sKept_L0_S was l gen s0) (sKept_L0_S was l gen zz) := by
  unfold sKept_L0_step
  exact tbD (fun h1 h1p => tp_ok fun h2 => tbD (fun h3 h3p => by intro e; injection e with e; subst e; exact leafIS vw_eq (k := 300) (r := []) (hs := hz [(1, [.yes, .yes, .yes, .cells ((Ex.cells (exAt l s0.toNat)))]), (2, [.fc]), (5, [.yes]), (2, [])]) (ks := [0, 1, 2, 15, 16, 17]) (bs := []) kq (ac h1 (ac h2 (ac (fq (p := ((5 : Nat) ≤ (List.length (List.drop (s0.toNat * 5) (l.flatMap Ex.cells)))))) (ac (show (List.take 5 (List.drop (s0.toNat * 5) (l.flatMap Ex.cells))) = (Ex.cells (exAt l s0.toNat)) from (ex_takeO bq bq)) (ac h3 an))))) kq) fun h3 h3p => th_ok fun s4 h4 => tbD (fun h5 h5p => tn_ok) fun h5 h5p => by intro e; injection e with e; subst e; exact leafIS vw_eq (k := 300) (r := []) (hs := hz [(1, [.yes, .yes, .yes, .cells ((Ex.cells (exAt l s0.toNat)))]), (2, [.fc]), (5, [.no]), (3, [.head (sKept_L1_S was l gen s0 s4)]), (1, [.no]), (2, [])]) (ks := [0, 1, 2, 15, 16, 17]) (bs := []) kq (ac h1 (ac h2 (ac (fq (p := ((5 : Nat) ≤ (List.length (List.drop (s0.toNat * 5) (l.flatMap Ex.cells)))))) (ac (show (List.take 5 (List.drop (s0.toNat * 5) (l.flatMap Ex.cells))) = (Ex.cells (exAt l s0.toNat)) from (ex_takeO bq bq)) (ac h3 (ac (show EvHead Try.prog cf (lp Try.prog 51 1) (sKept_L1_I was l gen s0) (sKept_L1_S was l gen s0 s4) from (EvHead.of (sKept_L1_ok was l gen s0) (absB_of [] [] kq (.consn kq (.eqv tq rfl) (.consn kq (.eqv tq rfl) (.consn kq (.eqv tq rfl) (.consn kq (.eqv tq rfl) (.consn kq (.eqv tq rfl) (.consn kq (.eqv tq rfl) (.consn kq (.eqv tq rfl) (.consn kq (.pt rfl) (.consn kq (.eqv tq rfl) (.consn kq (.eqv tq rfl) (.consn kq (.eqv tq rfl) (.consn kq (.eqv tq rfl) .nil)))))))))))) (.cons (.old rfl rfl (.cells (.pl rfl pq))) .nil)) h4)) (ac h5 an))))))) kq) fun h1 h1p => tn_ok
noncomputable abbrev sKept_L2_I (was : List Ex) (l : List Ex) (gen : Int) (s0 : Int) : St := (St.mk [(0, (exs was)), (1, (exs l)), (2, (AV.i gen)), (15, (exs l)), (16, (AV.i (l.length : Int))), (17, (AV.i s0)), (18, (AV.b (decide (s0 < (l.length : Int))))), (19, (AV.ip (List.drop (s0.toNat * 5) (l.flatMap Ex.cells)))), (20, (AV.ag (xc (exAt l s0.toNat)))), (8, (AV.pt 0 0)), (21, (AV.pt 0 3)), (22, (AV.i (exAt l s0.toNat).gen)), (23, (AV.i gen)), (24, (AV.b (decide ((exAt l s0.toNat).gen > gen)))), (25, (exs was)), (26, (AV.i (was.length : Int))), (27, (AV.i 0))] 73 (AH.mk 1 [(0, (AObj.cells (xc (exAt l s0.toNat))))]) false)
noncomputable abbrev sKept_L2_S (was : List Ex) (l : List Ex) (gen : Int) (s0 : Int) (s4 : Int) : St := (St.mk [(0, (exs was)), (1, (exs l)), (2, (AV.i gen)), (15, (exs l)), (16, (AV.i (l.length : Int))), (17, (AV.i s0)), (18, (AV.b (decide (s0 < (l.length : Int))))), (8, (AV.pt 0 0)), (24, (AV.b (decide ((exAt l s0.toNat).gen > gen)))), (25, (exs was)), (26, (AV.i (was.length : Int))), (27, (AV.i s4))] 73 (AH.mk 1 [(0, (AObj.cells (xc (exAt l s0.toNat))))]) false)
noncomputable def sKept_L2_step (was : List Ex) (l : List Ex) (gen : Int) (s0 : Int) (s4 : Int) : Option (Int) :=
 (tb ((decide (s4 < (was.length : Int)))) (tp ((((0 : Int) ≤ s4) ∧ (s4 < (was.length : Int)))) (tc (eCut ((exAt was s4.toNat)) ((exAt l s0.toNat).lba) ((exAt l s0.toNat).len)) fun s7 => (tb ((!s7.2)) (some ((wr (s4 + (1 : Int))))) (tc (eCut ((exAt l s0.toNat)) (s7.1.lba) (s7.1.len)) fun s9 => (tb ((s9.1.kind != s7.1.kind)) none (tb ((s9.1.gen != s7.1.gen)) none (tb ((!(s9.1.d == s7.1.d))) none (some ((wr (s4 + (1 : Int)))))))))))) none)
theorem sKept_L2_ok (was : List Ex) (l : List Ex) (gen : Int) (s0 : Int) (s4 zz : Int) : sKept_L2_step was l gen s0 s4 = some zz → EvStep Try.prog cf 1 (lp Try.prog 51 1) (sKept_L2_S was l gen s0 s4) (sKept_L2_S was l gen s0 zz) := by
  unfold sKept_L2_step
  exact tbD (fun h5 h5p => tp_ok fun h6 => tc_ok fun s7 h7 => tb_ok (fun h8 => by intro e; injection e with e; subst e; exact leafIS vw_eq (k := 300) (r := []) (hs := hz [(1, [.yes, .yes, .yes, .cells ((Ex.cells (exAt was s4.toNat)))]), (2, [.fc]), (1, [.fc]), (7, [.fres (.tu [Ex.av (s7.1), .b (s7.2)])]), (5, [.fc]), (3, [.yes]), (2, [])]) (ks := [0, 1, 2, 15, 16, 17, 18, 8, 24, 25, 26, 27]) (bs := [0]) kq (ac h5 (ac h6 (ac (fq (p := ((5 : Nat) ≤ (List.length (List.drop (s4.toNat * 5) (was.flatMap Ex.cells)))))) (ac (show (List.take 5 (List.drop (s4.toNat * 5) (was.flatMap Ex.cells))) = (Ex.cells (exAt was s4.toNat)) from (ex_takeO bq bq)) (ac (eCut_ok ((exAt was s4.toNat)) ((exAt l s0.toNat).lba) ((exAt l s0.toNat).len) _ h7).any0 (ac h8 an)))))) kq) fun h8 => tc_ok fun s9 h9 => tbN (fun h10 h10p => tn_ok) fun h10 h10p => tbN (fun h11 h11p => tn_ok) fun h11 h11p => tb_ok (fun h12 => tn_ok) fun h12 => by intro e; injection e with e; subst e; exact leafIS vw_eq (k := 300) (r := []) (hs := hz [(1, [.yes, .yes, .yes, .cells ((Ex.cells (exAt was s4.toNat)))]), (2, [.fc]), (1, [.fc]), (7, [.fres (.tu [Ex.av (s7.1), .b (s7.2)])]), (5, [.fc]), (3, [.no]), (1, [.fc]), (7, [.fres (.tu [Ex.av (s9.1), .b (s9.2)])]), (5, [.fc]), (9, [.no]), (1, [.no]), (2, [.no]), (1, [.no]), (2, [.no]), (1, [.no]), (1, [.no]), (1, [.no]), (2, [.no]), (1, [.no]), (2, [.no]), (4, [.yes, .str (s9.1.d)]), (1, [.yes, .str (s7.1.d)]), (2, [.no]), (1, [.no, .no]), (2, [])]) (ks := [0, 1, 2, 15, 16, 17, 18, 8, 24, 25, 26, 27]) (bs := [0]) kq (ac h5 (ac h6 (ac (fq (p := ((5 : Nat) ≤ (List.length (List.drop (s4.toNat * 5) (was.flatMap Ex.cells)))))) (ac (show (List.take 5 (List.drop (s4.toNat * 5) (was.flatMap Ex.cells))) = (Ex.cells (exAt was s4.toNat)) from (ex_takeO bq bq)) (ac (eCut_ok ((exAt was s4.toNat)) ((exAt l s0.toNat).lba) ((exAt l s0.toNat).len) _ h7).any0 (ac h8 (ac (eCut_ok ((exAt l s0.toNat)) (s7.1.lba) (s7.1.len) _ h9).any0 (ac h10 (ac h10 (ac h10 (ac h10 (ac h10 (ac h10 (ac h11 (ac h11 (ac h11 (ac h11 (ac h11 (ac (tq (p := ((List.length (List.map AV.y s9.1.d)) = (s9.1.d.length * 1)))) (ac (tq (p := bytesOf ((List.map AV.y s9.1.d)) = some (s9.1.d))) (ac (tq (p := ((List.length (List.map AV.y s7.1.d)) = (s7.1.d.length * 1)))) (ac (tq (p := bytesOf ((List.map AV.y s7.1.d)) = some (s7.1.d))) (ac h11 (ac h11 (ac h12 an))))))))))))))))))))))))) kq) fun h5 h5p => tn_ok
/-- Function 51, as it answers. -/
noncomputable def sKept (was : List Ex) (l : List Ex) (gen : Int) : Option (Bool) :=
 (th (sKept_L0_step was l gen) ((0 : Int)) fun s0 => (tb ((decide (s0 < (l.length : Int)))) (tp ((((0 : Int) ≤ s0) ∧ (s0 < (l.length : Int)))) (tb ((decide ((exAt l s0.toNat).gen > gen))) none (th (sKept_L2_step was l gen s0) ((0 : Int)) fun s4 => (tb ((decide (s4 < (was.length : Int)))) (tp ((((0 : Int) ≤ s4) ∧ (s4 < (was.length : Int)))) (tc (eCut ((exAt was s4.toNat)) ((exAt l s0.toNat).lba) ((exAt l s0.toNat).len)) fun s7 => (tb ((!s7.2)) none (tc (eCut ((exAt l s0.toNat)) (s7.1.lba) (s7.1.len)) fun s9 => (tb ((s9.1.kind != s7.1.kind)) (some (false)) (tb ((s9.1.gen != s7.1.gen)) (some (false)) (tb ((!(s9.1.d == s7.1.d))) (some (false)) none))))))) none)))) (some (true))))
abbrev sKept_G (was : List Ex) (l : List Ex) (gen : Int) (r : Bool) : Prop := EvFr Try.prog cf true 51 [exs (was), exs (l), .i (gen)] (.b (r))
theorem sKept_ok (was : List Ex) (l : List Ex) (gen : Int) (r : Bool) : sKept was l gen = some r → sKept_G was l gen r := by
  unfold sKept
  exact th_ok fun s0 h0 => tbD (fun h1 h1p => tp_ok fun h2 => tbD (fun h3 h3p => tn_ok) fun h3 h3p => th_ok fun s4 h4 => tbD (fun h5 h5p => tp_ok fun h6 => tc_ok fun s7 h7 => tb_ok (fun h8 => tn_ok) fun h8 => tc_ok fun s9 h9 => tbN (fun h10 h10p => by intro e; injection e with e; subst e; exact leafR vw_eq (k := 300) (r := []) (hs := hz [(4, [.head (sKept_L0_S was l gen s0)]), (1, [.yes, .yes, .yes, .cells ((Ex.cells (exAt l s0.toNat)))]), (2, [.fc]), (5, [.no]), (3, [.head (sKept_L2_S was l gen s0 s4)]), (1, [.yes, .yes, .yes, .cells ((Ex.cells (exAt was s4.toNat)))]), (2, [.fc]), (1, [.fc]), (7, [.fres (.tu [Ex.av (s7.1), .b (s7.2)])]), (5, [.fc]), (3, [.no]), (1, [.fc]), (7, [.fres (.tu [Ex.av (s9.1), .b (s9.2)])]), (5, [.fc]), (9, [.yes, .yes, .yes, .yes, .yes, .yes]), (10, [])]) (raw := (AV.b false)) kq (ac (show EvHead Try.prog cf (lp Try.prog 51 0) (sKept_L0_I was l gen) (sKept_L0_S was l gen s0) from (EvHead.of (sKept_L0_ok was l gen) (absB_of [] [] kq (.consn kq (.eqv tq rfl) (.consn kq (.eqv tq rfl) (.consn kq (.eqv tq rfl) (.consn kq (.eqv tq rfl) (.consn kq (.eqv tq rfl) (.consn kq (.eqv tq rfl) .nil)))))) .nil) h0)) (ac h1 (ac h2 (ac (fq (p := ((5 : Nat) ≤ (List.length (List.drop (s0.toNat * 5) (l.flatMap Ex.cells)))))) (ac (show (List.take 5 (List.drop (s0.toNat * 5) (l.flatMap Ex.cells))) = (Ex.cells (exAt l s0.toNat)) from (ex_takeO bq bq)) (ac h3 (ac (show EvHead Try.prog cf (lp Try.prog 51 1) (sKept_L2_I was l gen s0) (sKept_L2_S was l gen s0 s4) from (EvHead.of (sKept_L2_ok was l gen s0) (absB_of [] [] kq (.consn kq (.eqv tq rfl) (.consn kq (.eqv tq rfl) (.consn kq (.eqv tq rfl) (.consn kq (.eqv tq rfl) (.consn kq (.eqv tq rfl) (.consn kq (.eqv tq rfl) (.consn kq (.eqv tq rfl) (.consn kq (.pt rfl) (.consn kq (.eqv tq rfl) (.consn kq (.eqv tq rfl) (.consn kq (.eqv tq rfl) (.consn kq (.eqv tq rfl) .nil)))))))))))) (.cons (.old rfl rfl (.cells (.pl rfl pq))) .nil)) h4)) (ac h5 (ac h6 (ac (fq (p := ((5 : Nat) ≤ (List.length (List.drop (s4.toNat * 5) (was.flatMap Ex.cells)))))) (ac (show (List.take 5 (List.drop (s4.toNat * 5) (was.flatMap Ex.cells))) = (Ex.cells (exAt was s4.toNat)) from (ex_takeO bq bq)) (ac (eCut_ok ((exAt was s4.toNat)) ((exAt l s0.toNat).lba) ((exAt l s0.toNat).len) _ h7).any0 (ac h8 (ac (eCut_ok ((exAt l s0.toNat)) (s7.1.lba) (s7.1.len) _ h9).any0 (ac h10 (ac h10 (ac h10 (ac h10 (ac h10 (ac h10 an)))))))))))))))))))) tq) fun h10 h10p => tbN (fun h11 h11p => by intro e; injection e with e; subst e; exact leafR vw_eq (k := 300) (r := []) (hs := hz [(4, [.head (sKept_L0_S was l gen s0)]), (1, [.yes, .yes, .yes, .cells ((Ex.cells (exAt l s0.toNat)))]), (2, [.fc]), (5, [.no]), (3, [.head (sKept_L2_S was l gen s0 s4)]), (1, [.yes, .yes, .yes, .cells ((Ex.cells (exAt was s4.toNat)))]), (2, [.fc]), (1, [.fc]), (7, [.fres (.tu [Ex.av (s7.1), .b (s7.2)])]), (5, [.fc]), (3, [.no]), (1, [.fc]), (7, [.fres (.tu [Ex.av (s9.1), .b (s9.2)])]), (5, [.fc]), (9, [.no]), (1, [.no]), (2, [.no]), (1, [.no]), (2, [.no]), (1, [.no]), (1, [.yes, .yes, .yes, .yes, .yes, .yes, .yes]), (2, [])]) (raw := (AV.b false)) kq (ac (show EvHead Try.prog cf (lp Try.prog 51 0) (sKept_L0_I was l gen) (sKept_L0_S was l gen s0) from (EvHead.of (sKept_L0_ok was l gen) (absB_of [] [] kq (.consn kq (.eqv tq rfl) (.consn kq (.eqv tq rfl) (.consn kq (.eqv tq rfl) (.consn kq (.eqv tq rfl) (.consn kq (.eqv tq rfl) (.consn kq (.eqv tq rfl) .nil)))))) .nil) h0)) (ac h1 (ac h2 (ac (fq (p := ((5 : Nat) ≤ (List.length (List.drop (s0.toNat * 5) (l.flatMap Ex.cells)))))) (ac (show (List.take 5 (List.drop (s0.toNat * 5) (l.flatMap Ex.cells))) = (Ex.cells (exAt l s0.toNat)) from (ex_takeO bq bq)) (ac h3 (ac (show EvHead Try.prog cf (lp Try.prog 51 1) (sKept_L2_I was l gen s0) (sKept_L2_S was l gen s0 s4) from (EvHead.of (sKept_L2_ok was l gen s0) (absB_of [] [] kq (.consn kq (.eqv tq rfl) (.consn kq (.eqv tq rfl) (.consn kq (.eqv tq rfl) (.consn kq (.eqv tq rfl) (.consn kq (.eqv tq rfl) (.consn kq (.eqv tq rfl) (.consn kq (.eqv tq rfl) (.consn kq (.pt rfl) (.consn kq (.eqv tq rfl) (.consn kq (.eqv tq rfl) (.consn kq (.eqv tq rfl) (.consn kq (.eqv tq rfl) .nil)))))))))))) (.cons (.old rfl rfl (.cells (.pl rfl pq))) .nil)) h4)) (ac h5 (ac h6 (ac (fq (p := ((5 : Nat) ≤ (List.length (List.drop (s4.toNat * 5) (was.flatMap Ex.cells)))))) (ac (show (List.take 5 (List.drop (s4.toNat * 5) (was.flatMap Ex.cells))) = (Ex.cells (exAt was s4.toNat)) from (ex_takeO bq bq)) (ac (eCut_ok ((exAt was s4.toNat)) ((exAt l s0.toNat).lba) ((exAt l s0.toNat).len) _ h7).any0 (ac h8 (ac (eCut_ok ((exAt l s0.toNat)) (s7.1.lba) (s7.1.len) _ h9).any0 (ac h10 (ac h10 (ac h10 (ac h10 (ac h10 (ac h10 (ac h11 (ac h11 (ac h11 (ac h11 (ac h11 (ac h11 (ac h11 an))))))))))))))))))))))))))) tq) fun h11 h11p => tb_ok (fun h12 => by intro e; injection e with e; subst e; exact leafR vw_eq (k := 300) (r := []) (hs := hz [(4, [.head (sKept_L0_S was l gen s0)]), (1, [.yes, .yes, .yes, .cells ((Ex.cells (exAt l s0.toNat)))]), (2, [.fc]), (5, [.no]), (3, [.head (sKept_L2_S was l gen s0 s4)]), (1, [.yes, .yes, .yes, .cells ((Ex.cells (exAt was s4.toNat)))]), (2, [.fc]), (1, [.fc]), (7, [.fres (.tu [Ex.av (s7.1), .b (s7.2)])]), (5, [.fc]), (3, [.no]), (1, [.fc]), (7, [.fres (.tu [Ex.av (s9.1), .b (s9.2)])]), (5, [.fc]), (9, [.no]), (1, [.no]), (2, [.no]), (1, [.no]), (2, [.no]), (1, [.no]), (1, [.no]), (1, [.no]), (2, [.no]), (1, [.no]), (2, [.no]), (4, [.yes, .str (s9.1.d)]), (1, [.yes, .str (s7.1.d)]), (2, [.no]), (1, [.no, .yes]), (1, [])]) (raw := (AV.b false)) kq (ac (show EvHead Try.prog cf (lp Try.prog 51 0) (sKept_L0_I was l gen) (sKept_L0_S was l gen s0) from (EvHead.of (sKept_L0_ok was l gen) (absB_of [] [] kq (.consn kq (.eqv tq rfl) (.consn kq (.eqv tq rfl) (.consn kq (.eqv tq rfl) (.consn kq (.eqv tq rfl) (.consn kq (.eqv tq rfl) (.consn kq (.eqv tq rfl) .nil)))))) .nil) h0)) (ac h1 (ac h2 (ac (fq (p := ((5 : Nat) ≤ (List.length (List.drop (s0.toNat * 5) (l.flatMap Ex.cells)))))) (ac (show (List.take 5 (List.drop (s0.toNat * 5) (l.flatMap Ex.cells))) = (Ex.cells (exAt l s0.toNat)) from (ex_takeO bq bq)) (ac h3 (ac (show EvHead Try.prog cf (lp Try.prog 51 1) (sKept_L2_I was l gen s0) (sKept_L2_S was l gen s0 s4) from (EvHead.of (sKept_L2_ok was l gen s0) (absB_of [] [] kq (.consn kq (.eqv tq rfl) (.consn kq (.eqv tq rfl) (.consn kq (.eqv tq rfl) (.consn kq (.eqv tq rfl) (.consn kq (.eqv tq rfl) (.consn kq (.eqv tq rfl) (.consn kq (.eqv tq rfl) (.consn kq (.pt rfl) (.consn kq (.eqv tq rfl) (.consn kq (.eqv tq rfl) (.consn kq (.eqv tq rfl) (.consn kq (.eqv tq rfl) .nil)))))))))))) (.cons (.old rfl rfl (.cells (.pl rfl pq))) .nil)) h4)) (ac h5 (ac h6 (ac (fq (p := ((5 : Nat) ≤ (List.length (List.drop (s4.toNat * 5) (was.flatMap Ex.cells)))))) (ac (show (List.take 5 (List.drop (s4.toNat * 5) (was.flatMap Ex.cells))) = (Ex.cells (exAt was s4.toNat)) from (ex_takeO bq bq)) (ac (eCut_ok ((exAt was s4.toNat)) ((exAt l s0.toNat).lba) ((exAt l s0.toNat).len) _ h7).any0 (ac h8 (ac (eCut_ok ((exAt l s0.toNat)) (s7.1.lba) (s7.1.len) _ h9).any0 (ac h10 (ac h10 (ac h10 (ac h10 (ac h10 (ac h10 (ac h11 (ac h11 (ac h11 (ac h11 (ac h11 (ac (tq (p := ((List.length (List.map AV.y s9.1.d)) = (s9.1.d.length * 1)))) (ac (tq (p := bytesOf ((List.map AV.y s9.1.d)) = some (s9.1.d))) (ac (tq (p := ((List.length (List.map AV.y s7.1.d)) = (s7.1.d.length * 1)))) (ac (tq (p := bytesOf ((List.map AV.y s7.1.d)) = some (s7.1.d))) (ac h11 (ac h11 (ac h12 an)))))))))))))))))))))))))))))))) tq) fun h12 => tn_ok) fun h5 h5p => tn_ok) fun h1 h1p => by intro e; injection e with e; subst e; exact leafR vw_eq (k := 300) (r := []) (hs := hz [(4, [.head (sKept_L0_S was l gen s0)]), (1, [.no]), (1, [])]) (raw := (AV.b true)) kq (ac (show EvHead Try.prog cf (lp Try.prog 51 0) (sKept_L0_I was l gen) (sKept_L0_S was l gen s0) from (EvHead.of (sKept_L0_ok was l gen) (absB_of [] [] kq (.consn kq (.eqv tq rfl) (.consn kq (.eqv tq rfl) (.consn kq (.eqv tq rfl) (.consn kq (.eqv tq rfl) (.consn kq (.eqv tq rfl) (.consn kq (.eqv tq rfl) .nil)))))) .nil) h0)) (ac h1 an)) tq
noncomputable abbrev sCheck_L0_I (s : Sa) (s0 : Bool) (s2 : Bool) (s5 : Bool) : St := (St.mk [(0, (AV.ag [(AV.i s.blocks), (AV.i s.gen), (exs s.map), (AV.sl s.points.length (s.points.flatMap Po.cells)), (AV.i s.last), (bys s.staged)])), (1, (AV.pt 0 0)), (2, (AV.i 0)), (7, (AV.pt 0 0)), (8, (AV.i s.blocks)), (9, (AV.pt 0 2)), (10, (exs s.map)), (11, (AV.pt 0 1)), (12, (AV.i s.gen)), (13, (AV.b s0)), (14, (AV.b s0)), (15, (AV.pt 0 1)), (16, (AV.i s.gen)), (17, (AV.b s2)), (18, (AV.b s2)), (19, (AV.b s2)), (20, (AV.pt 0 3)), (21, (AV.sl s.points.length (s.points.flatMap Po.cells))), (22, (AV.i (s.points.length : Int))), (23, (AV.b (decide ((s.points.length : Int) ≤ (4 : Int))))), (24, (AV.b (decide ((s.points.length : Int) ≤ (4 : Int))))), (25, (AV.b (decide ((s.points.length : Int) ≤ (4 : Int))))), (26, (AV.pt 0 4)), (27, (AV.i s.last)), (28, (AV.b s5)), (29, (AV.b s5)), (30, (AV.b s5)), (31, (AV.pt 0 5)), (32, (bys s.staged)), (33, (AV.i (s.staged.length : Int))), (34, (AV.b (decide ((s.staged.length : Int) ≤ (4000 : Int))))), (35, (AV.b (decide ((s.staged.length : Int) ≤ (4000 : Int))))), (3, (AV.b (decide ((s.staged.length : Int) ≤ (4000 : Int))))), (4, (AV.pt 1 0)), (36, (AV.pt 0 3)), (37, (AV.sl s.points.length (s.points.flatMap Po.cells))), (38, (AV.i (s.points.length : Int))), (39, (AV.i 0))] 104 (AH.mk 2 [(1, (AObj.cells [(AV.i 0), (AV.i 0), AV.nl])), (0, (AObj.cells [(AV.i s.blocks), (AV.i s.gen), (exs s.map), (AV.sl s.points.length (s.points.flatMap Po.cells)), (AV.i s.last), (bys s.staged)]))]) false)
noncomputable abbrev sCheck_L0_S (s : Sa) (s0 : Bool) (s2 : Bool) (s5 : Bool) (s7 : Bool × Int × Int × Int × List Ex) : St := (St.mk [(0, (AV.ag [(AV.i s.blocks), (AV.i s.gen), (exs s.map), (AV.sl s.points.length (s.points.flatMap Po.cells)), (AV.i s.last), (bys s.staged)])), (1, (AV.pt 0 0)), (2, (AV.i 0)), (3, (AV.b s7.1)), (4, (AV.pt 1 0)), (37, (AV.sl s.points.length (s.points.flatMap Po.cells))), (38, (AV.i (s.points.length : Int))), (39, (AV.i s7.2.1))] 104 (AH.mk 2 [(1, (AObj.cells [(AV.i s7.2.2.1), (AV.i s7.2.2.2.1), (exs s7.2.2.2.2)])), (0, (AObj.cells [(AV.i s.blocks), (AV.i s.gen), (exs s.map), (AV.sl s.points.length (s.points.flatMap Po.cells)), (AV.i s.last), (bys s.staged)]))]) false)
noncomputable def sCheck_L0_step (s : Sa) (s0 : Bool) (s2 : Bool) (s5 : Bool) (s7 : Bool × Int × Int × Int × List Ex) : Option (Bool × Int × Int × Int × List Ex) :=
 (tb ((decide (s7.2.1 < (s.points.length : Int)))) (tp ((((0 : Int) ≤ s7.2.1) ∧ (s7.2.1 < (s.points.length : Int)))) (tb (s7.1) (tc (sUpto (s.blocks) ((poAt s.points s7.2.1.toNat).map) ((poAt s.points s7.2.1.toNat).gen)) fun s11 => (tb (s11) (tb ((decide ((poAt s.points s7.2.1.toNat).id > s7.2.2.1))) (tb ((decide ((poAt s.points s7.2.1.toNat).id ≤ s.last))) (tb ((decide ((poAt s.points s7.2.1.toNat).gen > s7.2.2.2.1))) (tb ((decide ((poAt s.points s7.2.1.toNat).gen < s.gen))) (tc (sKept (s7.2.2.2.2) ((poAt s.points s7.2.1.toNat).map) (s7.2.2.2.1)) fun s17 => (some ((s17, ((wr (s7.2.1 + (1 : Int))), ((poAt s.points s7.2.1.toNat).id, ((poAt s.points s7.2.1.toNat).gen, (poAt s.points s7.2.1.toNat).map))))))) (some ((false, ((wr (s7.2.1 + (1 : Int))), ((poAt s.points s7.2.1.toNat).id, ((poAt s.points s7.2.1.toNat).gen, (poAt s.points s7.2.1.toNat).map))))))) (some ((false, ((wr (s7.2.1 + (1 : Int))), ((poAt s.points s7.2.1.toNat).id, ((poAt s.points s7.2.1.toNat).gen, (poAt s.points s7.2.1.toNat).map))))))) (some ((false, ((wr (s7.2.1 + (1 : Int))), ((poAt s.points s7.2.1.toNat).id, ((poAt s.points s7.2.1.toNat).gen, (poAt s.points s7.2.1.toNat).map))))))) (some ((false, ((wr (s7.2.1 + (1 : Int))), ((poAt s.points s7.2.1.toNat).id, ((poAt s.points s7.2.1.toNat).gen, (poAt s.points s7.2.1.toNat).map))))))) (some ((false, ((wr (s7.2.1 + (1 : Int))), ((poAt s.points s7.2.1.toNat).id, ((poAt s.points s7.2.1.toNat).gen, (poAt s.points s7.2.1.toNat).map)))))))) (some ((false, ((wr (s7.2.1 + (1 : Int))), ((poAt s.points s7.2.1.toNat).id, ((poAt s.points s7.2.1.toNat).gen, (poAt s.points s7.2.1.toNat).map)))))))) none)
theorem sCheck_L0_ok (s : Sa) (s0 : Bool) (s2 : Bool) (s5 : Bool) (s7 zz : Bool × Int × Int × Int × List Ex) : sCheck_L0_step s s0 s2 s5 s7 = some zz → EvStep Try.prog cf 2 (lp Try.prog 30 0) (sCheck_L0_S s s0 s2 s5 s7) (sCheck_L0_S s s0 s2 s5 zz) := by
  unfold sCheck_L0_step
  exact tbD (fun h8 h8p => tp_ok fun h9 => tb_ok (fun h10 => tc_ok fun s11 h11 => tb_ok (fun h12 => tbD (fun h13 h13p => tbD (fun h14 h14p => tbD (fun h15 h15p => tbD (fun h16 h16p => tc_ok fun s17 h17 => by intro e; injection e with e; subst e; exact leafIS vw_eq (k := 300) (r := []) (hs := hz [(1, [.yes, .yes, .yes, .cells ((Po.cells (poAt s.points s7.2.1.toNat)))]), (2, [.fc]), (2, [.yes]), (1, [.yes]), (2, [.yes]), (1, [.yes]), (2, [.yes]), (1, [.yes]), (2, [.yes]), (1, [.fres (.b (s11)), .yes]), (1, [.yes]), (1, [.yes]), (2, [.yes]), (1, [.yes]), (2, [.yes]), (1, [.yes]), (1, [.yes]), (1, [.yes]), (2, [.yes]), (1, [.yes]), (2, [.yes]), (1, [.yes]), (1, [.yes]), (1, [.yes]), (2, [.yes]), (1, [.yes]), (2, [.yes]), (1, [.yes]), (1, [.yes]), (1, [.yes]), (2, [.yes]), (1, [.yes]), (2, [.yes]), (1, [.yes]), (1, [.yes]), (1, [.yes]), (2, [.yes]), (1, [.yes]), (2, [.yes]), (1, [.yes]), (2, [.yes]), (1, [.fres (.b (s17)), .yes]), (2, [.fc]), (1, [.fc]), (2, [])]) (ks := [0, 1, 2, 3, 4, 37, 38, 39]) (bs := [1, 0]) kq (ac h8 (ac h9 (ac (fq (p := ((3 : Nat) ≤ (List.length (List.drop (s7.2.1.toNat * 3) (s.points.flatMap Po.cells)))))) (ac (show (List.take 3 (List.drop (s7.2.1.toNat * 3) (s.points.flatMap Po.cells))) = (Po.cells (poAt s.points s7.2.1.toNat)) from (po_takeO bq bq)) (ac h10 (ac h10 (ac h10 (ac h10 (ac h10 (ac h10 (ac h10 (ac (sUpto_ok (s.blocks) ((poAt s.points s7.2.1.toNat).map) ((poAt s.points s7.2.1.toNat).gen) _ h11).any0 (ac h10 (ac h12 (ac h12 (ac h12 (ac h12 (ac h12 (ac h12 (ac h13 (ac h13 (ac h13 (ac h13 (ac h13 (ac h13 (ac h14 (ac h14 (ac h14 (ac h14 (ac h14 (ac h14 (ac h15 (ac h15 (ac h15 (ac h15 (ac h15 (ac h15 (ac h16 (ac h16 (ac h16 (ac h16 (ac h16 (ac h16 (ac h16 (ac (sKept_ok (s7.2.2.2.2) ((poAt s.points s7.2.1.toNat).map) (s7.2.2.2.1) _ h17).any0 (ac h16 an)))))))))))))))))))))))))))))))))))))))))))))) kq) fun h16 h16p => by intro e; injection e with e; subst e; exact leafIS vw_eq (k := 300) (r := []) (hs := hz [(1, [.yes, .yes, .yes, .cells ((Po.cells (poAt s.points s7.2.1.toNat)))]), (2, [.fc]), (2, [.yes]), (1, [.yes]), (2, [.yes]), (1, [.yes]), (2, [.yes]), (1, [.yes]), (2, [.yes]), (1, [.fres (.b (s11)), .yes]), (1, [.yes]), (1, [.yes]), (2, [.yes]), (1, [.yes]), (2, [.yes]), (1, [.yes]), (1, [.yes]), (1, [.yes]), (2, [.yes]), (1, [.yes]), (2, [.yes]), (1, [.yes]), (1, [.yes]), (1, [.yes]), (2, [.yes]), (1, [.yes]), (2, [.yes]), (1, [.yes]), (1, [.yes]), (1, [.yes]), (2, [.yes]), (1, [.yes]), (2, [.yes]), (1, [.yes]), (1, [.no, .no, .no, .no, .no, .no, .no, .no]), (2, [.fc]), (1, [.fc]), (2, [])]) (ks := [0, 1, 2, 3, 4, 37, 38, 39]) (bs := [1, 0]) kq (ac h8 (ac h9 (ac (fq (p := ((3 : Nat) ≤ (List.length (List.drop (s7.2.1.toNat * 3) (s.points.flatMap Po.cells)))))) (ac (show (List.take 3 (List.drop (s7.2.1.toNat * 3) (s.points.flatMap Po.cells))) = (Po.cells (poAt s.points s7.2.1.toNat)) from (po_takeO bq bq)) (ac h10 (ac h10 (ac h10 (ac h10 (ac h10 (ac h10 (ac h10 (ac (sUpto_ok (s.blocks) ((poAt s.points s7.2.1.toNat).map) ((poAt s.points s7.2.1.toNat).gen) _ h11).any0 (ac h10 (ac h12 (ac h12 (ac h12 (ac h12 (ac h12 (ac h12 (ac h13 (ac h13 (ac h13 (ac h13 (ac h13 (ac h13 (ac h14 (ac h14 (ac h14 (ac h14 (ac h14 (ac h14 (ac h15 (ac h15 (ac h15 (ac h15 (ac h15 (ac h15 (ac h16 (ac h16 (ac h16 (ac h16 (ac h16 (ac h16 (ac h16 (ac h16 an))))))))))))))))))))))))))))))))))))))))))))) kq) fun h15 h15p => by intro e; injection e with e; subst e; exact leafIS vw_eq (k := 300) (r := []) (hs := hz [(1, [.yes, .yes, .yes, .cells ((Po.cells (poAt s.points s7.2.1.toNat)))]), (2, [.fc]), (2, [.yes]), (1, [.yes]), (2, [.yes]), (1, [.yes]), (2, [.yes]), (1, [.yes]), (2, [.yes]), (1, [.fres (.b (s11)), .yes]), (1, [.yes]), (1, [.yes]), (2, [.yes]), (1, [.yes]), (2, [.yes]), (1, [.yes]), (1, [.yes]), (1, [.yes]), (2, [.yes]), (1, [.yes]), (2, [.yes]), (1, [.yes]), (1, [.yes]), (1, [.yes]), (2, [.yes]), (1, [.yes]), (2, [.yes]), (1, [.yes]), (1, [.no, .no, .no, .no, .no, .no]), (11, [.fc]), (1, [.fc]), (2, [])]) (ks := [0, 1, 2, 3, 4, 37, 38, 39]) (bs := [1, 0]) kq (ac h8 (ac h9 (ac (fq (p := ((3 : Nat) ≤ (List.length (List.drop (s7.2.1.toNat * 3) (s.points.flatMap Po.cells)))))) (ac (show (List.take 3 (List.drop (s7.2.1.toNat * 3) (s.points.flatMap Po.cells))) = (Po.cells (poAt s.points s7.2.1.toNat)) from (po_takeO bq bq)) (ac h10 (ac h10 (ac h10 (ac h10 (ac h10 (ac h10 (ac h10 (ac (sUpto_ok (s.blocks) ((poAt s.points s7.2.1.toNat).map) ((poAt s.points s7.2.1.toNat).gen) _ h11).any0 (ac h10 (ac h12 (ac h12 (ac h12 (ac h12 (ac h12 (ac h12 (ac h13 (ac h13 (ac h13 (ac h13 (ac h13 (ac h13 (ac h14 (ac h14 (ac h14 (ac h14 (ac h14 (ac h14 (ac h15 (ac h15 (ac h15 (ac h15 (ac h15 (ac h15 an))))))))))))))))))))))))))))))))))))) kq) fun h14 h14p => by intro e; injection e with e; subst e; exact leafIS vw_eq (k := 300) (r := []) (hs := hz [(1, [.yes, .yes, .yes, .cells ((Po.cells (poAt s.points s7.2.1.toNat)))]), (2, [.fc]), (2, [.yes]), (1, [.yes]), (2, [.yes]), (1, [.yes]), (2, [.yes]), (1, [.yes]), (2, [.yes]), (1, [.fres (.b (s11)), .yes]), (1, [.yes]), (1, [.yes]), (2, [.yes]), (1, [.yes]), (2, [.yes]), (1, [.yes]), (1, [.yes]), (1, [.yes]), (2, [.yes]), (1, [.yes]), (2, [.yes]), (1, [.yes]), (1, [.no, .no, .no, .no, .no, .no]), (18, [.fc]), (1, [.fc]), (2, [])]) (ks := [0, 1, 2, 3, 4, 37, 38, 39]) (bs := [1, 0]) kq (ac h8 (ac h9 (ac (fq (p := ((3 : Nat) ≤ (List.length (List.drop (s7.2.1.toNat * 3) (s.points.flatMap Po.cells)))))) (ac (show (List.take 3 (List.drop (s7.2.1.toNat * 3) (s.points.flatMap Po.cells))) = (Po.cells (poAt s.points s7.2.1.toNat)) from (po_takeO bq bq)) (ac h10 (ac h10 (ac h10 (ac h10 (ac h10 (ac h10 (ac h10 (ac (sUpto_ok (s.blocks) ((poAt s.points s7.2.1.toNat).map) ((poAt s.points s7.2.1.toNat).gen) _ h11).any0 (ac h10 (ac h12 (ac h12 (ac h12 (ac h12 (ac h12 (ac h12 (ac h13 (ac h13 (ac h13 (ac h13 (ac h13 (ac h13 (ac h14 (ac h14 (ac h14 (ac h14 (ac h14 (ac h14 an))))))))))))))))))))))))))))))) kq) fun h13 h13p => by intro e; injection e with e; subst e; exact leafIS vw_eq (k := 300) (r := []) (hs := hz [(1, [.yes, .yes, .yes, .cells ((Po.cells (poAt s.points s7.2.1.toNat)))]), (2, [.fc]), (2, [.yes]), (1, [.yes]), (2, [.yes]), (1, [.yes]), (2, [.yes]), (1, [.yes]), (2, [.yes]), (1, [.fres (.b (s11)), .yes]), (1, [.yes]), (1, [.yes]), (2, [.yes]), (1, [.yes]), (2, [.yes]), (1, [.yes]), (1, [.no, .no, .no, .no, .no, .no]), (25, [.fc]), (1, [.fc]), (2, [])]) (ks := [0, 1, 2, 3, 4, 37, 38, 39]) (bs := [1, 0]) kq (ac h8 (ac h9 (ac (fq (p := ((3 : Nat) ≤ (List.length (List.drop (s7.2.1.toNat * 3) (s.points.flatMap Po.cells)))))) (ac (show (List.take 3 (List.drop (s7.2.1.toNat * 3) (s.points.flatMap Po.cells))) = (Po.cells (poAt s.points s7.2.1.toNat)) from (po_takeO bq bq)) (ac h10 (ac h10 (ac h10 (ac h10 (ac h10 (ac h10 (ac h10 (ac (sUpto_ok (s.blocks) ((poAt s.points s7.2.1.toNat).map) ((poAt s.points s7.2.1.toNat).gen) _ h11).any0 (ac h10 (ac h12 (ac h12 (ac h12 (ac h12 (ac h12 (ac h12 (ac h13 (ac h13 (ac h13 (ac h13 (ac h13 (ac h13 an))))))))))))))))))))))))) kq) fun h12 => by intro e; injection e with e; subst e; exact leafIS vw_eq (k := 300) (r := []) (hs := hz [(1, [.yes, .yes, .yes, .cells ((Po.cells (poAt s.points s7.2.1.toNat)))]), (2, [.fc]), (2, [.yes]), (1, [.yes]), (2, [.yes]), (1, [.yes]), (2, [.yes]), (1, [.yes]), (2, [.yes]), (1, [.fres (.b (s11)), .yes]), (1, [.no, .no, .no, .no, .no, .no]), (32, [.fc]), (1, [.fc]), (2, [])]) (ks := [0, 1, 2, 3, 4, 37, 38, 39]) (bs := [1, 0]) kq (ac h8 (ac h9 (ac (fq (p := ((3 : Nat) ≤ (List.length (List.drop (s7.2.1.toNat * 3) (s.points.flatMap Po.cells)))))) (ac (show (List.take 3 (List.drop (s7.2.1.toNat * 3) (s.points.flatMap Po.cells))) = (Po.cells (poAt s.points s7.2.1.toNat)) from (po_takeO bq bq)) (ac h10 (ac h10 (ac h10 (ac h10 (ac h10 (ac h10 (ac h10 (ac (sUpto_ok (s.blocks) ((poAt s.points s7.2.1.toNat).map) ((poAt s.points s7.2.1.toNat).gen) _ h11).any0 (ac h10 (ac h12 (ac h12 (ac h12 (ac h12 (ac h12 (ac h12 an))))))))))))))))))) kq) fun h10 => by intro e; injection e with e; subst e; exact leafIS vw_eq (k := 300) (r := []) (hs := hz [(1, [.yes, .yes, .yes, .cells ((Po.cells (poAt s.points s7.2.1.toNat)))]), (2, [.fc]), (2, [.no, .no, .no, .no, .no, .no, .no, .no]), (39, [.fc]), (1, [.fc]), (2, [])]) (ks := [0, 1, 2, 3, 4, 37, 38, 39]) (bs := [1, 0]) kq (ac h8 (ac h9 (ac (fq (p := ((3 : Nat) ≤ (List.length (List.drop (s7.2.1.toNat * 3) (s.points.flatMap Po.cells)))))) (ac (show (List.take 3 (List.drop (s7.2.1.toNat * 3) (s.points.flatMap Po.cells))) = (Po.cells (poAt s.points s7.2.1.toNat)) from (po_takeO bq bq)) (ac h10 (ac h10 (ac h10 (ac h10 (ac h10 (ac h10 (ac h10 (ac h10 an)))))))))))) kq) fun h8 h8p => tn_ok
noncomputable abbrev sCheck_L1_I (s : Sa) (s0 : Bool) (s2 : Bool) (s5 : Bool) : St := (St.mk [(0, (AV.ag [(AV.i s.blocks), (AV.i s.gen), (exs s.map), (AV.sl s.points.length (s.points.flatMap Po.cells)), (AV.i s.last), (bys s.staged)])), (1, (AV.pt 0 0)), (2, (AV.i 0)), (7, (AV.pt 0 0)), (8, (AV.i s.blocks)), (9, (AV.pt 0 2)), (10, (exs s.map)), (11, (AV.pt 0 1)), (12, (AV.i s.gen)), (13, (AV.b s0)), (14, (AV.b s0)), (15, (AV.pt 0 1)), (16, (AV.i s.gen)), (17, (AV.b s2)), (18, (AV.b s2)), (19, (AV.b s2)), (20, (AV.pt 0 3)), (21, (AV.sl s.points.length (s.points.flatMap Po.cells))), (22, (AV.i (s.points.length : Int))), (23, (AV.b (decide ((s.points.length : Int) ≤ (4 : Int))))), (24, (AV.b (decide ((s.points.length : Int) ≤ (4 : Int))))), (25, (AV.b (decide ((s.points.length : Int) ≤ (4 : Int))))), (26, (AV.pt 0 4)), (27, (AV.i s.last)), (28, (AV.b s5)), (29, (AV.b s5)), (30, (AV.b s5)), (31, (AV.tu ([] : List AV))), (32, (AV.tu ([] : List AV))), (33, (AV.tu ([] : List AV))), (34, (AV.tu ([] : List AV))), (35, (AV.b false)), (3, (AV.b false)), (4, (AV.pt 1 0)), (36, (AV.pt 0 3)), (37, (AV.sl s.points.length (s.points.flatMap Po.cells))), (38, (AV.i (s.points.length : Int))), (39, (AV.i 0))] 104 (AH.mk 2 [(1, (AObj.cells [(AV.i 0), (AV.i 0), AV.nl])), (0, (AObj.cells [(AV.i s.blocks), (AV.i s.gen), (exs s.map), (AV.sl s.points.length (s.points.flatMap Po.cells)), (AV.i s.last), (bys s.staged)]))]) false)
noncomputable abbrev sCheck_L1_S (s : Sa) (s0 : Bool) (s2 : Bool) (s5 : Bool) (s7 : Int × Int × Int × List Ex) : St := (St.mk [(0, (AV.ag [(AV.i s.blocks), (AV.i s.gen), (exs s.map), (AV.sl s.points.length (s.points.flatMap Po.cells)), (AV.i s.last), (bys s.staged)])), (1, (AV.pt 0 0)), (2, (AV.i 0)), (3, (AV.b false)), (4, (AV.pt 1 0)), (37, (AV.sl s.points.length (s.points.flatMap Po.cells))), (38, (AV.i (s.points.length : Int))), (39, (AV.i s7.1))] 104 (AH.mk 2 [(1, (AObj.cells [(AV.i s7.2.1), (AV.i s7.2.2.1), (exs s7.2.2.2)])), (0, (AObj.cells [(AV.i s.blocks), (AV.i s.gen), (exs s.map), (AV.sl s.points.length (s.points.flatMap Po.cells)), (AV.i s.last), (bys s.staged)]))]) false)
noncomputable def sCheck_L1_step (s : Sa) (s0 : Bool) (s2 : Bool) (s5 : Bool) (s7 : Int × Int × Int × List Ex) : Option (Int × Int × Int × List Ex) :=
 (tb ((decide (s7.1 < (s.points.length : Int)))) (tp ((((0 : Int) ≤ s7.1) ∧ (s7.1 < (s.points.length : Int)))) (some (((wr (s7.1 + (1 : Int))), ((poAt s.points s7.1.toNat).id, ((poAt s.points s7.1.toNat).gen, (poAt s.points s7.1.toNat).map)))))) none)
theorem sCheck_L1_ok (s : Sa) (s0 : Bool) (s2 : Bool) (s5 : Bool) (s7 zz : Int × Int × Int × List Ex) : sCheck_L1_step s s0 s2 s5 s7 = some zz → EvStep Try.prog cf 2 (lp Try.prog 30 0) (sCheck_L1_S s s0 s2 s5 s7) (sCheck_L1_S s s0 s2 s5 zz) := by
  unfold sCheck_L1_step
  exact tbD (fun h8 h8p => tp_ok fun h9 => by intro e; injection e with e; subst e; exact leafIS vw_eq (k := 300) (r := []) (hs := hz [(1, [.yes, .yes, .yes, .cells ((Po.cells (poAt s.points s7.1.toNat)))]), (2, [.fc]), (49, [.fc]), (1, [.fc]), (2, [])]) (ks := [0, 1, 2, 3, 4, 37, 38, 39]) (bs := [1, 0]) kq (ac h8 (ac h9 (ac (fq (p := ((3 : Nat) ≤ (List.length (List.drop (s7.1.toNat * 3) (s.points.flatMap Po.cells)))))) (ac (show (List.take 3 (List.drop (s7.1.toNat * 3) (s.points.flatMap Po.cells))) = (Po.cells (poAt s.points s7.1.toNat)) from (po_takeO bq bq)) an)))) kq) fun h8 h8p => tn_ok
noncomputable abbrev sCheck_L2_I (s : Sa) (s0 : Bool) (s2 : Bool) : St := (St.mk [(0, (AV.ag [(AV.i s.blocks), (AV.i s.gen), (exs s.map), (AV.sl s.points.length (s.points.flatMap Po.cells)), (AV.i s.last), (bys s.staged)])), (1, (AV.pt 0 0)), (2, (AV.i 0)), (7, (AV.pt 0 0)), (8, (AV.i s.blocks)), (9, (AV.pt 0 2)), (10, (exs s.map)), (11, (AV.pt 0 1)), (12, (AV.i s.gen)), (13, (AV.b s0)), (14, (AV.b s0)), (15, (AV.pt 0 1)), (16, (AV.i s.gen)), (17, (AV.b s2)), (18, (AV.b s2)), (19, (AV.b s2)), (20, (AV.pt 0 3)), (21, (AV.sl s.points.length (s.points.flatMap Po.cells))), (22, (AV.i (s.points.length : Int))), (23, (AV.b (decide ((s.points.length : Int) ≤ (4 : Int))))), (24, (AV.b (decide ((s.points.length : Int) ≤ (4 : Int))))), (25, (AV.b (decide ((s.points.length : Int) ≤ (4 : Int))))), (26, (AV.tu ([] : List AV))), (27, (AV.tu ([] : List AV))), (28, (AV.tu ([] : List AV))), (29, (AV.b false)), (30, (AV.b false)), (31, (AV.tu ([] : List AV))), (32, (AV.tu ([] : List AV))), (33, (AV.tu ([] : List AV))), (34, (AV.tu ([] : List AV))), (35, (AV.b false)), (3, (AV.b false)), (4, (AV.pt 1 0)), (36, (AV.pt 0 3)), (37, (AV.sl s.points.length (s.points.flatMap Po.cells))), (38, (AV.i (s.points.length : Int))), (39, (AV.i 0))] 104 (AH.mk 2 [(1, (AObj.cells [(AV.i 0), (AV.i 0), AV.nl])), (0, (AObj.cells [(AV.i s.blocks), (AV.i s.gen), (exs s.map), (AV.sl s.points.length (s.points.flatMap Po.cells)), (AV.i s.last), (bys s.staged)]))]) false)
noncomputable abbrev sCheck_L2_S (s : Sa) (s0 : Bool) (s2 : Bool) (s5 : Int × Int × Int × List Ex) : St := (St.mk [(0, (AV.ag [(AV.i s.blocks), (AV.i s.gen), (exs s.map), (AV.sl s.points.length (s.points.flatMap Po.cells)), (AV.i s.last), (bys s.staged)])), (1, (AV.pt 0 0)), (2, (AV.i 0)), (3, (AV.b false)), (4, (AV.pt 1 0)), (37, (AV.sl s.points.length (s.points.flatMap Po.cells))), (38, (AV.i (s.points.length : Int))), (39, (AV.i s5.1))] 104 (AH.mk 2 [(1, (AObj.cells [(AV.i s5.2.1), (AV.i s5.2.2.1), (exs s5.2.2.2)])), (0, (AObj.cells [(AV.i s.blocks), (AV.i s.gen), (exs s.map), (AV.sl s.points.length (s.points.flatMap Po.cells)), (AV.i s.last), (bys s.staged)]))]) false)
noncomputable def sCheck_L2_step (s : Sa) (s0 : Bool) (s2 : Bool) (s5 : Int × Int × Int × List Ex) : Option (Int × Int × Int × List Ex) :=
 (tb ((decide (s5.1 < (s.points.length : Int)))) (tp ((((0 : Int) ≤ s5.1) ∧ (s5.1 < (s.points.length : Int)))) (some (((wr (s5.1 + (1 : Int))), ((poAt s.points s5.1.toNat).id, ((poAt s.points s5.1.toNat).gen, (poAt s.points s5.1.toNat).map)))))) none)
theorem sCheck_L2_ok (s : Sa) (s0 : Bool) (s2 : Bool) (s5 zz : Int × Int × Int × List Ex) : sCheck_L2_step s s0 s2 s5 = some zz → EvStep Try.prog cf 2 (lp Try.prog 30 0) (sCheck_L2_S s s0 s2 s5) (sCheck_L2_S s s0 s2 zz) := by
  unfold sCheck_L2_step
  exact tbD (fun h6 h6p => tp_ok fun h7 => by intro e; injection e with e; subst e; exact leafIS vw_eq (k := 300) (r := []) (hs := hz [(1, [.yes, .yes, .yes, .cells ((Po.cells (poAt s.points s5.1.toNat)))]), (2, [.fc]), (49, [.fc]), (1, [.fc]), (2, [])]) (ks := [0, 1, 2, 3, 4, 37, 38, 39]) (bs := [1, 0]) kq (ac h6 (ac h7 (ac (fq (p := ((3 : Nat) ≤ (List.length (List.drop (s5.1.toNat * 3) (s.points.flatMap Po.cells)))))) (ac (show (List.take 3 (List.drop (s5.1.toNat * 3) (s.points.flatMap Po.cells))) = (Po.cells (poAt s.points s5.1.toNat)) from (po_takeO bq bq)) an)))) kq) fun h6 h6p => tn_ok
noncomputable abbrev sCheck_L3_I (s : Sa) (s0 : Bool) (s2 : Bool) : St := (St.mk [(0, (AV.ag [(AV.i s.blocks), (AV.i s.gen), (exs s.map), (AV.sl s.points.length (s.points.flatMap Po.cells)), (AV.i s.last), (bys s.staged)])), (1, (AV.pt 0 0)), (2, (AV.i 0)), (7, (AV.pt 0 0)), (8, (AV.i s.blocks)), (9, (AV.pt 0 2)), (10, (exs s.map)), (11, (AV.pt 0 1)), (12, (AV.i s.gen)), (13, (AV.b s0)), (14, (AV.b s0)), (15, (AV.pt 0 1)), (16, (AV.i s.gen)), (17, (AV.b s2)), (18, (AV.b s2)), (19, (AV.b s2)), (20, (AV.tu ([] : List AV))), (21, (AV.tu ([] : List AV))), (22, (AV.tu ([] : List AV))), (23, (AV.tu ([] : List AV))), (24, (AV.b false)), (25, (AV.b false)), (26, (AV.tu ([] : List AV))), (27, (AV.tu ([] : List AV))), (28, (AV.tu ([] : List AV))), (29, (AV.b false)), (30, (AV.b false)), (31, (AV.tu ([] : List AV))), (32, (AV.tu ([] : List AV))), (33, (AV.tu ([] : List AV))), (34, (AV.tu ([] : List AV))), (35, (AV.b false)), (3, (AV.b false)), (4, (AV.pt 1 0)), (36, (AV.pt 0 3)), (37, (AV.sl s.points.length (s.points.flatMap Po.cells))), (38, (AV.i (s.points.length : Int))), (39, (AV.i 0))] 104 (AH.mk 2 [(1, (AObj.cells [(AV.i 0), (AV.i 0), AV.nl])), (0, (AObj.cells [(AV.i s.blocks), (AV.i s.gen), (exs s.map), (AV.sl s.points.length (s.points.flatMap Po.cells)), (AV.i s.last), (bys s.staged)]))]) false)
noncomputable abbrev sCheck_L3_S (s : Sa) (s0 : Bool) (s2 : Bool) (s4 : Int × Int × Int × List Ex) : St := (St.mk [(0, (AV.ag [(AV.i s.blocks), (AV.i s.gen), (exs s.map), (AV.sl s.points.length (s.points.flatMap Po.cells)), (AV.i s.last), (bys s.staged)])), (1, (AV.pt 0 0)), (2, (AV.i 0)), (3, (AV.b false)), (4, (AV.pt 1 0)), (37, (AV.sl s.points.length (s.points.flatMap Po.cells))), (38, (AV.i (s.points.length : Int))), (39, (AV.i s4.1))] 104 (AH.mk 2 [(1, (AObj.cells [(AV.i s4.2.1), (AV.i s4.2.2.1), (exs s4.2.2.2)])), (0, (AObj.cells [(AV.i s.blocks), (AV.i s.gen), (exs s.map), (AV.sl s.points.length (s.points.flatMap Po.cells)), (AV.i s.last), (bys s.staged)]))]) false)
noncomputable def sCheck_L3_step (s : Sa) (s0 : Bool) (s2 : Bool) (s4 : Int × Int × Int × List Ex) : Option (Int × Int × Int × List Ex) :=
 (tb ((decide (s4.1 < (s.points.length : Int)))) (tp ((((0 : Int) ≤ s4.1) ∧ (s4.1 < (s.points.length : Int)))) (some (((wr (s4.1 + (1 : Int))), ((poAt s.points s4.1.toNat).id, ((poAt s.points s4.1.toNat).gen, (poAt s.points s4.1.toNat).map)))))) none)
theorem sCheck_L3_ok (s : Sa) (s0 : Bool) (s2 : Bool) (s4 zz : Int × Int × Int × List Ex) : sCheck_L3_step s s0 s2 s4 = some zz → EvStep Try.prog cf 2 (lp Try.prog 30 0) (sCheck_L3_S s s0 s2 s4) (sCheck_L3_S s s0 s2 zz) := by
  unfold sCheck_L3_step
  exact tbD (fun h5 h5p => tp_ok fun h6 => by intro e; injection e with e; subst e; exact leafIS vw_eq (k := 300) (r := []) (hs := hz [(1, [.yes, .yes, .yes, .cells ((Po.cells (poAt s.points s4.1.toNat)))]), (2, [.fc]), (49, [.fc]), (1, [.fc]), (2, [])]) (ks := [0, 1, 2, 3, 4, 37, 38, 39]) (bs := [1, 0]) kq (ac h5 (ac h6 (ac (fq (p := ((3 : Nat) ≤ (List.length (List.drop (s4.1.toNat * 3) (s.points.flatMap Po.cells)))))) (ac (show (List.take 3 (List.drop (s4.1.toNat * 3) (s.points.flatMap Po.cells))) = (Po.cells (poAt s.points s4.1.toNat)) from (po_takeO bq bq)) an)))) kq) fun h5 h5p => tn_ok
noncomputable abbrev sCheck_L4_I (s : Sa) (s0 : Bool) : St := (St.mk [(0, (AV.ag [(AV.i s.blocks), (AV.i s.gen), (exs s.map), (AV.sl s.points.length (s.points.flatMap Po.cells)), (AV.i s.last), (bys s.staged)])), (1, (AV.pt 0 0)), (2, (AV.i 0)), (7, (AV.pt 0 0)), (8, (AV.i s.blocks)), (9, (AV.pt 0 2)), (10, (exs s.map)), (11, (AV.pt 0 1)), (12, (AV.i s.gen)), (13, (AV.b s0)), (14, (AV.b s0)), (15, (AV.tu ([] : List AV))), (16, (AV.tu ([] : List AV))), (17, (AV.tu ([] : List AV))), (18, (AV.b false)), (19, (AV.b false)), (20, (AV.tu ([] : List AV))), (21, (AV.tu ([] : List AV))), (22, (AV.tu ([] : List AV))), (23, (AV.tu ([] : List AV))), (24, (AV.b false)), (25, (AV.b false)), (26, (AV.tu ([] : List AV))), (27, (AV.tu ([] : List AV))), (28, (AV.tu ([] : List AV))), (29, (AV.b false)), (30, (AV.b false)), (31, (AV.tu ([] : List AV))), (32, (AV.tu ([] : List AV))), (33, (AV.tu ([] : List AV))), (34, (AV.tu ([] : List AV))), (35, (AV.b false)), (3, (AV.b false)), (4, (AV.pt 1 0)), (36, (AV.pt 0 3)), (37, (AV.sl s.points.length (s.points.flatMap Po.cells))), (38, (AV.i (s.points.length : Int))), (39, (AV.i 0))] 104 (AH.mk 2 [(1, (AObj.cells [(AV.i 0), (AV.i 0), AV.nl])), (0, (AObj.cells [(AV.i s.blocks), (AV.i s.gen), (exs s.map), (AV.sl s.points.length (s.points.flatMap Po.cells)), (AV.i s.last), (bys s.staged)]))]) false)
noncomputable abbrev sCheck_L4_S (s : Sa) (s0 : Bool) (s2 : Int × Int × Int × List Ex) : St := (St.mk [(0, (AV.ag [(AV.i s.blocks), (AV.i s.gen), (exs s.map), (AV.sl s.points.length (s.points.flatMap Po.cells)), (AV.i s.last), (bys s.staged)])), (1, (AV.pt 0 0)), (2, (AV.i 0)), (3, (AV.b false)), (4, (AV.pt 1 0)), (37, (AV.sl s.points.length (s.points.flatMap Po.cells))), (38, (AV.i (s.points.length : Int))), (39, (AV.i s2.1))] 104 (AH.mk 2 [(1, (AObj.cells [(AV.i s2.2.1), (AV.i s2.2.2.1), (exs s2.2.2.2)])), (0, (AObj.cells [(AV.i s.blocks), (AV.i s.gen), (exs s.map), (AV.sl s.points.length (s.points.flatMap Po.cells)), (AV.i s.last), (bys s.staged)]))]) false)
noncomputable def sCheck_L4_step (s : Sa) (s0 : Bool) (s2 : Int × Int × Int × List Ex) : Option (Int × Int × Int × List Ex) :=
 (tb ((decide (s2.1 < (s.points.length : Int)))) (tp ((((0 : Int) ≤ s2.1) ∧ (s2.1 < (s.points.length : Int)))) (some (((wr (s2.1 + (1 : Int))), ((poAt s.points s2.1.toNat).id, ((poAt s.points s2.1.toNat).gen, (poAt s.points s2.1.toNat).map)))))) none)
theorem sCheck_L4_ok (s : Sa) (s0 : Bool) (s2 zz : Int × Int × Int × List Ex) : sCheck_L4_step s s0 s2 = some zz → EvStep Try.prog cf 2 (lp Try.prog 30 0) (sCheck_L4_S s s0 s2) (sCheck_L4_S s s0 zz) := by
  unfold sCheck_L4_step
  exact tbD (fun h3 h3p => tp_ok fun h4 => by intro e; injection e with e; subst e; exact leafIS vw_eq (k := 300) (r := []) (hs := hz [(1, [.yes, .yes, .yes, .cells ((Po.cells (poAt s.points s2.1.toNat)))]), (2, [.fc]), (49, [.fc]), (1, [.fc]), (2, [])]) (ks := [0, 1, 2, 3, 4, 37, 38, 39]) (bs := [1, 0]) kq (ac h3 (ac h4 (ac (fq (p := ((3 : Nat) ≤ (List.length (List.drop (s2.1.toNat * 3) (s.points.flatMap Po.cells)))))) (ac (show (List.take 3 (List.drop (s2.1.toNat * 3) (s.points.flatMap Po.cells))) = (Po.cells (poAt s.points s2.1.toNat)) from (po_takeO bq bq)) an)))) kq) fun h3 h3p => tn_ok
/-- Function 30, as it answers. -/
noncomputable def sCheck (s : Sa) : Option (Int) :=
 (tc (sUpto (s.blocks) (s.map) (s.gen)) fun s0 => (tb (s0) (tc (sWithin (s.gen) ((1 : Int)) ((2147483647 : Int))) fun s2 => (tb (s2) (tb ((decide ((s.points.length : Int) ≤ (4 : Int)))) (tc (sWithin (s.last) ((0 : Int)) ((2147483647 : Int))) fun s5 => (tb (s5) (th (sCheck_L0_step s s0 s2 s5) (((decide ((s.staged.length : Int) ≤ (4000 : Int))), ((0 : Int), ((0 : Int), ((0 : Int), ([] : List Ex)))))) fun s7 => (tb ((decide (s7.2.1 < (s.points.length : Int)))) none (tb ((!s7.1)) (some ((110 : Int))) (tc (sKept (s7.2.2.2.2) (s.map) (s7.2.2.2.1)) fun s10 => (tb ((!s10)) (some ((110 : Int))) (some ((0 : Int)))))))) (th (sCheck_L1_step s s0 s2 s5) (((0 : Int), ((0 : Int), ((0 : Int), ([] : List Ex))))) fun s7 => (tb ((decide (s7.1 < (s.points.length : Int)))) none (some ((110 : Int))))))) (th (sCheck_L2_step s s0 s2) (((0 : Int), ((0 : Int), ((0 : Int), ([] : List Ex))))) fun s5 => (tb ((decide (s5.1 < (s.points.length : Int)))) none (some ((110 : Int)))))) (th (sCheck_L3_step s s0 s2) (((0 : Int), ((0 : Int), ((0 : Int), ([] : List Ex))))) fun s4 => (tb ((decide (s4.1 < (s.points.length : Int)))) none (some ((110 : Int))))))) (th (sCheck_L4_step s s0) (((0 : Int), ((0 : Int), ((0 : Int), ([] : List Ex))))) fun s2 => (tb ((decide (s2.1 < (s.points.length : Int)))) none (some ((110 : Int)))))))
abbrev sCheck_G (s : Sa) (r : Int) : Prop := EvFr Try.prog cf true 30 [Sa.av (s)] (.i (r))
theorem sCheck_ok (s : Sa) (r : Int) : sCheck s = some r → sCheck_G s r := by
  unfold sCheck
  exact tc_ok fun s0 h0 => tb_ok (fun h1 => tc_ok fun s2 h2 => tb_ok (fun h3 => tbD (fun h4 h4p => tc_ok fun s5 h5 => tb_ok (fun h6 => th_ok fun s7 h7 => tbD (fun h8 h8p => tn_ok) fun h8 h8p => tb_ok (fun h9 => by intro e; injection e with e; subst e; exact leafR vw_eq (k := 300) (r := []) (hs := hz [(12, [.fres (.b (s0))]), (1, [.yes]), (1, [.yes]), (2, [.yes]), (1, [.fres (.b (s2)), .yes]), (1, [.yes]), (1, [.yes]), (2, [.yes]), (1, [.yes]), (1, [.yes]), (1, [.yes]), (1, [.yes]), (2, [.yes]), (1, [.fres (.b (s5)), .yes]), (1, [.yes]), (1, [.yes]), (2, [.yes]), (1, [.yes]), (1, [.yes]), (7, [.head (sCheck_L0_S s s0 s2 s5 s7)]), (1, [.no]), (3, [.yes, .yes, .yes, .yes, .yes, .yes, .yes, .yes, .yes]), (2, [])]) (raw := (AV.i 110)) kq (ac (sUpto_ok (s.blocks) (s.map) (s.gen) _ h0).any0 (ac h1 (ac h1 (ac h1 (ac (sWithin_ok (s.gen) ((1 : Int)) ((2147483647 : Int)) _ h2).any0 (ac h1 (ac h3 (ac h3 (ac h3 (ac h3 (ac h3 (ac h4 (ac h4 (ac h4 (ac (sWithin_ok (s.last) ((0 : Int)) ((2147483647 : Int)) _ h5).any0 (ac h4 (ac h6 (ac h6 (ac h6 (ac h6 (ac h6 (ac (show EvHead Try.prog cf (lp Try.prog 30 0) (sCheck_L0_I s s0 s2 s5) (sCheck_L0_S s s0 s2 s5 s7) from (EvHead.of (sCheck_L0_ok s s0 s2 s5) (absB_of [] [] kq (.consn kq (.agp pq) (.consn kq (.pt rfl) (.consn kq (.eqv tq rfl) (.consn kq (.eqv tq rfl) (.consn kq (.pt rfl) (.consn kq (.eqv tq rfl) (.consn kq (.eqv tq rfl) (.consn kq (.eqv tq rfl) .nil)))))))) (.cons (.old rfl rfl (.cells (.cons (.eqv tq rfl) (.cons (.eqv tq rfl) (.cons (.pur 1 rfl (by simp)) .nil))))) (.cons (.old rfl rfl (.cells (.pl rfl pq))) .nil))) h7)) (ac h8 (ac h9 (ac h9 (ac h9 (ac h9 (ac h9 (ac h9 (ac h9 (ac h9 (ac h9 an)))))))))))))))))))))))))))))))) tq) fun h9 => tc_ok fun s10 h10 => tb_ok (fun h11 => by intro e; injection e with e; subst e; exact leafR vw_eq (k := 300) (r := []) (hs := hz [(12, [.fres (.b (s0))]), (1, [.yes]), (1, [.yes]), (2, [.yes]), (1, [.fres (.b (s2)), .yes]), (1, [.yes]), (1, [.yes]), (2, [.yes]), (1, [.yes]), (1, [.yes]), (1, [.yes]), (1, [.yes]), (2, [.yes]), (1, [.fres (.b (s5)), .yes]), (1, [.yes]), (1, [.yes]), (2, [.yes]), (1, [.yes]), (1, [.yes]), (7, [.head (sCheck_L0_S s s0 s2 s5 s7)]), (1, [.no]), (3, [.no]), (1, [.no]), (2, [.no]), (1, [.no]), (2, [.no]), (1, [.no]), (2, [.no]), (1, [.fres (.b (s10)), .no]), (1, [.no, .yes]), (1, [])]) (raw := (AV.i 110)) kq (ac (sUpto_ok (s.blocks) (s.map) (s.gen) _ h0).any0 (ac h1 (ac h1 (ac h1 (ac (sWithin_ok (s.gen) ((1 : Int)) ((2147483647 : Int)) _ h2).any0 (ac h1 (ac h3 (ac h3 (ac h3 (ac h3 (ac h3 (ac h4 (ac h4 (ac h4 (ac (sWithin_ok (s.last) ((0 : Int)) ((2147483647 : Int)) _ h5).any0 (ac h4 (ac h6 (ac h6 (ac h6 (ac h6 (ac h6 (ac (show EvHead Try.prog cf (lp Try.prog 30 0) (sCheck_L0_I s s0 s2 s5) (sCheck_L0_S s s0 s2 s5 s7) from (EvHead.of (sCheck_L0_ok s s0 s2 s5) (absB_of [] [] kq (.consn kq (.agp pq) (.consn kq (.pt rfl) (.consn kq (.eqv tq rfl) (.consn kq (.eqv tq rfl) (.consn kq (.pt rfl) (.consn kq (.eqv tq rfl) (.consn kq (.eqv tq rfl) (.consn kq (.eqv tq rfl) .nil)))))))) (.cons (.old rfl rfl (.cells (.cons (.eqv tq rfl) (.cons (.eqv tq rfl) (.cons (.pur 1 rfl (by simp)) .nil))))) (.cons (.old rfl rfl (.cells (.pl rfl pq))) .nil))) h7)) (ac h8 (ac h9 (ac h9 (ac h9 (ac h9 (ac h9 (ac h9 (ac h9 (ac (sKept_ok (s7.2.2.2.2) (s.map) (s7.2.2.2.1) _ h10).any0 (ac h9 (ac h9 (ac h11 an)))))))))))))))))))))))))))))))))) tq) fun h11 => by intro e; injection e with e; subst e; exact leafR vw_eq (k := 300) (r := []) (hs := hz [(12, [.fres (.b (s0))]), (1, [.yes]), (1, [.yes]), (2, [.yes]), (1, [.fres (.b (s2)), .yes]), (1, [.yes]), (1, [.yes]), (2, [.yes]), (1, [.yes]), (1, [.yes]), (1, [.yes]), (1, [.yes]), (2, [.yes]), (1, [.fres (.b (s5)), .yes]), (1, [.yes]), (1, [.yes]), (2, [.yes]), (1, [.yes]), (1, [.yes]), (7, [.head (sCheck_L0_S s s0 s2 s5 s7)]), (1, [.no]), (3, [.no]), (1, [.no]), (2, [.no]), (1, [.no]), (2, [.no]), (1, [.no]), (2, [.no]), (1, [.fres (.b (s10)), .no]), (1, [.no, .no]), (1, [])]) (raw := (AV.i 0)) kq (ac (sUpto_ok (s.blocks) (s.map) (s.gen) _ h0).any0 (ac h1 (ac h1 (ac h1 (ac (sWithin_ok (s.gen) ((1 : Int)) ((2147483647 : Int)) _ h2).any0 (ac h1 (ac h3 (ac h3 (ac h3 (ac h3 (ac h3 (ac h4 (ac h4 (ac h4 (ac (sWithin_ok (s.last) ((0 : Int)) ((2147483647 : Int)) _ h5).any0 (ac h4 (ac h6 (ac h6 (ac h6 (ac h6 (ac h6 (ac (show EvHead Try.prog cf (lp Try.prog 30 0) (sCheck_L0_I s s0 s2 s5) (sCheck_L0_S s s0 s2 s5 s7) from (EvHead.of (sCheck_L0_ok s s0 s2 s5) (absB_of [] [] kq (.consn kq (.agp pq) (.consn kq (.pt rfl) (.consn kq (.eqv tq rfl) (.consn kq (.eqv tq rfl) (.consn kq (.pt rfl) (.consn kq (.eqv tq rfl) (.consn kq (.eqv tq rfl) (.consn kq (.eqv tq rfl) .nil)))))))) (.cons (.old rfl rfl (.cells (.cons (.eqv tq rfl) (.cons (.eqv tq rfl) (.cons (.pur 1 rfl (by simp)) .nil))))) (.cons (.old rfl rfl (.cells (.pl rfl pq))) .nil))) h7)) (ac h8 (ac h9 (ac h9 (ac h9 (ac h9 (ac h9 (ac h9 (ac h9 (ac (sKept_ok (s7.2.2.2.2) (s.map) (s7.2.2.2.1) _ h10).any0 (ac h9 (ac h9 (ac h11 an)))))))))))))))))))))))))))))))))) tq) fun h6 => th_ok fun s7 h7 => tbD (fun h8 h8p => tn_ok) fun h8 h8p => by intro e; injection e with e; subst e; exact leafR vw_eq (k := 300) (r := []) (hs := hz [(12, [.fres (.b (s0))]), (1, [.yes]), (1, [.yes]), (2, [.yes]), (1, [.fres (.b (s2)), .yes]), (1, [.yes]), (1, [.yes]), (2, [.yes]), (1, [.yes]), (1, [.yes]), (1, [.yes]), (1, [.yes]), (2, [.yes]), (1, [.fres (.b (s5)), .yes]), (1, [.no, .no, .no, .no, .no]), (7, [.head (sCheck_L1_S s s0 s2 s5 s7)]), (1, [.no]), (14, [])]) (raw := (AV.i 110)) kq (ac (sUpto_ok (s.blocks) (s.map) (s.gen) _ h0).any0 (ac h1 (ac h1 (ac h1 (ac (sWithin_ok (s.gen) ((1 : Int)) ((2147483647 : Int)) _ h2).any0 (ac h1 (ac h3 (ac h3 (ac h3 (ac h3 (ac h3 (ac h4 (ac h4 (ac h4 (ac (sWithin_ok (s.last) ((0 : Int)) ((2147483647 : Int)) _ h5).any0 (ac h4 (ac h6 (ac h6 (ac h6 (ac h6 (ac h6 (ac (show EvHead Try.prog cf (lp Try.prog 30 0) (sCheck_L1_I s s0 s2 s5) (sCheck_L1_S s s0 s2 s5 s7) from (EvHead.of (sCheck_L1_ok s s0 s2 s5) (absB_of [] [] kq (.consn kq (.agp pq) (.consn kq (.pt rfl) (.consn kq (.eqv tq rfl) (.consn kq (.eqv tq rfl) (.consn kq (.pt rfl) (.consn kq (.eqv tq rfl) (.consn kq (.eqv tq rfl) (.consn kq (.eqv tq rfl) .nil)))))))) (.cons (.old rfl rfl (.cells (.cons (.eqv tq rfl) (.cons (.eqv tq rfl) (.cons (.pur 1 rfl (by simp)) .nil))))) (.cons (.old rfl rfl (.cells (.pl rfl pq))) .nil))) h7)) (ac h8 an))))))))))))))))))))))) tq) fun h4 h4p => th_ok fun s5 h5 => tbD (fun h6 h6p => tn_ok) fun h6 h6p => by intro e; injection e with e; subst e; exact leafR vw_eq (k := 300) (r := []) (hs := hz [(12, [.fres (.b (s0))]), (1, [.yes]), (1, [.yes]), (2, [.yes]), (1, [.fres (.b (s2)), .yes]), (1, [.yes]), (1, [.yes]), (2, [.yes]), (1, [.yes]), (1, [.yes]), (1, [.no, .no, .no, .no]), (13, [.head (sCheck_L2_S s s0 s2 s5)]), (1, [.no]), (14, [])]) (raw := (AV.i 110)) kq (ac (sUpto_ok (s.blocks) (s.map) (s.gen) _ h0).any0 (ac h1 (ac h1 (ac h1 (ac (sWithin_ok (s.gen) ((1 : Int)) ((2147483647 : Int)) _ h2).any0 (ac h1 (ac h3 (ac h3 (ac h3 (ac h3 (ac h3 (ac h4 (ac h4 (ac h4 (ac h4 (ac (show EvHead Try.prog cf (lp Try.prog 30 0) (sCheck_L2_I s s0 s2) (sCheck_L2_S s s0 s2 s5) from (EvHead.of (sCheck_L2_ok s s0 s2) (absB_of [] [] kq (.consn kq (.agp pq) (.consn kq (.pt rfl) (.consn kq (.eqv tq rfl) (.consn kq (.eqv tq rfl) (.consn kq (.pt rfl) (.consn kq (.eqv tq rfl) (.consn kq (.eqv tq rfl) (.consn kq (.eqv tq rfl) .nil)))))))) (.cons (.old rfl rfl (.cells (.cons (.eqv tq rfl) (.cons (.eqv tq rfl) (.cons (.pur 1 rfl (by simp)) .nil))))) (.cons (.old rfl rfl (.cells (.pl rfl pq))) .nil))) h5)) (ac h6 an))))))))))))))))) tq) fun h3 => th_ok fun s4 h4 => tbD (fun h5 h5p => tn_ok) fun h5 h5p => by intro e; injection e with e; subst e; exact leafR vw_eq (k := 300) (r := []) (hs := hz [(12, [.fres (.b (s0))]), (1, [.yes]), (1, [.yes]), (2, [.yes]), (1, [.fres (.b (s2)), .yes]), (1, [.no, .no, .no, .no, .no]), (18, [.head (sCheck_L3_S s s0 s2 s4)]), (1, [.no]), (14, [])]) (raw := (AV.i 110)) kq (ac (sUpto_ok (s.blocks) (s.map) (s.gen) _ h0).any0 (ac h1 (ac h1 (ac h1 (ac (sWithin_ok (s.gen) ((1 : Int)) ((2147483647 : Int)) _ h2).any0 (ac h1 (ac h3 (ac h3 (ac h3 (ac h3 (ac h3 (ac (show EvHead Try.prog cf (lp Try.prog 30 0) (sCheck_L3_I s s0 s2) (sCheck_L3_S s s0 s2 s4) from (EvHead.of (sCheck_L3_ok s s0 s2) (absB_of [] [] kq (.consn kq (.agp pq) (.consn kq (.pt rfl) (.consn kq (.eqv tq rfl) (.consn kq (.eqv tq rfl) (.consn kq (.pt rfl) (.consn kq (.eqv tq rfl) (.consn kq (.eqv tq rfl) (.consn kq (.eqv tq rfl) .nil)))))))) (.cons (.old rfl rfl (.cells (.cons (.eqv tq rfl) (.cons (.eqv tq rfl) (.cons (.pur 1 rfl (by simp)) .nil))))) (.cons (.old rfl rfl (.cells (.pl rfl pq))) .nil))) h4)) (ac h5 an))))))))))))) tq) fun h1 => th_ok fun s2 h2 => tbD (fun h3 h3p => tn_ok) fun h3 h3p => by intro e; injection e with e; subst e; exact leafR vw_eq (k := 300) (r := []) (hs := hz [(12, [.fres (.b (s0))]), (1, [.no, .no, .no, .no]), (24, [.head (sCheck_L4_S s s0 s2)]), (1, [.no]), (14, [])]) (raw := (AV.i 110)) kq (ac (sUpto_ok (s.blocks) (s.map) (s.gen) _ h0).any0 (ac h1 (ac h1 (ac h1 (ac h1 (ac (show EvHead Try.prog cf (lp Try.prog 30 0) (sCheck_L4_I s s0) (sCheck_L4_S s s0 s2) from (EvHead.of (sCheck_L4_ok s s0) (absB_of [] [] kq (.consn kq (.agp pq) (.consn kq (.pt rfl) (.consn kq (.eqv tq rfl) (.consn kq (.eqv tq rfl) (.consn kq (.pt rfl) (.consn kq (.eqv tq rfl) (.consn kq (.eqv tq rfl) (.consn kq (.eqv tq rfl) .nil)))))))) (.cons (.old rfl rfl (.cells (.cons (.eqv tq rfl) (.cons (.eqv tq rfl) (.cons (.pur 1 rfl (by simp)) .nil))))) (.cons (.old rfl rfl (.cells (.pl rfl pq))) .nil))) h2)) (ac h3 an))))))) tq
end Ab
end Go.Proofs.Ytpflcogplhigcaa
namespace Go.Proofs.Ytpflcogplhigcaa
open Go Go.Proofs.Ytpflcogplhigcaa.Ab
set_option linter.unusedVariables false
set_option linter.unusedSimpArgs false
set_option maxRecDepth 1000000
set_option maxHeartbeats 0
namespace Ab
noncomputable abbrev sCopy_L0_I (s : Sa) (s0 : Int) (s2 : List Ex) : St := (St.mk [(0, (AV.ag [(AV.i s.blocks), (AV.i s.gen), (exs s.map), (AV.sl s.points.length (s.points.flatMap Po.cells)), (AV.i s.last), (bys s.staged)])), (1, (AV.pt 0 0)), (2, (AV.pt 1 0)), (5, (AV.ag [(AV.i s.blocks), (AV.i s.gen), (exs s.map), (AV.sl s.points.length (s.points.flatMap Po.cells)), (AV.i s.last), (bys s.staged)])), (6, (AV.i s0)), (7, (AV.b (s0 != (0 : Int)))), (9, (AV.pt 0 2)), (10, (exs s.map)), (11, (AV.rf 2 5 0 s2.length)), (12, (AV.pt 0 3)), (13, (AV.sl s.points.length (s.points.flatMap Po.cells))), (14, (AV.rf 3 3 0 s.points.length)), (15, (AV.pt 0 5)), (16, (bys s.staged)), (17, (AV.rf 4 1 0 s.staged.length)), (18, (AV.pt 0 2)), (19, (AV.pt 0 3)), (20, (AV.pt 0 5)), (21, (AV.pt 0 3)), (22, (AV.rf 3 3 0 s.points.length)), (23, (AV.i (s.points.length : Int))), (24, (AV.i 0))] 39 (AH.mk 5 [(4, (AObj.cells (List.map AV.y s.staged))), (3, (AObj.cells (s.points.flatMap Po.cells))), (2, (AObj.cells (s2.flatMap Ex.cells))), (1, (AObj.cells [(AV.i 0), (AV.i 0), AV.nl, AV.nl, (AV.i 0), AV.nl])), (0, (AObj.cells [(AV.i s.blocks), (AV.i s.gen), (AV.rf 2 5 0 s2.length), (AV.rf 3 3 0 s.points.length), (AV.i s.last), (AV.rf 4 1 0 s.staged.length)]))]) false)
noncomputable abbrev sCopy_L0_S (s : Sa) (s0 : Int) (s2 : List Ex) (s6 : Int × List Po) : St := (St.mk [(0, (AV.ag [(AV.i s.blocks), (AV.i s.gen), (exs s.map), (AV.sl s.points.length (s.points.flatMap Po.cells)), (AV.i s.last), (bys s.staged)])), (1, (AV.pt 0 0)), (2, (AV.pt 1 0)), (7, (AV.b (s0 != (0 : Int)))), (22, (AV.rf 3 3 0 s.points.length)), (23, (AV.i (s.points.length : Int))), (24, (AV.i s6.1))] 39 (AH.mk 5 [(4, (AObj.cells (List.map AV.y s.staged))), (3, (AObj.cells (s6.2.flatMap Po.cells))), (2, (AObj.cells (s2.flatMap Ex.cells))), (1, (AObj.cells [(AV.i 0), (AV.i 0), AV.nl, AV.nl, (AV.i 0), AV.nl])), (0, (AObj.cells [(AV.i s.blocks), (AV.i s.gen), (AV.rf 2 5 0 s2.length), (AV.rf 3 3 0 s.points.length), (AV.i s.last), (AV.rf 4 1 0 s.staged.length)]))]) false)
noncomputable def sCopy_L0_step (s : Sa) (s0 : Int) (s2 : List Ex) (s6 : Int × List Po) : Option (Int × List Po) :=
 (tb ((decide (s6.1 < (s.points.length : Int)))) (tp ((((0 : Int) ≤ s6.1) ∧ (s6.1 < (s.points.length : Int)))) (tp (((((0 : Nat) + (s6.1.toNat * 3)) + (3 : Nat)) ≤ (List.length (s6.2.flatMap Po.cells)))) (tc (sExtents ((poAt s6.2 s6.1.toNat).map)) fun s10 => (tp ((((List.length [(AV.rf 6 5 0 s10.length)]) = (1 : Nat)) ∧ (((((0 : Nat) + (s6.1.toNat * 3)) + (2 : Nat)) + (List.length [(AV.rf 6 5 0 s10.length)])) ≤ (List.length (s6.2.flatMap Po.cells))))) (some (((wr (s6.1 + (1 : Int))), (List.set s6.2 s6.1.toNat (Po.mk (poAt s6.2 s6.1.toNat).id (poAt s6.2 s6.1.toNat).gen (List.take s10.length s10)))))))))) none)
theorem sCopy_L0_ok (s : Sa) (s0 : Int) (s2 : List Ex) (s6 zz : Int × List Po) : sCopy_L0_step s s0 s2 s6 = some zz → EvStep Try.prog cf 5 (lp Try.prog 22 0) (sCopy_L0_S s s0 s2 s6) (sCopy_L0_S s s0 s2 zz) := by
  unfold sCopy_L0_step
  exact tbD (fun h7 h7p => tp_ok fun h8 => tp_ok fun h9 => tc_ok fun s10 h10 => tp_ok fun h11 => by intro e; injection e with e; subst e; exact leafS vw_eq (k := 300) (r := []) (hs := hz [(1, [.yes]), (1, [.yes, .yes, .cells ((Po.cells (poAt s6.2 s6.1.toNat)))]), (3, [.fc]), (8, [.fres (exs (s10)), .yes]), (1, [.yes]), (1, [.yes]), (2, [])]) (ks := [0, 1, 2, 7, 22, 23, 24]) (st1 := (St.mk [(0, (AV.ag [(AV.i s.blocks), (AV.i s.gen), (exs s.map), (AV.sl s.points.length (s.points.flatMap Po.cells)), (AV.i s.last), (bys s.staged)])), (1, (AV.pt 0 0)), (2, (AV.pt 1 0)), (7, (AV.b (s0 != (0 : Int)))), (22, (AV.rf 3 3 0 s.points.length)), (23, (AV.i (s.points.length : Int))), (24, (AV.i (wr (s6.1 + (1 : Int)))))] 39 (AH.mk 7 [(6, (AObj.cells (s10.flatMap Ex.cells))), (5, (AObj.cells [(AV.i (poAt s6.2 s6.1.toNat).id), (AV.i (poAt s6.2 s6.1.toNat).gen), (exs (poAt s6.2 s6.1.toNat).map)])), (4, (AObj.cells (List.map AV.y s.staged))), (3, (AObj.cells (((List.take (((0 : Nat) + (s6.1.toNat * 3)) + (2 : Nat)) (s6.2.flatMap Po.cells)) ++ [(AV.rf 6 5 0 s10.length)]) ++ (List.drop ((((0 : Nat) + (s6.1.toNat * 3)) + (2 : Nat)) + (List.length [(AV.rf 6 5 0 s10.length)])) (s6.2.flatMap Po.cells))))), (2, (AObj.cells (s2.flatMap Ex.cells))), (1, (AObj.cells [(AV.i 0), (AV.i 0), AV.nl, AV.nl, (AV.i 0), AV.nl])), (0, (AObj.cells [(AV.i s.blocks), (AV.i s.gen), (AV.rf 2 5 0 s2.length), (AV.rf 3 3 0 s.points.length), (AV.i s.last), (AV.rf 4 1 0 s.staged.length)]))]) false)) kq (ac h7 (ac h8 (ac h9 (ac (show (List.take 3 (List.drop ((0 : Nat) + (s6.1.toNat * 3)) (s6.2.flatMap Po.cells))) = (Po.cells (poAt s6.2 s6.1.toNat)) from (po_takeO bq bq)) (ac (sExtents_ok ((poAt s6.2 s6.1.toNat).map) _ h10) (ac h8 (ac h11 (ac (show orderOk (rg Try.prog 22 1) = true ∧ allOk (Region.before (rg Try.prog 22 1)) [] 0 [(some [], some []), (some [0], some []), (some [], some []), (some [], some []), (some [5], some []), (some [], some [6]), (some [], some []), (some [], some []), (some [3], some [3])] = true from (ord_of ord_22_1 bef_22_1 kq)) an)))))))) (Nat.le_of_ble_eq_true rfl) (Nat.le_of_ble_eq_true rfl) (absB_of [] [6] kq (.consn kq (.agp pq) (.consn kq (.pt rfl) (.consn kq (.pt rfl) (.consn kq (.eqv tq rfl) (.consn kq (.rf rfl) (.consn kq (.eqv tq rfl) (.consn kq (.eqv tq rfl) .nil))))))) (.cons (.old rfl rfl (.cells (.pl rfl (by simp)))) (.cons (.old rfl rfl (.cells (.cast rfl (po_setP (i := s6.1.toNat) (k := 2) (x := (Po.mk (poAt s6.2 s6.1.toNat).id (poAt s6.2 s6.1.toNat).gen (List.take s10.length s10))) bq rfl bq (by simp) (by simp [over, Po.cells, exs])) (.app (.app (.pl rfl pq) (.cons (.frzn rfl tq pq (by simp) rfl) .nil)) (.pl rfl pq))))) (.cons (.old rfl rfl (.cells (.pl rfl (by simp)))) (.cons (.old rfl rfl (.cells (.cons (.eqv tq rfl) (.cons (.eqv tq rfl) (.cons .nl0 (.cons .nl0 (.cons (.eqv tq rfl) (.cons .nl0 .nil)))))))) (.cons (.old rfl rfl (.cells (.cons (.eqv tq rfl) (.cons (.eqv tq rfl) (.cons (.rf rfl) (.cons (.rf rfl) (.cons (.eqv tq rfl) (.cons (.rf rfl) .nil)))))))) .nil))))))) fun h7 h7p => tn_ok
/-- Function 22, as it answers. -/
noncomputable def sCopy (s : Sa) : Option (Sa) :=
 (tc (sCheck (s)) fun s0 => (tb ((s0 != (0 : Int))) (some ((Sa.mk 0 0 ([] : List Ex) ([] : List Po) 0 ([] : List UInt8)))) (tc (sExtents (s.map)) fun s2 => (tp (((List.length (s.points.flatMap Po.cells)) = (s.points.length * 3))) (tp ((s.points.length ≤ (4294967296 : Nat))) (tp ((s.staged.length ≤ (4294967296 : Nat))) (th (sCopy_L0_step s s0 s2) (((0 : Int), s.points)) fun s6 => (tb ((decide (s6.1 < (s.points.length : Int)))) none (tp ((((0 : Nat) = (0 : Nat)) ∧ ((List.length (s2.flatMap Ex.cells)) = (s2.length * 5)))) (tp ((((0 : Nat) = (0 : Nat)) ∧ ((List.length (s6.2.flatMap Po.cells)) = (s.points.length * 3)))) (some ((Sa.mk s.blocks s.gen s2 s6.2 s.last s.staged)))))))))))))
abbrev sCopy_G (s : Sa) (r : Sa) : Prop := EvOw Try.prog cf false [[0, 0, 5, 3, 0, 1]] 22 [Sa.av (s)] (Sa.av (r))
theorem sCopy_ok (s : Sa) (r : Sa) : sCopy s = some r → sCopy_G s r := by
  unfold sCopy
  exact tc_ok fun s0 h0 => tbN (fun h1 h1p => by intro e; injection e with e; subst e; exact leafO vw_eq (k := 300) (r := []) (hs := hz [(3, [.fc]), (1, [.fres (.i (s0))]), (1, [.yes]), (2, [.fc]), (1, [.fc])]) (R := fun H => ((AV.ag [(AV.i 0), (AV.i 0), (AV.rf (AH.nx H) 5 0 0), (AV.rf ((AH.nx H) + (1 : Nat)) 3 0 0), (AV.i 0), (AV.rf (((AH.nx H) + (1 : Nat)) + (1 : Nat)) 1 0 0)]), (AH.mk ((((AH.nx H) + (1 : Nat)) + (1 : Nat)) + (1 : Nat)) (((((AH.nx H) + (1 : Nat)) + (1 : Nat)), (AObj.cells ([] : List AV))) :: (((AH.nx H) + (1 : Nat)), (AObj.cells ([] : List AV))) :: ((AH.nx H), (AObj.cells ([] : List AV))) :: (AH.l H))))) (fun H => kq) (ac (sCheck_ok (s) _ h0).any0 (ac h1 an)) (fun H => oq)) fun h1 h1p => tc_ok fun s2 h2 => tp_ok fun h3 => tp_ok fun h4 => tp_ok fun h5 => th_ok fun s6 h6 => tbD (fun h7 h7p => tn_ok) fun h7 h7p => tp_ok fun h8 => tp_ok fun h9 => by intro e; injection e with e; subst e; exact leafO vw_eq (k := 300) (r := []) (hs := hz [(3, [.fc]), (1, [.fres (.i (s0))]), (1, [.no]), (4, [.fres (exs (s2))]), (4, [.yes, .yes]), (4, [.yes, .yes]), (2, [.fc]), (2, [.fc]), (2, [.fc, .yes]), (5, [.head (sCopy_L0_S s s0 s2 s6)]), (1, [.no]), (1, [.fc]), (1, [.fc]), (1, [.fc, .yes, .yes, .yes, .yes, .yes, .yes])]) (R := fun H => ((AV.ag [(AV.i s.blocks), (AV.i s.gen), (AV.rf (AH.nx H) 5 0 s2.length), (AV.rf ((AH.nx H) + (1 : Nat)) 3 0 s.points.length), (AV.i s.last), (AV.rf (((AH.nx H) + (1 : Nat)) + (1 : Nat)) 1 0 s.staged.length)]), (AH.mk ((((AH.nx H) + (1 : Nat)) + (1 : Nat)) + (1 : Nat)) (((((AH.nx H) + (1 : Nat)) + (1 : Nat)), (AObj.cells (List.map AV.y s.staged))) :: (((AH.nx H) + (1 : Nat)), (AObj.cells (s6.2.flatMap Po.cells))) :: ((AH.nx H), (AObj.cells (s2.flatMap Ex.cells))) :: (AH.l H))))) (fun H => kq) (ac (sCheck_ok (s) _ h0).any0 (ac h1 (ac (sExtents_ok (s.map) _ h2) (ac h3 (ac h4 (ac (tq (p := ((List.length (List.map AV.y s.staged)) = (s.staged.length * 1)))) (ac h5 (ac (show orderOk (rg Try.prog 22 0) = true ∧ allOk (Region.before (rg Try.prog 22 0)) [] 0 [(some [], some []), (some [0], some []), (some [], some [2]), (some [], some []), (some [0], some []), (some [], some [3]), (some [], some []), (some [0], some []), (some [], some [4]), (some [], some []), (some [0], some [0]), (some [], some []), (some [0], some [0]), (some [], some []), (some [0], some [0])] = true from (ord_of ord_22_0 bef_22_0 kq)) (ac (show EvHead Try.prog cf (lp Try.prog 22 0) (sCopy_L0_I s s0 s2) (sCopy_L0_S s s0 s2 s6) from (EvHead.of (sCopy_L0_ok s s0 s2) (absB_of [] [] kq (.consn kq (.agp pq) (.consn kq (.pt rfl) (.consn kq (.pt rfl) (.consn kq (.eqv tq rfl) (.consn kq (.rf rfl) (.consn kq (.eqv tq rfl) (.consn kq (.eqv tq rfl) .nil))))))) (.cons (.old rfl rfl (.cells (.pl rfl (by simp)))) (.cons (.old rfl rfl (.cells (.pl tq pq))) (.cons (.old rfl rfl (.cells (.pl rfl (by simp)))) (.cons (.old rfl rfl (.cells (.cons (.eqv tq rfl) (.cons (.eqv tq rfl) (.cons .nl0 (.cons .nl0 (.cons (.eqv tq rfl) (.cons .nl0 .nil)))))))) (.cons (.old rfl rfl (.cells (.cons (.eqv tq rfl) (.cons (.eqv tq rfl) (.cons (.rf rfl) (.cons (.rf rfl) (.cons (.eqv tq rfl) (.cons (.rf rfl) .nil)))))))) .nil)))))) h6)) (ac h7 (ac h8 (ac (pq (p := Pl false ((s2.flatMap Ex.cells)))) (ac h9 (ac (pq (p := Pl false ((s6.2.flatMap Po.cells)))) (ac (tq (p := (((0 : Nat) = (0 : Nat)) ∧ ((List.length (List.map AV.y s.staged)) = (s.staged.length * 1))))) (ac (pq (p := Pl false ((List.map AV.y s.staged)))) an)))))))))))))))) (fun H => oq)
end Ab
end Go.Proofs.Ytpflcogplhigcaa
namespace Go.Proofs.Ytpflcogplhigcaa
open Go Go.Proofs.Ytpflcogplhigcaa.Ab
set_option linter.unusedVariables false
set_option linter.unusedSimpArgs false
set_option maxRecDepth 1000000
set_option maxHeartbeats 0
namespace Ab
noncomputable abbrev sPoint_L0_I (s : Sa) (id : Int) (s0 : Int) (s2 : Sa) : St := (St.mk [(0, (AV.ag [(AV.i s.blocks), (AV.i s.gen), (exs s.map), (AV.sl s.points.length (s.points.flatMap Po.cells)), (AV.i s.last), (bys s.staged)])), (1, (AV.i id)), (2, (AV.pt 0 0)), (4, (AV.pt 1 0)), (5, (AV.i s0)), (8, (AV.ag [(AV.i s.blocks), (AV.i s.gen), (exs s.map), (AV.sl s.points.length (s.points.flatMap Po.cells)), (AV.i s.last), (bys s.staged)])), (9, (AV.i s0)), (10, (AV.i s0)), (11, (AV.b (s0 != (0 : Int)))), (14, (AV.ag [(AV.i s.blocks), (AV.i s.gen), (exs s.map), (AV.sl s.points.length (s.points.flatMap Po.cells)), (AV.i s.last), (bys s.staged)])), (15, (AV.ag [(AV.i s2.blocks), (AV.i s2.gen), (AV.rf 2 5 0 s2.map.length), (AV.rf 3 3 0 s2.points.length), (AV.i s2.last), (AV.rf 4 1 0 s2.staged.length)])), (16, (AV.rf 3 3 0 s2.points.length)), (17, (AV.i (s2.points.length : Int))), (18, (AV.i 0))] 29 (AH.mk 5 [(4, (AObj.cells (List.map AV.y s2.staged))), (3, (AObj.cells (s2.points.flatMap Po.cells))), (2, (AObj.cells (s2.map.flatMap Ex.cells))), (1, (AObj.cells [(AV.i 0), (AV.i 0), AV.nl])), (0, (AObj.cells [(AV.i s.blocks), (AV.i s.gen), (exs s.map), (AV.sl s.points.length (s.points.flatMap Po.cells)), (AV.i s.last), (bys s.staged)]))]) false)
noncomputable abbrev sPoint_L0_S (s : Sa) (id : Int) (s0 : Int) (s2 : Sa) (s3 : Int) : St := (St.mk [(0, (AV.ag [(AV.i s.blocks), (AV.i s.gen), (exs s.map), (AV.sl s.points.length (s.points.flatMap Po.cells)), (AV.i s.last), (bys s.staged)])), (1, (AV.i id)), (2, (AV.pt 0 0)), (4, (AV.pt 1 0)), (11, (AV.b (s0 != (0 : Int)))), (16, (AV.rf 3 3 0 s2.points.length)), (17, (AV.i (s2.points.length : Int))), (18, (AV.i s3))] 29 (AH.mk 5 [(4, (AObj.cells (List.map AV.y s2.staged))), (3, (AObj.cells (s2.points.flatMap Po.cells))), (2, (AObj.cells (s2.map.flatMap Ex.cells))), (1, (AObj.cells [(AV.i 0), (AV.i 0), AV.nl])), (0, (AObj.cells [(AV.i s.blocks), (AV.i s.gen), (exs s.map), (AV.sl s.points.length (s.points.flatMap Po.cells)), (AV.i s.last), (bys s.staged)]))]) false)
noncomputable def sPoint_L0_step (s : Sa) (id : Int) (s0 : Int) (s2 : Sa) (s3 : Int) : Option (Int) :=
 (tb ((decide (s3 < (s2.points.length : Int)))) (tp ((((0 : Int) ≤ s3) ∧ (s3 < (s2.points.length : Int)))) (tb (((poAt s2.points s3.toNat).id == id)) none (some ((wr (s3 + (1 : Int))))))) none)
theorem sPoint_L0_ok (s : Sa) (id : Int) (s0 : Int) (s2 : Sa) (s3 zz : Int) : sPoint_L0_step s id s0 s2 s3 = some zz → EvStep Try.prog cf 5 (lp Try.prog 14 0) (sPoint_L0_S s id s0 s2 s3) (sPoint_L0_S s id s0 s2 zz) := by
  unfold sPoint_L0_step
  exact tbD (fun h4 h4p => tp_ok fun h5 => tbE (fun h6 h6p => tn_ok) fun h6 h6p => by intro e; injection e with e; subst e; exact leafS vw_eq (k := 300) (r := []) (hs := hz [(1, [.yes, .yes, .yes, .cells ((Po.cells (poAt s2.points s3.toNat)))]), (2, [.fc]), (5, [.no]), (2, [])]) (ks := [0, 1, 2, 4, 11, 16, 17, 18]) (st1 := (St.mk [(0, (AV.ag [(AV.i s.blocks), (AV.i s.gen), (exs s.map), (AV.sl s.points.length (s.points.flatMap Po.cells)), (AV.i s.last), (bys s.staged)])), (1, (AV.i id)), (2, (AV.pt 0 0)), (4, (AV.pt 1 0)), (11, (AV.b (s0 != (0 : Int)))), (16, (AV.rf 3 3 0 s2.points.length)), (17, (AV.i (s2.points.length : Int))), (18, (AV.i (wr (s3 + (1 : Int)))))] 29 (AH.mk 6 [(5, (AObj.cells [(AV.i (poAt s2.points s3.toNat).id), (AV.i (poAt s2.points s3.toNat).gen), (exs (poAt s2.points s3.toNat).map)])), (4, (AObj.cells (List.map AV.y s2.staged))), (3, (AObj.cells (s2.points.flatMap Po.cells))), (2, (AObj.cells (s2.map.flatMap Ex.cells))), (1, (AObj.cells [(AV.i 0), (AV.i 0), AV.nl])), (0, (AObj.cells [(AV.i s.blocks), (AV.i s.gen), (exs s.map), (AV.sl s.points.length (s.points.flatMap Po.cells)), (AV.i s.last), (bys s.staged)]))]) false)) kq (ac h4 (ac h5 (ac (fq (p := ((((0 : Nat) + (s3.toNat * 3)) + (3 : Nat)) ≤ (List.length (s2.points.flatMap Po.cells))))) (ac (show (List.take 3 (List.drop ((0 : Nat) + (s3.toNat * 3)) (s2.points.flatMap Po.cells))) = (Po.cells (poAt s2.points s3.toNat)) from (po_takeO bq bq)) (ac h6 an))))) (Nat.le_of_ble_eq_true rfl) (Nat.le_of_ble_eq_true rfl) (absB_of [] [] kq (.consn kq (.agp pq) (.consn kq (.eqv tq rfl) (.consn kq (.pt rfl) (.consn kq (.pt rfl) (.consn kq (.eqv tq rfl) (.consn kq (.rf rfl) (.consn kq (.eqv tq rfl) (.consn kq (.eqv tq rfl) .nil)))))))) (.cons (.old rfl rfl (.cells (.pl rfl (by simp)))) (.cons (.old rfl rfl (.cells (.pl rfl (by simp)))) (.cons (.old rfl rfl (.cells (.pl rfl (by simp)))) (.cons (.old rfl rfl (.cells (.cons (.eqv tq rfl) (.cons (.eqv tq rfl) (.cons .nl0 .nil))))) (.cons (.old rfl rfl (.cells (.pl rfl pq))) .nil))))))) fun h4 h4p => tn_ok
/-- Function 14, as it answers. -/
noncomputable def sPoint (s : Sa) (id : Int) : Option (Po × Int) :=
 (tc (sCheck (s)) fun s0 => (tb ((s0 != (0 : Int))) (some (((Po.mk 0 0 ([] : List Ex)), s0))) (tc (sCopy (s)) fun s2 => (th (sPoint_L0_step s id s0 s2) ((0 : Int)) fun s3 => (tb ((decide (s3 < (s2.points.length : Int)))) (tp ((((0 : Int) ≤ s3) ∧ (s3 < (s2.points.length : Int)))) (tb (((poAt s2.points s3.toNat).id == id)) (some (((poAt s2.points s3.toNat), (0 : Int)))) none)) (some (((Po.mk 0 0 ([] : List Ex)), (111 : Int)))))))))
abbrev sPoint_G (s : Sa) (id : Int) (r : Po × Int) : Prop := EvFr Try.prog cf false 14 [Sa.av (s), .i (id)] (.tu [Po.av (r.1), .i (r.2)])
theorem sPoint_ok (s : Sa) (id : Int) (r : Po × Int) : sPoint s id = some r → sPoint_G s id r := by
  unfold sPoint
  exact tc_ok fun s0 h0 => tbN (fun h1 h1p => by intro e; injection e with e; subst e; exact leafR vw_eq (k := 300) (r := []) (hs := hz [(4, [.fc]), (1, [.fres (.i (s0))]), (3, [.yes]), (1, [.fc]), (2, [.fc]), (2, [.fc])]) (raw := (AV.tu [(AV.ag [(AV.i 0), (AV.i 0), (AV.sl 0 ([] : List AV))]), (AV.i s0)])) kq (ac (sCheck_ok (s) _ h0).any0 (ac h1 an)) tq) fun h1 h1p => tc_ok fun s2 h2 => th_ok fun s3 h3 => tbD (fun h4 h4p => tp_ok fun h5 => tbE (fun h6 h6p => by intro e; injection e with e; subst e; exact leafR vw_eq (k := 300) (r := []) (hs := hz [(4, [.fc]), (1, [.fres (.i (s0))]), (3, [.no]), (1, [.fc]), (1, [.fres (Sa.av (s2))]), (4, [.head (sPoint_L0_S s id s0 s2 s3)]), (1, [.yes, .yes, .yes, .cells ((Po.cells (poAt s2.points s3.toNat)))]), (2, [.fc]), (5, [.yes]), (1, [.fc]), (1, [.fc]), (2, [.fc])]) (raw := (AV.tu [(AV.ag [(AV.i (poAt s2.points s3.toNat).id), (AV.i (poAt s2.points s3.toNat).gen), (exs (poAt s2.points s3.toNat).map)]), (AV.i 0)])) kq (ac (sCheck_ok (s) _ h0).any0 (ac h1 (ac (sCopy_ok (s) _ h2) (ac (show EvHead Try.prog cf (lp Try.prog 14 0) (sPoint_L0_I s id s0 s2) (sPoint_L0_S s id s0 s2 s3) from (EvHead.of (sPoint_L0_ok s id s0 s2) (absB_of [] [] kq (.consn kq (.agp pq) (.consn kq (.eqv tq rfl) (.consn kq (.pt rfl) (.consn kq (.pt rfl) (.consn kq (.eqv tq rfl) (.consn kq (.rf rfl) (.consn kq (.eqv tq rfl) (.consn kq (.eqv tq rfl) .nil)))))))) (.cons (.old rfl rfl (.cells (.pl rfl (by simp)))) (.cons (.old rfl rfl (.cells (.pl rfl (by simp)))) (.cons (.old rfl rfl (.cells (.pl rfl (by simp)))) (.cons (.old rfl rfl (.cells (.cons (.eqv tq rfl) (.cons (.eqv tq rfl) (.cons .nl0 .nil))))) (.cons (.old rfl rfl (.cells (.pl rfl pq))) .nil)))))) h3)) (ac h4 (ac h5 (ac (fq (p := ((((0 : Nat) + (s3.toNat * 3)) + (3 : Nat)) ≤ (List.length (s2.points.flatMap Po.cells))))) (ac (show (List.take 3 (List.drop ((0 : Nat) + (s3.toNat * 3)) (s2.points.flatMap Po.cells))) = (Po.cells (poAt s2.points s3.toNat)) from (po_takeO bq bq)) (ac h6 an))))))))) tq) fun h6 h6p => tn_ok) fun h4 h4p => by intro e; injection e with e; subst e; exact leafR vw_eq (k := 300) (r := []) (hs := hz [(4, [.fc]), (1, [.fres (.i (s0))]), (3, [.no]), (1, [.fc]), (1, [.fres (Sa.av (s2))]), (4, [.head (sPoint_L0_S s id s0 s2 s3)]), (1, [.no]), (1, [.fc]), (1, [.fc]), (2, [.fc])]) (raw := (AV.tu [(AV.ag [(AV.i 0), (AV.i 0), (AV.sl 0 ([] : List AV))]), (AV.i 111)])) kq (ac (sCheck_ok (s) _ h0).any0 (ac h1 (ac (sCopy_ok (s) _ h2) (ac (show EvHead Try.prog cf (lp Try.prog 14 0) (sPoint_L0_I s id s0 s2) (sPoint_L0_S s id s0 s2 s3) from (EvHead.of (sPoint_L0_ok s id s0 s2) (absB_of [] [] kq (.consn kq (.agp pq) (.consn kq (.eqv tq rfl) (.consn kq (.pt rfl) (.consn kq (.pt rfl) (.consn kq (.eqv tq rfl) (.consn kq (.rf rfl) (.consn kq (.eqv tq rfl) (.consn kq (.eqv tq rfl) .nil)))))))) (.cons (.old rfl rfl (.cells (.pl rfl (by simp)))) (.cons (.old rfl rfl (.cells (.pl rfl (by simp)))) (.cons (.old rfl rfl (.cells (.pl rfl (by simp)))) (.cons (.old rfl rfl (.cells (.cons (.eqv tq rfl) (.cons (.eqv tq rfl) (.cons .nl0 .nil))))) (.cons (.old rfl rfl (.cells (.pl rfl pq))) .nil)))))) h3)) (ac h4 an))))) tq
end Ab
end Go.Proofs.Ytpflcogplhigcaa
namespace Go.Proofs.Ytpflcogplhigcaa
open Go Go.Proofs.Ytpflcogplhigcaa.Ab
set_option linter.unusedVariables false
set_option linter.unusedSimpArgs false
set_option maxRecDepth 1000000
set_option maxHeartbeats 0
namespace Ab
/-- Function 96, as it answers. -/
noncomputable def r7Bytes (x : Ex) : Option (List UInt8) :=
 (tc (r7Check (x)) fun s0 => (tb ((!s0)) (some (([] : List UInt8))) (tb ((x.kind == (2 : Int))) (tp ((x.d.length ≤ (4294967296 : Nat))) (some (x.d))) (tp ((((wr ((32 : Int) * x.len)) = (wr ((32 : Int) * x.len))) ∧ (((0 : Int) ≤ (wr ((32 : Int) * x.len))) ∧ ((wr ((32 : Int) * x.len)) ≤ (4294967296 : Int))))) (some ((List.replicate (Int.toNat (wr ((32 : Int) * x.len))) (UInt8.ofNat (0 : Nat)))))))))
abbrev r7Bytes_G (x : Ex) (r : List UInt8) : Prop := EvFr Try.prog cf true 96 [Ex.av (x)] (bys (r))
theorem r7Bytes_ok (x : Ex) (r : List UInt8) : r7Bytes x = some r → r7Bytes_G x r := by
  unfold r7Bytes
  exact tc_ok fun s0 h0 => tb_ok (fun h1 => by intro e; injection e with e; subst e; exact leafR vw_eq (k := 300) (r := []) (hs := hz [(3, [.fc]), (1, [.fres (.b (s0))]), (3, [.yes]), (1, [])]) (raw := (AV.sl 0 ([] : List AV))) kq (ac (r7Check_ok (x) _ h0).any0 (ac h1 an)) tq) fun h1 => tbE (fun h2 h2p => tp_ok fun h3 => by intro e; injection e with e; subst e; exact leafR vw_eq (k := 300) (r := []) (hs := hz [(3, [.fc]), (1, [.fres (.b (s0))]), (3, [.no]), (4, [.yes]), (4, [.yes, .yes]), (1, [.yes, .yes])]) (raw := (bys x.d)) kq (ac (r7Check_ok (x) _ h0).any0 (ac h1 (ac h2 (ac (tq (p := ((List.length (List.map AV.y x.d)) = (x.d.length * 1)))) (ac h3 (ac (tq (p := (((0 : Nat) = (0 : Nat)) ∧ ((List.length (List.map AV.y x.d)) = (x.d.length * 1))))) (ac (pq (p := Pl true ((List.map AV.y x.d)))) an))))))) tq) fun h2 h2p => tp_ok fun h3 => by intro e; injection e with e; subst e; exact leafR vw_eq (k := 300) (r := []) (hs := hz [(3, [.fc]), (1, [.fres (.b (s0))]), (3, [.no]), (4, [.no]), (4, [.yes]), (1, [.yes, .yes])]) (raw := (AV.sl (Int.toNat (wr ((32 : Int) * x.len))) (List.flatten (List.replicate (Int.toNat (wr ((32 : Int) * x.len))) [(AV.y (UInt8.ofNat (0 : Nat)))])))) kq (ac (r7Check_ok (x) _ h0).any0 (ac h1 (ac h2 (ac h3 (ac (tq (p := (((0 : Nat) = (0 : Nat)) ∧ ((List.length (List.flatten (List.replicate (Int.toNat (wr ((32 : Int) * x.len))) [(AV.y (UInt8.ofNat (0 : Nat)))]))) = ((Int.toNat (wr ((32 : Int) * x.len))) * 1))))) (ac (pq (p := Pl true ((List.flatten (List.replicate (Int.toNat (wr ((32 : Int) * x.len))) [(AV.y (UInt8.ofNat (0 : Nat)))]))))) an)))))) tq
/-- Function 65, as it answers. -/
noncomputable def r7Copy (x : Ex) : Option (Ex) :=
 (tp ((x.d.length ≤ (4294967296 : Nat))) (some (x)))
abbrev r7Copy_G (x : Ex) (r : Ex) : Prop := EvOw Try.prog cf true [[0, 0, 0, 0, 1]] 65 [Ex.av (x)] (Ex.av (r))
theorem r7Copy_ok (x : Ex) (r : Ex) : r7Copy x = some r → r7Copy_G x r := by
  unfold r7Copy
  exact tp_ok fun h0 => by intro e; injection e with e; subst e; exact leafO vw_eq (k := 300) (r := []) (hs := hz [(18, [.yes, .yes]), (2, [.fc, .yes]), (1, [.fc, .yes, .yes])]) (R := fun H => ((AV.ag [(AV.i x.lba), (AV.i x.len), (AV.i x.kind), (AV.i x.gen), (AV.rf (AH.nx H) 1 0 x.d.length)]), (AH.mk ((AH.nx H) + (1 : Nat)) (((AH.nx H), (AObj.cells (List.map AV.y x.d))) :: (AH.l H))))) (fun H => kq) (ac (tq (p := ((List.length (List.map AV.y x.d)) = (x.d.length * 1)))) (ac h0 (ac (show orderOk (rg Try.prog 65 0) = true ∧ allOk (Region.before (rg Try.prog 65 0)) [] 0 [(some [], some []), (some [0], some []), (some [], some []), (some [0], some []), (some [], some []), (some [0], some []), (some [], some []), (some [0], some []), (some [], some []), (some [], some []), (some [0], some []), (some [], some [2]), (some [], some []), (some [1], some [1])] = true from (ord_of ord_65_0 bef_65_0 kq)) (ac (tq (p := (((0 : Nat) = (0 : Nat)) ∧ ((List.length (List.map AV.y x.d)) = (x.d.length * 1))))) (ac (pq (p := Pl true ((List.map AV.y x.d)))) an))))) (fun H => oq)
/-- Function 68, as it answers. -/
noncomputable def r7Join (a : Ex) (b : Ex) : Option (Ex × Int) :=
 (tc (r7Joins (a) (b)) fun s0 => (tb ((!s0)) (some (((Ex.mk 0 0 0 0 ([] : List UInt8)), (70 : Int)))) (tc (r7Copy (a)) fun s2 => (tp ((((List.length (List.map AV.y s2.d)) = (s2.d.length * 1)) ∧ ((s2.d.length + b.d.length) ≤ (4294967296 : Nat)))) (some (((Ex.mk s2.lba (wr (a.len + b.len)) s2.kind s2.gen (s2.d ++ b.d)), (0 : Int))))))))
abbrev r7Join_G (a : Ex) (b : Ex) (r : Ex × Int) : Prop := EvFr Try.prog cf true 68 [Ex.av (a), Ex.av (b)] (.tu [Ex.av (r.1), .i (r.2)])
theorem r7Join_ok (a : Ex) (b : Ex) (r : Ex × Int) : r7Join a b = some r → r7Join_G a b r := by
  unfold r7Join
  exact tc_ok fun s0 h0 => tb_ok (fun h1 => by intro e; injection e with e; subst e; exact leafR vw_eq (k := 300) (r := []) (hs := hz [(5, [.fc]), (1, [.fc]), (1, [.fres (.b (s0))]), (3, [.yes]), (2, [.fc]), (2, [.fc])]) (raw := (AV.tu [(AV.ag [(AV.i 0), (AV.i 0), (AV.i 0), (AV.i 0), (AV.sl 0 ([] : List AV))]), (AV.i 70)])) kq (ac (r7Joins_ok (a) (b) _ h0).any0 (ac h1 an)) tq) fun h1 => tc_ok fun s2 h2 => tp_ok fun h3 => by intro e; injection e with e; subst e; exact leafR vw_eq (k := 300) (r := []) (hs := hz [(5, [.fc]), (1, [.fc]), (1, [.fres (.b (s0))]), (3, [.no]), (1, [.fc]), (1, [.fres (Ex.av (s2))]), (2, [.fc]), (9, [.fc]), (6, [.yes, .yes]), (2, [.fc]), (1, [.fc]), (1, [.fc]), (2, [.fc, .yes, .yes])]) (raw := (AV.tu [(AV.ag [(AV.i s2.lba), (AV.i (wr (a.len + b.len))), (AV.i s2.kind), (AV.i s2.gen), (AV.sl (s2.d.length + b.d.length) ((List.map AV.y s2.d) ++ (List.map AV.y b.d)))]), (AV.i 0)])) kq (ac (r7Joins_ok (a) (b) _ h0).any0 (ac h1 (ac (r7Copy_ok (a) _ h2).any0 (ac (tq (p := ((List.length (List.map AV.y b.d)) = (b.d.length * 1)))) (ac h3 (ac (tq (p := (((0 : Nat) = (0 : Nat)) ∧ ((List.length ((List.map AV.y s2.d) ++ (List.map AV.y b.d))) = ((s2.d.length + b.d.length) * 1))))) (ac (pq (p := Pl true (((List.map AV.y s2.d) ++ (List.map AV.y b.d))))) an))))))) tq
noncomputable abbrev r11upto_L0_I (blocks : Int) (l : List Ex) (gen : Int) (s0 : Bool) : St := (St.mk [(0, (AV.i blocks)), (1, (exs l)), (2, (AV.i gen)), (6, (AV.b false)), (9, (AV.i blocks)), (10, (exs l)), (11, (AV.b s0)), (7, (AV.b s0)), (8, (AV.i 0))] 26 (AH.mk 0 ([] : List (Prod Nat AObj))) false)
noncomputable abbrev r11upto_L0_S (blocks : Int) (l : List Ex) (gen : Int) (s0 : Bool) (s1 : Int) : St := (St.mk [(0, (AV.i blocks)), (1, (exs l)), (2, (AV.i gen)), (7, (AV.b s0)), (8, (AV.i s1))] 26 (AH.mk 0 ([] : List (Prod Nat AObj))) false)
noncomputable def r11upto_L0_step (blocks : Int) (l : List Ex) (gen : Int) (s0 : Bool) (s1 : Int) : Option (Int) :=
 (tb ((decide (s1 < (l.length : Int)))) (tp ((((0 : Int) ≤ s1) ∧ (s1 < (l.length : Int)))) (tb ((decide ((exAt l s1.toNat).gen > gen))) none (some ((wr (s1 + (1 : Int))))))) none)
theorem r11upto_L0_ok (blocks : Int) (l : List Ex) (gen : Int) (s0 : Bool) (s1 zz : Int) : r11upto_L0_step blocks l gen s0 s1 = some zz → EvStep Try.prog cf 0 (lp Try.prog 84 0) (r11upto_L0_S blocks l gen s0 s1) (r11upto_L0_S blocks l gen s0 zz) := by
  unfold r11upto_L0_step
  exact tbD (fun h2 h2p => tp_ok fun h3 => tbD (fun h4 h4p => tn_ok) fun h4 h4p => by intro e; injection e with e; subst e; exact leafIS vw_eq (k := 300) (r := []) (hs := hz [(4, [.yes]), (2, [.yes]), (1, [.yes, .val ((AV.i (exAt l s1.toNat).gen))]), (2, [.no]), (3, [])]) (ks := [0, 1, 2, 7, 8]) (bs := []) kq (ac h2 (ac h3 (ac (fq (p := ((1 : Nat) ≤ (List.length (List.drop 3 (List.drop (s1.toNat * 5) (l.flatMap Ex.cells))))))) (ac (show (List.take 1 (List.drop 3 (List.drop (s1.toNat * 5) (l.flatMap Ex.cells)))) = [(AV.i (exAt l s1.toNat).gen)] from (by first | exact ex_one _ _ _ _ bq rfl | exact ex_oneA _ _ _ _ bq rfl | (simpa using ex_one (l) (s1.toNat) 3 _ bq rfl) | ((try simp only [List.drop_drop]); rw [show ((3 : Nat) + (s1.toNat * 5)) = (s1.toNat) * 5 + 3 by omega]; exact ex_oneA (l) (s1.toNat) 3 _ bq rfl))) (ac h4 an))))) kq) fun h2 h2p => tn_ok
/-- Function 84, as it answers. -/
noncomputable def r11upto (blocks : Int) (l : List Ex) (gen : Int) : Option (Bool) :=
 (tc (r8Check (blocks) (l)) fun s0 => (th (r11upto_L0_step blocks l gen s0) ((0 : Int)) fun s1 => (tb ((decide (s1 < (l.length : Int)))) (tp ((((0 : Int) ≤ s1) ∧ (s1 < (l.length : Int)))) (tb ((decide ((exAt l s1.toNat).gen > gen))) (some (false)) none)) (some (s0)))))
abbrev r11upto_G (blocks : Int) (l : List Ex) (gen : Int) (r : Bool) : Prop := EvFr Try.prog cf true 84 [.i (blocks), exs (l), .i (gen)] (.b (r))
theorem r11upto_ok (blocks : Int) (l : List Ex) (gen : Int) (r : Bool) : r11upto blocks l gen = some r → r11upto_G blocks l gen r := by
  unfold r11upto
  exact tc_ok fun s0 h0 => th_ok fun s1 h1 => tbD (fun h2 h2p => tp_ok fun h3 => tbD (fun h4 h4p => by intro e; injection e with e; subst e; exact leafR vw_eq (k := 300) (r := []) (hs := hz [(4, [.fres (.b (s0))]), (2, [.head (r11upto_L0_S blocks l gen s0 s1)]), (4, [.yes]), (2, [.yes]), (1, [.yes, .val ((AV.i (exAt l s1.toNat).gen))]), (2, [.yes]), (1, [])]) (raw := (AV.b false)) kq (ac (r8Check_ok (blocks) (l) _ h0).any0 (ac (show EvHead Try.prog cf (lp Try.prog 84 0) (r11upto_L0_I blocks l gen s0) (r11upto_L0_S blocks l gen s0 s1) from (EvHead.of (r11upto_L0_ok blocks l gen s0) (absB_of [] [] kq (.consn kq (.eqv tq rfl) (.consn kq (.eqv tq rfl) (.consn kq (.eqv tq rfl) (.consn kq (.eqv tq rfl) (.consn kq (.eqv tq rfl) .nil))))) .nil) h1)) (ac h2 (ac h3 (ac (fq (p := ((1 : Nat) ≤ (List.length (List.drop 3 (List.drop (s1.toNat * 5) (l.flatMap Ex.cells))))))) (ac (show (List.take 1 (List.drop 3 (List.drop (s1.toNat * 5) (l.flatMap Ex.cells)))) = [(AV.i (exAt l s1.toNat).gen)] from (by first | exact ex_one _ _ _ _ bq rfl | exact ex_oneA _ _ _ _ bq rfl | (simpa using ex_one (l) (s1.toNat) 3 _ bq rfl) | ((try simp only [List.drop_drop]); rw [show ((3 : Nat) + (s1.toNat * 5)) = (s1.toNat) * 5 + 3 by omega]; exact ex_oneA (l) (s1.toNat) 3 _ bq rfl))) (ac h4 an))))))) tq) fun h4 h4p => tn_ok) fun h2 h2p => by intro e; injection e with e; subst e; exact leafR vw_eq (k := 300) (r := []) (hs := hz [(4, [.fres (.b (s0))]), (2, [.head (r11upto_L0_S blocks l gen s0 s1)]), (4, [.no]), (2, [])]) (raw := (AV.b s0)) kq (ac (r8Check_ok (blocks) (l) _ h0).any0 (ac (show EvHead Try.prog cf (lp Try.prog 84 0) (r11upto_L0_I blocks l gen s0) (r11upto_L0_S blocks l gen s0 s1) from (EvHead.of (r11upto_L0_ok blocks l gen s0) (absB_of [] [] kq (.consn kq (.eqv tq rfl) (.consn kq (.eqv tq rfl) (.consn kq (.eqv tq rfl) (.consn kq (.eqv tq rfl) (.consn kq (.eqv tq rfl) .nil))))) .nil) h1)) (ac h2 an))) tq
noncomputable abbrev rSplit_L0_I (b : List UInt8) : St := (St.mk [(0, (bys b)), (2, AV.nl), (3, (AV.i 0)), (7, (bys b)), (8, (AV.i (b.length : Int))), (9, (AV.i (Int.tmod (b.length : Int) (32 : Int)))), (10, (AV.b ((Int.tmod (b.length : Int) (32 : Int)) != (0 : Int)))), (11, (bys b)), (12, (AV.i (b.length : Int))), (13, (AV.b ((b.length : Int) == (0 : Int)))), (14, (AV.rf 0 1 0 1)), (4, (AV.rf 0 1 0 1)), (5, (AV.i 0))] 45 (AH.mk 1 [(0, (AObj.cells [(AV.i 0)]))]) false)
noncomputable abbrev rSplit_L0_S (b : List UInt8) (s2 : List Int × Int) : St := (St.mk [(0, (bys b)), (2, AV.nl), (3, (AV.i 0)), (10, (AV.b ((Int.tmod (b.length : Int) (32 : Int)) != (0 : Int)))), (13, (AV.b ((b.length : Int) == (0 : Int)))), (4, (AV.rf 1 1 0 s2.1.length)), (5, (AV.i s2.2))] 45 (AH.mk 2 [(1, (AObj.cells (List.map AV.i s2.1)))]) false)
noncomputable def rSplit_L0_step (b : List UInt8) (s2 : List Int × Int) : Option (List Int × Int) :=
 (tb ((decide (s2.2 < (b.length : Int)))) (tp (((0 : Int) ≤ s2.2)) (tp (((0 : Int) ≤ (wr (s2.2 + (32 : Int))))) (tp (((s2.2.toNat ≤ (Int.toNat (wr (s2.2 + (32 : Int))))) ∧ (((Int.toNat (wr (s2.2 + (32 : Int)))) ≤ b.length) ∧ ((List.length (List.map AV.y b)) = (b.length * 1))))) (tc (rIs ((List.take (((Int.toNat (wr (s2.2 + (32 : Int)))) - s2.2.toNat) * 1) (List.drop (s2.2.toNat * 1) b)))) fun s7 => (tb ((!(s7 == ((Int.tmod (s2.1.length : Int) (2 : Int)) == (0 : Int))))) (tp ((((List.length (List.map AV.i s2.1)) = (s2.1.length * 1)) ∧ ((s2.1.length + (1 : Nat)) ≤ (4294967296 : Nat)))) (tp ((((0 : Int) ≤ (wr ((↑(s2.1.length + (1 : Nat)) : Int) - (1 : Int)))) ∧ ((wr ((↑(s2.1.length + (1 : Nat)) : Int) - (1 : Int))) < (↑(s2.1.length + (1 : Nat)) : Int)))) (tp ((((List.length [(AV.i (wr ((List.getD (s2.1 ++ [(0 : Int)]) ((0 : Nat) + ((Int.toNat (wr ((↑(s2.1.length + (1 : Nat)) : Int) - (1 : Int)))) * 1)) (0 : Int)) + (1 : Int))))]) = (1 : Nat)) ∧ ((((0 : Nat) + ((Int.toNat (wr ((↑(s2.1.length + (1 : Nat)) : Int) - (1 : Int)))) * 1)) + (List.length [(AV.i (wr ((List.getD (s2.1 ++ [(0 : Int)]) ((0 : Nat) + ((Int.toNat (wr ((↑(s2.1.length + (1 : Nat)) : Int) - (1 : Int)))) * 1)) (0 : Int)) + (1 : Int))))])) ≤ (List.length ((List.map AV.i s2.1) ++ [(AV.i (Int.ofNat 0))]))))) (some (((List.set (s2.1 ++ [(0 : Int)]) ((0 : Nat) + ((Int.toNat (wr ((↑(s2.1.length + (1 : Nat)) : Int) - (1 : Int)))) * 1)) (wr ((List.getD (s2.1 ++ [(0 : Int)]) ((0 : Nat) + ((Int.toNat (wr ((↑(s2.1.length + (1 : Nat)) : Int) - (1 : Int)))) * 1)) (0 : Int)) + (1 : Int)))), (wr (s2.2 + (32 : Int))))))))) (tp ((((0 : Int) ≤ (wr ((s2.1.length : Int) - (1 : Int)))) ∧ ((wr ((s2.1.length : Int) - (1 : Int))) < (s2.1.length : Int)))) (tp ((((List.length [(AV.i (wr ((List.getD s2.1 ((0 : Nat) + ((Int.toNat (wr ((s2.1.length : Int) - (1 : Int)))) * 1)) (0 : Int)) + (1 : Int))))]) = (1 : Nat)) ∧ ((((0 : Nat) + ((Int.toNat (wr ((s2.1.length : Int) - (1 : Int)))) * 1)) + (List.length [(AV.i (wr ((List.getD s2.1 ((0 : Nat) + ((Int.toNat (wr ((s2.1.length : Int) - (1 : Int)))) * 1)) (0 : Int)) + (1 : Int))))])) ≤ (List.length (List.map AV.i s2.1))))) (some (((List.set s2.1 ((0 : Nat) + ((Int.toNat (wr ((s2.1.length : Int) - (1 : Int)))) * 1)) (wr ((List.getD s2.1 ((0 : Nat) + ((Int.toNat (wr ((s2.1.length : Int) - (1 : Int)))) * 1)) (0 : Int)) + (1 : Int)))), (wr (s2.2 + (32 : Int))))))))))))) none)
theorem rSplit_L0_ok (b : List UInt8) (s2 zz : List Int × Int) : rSplit_L0_step b s2 = some zz → EvStep Try.prog cf 1 (lp Try.prog 87 0) (rSplit_L0_S b s2) (rSplit_L0_S b zz) := by
  unfold rSplit_L0_step
  exact tbD (fun h3 h3p => tp_ok fun h4 => tp_ok fun h5 => tp_ok fun h6 => tc_ok fun s7 h7 => tb_ok (fun h8 => tp_ok fun h9 => tp_ok fun h10 => tp_ok fun h11 => by intro e; injection e with e; subst e; exact leafS vw_eq (k := 300) (r := []) (hs := hz [(4, [.yes]), (4, [.yes, .yes, .yes]), (1, [.fres (.b (s7))]), (7, [.yes]), (2, [.yes, .yes]), (5, [.yes, .yes, .val ((AV.i (List.getD (s2.1 ++ [(0 : Int)]) ((0 : Nat) + ((Int.toNat (wr ((↑(s2.1.length + (1 : Nat)) : Int) - (1 : Int)))) * 1)) (0 : Int))))]), (1, [.yes, .yes, .cells ((List.map AV.i (List.set (s2.1 ++ [(0 : Int)]) ((0 : Nat) + ((Int.toNat (wr ((↑(s2.1.length + (1 : Nat)) : Int) - (1 : Int)))) * 1)) (wr ((List.getD (s2.1 ++ [(0 : Int)]) ((0 : Nat) + ((Int.toNat (wr ((↑(s2.1.length + (1 : Nat)) : Int) - (1 : Int)))) * 1)) (0 : Int)) + (1 : Int))))))]), (3, [])]) (ks := [0, 2, 3, 10, 13, 4, 5]) (st1 := (St.mk [(0, (bys b)), (2, AV.nl), (3, (AV.i 0)), (10, (AV.b ((Int.tmod (b.length : Int) (32 : Int)) != (0 : Int)))), (13, (AV.b ((b.length : Int) == (0 : Int)))), (4, (AV.rf 3 1 0 (s2.1.length + (1 : Nat)))), (5, (AV.i (wr (s2.2 + (32 : Int)))))] 45 (AH.mk 4 [(3, (AObj.cells (List.map AV.i (List.set (s2.1 ++ [(0 : Int)]) ((0 : Nat) + ((Int.toNat (wr ((↑(s2.1.length + (1 : Nat)) : Int) - (1 : Int)))) * 1)) (wr ((List.getD (s2.1 ++ [(0 : Int)]) ((0 : Nat) + ((Int.toNat (wr ((↑(s2.1.length + (1 : Nat)) : Int) - (1 : Int)))) * 1)) (0 : Int)) + (1 : Int))))))), (2, (AObj.cells [(AV.i 0)])), (1, AObj.dead)]) false)) kq (ac h3 (ac h4 (ac h5 (ac h6 (ac (show EvFr Try.prog cf false 94 [(AV.sl ((Int.toNat (wr (s2.2 + (32 : Int)))) - s2.2.toNat) (List.take (((Int.toNat (wr (s2.2 + (32 : Int)))) - s2.2.toNat) * 1) (List.drop (s2.2.toNat * 1) (List.map AV.y b))))] (.b (s7)) from ((rIs_ok ((List.take (((Int.toNat (wr (s2.2 + (32 : Int)))) - s2.2.toNat) * 1) (List.drop (s2.2.toNat * 1) b))) _ h7).any.cast tq)) (ac h8 (ac (tq (p := (((0 : Nat) = (0 : Nat)) ∧ ((List.length [(AV.i 0)]) = (1 : Nat))))) (ac h9 (ac h10 (ac (fq (p := ((((0 : Nat) + ((Int.toNat (wr ((↑(s2.1.length + (1 : Nat)) : Int) - (1 : Int)))) * 1)) + (1 : Nat)) ≤ (List.length ((List.map AV.i s2.1) ++ [(AV.i (Int.ofNat 0))]))))) (ac (show (List.take 1 (List.drop ((0 : Nat) + ((Int.toNat (wr ((↑(s2.1.length + (1 : Nat)) : Int) - (1 : Int)))) * 1)) ((List.map AV.i s2.1) ++ [(AV.i 0)]))) = [(AV.i (List.getD (s2.1 ++ [(0 : Int)]) ((0 : Nat) + ((Int.toNat (wr ((↑(s2.1.length + (1 : Nat)) : Int) - (1 : Int)))) * 1)) (0 : Int)))] from (by (try simp only [List.drop_drop]); exact one_drop_iC (l := (s2.1 ++ [(0 : Int)])) tq bq)) (ac h10 (ac h11 (ac (show (((List.take ((0 : Nat) + ((Int.toNat (wr ((↑(s2.1.length + (1 : Nat)) : Int) - (1 : Int)))) * 1)) ((List.map AV.i s2.1) ++ [(AV.i 0)])) ++ [(AV.i (wr ((List.getD (s2.1 ++ [(0 : Int)]) ((0 : Nat) + ((Int.toNat (wr ((↑(s2.1.length + (1 : Nat)) : Int) - (1 : Int)))) * 1)) (0 : Int)) + (1 : Int))))]) ++ (List.drop (((0 : Nat) + ((Int.toNat (wr ((↑(s2.1.length + (1 : Nat)) : Int) - (1 : Int)))) * 1)) + (List.length [(AV.i (wr ((List.getD (s2.1 ++ [(0 : Int)]) ((0 : Nat) + ((Int.toNat (wr ((↑(s2.1.length + (1 : Nat)) : Int) - (1 : Int)))) * 1)) (0 : Int)) + (1 : Int))))])) ((List.map AV.i s2.1) ++ [(AV.i 0)]))) = (List.map AV.i (List.set (s2.1 ++ [(0 : Int)]) ((0 : Nat) + ((Int.toNat (wr ((↑(s2.1.length + (1 : Nat)) : Int) - (1 : Int)))) * 1)) (wr ((List.getD (s2.1 ++ [(0 : Int)]) ((0 : Nat) + ((Int.toNat (wr ((↑(s2.1.length + (1 : Nat)) : Int) - (1 : Int)))) * 1)) (0 : Int)) + (1 : Int))))) from (over_set_iC (l := (s2.1 ++ [(0 : Int)])) tq bq)) an)))))))))))))) (Nat.le_of_ble_eq_true rfl) (Nat.le_of_ble_eq_true rfl) (absB_of [3] [] kq (.consn kq (.eqv tq rfl) (.consn kq .nl0 (.consn kq (.eqv tq rfl) (.consn kq (.eqv tq rfl) (.consn kq (.eqv tq rfl) (.consn kq (.rfn (n := (s2.1.length + (1 : Nat))) rfl tq) (.consn kq (.eqv tq rfl) .nil))))))) (.cons (.old rfl rfl (.cells (.pl tq pq))) .nil))) fun h8 => tp_ok fun h9 => tp_ok fun h10 => by intro e; injection e with e; subst e; exact leafS vw_eq (k := 300) (r := []) (hs := hz [(4, [.yes]), (4, [.yes, .yes, .yes]), (1, [.fres (.b (s7))]), (7, [.no]), (4, [.yes, .yes, .val ((AV.i (List.getD s2.1 ((0 : Nat) + ((Int.toNat (wr ((s2.1.length : Int) - (1 : Int)))) * 1)) (0 : Int))))]), (1, [.yes, .yes, .cells ((List.map AV.i (List.set s2.1 ((0 : Nat) + ((Int.toNat (wr ((s2.1.length : Int) - (1 : Int)))) * 1)) (wr ((List.getD s2.1 ((0 : Nat) + ((Int.toNat (wr ((s2.1.length : Int) - (1 : Int)))) * 1)) (0 : Int)) + (1 : Int))))))]), (3, [])]) (ks := [0, 2, 3, 10, 13, 4, 5]) (st1 := (St.mk [(0, (bys b)), (2, AV.nl), (3, (AV.i 0)), (10, (AV.b ((Int.tmod (b.length : Int) (32 : Int)) != (0 : Int)))), (13, (AV.b ((b.length : Int) == (0 : Int)))), (4, (AV.rf 1 1 0 s2.1.length)), (5, (AV.i (wr (s2.2 + (32 : Int)))))] 45 (AH.mk 2 [(1, (AObj.cells (List.map AV.i (List.set s2.1 ((0 : Nat) + ((Int.toNat (wr ((s2.1.length : Int) - (1 : Int)))) * 1)) (wr ((List.getD s2.1 ((0 : Nat) + ((Int.toNat (wr ((s2.1.length : Int) - (1 : Int)))) * 1)) (0 : Int)) + (1 : Int)))))))]) false)) kq (ac h3 (ac h4 (ac h5 (ac h6 (ac (show EvFr Try.prog cf false 94 [(AV.sl ((Int.toNat (wr (s2.2 + (32 : Int)))) - s2.2.toNat) (List.take (((Int.toNat (wr (s2.2 + (32 : Int)))) - s2.2.toNat) * 1) (List.drop (s2.2.toNat * 1) (List.map AV.y b))))] (.b (s7)) from ((rIs_ok ((List.take (((Int.toNat (wr (s2.2 + (32 : Int)))) - s2.2.toNat) * 1) (List.drop (s2.2.toNat * 1) b))) _ h7).any.cast tq)) (ac h8 (ac h9 (ac (fq (p := ((((0 : Nat) + ((Int.toNat (wr ((s2.1.length : Int) - (1 : Int)))) * 1)) + (1 : Nat)) ≤ (List.length (List.map AV.i s2.1))))) (ac (show (List.take 1 (List.drop ((0 : Nat) + ((Int.toNat (wr ((s2.1.length : Int) - (1 : Int)))) * 1)) (List.map AV.i s2.1))) = [(AV.i (List.getD s2.1 ((0 : Nat) + ((Int.toNat (wr ((s2.1.length : Int) - (1 : Int)))) * 1)) (0 : Int)))] from (by (try simp only [List.drop_drop]); exact one_drop_iC (l := s2.1) tq bq)) (ac h9 (ac h10 (ac (show (((List.take ((0 : Nat) + ((Int.toNat (wr ((s2.1.length : Int) - (1 : Int)))) * 1)) (List.map AV.i s2.1)) ++ [(AV.i (wr ((List.getD s2.1 ((0 : Nat) + ((Int.toNat (wr ((s2.1.length : Int) - (1 : Int)))) * 1)) (0 : Int)) + (1 : Int))))]) ++ (List.drop (((0 : Nat) + ((Int.toNat (wr ((s2.1.length : Int) - (1 : Int)))) * 1)) + (List.length [(AV.i (wr ((List.getD s2.1 ((0 : Nat) + ((Int.toNat (wr ((s2.1.length : Int) - (1 : Int)))) * 1)) (0 : Int)) + (1 : Int))))])) (List.map AV.i s2.1))) = (List.map AV.i (List.set s2.1 ((0 : Nat) + ((Int.toNat (wr ((s2.1.length : Int) - (1 : Int)))) * 1)) (wr ((List.getD s2.1 ((0 : Nat) + ((Int.toNat (wr ((s2.1.length : Int) - (1 : Int)))) * 1)) (0 : Int)) + (1 : Int))))) from (over_set_iC (l := s2.1) tq bq)) an)))))))))))) (Nat.le_of_ble_eq_true rfl) (Nat.le_of_ble_eq_true rfl) (absB_of [1] [] kq (.consn kq (.eqv tq rfl) (.consn kq .nl0 (.consn kq (.eqv tq rfl) (.consn kq (.eqv tq rfl) (.consn kq (.eqv tq rfl) (.consn kq (.rfn (n := s2.1.length) rfl tq) (.consn kq (.eqv tq rfl) .nil))))))) (.cons (.old rfl rfl (.cells (.pl tq pq))) .nil))) fun h3 h3p => tn_ok
/-- Function 87, as it answers. -/
noncomputable def rSplit (b : List UInt8) : Option (List Int × Int) :=
 (tb (((Int.tmod (b.length : Int) (32 : Int)) != (0 : Int))) (some ((([] : List Int), (150 : Int)))) (tb (((b.length : Int) == (0 : Int))) (some ((([] : List Int), (0 : Int)))) (th (rSplit_L0_step b) (([(0 : Int)], (0 : Int))) fun s2 => (tb ((decide (s2.2 < (b.length : Int)))) none (some ((s2.1, (0 : Int))))))))
abbrev rSplit_G (b : List UInt8) (r : List Int × Int) : Prop := EvFr Try.prog cf true 87 [bys (b)] (.tu [ints (r.1), .i (r.2)])
theorem rSplit_ok (b : List UInt8) (r : List Int × Int) : rSplit b = some r → rSplit_G b r := by
  unfold rSplit
  exact tbN (fun h0 h0p => by intro e; injection e with e; subst e; exact leafR vw_eq (k := 300) (r := []) (hs := hz [(6, [.yes]), (2, [])]) (raw := (AV.tu [(AV.sl 0 ([] : List AV)), (AV.i 150)])) kq (ac h0 an) tq) fun h0 h0p => tbE (fun h1 h1p => by intro e; injection e with e; subst e; exact leafR vw_eq (k := 300) (r := []) (hs := hz [(6, [.no]), (3, [.yes]), (2, [])]) (raw := (AV.tu [(AV.sl 0 ([] : List AV)), (AV.i 0)])) kq (ac h0 (ac h1 an)) tq) fun h1 h1p => th_ok fun s2 h2 => tbD (fun h3 h3p => tn_ok) fun h3 h3p => by intro e; injection e with e; subst e; exact leafR vw_eq (k := 300) (r := []) (hs := hz [(6, [.no]), (3, [.no]), (3, [.head (rSplit_L0_S b s2)]), (4, [.no]), (3, [.yes, .yes])]) (raw := (AV.tu [(AV.sl s2.1.length (List.map AV.i s2.1)), (AV.i 0)])) kq (ac h0 (ac h1 (ac (show EvHead Try.prog cf (lp Try.prog 87 0) (rSplit_L0_I b) (rSplit_L0_S b s2) from (EvHead.of (rSplit_L0_ok b) (absB_of [0] [] kq (.consn kq (.eqv tq rfl) (.consn kq .nl0 (.consn kq (.eqv tq rfl) (.consn kq (.eqv tq rfl) (.consn kq (.eqv tq rfl) (.consn kq (.rfn (n := (1 : Nat)) rfl tq) (.consn kq (.eqv tq rfl) .nil))))))) (.cons (.old rfl rfl (.cells (.pl tq pq))) .nil)) h2)) (ac h3 (ac (tq (p := (((0 : Nat) = (0 : Nat)) ∧ ((List.length (List.map AV.i s2.1)) = (s2.1.length * 1))))) (ac (pq (p := Pl true ((List.map AV.i s2.1)))) an)))))) tq
end Ab
end Go.Proofs.Ytpflcogplhigcaa
namespace Go.Proofs.Ytpflcogplhigcaa
open Go Go.Proofs.Ytpflcogplhigcaa.Ab
set_option linter.unusedVariables false
set_option linter.unusedSimpArgs false
namespace Ab
def isz (b : List UInt8) : Bool := b.all (· == 0)
theorem isz_iff (b : List UInt8) : (∀ i, i < b.length → b.getD i 0 = 0) ↔ isz b = true := by
  rw [getD_all 0 b (fun x => x = 0)]; unfold isz; simp
theorem u0 (x : UInt8) : ((x.toNat : Int) = 0) ↔ x = 0 := by
  constructor
  · intro h; exact UInt8.toNat_inj.1 (by simpa using h)
  · rintro rfl; rfl
theorem pIs_eq (b : List UInt8) (h : b.length ≤ 4294967296) : pIs b = some (isz b) := by
  unfold pIs
  rw [th_all (some false) (some true) b.length (fun i => b.getD i 0 = 0) (isz b = true) (isz_iff b)]
  · cases isz b <;> rfl
  · intro i hi hp
    unfold pIs_L0_step
    simp only [tb_dec, tb_bne, Int.toNat_natCast, Nat.mul_one]
    have := (u0 _).2 hp
    rw [if_pos (by omega), tp_pos (by omega), if_pos this, wr_id (by omega) (by omega)]
  · intro i hi hp
    unfold pIs_L0_step
    simp only [tb_dec, tb_bne, Int.toNat_natCast, Nat.mul_one]
    have hn : ¬ (((b.getD i 0).toNat : Int) = 0) := fun h => hp ((u0 _).1 h)
    rw [if_pos (by omega), tp_pos (by omega), if_neg hn, if_pos (by omega), tp_pos (by omega), if_neg hn]
    exact ⟨rfl, rfl⟩
  · unfold pIs_L0_step
    simp only [tb_dec]
    rw [if_neg (by omega), if_neg (by omega)]
    exact ⟨rfl, rfl⟩
theorem rIs_eq (b : List UInt8) (h : b.length ≤ 4294967296) : rIs b = some (isz b) := pIs_eq b h
theorem isz_zb {b : List UInt8} (h : b.length = 32) : isz b = zb b := by
  unfold isz zb
  rw [Bool.eq_iff_iff, List.all_eq_true, beq_iff_eq, List.eq_replicate_iff]
  simp [h]
def rsp (out : List Int) (fs : List Bool) : List Int := out.dropLast ++ rn (decide (out.length % 2 = 0)) (out.getLastD 0) fs
theorem tmod2 (n : Nat) : ((Int.tmod (n : Int) 2) == 0) = decide (n % 2 = 0) := by
  rw [Int.tmod_eq_emod_of_nonneg (by omega), Bool.eq_iff_iff, beq_iff_eq, decide_eq_true_iff]; omega
theorem set_last (pre : List Int) (n v : Int) (k : Nat) (h : k = pre.length) : (pre ++ [n]).set (0 + k * 1) v = pre ++ [v] := by
  subst h; rw [Nat.zero_add, Nat.mul_one, List.set_append_right _ _ (Nat.le_refl _)]; simp
theorem get_last (pre : List Int) (n : Int) (k : Nat) (h : k = pre.length) : (pre ++ [n]).getD (0 + k * 1) 0 = n := by
  subst h; simp
theorem rSplit_eq (b : List UInt8) (hb : b.length ≤ 4294967000) : rSplit b = some (if b.length % 32 = 0 then (Ab.runs (flags b), 0) else ([], 150)) := by
  unfold rSplit
  rw [tb_bne]
  by_cases hm : b.length % 32 = 0
  case neg => rw [if_neg (fun h => hm ((tmod32 _).1 h)), if_neg hm]
  rw [if_pos ((tmod32 _).2 hm), if_pos hm, tb_beq]
  by_cases h0 : (b.length : Int) = 0
  · rw [if_pos h0, flags_nil (by omega)]; rfl
  rw [if_neg h0]
  rw [th_rec (fun s : List Int × Int => some (rsp s.1 (flags (b.drop s.2.toNat)), (0 : Int)))
    (fun s => (∃ pre n, s.1 = pre ++ [n] ∧ 0 ≤ n ∧ n + b.length - s.2 ≤ 4294967000) ∧ 0 ≤ s.2 ∧ s.2 % 32 = 0 ∧ s.2 ≤ b.length ∧ s.1.length + b.length - s.2 ≤ 4294967001) (fun s => (b.length - s.2).toNat)]
  · have : flags b ≠ [] := by rw [flags_cons (by omega)]; simp
    simp [rsp, Ab.runs, this]
  · exact ⟨⟨[], 0, rfl, by omega, by simp only; omega⟩, by simp, by simp, by simp only; omega, by simp only [List.length_singleton]; omega⟩
  rintro ⟨out, i⟩ ⟨⟨pre, n, e, hn, hnb⟩, h1, h2, h3, h4⟩
  simp only at e hn hnb h1 h2 h3 h4 ⊢
  subst e
  have hlen : (pre ++ [n]).length = pre.length + 1 := by simp
  rw [hlen] at h4
  unfold rSplit_L0_step
  simp only [tb_dec]
  by_cases hi : i < (b.length : Int)
  · left
    have hw : wr (i + 32) = i + 32 := wr_id (by omega) (by omega)
    have ht : (i + 32).toNat = i.toNat + 32 := by omega
    have hblk : List.take (((i + 32).toNat - i.toNat) * 1) (List.drop (i.toNat * 1) b) = (b.drop i.toNat).take 32 := by
      rw [ht, Nat.mul_one, Nat.mul_one, show i.toNat + 32 - i.toNat = 32 by omega]
    have hbl : ((b.drop i.toNat).take 32).length = 32 := by rw [List.length_take, List.length_drop]; omega
    rw [if_pos hi, tp_pos h1, hw, tp_pos (by omega), tp_pos (by rw [List.length_map]; omega), hblk, rIs_eq _ (by omega), tc_some, isz_zb hbl, tmod2, hlen]
    have hf := flags_cons (b := b.drop i.toNat) (by rw [List.length_drop]; omega)
    rw [List.drop_drop] at hf
    have hd : (i + 32).toNat = i.toNat + 32 := ht
    generalize zb ((b.drop i.toNat).take 32) = z at hf ⊢
    have hw1 : wr ((((pre.length + 1 : Nat) : Int) + 1 : Int)) = ((pre.length + 1 : Nat) : Int) + 1 := wr_id (by omega) (by omega)
    have hw2 : wr (((pre.length + 1 : Nat) : Int) - 1) = pre.length := by rw [wr_id (by omega) (by omega)]; omega
    have hw3 : wr (((pre.length + 1 + 1 : Nat) : Int) - 1) = ((pre.length + 1 : Nat) : Int) := by rw [wr_id (by omega) (by omega)]; omega
    by_cases hz : z = decide ((pre.length + 1) % 2 = 0)
    · have e1 : (!(z == decide ((pre.length + 1) % 2 = 0))) = false := by rw [hz]; simp
      rw [e1, tb_f, hw2]
      have ht2 : (pre.length : Int).toNat = pre.length := by omega
      rw [tp_pos (by omega), tp_pos (by simp), ht2, get_last _ _ _ rfl, wr_id (x := n + 1) (by omega) (by omega), set_last _ _ _ _ rfl]
      refine ⟨_, rfl, ⟨⟨pre, n + 1, rfl, by omega, by simp only; omega⟩, by simp only; omega, by simp only; omega, by simp only; omega, by simp only [List.length_append, List.length_singleton]; omega⟩, by simp only; omega, ?_⟩
      simp only [rsp, hd, hf, Option.some.injEq, Prod.mk.injEq, and_true, List.dropLast_concat, List.length_append, List.length_singleton]
      simp [rn, hz]
    · have e1 : (!(z == decide ((pre.length + 1) % 2 = 0))) = true := by simp [hz]
      rw [e1, tb_t, tp_pos (by simp; omega), hw3]
      have ht2 : (((pre.length + 1 : Nat) : Int)).toNat = pre.length + 1 := by omega
      rw [tp_pos (by omega), tp_pos (by simp), ht2, get_last _ _ _ hlen.symm, wr_id (x := 0 + 1) (by omega) (by omega), set_last _ _ _ _ hlen.symm]
      refine ⟨_, rfl, ⟨⟨pre ++ [n], 0 + 1, rfl, by omega, by simp only; omega⟩, by simp only; omega, by simp only; omega, by simp only; omega, by simp only [List.length_append, List.length_singleton]; omega⟩, by simp only; omega, ?_⟩
      have hz2 : z = decide ((pre.length + 1 + 1) % 2 = 0) := by
        rw [Bool.eq_iff_iff, decide_eq_true_iff]
        have : ¬ (z = true ↔ (pre.length + 1) % 2 = 0) := fun h => hz (by rw [Bool.eq_iff_iff, decide_eq_true_iff]; exact h)
        cases z <;> simp at this ⊢ <;> omega
      simp only [rsp, hd, hf, Option.some.injEq, Prod.mk.injEq, and_true, List.dropLast_concat, List.length_append, List.length_singleton]
      rw [← hz2]
      simp only [rn]
      rw [if_neg hz]
      simp
  · right
    rw [if_neg hi, if_neg hi]
    refine ⟨rfl, ?_⟩
    rw [flags_nil (by rw [List.length_drop]; omega)]
    simp [rsp, rn]
end Ab
end Go.Proofs.Ytpflcogplhigcaa
namespace Go.Proofs.Ytpflcogplhigcaa
open Go Go.Proofs.Ytpflcogplhigcaa.Ab
set_option linter.unusedVariables false
set_option linter.unusedSimpArgs false
set_option maxRecDepth 1000000
set_option maxHeartbeats 0
namespace Ab
noncomputable abbrev rLay_L0_I (lba : Int) (b : List UInt8) (s0 : List Int × Int) : St := (St.mk [(0, (AV.i lba)), (1, (bys b)), (4, AV.nl), (5, (AV.i 0)), (14, (bys b)), (15, (AV.tu [(AV.sl s0.1.length (List.map AV.i s0.1)), (AV.i s0.2)])), (13, (AV.tu [(AV.sl s0.1.length (List.map AV.i s0.1)), (AV.i s0.2)])), (16, (AV.sl s0.1.length (List.map AV.i s0.1))), (17, (AV.i s0.2)), (6, (AV.sl s0.1.length (List.map AV.i s0.1))), (7, (AV.i s0.2)), (18, (AV.i s0.2)), (19, (AV.b (s0.2 != (0 : Int)))), (20, (AV.b (s0.2 != (0 : Int)))), (21, (AV.i lba)), (22, (AV.b (decide (lba < (0 : Int))))), (23, (AV.b (decide (lba < (0 : Int))))), (24, (AV.b (decide (lba < (0 : Int))))), (25, (AV.i lba)), (26, (AV.b (decide (lba > (64 : Int))))), (27, (AV.b (decide (lba > (64 : Int))))), (28, (AV.b (decide (lba > (64 : Int))))), (29, (bys b)), (30, (AV.i (b.length : Int))), (31, (AV.i (wr (Int.tdiv (b.length : Int) (32 : Int))))), (32, (AV.i lba)), (33, (AV.i (wr ((64 : Int) - lba)))), (34, (AV.b (decide ((wr (Int.tdiv (b.length : Int) (32 : Int))) > (wr ((64 : Int) - lba)))))), (35, (AV.b (decide ((wr (Int.tdiv (b.length : Int) (32 : Int))) > (wr ((64 : Int) - lba)))))), (8, AV.nl), (9, (AV.i 0)), (10, (AV.i 0))] 77 (AH.mk 0 ([] : List (Prod Nat AObj))) false)
noncomputable abbrev rLay_L0_S (lba : Int) (b : List UInt8) (s0 : List Int × Int) (s5 : Int × List Ex × Int) : St := (St.mk [(0, (AV.i lba)), (1, (bys b)), (4, AV.nl), (5, (AV.i 0)), (6, (AV.sl s0.1.length (List.map AV.i s0.1))), (7, (AV.i s0.2)), (35, (AV.b (decide ((wr (Int.tdiv (b.length : Int) (32 : Int))) > (wr ((64 : Int) - lba)))))), (8, (AV.rf 0 5 0 s5.2.1.length)), (9, (AV.i s5.2.2)), (10, (AV.i s5.1))] 77 (AH.mk 1 [(0, (AObj.cells (s5.2.1.flatMap Ex.cells)))]) false)
noncomputable def rLay_L0_step (lba : Int) (b : List UInt8) (s0 : List Int × Int) (s5 : Int × List Ex × Int) : Option (Int × List Ex × Int) :=
 (tb ((decide (s5.1 < (s0.1.length : Int)))) (tp ((((0 : Int) ≤ s5.1) ∧ (s5.1 < (s0.1.length : Int)))) (tb (((List.getD s0.1 (s5.1.toNat * 1) (0 : Int)) == (0 : Int))) (some (((wr (s5.1 + (1 : Int))), (s5.2.1, s5.2.2)))) (tb (((Int.tmod s5.1 (2 : Int)) == (0 : Int))) (tp (((0 : Int) ≤ (wr ((32 : Int) * s5.2.2)))) (tp (((0 : Int) ≤ (wr ((32 : Int) * (wr (s5.2.2 + (List.getD s0.1 (s5.1.toNat * 1) (0 : Int)))))))) (tp ((((Int.toNat (wr ((32 : Int) * s5.2.2))) ≤ (Int.toNat (wr ((32 : Int) * (wr (s5.2.2 + (List.getD s0.1 (s5.1.toNat * 1) (0 : Int)))))))) ∧ (((Int.toNat (wr ((32 : Int) * (wr (s5.2.2 + (List.getD s0.1 (s5.1.toNat * 1) (0 : Int))))))) ≤ b.length) ∧ ((List.length (List.map AV.y b)) = (b.length * 1))))) (tp ((((Int.toNat (wr ((32 : Int) * (wr (s5.2.2 + (List.getD s0.1 (s5.1.toNat * 1) (0 : Int))))))) - (Int.toNat (wr ((32 : Int) * s5.2.2)))) ≤ (4294967296 : Nat))) (tp ((((List.length (s5.2.1.flatMap Ex.cells)) = (s5.2.1.length * 5)) ∧ ((s5.2.1.length + (1 : Nat)) ≤ (4294967296 : Nat)))) (some (((wr (s5.1 + (1 : Int))), ((s5.2.1 ++ [(Ex.mk (wr (lba + s5.2.2)) (List.getD s0.1 (s5.1.toNat * 1) (0 : Int)) 2 0 (List.take (((Int.toNat (wr ((32 : Int) * (wr (s5.2.2 + (List.getD s0.1 (s5.1.toNat * 1) (0 : Int))))))) - (Int.toNat (wr ((32 : Int) * s5.2.2)))) * 1) (List.take (((Int.toNat (wr ((32 : Int) * (wr (s5.2.2 + (List.getD s0.1 (s5.1.toNat * 1) (0 : Int))))))) - (Int.toNat (wr ((32 : Int) * s5.2.2)))) * 1) (List.drop ((Int.toNat (wr ((32 : Int) * s5.2.2))) * 1) b))))]), (wr (s5.2.2 + (List.getD s0.1 (s5.1.toNat * 1) (0 : Int))))))))))))) (tp ((((List.length (s5.2.1.flatMap Ex.cells)) = (s5.2.1.length * 5)) ∧ ((s5.2.1.length + (1 : Nat)) ≤ (4294967296 : Nat)))) (some (((wr (s5.1 + (1 : Int))), ((s5.2.1 ++ [(Ex.mk (wr (lba + s5.2.2)) (List.getD s0.1 (s5.1.toNat * 1) (0 : Int)) 1 0 ([] : List UInt8))]), (wr (s5.2.2 + (List.getD s0.1 (s5.1.toNat * 1) (0 : Int)))))))))))) none)
theorem rLay_L0_ok (lba : Int) (b : List UInt8) (s0 : List Int × Int) (s5 zz : Int × List Ex × Int) : rLay_L0_step lba b s0 s5 = some zz → EvStep Try.prog cf 0 (lp Try.prog 67 0) (rLay_L0_S lba b s0 s5) (rLay_L0_S lba b s0 zz) := by
  unfold rLay_L0_step
  exact tbD (fun h6 h6p => tp_ok fun h7 => tbE (fun h8 h8p => by intro e; injection e with e; subst e; exact leafS vw_eq (k := 300) (r := []) (hs := hz [(4, [.yes]), (2, [.yes, .yes, .val ((AV.i (List.getD s0.1 (s5.1.toNat * 1) (0 : Int))))]), (3, [.yes]), (3, [])]) (ks := [0, 1, 4, 5, 6, 7, 35, 8, 9, 10]) (st1 := (St.mk [(0, (AV.i lba)), (1, (bys b)), (4, AV.nl), (5, (AV.i 0)), (6, (AV.sl s0.1.length (List.map AV.i s0.1))), (7, (AV.i s0.2)), (35, (AV.b (decide ((wr (Int.tdiv (b.length : Int) (32 : Int))) > (wr ((64 : Int) - lba)))))), (8, (AV.rf 0 5 0 s5.2.1.length)), (9, (AV.i s5.2.2)), (10, (AV.i (wr (s5.1 + (1 : Int)))))] 77 (AH.mk 1 [(0, (AObj.cells (s5.2.1.flatMap Ex.cells)))]) false)) kq (ac h6 (ac h7 (ac (fq (p := ((1 : Nat) ≤ (List.length (List.drop (s5.1.toNat * 1) (List.map AV.i s0.1)))))) (ac (show (List.take 1 (List.drop (s5.1.toNat * 1) (List.map AV.i s0.1))) = [(AV.i (List.getD s0.1 (s5.1.toNat * 1) (0 : Int)))] from (by (try simp only [List.drop_drop]); exact one_drop_iC (l := s0.1) tq bq)) (ac h8 an))))) (Nat.le_of_ble_eq_true rfl) (Nat.le_of_ble_eq_true rfl) (absB_of [0] [] kq (.consn kq (.eqv tq rfl) (.consn kq (.eqv tq rfl) (.consn kq .nl0 (.consn kq (.eqv tq rfl) (.consn kq (.eqv tq rfl) (.consn kq (.eqv tq rfl) (.consn kq (.eqv tq rfl) (.consn kq (.rfn (n := s5.2.1.length) rfl tq) (.consn kq (.eqv tq rfl) (.consn kq (.eqv tq rfl) .nil)))))))))) (.cons (.old rfl rfl (.cells (.pl tq pq))) .nil))) fun h8 h8p => tbE (fun h9 h9p => tp_ok fun h10 => tp_ok fun h11 => tp_ok fun h12 => tp_ok fun h13 => tp_ok fun h14 => by intro e; injection e with e; subst e; exact leafS vw_eq (k := 300) (r := []) (hs := hz [(4, [.yes]), (2, [.yes, .yes, .val ((AV.i (List.getD s0.1 (s5.1.toNat * 1) (0 : Int))))]), (3, [.no]), (7, [.fc]), (3, [.yes]), (2, [.fc]), (10, [.yes, .yes, .yes, .yes, .yes]), (2, [.fc, .yes]), (2, [.fc]), (1, [.fc, .fc, .yes, .yes]), (8, [])]) (ks := [0, 1, 4, 5, 6, 7, 35, 8, 9, 10]) (st1 := (St.mk [(0, (AV.i lba)), (1, (bys b)), (4, AV.nl), (5, (AV.i 0)), (6, (AV.sl s0.1.length (List.map AV.i s0.1))), (7, (AV.i s0.2)), (35, (AV.b (decide ((wr (Int.tdiv (b.length : Int) (32 : Int))) > (wr ((64 : Int) - lba)))))), (8, (AV.rf 4 5 0 (s5.2.1.length + (1 : Nat)))), (9, (AV.i (wr (s5.2.2 + (List.getD s0.1 (s5.1.toNat * 1) (0 : Int)))))), (10, (AV.i (wr (s5.1 + (1 : Int)))))] 77 (AH.mk 5 [(4, (AObj.cells ((s5.2.1.flatMap Ex.cells) ++ [(AV.i (wr (lba + s5.2.2))), (AV.i (List.getD s0.1 (s5.1.toNat * 1) (0 : Int))), (AV.i 2), (AV.i 0), (AV.rf 2 1 0 ((Int.toNat (wr ((32 : Int) * (wr (s5.2.2 + (List.getD s0.1 (s5.1.toNat * 1) (0 : Int))))))) - (Int.toNat (wr ((32 : Int) * s5.2.2)))))]))), (3, (AObj.cells [(AV.i (wr (lba + s5.2.2))), (AV.i (List.getD s0.1 (s5.1.toNat * 1) (0 : Int))), (AV.i 2), (AV.i 0), (AV.rf 2 1 0 ((Int.toNat (wr ((32 : Int) * (wr (s5.2.2 + (List.getD s0.1 (s5.1.toNat * 1) (0 : Int))))))) - (Int.toNat (wr ((32 : Int) * s5.2.2)))))])), (2, (AObj.cells (List.take (((Int.toNat (wr ((32 : Int) * (wr (s5.2.2 + (List.getD s0.1 (s5.1.toNat * 1) (0 : Int))))))) - (Int.toNat (wr ((32 : Int) * s5.2.2)))) * 1) (List.drop ((Int.toNat (wr ((32 : Int) * s5.2.2))) * 1) (List.map AV.y b))))), (1, (AObj.cells [(AV.i (wr (lba + s5.2.2))), (AV.i (List.getD s0.1 (s5.1.toNat * 1) (0 : Int))), (AV.i 2), (AV.i 0), (AV.rf 2 1 0 ((Int.toNat (wr ((32 : Int) * (wr (s5.2.2 + (List.getD s0.1 (s5.1.toNat * 1) (0 : Int))))))) - (Int.toNat (wr ((32 : Int) * s5.2.2)))))])), (0, AObj.dead)]) false)) kq (ac h6 (ac h7 (ac (fq (p := ((1 : Nat) ≤ (List.length (List.drop (s5.1.toNat * 1) (List.map AV.i s0.1)))))) (ac (show (List.take 1 (List.drop (s5.1.toNat * 1) (List.map AV.i s0.1))) = [(AV.i (List.getD s0.1 (s5.1.toNat * 1) (0 : Int)))] from (by (try simp only [List.drop_drop]); exact one_drop_iC (l := s0.1) tq bq)) (ac h8 (ac h9 (ac h10 (ac h11 (ac h12 (ac (fq (p := ((List.length (List.take (((Int.toNat (wr ((32 : Int) * (wr (s5.2.2 + (List.getD s0.1 (s5.1.toNat * 1) (0 : Int))))))) - (Int.toNat (wr ((32 : Int) * s5.2.2)))) * 1) (List.drop ((Int.toNat (wr ((32 : Int) * s5.2.2))) * 1) (List.map AV.y b)))) = (((Int.toNat (wr ((32 : Int) * (wr (s5.2.2 + (List.getD s0.1 (s5.1.toNat * 1) (0 : Int))))))) - (Int.toNat (wr ((32 : Int) * s5.2.2)))) * 1)))) (ac h13 (ac (show orderOk (rg Try.prog 67 0) = true ∧ allOk (Region.before (rg Try.prog 67 0)) [] 0 [(some [], some []), (some [1], some []), (some [], some []), (some [], some []), (some [], some []), (some [], some []), (some [], some []), (some [], some []), (some [], some []), (some [], some []), (some [], some [2]), (some [], some []), (some [1], some [1])] = true from (ord_of ord_67_0 bef_67_0 kq)) (ac (tq (p := (((0 : Nat) = (0 : Nat)) ∧ ((List.length [(AV.i (wr (lba + s5.2.2))), (AV.i (List.getD s0.1 (s5.1.toNat * 1) (0 : Int))), (AV.i 2), (AV.i 0), (AV.rf 2 1 0 ((Int.toNat (wr ((32 : Int) * (wr (s5.2.2 + (List.getD s0.1 (s5.1.toNat * 1) (0 : Int))))))) - (Int.toNat (wr ((32 : Int) * s5.2.2)))))]) = (5 : Nat))))) (ac h14 an)))))))))))))) (Nat.le_of_ble_eq_true rfl) (Nat.le_of_ble_eq_true rfl) (absB_of [4] [2] kq (.consn kq (.eqv tq rfl) (.consn kq (.eqv tq rfl) (.consn kq .nl0 (.consn kq (.eqv tq rfl) (.consn kq (.eqv tq rfl) (.consn kq (.eqv tq rfl) (.consn kq (.eqv tq rfl) (.consn kq (.rfn (n := (s5.2.1.length + (1 : Nat))) rfl tq) (.consn kq (.eqv tq rfl) (.consn kq (.eqv tq rfl) .nil)))))))))) (.cons (.old rfl rfl (.cells (.cast rfl tq (.app (.pl rfl pq) (.cons (.eqv rfl rfl) (.cons (.eqv rfl rfl) (.cons (.eqv rfl rfl) (.cons (.eqv rfl rfl) (.cons (.frzn rfl tq pq (by simp) rfl) .nil))))))))) .nil))) fun h9 h9p => tp_ok fun h10 => by intro e; injection e with e; subst e; exact leafS vw_eq (k := 300) (r := []) (hs := hz [(4, [.yes]), (2, [.yes, .yes, .val ((AV.i (List.getD s0.1 (s5.1.toNat * 1) (0 : Int))))]), (3, [.no]), (7, [.fc]), (3, [.no]), (2, [.fc]), (1, [.fc, .fc, .yes, .yes]), (8, [])]) (ks := [0, 1, 4, 5, 6, 7, 35, 8, 9, 10]) (st1 := (St.mk [(0, (AV.i lba)), (1, (bys b)), (4, AV.nl), (5, (AV.i 0)), (6, (AV.sl s0.1.length (List.map AV.i s0.1))), (7, (AV.i s0.2)), (35, (AV.b (decide ((wr (Int.tdiv (b.length : Int) (32 : Int))) > (wr ((64 : Int) - lba)))))), (8, (AV.rf 3 5 0 (s5.2.1.length + (1 : Nat)))), (9, (AV.i (wr (s5.2.2 + (List.getD s0.1 (s5.1.toNat * 1) (0 : Int)))))), (10, (AV.i (wr (s5.1 + (1 : Int)))))] 77 (AH.mk 4 [(3, (AObj.cells ((s5.2.1.flatMap Ex.cells) ++ [(AV.i (wr (lba + s5.2.2))), (AV.i (List.getD s0.1 (s5.1.toNat * 1) (0 : Int))), (AV.i (Int.ofNat 1)), (AV.i (Int.ofNat 0)), AV.nl]))), (2, (AObj.cells [(AV.i (wr (lba + s5.2.2))), (AV.i (List.getD s0.1 (s5.1.toNat * 1) (0 : Int))), (AV.i 1), (AV.i 0), AV.nl])), (1, (AObj.cells [(AV.i (wr (lba + s5.2.2))), (AV.i (List.getD s0.1 (s5.1.toNat * 1) (0 : Int))), (AV.i 1), (AV.i 0), AV.nl])), (0, AObj.dead)]) false)) kq (ac h6 (ac h7 (ac (fq (p := ((1 : Nat) ≤ (List.length (List.drop (s5.1.toNat * 1) (List.map AV.i s0.1)))))) (ac (show (List.take 1 (List.drop (s5.1.toNat * 1) (List.map AV.i s0.1))) = [(AV.i (List.getD s0.1 (s5.1.toNat * 1) (0 : Int)))] from (by (try simp only [List.drop_drop]); exact one_drop_iC (l := s0.1) tq bq)) (ac h8 (ac h9 (ac (tq (p := (((0 : Nat) = (0 : Nat)) ∧ ((List.length [(AV.i (wr (lba + s5.2.2))), (AV.i (List.getD s0.1 (s5.1.toNat * 1) (0 : Int))), (AV.i (Int.ofNat 1)), (AV.i (Int.ofNat 0)), AV.nl]) = (5 : Nat))))) (ac h10 an)))))))) (Nat.le_of_ble_eq_true rfl) (Nat.le_of_ble_eq_true rfl) (absB_of [3] [] kq (.consn kq (.eqv tq rfl) (.consn kq (.eqv tq rfl) (.consn kq .nl0 (.consn kq (.eqv tq rfl) (.consn kq (.eqv tq rfl) (.consn kq (.eqv tq rfl) (.consn kq (.eqv tq rfl) (.consn kq (.rfn (n := (s5.2.1.length + (1 : Nat))) rfl tq) (.consn kq (.eqv tq rfl) (.consn kq (.eqv tq rfl) .nil)))))))))) (.cons (.old rfl rfl (.cells (.cast rfl tq (.app (.pl rfl pq) (.cons (.eqv rfl rfl) (.cons (.eqv rfl rfl) (.cons (.eqv rfl rfl) (.cons (.eqv rfl rfl) (.cons (.pur 1 rfl (by simp)) .nil))))))))) .nil))) fun h6 h6p => tn_ok
/-- Function 67, as it answers. -/
noncomputable def rLay (lba : Int) (b : List UInt8) : Option (List Ex × Int) :=
 (tc (rSplit (b)) fun s0 => (tb ((s0.2 != (0 : Int))) (some ((([] : List Ex), (150 : Int)))) (tb ((decide (lba < (0 : Int)))) (some ((([] : List Ex), (150 : Int)))) (tb ((decide (lba > (64 : Int)))) (some ((([] : List Ex), (150 : Int)))) (tb ((decide ((wr (Int.tdiv (b.length : Int) (32 : Int))) > (wr ((64 : Int) - lba))))) (some ((([] : List Ex), (150 : Int)))) (th (rLay_L0_step lba b s0) (((0 : Int), (([] : List Ex), (0 : Int)))) fun s5 => (tb ((decide (s5.1 < (s0.1.length : Int)))) none (tp ((((0 : Nat) = (0 : Nat)) ∧ ((List.length (s5.2.1.flatMap Ex.cells)) = (s5.2.1.length * 5)))) (some ((s5.2.1, (0 : Int))))))))))))
abbrev rLay_G (lba : Int) (b : List UInt8) (r : List Ex × Int) : Prop := EvOw Try.prog cf false [[5], []] 67 [.i (lba), bys (b)] (.tu [exs (r.1), .i (r.2)])
theorem rLay_ok (lba : Int) (b : List UInt8) (r : List Ex × Int) : rLay lba b = some r → rLay_G lba b r := by
  unfold rLay
  exact tc_ok fun s0 h0 => tbN (fun h1 h1p => by intro e; injection e with e; subst e; exact leafO vw_eq (k := 300) (r := []) (hs := hz [(4, [.fres (.tu [ints (s0.1), .i (s0.2)])]), (8, [.yes, .yes, .yes]), (15, [])]) (R := fun H => ((AV.tu [(AV.rf (AH.nx H) 5 0 0), (AV.i 150)]), (AH.mk ((AH.nx H) + (1 : Nat)) (((AH.nx H), (AObj.cells ([] : List AV))) :: (AH.l H))))) (fun H => kq) (ac (rSplit_ok (b) _ h0).any0 (ac h1 (ac h1 (ac h1 an)))) (fun H => oq)) fun h1 h1p => tbD (fun h2 h2p => by intro e; injection e with e; subst e; exact leafO vw_eq (k := 300) (r := []) (hs := hz [(4, [.fres (.tu [ints (s0.1), .i (s0.2)])]), (8, [.no]), (1, [.no]), (1, [.no]), (1, [.yes, .yes, .yes]), (11, [])]) (R := fun H => ((AV.tu [(AV.rf (AH.nx H) 5 0 0), (AV.i 150)]), (AH.mk ((AH.nx H) + (1 : Nat)) (((AH.nx H), (AObj.cells ([] : List AV))) :: (AH.l H))))) (fun H => kq) (ac (rSplit_ok (b) _ h0).any0 (ac h1 (ac h1 (ac h1 (ac h2 (ac h2 (ac h2 an))))))) (fun H => oq)) fun h2 h2p => tbD (fun h3 h3p => by intro e; injection e with e; subst e; exact leafO vw_eq (k := 300) (r := []) (hs := hz [(4, [.fres (.tu [ints (s0.1), .i (s0.2)])]), (8, [.no]), (1, [.no]), (1, [.no]), (1, [.no]), (1, [.no]), (1, [.no]), (1, [.yes, .yes, .yes, .yes, .yes, .yes, .yes]), (3, [])]) (R := fun H => ((AV.tu [(AV.rf (AH.nx H) 5 0 0), (AV.i 150)]), (AH.mk ((AH.nx H) + (1 : Nat)) (((AH.nx H), (AObj.cells ([] : List AV))) :: (AH.l H))))) (fun H => kq) (ac (rSplit_ok (b) _ h0).any0 (ac h1 (ac h1 (ac h1 (ac h2 (ac h2 (ac h2 (ac h3 (ac h3 (ac h3 (ac h3 (ac h3 (ac h3 (ac h3 an)))))))))))))) (fun H => oq)) fun h3 h3p => tbD (fun h4 h4p => by intro e; injection e with e; subst e; exact leafO vw_eq (k := 300) (r := []) (hs := hz [(4, [.fres (.tu [ints (s0.1), .i (s0.2)])]), (8, [.no]), (1, [.no]), (1, [.no]), (1, [.no]), (1, [.no]), (1, [.no]), (1, [.no]), (1, [.no]), (1, [.no]), (1, [.no]), (1, [.no]), (1, [.no]), (1, [.no, .yes]), (2, [])]) (R := fun H => ((AV.tu [(AV.rf (AH.nx H) 5 0 0), (AV.i 150)]), (AH.mk ((AH.nx H) + (1 : Nat)) (((AH.nx H), (AObj.cells ([] : List AV))) :: (AH.l H))))) (fun H => kq) (ac (rSplit_ok (b) _ h0).any0 (ac h1 (ac h1 (ac h1 (ac h2 (ac h2 (ac h2 (ac h3 (ac h3 (ac h3 (ac h3 (ac h3 (ac h3 (ac h3 (ac h4 an))))))))))))))) (fun H => oq)) fun h4 h4p => th_ok fun s5 h5 => tbD (fun h6 h6p => tn_ok) fun h6 h6p => tp_ok fun h7 => by intro e; injection e with e; subst e; exact leafO vw_eq (k := 300) (r := []) (hs := hz [(4, [.fres (.tu [ints (s0.1), .i (s0.2)])]), (8, [.no]), (1, [.no]), (1, [.no]), (1, [.no]), (1, [.no]), (1, [.no]), (1, [.no]), (1, [.no]), (1, [.no]), (1, [.no]), (1, [.no]), (1, [.no]), (1, [.no, .no]), (3, [.head (rLay_L0_S lba b s0 s5)]), (4, [.no]), (3, [.yes, .yes])]) (R := fun H => ((AV.tu [(AV.rf (AH.nx H) 5 0 s5.2.1.length), (AV.i 0)]), (AH.mk ((AH.nx H) + (1 : Nat)) (((AH.nx H), (AObj.cells (s5.2.1.flatMap Ex.cells))) :: (AH.l H))))) (fun H => kq) (ac (rSplit_ok (b) _ h0).any0 (ac h1 (ac h1 (ac h1 (ac h2 (ac h2 (ac h2 (ac h3 (ac h3 (ac h3 (ac h3 (ac h3 (ac h3 (ac h3 (ac h4 (ac (show EvHead Try.prog cf (lp Try.prog 67 0) (rLay_L0_I lba b s0) (rLay_L0_S lba b s0 s5) from (EvHead.of (rLay_L0_ok lba b s0) (absB_of [0] [] kq (.consn kq (.eqv tq rfl) (.consn kq (.eqv tq rfl) (.consn kq .nl0 (.consn kq (.eqv tq rfl) (.consn kq (.eqv tq rfl) (.consn kq (.eqv tq rfl) (.consn kq (.eqv tq rfl) (.consn kq (.nln tq) (.consn kq (.eqv tq rfl) (.consn kq (.eqv tq rfl) .nil)))))))))) (.cons (.none rfl (Nat.le_refl _) rfl) .nil)) h5)) (ac h6 (ac h7 (ac (pq (p := Pl false ((s5.2.1.flatMap Ex.cells)))) an))))))))))))))))))) (fun H => oq)
noncomputable abbrev rPack_L1_I (l : List Ex) (s0 : Bool) (s2 : List Ex × Int) (s6 : List Ex × Int) : St := (St.mk [(0, (exs l)), (2, AV.nl), (3, (AV.i 0)), (4, (AV.b s0)), (17, (AV.b (!s0))), (5, (AV.rf 0 5 0 s2.1.length)), (6, (AV.i s2.2)), (18, (AV.i s2.2)), (19, (exs l)), (20, (AV.i (l.length : Int))), (21, (AV.b (decide (s2.2 < (l.length : Int))))), (24, (exs l)), (25, (AV.i s2.2)), (26, (AV.ip (List.drop (s2.2.toNat * 5) (l.flatMap Ex.cells)))), (27, (AV.ip (List.drop 2 (List.drop (s2.2.toNat * 5) (l.flatMap Ex.cells))))), (28, (AV.i (exAt l s2.2.toNat).kind)), (29, (AV.b ((exAt l s2.2.toNat).kind != (2 : Int)))), (38, (exs l)), (39, (AV.i s2.2)), (40, (AV.ip (List.drop (s2.2.toNat * 5) (l.flatMap Ex.cells)))), (41, (AV.ip (List.drop (s2.2.toNat * 5) (l.flatMap Ex.cells)))), (42, (AV.i (exAt l s2.2.toNat).lba)), (43, (exs l)), (44, (AV.i s2.2)), (45, (AV.ip (List.drop (s2.2.toNat * 5) (l.flatMap Ex.cells)))), (46, (AV.ip (List.drop 4 (List.drop (s2.2.toNat * 5) (l.flatMap Ex.cells))))), (47, (bys (exAt l s2.2.toNat).d)), (48, (AV.tu [(AV.rf 1 5 0 s6.1.length), (AV.i s6.2)])), (37, (AV.tu [(AV.rf 1 5 0 s6.1.length), (AV.i s6.2)])), (49, (AV.rf 1 5 0 s6.1.length)), (50, (AV.i s6.2)), (7, (AV.rf 1 5 0 s6.1.length)), (8, (AV.i s6.2)), (9, (AV.i 0))] 108 (AH.mk 2 [(1, (AObj.cells (s6.1.flatMap Ex.cells))), (0, (AObj.cells (s2.1.flatMap Ex.cells)))]) false)
noncomputable abbrev rPack_L1_S (l : List Ex) (s0 : Bool) (s2 : List Ex × Int) (s6 : List Ex × Int) (s7 : Int × List Ex) : St := (St.mk [(0, (exs l)), (2, AV.nl), (3, (AV.i 0)), (4, (AV.b s0)), (17, (AV.b (!s0))), (5, (AV.rf 0 5 0 s2.1.length)), (6, (AV.i s2.2)), (21, (AV.b (decide (s2.2 < (l.length : Int))))), (29, (AV.b ((exAt l s2.2.toNat).kind != (2 : Int)))), (7, (AV.rf 1 5 0 s6.1.length)), (9, (AV.i s7.1))] 108 (AH.mk 2 [(1, (AObj.cells (s7.2.flatMap Ex.cells))), (0, (AObj.cells (s2.1.flatMap Ex.cells)))]) false)
noncomputable def rPack_L1_step (l : List Ex) (s0 : Bool) (s2 : List Ex × Int) (s6 : List Ex × Int) (s7 : Int × List Ex) : Option (Int × List Ex) :=
 (tb ((decide (s7.1 < (s6.1.length : Int)))) (tp ((((0 : Int) ≤ s2.2) ∧ (s2.2 < (l.length : Int)))) (tp ((((0 : Int) ≤ s7.1) ∧ (s7.1 < (s6.1.length : Int)))) (tp ((((List.length [(AV.i (exAt l s2.2.toNat).gen)]) = (1 : Nat)) ∧ (((((0 : Nat) + (s7.1.toNat * 5)) + (3 : Nat)) + (List.length [(AV.i (exAt l s2.2.toNat).gen)])) ≤ (List.length (s7.2.flatMap Ex.cells))))) (some (((wr (s7.1 + (1 : Int))), (List.set s7.2 s7.1.toNat (Ex.mk (exAt s7.2 s7.1.toNat).lba (exAt s7.2 s7.1.toNat).len (exAt s7.2 s7.1.toNat).kind (exAt l s2.2.toNat).gen (exAt s7.2 s7.1.toNat).d)))))))) none)
theorem rPack_L1_ok (l : List Ex) (s0 : Bool) (s2 : List Ex × Int) (s6 : List Ex × Int) (s7 zz : Int × List Ex) : rPack_L1_step l s0 s2 s6 s7 = some zz → EvStep Try.prog cf 2 (lp Try.prog 37 1) (rPack_L1_S l s0 s2 s6 s7) (rPack_L1_S l s0 s2 s6 zz) := by
  unfold rPack_L1_step
  exact tbD (fun h8 h8p => tp_ok fun h9 => tp_ok fun h10 => tp_ok fun h11 => by intro e; injection e with e; subst e; exact leafS vw_eq (k := 300) (r := []) (hs := hz [(4, [.yes]), (4, [.yes]), (1, [.yes, .val ((AV.i (exAt l s2.2.toNat).gen)), .yes]), (1, [.yes, .cells ((List.flatMap Ex.cells (List.set s7.2 s7.1.toNat (Ex.mk (exAt s7.2 s7.1.toNat).lba (exAt s7.2 s7.1.toNat).len (exAt s7.2 s7.1.toNat).kind (exAt l s2.2.toNat).gen (exAt s7.2 s7.1.toNat).d))))]), (3, [])]) (ks := [0, 2, 3, 4, 17, 5, 6, 21, 29, 7, 9]) (st1 := (St.mk [(0, (exs l)), (2, AV.nl), (3, (AV.i 0)), (4, (AV.b s0)), (17, (AV.b (!s0))), (5, (AV.rf 0 5 0 s2.1.length)), (6, (AV.i s2.2)), (21, (AV.b (decide (s2.2 < (l.length : Int))))), (29, (AV.b ((exAt l s2.2.toNat).kind != (2 : Int)))), (7, (AV.rf 1 5 0 s6.1.length)), (9, (AV.i (wr (s7.1 + (1 : Int)))))] 108 (AH.mk 2 [(1, (AObj.cells (List.flatMap Ex.cells (List.set s7.2 s7.1.toNat (Ex.mk (exAt s7.2 s7.1.toNat).lba (exAt s7.2 s7.1.toNat).len (exAt s7.2 s7.1.toNat).kind (exAt l s2.2.toNat).gen (exAt s7.2 s7.1.toNat).d))))), (0, (AObj.cells (s2.1.flatMap Ex.cells)))]) false)) kq (ac h8 (ac h9 (ac (fq (p := ((1 : Nat) ≤ (List.length (List.drop 3 (List.drop (s2.2.toNat * 5) (l.flatMap Ex.cells))))))) (ac (show (List.take 1 (List.drop 3 (List.drop (s2.2.toNat * 5) (l.flatMap Ex.cells)))) = [(AV.i (exAt l s2.2.toNat).gen)] from (by first | exact ex_one _ _ _ _ bq rfl | exact ex_oneA _ _ _ _ bq rfl | (simpa using ex_one (l) (s2.2.toNat) 3 _ bq rfl) | ((try simp only [List.drop_drop]); rw [show ((3 : Nat) + (s2.2.toNat * 5)) = (s2.2.toNat) * 5 + 3 by omega]; exact ex_oneA (l) (s2.2.toNat) 3 _ bq rfl))) (ac h10 (ac h11 (ac (show (((List.take (((0 : Nat) + (s7.1.toNat * 5)) + (3 : Nat)) (s7.2.flatMap Ex.cells)) ++ [(AV.i (exAt l s2.2.toNat).gen)]) ++ (List.drop ((((0 : Nat) + (s7.1.toNat * 5)) + (3 : Nat)) + (List.length [(AV.i (exAt l s2.2.toNat).gen)])) (s7.2.flatMap Ex.cells))) = (List.flatMap Ex.cells (List.set s7.2 s7.1.toNat (Ex.mk (exAt s7.2 s7.1.toNat).lba (exAt s7.2 s7.1.toNat).len (exAt s7.2 s7.1.toNat).kind (exAt l s2.2.toNat).gen (exAt s7.2 s7.1.toNat).d))) from (by rw [show (((0 : Nat) + (s7.1.toNat * 5)) + (3 : Nat)) = (s7.1.toNat) * 5 + 3 by omega]; exact ex_setf _ _ 3 _ ((Ex.mk (exAt s7.2 s7.1.toNat).lba (exAt s7.2 s7.1.toNat).len (exAt s7.2 s7.1.toNat).kind (exAt l s2.2.toNat).gen (exAt s7.2 s7.1.toNat).d)) bq (by simp) rfl)) an))))))) (Nat.le_of_ble_eq_true rfl) (Nat.le_of_ble_eq_true rfl) (absB_of [] [] kq (.consn kq (.eqv tq rfl) (.consn kq .nl0 (.consn kq (.eqv tq rfl) (.consn kq (.eqv tq rfl) (.consn kq (.eqv tq rfl) (.consn kq (.rf rfl) (.consn kq (.eqv tq rfl) (.consn kq (.eqv tq rfl) (.consn kq (.eqv tq rfl) (.consn kq (.rf rfl) (.consn kq (.eqv tq rfl) .nil))))))))))) (.cons (.old rfl rfl (.cells (.pl tq pq))) (.cons (.old rfl rfl (.cells (.pl rfl (by simp)))) .nil)))) fun h8 h8p => tn_ok
noncomputable abbrev rPack_L0_I (l : List Ex) (s0 : Bool) : St := (St.mk [(0, (exs l)), (2, AV.nl), (3, (AV.i 0)), (14, (exs l)), (15, (AV.b s0)), (4, (AV.b s0)), (16, (AV.b s0)), (17, (AV.b (!s0))), (5, AV.nl), (6, (AV.i 0))] 108 (AH.mk 0 ([] : List (Prod Nat AObj))) false)
noncomputable abbrev rPack_L0_S (l : List Ex) (s0 : Bool) (s2 : List Ex × Int) : St := (St.mk [(0, (exs l)), (2, AV.nl), (3, (AV.i 0)), (4, (AV.b s0)), (17, (AV.b (!s0))), (5, (AV.rf 0 5 0 s2.1.length)), (6, (AV.i s2.2))] 108 (AH.mk 1 [(0, (AObj.cells (s2.1.flatMap Ex.cells)))]) false)
noncomputable def rPack_L0_step (l : List Ex) (s0 : Bool) (s2 : List Ex × Int) : Option (List Ex × Int) :=
 (tb ((decide (s2.2 < (l.length : Int)))) (tp ((((0 : Int) ≤ s2.2) ∧ (s2.2 < (l.length : Int)))) (tb (((exAt l s2.2.toNat).kind != (2 : Int))) (tp ((((List.length (s2.1.flatMap Ex.cells)) = (s2.1.length * 5)) ∧ ((s2.1.length + (1 : Nat)) ≤ (4294967296 : Nat)))) (some (((s2.1 ++ [(exAt l s2.2.toNat)]), (wr (s2.2 + (1 : Int))))))) (tc (rLay ((exAt l s2.2.toNat).lba) ((exAt l s2.2.toNat).d)) fun s6 => (th (rPack_L1_step l s0 s2 s6) (((0 : Int), s6.1)) fun s7 => (tb ((decide (s7.1 < (s6.1.length : Int)))) none (tp ((((0 : Nat) = (0 : Nat)) ∧ ((List.length (s7.2.flatMap Ex.cells)) = (s6.1.length * 5)))) (tp ((((List.length (s2.1.flatMap Ex.cells)) = (s2.1.length * 5)) ∧ ((s2.1.length + s6.1.length) ≤ (4294967296 : Nat)))) (some (((s2.1 ++ s7.2), (wr (s2.2 + (1 : Int))))))))))))) none)
theorem rPack_L0_ok (l : List Ex) (s0 : Bool) (s2 zz : List Ex × Int) : rPack_L0_step l s0 s2 = some zz → EvStep Try.prog cf 0 (lp Try.prog 37 0) (rPack_L0_S l s0 s2) (rPack_L0_S l s0 zz) := by
  unfold rPack_L0_step
  exact tbD (fun h3 h3p => tp_ok fun h4 => tbN (fun h5 h5p => tp_ok fun h6 => by intro e; injection e with e; subst e; exact leafS vw_eq (k := 300) (r := []) (hs := hz [(4, [.yes]), (2, [.yes]), (1, [.yes, .val ((AV.i (exAt l s2.2.toNat).kind))]), (1, [.yes]), (3, [.yes, .yes, .cells ((Ex.cells (exAt l s2.2.toNat)))]), (1, [.fc, .fc, .yes, .yes]), (4, [])]) (ks := [0, 2, 3, 4, 17, 5, 6]) (st1 := (St.mk [(0, (exs l)), (2, AV.nl), (3, (AV.i 0)), (4, (AV.b s0)), (17, (AV.b (!s0))), (5, (AV.rf 2 5 0 (s2.1.length + (1 : Nat)))), (6, (AV.i (wr (s2.2 + (1 : Int)))))] 108 (AH.mk 3 [(2, (AObj.cells ((s2.1.flatMap Ex.cells) ++ (xc (exAt l s2.2.toNat))))), (1, (AObj.cells (xc (exAt l s2.2.toNat)))), (0, AObj.dead)]) false)) kq (ac h3 (ac h4 (ac (fq (p := ((1 : Nat) ≤ (List.length (List.drop 2 (List.drop (s2.2.toNat * 5) (l.flatMap Ex.cells))))))) (ac (show (List.take 1 (List.drop 2 (List.drop (s2.2.toNat * 5) (l.flatMap Ex.cells)))) = [(AV.i (exAt l s2.2.toNat).kind)] from (by first | exact ex_one _ _ _ _ bq rfl | exact ex_oneA _ _ _ _ bq rfl | (simpa using ex_one (l) (s2.2.toNat) 2 _ bq rfl) | ((try simp only [List.drop_drop]); rw [show ((2 : Nat) + (s2.2.toNat * 5)) = (s2.2.toNat) * 5 + 2 by omega]; exact ex_oneA (l) (s2.2.toNat) 2 _ bq rfl))) (ac h5 (ac h4 (ac (fq (p := ((5 : Nat) ≤ (List.length (List.drop (s2.2.toNat * 5) (l.flatMap Ex.cells)))))) (ac (show (List.take 5 (List.drop (s2.2.toNat * 5) (l.flatMap Ex.cells))) = (Ex.cells (exAt l s2.2.toNat)) from (ex_takeO bq bq)) (ac (tq (p := (((0 : Nat) = (0 : Nat)) ∧ ((List.length (xc (exAt l s2.2.toNat))) = (5 : Nat))))) (ac h6 an)))))))))) (Nat.le_of_ble_eq_true rfl) (Nat.le_of_ble_eq_true rfl) (absB_of [2] [] kq (.consn kq (.eqv tq rfl) (.consn kq .nl0 (.consn kq (.eqv tq rfl) (.consn kq (.eqv tq rfl) (.consn kq (.eqv tq rfl) (.consn kq (.rfn (n := (s2.1.length + (1 : Nat))) rfl tq) (.consn kq (.eqv tq rfl) .nil))))))) (.cons (.old rfl rfl (.cells (.pl tq pq))) .nil))) fun h5 h5p => tc_ok fun s6 h6 => th_ok fun s7 h7 => tbD (fun h8 h8p => tn_ok) fun h8 h8p => tp_ok fun h9 => tp_ok fun h10 => by intro e; injection e with e; subst e; exact leafS vw_eq (k := 300) (r := []) (hs := hz [(4, [.yes]), (2, [.yes]), (1, [.yes, .val ((AV.i (exAt l s2.2.toNat).kind))]), (1, [.no]), (2, [.yes]), (1, [.yes, .val ((AV.i (exAt l s2.2.toNat).lba))]), (2, [.yes]), (1, [.yes, .val ((bys (exAt l s2.2.toNat).d))]), (1, [.fres (.tu [exs (s6.1), .i (s6.2)])]), (5, [.yes]), (1, [.head (rPack_L1_S l s0 s2 s6 s7)]), (4, [.no]), (2, [.yes, .yes]), (4, [])]) (ks := [0, 2, 3, 4, 17, 5, 6]) (st1 := (St.mk [(0, (exs l)), (2, AV.nl), (3, (AV.i 0)), (4, (AV.b s0)), (17, (AV.b (!s0))), (5, (AV.rf 2 5 0 (s2.1.length + s6.1.length))), (6, (AV.i (wr (s2.2 + (1 : Int)))))] 108 (AH.mk 3 [(2, (AObj.cells ((s2.1.flatMap Ex.cells) ++ (s7.2.flatMap Ex.cells)))), (1, (AObj.cells (s7.2.flatMap Ex.cells))), (0, AObj.dead)]) false)) kq (ac h3 (ac h4 (ac (fq (p := ((1 : Nat) ≤ (List.length (List.drop 2 (List.drop (s2.2.toNat * 5) (l.flatMap Ex.cells))))))) (ac (show (List.take 1 (List.drop 2 (List.drop (s2.2.toNat * 5) (l.flatMap Ex.cells)))) = [(AV.i (exAt l s2.2.toNat).kind)] from (by first | exact ex_one _ _ _ _ bq rfl | exact ex_oneA _ _ _ _ bq rfl | (simpa using ex_one (l) (s2.2.toNat) 2 _ bq rfl) | ((try simp only [List.drop_drop]); rw [show ((2 : Nat) + (s2.2.toNat * 5)) = (s2.2.toNat) * 5 + 2 by omega]; exact ex_oneA (l) (s2.2.toNat) 2 _ bq rfl))) (ac h5 (ac h4 (ac (fq (p := ((1 : Nat) ≤ (List.length (List.drop (s2.2.toNat * 5) (l.flatMap Ex.cells)))))) (ac (show (List.take 1 (List.drop (s2.2.toNat * 5) (l.flatMap Ex.cells))) = [(AV.i (exAt l s2.2.toNat).lba)] from (by first | exact ex_one0 _ _ _ bq rfl | (simpa using ex_one (l) (s2.2.toNat) 0 _ bq rfl))) (ac h4 (ac (fq (p := ((1 : Nat) ≤ (List.length (List.drop 4 (List.drop (s2.2.toNat * 5) (l.flatMap Ex.cells))))))) (ac (show (List.take 1 (List.drop 4 (List.drop (s2.2.toNat * 5) (l.flatMap Ex.cells)))) = [(bys (exAt l s2.2.toNat).d)] from (by first | exact ex_one _ _ _ _ bq rfl | exact ex_oneA _ _ _ _ bq rfl | (simpa using ex_one (l) (s2.2.toNat) 4 _ bq rfl) | ((try simp only [List.drop_drop]); rw [show ((4 : Nat) + (s2.2.toNat * 5)) = (s2.2.toNat) * 5 + 4 by omega]; exact ex_oneA (l) (s2.2.toNat) 4 _ bq rfl))) (ac (rLay_ok ((exAt l s2.2.toNat).lba) ((exAt l s2.2.toNat).d) _ h6) (ac (show orderOk (rg Try.prog 37 0) = true ∧ allOk (Region.before (rg Try.prog 37 0)) [] 0 [(some [], some []), (some [], some []), (some [], some []), (some [], some []), (some [], some []), (some [], some []), (some [], some []), (some [], some []), (some [], some []), (some [], some []), (some [], some [1]), (some [], some []), (some [], some []), (some [], some []), (some [], some []), (some [], some [])] = true from (ord_of ord_37_0 bef_37_0 kq)) (ac (show EvHead Try.prog cf (lp Try.prog 37 1) (rPack_L1_I l s0 s2 s6) (rPack_L1_S l s0 s2 s6 s7) from (EvHead.of (rPack_L1_ok l s0 s2 s6) (absB_of [] [] kq (.consn kq (.eqv tq rfl) (.consn kq .nl0 (.consn kq (.eqv tq rfl) (.consn kq (.eqv tq rfl) (.consn kq (.eqv tq rfl) (.consn kq (.rf rfl) (.consn kq (.eqv tq rfl) (.consn kq (.eqv tq rfl) (.consn kq (.eqv tq rfl) (.consn kq (.rf rfl) (.consn kq (.eqv tq rfl) .nil))))))))))) (.cons (.old rfl rfl (.cells (.pl tq pq))) (.cons (.old rfl rfl (.cells (.pl rfl (by simp)))) .nil))) h7)) (ac h8 (ac h9 (ac h10 an))))))))))))))))) (Nat.le_of_ble_eq_true rfl) (Nat.le_of_ble_eq_true rfl) (absB_of [2] [] kq (.consn kq (.eqv tq rfl) (.consn kq .nl0 (.consn kq (.eqv tq rfl) (.consn kq (.eqv tq rfl) (.consn kq (.eqv tq rfl) (.consn kq (.rfn (n := (s2.1.length + s6.1.length)) rfl tq) (.consn kq (.eqv tq rfl) .nil))))))) (.cons (.old rfl rfl (.cells (.pl tq pq))) .nil))) fun h3 h3p => tn_ok
noncomputable abbrev rPack_L3_I (l : List Ex) (s0 : Bool) (s2 : List Ex × Int) : St := (St.mk [(0, (exs l)), (2, AV.nl), (3, (AV.i 0)), (4, (AV.b s0)), (17, (AV.b (!s0))), (5, (AV.rf 0 5 0 s2.1.length)), (6, (AV.i s2.2)), (18, (AV.i s2.2)), (19, (exs l)), (20, (AV.i (l.length : Int))), (21, (AV.b (decide (s2.2 < (l.length : Int))))), (10, AV.nl), (11, (AV.i 0))] 108 (AH.mk 1 [(0, (AObj.cells (s2.1.flatMap Ex.cells)))]) false)
noncomputable abbrev rPack_L3_S (l : List Ex) (s0 : Bool) (s2 : List Ex × Int) (s4 : List Ex × Int) : St := (St.mk [(0, (exs l)), (2, AV.nl), (3, (AV.i 0)), (4, (AV.b s0)), (17, (AV.b (!s0))), (5, (AV.rf 0 5 0 s2.1.length)), (6, (AV.i s2.2)), (21, (AV.b (decide (s2.2 < (l.length : Int))))), (10, (AV.rf 1 5 0 s4.1.length)), (11, (AV.i s4.2))] 108 (AH.mk 2 [(0, (AObj.cells (s2.1.flatMap Ex.cells))), (1, (AObj.cells (s4.1.flatMap Ex.cells)))]) false)
noncomputable def rPack_L3_step (l : List Ex) (s0 : Bool) (s2 : List Ex × Int) (s4 : List Ex × Int) : Option (List Ex × Int) :=
 (tb ((decide (s4.2 < (s2.1.length : Int)))) (tb ((decide ((s4.1.length : Int) > (0 : Int)))) (tp ((((0 : Int) ≤ (wr ((s4.1.length : Int) - (1 : Int)))) ∧ ((wr ((s4.1.length : Int) - (1 : Int))) < (s4.1.length : Int)))) (tp ((((0 : Int) ≤ s4.2) ∧ (s4.2 < (s2.1.length : Int)))) (tc (r7Join ((exAt s4.1 (Int.toNat (wr ((s4.1.length : Int) - (1 : Int)))))) ((exAt s2.1 s4.2.toNat))) fun s9 => (tb ((s9.2 == (0 : Int))) (tp ((((List.length (xc s9.1)) = (5 : Nat)) ∧ ((((0 : Nat) + ((Int.toNat (wr ((s4.1.length : Int) - (1 : Int)))) * 5)) + (List.length (xc s9.1))) ≤ (List.length (s4.1.flatMap Ex.cells))))) (some (((List.set s4.1 (Int.toNat (wr ((s4.1.length : Int) - (1 : Int)))) s9.1), (wr (s4.2 + (1 : Int))))))) (tp ((((List.length (s4.1.flatMap Ex.cells)) = (s4.1.length * 5)) ∧ ((s4.1.length + (1 : Nat)) ≤ (4294967296 : Nat)))) (some (((s4.1 ++ [(exAt s2.1 s4.2.toNat)]), (wr (s4.2 + (1 : Int))))))))))) (tp ((((0 : Int) ≤ s4.2) ∧ (s4.2 < (s2.1.length : Int)))) (tp ((((List.length (s4.1.flatMap Ex.cells)) = (s4.1.length * 5)) ∧ ((s4.1.length + (1 : Nat)) ≤ (4294967296 : Nat)))) (some (((s4.1 ++ [(exAt s2.1 s4.2.toNat)]), (wr (s4.2 + (1 : Int))))))))) none)
theorem rPack_L3_ok (l : List Ex) (s0 : Bool) (s2 : List Ex × Int) (s4 zz : List Ex × Int) : rPack_L3_step l s0 s2 s4 = some zz → EvStep Try.prog cf 1 (lp Try.prog 37 2) (rPack_L3_S l s0 s2 s4) (rPack_L3_S l s0 s2 zz) := by
  unfold rPack_L3_step
  exact tbD (fun h5 h5p => tbD (fun h6 h6p => tp_ok fun h7 => tp_ok fun h8 => tc_ok fun s9 h9 => tbE (fun h10 h10p => tp_ok fun h11 => by intro e; injection e with e; subst e; exact leafS vw_eq (k := 300) (r := []) (hs := hz [(4, [.yes]), (3, [.yes]), (4, [.yes, .yes, .cells ((Ex.cells (exAt s4.1 (Int.toNat (wr ((s4.1.length : Int) - (1 : Int)))))))]), (2, [.yes, .yes, .cells ((Ex.cells (exAt s2.1 s4.2.toNat)))]), (1, [.fres (.tu [Ex.av (s9.1), .i (s9.2)])]), (5, [.fc]), (1, [.yes]), (2, [.yes]), (5, [.fc, .yes, .yes, .cells ((List.flatMap Ex.cells (List.set s4.1 (Int.toNat (wr ((s4.1.length : Int) - (1 : Int)))) s9.1)))]), (3, [])]) (ks := [0, 2, 3, 4, 17, 5, 6, 21, 10, 11]) (st1 := (St.mk [(0, (exs l)), (2, AV.nl), (3, (AV.i 0)), (4, (AV.b s0)), (17, (AV.b (!s0))), (5, (AV.rf 0 5 0 s2.1.length)), (6, (AV.i s2.2)), (21, (AV.b (decide (s2.2 < (l.length : Int))))), (10, (AV.rf 1 5 0 s4.1.length)), (11, (AV.i (wr (s4.2 + (1 : Int)))))] 108 (AH.mk 3 [(2, (AObj.cells (xc s9.1))), (0, (AObj.cells (s2.1.flatMap Ex.cells))), (1, (AObj.cells (List.flatMap Ex.cells (List.set s4.1 (Int.toNat (wr ((s4.1.length : Int) - (1 : Int)))) s9.1))))]) false)) kq (ac h5 (ac h6 (ac h7 (ac (fq (p := ((((0 : Nat) + ((Int.toNat (wr ((s4.1.length : Int) - (1 : Int)))) * 5)) + (5 : Nat)) ≤ (List.length (s4.1.flatMap Ex.cells))))) (ac (show (List.take 5 (List.drop ((0 : Nat) + ((Int.toNat (wr ((s4.1.length : Int) - (1 : Int)))) * 5)) (s4.1.flatMap Ex.cells))) = (Ex.cells (exAt s4.1 (Int.toNat (wr ((s4.1.length : Int) - (1 : Int)))))) from (ex_takeO bq bq)) (ac h8 (ac (fq (p := ((((0 : Nat) + (s4.2.toNat * 5)) + (5 : Nat)) ≤ (List.length (s2.1.flatMap Ex.cells))))) (ac (show (List.take 5 (List.drop ((0 : Nat) + (s4.2.toNat * 5)) (s2.1.flatMap Ex.cells))) = (Ex.cells (exAt s2.1 s4.2.toNat)) from (ex_takeO bq bq)) (ac (r7Join_ok ((exAt s4.1 (Int.toNat (wr ((s4.1.length : Int) - (1 : Int)))))) ((exAt s2.1 s4.2.toNat)) _ h9).any0 (ac (show orderOk (rg Try.prog 37 1) = true ∧ allOk (Region.before (rg Try.prog 37 1)) [] 0 [(some [], some []), (some [], some []), (some [], some []), (some [], some []), (some [], some []), (some [1], some []), (some [], some []), (some [], some []), (some [], some []), (some [0], some []), (some [], some []), (some [], some []), (some [], some []), (some [], some []), (some [], some [2]), (some [2], some [2]), (some [], some [])] = true from (ord_of ord_37_1 bef_37_1 kq)) (ac h10 (ac h7 (ac h11 (ac (show (((List.take ((0 : Nat) + ((Int.toNat (wr ((s4.1.length : Int) - (1 : Int)))) * 5)) (s4.1.flatMap Ex.cells)) ++ (xc s9.1)) ++ (List.drop (((0 : Nat) + ((Int.toNat (wr ((s4.1.length : Int) - (1 : Int)))) * 5)) + (List.length (xc s9.1))) (s4.1.flatMap Ex.cells))) = (List.flatMap Ex.cells (List.set s4.1 (Int.toNat (wr ((s4.1.length : Int) - (1 : Int)))) s9.1)) from (ex_setO (x := s9.1) bq bq tq)) an)))))))))))))) (Nat.le_of_ble_eq_true rfl) (Nat.le_of_ble_eq_true rfl) (absB_of [1] [] kq (.consn kq (.eqv tq rfl) (.consn kq .nl0 (.consn kq (.eqv tq rfl) (.consn kq (.eqv tq rfl) (.consn kq (.eqv tq rfl) (.consn kq (.rf rfl) (.consn kq (.eqv tq rfl) (.consn kq (.eqv tq rfl) (.consn kq (.rfn (n := s4.1.length) rfl tq) (.consn kq (.eqv tq rfl) .nil)))))))))) (.cons (.old rfl rfl (.cells (.pl rfl (by simp)))) (.cons (.old rfl rfl (.cells (.pl tq pq))) .nil)))) fun h10 h10p => tp_ok fun h11 => by intro e; injection e with e; subst e; exact leafS vw_eq (k := 300) (r := []) (hs := hz [(4, [.yes]), (3, [.yes]), (4, [.yes, .yes, .cells ((Ex.cells (exAt s4.1 (Int.toNat (wr ((s4.1.length : Int) - (1 : Int)))))))]), (2, [.yes, .yes, .cells ((Ex.cells (exAt s2.1 s4.2.toNat)))]), (1, [.fres (.tu [Ex.av (s9.1), .i (s9.2)])]), (5, [.fc]), (1, [.yes]), (2, [.no]), (3, [.yes, .yes, .cells ((Ex.cells (exAt s2.1 s4.2.toNat)))]), (1, [.fc, .fc, .yes, .yes]), (4, [])]) (ks := [0, 2, 3, 4, 17, 5, 6, 21, 10, 11]) (st1 := (St.mk [(0, (exs l)), (2, AV.nl), (3, (AV.i 0)), (4, (AV.b s0)), (17, (AV.b (!s0))), (5, (AV.rf 0 5 0 s2.1.length)), (6, (AV.i s2.2)), (21, (AV.b (decide (s2.2 < (l.length : Int))))), (10, (AV.rf 4 5 0 (s4.1.length + (1 : Nat)))), (11, (AV.i (wr (s4.2 + (1 : Int)))))] 108 (AH.mk 5 [(4, (AObj.cells ((s4.1.flatMap Ex.cells) ++ (xc (exAt s2.1 s4.2.toNat))))), (3, (AObj.cells (xc (exAt s2.1 s4.2.toNat)))), (2, (AObj.cells (xc s9.1))), (0, (AObj.cells (s2.1.flatMap Ex.cells))), (1, AObj.dead)]) false)) kq (ac h5 (ac h6 (ac h7 (ac (fq (p := ((((0 : Nat) + ((Int.toNat (wr ((s4.1.length : Int) - (1 : Int)))) * 5)) + (5 : Nat)) ≤ (List.length (s4.1.flatMap Ex.cells))))) (ac (show (List.take 5 (List.drop ((0 : Nat) + ((Int.toNat (wr ((s4.1.length : Int) - (1 : Int)))) * 5)) (s4.1.flatMap Ex.cells))) = (Ex.cells (exAt s4.1 (Int.toNat (wr ((s4.1.length : Int) - (1 : Int)))))) from (ex_takeO bq bq)) (ac h8 (ac (fq (p := ((((0 : Nat) + (s4.2.toNat * 5)) + (5 : Nat)) ≤ (List.length (s2.1.flatMap Ex.cells))))) (ac (show (List.take 5 (List.drop ((0 : Nat) + (s4.2.toNat * 5)) (s2.1.flatMap Ex.cells))) = (Ex.cells (exAt s2.1 s4.2.toNat)) from (ex_takeO bq bq)) (ac (r7Join_ok ((exAt s4.1 (Int.toNat (wr ((s4.1.length : Int) - (1 : Int)))))) ((exAt s2.1 s4.2.toNat)) _ h9).any0 (ac (show orderOk (rg Try.prog 37 1) = true ∧ allOk (Region.before (rg Try.prog 37 1)) [] 0 [(some [], some []), (some [], some []), (some [], some []), (some [], some []), (some [], some []), (some [1], some []), (some [], some []), (some [], some []), (some [], some []), (some [0], some []), (some [], some []), (some [], some []), (some [], some []), (some [], some []), (some [], some [2]), (some [2], some [2]), (some [], some [])] = true from (ord_of ord_37_1 bef_37_1 kq)) (ac h10 (ac h8 (ac (fq (p := ((((0 : Nat) + (s4.2.toNat * 5)) + (5 : Nat)) ≤ (List.length (s2.1.flatMap Ex.cells))))) (ac (show (List.take 5 (List.drop ((0 : Nat) + (s4.2.toNat * 5)) (s2.1.flatMap Ex.cells))) = (Ex.cells (exAt s2.1 s4.2.toNat)) from (ex_takeO bq bq)) (ac (tq (p := (((0 : Nat) = (0 : Nat)) ∧ ((List.length (xc (exAt s2.1 s4.2.toNat))) = (5 : Nat))))) (ac h11 an)))))))))))))))) (Nat.le_of_ble_eq_true rfl) (Nat.le_of_ble_eq_true rfl) (absB_of [4] [] kq (.consn kq (.eqv tq rfl) (.consn kq .nl0 (.consn kq (.eqv tq rfl) (.consn kq (.eqv tq rfl) (.consn kq (.eqv tq rfl) (.consn kq (.rf rfl) (.consn kq (.eqv tq rfl) (.consn kq (.eqv tq rfl) (.consn kq (.rfn (n := (s4.1.length + (1 : Nat))) rfl tq) (.consn kq (.eqv tq rfl) .nil)))))))))) (.cons (.old rfl rfl (.cells (.pl rfl (by simp)))) (.cons (.old rfl rfl (.cells (.pl tq pq))) .nil)))) fun h6 h6p => tp_ok fun h7 => tp_ok fun h8 => by intro e; injection e with e; subst e; exact leafS vw_eq (k := 300) (r := []) (hs := hz [(4, [.yes]), (3, [.no]), (3, [.yes, .yes, .cells ((Ex.cells (exAt s2.1 s4.2.toNat)))]), (1, [.fc, .fc, .yes, .yes]), (4, [])]) (ks := [0, 2, 3, 4, 17, 5, 6, 21, 10, 11]) (st1 := (St.mk [(0, (exs l)), (2, AV.nl), (3, (AV.i 0)), (4, (AV.b s0)), (17, (AV.b (!s0))), (5, (AV.rf 0 5 0 s2.1.length)), (6, (AV.i s2.2)), (21, (AV.b (decide (s2.2 < (l.length : Int))))), (10, (AV.rf 3 5 0 (s4.1.length + (1 : Nat)))), (11, (AV.i (wr (s4.2 + (1 : Int)))))] 108 (AH.mk 4 [(3, (AObj.cells ((s4.1.flatMap Ex.cells) ++ (xc (exAt s2.1 s4.2.toNat))))), (2, (AObj.cells (xc (exAt s2.1 s4.2.toNat)))), (0, (AObj.cells (s2.1.flatMap Ex.cells))), (1, AObj.dead)]) false)) kq (ac h5 (ac h6 (ac h7 (ac (fq (p := ((((0 : Nat) + (s4.2.toNat * 5)) + (5 : Nat)) ≤ (List.length (s2.1.flatMap Ex.cells))))) (ac (show (List.take 5 (List.drop ((0 : Nat) + (s4.2.toNat * 5)) (s2.1.flatMap Ex.cells))) = (Ex.cells (exAt s2.1 s4.2.toNat)) from (ex_takeO bq bq)) (ac (tq (p := (((0 : Nat) = (0 : Nat)) ∧ ((List.length (xc (exAt s2.1 s4.2.toNat))) = (5 : Nat))))) (ac h8 an))))))) (Nat.le_of_ble_eq_true rfl) (Nat.le_of_ble_eq_true rfl) (absB_of [3] [] kq (.consn kq (.eqv tq rfl) (.consn kq .nl0 (.consn kq (.eqv tq rfl) (.consn kq (.eqv tq rfl) (.consn kq (.eqv tq rfl) (.consn kq (.rf rfl) (.consn kq (.eqv tq rfl) (.consn kq (.eqv tq rfl) (.consn kq (.rfn (n := (s4.1.length + (1 : Nat))) rfl tq) (.consn kq (.eqv tq rfl) .nil)))))))))) (.cons (.old rfl rfl (.cells (.pl rfl (by simp)))) (.cons (.old rfl rfl (.cells (.pl tq pq))) .nil)))) fun h5 h5p => tn_ok
/-- Function 37, as it answers. -/
noncomputable def rPack (l : List Ex) : Option (List Ex × Int) :=
 (tc (r10List (l)) fun s0 => (tb ((!s0)) (some ((([] : List Ex), (70 : Int)))) (th (rPack_L0_step l s0) ((([] : List Ex), (0 : Int))) fun s2 => (tb ((decide (s2.2 < (l.length : Int)))) none (th (rPack_L3_step l s0 s2) ((([] : List Ex), (0 : Int))) fun s4 => (tb ((decide (s4.2 < (s2.1.length : Int)))) none (tp ((((0 : Nat) = (0 : Nat)) ∧ ((List.length (s4.1.flatMap Ex.cells)) = (s4.1.length * 5)))) (some ((s4.1, (0 : Int)))))))))))
abbrev rPack_G (l : List Ex) (r : List Ex × Int) : Prop := EvFr Try.prog cf false 37 [exs (l)] (.tu [exs (r.1), .i (r.2)])
theorem rPack_ok (l : List Ex) (r : List Ex × Int) : rPack l = some r → rPack_G l r := by
  unfold rPack
  exact tc_ok fun s0 h0 => tb_ok (fun h1 => by intro e; injection e with e; subst e; exact leafR vw_eq (k := 300) (r := []) (hs := hz [(4, [.fres (.b (s0))]), (3, [.yes]), (2, [])]) (raw := (AV.tu [(AV.sl 0 ([] : List AV)), (AV.i 70)])) kq (ac (r10List_ok (l) _ h0).any0 (ac h1 an)) tq) fun h1 => th_ok fun s2 h2 => tbD (fun h3 h3p => tn_ok) fun h3 h3p => th_ok fun s4 h4 => tbD (fun h5 h5p => tn_ok) fun h5 h5p => tp_ok fun h6 => by intro e; injection e with e; subst e; exact leafR vw_eq (k := 300) (r := []) (hs := hz [(4, [.fres (.b (s0))]), (3, [.no]), (2, [.head (rPack_L0_S l s0 s2)]), (4, [.no]), (2, [.head (rPack_L3_S l s0 s2 s4)]), (4, [.no]), (3, [.yes, .yes])]) (raw := (AV.tu [(exs s4.1), (AV.i 0)])) kq (ac (r10List_ok (l) _ h0).any0 (ac h1 (ac (show EvHead Try.prog cf (lp Try.prog 37 0) (rPack_L0_I l s0) (rPack_L0_S l s0 s2) from (EvHead.of (rPack_L0_ok l s0) (absB_of [0] [] kq (.consn kq (.eqv tq rfl) (.consn kq .nl0 (.consn kq (.eqv tq rfl) (.consn kq (.eqv tq rfl) (.consn kq (.eqv tq rfl) (.consn kq (.nln tq) (.consn kq (.eqv tq rfl) .nil))))))) (.cons (.none rfl (Nat.le_refl _) rfl) .nil)) h2)) (ac h3 (ac (show EvHead Try.prog cf (lp Try.prog 37 2) (rPack_L3_I l s0 s2) (rPack_L3_S l s0 s2 s4) from (EvHead.of (rPack_L3_ok l s0 s2) (absB_of [1] [] kq (.consn kq (.eqv tq rfl) (.consn kq .nl0 (.consn kq (.eqv tq rfl) (.consn kq (.eqv tq rfl) (.consn kq (.eqv tq rfl) (.consn kq (.rf rfl) (.consn kq (.eqv tq rfl) (.consn kq (.eqv tq rfl) (.consn kq (.nln tq) (.consn kq (.eqv tq rfl) .nil)))))))))) (.cons (.old rfl rfl (.cells (.pl rfl (by simp)))) (.cons (.none rfl (Nat.le_refl _) rfl) .nil))) h4)) (ac h5 (ac h6 (ac (pq (p := Pl false ((s4.1.flatMap Ex.cells)))) an)))))))) tq
end Ab
end Go.Proofs.Ytpflcogplhigcaa
namespace Go.Proofs.Ytpflcogplhigcaa
open Go Go.Proofs.Ytpflcogplhigcaa.Ab
set_option linter.unusedVariables false
set_option linter.unusedSimpArgs false
namespace Ab
def mkx (lba : Int) (b : List UInt8) (c : Bool) (n : Int) : Ex := if c = true then ⟨lba, n, 1, 0, []⟩ else ⟨lba, n, 2, 0, b.take (32 * n).toNat⟩
def ly : Int → List UInt8 → Bool → Int → List Bool → List Ex
  | lba, b, c, n, [] => if n = 0 then [] else [mkx lba b c n]
  | lba, b, c, n, z :: zs => if z = c then ly lba b c (n + 1) zs else if n = 0 then ly lba b z 1 zs else mkx lba b c n :: ly (lba + n) (b.drop (32 * n).toNat) z 1 zs
def Lo (lba : Int) (b : List UInt8) : Prop := b.length % 32 = 0 ∧ 0 ≤ lba ∧ lba ≤ 64 ∧ (b.length : Int) / 32 ≤ 64 - lba
instance (lba : Int) (b : List UInt8) : Decidable (Lo lba b) := by unfold Lo; infer_instance
def lay (lba : Int) (b : List UInt8) : List Ex × Int := if Lo lba b then (ly lba b false 0 (flags b), 0) else ([], 150)
theorem tdiv32 (n : Nat) : Int.tdiv (n : Int) 32 = (n : Int) / 32 := Int.tdiv_eq_ediv_of_nonneg (by omega)
theorem pLay_B1_eq (lba0 : Int) (b0 : List UInt8) (c : Bool) (n : Int) (b' : List UInt8) (out : List Ex) (bc : List UInt8) (lba : Int) (h1 : 0 ≤ n) (h2 : n ≤ 64) (h3 : 32 * n ≤ bc.length) (h4 : 0 ≤ lba) (h5 : lba ≤ 64) (h6 : out.length ≤ 64) :
    pLay_B1 lba0 b0 (c, n, b', out, bc, lba) = some (out ++ [mkx lba bc c n], bc.drop (32 * n).toNat, lba + n) := by
  unfold pLay_B1
  simp only [tb_not]
  have w1 : wr (n * 32) = 32 * n := by rw [wr_id (by omega) (by omega)]; omega
  have w2 : wr (lba + n) = lba + n := wr_id (by omega) (by omega)
  rw [w1, w2]
  have hr : List.take ((bc.length - (32 * n).toNat) * 1) (bc.drop ((32 * n).toNat * 1)) = bc.drop (32 * n).toNat := by rw [Nat.mul_one, Nat.mul_one]; exact List.take_of_length_le (by simp)
  rw [hr]
  cases c with
  | true =>
    rw [tb_t, tp_pos ⟨exs_len _, by omega⟩, tp_pos (by omega), tp_pos (by rw [List.length_map]; omega)]
    rfl
  | false =>
    rw [tb_f, tp_pos (by omega), tp_pos (by rw [List.length_map]; omega), tp_pos (by omega), tp_pos ⟨exs_len _, by omega⟩]
    simp [mkx, List.take_take]
theorem pLay_B3_eq (lba0 : Int) (b0 : List UInt8) (c : Bool) (n : Int) (b' : List UInt8) (out : List Ex) (bc : List UInt8) (lba : Int) (h1 : 0 ≤ n) (h2 : n ≤ 64) (h3 : 32 * n ≤ bc.length) (h4 : 0 ≤ lba) (h5 : lba ≤ 64) (h6 : out.length ≤ 64) :
    pLay_B3 lba0 b0 (c, n, b', out, bc, lba) = some (out ++ [mkx lba bc c n], bc.drop (32 * n).toNat, lba + n) := pLay_B1_eq lba0 b0 c n b' out bc lba h1 h2 h3 h4 h5 h6
theorem pLay_eq (lba : Int) (b : List UInt8) (hb : b.length ≤ 4294967000) : pLay lba b = some (lay lba b) := by
  unfold pLay lay
  simp only [tb_bne, tb_dec, tdiv32]
  by_cases hm : b.length % 32 = 0
  case neg => rw [if_neg (fun h => hm ((tmod32 _).1 h)), if_neg fun h => hm h.1]
  rw [if_pos ((tmod32 _).2 hm)]
  by_cases h1 : lba < 0
  case pos => rw [if_pos h1, if_neg fun h => by have := h.2.1; omega]
  by_cases h2 : lba > 64
  case pos => rw [if_neg h1, if_pos h2, if_neg fun h => by have := h.2.2.1; omega]
  rw [if_neg h1, if_neg h2, wr_id (x := 64 - lba) (by omega) (by omega), wr_id (x := (b.length : Int) / 32) (by omega) (by omega)]
  by_cases h3 : (b.length : Int) / 32 > 64 - lba
  case pos => rw [if_pos h3, if_neg fun h => by have := h.2.2.2; omega]
  rw [if_neg h3, if_pos ⟨hm, by omega, by omega, by omega⟩]
  rw [th_rec (fun s : Bool × Int × List UInt8 × List Ex × List UInt8 × Int => some (s.2.2.2.1 ++ ly s.2.2.2.2.2 s.2.2.2.2.1 s.1 s.2.1 (flags s.2.2.1), (0 : Int)))
    (fun s => 0 ≤ s.2.1 ∧ (s.2.2.2.2.1.length : Int) = 32 * s.2.1 + s.2.2.1.length ∧ 0 ≤ s.2.2.2.2.2 ∧ s.2.2.2.2.2 + s.2.1 + (s.2.2.1.length : Int) / 32 ≤ 64 ∧ (s.2.2.2.1.length : Int) ≤ s.2.2.2.2.2) (fun s => s.2.2.1.length)]
  · simp
  · exact ⟨by simp, by simp, by simp only; omega, by simp only; omega, by simp only [List.length_nil]; omega⟩
  rintro ⟨c, n, b', out, bc, lb⟩ ⟨i1, i2, i3, i4, i5⟩
  simp only at i1 i2 i3 i4 i5 ⊢
  unfold pLay_L0_step
  rw [pLay_B1_eq _ _ _ _ _ _ _ _ i1 (by omega) (by omega) i3 (by omega) (by omega), pLay_B3_eq _ _ _ _ _ _ _ _ i1 (by omega) (by omega) i3 (by omega) (by omega)]
  simp only [tb_dec, zb_eq, rest_eq, tc_some]
  have hw : wr (n + 1) = n + 1 := wr_id (by omega) (by omega)
  rw [hw]
  by_cases hl : (b'.length : Int) ≥ 32
  · left
    have hzb : (pad 32 b' == List.replicate 32 (UInt8.ofNat 0)) = zb (b'.take 32) := by
      unfold zb pad; rw [List.take_append_of_le_length (by omega)]; rfl
    rw [if_pos hl]
    simp only [hzb]
    have hf := flags_cons (b := b') (by omega)
    have hdl : (b'.drop 32).length = b'.length - 32 := List.length_drop
    rw [hf]
    by_cases hz : zb (b'.take 32) = c
    · have e1 : (!(zb (b'.take 32) == c)) = false := by rw [hz]; simp
      rw [e1, tb_f]
      refine ⟨_, rfl, ⟨by simp only; omega, by simp only [hdl]; omega, i3, by simp only [hdl]; omega, i5⟩, by simp only [hdl]; omega, ?_⟩
      simp only [ly]
      rw [if_pos hz, hz]
    · have e1 : (!(zb (b'.take 32) == c)) = true := by simp [hz]
      rw [e1, tb_t]
      by_cases hn : n > 0
      · rw [if_pos hn]
        refine ⟨_, rfl, ⟨by simp, by simp only [hdl, List.length_drop]; omega, by simp only; omega, by simp only [hdl]; omega, by simp only [List.length_append, List.length_singleton]; omega⟩, by simp only [hdl]; omega, ?_⟩
        simp only [ly]
        rw [if_neg hz, if_neg (show ¬ n = 0 by omega)]
        simp
      · rw [if_neg hn]
        have hn0 : n = 0 := by omega
        subst hn0
        refine ⟨_, rfl, ⟨by simp, by simp only [hdl]; omega, i3, by simp only [hdl]; omega, i5⟩, by simp only [hdl]; omega, ?_⟩
        simp only [ly]
        rw [if_neg hz, if_pos trivial]
        rfl
  · right
    rw [if_neg hl, if_neg hl, flags_nil (b := b') (by omega)]
    refine ⟨rfl, ?_⟩
    simp only [ly]
    by_cases hn : n > 0
    · rw [if_pos hn, tp_pos (by first | exact ⟨rfl, exs_len _⟩ | exact ⟨trivial, exs_len _⟩), if_neg (show ¬ n = 0 by omega)]
    · rw [if_neg hn, tp_pos (by first | exact ⟨rfl, exs_len _⟩ | exact ⟨trivial, exs_len _⟩), if_pos (show n = 0 by omega), List.append_nil]
/-- The same, out of runs. -/
def lr : Int → List UInt8 → Bool → List Int → List Ex
  | _, _, _, [] => []
  | lba, b, c, n :: ns => if n = 0 then lr lba b (!c) ns else mkx lba b c n :: lr (lba + n) (b.drop (32 * n).toNat) (!c) ns
theorem lr_rn : ∀ (zs : List Bool) (lba : Int) (b : List UInt8) (c : Bool) (n : Int), lr lba b c (rn c n zs) = ly lba b c n zs
  | [], lba, b, c, n => by simp only [rn, lr, ly]
  | z :: zs, lba, b, c, n => by
    simp only [rn, ly]
    by_cases hz : z = c
    · rw [if_pos hz, if_pos hz, lr_rn zs]
    · have hzc : (!c) = z := by cases z <;> cases c <;> simp_all
      rw [if_neg hz, if_neg hz]
      simp only [lr]
      rw [hzc, lr_rn zs, lr_rn zs]
theorem lr_runs (lba : Int) (b : List UInt8) (zs : List Bool) : lr lba b false (Ab.runs zs) = ly lba b false 0 zs := by
  unfold Ab.runs
  split
  · rename_i h; subst h; simp [lr, ly]
  · exact lr_rn zs lba b false 0
theorem runs_tot (b : List UInt8) : (sm (Ab.runs (flags b))).1 + (sm (Ab.runs (flags b))).2 = (b.length : Int) / 32 := by
  have h1 := sm_runs (flags b)
  have h2 := cnt_both (flags b)
  have h3 : (flags b).length = b.length / 32 := fl_length _ _
  rw [h1]; simp only; omega
theorem runs_nn (zs : List Bool) : ∀ x ∈ Ab.runs zs, 0 ≤ x := by
  unfold Ab.runs
  split
  · simp
  · exact rn_pos zs false 0 (by omega)
theorem runs_ln (b : List UInt8) : (Ab.runs (flags b)).length ≤ b.length / 32 + 1 := by
  have h3 : (flags b).length = b.length / 32 := fl_length _ _
  unfold Ab.runs
  split
  · simp
  · have := rn_lenb (flags b) false 0; omega
theorem rLay_eq (lba : Int) (b : List UInt8) (hb : b.length ≤ 4294967000) : rLay lba b = some (lay lba b) := by
  unfold rLay lay
  rw [rSplit_eq b hb, tc_some]
  by_cases hm : b.length % 32 = 0
  case neg => rw [if_neg hm, if_neg fun h => hm h.1]; rfl
  rw [if_pos hm]
  simp only [tb_bne, tb_dec, tdiv32, if_true]
  by_cases h1 : lba < 0
  case pos => rw [if_pos h1, if_neg fun h => by have := h.2.1; omega]
  by_cases h2 : lba > 64
  case pos => rw [if_neg h1, if_pos h2, if_neg fun h => by have := h.2.2.1; omega]
  rw [if_neg h1, if_neg h2, wr_id (x := 64 - lba) (by omega) (by omega), wr_id (x := (b.length : Int) / 32) (by omega) (by omega)]
  by_cases h3 : (b.length : Int) / 32 > 64 - lba
  case pos => rw [if_pos h3, if_neg fun h => by have := h.2.2.2; omega]
  rw [if_neg h3, if_pos ⟨hm, by omega, by omega, by omega⟩]
  have ht := runs_tot b
  have hnn := runs_nn (flags b)
  have hln := runs_ln b
  rw [← lr_runs]
  generalize Ab.runs (flags b) = rs at ht hnn hln ⊢
  rw [th_rec (fun s : Int × List Ex × Int => some (s.2.1 ++ lr (lba + s.2.2) (b.drop (32 * s.2.2).toNat) (decide (s.1 % 2 = 1)) (rs.drop s.1.toNat), (0 : Int)))
    (fun s => 0 ≤ s.1 ∧ s.1 ≤ rs.length ∧ 0 ≤ s.2.2 ∧ s.2.2 + ((sm (rs.drop s.1.toNat)).1 + (sm (rs.drop s.1.toNat)).2) = (b.length : Int) / 32 ∧ (s.2.1.length : Int) ≤ s.1) (fun s => (rs.length - s.1).toNat)]
  · simp
  · exact ⟨by simp, by simp, by simp, by simpa using ht, by simp⟩
  rintro ⟨i, out, at_⟩ ⟨i1, i2, i3, i4, i5⟩
  simp only at i1 i2 i3 i4 i5 ⊢
  unfold rLay_L0_step
  simp only [tb_dec, tb_beq, Nat.mul_one]
  by_cases hi : i < (rs.length : Int)
  · left
    have e := drop_at 0 rs i.toNat (by omega)
    have hx := hnn (rs.getD i.toNat 0) (List.mem_of_mem_drop (i := i.toNat) (by rw [e]; simp))
    have htl := sm_pos (rs.drop (i.toNat + 1)) fun y hy => hnn y (List.mem_of_mem_drop hy)
    rw [e] at i4
    simp only [sm] at i4
    have hi1 : wr (i + 1) = i + 1 := wr_id (by omega) (by omega)
    have ht1 : (i + 1).toNat = i.toNat + 1 := by omega
    have hpar : decide ((i + 1) % 2 = 1) = !decide (i % 2 = 1) := by
      rw [Bool.eq_iff_iff]; simp; omega
    have htm : (Int.tmod i 2 = 0) ↔ i % 2 = 0 := by rw [Int.tmod_eq_emod_of_nonneg i1]
    rw [if_pos hi, tp_pos ⟨i1, hi⟩, hi1, e]
    generalize rs.getD i.toNat 0 = n at hx i4 ⊢
    generalize hT : rs.drop (i.toNat + 1) = tl at htl i4 ⊢
    by_cases hn : n = 0
    · subst hn
      rw [if_pos rfl]
      refine ⟨_, rfl, ⟨by simp only; omega, by simp only; omega, i3, by simp only [ht1, hT]; omega, by simp only; omega⟩, by simp only; omega, ?_⟩
      simp only [ht1, hT, hpar, lr, if_true]
    · rw [if_neg hn]
      have w1 : wr (32 * at_) = 32 * at_ := wr_id (by omega) (by omega)
      have w2 : wr (at_ + n) = at_ + n := wr_id (by omega) (by omega)
      have w3 : wr (32 * (at_ + n)) = 32 * (at_ + n) := wr_id (by omega) (by omega)
      have w4 : wr (lba + at_) = lba + at_ := wr_id (by omega) (by omega)
      rw [w1, w2, w3, w4]
      have hdd : List.drop (32 * n).toNat (List.drop (32 * at_).toNat b) = List.drop (32 * (at_ + n)).toNat b := by
        rw [List.drop_drop, show (32 * at_).toNat + (32 * n).toNat = (32 * (at_ + n)).toNat by omega]
      by_cases hp : i % 2 = 0
      · rw [if_pos (htm.2 hp), tp_pos (by omega), tp_pos (by omega), tp_pos (by rw [List.length_map]; omega), tp_pos (by omega), tp_pos ⟨exs_len _, by omega⟩]
        refine ⟨_, rfl, ⟨by simp only; omega, by simp only; omega, by simp only; omega, by simp only [ht1, hT]; omega, by simp only [List.length_append, List.length_singleton]; omega⟩, by simp only; omega, ?_⟩
        have hc : decide (i % 2 = 1) = false := by rw [decide_eq_false_iff_not]; omega
        simp only [ht1, hT, hpar, hc, lr]
        rw [if_neg hn, hdd, show lba + (at_ + n) = lba + at_ + n by omega]
        simp only [mkx, Bool.false_eq_true, if_false, List.append_assoc, List.singleton_append]
        rw [List.take_take, Nat.min_self, show (32 * (at_ + n)).toNat - (32 * at_).toNat = (32 * n).toNat by omega]
      · rw [if_neg (fun h => hp (htm.1 h)), tp_pos ⟨exs_len _, by omega⟩]
        refine ⟨_, rfl, ⟨by simp only; omega, by simp only; omega, by simp only; omega, by simp only [ht1, hT]; omega, by simp only [List.length_append, List.length_singleton]; omega⟩, by simp only; omega, ?_⟩
        have hc : decide (i % 2 = 1) = true := by rw [decide_eq_true_iff]; omega
        simp only [ht1, hT, hpar, hc, lr]
        rw [if_neg hn, hdd, show lba + (at_ + n) = lba + at_ + n by omega]
        simp only [mkx, if_true, List.append_assoc, List.singleton_append]
  · right
    rw [if_neg hi, if_neg hi]
    refine ⟨rfl, ?_⟩
    rw [List.drop_of_length_le (l := rs) (i := i.toNat) (by omega), tp_pos (by first | exact ⟨rfl, exs_len _⟩ | exact ⟨trivial, exs_len _⟩)]
    simp [lr]
end Ab
end Go.Proofs.Ytpflcogplhigcaa
namespace Go.Proofs.Ytpflcogplhigcaa
open Go Go.Proofs.Ytpflcogplhigcaa.Ab
set_option linter.unusedVariables false
set_option linter.unusedSimpArgs false
namespace Ab
def jnx (a b : Ex) : Ex := ⟨a.lba, a.len + b.len, a.kind, a.gen, a.d ++ b.d⟩
def jnv (a b : Ex) : Ex × Int := if Jn a b then (jnx a b, 0) else (⟨0, 0, 0, 0, []⟩, 70)
theorem ck_dlen {x : Ex} (h : Ck x) : x.d.length ≤ 2048 := by
  unfold Ck at h
  by_cases hk : x.kind = 2
  · have := h.2.2.2.2.2.2.2.2.1 hk; omega
  · have := h.2.2.2.2.2.2.2.2.2 hk; rw [this]; simp
theorem eJoin_eq (a b : Ex) : eJoin a b = some (jnv a b) := by
  unfold eJoin jnv
  rw [eJoins_eq, tc_some, tb_not]
  by_cases h : Jn a b
  case neg => rw [jn_f h, tb_f, if_neg h]
  have ha := ck_dlen h.1
  have hb := ck_dlen h.2.1
  have ca := h.1
  have cb := h.2.1
  unfold Ck at ca cb
  rw [jn_t h, tb_t, if_pos h, wr_id (by omega) (by omega), tp_pos (by omega), tp_pos (by rw [List.length_map]; omega)]
  rfl
/-- Behind others: joined with the last one, if it goes on it. -/
def add (out : List Ex) (y : Ex) : List Ex := if out ≠ [] ∧ Jn (out.getLastD ⟨0, 0, 0, 0, []⟩) y then out.dropLast ++ [jnx (out.getLastD ⟨0, 0, 0, 0, []⟩) y] else out ++ [y]
theorem add_nil (y : Ex) : add [] y = [y] := by unfold add; simp
theorem add_jn {out : List Ex} {y : Ex} (h0 : out ≠ []) (h : Jn (out.getLastD ⟨0, 0, 0, 0, []⟩) y) : add out y = out.dropLast ++ [jnx (out.getLastD ⟨0, 0, 0, 0, []⟩) y] := by unfold add; rw [if_pos ⟨h0, h⟩]
theorem add_no {out : List Ex} {y : Ex} (h : ¬ Jn (out.getLastD ⟨0, 0, 0, 0, []⟩) y) : add out y = out ++ [y] := by unfold add; rw [if_neg fun g => h g.2]
theorem add_len (out : List Ex) (y : Ex) : (add out y).length ≤ out.length + 1 := by
  unfold add
  split
  · first | (simp; done) | (simp; omega)
  · simp
theorem adds_len : ∀ (ys out : List Ex), (ys.foldl add out).length ≤ out.length + ys.length
  | [], out => by simp
  | y :: ys, out => by
    have := adds_len ys (add out y)
    have := add_len out y
    simp only [List.foldl_cons, List.length_cons]; omega
theorem last_at (out : List Ex) (h : out ≠ []) (k : Nat) (hk : k = out.length - 1) : exAt out k = out.getLastD ⟨0, 0, 0, 0, []⟩ := by
  subst hk
  have : 0 < out.length := List.length_pos_iff.2 h
  unfold exAt
  rw [List.getD_eq_getElem?_getD, List.getLastD_eq_getLast?, List.getLast?_eq_getElem?]
theorem set_last_ex (out : List Ex) (h : out ≠ []) (k : Nat) (hk : k = out.length - 1) (v : Ex) : out.set k v = out.dropLast ++ [v] := by
  subst hk
  have e : out = out.dropLast ++ [out.getLast h] := (List.dropLast_concat_getLast h).symm
  have hl : out.length - 1 = out.dropLast.length := by simp
  rw [hl]
  conv => lhs; rw [e]
  rw [List.set_append_right _ _ (by simp)]
  simp
end Ab
end Go.Proofs.Ytpflcogplhigcaa
namespace Go.Proofs.Ytpflcogplhigcaa
open Go Go.Proofs.Ytpflcogplhigcaa.Ab
set_option linter.unusedVariables false
set_option linter.unusedSimpArgs false
namespace Ab
theorem r7Copy_eq (x : Ex) (h : x.d.length ≤ 4294967295) : r7Copy x = some x := by
  unfold r7Copy
  first
    | (rw [tp_pos (by first | omega | (simp; omega))])
    | (rw [tp_pos (by first | omega | (simp; omega)), tp_pos (by first | omega | (simp; omega))])
theorem r7Join_eq (a b : Ex) : r7Join a b = some (jnv a b) := by
  unfold r7Join jnv
  rw [r7Joins_eq, tc_some, tb_not]
  by_cases h : Jn a b
  case neg => rw [jn_f h, tb_f, if_neg h]
  have ha := ck_dlen h.1
  have hb := ck_dlen h.2.1
  have ca := h.1
  have cb := h.2.1
  unfold Ck at ca cb
  rw [jn_t h, tb_t, if_pos h, r7Copy_eq a (by omega), tc_some, wr_id (by omega) (by omega), tp_pos (by rw [List.length_map]; omega)]
  rfl
theorem ly_len : ∀ (zs : List Bool) (lba : Int) (b : List UInt8) (c : Bool) (n : Int), (ly lba b c n zs).length ≤ zs.length + 1
  | [], lba, b, c, n => by simp only [ly]; split <;> simp
  | z :: zs, lba, b, c, n => by
    simp only [ly]
    have h1 := ly_len zs lba b c (n + 1)
    have h2 := ly_len zs lba b z 1
    have h3 := ly_len zs (lba + n) (b.drop (32 * n).toNat) z 1
    split
    · simp only [List.length_cons]; omega
    · split
      · simp only [List.length_cons]; omega
      · simp only [List.length_cons]; omega
def sg (g : Int) (x : Ex) : Ex := ⟨x.lba, x.len, x.kind, g, x.d⟩
/-- An extent, zeros in its data told apart. -/
def told (x : Ex) : List Ex := if x.kind = 2 then (ly x.lba x.d false 0 (flags x.d)).map (sg x.gen) else [⟨x.lba, x.len, x.kind, x.gen, []⟩]
theorem ck_lo {x : Ex} (h : Ck x) (hk : x.kind = 2) : Lo x.lba x.d := by
  unfold Ck at h
  have := h.2.2.2.2.2.2.2.2.1 hk
  exact ⟨by omega, h.1, h.2.1, by omega⟩
theorem told_len {x : Ex} (h : Ck x) : (told x).length ≤ 65 := by
  unfold told
  split
  · have h1 := ly_len (flags x.d) x.lba x.d false 0
    have h2 : (flags x.d).length = x.d.length / 32 := fl_length _ _
    have h3 := ck_dlen h
    rw [List.length_map]; omega
  · simp
theorem map_set (f : Ex → Ex) (l : List Ex) (i : Nat) (hi : i < l.length) : ((l.take i).map f ++ l.drop i).set i (f (exAt l i)) = (l.take (i + 1)).map f ++ l.drop (i + 1) := by
  have h1 : l.drop i = exAt l i :: l.drop (i + 1) := by unfold exAt; exact drop_at _ l i hi
  have h2 : l.take (i + 1) = l.take i ++ [exAt l i] := by unfold exAt; exact take_at _ l i hi
  have hl : ((l.take i).map f).length = i := by simp; omega
  rw [List.set_append_right _ _ (by omega), hl, Nat.sub_self, h1, h2]
  simp
theorem map_at (f : Ex → Ex) (l : List Ex) (i : Nat) (hi : i < l.length) : exAt ((l.take i).map f ++ l.drop i) i = exAt l i := by
  have hl : ((l.take i).map f).length = i := by simp; omega
  unfold exAt
  rw [List.getD_eq_getElem?_getD, List.getElem?_append_right (by omega), hl, Nat.sub_self, drop_at ⟨0, 0, 0, 0, []⟩ l i hi]
  rfl
theorem pTold_eq (x : Ex) (h : Ck x) : pTold x = some (told x) := by
  unfold pTold told
  rw [tb_bne]
  by_cases hk : x.kind = 2
  case neg => rw [if_neg hk, if_neg hk]
  rw [if_pos hk, if_pos hk, pLay_eq _ _ (by have := ck_dlen h; omega), tc_some]
  have hlay : lay x.lba x.d = (ly x.lba x.d false 0 (flags x.d), 0) := if_pos (ck_lo h hk)
  rw [hlay]
  have h1 := ly_len (flags x.d) x.lba x.d false 0
  have h2 : (flags x.d).length = x.d.length / 32 := fl_length _ _
  have h3 := ck_dlen h
  generalize ly x.lba x.d false 0 (flags x.d) = l at h1 ⊢
  have hS := fun f => th_run (α := List Ex) (f := f) (step := pTold_L0_step x (l, 0)) (fun i => ((i : Int), (l.take i).map (sg x.gen) ++ l.drop i)) l.length (fun i hi => ?_) ?_
  · simp only [List.take_zero, List.map_nil, List.nil_append, List.drop_zero, Int.natCast_zero] at hS
    rw [hS]
    simp only [tb_dec]
    rw [if_neg (by omega), tp_pos (by first | exact ⟨rfl, by rw [exs_len]; simp⟩ | exact ⟨trivial, by rw [exs_len]; simp⟩)]
    simp
  · unfold pTold_L0_step
    simp only [tb_dec, Int.toNat_natCast]
    have hlen : ((l.take i).map (sg x.gen) ++ l.drop i).length = l.length := by simp; omega
    rw [if_pos (by omega), tp_pos (by omega), tp_pos ⟨rfl, by rw [exs_len, hlen]; simp; omega⟩, wr_id (by omega) (by omega), map_at _ _ _ hi]
    have e := map_set (sg x.gen) l i hi
    unfold sg at e ⊢
    rw [e]
    simp
  · unfold pTold_L0_step
    simp only [tb_dec]
    rw [if_neg (by omega)]
end Ab
end Go.Proofs.Ytpflcogplhigcaa
namespace Go.Proofs.Ytpflcogplhigcaa
open Go Go.Proofs.Ytpflcogplhigcaa.Ab
set_option linter.unusedVariables false
set_option linter.unusedSimpArgs false
namespace Ab
/-- A loop that asks something of each place, with a state of its own. -/
theorem th_firstZ {σ α : Type} {step : σ → Option σ} {f : σ → Option α} (r1 r2 : Option α) (S : Nat → σ) (n : Nat) (P : Nat → Prop) (Q : Prop) [Decidable Q] (hQ : (∀ i, i < n → P i) ↔ Q)
    (hs : ∀ i : Nat, i < n → (∀ j, j < i → P j) → P i → step (S i) = some (S (i + 1))) (hf : ∀ i : Nat, i < n → (∀ j, j < i → P j) → ¬ P i → step (S i) = none ∧ f (S i) = r1) (he : (∀ j, j < n → P j) → step (S n) = none ∧ f (S n) = r2) :
    th step (S 0) f = if Q then r2 else r1 := by
  by_cases h : ∀ i, i < n → P i
  · rw [if_pos (hQ.1 h), th_run (step := step) (f := f) S n (fun i hi => hs i hi (fun j hj => h j (by omega)) (h i hi)) (he h).1]
    exact (he h).2
  · rw [if_neg (fun g => h (hQ.2 g))]
    have hex : ∃ i, i < n ∧ ¬ P i := Classical.byContradiction fun hn => h fun i hi => Classical.byContradiction fun hp => hn ⟨i, hi, hp⟩
    have key : ∀ k, (∃ i, i < k ∧ i < n ∧ ¬ P i) → ∃ i, i < n ∧ ¬ P i ∧ ∀ j, j < i → P j := by
      intro k
      induction k with
      | zero => rintro ⟨i, hi, _⟩; omega
      | succ k ih =>
        rintro ⟨i, h1, h2, h3⟩
        by_cases hk : ∃ i, i < k ∧ i < n ∧ ¬ P i
        · exact ih hk
        · have hik : i = k := by
            rcases Nat.lt_or_ge i k with g | g
            · exact absurd ⟨i, g, h2, h3⟩ hk
            · omega
          refine ⟨i, h2, h3, fun j hj => ?_⟩
          exact Classical.byContradiction fun hp => hk ⟨j, by omega, by omega, hp⟩
    obtain ⟨i, h1, h2⟩ := hex
    obtain ⟨k, k1, k2, k3⟩ := key (i + 1) ⟨i, by omega, h1, h2⟩
    rw [th_run (step := step) (f := f) S k (fun i hi => hs i (by omega) (fun j hj => k3 j (by omega)) (k3 i hi)) (hf k k1 k3 k2).1]
    exact (hf k k1 k3 k2).2
def atp (l : List Ex) (i : Nat) : Int := if i = 0 then 0 else (exAt l (i - 1)).lba + (exAt l (i - 1)).len
theorem atp_succ (l : List Ex) (i : Nat) : atp l (i + 1) = (exAt l i).lba + (exAt l i).len := by unfold atp; rw [if_neg (by omega)]; rfl
def LP (l : List Ex) (i : Nat) : Prop := Ck (exAt l i) ∧ atp l i ≤ (exAt l i).lba
instance (l : List Ex) (i : Nat) : Decidable (LP l i) := by unfold LP; infer_instance
/-- Extents that may be, one behind the other. -/
def Ls (l : List Ex) : Prop := l.length ≤ 64 ∧ ∀ i, i < l.length → LP l i
instance (l : List Ex) : Decidable (Ls l) := by unfold Ls; infer_instance
theorem r10List_eq (l : List Ex) : r10List l = some (decide (Ls l)) := by
  unfold r10List
  rw [tb_dec]
  by_cases hl : (l.length : Int) > 64
  · rw [if_pos hl, decide_eq_false fun h => by have := h.1; omega]
  rw [if_neg hl]
  have := th_firstZ (α := Bool) (step := r10List_L0_step l) (some false) (some true) (fun i => (atp l i, (i : Int))) l.length (LP l) (∀ i, i < l.length → LP l i) Iff.rfl (fun i hi hpre hp => ?_) (f := fun s1 => tb (decide (s1.2 < (l.length : Int))) (tp ((0 : Int) ≤ s1.2 ∧ s1.2 < (l.length : Int)) (tc (r7Check (exAt l s1.2.toNat)) fun s4 => tb (!s4) (some false) (tb (decide ((exAt l s1.2.toNat).lba < s1.1)) (some false) none))) (some true)) (fun i hi hpre hp => ?_) (fun hall => ?_)
  · have e0 : atp l 0 = 0 := rfl
    simp only [e0, Int.natCast_zero] at this
    rw [this]
    by_cases h : ∀ i, i < l.length → LP l i
    · rw [if_pos h, decide_eq_true (show Ls l from ⟨by omega, h⟩)]
    · rw [if_neg h, decide_eq_false fun g => h g.2]
  · have hc := hp.1
    have hb := hp.2
    unfold r10List_L0_step
    simp only [tb_dec, tb_not, r7Check_eq, tc_some, Int.toNat_natCast]
    unfold Ck at hc
    rw [if_pos (by omega), tp_pos (by omega), ck_t hp.1, tb_t, if_neg (by omega), wr_id (by omega) (by omega), wr_id (by omega) (by omega), atp_succ]
    simp
  · unfold r10List_L0_step
    simp only [tb_dec, tb_not, r7Check_eq, tc_some, Int.toNat_natCast]
    by_cases hc : Ck (exAt l i)
    case neg => refine ⟨?_, ?_⟩ <;> (rw [if_pos (by omega), tp_pos (by omega), ck_f hc]; rfl)
    have hlt : (exAt l i).lba < atp l i := by
      rcases Int.lt_or_le (exAt l i).lba (atp l i) with g | g
      · exact g
      · exact absurd ⟨hc, g⟩ hp
    refine ⟨?_, ?_⟩ <;> (rw [if_pos (by omega), tp_pos (by omega), ck_t hc, tb_t, if_pos hlt])
  · unfold r10List_L0_step
    simp only [tb_dec]
    rw [if_neg (by omega), if_neg (by omega)]
    exact ⟨rfl, rfl⟩
theorem fold_take (l : List Ex) (out : List Ex) (i : Nat) (hi : i < l.length) : (l.take (i + 1)).foldl add out = add ((l.take i).foldl add out) (exAt l i) := by
  have h2 : l.take (i + 1) = l.take i ++ [exAt l i] := by unfold exAt; exact take_at _ l i hi
  rw [h2, List.foldl_append]; rfl
theorem pPack_L1_step_eq (l : List Ex) (s1 : List Ex × Int × Int) (s4 : Bool) (s7 : List Ex) (out : List Ex) (i : Nat) (hi : i < s7.length) (h7 : s7.length ≤ 4294967296) (ho : out.length + 1 ≤ 4294967296) :
    pPack_L1_step l s1 s4 s7 ((i : Int), [], out) = some ((i : Int) + 1, [], add out (exAt s7 i)) := by
  unfold pPack_L1_step
  simp only [tb_dec, tb_beq, Int.toNat_natCast]
  rw [if_pos (by omega), tp_pos (by omega), wr_id (x := (i : Int) + 1) (by omega) (by omega)]
  by_cases h0 : out = []
  · subst h0
    rw [if_neg (by simp), tp_pos ⟨by simp, by simp⟩, add_nil]; rfl
  · have hl : 0 < out.length := List.length_pos_iff.2 h0
    have hw : wr ((out.length : Int) - 1) = ((out.length - 1 : Nat) : Int) := by rw [wr_id (by omega) (by omega)]; omega
    rw [if_pos (by omega), hw, tp_pos (by omega), Int.toNat_natCast, last_at out h0 _ rfl, eJoin_eq, tc_some]
    by_cases hj : Jn (out.getLastD ⟨0, 0, 0, 0, []⟩) (exAt s7 i)
    · have e : jnv (out.getLastD ⟨0, 0, 0, 0, []⟩) (exAt s7 i) = (jnx (out.getLastD ⟨0, 0, 0, 0, []⟩) (exAt s7 i), 0) := if_pos hj
      rw [e, if_pos rfl, tp_pos ⟨rfl, by rw [exs_len]; simp; omega⟩, add_jn h0 hj, set_last_ex out h0 _ rfl]
    · have e : jnv (out.getLastD ⟨0, 0, 0, 0, []⟩) (exAt s7 i) = (⟨0, 0, 0, 0, []⟩, 70) := if_neg hj
      rw [e, if_neg (by simp), tp_pos ⟨exs_len _, ho⟩, add_no hj]
theorem pPack_L1_eq {α : Type} (l : List Ex) (s1 : List Ex × Int × Int) (s4 : Bool) (s7 : List Ex) (out : List Ex) (f : Int × List Ex × List Ex → Option α) (h7 : s7.length ≤ 1000000) (ho : out.length ≤ 1000000) :
    th (pPack_L1_step l s1 s4 s7) (0, [], out) f = f ((s7.length : Int), [], s7.foldl add out) := by
  have := th_run (f := f) (step := pPack_L1_step l s1 s4 s7) (fun i => ((i : Int), ([] : List Ex), (s7.take i).foldl add out)) s7.length (fun i hi => ?_) ?_
  · simpa using this
  · have hb := adds_len (s7.take i) out
    rw [List.length_take] at hb
    rw [pPack_L1_step_eq _ _ _ _ _ _ hi (by omega) (by omega), fold_take _ _ _ hi]
    simp
  · unfold pPack_L1_step
    simp only [tb_dec]
    rw [if_neg (by omega)]
theorem tolds_len : ∀ (l : List Ex), (∀ x ∈ l, Ck x) → (l.flatMap told).length ≤ 65 * l.length
  | [], _ => by simp
  | x :: l, h => by
    have h1 := told_len (h x (by simp))
    have h2 := tolds_len l fun y hy => h y (by simp [hy])
    rw [List.flatMap_cons, List.length_append, List.length_cons]; omega
theorem lp_ck {l : List Ex} {i : Nat} (hi : i ≤ l.length) (h : ∀ j, j < i → LP l j) : ∀ x ∈ l.take i, Ck x := by
  intro x hx
  obtain ⟨j, hj, e⟩ := List.getElem_of_mem hx
  rw [List.length_take] at hj
  have := (h j (by omega)).1
  rw [List.getElem_take] at e
  rw [← e]
  have e2 : exAt l j = l[j]'(by omega) := by unfold exAt; simp [show j < l.length by omega]
  rw [← e2]; exact this
/-- Extents packed. -/
def pk (l : List Ex) : List Ex × Int := if Ls l then ((l.flatMap told).foldl add [], 0) else ([], 70)
theorem flat_take (l : List Ex) (i : Nat) (hi : i < l.length) : (l.take (i + 1)).flatMap told = (l.take i).flatMap told ++ told (exAt l i) := by
  have h2 : l.take (i + 1) = l.take i ++ [exAt l i] := by unfold exAt; exact take_at _ l i hi
  rw [h2, List.flatMap_append]; simp
theorem pPack_eq (l : List Ex) : pPack l = some (pk l) := by
  unfold pPack pk
  rw [tb_dec]
  by_cases hl : (l.length : Int) > 64
  · rw [if_pos hl, if_neg fun h => by have := h.1; omega]
  rw [if_neg hl]
  have := th_firstZ (α := List Ex × Int) (step := pPack_L0_step l) (some ([], 70)) (some ((l.flatMap told).foldl add [], 0)) (fun i => (((l.take i).flatMap told).foldl add [], atp l i, (i : Int))) l.length (LP l) (∀ i, i < l.length → LP l i) Iff.rfl (fun i hi hpre hp => ?_) (f := fun s1 => tb (decide (s1.2.2 < (l.length : Int))) (tp ((0 : Int) ≤ s1.2.2 ∧ s1.2.2 < (l.length : Int)) (tc (eCheck (exAt l s1.2.2.toNat)) fun s4 => tb (!s4) (some ([], 70)) (tb (decide ((exAt l s1.2.2.toNat).lba < s1.2.1)) (some ([], 70)) none))) (tp ((0 : Nat) = (0 : Nat) ∧ (List.flatMap Ex.cells s1.1).length = s1.1.length * (5 : Nat)) (some (s1.1, 0)))) (fun i hi hpre hp => ?_) (fun hall => ?_)
  · refine this.trans ?_
    by_cases h : ∀ i, i < l.length → LP l i
    · rw [if_pos h, if_pos ⟨by omega, h⟩]
    · rw [if_neg h, if_neg fun g => h g.2]
  · have hc := hp.1
    have hb := hp.2
    have hbd := tolds_len _ (lp_ck (by omega) hpre)
    have hbd2 := adds_len ((l.take i).flatMap told) []
    have hbd3 := told_len hc
    rw [List.length_take] at hbd
    simp only [List.length_nil, Nat.zero_add] at hbd2
    unfold pPack_L0_step
    simp only [tb_dec, tb_not, eCheck_eq, tc_some, Int.toNat_natCast]
    unfold Ck at hc
    rw [if_pos (by omega), tp_pos (by omega), ck_t hp.1, tb_t, if_neg (by omega), pTold_eq _ hp.1, tc_some, pPack_L1_eq _ _ _ _ _ _ (by omega) (by omega)]
    simp only
    rw [if_neg (by omega), wr_id (by omega) (by omega), wr_id (by omega) (by omega), atp_succ, flat_take _ _ hi, List.foldl_append]
    simp
  · unfold pPack_L0_step
    simp only [tb_dec, tb_not, eCheck_eq, tc_some, Int.toNat_natCast]
    by_cases hc : Ck (exAt l i)
    case neg => refine ⟨?_, ?_⟩ <;> (rw [if_pos (by omega), tp_pos (by omega), ck_f hc]; rfl)
    have hlt : (exAt l i).lba < atp l i := by
      rcases Int.lt_or_le (exAt l i).lba (atp l i) with g | g
      · exact g
      · exact absurd ⟨hc, g⟩ hp
    refine ⟨?_, ?_⟩ <;> (rw [if_pos (by omega), tp_pos (by omega), ck_t hc, tb_t, if_pos hlt])
  · unfold pPack_L0_step
    simp only [tb_dec]
    rw [if_neg (by omega), if_neg (by omega), List.take_length, tp_pos (by first | exact ⟨rfl, exs_len _⟩ | exact ⟨trivial, exs_len _⟩)]
    exact ⟨rfl, rfl⟩
end Ab
end Go.Proofs.Ytpflcogplhigcaa
namespace Go.Proofs.Ytpflcogplhigcaa
open Go Go.Proofs.Ytpflcogplhigcaa.Ab
set_option linter.unusedVariables false
set_option linter.unusedSimpArgs false
namespace Ab
/-- The bytes of an extent. -/
def eb (x : Ex) : List UInt8 := if x.kind = 2 then x.d else List.replicate (32 * x.len).toNat 0
theorem eb_len {x : Ex} (h : Ck x) : ((eb x).length : Int) = 32 * x.len := by
  unfold eb
  unfold Ck at h
  split
  · rename_i hk; exact h.2.2.2.2.2.2.2.2.1 hk
  · rw [List.length_replicate]; omega
end Ab
end Go.Proofs.Ytpflcogplhigcaa
namespace Go.Proofs.Ytpflcogplhigcaa
open Go Go.Proofs.Ytpflcogplhigcaa.Ab
set_option linter.unusedVariables false
set_option linter.unusedSimpArgs false
namespace Ab
/-- Extents one behind the other, their kinds in turn, that carry these bytes. -/
def WL : Int → Int → List Ex → List UInt8 → Prop
  | _, _, [], b => b = []
  | lba, k, x :: l, b => Ck x ∧ x.lba = lba ∧ x.kind ≠ k ∧ ∃ b', b = eb x ++ b' ∧ WL (lba + x.len) x.kind l b'
def kd (c : Bool) : Int := if c = true then 1 else 2
theorem ck_mkx (lba : Int) (b : List UInt8) (c : Bool) (n : Nat) (h1 : 0 ≤ lba) (h2 : 1 ≤ n) (h3 : lba + n ≤ 64) (hb : 32 * n ≤ b.length) : Ck (mkx lba b c n) := by
  unfold mkx Ck
  cases c with
  | true => refine ⟨h1, by simp; omega, by simp; omega, by simp; omega, by simp, by simp, by simp, by simp, by simp, by simp⟩
  | false => refine ⟨h1, by simp; omega, by simp; omega, by simp; omega, by simp, by simp, by simp, by simp, fun _ => ?_, by simp⟩
             simp only [Bool.false_eq_true, if_false, List.length_take]; omega
theorem mkx_lba (lba : Int) (b : List UInt8) (c : Bool) (n : Int) : (mkx lba b c n).lba = lba := by unfold mkx; split <;> rfl
theorem mkx_len (lba : Int) (b : List UInt8) (c : Bool) (n : Int) : (mkx lba b c n).len = n := by unfold mkx; split <;> rfl
theorem mkx_kind (lba : Int) (b : List UInt8) (c : Bool) (n : Int) : (mkx lba b c n).kind = kd c := by unfold mkx kd; split <;> rfl
theorem eb_mkx (lba : Int) (b : List UInt8) (c : Bool) (n : Nat) (hz : c = true → b.take (32 * n) = List.replicate (32 * n) 0) : eb (mkx lba b c n) = b.take (32 * n) := by
  unfold eb mkx
  have e : (32 * (n : Int)).toNat = 32 * n := by omega
  cases c with
  | true => simp only [if_true]; rw [hz rfl]; simp [e]
  | false => simp [e]
theorem ly_wl : ∀ (zs : List Bool) (lba : Int) (b : List UInt8) (c : Bool) (m : Nat) (k : Int), 0 ≤ lba → 1 ≤ m → b.length = 32 * (m + zs.length) → lba + m + zs.length ≤ 64 → flags (b.drop (32 * m)) = zs → (c = true → b.take (32 * m) = List.replicate (32 * m) 0) → kd c ≠ k → WL lba k (ly lba b c m zs) b
  | [], lba, b, c, m, k, h1, h2, h3, h4, h5, h6, h7 => by
    simp only [List.length_nil, Nat.add_zero] at h3 h4
    unfold ly
    rw [if_neg (by omega)]
    refine ⟨ck_mkx _ _ _ _ h1 h2 (by omega) (by omega), mkx_lba _ _ _ _, by rw [mkx_kind]; exact h7, [], ?_, rfl⟩
    rw [eb_mkx _ _ _ _ h6, List.append_nil, List.take_of_length_le (by omega)]
  | z :: zs, lba, b, c, m, k, h1, h2, h3, h4, h5, h6, h7 => by
    simp only [List.length_cons] at h3 h4
    have hf := flags_cons (b := b.drop (32 * m)) (by rw [List.length_drop]; omega)
    rw [h5] at hf
    injection hf with hz hzs
    have hd : (b.drop (32 * m)).drop 32 = b.drop (32 * (m + 1)) := by rw [List.drop_drop]; congr 1
    rw [hd] at hzs
    unfold ly
    split
    · rename_i hc
      have := ly_wl zs lba b c (m + 1) k h1 (by omega) (by omega) (by omega) hzs.symm (fun ht => ?_) h7
      · rw [show ((m + 1 : Nat) : Int) = (m : Int) + 1 by omega] at this; exact this
      · have h8 : (b.drop (32 * m)).take 32 = List.replicate 32 0 := by
          have : zb ((b.drop (32 * m)).take 32) = true := by rw [← hz, hc, ht]
          exact eq_of_beq this
        rw [show 32 * (m + 1) = 32 * m + 32 by omega, List.take_add, h8, h6 ht, List.replicate_append_replicate]
    · rename_i hc
      rw [if_neg (by omega)]
      have e : (32 * (m : Int)).toNat = 32 * m := by omega
      refine ⟨ck_mkx _ _ _ _ h1 h2 (by omega) (by omega), mkx_lba _ _ _ _, by rw [mkx_kind]; exact h7, b.drop (32 * m), ?_, ?_⟩
      · rw [eb_mkx _ _ _ _ h6, List.take_append_drop]
      · rw [mkx_len, mkx_kind, e]
        refine ly_wl zs (lba + m) (b.drop (32 * m)) z 1 (kd c) (by omega) (by omega) (by rw [List.length_drop]; omega) (by omega) (by rw [Nat.mul_one, hd]; exact hzs.symm) (fun ht => ?_) ?_
        · have : zb ((b.drop (32 * m)).take 32) = true := by rw [← hz, ht]
          exact eq_of_beq this
        · unfold kd; cases z <;> cases c <;> simp_all
theorem lay_wl {lba : Int} {b : List UInt8} (h : Lo lba b) : WL lba 0 (ly lba b false 0 (flags b)) b := by
  unfold Lo at h
  by_cases hb : b.length < 32
  · have : b = [] := List.eq_nil_of_length_eq_zero (by omega)
    subst this
    rw [flags_nil (by simp)]; simp [ly, WL]
  have hf := flags_cons (b := b) (by omega)
  have hl : (flags (b.drop 32)).length = (b.length - 32) / 32 := by rw [show (flags (b.drop 32)).length = (b.drop 32).length / 32 from fl_length _ _, List.length_drop]
  rw [hf]
  have key : ly lba b false 0 (zb (b.take 32) :: flags (b.drop 32)) = ly lba b (zb (b.take 32)) ((1 : Nat) : Int) (flags (b.drop 32)) := by
    conv => lhs; unfold ly
    split
    · rename_i hz; rw [hz]; rfl
    · rfl
  rw [key]
  refine ly_wl _ _ _ _ 1 0 h.2.1 (by omega) (by omega) (by omega) rfl (fun ht => eq_of_beq ht) (by unfold kd; split <;> omega)
end Ab
end Go.Proofs.Ytpflcogplhigcaa
namespace Go.Proofs.Ytpflcogplhigcaa
open Go Go.Proofs.Ytpflcogplhigcaa.Ab
set_option linter.unusedVariables false
set_option linter.unusedSimpArgs false
namespace Ab
/-- A loop that asks something of each place, with a state of its own. -/
theorem th_first {σ α : Type} {step : σ → Option σ} {f : σ → Option α} (r1 r2 : Option α) (S : Nat → σ) (n : Nat) (P : Nat → Prop) (Q : Prop) [Decidable Q] (hQ : (∀ i, i < n → P i) ↔ Q)
    (hs : ∀ i : Nat, i < n → (∀ j, j < i → P j) → P i → step (S i) = some (S (i + 1))) (hf : ∀ i : Nat, i < n → (∀ j, j < i → P j) → ¬ P i → step (S i) = none ∧ f (S i) = r1) (he : (∀ j, j < n → P j) → step (S n) = none ∧ f (S n) = r2) :
    th step (S 0) f = if Q then r2 else r1 := by
  by_cases h : ∀ i, i < n → P i
  · rw [if_pos (hQ.1 h), th_run (step := step) (f := f) S n (fun i hi => hs i hi (fun j hj => h j (by omega)) (h i hi)) (he h).1]
    exact (he h).2
  · rw [if_neg (fun g => h (hQ.2 g))]
    have hex : ∃ i, i < n ∧ ¬ P i := Classical.byContradiction fun hn => h fun i hi => Classical.byContradiction fun hp => hn ⟨i, hi, hp⟩
    have key : ∀ k, (∃ i, i < k ∧ i < n ∧ ¬ P i) → ∃ i, i < n ∧ ¬ P i ∧ ∀ j, j < i → P j := by
      intro k
      induction k with
      | zero => rintro ⟨i, hi, _⟩; omega
      | succ k ih =>
        rintro ⟨i, h1, h2, h3⟩
        by_cases hk : ∃ i, i < k ∧ i < n ∧ ¬ P i
        · exact ih hk
        · have hik : i = k := by
            rcases Nat.lt_or_ge i k with g | g
            · exact absurd ⟨i, g, h2, h3⟩ hk
            · omega
          refine ⟨i, h2, h3, fun j hj => ?_⟩
          exact Classical.byContradiction fun hp => hk ⟨j, by omega, by omega, hp⟩
    obtain ⟨i, h1, h2⟩ := hex
    obtain ⟨k, k1, k2, k3⟩ := key (i + 1) ⟨i, by omega, h1, h2⟩
    rw [th_run (step := step) (f := f) S k (fun i hi => hs i (by omega) (fun j hj => k3 j (by omega)) (k3 i hi)) (hf k k1 k3 k2).1]
    exact (hf k k1 k3 k2).2
/-- How many blocks extents are. -/
def sl : List Ex → Int
  | [] => 0
  | x :: l => x.len + sl l
theorem sl_append : ∀ a b : List Ex, sl (a ++ b) = sl a + sl b
  | [], b => by simp [sl]
  | x :: a, b => by simp only [List.cons_append, sl, sl_append a b]; omega
theorem sl_take (l : List Ex) (i : Nat) (h : i < l.length) : sl (l.take (i + 1)) = sl (l.take i) + (exAt l i).len := by
  rw [take_at ⟨0, 0, 0, 0, []⟩ l i h, sl_append]; simp [sl, exAt]
def MP (l : List Ex) (i : Nat) : Prop := Ck (exAt l i) ∧ (exAt l i).lba = sl (l.take i) ∧ (0 < i → ¬ Jn (exAt l (i - 1)) (exAt l i))
/-- Is it a map of so many blocks? -/
def Mk (blocks : Int) (l : List Ex) : Prop := l ≠ [] ∧ (∀ i, i < l.length → MP l i) ∧ sl l = blocks
instance (l : List Ex) (i : Nat) : Decidable (MP l i) := by unfold MP; infer_instance
instance (blocks : Int) (l : List Ex) : Decidable (Mk blocks l) := by unfold Mk; infer_instance
def mk (blocks : Int) (l : List Ex) : Bool := decide (Mk blocks l)
theorem mk_iff {blocks : Int} {l : List Ex} : mk blocks l = true ↔ Mk blocks l := decide_eq_true_iff
theorem mk_t {blocks : Int} {l : List Ex} (h : Mk blocks l) : mk blocks l = true := mk_iff.2 h
theorem mk_f {blocks : Int} {l : List Ex} (h : ¬ Mk blocks l) : mk blocks l = false := decide_eq_false_iff_not.2 h
theorem mp_bound {l : List Ex} {i : Nat} (hi : i ≤ l.length) (h : ∀ j, j < i → MP l j) : 0 ≤ sl (l.take i) ∧ sl (l.take i) ≤ 64 ∧ (0 < i → 1 ≤ sl (l.take i)) := by
  induction i with
  | zero => simp [sl]
  | succ i ih =>
    have h1 := ih (by omega) fun j hj => h j (by omega)
    have h2 := h i (by omega)
    have h3 := h2.1
    have h4 := h2.2.1
    unfold Ck at h3
    rw [sl_take l i (by omega)]
    omega
theorem mCheck_eq (blocks : Int) (l : List Ex) (hl : l.length ≤ 9223372036854775807) : mCheck blocks l = some (mk blocks l) := by
  unfold mCheck
  have hstep : ∀ i : Nat, i < l.length → (∀ j, j < i → MP l j) → MP l i → mCheck_L0_step blocks l (sl (l.take i), (i : Int)) = some (sl (l.take (i + 1)), ((i + 1 : Nat) : Int)) := by
    intro i hi hpre hp
    have hb := mp_bound (by omega) hpre
    have hck := hp.1
    have hlba := hp.2.1
    unfold mCheck_L0_step
    simp only [tb_dec, tb_bne, tb_not, eCheck_eq, eJoins_eq, tc_some, Int.toNat_natCast]
    unfold Ck at hck
    rw [if_pos (by omega), tp_pos (by omega), ck_t hp.1, tb_t, if_pos hlba, sl_take l i hi, wr_id (x := sl (l.take i) + (exAt l i).len) (by omega) (by omega), wr_id (x := (i : Int) + 1) (by omega) (by omega)]
    have e1 : ((i + 1 : Nat) : Int) = (i : Int) + 1 := by omega
    rw [e1]
    by_cases h0 : (i : Int) > 0
    · rw [if_pos h0, wr_id (x := (i : Int) - 1) (by omega) (by omega), tp_pos (by omega), show ((i : Int) - 1).toNat = i - 1 by omega, jn_f (hp.2.2 (by omega)), tb_f]
    · rw [if_neg h0]
  have := th_first (step := mCheck_L0_step blocks l) (some false) (if l ≠ [] ∧ sl l = blocks then some true else some false) (fun i => (sl (l.take i), (i : Int))) l.length (MP l) (∀ i, i < l.length → MP l i) Iff.rfl hstep (f := fun s0 =>
    tb (decide (s0.2 < (l.length : Int))) (tp ((0 : Int) ≤ s0.2 ∧ s0.2 < (l.length : Int)) (tc (eCheck (exAt l s0.2.toNat)) fun s3 => tb (!s3) (some false) (tb ((exAt l s0.2.toNat).lba != s0.1) (some false) (tb (decide (s0.2 > 0)) (tp ((0 : Int) ≤ wr (s0.2 - 1) ∧ wr (s0.2 - 1) < (l.length : Int)) (tc (eJoins (exAt l (wr (s0.2 - 1)).toNat) (exAt l s0.2.toNat)) fun s8 => tb s8 (some false) none)) none))))
      (tb (decide ((l.length : Int) > 0)) (some (s0.1 == blocks)) (some false))) ?_ ?_
  · simp only [List.take_zero, sl, Int.natCast_zero] at this
    rw [this]
    by_cases hall : ∀ i, i < l.length → MP l i
    · rw [if_pos hall]
      by_cases h : l ≠ [] ∧ sl l = blocks
      · rw [if_pos h, mk_t ⟨h.1, hall, h.2⟩]
      · rw [if_neg h, mk_f fun g => h ⟨g.1, g.2.2⟩]
    · rw [if_neg hall, mk_f fun g => hall g.2.1]
  · intro i hi hpre hp
    have hb := mp_bound (by omega) hpre
    unfold mCheck_L0_step
    simp only [tb_dec, tb_bne, tb_not, eCheck_eq, eJoins_eq, tc_some, Int.toNat_natCast]
    by_cases hck : Ck (exAt l i)
    case neg => refine ⟨?_, ?_⟩ <;> (rw [if_pos (by omega), tp_pos (by omega), ck_f hck]; rfl)
    by_cases hlba : (exAt l i).lba = sl (l.take i)
    case neg => refine ⟨?_, ?_⟩ <;> (rw [if_pos (by omega), tp_pos (by omega), ck_t hck, tb_t, if_neg hlba])
    have hj : 0 < i ∧ Jn (exAt l (i - 1)) (exAt l i) := by
      refine ⟨?_, ?_⟩
      · rcases Nat.eq_zero_or_pos i with h | h
        · subst h; exact absurd ⟨hck, hlba, fun h => by omega⟩ hp
        · exact h
      · exact Classical.byContradiction fun h => hp ⟨hck, hlba, fun _ => h⟩
    refine ⟨?_, ?_⟩ <;> (rw [if_pos (by omega), tp_pos (by omega), ck_t hck, tb_t, if_pos hlba, if_pos (by omega), wr_id (x := (i : Int) - 1) (by omega) (by omega), tp_pos (by omega), show ((i : Int) - 1).toNat = i - 1 by omega, jn_t hj.2]; rfl)
  · intro hall
    unfold mCheck_L0_step
    simp only [tb_dec]
    rw [if_neg (by omega), if_neg (by omega)]
    refine ⟨rfl, ?_⟩
    rw [List.take_length]
    by_cases h0 : l = []
    · subst h0; simp
    · have : 0 < l.length := List.length_pos_iff.2 h0
      rw [if_pos (by omega)]
      by_cases hb : sl l = blocks
      · rw [if_pos ⟨h0, hb⟩, hb]; simp
      · rw [if_neg (fun h => hb h.2)]; simp [hb]
theorem mk_blocks {blocks : Int} {l : List Ex} (h : Mk blocks l) : 1 ≤ blocks ∧ blocks ≤ 64 := by
  have hb := mp_bound (Nat.le_refl _) h.2.1
  rw [List.take_length, h.2.2] at hb
  have := List.length_pos_iff.2 h.1
  omega
theorem r8Check_eq (blocks : Int) (l : List Ex) (hl : l.length ≤ 4294967296) : r8Check blocks l = some (mk blocks l) := by
  unfold r8Check
  simp only [tb_dec]
  by_cases hb1 : blocks < 1
  · rw [if_pos hb1, mk_f fun h => by have := mk_blocks h; omega]
  by_cases hb2 : blocks > 64
  · rw [if_neg hb1, if_pos hb2, mk_f fun h => by have := mk_blocks h; omega]
  rw [if_neg hb1, if_neg hb2]
  have hstep : ∀ i : Nat, i < l.length → (∀ j, j < i → MP l j) → MP l i → r8Check_L0_step blocks l (sl (l.take i), (i : Int)) = some (sl (l.take (i + 1)), ((i + 1 : Nat) : Int)) := by
    intro i hi hpre hp
    have hb := mp_bound (by omega) hpre
    have hck := hp.1
    have hlba := hp.2.1
    unfold r8Check_L0_step
    simp only [tb_dec, tb_bne, tb_not, r7Check_eq, r7Joins_eq, tc_some, Int.toNat_natCast]
    unfold Ck at hck
    rw [if_pos (by omega), tp_pos (by omega), ck_t hp.1, tb_t, if_pos hlba, sl_take l i hi, wr_id (x := sl (l.take i) + (exAt l i).len) (by omega) (by omega), wr_id (x := (i : Int) + 1) (by omega) (by omega)]
    have e1 : ((i + 1 : Nat) : Int) = (i : Int) + 1 := by omega
    rw [e1]
    by_cases h0 : (i : Int) > 0
    · rw [if_pos h0, wr_id (x := (i : Int) - 1) (by omega) (by omega), tp_pos (by omega), show ((i : Int) - 1).toNat = i - 1 by omega, jn_f (hp.2.2 (by omega)), tb_f]
    · rw [if_neg h0]
  have := th_first (step := r8Check_L0_step blocks l) (some false) (some (sl l == blocks)) (fun i => (sl (l.take i), (i : Int))) l.length (MP l) (∀ i, i < l.length → MP l i) Iff.rfl hstep (f := fun s0 =>
    if s0.2 < (l.length : Int) then (tp ((0 : Int) ≤ s0.2 ∧ s0.2 < (l.length : Int)) (tc (r7Check (exAt l s0.2.toNat)) fun s3 => tb (!s3) (some false) (tb ((exAt l s0.2.toNat).lba != s0.1) (some false) (if s0.2 > 0 then (tp ((0 : Int) ≤ wr (s0.2 - 1) ∧ wr (s0.2 - 1) < (l.length : Int)) (tc (r7Joins (exAt l (wr (s0.2 - 1)).toNat) (exAt l s0.2.toNat)) fun s8 => tb s8 (some false) none)) else none))))
      else (some (s0.1 == blocks))) ?_ ?_
  · simp only [List.take_zero, sl, Int.natCast_zero] at this
    rw [this]
    by_cases hall : ∀ i, i < l.length → MP l i
    · rw [if_pos hall]
      congr 1
      rw [Bool.eq_iff_iff, beq_iff_eq, mk_iff]
      refine ⟨fun h => ⟨fun h0 => ?_, hall, h⟩, fun h => h.2.2⟩
      subst h0; simp [sl] at h; omega
    · rw [if_neg hall, mk_f fun g => hall g.2.1]
  · intro i hi hpre hp
    have hb := mp_bound (by omega) hpre
    unfold r8Check_L0_step
    simp only [tb_dec, tb_bne, tb_not, r7Check_eq, r7Joins_eq, tc_some, Int.toNat_natCast]
    by_cases hck : Ck (exAt l i)
    case neg => refine ⟨?_, ?_⟩ <;> (rw [if_pos (by omega), tp_pos (by omega), ck_f hck]; rfl)
    by_cases hlba : (exAt l i).lba = sl (l.take i)
    case neg => refine ⟨?_, ?_⟩ <;> (rw [if_pos (by omega), tp_pos (by omega), ck_t hck, tb_t, if_neg hlba])
    have hj : 0 < i ∧ Jn (exAt l (i - 1)) (exAt l i) := by
      refine ⟨?_, ?_⟩
      · rcases Nat.eq_zero_or_pos i with h | h
        · subst h; exact absurd ⟨hck, hlba, fun h => by omega⟩ hp
        · exact h
      · exact Classical.byContradiction fun h => hp ⟨hck, hlba, fun _ => h⟩
    refine ⟨?_, ?_⟩ <;> (rw [if_pos (by omega), tp_pos (by omega), ck_t hck, tb_t, if_pos hlba, if_pos (by omega), wr_id (x := (i : Int) - 1) (by omega) (by omega), tp_pos (by omega), show ((i : Int) - 1).toNat = i - 1 by omega, jn_t hj.2]; rfl)
  · intro hall
    unfold r8Check_L0_step
    simp only [tb_dec]
    rw [if_neg (by omega), if_neg (by omega)]
    rw [List.take_length]
    exact ⟨rfl, rfl⟩
end Ab
end Go.Proofs.Ytpflcogplhigcaa
namespace Go.Proofs.Ytpflcogplhigcaa
open Go Go.Proofs.Ytpflcogplhigcaa.Ab
set_option linter.unusedVariables false
set_option linter.unusedSimpArgs false
namespace Ab
/-- The part of an extent within so many blocks, if there is one. -/
def Cu (x : Ex) (lba n : Int) : Prop := Ck x ∧ 0 ≤ lba ∧ lba ≤ 64 ∧ 0 ≤ n ∧ n ≤ 64 ∧ max x.lba lba < min (x.lba + x.len) (lba + n)
instance (x : Ex) (lba n : Int) : Decidable (Cu x lba n) := by unfold Cu; infer_instance
def cu (x : Ex) (lba n : Int) : Ex :=
  ⟨max x.lba lba, min (x.lba + x.len) (lba + n) - max x.lba lba, x.kind, x.gen, if x.kind = 2 then (x.d.drop (32 * (max x.lba lba - x.lba)).toNat).take (32 * (min (x.lba + x.len) (lba + n) - max x.lba lba)).toNat else []⟩
def e0 : Ex := ⟨0, 0, 0, 0, []⟩
def cut (x : Ex) (lba n : Int) : Option Ex := if Cu x lba n then some (cu x lba n) else none
def cutv (x : Ex) (lba n : Int) : Ex × Bool := if Cu x lba n then (cu x lba n, true) else (e0, false)
theorem cutv_pos {x : Ex} {lba n : Int} (h : Cu x lba n) : cutv x lba n = (cu x lba n, true) := if_pos h
theorem cutv_neg {x : Ex} {lba n : Int} (h : ¬ Cu x lba n) : cutv x lba n = (e0, false) := if_neg h
theorem dslice (d : List UInt8) (x f t : Int) (h1 : 0 ≤ x) (h2 : x ≤ f) (h3 : f ≤ t) (h4 : t ≤ 64) (hd : 32 * (t - x) ≤ d.length) :
    List.take (((32 * (t - x)).toNat - (32 * (f - x)).toNat) * 1) (List.take (((32 * (t - x)).toNat - (32 * (f - x)).toNat) * 1) (List.drop ((32 * (f - x)).toNat * 1) d)) = (d.drop (32 * (f - x)).toNat).take (32 * (t - f)).toNat := by
  rw [Nat.mul_one, Nat.mul_one, List.take_take, Nat.min_self, show (32 * (t - x)).toNat - (32 * (f - x)).toNat = (32 * (t - f)).toNat by omega]
theorem eCut_eq (x : Ex) (lba n : Int) : eCut x lba n = some (cutv x lba n) := by
  unfold eCut
  simp only [eCheck_eq, tc_some, tb_not, tb_dec, tb_beq, imin_eq, imax_eq]
  by_cases hc : Ck x
  case neg => rw [ck_f hc, tb_f]; unfold cutv; rw [if_neg fun h => hc h.1]; rfl
  rw [ck_t hc, tb_t]
  by_cases h1 : lba ≥ 0
  case neg => rw [if_neg h1]; unfold cutv; rw [if_neg fun h => h1 h.2.1]; rfl
  by_cases h2 : lba ≤ 64
  case neg => rw [if_pos h1, if_neg h2]; unfold cutv; rw [if_neg fun h => h2 h.2.2.1]; rfl
  by_cases h3 : n ≥ 0
  case neg => rw [if_pos h1, if_pos h2, if_neg h3]; unfold cutv; rw [if_neg fun h => h3 h.2.2.2.1]; rfl
  by_cases h4 : n ≤ 64
  case neg => rw [if_pos h1, if_pos h2, if_pos h3, if_neg h4]; unfold cutv; rw [if_neg fun h => h4 h.2.2.2.2.1]; rfl
  have hcc := hc
  unfold Ck at hcc
  rw [if_pos h1, if_pos h2, if_pos h3, if_pos h4, wr_id (x := x.lba + x.len) (by omega) (by omega), wr_id (x := lba + n) (by omega) (by omega)]
  have hf1 : x.lba ≤ max x.lba lba := by omega
  have hf2 : max x.lba lba ≤ 64 := by omega
  have ht1 : min (x.lba + x.len) (lba + n) ≤ x.lba + x.len := by omega
  have hcu : (Cu x lba n) ↔ max x.lba lba < min (x.lba + x.len) (lba + n) := ⟨fun h => h.2.2.2.2.2, fun h => ⟨hc, h1, h2, h3, h4, h⟩⟩
  unfold cutv
  simp only [hcu]
  unfold cu
  generalize max x.lba lba = f at hf1 hf2 ⊢
  generalize min (x.lba + x.len) (lba + n) = t at ht1 ⊢
  by_cases h5 : f ≥ t
  · rw [if_pos h5, if_neg (show ¬ f < t by omega)]; rfl
  rw [if_neg h5, if_pos (show f < t by omega)]
  have w1 : wr (f - x.lba) = f - x.lba := wr_id (by omega) (by omega)
  have w2 : wr (t - x.lba) = t - x.lba := wr_id (by omega) (by omega)
  have w3 : wr (t - f) = t - f := wr_id (by omega) (by omega)
  have w4 : wr ((f - x.lba) * 32) = 32 * (f - x.lba) := by rw [wr_id (by omega) (by omega)]; omega
  have w5 : wr ((t - x.lba) * 32) = 32 * (t - x.lba) := by rw [wr_id (by omega) (by omega)]; omega
  rw [w1, w2, w3, w4, w5]
  by_cases hk : x.kind = 2
  · have hd := hcc.2.2.2.2.2.2.2.2.1 hk
    rw [if_pos hk, if_pos hk, tp_pos (by omega), tp_pos (by omega), tp_pos (by rw [List.length_map]; omega), tp_pos (by omega), dslice _ _ _ _ (by omega) (by omega) (by omega) (by omega) (by omega)]
  · rw [if_neg hk, if_neg hk]
/-- A loop that gathers. -/
theorem th_gath {σ α : Type} {step : σ × Int → Option (σ × Int)} {f : σ × Int → Option α} (A : Nat → σ) (n : Nat) (hs : ∀ i : Nat, i < n → step (A i, (i : Int)) = some (A (i + 1), (i : Int) + 1)) (he : step (A n, (n : Int)) = none) : th step (A 0, 0) f = f (A n, (n : Int)) := by
  have := th_run (step := step) (f := f) (fun i => (A i, (i : Int))) n (fun i hi => by rw [hs i hi]; simp) he
  simpa using this
def Ro (blocks lba n : Int) : Prop := 0 ≤ lba ∧ lba ≤ blocks ∧ 1 ≤ n ∧ n ≤ blocks - lba
instance (blocks lba n : Int) : Decidable (Ro blocks lba n) := by unfold Ro; infer_instance
theorem ex_take1 (l : List Ex) (i : Nat) (hi : i < l.length) : l.take (i + 1) = l.take i ++ [exAt l i] := by unfold exAt; exact take_at _ l i hi
end Ab
end Go.Proofs.Ytpflcogplhigcaa
namespace Go.Proofs.Ytpflcogplhigcaa
open Go Go.Proofs.Ytpflcogplhigcaa.Ab
set_option linter.unusedVariables false
set_option linter.unusedSimpArgs false
namespace Ab
/-- Extents one behind the other, from a block on, none of which goes on the one before it. -/
def CH : Int → List Ex → Prop
  | _, [] => True
  | s, x :: l => Ck x ∧ x.lba = s ∧ (∀ y, l.head? = some y → ¬ Jn x y) ∧ CH (s + x.len) l
theorem mk_ch {blocks : Int} {l : List Ex} (h : Mk blocks l) : CH 0 l := by
  have key : ∀ j, j ≤ l.length → CH (sl (l.take (l.length - j))) (l.drop (l.length - j)) := by
    intro j
    induction j with
    | zero => intro _; rw [Nat.sub_zero, List.drop_length]; trivial
    | succ j ih =>
      intro hj
      have hi : l.length - (j + 1) < l.length := by omega
      have hm := h.2.1 (l.length - (j + 1)) hi
      have e : l.drop (l.length - (j + 1)) = exAt l (l.length - (j + 1)) :: l.drop (l.length - (j + 1) + 1) := by unfold exAt; exact drop_at _ l _ hi
      rw [e]
      have hs := sl_take l (l.length - (j + 1)) hi
      have e2 : l.length - (j + 1) + 1 = l.length - j := by omega
      rw [e2] at hs ⊢
      refine ⟨hm.1, hm.2.1, fun y hy => ?_, by rw [← hs]; exact ih (by omega)⟩
      have hy2 : l.length - j < l.length ∧ y = exAt l (l.length - j) := by
        rw [List.head?_drop] at hy
        obtain ⟨g, e3⟩ := List.getElem?_eq_some_iff.1 hy
        exact ⟨g, by unfold exAt; simp [g, e3]⟩
      have hm2 := (h.2.1 (l.length - j) hy2.1).2.2 (by omega)
      rw [show l.length - j - 1 = l.length - (j + 1) by omega, ← hy2.2] at hm2
      exact hm2
  have := key l.length (Nat.le_refl _)
  simpa [sl] using this
theorem ch_ck : ∀ {l : List Ex} {s : Int}, CH s l → ∀ z ∈ l, Ck z ∧ s ≤ z.lba
  | [], _, _, z, hz => by cases hz
  | x :: l, s, h, z, hz => by
    have hc := h.1
    unfold Ck at hc
    rcases List.mem_cons.1 hz with e | e
    · subst e; exact ⟨h.1, by have := h.2.1; omega⟩
    · have := ch_ck h.2.2.2 z e
      exact ⟨this.1, by omega⟩
theorem cu_ck {x : Ex} {lo n : Int} (h : Cu x lo n) : Ck (cu x lo n) := by
  obtain ⟨c1, c2, c3, c4, c5, c6⟩ := h
  unfold Ck at c1
  refine ⟨by simp only [cu]; omega, by simp only [cu]; omega, by simp only [cu]; omega, by simp only [cu]; omega, by simp only [cu]; omega, by simp only [cu]; omega, by simp only [cu]; omega, by simp only [cu]; omega, fun hk => ?_, fun hk => ?_⟩
  · have hk : x.kind = 2 := hk
    have := c1.2.2.2.2.2.2.2.2.1 hk
    simp only [cu, if_pos hk, List.length_take, List.length_drop]; omega
  · have hk : ¬ x.kind = 2 := hk
    simp only [cu, if_neg hk]
end Ab
end Go.Proofs.Ytpflcogplhigcaa
namespace Go.Proofs.Ytpflcogplhigcaa
open Go Go.Proofs.Ytpflcogplhigcaa.Ab
set_option linter.unusedVariables false
set_option linter.unusedSimpArgs false
namespace Ab
/-- A block of an extent. -/
def bAt (x : Ex) (k : Int) : Int × Int × List UInt8 := (x.kind, x.gen, (x.d.drop (32 * (k - x.lba)).toNat).take 32)
/-- An extent holds at a block so much. -/
def Cv (x : Ex) (k : Int) (c : Int × Int × List UInt8) : Prop := x.lba ≤ k ∧ k < x.lba + x.len ∧ c = bAt x k
def Den (l : List Ex) (k : Int) (c : Int × Int × List UInt8) : Prop := ∃ x ∈ l, Cv x k c
theorem den_nil {k : Int} {c : Int × Int × List UInt8} : ¬ Den [] k c := fun ⟨x, hx, _⟩ => by cases hx
theorem den_cons {x : Ex} {l : List Ex} {k : Int} {c : Int × Int × List UInt8} : Den (x :: l) k c ↔ Cv x k c ∨ Den l k c := by
  unfold Den; simp
theorem ck_pos {x : Ex} (h : Ck x) : 0 ≤ x.lba ∧ x.lba ≤ 64 ∧ 1 ≤ x.len ∧ x.lba + x.len ≤ 64 := by
  unfold Ck at h; omega
theorem ck_d2 {x : Ex} (h : Ck x) (hk : x.kind = 2) : (x.d.length : Int) = 32 * x.len := by
  unfold Ck at h; exact h.2.2.2.2.2.2.2.2.1 hk
theorem ck_d0 {x : Ex} (h : Ck x) (hk : x.kind ≠ 2) : x.d = [] := by
  unfold Ck at h; exact h.2.2.2.2.2.2.2.2.2 hk
/-- A part holds what the whole holds there. -/
theorem bAt_cu {x : Ex} {lo n k : Int} (h : Ck x) (h1 : max x.lba lo ≤ k) (h2 : k < min (x.lba + x.len) (lo + n)) : bAt (cu x lo n) k = bAt x k := by
  have hp := ck_pos h
  simp only [bAt, cu, Prod.mk.injEq, true_and]
  split
  · rename_i hk
    have e : (32 * (k - x.lba)).toNat = (32 * (max x.lba lo - x.lba)).toNat + (32 * (k - max x.lba lo)).toNat := by omega
    rw [e, ← List.drop_drop, List.drop_take, List.take_take]
    congr 1
    omega
  · rename_i hk
    rw [ck_d0 h hk]; simp
theorem ck_jnx {a b : Ex} (h : Jn a b) : Ck (jnx a b) := by
  obtain ⟨ha, hb, h1, h2, h3⟩ := h
  have pa := ck_pos ha
  have pb := ck_pos hb
  have ca := ha
  unfold Ck at ca
  refine ⟨by simp only [jnx]; omega, by simp only [jnx]; omega, by simp only [jnx]; omega, by simp only [jnx]; omega, by simp only [jnx]; omega, by simp only [jnx]; omega, by simp only [jnx]; omega, by simp only [jnx]; omega, fun hk => ?_, fun hk => ?_⟩
  · have hk : a.kind = 2 := hk
    have e1 := ck_d2 ha hk
    have e2 := ck_d2 hb (h2 ▸ hk)
    simp only [jnx, List.length_append]; omega
  · have hk : a.kind ≠ 2 := hk
    simp only [jnx, ck_d0 ha hk, ck_d0 hb (h2 ▸ hk), List.append_nil]
theorem snoc_of {out : List Ex} (h : out ≠ []) : out = out.dropLast ++ [out.getLastD ⟨0, 0, 0, 0, []⟩] := by
  have e : out = out.dropLast ++ [out.getLast h] := (List.dropLast_concat_getLast h).symm
  have e2 : out.getLastD ⟨0, 0, 0, 0, []⟩ = out.getLast h := (congrArg (fun l => List.getLastD l ⟨0, 0, 0, 0, []⟩) e).trans (by simp)
  rw [e2]; exact e
theorem den_ge {l : List Ex} {s : Int} (h : CH s l) {k : Int} {c : Int × Int × List UInt8} (hd : Den l k c) : s ≤ k := by
  obtain ⟨x, hx, hc⟩ := hd
  have := (ch_ck h x hx).2
  have := hc.1
  omega
theorem d_ext {x y : Ex} (hx : Ck x) (hy : Ck y) (hb : x.lba = y.lba) (hl : x.len = y.len) (h : ∀ k, x.lba ≤ k → k < x.lba + x.len → bAt x k = bAt y k) : x = y := by
  have px := ck_pos hx
  have h0 := h x.lba (by omega) (by omega)
  simp only [bAt, Prod.mk.injEq] at h0
  have hd : x.d = y.d := by
    by_cases hk : x.kind = 2
    · have d1 := ck_d2 hx hk
      have d2 := ck_d2 hy (h0.1 ▸ hk)
      apply List.ext_getElem?
      intro j
      by_cases hj : j < x.d.length
      · have hq := h (x.lba + (j / 32 : Nat)) (by omega) (by omega)
        simp only [bAt, Prod.mk.injEq] at hq
        have hq : (List.take 32 (List.drop (32 * (x.lba + ((j / 32 : Nat) : Int) - x.lba)).toNat x.d))[j % 32]? = (List.take 32 (List.drop (32 * (x.lba + ((j / 32 : Nat) : Int) - y.lba)).toNat y.d))[j % 32]? := congrArg (fun l => l[j % 32]?) hq.2.2
        have hm : j % 32 < 32 := Nat.mod_lt _ (by omega)
        rw [List.getElem?_take_of_lt hm, List.getElem?_take_of_lt hm, List.getElem?_drop, List.getElem?_drop] at hq
        have e1 : (32 * (x.lba + ((j / 32 : Nat) : Int) - x.lba)).toNat + j % 32 = j := by omega
        have e2 : (32 * (x.lba + ((j / 32 : Nat) : Int) - y.lba)).toNat + j % 32 = j := by omega
        rw [e1, e2] at hq
        exact hq
      · rw [List.getElem?_eq_none (by omega), List.getElem?_eq_none (by omega)]
    · rw [ck_d0 hx hk, ck_d0 hy (h0.1 ▸ hk)]
  cases x; cases y
  simp_all
theorem sl_nn : ∀ {l : List Ex}, (∀ x ∈ l, Ck x) → 0 ≤ sl l
  | [], _ => by simp [sl]
  | x :: l, h => by
    have h1 := sl_nn fun y hy => h y (List.mem_cons_of_mem _ hy)
    have h2 := ck_pos (h x (by simp))
    simp only [sl]; omega
end Ab
end Go.Proofs.Ytpflcogplhigcaa
namespace Go.Proofs.Ytpflcogplhigcaa
open Go Go.Proofs.Ytpflcogplhigcaa.Ab
set_option linter.unusedVariables false
set_option linter.unusedSimpArgs false
namespace Ab
/-- Of one extent of the map: what is left of it before, the new one if it is its turn, what is left behind. -/
def P1 (x : Ex) (fl : Bool) (e : Ex) : List Ex := (cut e 0 x.lba).toList ++ ((if fl = false ∧ e.lba + e.len > x.lba then [x] else []) ++ (cut e (x.lba + x.len) 64).toList)
def F1 (x : Ex) (fl : Bool) (e : Ex) : Bool := fl || decide (e.lba + e.len > x.lba)
def pcs (x : Ex) : Bool → List Ex → List Ex
  | _, [] => []
  | fl, e :: l => P1 x fl e ++ pcs x (F1 x fl e) l
/-- The map with the new extent over it. -/
def put (l : List Ex) (x : Ex) : List Ex := (pcs x false l).foldl add []
end Ab
end Go.Proofs.Ytpflcogplhigcaa
namespace Go.Proofs.Ytpflcogplhigcaa
open Go Go.Proofs.Ytpflcogplhigcaa.Ab
set_option linter.unusedVariables false
set_option linter.unusedSimpArgs false
namespace Ab
theorem ch_len : ∀ {l : List Ex} {s : Int}, CH s l → (l.length : Int) ≤ sl l
  | [], _, _ => by simp [sl]
  | x :: l, s, h => by
    have := ch_len h.2.2.2
    have := ck_pos h.1
    simp only [sl, List.length_cons]; omega
theorem mk_len {blocks : Int} {l : List Ex} (h : Mk blocks l) : l.length ≤ 64 := by
  have h1 := ch_len (mk_ch h)
  have h2 := mk_blocks h
  have h3 := h.2.2
  omega
theorem ch_cov : ∀ {l : List Ex} {s : Int}, CH s l → ∀ {k : Int}, s ≤ k → k < s + sl l → ∃ x ∈ l, x.lba ≤ k ∧ k < x.lba + x.len
  | [], s, _, k, h1, h2 => by simp only [sl] at h2; omega
  | x :: l, s, h, k, h1, h2 => by
    have bx := h.2.1
    simp only [sl] at h2
    by_cases g : k < x.lba + x.len
    · exact ⟨x, by simp, by omega, g⟩
    · obtain ⟨y, hy, q⟩ := ch_cov h.2.2.2 (k := k) (by omega) (by omega)
      exact ⟨y, by simp [hy], q⟩
theorem ch_end : ∀ {l : List Ex} {s : Int}, CH s l → ∀ x ∈ l, x.lba + x.len ≤ s + sl l
  | [], _, _, x, hx => by cases hx
  | y :: l, s, h, x, hx => by
    have by_ := h.2.1
    have h0 : 0 ≤ sl l := sl_nn fun z hz => (ch_ck h.2.2.2 z hz).1
    simp only [sl]
    rcases List.mem_cons.1 hx with e | e
    · subst e; omega
    · have := ch_end h.2.2.2 x e
      omega
end Ab
end Go.Proofs.Ytpflcogplhigcaa
namespace Go.Proofs.Ytpflcogplhigcaa
open Go Go.Proofs.Ytpflcogplhigcaa.Ab
set_option linter.unusedVariables false
set_option linter.unusedSimpArgs false
namespace Ab
/-- It may be, and lies within so many blocks. -/
def Fit8 (blocks : Int) (x : Ex) : Prop := Ck x ∧ x.lba + x.len ≤ blocks
instance (blocks : Int) (x : Ex) : Decidable (Fit8 blocks x) := by unfold Fit8; infer_instance
end Ab
end Go.Proofs.Ytpflcogplhigcaa
namespace Go.Proofs.Ytpflcogplhigcaa
open Go Go.Proofs.Ytpflcogplhigcaa.Ab
set_option linter.unusedVariables false
set_option linter.unusedSimpArgs false
namespace Ab
def new (blocks : Int) : List Ex := [⟨0, blocks, 0, 0, []⟩]
end Ab
end Go.Proofs.Ytpflcogplhigcaa
namespace Go.Proofs.Ytpflcogplhigcaa
open Go Go.Proofs.Ytpflcogplhigcaa.Ab
set_option linter.unusedVariables false
set_option linter.unusedSimpArgs false
namespace Ab
/-- Extents one behind the other, from a block on; where they end. -/
def So : Int → List Ex → Prop
  | _, [] => True
  | s, x :: l => Ck x ∧ s ≤ x.lba ∧ So (x.lba + x.len) l
def en : Int → List Ex → Int
  | s, [] => s
  | _, x :: l => en (x.lba + x.len) l
theorem en_app : ∀ (a b : List Ex) (s : Int), en s (a ++ b) = en (en s a) b
  | [], b, s => rfl
  | x :: a, b, s => en_app a b _
theorem so_app : ∀ (a b : List Ex) (s : Int), So s (a ++ b) ↔ So s a ∧ So (en s a) b
  | [], b, s => by simp [So, en]
  | x :: a, b, s => by
    have ih := so_app a b (x.lba + x.len)
    simp only [List.cons_append, So, en, ih]
    exact ⟨fun ⟨h1, h2, h3, h4⟩ => ⟨⟨h1, h2, h3⟩, h4⟩, fun ⟨⟨h1, h2, h3⟩, h4⟩ => ⟨h1, h2, h3, h4⟩⟩
theorem so_mono {l : List Ex} {s t : Int} (h : So s l) (ht : t ≤ s) : So t l := by
  cases l with
  | nil => trivial
  | cons x l => exact ⟨h.1, by have := h.2.1; omega, h.2.2⟩
theorem ls_so {l : List Ex} (h : Ls l) : So 0 l := by
  have key : ∀ j, j ≤ l.length → So (atp l (l.length - j)) (l.drop (l.length - j)) := by
    intro j
    induction j with
    | zero => intro _; rw [Nat.sub_zero, List.drop_length]; trivial
    | succ j ih =>
      intro hj
      have hi : l.length - (j + 1) < l.length := by omega
      have hp := h.2 _ hi
      have e : l.drop (l.length - (j + 1)) = exAt l (l.length - (j + 1)) :: l.drop (l.length - (j + 1) + 1) := by unfold exAt; exact drop_at _ l _ hi
      rw [e]
      refine ⟨hp.1, hp.2, ?_⟩
      rw [← atp_succ, show l.length - (j + 1) + 1 = l.length - j by omega]
      exact ih (by omega)
  have := key l.length (Nat.le_refl _)
  simpa [atp] using this
theorem so_ls : ∀ (l : List Ex) (s : Int), So s l → ∀ i, i < l.length → Ck (exAt l i) ∧ (if i = 0 then s else (exAt l (i - 1)).lba + (exAt l (i - 1)).len) ≤ (exAt l i).lba
  | [], _, _, i, hi => by simp at hi
  | x :: l, s, h, 0, hi => ⟨h.1, h.2.1⟩
  | x :: l, s, h, i + 1, hi => by
    have ih := so_ls l _ h.2.2 i (by simpa using hi)
    refine ⟨ih.1, ?_⟩
    rw [if_neg (by omega), Nat.add_sub_cancel]
    have e : exAt (x :: l) (i + 1) = exAt l i := rfl
    rw [e]
    cases i with
    | zero => exact ih.2
    | succ i => have := ih.2; rw [if_neg (by omega), Nat.add_sub_cancel] at this; exact this
theorem so_lp {l : List Ex} (h : So 0 l) : ∀ i, i < l.length → LP l i := fun i hi => by
  have := so_ls l 0 h i hi
  unfold LP atp; exact this
/-- No two that join. -/
def NJ : List Ex → Prop
  | [] => True
  | [_] => True
  | x :: y :: l => ¬ Jn x y ∧ NJ (y :: l)
theorem nj_snoc : ∀ (o : List Ex) (y : Ex), NJ (o ++ [y]) ↔ NJ o ∧ ∀ a, o.getLast? = some a → ¬ Jn a y
  | [], y => by simp [NJ]
  | [x], y => by simp [NJ]
  | x :: z :: o, y => by
    have ih := nj_snoc (z :: o) y
    simp only [List.cons_append, NJ] at ih ⊢
    rw [ih, List.getLast?_cons_cons, and_assoc]
theorem so_snoc (o : List Ex) (y : Ex) (s : Int) : So s (o ++ [y]) ↔ So s o ∧ Ck y ∧ en s o ≤ y.lba := by
  rw [so_app]; simp [So]
/-- Extents of which no block of data is zeros. -/
def Gd (x : Ex) : Prop := x.kind = 2 → ∀ z ∈ flags x.d, z = false
theorem gd_jnx {a b : Ex} (h : Jn a b) (ha : Gd a) (hb : Gd b) : Gd (jnx a b) := by
  intro hk z hz
  have hk : a.kind = 2 := hk
  have hl := ck_d2 h.1 hk
  have e : flags (jnx a b).d = flags a.d ++ flags b.d := flags_append _ (by omega)
  rw [e] at hz
  rcases List.mem_append.1 hz with g | g
  · exact ha hk z g
  · exact hb (h.2.2.2.1 ▸ hk) z g
theorem add_so {out : List Ex} {y : Ex} (h1 : So 0 out) (h2 : NJ out) (h3 : ∀ x ∈ out, Gd x) (hy : Ck y) (hg : Gd y) (hl : en 0 out ≤ y.lba) : So 0 (add out y) ∧ NJ (add out y) ∧ (∀ x ∈ add out y, Gd x) ∧ en 0 (add out y) = y.lba + y.len := by
  unfold add
  by_cases g : out ≠ [] ∧ Jn (out.getLastD ⟨0, 0, 0, 0, []⟩) y
  · rw [if_pos g]
    have e := snoc_of g.1
    generalize out.getLastD ⟨0, 0, 0, 0, []⟩ = a at g e ⊢
    generalize out.dropLast = o at e ⊢
    rw [e] at h1 h2 h3
    obtain ⟨a1, a2, a3⟩ := (so_snoc o a 0).1 h1
    obtain ⟨b1, b2⟩ := (nj_snoc o a).1 h2
    have hj := g.2
    refine ⟨(so_snoc o _ 0).2 ⟨a1, ck_jnx hj, a3⟩, (nj_snoc o _).2 ⟨b1, fun b hb q => b2 b hb ⟨q.1, a2, q.2.2.1, q.2.2.2.1, q.2.2.2.2⟩⟩, fun x hx => ?_, ?_⟩
    · rcases List.mem_append.1 hx with q | q
      · exact h3 x (List.mem_append_left _ q)
      · rw [List.mem_singleton] at q; subst q
        exact gd_jnx hj (h3 a (by simp)) hg
    · rw [en_app]
      simp only [en, jnx]
      have := hj.2.2.1
      omega
  · rw [if_neg g]
    refine ⟨(so_snoc out y 0).2 ⟨h1, hy, hl⟩, (nj_snoc out y).2 ⟨h2, fun a ha q => g ⟨?_, ?_⟩⟩, fun x hx => ?_, ?_⟩
    · intro e0; rw [e0] at ha; cases ha
    · rw [List.getLastD_eq_getLast?, ha]; exact q
    · rcases List.mem_append.1 hx with q | q
      · exact h3 x q
      · rw [List.mem_singleton] at q; subst q; exact hg
    · rw [en_app]; rfl
theorem adds_so : ∀ (ys out : List Ex), So 0 out → NJ out → (∀ x ∈ out, Gd x) → So (en 0 out) ys → (∀ x ∈ ys, Gd x) → So 0 (ys.foldl add out) ∧ NJ (ys.foldl add out) ∧ (∀ x ∈ ys.foldl add out, Gd x)
  | [], out, h1, h2, h3, _, _ => ⟨h1, h2, h3⟩
  | y :: ys, out, h1, h2, h3, h4, h5 => by
    obtain ⟨a, b, c, d⟩ := add_so h1 h2 h3 h4.1 (h5 y (by simp)) h4.2.1
    rw [List.foldl_cons]
    exact adds_so ys _ a b c (by rw [d]; exact h4.2.2) fun x hx => h5 x (by simp [hx])
/-! What is told apart. -/
theorem ly_ff : ∀ (zs : List Bool) (lba : Int) (b : List UInt8) (n : Int), (∀ z ∈ zs, z = false) → 0 ≤ n → ly lba b false n zs = if n + zs.length = 0 then [] else [mkx lba b false (n + zs.length)]
  | [], lba, b, n, _, hn => by simp [ly]
  | z :: zs, lba, b, n, h, hn => by
    have hz := h z (by simp)
    subst hz
    unfold ly
    rw [if_pos rfl, ly_ff zs lba b (n + 1) (fun y hy => h y (by simp [hy])) (by omega)]
    simp only [List.length_cons]
    rw [if_neg (by omega), if_neg (by omega), show n + 1 + (zs.length : Int) = n + ((zs.length + 1 : Nat) : Int) by omega]
theorem told_gd {x : Ex} (h : Ck x) (hg : Gd x) : told x = [x] := by
  unfold told
  by_cases hk : x.kind = 2
  · rw [if_pos hk]
    have hl := ck_d2 h hk
    have p := ck_pos h
    have hf : (flags x.d).length = x.d.length / 32 := fl_length _ _
    rw [ly_ff _ _ _ _ (hg hk) (Int.le_refl _), if_neg (by omega)]
    have e : (0 : Int) + ((flags x.d).length : Int) = x.len := by omega
    rw [e]
    simp only [List.map_cons, List.map_nil, mkx, sg, Bool.false_eq_true, if_false]
    rw [List.take_of_length_le (by omega), ← hk]
  · rw [if_neg hk]
    have := ck_d0 h hk
    cases x with
    | mk a b c e d => simp only at this; subst this; rfl
theorem flags_32 {b : List UInt8} (h : b.length = 32) : flags b = [zb b] := by
  rw [flags_cons (b := b) (by omega), flags_nil (by rw [List.length_drop]; omega), List.take_of_length_le (by omega)]
theorem wl_gd : ∀ (zs : List Bool) (lba : Int) (b : List UInt8) (c : Bool) (m : Nat), b.length = 32 * (m + zs.length) → flags (b.drop (32 * m)) = zs → (c = false → ∀ z ∈ flags (b.take (32 * m)), z = false) → ∀ x ∈ ly lba b c m zs, Gd x
  | [], lba, b, c, m, h3, h5, h6, x, hx => by
    unfold ly at hx
    split at hx
    · cases hx
    · rw [List.mem_singleton] at hx
      subst hx
      intro hk
      unfold mkx at hk ⊢
      cases c with
      | true => simp at hk
      | false =>
        simp only [Bool.false_eq_true, if_false]
        rw [show (32 * (m : Int)).toNat = 32 * m by omega]
        exact h6 rfl
  | z :: zs, lba, b, c, m, h3, h5, h6, x, hx => by
    simp only [List.length_cons] at h3
    have hf := flags_cons (b := b.drop (32 * m)) (by rw [List.length_drop]; omega)
    rw [h5] at hf
    injection hf with hz hzs
    have hd : (b.drop (32 * m)).drop 32 = b.drop (32 * (m + 1)) := by rw [List.drop_drop]; congr 1
    rw [hd] at hzs
    have h32 : ((b.drop (32 * m)).take 32).length = 32 := by rw [List.length_take, List.length_drop]; omega
    unfold ly at hx
    split at hx
    · rename_i hc
      refine wl_gd zs lba b c (m + 1) (by omega) hzs.symm (fun hcf => ?_) x (by rw [show ((m + 1 : Nat) : Int) = (m : Int) + 1 by omega]; exact hx)
      have e : b.take (32 * (m + 1)) = b.take (32 * m) ++ (b.drop (32 * m)).take 32 := by rw [show 32 * (m + 1) = 32 * m + 32 by omega, List.take_add]
      rw [e, flags_append _ (by rw [List.length_take]; omega), flags_32 h32]
      intro y hy
      rcases List.mem_append.1 hy with g | g
      · exact h6 hcf y g
      · rw [List.mem_singleton] at g
        rw [g, ← hz, hc, hcf]
    · rename_i hc
      split at hx
      · rename_i hm
        have hm0 : m = 0 := by omega
        subst hm0
        refine wl_gd zs lba b z 1 (by omega) hzs.symm (fun hcf => ?_) x (by simpa using hx)
        rw [Nat.mul_zero, List.drop_zero] at hz h32
        rw [Nat.mul_one, flags_32 h32]
        intro y hy
        rw [List.mem_singleton] at hy
        rw [hy, ← hz, hcf]
      · rcases List.mem_cons.1 hx with g | g
        · subst g
          intro hk
          unfold mkx at hk ⊢
          cases c with
          | true => simp at hk
          | false =>
            simp only [Bool.false_eq_true, if_false]
            rw [show (32 * (m : Int)).toNat = 32 * m by omega]
            exact h6 rfl
        · have e : (32 * (m : Int)).toNat = 32 * m := by omega
          rw [e] at g
          refine wl_gd zs (lba + m) (b.drop (32 * m)) z 1 (by rw [List.length_drop]; omega) (by rw [Nat.mul_one, hd]; exact hzs.symm) (fun hcf => ?_) x (by simpa using g)
          rw [Nat.mul_one, flags_32 h32]
          intro y hy
          rw [List.mem_singleton] at hy
          rw [hy, ← hz, hcf]
theorem wl_so : ∀ (l : List Ex) (lba k : Int) (b : List UInt8) (g : Int), 0 ≤ g ∧ g ≤ 2147483647 → WL lba k l b → So lba (l.map (sg g)) ∧ (en lba (l.map (sg g)) : Int) * 32 = lba * 32 + b.length
  | [], lba, k, b, g, _, h => by
    have h : b = [] := h
    subst h; simp [So, en]
  | x :: l, lba, k, b, g, hg, h => by
    obtain ⟨h1, h2, h3, b', h4, h5⟩ := h
    obtain ⟨i1, i2⟩ := wl_so l _ _ _ g hg h5
    have hl := eb_len h1
    have hc := h1
    unfold Ck at hc
    refine ⟨⟨?_, by show lba ≤ x.lba; omega, by show So (x.lba + x.len) _; rw [h2]; exact i1⟩, ?_⟩
    · exact ⟨hc.1, hc.2.1, hc.2.2.1, hc.2.2.2.1, hc.2.2.2.2.1, hc.2.2.2.2.2.1, hg.1, hg.2, hc.2.2.2.2.2.2.2.2.1, hc.2.2.2.2.2.2.2.2.2⟩
    · have hlen : b.length = (eb x).length + b'.length := by rw [h4, List.length_append]
      show en (x.lba + x.len) _ * 32 = _
      rw [h2, i2]; omega
theorem told_so {x : Ex} (h : Ck x) : So x.lba (told x) ∧ en x.lba (told x) = x.lba + x.len ∧ ∀ y ∈ told x, Gd y := by
  by_cases hk : x.kind = 2
  · have hw := lay_wl (ck_lo h hk)
    have hc := h
    unfold Ck at hc
    have hl := ck_d2 h hk
    obtain ⟨i1, i2⟩ := wl_so _ _ _ _ x.gen ⟨hc.2.2.2.2.2.2.1, hc.2.2.2.2.2.2.2.1⟩ hw
    unfold told
    rw [if_pos hk]
    refine ⟨i1, by omega, fun y hy => ?_⟩
    obtain ⟨z, hz, rfl⟩ := List.mem_map.1 hy
    have hf : (flags x.d).length = x.d.length / 32 := fl_length _ _
    have := wl_gd (flags x.d) x.lba x.d false 0 (by omega) (by simp) (fun _ y hy => by simp [flags_nil] at hy) z hz
    exact this
  · have e := told_gd h fun q => absurd q hk
    rw [e]
    exact ⟨⟨h, Int.le_refl _, trivial⟩, rfl, fun y hy => by rw [List.mem_singleton] at hy; subst hy; exact fun q => absurd q hk⟩
theorem tolds_so : ∀ (l : List Ex) (s : Int), So s l → So s (l.flatMap told) ∧ en s (l.flatMap told) = en s l ∧ ∀ y ∈ l.flatMap told, Gd y
  | [], s, _ => ⟨trivial, rfl, fun y hy => by simp at hy⟩
  | x :: l, s, h => by
    obtain ⟨a, b, c⟩ := told_so h.1
    obtain ⟨i1, i2, i3⟩ := tolds_so l _ h.2.2
    have p := ck_pos h.1
    have he : en s (told x) = x.lba + x.len := by
      cases hq : told x with
      | nil => rw [hq] at b; simp only [en] at b; omega
      | cons y q => rw [hq] at b; exact b
    rw [List.flatMap_cons]
    refine ⟨(so_app _ _ _).2 ⟨so_mono a h.2.1, by rw [he]; exact i1⟩, by rw [en_app, he, i2]; rfl, fun y hy => ?_⟩
    rcases List.mem_append.1 hy with g | g
    · exact c y g
    · exact i3 y g
/-- What is packed. -/
theorem pk_spec {l : List Ex} (h : Ls l) : So 0 (pk l).1 ∧ NJ (pk l).1 ∧ (∀ x ∈ (pk l).1, Gd x) ∧ (pk l).2 = 0 ∧ (pk l).1 = (l.flatMap told).foldl add [] := by
  obtain ⟨a, b, c⟩ := tolds_so l 0 (ls_so h)
  have := adds_so (l.flatMap told) [] trivial trivial (fun x hx => by cases hx) a c
  have e : pk l = ((l.flatMap told).foldl add [], 0) := by unfold pk; rw [if_pos h]
  rw [e]
  exact ⟨this.1, this.2.1, this.2.2, rfl, rfl⟩
end Ab
end Go.Proofs.Ytpflcogplhigcaa
namespace Go.Proofs.Ytpflcogplhigcaa
open Go Go.Proofs.Ytpflcogplhigcaa.Ab
set_option linter.unusedVariables false
set_option linter.unusedSimpArgs false
namespace Ab
theorem th_run_at {σ α : Type} {step : σ → Option σ} {f : σ → Option α} (S : Nat → σ) (k : Nat) {s0 : σ} (h0 : s0 = S 0) (hs : ∀ i, i < k → step (S i) = some (S (i + 1))) (he : step (S k) = none) : th step s0 f = f (S k) := by
  subst h0; exact th_run S k hs he
theorem pad_rep (n m : Nat) : pad n (List.replicate m 0) = List.replicate n 0 := by
  unfold pad
  rw [List.replicate_append_replicate, List.take_replicate]
  congr 1; omega
theorem pad_nil (n : Nat) : pad n [] = List.replicate n 0 := pad_rep n 0
def CkC (c : Ce) : Prop := 0 ≤ c.kind ∧ c.kind ≤ 2 ∧ 0 ≤ c.gen ∧ c.gen ≤ 2147483647 ∧ (c.kind ≠ 2 → pad 32 c.d = List.replicate 32 0)
instance (c : Ce) : Decidable (CkC c) := by unfold CkC; infer_instance
/-- May blocks be? -/
def CkI (l : List Ce) : Prop := 1 ≤ l.length ∧ l.length ≤ 64 ∧ ∀ c ∈ l, CkC c
instance (l : List Ce) : Decidable (CkI l) := by unfold CkI; infer_instance
theorem ceAt_all (l : List Ce) (p : Ce → Prop) : (∀ i, i < l.length → p (ceAt l i)) ↔ ∀ x ∈ l, p x := by
  unfold ceAt; exact getD_all _ l p
end Ab
end Go.Proofs.Ytpflcogplhigcaa
namespace Go.Proofs.Ytpflcogplhigcaa
open Go Go.Proofs.Ytpflcogplhigcaa.Ab
set_option linter.unusedVariables false
set_option linter.unusedSimpArgs false
namespace Ab
/-- A block as extents hold it; one as a list holds what extents do. -/
def blk (c : Ce) : Int × Int × List UInt8 := (c.kind, c.gen, if c.kind = 2 then pad 32 c.d else [])
def cb (c : Int × Int × List UInt8) : Ce := ⟨c.1, c.2.1, pad 32 c.2.2⟩
/-! Blocks of a map. -/
def xcs (x : Ex) : List Ce := (List.range x.len.toNat).map fun k => ⟨x.kind, x.gen, pad 32 ((eb x).drop (32 * k))⟩
def cellsM (m : List Ex) : List Ce := m.flatMap xcs
theorem pad_take (l : List UInt8) : pad 32 (l.take 32) = pad 32 l := by
  unfold pad
  rw [List.take_append, List.take_append, List.take_take, Nat.min_self, List.take_replicate, List.take_replicate, List.length_take]
  congr 2
  omega
theorem xcs_at {x : Ex} (h : Ck x) {k : Int} (h1 : x.lba ≤ k) (h2 : k < x.lba + x.len) : (xcs x)[(k - x.lba).toNat]? = some (cb (bAt x k)) := by
  unfold xcs
  rw [List.getElem?_map, List.getElem?_range (by omega)]
  simp only [Option.map_some, Option.some.injEq, cb, bAt, Ce.mk.injEq, true_and]
  unfold eb
  have e : 32 * (k - x.lba).toNat = (32 * (k - x.lba)).toNat := by omega
  rw [e, pad_take]
  split
  · rfl
  · rename_i hk
    rw [ck_d0 h hk, List.drop_replicate, List.drop_nil, pad_rep, pad_nil]
theorem xcs_len (x : Ex) : (xcs x).length = x.len.toNat := by simp [xcs]
theorem cellsM_len : ∀ {m : List Ex} {s : Int}, CH s m → ((cellsM m).length : Int) = sl m
  | [], _, _ => rfl
  | x :: m, s, h => by
    have := cellsM_len h.2.2.2
    have p := ck_pos h.1
    simp only [cellsM, List.flatMap_cons, List.length_append, xcs_len, sl] at this ⊢
    omega
theorem cellsM_den : ∀ {m : List Ex} {s : Int}, CH s m → ∀ {k : Int} {c : Int × Int × List UInt8}, Den m k c → (cellsM m)[(k - s).toNat]? = some (cb c)
  | [], _, _, k, c, hd => absurd hd den_nil
  | x :: m, s, h, k, c, hd => by
    have p := ck_pos h.1
    have hb := h.2.1
    simp only [cellsM, List.flatMap_cons]
    rcases den_cons.1 hd with q | q
    · rw [List.getElem?_append_left (by rw [xcs_len]; have := q.1; have := q.2.1; omega), q.2.2, ← hb]
      exact xcs_at h.1 q.1 q.2.1
    · have hg := den_ge h.2.2.2 q
      rw [List.getElem?_append_right (by rw [xcs_len]; omega), xcs_len]
      have := cellsM_den h.2.2.2 q
      rw [show (k - s).toNat - x.len.toNat = (k - (s + x.len)).toNat by omega]
      exact this
theorem den_ck {x : Ex} (h : Ck x) {k : Int} (h1 : x.lba ≤ k) (h2 : k < x.lba + x.len) : blk (cb (bAt x k)) = bAt x k ∧ CkC (cb (bAt x k)) := by
  have hc := h
  unfold Ck at hc
  have hl : x.kind = 2 → ((x.d.drop (32 * (k - x.lba)).toNat).take 32).length = 32 := fun hk => by
    have := ck_d2 h hk
    rw [List.length_take, List.length_drop]; omega
  constructor
  · have e : blk (cb (bAt x k)) = (x.kind, x.gen, if x.kind = 2 then pad 32 (pad 32 ((x.d.drop (32 * (k - x.lba)).toNat).take 32)) else []) := rfl
    rw [e]
    by_cases hk : x.kind = 2
    · rw [if_pos hk, pad_pad, pad_of (hl hk)]; rfl
    · rw [if_neg hk]; unfold bAt; rw [ck_d0 h hk]; simp
  · refine ⟨by simp only [cb, bAt]; omega, by simp only [cb, bAt]; omega, by simp only [cb, bAt]; omega, by simp only [cb, bAt]; omega, fun hk => ?_⟩
    have hk : x.kind ≠ 2 := hk
    simp only [cb, bAt, ck_d0 h hk, List.drop_nil, List.take_nil, pad_nil, pad_rep]
theorem ce_get {l : List Ce} {i : Nat} {c : Ce} (h : l[i]? = some c) : i < l.length ∧ ceAt l i = c := by
  obtain ⟨g, e⟩ := List.getElem?_eq_some_iff.1 h
  exact ⟨g, by unfold ceAt; simp [g, e]⟩
/-- A map's holdings, block by block. -/
theorem mk_get {blocks : Int} {m : List Ex} (h : Mk blocks m) {i : Nat} (hi : (i : Int) < blocks) : ∃ x ∈ m, Ck x ∧ x.lba ≤ i ∧ (i : Int) < x.lba + x.len ∧ Den m i (bAt x i) ∧ (cellsM m)[i]? = some (cb (bAt x i)) := by
  have hc := mk_ch h
  obtain ⟨x, hx, h1, h2⟩ := ch_cov hc (k := i) (by omega) (by rw [h.2.2]; omega)
  have hd : Den m i (bAt x i) := ⟨x, hx, h1, h2, rfl⟩
  have := cellsM_den hc hd
  rw [Int.sub_zero, Int.toNat_natCast] at this
  exact ⟨x, hx, (ch_ck hc x hx).1, h1, h2, hd, this⟩
theorem cellsM_mk {blocks : Int} {m : List Ex} (h : Mk blocks m) : CkI (cellsM m) ∧ ((cellsM m).length : Int) = blocks ∧ ∀ c ∈ cellsM m, c.d.length = 32 := by
  have hl : ((cellsM m).length : Int) = blocks := (cellsM_len (mk_ch h)).trans h.2.2
  have hb := mk_blocks h
  have key : ∀ c ∈ cellsM m, CkC c ∧ c.d.length = 32 := by
    intro c hc
    obtain ⟨i, hi, e⟩ := List.getElem_of_mem hc
    obtain ⟨x, hx, k1, k2, k3, k4, k5⟩ := mk_get h (i := i) (by omega)
    rw [List.getElem?_eq_getElem hi, e] at k5
    injection k5 with k5
    subst k5
    exact ⟨(den_ck k1 k2 k3).2, by simp only [cb, pad_len]⟩
  exact ⟨⟨by omega, by omega, fun c hc => (key c hc).1⟩, hl, fun c hc => (key c hc).2⟩
end Ab
end Go.Proofs.Ytpflcogplhigcaa
namespace Go.Proofs.Ytpflcogplhigcaa
open Go Go.Proofs.Ytpflcogplhigcaa.Ab
set_option linter.unusedVariables false
set_option linter.unusedSimpArgs false
namespace Ab
theorem ceAt_one (c : Ce) : ceAt [c] 0 = c := rfl
/-- Are so many blocks there? -/
def Fits (l : List Ce) (lba n : Int) : Prop := 0 ≤ lba ∧ lba ≤ l.length ∧ 1 ≤ n ∧ n ≤ l.length - lba
instance (l : List Ce) (lba n : Int) : Decidable (Fits l lba n) := by unfold Fits; infer_instance
end Ab
end Go.Proofs.Ytpflcogplhigcaa
namespace Go.Proofs.Ytpflcogplhigcaa
open Go Go.Proofs.Ytpflcogplhigcaa.Ab
set_option linter.unusedVariables false
set_option linter.unusedSimpArgs false
namespace Ab
theorem cellsM_take (m : List Ex) (i : Nat) (hi : i < m.length) : cellsM (m.take (i + 1)) = cellsM (m.take i) ++ xcs (exAt m i) := by
  have e : m.take (i + 1) = m.take i ++ [exAt m i] := take_at _ m i hi
  rw [e]; simp [cellsM]
theorem cellsM_le {blocks : Int} {m : List Ex} (h : Mk blocks m) (i : Nat) : (cellsM (m.take i)).length ≤ 64 := by
  have h1 := (cellsM_mk h).2.1
  have hb := mk_blocks h
  have e : cellsM m = cellsM (m.take i) ++ cellsM (m.drop i) := by unfold cellsM; rw [← List.flatMap_append, List.take_append_drop]
  rw [e, List.length_append] at h1
  omega
theorem mk_at {blocks : Int} {m : List Ex} (h : Mk blocks m) {i : Nat} (hi : i < m.length) : Ck (exAt m i) := (h.2.1 i hi).1
end Ab
end Go.Proofs.Ytpflcogplhigcaa
namespace Go.Proofs.Ytpflcogplhigcaa
open Go Go.Proofs.Ytpflcogplhigcaa.Ab
set_option linter.unusedVariables false
set_option linter.unusedSimpArgs false
namespace Ab
theorem gd_is {x : Ex} (h : Ck x) (hg : Gd x) {j : Nat} (hj : 32 * j + 32 ≤ x.d.length) : isz ((x.d.drop (32 * j)).take 32) = false := by
  have hk : x.kind = 2 := by
    rcases Decidable.em (x.kind = 2) with q | q
    · exact q
    · rw [ck_d0 h q] at hj; simp at hj
  have hm : x.d = x.d.take (32 * j) ++ ((x.d.drop (32 * j)).take 32 ++ x.d.drop (32 * j + 32)) := by
    rw [← List.drop_drop, List.take_append_drop, List.take_append_drop]
  have hl : ((x.d.drop (32 * j)).take 32).length = 32 := by rw [List.length_take, List.length_drop]; omega
  have hf : zb ((x.d.drop (32 * j)).take 32) ∈ flags x.d := by
    have e : flags x.d = flags (x.d.take (32 * j)) ++ (flags ((x.d.drop (32 * j)).take 32) ++ flags (x.d.drop (32 * j + 32))) := by
      conv => lhs; rw [hm]
      rw [flags_append _ (by rw [List.length_take]; omega), flags_append _ (by rw [hl])]
    rw [e, flags_32 hl]
    exact List.mem_append_right _ (List.mem_append_left _ (by simp))
  have := hg hk _ hf
  rw [isz_zb hl]; exact this
theorem nj_at : ∀ (l : List Ex), NJ l → ∀ i, i + 1 < l.length → ¬ Jn (exAt l i) (exAt l (i + 1))
  | [], _, i, hi => by simp at hi
  | [_], _, i, hi => by simp at hi
  | x :: y :: l, h, 0, _ => h.1
  | x :: y :: l, h, i + 1, hi => nj_at (y :: l) h.2 i (by simpa using hi)
end Ab
end Go.Proofs.Ytpflcogplhigcaa
