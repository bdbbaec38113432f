/- The law 'StateImage': it returns true, and nothing that was there changes. No condition. (Part 10 of 12.) -/
import Derived.Test.YtimcbhhebnikiaaSi9
import Derived.Test.YtimcbhhebnikiaaRows
namespace Go.Proofs.Ytimcbhhebnikiaa
open Go Go.Proofs.Ytimcbhhebnikiaa.Ab
set_option linter.unusedVariables false
set_option linter.unusedSimpArgs false
namespace Ab
theorem u8z : UInt8.ofNat 0 = 0 := rfl
theorem zkj (c : Ce) : u9 [c] 0 = c := rfl
theorem zw1 {α : Type} (a b : List UInt8) (x y : Option α) : tb (a == b) x y = if a = b then x else y := by
  by_cases h : a = b
  · rw [if_pos h]; exact zdw (beq_iff_eq.2 h)
  · rw [if_neg h]; exact z96 (beq_eq_false_iff_ne.2 h)
theorem z5k (n lo hi : Int) : z1e n lo hi = some (decide (lo ≤ n ∧ n ≤ hi)) := by
  unfold z1e
  rw [w9]
  by_cases h : n ≥ lo
  · rw [if_pos h]; congr 1; exact decide_eq_decide.2 ⟨fun q => ⟨h, q⟩, fun q => q.2⟩
  · rw [if_neg h]; congr 1; symm; rw [decide_eq_false_iff_not]; exact fun q => h q.1
theorem zsn (c : Ce) {α : Type} (x y : Option α) : (if 0 ≤ c.kind ∧ c.kind ≤ 2 then (if 0 ≤ c.gen ∧ c.gen ≤ 2147483647 then (if c.kind = 2 then x else if pad 32 c.d = List.replicate 32 0 then x else y) else y) else y) = if CkC c then x else y := by
  by_cases h1 : 0 ≤ c.kind ∧ c.kind ≤ 2
  case neg => rw [if_neg h1, if_neg fun q : CkC c => h1 ⟨q.1, q.2.1⟩]
  by_cases h2 : 0 ≤ c.gen ∧ c.gen ≤ 2147483647
  case neg => rw [if_pos h1, if_neg h2, if_neg fun q : CkC c => h2 ⟨q.2.2.1, q.2.2.2.1⟩]
  rw [if_pos h1, if_pos h2]
  by_cases h3 : c.kind = 2
  · rw [if_pos h3, if_pos (show CkC c from ⟨h1.1, h1.2, h2.1, h2.2, fun q => absurd h3 q⟩)]
  rw [if_neg h3]
  by_cases h4 : pad 32 c.d = List.replicate 32 0
  · rw [if_pos h4, if_pos (show CkC c from ⟨h1.1, h1.2, h2.1, h2.2, fun _ => h4⟩)]
  · rw [if_neg h4, if_neg fun q : CkC c => h4 (q.2.2.2.2 h3)]
theorem zg9 (l : List Ce) (hl : l.length ≤ 4294967296) : z7s l = some (decide (CkI l)) := by
  unfold z7s
  rw [z5k, x9, w9]
  by_cases h1 : (1 : Int) ≤ l.length ∧ (l.length : Int) ≤ 64
  case neg => rw [if_neg h1]; congr 1; symm; rw [decide_eq_false_iff_not]; rintro ⟨q1, q2, _⟩; exact h1 (by omega)
  rw [if_pos h1]
  rw [z69 (some false) (some true) l.length (fun i => CkC (u9 l i)) (∀ c ∈ l, CkC c) (zt7 l CkC)]
  · by_cases h : ∀ c ∈ l, CkC c
    · rw [if_pos h]; congr 1; symm; rw [decide_eq_true_iff]; exact ⟨by omega, by omega, h⟩
    · rw [if_neg h]; congr 1; symm; rw [decide_eq_false_iff_not]; exact fun q => h q.2.2
  · intro i hi hp
    unfold z1m
    simp only [z5k, x9, z0y, w9, z45, zw1, u8z, zkj, Int.toNat_natCast]
    rw [if_pos (by omega), x4 (by omega), zsn, if_pos hp, j9 (by omega) (by omega)]
  · intro i hi hp
    unfold z1m
    simp only [z5k, x9, z0y, w9, z45, zw1, u8z, zkj, Int.toNat_natCast]
    refine ⟨by rw [if_pos (by omega), x4 (by omega), zsn, if_neg hp], ?_⟩
    rw [if_pos (by omega), x4 (by omega), zsn, if_neg hp, decide_eq_true (by omega)]; rfl
  · unfold z1m
    simp only [w9]
    rw [if_neg (by omega), if_neg (by omega)]
    exact ⟨rfl, rfl⟩
def cn (c : Ce) : Ce := ⟨c.kind, c.gen, pad 32 c.d⟩
def Cn (l : List Ce) : Prop := ∀ c ∈ l, c.d.length = 32
theorem zw3 {l : List Ce} (h : Cn l) : l.map cn = l := by
  conv => rhs; rw [← List.map_id l]
  refine List.map_congr_left fun c hc => ?_
  unfold cn
  rw [zti (h c hc)]; rfl
theorem zxm {α β : Type} (d : α) (f : α → β) (a b : List α) (h : a.length = b.length) : (∀ i, i < a.length → f (a.getD i d) = f (b.getD i d)) ↔ a.map f = b.map f := by
  constructor
  · intro g
    refine List.ext_getElem (by simp [h]) fun i h1 h2 => ?_
    simp only [List.length_map] at h1 h2
    have := g i h1
    simp only [List.getElem_map]
    simpa [h1, h2] using this
  · intro g i hi
    have : (a.map f)[i]? = (b.map f)[i]? := by rw [g]
    rw [List.getElem?_map, List.getElem?_map, List.getElem?_eq_getElem hi, List.getElem?_eq_getElem (by omega)] at this
    simp only [Option.map_some, Option.some.injEq] at this
    simp only [List.getD_eq_getElem?_getD, List.getElem?_eq_getElem hi, List.getElem?_eq_getElem (show i < b.length by omega), Option.getD_some]
    exact this
theorem ztf (a b : Ce) {α : Type} (x y : Option α) : tb (a.kind == b.kind && (a.gen == b.gen && (pad 32 a.d == pad 32 b.d))) x y = if cn a = cn b then x else y := by
  by_cases h : cn a = cn b
  · rw [if_pos h]
    simp only [cn, Ce.mk.injEq] at h
    rw [h.1, h.2.1, h.2.2]; simp
  · rw [if_neg h]
    refine z96 ?_
    simp only [cn, Ce.mk.injEq] at h
    simp only [Bool.and_eq_false_iff, beq_eq_false_iff_ne, ne_eq]
    by_cases h1 : a.kind = b.kind
    · by_cases h2 : a.gen = b.gen
      · exact .inr (.inr fun h3 => h ⟨h1, h2, h3⟩)
      · exact .inr (.inl h2)
    · exact .inl h1
theorem zn9 (a b : List Ce) (ha : a.length ≤ 4294967296) : z4z a b = some (decide (a.map cn = b.map cn)) := by
  unfold z4z
  rw [z45]
  by_cases hl : (a.length : Int) = b.length
  case neg =>
    rw [if_neg hl]; congr 1; symm; rw [decide_eq_false_iff_not]
    intro h
    have := congrArg List.length h
    simp only [List.length_map] at this; omega
  rw [if_pos hl]
  have hl2 : a.length = b.length := by omega
  rw [z69 (some false) (some true) a.length (fun i => cn (u9 a i) = cn (u9 b i)) (a.map cn = b.map cn) (zxm _ cn a b hl2)]
  · by_cases h : a.map cn = b.map cn
    · rw [if_pos h, decide_eq_true h]
    · rw [if_neg h, decide_eq_false h]
  · intro i hi hp
    unfold z1o
    simp only [w9, z0y, ztf, Int.toNat_natCast]
    rw [if_pos (by omega), x4 (by omega), x4 (by omega), if_pos hp, j9 (by omega) (by omega)]
  · intro i hi hp
    unfold z1o
    simp only [w9, z0y, ztf, Int.toNat_natCast]
    refine ⟨by rw [if_pos (by omega), x4 (by omega), x4 (by omega), if_neg hp], ?_⟩
    rw [if_pos (by omega), x4 (by omega), if_neg hp]
  · unfold z1o
    simp only [w9]
    rw [if_neg (by omega), if_neg (by omega)]
    exact ⟨rfl, rfl⟩
theorem zgu {a b : List Ce} (ha : a.length ≤ 4294967296) (h1 : Cn a) (h2 : Cn b) : z4z a b = some (decide (a = b)) := by
  rw [zn9 a b ha, zw3 h1, zw3 h2]
def zq0 (l : List Ce) (lba n : Int) : Prop := 0 ≤ lba ∧ lba ≤ l.length ∧ 1 ≤ n ∧ n ≤ l.length - lba
instance (l : List Ce) (lba n : Int) : Decidable (zq0 l lba n) := by unfold zq0; infer_instance
end Ab
end Go.Proofs.Ytimcbhhebnikiaa
namespace Go.Proofs.Ytimcbhhebnikiaa
open Go Go.Proofs.Ytimcbhhebnikiaa.Ab
set_option linter.unusedVariables false
set_option linter.unusedSimpArgs false
set_option maxRecDepth 1000000
set_option maxHeartbeats 0
namespace Ab
noncomputable abbrev znj (was : List Ex) (l : List Ex) (gen : Int) (s0 : Int) : St := (St.mk [(0, (exs was)), (1, (exs l)), (2, (AV.i gen)), (15, (exs l)), (16, (AV.i (l.length : Int))), (17, (AV.i s0)), (18, (AV.b (decide (s0 < (l.length : Int))))), (19, (AV.ip (List.drop (s0.toNat * 5) (l.flatMap Ex.cells)))), (20, (AV.ag (xc (z7 l s0.toNat)))), (8, (AV.pt 0 0)), (21, (AV.pt 0 3)), (22, (AV.i (z7 l s0.toNat).gen)), (23, (AV.i gen)), (24, (AV.b (decide ((z7 l s0.toNat).gen > gen)))), (25, (exs was)), (26, (AV.i (was.length : Int))), (27, (AV.i 0))] 73 (AH.mk 1 [(0, (AObj.cells (xc (z7 l s0.toNat))))]) false)
noncomputable abbrev z7i (was : List Ex) (l : List Ex) (gen : Int) (s0 : Int) (s4 : Int) : St := (St.mk [(0, (exs was)), (1, (exs l)), (2, (AV.i gen)), (15, (exs l)), (16, (AV.i (l.length : Int))), (17, (AV.i s0)), (18, (AV.b (decide (s0 < (l.length : Int))))), (8, (AV.pt 0 0)), (24, (AV.b (decide ((z7 l s0.toNat).gen > gen)))), (25, (exs was)), (26, (AV.i (was.length : Int))), (27, (AV.i s4))] 73 (AH.mk 1 [(0, (AObj.cells (xc (z7 l s0.toNat))))]) false)
noncomputable def z0o (was : List Ex) (l : List Ex) (gen : Int) (s0 : Int) (s4 : Int) : Option (Int) :=
 (tb ((decide (s4 < (was.length : Int)))) (tp ((((0 : Int) ≤ s4) ∧ (s4 < (was.length : Int)))) (tc (z7a ((z7 was s4.toNat)) ((z7 l s0.toNat).lba) ((z7 l s0.toNat).len)) fun s7 => (tb ((!s7.2)) (some ((wr (s4 + (1 : Int))))) (tc (z7a ((z7 l s0.toNat)) (s7.1.lba) (s7.1.len)) fun s9 => (tb ((s9.1.kind != s7.1.kind)) none (tb ((s9.1.gen != s7.1.gen)) none (tb ((!(s9.1.d == s7.1.d))) none (some ((wr (s4 + (1 : Int)))))))))))) none)
theorem zld (was : List Ex) (l : List Ex) (gen : Int) (s0 : Int) (s4 zz : Int) : z0o was l gen s0 s4 = some zz → u5 Try.prog cf 1 (lp Try.prog 47 1) (z7i was l gen s0 s4) (z7i was l gen s0 zz) := by
  unfold z0o
  exact tbD (fun h5 h5p => x8 fun h6 => x5 fun s7 h7 => u0 (fun h8 => by intro e; injection e with e; subst e; exact d6 z9 (k := 300) (r := []) (hs := hz [(1, [.yes, .yes, .yes, .cells ((Ex.cells (z7 was s4.toNat)))]), (2, [.fc]), (1, [.fc]), (7, [.fres (.tu [Ex.av (s7.1), .b (s7.2)])]), (5, [.fc]), (3, [.yes]), (2, [])]) (ks := [0, 1, 2, 15, 16, 17, 18, 8, 24, 25, 26, 27]) (bs := [0]) kq (ac h5 (ac h6 (ac (fq (p := ((5 : Nat) ≤ (List.length (List.drop (s4.toNat * 5) (was.flatMap Ex.cells)))))) (ac (show (List.take 5 (List.drop (s4.toNat * 5) (was.flatMap Ex.cells))) = (Ex.cells (z7 was s4.toNat)) from (v4 bq bq)) (ac (d3 ((z7 was s4.toNat)) ((z7 l s0.toNat).lba) ((z7 l s0.toNat).len) _ h7).any0 (ac h8 an)))))) kq) fun h8 => x5 fun s9 h9 => tbN (fun h10 h10p => w6) fun h10 h10p => tbN (fun h11 h11p => w6) fun h11 h11p => u0 (fun h12 => w6) fun h12 => by intro e; injection e with e; subst e; exact d6 z9 (k := 300) (r := []) (hs := hz [(1, [.yes, .yes, .yes, .cells ((Ex.cells (z7 was s4.toNat)))]), (2, [.fc]), (1, [.fc]), (7, [.fres (.tu [Ex.av (s7.1), .b (s7.2)])]), (5, [.fc]), (3, [.no]), (1, [.fc]), (7, [.fres (.tu [Ex.av (s9.1), .b (s9.2)])]), (5, [.fc]), (9, [.no]), (1, [.no]), (2, [.no]), (1, [.no]), (2, [.no]), (1, [.no]), (1, [.no]), (1, [.no]), (2, [.no]), (1, [.no]), (2, [.no]), (4, [.yes, .str (s9.1.d)]), (1, [.yes, .str (s7.1.d)]), (2, [.no]), (1, [.no, .no]), (2, [])]) (ks := [0, 1, 2, 15, 16, 17, 18, 8, 24, 25, 26, 27]) (bs := [0]) kq (ac h5 (ac h6 (ac (fq (p := ((5 : Nat) ≤ (List.length (List.drop (s4.toNat * 5) (was.flatMap Ex.cells)))))) (ac (show (List.take 5 (List.drop (s4.toNat * 5) (was.flatMap Ex.cells))) = (Ex.cells (z7 was s4.toNat)) from (v4 bq bq)) (ac (d3 ((z7 was s4.toNat)) ((z7 l s0.toNat).lba) ((z7 l s0.toNat).len) _ h7).any0 (ac h8 (ac (d3 ((z7 l s0.toNat)) (s7.1.lba) (s7.1.len) _ h9).any0 (ac h10 (ac h10 (ac h10 (ac h10 (ac h10 (ac h10 (ac h11 (ac h11 (ac h11 (ac h11 (ac h11 (ac (tq (p := ((List.length (List.map AV.y s9.1.d)) = (s9.1.d.length * 1)))) (ac (tq (p := d4 ((List.map AV.y s9.1.d)) = some (s9.1.d))) (ac (tq (p := ((List.length (List.map AV.y s7.1.d)) = (s7.1.d.length * 1)))) (ac (tq (p := d4 ((List.map AV.y s7.1.d)) = some (s7.1.d))) (ac h11 (ac h11 (ac h12 an))))))))))))))))))))))))) kq) fun h5 h5p => w6
noncomputable abbrev z7e (was : List Ex) (l : List Ex) (gen : Int) : St := (St.mk [(0, (exs was)), (1, (exs l)), (2, (AV.i gen)), (6, (AV.b false)), (15, (exs l)), (16, (AV.i (l.length : Int))), (17, (AV.i 0))] 73 (AH.mk 0 ([] : List (Prod Nat AObj))) false)
noncomputable abbrev z1c (was : List Ex) (l : List Ex) (gen : Int) (s0 : Int) : St := (St.mk [(0, (exs was)), (1, (exs l)), (2, (AV.i gen)), (15, (exs l)), (16, (AV.i (l.length : Int))), (17, (AV.i s0))] 73 (AH.mk 0 ([] : List (Prod Nat AObj))) false)
noncomputable def z27 (was : List Ex) (l : List Ex) (gen : Int) (s0 : Int) : Option (Int) :=
 (tb ((decide (s0 < (l.length : Int)))) (tp ((((0 : Int) ≤ s0) ∧ (s0 < (l.length : Int)))) (tb ((decide ((z7 l s0.toNat).gen > gen))) (some ((wr (s0 + (1 : Int))))) (th (z0o was l gen s0) ((0 : Int)) fun s4 => (tb ((decide (s4 < (was.length : Int)))) none (some ((wr (s0 + (1 : Int))))))))) none)
theorem z64 (was : List Ex) (l : List Ex) (gen : Int) (s0 zz : Int) : z27 was l gen s0 = some zz → u5 Try.prog cf 0 (lp Try.prog 47 0) (z1c was l gen s0) (z1c was l gen zz) := by
  unfold z27
  exact tbD (fun h1 h1p => x8 fun h2 => tbD (fun h3 h3p => by intro e; injection e with e; subst e; exact d6 z9 (k := 300) (r := []) (hs := hz [(1, [.yes, .yes, .yes, .cells ((Ex.cells (z7 l s0.toNat)))]), (2, [.fc]), (5, [.yes]), (2, [])]) (ks := [0, 1, 2, 15, 16, 17]) (bs := []) kq (ac h1 (ac h2 (ac (fq (p := ((5 : Nat) ≤ (List.length (List.drop (s0.toNat * 5) (l.flatMap Ex.cells)))))) (ac (show (List.take 5 (List.drop (s0.toNat * 5) (l.flatMap Ex.cells))) = (Ex.cells (z7 l s0.toNat)) from (v4 bq bq)) (ac h3 an))))) kq) fun h3 h3p => z12 fun s4 h4 => tbD (fun h5 h5p => w6) fun h5 h5p => by intro e; injection e with e; subst e; exact d6 z9 (k := 300) (r := []) (hs := hz [(1, [.yes, .yes, .yes, .cells ((Ex.cells (z7 l s0.toNat)))]), (2, [.fc]), (5, [.no]), (3, [.head (z7i was l gen s0 s4)]), (1, [.no]), (2, [])]) (ks := [0, 1, 2, 15, 16, 17]) (bs := []) kq (ac h1 (ac h2 (ac (fq (p := ((5 : Nat) ≤ (List.length (List.drop (s0.toNat * 5) (l.flatMap Ex.cells)))))) (ac (show (List.take 5 (List.drop (s0.toNat * 5) (l.flatMap Ex.cells))) = (Ex.cells (z7 l s0.toNat)) from (v4 bq bq)) (ac h3 (ac (show x6 Try.prog cf (lp Try.prog 47 1) (znj was l gen s0) (z7i was l gen s0 s4) from (x6.of (zld was l gen s0) (x3 [] [] kq (.consn kq (.eqv tq rfl) (.consn kq (.eqv tq rfl) (.consn kq (.eqv tq rfl) (.consn kq (.eqv tq rfl) (.consn kq (.eqv tq rfl) (.consn kq (.eqv tq rfl) (.consn kq (.eqv tq rfl) (.consn kq (.pt rfl) (.consn kq (.eqv tq rfl) (.consn kq (.eqv tq rfl) (.consn kq (.eqv tq rfl) (.consn kq (.eqv tq rfl) .nil)))))))))))) (.cons (.old rfl rfl (.cells (.pl rfl pq))) .nil)) h4)) (ac h5 an))))))) kq) fun h1 h1p => w6
noncomputable abbrev z9b (was : List Ex) (l : List Ex) (gen : Int) (s0 : Int) : St := (St.mk [(0, (exs was)), (1, (exs l)), (2, (AV.i gen)), (15, (exs l)), (16, (AV.i (l.length : Int))), (17, (AV.i s0)), (18, (AV.b (decide (s0 < (l.length : Int))))), (19, (AV.ip (List.drop (s0.toNat * 5) (l.flatMap Ex.cells)))), (20, (AV.ag (xc (z7 l s0.toNat)))), (8, (AV.pt 0 0)), (21, (AV.pt 0 3)), (22, (AV.i (z7 l s0.toNat).gen)), (23, (AV.i gen)), (24, (AV.b (decide ((z7 l s0.toNat).gen > gen)))), (25, (exs was)), (26, (AV.i (was.length : Int))), (27, (AV.i 0))] 73 (AH.mk 1 [(0, (AObj.cells (xc (z7 l s0.toNat))))]) false)
noncomputable abbrev z2j (was : List Ex) (l : List Ex) (gen : Int) (s0 : Int) (s4 : Int) : St := (St.mk [(0, (exs was)), (1, (exs l)), (2, (AV.i gen)), (15, (exs l)), (16, (AV.i (l.length : Int))), (17, (AV.i s0)), (18, (AV.b (decide (s0 < (l.length : Int))))), (8, (AV.pt 0 0)), (24, (AV.b (decide ((z7 l s0.toNat).gen > gen)))), (25, (exs was)), (26, (AV.i (was.length : Int))), (27, (AV.i s4))] 73 (AH.mk 1 [(0, (AObj.cells (xc (z7 l s0.toNat))))]) false)
noncomputable def z23 (was : List Ex) (l : List Ex) (gen : Int) (s0 : Int) (s4 : Int) : Option (Int) :=
 (tb ((decide (s4 < (was.length : Int)))) (tp ((((0 : Int) ≤ s4) ∧ (s4 < (was.length : Int)))) (tc (z7a ((z7 was s4.toNat)) ((z7 l s0.toNat).lba) ((z7 l s0.toNat).len)) fun s7 => (tb ((!s7.2)) (some ((wr (s4 + (1 : Int))))) (tc (z7a ((z7 l s0.toNat)) (s7.1.lba) (s7.1.len)) fun s9 => (tb ((s9.1.kind != s7.1.kind)) none (tb ((s9.1.gen != s7.1.gen)) none (tb ((!(s9.1.d == s7.1.d))) none (some ((wr (s4 + (1 : Int)))))))))))) none)
theorem z8f (was : List Ex) (l : List Ex) (gen : Int) (s0 : Int) (s4 zz : Int) : z23 was l gen s0 s4 = some zz → u5 Try.prog cf 1 (lp Try.prog 47 1) (z2j was l gen s0 s4) (z2j was l gen s0 zz) := by
  unfold z23
  exact tbD (fun h5 h5p => x8 fun h6 => x5 fun s7 h7 => u0 (fun h8 => by intro e; injection e with e; subst e; exact d6 z9 (k := 300) (r := []) (hs := hz [(1, [.yes, .yes, .yes, .cells ((Ex.cells (z7 was s4.toNat)))]), (2, [.fc]), (1, [.fc]), (7, [.fres (.tu [Ex.av (s7.1), .b (s7.2)])]), (5, [.fc]), (3, [.yes]), (2, [])]) (ks := [0, 1, 2, 15, 16, 17, 18, 8, 24, 25, 26, 27]) (bs := [0]) kq (ac h5 (ac h6 (ac (fq (p := ((5 : Nat) ≤ (List.length (List.drop (s4.toNat * 5) (was.flatMap Ex.cells)))))) (ac (show (List.take 5 (List.drop (s4.toNat * 5) (was.flatMap Ex.cells))) = (Ex.cells (z7 was s4.toNat)) from (v4 bq bq)) (ac (d3 ((z7 was s4.toNat)) ((z7 l s0.toNat).lba) ((z7 l s0.toNat).len) _ h7).any0 (ac h8 an)))))) kq) fun h8 => x5 fun s9 h9 => tbN (fun h10 h10p => w6) fun h10 h10p => tbN (fun h11 h11p => w6) fun h11 h11p => u0 (fun h12 => w6) fun h12 => by intro e; injection e with e; subst e; exact d6 z9 (k := 300) (r := []) (hs := hz [(1, [.yes, .yes, .yes, .cells ((Ex.cells (z7 was s4.toNat)))]), (2, [.fc]), (1, [.fc]), (7, [.fres (.tu [Ex.av (s7.1), .b (s7.2)])]), (5, [.fc]), (3, [.no]), (1, [.fc]), (7, [.fres (.tu [Ex.av (s9.1), .b (s9.2)])]), (5, [.fc]), (9, [.no]), (1, [.no]), (2, [.no]), (1, [.no]), (2, [.no]), (1, [.no]), (1, [.no]), (1, [.no]), (2, [.no]), (1, [.no]), (2, [.no]), (4, [.yes, .str (s9.1.d)]), (1, [.yes, .str (s7.1.d)]), (2, [.no]), (1, [.no, .no]), (2, [])]) (ks := [0, 1, 2, 15, 16, 17, 18, 8, 24, 25, 26, 27]) (bs := [0]) kq (ac h5 (ac h6 (ac (fq (p := ((5 : Nat) ≤ (List.length (List.drop (s4.toNat * 5) (was.flatMap Ex.cells)))))) (ac (show (List.take 5 (List.drop (s4.toNat * 5) (was.flatMap Ex.cells))) = (Ex.cells (z7 was s4.toNat)) from (v4 bq bq)) (ac (d3 ((z7 was s4.toNat)) ((z7 l s0.toNat).lba) ((z7 l s0.toNat).len) _ h7).any0 (ac h8 (ac (d3 ((z7 l s0.toNat)) (s7.1.lba) (s7.1.len) _ h9).any0 (ac h10 (ac h10 (ac h10 (ac h10 (ac h10 (ac h10 (ac h11 (ac h11 (ac h11 (ac h11 (ac h11 (ac (tq (p := ((List.length (List.map AV.y s9.1.d)) = (s9.1.d.length * 1)))) (ac (tq (p := d4 ((List.map AV.y s9.1.d)) = some (s9.1.d))) (ac (tq (p := ((List.length (List.map AV.y s7.1.d)) = (s7.1.d.length * 1)))) (ac (tq (p := d4 ((List.map AV.y s7.1.d)) = some (s7.1.d))) (ac h11 (ac h11 (ac h12 an))))))))))))))))))))))))) kq) fun h5 h5p => w6
noncomputable def ze7 (was : List Ex) (l : List Ex) (gen : Int) : Option (Bool) :=
 (th (z27 was l gen) ((0 : Int)) fun s0 => (tb ((decide (s0 < (l.length : Int)))) (tp ((((0 : Int) ≤ s0) ∧ (s0 < (l.length : Int)))) (tb ((decide ((z7 l s0.toNat).gen > gen))) none (th (z23 was l gen s0) ((0 : Int)) fun s4 => (tb ((decide (s4 < (was.length : Int)))) (tp ((((0 : Int) ≤ s4) ∧ (s4 < (was.length : Int)))) (tc (z7a ((z7 was s4.toNat)) ((z7 l s0.toNat).lba) ((z7 l s0.toNat).len)) fun s7 => (tb ((!s7.2)) none (tc (z7a ((z7 l s0.toNat)) (s7.1.lba) (s7.1.len)) fun s9 => (tb ((s9.1.kind != s7.1.kind)) (some (false)) (tb ((s9.1.gen != s7.1.gen)) (some (false)) (tb ((!(s9.1.d == s7.1.d))) (some (false)) none))))))) none)))) (some (true))))
abbrev zv0 (was : List Ex) (l : List Ex) (gen : Int) (r : Bool) : Prop := z08 Try.prog cf true 47 [exs (was), exs (l), .i (gen)] (.b (r))
theorem zea (was : List Ex) (l : List Ex) (gen : Int) (r : Bool) : ze7 was l gen = some r → zv0 was l gen r := by
  unfold ze7
  exact z12 fun s0 h0 => tbD (fun h1 h1p => x8 fun h2 => tbD (fun h3 h3p => w6) fun h3 h3p => z12 fun s4 h4 => tbD (fun h5 h5p => x8 fun h6 => x5 fun s7 h7 => u0 (fun h8 => w6) fun h8 => x5 fun s9 h9 => tbN (fun h10 h10p => by intro e; injection e with e; subst e; exact x0 z9 (k := 300) (r := []) (hs := hz [(4, [.head (z1c was l gen s0)]), (1, [.yes, .yes, .yes, .cells ((Ex.cells (z7 l s0.toNat)))]), (2, [.fc]), (5, [.no]), (3, [.head (z2j was l gen s0 s4)]), (1, [.yes, .yes, .yes, .cells ((Ex.cells (z7 was s4.toNat)))]), (2, [.fc]), (1, [.fc]), (7, [.fres (.tu [Ex.av (s7.1), .b (s7.2)])]), (5, [.fc]), (3, [.no]), (1, [.fc]), (7, [.fres (.tu [Ex.av (s9.1), .b (s9.2)])]), (5, [.fc]), (9, [.yes, .yes, .yes, .yes, .yes, .yes]), (10, [])]) (raw := (AV.b false)) kq (ac (show x6 Try.prog cf (lp Try.prog 47 0) (z7e was l gen) (z1c was l gen s0) from (x6.of (z64 was l gen) (x3 [] [] kq (.consn kq (.eqv tq rfl) (.consn kq (.eqv tq rfl) (.consn kq (.eqv tq rfl) (.consn kq (.eqv tq rfl) (.consn kq (.eqv tq rfl) (.consn kq (.eqv tq rfl) .nil)))))) .nil) h0)) (ac h1 (ac h2 (ac (fq (p := ((5 : Nat) ≤ (List.length (List.drop (s0.toNat * 5) (l.flatMap Ex.cells)))))) (ac (show (List.take 5 (List.drop (s0.toNat * 5) (l.flatMap Ex.cells))) = (Ex.cells (z7 l s0.toNat)) from (v4 bq bq)) (ac h3 (ac (show x6 Try.prog cf (lp Try.prog 47 1) (z9b was l gen s0) (z2j was l gen s0 s4) from (x6.of (z8f was l gen s0) (x3 [] [] kq (.consn kq (.eqv tq rfl) (.consn kq (.eqv tq rfl) (.consn kq (.eqv tq rfl) (.consn kq (.eqv tq rfl) (.consn kq (.eqv tq rfl) (.consn kq (.eqv tq rfl) (.consn kq (.eqv tq rfl) (.consn kq (.pt rfl) (.consn kq (.eqv tq rfl) (.consn kq (.eqv tq rfl) (.consn kq (.eqv tq rfl) (.consn kq (.eqv tq rfl) .nil)))))))))))) (.cons (.old rfl rfl (.cells (.pl rfl pq))) .nil)) h4)) (ac h5 (ac h6 (ac (fq (p := ((5 : Nat) ≤ (List.length (List.drop (s4.toNat * 5) (was.flatMap Ex.cells)))))) (ac (show (List.take 5 (List.drop (s4.toNat * 5) (was.flatMap Ex.cells))) = (Ex.cells (z7 was s4.toNat)) from (v4 bq bq)) (ac (d3 ((z7 was s4.toNat)) ((z7 l s0.toNat).lba) ((z7 l s0.toNat).len) _ h7).any0 (ac h8 (ac (d3 ((z7 l s0.toNat)) (s7.1.lba) (s7.1.len) _ h9).any0 (ac h10 (ac h10 (ac h10 (ac h10 (ac h10 (ac h10 an)))))))))))))))))))) tq) fun h10 h10p => tbN (fun h11 h11p => by intro e; injection e with e; subst e; exact x0 z9 (k := 300) (r := []) (hs := hz [(4, [.head (z1c was l gen s0)]), (1, [.yes, .yes, .yes, .cells ((Ex.cells (z7 l s0.toNat)))]), (2, [.fc]), (5, [.no]), (3, [.head (z2j was l gen s0 s4)]), (1, [.yes, .yes, .yes, .cells ((Ex.cells (z7 was s4.toNat)))]), (2, [.fc]), (1, [.fc]), (7, [.fres (.tu [Ex.av (s7.1), .b (s7.2)])]), (5, [.fc]), (3, [.no]), (1, [.fc]), (7, [.fres (.tu [Ex.av (s9.1), .b (s9.2)])]), (5, [.fc]), (9, [.no]), (1, [.no]), (2, [.no]), (1, [.no]), (2, [.no]), (1, [.no]), (1, [.yes, .yes, .yes, .yes, .yes, .yes, .yes]), (2, [])]) (raw := (AV.b false)) kq (ac (show x6 Try.prog cf (lp Try.prog 47 0) (z7e was l gen) (z1c was l gen s0) from (x6.of (z64 was l gen) (x3 [] [] kq (.consn kq (.eqv tq rfl) (.consn kq (.eqv tq rfl) (.consn kq (.eqv tq rfl) (.consn kq (.eqv tq rfl) (.consn kq (.eqv tq rfl) (.consn kq (.eqv tq rfl) .nil)))))) .nil) h0)) (ac h1 (ac h2 (ac (fq (p := ((5 : Nat) ≤ (List.length (List.drop (s0.toNat * 5) (l.flatMap Ex.cells)))))) (ac (show (List.take 5 (List.drop (s0.toNat * 5) (l.flatMap Ex.cells))) = (Ex.cells (z7 l s0.toNat)) from (v4 bq bq)) (ac h3 (ac (show x6 Try.prog cf (lp Try.prog 47 1) (z9b was l gen s0) (z2j was l gen s0 s4) from (x6.of (z8f was l gen s0) (x3 [] [] kq (.consn kq (.eqv tq rfl) (.consn kq (.eqv tq rfl) (.consn kq (.eqv tq rfl) (.consn kq (.eqv tq rfl) (.consn kq (.eqv tq rfl) (.consn kq (.eqv tq rfl) (.consn kq (.eqv tq rfl) (.consn kq (.pt rfl) (.consn kq (.eqv tq rfl) (.consn kq (.eqv tq rfl) (.consn kq (.eqv tq rfl) (.consn kq (.eqv tq rfl) .nil)))))))))))) (.cons (.old rfl rfl (.cells (.pl rfl pq))) .nil)) h4)) (ac h5 (ac h6 (ac (fq (p := ((5 : Nat) ≤ (List.length (List.drop (s4.toNat * 5) (was.flatMap Ex.cells)))))) (ac (show (List.take 5 (List.drop (s4.toNat * 5) (was.flatMap Ex.cells))) = (Ex.cells (z7 was s4.toNat)) from (v4 bq bq)) (ac (d3 ((z7 was s4.toNat)) ((z7 l s0.toNat).lba) ((z7 l s0.toNat).len) _ h7).any0 (ac h8 (ac (d3 ((z7 l s0.toNat)) (s7.1.lba) (s7.1.len) _ h9).any0 (ac h10 (ac h10 (ac h10 (ac h10 (ac h10 (ac h10 (ac h11 (ac h11 (ac h11 (ac h11 (ac h11 (ac h11 (ac h11 an))))))))))))))))))))))))))) tq) fun h11 h11p => u0 (fun h12 => by intro e; injection e with e; subst e; exact x0 z9 (k := 300) (r := []) (hs := hz [(4, [.head (z1c was l gen s0)]), (1, [.yes, .yes, .yes, .cells ((Ex.cells (z7 l s0.toNat)))]), (2, [.fc]), (5, [.no]), (3, [.head (z2j was l gen s0 s4)]), (1, [.yes, .yes, .yes, .cells ((Ex.cells (z7 was s4.toNat)))]), (2, [.fc]), (1, [.fc]), (7, [.fres (.tu [Ex.av (s7.1), .b (s7.2)])]), (5, [.fc]), (3, [.no]), (1, [.fc]), (7, [.fres (.tu [Ex.av (s9.1), .b (s9.2)])]), (5, [.fc]), (9, [.no]), (1, [.no]), (2, [.no]), (1, [.no]), (2, [.no]), (1, [.no]), (1, [.no]), (1, [.no]), (2, [.no]), (1, [.no]), (2, [.no]), (4, [.yes, .str (s9.1.d)]), (1, [.yes, .str (s7.1.d)]), (2, [.no]), (1, [.no, .yes]), (1, [])]) (raw := (AV.b false)) kq (ac (show x6 Try.prog cf (lp Try.prog 47 0) (z7e was l gen) (z1c was l gen s0) from (x6.of (z64 was l gen) (x3 [] [] kq (.consn kq (.eqv tq rfl) (.consn kq (.eqv tq rfl) (.consn kq (.eqv tq rfl) (.consn kq (.eqv tq rfl) (.consn kq (.eqv tq rfl) (.consn kq (.eqv tq rfl) .nil)))))) .nil) h0)) (ac h1 (ac h2 (ac (fq (p := ((5 : Nat) ≤ (List.length (List.drop (s0.toNat * 5) (l.flatMap Ex.cells)))))) (ac (show (List.take 5 (List.drop (s0.toNat * 5) (l.flatMap Ex.cells))) = (Ex.cells (z7 l s0.toNat)) from (v4 bq bq)) (ac h3 (ac (show x6 Try.prog cf (lp Try.prog 47 1) (z9b was l gen s0) (z2j was l gen s0 s4) from (x6.of (z8f was l gen s0) (x3 [] [] kq (.consn kq (.eqv tq rfl) (.consn kq (.eqv tq rfl) (.consn kq (.eqv tq rfl) (.consn kq (.eqv tq rfl) (.consn kq (.eqv tq rfl) (.consn kq (.eqv tq rfl) (.consn kq (.eqv tq rfl) (.consn kq (.pt rfl) (.consn kq (.eqv tq rfl) (.consn kq (.eqv tq rfl) (.consn kq (.eqv tq rfl) (.consn kq (.eqv tq rfl) .nil)))))))))))) (.cons (.old rfl rfl (.cells (.pl rfl pq))) .nil)) h4)) (ac h5 (ac h6 (ac (fq (p := ((5 : Nat) ≤ (List.length (List.drop (s4.toNat * 5) (was.flatMap Ex.cells)))))) (ac (show (List.take 5 (List.drop (s4.toNat * 5) (was.flatMap Ex.cells))) = (Ex.cells (z7 was s4.toNat)) from (v4 bq bq)) (ac (d3 ((z7 was s4.toNat)) ((z7 l s0.toNat).lba) ((z7 l s0.toNat).len) _ h7).any0 (ac h8 (ac (d3 ((z7 l s0.toNat)) (s7.1.lba) (s7.1.len) _ h9).any0 (ac h10 (ac h10 (ac h10 (ac h10 (ac h10 (ac h10 (ac h11 (ac h11 (ac h11 (ac h11 (ac h11 (ac (tq (p := ((List.length (List.map AV.y s9.1.d)) = (s9.1.d.length * 1)))) (ac (tq (p := d4 ((List.map AV.y s9.1.d)) = some (s9.1.d))) (ac (tq (p := ((List.length (List.map AV.y s7.1.d)) = (s7.1.d.length * 1)))) (ac (tq (p := d4 ((List.map AV.y s7.1.d)) = some (s7.1.d))) (ac h11 (ac h11 (ac h12 an)))))))))))))))))))))))))))))))) tq) fun h12 => w6) fun h5 h5p => w6) fun h1 h1p => by intro e; injection e with e; subst e; exact x0 z9 (k := 300) (r := []) (hs := hz [(4, [.head (z1c was l gen s0)]), (1, [.no]), (1, [])]) (raw := (AV.b true)) kq (ac (show x6 Try.prog cf (lp Try.prog 47 0) (z7e was l gen) (z1c was l gen s0) from (x6.of (z64 was l gen) (x3 [] [] kq (.consn kq (.eqv tq rfl) (.consn kq (.eqv tq rfl) (.consn kq (.eqv tq rfl) (.consn kq (.eqv tq rfl) (.consn kq (.eqv tq rfl) (.consn kq (.eqv tq rfl) .nil)))))) .nil) h0)) (ac h1 an)) tq
noncomputable abbrev z87 (s : Sa) (s0 : Bool) (s2 : Bool) (s5 : Bool) : St := (St.mk [(0, (AV.ag [(AV.i s.blocks), (AV.i s.gen), (exs s.map), (AV.sl s.points.length (s.points.flatMap Po.cells)), (AV.i s.last), (bys s.staged)])), (1, (AV.pt 0 0)), (2, (AV.i 0)), (7, (AV.pt 0 0)), (8, (AV.i s.blocks)), (9, (AV.pt 0 2)), (10, (exs s.map)), (11, (AV.pt 0 1)), (12, (AV.i s.gen)), (13, (AV.b s0)), (14, (AV.b s0)), (15, (AV.pt 0 1)), (16, (AV.i s.gen)), (17, (AV.b s2)), (18, (AV.b s2)), (19, (AV.b s2)), (20, (AV.pt 0 3)), (21, (AV.sl s.points.length (s.points.flatMap Po.cells))), (22, (AV.i (s.points.length : Int))), (23, (AV.b (decide ((s.points.length : Int) ≤ (4 : Int))))), (24, (AV.b (decide ((s.points.length : Int) ≤ (4 : Int))))), (25, (AV.b (decide ((s.points.length : Int) ≤ (4 : Int))))), (26, (AV.pt 0 4)), (27, (AV.i s.last)), (28, (AV.b s5)), (29, (AV.b s5)), (30, (AV.b s5)), (31, (AV.pt 0 5)), (32, (bys s.staged)), (33, (AV.i (s.staged.length : Int))), (34, (AV.b (decide ((s.staged.length : Int) ≤ (4000 : Int))))), (35, (AV.b (decide ((s.staged.length : Int) ≤ (4000 : Int))))), (3, (AV.b (decide ((s.staged.length : Int) ≤ (4000 : Int))))), (4, (AV.pt 1 0)), (36, (AV.pt 0 3)), (37, (AV.sl s.points.length (s.points.flatMap Po.cells))), (38, (AV.i (s.points.length : Int))), (39, (AV.i 0))] 104 (AH.mk 2 [(1, (AObj.cells [(AV.i 0), (AV.i 0), AV.nl])), (0, (AObj.cells [(AV.i s.blocks), (AV.i s.gen), (exs s.map), (AV.sl s.points.length (s.points.flatMap Po.cells)), (AV.i s.last), (bys s.staged)]))]) false)
noncomputable abbrev z1r (s : Sa) (s0 : Bool) (s2 : Bool) (s5 : Bool) (s7 : Bool × Int × Int × Int × List Ex) : St := (St.mk [(0, (AV.ag [(AV.i s.blocks), (AV.i s.gen), (exs s.map), (AV.sl s.points.length (s.points.flatMap Po.cells)), (AV.i s.last), (bys s.staged)])), (1, (AV.pt 0 0)), (2, (AV.i 0)), (3, (AV.b s7.1)), (4, (AV.pt 1 0)), (37, (AV.sl s.points.length (s.points.flatMap Po.cells))), (38, (AV.i (s.points.length : Int))), (39, (AV.i s7.2.1))] 104 (AH.mk 2 [(1, (AObj.cells [(AV.i s7.2.2.1), (AV.i s7.2.2.2.1), (exs s7.2.2.2.2)])), (0, (AObj.cells [(AV.i s.blocks), (AV.i s.gen), (exs s.map), (AV.sl s.points.length (s.points.flatMap Po.cells)), (AV.i s.last), (bys s.staged)]))]) false)
noncomputable def z15 (s : Sa) (s0 : Bool) (s2 : Bool) (s5 : Bool) (s7 : Bool × Int × Int × Int × List Ex) : Option (Bool × Int × Int × Int × List Ex) :=
 (tb ((decide (s7.2.1 < (s.points.length : Int)))) (tp ((((0 : Int) ≤ s7.2.1) ∧ (s7.2.1 < (s.points.length : Int)))) (tb (s7.1) (tc (zgr (s.blocks) ((v9 s.points s7.2.1.toNat).map) ((v9 s.points s7.2.1.toNat).gen)) fun s11 => (tb (s11) (tb ((decide ((v9 s.points s7.2.1.toNat).id > s7.2.2.1))) (tb ((decide ((v9 s.points s7.2.1.toNat).id ≤ s.last))) (tb ((decide ((v9 s.points s7.2.1.toNat).gen > s7.2.2.2.1))) (tb ((decide ((v9 s.points s7.2.1.toNat).gen < s.gen))) (tc (ze7 (s7.2.2.2.2) ((v9 s.points s7.2.1.toNat).map) (s7.2.2.2.1)) fun s17 => (some ((s17, ((wr (s7.2.1 + (1 : Int))), ((v9 s.points s7.2.1.toNat).id, ((v9 s.points s7.2.1.toNat).gen, (v9 s.points s7.2.1.toNat).map))))))) (some ((false, ((wr (s7.2.1 + (1 : Int))), ((v9 s.points s7.2.1.toNat).id, ((v9 s.points s7.2.1.toNat).gen, (v9 s.points s7.2.1.toNat).map))))))) (some ((false, ((wr (s7.2.1 + (1 : Int))), ((v9 s.points s7.2.1.toNat).id, ((v9 s.points s7.2.1.toNat).gen, (v9 s.points s7.2.1.toNat).map))))))) (some ((false, ((wr (s7.2.1 + (1 : Int))), ((v9 s.points s7.2.1.toNat).id, ((v9 s.points s7.2.1.toNat).gen, (v9 s.points s7.2.1.toNat).map))))))) (some ((false, ((wr (s7.2.1 + (1 : Int))), ((v9 s.points s7.2.1.toNat).id, ((v9 s.points s7.2.1.toNat).gen, (v9 s.points s7.2.1.toNat).map))))))) (some ((false, ((wr (s7.2.1 + (1 : Int))), ((v9 s.points s7.2.1.toNat).id, ((v9 s.points s7.2.1.toNat).gen, (v9 s.points s7.2.1.toNat).map)))))))) (some ((false, ((wr (s7.2.1 + (1 : Int))), ((v9 s.points s7.2.1.toNat).id, ((v9 s.points s7.2.1.toNat).gen, (v9 s.points s7.2.1.toNat).map)))))))) none)
theorem z75 (s : Sa) (s0 : Bool) (s2 : Bool) (s5 : Bool) (s7 zz : Bool × Int × Int × Int × List Ex) : z15 s s0 s2 s5 s7 = some zz → u5 Try.prog cf 2 (lp Try.prog 21 0) (z1r s s0 s2 s5 s7) (z1r s s0 s2 s5 zz) := by
  unfold z15
  exact tbD (fun h8 h8p => x8 fun h9 => u0 (fun h10 => x5 fun s11 h11 => u0 (fun h12 => tbD (fun h13 h13p => tbD (fun h14 h14p => tbD (fun h15 h15p => tbD (fun h16 h16p => x5 fun s17 h17 => by intro e; injection e with e; subst e; exact d6 z9 (k := 300) (r := []) (hs := hz [(1, [.yes, .yes, .yes, .cells ((Po.cells (v9 s.points s7.2.1.toNat)))]), (2, [.fc]), (2, [.yes]), (1, [.yes]), (2, [.yes]), (1, [.yes]), (2, [.yes]), (1, [.yes]), (2, [.yes]), (1, [.fres (.b (s11)), .yes]), (1, [.yes]), (1, [.yes]), (2, [.yes]), (1, [.yes]), (2, [.yes]), (1, [.yes]), (1, [.yes]), (1, [.yes]), (2, [.yes]), (1, [.yes]), (2, [.yes]), (1, [.yes]), (1, [.yes]), (1, [.yes]), (2, [.yes]), (1, [.yes]), (2, [.yes]), (1, [.yes]), (1, [.yes]), (1, [.yes]), (2, [.yes]), (1, [.yes]), (2, [.yes]), (1, [.yes]), (1, [.yes]), (1, [.yes]), (2, [.yes]), (1, [.yes]), (2, [.yes]), (1, [.yes]), (2, [.yes]), (1, [.fres (.b (s17)), .yes]), (2, [.fc]), (1, [.fc]), (2, [])]) (ks := [0, 1, 2, 3, 4, 37, 38, 39]) (bs := [1, 0]) kq (ac h8 (ac h9 (ac (fq (p := ((3 : Nat) ≤ (List.length (List.drop (s7.2.1.toNat * 3) (s.points.flatMap Po.cells)))))) (ac (show (List.take 3 (List.drop (s7.2.1.toNat * 3) (s.points.flatMap Po.cells))) = (Po.cells (v9 s.points s7.2.1.toNat)) from (z0p bq bq)) (ac h10 (ac h10 (ac h10 (ac h10 (ac h10 (ac h10 (ac h10 (ac (z1j (s.blocks) ((v9 s.points s7.2.1.toNat).map) ((v9 s.points s7.2.1.toNat).gen) _ h11).any0 (ac h10 (ac h12 (ac h12 (ac h12 (ac h12 (ac h12 (ac h12 (ac h13 (ac h13 (ac h13 (ac h13 (ac h13 (ac h13 (ac h14 (ac h14 (ac h14 (ac h14 (ac h14 (ac h14 (ac h15 (ac h15 (ac h15 (ac h15 (ac h15 (ac h15 (ac h16 (ac h16 (ac h16 (ac h16 (ac h16 (ac h16 (ac h16 (ac (zea (s7.2.2.2.2) ((v9 s.points s7.2.1.toNat).map) (s7.2.2.2.1) _ h17).any0 (ac h16 an)))))))))))))))))))))))))))))))))))))))))))))) kq) fun h16 h16p => by intro e; injection e with e; subst e; exact d6 z9 (k := 300) (r := []) (hs := hz [(1, [.yes, .yes, .yes, .cells ((Po.cells (v9 s.points s7.2.1.toNat)))]), (2, [.fc]), (2, [.yes]), (1, [.yes]), (2, [.yes]), (1, [.yes]), (2, [.yes]), (1, [.yes]), (2, [.yes]), (1, [.fres (.b (s11)), .yes]), (1, [.yes]), (1, [.yes]), (2, [.yes]), (1, [.yes]), (2, [.yes]), (1, [.yes]), (1, [.yes]), (1, [.yes]), (2, [.yes]), (1, [.yes]), (2, [.yes]), (1, [.yes]), (1, [.yes]), (1, [.yes]), (2, [.yes]), (1, [.yes]), (2, [.yes]), (1, [.yes]), (1, [.yes]), (1, [.yes]), (2, [.yes]), (1, [.yes]), (2, [.yes]), (1, [.yes]), (1, [.no, .no, .no, .no, .no, .no, .no, .no]), (2, [.fc]), (1, [.fc]), (2, [])]) (ks := [0, 1, 2, 3, 4, 37, 38, 39]) (bs := [1, 0]) kq (ac h8 (ac h9 (ac (fq (p := ((3 : Nat) ≤ (List.length (List.drop (s7.2.1.toNat * 3) (s.points.flatMap Po.cells)))))) (ac (show (List.take 3 (List.drop (s7.2.1.toNat * 3) (s.points.flatMap Po.cells))) = (Po.cells (v9 s.points s7.2.1.toNat)) from (z0p bq bq)) (ac h10 (ac h10 (ac h10 (ac h10 (ac h10 (ac h10 (ac h10 (ac (z1j (s.blocks) ((v9 s.points s7.2.1.toNat).map) ((v9 s.points s7.2.1.toNat).gen) _ h11).any0 (ac h10 (ac h12 (ac h12 (ac h12 (ac h12 (ac h12 (ac h12 (ac h13 (ac h13 (ac h13 (ac h13 (ac h13 (ac h13 (ac h14 (ac h14 (ac h14 (ac h14 (ac h14 (ac h14 (ac h15 (ac h15 (ac h15 (ac h15 (ac h15 (ac h15 (ac h16 (ac h16 (ac h16 (ac h16 (ac h16 (ac h16 (ac h16 (ac h16 an))))))))))))))))))))))))))))))))))))))))))))) kq) fun h15 h15p => by intro e; injection e with e; subst e; exact d6 z9 (k := 300) (r := []) (hs := hz [(1, [.yes, .yes, .yes, .cells ((Po.cells (v9 s.points s7.2.1.toNat)))]), (2, [.fc]), (2, [.yes]), (1, [.yes]), (2, [.yes]), (1, [.yes]), (2, [.yes]), (1, [.yes]), (2, [.yes]), (1, [.fres (.b (s11)), .yes]), (1, [.yes]), (1, [.yes]), (2, [.yes]), (1, [.yes]), (2, [.yes]), (1, [.yes]), (1, [.yes]), (1, [.yes]), (2, [.yes]), (1, [.yes]), (2, [.yes]), (1, [.yes]), (1, [.yes]), (1, [.yes]), (2, [.yes]), (1, [.yes]), (2, [.yes]), (1, [.yes]), (1, [.no, .no, .no, .no, .no, .no]), (11, [.fc]), (1, [.fc]), (2, [])]) (ks := [0, 1, 2, 3, 4, 37, 38, 39]) (bs := [1, 0]) kq (ac h8 (ac h9 (ac (fq (p := ((3 : Nat) ≤ (List.length (List.drop (s7.2.1.toNat * 3) (s.points.flatMap Po.cells)))))) (ac (show (List.take 3 (List.drop (s7.2.1.toNat * 3) (s.points.flatMap Po.cells))) = (Po.cells (v9 s.points s7.2.1.toNat)) from (z0p bq bq)) (ac h10 (ac h10 (ac h10 (ac h10 (ac h10 (ac h10 (ac h10 (ac (z1j (s.blocks) ((v9 s.points s7.2.1.toNat).map) ((v9 s.points s7.2.1.toNat).gen) _ h11).any0 (ac h10 (ac h12 (ac h12 (ac h12 (ac h12 (ac h12 (ac h12 (ac h13 (ac h13 (ac h13 (ac h13 (ac h13 (ac h13 (ac h14 (ac h14 (ac h14 (ac h14 (ac h14 (ac h14 (ac h15 (ac h15 (ac h15 (ac h15 (ac h15 (ac h15 an))))))))))))))))))))))))))))))))))))) kq) fun h14 h14p => by intro e; injection e with e; subst e; exact d6 z9 (k := 300) (r := []) (hs := hz [(1, [.yes, .yes, .yes, .cells ((Po.cells (v9 s.points s7.2.1.toNat)))]), (2, [.fc]), (2, [.yes]), (1, [.yes]), (2, [.yes]), (1, [.yes]), (2, [.yes]), (1, [.yes]), (2, [.yes]), (1, [.fres (.b (s11)), .yes]), (1, [.yes]), (1, [.yes]), (2, [.yes]), (1, [.yes]), (2, [.yes]), (1, [.yes]), (1, [.yes]), (1, [.yes]), (2, [.yes]), (1, [.yes]), (2, [.yes]), (1, [.yes]), (1, [.no, .no, .no, .no, .no, .no]), (18, [.fc]), (1, [.fc]), (2, [])]) (ks := [0, 1, 2, 3, 4, 37, 38, 39]) (bs := [1, 0]) kq (ac h8 (ac h9 (ac (fq (p := ((3 : Nat) ≤ (List.length (List.drop (s7.2.1.toNat * 3) (s.points.flatMap Po.cells)))))) (ac (show (List.take 3 (List.drop (s7.2.1.toNat * 3) (s.points.flatMap Po.cells))) = (Po.cells (v9 s.points s7.2.1.toNat)) from (z0p bq bq)) (ac h10 (ac h10 (ac h10 (ac h10 (ac h10 (ac h10 (ac h10 (ac (z1j (s.blocks) ((v9 s.points s7.2.1.toNat).map) ((v9 s.points s7.2.1.toNat).gen) _ h11).any0 (ac h10 (ac h12 (ac h12 (ac h12 (ac h12 (ac h12 (ac h12 (ac h13 (ac h13 (ac h13 (ac h13 (ac h13 (ac h13 (ac h14 (ac h14 (ac h14 (ac h14 (ac h14 (ac h14 an))))))))))))))))))))))))))))))) kq) fun h13 h13p => by intro e; injection e with e; subst e; exact d6 z9 (k := 300) (r := []) (hs := hz [(1, [.yes, .yes, .yes, .cells ((Po.cells (v9 s.points s7.2.1.toNat)))]), (2, [.fc]), (2, [.yes]), (1, [.yes]), (2, [.yes]), (1, [.yes]), (2, [.yes]), (1, [.yes]), (2, [.yes]), (1, [.fres (.b (s11)), .yes]), (1, [.yes]), (1, [.yes]), (2, [.yes]), (1, [.yes]), (2, [.yes]), (1, [.yes]), (1, [.no, .no, .no, .no, .no, .no]), (25, [.fc]), (1, [.fc]), (2, [])]) (ks := [0, 1, 2, 3, 4, 37, 38, 39]) (bs := [1, 0]) kq (ac h8 (ac h9 (ac (fq (p := ((3 : Nat) ≤ (List.length (List.drop (s7.2.1.toNat * 3) (s.points.flatMap Po.cells)))))) (ac (show (List.take 3 (List.drop (s7.2.1.toNat * 3) (s.points.flatMap Po.cells))) = (Po.cells (v9 s.points s7.2.1.toNat)) from (z0p bq bq)) (ac h10 (ac h10 (ac h10 (ac h10 (ac h10 (ac h10 (ac h10 (ac (z1j (s.blocks) ((v9 s.points s7.2.1.toNat).map) ((v9 s.points s7.2.1.toNat).gen) _ h11).any0 (ac h10 (ac h12 (ac h12 (ac h12 (ac h12 (ac h12 (ac h12 (ac h13 (ac h13 (ac h13 (ac h13 (ac h13 (ac h13 an))))))))))))))))))))))))) kq) fun h12 => by intro e; injection e with e; subst e; exact d6 z9 (k := 300) (r := []) (hs := hz [(1, [.yes, .yes, .yes, .cells ((Po.cells (v9 s.points s7.2.1.toNat)))]), (2, [.fc]), (2, [.yes]), (1, [.yes]), (2, [.yes]), (1, [.yes]), (2, [.yes]), (1, [.yes]), (2, [.yes]), (1, [.fres (.b (s11)), .yes]), (1, [.no, .no, .no, .no, .no, .no]), (32, [.fc]), (1, [.fc]), (2, [])]) (ks := [0, 1, 2, 3, 4, 37, 38, 39]) (bs := [1, 0]) kq (ac h8 (ac h9 (ac (fq (p := ((3 : Nat) ≤ (List.length (List.drop (s7.2.1.toNat * 3) (s.points.flatMap Po.cells)))))) (ac (show (List.take 3 (List.drop (s7.2.1.toNat * 3) (s.points.flatMap Po.cells))) = (Po.cells (v9 s.points s7.2.1.toNat)) from (z0p bq bq)) (ac h10 (ac h10 (ac h10 (ac h10 (ac h10 (ac h10 (ac h10 (ac (z1j (s.blocks) ((v9 s.points s7.2.1.toNat).map) ((v9 s.points s7.2.1.toNat).gen) _ h11).any0 (ac h10 (ac h12 (ac h12 (ac h12 (ac h12 (ac h12 (ac h12 an))))))))))))))))))) kq) fun h10 => by intro e; injection e with e; subst e; exact d6 z9 (k := 300) (r := []) (hs := hz [(1, [.yes, .yes, .yes, .cells ((Po.cells (v9 s.points s7.2.1.toNat)))]), (2, [.fc]), (2, [.no, .no, .no, .no, .no, .no, .no, .no]), (39, [.fc]), (1, [.fc]), (2, [])]) (ks := [0, 1, 2, 3, 4, 37, 38, 39]) (bs := [1, 0]) kq (ac h8 (ac h9 (ac (fq (p := ((3 : Nat) ≤ (List.length (List.drop (s7.2.1.toNat * 3) (s.points.flatMap Po.cells)))))) (ac (show (List.take 3 (List.drop (s7.2.1.toNat * 3) (s.points.flatMap Po.cells))) = (Po.cells (v9 s.points s7.2.1.toNat)) from (z0p bq bq)) (ac h10 (ac h10 (ac h10 (ac h10 (ac h10 (ac h10 (ac h10 (ac h10 an)))))))))))) kq) fun h8 h8p => w6
noncomputable abbrev zl4 (s : Sa) (s0 : Bool) (s2 : Bool) (s5 : Bool) : St := (St.mk [(0, (AV.ag [(AV.i s.blocks), (AV.i s.gen), (exs s.map), (AV.sl s.points.length (s.points.flatMap Po.cells)), (AV.i s.last), (bys s.staged)])), (1, (AV.pt 0 0)), (2, (AV.i 0)), (7, (AV.pt 0 0)), (8, (AV.i s.blocks)), (9, (AV.pt 0 2)), (10, (exs s.map)), (11, (AV.pt 0 1)), (12, (AV.i s.gen)), (13, (AV.b s0)), (14, (AV.b s0)), (15, (AV.pt 0 1)), (16, (AV.i s.gen)), (17, (AV.b s2)), (18, (AV.b s2)), (19, (AV.b s2)), (20, (AV.pt 0 3)), (21, (AV.sl s.points.length (s.points.flatMap Po.cells))), (22, (AV.i (s.points.length : Int))), (23, (AV.b (decide ((s.points.length : Int) ≤ (4 : Int))))), (24, (AV.b (decide ((s.points.length : Int) ≤ (4 : Int))))), (25, (AV.b (decide ((s.points.length : Int) ≤ (4 : Int))))), (26, (AV.pt 0 4)), (27, (AV.i s.last)), (28, (AV.b s5)), (29, (AV.b s5)), (30, (AV.b s5)), (31, (AV.tu ([] : List AV))), (32, (AV.tu ([] : List AV))), (33, (AV.tu ([] : List AV))), (34, (AV.tu ([] : List AV))), (35, (AV.b false)), (3, (AV.b false)), (4, (AV.pt 1 0)), (36, (AV.pt 0 3)), (37, (AV.sl s.points.length (s.points.flatMap Po.cells))), (38, (AV.i (s.points.length : Int))), (39, (AV.i 0))] 104 (AH.mk 2 [(1, (AObj.cells [(AV.i 0), (AV.i 0), AV.nl])), (0, (AObj.cells [(AV.i s.blocks), (AV.i s.gen), (exs s.map), (AV.sl s.points.length (s.points.flatMap Po.cells)), (AV.i s.last), (bys s.staged)]))]) false)
noncomputable abbrev z5s (s : Sa) (s0 : Bool) (s2 : Bool) (s5 : Bool) (s7 : Int × Int × Int × List Ex) : St := (St.mk [(0, (AV.ag [(AV.i s.blocks), (AV.i s.gen), (exs s.map), (AV.sl s.points.length (s.points.flatMap Po.cells)), (AV.i s.last), (bys s.staged)])), (1, (AV.pt 0 0)), (2, (AV.i 0)), (3, (AV.b false)), (4, (AV.pt 1 0)), (37, (AV.sl s.points.length (s.points.flatMap Po.cells))), (38, (AV.i (s.points.length : Int))), (39, (AV.i s7.1))] 104 (AH.mk 2 [(1, (AObj.cells [(AV.i s7.2.1), (AV.i s7.2.2.1), (exs s7.2.2.2)])), (0, (AObj.cells [(AV.i s.blocks), (AV.i s.gen), (exs s.map), (AV.sl s.points.length (s.points.flatMap Po.cells)), (AV.i s.last), (bys s.staged)]))]) false)
noncomputable def z2i (s : Sa) (s0 : Bool) (s2 : Bool) (s5 : Bool) (s7 : Int × Int × Int × List Ex) : Option (Int × Int × Int × List Ex) :=
 (tb ((decide (s7.1 < (s.points.length : Int)))) (tp ((((0 : Int) ≤ s7.1) ∧ (s7.1 < (s.points.length : Int)))) (some (((wr (s7.1 + (1 : Int))), ((v9 s.points s7.1.toNat).id, ((v9 s.points s7.1.toNat).gen, (v9 s.points s7.1.toNat).map)))))) none)
theorem zht (s : Sa) (s0 : Bool) (s2 : Bool) (s5 : Bool) (s7 zz : Int × Int × Int × List Ex) : z2i s s0 s2 s5 s7 = some zz → u5 Try.prog cf 2 (lp Try.prog 21 0) (z5s s s0 s2 s5 s7) (z5s s s0 s2 s5 zz) := by
  unfold z2i
  exact tbD (fun h8 h8p => x8 fun h9 => by intro e; injection e with e; subst e; exact d6 z9 (k := 300) (r := []) (hs := hz [(1, [.yes, .yes, .yes, .cells ((Po.cells (v9 s.points s7.1.toNat)))]), (2, [.fc]), (49, [.fc]), (1, [.fc]), (2, [])]) (ks := [0, 1, 2, 3, 4, 37, 38, 39]) (bs := [1, 0]) kq (ac h8 (ac h9 (ac (fq (p := ((3 : Nat) ≤ (List.length (List.drop (s7.1.toNat * 3) (s.points.flatMap Po.cells)))))) (ac (show (List.take 3 (List.drop (s7.1.toNat * 3) (s.points.flatMap Po.cells))) = (Po.cells (v9 s.points s7.1.toNat)) from (z0p bq bq)) an)))) kq) fun h8 h8p => w6
noncomputable abbrev zk9 (s : Sa) (s0 : Bool) (s2 : Bool) : St := (St.mk [(0, (AV.ag [(AV.i s.blocks), (AV.i s.gen), (exs s.map), (AV.sl s.points.length (s.points.flatMap Po.cells)), (AV.i s.last), (bys s.staged)])), (1, (AV.pt 0 0)), (2, (AV.i 0)), (7, (AV.pt 0 0)), (8, (AV.i s.blocks)), (9, (AV.pt 0 2)), (10, (exs s.map)), (11, (AV.pt 0 1)), (12, (AV.i s.gen)), (13, (AV.b s0)), (14, (AV.b s0)), (15, (AV.pt 0 1)), (16, (AV.i s.gen)), (17, (AV.b s2)), (18, (AV.b s2)), (19, (AV.b s2)), (20, (AV.pt 0 3)), (21, (AV.sl s.points.length (s.points.flatMap Po.cells))), (22, (AV.i (s.points.length : Int))), (23, (AV.b (decide ((s.points.length : Int) ≤ (4 : Int))))), (24, (AV.b (decide ((s.points.length : Int) ≤ (4 : Int))))), (25, (AV.b (decide ((s.points.length : Int) ≤ (4 : Int))))), (26, (AV.tu ([] : List AV))), (27, (AV.tu ([] : List AV))), (28, (AV.tu ([] : List AV))), (29, (AV.b false)), (30, (AV.b false)), (31, (AV.tu ([] : List AV))), (32, (AV.tu ([] : List AV))), (33, (AV.tu ([] : List AV))), (34, (AV.tu ([] : List AV))), (35, (AV.b false)), (3, (AV.b false)), (4, (AV.pt 1 0)), (36, (AV.pt 0 3)), (37, (AV.sl s.points.length (s.points.flatMap Po.cells))), (38, (AV.i (s.points.length : Int))), (39, (AV.i 0))] 104 (AH.mk 2 [(1, (AObj.cells [(AV.i 0), (AV.i 0), AV.nl])), (0, (AObj.cells [(AV.i s.blocks), (AV.i s.gen), (exs s.map), (AV.sl s.points.length (s.points.flatMap Po.cells)), (AV.i s.last), (bys s.staged)]))]) false)
noncomputable abbrev z5v (s : Sa) (s0 : Bool) (s2 : Bool) (s5 : Int × Int × Int × List Ex) : St := (St.mk [(0, (AV.ag [(AV.i s.blocks), (AV.i s.gen), (exs s.map), (AV.sl s.points.length (s.points.flatMap Po.cells)), (AV.i s.last), (bys s.staged)])), (1, (AV.pt 0 0)), (2, (AV.i 0)), (3, (AV.b false)), (4, (AV.pt 1 0)), (37, (AV.sl s.points.length (s.points.flatMap Po.cells))), (38, (AV.i (s.points.length : Int))), (39, (AV.i s5.1))] 104 (AH.mk 2 [(1, (AObj.cells [(AV.i s5.2.1), (AV.i s5.2.2.1), (exs s5.2.2.2)])), (0, (AObj.cells [(AV.i s.blocks), (AV.i s.gen), (exs s.map), (AV.sl s.points.length (s.points.flatMap Po.cells)), (AV.i s.last), (bys s.staged)]))]) false)
noncomputable def z2g (s : Sa) (s0 : Bool) (s2 : Bool) (s5 : Int × Int × Int × List Ex) : Option (Int × Int × Int × List Ex) :=
 (tb ((decide (s5.1 < (s.points.length : Int)))) (tp ((((0 : Int) ≤ s5.1) ∧ (s5.1 < (s.points.length : Int)))) (some (((wr (s5.1 + (1 : Int))), ((v9 s.points s5.1.toNat).id, ((v9 s.points s5.1.toNat).gen, (v9 s.points s5.1.toNat).map)))))) none)
theorem zif (s : Sa) (s0 : Bool) (s2 : Bool) (s5 zz : Int × Int × Int × List Ex) : z2g s s0 s2 s5 = some zz → u5 Try.prog cf 2 (lp Try.prog 21 0) (z5v s s0 s2 s5) (z5v s s0 s2 zz) := by
  unfold z2g
  exact tbD (fun h6 h6p => x8 fun h7 => by intro e; injection e with e; subst e; exact d6 z9 (k := 300) (r := []) (hs := hz [(1, [.yes, .yes, .yes, .cells ((Po.cells (v9 s.points s5.1.toNat)))]), (2, [.fc]), (49, [.fc]), (1, [.fc]), (2, [])]) (ks := [0, 1, 2, 3, 4, 37, 38, 39]) (bs := [1, 0]) kq (ac h6 (ac h7 (ac (fq (p := ((3 : Nat) ≤ (List.length (List.drop (s5.1.toNat * 3) (s.points.flatMap Po.cells)))))) (ac (show (List.take 3 (List.drop (s5.1.toNat * 3) (s.points.flatMap Po.cells))) = (Po.cells (v9 s.points s5.1.toNat)) from (z0p bq bq)) an)))) kq) fun h6 h6p => w6
noncomputable abbrev zk4 (s : Sa) (s0 : Bool) (s2 : Bool) : St := (St.mk [(0, (AV.ag [(AV.i s.blocks), (AV.i s.gen), (exs s.map), (AV.sl s.points.length (s.points.flatMap Po.cells)), (AV.i s.last), (bys s.staged)])), (1, (AV.pt 0 0)), (2, (AV.i 0)), (7, (AV.pt 0 0)), (8, (AV.i s.blocks)), (9, (AV.pt 0 2)), (10, (exs s.map)), (11, (AV.pt 0 1)), (12, (AV.i s.gen)), (13, (AV.b s0)), (14, (AV.b s0)), (15, (AV.pt 0 1)), (16, (AV.i s.gen)), (17, (AV.b s2)), (18, (AV.b s2)), (19, (AV.b s2)), (20, (AV.tu ([] : List AV))), (21, (AV.tu ([] : List AV))), (22, (AV.tu ([] : List AV))), (23, (AV.tu ([] : List AV))), (24, (AV.b false)), (25, (AV.b false)), (26, (AV.tu ([] : List AV))), (27, (AV.tu ([] : List AV))), (28, (AV.tu ([] : List AV))), (29, (AV.b false)), (30, (AV.b false)), (31, (AV.tu ([] : List AV))), (32, (AV.tu ([] : List AV))), (33, (AV.tu ([] : List AV))), (34, (AV.tu ([] : List AV))), (35, (AV.b false)), (3, (AV.b false)), (4, (AV.pt 1 0)), (36, (AV.pt 0 3)), (37, (AV.sl s.points.length (s.points.flatMap Po.cells))), (38, (AV.i (s.points.length : Int))), (39, (AV.i 0))] 104 (AH.mk 2 [(1, (AObj.cells [(AV.i 0), (AV.i 0), AV.nl])), (0, (AObj.cells [(AV.i s.blocks), (AV.i s.gen), (exs s.map), (AV.sl s.points.length (s.points.flatMap Po.cells)), (AV.i s.last), (bys s.staged)]))]) false)
noncomputable abbrev z5t (s : Sa) (s0 : Bool) (s2 : Bool) (s4 : Int × Int × Int × List Ex) : St := (St.mk [(0, (AV.ag [(AV.i s.blocks), (AV.i s.gen), (exs s.map), (AV.sl s.points.length (s.points.flatMap Po.cells)), (AV.i s.last), (bys s.staged)])), (1, (AV.pt 0 0)), (2, (AV.i 0)), (3, (AV.b false)), (4, (AV.pt 1 0)), (37, (AV.sl s.points.length (s.points.flatMap Po.cells))), (38, (AV.i (s.points.length : Int))), (39, (AV.i s4.1))] 104 (AH.mk 2 [(1, (AObj.cells [(AV.i s4.2.1), (AV.i s4.2.2.1), (exs s4.2.2.2)])), (0, (AObj.cells [(AV.i s.blocks), (AV.i s.gen), (exs s.map), (AV.sl s.points.length (s.points.flatMap Po.cells)), (AV.i s.last), (bys s.staged)]))]) false)
noncomputable def z2n (s : Sa) (s0 : Bool) (s2 : Bool) (s4 : Int × Int × Int × List Ex) : Option (Int × Int × Int × List Ex) :=
 (tb ((decide (s4.1 < (s.points.length : Int)))) (tp ((((0 : Int) ≤ s4.1) ∧ (s4.1 < (s.points.length : Int)))) (some (((wr (s4.1 + (1 : Int))), ((v9 s.points s4.1.toNat).id, ((v9 s.points s4.1.toNat).gen, (v9 s.points s4.1.toNat).map)))))) none)
theorem zhl (s : Sa) (s0 : Bool) (s2 : Bool) (s4 zz : Int × Int × Int × List Ex) : z2n s s0 s2 s4 = some zz → u5 Try.prog cf 2 (lp Try.prog 21 0) (z5t s s0 s2 s4) (z5t s s0 s2 zz) := by
  unfold z2n
  exact tbD (fun h5 h5p => x8 fun h6 => by intro e; injection e with e; subst e; exact d6 z9 (k := 300) (r := []) (hs := hz [(1, [.yes, .yes, .yes, .cells ((Po.cells (v9 s.points s4.1.toNat)))]), (2, [.fc]), (49, [.fc]), (1, [.fc]), (2, [])]) (ks := [0, 1, 2, 3, 4, 37, 38, 39]) (bs := [1, 0]) kq (ac h5 (ac h6 (ac (fq (p := ((3 : Nat) ≤ (List.length (List.drop (s4.1.toNat * 3) (s.points.flatMap Po.cells)))))) (ac (show (List.take 3 (List.drop (s4.1.toNat * 3) (s.points.flatMap Po.cells))) = (Po.cells (v9 s.points s4.1.toNat)) from (z0p bq bq)) an)))) kq) fun h5 h5p => w6
noncomputable abbrev zkl (s : Sa) (s0 : Bool) : St := (St.mk [(0, (AV.ag [(AV.i s.blocks), (AV.i s.gen), (exs s.map), (AV.sl s.points.length (s.points.flatMap Po.cells)), (AV.i s.last), (bys s.staged)])), (1, (AV.pt 0 0)), (2, (AV.i 0)), (7, (AV.pt 0 0)), (8, (AV.i s.blocks)), (9, (AV.pt 0 2)), (10, (exs s.map)), (11, (AV.pt 0 1)), (12, (AV.i s.gen)), (13, (AV.b s0)), (14, (AV.b s0)), (15, (AV.tu ([] : List AV))), (16, (AV.tu ([] : List AV))), (17, (AV.tu ([] : List AV))), (18, (AV.b false)), (19, (AV.b false)), (20, (AV.tu ([] : List AV))), (21, (AV.tu ([] : List AV))), (22, (AV.tu ([] : List AV))), (23, (AV.tu ([] : List AV))), (24, (AV.b false)), (25, (AV.b false)), (26, (AV.tu ([] : List AV))), (27, (AV.tu ([] : List AV))), (28, (AV.tu ([] : List AV))), (29, (AV.b false)), (30, (AV.b false)), (31, (AV.tu ([] : List AV))), (32, (AV.tu ([] : List AV))), (33, (AV.tu ([] : List AV))), (34, (AV.tu ([] : List AV))), (35, (AV.b false)), (3, (AV.b false)), (4, (AV.pt 1 0)), (36, (AV.pt 0 3)), (37, (AV.sl s.points.length (s.points.flatMap Po.cells))), (38, (AV.i (s.points.length : Int))), (39, (AV.i 0))] 104 (AH.mk 2 [(1, (AObj.cells [(AV.i 0), (AV.i 0), AV.nl])), (0, (AObj.cells [(AV.i s.blocks), (AV.i s.gen), (exs s.map), (AV.sl s.points.length (s.points.flatMap Po.cells)), (AV.i s.last), (bys s.staged)]))]) false)
noncomputable abbrev z5z (s : Sa) (s0 : Bool) (s2 : Int × Int × Int × List Ex) : St := (St.mk [(0, (AV.ag [(AV.i s.blocks), (AV.i s.gen), (exs s.map), (AV.sl s.points.length (s.points.flatMap Po.cells)), (AV.i s.last), (bys s.staged)])), (1, (AV.pt 0 0)), (2, (AV.i 0)), (3, (AV.b false)), (4, (AV.pt 1 0)), (37, (AV.sl s.points.length (s.points.flatMap Po.cells))), (38, (AV.i (s.points.length : Int))), (39, (AV.i s2.1))] 104 (AH.mk 2 [(1, (AObj.cells [(AV.i s2.2.1), (AV.i s2.2.2.1), (exs s2.2.2.2)])), (0, (AObj.cells [(AV.i s.blocks), (AV.i s.gen), (exs s.map), (AV.sl s.points.length (s.points.flatMap Po.cells)), (AV.i s.last), (bys s.staged)]))]) false)
noncomputable def z2e (s : Sa) (s0 : Bool) (s2 : Int × Int × Int × List Ex) : Option (Int × Int × Int × List Ex) :=
 (tb ((decide (s2.1 < (s.points.length : Int)))) (tp ((((0 : Int) ≤ s2.1) ∧ (s2.1 < (s.points.length : Int)))) (some (((wr (s2.1 + (1 : Int))), ((v9 s.points s2.1.toNat).id, ((v9 s.points s2.1.toNat).gen, (v9 s.points s2.1.toNat).map)))))) none)
theorem zig (s : Sa) (s0 : Bool) (s2 zz : Int × Int × Int × List Ex) : z2e s s0 s2 = some zz → u5 Try.prog cf 2 (lp Try.prog 21 0) (z5z s s0 s2) (z5z s s0 zz) := by
  unfold z2e
  exact tbD (fun h3 h3p => x8 fun h4 => by intro e; injection e with e; subst e; exact d6 z9 (k := 300) (r := []) (hs := hz [(1, [.yes, .yes, .yes, .cells ((Po.cells (v9 s.points s2.1.toNat)))]), (2, [.fc]), (49, [.fc]), (1, [.fc]), (2, [])]) (ks := [0, 1, 2, 3, 4, 37, 38, 39]) (bs := [1, 0]) kq (ac h3 (ac h4 (ac (fq (p := ((3 : Nat) ≤ (List.length (List.drop (s2.1.toNat * 3) (s.points.flatMap Po.cells)))))) (ac (show (List.take 3 (List.drop (s2.1.toNat * 3) (s.points.flatMap Po.cells))) = (Po.cells (v9 s.points s2.1.toNat)) from (z0p bq bq)) an)))) kq) fun h3 h3p => w6
noncomputable def z8e (s : Sa) : Option (Int) :=
 (tc (zgr (s.blocks) (s.map) (s.gen)) fun s0 => (tb (s0) (tc (z8g (s.gen) ((1 : Int)) ((2147483647 : Int))) fun s2 => (tb (s2) (tb ((decide ((s.points.length : Int) ≤ (4 : Int)))) (tc (z8g (s.last) ((0 : Int)) ((2147483647 : Int))) fun s5 => (tb (s5) (th (z15 s s0 s2 s5) (((decide ((s.staged.length : Int) ≤ (4000 : Int))), ((0 : Int), ((0 : Int), ((0 : Int), ([] : List Ex)))))) fun s7 => (tb ((decide (s7.2.1 < (s.points.length : Int)))) none (tb ((!s7.1)) (some ((110 : Int))) (tc (ze7 (s7.2.2.2.2) (s.map) (s7.2.2.2.1)) fun s10 => (tb ((!s10)) (some ((110 : Int))) (some ((0 : Int)))))))) (th (z2i s s0 s2 s5) (((0 : Int), ((0 : Int), ((0 : Int), ([] : List Ex))))) fun s7 => (tb ((decide (s7.1 < (s.points.length : Int)))) none (some ((110 : Int))))))) (th (z2g s s0 s2) (((0 : Int), ((0 : Int), ((0 : Int), ([] : List Ex))))) fun s5 => (tb ((decide (s5.1 < (s.points.length : Int)))) none (some ((110 : Int)))))) (th (z2n s s0 s2) (((0 : Int), ((0 : Int), ((0 : Int), ([] : List Ex))))) fun s4 => (tb ((decide (s4.1 < (s.points.length : Int)))) none (some ((110 : Int))))))) (th (z2e s s0) (((0 : Int), ((0 : Int), ((0 : Int), ([] : List Ex))))) fun s2 => (tb ((decide (s2.1 < (s.points.length : Int)))) none (some ((110 : Int)))))))
abbrev zqo (s : Sa) (r : Int) : Prop := z08 Try.prog cf true 21 [Sa.av (s)] (.i (r))
theorem g0 (s : Sa) (r : Int) : z8e s = some r → zqo s r := by
  unfold z8e
  exact x5 fun s0 h0 => u0 (fun h1 => x5 fun s2 h2 => u0 (fun h3 => tbD (fun h4 h4p => x5 fun s5 h5 => u0 (fun h6 => z12 fun s7 h7 => tbD (fun h8 h8p => w6) fun h8 h8p => u0 (fun h9 => by intro e; injection e with e; subst e; exact x0 z9 (k := 300) (r := []) (hs := hz [(12, [.fres (.b (s0))]), (1, [.yes]), (1, [.yes]), (2, [.yes]), (1, [.fres (.b (s2)), .yes]), (1, [.yes]), (1, [.yes]), (2, [.yes]), (1, [.yes]), (1, [.yes]), (1, [.yes]), (1, [.yes]), (2, [.yes]), (1, [.fres (.b (s5)), .yes]), (1, [.yes]), (1, [.yes]), (2, [.yes]), (1, [.yes]), (1, [.yes]), (7, [.head (z1r s s0 s2 s5 s7)]), (1, [.no]), (3, [.yes, .yes, .yes, .yes, .yes, .yes, .yes, .yes, .yes]), (2, [])]) (raw := (AV.i 110)) kq (ac (z1j (s.blocks) (s.map) (s.gen) _ h0).any0 (ac h1 (ac h1 (ac h1 (ac (z1d (s.gen) ((1 : Int)) ((2147483647 : Int)) _ h2).any0 (ac h1 (ac h3 (ac h3 (ac h3 (ac h3 (ac h3 (ac h4 (ac h4 (ac h4 (ac (z1d (s.last) ((0 : Int)) ((2147483647 : Int)) _ h5).any0 (ac h4 (ac h6 (ac h6 (ac h6 (ac h6 (ac h6 (ac (show x6 Try.prog cf (lp Try.prog 21 0) (z87 s s0 s2 s5) (z1r s s0 s2 s5 s7) from (x6.of (z75 s s0 s2 s5) (x3 [] [] kq (.consn kq (.agp pq) (.consn kq (.pt rfl) (.consn kq (.eqv tq rfl) (.consn kq (.eqv tq rfl) (.consn kq (.pt rfl) (.consn kq (.eqv tq rfl) (.consn kq (.eqv tq rfl) (.consn kq (.eqv tq rfl) .nil)))))))) (.cons (.old rfl rfl (.cells (.cons (.eqv tq rfl) (.cons (.eqv tq rfl) (.cons (.pur 1 rfl (by simp)) .nil))))) (.cons (.old rfl rfl (.cells (.pl rfl pq))) .nil))) h7)) (ac h8 (ac h9 (ac h9 (ac h9 (ac h9 (ac h9 (ac h9 (ac h9 (ac h9 (ac h9 an)))))))))))))))))))))))))))))))) tq) fun h9 => x5 fun s10 h10 => u0 (fun h11 => by intro e; injection e with e; subst e; exact x0 z9 (k := 300) (r := []) (hs := hz [(12, [.fres (.b (s0))]), (1, [.yes]), (1, [.yes]), (2, [.yes]), (1, [.fres (.b (s2)), .yes]), (1, [.yes]), (1, [.yes]), (2, [.yes]), (1, [.yes]), (1, [.yes]), (1, [.yes]), (1, [.yes]), (2, [.yes]), (1, [.fres (.b (s5)), .yes]), (1, [.yes]), (1, [.yes]), (2, [.yes]), (1, [.yes]), (1, [.yes]), (7, [.head (z1r s s0 s2 s5 s7)]), (1, [.no]), (3, [.no]), (1, [.no]), (2, [.no]), (1, [.no]), (2, [.no]), (1, [.no]), (2, [.no]), (1, [.fres (.b (s10)), .no]), (1, [.no, .yes]), (1, [])]) (raw := (AV.i 110)) kq (ac (z1j (s.blocks) (s.map) (s.gen) _ h0).any0 (ac h1 (ac h1 (ac h1 (ac (z1d (s.gen) ((1 : Int)) ((2147483647 : Int)) _ h2).any0 (ac h1 (ac h3 (ac h3 (ac h3 (ac h3 (ac h3 (ac h4 (ac h4 (ac h4 (ac (z1d (s.last) ((0 : Int)) ((2147483647 : Int)) _ h5).any0 (ac h4 (ac h6 (ac h6 (ac h6 (ac h6 (ac h6 (ac (show x6 Try.prog cf (lp Try.prog 21 0) (z87 s s0 s2 s5) (z1r s s0 s2 s5 s7) from (x6.of (z75 s s0 s2 s5) (x3 [] [] kq (.consn kq (.agp pq) (.consn kq (.pt rfl) (.consn kq (.eqv tq rfl) (.consn kq (.eqv tq rfl) (.consn kq (.pt rfl) (.consn kq (.eqv tq rfl) (.consn kq (.eqv tq rfl) (.consn kq (.eqv tq rfl) .nil)))))))) (.cons (.old rfl rfl (.cells (.cons (.eqv tq rfl) (.cons (.eqv tq rfl) (.cons (.pur 1 rfl (by simp)) .nil))))) (.cons (.old rfl rfl (.cells (.pl rfl pq))) .nil))) h7)) (ac h8 (ac h9 (ac h9 (ac h9 (ac h9 (ac h9 (ac h9 (ac h9 (ac (zea (s7.2.2.2.2) (s.map) (s7.2.2.2.1) _ h10).any0 (ac h9 (ac h9 (ac h11 an)))))))))))))))))))))))))))))))))) tq) fun h11 => by intro e; injection e with e; subst e; exact x0 z9 (k := 300) (r := []) (hs := hz [(12, [.fres (.b (s0))]), (1, [.yes]), (1, [.yes]), (2, [.yes]), (1, [.fres (.b (s2)), .yes]), (1, [.yes]), (1, [.yes]), (2, [.yes]), (1, [.yes]), (1, [.yes]), (1, [.yes]), (1, [.yes]), (2, [.yes]), (1, [.fres (.b (s5)), .yes]), (1, [.yes]), (1, [.yes]), (2, [.yes]), (1, [.yes]), (1, [.yes]), (7, [.head (z1r s s0 s2 s5 s7)]), (1, [.no]), (3, [.no]), (1, [.no]), (2, [.no]), (1, [.no]), (2, [.no]), (1, [.no]), (2, [.no]), (1, [.fres (.b (s10)), .no]), (1, [.no, .no]), (1, [])]) (raw := (AV.i 0)) kq (ac (z1j (s.blocks) (s.map) (s.gen) _ h0).any0 (ac h1 (ac h1 (ac h1 (ac (z1d (s.gen) ((1 : Int)) ((2147483647 : Int)) _ h2).any0 (ac h1 (ac h3 (ac h3 (ac h3 (ac h3 (ac h3 (ac h4 (ac h4 (ac h4 (ac (z1d (s.last) ((0 : Int)) ((2147483647 : Int)) _ h5).any0 (ac h4 (ac h6 (ac h6 (ac h6 (ac h6 (ac h6 (ac (show x6 Try.prog cf (lp Try.prog 21 0) (z87 s s0 s2 s5) (z1r s s0 s2 s5 s7) from (x6.of (z75 s s0 s2 s5) (x3 [] [] kq (.consn kq (.agp pq) (.consn kq (.pt rfl) (.consn kq (.eqv tq rfl) (.consn kq (.eqv tq rfl) (.consn kq (.pt rfl) (.consn kq (.eqv tq rfl) (.consn kq (.eqv tq rfl) (.consn kq (.eqv tq rfl) .nil)))))))) (.cons (.old rfl rfl (.cells (.cons (.eqv tq rfl) (.cons (.eqv tq rfl) (.cons (.pur 1 rfl (by simp)) .nil))))) (.cons (.old rfl rfl (.cells (.pl rfl pq))) .nil))) h7)) (ac h8 (ac h9 (ac h9 (ac h9 (ac h9 (ac h9 (ac h9 (ac h9 (ac (zea (s7.2.2.2.2) (s.map) (s7.2.2.2.1) _ h10).any0 (ac h9 (ac h9 (ac h11 an)))))))))))))))))))))))))))))))))) tq) fun h6 => z12 fun s7 h7 => tbD (fun h8 h8p => w6) fun h8 h8p => by intro e; injection e with e; subst e; exact x0 z9 (k := 300) (r := []) (hs := hz [(12, [.fres (.b (s0))]), (1, [.yes]), (1, [.yes]), (2, [.yes]), (1, [.fres (.b (s2)), .yes]), (1, [.yes]), (1, [.yes]), (2, [.yes]), (1, [.yes]), (1, [.yes]), (1, [.yes]), (1, [.yes]), (2, [.yes]), (1, [.fres (.b (s5)), .yes]), (1, [.no, .no, .no, .no, .no]), (7, [.head (z5s s s0 s2 s5 s7)]), (1, [.no]), (14, [])]) (raw := (AV.i 110)) kq (ac (z1j (s.blocks) (s.map) (s.gen) _ h0).any0 (ac h1 (ac h1 (ac h1 (ac (z1d (s.gen) ((1 : Int)) ((2147483647 : Int)) _ h2).any0 (ac h1 (ac h3 (ac h3 (ac h3 (ac h3 (ac h3 (ac h4 (ac h4 (ac h4 (ac (z1d (s.last) ((0 : Int)) ((2147483647 : Int)) _ h5).any0 (ac h4 (ac h6 (ac h6 (ac h6 (ac h6 (ac h6 (ac (show x6 Try.prog cf (lp Try.prog 21 0) (zl4 s s0 s2 s5) (z5s s s0 s2 s5 s7) from (x6.of (zht s s0 s2 s5) (x3 [] [] kq (.consn kq (.agp pq) (.consn kq (.pt rfl) (.consn kq (.eqv tq rfl) (.consn kq (.eqv tq rfl) (.consn kq (.pt rfl) (.consn kq (.eqv tq rfl) (.consn kq (.eqv tq rfl) (.consn kq (.eqv tq rfl) .nil)))))))) (.cons (.old rfl rfl (.cells (.cons (.eqv tq rfl) (.cons (.eqv tq rfl) (.cons (.pur 1 rfl (by simp)) .nil))))) (.cons (.old rfl rfl (.cells (.pl rfl pq))) .nil))) h7)) (ac h8 an))))))))))))))))))))))) tq) fun h4 h4p => z12 fun s5 h5 => tbD (fun h6 h6p => w6) fun h6 h6p => by intro e; injection e with e; subst e; exact x0 z9 (k := 300) (r := []) (hs := hz [(12, [.fres (.b (s0))]), (1, [.yes]), (1, [.yes]), (2, [.yes]), (1, [.fres (.b (s2)), .yes]), (1, [.yes]), (1, [.yes]), (2, [.yes]), (1, [.yes]), (1, [.yes]), (1, [.no, .no, .no, .no]), (13, [.head (z5v s s0 s2 s5)]), (1, [.no]), (14, [])]) (raw := (AV.i 110)) kq (ac (z1j (s.blocks) (s.map) (s.gen) _ h0).any0 (ac h1 (ac h1 (ac h1 (ac (z1d (s.gen) ((1 : Int)) ((2147483647 : Int)) _ h2).any0 (ac h1 (ac h3 (ac h3 (ac h3 (ac h3 (ac h3 (ac h4 (ac h4 (ac h4 (ac h4 (ac (show x6 Try.prog cf (lp Try.prog 21 0) (zk9 s s0 s2) (z5v s s0 s2 s5) from (x6.of (zif s s0 s2) (x3 [] [] kq (.consn kq (.agp pq) (.consn kq (.pt rfl) (.consn kq (.eqv tq rfl) (.consn kq (.eqv tq rfl) (.consn kq (.pt rfl) (.consn kq (.eqv tq rfl) (.consn kq (.eqv tq rfl) (.consn kq (.eqv tq rfl) .nil)))))))) (.cons (.old rfl rfl (.cells (.cons (.eqv tq rfl) (.cons (.eqv tq rfl) (.cons (.pur 1 rfl (by simp)) .nil))))) (.cons (.old rfl rfl (.cells (.pl rfl pq))) .nil))) h5)) (ac h6 an))))))))))))))))) tq) fun h3 => z12 fun s4 h4 => tbD (fun h5 h5p => w6) fun h5 h5p => by intro e; injection e with e; subst e; exact x0 z9 (k := 300) (r := []) (hs := hz [(12, [.fres (.b (s0))]), (1, [.yes]), (1, [.yes]), (2, [.yes]), (1, [.fres (.b (s2)), .yes]), (1, [.no, .no, .no, .no, .no]), (18, [.head (z5t s s0 s2 s4)]), (1, [.no]), (14, [])]) (raw := (AV.i 110)) kq (ac (z1j (s.blocks) (s.map) (s.gen) _ h0).any0 (ac h1 (ac h1 (ac h1 (ac (z1d (s.gen) ((1 : Int)) ((2147483647 : Int)) _ h2).any0 (ac h1 (ac h3 (ac h3 (ac h3 (ac h3 (ac h3 (ac (show x6 Try.prog cf (lp Try.prog 21 0) (zk4 s s0 s2) (z5t s s0 s2 s4) from (x6.of (zhl s s0 s2) (x3 [] [] kq (.consn kq (.agp pq) (.consn kq (.pt rfl) (.consn kq (.eqv tq rfl) (.consn kq (.eqv tq rfl) (.consn kq (.pt rfl) (.consn kq (.eqv tq rfl) (.consn kq (.eqv tq rfl) (.consn kq (.eqv tq rfl) .nil)))))))) (.cons (.old rfl rfl (.cells (.cons (.eqv tq rfl) (.cons (.eqv tq rfl) (.cons (.pur 1 rfl (by simp)) .nil))))) (.cons (.old rfl rfl (.cells (.pl rfl pq))) .nil))) h4)) (ac h5 an))))))))))))) tq) fun h1 => z12 fun s2 h2 => tbD (fun h3 h3p => w6) fun h3 h3p => by intro e; injection e with e; subst e; exact x0 z9 (k := 300) (r := []) (hs := hz [(12, [.fres (.b (s0))]), (1, [.no, .no, .no, .no]), (24, [.head (z5z s s0 s2)]), (1, [.no]), (14, [])]) (raw := (AV.i 110)) kq (ac (z1j (s.blocks) (s.map) (s.gen) _ h0).any0 (ac h1 (ac h1 (ac h1 (ac h1 (ac (show x6 Try.prog cf (lp Try.prog 21 0) (zkl s s0) (z5z s s0 s2) from (x6.of (zig s s0) (x3 [] [] kq (.consn kq (.agp pq) (.consn kq (.pt rfl) (.consn kq (.eqv tq rfl) (.consn kq (.eqv tq rfl) (.consn kq (.pt rfl) (.consn kq (.eqv tq rfl) (.consn kq (.eqv tq rfl) (.consn kq (.eqv tq rfl) .nil)))))))) (.cons (.old rfl rfl (.cells (.cons (.eqv tq rfl) (.cons (.eqv tq rfl) (.cons (.pur 1 rfl (by simp)) .nil))))) (.cons (.old rfl rfl (.cells (.pl rfl pq))) .nil))) h2)) (ac h3 an))))))) tq
noncomputable def zt2 (blocks : Int) : Option (List Ex × Int) :=
 (tb ((decide (blocks < (1 : Int)))) (some ((([] : List Ex), (81 : Int)))) (tb ((decide (blocks > (64 : Int)))) (some ((([] : List Ex), (81 : Int)))) (some (([(Ex.mk 0 blocks 0 0 ([] : List UInt8))], (0 : Int))))))
abbrev zxz (blocks : Int) (r : List Ex × Int) : Prop := z08 Try.prog cf false 39 [.i (blocks)] (.tu [exs (r.1), .i (r.2)])
theorem zoa (blocks : Int) (r : List Ex × Int) : zt2 blocks = some r → zxz blocks r := by
  unfold zt2
  exact tbD (fun h0 h0p => by intro e; injection e with e; subst e; exact x0 z9 (k := 300) (r := []) (hs := hz [(5, [.yes, .yes, .yes]), (3, [])]) (raw := (AV.tu [(AV.sl 0 ([] : List AV)), (AV.i 81)])) kq (ac h0 (ac h0 (ac h0 an))) tq) fun h0 h0p => tbD (fun h1 h1p => by intro e; injection e with e; subst e; exact x0 z9 (k := 300) (r := []) (hs := hz [(5, [.no]), (1, [.no]), (1, [.no, .yes]), (2, [])]) (raw := (AV.tu [(AV.sl 0 ([] : List AV)), (AV.i 81)])) kq (ac h0 (ac h0 (ac h0 (ac h1 an)))) tq) fun h1 h1p => by intro e; injection e with e; subst e; exact x0 z9 (k := 300) (r := []) (hs := hz [(5, [.no]), (1, [.no]), (1, [.no, .no]), (3, [.fc, .fc]), (2, [.yes]), (1, [])]) (raw := (AV.tu [(AV.sl 1 [(AV.i 0), (AV.i blocks), (AV.i 0), (AV.i 0), (AV.sl 0 ([] : List AV))]), (AV.i 0)])) kq (ac h0 (ac h0 (ac h0 (ac h1 (ac (tq (p := (((0 : Nat) = (0 : Nat)) ∧ ((List.length [(AV.i 0), (AV.i blocks), (AV.i (Int.ofNat 0)), (AV.i (Int.ofNat 0)), AV.nl]) = (5 : Nat))))) an))))) tq
noncomputable def zs7 (blocks : Int) : Option (Sa × Int) :=
 (tc (zt2 (blocks)) fun s0 => (tb ((s0.2 != (0 : Int))) (some (((Sa.mk 0 0 ([] : List Ex) ([] : List Po) 0 ([] : List UInt8)), s0.2))) (some (((Sa.mk blocks 1 s0.1 ([] : List Po) 0 ([] : List UInt8)), (0 : Int))))))
abbrev zwj (blocks : Int) (r : Sa × Int) : Prop := z08 Try.prog cf false 13 [.i (blocks)] (.tu [Sa.av (r.1), .i (r.2)])
theorem zul (blocks : Int) (r : Sa × Int) : zs7 blocks = some r → zwj blocks r := by
  unfold zs7
  exact x5 fun s0 h0 => tbN (fun h1 h1p => by intro e; injection e with e; subst e; exact x0 z9 (k := 300) (r := []) (hs := hz [(4, [.fres (.tu [exs (s0.1), .i (s0.2)])]), (7, [.yes]), (3, [.fc]), (2, [.fc])]) (raw := (AV.tu [(AV.ag [(AV.i 0), (AV.i 0), (AV.sl 0 ([] : List AV)), (AV.sl 0 ([] : List AV)), (AV.i 0), (AV.sl 0 ([] : List AV))]), (AV.i s0.2)])) kq (ac (zoa (blocks) _ h0) (ac h1 an)) tq) fun h1 h1p => by intro e; injection e with e; subst e; exact x0 z9 (k := 300) (r := []) (hs := hz [(4, [.fres (.tu [exs (s0.1), .i (s0.2)])]), (7, [.no]), (4, [.fc]), (2, [.fc])]) (raw := (AV.tu [(AV.ag [(AV.i blocks), (AV.i 1), (exs s0.1), (AV.sl 0 ([] : List AV)), (AV.i 0), (AV.sl 0 ([] : List AV))]), (AV.i 0)])) kq (ac (zoa (blocks) _ h0) (ac h1 an)) tq
end Ab
end Go.Proofs.Ytimcbhhebnikiaa
namespace Go.Proofs.Ytimcbhhebnikiaa
open Go Go.Proofs.Ytimcbhhebnikiaa.Ab
set_option linter.unusedVariables false
set_option linter.unusedSimpArgs false
set_option maxRecDepth 1000000
set_option maxHeartbeats 0
namespace Ab
noncomputable abbrev zmm (s : Sa) (s0 : Int) (s2 : List Ex) : St := (St.mk [(0, (AV.ag [(AV.i s.blocks), (AV.i s.gen), (exs s.map), (AV.sl s.points.length (s.points.flatMap Po.cells)), (AV.i s.last), (bys s.staged)])), (1, (AV.pt 0 0)), (2, (AV.pt 1 0)), (5, (AV.ag [(AV.i s.blocks), (AV.i s.gen), (exs s.map), (AV.sl s.points.length (s.points.flatMap Po.cells)), (AV.i s.last), (bys s.staged)])), (6, (AV.i s0)), (7, (AV.b (s0 != (0 : Int)))), (9, (AV.pt 0 2)), (10, (exs s.map)), (11, (AV.rf 2 5 0 s2.length)), (12, (AV.pt 0 3)), (13, (AV.sl s.points.length (s.points.flatMap Po.cells))), (14, (AV.rf 3 3 0 s.points.length)), (15, (AV.pt 0 5)), (16, (bys s.staged)), (17, (AV.rf 4 1 0 s.staged.length)), (18, (AV.pt 0 2)), (19, (AV.pt 0 3)), (20, (AV.pt 0 5)), (21, (AV.pt 0 3)), (22, (AV.rf 3 3 0 s.points.length)), (23, (AV.i (s.points.length : Int))), (24, (AV.i 0))] 39 (AH.mk 5 [(4, (AObj.cells (List.map AV.y s.staged))), (3, (AObj.cells (s.points.flatMap Po.cells))), (2, (AObj.cells (s2.flatMap Ex.cells))), (1, (AObj.cells [(AV.i 0), (AV.i 0), AV.nl, AV.nl, (AV.i 0), AV.nl])), (0, (AObj.cells [(AV.i s.blocks), (AV.i s.gen), (AV.rf 2 5 0 s2.length), (AV.rf 3 3 0 s.points.length), (AV.i s.last), (AV.rf 4 1 0 s.staged.length)]))]) false)
noncomputable abbrev z7j (s : Sa) (s0 : Int) (s2 : List Ex) (s6 : Int × List Po) : St := (St.mk [(0, (AV.ag [(AV.i s.blocks), (AV.i s.gen), (exs s.map), (AV.sl s.points.length (s.points.flatMap Po.cells)), (AV.i s.last), (bys s.staged)])), (1, (AV.pt 0 0)), (2, (AV.pt 1 0)), (7, (AV.b (s0 != (0 : Int)))), (22, (AV.rf 3 3 0 s.points.length)), (23, (AV.i (s.points.length : Int))), (24, (AV.i s6.1))] 39 (AH.mk 5 [(4, (AObj.cells (List.map AV.y s.staged))), (3, (AObj.cells (s6.2.flatMap Po.cells))), (2, (AObj.cells (s2.flatMap Ex.cells))), (1, (AObj.cells [(AV.i 0), (AV.i 0), AV.nl, AV.nl, (AV.i 0), AV.nl])), (0, (AObj.cells [(AV.i s.blocks), (AV.i s.gen), (AV.rf 2 5 0 s2.length), (AV.rf 3 3 0 s.points.length), (AV.i s.last), (AV.rf 4 1 0 s.staged.length)]))]) false)
noncomputable def z28 (s : Sa) (s0 : Int) (s2 : List Ex) (s6 : Int × List Po) : Option (Int × List Po) :=
 (tb ((decide (s6.1 < (s.points.length : Int)))) (tp ((((0 : Int) ≤ s6.1) ∧ (s6.1 < (s.points.length : Int)))) (tp (((((0 : Nat) + (s6.1.toNat * 3)) + (3 : Nat)) ≤ (List.length (s6.2.flatMap Po.cells)))) (tc (z20 ((v9 s6.2 s6.1.toNat).map)) fun s10 => (tp ((((List.length [(AV.rf 6 5 0 s10.length)]) = (1 : Nat)) ∧ (((((0 : Nat) + (s6.1.toNat * 3)) + (2 : Nat)) + (List.length [(AV.rf 6 5 0 s10.length)])) ≤ (List.length (s6.2.flatMap Po.cells))))) (some (((wr (s6.1 + (1 : Int))), (List.set s6.2 s6.1.toNat (Po.mk (v9 s6.2 s6.1.toNat).id (v9 s6.2 s6.1.toNat).gen (List.take s10.length s10)))))))))) none)
theorem zjz (s : Sa) (s0 : Int) (s2 : List Ex) (s6 zz : Int × List Po) : z28 s s0 s2 s6 = some zz → u5 Try.prog cf 5 (lp Try.prog 18 0) (z7j s s0 s2 s6) (z7j s s0 s2 zz) := by
  unfold z28
  exact tbD (fun h7 h7p => x8 fun h8 => x8 fun h9 => x5 fun s10 h10 => x8 fun h11 => by intro e; injection e with e; subst e; exact z01 z9 (k := 300) (r := []) (hs := hz [(1, [.yes]), (1, [.yes, .yes, .cells ((Po.cells (v9 s6.2 s6.1.toNat)))]), (3, [.fc]), (8, [.fres (exs (s10)), .yes]), (1, [.yes]), (1, [.yes]), (2, [])]) (ks := [0, 1, 2, 7, 22, 23, 24]) (st1 := (St.mk [(0, (AV.ag [(AV.i s.blocks), (AV.i s.gen), (exs s.map), (AV.sl s.points.length (s.points.flatMap Po.cells)), (AV.i s.last), (bys s.staged)])), (1, (AV.pt 0 0)), (2, (AV.pt 1 0)), (7, (AV.b (s0 != (0 : Int)))), (22, (AV.rf 3 3 0 s.points.length)), (23, (AV.i (s.points.length : Int))), (24, (AV.i (wr (s6.1 + (1 : Int)))))] 39 (AH.mk 7 [(6, (AObj.cells (s10.flatMap Ex.cells))), (5, (AObj.cells [(AV.i (v9 s6.2 s6.1.toNat).id), (AV.i (v9 s6.2 s6.1.toNat).gen), (exs (v9 s6.2 s6.1.toNat).map)])), (4, (AObj.cells (List.map AV.y s.staged))), (3, (AObj.cells (((List.take (((0 : Nat) + (s6.1.toNat * 3)) + (2 : Nat)) (s6.2.flatMap Po.cells)) ++ [(AV.rf 6 5 0 s10.length)]) ++ (List.drop ((((0 : Nat) + (s6.1.toNat * 3)) + (2 : Nat)) + (List.length [(AV.rf 6 5 0 s10.length)])) (s6.2.flatMap Po.cells))))), (2, (AObj.cells (s2.flatMap Ex.cells))), (1, (AObj.cells [(AV.i 0), (AV.i 0), AV.nl, AV.nl, (AV.i 0), AV.nl])), (0, (AObj.cells [(AV.i s.blocks), (AV.i s.gen), (AV.rf 2 5 0 s2.length), (AV.rf 3 3 0 s.points.length), (AV.i s.last), (AV.rf 4 1 0 s.staged.length)]))]) false)) kq (ac h7 (ac h8 (ac h9 (ac (show (List.take 3 (List.drop ((0 : Nat) + (s6.1.toNat * 3)) (s6.2.flatMap Po.cells))) = (Po.cells (v9 s6.2 s6.1.toNat)) from (z0p bq bq)) (ac (z04 ((v9 s6.2 s6.1.toNat).map) _ h10) (ac h8 (ac h11 (ac (show z8 (rg Try.prog 18 1) = true ∧ x7 (Region.before (rg Try.prog 18 1)) [] 0 [(some [], some []), (some [0], some []), (some [], some []), (some [], some []), (some [5], some []), (some [], some [6]), (some [], some []), (some [], some []), (some [3], some [3])] = true from (y9 zs6 zri kq)) an)))))))) (Nat.le_of_ble_eq_true rfl) (Nat.le_of_ble_eq_true rfl) (x3 [] [6] kq (.consn kq (.agp pq) (.consn kq (.pt rfl) (.consn kq (.pt rfl) (.consn kq (.eqv tq rfl) (.consn kq (.rf rfl) (.consn kq (.eqv tq rfl) (.consn kq (.eqv tq rfl) .nil))))))) (.cons (.old rfl rfl (.cells (.pl rfl (by simp)))) (.cons (.old rfl rfl (.cells (.cast rfl (zu8 (i := s6.1.toNat) (k := 2) (x := (Po.mk (v9 s6.2 s6.1.toNat).id (v9 s6.2 s6.1.toNat).gen (List.take s10.length s10))) bq rfl bq (by simp) (by simp [over, Po.cells, exs])) (.app (.app (.pl rfl pq) (.cons (.frzn rfl tq pq (by simp) rfl) .nil)) (.pl rfl pq))))) (.cons (.old rfl rfl (.cells (.pl rfl (by simp)))) (.cons (.old rfl rfl (.cells (.cons (.eqv tq rfl) (.cons (.eqv tq rfl) (.cons .nl0 (.cons .nl0 (.cons (.eqv tq rfl) (.cons .nl0 .nil)))))))) (.cons (.old rfl rfl (.cells (.cons (.eqv tq rfl) (.cons (.eqv tq rfl) (.cons (.rf rfl) (.cons (.rf rfl) (.cons (.eqv tq rfl) (.cons (.rf rfl) .nil)))))))) .nil))))))) fun h7 h7p => w6
noncomputable def z3i (s : Sa) : Option (Sa) :=
 (tc (z8e (s)) fun s0 => (tb ((s0 != (0 : Int))) (some ((Sa.mk 0 0 ([] : List Ex) ([] : List Po) 0 ([] : List UInt8)))) (tc (z20 (s.map)) fun s2 => (tp (((List.length (s.points.flatMap Po.cells)) = (s.points.length * 3))) (tp ((s.points.length ≤ (4294967296 : Nat))) (tp ((s.staged.length ≤ (4294967296 : Nat))) (th (z28 s s0 s2) (((0 : Int), s.points)) fun s6 => (tb ((decide (s6.1 < (s.points.length : Int)))) none (tp ((((0 : Nat) = (0 : Nat)) ∧ ((List.length (s2.flatMap Ex.cells)) = (s2.length * 5)))) (tp ((((0 : Nat) = (0 : Nat)) ∧ ((List.length (s6.2.flatMap Po.cells)) = (s.points.length * 3)))) (some ((Sa.mk s.blocks s.gen s2 s6.2 s.last s.staged)))))))))))))
abbrev zuj (s : Sa) (r : Sa) : Prop := zbc Try.prog cf false [[0, 0, 5, 3, 0, 1]] 18 [Sa.av (s)] (Sa.av (r))
theorem t4 (s : Sa) (r : Sa) : z3i s = some r → zuj s r := by
  unfold z3i
  exact x5 fun s0 h0 => tbN (fun h1 h1p => by intro e; injection e with e; subst e; exact zsv z9 (k := 300) (r := []) (hs := hz [(3, [.fc]), (1, [.fres (.i (s0))]), (1, [.yes]), (2, [.fc]), (1, [.fc])]) (R := fun H => ((AV.ag [(AV.i 0), (AV.i 0), (AV.rf (AH.nx H) 5 0 0), (AV.rf ((AH.nx H) + (1 : Nat)) 3 0 0), (AV.i 0), (AV.rf (((AH.nx H) + (1 : Nat)) + (1 : Nat)) 1 0 0)]), (AH.mk ((((AH.nx H) + (1 : Nat)) + (1 : Nat)) + (1 : Nat)) (((((AH.nx H) + (1 : Nat)) + (1 : Nat)), (AObj.cells ([] : List AV))) :: (((AH.nx H) + (1 : Nat)), (AObj.cells ([] : List AV))) :: ((AH.nx H), (AObj.cells ([] : List AV))) :: (AH.l H))))) (fun H => kq) (ac (g0 (s) _ h0).any0 (ac h1 an)) (fun H => oq)) fun h1 h1p => x5 fun s2 h2 => x8 fun h3 => x8 fun h4 => x8 fun h5 => z12 fun s6 h6 => tbD (fun h7 h7p => w6) fun h7 h7p => x8 fun h8 => x8 fun h9 => by intro e; injection e with e; subst e; exact zsv z9 (k := 300) (r := []) (hs := hz [(3, [.fc]), (1, [.fres (.i (s0))]), (1, [.no]), (4, [.fres (exs (s2))]), (4, [.yes, .yes]), (4, [.yes, .yes]), (2, [.fc]), (2, [.fc]), (2, [.fc, .yes]), (5, [.head (z7j s s0 s2 s6)]), (1, [.no]), (1, [.fc]), (1, [.fc]), (1, [.fc, .yes, .yes, .yes, .yes, .yes, .yes])]) (R := fun H => ((AV.ag [(AV.i s.blocks), (AV.i s.gen), (AV.rf (AH.nx H) 5 0 s2.length), (AV.rf ((AH.nx H) + (1 : Nat)) 3 0 s.points.length), (AV.i s.last), (AV.rf (((AH.nx H) + (1 : Nat)) + (1 : Nat)) 1 0 s.staged.length)]), (AH.mk ((((AH.nx H) + (1 : Nat)) + (1 : Nat)) + (1 : Nat)) (((((AH.nx H) + (1 : Nat)) + (1 : Nat)), (AObj.cells (List.map AV.y s.staged))) :: (((AH.nx H) + (1 : Nat)), (AObj.cells (s6.2.flatMap Po.cells))) :: ((AH.nx H), (AObj.cells (s2.flatMap Ex.cells))) :: (AH.l H))))) (fun H => kq) (ac (g0 (s) _ h0).any0 (ac h1 (ac (z04 (s.map) _ h2) (ac h3 (ac h4 (ac (tq (p := ((List.length (List.map AV.y s.staged)) = (s.staged.length * 1)))) (ac h5 (ac (show z8 (rg Try.prog 18 0) = true ∧ x7 (Region.before (rg Try.prog 18 0)) [] 0 [(some [], some []), (some [0], some []), (some [], some [2]), (some [], some []), (some [0], some []), (some [], some [3]), (some [], some []), (some [0], some []), (some [], some [4]), (some [], some []), (some [0], some [0]), (some [], some []), (some [0], some [0]), (some [], some []), (some [0], some [0])] = true from (y9 ztl zte kq)) (ac (show x6 Try.prog cf (lp Try.prog 18 0) (zmm s s0 s2) (z7j s s0 s2 s6) from (x6.of (zjz s s0 s2) (x3 [] [] kq (.consn kq (.agp pq) (.consn kq (.pt rfl) (.consn kq (.pt rfl) (.consn kq (.eqv tq rfl) (.consn kq (.rf rfl) (.consn kq (.eqv tq rfl) (.consn kq (.eqv tq rfl) .nil))))))) (.cons (.old rfl rfl (.cells (.pl rfl (by simp)))) (.cons (.old rfl rfl (.cells (.pl tq pq))) (.cons (.old rfl rfl (.cells (.pl rfl (by simp)))) (.cons (.old rfl rfl (.cells (.cons (.eqv tq rfl) (.cons (.eqv tq rfl) (.cons .nl0 (.cons .nl0 (.cons (.eqv tq rfl) (.cons .nl0 .nil)))))))) (.cons (.old rfl rfl (.cells (.cons (.eqv tq rfl) (.cons (.eqv tq rfl) (.cons (.rf rfl) (.cons (.rf rfl) (.cons (.eqv tq rfl) (.cons (.rf rfl) .nil)))))))) .nil)))))) h6)) (ac h7 (ac h8 (ac (pq (p := Pl false ((s2.flatMap Ex.cells)))) (ac h9 (ac (pq (p := Pl false ((s6.2.flatMap Po.cells)))) (ac (tq (p := (((0 : Nat) = (0 : Nat)) ∧ ((List.length (List.map AV.y s.staged)) = (s.staged.length * 1))))) (ac (pq (p := Pl false ((List.map AV.y s.staged)))) an)))))))))))))))) (fun H => oq)
end Ab
end Go.Proofs.Ytimcbhhebnikiaa
namespace Go.Proofs.Ytimcbhhebnikiaa
open Go Go.Proofs.Ytimcbhhebnikiaa.Ab
set_option linter.unusedVariables false
set_option linter.unusedSimpArgs false
set_option maxRecDepth 1000000
set_option maxHeartbeats 0
namespace Ab
noncomputable abbrev zbv (s : Sa) (id : Int) (s0 : Int) (s2 : Sa) : St := (St.mk [(0, (AV.ag [(AV.i s.blocks), (AV.i s.gen), (exs s.map), (AV.sl s.points.length (s.points.flatMap Po.cells)), (AV.i s.last), (bys s.staged)])), (1, (AV.i id)), (2, (AV.pt 0 0)), (4, (AV.pt 1 0)), (5, (AV.i s0)), (8, (AV.ag [(AV.i s.blocks), (AV.i s.gen), (exs s.map), (AV.sl s.points.length (s.points.flatMap Po.cells)), (AV.i s.last), (bys s.staged)])), (9, (AV.i s0)), (10, (AV.i s0)), (11, (AV.b (s0 != (0 : Int)))), (14, (AV.ag [(AV.i s.blocks), (AV.i s.gen), (exs s.map), (AV.sl s.points.length (s.points.flatMap Po.cells)), (AV.i s.last), (bys s.staged)])), (15, (AV.ag [(AV.i s2.blocks), (AV.i s2.gen), (AV.rf 2 5 0 s2.map.length), (AV.rf 3 3 0 s2.points.length), (AV.i s2.last), (AV.rf 4 1 0 s2.staged.length)])), (16, (AV.rf 3 3 0 s2.points.length)), (17, (AV.i (s2.points.length : Int))), (18, (AV.i 0))] 29 (AH.mk 5 [(4, (AObj.cells (List.map AV.y s2.staged))), (3, (AObj.cells (s2.points.flatMap Po.cells))), (2, (AObj.cells (s2.map.flatMap Ex.cells))), (1, (AObj.cells [(AV.i 0), (AV.i 0), AV.nl])), (0, (AObj.cells [(AV.i s.blocks), (AV.i s.gen), (exs s.map), (AV.sl s.points.length (s.points.flatMap Po.cells)), (AV.i s.last), (bys s.staged)]))]) false)
noncomputable abbrev z3j (s : Sa) (id : Int) (s0 : Int) (s2 : Sa) (s3 : Int) : St := (St.mk [(0, (AV.ag [(AV.i s.blocks), (AV.i s.gen), (exs s.map), (AV.sl s.points.length (s.points.flatMap Po.cells)), (AV.i s.last), (bys s.staged)])), (1, (AV.i id)), (2, (AV.pt 0 0)), (4, (AV.pt 1 0)), (11, (AV.b (s0 != (0 : Int)))), (16, (AV.rf 3 3 0 s2.points.length)), (17, (AV.i (s2.points.length : Int))), (18, (AV.i s3))] 29 (AH.mk 5 [(4, (AObj.cells (List.map AV.y s2.staged))), (3, (AObj.cells (s2.points.flatMap Po.cells))), (2, (AObj.cells (s2.map.flatMap Ex.cells))), (1, (AObj.cells [(AV.i 0), (AV.i 0), AV.nl])), (0, (AObj.cells [(AV.i s.blocks), (AV.i s.gen), (exs s.map), (AV.sl s.points.length (s.points.flatMap Po.cells)), (AV.i s.last), (bys s.staged)]))]) false)
noncomputable def z1h (s : Sa) (id : Int) (s0 : Int) (s2 : Sa) (s3 : Int) : Option (Int) :=
 (tb ((decide (s3 < (s2.points.length : Int)))) (tp ((((0 : Int) ≤ s3) ∧ (s3 < (s2.points.length : Int)))) (tb (((v9 s2.points s3.toNat).id == id)) none (some ((wr (s3 + (1 : Int))))))) none)
theorem z9r (s : Sa) (id : Int) (s0 : Int) (s2 : Sa) (s3 zz : Int) : z1h s id s0 s2 s3 = some zz → u5 Try.prog cf 5 (lp Try.prog 15 0) (z3j s id s0 s2 s3) (z3j s id s0 s2 zz) := by
  unfold z1h
  exact tbD (fun h4 h4p => x8 fun h5 => tbE (fun h6 h6p => w6) fun h6 h6p => by intro e; injection e with e; subst e; exact z01 z9 (k := 300) (r := []) (hs := hz [(1, [.yes, .yes, .yes, .cells ((Po.cells (v9 s2.points s3.toNat)))]), (2, [.fc]), (5, [.no]), (2, [])]) (ks := [0, 1, 2, 4, 11, 16, 17, 18]) (st1 := (St.mk [(0, (AV.ag [(AV.i s.blocks), (AV.i s.gen), (exs s.map), (AV.sl s.points.length (s.points.flatMap Po.cells)), (AV.i s.last), (bys s.staged)])), (1, (AV.i id)), (2, (AV.pt 0 0)), (4, (AV.pt 1 0)), (11, (AV.b (s0 != (0 : Int)))), (16, (AV.rf 3 3 0 s2.points.length)), (17, (AV.i (s2.points.length : Int))), (18, (AV.i (wr (s3 + (1 : Int)))))] 29 (AH.mk 6 [(5, (AObj.cells [(AV.i (v9 s2.points s3.toNat).id), (AV.i (v9 s2.points s3.toNat).gen), (exs (v9 s2.points s3.toNat).map)])), (4, (AObj.cells (List.map AV.y s2.staged))), (3, (AObj.cells (s2.points.flatMap Po.cells))), (2, (AObj.cells (s2.map.flatMap Ex.cells))), (1, (AObj.cells [(AV.i 0), (AV.i 0), AV.nl])), (0, (AObj.cells [(AV.i s.blocks), (AV.i s.gen), (exs s.map), (AV.sl s.points.length (s.points.flatMap Po.cells)), (AV.i s.last), (bys s.staged)]))]) false)) kq (ac h4 (ac h5 (ac (fq (p := ((((0 : Nat) + (s3.toNat * 3)) + (3 : Nat)) ≤ (List.length (s2.points.flatMap Po.cells))))) (ac (show (List.take 3 (List.drop ((0 : Nat) + (s3.toNat * 3)) (s2.points.flatMap Po.cells))) = (Po.cells (v9 s2.points s3.toNat)) from (z0p bq bq)) (ac h6 an))))) (Nat.le_of_ble_eq_true rfl) (Nat.le_of_ble_eq_true rfl) (x3 [] [] kq (.consn kq (.agp pq) (.consn kq (.eqv tq rfl) (.consn kq (.pt rfl) (.consn kq (.pt rfl) (.consn kq (.eqv tq rfl) (.consn kq (.rf rfl) (.consn kq (.eqv tq rfl) (.consn kq (.eqv tq rfl) .nil)))))))) (.cons (.old rfl rfl (.cells (.pl rfl (by simp)))) (.cons (.old rfl rfl (.cells (.pl rfl (by simp)))) (.cons (.old rfl rfl (.cells (.pl rfl (by simp)))) (.cons (.old rfl rfl (.cells (.cons (.eqv tq rfl) (.cons (.eqv tq rfl) (.cons .nl0 .nil))))) (.cons (.old rfl rfl (.cells (.pl rfl pq))) .nil))))))) fun h4 h4p => w6
noncomputable def z3l (s : Sa) (id : Int) : Option (Po × Int) :=
 (tc (z8e (s)) fun s0 => (tb ((s0 != (0 : Int))) (some (((Po.mk 0 0 ([] : List Ex)), s0))) (tc (z3i (s)) fun s2 => (th (z1h s id s0 s2) ((0 : Int)) fun s3 => (tb ((decide (s3 < (s2.points.length : Int)))) (tp ((((0 : Int) ≤ s3) ∧ (s3 < (s2.points.length : Int)))) (tb (((v9 s2.points s3.toNat).id == id)) (some (((v9 s2.points s3.toNat), (0 : Int)))) none)) (some (((Po.mk 0 0 ([] : List Ex)), (111 : Int)))))))))
abbrev zt3 (s : Sa) (id : Int) (r : Po × Int) : Prop := z08 Try.prog cf false 15 [Sa.av (s), .i (id)] (.tu [Po.av (r.1), .i (r.2)])
theorem z2p (s : Sa) (id : Int) (r : Po × Int) : z3l s id = some r → zt3 s id r := by
  unfold z3l
  exact x5 fun s0 h0 => tbN (fun h1 h1p => by intro e; injection e with e; subst e; exact x0 z9 (k := 300) (r := []) (hs := hz [(4, [.fc]), (1, [.fres (.i (s0))]), (3, [.yes]), (1, [.fc]), (2, [.fc]), (2, [.fc])]) (raw := (AV.tu [(AV.ag [(AV.i 0), (AV.i 0), (AV.sl 0 ([] : List AV))]), (AV.i s0)])) kq (ac (g0 (s) _ h0).any0 (ac h1 an)) tq) fun h1 h1p => x5 fun s2 h2 => z12 fun s3 h3 => tbD (fun h4 h4p => x8 fun h5 => tbE (fun h6 h6p => by intro e; injection e with e; subst e; exact x0 z9 (k := 300) (r := []) (hs := hz [(4, [.fc]), (1, [.fres (.i (s0))]), (3, [.no]), (1, [.fc]), (1, [.fres (Sa.av (s2))]), (4, [.head (z3j s id s0 s2 s3)]), (1, [.yes, .yes, .yes, .cells ((Po.cells (v9 s2.points s3.toNat)))]), (2, [.fc]), (5, [.yes]), (1, [.fc]), (1, [.fc]), (2, [.fc])]) (raw := (AV.tu [(AV.ag [(AV.i (v9 s2.points s3.toNat).id), (AV.i (v9 s2.points s3.toNat).gen), (exs (v9 s2.points s3.toNat).map)]), (AV.i 0)])) kq (ac (g0 (s) _ h0).any0 (ac h1 (ac (t4 (s) _ h2) (ac (show x6 Try.prog cf (lp Try.prog 15 0) (zbv s id s0 s2) (z3j s id s0 s2 s3) from (x6.of (z9r s id s0 s2) (x3 [] [] kq (.consn kq (.agp pq) (.consn kq (.eqv tq rfl) (.consn kq (.pt rfl) (.consn kq (.pt rfl) (.consn kq (.eqv tq rfl) (.consn kq (.rf rfl) (.consn kq (.eqv tq rfl) (.consn kq (.eqv tq rfl) .nil)))))))) (.cons (.old rfl rfl (.cells (.pl rfl (by simp)))) (.cons (.old rfl rfl (.cells (.pl rfl (by simp)))) (.cons (.old rfl rfl (.cells (.pl rfl (by simp)))) (.cons (.old rfl rfl (.cells (.cons (.eqv tq rfl) (.cons (.eqv tq rfl) (.cons .nl0 .nil))))) (.cons (.old rfl rfl (.cells (.pl rfl pq))) .nil)))))) h3)) (ac h4 (ac h5 (ac (fq (p := ((((0 : Nat) + (s3.toNat * 3)) + (3 : Nat)) ≤ (List.length (s2.points.flatMap Po.cells))))) (ac (show (List.take 3 (List.drop ((0 : Nat) + (s3.toNat * 3)) (s2.points.flatMap Po.cells))) = (Po.cells (v9 s2.points s3.toNat)) from (z0p bq bq)) (ac h6 an))))))))) tq) fun h6 h6p => w6) fun h4 h4p => by intro e; injection e with e; subst e; exact x0 z9 (k := 300) (r := []) (hs := hz [(4, [.fc]), (1, [.fres (.i (s0))]), (3, [.no]), (1, [.fc]), (1, [.fres (Sa.av (s2))]), (4, [.head (z3j s id s0 s2 s3)]), (1, [.no]), (1, [.fc]), (1, [.fc]), (2, [.fc])]) (raw := (AV.tu [(AV.ag [(AV.i 0), (AV.i 0), (AV.sl 0 ([] : List AV))]), (AV.i 111)])) kq (ac (g0 (s) _ h0).any0 (ac h1 (ac (t4 (s) _ h2) (ac (show x6 Try.prog cf (lp Try.prog 15 0) (zbv s id s0 s2) (z3j s id s0 s2 s3) from (x6.of (z9r s id s0 s2) (x3 [] [] kq (.consn kq (.agp pq) (.consn kq (.eqv tq rfl) (.consn kq (.pt rfl) (.consn kq (.pt rfl) (.consn kq (.eqv tq rfl) (.consn kq (.rf rfl) (.consn kq (.eqv tq rfl) (.consn kq (.eqv tq rfl) .nil)))))))) (.cons (.old rfl rfl (.cells (.pl rfl (by simp)))) (.cons (.old rfl rfl (.cells (.pl rfl (by simp)))) (.cons (.old rfl rfl (.cells (.pl rfl (by simp)))) (.cons (.old rfl rfl (.cells (.cons (.eqv tq rfl) (.cons (.eqv tq rfl) (.cons .nl0 .nil))))) (.cons (.old rfl rfl (.cells (.pl rfl pq))) .nil)))))) h3)) (ac h4 an))))) tq
end Ab
end Go.Proofs.Ytimcbhhebnikiaa
namespace Go.Proofs.Ytimcbhhebnikiaa
open Go Go.Proofs.Ytimcbhhebnikiaa.Ab
set_option linter.unusedVariables false
set_option linter.unusedSimpArgs false
set_option maxRecDepth 1000000
set_option maxHeartbeats 0
namespace Ab
noncomputable abbrev zgw (blocks : Int) (l : List Ex) (over_ : List Ex) (s0 : Bool) (s2 : List Ex) (s4 : List Ex × Int) : St := (St.mk [(0, (AV.i blocks)), (1, (exs l)), (2, (exs over_)), (6, AV.nl), (7, (AV.i 0)), (12, (AV.i blocks)), (13, (exs l)), (14, (AV.b s0)), (15, (AV.b (!s0))), (16, (exs l)), (17, (exs s2)), (8, (exs s4.1)), (9, (AV.i 1)), (18, (AV.i 0)), (19, (exs over_)), (20, (AV.i (over_.length : Int))), (21, (AV.b ((0 : Int) == (over_.length : Int)))), (24, (AV.i blocks)), (25, (exs s2)), (26, (exs over_)), (27, (AV.i 0)), (28, (AV.ip (over_.flatMap Ex.cells))), (29, (AV.ag (xc (z7 over_ 0)))), (30, (AV.tu [(exs s4.1), (AV.i s4.2)])), (23, (AV.tu [(exs s4.1), (AV.i s4.2)])), (31, (exs s4.1)), (32, (AV.i s4.2)), (10, (exs s4.1)), (11, (AV.i s4.2)), (33, (AV.i s4.2)), (34, (AV.b (s4.2 != (0 : Int)))), (38, (exs s4.1)), (39, (AV.i 0)), (40, (AV.i 1))] 41 (AH.mk 0 ([] : List (Prod Nat AObj))) false)
noncomputable abbrev z5a (blocks : Int) (l : List Ex) (over_ : List Ex) (s0 : Bool) (s2 : List Ex) (s4 : List Ex × Int) (s6 : List Ex × Int) : St := (St.mk [(0, (AV.i blocks)), (1, (exs l)), (2, (exs over_)), (15, (AV.b (!s0))), (8, (exs s6.1)), (9, (AV.i s6.2))] 41 (AH.mk 0 ([] : List (Prod Nat AObj))) false)
noncomputable def z1s (blocks : Int) (l : List Ex) (over_ : List Ex) (s0 : Bool) (s2 : List Ex) (s4 : List Ex × Int) (s6 : List Ex × Int) : Option (List Ex × Int) :=
 (tb ((s6.2 == (over_.length : Int))) none (tp ((((0 : Int) ≤ s6.2) ∧ (s6.2 < (over_.length : Int)))) (tc (zns (blocks) (s6.1) ((z7 over_ s6.2.toNat))) fun s9 => (tb ((s9.2 != (0 : Int))) none (some ((s9.1, (wr (s6.2 + (1 : Int))))))))))
theorem ze4 (blocks : Int) (l : List Ex) (over_ : List Ex) (s0 : Bool) (s2 : List Ex) (s4 : List Ex × Int) (s6 zz : List Ex × Int) : z1s blocks l over_ s0 s2 s4 s6 = some zz → zi3 Try.prog cf 0 (sc Try.prog 105 0) (sr Try.prog 105 0 0) (z5a blocks l over_ s0 s2 s4 s6) (z5a blocks l over_ s0 s2 s4 zz) := by
  unfold z1s
  exact tbE (fun h7 h7p => w6) fun h7 h7p => x8 fun h8 => x5 fun s9 h9 => tbN (fun h10 h10p => w6) fun h10 h10p => by intro e; injection e with e; subst e; exact zy3 z9 (l := 0) kq (k := 300) (r := []) (hs := hz [(4, [.no]), (4, [.yes, .yes, .cells ((Ex.cells (z7 over_ s6.2.toNat)))]), (1, [.fres (.tu [exs (s9.1), .i (s9.2)])]), (7, [.no]), (5, [])]) (ks := [0, 1, 2, 15, 8, 9]) (bs := []) kq (ac h7 (ac h8 (ac (fq (p := ((5 : Nat) ≤ (List.length (List.drop (s6.2.toNat * 5) (over_.flatMap Ex.cells)))))) (ac (show (List.take 5 (List.drop (s6.2.toNat * 5) (over_.flatMap Ex.cells))) = (Ex.cells (z7 over_ s6.2.toNat)) from (v4 bq bq)) (ac (z9x (blocks) (s6.1) ((z7 over_ s6.2.toNat)) _ h9) (ac h10 an)))))) kq
noncomputable def zll (blocks : Int) (l : List Ex) (over_ : List Ex) : Option (List Ex × Int) :=
 (tc (z7t (blocks) (l)) fun s0 => (tb ((!s0)) (some ((([] : List Ex), (80 : Int)))) (tc (ze1 (l)) fun s2 => (tb (((0 : Int) == (over_.length : Int))) (some ((s2, (0 : Int)))) (tc (zns (blocks) (s2) ((z7 over_ 0))) fun s4 => (tb ((s4.2 != (0 : Int))) (tc (ze1 (l)) fun s6 => (some ((s6, s4.2)))) (th (z1s blocks l over_ s0 s2 s4) ((s4.1, (1 : Int))) fun s6 => (tb ((s6.2 == (over_.length : Int))) (some ((s6.1, (0 : Int)))) (tp ((((0 : Int) ≤ s6.2) ∧ (s6.2 < (over_.length : Int)))) (tc (zns (blocks) (s6.1) ((z7 over_ s6.2.toNat))) fun s9 => (tb ((s9.2 != (0 : Int))) (tc (ze1 (l)) fun s11 => (some ((s11, s9.2)))) none)))))))))))
abbrev zwi (blocks : Int) (l : List Ex) (over_ : List Ex) (r : List Ex × Int) : Prop := z08 Try.prog cf false 105 [.i (blocks), exs (l), exs (over_)] (.tu [exs (r.1), .i (r.2)])
theorem z3u (blocks : Int) (l : List Ex) (over_ : List Ex) (r : List Ex × Int) : zll blocks l over_ = some r → zwi blocks l over_ r := by
  unfold zll
  exact x5 fun s0 h0 => u0 (fun h1 => by intro e; injection e with e; subst e; exact x0 z9 (k := 300) (r := []) (hs := hz [(5, [.fres (.b (s0))]), (1, [.yes]), (2, [])]) (raw := (AV.tu [(AV.sl 0 ([] : List AV)), (AV.i 80)])) kq (ac (z0s (blocks) (l) _ h0).any0 (ac h1 an)) tq) fun h1 => x5 fun s2 h2 => tbE (fun h3 h3p => by intro e; injection e with e; subst e; exact x0 z9 (k := 300) (r := []) (hs := hz [(5, [.fres (.b (s0))]), (1, [.no]), (2, [.fres (exs (s2))]), (6, [.yes]), (3, [])]) (raw := (AV.tu [(exs s2), (AV.i 0)])) kq (ac (z0s (blocks) (l) _ h0).any0 (ac h1 (ac (z52 (l) _ h2) (ac h3 an)))) tq) fun h3 h3p => x5 fun s4 h4 => tbN (fun h5 h5p => x5 fun s6 h6 => by intro e; injection e with e; subst e; exact x0 z9 (k := 300) (r := []) (hs := hz [(5, [.fres (.b (s0))]), (1, [.no]), (2, [.fres (exs (s2))]), (6, [.no]), (4, [.yes, .yes, .cells ((Ex.cells (z7 over_ 0)))]), (1, [.fres (.tu [exs (s4.1), .i (s4.2)])]), (7, [.yes]), (2, [.fres (exs (s6))]), (3, [])]) (raw := (AV.tu [(exs s6), (AV.i s4.2)])) kq (ac (z0s (blocks) (l) _ h0).any0 (ac h1 (ac (z52 (l) _ h2) (ac h3 (ac (fq (p := (((0 : Int) ≤ (0 : Int)) ∧ ((0 : Int) < (over_.length : Int))))) (ac (fq (p := ((5 : Nat) ≤ (List.length (over_.flatMap Ex.cells))))) (ac (show (List.take 5 (over_.flatMap Ex.cells)) = (Ex.cells (z7 over_ 0)) from (by have h := zcr (over_) 0 bq; rwa [Nat.zero_mul, List.drop_zero] at h)) (ac (z9x (blocks) (s2) ((z7 over_ 0)) _ h4) (ac h5 (ac (z52 (l) _ h6) an)))))))))) tq) fun h5 h5p => z12 fun s6 h6 => tbE (fun h7 h7p => by intro e; injection e with e; subst e; exact x0 z9 (k := 300) (r := []) (hs := hz [(5, [.fres (.b (s0))]), (1, [.no]), (2, [.fres (exs (s2))]), (6, [.no]), (4, [.yes, .yes, .cells ((Ex.cells (z7 over_ 0)))]), (1, [.fres (.tu [exs (s4.1), .i (s4.2)])]), (7, [.no]), (5, [.head (z5a blocks l over_ s0 s2 s4 s6)]), (4, [.yes]), (3, [])]) (raw := (AV.tu [(exs s6.1), (AV.i 0)])) kq (ac (z0s (blocks) (l) _ h0).any0 (ac h1 (ac (z52 (l) _ h2) (ac h3 (ac (fq (p := (((0 : Int) ≤ (0 : Int)) ∧ ((0 : Int) < (over_.length : Int))))) (ac (fq (p := ((5 : Nat) ≤ (List.length (over_.flatMap Ex.cells))))) (ac (show (List.take 5 (over_.flatMap Ex.cells)) = (Ex.cells (z7 over_ 0)) from (by have h := zcr (over_) 0 bq; rwa [Nat.zero_mul, List.drop_zero] at h)) (ac (z9x (blocks) (s2) ((z7 over_ 0)) _ h4) (ac h5 (ac (show z74 Try.prog cf (sc Try.prog 105 0) (sr Try.prog 105 0 0) (zgw blocks l over_ s0 s2 s4) (z5a blocks l over_ s0 s2 s4 s6) from (z74.of (ze4 blocks l over_ s0 s2 s4) (x3 [] [] kq (.consn kq (.eqv tq rfl) (.consn kq (.eqv tq rfl) (.consn kq (.eqv tq rfl) (.consn kq (.eqv tq rfl) (.consn (x := (exs s4.1)) kq (.eqv tq rfl) (.consn kq (.eqv tq rfl) .nil)))))) .nil) h6)) (ac h7 an))))))))))) tq) fun h7 h7p => x8 fun h8 => x5 fun s9 h9 => tbN (fun h10 h10p => x5 fun s11 h11 => by intro e; injection e with e; subst e; exact x0 z9 (k := 300) (r := []) (hs := hz [(5, [.fres (.b (s0))]), (1, [.no]), (2, [.fres (exs (s2))]), (6, [.no]), (4, [.yes, .yes, .cells ((Ex.cells (z7 over_ 0)))]), (1, [.fres (.tu [exs (s4.1), .i (s4.2)])]), (7, [.no]), (5, [.head (z5a blocks l over_ s0 s2 s4 s6)]), (4, [.no]), (4, [.yes, .yes, .cells ((Ex.cells (z7 over_ s6.2.toNat)))]), (1, [.fres (.tu [exs (s9.1), .i (s9.2)])]), (7, [.yes]), (2, [.fres (exs (s11))]), (3, [])]) (raw := (AV.tu [(exs s11), (AV.i s9.2)])) kq (ac (z0s (blocks) (l) _ h0).any0 (ac h1 (ac (z52 (l) _ h2) (ac h3 (ac (fq (p := (((0 : Int) ≤ (0 : Int)) ∧ ((0 : Int) < (over_.length : Int))))) (ac (fq (p := ((5 : Nat) ≤ (List.length (over_.flatMap Ex.cells))))) (ac (show (List.take 5 (over_.flatMap Ex.cells)) = (Ex.cells (z7 over_ 0)) from (by have h := zcr (over_) 0 bq; rwa [Nat.zero_mul, List.drop_zero] at h)) (ac (z9x (blocks) (s2) ((z7 over_ 0)) _ h4) (ac h5 (ac (show z74 Try.prog cf (sc Try.prog 105 0) (sr Try.prog 105 0 0) (zgw blocks l over_ s0 s2 s4) (z5a blocks l over_ s0 s2 s4 s6) from (z74.of (ze4 blocks l over_ s0 s2 s4) (x3 [] [] kq (.consn kq (.eqv tq rfl) (.consn kq (.eqv tq rfl) (.consn kq (.eqv tq rfl) (.consn kq (.eqv tq rfl) (.consn (x := (exs s4.1)) kq (.eqv tq rfl) (.consn kq (.eqv tq rfl) .nil)))))) .nil) h6)) (ac h7 (ac h8 (ac (fq (p := ((5 : Nat) ≤ (List.length (List.drop (s6.2.toNat * 5) (over_.flatMap Ex.cells)))))) (ac (show (List.take 5 (List.drop (s6.2.toNat * 5) (over_.flatMap Ex.cells))) = (Ex.cells (z7 over_ s6.2.toNat)) from (v4 bq bq)) (ac (z9x (blocks) (s6.1) ((z7 over_ s6.2.toNat)) _ h9) (ac h10 (ac (z52 (l) _ h11) an))))))))))))))))) tq) fun h10 h10p => w6
end Ab
end Go.Proofs.Ytimcbhhebnikiaa
namespace Go.Proofs.Ytimcbhhebnikiaa
open Go Go.Proofs.Ytimcbhhebnikiaa.Ab
set_option linter.unusedVariables false
set_option linter.unusedSimpArgs false
set_option maxRecDepth 1000000
set_option maxHeartbeats 0
namespace Ab
noncomputable abbrev zm2 (s : Sa) (c : Ch) (s0 : Int) (s2 : Bool) (s4 : Sa) (s6 : List Ex) : St := (St.mk [(0, (AV.pt 6 0)), (1, (AV.rf 9 5 0 1)), (4, (AV.i 0)), (9, (AV.rf 9 5 0 1)), (10, (AV.rf 10 5 0 s6.length)), (5, (AV.rf 10 5 0 s6.length)), (11, (AV.rf 10 5 0 s6.length)), (12, (AV.i (s6.length : Int))), (13, (AV.i 0))] 45 (AH.mk 11 [(10, (AObj.cells (s6.flatMap Ex.cells))), (9, (AObj.ro [(AV.i c.lba), (AV.i c.n), (AV.i 2), (AV.i 0), (bys c.d)])), (8, (AObj.cells [(AV.i c.kind), (AV.i c.lba), (AV.i c.n), (AV.i c.id), (bys c.d), (exs c.list)])), (7, (AObj.map [((AV.i 1), (AV.fn (75 : Nat) ([] : List AV))), ((AV.i 2), (AV.fn (76 : Nat) ([] : List AV))), ((AV.i 3), (AV.fn (77 : Nat) ([] : List AV))), ((AV.i 4), (AV.fn (78 : Nat) ([] : List AV))), ((AV.i 5), (AV.fn (79 : Nat) ([] : List AV))), ((AV.i 6), (AV.fn (80 : Nat) ([] : List AV))), ((AV.i 7), (AV.fn (81 : Nat) ([] : List AV))), ((AV.i 8), (AV.fn (82 : Nat) ([] : List AV)))])), (6, (AObj.cells [(AV.i s4.blocks), (AV.i s4.gen), (AV.rf 3 5 0 s4.map.length), (AV.rf 4 3 0 s4.points.length), (AV.i s4.last), (AV.rf 5 1 0 s4.staged.length)])), (5, (AObj.cells (List.map AV.y s4.staged))), (4, (AObj.cells (s4.points.flatMap Po.cells))), (3, (AObj.cells (s4.map.flatMap Ex.cells))), (2, (AObj.cells [(AV.i 0), (AV.i 0), AV.nl, AV.nl, (AV.i 0), AV.nl])), (1, (AObj.cells [(AV.i c.kind), (AV.i c.lba), (AV.i c.n), (AV.i c.id), (bys c.d), (exs c.list)])), (0, (AObj.cells [(AV.i s.blocks), (AV.i s.gen), (exs s.map), (AV.sl s.points.length (s.points.flatMap Po.cells)), (AV.i s.last), (bys s.staged)]))]) false)
noncomputable abbrev z6j (s : Sa) (c : Ch) (s0 : Int) (s2 : Bool) (s4 : Sa) (s6 : List Ex) (s7 : Int × List Ex) : St := (St.mk [(0, (AV.pt 6 0)), (1, (AV.rf 9 5 0 1)), (4, (AV.i 0)), (5, (AV.rf 10 5 0 s6.length)), (12, (AV.i (s6.length : Int))), (13, (AV.i s7.1))] 45 (AH.mk 11 [(10, (AObj.cells (s7.2.flatMap Ex.cells))), (9, (AObj.ro [(AV.i c.lba), (AV.i c.n), (AV.i 2), (AV.i 0), (bys c.d)])), (8, (AObj.cells [(AV.i c.kind), (AV.i c.lba), (AV.i c.n), (AV.i c.id), (bys c.d), (exs c.list)])), (6, (AObj.cells [(AV.i s4.blocks), (AV.i s4.gen), (AV.rf 3 5 0 s4.map.length), (AV.rf 4 3 0 s4.points.length), (AV.i s4.last), (AV.rf 5 1 0 s4.staged.length)])), (5, (AObj.cells (List.map AV.y s4.staged))), (4, (AObj.cells (s4.points.flatMap Po.cells))), (3, (AObj.cells (s4.map.flatMap Ex.cells))), (2, (AObj.cells [(AV.i 0), (AV.i 0), AV.nl, AV.nl, (AV.i 0), AV.nl])), (1, (AObj.cells [(AV.i c.kind), (AV.i c.lba), (AV.i c.n), (AV.i c.id), (bys c.d), (exs c.list)])), (0, (AObj.cells [(AV.i s.blocks), (AV.i s.gen), (exs s.map), (AV.sl s.points.length (s.points.flatMap Po.cells)), (AV.i s.last), (bys s.staged)]))]) false)
noncomputable def z84 (s : Sa) (c : Ch) (s0 : Int) (s2 : Bool) (s4 : Sa) (s6 : List Ex) (s7 : Int × List Ex) : Option (Int × List Ex) :=
 (tb ((decide (s7.1 < (s6.length : Int)))) (tp ((((0 : Int) ≤ s7.1) ∧ (s7.1 < (s6.length : Int)))) (tp ((((List.length [(AV.i s4.gen)]) = (1 : Nat)) ∧ (((((0 : Nat) + (s7.1.toNat * 5)) + (3 : Nat)) + (List.length [(AV.i s4.gen)])) ≤ (List.length (s7.2.flatMap Ex.cells))))) (some (((wr (s7.1 + (1 : Int))), (List.set s7.2 s7.1.toNat (Ex.mk (z7 s7.2 s7.1.toNat).lba (z7 s7.2 s7.1.toNat).len (z7 s7.2 s7.1.toNat).kind s4.gen (z7 s7.2 s7.1.toNat).d))))))) none)
theorem zgp (s : Sa) (c : Ch) (s0 : Int) (s2 : Bool) (s4 : Sa) (s6 : List Ex) (s7 zz : Int × List Ex) : z84 s c s0 s2 s4 s6 s7 = some zz → u5 Try.prog cf 11 (lp Try.prog 97 0) (z6j s c s0 s2 s4 s6 s7) (z6j s c s0 s2 s4 s6 zz) := by
  unfold z84
  exact tbD (fun h8 h8p => x8 fun h9 => x8 fun h10 => by intro e; injection e with e; subst e; exact z01 z9 (k := 300) (r := []) (hs := hz [(1, [.yes]), (9, [.yes]), (1, [.yes, .cells ((List.flatMap Ex.cells (List.set s7.2 s7.1.toNat (Ex.mk (z7 s7.2 s7.1.toNat).lba (z7 s7.2 s7.1.toNat).len (z7 s7.2 s7.1.toNat).kind s4.gen (z7 s7.2 s7.1.toNat).d))))]), (2, [])]) (ks := [0, 1, 4, 5, 12, 13]) (st1 := (St.mk [(0, (AV.pt 6 0)), (1, (AV.rf 9 5 0 1)), (4, (AV.i 0)), (5, (AV.rf 10 5 0 s6.length)), (12, (AV.i (s6.length : Int))), (13, (AV.i (wr (s7.1 + (1 : Int)))))] 45 (AH.mk 11 [(10, (AObj.cells (List.flatMap Ex.cells (List.set s7.2 s7.1.toNat (Ex.mk (z7 s7.2 s7.1.toNat).lba (z7 s7.2 s7.1.toNat).len (z7 s7.2 s7.1.toNat).kind s4.gen (z7 s7.2 s7.1.toNat).d))))), (9, (AObj.ro [(AV.i c.lba), (AV.i c.n), (AV.i 2), (AV.i 0), (bys c.d)])), (8, (AObj.cells [(AV.i c.kind), (AV.i c.lba), (AV.i c.n), (AV.i c.id), (bys c.d), (exs c.list)])), (6, (AObj.cells [(AV.i s4.blocks), (AV.i s4.gen), (AV.rf 3 5 0 s4.map.length), (AV.rf 4 3 0 s4.points.length), (AV.i s4.last), (AV.rf 5 1 0 s4.staged.length)])), (5, (AObj.cells (List.map AV.y s4.staged))), (4, (AObj.cells (s4.points.flatMap Po.cells))), (3, (AObj.cells (s4.map.flatMap Ex.cells))), (2, (AObj.cells [(AV.i 0), (AV.i 0), AV.nl, AV.nl, (AV.i 0), AV.nl])), (1, (AObj.cells [(AV.i c.kind), (AV.i c.lba), (AV.i c.n), (AV.i c.id), (bys c.d), (exs c.list)])), (0, (AObj.cells [(AV.i s.blocks), (AV.i s.gen), (exs s.map), (AV.sl s.points.length (s.points.flatMap Po.cells)), (AV.i s.last), (bys s.staged)]))]) false)) kq (ac h8 (ac h9 (ac h10 (ac (show (((List.take (((0 : Nat) + (s7.1.toNat * 5)) + (3 : Nat)) (s7.2.flatMap Ex.cells)) ++ [(AV.i s4.gen)]) ++ (List.drop ((((0 : Nat) + (s7.1.toNat * 5)) + (3 : Nat)) + (List.length [(AV.i s4.gen)])) (s7.2.flatMap Ex.cells))) = (List.flatMap Ex.cells (List.set s7.2 s7.1.toNat (Ex.mk (z7 s7.2 s7.1.toNat).lba (z7 s7.2 s7.1.toNat).len (z7 s7.2 s7.1.toNat).kind s4.gen (z7 s7.2 s7.1.toNat).d))) from (by rw [show (((0 : Nat) + (s7.1.toNat * 5)) + (3 : Nat)) = (s7.1.toNat) * 5 + 3 by omega]; exact zcl _ _ 3 _ ((Ex.mk (z7 s7.2 s7.1.toNat).lba (z7 s7.2 s7.1.toNat).len (z7 s7.2 s7.1.toNat).kind s4.gen (z7 s7.2 s7.1.toNat).d)) bq (by simp) rfl)) an)))) (Nat.le_of_ble_eq_true rfl) (Nat.le_of_ble_eq_true rfl) (x3 [] [] kq (.consn kq (.pt rfl) (.consn kq (.rf rfl) (.consn kq (.eqv tq rfl) (.consn kq (.rf rfl) (.consn kq (.eqv tq rfl) (.consn kq (.eqv tq rfl) .nil)))))) (.cons (.old rfl rfl (.cells (.pl tq pq))) (.cons (.old rfl rfl (.ro (.pl rfl (by simp)))) (.cons (.old rfl rfl (.cells (.pl rfl pq))) (.cons (.old rfl rfl (.cells (.cons (.eqv tq rfl) (.cons (.eqv tq rfl) (.cons (.rf rfl) (.cons (.rf rfl) (.cons (.eqv tq rfl) (.cons (.rf rfl) .nil)))))))) (.cons (.old rfl rfl (.cells (.pl rfl (by simp)))) (.cons (.old rfl rfl (.cells (.pl rfl (by simp)))) (.cons (.old rfl rfl (.cells (.pl rfl (by simp)))) (.cons (.old rfl rfl (.cells (.cons (.eqv tq rfl) (.cons (.eqv tq rfl) (.cons .nl0 (.cons .nl0 (.cons (.eqv tq rfl) (.cons .nl0 .nil)))))))) (.cons (.old rfl rfl (.cells (.pl rfl pq))) (.cons (.old rfl rfl (.cells (.pl rfl pq))) .nil)))))))))))) fun h8 h8p => w6
noncomputable abbrev zlw (s : Sa) (c : Ch) (s0 : Int) (s2 : Bool) (s4 : Sa) (s7 : List Ex) : St := (St.mk [(0, (AV.pt 6 0)), (1, (AV.rf 9 5 0 1)), (4, (AV.i 0)), (9, (AV.rf 9 5 0 1)), (10, (AV.rf 10 5 0 s7.length)), (5, (AV.rf 10 5 0 s7.length)), (11, (AV.rf 10 5 0 s7.length)), (12, (AV.i (s7.length : Int))), (13, (AV.i 0))] 45 (AH.mk 11 [(10, (AObj.cells (s7.flatMap Ex.cells))), (9, (AObj.ro [(AV.i c.lba), (AV.i c.n), (AV.i 1), (AV.i 0), AV.nl])), (8, (AObj.cells [(AV.i c.kind), (AV.i c.lba), (AV.i c.n), (AV.i c.id), (bys c.d), (exs c.list)])), (7, (AObj.map [((AV.i 1), (AV.fn (75 : Nat) ([] : List AV))), ((AV.i 2), (AV.fn (76 : Nat) ([] : List AV))), ((AV.i 3), (AV.fn (77 : Nat) ([] : List AV))), ((AV.i 4), (AV.fn (78 : Nat) ([] : List AV))), ((AV.i 5), (AV.fn (79 : Nat) ([] : List AV))), ((AV.i 6), (AV.fn (80 : Nat) ([] : List AV))), ((AV.i 7), (AV.fn (81 : Nat) ([] : List AV))), ((AV.i 8), (AV.fn (82 : Nat) ([] : List AV)))])), (6, (AObj.cells [(AV.i s4.blocks), (AV.i s4.gen), (AV.rf 3 5 0 s4.map.length), (AV.rf 4 3 0 s4.points.length), (AV.i s4.last), (AV.rf 5 1 0 s4.staged.length)])), (5, (AObj.cells (List.map AV.y s4.staged))), (4, (AObj.cells (s4.points.flatMap Po.cells))), (3, (AObj.cells (s4.map.flatMap Ex.cells))), (2, (AObj.cells [(AV.i 0), (AV.i 0), AV.nl, AV.nl, (AV.i 0), AV.nl])), (1, (AObj.cells [(AV.i c.kind), (AV.i c.lba), (AV.i c.n), (AV.i c.id), (bys c.d), (exs c.list)])), (0, (AObj.cells [(AV.i s.blocks), (AV.i s.gen), (exs s.map), (AV.sl s.points.length (s.points.flatMap Po.cells)), (AV.i s.last), (bys s.staged)]))]) false)
noncomputable abbrev z6f (s : Sa) (c : Ch) (s0 : Int) (s2 : Bool) (s4 : Sa) (s7 : List Ex) (s8 : Int × List Ex) : St := (St.mk [(0, (AV.pt 6 0)), (1, (AV.rf 9 5 0 1)), (4, (AV.i 0)), (5, (AV.rf 10 5 0 s7.length)), (12, (AV.i (s7.length : Int))), (13, (AV.i s8.1))] 45 (AH.mk 11 [(10, (AObj.cells (s8.2.flatMap Ex.cells))), (9, (AObj.ro [(AV.i c.lba), (AV.i c.n), (AV.i (Int.ofNat 1)), (AV.i (Int.ofNat 0)), AV.nl])), (8, (AObj.cells [(AV.i c.kind), (AV.i c.lba), (AV.i c.n), (AV.i c.id), (bys c.d), (exs c.list)])), (6, (AObj.cells [(AV.i s4.blocks), (AV.i s4.gen), (AV.rf 3 5 0 s4.map.length), (AV.rf 4 3 0 s4.points.length), (AV.i s4.last), (AV.rf 5 1 0 s4.staged.length)])), (5, (AObj.cells (List.map AV.y s4.staged))), (4, (AObj.cells (s4.points.flatMap Po.cells))), (3, (AObj.cells (s4.map.flatMap Ex.cells))), (2, (AObj.cells [(AV.i 0), (AV.i 0), AV.nl, AV.nl, (AV.i 0), AV.nl])), (1, (AObj.cells [(AV.i c.kind), (AV.i c.lba), (AV.i c.n), (AV.i c.id), (bys c.d), (exs c.list)])), (0, (AObj.cells [(AV.i s.blocks), (AV.i s.gen), (exs s.map), (AV.sl s.points.length (s.points.flatMap Po.cells)), (AV.i s.last), (bys s.staged)]))]) false)
noncomputable def z7w (s : Sa) (c : Ch) (s0 : Int) (s2 : Bool) (s4 : Sa) (s7 : List Ex) (s8 : Int × List Ex) : Option (Int × List Ex) :=
 (tb ((decide (s8.1 < (s7.length : Int)))) (tp ((((0 : Int) ≤ s8.1) ∧ (s8.1 < (s7.length : Int)))) (tp ((((List.length [(AV.i s4.gen)]) = (1 : Nat)) ∧ (((((0 : Nat) + (s8.1.toNat * 5)) + (3 : Nat)) + (List.length [(AV.i s4.gen)])) ≤ (List.length (s8.2.flatMap Ex.cells))))) (some (((wr (s8.1 + (1 : Int))), (List.set s8.2 s8.1.toNat (Ex.mk (z7 s8.2 s8.1.toNat).lba (z7 s8.2 s8.1.toNat).len (z7 s8.2 s8.1.toNat).kind s4.gen (z7 s8.2 s8.1.toNat).d))))))) none)
theorem zgd (s : Sa) (c : Ch) (s0 : Int) (s2 : Bool) (s4 : Sa) (s7 : List Ex) (s8 zz : Int × List Ex) : z7w s c s0 s2 s4 s7 s8 = some zz → u5 Try.prog cf 11 (lp Try.prog 97 0) (z6f s c s0 s2 s4 s7 s8) (z6f s c s0 s2 s4 s7 zz) := by
  unfold z7w
  exact tbD (fun h9 h9p => x8 fun h10 => x8 fun h11 => by intro e; injection e with e; subst e; exact z01 z9 (k := 300) (r := []) (hs := hz [(1, [.yes]), (9, [.yes]), (1, [.yes, .cells ((List.flatMap Ex.cells (List.set s8.2 s8.1.toNat (Ex.mk (z7 s8.2 s8.1.toNat).lba (z7 s8.2 s8.1.toNat).len (z7 s8.2 s8.1.toNat).kind s4.gen (z7 s8.2 s8.1.toNat).d))))]), (2, [])]) (ks := [0, 1, 4, 5, 12, 13]) (st1 := (St.mk [(0, (AV.pt 6 0)), (1, (AV.rf 9 5 0 1)), (4, (AV.i 0)), (5, (AV.rf 10 5 0 s7.length)), (12, (AV.i (s7.length : Int))), (13, (AV.i (wr (s8.1 + (1 : Int)))))] 45 (AH.mk 11 [(10, (AObj.cells (List.flatMap Ex.cells (List.set s8.2 s8.1.toNat (Ex.mk (z7 s8.2 s8.1.toNat).lba (z7 s8.2 s8.1.toNat).len (z7 s8.2 s8.1.toNat).kind s4.gen (z7 s8.2 s8.1.toNat).d))))), (9, (AObj.ro [(AV.i c.lba), (AV.i c.n), (AV.i 1), (AV.i 0), AV.nl])), (8, (AObj.cells [(AV.i c.kind), (AV.i c.lba), (AV.i c.n), (AV.i c.id), (bys c.d), (exs c.list)])), (6, (AObj.cells [(AV.i s4.blocks), (AV.i s4.gen), (AV.rf 3 5 0 s4.map.length), (AV.rf 4 3 0 s4.points.length), (AV.i s4.last), (AV.rf 5 1 0 s4.staged.length)])), (5, (AObj.cells (List.map AV.y s4.staged))), (4, (AObj.cells (s4.points.flatMap Po.cells))), (3, (AObj.cells (s4.map.flatMap Ex.cells))), (2, (AObj.cells [(AV.i 0), (AV.i 0), AV.nl, AV.nl, (AV.i 0), AV.nl])), (1, (AObj.cells [(AV.i c.kind), (AV.i c.lba), (AV.i c.n), (AV.i c.id), (bys c.d), (exs c.list)])), (0, (AObj.cells [(AV.i s.blocks), (AV.i s.gen), (exs s.map), (AV.sl s.points.length (s.points.flatMap Po.cells)), (AV.i s.last), (bys s.staged)]))]) false)) kq (ac h9 (ac h10 (ac h11 (ac (show (((List.take (((0 : Nat) + (s8.1.toNat * 5)) + (3 : Nat)) (s8.2.flatMap Ex.cells)) ++ [(AV.i s4.gen)]) ++ (List.drop ((((0 : Nat) + (s8.1.toNat * 5)) + (3 : Nat)) + (List.length [(AV.i s4.gen)])) (s8.2.flatMap Ex.cells))) = (List.flatMap Ex.cells (List.set s8.2 s8.1.toNat (Ex.mk (z7 s8.2 s8.1.toNat).lba (z7 s8.2 s8.1.toNat).len (z7 s8.2 s8.1.toNat).kind s4.gen (z7 s8.2 s8.1.toNat).d))) from (by rw [show (((0 : Nat) + (s8.1.toNat * 5)) + (3 : Nat)) = (s8.1.toNat) * 5 + 3 by omega]; exact zcl _ _ 3 _ ((Ex.mk (z7 s8.2 s8.1.toNat).lba (z7 s8.2 s8.1.toNat).len (z7 s8.2 s8.1.toNat).kind s4.gen (z7 s8.2 s8.1.toNat).d)) bq (by simp) rfl)) an)))) (Nat.le_of_ble_eq_true rfl) (Nat.le_of_ble_eq_true rfl) (x3 [] [] kq (.consn kq (.pt rfl) (.consn kq (.rf rfl) (.consn kq (.eqv tq rfl) (.consn kq (.rf rfl) (.consn kq (.eqv tq rfl) (.consn kq (.eqv tq rfl) .nil)))))) (.cons (.old rfl rfl (.cells (.pl tq pq))) (.cons (.old rfl rfl (.ro (.pl0 rfl))) (.cons (.old rfl rfl (.cells (.pl rfl pq))) (.cons (.old rfl rfl (.cells (.cons (.eqv tq rfl) (.cons (.eqv tq rfl) (.cons (.rf rfl) (.cons (.rf rfl) (.cons (.eqv tq rfl) (.cons (.rf rfl) .nil)))))))) (.cons (.old rfl rfl (.cells (.pl rfl (by simp)))) (.cons (.old rfl rfl (.cells (.pl rfl (by simp)))) (.cons (.old rfl rfl (.cells (.pl rfl (by simp)))) (.cons (.old rfl rfl (.cells (.cons (.eqv tq rfl) (.cons (.eqv tq rfl) (.cons .nl0 (.cons .nl0 (.cons (.eqv tq rfl) (.cons .nl0 .nil)))))))) (.cons (.old rfl rfl (.cells (.pl rfl pq))) (.cons (.old rfl rfl (.cells (.pl rfl pq))) .nil)))))))))))) fun h9 h9p => w6
noncomputable abbrev zkq (s : Sa) (c : Ch) (s0 : Int) (s2 : Bool) (s4 : Sa) (s8 : List Ex) : St := (St.mk [(0, (AV.pt 6 0)), (1, (AV.rf 9 5 0 1)), (4, (AV.i 0)), (9, (AV.rf 9 5 0 1)), (10, (AV.rf 10 5 0 s8.length)), (5, (AV.rf 10 5 0 s8.length)), (11, (AV.rf 10 5 0 s8.length)), (12, (AV.i (s8.length : Int))), (13, (AV.i 0))] 45 (AH.mk 11 [(10, (AObj.cells (s8.flatMap Ex.cells))), (9, (AObj.ro [(AV.i c.lba), (AV.i c.n), (AV.i 0), (AV.i 0), AV.nl])), (8, (AObj.cells [(AV.i c.kind), (AV.i c.lba), (AV.i c.n), (AV.i c.id), (bys c.d), (exs c.list)])), (7, (AObj.map [((AV.i 1), (AV.fn (75 : Nat) ([] : List AV))), ((AV.i 2), (AV.fn (76 : Nat) ([] : List AV))), ((AV.i 3), (AV.fn (77 : Nat) ([] : List AV))), ((AV.i 4), (AV.fn (78 : Nat) ([] : List AV))), ((AV.i 5), (AV.fn (79 : Nat) ([] : List AV))), ((AV.i 6), (AV.fn (80 : Nat) ([] : List AV))), ((AV.i 7), (AV.fn (81 : Nat) ([] : List AV))), ((AV.i 8), (AV.fn (82 : Nat) ([] : List AV)))])), (6, (AObj.cells [(AV.i s4.blocks), (AV.i s4.gen), (AV.rf 3 5 0 s4.map.length), (AV.rf 4 3 0 s4.points.length), (AV.i s4.last), (AV.rf 5 1 0 s4.staged.length)])), (5, (AObj.cells (List.map AV.y s4.staged))), (4, (AObj.cells (s4.points.flatMap Po.cells))), (3, (AObj.cells (s4.map.flatMap Ex.cells))), (2, (AObj.cells [(AV.i 0), (AV.i 0), AV.nl, AV.nl, (AV.i 0), AV.nl])), (1, (AObj.cells [(AV.i c.kind), (AV.i c.lba), (AV.i c.n), (AV.i c.id), (bys c.d), (exs c.list)])), (0, (AObj.cells [(AV.i s.blocks), (AV.i s.gen), (exs s.map), (AV.sl s.points.length (s.points.flatMap Po.cells)), (AV.i s.last), (bys s.staged)]))]) false)
noncomputable abbrev z6x (s : Sa) (c : Ch) (s0 : Int) (s2 : Bool) (s4 : Sa) (s8 : List Ex) (s9 : Int × List Ex) : St := (St.mk [(0, (AV.pt 6 0)), (1, (AV.rf 9 5 0 1)), (4, (AV.i 0)), (5, (AV.rf 10 5 0 s8.length)), (12, (AV.i (s8.length : Int))), (13, (AV.i s9.1))] 45 (AH.mk 11 [(10, (AObj.cells (s9.2.flatMap Ex.cells))), (9, (AObj.ro [(AV.i c.lba), (AV.i c.n), (AV.i (Int.ofNat 0)), (AV.i (Int.ofNat 0)), AV.nl])), (8, (AObj.cells [(AV.i c.kind), (AV.i c.lba), (AV.i c.n), (AV.i c.id), (bys c.d), (exs c.list)])), (6, (AObj.cells [(AV.i s4.blocks), (AV.i s4.gen), (AV.rf 3 5 0 s4.map.length), (AV.rf 4 3 0 s4.points.length), (AV.i s4.last), (AV.rf 5 1 0 s4.staged.length)])), (5, (AObj.cells (List.map AV.y s4.staged))), (4, (AObj.cells (s4.points.flatMap Po.cells))), (3, (AObj.cells (s4.map.flatMap Ex.cells))), (2, (AObj.cells [(AV.i 0), (AV.i 0), AV.nl, AV.nl, (AV.i 0), AV.nl])), (1, (AObj.cells [(AV.i c.kind), (AV.i c.lba), (AV.i c.n), (AV.i c.id), (bys c.d), (exs c.list)])), (0, (AObj.cells [(AV.i s.blocks), (AV.i s.gen), (exs s.map), (AV.sl s.points.length (s.points.flatMap Po.cells)), (AV.i s.last), (bys s.staged)]))]) false)
noncomputable def z8c (s : Sa) (c : Ch) (s0 : Int) (s2 : Bool) (s4 : Sa) (s8 : List Ex) (s9 : Int × List Ex) : Option (Int × List Ex) :=
 (tb ((decide (s9.1 < (s8.length : Int)))) (tp ((((0 : Int) ≤ s9.1) ∧ (s9.1 < (s8.length : Int)))) (tp ((((List.length [(AV.i s4.gen)]) = (1 : Nat)) ∧ (((((0 : Nat) + (s9.1.toNat * 5)) + (3 : Nat)) + (List.length [(AV.i s4.gen)])) ≤ (List.length (s9.2.flatMap Ex.cells))))) (some (((wr (s9.1 + (1 : Int))), (List.set s9.2 s9.1.toNat (Ex.mk (z7 s9.2 s9.1.toNat).lba (z7 s9.2 s9.1.toNat).len (z7 s9.2 s9.1.toNat).kind s4.gen (z7 s9.2 s9.1.toNat).d))))))) none)
theorem zh2 (s : Sa) (c : Ch) (s0 : Int) (s2 : Bool) (s4 : Sa) (s8 : List Ex) (s9 zz : Int × List Ex) : z8c s c s0 s2 s4 s8 s9 = some zz → u5 Try.prog cf 11 (lp Try.prog 97 0) (z6x s c s0 s2 s4 s8 s9) (z6x s c s0 s2 s4 s8 zz) := by
  unfold z8c
  exact tbD (fun h10 h10p => x8 fun h11 => x8 fun h12 => by intro e; injection e with e; subst e; exact z01 z9 (k := 300) (r := []) (hs := hz [(1, [.yes]), (9, [.yes]), (1, [.yes, .cells ((List.flatMap Ex.cells (List.set s9.2 s9.1.toNat (Ex.mk (z7 s9.2 s9.1.toNat).lba (z7 s9.2 s9.1.toNat).len (z7 s9.2 s9.1.toNat).kind s4.gen (z7 s9.2 s9.1.toNat).d))))]), (2, [])]) (ks := [0, 1, 4, 5, 12, 13]) (st1 := (St.mk [(0, (AV.pt 6 0)), (1, (AV.rf 9 5 0 1)), (4, (AV.i 0)), (5, (AV.rf 10 5 0 s8.length)), (12, (AV.i (s8.length : Int))), (13, (AV.i (wr (s9.1 + (1 : Int)))))] 45 (AH.mk 11 [(10, (AObj.cells (List.flatMap Ex.cells (List.set s9.2 s9.1.toNat (Ex.mk (z7 s9.2 s9.1.toNat).lba (z7 s9.2 s9.1.toNat).len (z7 s9.2 s9.1.toNat).kind s4.gen (z7 s9.2 s9.1.toNat).d))))), (9, (AObj.ro [(AV.i c.lba), (AV.i c.n), (AV.i 0), (AV.i 0), AV.nl])), (8, (AObj.cells [(AV.i c.kind), (AV.i c.lba), (AV.i c.n), (AV.i c.id), (bys c.d), (exs c.list)])), (6, (AObj.cells [(AV.i s4.blocks), (AV.i s4.gen), (AV.rf 3 5 0 s4.map.length), (AV.rf 4 3 0 s4.points.length), (AV.i s4.last), (AV.rf 5 1 0 s4.staged.length)])), (5, (AObj.cells (List.map AV.y s4.staged))), (4, (AObj.cells (s4.points.flatMap Po.cells))), (3, (AObj.cells (s4.map.flatMap Ex.cells))), (2, (AObj.cells [(AV.i 0), (AV.i 0), AV.nl, AV.nl, (AV.i 0), AV.nl])), (1, (AObj.cells [(AV.i c.kind), (AV.i c.lba), (AV.i c.n), (AV.i c.id), (bys c.d), (exs c.list)])), (0, (AObj.cells [(AV.i s.blocks), (AV.i s.gen), (exs s.map), (AV.sl s.points.length (s.points.flatMap Po.cells)), (AV.i s.last), (bys s.staged)]))]) false)) kq (ac h10 (ac h11 (ac h12 (ac (show (((List.take (((0 : Nat) + (s9.1.toNat * 5)) + (3 : Nat)) (s9.2.flatMap Ex.cells)) ++ [(AV.i s4.gen)]) ++ (List.drop ((((0 : Nat) + (s9.1.toNat * 5)) + (3 : Nat)) + (List.length [(AV.i s4.gen)])) (s9.2.flatMap Ex.cells))) = (List.flatMap Ex.cells (List.set s9.2 s9.1.toNat (Ex.mk (z7 s9.2 s9.1.toNat).lba (z7 s9.2 s9.1.toNat).len (z7 s9.2 s9.1.toNat).kind s4.gen (z7 s9.2 s9.1.toNat).d))) from (by rw [show (((0 : Nat) + (s9.1.toNat * 5)) + (3 : Nat)) = (s9.1.toNat) * 5 + 3 by omega]; exact zcl _ _ 3 _ ((Ex.mk (z7 s9.2 s9.1.toNat).lba (z7 s9.2 s9.1.toNat).len (z7 s9.2 s9.1.toNat).kind s4.gen (z7 s9.2 s9.1.toNat).d)) bq (by simp) rfl)) an)))) (Nat.le_of_ble_eq_true rfl) (Nat.le_of_ble_eq_true rfl) (x3 [] [] kq (.consn kq (.pt rfl) (.consn kq (.rf rfl) (.consn kq (.eqv tq rfl) (.consn kq (.rf rfl) (.consn kq (.eqv tq rfl) (.consn kq (.eqv tq rfl) .nil)))))) (.cons (.old rfl rfl (.cells (.pl tq pq))) (.cons (.old rfl rfl (.ro (.pl0 rfl))) (.cons (.old rfl rfl (.cells (.pl rfl pq))) (.cons (.old rfl rfl (.cells (.cons (.eqv tq rfl) (.cons (.eqv tq rfl) (.cons (.rf rfl) (.cons (.rf rfl) (.cons (.eqv tq rfl) (.cons (.rf rfl) .nil)))))))) (.cons (.old rfl rfl (.cells (.pl rfl (by simp)))) (.cons (.old rfl rfl (.cells (.pl rfl (by simp)))) (.cons (.old rfl rfl (.cells (.pl rfl (by simp)))) (.cons (.old rfl rfl (.cells (.cons (.eqv tq rfl) (.cons (.eqv tq rfl) (.cons .nl0 (.cons .nl0 (.cons (.eqv tq rfl) (.cons .nl0 .nil)))))))) (.cons (.old rfl rfl (.cells (.pl rfl pq))) (.cons (.old rfl rfl (.cells (.pl rfl pq))) .nil)))))))))))) fun h10 h10p => w6
noncomputable abbrev zd2 (s : Sa) (c : Ch) (s0 : Int) (s2 : Bool) (s4 : Sa) : St := (St.mk [(0, (AV.rf 4 3 0 s4.points.length)), (1, (AV.fn (99 : Nat) [(AV.pt 8 0)])), (4, (AV.i 0)), (6, (AV.rf 4 3 0 s4.points.length)), (7, (AV.i (s4.points.length : Int))), (8, (AV.i 0))] 19 (AH.mk 9 [(8, (AObj.cells [(AV.i c.kind), (AV.i c.lba), (AV.i c.n), (AV.i c.id), (bys c.d), (exs c.list)])), (7, (AObj.map [((AV.i 1), (AV.fn (75 : Nat) ([] : List AV))), ((AV.i 2), (AV.fn (76 : Nat) ([] : List AV))), ((AV.i 3), (AV.fn (77 : Nat) ([] : List AV))), ((AV.i 4), (AV.fn (78 : Nat) ([] : List AV))), ((AV.i 5), (AV.fn (79 : Nat) ([] : List AV))), ((AV.i 6), (AV.fn (80 : Nat) ([] : List AV))), ((AV.i 7), (AV.fn (81 : Nat) ([] : List AV))), ((AV.i 8), (AV.fn (82 : Nat) ([] : List AV)))])), (6, (AObj.cells [(AV.i s4.blocks), (AV.i s4.gen), (AV.rf 3 5 0 s4.map.length), (AV.rf 4 3 0 s4.points.length), (AV.i s4.last), (AV.rf 5 1 0 s4.staged.length)])), (5, (AObj.cells (List.map AV.y s4.staged))), (4, (AObj.cells (s4.points.flatMap Po.cells))), (3, (AObj.cells (s4.map.flatMap Ex.cells))), (2, (AObj.cells [(AV.i 0), (AV.i 0), AV.nl, AV.nl, (AV.i 0), AV.nl])), (1, (AObj.cells [(AV.i c.kind), (AV.i c.lba), (AV.i c.n), (AV.i c.id), (bys c.d), (exs c.list)])), (0, (AObj.cells [(AV.i s.blocks), (AV.i s.gen), (exs s.map), (AV.sl s.points.length (s.points.flatMap Po.cells)), (AV.i s.last), (bys s.staged)]))]) false)
noncomputable abbrev z4m (s : Sa) (c : Ch) (s0 : Int) (s2 : Bool) (s4 : Sa) (s10 : Int) : St := (St.mk [(0, (AV.rf 4 3 0 s4.points.length)), (1, (AV.fn (99 : Nat) [(AV.pt 8 0)])), (7, (AV.i (s4.points.length : Int))), (8, (AV.i s10))] 19 (AH.mk 9 [(8, (AObj.cells [(AV.i c.kind), (AV.i c.lba), (AV.i c.n), (AV.i c.id), (bys c.d), (exs c.list)])), (6, (AObj.cells [(AV.i s4.blocks), (AV.i s4.gen), (AV.rf 3 5 0 s4.map.length), (AV.rf 4 3 0 s4.points.length), (AV.i s4.last), (AV.rf 5 1 0 s4.staged.length)])), (5, (AObj.cells (List.map AV.y s4.staged))), (4, (AObj.cells (s4.points.flatMap Po.cells))), (3, (AObj.cells (s4.map.flatMap Ex.cells))), (2, (AObj.cells [(AV.i 0), (AV.i 0), AV.nl, AV.nl, (AV.i 0), AV.nl])), (1, (AObj.cells [(AV.i c.kind), (AV.i c.lba), (AV.i c.n), (AV.i c.id), (bys c.d), (exs c.list)])), (0, (AObj.cells [(AV.i s.blocks), (AV.i s.gen), (exs s.map), (AV.sl s.points.length (s.points.flatMap Po.cells)), (AV.i s.last), (bys s.staged)]))]) false)
noncomputable def z3h (s : Sa) (c : Ch) (s0 : Int) (s2 : Bool) (s4 : Sa) (s10 : Int) : Option (Int) :=
 (tb ((decide (s10 < (s4.points.length : Int)))) (tp ((((0 : Int) ≤ s10) ∧ (s10 < (s4.points.length : Int)))) (tb (((v9 s4.points s10.toNat).id == c.id)) none (some ((wr (s10 + (1 : Int))))))) none)
theorem zbg (s : Sa) (c : Ch) (s0 : Int) (s2 : Bool) (s4 : Sa) (s10 zz : Int) : z3h s c s0 s2 s4 s10 = some zz → u5 Try.prog cf 9 (lp Try.prog 98 0) (z4m s c s0 s2 s4 s10) (z4m s c s0 s2 s4 zz) := by
  unfold z3h
  exact tbD (fun h11 h11p => x8 fun h12 => tbE (fun h13 h13p => w6) fun h13 h13p => by intro e; injection e with e; subst e; exact z01 z9 (k := 300) (r := []) (hs := hz [(1, [.yes]), (5, [.yes, .yes, .cells ((Po.cells (v9 s4.points s10.toNat)))]), (11, [.no]), (2, [])]) (ks := [0, 1, 7, 8]) (st1 := (St.mk [(0, (AV.rf 4 3 0 s4.points.length)), (1, (AV.fn (99 : Nat) [(AV.pt 8 0)])), (7, (AV.i (s4.points.length : Int))), (8, (AV.i (wr (s10 + (1 : Int)))))] 19 (AH.mk 10 [(9, (AObj.cells [(AV.i (v9 s4.points s10.toNat).id), (AV.i (v9 s4.points s10.toNat).gen), (exs (v9 s4.points s10.toNat).map)])), (8, (AObj.cells [(AV.i c.kind), (AV.i c.lba), (AV.i c.n), (AV.i c.id), (bys c.d), (exs c.list)])), (6, (AObj.cells [(AV.i s4.blocks), (AV.i s4.gen), (AV.rf 3 5 0 s4.map.length), (AV.rf 4 3 0 s4.points.length), (AV.i s4.last), (AV.rf 5 1 0 s4.staged.length)])), (5, (AObj.cells (List.map AV.y s4.staged))), (4, (AObj.cells (s4.points.flatMap Po.cells))), (3, (AObj.cells (s4.map.flatMap Ex.cells))), (2, (AObj.cells [(AV.i 0), (AV.i 0), AV.nl, AV.nl, (AV.i 0), AV.nl])), (1, (AObj.cells [(AV.i c.kind), (AV.i c.lba), (AV.i c.n), (AV.i c.id), (bys c.d), (exs c.list)])), (0, (AObj.cells [(AV.i s.blocks), (AV.i s.gen), (exs s.map), (AV.sl s.points.length (s.points.flatMap Po.cells)), (AV.i s.last), (bys s.staged)]))]) false)) kq (ac h11 (ac h12 (ac (fq (p := ((((0 : Nat) + (s10.toNat * 3)) + (3 : Nat)) ≤ (List.length (s4.points.flatMap Po.cells))))) (ac (show (List.take 3 (List.drop ((0 : Nat) + (s10.toNat * 3)) (s4.points.flatMap Po.cells))) = (Po.cells (v9 s4.points s10.toNat)) from (z0p bq bq)) (ac h13 an))))) (Nat.le_of_ble_eq_true rfl) (Nat.le_of_ble_eq_true rfl) (x3 [] [] kq (.consn kq (.rf rfl) (.consn kq (.fn (.cons (.pt rfl) .nil)) (.consn kq (.eqv tq rfl) (.consn kq (.eqv tq rfl) .nil)))) (.cons (.old rfl rfl (.cells (.pl rfl pq))) (.cons (.old rfl rfl (.cells (.cons (.eqv tq rfl) (.cons (.eqv tq rfl) (.cons (.rf rfl) (.cons (.rf rfl) (.cons (.eqv tq rfl) (.cons (.rf rfl) .nil)))))))) (.cons (.old rfl rfl (.cells (.pl rfl (by simp)))) (.cons (.old rfl rfl (.cells (.pl rfl (by simp)))) (.cons (.old rfl rfl (.cells (.pl rfl (by simp)))) (.cons (.old rfl rfl (.cells (.cons (.eqv tq rfl) (.cons (.eqv tq rfl) (.cons .nl0 (.cons .nl0 (.cons (.eqv tq rfl) (.cons .nl0 .nil)))))))) (.cons (.old rfl rfl (.cells (.pl rfl pq))) (.cons (.old rfl rfl (.cells (.pl rfl pq))) .nil)))))))))) fun h11 h11p => w6
noncomputable abbrev z8a (s : Sa) (c : Ch) (s0 : Int) (s2 : Bool) (s4 : Sa) (s13 : List Ex) : St := (St.mk [(0, (AV.pt 6 0)), (1, (exs c.list)), (4, (AV.i 0)), (9, (exs c.list)), (10, (AV.rf 9 5 0 s13.length)), (5, (AV.rf 9 5 0 s13.length)), (11, (AV.rf 9 5 0 s13.length)), (12, (AV.i (s13.length : Int))), (13, (AV.i 0))] 45 (AH.mk 10 [(9, (AObj.cells (s13.flatMap Ex.cells))), (8, (AObj.cells [(AV.i c.kind), (AV.i c.lba), (AV.i c.n), (AV.i c.id), (bys c.d), (exs c.list)])), (7, (AObj.map [((AV.i 1), (AV.fn (75 : Nat) ([] : List AV))), ((AV.i 2), (AV.fn (76 : Nat) ([] : List AV))), ((AV.i 3), (AV.fn (77 : Nat) ([] : List AV))), ((AV.i 4), (AV.fn (78 : Nat) ([] : List AV))), ((AV.i 5), (AV.fn (79 : Nat) ([] : List AV))), ((AV.i 6), (AV.fn (80 : Nat) ([] : List AV))), ((AV.i 7), (AV.fn (81 : Nat) ([] : List AV))), ((AV.i 8), (AV.fn (82 : Nat) ([] : List AV)))])), (6, (AObj.cells [(AV.i s4.blocks), (AV.i s4.gen), (AV.rf 3 5 0 s4.map.length), (AV.rf 4 3 0 s4.points.length), (AV.i s4.last), (AV.rf 5 1 0 s4.staged.length)])), (5, (AObj.cells (List.map AV.y s4.staged))), (4, (AObj.cells (s4.points.flatMap Po.cells))), (3, (AObj.cells (s4.map.flatMap Ex.cells))), (2, (AObj.cells [(AV.i 0), (AV.i 0), AV.nl, AV.nl, (AV.i 0), AV.nl])), (1, (AObj.cells [(AV.i c.kind), (AV.i c.lba), (AV.i c.n), (AV.i c.id), (bys c.d), (exs c.list)])), (0, (AObj.cells [(AV.i s.blocks), (AV.i s.gen), (exs s.map), (AV.sl s.points.length (s.points.flatMap Po.cells)), (AV.i s.last), (bys s.staged)]))]) false)
noncomputable abbrev z21 (s : Sa) (c : Ch) (s0 : Int) (s2 : Bool) (s4 : Sa) (s13 : List Ex) (s14 : Int × List Ex) : St := (St.mk [(0, (AV.pt 6 0)), (1, (exs c.list)), (4, (AV.i 0)), (5, (AV.rf 9 5 0 s13.length)), (12, (AV.i (s13.length : Int))), (13, (AV.i s14.1))] 45 (AH.mk 10 [(9, (AObj.cells (s14.2.flatMap Ex.cells))), (8, (AObj.cells [(AV.i c.kind), (AV.i c.lba), (AV.i c.n), (AV.i c.id), (bys c.d), (exs c.list)])), (6, (AObj.cells [(AV.i s4.blocks), (AV.i s4.gen), (AV.rf 3 5 0 s4.map.length), (AV.rf 4 3 0 s4.points.length), (AV.i s4.last), (AV.rf 5 1 0 s4.staged.length)])), (5, (AObj.cells (List.map AV.y s4.staged))), (4, (AObj.cells (s4.points.flatMap Po.cells))), (3, (AObj.cells (s4.map.flatMap Ex.cells))), (2, (AObj.cells [(AV.i 0), (AV.i 0), AV.nl, AV.nl, (AV.i 0), AV.nl])), (1, (AObj.cells [(AV.i c.kind), (AV.i c.lba), (AV.i c.n), (AV.i c.id), (bys c.d), (exs c.list)])), (0, (AObj.cells [(AV.i s.blocks), (AV.i s.gen), (exs s.map), (AV.sl s.points.length (s.points.flatMap Po.cells)), (AV.i s.last), (bys s.staged)]))]) false)
noncomputable def z7q (s : Sa) (c : Ch) (s0 : Int) (s2 : Bool) (s4 : Sa) (s13 : List Ex) (s14 : Int × List Ex) : Option (Int × List Ex) :=
 (tb ((decide (s14.1 < (s13.length : Int)))) (tp ((((0 : Int) ≤ s14.1) ∧ (s14.1 < (s13.length : Int)))) (tp ((((List.length [(AV.i s4.gen)]) = (1 : Nat)) ∧ (((((0 : Nat) + (s14.1.toNat * 5)) + (3 : Nat)) + (List.length [(AV.i s4.gen)])) ≤ (List.length (s14.2.flatMap Ex.cells))))) (some (((wr (s14.1 + (1 : Int))), (List.set s14.2 s14.1.toNat (Ex.mk (z7 s14.2 s14.1.toNat).lba (z7 s14.2 s14.1.toNat).len (z7 s14.2 s14.1.toNat).kind s4.gen (z7 s14.2 s14.1.toNat).d))))))) none)
theorem z6z (s : Sa) (c : Ch) (s0 : Int) (s2 : Bool) (s4 : Sa) (s13 : List Ex) (s14 zz : Int × List Ex) : z7q s c s0 s2 s4 s13 s14 = some zz → u5 Try.prog cf 10 (lp Try.prog 97 0) (z21 s c s0 s2 s4 s13 s14) (z21 s c s0 s2 s4 s13 zz) := by
  unfold z7q
  exact tbD (fun h15 h15p => x8 fun h16 => x8 fun h17 => by intro e; injection e with e; subst e; exact z01 z9 (k := 300) (r := []) (hs := hz [(1, [.yes]), (9, [.yes]), (1, [.yes, .cells ((List.flatMap Ex.cells (List.set s14.2 s14.1.toNat (Ex.mk (z7 s14.2 s14.1.toNat).lba (z7 s14.2 s14.1.toNat).len (z7 s14.2 s14.1.toNat).kind s4.gen (z7 s14.2 s14.1.toNat).d))))]), (2, [])]) (ks := [0, 1, 4, 5, 12, 13]) (st1 := (St.mk [(0, (AV.pt 6 0)), (1, (exs c.list)), (4, (AV.i 0)), (5, (AV.rf 9 5 0 s13.length)), (12, (AV.i (s13.length : Int))), (13, (AV.i (wr (s14.1 + (1 : Int)))))] 45 (AH.mk 10 [(9, (AObj.cells (List.flatMap Ex.cells (List.set s14.2 s14.1.toNat (Ex.mk (z7 s14.2 s14.1.toNat).lba (z7 s14.2 s14.1.toNat).len (z7 s14.2 s14.1.toNat).kind s4.gen (z7 s14.2 s14.1.toNat).d))))), (8, (AObj.cells [(AV.i c.kind), (AV.i c.lba), (AV.i c.n), (AV.i c.id), (bys c.d), (exs c.list)])), (6, (AObj.cells [(AV.i s4.blocks), (AV.i s4.gen), (AV.rf 3 5 0 s4.map.length), (AV.rf 4 3 0 s4.points.length), (AV.i s4.last), (AV.rf 5 1 0 s4.staged.length)])), (5, (AObj.cells (List.map AV.y s4.staged))), (4, (AObj.cells (s4.points.flatMap Po.cells))), (3, (AObj.cells (s4.map.flatMap Ex.cells))), (2, (AObj.cells [(AV.i 0), (AV.i 0), AV.nl, AV.nl, (AV.i 0), AV.nl])), (1, (AObj.cells [(AV.i c.kind), (AV.i c.lba), (AV.i c.n), (AV.i c.id), (bys c.d), (exs c.list)])), (0, (AObj.cells [(AV.i s.blocks), (AV.i s.gen), (exs s.map), (AV.sl s.points.length (s.points.flatMap Po.cells)), (AV.i s.last), (bys s.staged)]))]) false)) kq (ac h15 (ac h16 (ac h17 (ac (show (((List.take (((0 : Nat) + (s14.1.toNat * 5)) + (3 : Nat)) (s14.2.flatMap Ex.cells)) ++ [(AV.i s4.gen)]) ++ (List.drop ((((0 : Nat) + (s14.1.toNat * 5)) + (3 : Nat)) + (List.length [(AV.i s4.gen)])) (s14.2.flatMap Ex.cells))) = (List.flatMap Ex.cells (List.set s14.2 s14.1.toNat (Ex.mk (z7 s14.2 s14.1.toNat).lba (z7 s14.2 s14.1.toNat).len (z7 s14.2 s14.1.toNat).kind s4.gen (z7 s14.2 s14.1.toNat).d))) from (by rw [show (((0 : Nat) + (s14.1.toNat * 5)) + (3 : Nat)) = (s14.1.toNat) * 5 + 3 by omega]; exact zcl _ _ 3 _ ((Ex.mk (z7 s14.2 s14.1.toNat).lba (z7 s14.2 s14.1.toNat).len (z7 s14.2 s14.1.toNat).kind s4.gen (z7 s14.2 s14.1.toNat).d)) bq (by simp) rfl)) an)))) (Nat.le_of_ble_eq_true rfl) (Nat.le_of_ble_eq_true rfl) (x3 [] [] kq (.consn kq (.pt rfl) (.consn kq (.eqv tq rfl) (.consn kq (.eqv tq rfl) (.consn kq (.rf rfl) (.consn kq (.eqv tq rfl) (.consn kq (.eqv tq rfl) .nil)))))) (.cons (.old rfl rfl (.cells (.pl tq pq))) (.cons (.old rfl rfl (.cells (.pl rfl pq))) (.cons (.old rfl rfl (.cells (.cons (.eqv tq rfl) (.cons (.eqv tq rfl) (.cons (.rf rfl) (.cons (.rf rfl) (.cons (.eqv tq rfl) (.cons (.rf rfl) .nil)))))))) (.cons (.old rfl rfl (.cells (.pl rfl (by simp)))) (.cons (.old rfl rfl (.cells (.pl rfl (by simp)))) (.cons (.old rfl rfl (.cells (.pl rfl (by simp)))) (.cons (.old rfl rfl (.cells (.cons (.eqv tq rfl) (.cons (.eqv tq rfl) (.cons .nl0 (.cons .nl0 (.cons (.eqv tq rfl) (.cons .nl0 .nil)))))))) (.cons (.old rfl rfl (.cells (.pl rfl pq))) (.cons (.old rfl rfl (.cells (.pl rfl pq))) .nil))))))))))) fun h15 h15p => w6
noncomputable def sDo (s : Sa) (c : Ch) : Option (Sa × Int) :=
 (tc (z8e (s)) fun s0 => (tb ((s0 != (0 : Int))) (some (((Sa.mk 0 0 ([] : List Ex) ([] : List Po) 0 ([] : List UInt8)), (110 : Int)))) (tc (zdi (c)) fun s2 => (tb ((!s2)) (tc (z3i (s)) fun s4 => (tp ((((0 : Nat) = (0 : Nat)) ∧ ((List.length (s4.map.flatMap Ex.cells)) = (s4.map.length * 5)))) (some ((s4, (100 : Int)))))) (tc (z3i (s)) fun s4 => (tb ((decide ((1 : Int) = c.kind))) (tc (z20 ([(Ex.mk c.lba c.n 2 0 c.d)])) fun s6 => (th (z84 s c s0 s2 s4 s6) (((0 : Int), s6)) fun s7 => (tb ((decide (s7.1 < (s6.length : Int)))) none (tp ((((0 : Nat) = (0 : Nat)) ∧ ((List.length (s4.map.flatMap Ex.cells)) = (s4.map.length * 5)))) (tp ((((0 : Nat) = (0 : Nat)) ∧ ((List.length (s7.2.flatMap Ex.cells)) = (s6.length * 5)))) (tc (zll (s4.blocks) (s4.map) (s7.2)) fun s11 => (tb ((s11.2 == (0 : Int))) (some (((Sa.mk s4.blocks s4.gen s11.1 s4.points s4.last s4.staged), (0 : Int)))) (tc (z3i (s)) fun s13 => (some ((s13, s11.2))))))))))) (tb ((decide ((2 : Int) = c.kind))) (tc (z20 ([(Ex.mk c.lba c.n 1 0 ([] : List UInt8))])) fun s7 => (th (z7w s c s0 s2 s4 s7) (((0 : Int), s7)) fun s8 => (tb ((decide (s8.1 < (s7.length : Int)))) none (tp ((((0 : Nat) = (0 : Nat)) ∧ ((List.length (s4.map.flatMap Ex.cells)) = (s4.map.length * 5)))) (tp ((((0 : Nat) = (0 : Nat)) ∧ ((List.length (s8.2.flatMap Ex.cells)) = (s7.length * 5)))) (tc (zll (s4.blocks) (s4.map) (s8.2)) fun s12 => (tb ((s12.2 == (0 : Int))) (some (((Sa.mk s4.blocks s4.gen s12.1 s4.points s4.last s4.staged), (0 : Int)))) (tc (z3i (s)) fun s14 => (some ((s14, s12.2))))))))))) (tb ((decide ((3 : Int) = c.kind))) (tc (z20 ([(Ex.mk c.lba c.n 0 0 ([] : List UInt8))])) fun s8 => (th (z8c s c s0 s2 s4 s8) (((0 : Int), s8)) fun s9 => (tb ((decide (s9.1 < (s8.length : Int)))) none (tp ((((0 : Nat) = (0 : Nat)) ∧ ((List.length (s4.map.flatMap Ex.cells)) = (s4.map.length * 5)))) (tp ((((0 : Nat) = (0 : Nat)) ∧ ((List.length (s9.2.flatMap Ex.cells)) = (s8.length * 5)))) (tc (zll (s4.blocks) (s4.map) (s9.2)) fun s13 => (tb ((s13.2 == (0 : Int))) (some (((Sa.mk s4.blocks s4.gen s13.1 s4.points s4.last s4.staged), (0 : Int)))) (tc (z3i (s)) fun s15 => (some ((s15, s13.2))))))))))) (tb ((decide ((4 : Int) = c.kind))) (tb ((decide (c.id ≤ s4.last))) (tc (z3i (s)) fun s10 => (tp ((((0 : Nat) = (0 : Nat)) ∧ ((List.length (s10.map.flatMap Ex.cells)) = (s10.map.length * 5)))) (some ((s10, (112 : Int)))))) (tb (((s4.points.length : Int) == (4 : Int))) (tc (z3i (s)) fun s11 => (tp ((((0 : Nat) = (0 : Nat)) ∧ ((List.length (s11.map.flatMap Ex.cells)) = (s11.map.length * 5)))) (some ((s11, (113 : Int)))))) (tb ((s4.gen == (2147483647 : Int))) (tc (z3i (s)) fun s12 => (tp ((((0 : Nat) = (0 : Nat)) ∧ ((List.length (s12.map.flatMap Ex.cells)) = (s12.map.length * 5)))) (some ((s12, (113 : Int)))))) (tp ((((0 : Nat) = (0 : Nat)) ∧ ((List.length (s4.map.flatMap Ex.cells)) = (s4.map.length * 5)))) (tc (z20 (s4.map)) fun s13 => (tp ((((List.length (s4.points.flatMap Po.cells)) = (s4.points.length * 3)) ∧ ((s4.points.length + (1 : Nat)) ≤ (4294967296 : Nat)))) (tp ((((0 : Nat) = (0 : Nat)) ∧ ((List.length ((s4.points.flatMap Po.cells) ++ [(AV.i c.id), (AV.i s4.gen), (AV.rf 9 5 0 s13.length)])) = ((s4.points.length + (1 : Nat)) * 3)))) (some (((Sa.mk s4.blocks (wr (s4.gen + (1 : Int))) s4.map (s4.points ++ [(Po.mk c.id s4.gen (List.take s13.length s13))]) c.id s4.staged), (0 : Int))))))))))) (tb ((decide ((5 : Int) = c.kind))) (th (z3h s c s0 s2 s4) ((0 : Int)) fun s10 => (tb ((decide (s10 < (s4.points.length : Int)))) (tp ((((0 : Int) ≤ s10) ∧ (s10 < (s4.points.length : Int)))) (tb (((v9 s4.points s10.toNat).id == c.id)) (tb ((decide (s10 < (0 : Int)))) (tc (z3i (s)) fun s15 => (some ((s15, (111 : Int))))) (tp ((s4.points.length ≤ (4294967296 : Nat))) (tp (((List.length (s4.points.flatMap Po.cells)) = (s4.points.length * 3))) (tp (((wr (s10 + (1 : Int))) = (s10 + (1 : Int)))) (tp ((((0 : Nat) = (0 : Nat)) ∧ ((List.length (s4.map.flatMap Ex.cells)) = (s4.map.length * 5)))) (tp ((((0 : Nat) = (0 : Nat)) ∧ ((List.length (List.flatMap Po.cells ((List.take s10.toNat s4.points) ++ (List.drop (s10.toNat + (1 : Nat)) s4.points)))) = ((s4.points.length - (1 : Nat)) * 3)))) (some (((Sa.mk s4.blocks s4.gen s4.map ((List.take s10.toNat s4.points) ++ (List.drop (s10.toNat + (1 : Nat)) s4.points)) s4.last s4.staged), (0 : Int)))))))))) none)) (tc (z3i (s)) fun s12 => (tp ((((0 : Nat) = (0 : Nat)) ∧ ((List.length (s12.map.flatMap Ex.cells)) = (s12.map.length * 5)))) (some ((s12, (111 : Int)))))))) (tb ((decide ((6 : Int) = c.kind))) (tb ((decide ((c.d.length : Int) > (wr ((4000 : Int) - (s4.staged.length : Int)))))) (tc (z3i (s)) fun s12 => (tp ((((0 : Nat) = (0 : Nat)) ∧ ((List.length (s12.map.flatMap Ex.cells)) = (s12.map.length * 5)))) (some ((s12, (113 : Int)))))) (tp ((((List.length (List.map AV.y s4.staged)) = (s4.staged.length * 1)) ∧ ((s4.staged.length + c.d.length) ≤ (4294967296 : Nat)))) (tp ((((0 : Nat) = (0 : Nat)) ∧ ((List.length (s4.map.flatMap Ex.cells)) = (s4.map.length * 5)))) (some (((Sa.mk s4.blocks s4.gen s4.map s4.points s4.last (s4.staged ++ c.d)), (0 : Int))))))) (tb ((decide ((7 : Int) = c.kind))) (tp ((((0 : Nat) = (0 : Nat)) ∧ ((List.length (s4.map.flatMap Ex.cells)) = (s4.map.length * 5)))) (some (((Sa.mk s4.blocks s4.gen s4.map s4.points s4.last ([] : List UInt8)), (0 : Int))))) (tb ((decide ((8 : Int) = c.kind))) (tc (z20 (c.list)) fun s13 => (th (z7q s c s0 s2 s4 s13) (((0 : Int), s13)) fun s14 => (tb ((decide (s14.1 < (s13.length : Int)))) none (tp ((((0 : Nat) = (0 : Nat)) ∧ ((List.length (s4.map.flatMap Ex.cells)) = (s4.map.length * 5)))) (tp ((((0 : Nat) = (0 : Nat)) ∧ ((List.length (s14.2.flatMap Ex.cells)) = (s13.length * 5)))) (tc (zll (s4.blocks) (s4.map) (s14.2)) fun s18 => (tb ((s18.2 == (0 : Int))) (tb ((decide (c.id ≤ s4.last))) (tc (z3i (s)) fun s21 => (some ((s21, (112 : Int))))) (tb (((s4.points.length : Int) == (4 : Int))) (tc (z3i (s)) fun s22 => (some ((s22, (113 : Int))))) (tb ((s4.gen == (2147483647 : Int))) (tc (z3i (s)) fun s23 => (some ((s23, (113 : Int))))) (tc (z20 (s18.1)) fun s23 => (tp ((((List.length (s4.points.flatMap Po.cells)) = (s4.points.length * 3)) ∧ ((s4.points.length + (1 : Nat)) ≤ (4294967296 : Nat)))) (tp ((((0 : Nat) = (0 : Nat)) ∧ ((List.length ((s4.points.flatMap Po.cells) ++ [(AV.i c.id), (AV.i s4.gen), (AV.rf 11 5 0 s23.length)])) = ((s4.points.length + (1 : Nat)) * 3)))) (some (((Sa.mk s4.blocks (wr (s4.gen + (1 : Int))) s18.1 (s4.points ++ [(Po.mk c.id s4.gen (List.take s23.length s23))]) c.id ([] : List UInt8)), (0 : Int)))))))))) (tc (z3i (s)) fun s20 => (some ((s20, s18.2))))))))))) none)))))))))))))
abbrev sDo_G (s : Sa) (c : Ch) (r : Sa × Int) : Prop := z08 Try.prog cf false 29 [Sa.av (s), Ch.av (c)] (.tu [Sa.av (r.1), .i (r.2)])
theorem z3p (s : Sa) (c : Ch) (r : Sa × Int) : sDo s c = some r → sDo_G s c r := by
  unfold sDo
  exact x5 fun s0 h0 => tbN (fun h1 h1p => by intro e; injection e with e; subst e; exact x0 z9 (k := 300) (r := []) (hs := hz [(5, [.fc]), (1, [.fres (.i (s0))]), (2, [.yes]), (2, [.fc]), (2, [.fc])]) (raw := (AV.tu [(AV.ag [(AV.i 0), (AV.i 0), (AV.sl 0 ([] : List AV)), (AV.sl 0 ([] : List AV)), (AV.i 0), (AV.sl 0 ([] : List AV))]), (AV.i 110)])) kq (ac (g0 (s) _ h0).any0 (ac h1 an)) tq) fun h1 h1p => x5 fun s2 h2 => u0 (fun h3 => x5 fun s4 h4 => x8 fun h5 => by intro e; injection e with e; subst e; exact x0 z9 (k := 300) (r := []) (hs := hz [(5, [.fc]), (1, [.fres (.i (s0))]), (2, [.no]), (1, [.fc]), (1, [.fres (.b (s2))]), (2, [.yes]), (1, [.fc]), (1, [.fres (Sa.av (s4))]), (1, [.fc]), (2, [.fc, .yes, .yes, .yes, .yes, .yes, .yes])]) (raw := (AV.tu [(AV.ag [(AV.i s4.blocks), (AV.i s4.gen), (exs s4.map), (AV.sl s4.points.length (s4.points.flatMap Po.cells)), (AV.i s4.last), (bys s4.staged)]), (AV.i 100)])) kq (ac (g0 (s) _ h0).any0 (ac h1 (ac (d9 (c) _ h2).any0 (ac h3 (ac (t4 (s) _ h4) (ac h5 (ac (pq (p := Pl false ((s4.map.flatMap Ex.cells)))) (ac (fq (p := (((0 : Nat) = (0 : Nat)) ∧ ((List.length (s4.points.flatMap Po.cells)) = (s4.points.length * 3))))) (ac (pq (p := Pl false ((s4.points.flatMap Po.cells)))) (ac (tq (p := (((0 : Nat) = (0 : Nat)) ∧ ((List.length (List.map AV.y s4.staged)) = (s4.staged.length * 1))))) (ac (pq (p := Pl false ((List.map AV.y s4.staged)))) an))))))))))) tq) fun h3 => x5 fun s4 h4 => tbD (fun h5 h5p => x5 fun s6 h6 => z12 fun s7 h7 => tbD (fun h8 h8p => w6) fun h8 h8p => x8 fun h9 => x8 fun h10 => x5 fun s11 h11 => tbE (fun h12 h12p => by intro e; injection e with e; subst e; exact x0 z9 (k := 300) (r := []) (hs := hz [(5, [.fc]), (1, [.fres (.i (s0))]), (2, [.no]), (1, [.fc]), (1, [.fres (.b (s2))]), (2, [.no]), (1, [.fc]), (1, [.fres (Sa.av (s4))]), (2, [.fc]), (17, [.yes]), (1, [.fc]), (15, [.fc, .fc]), (4, [.yes]), (1, [.fres (exs (s6))]), (4, [.head (z6j s c s0 s2 s4 s6 s7)]), (1, [.no]), (12, [.yes, .yes, .yes, .yes, .fres (.tu [exs (s11.1), .i (s11.2)])]), (5, [.yes]), (2, [.yes]), (5, [.fc]), (4, [.yes]), (2, [.no]), (1, [.fc]), (1, [.fc]), (2, [.fc, .yes, .yes, .yes, .yes])]) (raw := (AV.tu [(AV.ag [(AV.i s4.blocks), (AV.i s4.gen), (exs s11.1), (AV.sl s4.points.length (s4.points.flatMap Po.cells)), (AV.i s4.last), (bys s4.staged)]), (AV.i 0)])) kq (ac (g0 (s) _ h0).any0 (ac h1 (ac (d9 (c) _ h2).any0 (ac h3 (ac (t4 (s) _ h4) (ac h5 (ac (tq (p := (((0 : Nat) = (0 : Nat)) ∧ ((List.length [(AV.i c.lba), (AV.i c.n), (AV.i 2), (AV.i 0), (bys c.d)]) = (5 : Nat))))) (ac (z04 ([(Ex.mk c.lba c.n 2 0 c.d)]) _ h6) (ac (show x6 Try.prog cf (lp Try.prog 97 0) (zm2 s c s0 s2 s4 s6) (z6j s c s0 s2 s4 s6 s7) from (x6.of (zgp s c s0 s2 s4 s6) (x3 [] [] kq (.consn kq (.pt rfl) (.consn kq (.rf rfl) (.consn kq (.eqv tq rfl) (.consn kq (.rf rfl) (.consn kq (.eqv tq rfl) (.consn kq (.eqv tq rfl) .nil)))))) (.cons (.old rfl rfl (.cells (.pl tq pq))) (.cons (.old rfl rfl (.ro (.pl rfl (by simp)))) (.cons (.old rfl rfl (.cells (.pl rfl pq))) (.cons (.old rfl rfl (.cells (.cons (.eqv tq rfl) (.cons (.eqv tq rfl) (.cons (.rf rfl) (.cons (.rf rfl) (.cons (.eqv tq rfl) (.cons (.rf rfl) .nil)))))))) (.cons (.old rfl rfl (.cells (.pl rfl (by simp)))) (.cons (.old rfl rfl (.cells (.pl rfl (by simp)))) (.cons (.old rfl rfl (.cells (.pl rfl (by simp)))) (.cons (.old rfl rfl (.cells (.cons (.eqv tq rfl) (.cons (.eqv tq rfl) (.cons .nl0 (.cons .nl0 (.cons (.eqv tq rfl) (.cons .nl0 .nil)))))))) (.cons (.old rfl rfl (.cells (.pl rfl pq))) (.cons (.old rfl rfl (.cells (.pl rfl pq))) .nil))))))))))) h7)) (ac h8 (ac h9 (ac (pq (p := Pl false ((s4.map.flatMap Ex.cells)))) (ac h10 (ac (pq (p := Pl false ((s7.2.flatMap Ex.cells)))) (ac (show z08 Try.prog cf false 105 [(AV.i s4.blocks), (exs s4.map), (AV.sl s6.length (s7.2.flatMap Ex.cells))] (.tu [exs (s11.1), .i (s11.2)]) from ((z3u (s4.blocks) (s4.map) (s7.2) _ h11).cast tq)) (ac (show z8 (rg Try.prog 97 0) = true ∧ x7 (Region.before (rg Try.prog 97 0)) [] 0 [(some [], some []), (some [], some []), (some [], some []), (some [6], some []), (some [], some []), (some [], some []), (some [], some []), (some [6], some []), (some [], some []), (some [3, 10], some [3, 10]), (some [], some []), (some [], some []), (some [], some []), (some [], some []), (some [], some [])] = true from (y9 z2k z2m kq)) (ac h12 (ac (show z8 (rg Try.prog 29 0) = true ∧ x7 (Region.before (rg Try.prog 29 0)) [] 0 [(some [], some [7]), (some [], some []), (some [1], some []), (some [7], some []), (some [1], some []), (none, none), (some [], some [])] = true from (y9 z0b z0d kq)) (ac (congrArg not h12) (ac (fq (p := (((0 : Nat) = (0 : Nat)) ∧ ((List.length (s4.points.flatMap Po.cells)) = (s4.points.length * 3))))) (ac (pq (p := Pl false ((s4.points.flatMap Po.cells)))) (ac (tq (p := (((0 : Nat) = (0 : Nat)) ∧ ((List.length (List.map AV.y s4.staged)) = (s4.staged.length * 1))))) (ac (pq (p := Pl false ((List.map AV.y s4.staged)))) an))))))))))))))))))))))) tq) fun h12 h12p => x5 fun s13 h13 => by intro e; injection e with e; subst e; exact x0 z9 (k := 300) (r := []) (hs := hz [(5, [.fc]), (1, [.fres (.i (s0))]), (2, [.no]), (1, [.fc]), (1, [.fres (.b (s2))]), (2, [.no]), (1, [.fc]), (1, [.fres (Sa.av (s4))]), (2, [.fc]), (17, [.yes]), (1, [.fc]), (15, [.fc, .fc]), (4, [.yes]), (1, [.fres (exs (s6))]), (4, [.head (z6j s c s0 s2 s4 s6 s7)]), (1, [.no]), (12, [.yes, .yes, .yes, .yes, .fres (.tu [exs (s11.1), .i (s11.2)])]), (5, [.yes]), (2, [.no]), (4, [.yes]), (2, [.yes]), (1, [.fc]), (1, [.fres (Sa.av (s13))]), (2, [.fc]), (2, [.fc, .yes, .yes, .yes, .yes, .yes, .yes])]) (raw := (AV.tu [(AV.ag [(AV.i s13.blocks), (AV.i s13.gen), (exs s13.map), (AV.sl s13.points.length (s13.points.flatMap Po.cells)), (AV.i s13.last), (bys s13.staged)]), (AV.i s11.2)])) kq (ac (g0 (s) _ h0).any0 (ac h1 (ac (d9 (c) _ h2).any0 (ac h3 (ac (t4 (s) _ h4) (ac h5 (ac (tq (p := (((0 : Nat) = (0 : Nat)) ∧ ((List.length [(AV.i c.lba), (AV.i c.n), (AV.i 2), (AV.i 0), (bys c.d)]) = (5 : Nat))))) (ac (z04 ([(Ex.mk c.lba c.n 2 0 c.d)]) _ h6) (ac (show x6 Try.prog cf (lp Try.prog 97 0) (zm2 s c s0 s2 s4 s6) (z6j s c s0 s2 s4 s6 s7) from (x6.of (zgp s c s0 s2 s4 s6) (x3 [] [] kq (.consn kq (.pt rfl) (.consn kq (.rf rfl) (.consn kq (.eqv tq rfl) (.consn kq (.rf rfl) (.consn kq (.eqv tq rfl) (.consn kq (.eqv tq rfl) .nil)))))) (.cons (.old rfl rfl (.cells (.pl tq pq))) (.cons (.old rfl rfl (.ro (.pl rfl (by simp)))) (.cons (.old rfl rfl (.cells (.pl rfl pq))) (.cons (.old rfl rfl (.cells (.cons (.eqv tq rfl) (.cons (.eqv tq rfl) (.cons (.rf rfl) (.cons (.rf rfl) (.cons (.eqv tq rfl) (.cons (.rf rfl) .nil)))))))) (.cons (.old rfl rfl (.cells (.pl rfl (by simp)))) (.cons (.old rfl rfl (.cells (.pl rfl (by simp)))) (.cons (.old rfl rfl (.cells (.pl rfl (by simp)))) (.cons (.old rfl rfl (.cells (.cons (.eqv tq rfl) (.cons (.eqv tq rfl) (.cons .nl0 (.cons .nl0 (.cons (.eqv tq rfl) (.cons .nl0 .nil)))))))) (.cons (.old rfl rfl (.cells (.pl rfl pq))) (.cons (.old rfl rfl (.cells (.pl rfl pq))) .nil))))))))))) h7)) (ac h8 (ac h9 (ac (pq (p := Pl false ((s4.map.flatMap Ex.cells)))) (ac h10 (ac (pq (p := Pl false ((s7.2.flatMap Ex.cells)))) (ac (show z08 Try.prog cf false 105 [(AV.i s4.blocks), (exs s4.map), (AV.sl s6.length (s7.2.flatMap Ex.cells))] (.tu [exs (s11.1), .i (s11.2)]) from ((z3u (s4.blocks) (s4.map) (s7.2) _ h11).cast tq)) (ac (show z8 (rg Try.prog 97 0) = true ∧ x7 (Region.before (rg Try.prog 97 0)) [] 0 [(some [], some []), (some [], some []), (some [], some []), (some [6], some []), (some [], some []), (some [], some []), (some [], some []), (some [6], some []), (some [], some []), (some [3, 10], some [3, 10]), (some [], some []), (some [], some []), (some [], some []), (some [], some []), (some [], some [])] = true from (y9 z2k z2m kq)) (ac h12 (ac (show z8 (rg Try.prog 29 0) = true ∧ x7 (Region.before (rg Try.prog 29 0)) [] 0 [(some [], some [7]), (some [], some []), (some [1], some []), (some [7], some []), (some [1], some []), (none, none), (some [], some [])] = true from (y9 z0b z0d kq)) (ac (congrArg not h12) (ac (t4 (s) _ h13) (ac (fq (p := (((0 : Nat) = (0 : Nat)) ∧ ((List.length (s13.map.flatMap Ex.cells)) = (s13.map.length * 5))))) (ac (pq (p := Pl false ((s13.map.flatMap Ex.cells)))) (ac (fq (p := (((0 : Nat) = (0 : Nat)) ∧ ((List.length (s13.points.flatMap Po.cells)) = (s13.points.length * 3))))) (ac (pq (p := Pl false ((s13.points.flatMap Po.cells)))) (ac (tq (p := (((0 : Nat) = (0 : Nat)) ∧ ((List.length (List.map AV.y s13.staged)) = (s13.staged.length * 1))))) (ac (pq (p := Pl false ((List.map AV.y s13.staged)))) an)))))))))))))))))))))))))) tq) fun h5 h5p => tbD (fun h6 h6p => x5 fun s7 h7 => z12 fun s8 h8 => tbD (fun h9 h9p => w6) fun h9 h9p => x8 fun h10 => x8 fun h11 => x5 fun s12 h12 => tbE (fun h13 h13p => by intro e; injection e with e; subst e; exact x0 z9 (k := 300) (r := []) (hs := hz [(5, [.fc]), (1, [.fres (.i (s0))]), (2, [.no]), (1, [.fc]), (1, [.fres (.b (s2))]), (2, [.no]), (1, [.fc]), (1, [.fres (Sa.av (s4))]), (2, [.fc]), (17, [.no, .yes]), (1, [.fc]), (12, [.fc, .fc]), (4, [.yes]), (1, [.fres (exs (s7))]), (4, [.head (z6f s c s0 s2 s4 s7 s8)]), (1, [.no]), (12, [.yes, .yes, .yes, .yes, .fres (.tu [exs (s12.1), .i (s12.2)])]), (5, [.yes]), (2, [.yes]), (5, [.fc]), (4, [.yes]), (2, [.no]), (1, [.fc]), (1, [.fc]), (2, [.fc, .yes, .yes, .yes, .yes])]) (raw := (AV.tu [(AV.ag [(AV.i s4.blocks), (AV.i s4.gen), (exs s12.1), (AV.sl s4.points.length (s4.points.flatMap Po.cells)), (AV.i s4.last), (bys s4.staged)]), (AV.i 0)])) kq (ac (g0 (s) _ h0).any0 (ac h1 (ac (d9 (c) _ h2).any0 (ac h3 (ac (t4 (s) _ h4) (ac h5 (ac h6 (ac (tq (p := (((0 : Nat) = (0 : Nat)) ∧ ((List.length [(AV.i c.lba), (AV.i c.n), (AV.i (Int.ofNat 1)), (AV.i (Int.ofNat 0)), AV.nl]) = (5 : Nat))))) (ac (z04 ([(Ex.mk c.lba c.n 1 0 ([] : List UInt8))]) _ h7) (ac (show x6 Try.prog cf (lp Try.prog 97 0) (zlw s c s0 s2 s4 s7) (z6f s c s0 s2 s4 s7 s8) from (x6.of (zgd s c s0 s2 s4 s7) (x3 [] [] kq (.consn kq (.pt rfl) (.consn kq (.rf rfl) (.consn kq (.eqv tq rfl) (.consn kq (.rf rfl) (.consn kq (.eqv tq rfl) (.consn kq (.eqv tq rfl) .nil)))))) (.cons (.old rfl rfl (.cells (.pl tq pq))) (.cons (.old rfl rfl (.ro (.pl0 rfl))) (.cons (.old rfl rfl (.cells (.pl rfl pq))) (.cons (.old rfl rfl (.cells (.cons (.eqv tq rfl) (.cons (.eqv tq rfl) (.cons (.rf rfl) (.cons (.rf rfl) (.cons (.eqv tq rfl) (.cons (.rf rfl) .nil)))))))) (.cons (.old rfl rfl (.cells (.pl rfl (by simp)))) (.cons (.old rfl rfl (.cells (.pl rfl (by simp)))) (.cons (.old rfl rfl (.cells (.pl rfl (by simp)))) (.cons (.old rfl rfl (.cells (.cons (.eqv tq rfl) (.cons (.eqv tq rfl) (.cons .nl0 (.cons .nl0 (.cons (.eqv tq rfl) (.cons .nl0 .nil)))))))) (.cons (.old rfl rfl (.cells (.pl rfl pq))) (.cons (.old rfl rfl (.cells (.pl rfl pq))) .nil))))))))))) h8)) (ac h9 (ac h10 (ac (pq (p := Pl false ((s4.map.flatMap Ex.cells)))) (ac h11 (ac (pq (p := Pl false ((s8.2.flatMap Ex.cells)))) (ac (show z08 Try.prog cf false 105 [(AV.i s4.blocks), (exs s4.map), (AV.sl s7.length (s8.2.flatMap Ex.cells))] (.tu [exs (s12.1), .i (s12.2)]) from ((z3u (s4.blocks) (s4.map) (s8.2) _ h12).cast tq)) (ac (show z8 (rg Try.prog 97 0) = true ∧ x7 (Region.before (rg Try.prog 97 0)) [] 0 [(some [], some []), (some [], some []), (some [], some []), (some [6], some []), (some [], some []), (some [], some []), (some [], some []), (some [6], some []), (some [], some []), (some [3, 10], some [3, 10]), (some [], some []), (some [], some []), (some [], some []), (some [], some []), (some [], some [])] = true from (y9 z2k z2m kq)) (ac h13 (ac (show z8 (rg Try.prog 29 0) = true ∧ x7 (Region.before (rg Try.prog 29 0)) [] 0 [(some [], some [7]), (some [], some []), (some [1], some []), (some [7], some []), (some [1], some []), (none, none), (some [], some [])] = true from (y9 z0b z0d kq)) (ac (congrArg not h13) (ac (fq (p := (((0 : Nat) = (0 : Nat)) ∧ ((List.length (s4.points.flatMap Po.cells)) = (s4.points.length * 3))))) (ac (pq (p := Pl false ((s4.points.flatMap Po.cells)))) (ac (tq (p := (((0 : Nat) = (0 : Nat)) ∧ ((List.length (List.map AV.y s4.staged)) = (s4.staged.length * 1))))) (ac (pq (p := Pl false ((List.map AV.y s4.staged)))) an)))))))))))))))))))))))) tq) fun h13 h13p => x5 fun s14 h14 => by intro e; injection e with e; subst e; exact x0 z9 (k := 300) (r := []) (hs := hz [(5, [.fc]), (1, [.fres (.i (s0))]), (2, [.no]), (1, [.fc]), (1, [.fres (.b (s2))]), (2, [.no]), (1, [.fc]), (1, [.fres (Sa.av (s4))]), (2, [.fc]), (17, [.no, .yes]), (1, [.fc]), (12, [.fc, .fc]), (4, [.yes]), (1, [.fres (exs (s7))]), (4, [.head (z6f s c s0 s2 s4 s7 s8)]), (1, [.no]), (12, [.yes, .yes, .yes, .yes, .fres (.tu [exs (s12.1), .i (s12.2)])]), (5, [.yes]), (2, [.no]), (4, [.yes]), (2, [.yes]), (1, [.fc]), (1, [.fres (Sa.av (s14))]), (2, [.fc]), (2, [.fc, .yes, .yes, .yes, .yes, .yes, .yes])]) (raw := (AV.tu [(AV.ag [(AV.i s14.blocks), (AV.i s14.gen), (exs s14.map), (AV.sl s14.points.length (s14.points.flatMap Po.cells)), (AV.i s14.last), (bys s14.staged)]), (AV.i s12.2)])) kq (ac (g0 (s) _ h0).any0 (ac h1 (ac (d9 (c) _ h2).any0 (ac h3 (ac (t4 (s) _ h4) (ac h5 (ac h6 (ac (tq (p := (((0 : Nat) = (0 : Nat)) ∧ ((List.length [(AV.i c.lba), (AV.i c.n), (AV.i (Int.ofNat 1)), (AV.i (Int.ofNat 0)), AV.nl]) = (5 : Nat))))) (ac (z04 ([(Ex.mk c.lba c.n 1 0 ([] : List UInt8))]) _ h7) (ac (show x6 Try.prog cf (lp Try.prog 97 0) (zlw s c s0 s2 s4 s7) (z6f s c s0 s2 s4 s7 s8) from (x6.of (zgd s c s0 s2 s4 s7) (x3 [] [] kq (.consn kq (.pt rfl) (.consn kq (.rf rfl) (.consn kq (.eqv tq rfl) (.consn kq (.rf rfl) (.consn kq (.eqv tq rfl) (.consn kq (.eqv tq rfl) .nil)))))) (.cons (.old rfl rfl (.cells (.pl tq pq))) (.cons (.old rfl rfl (.ro (.pl0 rfl))) (.cons (.old rfl rfl (.cells (.pl rfl pq))) (.cons (.old rfl rfl (.cells (.cons (.eqv tq rfl) (.cons (.eqv tq rfl) (.cons (.rf rfl) (.cons (.rf rfl) (.cons (.eqv tq rfl) (.cons (.rf rfl) .nil)))))))) (.cons (.old rfl rfl (.cells (.pl rfl (by simp)))) (.cons (.old rfl rfl (.cells (.pl rfl (by simp)))) (.cons (.old rfl rfl (.cells (.pl rfl (by simp)))) (.cons (.old rfl rfl (.cells (.cons (.eqv tq rfl) (.cons (.eqv tq rfl) (.cons .nl0 (.cons .nl0 (.cons (.eqv tq rfl) (.cons .nl0 .nil)))))))) (.cons (.old rfl rfl (.cells (.pl rfl pq))) (.cons (.old rfl rfl (.cells (.pl rfl pq))) .nil))))))))))) h8)) (ac h9 (ac h10 (ac (pq (p := Pl false ((s4.map.flatMap Ex.cells)))) (ac h11 (ac (pq (p := Pl false ((s8.2.flatMap Ex.cells)))) (ac (show z08 Try.prog cf false 105 [(AV.i s4.blocks), (exs s4.map), (AV.sl s7.length (s8.2.flatMap Ex.cells))] (.tu [exs (s12.1), .i (s12.2)]) from ((z3u (s4.blocks) (s4.map) (s8.2) _ h12).cast tq)) (ac (show z8 (rg Try.prog 97 0) = true ∧ x7 (Region.before (rg Try.prog 97 0)) [] 0 [(some [], some []), (some [], some []), (some [], some []), (some [6], some []), (some [], some []), (some [], some []), (some [], some []), (some [6], some []), (some [], some []), (some [3, 10], some [3, 10]), (some [], some []), (some [], some []), (some [], some []), (some [], some []), (some [], some [])] = true from (y9 z2k z2m kq)) (ac h13 (ac (show z8 (rg Try.prog 29 0) = true ∧ x7 (Region.before (rg Try.prog 29 0)) [] 0 [(some [], some [7]), (some [], some []), (some [1], some []), (some [7], some []), (some [1], some []), (none, none), (some [], some [])] = true from (y9 z0b z0d kq)) (ac (congrArg not h13) (ac (t4 (s) _ h14) (ac (fq (p := (((0 : Nat) = (0 : Nat)) ∧ ((List.length (s14.map.flatMap Ex.cells)) = (s14.map.length * 5))))) (ac (pq (p := Pl false ((s14.map.flatMap Ex.cells)))) (ac (fq (p := (((0 : Nat) = (0 : Nat)) ∧ ((List.length (s14.points.flatMap Po.cells)) = (s14.points.length * 3))))) (ac (pq (p := Pl false ((s14.points.flatMap Po.cells)))) (ac (tq (p := (((0 : Nat) = (0 : Nat)) ∧ ((List.length (List.map AV.y s14.staged)) = (s14.staged.length * 1))))) (ac (pq (p := Pl false ((List.map AV.y s14.staged)))) an))))))))))))))))))))))))))) tq) fun h6 h6p => tbD (fun h7 h7p => x5 fun s8 h8 => z12 fun s9 h9 => tbD (fun h10 h10p => w6) fun h10 h10p => x8 fun h11 => x8 fun h12 => x5 fun s13 h13 => tbE (fun h14 h14p => by intro e; injection e with e; subst e; exact x0 z9 (k := 300) (r := []) (hs := hz [(5, [.fc]), (1, [.fres (.i (s0))]), (2, [.no]), (1, [.fc]), (1, [.fres (.b (s2))]), (2, [.no]), (1, [.fc]), (1, [.fres (Sa.av (s4))]), (2, [.fc]), (17, [.no, .no, .yes]), (1, [.fc]), (12, [.fc, .fc]), (4, [.yes]), (1, [.fres (exs (s8))]), (4, [.head (z6x s c s0 s2 s4 s8 s9)]), (1, [.no]), (12, [.yes, .yes, .yes, .yes, .fres (.tu [exs (s13.1), .i (s13.2)])]), (5, [.yes]), (2, [.yes]), (5, [.fc]), (4, [.yes]), (2, [.no]), (1, [.fc]), (1, [.fc]), (2, [.fc, .yes, .yes, .yes, .yes])]) (raw := (AV.tu [(AV.ag [(AV.i s4.blocks), (AV.i s4.gen), (exs s13.1), (AV.sl s4.points.length (s4.points.flatMap Po.cells)), (AV.i s4.last), (bys s4.staged)]), (AV.i 0)])) kq (ac (g0 (s) _ h0).any0 (ac h1 (ac (d9 (c) _ h2).any0 (ac h3 (ac (t4 (s) _ h4) (ac h5 (ac h6 (ac h7 (ac (tq (p := (((0 : Nat) = (0 : Nat)) ∧ ((List.length [(AV.i c.lba), (AV.i c.n), (AV.i (Int.ofNat 0)), (AV.i (Int.ofNat 0)), AV.nl]) = (5 : Nat))))) (ac (z04 ([(Ex.mk c.lba c.n 0 0 ([] : List UInt8))]) _ h8) (ac (show x6 Try.prog cf (lp Try.prog 97 0) (zkq s c s0 s2 s4 s8) (z6x s c s0 s2 s4 s8 s9) from (x6.of (zh2 s c s0 s2 s4 s8) (x3 [] [] kq (.consn kq (.pt rfl) (.consn kq (.rf rfl) (.consn kq (.eqv tq rfl) (.consn kq (.rf rfl) (.consn kq (.eqv tq rfl) (.consn kq (.eqv tq rfl) .nil)))))) (.cons (.old rfl rfl (.cells (.pl tq pq))) (.cons (.old rfl rfl (.ro (.pl0 rfl))) (.cons (.old rfl rfl (.cells (.pl rfl pq))) (.cons (.old rfl rfl (.cells (.cons (.eqv tq rfl) (.cons (.eqv tq rfl) (.cons (.rf rfl) (.cons (.rf rfl) (.cons (.eqv tq rfl) (.cons (.rf rfl) .nil)))))))) (.cons (.old rfl rfl (.cells (.pl rfl (by simp)))) (.cons (.old rfl rfl (.cells (.pl rfl (by simp)))) (.cons (.old rfl rfl (.cells (.pl rfl (by simp)))) (.cons (.old rfl rfl (.cells (.cons (.eqv tq rfl) (.cons (.eqv tq rfl) (.cons .nl0 (.cons .nl0 (.cons (.eqv tq rfl) (.cons .nl0 .nil)))))))) (.cons (.old rfl rfl (.cells (.pl rfl pq))) (.cons (.old rfl rfl (.cells (.pl rfl pq))) .nil))))))))))) h9)) (ac h10 (ac h11 (ac (pq (p := Pl false ((s4.map.flatMap Ex.cells)))) (ac h12 (ac (pq (p := Pl false ((s9.2.flatMap Ex.cells)))) (ac (show z08 Try.prog cf false 105 [(AV.i s4.blocks), (exs s4.map), (AV.sl s8.length (s9.2.flatMap Ex.cells))] (.tu [exs (s13.1), .i (s13.2)]) from ((z3u (s4.blocks) (s4.map) (s9.2) _ h13).cast tq)) (ac (show z8 (rg Try.prog 97 0) = true ∧ x7 (Region.before (rg Try.prog 97 0)) [] 0 [(some [], some []), (some [], some []), (some [], some []), (some [6], some []), (some [], some []), (some [], some []), (some [], some []), (some [6], some []), (some [], some []), (some [3, 10], some [3, 10]), (some [], some []), (some [], some []), (some [], some []), (some [], some []), (some [], some [])] = true from (y9 z2k z2m kq)) (ac h14 (ac (show z8 (rg Try.prog 29 0) = true ∧ x7 (Region.before (rg Try.prog 29 0)) [] 0 [(some [], some [7]), (some [], some []), (some [1], some []), (some [7], some []), (some [1], some []), (none, none), (some [], some [])] = true from (y9 z0b z0d kq)) (ac (congrArg not h14) (ac (fq (p := (((0 : Nat) = (0 : Nat)) ∧ ((List.length (s4.points.flatMap Po.cells)) = (s4.points.length * 3))))) (ac (pq (p := Pl false ((s4.points.flatMap Po.cells)))) (ac (tq (p := (((0 : Nat) = (0 : Nat)) ∧ ((List.length (List.map AV.y s4.staged)) = (s4.staged.length * 1))))) (ac (pq (p := Pl false ((List.map AV.y s4.staged)))) an))))))))))))))))))))))))) tq) fun h14 h14p => x5 fun s15 h15 => by intro e; injection e with e; subst e; exact x0 z9 (k := 300) (r := []) (hs := hz [(5, [.fc]), (1, [.fres (.i (s0))]), (2, [.no]), (1, [.fc]), (1, [.fres (.b (s2))]), (2, [.no]), (1, [.fc]), (1, [.fres (Sa.av (s4))]), (2, [.fc]), (17, [.no, .no, .yes]), (1, [.fc]), (12, [.fc, .fc]), (4, [.yes]), (1, [.fres (exs (s8))]), (4, [.head (z6x s c s0 s2 s4 s8 s9)]), (1, [.no]), (12, [.yes, .yes, .yes, .yes, .fres (.tu [exs (s13.1), .i (s13.2)])]), (5, [.yes]), (2, [.no]), (4, [.yes]), (2, [.yes]), (1, [.fc]), (1, [.fres (Sa.av (s15))]), (2, [.fc]), (2, [.fc, .yes, .yes, .yes, .yes, .yes, .yes])]) (raw := (AV.tu [(AV.ag [(AV.i s15.blocks), (AV.i s15.gen), (exs s15.map), (AV.sl s15.points.length (s15.points.flatMap Po.cells)), (AV.i s15.last), (bys s15.staged)]), (AV.i s13.2)])) kq (ac (g0 (s) _ h0).any0 (ac h1 (ac (d9 (c) _ h2).any0 (ac h3 (ac (t4 (s) _ h4) (ac h5 (ac h6 (ac h7 (ac (tq (p := (((0 : Nat) = (0 : Nat)) ∧ ((List.length [(AV.i c.lba), (AV.i c.n), (AV.i (Int.ofNat 0)), (AV.i (Int.ofNat 0)), AV.nl]) = (5 : Nat))))) (ac (z04 ([(Ex.mk c.lba c.n 0 0 ([] : List UInt8))]) _ h8) (ac (show x6 Try.prog cf (lp Try.prog 97 0) (zkq s c s0 s2 s4 s8) (z6x s c s0 s2 s4 s8 s9) from (x6.of (zh2 s c s0 s2 s4 s8) (x3 [] [] kq (.consn kq (.pt rfl) (.consn kq (.rf rfl) (.consn kq (.eqv tq rfl) (.consn kq (.rf rfl) (.consn kq (.eqv tq rfl) (.consn kq (.eqv tq rfl) .nil)))))) (.cons (.old rfl rfl (.cells (.pl tq pq))) (.cons (.old rfl rfl (.ro (.pl0 rfl))) (.cons (.old rfl rfl (.cells (.pl rfl pq))) (.cons (.old rfl rfl (.cells (.cons (.eqv tq rfl) (.cons (.eqv tq rfl) (.cons (.rf rfl) (.cons (.rf rfl) (.cons (.eqv tq rfl) (.cons (.rf rfl) .nil)))))))) (.cons (.old rfl rfl (.cells (.pl rfl (by simp)))) (.cons (.old rfl rfl (.cells (.pl rfl (by simp)))) (.cons (.old rfl rfl (.cells (.pl rfl (by simp)))) (.cons (.old rfl rfl (.cells (.cons (.eqv tq rfl) (.cons (.eqv tq rfl) (.cons .nl0 (.cons .nl0 (.cons (.eqv tq rfl) (.cons .nl0 .nil)))))))) (.cons (.old rfl rfl (.cells (.pl rfl pq))) (.cons (.old rfl rfl (.cells (.pl rfl pq))) .nil))))))))))) h9)) (ac h10 (ac h11 (ac (pq (p := Pl false ((s4.map.flatMap Ex.cells)))) (ac h12 (ac (pq (p := Pl false ((s9.2.flatMap Ex.cells)))) (ac (show z08 Try.prog cf false 105 [(AV.i s4.blocks), (exs s4.map), (AV.sl s8.length (s9.2.flatMap Ex.cells))] (.tu [exs (s13.1), .i (s13.2)]) from ((z3u (s4.blocks) (s4.map) (s9.2) _ h13).cast tq)) (ac (show z8 (rg Try.prog 97 0) = true ∧ x7 (Region.before (rg Try.prog 97 0)) [] 0 [(some [], some []), (some [], some []), (some [], some []), (some [6], some []), (some [], some []), (some [], some []), (some [], some []), (some [6], some []), (some [], some []), (some [3, 10], some [3, 10]), (some [], some []), (some [], some []), (some [], some []), (some [], some []), (some [], some [])] = true from (y9 z2k z2m kq)) (ac h14 (ac (show z8 (rg Try.prog 29 0) = true ∧ x7 (Region.before (rg Try.prog 29 0)) [] 0 [(some [], some [7]), (some [], some []), (some [1], some []), (some [7], some []), (some [1], some []), (none, none), (some [], some [])] = true from (y9 z0b z0d kq)) (ac (congrArg not h14) (ac (t4 (s) _ h15) (ac (fq (p := (((0 : Nat) = (0 : Nat)) ∧ ((List.length (s15.map.flatMap Ex.cells)) = (s15.map.length * 5))))) (ac (pq (p := Pl false ((s15.map.flatMap Ex.cells)))) (ac (fq (p := (((0 : Nat) = (0 : Nat)) ∧ ((List.length (s15.points.flatMap Po.cells)) = (s15.points.length * 3))))) (ac (pq (p := Pl false ((s15.points.flatMap Po.cells)))) (ac (tq (p := (((0 : Nat) = (0 : Nat)) ∧ ((List.length (List.map AV.y s15.staged)) = (s15.staged.length * 1))))) (ac (pq (p := Pl false ((List.map AV.y s15.staged)))) an)))))))))))))))))))))))))))) tq) fun h7 h7p => tbD (fun h8 h8p => tbD (fun h9 h9p => x5 fun s10 h10 => x8 fun h11 => by intro e; injection e with e; subst e; exact x0 z9 (k := 300) (r := []) (hs := hz [(5, [.fc]), (1, [.fres (.i (s0))]), (2, [.no]), (1, [.fc]), (1, [.fres (.b (s2))]), (2, [.no]), (1, [.fc]), (1, [.fres (Sa.av (s4))]), (2, [.fc]), (17, [.no, .no, .no, .yes]), (1, [.fc]), (13, [.yes, .yes]), (2, [.yes]), (4, [.fc]), (1, [.fres (Sa.av (s10))]), (2, [.fc]), (2, [.fc, .yes, .yes, .yes, .yes, .yes, .yes])]) (raw := (AV.tu [(AV.ag [(AV.i s10.blocks), (AV.i s10.gen), (exs s10.map), (AV.sl s10.points.length (s10.points.flatMap Po.cells)), (AV.i s10.last), (bys s10.staged)]), (AV.i 112)])) kq (ac (g0 (s) _ h0).any0 (ac h1 (ac (d9 (c) _ h2).any0 (ac h3 (ac (t4 (s) _ h4) (ac h5 (ac h6 (ac h7 (ac h8 (ac (show z8 (rg Try.prog 78 0) = true ∧ x7 (Region.before (rg Try.prog 78 0)) [] 0 [(some [], some []), (some [8], some []), (some [], some []), (some [], some []), (some [], some []), (some [6], some []), (some [], some []), (some [], some [])] = true from (y9 z4q z4k kq)) (ac h9 (ac (show z8 (rg Try.prog 29 0) = true ∧ x7 (Region.before (rg Try.prog 29 0)) [] 0 [(some [], some [7]), (some [], some []), (some [1], some []), (some [7], some []), (some [1], some []), (none, none), (some [], some [])] = true from (y9 z0b z0d kq)) (ac (t4 (s) _ h10) (ac h11 (ac (pq (p := Pl false ((s10.map.flatMap Ex.cells)))) (ac (fq (p := (((0 : Nat) = (0 : Nat)) ∧ ((List.length (s10.points.flatMap Po.cells)) = (s10.points.length * 3))))) (ac (pq (p := Pl false ((s10.points.flatMap Po.cells)))) (ac (tq (p := (((0 : Nat) = (0 : Nat)) ∧ ((List.length (List.map AV.y s10.staged)) = (s10.staged.length * 1))))) (ac (pq (p := Pl false ((List.map AV.y s10.staged)))) an))))))))))))))))))) tq) fun h9 h9p => tbE (fun h10 h10p => x5 fun s11 h11 => x8 fun h12 => by intro e; injection e with e; subst e; exact x0 z9 (k := 300) (r := []) (hs := hz [(5, [.fc]), (1, [.fres (.i (s0))]), (2, [.no]), (1, [.fc]), (1, [.fres (.b (s2))]), (2, [.no]), (1, [.fc]), (1, [.fres (Sa.av (s4))]), (2, [.fc]), (17, [.no, .no, .no, .yes]), (1, [.fc]), (13, [.yes, .no]), (8, [.yes, .yes, .yes, .yes, .yes, .yes]), (4, [.yes]), (4, [.fc]), (1, [.fres (Sa.av (s11))]), (2, [.fc]), (2, [.fc, .yes, .yes, .yes, .yes, .yes, .yes])]) (raw := (AV.tu [(AV.ag [(AV.i s11.blocks), (AV.i s11.gen), (exs s11.map), (AV.sl s11.points.length (s11.points.flatMap Po.cells)), (AV.i s11.last), (bys s11.staged)]), (AV.i 113)])) kq (ac (g0 (s) _ h0).any0 (ac h1 (ac (d9 (c) _ h2).any0 (ac h3 (ac (t4 (s) _ h4) (ac h5 (ac h6 (ac h7 (ac h8 (ac (show z8 (rg Try.prog 78 0) = true ∧ x7 (Region.before (rg Try.prog 78 0)) [] 0 [(some [], some []), (some [8], some []), (some [], some []), (some [], some []), (some [], some []), (some [6], some []), (some [], some []), (some [], some [])] = true from (y9 z4q z4k kq)) (ac h9 (ac h10 (ac h10 (ac h10 (ac h10 (ac h10 (ac h10 (ac (show z8 (rg Try.prog 29 0) = true ∧ x7 (Region.before (rg Try.prog 29 0)) [] 0 [(some [], some [7]), (some [], some []), (some [1], some []), (some [7], some []), (some [1], some []), (none, none), (some [], some [])] = true from (y9 z0b z0d kq)) (ac (t4 (s) _ h11) (ac h12 (ac (pq (p := Pl false ((s11.map.flatMap Ex.cells)))) (ac (fq (p := (((0 : Nat) = (0 : Nat)) ∧ ((List.length (s11.points.flatMap Po.cells)) = (s11.points.length * 3))))) (ac (pq (p := Pl false ((s11.points.flatMap Po.cells)))) (ac (tq (p := (((0 : Nat) = (0 : Nat)) ∧ ((List.length (List.map AV.y s11.staged)) = (s11.staged.length * 1))))) (ac (pq (p := Pl false ((List.map AV.y s11.staged)))) an))))))))))))))))))))))))) tq) fun h10 h10p => tbE (fun h11 h11p => x5 fun s12 h12 => x8 fun h13 => by intro e; injection e with e; subst e; exact x0 z9 (k := 300) (r := []) (hs := hz [(5, [.fc]), (1, [.fres (.i (s0))]), (2, [.no]), (1, [.fc]), (1, [.fres (.b (s2))]), (2, [.no]), (1, [.fc]), (1, [.fres (Sa.av (s4))]), (2, [.fc]), (17, [.no, .no, .no, .yes]), (1, [.fc]), (13, [.yes, .no]), (8, [.no]), (1, [.no]), (1, [.no]), (1, [.no]), (2, [.no]), (1, [.no]), (1, [.yes]), (2, [.yes]), (4, [.fc]), (1, [.fres (Sa.av (s12))]), (2, [.fc]), (2, [.fc, .yes, .yes, .yes, .yes, .yes, .yes])]) (raw := (AV.tu [(AV.ag [(AV.i s12.blocks), (AV.i s12.gen), (exs s12.map), (AV.sl s12.points.length (s12.points.flatMap Po.cells)), (AV.i s12.last), (bys s12.staged)]), (AV.i 113)])) kq (ac (g0 (s) _ h0).any0 (ac h1 (ac (d9 (c) _ h2).any0 (ac h3 (ac (t4 (s) _ h4) (ac h5 (ac h6 (ac h7 (ac h8 (ac (show z8 (rg Try.prog 78 0) = true ∧ x7 (Region.before (rg Try.prog 78 0)) [] 0 [(some [], some []), (some [8], some []), (some [], some []), (some [], some []), (some [], some []), (some [6], some []), (some [], some []), (some [], some [])] = true from (y9 z4q z4k kq)) (ac h9 (ac h10 (ac h10 (ac h10 (ac h10 (ac h10 (ac h10 (ac h11 (ac (show z8 (rg Try.prog 29 0) = true ∧ x7 (Region.before (rg Try.prog 29 0)) [] 0 [(some [], some [7]), (some [], some []), (some [1], some []), (some [7], some []), (some [1], some []), (none, none), (some [], some [])] = true from (y9 z0b z0d kq)) (ac (t4 (s) _ h12) (ac h13 (ac (pq (p := Pl false ((s12.map.flatMap Ex.cells)))) (ac (fq (p := (((0 : Nat) = (0 : Nat)) ∧ ((List.length (s12.points.flatMap Po.cells)) = (s12.points.length * 3))))) (ac (pq (p := Pl false ((s12.points.flatMap Po.cells)))) (ac (tq (p := (((0 : Nat) = (0 : Nat)) ∧ ((List.length (List.map AV.y s12.staged)) = (s12.staged.length * 1))))) (ac (pq (p := Pl false ((List.map AV.y s12.staged)))) an)))))))))))))))))))))))))) tq) fun h11 h11p => x8 fun h12 => x5 fun s13 h13 => x8 fun h14 => x8 fun h15 => by intro e; injection e with e; subst e; exact x0 z9 (k := 300) (r := []) (hs := hz [(5, [.fc]), (1, [.fres (.i (s0))]), (2, [.no]), (1, [.fc]), (1, [.fres (.b (s2))]), (2, [.no]), (1, [.fc]), (1, [.fres (Sa.av (s4))]), (2, [.fc]), (17, [.no, .no, .no, .yes]), (1, [.fc]), (13, [.yes, .no]), (8, [.no]), (1, [.no]), (1, [.no]), (1, [.no]), (2, [.no]), (1, [.no]), (1, [.no]), (20, [.yes, .yes, .fres (exs (s13))]), (2, [.fc, .fc, .yes, .yes]), (3, [.fc, .yes]), (7, [.fc]), (9, [.fc]), (2, [.yes]), (4, [.fc]), (1, [.fc]), (2, [.fc, .yes, .yes, .yes, .cellsb ((s4.points.flatMap Po.cells) ++ [(AV.i c.id), (AV.i s4.gen), (AV.sl s13.length (List.take (s13.length * 5) (s13.flatMap Ex.cells)))]) [9], .yes, .yes])]) (raw := (AV.tu [(AV.ag [(AV.i s4.blocks), (AV.i (wr (s4.gen + (1 : Int)))), (exs s4.map), (AV.sl (s4.points.length + (1 : Nat)) ((s4.points.flatMap Po.cells) ++ [(AV.i c.id), (AV.i s4.gen), (AV.sl s13.length (List.take (s13.length * 5) (s13.flatMap Ex.cells)))])), (AV.i c.id), (bys s4.staged)]), (AV.i 0)])) kq (ac (g0 (s) _ h0).any0 (ac h1 (ac (d9 (c) _ h2).any0 (ac h3 (ac (t4 (s) _ h4) (ac h5 (ac h6 (ac h7 (ac h8 (ac (show z8 (rg Try.prog 78 0) = true ∧ x7 (Region.before (rg Try.prog 78 0)) [] 0 [(some [], some []), (some [8], some []), (some [], some []), (some [], some []), (some [], some []), (some [6], some []), (some [], some []), (some [], some [])] = true from (y9 z4q z4k kq)) (ac h9 (ac h10 (ac h10 (ac h10 (ac h10 (ac h10 (ac h10 (ac h11 (ac h12 (ac (pq (p := Pl false ((s4.map.flatMap Ex.cells)))) (ac (z04 (s4.map) _ h13) (ac (tq (p := (((0 : Nat) = (0 : Nat)) ∧ ((List.length [(AV.i c.id), (AV.i s4.gen), (AV.rf 9 5 0 s13.length)]) = (3 : Nat))))) (ac h14 (ac (show z8 (rg Try.prog 78 1) = true ∧ x7 (Region.before (rg Try.prog 78 1)) [] 0 [(some [], some []), (some [], some []), (some [], some []), (some [], some []), (some [6], some []), (some [], some []), (some [8], some []), (some [], some []), (some [], some []), (some [], some []), (some [6], some []), (some [], some []), (some [], some []), (some [], some []), (some [6], some []), (some [3], some [3, 9]), (some [], some []), (some [], some [10]), (some [4, 10], some [4, 11]), (some [], some []), (some [], some []), (some [6], some [6])] = true from (y9 zku zla kq)) (ac (show z8 (rg Try.prog 29 0) = true ∧ x7 (Region.before (rg Try.prog 29 0)) [] 0 [(some [], some [7]), (some [], some []), (some [1], some []), (some [7], some []), (some [1], some []), (none, none), (some [], some [])] = true from (y9 z0b z0d kq)) (ac h12 (ac (pq (p := Pl false ((s4.map.flatMap Ex.cells)))) (ac h15 (ac (show z03 (t5 (AH.mk 12 [(11, (AObj.cells ((s4.points.flatMap Po.cells) ++ [(AV.i c.id), (AV.i s4.gen), (AV.rf 9 5 0 s13.length)]))), (10, (AObj.cells [(AV.i c.id), (AV.i s4.gen), (AV.rf 9 5 0 s13.length)])), (9, (AObj.cells (s13.flatMap Ex.cells))), (8, (AObj.cells [(AV.i c.kind), (AV.i c.lba), (AV.i c.n), (AV.i c.id), (bys c.d), (exs c.list)])), (7, (AObj.map [((AV.i 1), (AV.fn (75 : Nat) ([] : List AV))), ((AV.i 2), (AV.fn (76 : Nat) ([] : List AV))), ((AV.i 3), (AV.fn (77 : Nat) ([] : List AV))), ((AV.i 4), (AV.fn (78 : Nat) ([] : List AV))), ((AV.i 5), (AV.fn (79 : Nat) ([] : List AV))), ((AV.i 6), (AV.fn (80 : Nat) ([] : List AV))), ((AV.i 7), (AV.fn (81 : Nat) ([] : List AV))), ((AV.i 8), (AV.fn (82 : Nat) ([] : List AV)))])), (6, (AObj.cells [(AV.i s4.blocks), (AV.i (wr (s4.gen + (1 : Int)))), (AV.rf 3 5 0 s4.map.length), (AV.rf 11 3 0 (s4.points.length + (1 : Nat))), (AV.i c.id), (AV.rf 5 1 0 s4.staged.length)])), ((((3 : Nat) + (1 : Nat)) + (1 : Nat)), (AObj.cells (List.map AV.y s4.staged))), (4, AObj.dead), (3, (AObj.ro (s4.map.flatMap Ex.cells))), (2, (AObj.cells [(AV.i s4.blocks), (AV.i (wr (s4.gen + (1 : Int)))), (AV.rf 3 5 0 s4.map.length), (AV.rf 11 3 0 (s4.points.length + (1 : Nat))), (AV.i c.id), (AV.rf 5 1 0 s4.staged.length)])), (1, (AObj.cells [(AV.i c.kind), (AV.i c.lba), (AV.i c.n), (AV.i c.id), (bys c.d), (exs c.list)])), (0, (AObj.cells [(AV.i s.blocks), (AV.i s.gen), (exs s.map), (AV.sl s.points.length (s.points.flatMap Po.cells)), (AV.i s.last), (bys s.staged)]))]) false 9) ((s4.points.flatMap Po.cells) ++ [(AV.i c.id), (AV.i s4.gen), (AV.rf 9 5 0 s13.length)]) = some (((s4.points.flatMap Po.cells) ++ [(AV.i c.id), (AV.i s4.gen), (AV.sl s13.length (List.take (s13.length * 5) (s13.flatMap Ex.cells)))]), [9]) from (zbi (x := []) (y := [9]) (z4e _ _ _ _ pq) (z41 (x := []) (y := [9]) (z46 rfl) (z41 (x := []) (y := [9]) (z46 rfl) (z41 (x := [9]) (y := []) (zka (cs := (s13.flatMap Ex.cells)) rfl tq pq) rfl))))) (ac (tq (p := (((0 : Nat) = (0 : Nat)) ∧ ((List.length (List.map AV.y s4.staged)) = (s4.staged.length * 1))))) (ac (pq (p := Pl false ((List.map AV.y s4.staged)))) an))))))))))))))))))))))))))))))) tq) fun h8 h8p => tbD (fun h9 h9p => z12 fun s10 h10 => tbD (fun h11 h11p => x8 fun h12 => tbE (fun h13 h13p => tbD (fun h14 h14p => x5 fun s15 h15 => by intro e; injection e with e; subst e; exact x0 z9 (k := 300) (r := []) (hs := hz [(5, [.fc]), (1, [.fres (.i (s0))]), (2, [.no]), (1, [.fc]), (1, [.fres (.b (s2))]), (2, [.no]), (1, [.fc]), (1, [.fres (Sa.av (s4))]), (2, [.fc]), (17, [.no, .no, .no, .no, .yes]), (1, [.fc]), (14, [.head (z4m s c s0 s2 s4 s10)]), (1, [.yes]), (5, [.yes, .yes, .cells ((Po.cells (v9 s4.points s10.toNat)))]), (11, [.yes]), (5, [.yes]), (2, [.yes]), (4, [.fc]), (1, [.fres (Sa.av (s15))]), (2, [.fc]), (2, [.fc, .yes, .yes, .yes, .yes, .yes, .yes])]) (raw := (AV.tu [(AV.ag [(AV.i s15.blocks), (AV.i s15.gen), (exs s15.map), (AV.sl s15.points.length (s15.points.flatMap Po.cells)), (AV.i s15.last), (bys s15.staged)]), (AV.i 111)])) kq (ac (g0 (s) _ h0).any0 (ac h1 (ac (d9 (c) _ h2).any0 (ac h3 (ac (t4 (s) _ h4) (ac h5 (ac h6 (ac h7 (ac h8 (ac h9 (ac (show x6 Try.prog cf (lp Try.prog 98 0) (zd2 s c s0 s2 s4) (z4m s c s0 s2 s4 s10) from (x6.of (zbg s c s0 s2 s4) (x3 [] [] kq (.consn kq (.rf rfl) (.consn kq (.fn (.cons (.pt rfl) .nil)) (.consn kq (.eqv tq rfl) (.consn kq (.eqv tq rfl) .nil)))) (.cons (.old rfl rfl (.cells (.pl rfl pq))) (.cons (.old rfl rfl (.cells (.cons (.eqv tq rfl) (.cons (.eqv tq rfl) (.cons (.rf rfl) (.cons (.rf rfl) (.cons (.eqv tq rfl) (.cons (.rf rfl) .nil)))))))) (.cons (.old rfl rfl (.cells (.pl rfl (by simp)))) (.cons (.old rfl rfl (.cells (.pl rfl (by simp)))) (.cons (.old rfl rfl (.cells (.pl rfl (by simp)))) (.cons (.old rfl rfl (.cells (.cons (.eqv tq rfl) (.cons (.eqv tq rfl) (.cons .nl0 (.cons .nl0 (.cons (.eqv tq rfl) (.cons .nl0 .nil)))))))) (.cons (.old rfl rfl (.cells (.pl rfl pq))) (.cons (.old rfl rfl (.cells (.pl rfl pq))) .nil))))))))) h10)) (ac h11 (ac h12 (ac (fq (p := ((((0 : Nat) + (s10.toNat * 3)) + (3 : Nat)) ≤ (List.length (s4.points.flatMap Po.cells))))) (ac (show (List.take 3 (List.drop ((0 : Nat) + (s10.toNat * 3)) (s4.points.flatMap Po.cells))) = (Po.cells (v9 s4.points s10.toNat)) from (z0p bq bq)) (ac h13 (ac h14 (ac (show z8 (rg Try.prog 29 0) = true ∧ x7 (Region.before (rg Try.prog 29 0)) [] 0 [(some [], some [7]), (some [], some []), (some [1], some []), (some [7], some []), (some [1], some []), (none, none), (some [], some [])] = true from (y9 z0b z0d kq)) (ac (t4 (s) _ h15) (ac (fq (p := (((0 : Nat) = (0 : Nat)) ∧ ((List.length (s15.map.flatMap Ex.cells)) = (s15.map.length * 5))))) (ac (pq (p := Pl false ((s15.map.flatMap Ex.cells)))) (ac (fq (p := (((0 : Nat) = (0 : Nat)) ∧ ((List.length (s15.points.flatMap Po.cells)) = (s15.points.length * 3))))) (ac (pq (p := Pl false ((s15.points.flatMap Po.cells)))) (ac (tq (p := (((0 : Nat) = (0 : Nat)) ∧ ((List.length (List.map AV.y s15.staged)) = (s15.staged.length * 1))))) (ac (pq (p := Pl false ((List.map AV.y s15.staged)))) an))))))))))))))))))))))))) tq) fun h14 h14p => x8 fun h15 => x8 fun h16 => x8 fun h17 => x8 fun h18 => x8 fun h19 => by intro e; injection e with e; subst e; exact x0 z9 (k := 300) (r := []) (hs := hz [(5, [.fc]), (1, [.fres (.i (s0))]), (2, [.no]), (1, [.fc]), (1, [.fres (.b (s2))]), (2, [.no]), (1, [.fc]), (1, [.fres (Sa.av (s4))]), (2, [.fc]), (17, [.no, .no, .no, .no, .yes]), (1, [.fc]), (14, [.head (z4m s c s0 s2 s4 s10)]), (1, [.yes]), (5, [.yes, .yes, .cells ((Po.cells (v9 s4.points s10.toNat)))]), (11, [.yes]), (5, [.no]), (10, [.yes, .yes, .yes, .yes, .cells ((List.flatMap Po.cells ((List.take s10.toNat s4.points) ++ (List.drop (s10.toNat + (1 : Nat)) s4.points))))]), (3, [.fc]), (2, [.yes]), (4, [.fc]), (1, [.fc]), (2, [.fc, .yes, .yes, .yes, .yes, .yes, .yes])]) (raw := (AV.tu [(AV.ag [(AV.i s4.blocks), (AV.i s4.gen), (exs s4.map), (AV.sl (s4.points.length - (1 : Nat)) (List.flatMap Po.cells ((List.take s10.toNat s4.points) ++ (List.drop (s10.toNat + (1 : Nat)) s4.points)))), (AV.i s4.last), (bys s4.staged)]), (AV.i 0)])) kq (ac (g0 (s) _ h0).any0 (ac h1 (ac (d9 (c) _ h2).any0 (ac h3 (ac (t4 (s) _ h4) (ac h5 (ac h6 (ac h7 (ac h8 (ac h9 (ac (show x6 Try.prog cf (lp Try.prog 98 0) (zd2 s c s0 s2 s4) (z4m s c s0 s2 s4 s10) from (x6.of (zbg s c s0 s2 s4) (x3 [] [] kq (.consn kq (.rf rfl) (.consn kq (.fn (.cons (.pt rfl) .nil)) (.consn kq (.eqv tq rfl) (.consn kq (.eqv tq rfl) .nil)))) (.cons (.old rfl rfl (.cells (.pl rfl pq))) (.cons (.old rfl rfl (.cells (.cons (.eqv tq rfl) (.cons (.eqv tq rfl) (.cons (.rf rfl) (.cons (.rf rfl) (.cons (.eqv tq rfl) (.cons (.rf rfl) .nil)))))))) (.cons (.old rfl rfl (.cells (.pl rfl (by simp)))) (.cons (.old rfl rfl (.cells (.pl rfl (by simp)))) (.cons (.old rfl rfl (.cells (.pl rfl (by simp)))) (.cons (.old rfl rfl (.cells (.cons (.eqv tq rfl) (.cons (.eqv tq rfl) (.cons .nl0 (.cons .nl0 (.cons (.eqv tq rfl) (.cons .nl0 .nil)))))))) (.cons (.old rfl rfl (.cells (.pl rfl pq))) (.cons (.old rfl rfl (.cells (.pl rfl pq))) .nil))))))))) h10)) (ac h11 (ac h12 (ac (fq (p := ((((0 : Nat) + (s10.toNat * 3)) + (3 : Nat)) ≤ (List.length (s4.points.flatMap Po.cells))))) (ac (show (List.take 3 (List.drop ((0 : Nat) + (s10.toNat * 3)) (s4.points.flatMap Po.cells))) = (Po.cells (v9 s4.points s10.toNat)) from (z0p bq bq)) (ac h13 (ac h14 (ac h15 (ac h16 (ac h12 (ac h17 (ac (show delC 3 (s10.toNat) ((s4.points.flatMap Po.cells)) = (List.flatMap Po.cells ((List.take s10.toNat s4.points) ++ (List.drop (s10.toNat + (1 : Nat)) s4.points))) from (zu3 _ _)) (ac (show z8 (rg Try.prog 29 0) = true ∧ x7 (Region.before (rg Try.prog 29 0)) [] 0 [(some [], some [7]), (some [], some []), (some [1], some []), (some [7], some []), (some [1], some []), (none, none), (some [], some [])] = true from (y9 z0b z0d kq)) (ac h18 (ac (pq (p := Pl false ((s4.map.flatMap Ex.cells)))) (ac h19 (ac (pq (p := Pl false ((List.flatMap Po.cells ((List.take s10.toNat s4.points) ++ (List.drop (s10.toNat + (1 : Nat)) s4.points)))))) (ac (tq (p := (((0 : Nat) = (0 : Nat)) ∧ ((List.length (List.map AV.y s4.staged)) = (s4.staged.length * 1))))) (ac (pq (p := Pl false ((List.map AV.y s4.staged)))) an))))))))))))))))))))))))))))) tq) fun h13 h13p => w6) fun h11 h11p => x5 fun s12 h12 => x8 fun h13 => by intro e; injection e with e; subst e; exact x0 z9 (k := 300) (r := []) (hs := hz [(5, [.fc]), (1, [.fres (.i (s0))]), (2, [.no]), (1, [.fc]), (1, [.fres (.b (s2))]), (2, [.no]), (1, [.fc]), (1, [.fres (Sa.av (s4))]), (2, [.fc]), (17, [.no, .no, .no, .no, .yes]), (1, [.fc]), (14, [.head (z4m s c s0 s2 s4 s10)]), (1, [.no]), (7, [.yes]), (4, [.fc]), (1, [.fres (Sa.av (s12))]), (2, [.fc]), (2, [.fc, .yes, .yes, .yes, .yes, .yes, .yes])]) (raw := (AV.tu [(AV.ag [(AV.i s12.blocks), (AV.i s12.gen), (exs s12.map), (AV.sl s12.points.length (s12.points.flatMap Po.cells)), (AV.i s12.last), (bys s12.staged)]), (AV.i 111)])) kq (ac (g0 (s) _ h0).any0 (ac h1 (ac (d9 (c) _ h2).any0 (ac h3 (ac (t4 (s) _ h4) (ac h5 (ac h6 (ac h7 (ac h8 (ac h9 (ac (show x6 Try.prog cf (lp Try.prog 98 0) (zd2 s c s0 s2 s4) (z4m s c s0 s2 s4 s10) from (x6.of (zbg s c s0 s2 s4) (x3 [] [] kq (.consn kq (.rf rfl) (.consn kq (.fn (.cons (.pt rfl) .nil)) (.consn kq (.eqv tq rfl) (.consn kq (.eqv tq rfl) .nil)))) (.cons (.old rfl rfl (.cells (.pl rfl pq))) (.cons (.old rfl rfl (.cells (.cons (.eqv tq rfl) (.cons (.eqv tq rfl) (.cons (.rf rfl) (.cons (.rf rfl) (.cons (.eqv tq rfl) (.cons (.rf rfl) .nil)))))))) (.cons (.old rfl rfl (.cells (.pl rfl (by simp)))) (.cons (.old rfl rfl (.cells (.pl rfl (by simp)))) (.cons (.old rfl rfl (.cells (.pl rfl (by simp)))) (.cons (.old rfl rfl (.cells (.cons (.eqv tq rfl) (.cons (.eqv tq rfl) (.cons .nl0 (.cons .nl0 (.cons (.eqv tq rfl) (.cons .nl0 .nil)))))))) (.cons (.old rfl rfl (.cells (.pl rfl pq))) (.cons (.old rfl rfl (.cells (.pl rfl pq))) .nil))))))))) h10)) (ac h11 (ac (show z8 (rg Try.prog 29 0) = true ∧ x7 (Region.before (rg Try.prog 29 0)) [] 0 [(some [], some [7]), (some [], some []), (some [1], some []), (some [7], some []), (some [1], some []), (none, none), (some [], some [])] = true from (y9 z0b z0d kq)) (ac (t4 (s) _ h12) (ac h13 (ac (pq (p := Pl false ((s12.map.flatMap Ex.cells)))) (ac (fq (p := (((0 : Nat) = (0 : Nat)) ∧ ((List.length (s12.points.flatMap Po.cells)) = (s12.points.length * 3))))) (ac (pq (p := Pl false ((s12.points.flatMap Po.cells)))) (ac (tq (p := (((0 : Nat) = (0 : Nat)) ∧ ((List.length (List.map AV.y s12.staged)) = (s12.staged.length * 1))))) (ac (pq (p := Pl false ((List.map AV.y s12.staged)))) an)))))))))))))))))))) tq) fun h9 h9p => tbD (fun h10 h10p => tbD (fun h11 h11p => x5 fun s12 h12 => x8 fun h13 => by intro e; injection e with e; subst e; exact x0 z9 (k := 300) (r := []) (hs := hz [(5, [.fc]), (1, [.fres (.i (s0))]), (2, [.no]), (1, [.fc]), (1, [.fres (.b (s2))]), (2, [.no]), (1, [.fc]), (1, [.fres (Sa.av (s4))]), (2, [.fc]), (17, [.no, .no, .no, .no, .no, .yes]), (1, [.fc]), (15, [.yes, .yes]), (2, [.yes]), (4, [.fc]), (1, [.fres (Sa.av (s12))]), (2, [.fc]), (2, [.fc, .yes, .yes, .yes, .yes, .yes, .yes])]) (raw := (AV.tu [(AV.ag [(AV.i s12.blocks), (AV.i s12.gen), (exs s12.map), (AV.sl s12.points.length (s12.points.flatMap Po.cells)), (AV.i s12.last), (bys s12.staged)]), (AV.i 113)])) kq (ac (g0 (s) _ h0).any0 (ac h1 (ac (d9 (c) _ h2).any0 (ac h3 (ac (t4 (s) _ h4) (ac h5 (ac h6 (ac h7 (ac h8 (ac h9 (ac h10 (ac (show z8 (rg Try.prog 80 0) = true ∧ x7 (Region.before (rg Try.prog 80 0)) [] 0 [(some [], some []), (some [8], some []), (some [], some []), (some [], some []), (some [], some []), (some [], some []), (some [6], some []), (some [], some []), (some [], some []), (some [], some [])] = true from (y9 zjn zkp kq)) (ac h11 (ac (show z8 (rg Try.prog 29 0) = true ∧ x7 (Region.before (rg Try.prog 29 0)) [] 0 [(some [], some [7]), (some [], some []), (some [1], some []), (some [7], some []), (some [1], some []), (none, none), (some [], some [])] = true from (y9 z0b z0d kq)) (ac (t4 (s) _ h12) (ac h13 (ac (pq (p := Pl false ((s12.map.flatMap Ex.cells)))) (ac (fq (p := (((0 : Nat) = (0 : Nat)) ∧ ((List.length (s12.points.flatMap Po.cells)) = (s12.points.length * 3))))) (ac (pq (p := Pl false ((s12.points.flatMap Po.cells)))) (ac (tq (p := (((0 : Nat) = (0 : Nat)) ∧ ((List.length (List.map AV.y s12.staged)) = (s12.staged.length * 1))))) (ac (pq (p := Pl false ((List.map AV.y s12.staged)))) an))))))))))))))))))))) tq) fun h11 h11p => x8 fun h12 => x8 fun h13 => by intro e; injection e with e; subst e; exact x0 z9 (k := 300) (r := []) (hs := hz [(5, [.fc]), (1, [.fres (.i (s0))]), (2, [.no]), (1, [.fc]), (1, [.fres (.b (s2))]), (2, [.no]), (1, [.fc]), (1, [.fres (Sa.av (s4))]), (2, [.fc]), (17, [.no, .no, .no, .no, .no, .yes]), (1, [.fc]), (15, [.yes, .no]), (9, [.yes, .yes]), (3, [.fc, .yes]), (2, [.yes]), (4, [.fc]), (1, [.fc]), (2, [.fc, .yes, .yes, .yes, .yes, .yes, .yes])]) (raw := (AV.tu [(AV.ag [(AV.i s4.blocks), (AV.i s4.gen), (exs s4.map), (AV.sl s4.points.length (s4.points.flatMap Po.cells)), (AV.i s4.last), (AV.sl (s4.staged.length + c.d.length) ((List.map AV.y s4.staged) ++ (List.map AV.y c.d)))]), (AV.i 0)])) kq (ac (g0 (s) _ h0).any0 (ac h1 (ac (d9 (c) _ h2).any0 (ac h3 (ac (t4 (s) _ h4) (ac h5 (ac h6 (ac h7 (ac h8 (ac h9 (ac h10 (ac (show z8 (rg Try.prog 80 0) = true ∧ x7 (Region.before (rg Try.prog 80 0)) [] 0 [(some [], some []), (some [8], some []), (some [], some []), (some [], some []), (some [], some []), (some [], some []), (some [6], some []), (some [], some []), (some [], some []), (some [], some [])] = true from (y9 zjn zkp kq)) (ac h11 (ac (tq (p := ((List.length (List.map AV.y c.d)) = (c.d.length * 1)))) (ac h12 (ac (show z8 (rg Try.prog 80 1) = true ∧ x7 (Region.before (rg Try.prog 80 1)) [] 0 [(some [], some []), (some [], some []), (some [], some []), (some [], some []), (some [6], some []), (some [], some []), (some [8], some []), (some [5], some [5, 9]), (some [], some []), (some [], some []), (some [6], some [6])] = true from (y9 zrp zt5 kq)) (ac (show z8 (rg Try.prog 29 0) = true ∧ x7 (Region.before (rg Try.prog 29 0)) [] 0 [(some [], some [7]), (some [], some []), (some [1], some []), (some [7], some []), (some [1], some []), (none, none), (some [], some [])] = true from (y9 z0b z0d kq)) (ac h13 (ac (pq (p := Pl false ((s4.map.flatMap Ex.cells)))) (ac (fq (p := (((0 : Nat) = (0 : Nat)) ∧ ((List.length (s4.points.flatMap Po.cells)) = (s4.points.length * 3))))) (ac (pq (p := Pl false ((s4.points.flatMap Po.cells)))) (ac (tq (p := (((0 : Nat) = (0 : Nat)) ∧ ((List.length ((List.map AV.y s4.staged) ++ (List.map AV.y c.d))) = ((s4.staged.length + c.d.length) * 1))))) (ac (pq (p := Pl false (((List.map AV.y s4.staged) ++ (List.map AV.y c.d))))) an))))))))))))))))))))))) tq) fun h10 h10p => tbD (fun h11 h11p => x8 fun h12 => by intro e; injection e with e; subst e; exact x0 z9 (k := 300) (r := []) (hs := hz [(5, [.fc]), (1, [.fres (.i (s0))]), (2, [.no]), (1, [.fc]), (1, [.fres (.b (s2))]), (2, [.no]), (1, [.fc]), (1, [.fres (Sa.av (s4))]), (2, [.fc]), (17, [.no, .no, .no, .no, .no, .no, .yes]), (1, [.fc]), (7, [.fc]), (2, [.yes]), (4, [.fc]), (1, [.fc]), (2, [.fc, .yes, .yes, .yes, .yes])]) (raw := (AV.tu [(AV.ag [(AV.i s4.blocks), (AV.i s4.gen), (exs s4.map), (AV.sl s4.points.length (s4.points.flatMap Po.cells)), (AV.i s4.last), (AV.sl 0 ([] : List AV))]), (AV.i 0)])) kq (ac (g0 (s) _ h0).any0 (ac h1 (ac (d9 (c) _ h2).any0 (ac h3 (ac (t4 (s) _ h4) (ac h5 (ac h6 (ac h7 (ac h8 (ac h9 (ac h10 (ac h11 (ac (show z8 (rg Try.prog 29 0) = true ∧ x7 (Region.before (rg Try.prog 29 0)) [] 0 [(some [], some [7]), (some [], some []), (some [1], some []), (some [7], some []), (some [1], some []), (none, none), (some [], some [])] = true from (y9 z0b z0d kq)) (ac h12 (ac (pq (p := Pl false ((s4.map.flatMap Ex.cells)))) (ac (fq (p := (((0 : Nat) = (0 : Nat)) ∧ ((List.length (s4.points.flatMap Po.cells)) = (s4.points.length * 3))))) (ac (pq (p := Pl false ((s4.points.flatMap Po.cells)))) an))))))))))))))))) tq) fun h11 h11p => tbD (fun h12 h12p => x5 fun s13 h13 => z12 fun s14 h14 => tbD (fun h15 h15p => w6) fun h15 h15p => x8 fun h16 => x8 fun h17 => x5 fun s18 h18 => tbE (fun h19 h19p => tbD (fun h20 h20p => x5 fun s21 h21 => by intro e; injection e with e; subst e; exact x0 z9 (k := 300) (r := []) (hs := hz [(5, [.fc]), (1, [.fres (.i (s0))]), (2, [.no]), (1, [.fc]), (1, [.fres (.b (s2))]), (2, [.no]), (1, [.fc]), (1, [.fres (Sa.av (s4))]), (2, [.fc]), (17, [.no, .no, .no, .no, .no, .no, .no, .yes]), (1, [.fc]), (11, [.fres (exs (s13))]), (4, [.head (z21 s c s0 s2 s4 s13 s14)]), (1, [.no]), (12, [.yes, .yes, .yes, .yes, .fres (.tu [exs (s18.1), .i (s18.2)])]), (5, [.yes]), (2, [.yes]), (5, [.fc]), (5, [.no]), (2, [.fc]), (13, [.yes, .yes]), (8, [.yes]), (4, [.fc]), (1, [.fres (Sa.av (s21))]), (2, [.fc]), (2, [.fc, .yes, .yes, .yes, .yes, .yes, .yes])]) (raw := (AV.tu [(AV.ag [(AV.i s21.blocks), (AV.i s21.gen), (exs s21.map), (AV.sl s21.points.length (s21.points.flatMap Po.cells)), (AV.i s21.last), (bys s21.staged)]), (AV.i 112)])) kq (ac (g0 (s) _ h0).any0 (ac h1 (ac (d9 (c) _ h2).any0 (ac h3 (ac (t4 (s) _ h4) (ac h5 (ac h6 (ac h7 (ac h8 (ac h9 (ac h10 (ac h11 (ac h12 (ac (z04 (c.list) _ h13) (ac (show x6 Try.prog cf (lp Try.prog 97 0) (z8a s c s0 s2 s4 s13) (z21 s c s0 s2 s4 s13 s14) from (x6.of (z6z s c s0 s2 s4 s13) (x3 [] [] kq (.consn kq (.pt rfl) (.consn kq (.eqv tq rfl) (.consn kq (.eqv tq rfl) (.consn kq (.rf rfl) (.consn kq (.eqv tq rfl) (.consn kq (.eqv tq rfl) .nil)))))) (.cons (.old rfl rfl (.cells (.pl tq pq))) (.cons (.old rfl rfl (.cells (.pl rfl pq))) (.cons (.old rfl rfl (.cells (.cons (.eqv tq rfl) (.cons (.eqv tq rfl) (.cons (.rf rfl) (.cons (.rf rfl) (.cons (.eqv tq rfl) (.cons (.rf rfl) .nil)))))))) (.cons (.old rfl rfl (.cells (.pl rfl (by simp)))) (.cons (.old rfl rfl (.cells (.pl rfl (by simp)))) (.cons (.old rfl rfl (.cells (.pl rfl (by simp)))) (.cons (.old rfl rfl (.cells (.cons (.eqv tq rfl) (.cons (.eqv tq rfl) (.cons .nl0 (.cons .nl0 (.cons (.eqv tq rfl) (.cons .nl0 .nil)))))))) (.cons (.old rfl rfl (.cells (.pl rfl pq))) (.cons (.old rfl rfl (.cells (.pl rfl pq))) .nil)))))))))) h14)) (ac h15 (ac h16 (ac (pq (p := Pl false ((s4.map.flatMap Ex.cells)))) (ac h17 (ac (pq (p := Pl false ((s14.2.flatMap Ex.cells)))) (ac (show z08 Try.prog cf false 105 [(AV.i s4.blocks), (exs s4.map), (AV.sl s13.length (s14.2.flatMap Ex.cells))] (.tu [exs (s18.1), .i (s18.2)]) from ((z3u (s4.blocks) (s4.map) (s14.2) _ h18).cast tq)) (ac (show z8 (rg Try.prog 97 0) = true ∧ x7 (Region.before (rg Try.prog 97 0)) [] 0 [(some [], some []), (some [], some []), (some [], some []), (some [6], some []), (some [], some []), (some [], some []), (some [], some []), (some [6], some []), (some [], some []), (some [3, 9], some [3, 9]), (some [], some []), (some [], some []), (some [], some []), (some [], some []), (some [], some [])] = true from (y9 z2k z2m kq)) (ac h19 (ac (congrArg not h19) (ac (show z8 (rg Try.prog 78 0) = true ∧ x7 (Region.before (rg Try.prog 78 0)) [] 0 [(some [], some []), (some [10], some []), (some [], some []), (some [], some []), (some [], some []), (some [6], some []), (some [], some []), (some [], some [])] = true from (y9 z4q z4k kq)) (ac h20 (ac (show z8 (rg Try.prog 29 0) = true ∧ x7 (Region.before (rg Try.prog 29 0)) [] 0 [(some [], some [7]), (some [], some []), (some [1], some []), (some [7], some []), (some [1], some []), (none, none), (some [], some [])] = true from (y9 z0b z0d kq)) (ac (t4 (s) _ h21) (ac (fq (p := (((0 : Nat) = (0 : Nat)) ∧ ((List.length (s21.map.flatMap Ex.cells)) = (s21.map.length * 5))))) (ac (pq (p := Pl false ((s21.map.flatMap Ex.cells)))) (ac (fq (p := (((0 : Nat) = (0 : Nat)) ∧ ((List.length (s21.points.flatMap Po.cells)) = (s21.points.length * 3))))) (ac (pq (p := Pl false ((s21.points.flatMap Po.cells)))) (ac (tq (p := (((0 : Nat) = (0 : Nat)) ∧ ((List.length (List.map AV.y s21.staged)) = (s21.staged.length * 1))))) (ac (pq (p := Pl false ((List.map AV.y s21.staged)))) an)))))))))))))))))))))))))))))))))) tq) fun h20 h20p => tbE (fun h21 h21p => x5 fun s22 h22 => by intro e; injection e with e; subst e; exact x0 z9 (k := 300) (r := []) (hs := hz [(5, [.fc]), (1, [.fres (.i (s0))]), (2, [.no]), (1, [.fc]), (1, [.fres (.b (s2))]), (2, [.no]), (1, [.fc]), (1, [.fres (Sa.av (s4))]), (2, [.fc]), (17, [.no, .no, .no, .no, .no, .no, .no, .yes]), (1, [.fc]), (11, [.fres (exs (s13))]), (4, [.head (z21 s c s0 s2 s4 s13 s14)]), (1, [.no]), (12, [.yes, .yes, .yes, .yes, .fres (.tu [exs (s18.1), .i (s18.2)])]), (5, [.yes]), (2, [.yes]), (5, [.fc]), (5, [.no]), (2, [.fc]), (13, [.yes, .no]), (8, [.yes, .yes, .yes, .yes, .yes, .yes]), (10, [.yes]), (4, [.fc]), (1, [.fres (Sa.av (s22))]), (2, [.fc]), (2, [.fc, .yes, .yes, .yes, .yes, .yes, .yes])]) (raw := (AV.tu [(AV.ag [(AV.i s22.blocks), (AV.i s22.gen), (exs s22.map), (AV.sl s22.points.length (s22.points.flatMap Po.cells)), (AV.i s22.last), (bys s22.staged)]), (AV.i 113)])) kq (ac (g0 (s) _ h0).any0 (ac h1 (ac (d9 (c) _ h2).any0 (ac h3 (ac (t4 (s) _ h4) (ac h5 (ac h6 (ac h7 (ac h8 (ac h9 (ac h10 (ac h11 (ac h12 (ac (z04 (c.list) _ h13) (ac (show x6 Try.prog cf (lp Try.prog 97 0) (z8a s c s0 s2 s4 s13) (z21 s c s0 s2 s4 s13 s14) from (x6.of (z6z s c s0 s2 s4 s13) (x3 [] [] kq (.consn kq (.pt rfl) (.consn kq (.eqv tq rfl) (.consn kq (.eqv tq rfl) (.consn kq (.rf rfl) (.consn kq (.eqv tq rfl) (.consn kq (.eqv tq rfl) .nil)))))) (.cons (.old rfl rfl (.cells (.pl tq pq))) (.cons (.old rfl rfl (.cells (.pl rfl pq))) (.cons (.old rfl rfl (.cells (.cons (.eqv tq rfl) (.cons (.eqv tq rfl) (.cons (.rf rfl) (.cons (.rf rfl) (.cons (.eqv tq rfl) (.cons (.rf rfl) .nil)))))))) (.cons (.old rfl rfl (.cells (.pl rfl (by simp)))) (.cons (.old rfl rfl (.cells (.pl rfl (by simp)))) (.cons (.old rfl rfl (.cells (.pl rfl (by simp)))) (.cons (.old rfl rfl (.cells (.cons (.eqv tq rfl) (.cons (.eqv tq rfl) (.cons .nl0 (.cons .nl0 (.cons (.eqv tq rfl) (.cons .nl0 .nil)))))))) (.cons (.old rfl rfl (.cells (.pl rfl pq))) (.cons (.old rfl rfl (.cells (.pl rfl pq))) .nil)))))))))) h14)) (ac h15 (ac h16 (ac (pq (p := Pl false ((s4.map.flatMap Ex.cells)))) (ac h17 (ac (pq (p := Pl false ((s14.2.flatMap Ex.cells)))) (ac (show z08 Try.prog cf false 105 [(AV.i s4.blocks), (exs s4.map), (AV.sl s13.length (s14.2.flatMap Ex.cells))] (.tu [exs (s18.1), .i (s18.2)]) from ((z3u (s4.blocks) (s4.map) (s14.2) _ h18).cast tq)) (ac (show z8 (rg Try.prog 97 0) = true ∧ x7 (Region.before (rg Try.prog 97 0)) [] 0 [(some [], some []), (some [], some []), (some [], some []), (some [6], some []), (some [], some []), (some [], some []), (some [], some []), (some [6], some []), (some [], some []), (some [3, 9], some [3, 9]), (some [], some []), (some [], some []), (some [], some []), (some [], some []), (some [], some [])] = true from (y9 z2k z2m kq)) (ac h19 (ac (congrArg not h19) (ac (show z8 (rg Try.prog 78 0) = true ∧ x7 (Region.before (rg Try.prog 78 0)) [] 0 [(some [], some []), (some [10], some []), (some [], some []), (some [], some []), (some [], some []), (some [6], some []), (some [], some []), (some [], some [])] = true from (y9 z4q z4k kq)) (ac h20 (ac h21 (ac h21 (ac h21 (ac h21 (ac h21 (ac h21 (ac (show z8 (rg Try.prog 29 0) = true ∧ x7 (Region.before (rg Try.prog 29 0)) [] 0 [(some [], some [7]), (some [], some []), (some [1], some []), (some [7], some []), (some [1], some []), (none, none), (some [], some [])] = true from (y9 z0b z0d kq)) (ac (t4 (s) _ h22) (ac (fq (p := (((0 : Nat) = (0 : Nat)) ∧ ((List.length (s22.map.flatMap Ex.cells)) = (s22.map.length * 5))))) (ac (pq (p := Pl false ((s22.map.flatMap Ex.cells)))) (ac (fq (p := (((0 : Nat) = (0 : Nat)) ∧ ((List.length (s22.points.flatMap Po.cells)) = (s22.points.length * 3))))) (ac (pq (p := Pl false ((s22.points.flatMap Po.cells)))) (ac (tq (p := (((0 : Nat) = (0 : Nat)) ∧ ((List.length (List.map AV.y s22.staged)) = (s22.staged.length * 1))))) (ac (pq (p := Pl false ((List.map AV.y s22.staged)))) an)))))))))))))))))))))))))))))))))))))))) tq) fun h21 h21p => tbE (fun h22 h22p => x5 fun s23 h23 => by intro e; injection e with e; subst e; exact x0 z9 (k := 300) (r := []) (hs := hz [(5, [.fc]), (1, [.fres (.i (s0))]), (2, [.no]), (1, [.fc]), (1, [.fres (.b (s2))]), (2, [.no]), (1, [.fc]), (1, [.fres (Sa.av (s4))]), (2, [.fc]), (17, [.no, .no, .no, .no, .no, .no, .no, .yes]), (1, [.fc]), (11, [.fres (exs (s13))]), (4, [.head (z21 s c s0 s2 s4 s13 s14)]), (1, [.no]), (12, [.yes, .yes, .yes, .yes, .fres (.tu [exs (s18.1), .i (s18.2)])]), (5, [.yes]), (2, [.yes]), (5, [.fc]), (5, [.no]), (2, [.fc]), (13, [.yes, .no]), (8, [.no]), (1, [.no]), (1, [.no]), (1, [.no]), (2, [.no]), (1, [.no]), (1, [.yes]), (8, [.yes]), (4, [.fc]), (1, [.fres (Sa.av (s23))]), (2, [.fc]), (2, [.fc, .yes, .yes, .yes, .yes, .yes, .yes])]) (raw := (AV.tu [(AV.ag [(AV.i s23.blocks), (AV.i s23.gen), (exs s23.map), (AV.sl s23.points.length (s23.points.flatMap Po.cells)), (AV.i s23.last), (bys s23.staged)]), (AV.i 113)])) kq (ac (g0 (s) _ h0).any0 (ac h1 (ac (d9 (c) _ h2).any0 (ac h3 (ac (t4 (s) _ h4) (ac h5 (ac h6 (ac h7 (ac h8 (ac h9 (ac h10 (ac h11 (ac h12 (ac (z04 (c.list) _ h13) (ac (show x6 Try.prog cf (lp Try.prog 97 0) (z8a s c s0 s2 s4 s13) (z21 s c s0 s2 s4 s13 s14) from (x6.of (z6z s c s0 s2 s4 s13) (x3 [] [] kq (.consn kq (.pt rfl) (.consn kq (.eqv tq rfl) (.consn kq (.eqv tq rfl) (.consn kq (.rf rfl) (.consn kq (.eqv tq rfl) (.consn kq (.eqv tq rfl) .nil)))))) (.cons (.old rfl rfl (.cells (.pl tq pq))) (.cons (.old rfl rfl (.cells (.pl rfl pq))) (.cons (.old rfl rfl (.cells (.cons (.eqv tq rfl) (.cons (.eqv tq rfl) (.cons (.rf rfl) (.cons (.rf rfl) (.cons (.eqv tq rfl) (.cons (.rf rfl) .nil)))))))) (.cons (.old rfl rfl (.cells (.pl rfl (by simp)))) (.cons (.old rfl rfl (.cells (.pl rfl (by simp)))) (.cons (.old rfl rfl (.cells (.pl rfl (by simp)))) (.cons (.old rfl rfl (.cells (.cons (.eqv tq rfl) (.cons (.eqv tq rfl) (.cons .nl0 (.cons .nl0 (.cons (.eqv tq rfl) (.cons .nl0 .nil)))))))) (.cons (.old rfl rfl (.cells (.pl rfl pq))) (.cons (.old rfl rfl (.cells (.pl rfl pq))) .nil)))))))))) h14)) (ac h15 (ac h16 (ac (pq (p := Pl false ((s4.map.flatMap Ex.cells)))) (ac h17 (ac (pq (p := Pl false ((s14.2.flatMap Ex.cells)))) (ac (show z08 Try.prog cf false 105 [(AV.i s4.blocks), (exs s4.map), (AV.sl s13.length (s14.2.flatMap Ex.cells))] (.tu [exs (s18.1), .i (s18.2)]) from ((z3u (s4.blocks) (s4.map) (s14.2) _ h18).cast tq)) (ac (show z8 (rg Try.prog 97 0) = true ∧ x7 (Region.before (rg Try.prog 97 0)) [] 0 [(some [], some []), (some [], some []), (some [], some []), (some [6], some []), (some [], some []), (some [], some []), (some [], some []), (some [6], some []), (some [], some []), (some [3, 9], some [3, 9]), (some [], some []), (some [], some []), (some [], some []), (some [], some []), (some [], some [])] = true from (y9 z2k z2m kq)) (ac h19 (ac (congrArg not h19) (ac (show z8 (rg Try.prog 78 0) = true ∧ x7 (Region.before (rg Try.prog 78 0)) [] 0 [(some [], some []), (some [10], some []), (some [], some []), (some [], some []), (some [], some []), (some [6], some []), (some [], some []), (some [], some [])] = true from (y9 z4q z4k kq)) (ac h20 (ac h21 (ac h21 (ac h21 (ac h21 (ac h21 (ac h21 (ac h22 (ac (show z8 (rg Try.prog 29 0) = true ∧ x7 (Region.before (rg Try.prog 29 0)) [] 0 [(some [], some [7]), (some [], some []), (some [1], some []), (some [7], some []), (some [1], some []), (none, none), (some [], some [])] = true from (y9 z0b z0d kq)) (ac (t4 (s) _ h23) (ac (fq (p := (((0 : Nat) = (0 : Nat)) ∧ ((List.length (s23.map.flatMap Ex.cells)) = (s23.map.length * 5))))) (ac (pq (p := Pl false ((s23.map.flatMap Ex.cells)))) (ac (fq (p := (((0 : Nat) = (0 : Nat)) ∧ ((List.length (s23.points.flatMap Po.cells)) = (s23.points.length * 3))))) (ac (pq (p := Pl false ((s23.points.flatMap Po.cells)))) (ac (tq (p := (((0 : Nat) = (0 : Nat)) ∧ ((List.length (List.map AV.y s23.staged)) = (s23.staged.length * 1))))) (ac (pq (p := Pl false ((List.map AV.y s23.staged)))) an))))))))))))))))))))))))))))))))))))))))) tq) fun h22 h22p => x5 fun s23 h23 => x8 fun h24 => x8 fun h25 => by intro e; injection e with e; subst e; exact x0 z9 (k := 300) (r := []) (hs := hz [(5, [.fc]), (1, [.fres (.i (s0))]), (2, [.no]), (1, [.fc]), (1, [.fres (.b (s2))]), (2, [.no]), (1, [.fc]), (1, [.fres (Sa.av (s4))]), (2, [.fc]), (17, [.no, .no, .no, .no, .no, .no, .no, .yes]), (1, [.fc]), (11, [.fres (exs (s13))]), (4, [.head (z21 s c s0 s2 s4 s13 s14)]), (1, [.no]), (12, [.yes, .yes, .yes, .yes, .fres (.tu [exs (s18.1), .i (s18.2)])]), (5, [.yes]), (2, [.yes]), (5, [.fc]), (5, [.no]), (2, [.fc]), (13, [.yes, .no]), (8, [.no]), (1, [.no]), (1, [.no]), (1, [.no]), (2, [.no]), (1, [.no]), (1, [.no]), (20, [.fres (exs (s23))]), (2, [.fc, .fc, .yes, .yes]), (3, [.fc, .yes]), (7, [.fc]), (9, [.fc]), (7, [.fc]), (7, [.fc]), (3, [.yes]), (4, [.fc]), (1, [.fc]), (2, [.fc, .yes, .cellsb ((s4.points.flatMap Po.cells) ++ [(AV.i c.id), (AV.i s4.gen), (AV.sl s23.length (List.take (s23.length * 5) (s23.flatMap Ex.cells)))]) [11]])]) (raw := (AV.tu [(AV.ag [(AV.i s4.blocks), (AV.i (wr (s4.gen + (1 : Int)))), (exs s18.1), (AV.sl (s4.points.length + (1 : Nat)) ((s4.points.flatMap Po.cells) ++ [(AV.i c.id), (AV.i s4.gen), (AV.sl s23.length (List.take (s23.length * 5) (s23.flatMap Ex.cells)))])), (AV.i c.id), (AV.sl 0 ([] : List AV))]), (AV.i 0)])) kq (ac (g0 (s) _ h0).any0 (ac h1 (ac (d9 (c) _ h2).any0 (ac h3 (ac (t4 (s) _ h4) (ac h5 (ac h6 (ac h7 (ac h8 (ac h9 (ac h10 (ac h11 (ac h12 (ac (z04 (c.list) _ h13) (ac (show x6 Try.prog cf (lp Try.prog 97 0) (z8a s c s0 s2 s4 s13) (z21 s c s0 s2 s4 s13 s14) from (x6.of (z6z s c s0 s2 s4 s13) (x3 [] [] kq (.consn kq (.pt rfl) (.consn kq (.eqv tq rfl) (.consn kq (.eqv tq rfl) (.consn kq (.rf rfl) (.consn kq (.eqv tq rfl) (.consn kq (.eqv tq rfl) .nil)))))) (.cons (.old rfl rfl (.cells (.pl tq pq))) (.cons (.old rfl rfl (.cells (.pl rfl pq))) (.cons (.old rfl rfl (.cells (.cons (.eqv tq rfl) (.cons (.eqv tq rfl) (.cons (.rf rfl) (.cons (.rf rfl) (.cons (.eqv tq rfl) (.cons (.rf rfl) .nil)))))))) (.cons (.old rfl rfl (.cells (.pl rfl (by simp)))) (.cons (.old rfl rfl (.cells (.pl rfl (by simp)))) (.cons (.old rfl rfl (.cells (.pl rfl (by simp)))) (.cons (.old rfl rfl (.cells (.cons (.eqv tq rfl) (.cons (.eqv tq rfl) (.cons .nl0 (.cons .nl0 (.cons (.eqv tq rfl) (.cons .nl0 .nil)))))))) (.cons (.old rfl rfl (.cells (.pl rfl pq))) (.cons (.old rfl rfl (.cells (.pl rfl pq))) .nil)))))))))) h14)) (ac h15 (ac h16 (ac (pq (p := Pl false ((s4.map.flatMap Ex.cells)))) (ac h17 (ac (pq (p := Pl false ((s14.2.flatMap Ex.cells)))) (ac (show z08 Try.prog cf false 105 [(AV.i s4.blocks), (exs s4.map), (AV.sl s13.length (s14.2.flatMap Ex.cells))] (.tu [exs (s18.1), .i (s18.2)]) from ((z3u (s4.blocks) (s4.map) (s14.2) _ h18).cast tq)) (ac (show z8 (rg Try.prog 97 0) = true ∧ x7 (Region.before (rg Try.prog 97 0)) [] 0 [(some [], some []), (some [], some []), (some [], some []), (some [6], some []), (some [], some []), (some [], some []), (some [], some []), (some [6], some []), (some [], some []), (some [3, 9], some [3, 9]), (some [], some []), (some [], some []), (some [], some []), (some [], some []), (some [], some [])] = true from (y9 z2k z2m kq)) (ac h19 (ac (congrArg not h19) (ac (show z8 (rg Try.prog 78 0) = true ∧ x7 (Region.before (rg Try.prog 78 0)) [] 0 [(some [], some []), (some [10], some []), (some [], some []), (some [], some []), (some [], some []), (some [6], some []), (some [], some []), (some [], some [])] = true from (y9 z4q z4k kq)) (ac h20 (ac h21 (ac h21 (ac h21 (ac h21 (ac h21 (ac h21 (ac h22 (ac (z04 (s18.1) _ h23) (ac (tq (p := (((0 : Nat) = (0 : Nat)) ∧ ((List.length [(AV.i c.id), (AV.i s4.gen), (AV.rf 11 5 0 s23.length)]) = (3 : Nat))))) (ac h24 (ac (show z8 (rg Try.prog 78 1) = true ∧ x7 (Region.before (rg Try.prog 78 1)) [] 0 [(some [], some []), (some [], some []), (some [], some []), (some [], some []), (some [6], some []), (some [], some []), (some [10], some []), (some [], some []), (some [], some []), (some [], some []), (some [6], some []), (some [], some []), (some [], some []), (some [], some []), (some [6], some []), (some [], some [11]), (some [], some []), (some [], some [12]), (some [4, 12], some [4, 13]), (some [], some []), (some [], some []), (some [6], some [6])] = true from (y9 zku zla kq)) (ac (show z8 (rg Try.prog 29 0) = true ∧ x7 (Region.before (rg Try.prog 29 0)) [] 0 [(some [], some [7]), (some [], some []), (some [1], some []), (some [7], some []), (some [1], some []), (none, none), (some [], some [])] = true from (y9 z0b z0d kq)) (ac h25 (ac (show z03 (t5 (AH.mk 15 [(14, (AObj.cells [(AV.i c.kind), (AV.i c.lba), (AV.i c.n), (AV.i c.id), (bys c.d), (exs c.list)])), (13, (AObj.cells ((s4.points.flatMap Po.cells) ++ [(AV.i c.id), (AV.i s4.gen), (AV.rf 11 5 0 s23.length)]))), (12, (AObj.cells [(AV.i c.id), (AV.i s4.gen), (AV.rf 11 5 0 s23.length)])), (11, (AObj.cells (s23.flatMap Ex.cells))), (10, (AObj.cells [(AV.i c.kind), (AV.i c.lba), (AV.i c.n), (AV.i c.id), (bys c.d), (exs c.list)])), (9, (AObj.ro (s14.2.flatMap Ex.cells))), (8, (AObj.cells [(AV.i c.kind), (AV.i c.lba), (AV.i c.n), (AV.i c.id), (bys c.d), (exs c.list)])), (6, (AObj.cells [(AV.i s4.blocks), (AV.i (wr (s4.gen + (1 : Int)))), (exs s18.1), (AV.rf 13 3 0 (s4.points.length + (1 : Nat))), (AV.i c.id), AV.nl])), (5, (AObj.cells (List.map AV.y s4.staged))), (4, AObj.dead), (3, (AObj.ro (s4.map.flatMap Ex.cells))), (2, (AObj.cells [(AV.i s4.blocks), (AV.i (wr (s4.gen + (1 : Int)))), (exs s18.1), (AV.rf 13 3 0 (s4.points.length + (1 : Nat))), (AV.i c.id), AV.nl])), (1, (AObj.cells [(AV.i c.kind), (AV.i c.lba), (AV.i c.n), (AV.i c.id), (bys c.d), (exs c.list)])), (0, (AObj.cells [(AV.i s.blocks), (AV.i s.gen), (exs s.map), (AV.sl s.points.length (s.points.flatMap Po.cells)), (AV.i s.last), (bys s.staged)]))]) false 9) ((s4.points.flatMap Po.cells) ++ [(AV.i c.id), (AV.i s4.gen), (AV.rf 11 5 0 s23.length)]) = some (((s4.points.flatMap Po.cells) ++ [(AV.i c.id), (AV.i s4.gen), (AV.sl s23.length (List.take (s23.length * 5) (s23.flatMap Ex.cells)))]), [11]) from (zbi (x := []) (y := [11]) (z4e _ _ _ _ pq) (z41 (x := []) (y := [11]) (z46 rfl) (z41 (x := []) (y := [11]) (z46 rfl) (z41 (x := [11]) (y := []) (zka (cs := (s23.flatMap Ex.cells)) rfl tq pq) rfl))))) an)))))))))))))))))))))))))))))))))))))))) tq) fun h19 h19p => x5 fun s20 h20 => by intro e; injection e with e; subst e; exact x0 z9 (k := 300) (r := []) (hs := hz [(5, [.fc]), (1, [.fres (.i (s0))]), (2, [.no]), (1, [.fc]), (1, [.fres (.b (s2))]), (2, [.no]), (1, [.fc]), (1, [.fres (Sa.av (s4))]), (2, [.fc]), (17, [.no, .no, .no, .no, .no, .no, .no, .yes]), (1, [.fc]), (11, [.fres (exs (s13))]), (4, [.head (z21 s c s0 s2 s4 s13 s14)]), (1, [.no]), (12, [.yes, .yes, .yes, .yes, .fres (.tu [exs (s18.1), .i (s18.2)])]), (5, [.yes]), (2, [.no]), (5, [.yes]), (3, [.yes]), (2, [.yes]), (1, [.fc]), (1, [.fres (Sa.av (s20))]), (2, [.fc]), (2, [.fc, .yes, .yes, .yes, .yes, .yes, .yes])]) (raw := (AV.tu [(AV.ag [(AV.i s20.blocks), (AV.i s20.gen), (exs s20.map), (AV.sl s20.points.length (s20.points.flatMap Po.cells)), (AV.i s20.last), (bys s20.staged)]), (AV.i s18.2)])) kq (ac (g0 (s) _ h0).any0 (ac h1 (ac (d9 (c) _ h2).any0 (ac h3 (ac (t4 (s) _ h4) (ac h5 (ac h6 (ac h7 (ac h8 (ac h9 (ac h10 (ac h11 (ac h12 (ac (z04 (c.list) _ h13) (ac (show x6 Try.prog cf (lp Try.prog 97 0) (z8a s c s0 s2 s4 s13) (z21 s c s0 s2 s4 s13 s14) from (x6.of (z6z s c s0 s2 s4 s13) (x3 [] [] kq (.consn kq (.pt rfl) (.consn kq (.eqv tq rfl) (.consn kq (.eqv tq rfl) (.consn kq (.rf rfl) (.consn kq (.eqv tq rfl) (.consn kq (.eqv tq rfl) .nil)))))) (.cons (.old rfl rfl (.cells (.pl tq pq))) (.cons (.old rfl rfl (.cells (.pl rfl pq))) (.cons (.old rfl rfl (.cells (.cons (.eqv tq rfl) (.cons (.eqv tq rfl) (.cons (.rf rfl) (.cons (.rf rfl) (.cons (.eqv tq rfl) (.cons (.rf rfl) .nil)))))))) (.cons (.old rfl rfl (.cells (.pl rfl (by simp)))) (.cons (.old rfl rfl (.cells (.pl rfl (by simp)))) (.cons (.old rfl rfl (.cells (.pl rfl (by simp)))) (.cons (.old rfl rfl (.cells (.cons (.eqv tq rfl) (.cons (.eqv tq rfl) (.cons .nl0 (.cons .nl0 (.cons (.eqv tq rfl) (.cons .nl0 .nil)))))))) (.cons (.old rfl rfl (.cells (.pl rfl pq))) (.cons (.old rfl rfl (.cells (.pl rfl pq))) .nil)))))))))) h14)) (ac h15 (ac h16 (ac (pq (p := Pl false ((s4.map.flatMap Ex.cells)))) (ac h17 (ac (pq (p := Pl false ((s14.2.flatMap Ex.cells)))) (ac (show z08 Try.prog cf false 105 [(AV.i s4.blocks), (exs s4.map), (AV.sl s13.length (s14.2.flatMap Ex.cells))] (.tu [exs (s18.1), .i (s18.2)]) from ((z3u (s4.blocks) (s4.map) (s14.2) _ h18).cast tq)) (ac (show z8 (rg Try.prog 97 0) = true ∧ x7 (Region.before (rg Try.prog 97 0)) [] 0 [(some [], some []), (some [], some []), (some [], some []), (some [6], some []), (some [], some []), (some [], some []), (some [], some []), (some [6], some []), (some [], some []), (some [3, 9], some [3, 9]), (some [], some []), (some [], some []), (some [], some []), (some [], some []), (some [], some [])] = true from (y9 z2k z2m kq)) (ac h19 (ac (congrArg not h19) (ac (show z8 (rg Try.prog 29 0) = true ∧ x7 (Region.before (rg Try.prog 29 0)) [] 0 [(some [], some [7]), (some [], some []), (some [1], some []), (some [7], some []), (some [1], some []), (none, none), (some [], some [])] = true from (y9 z0b z0d kq)) (ac (congrArg not h19) (ac (t4 (s) _ h20) (ac (fq (p := (((0 : Nat) = (0 : Nat)) ∧ ((List.length (s20.map.flatMap Ex.cells)) = (s20.map.length * 5))))) (ac (pq (p := Pl false ((s20.map.flatMap Ex.cells)))) (ac (fq (p := (((0 : Nat) = (0 : Nat)) ∧ ((List.length (s20.points.flatMap Po.cells)) = (s20.points.length * 3))))) (ac (pq (p := Pl false ((s20.points.flatMap Po.cells)))) (ac (tq (p := (((0 : Nat) = (0 : Nat)) ∧ ((List.length (List.map AV.y s20.staged)) = (s20.staged.length * 1))))) (ac (pq (p := Pl false ((List.map AV.y s20.staged)))) an))))))))))))))))))))))))))))))))) tq) fun h12 h12p => w6
end Ab
end Go.Proofs.Ytimcbhhebnikiaa
namespace Go.Proofs.Ytimcbhhebnikiaa
open Go Go.Proofs.Ytimcbhhebnikiaa.Ab
set_option linter.unusedVariables false
set_option linter.unusedSimpArgs false
namespace Ab
theorem zp2 {x : Ex} (h : Ck x) : zdo x = some (eb x) := by
  unfold zdo eb
  have hc := h
  unfold Ck at hc
  have w1 : wr (x.len * 32) = 32 * x.len := by rw [j9 (by omega) (by omega)]; omega
  rw [z3c, x9, ze9 h, w1]
  simp only [Bool.not_true, z9a]
  rw [x4 (by first | exact ⟨rfl, by omega, by omega⟩ | exact ⟨trivial, by omega, by omega⟩)]
  by_cases hk : x.kind = 2
  · have hl := hc.2.2.2.2.2.2.2.2.1 hk
    rw [if_pos hk, List.take_zero, List.nil_append, Nat.mul_one, show min x.d.length (32 * x.len).toNat = x.d.length by omega, List.take_length, List.take_of_length_le (by simp), List.length_map, List.drop_of_length_le (by rw [List.length_replicate]; omega), List.append_nil]
  · have hl := hc.2.2.2.2.2.2.2.2.2 hk
    rw [if_neg hk, hl]
    simp
def ofS (blocks : Int) (m : List Ex) : List Ce × Int := if Mk blocks m then (z00 m, 0) else ([], 80)
theorem zlx (x : Ex) (h : Ck x) : ∀ k, k ≤ x.len.toNat → (xcs x).take k = (List.range k).map fun k => (⟨x.kind, x.gen, pad 32 ((eb x).drop (32 * k))⟩ : Ce) := by
  intro k hk
  unfold xcs
  rw [← List.map_take, List.take_range, Nat.min_eq_left hk]
theorem zjd (m : List Ex) (i : Nat) (hi : i < m.length) : z00 (m.take (i + 1)) = z00 (m.take i) ++ xcs (z7 m i) := by
  have e : m.take (i + 1) = m.take i ++ [z7 m i] := zam _ m i hi
  rw [e]; simp [z00]
theorem zql {blocks : Int} {m : List Ex} (h : Mk blocks m) (i : Nat) : (z00 (m.take i)).length ≤ 64 := by
  have h1 := (z43 h).2.1
  have hb := z6m h
  have e : z00 m = z00 (m.take i) ++ z00 (m.drop i) := by unfold z00; rw [← List.flatMap_append, List.take_append_drop]
  rw [e, List.length_append] at h1
  omega
theorem mk_at {blocks : Int} {m : List Ex} (h : Mk blocks m) {i : Nat} (hi : i < m.length) : Ck (z7 m i) := (h.2.1 i hi).1
theorem ofL {α : Type} (x : Ex) (out : List Ce) (hx : Ck x) (ho : out.length ≤ 100) (step : List Ce × List UInt8 → Option (List Ce × List UInt8)) (f : List Ce × List UInt8 → Option α)
    (hs : ∀ (o : List Ce) (b : List UInt8), o.length ≤ 1000 → 32 ≤ b.length → b.length ≤ 100000 → step (o, b) = some (o ++ [⟨x.kind, x.gen, pad 32 b⟩], b.drop 32)) (he : ∀ o, step (o, []) = none) :
    th step (out, eb x) f = f (out ++ xcs x, []) := by
  have hl := zwp hx
  have hc := hx
  unfold Ck at hc
  rw [zgl (S := fun k => (out ++ (xcs x).take k, (eb x).drop (32 * k))) (k := x.len.toNat) (by simp) ?_ ?_]
  · rw [List.take_of_length_le (by rw [z8m]; exact Nat.le_refl _), List.drop_of_length_le (by omega)]
  · intro k hk
    rw [hs _ _ (by rw [List.length_append, List.length_take, z8m]; omega) (by rw [List.length_drop]; omega) (by rw [List.length_drop]; omega), List.drop_drop, show 32 * k + 32 = 32 * (k + 1) by omega]
    have e : (xcs x).take (k + 1) = (xcs x).take k ++ [⟨x.kind, x.gen, pad 32 ((eb x).drop (32 * k))⟩] := by
      rw [zlx x hx _ (by omega), zlx x hx _ (by omega), List.range_succ, List.map_append]; rfl
    rw [e, List.append_assoc]
  · rw [List.drop_of_length_le (by omega)]
    exact he _
theorem zqr (blocks : Int) (m : List Ex) (hm : m.length ≤ 4294967296) : iOf blocks m = some (ofS blocks m) := by
  unfold iOf ofS
  rw [z8l blocks m (by omega), x9, z0y]
  by_cases h : Mk blocks m
  case neg => rw [zph h, z9a, if_neg h]
  rw [zse h, z7m, if_pos h]
  have hlen := z6b h
  rw [zgl (S := fun i => (z00 (m.take i), (i : Int))) (k := m.length) (by simp [z00]) ?_ ?_]
  · simp only [w9]
    rw [if_neg (by omega), List.take_length, x4 (by rw [z0z]; simp)]
  · intro i hi
    have hck := mk_at h hi
    have hle := zql h i
    unfold z4o
    simp only [w9, Int.toNat_natCast]
    rw [if_pos (by omega), x4 (by omega), zp2 hck, x9, ofL (z7 m i) _ hck (by omega) _ _ ?_ ?_]
    · simp only [List.length_nil]
      rw [if_neg (by simp), zjd m i hi, j9 (by omega) (by omega)]; rfl
    · intro o b ho hb1 hb2
      unfold z4t
      simp only [w9, Int.toNat_natCast]
      rw [if_pos (by omega), x4 (by refine ⟨by omega, hb1, by simp⟩), x4 (by rw [z0z]; omega), List.take_of_length_le (by rw [List.length_drop]; omega)]
    · intro o
      unfold z4t
      simp only [w9, List.length_nil]
      rw [if_neg (by simp)]
  · unfold z4o
    simp only [w9]
    rw [if_neg (by omega)]
end Ab
end Go.Proofs.Ytimcbhhebnikiaa
namespace Go.Proofs.Ytimcbhhebnikiaa
open Go Go.Proofs.Ytimcbhhebnikiaa.Ab
set_option linter.unusedVariables false
set_option linter.unusedSimpArgs false
namespace Ab
def z9n (l : List Ce) (s : Nat) (f : Nat → Ce) : Nat → List Ce
  | 0 => l
  | i + 1 => (z9n l s f i).set (s + i) (f i)
theorem z6o (l : List Ce) (s : Nat) (f : Nat → Ce) : ∀ i, (z9n l s f i).length = l.length
  | 0 => rfl
  | i + 1 => by rw [z9n, List.length_set, z6o l s f i]
theorem za5 (l : List Ce) (s : Nat) (f : Nat → Ce) : ∀ n, s + n ≤ l.length → ∀ j, (z9n l s f n)[j]? = if s ≤ j ∧ j < s + n then some (f (j - s)) else l[j]?
  | 0, _, j => by rw [z9n, if_neg (by omega)]
  | n + 1, h, j => by
    rw [z9n, List.getElem?_set, za5 l s f n (by omega) j, z6o]
    by_cases h1 : s + n = j
    · subst h1
      rw [if_pos rfl, if_pos (by omega), if_pos (by omega)]
      congr 2; omega
    · rw [if_neg h1]
      by_cases h2 : s ≤ j ∧ j < s + n
      · rw [if_pos h2, if_pos (by omega)]
      · rw [if_neg h2, if_neg (by omega)]
def z32 : List UInt8 := List.replicate 32 0
def zmu (kind gen : Int) : Nat → Ce := fun _ => ⟨kind, gen, z32⟩
def zok (l : List Ce) (lba n kind gen : Int) : List Ce × Int :=
  if CkI l then (if zq0 l lba n ∧ (0 ≤ kind ∧ kind ≤ 1) ∧ (0 ≤ gen ∧ gen ≤ 2147483647) then (z9n l lba.toNat (zmu kind gen) n.toNat, 0) else (l, 81)) else ([], 90)
theorem zjr (l : List Ce) (lba n kind gen : Int) (hl : l.length ≤ 4294967296) : zfy l lba n kind gen = some (zok l lba n kind gen) := by
  unfold zfy zok
  simp only [z5k, zg9 l hl, x9, z0y, w9, z0z]
  have p1 : l.length * 34 = l.length * 34 := rfl
  by_cases hc : CkI l
  case neg =>
    by_cases hk : 0 ≤ kind ∧ kind ≤ 1
    · simp only [if_pos hk, if_neg hc]
    · simp only [if_neg hk, if_neg hc]
  have h64 := hc.2.1
  simp only [if_pos hc]
  by_cases hk : 0 ≤ kind ∧ kind ≤ 1
  case neg =>
    rw [if_neg hk, if_neg fun q => hk q.2.1, x4 (by first | rfl | trivial), x4 (by omega), x4 (by simp)]
  rw [if_pos hk, x4 (by first | rfl | trivial), x4 (by omega)]
  by_cases hg : 0 ≤ gen ∧ gen ≤ 2147483647
  case neg => rw [if_neg hg, if_neg fun q => hg q.2.2, x4 (by simp)]
  rw [if_pos hg]
  by_cases h1 : 0 ≤ lba ∧ lba ≤ l.length
  case neg => rw [if_neg h1, if_neg fun q => h1 ⟨q.1.1, q.1.2.1⟩, x4 (by simp)]
  rw [if_pos h1, j9 (x := (l.length : Int) - lba) (by omega) (by omega)]
  by_cases h2 : 1 ≤ n ∧ n ≤ l.length - lba
  case neg => rw [if_neg h2, if_neg fun q => h2 q.1.2.2, x4 (by simp)]
  rw [if_pos h2, if_pos ⟨⟨h1.1, h1.2, h2.1, h2.2⟩, hk, hg⟩]
  have := z29 (step := z24 l lba n kind gen true true true true true) (f := fun s12 => if s12.1 < n then none else tp (0 = 0 ∧ s12.2.length * 34 = l.length * 34) (some (s12.2, (0 : Int)))) (fun i => ((i : Int), z9n l lba.toNat (zmu kind gen) i)) n.toNat ?_ ?_
  · simp only [Int.natCast_zero, z9n] at this
    rw [decide_eq_true hk, decide_eq_true hg, decide_eq_true hc, decide_eq_true h1, decide_eq_true h2, this, if_neg (by omega), x4 (by simp [z6o])]
  · intro i hi
    unfold z24
    simp only [w9, z0z, z6o, u8z]
    rw [j9 (x := lba + (i : Int)) (by omega) (by omega), j9 (x := (i : Int) + 1) (by omega) (by omega), if_pos (by omega), x4 (by omega), x4 (by constructor <;> simp <;> omega)]
    have e1 : (lba + (i : Int)).toNat = lba.toNat + i := by omega
    rw [e1]
    rfl
  · unfold z24
    simp only [w9]
    rw [if_neg (by omega)]
def wrF (gen : Int) (b : List UInt8) : Nat → Ce := fun i => ⟨2, gen, pad 32 (b.drop (32 * i))⟩
def zih (l : List Ce) (lba gen : Int) (b : List UInt8) : List Ce × Int :=
  if CkI l then (if zq0 l lba (b.length / 32 : Nat) ∧ b.length % 32 = 0 ∧ (0 ≤ gen ∧ gen ≤ 2147483647) then (z9n l lba.toNat (wrF gen b) (b.length / 32), 0) else (l, 81)) else ([], 90)
theorem zvk (b : List UInt8) (hb : b.length ≤ 4294967296) : wr (Int.tdiv (b.length : Int) 32) = ((b.length / 32 : Nat) : Int) := by
  have e : Int.tdiv (b.length : Int) 32 = ((b.length / 32 : Nat) : Int) := by
    rw [Int.tdiv_eq_ediv_of_nonneg (by omega)]; omega
  rw [e, j9 (by omega) (by omega)]
theorem zqg (l : List Ce) (lba gen : Int) (b : List UInt8) (hl : l.length ≤ 4294967296) (hb : b.length ≤ 4294967296) : zen l lba gen b = some (zih l lba gen b) := by
  unfold zen zih
  have hd := zvk b hb
  have w0 : wr (((b.length / 32 : Nat) : Int) * 32) = ((b.length / 32 : Nat) : Int) * 32 := j9 (by omega) (by omega)
  simp only [z5k, zg9 l hl, x9, z0y, w9, z2w, z0z, hd, w0]
  by_cases hc : CkI l
  case neg =>
    by_cases hm : ((b.length / 32 : Nat) : Int) * 32 = b.length
    · simp only [if_pos hm, if_neg hc]
    · simp only [if_neg hm, if_neg hc]
  have h64 := hc.2.1
  simp only [if_pos hc]
  by_cases hm : ((b.length / 32 : Nat) : Int) * 32 = b.length
  case neg => rw [if_neg hm, if_neg (by omega), x4 (by first | rfl | trivial), x4 (by omega), x4 (by simp)]
  rw [if_pos hm, x4 (by first | rfl | trivial), x4 (by omega)]
  by_cases hg : 0 ≤ gen ∧ gen ≤ 2147483647
  case neg => rw [if_neg hg, if_neg fun q => hg q.2.2, x4 (by simp)]
  rw [if_pos hg]
  by_cases h1 : 0 ≤ lba ∧ lba ≤ l.length
  case neg => rw [if_neg h1, if_neg fun q => h1 ⟨q.1.1, q.1.2.1⟩, x4 (by simp)]
  rw [if_pos h1, j9 (x := (l.length : Int) - lba) (by omega) (by omega)]
  by_cases h2 : 1 ≤ ((b.length / 32 : Nat) : Int) ∧ ((b.length / 32 : Nat) : Int) ≤ l.length - lba
  case neg => rw [if_neg h2, if_neg fun q => h2 q.1.2.2, x4 (by simp)]
  rw [if_pos h2, if_pos ⟨⟨h1.1, h1.2, h2.1, h2.2⟩, by omega, hg⟩]
  have := z29 (step := z1k l lba gen b true true true true) (f := fun s11 => if s11.1 < ((b.length / 32 : Nat) : Int) then none else tp (0 = 0 ∧ s11.2.length * 34 = l.length * 34) (some (s11.2, (0 : Int)))) (fun i => ((i : Int), z9n l lba.toNat (wrF gen b) i)) (b.length / 32) ?_ ?_
  · simp only [Int.natCast_zero, z9n] at this
    rw [decide_eq_true hg, decide_eq_true hc, decide_eq_true h1, decide_eq_true h2, this, if_neg (by omega), x4 (by simp [z6o])]
  · intro i hi
    unfold z1k
    have w1 : wr ((i : Int) * 32) = (i : Int) * 32 := j9 (by omega) (by omega)
    have e2 : ((i : Int) * 32).toNat = 32 * i := by omega
    simp only [w9, z0z, z6o, hd, w1, e2]
    rw [j9 (x := lba + (i : Int)) (by omega) (by omega), j9 (x := (i : Int) + 1) (by omega) (by omega), if_pos (by omega), x4 (by omega), x4 (by refine ⟨by omega, by omega, by simp⟩), x4 (by omega), x4 (by constructor <;> simp <;> omega)]
    have e1 : (lba + (i : Int)).toNat = lba.toNat + i := by omega
    have e3 : List.take ((b.length - 32 * i) * 1) (List.drop (32 * i * 1) b) = b.drop (32 * i) := by
      rw [Nat.mul_one, Nat.mul_one, List.take_of_length_le (by rw [List.length_drop]; omega)]
    rw [e1, e3]
    rfl
  · unfold z1k
    simp only [w9, hd]
    rw [if_neg (by omega)]
def part (d : List UInt8) (k : Nat) : List UInt8 := (pad 32 d).take k ++ List.replicate (32 - k) 0
end Ab
end Go.Proofs.Ytimcbhhebnikiaa
namespace Go.Proofs.Ytimcbhhebnikiaa
open Go Go.Proofs.Ytimcbhhebnikiaa.Ab
set_option linter.unusedVariables false
set_option linter.unusedSimpArgs false
namespace Ab
def c0 : Ce := ⟨0, 0, List.replicate 32 0⟩
end Ab
end Go.Proofs.Ytimcbhhebnikiaa
namespace Go.Proofs.Ytimcbhhebnikiaa
open Go Go.Proofs.Ytimcbhhebnikiaa.Ab
set_option linter.unusedVariables false
set_option linter.unusedSimpArgs false
namespace Ab
def Ag (x y : Ex) : Prop := ∀ k, x.lba ≤ k → k < x.lba + x.len → y.lba ≤ k → k < y.lba + y.len → bAt x k = bAt y k
def Kp (was l : List Ex) (gen : Int) : Prop := ∀ x ∈ l, x.gen ≤ gen → ∀ y ∈ was, Ag x y
open Classical in
noncomputable def kp (was l : List Ex) (gen : Int) : Bool := decide (Kp was l gen)
open Classical in
theorem kp_t {was l : List Ex} {gen : Int} (h : Kp was l gen) : kp was l gen = true := by unfold kp; exact decide_eq_true h
open Classical in
theorem kp_f {was l : List Ex} {gen : Int} (h : ¬ Kp was l gen) : kp was l gen = false := by unfold kp; exact decide_eq_false h
theorem zwy (l : List Ex) (gen : Int) : Kp [] l gen := fun x _ _ y hy => by cases hy
theorem zvz {x y : Ex} (hx : Ck x) (h : Cu y x.lba x.len) : Cu x (cu y x.lba x.len).lba (cu y x.lba x.len).len := by
  have px := z0c hx
  have py := z0c h.1
  have h6 := h.2.2.2.2.2
  refine ⟨hx, ?_, ?_, ?_, ?_, ?_⟩ <;> simp only [cu] <;> omega
theorem zx4 {x y : Ex} (hx : Ck x) (h : Cu y x.lba x.len) : ((cu x (cu y x.lba x.len).lba (cu y x.lba x.len).len).kind = (cu y x.lba x.len).kind ∧ (cu x (cu y x.lba x.len).lba (cu y x.lba x.len).len).gen = (cu y x.lba x.len).gen ∧ (cu x (cu y x.lba x.len).lba (cu y x.lba x.len).len).d = (cu y x.lba x.len).d) ↔ Ag x y := by
  have hw := zvz hx h
  have px := z0c hx
  have py := z0c h.1
  have h6 := h.2.2.2.2.2
  have zl : (cu y x.lba x.len).lba = max y.lba x.lba := rfl
  have zn : (cu y x.lba x.len).len = min (y.lba + y.len) (x.lba + x.len) - max y.lba x.lba := rfl
  have cz := ztk h
  have bz : ∀ k, max y.lba x.lba ≤ k → k < min (y.lba + y.len) (x.lba + x.len) → bAt (cu y x.lba x.len) k = bAt y k := fun k a b => zhf h.1 a b
  generalize cu y x.lba x.len = z at hw zl zn cz bz ⊢
  have wl : (cu x z.lba z.len).lba = max x.lba z.lba := rfl
  have wn : (cu x z.lba z.len).len = min (x.lba + x.len) (z.lba + z.len) - max x.lba z.lba := rfl
  have cw := ztk hw
  have bw : ∀ k, max x.lba z.lba ≤ k → k < min (x.lba + x.len) (z.lba + z.len) → bAt (cu x z.lba z.len) k = bAt x k := fun k a b => zhf hx a b
  generalize cu x z.lba z.len = w at wl wn cw bw ⊢
  constructor
  · rintro ⟨e1, e2, e3⟩ k a b c d
    have e : w = z := by
      obtain ⟨w1, w2, w3, w4, w5⟩ := w
      obtain ⟨z1, z2, z3, z4, z5⟩ := z
      simp only at e1 e2 e3 wl wn zl zn
      subst e1; subst e2; subst e3
      congr 1 <;> omega
    rw [← bw k (by omega) (by omega), ← bz k (by omega) (by omega), e]
  · intro g
    have e : w = z := by
      refine d_ext cw cz (by omega) (by omega) fun k a b => ?_
      rw [bw k (by omega) (by omega), bz k (by omega) (by omega)]
      exact g k (by omega) (by omega) (by omega) (by omega)
    rw [e]; exact ⟨rfl, rfl, rfl⟩
theorem ag_no {x y : Ex} (hx : Ck x) (hy : Ck y) (h : ¬ Cu y x.lba x.len) : Ag x y := by
  intro k a b c d
  have px := z0c hx
  have py := z0c hy
  exact absurd ⟨hy, by omega, by omega, by omega, by omega, by omega⟩ h
open Classical in
theorem z5d {α : Type} {x y : Ex} (hx : Ck x) (hy : Ck y) (F N G : Option α) :
    tc (z7a y x.lba x.len) (fun s7 => tb (!s7.2) N (tc (z7a x s7.1.lba s7.1.len) fun s9 => tb (s9.1.kind != s7.1.kind) F (tb (s9.1.gen != s7.1.gen) F (tb (!(s9.1.d == s7.1.d)) F G))))
      = if Ag x y then (if Cu y x.lba x.len then G else N) else F := by
  rw [zho, x9]
  by_cases h : Cu y x.lba x.len
  case neg =>
    rw [zjc h, if_pos (ag_no hx hy h), if_neg h]
    simp only [Bool.not_false, z7m]
  rw [zd6 h]
  simp only [Bool.not_true, z9a]
  rw [zho, x9, zd6 (zvz hx h), if_pos h]
  simp only [z45, z0y]
  have hi := zx4 hx h
  by_cases g : Ag x y
  · obtain ⟨e1, e2, e3⟩ := hi.2 g
    rw [if_pos e1, if_pos e2, e3, if_pos g]; simp [z7m]
  · rw [if_neg g]
    by_cases e1 : (cu x (cu y x.lba x.len).lba (cu y x.lba x.len).len).kind = (cu y x.lba x.len).kind
    case neg => rw [if_neg e1]
    rw [if_pos e1]
    by_cases e2 : (cu x (cu y x.lba x.len).lba (cu y x.lba x.len).len).gen = (cu y x.lba x.len).gen
    case neg => rw [if_neg e2]
    rw [if_pos e2]
    by_cases e3 : (cu x (cu y x.lba x.len).lba (cu y x.lba x.len).len).d = (cu y x.lba x.len).d
    · exact absurd (hi.1 ⟨e1, e2, e3⟩) g
    · rw [z96 (by simpa using e3)]
open Classical in
theorem zlk (was l : List Ex) (gen : Int) (hw : ∀ x ∈ was, Ck x) (hl : ∀ x ∈ l, Ck x) (nw : was.length ≤ 9223372036854775807) (nl : l.length ≤ 9223372036854775807) : ze7 was l gen = some (kp was l gen) := by
  have hw' := (z31 was Ck).2 hw
  have hl' := (z31 l Ck).2 hl
  unfold ze7
  rw [z69 (some false) (some true) l.length (fun i => (z7 l i).gen ≤ gen → ∀ y ∈ was, Ag (z7 l i) y) (Kp was l gen) (z31 l fun x => x.gen ≤ gen → ∀ y ∈ was, Ag x y)]
  · by_cases h : Kp was l gen
    · rw [if_pos h, kp_t h]
    · rw [if_neg h, kp_f h]
  · intro i hi hp
    unfold z27
    simp only [w9, Int.toNat_natCast]
    rw [if_pos (by omega), x4 (by omega), j9 (x := (i : Int) + 1) (by omega) (by omega)]
    by_cases hg : (z7 l i).gen > gen
    · rw [if_pos hg]
    rw [if_neg hg]
    rw [z69 none (some ((i : Int) + 1)) was.length (fun j => Ag (z7 l i) (z7 was j)) (∀ y ∈ was, Ag (z7 l i) y) (z31 was fun y => Ag (z7 l i) y)]
    · rw [if_pos (hp (by omega))]
    · intro j hj hq
      unfold z0o
      simp only [w9, Int.toNat_natCast]
      rw [if_pos (by omega), x4 (by omega), j9 (x := (j : Int) + 1) (by omega) (by omega), z5d (hl' i hi) (hw' j hj), if_pos hq]
      split <;> rfl
    · intro j hj hq
      unfold z0o
      simp only [w9, Int.toNat_natCast]
      rw [if_pos (by omega), x4 (by omega), j9 (x := (j : Int) + 1) (by omega) (by omega), z5d (hl' i hi) (hw' j hj), if_neg hq, if_pos (by omega)]
      exact ⟨rfl, rfl⟩
    · unfold z0o
      simp only [w9]
      rw [if_neg (by omega), if_neg (by omega)]
      exact ⟨rfl, rfl⟩
  · intro i hi hp
    have hg : ¬ (z7 l i).gen > gen := fun g => hp fun g2 => by omega
    have hn : ¬ ∀ y ∈ was, Ag (z7 l i) y := fun g => hp fun _ => g
    constructor
    · unfold z27
      simp only [w9, Int.toNat_natCast]
      rw [if_pos (by omega), x4 (by omega), if_neg hg]
      rw [z69 none (some (wr ((i : Int) + 1))) was.length (fun j => Ag (z7 l i) (z7 was j)) (∀ y ∈ was, Ag (z7 l i) y) (z31 was fun y => Ag (z7 l i) y)]
      · rw [if_neg hn]
      · intro j hj hq
        unfold z0o
        simp only [w9, Int.toNat_natCast]
        rw [if_pos (by omega), x4 (by omega), j9 (x := (j : Int) + 1) (by omega) (by omega), z5d (hl' i hi) (hw' j hj), if_pos hq]
        split <;> rfl
      · intro j hj hq
        unfold z0o
        simp only [w9, Int.toNat_natCast]
        rw [if_pos (by omega), x4 (by omega), j9 (x := (j : Int) + 1) (by omega) (by omega), z5d (hl' i hi) (hw' j hj), if_neg hq, if_pos (by omega)]
        exact ⟨rfl, rfl⟩
      · unfold z0o
        simp only [w9]
        rw [if_neg (by omega), if_neg (by omega)]
        exact ⟨rfl, rfl⟩
    · simp only [w9, Int.toNat_natCast]
      rw [if_pos (by omega), x4 (by omega), if_neg hg]
      rw [z69 (some false) none was.length (fun j => Ag (z7 l i) (z7 was j)) (∀ y ∈ was, Ag (z7 l i) y) (z31 was fun y => Ag (z7 l i) y)]
      · rw [if_neg hn]
      · intro j hj hq
        unfold z23
        simp only [w9, Int.toNat_natCast]
        rw [if_pos (by omega), x4 (by omega), j9 (x := (j : Int) + 1) (by omega) (by omega), z5d (hl' i hi) (hw' j hj), if_pos hq]
        split <;> rfl
      · intro j hj hq
        constructor
        · unfold z23
          simp only [w9, Int.toNat_natCast]
          rw [if_pos (by omega), x4 (by omega), j9 (x := (j : Int) + 1) (by omega) (by omega), z5d (hl' i hi) (hw' j hj), if_neg hq]
        · simp only [Int.toNat_natCast]
          rw [if_pos (by omega), x4 (by omega), z5d (hl' i hi) (hw' j hj), if_neg hq]
      · unfold z23
        simp only [w9]
        rw [if_neg (by omega), if_neg (by omega)]
        exact ⟨rfl, rfl⟩
  · unfold z27
    simp only [w9]
    rw [if_neg (by omega), if_neg (by omega)]
    exact ⟨rfl, rfl⟩
end Ab
end Go.Proofs.Ytimcbhhebnikiaa
namespace Go.Proofs.Ytimcbhhebnikiaa
open Go Go.Proofs.Ytimcbhhebnikiaa.Ab
set_option linter.unusedVariables false
set_option linter.unusedSimpArgs false
namespace Ab
def Up (blocks : Int) (l : List Ex) (gen : Int) : Prop := Mk blocks l ∧ ∀ x ∈ l, x.gen ≤ gen
instance (blocks : Int) (l : List Ex) (gen : Int) : Decidable (Up blocks l gen) := by unfold Up; infer_instance
theorem zl2 (blocks : Int) (l : List Ex) (gen : Int) (nl : l.length ≤ 9223372036854775807) : zgr blocks l gen = some (decide (Up blocks l gen)) := by
  unfold zgr
  rw [z8l blocks l nl, x9]
  by_cases hm : Mk blocks l
  case neg => rw [zph hm, z9a, decide_eq_false fun h => hm h.1]
  rw [zse hm, z7m]
  rw [z69 (some false) (some true) l.length (fun i => (z7 l i).gen ≤ gen) (∀ x ∈ l, x.gen ≤ gen) (z31 l fun x => x.gen ≤ gen)]
  · by_cases h : ∀ x ∈ l, x.gen ≤ gen
    · have u : Up blocks l gen := ⟨hm, h⟩
      rw [if_pos h, decide_eq_true u]
    · rw [if_neg h, decide_eq_false fun g : Up blocks l gen => h g.2]
  · intro i hi hp
    unfold z26
    simp only [w9, Int.toNat_natCast]
    rw [if_pos (by omega), x4 (by omega), if_neg (by omega), j9 (by omega) (by omega)]
  · intro i hi hp
    unfold z26
    simp only [w9, Int.toNat_natCast]
    rw [if_pos (by omega), x4 (by omega), if_pos (by omega), if_pos (by omega), x4 (by omega), if_pos (by omega)]
    exact ⟨rfl, by rw [decide_eq_true (show (i : Int) ≥ 0 by omega)]; rfl⟩
  · unfold z26
    simp only [w9]
    rw [if_neg (by omega), if_neg (by omega)]
    exact ⟨rfl, rfl⟩
theorem zfc (n low high : Int) : z8g n low high = some (decide (low ≤ n ∧ n ≤ high)) := by
  unfold z8g
  rw [w9]
  by_cases h : n ≥ low
  · rw [if_pos h]; congr 1; rw [Bool.eq_iff_iff, decide_eq_true_iff, decide_eq_true_iff]; exact ⟨fun g => ⟨h, g⟩, fun g => g.2⟩
  · rw [if_neg h, decide_eq_false fun g => h g.1]
theorem z7y (l : List Po) (p : Po → Prop) : (∀ i, i < l.length → p (v9 l i)) ↔ ∀ x ∈ l, p x := by
  unfold v9; exact z9v _ l p
def Sx (l : List Ex) : Prop := l.length ≤ 1000 ∧ ∀ x ∈ l, x.d.length ≤ 1000000
def Sz (s : Sa) : Prop := Sx s.map ∧ s.points.length ≤ 1000 ∧ (∀ p ∈ s.points, Sx p.map) ∧ s.staged.length ≤ 1000000
def pv (s : Sa) (i : Nat) : Po := if i = 0 then ⟨0, 0, []⟩ else v9 s.points (i - 1)
theorem z1f (s : Sa) (i : Nat) : pv s (i + 1) = v9 s.points i := by simp [pv]
def PP (s : Sa) (i : Nat) : Prop :=
  Up s.blocks (v9 s.points i).map (v9 s.points i).gen ∧ (pv s i).id < (v9 s.points i).id ∧ (v9 s.points i).id ≤ s.last ∧ (pv s i).gen < (v9 s.points i).gen ∧ (v9 s.points i).gen < s.gen ∧ Kp (pv s i).map (v9 s.points i).map (pv s i).gen
def SOk (s : Sa) : Prop :=
  Up s.blocks s.map s.gen ∧ 1 ≤ s.gen ∧ s.gen ≤ 2147483647 ∧ s.points.length ≤ 4 ∧ 0 ≤ s.last ∧ s.last ≤ 2147483647 ∧ s.staged.length ≤ 4000 ∧ (∀ i, i < s.points.length → PP s i) ∧ Kp (pv s s.points.length).map s.map (pv s s.points.length).gen
open Classical in
noncomputable def st (s : Sa) : Int := if SOk s then 0 else 110
theorem st_t {s : Sa} (h : SOk s) : st s = 0 := by unfold st; rw [if_pos h]
theorem zhj {s : Sa} (h : ¬ SOk s) : st s = 110 := by unfold st; rw [if_neg h]
theorem ztp {blocks : Int} {l : List Ex} {gen : Int} (h : Up blocks l gen) : ∀ x ∈ l, Ck x := fun x hx => (zaj (z6i h.1) x hx).1
theorem zvv {s : Sa} {i : Nat} (hp : ∀ j, j < i → PP s j) : ∀ x ∈ (pv s i).map, Ck x := by
  unfold pv
  split
  · intro x hx; cases hx
  · exact ztp (hp (i - 1) (by omega)).1
def PS (s : Sa) (i : Nat) : Int × Int × Int × List Ex := ((i : Int), (pv s i).id, (pv s i).gen, (pv s i).map)
theorem zco {α : Type} (s : Sa) {step : Int × Int × Int × List Ex → Option (Int × Int × Int × List Ex)} {f : Int × Int × Int × List Ex → Option α} (n : Nat) (hs : ∀ i, i < n → step (PS s i) = some (PS s (i + 1))) (he : step (PS s n) = none) : th step (0, (0, (0, ([] : List Ex)))) f = f (PS s n) := by
  have := z29 (step := step) (f := f) (PS s) n hs he
  rwa [show PS s 0 = (0, 0, 0, []) from rfl] at this
theorem zhw (s : Sa) {α : Type} (x y : Option α) : tb (decide ((PS s s.points.length).1 < (s.points.length : Int))) x y = y := z96 (decide_eq_false (by show ¬ ((s.points.length : Int) < s.points.length); omega))
open Classical in
noncomputable def MS (s : Sa) (i : Nat) : Bool × Int × Int × Int × List Ex := (decide (s.staged.length ≤ 4000 ∧ ∀ j, j < i → PP s j), PS s i)
def Bg (s : Sa) : Prop := s.map.length ≤ 9223372036854775807 ∧ s.points.length ≤ 9223372036854775807 ∧ ∀ p ∈ s.points, p.map.length ≤ 9223372036854775807
theorem sz_bg {s : Sa} (h : Sz s) : Bg s := ⟨by have := h.1.1; omega, by have := h.2.1; omega, fun p hp => by have := (h.2.2.1 p hp).1; omega⟩
theorem zw4 {s : Sa} (h : Bg s) (i : Nat) (hi : i ≤ s.points.length) : (pv s i).map.length ≤ 9223372036854775807 := by
  unfold pv
  split
  · simp
  · exact (z7y s.points (fun p => p.map.length ≤ 9223372036854775807)).2 h.2.2 _ (by omega)
open Classical in
theorem zjx {s : Sa} (h : Bg s) (a b c : Bool) {i : Nat} (hi : i < s.points.length) : z15 s a b c (MS s i) = some (MS s (i + 1)) := by
  have hz := h.2.1
  unfold MS PS z15
  simp only [w9, Int.toNat_natCast, z1f]
  rw [if_pos (by omega), x4 (by omega), j9 (x := (i : Int) + 1) (by omega) (by omega)]
  have e1 : ((i + 1 : Nat) : Int) = (i : Int) + 1 := by omega
  rw [e1]
  have sx := (z7y s.points (fun p => p.map.length ≤ 9223372036854775807)).2 h.2.2 i hi
  have px := zw4 h i (by omega)
  have hM : ∀ p : Prop, [Decidable p] → ((s.staged.length ≤ 4000 ∧ ∀ j, j < i + 1 → PP s j) ↔ p) → decide (s.staged.length ≤ 4000 ∧ ∀ j, j < i + 1 → PP s j) = decide p := fun p _ g => by
    rw [Bool.eq_iff_iff, decide_eq_true_iff, decide_eq_true_iff]; exact g
  have no : ¬ PP s i → decide (s.staged.length ≤ 4000 ∧ ∀ j, j < i + 1 → PP s j) = false := fun g => decide_eq_false fun q => g (q.2 i (by omega))
  by_cases hm : s.staged.length ≤ 4000 ∧ ∀ j, j < i → PP s j
  case neg =>
    rw [if_neg hm, decide_eq_false fun q => hm ⟨q.1, fun j hj => q.2 j (by omega)⟩]
  rw [if_pos hm, zl2 _ _ _ sx, x9, w9]
  by_cases h1 : Up s.blocks (v9 s.points i).map (v9 s.points i).gen
  case neg => rw [if_neg h1, no fun q => h1 q.1]
  rw [if_pos h1]
  by_cases h2 : (v9 s.points i).id > (pv s i).id
  case neg => rw [if_neg h2, no fun q => h2 q.2.1]
  rw [if_pos h2]
  by_cases h3 : (v9 s.points i).id ≤ s.last
  case neg => rw [if_neg h3, no fun q => h3 q.2.2.1]
  rw [if_pos h3]
  by_cases h4 : (v9 s.points i).gen > (pv s i).gen
  case neg => rw [if_neg h4, no fun q => h4 q.2.2.2.1]
  rw [if_pos h4]
  by_cases h5 : (v9 s.points i).gen < s.gen
  case neg => rw [if_neg h5, no fun q => h5 q.2.2.2.2.1]
  rw [if_pos h5, zlk _ _ _ (zvv hm.2) (ztp h1) px sx, x9]
  by_cases h6 : Kp (pv s i).map (v9 s.points i).map (pv s i).gen
  · rw [kp_t h6, decide_eq_true]
    refine ⟨hm.1, fun j hj => ?_⟩
    by_cases g : j = i
    · subst g; exact ⟨h1, h2, h3, h4, h5, h6⟩
    · exact hm.2 j (by omega)
  · rw [kp_f h6, no fun q => h6 q.2.2.2.2.2]
open Classical in
theorem znc {s : Sa} (h : Bg s) : z8e s = some (st s) := by
  have hz := h.2.1
  have hx := h.1
  have e1 : ∀ i : Nat, ((i + 1 : Nat) : Int) = (i : Int) + 1 := fun i => by omega
  unfold z8e
  rw [zl2 _ _ _ hx, x9, w9]
  by_cases h1 : Up s.blocks s.map s.gen
  case neg =>
    rw [if_neg h1, zhj fun q => h1 q.1, zco s s.points.length]
    · exact zhw s _ _
    · intro i hi
      unfold PS z2e
      simp only [w9, Int.toNat_natCast, z1f]
      rw [if_pos (by omega), x4 (by omega), j9 (x := (i : Int) + 1) (by omega) (by omega), e1]
    · unfold PS z2e
      simp only [w9]
      rw [if_neg (by omega)]
  rw [if_pos h1, zfc, x9, w9]
  by_cases h2 : 1 ≤ s.gen ∧ s.gen ≤ 2147483647
  case neg =>
    rw [if_neg h2, zhj fun q => h2 ⟨q.2.1, q.2.2.1⟩, zco s s.points.length]
    · exact zhw s _ _
    · intro i hi
      unfold PS z2n
      simp only [w9, Int.toNat_natCast, z1f]
      rw [if_pos (by omega), x4 (by omega), j9 (x := (i : Int) + 1) (by omega) (by omega), e1]
    · unfold PS z2n
      simp only [w9]
      rw [if_neg (by omega)]
  rw [if_pos h2, w9]
  by_cases h3 : (s.points.length : Int) ≤ 4
  case neg =>
    rw [if_neg h3, zhj fun q => h3 (by have := q.2.2.2.1; omega), zco s s.points.length]
    · exact zhw s _ _
    · intro i hi
      unfold PS z2g
      simp only [w9, Int.toNat_natCast, z1f]
      rw [if_pos (by omega), x4 (by omega), j9 (x := (i : Int) + 1) (by omega) (by omega), e1]
    · unfold PS z2g
      simp only [w9]
      rw [if_neg (by omega)]
  rw [if_pos h3, zfc, x9, w9]
  by_cases h4 : 0 ≤ s.last ∧ s.last ≤ 2147483647
  case neg =>
    rw [if_neg h4, zhj fun q => h4 ⟨q.2.2.2.2.1, q.2.2.2.2.2.1⟩, zco s s.points.length]
    · exact zhw s _ _
    · intro i hi
      unfold PS z2i
      simp only [w9, Int.toNat_natCast, z1f]
      rw [if_pos (by omega), x4 (by omega), j9 (x := (i : Int) + 1) (by omega) (by omega), e1]
    · unfold PS z2i
      simp only [w9]
      rw [if_neg (by omega)]
  rw [if_pos h4]
  have hr := z29 (step := z15 s (decide (Up s.blocks s.map s.gen)) (decide (1 ≤ s.gen ∧ s.gen ≤ 2147483647)) (decide (0 ≤ s.last ∧ s.last ≤ 2147483647))) (f := fun s7 =>
    tb (decide (s7.2.1 < (s.points.length : Int))) none (tb (!s7.1) (some (110 : Int)) (tc (ze7 s7.2.2.2.2 s.map s7.2.2.2.1) fun s10 => tb (!s10) (some 110) (some 0)))) (MS s) s.points.length (fun i hi => zjx h _ _ _ hi) (by
      unfold MS PS z15
      simp only [w9]
      rw [if_neg (by omega)])
  have e0 : MS s 0 = (decide ((s.staged.length : Int) ≤ 4000), 0, 0, 0, []) := by
    unfold MS PS
    congr 1
    rw [Bool.eq_iff_iff, decide_eq_true_iff, decide_eq_true_iff]
    exact ⟨fun q => by have := q.1; omega, fun q => ⟨by omega, fun j hj => by omega⟩⟩
  rw [e0] at hr
  rw [hr]
  unfold MS PS
  simp only [w9, z0y]
  rw [if_neg (by omega)]
  by_cases h5 : s.staged.length ≤ 4000 ∧ ∀ j, j < s.points.length → PP s j
  case neg => rw [if_neg h5, zhj fun q => h5 ⟨q.2.2.2.2.2.2.1, q.2.2.2.2.2.2.2.1⟩]
  rw [if_pos h5, zlk _ _ _ (zvv h5.2) (ztp h1) (zw4 h _ (Nat.le_refl _)) hx, x9]
  by_cases h6 : Kp (pv s s.points.length).map s.map (pv s s.points.length).gen
  · rw [kp_t h6, z7m, st_t ⟨h1, h2.1, h2.2, by omega, h4.1, h4.2, h5.1, h5.2, h6⟩]
  · rw [kp_f h6, z9a, zhj fun q => h6 q.2.2.2.2.2.2.2.2]
theorem zb9 {s : Sa} (h : Sz s) : z8e s = some (st s) := znc (sz_bg h)
end Ab
end Go.Proofs.Ytimcbhhebnikiaa
namespace Go.Proofs.Ytimcbhhebnikiaa
open Go Go.Proofs.Ytimcbhhebnikiaa.Ab
set_option linter.unusedVariables false
set_option linter.unusedSimpArgs false
namespace Ab
theorem z1p {l : List Ex} (h : Sx l) : z20 l = some l := by
  have hz := h.1
  have hd := (z31 l (fun x => x.d.length ≤ 1000000)).2 h.2
  unfold z20
  have := z29 (step := z13 l) (f := fun s0 => tb (decide (s0.2 < (l.length : Int))) none (tp (0 = 0 ∧ (List.flatMap Ex.cells s0.1).length = s0.1.length * 5) (some s0.1))) (fun i => (l.take i, (i : Int))) l.length (fun i hi => by
    have := hd i hi
    unfold z13
    simp only [w9, Int.toNat_natCast]
    rw [if_pos (by omega), x4 (by omega), x4 (by omega), x4 ⟨t9 _, by rw [List.length_take]; omega⟩, j9 (by omega) (by omega), ← zdr l i hi]
    rfl) (by
    unfold z13
    simp only [w9]
    rw [if_neg (by omega)])
  rw [List.take_zero, List.take_length] at this
  refine this.trans ?_
  simp only [w9]
  rw [if_neg (by omega), x4 ⟨by trivial, t9 _⟩]
def sa0 : Sa := ⟨0, 0, [], [], 0, []⟩
open Classical in
noncomputable def cpy (s : Sa) : Sa := if SOk s then s else sa0
theorem ztu {s : Sa} (h : SOk s) : cpy s = s := by unfold cpy; rw [if_pos h]
theorem cpy_f {s : Sa} (h : ¬ SOk s) : cpy s = sa0 := by unfold cpy; rw [if_neg h]
theorem zju (l : List Po) (i : Nat) : l.set i (v9 l i) = l := by
  refine List.ext_getElem? fun j => ?_
  rw [List.getElem?_set]
  by_cases h : i = j
  · subst h
    rw [if_pos rfl]
    by_cases g : i < l.length
    · rw [if_pos g]; unfold v9; simp [g]
    · rw [if_neg g, List.getElem?_eq_none (by omega)]
  · rw [if_neg h]
theorem zja {s : Sa} (h : Sz s) : z3i s = some (cpy s) := by
  have hz := h.2.1
  have hx := h.1
  unfold z3i
  rw [zb9 h, x9, z45]
  by_cases ho : SOk s
  case neg => rw [zhj ho, if_neg (by decide), cpy_f ho]; rfl
  rw [st_t ho, if_pos rfl, z1p hx, x9, x4 (z0j _), x4 (by omega), x4 (by have := h.2.2.2; omega), ztu ho]
  have hp := (z7y s.points (fun p => Sx p.map)).2 h.2.2.1
  have := z29 (step := z28 s 0 s.map) (f := fun s6 => tb (decide (s6.1 < (s.points.length : Int))) none (tp (0 = 0 ∧ (List.flatMap Ex.cells s.map).length = s.map.length * 5) (tp (0 = 0 ∧ (List.flatMap Po.cells s6.2).length = s.points.length * 3) (some (Sa.mk s.blocks s.gen s.map s6.2 s.last s.staged))))) (fun i => ((i : Int), s.points)) s.points.length (fun i hi => by
    have e := z0j s.points
    unfold z28
    simp only [w9, Int.toNat_natCast]
    rw [if_pos (by omega), x4 (by omega), x4 (by omega), z1p (hp i hi), x9, x4 ⟨rfl, by simp only [List.length_cons, List.length_nil]; omega⟩, j9 (by omega) (by omega), List.take_length]
    have e2 : (Po.mk (v9 s.points i).id (v9 s.points i).gen (v9 s.points i).map) = v9 s.points i := rfl
    rw [e2, zju]
    rfl) (by
    unfold z28
    simp only [w9]
    rw [if_neg (by omega)])
  refine this.trans ?_
  simp only [w9]
  rw [if_neg (by omega), x4 ⟨by trivial, t9 _⟩, x4 ⟨by trivial, z0j _⟩]
theorem zre {b : Int} {l : List Ex} (h : Mk b l) : Sx l := ⟨by have := z6b h; omega, fun x hx => by have := za9 (zaj (z6i h) x hx).1; omega⟩
theorem zsc {s : Sa} (h : SOk s) : Sz s := by
  refine ⟨zre h.1.1, by have := h.2.2.2.1; omega, ?_, by have := h.2.2.2.2.2.2.1; omega⟩
  exact (z7y s.points fun p => Sx p.map).1 fun i hi => zre (h.2.2.2.2.2.2.2.1 i hi).1.1
def nw (blocks : Int) : Sa × Int := if 1 ≤ blocks ∧ blocks ≤ 64 then (⟨blocks, 1, [⟨0, blocks, 0, 0, []⟩], [], 0, []⟩, 0) else (sa0, 81)
theorem zv1 (blocks : Int) : zt2 blocks = some (if 1 ≤ blocks ∧ blocks ≤ 64 then ([⟨0, blocks, 0, 0, []⟩], 0) else ([], 81)) := by
  unfold zt2
  simp only [w9]
  by_cases h1 : blocks < 1
  · rw [if_pos h1, if_neg (by omega)]
  by_cases h2 : blocks > 64
  · rw [if_neg h1, if_pos h2, if_neg (by omega)]
  · rw [if_neg h1, if_neg h2, if_pos (by omega)]
theorem zuw (blocks : Int) : zs7 blocks = some (nw blocks) := by
  unfold zs7 nw
  rw [zv1, x9]
  split <;> rfl
theorem zu4 {α β : Type} (l : List β) (d : β) (p : β → Bool) {step : Int → Option Int} {f : Int → Option α} (g : Option β → Option α) (hs : ∀ i : Nat, i < l.length → p (l.getD i d) = false → step (i : Int) = some ((i : Int) + 1)) (hf : ∀ i : Nat, i < l.length → p (l.getD i d) = true → step (i : Int) = none ∧ f (i : Int) = g (some (l.getD i d))) (he : step (l.length : Int) = none ∧ f (l.length : Int) = g none) : th step 0 f = g (l.find? p) := by
  have gd : ∀ i (hi : i < l.length), l.getD i d = l[i] := fun i hi => by simp [hi]
  cases h : l.find? p with
  | none =>
    have hn := List.find?_eq_none.1 h
    have := z29 (step := step) (f := f) (fun i => (i : Int)) l.length (fun i hi => hs i hi (by
      rw [gd i hi]
      have := hn l[i] (List.getElem_mem hi)
      simpa using this)) he.1
    simp only [Int.natCast_zero] at this
    rw [this]; exact he.2
  | some x =>
    obtain ⟨hx, i, hi, e, hlt⟩ := List.find?_eq_some_iff_getElem.1 h
    have hfi := hf i hi (by rw [gd i hi, e]; exact hx)
    have := z29 (step := step) (f := f) (fun i => (i : Int)) i (fun j hj => hs j (by omega) (by
      rw [gd j (by omega)]
      have := hlt j hj
      simpa using this)) hfi.1
    simp only [Int.natCast_zero] at this
    rw [this, hfi.2, gd i hi, e]
def po0 : Po := ⟨0, 0, []⟩
def fd (l : List Po) (id : Int) : Option Po := l.find? fun p => p.id == id
def fdv : Option Po → Po × Int
  | some p => (p, 0)
  | none => (po0, 111)
open Classical in
noncomputable def pnt (s : Sa) (id : Int) : Po × Int := if SOk s then fdv (fd s.points id) else (po0, 110)
theorem zp6 {s : Sa} (h : Sz s) (id : Int) : z3l s id = some (pnt s id) := by
  have hz := h.2.1
  unfold z3l pnt
  rw [zb9 h, x9, z45]
  by_cases ho : SOk s
  case neg => rw [zhj ho, if_neg (by decide), if_neg ho]; rfl
  rw [st_t ho, if_pos rfl, if_pos ho, zja h, x9, ztu ho]
  refine (zu4 s.points ⟨0, 0, []⟩ (fun p => p.id == id) (fun o => some (fdv o)) ?_ ?_ ?_)
  · intro i hi hp
    have hp : ((v9 s.points i).id == id) = false := hp
    unfold z1h
    simp only [w9, Int.toNat_natCast]
    rw [if_pos (by omega), x4 (by omega), z96 hp, j9 (by omega) (by omega)]
  · intro i hi hp
    have hp : ((v9 s.points i).id == id) = true := hp
    unfold z1h
    simp only [w9, Int.toNat_natCast]
    rw [if_pos (by omega), x4 (by omega), zdw hp, if_pos (by omega), x4 (by omega), zdw hp]
    exact ⟨rfl, rfl⟩
  · unfold z1h
    simp only [w9]
    rw [if_neg (by omega), if_neg (by omega)]
    exact ⟨rfl, rfl⟩
def zmq (l : List Ex) : Prop := l.length ≤ 70 ∧ ∀ x ∈ l, x.d.length ≤ 3000
instance (l : List Ex) : Decidable (zmq l) := by unfold zmq; infer_instance
theorem zu2 (l : List Ex) : few l = some (decide (zmq l)) := zx6 l
def FewS (s : Sa) : Prop := s.points.length ≤ 10 ∧ s.staged.length ≤ 6000 ∧ zmq s.map ∧ ∀ p ∈ s.points, zmq p.map
instance (s : Sa) : Decidable (FewS s) := by unfold FewS; infer_instance
theorem zve {l : List Ex} (h : zmq l) : Sx l := ⟨by have := h.1; omega, fun x hx => by have := h.2 x hx; omega⟩
end Ab
end Go.Proofs.Ytimcbhhebnikiaa
namespace Go.Proofs.Ytimcbhhebnikiaa
open Go Go.Proofs.Ytimcbhhebnikiaa.Ab
set_option linter.unusedVariables false
set_option linter.unusedSimpArgs false
namespace Ab
theorem zmc (n low high : Int) : z0e n low high = some (decide (low ≤ n ∧ n ≤ high)) := by
  unfold z0e
  rw [w9]
  by_cases h : n ≥ low
  · rw [if_pos h]; congr 1; exact decide_eq_decide.2 ⟨fun g => ⟨h, g⟩, fun g => g.2⟩
  · rw [if_neg h, decide_eq_false fun g : low ≤ n ∧ n ≤ high => h g.1]
def zbs (l : List Ex) (i : Nat) : Int := if i = 0 then 0 else (z7 l (i - 1)).lba + (z7 l (i - 1)).len
theorem zms (l : List Ex) (i : Nat) : zbs l (i + 1) = (z7 l i).lba + (z7 l i).len := by simp [zbs]
def FP (l : List Ex) (i : Nat) : Prop := Ck (z7 l i) ∧ zbs l i ≤ (z7 l i).lba
def Fo (l : List Ex) : Prop := (∀ i, i < l.length → FP l i) ∧ l.length ≤ 64
instance (l : List Ex) (i : Nat) : Decidable (FP l i) := by unfold FP; infer_instance
instance (l : List Ex) : Decidable (Fo l) := by unfold Fo; infer_instance
theorem zxi : Fo [] := ⟨fun i hi => by simp at hi, by simp⟩
theorem ziz (l : List Ex) (hl : l.length ≤ 4294967296) : z7u l = some (decide (Fo l)) := by
  unfold z7u
  have h0 : ((0 : Int), (0 : Int)) = (zbs l 0, ((0 : Nat) : Int)) := by simp [zbs]
  rw [h0]
  have := fun f hs hf he => zev (α := Bool) (step := z0l l) (f := f) (some false) (some (decide ((l.length : Int) ≤ 64))) (fun i => (zbs l i, (i : Int))) l.length (FP l) (∀ i, i < l.length → FP l i) Iff.rfl hs hf he
  rw [this _ ?_ ?_ ?_]
  · by_cases h : ∀ i, i < l.length → FP l i
    · rw [if_pos h]; congr 1; exact decide_eq_decide.2 ⟨fun g => ⟨h, by omega⟩, fun g => by have := g.2; omega⟩
    · rw [if_neg h, decide_eq_false fun g : Fo l => h g.1]
  · intro i hi _ hp
    unfold z0l
    have h1 := hp.1
    have h2 := hp.2
    have h3 := z0c h1
    simp only [w9, z0y, z3c, x9, Int.toNat_natCast]
    rw [if_pos (by omega), x4 (by omega), ze9 h1, z7m, if_neg (by omega), j9 (by omega) (by omega), j9 (by omega) (by omega), zms]
    rfl
  · intro i hi _ hp
    unfold z0l
    simp only [w9, z0y, z3c, x9, Int.toNat_natCast]
    by_cases h1 : Ck (z7 l i)
    · have h2 : (z7 l i).lba < zbs l i := by
        rcases Int.lt_or_le (z7 l i).lba (zbs l i) with g | g
        · exact g
        · exact absurd ⟨h1, g⟩ hp
      refine ⟨?_, ?_⟩ <;> rw [if_pos (by omega), x4 (by omega), ze9 h1, z7m, if_pos h2]
    · refine ⟨?_, ?_⟩ <;> rw [if_pos (by omega), x4 (by omega), za6 h1, z9a]
  · intro _
    unfold z0l
    simp only [w9]
    rw [if_neg (by omega), if_neg (by omega)]
    exact ⟨rfl, rfl⟩
def CkH (c : Ch) : Prop :=
  (c.kind = 1 ∧ (0 ≤ c.lba ∧ c.lba ≤ 64 ∧ 1 ≤ c.n ∧ c.n ≤ 64 - c.lba) ∧ c.id = 0 ∧ (c.d.length : Int) = c.n * 32 ∧ c.list.length = 0) ∨
  ((c.kind = 2 ∨ c.kind = 3) ∧ (0 ≤ c.lba ∧ c.lba ≤ 64 ∧ 1 ≤ c.n ∧ c.n ≤ 64 - c.lba) ∧ c.id = 0 ∧ c.d.length = 0 ∧ c.list.length = 0) ∨
  ((c.kind = 4 ∨ c.kind = 5) ∧ (c.lba = 0 ∧ c.n = 0) ∧ (1 ≤ c.id ∧ c.id ≤ 2147483647) ∧ c.d.length = 0 ∧ c.list.length = 0) ∨
  (c.kind = 6 ∧ (c.lba = 0 ∧ c.n = 0) ∧ c.id = 0 ∧ (1 ≤ c.d.length ∧ c.d.length ≤ 1000) ∧ c.list.length = 0) ∨
  (c.kind = 7 ∧ (c.lba = 0 ∧ c.n = 0) ∧ c.id = 0 ∧ c.d.length = 0 ∧ c.list.length = 0) ∨
  (c.kind = 8 ∧ (c.lba = 0 ∧ c.n = 0) ∧ (1 ≤ c.id ∧ c.id ≤ 2147483647) ∧ c.d.length = 0 ∧ Fo c.list)
instance (c : Ch) : Decidable (CkH c) := by unfold CkH; infer_instance
theorem ztc {c : Ch} (h : c.kind = 1) : CkH c ↔ (0 ≤ c.lba ∧ c.lba ≤ 64 ∧ 1 ≤ c.n ∧ c.n ≤ 64 - c.lba) ∧ c.id = 0 ∧ (c.d.length : Int) = c.n * 32 ∧ c.list.length = 0 := by simp [CkH, h]
theorem zvp {c : Ch} (h : c.kind = 2) : CkH c ↔ (0 ≤ c.lba ∧ c.lba ≤ 64 ∧ 1 ≤ c.n ∧ c.n ≤ 64 - c.lba) ∧ c.id = 0 ∧ c.d.length = 0 ∧ c.list.length = 0 := by simp [CkH, h]
theorem zvs {c : Ch} (h : c.kind = 3) : CkH c ↔ (0 ≤ c.lba ∧ c.lba ≤ 64 ∧ 1 ≤ c.n ∧ c.n ≤ 64 - c.lba) ∧ c.id = 0 ∧ c.d.length = 0 ∧ c.list.length = 0 := by simp [CkH, h]
theorem zvn {c : Ch} (h : c.kind = 4) : CkH c ↔ (c.lba = 0 ∧ c.n = 0) ∧ (1 ≤ c.id ∧ c.id ≤ 2147483647) ∧ c.d.length = 0 ∧ c.list.length = 0 := by simp [CkH, h]
theorem ckh_5 {c : Ch} (h : c.kind = 5) : CkH c ↔ (c.lba = 0 ∧ c.n = 0) ∧ (1 ≤ c.id ∧ c.id ≤ 2147483647) ∧ c.d.length = 0 ∧ c.list.length = 0 := by simp [CkH, h]
theorem ckh_6 {c : Ch} (h : c.kind = 6) : CkH c ↔ (c.lba = 0 ∧ c.n = 0) ∧ c.id = 0 ∧ (1 ≤ c.d.length ∧ c.d.length ≤ 1000) ∧ c.list.length = 0 := by simp [CkH, h]
theorem ckh_7 {c : Ch} (h : c.kind = 7) : CkH c ↔ (c.lba = 0 ∧ c.n = 0) ∧ c.id = 0 ∧ c.d.length = 0 ∧ c.list.length = 0 := by simp [CkH, h]
theorem zo2 {c : Ch} (h : c.kind = 8) : CkH c ↔ (c.lba = 0 ∧ c.n = 0) ∧ (1 ≤ c.id ∧ c.id ≤ 2147483647) ∧ c.d.length = 0 ∧ Fo c.list := by simp [CkH, h]
theorem z9w {c : Ch} (h : CkH c) : 1 ≤ c.kind ∧ c.kind ≤ 8 := by unfold CkH at h; omega
theorem zs4 {p : Prop} [Decidable p] (h : p) : some true = some (decide p) := by rw [decide_eq_true h]
theorem z4y {p : Prop} [Decidable p] (h : ¬ p) : some false = some (decide p) := by rw [decide_eq_false h]
theorem zmo (p : Prop) [Decidable p] : (if p then some true else some false) = some (decide p) := by by_cases h : p <;> simp [h]
theorem z9q (p q : Prop) [Decidable p] [Decidable q] : (if p then some (decide q) else some false) = some (decide (p ∧ q)) := by by_cases h : p <;> simp [h]
theorem zq7 (c : Ch) (hl : c.list.length ≤ 4294967296) : zdi c = some (decide (CkH c)) := by
  unfold zdi
  simp only [zmc, x9, z0y, w9, z2w, ziz _ hl]
  by_cases hk : 1 ≤ c.kind ∧ c.kind ≤ 8
  case neg => rw [if_neg hk]; exact z4y fun h => hk (z9w h)
  rw [if_pos hk, if_neg (by omega)]
  have w : 0 ≤ c.lba → c.lba ≤ 64 → wr (64 - c.lba) = 64 - c.lba := fun h1 h2 => j9 (by omega) (by omega)
  have w2 : 0 ≤ c.n → c.n ≤ 64 → wr (c.n * 32) = c.n * 32 := fun h1 h2 => j9 (by omega) (by omega)
  by_cases k1 : c.kind = 1
  · rw [if_pos k1]
    by_cases hb : 0 ≤ c.lba ∧ c.lba ≤ 64
    case neg => simp only [if_neg hb, ite_self]; exact z4y fun h => by rw [ztc k1] at h; omega
    simp only [if_pos hb, w hb.1 hb.2]
    by_cases hn : 1 ≤ c.n ∧ c.n ≤ 64 - c.lba
    case neg => simp only [if_neg hn, ite_self]; exact z4y fun h => by rw [ztc k1] at h; omega
    simp only [if_pos hn, w2 (by omega) (by omega)]
    simp only [ite_self, zmo, z9q]
    congr 1
    exact decide_eq_decide.2 (by rw [ztc k1]; omega)
  rw [if_neg k1]
  by_cases k2 : c.kind = 2
  · rw [if_pos k2]
    by_cases hb : 0 ≤ c.lba ∧ c.lba ≤ 64
    case neg => simp only [if_neg hb, ite_self]; exact z4y fun h => by rw [zvp k2] at h; omega
    simp only [if_pos hb, w hb.1 hb.2]
    simp only [ite_self, zmo, z9q]
    congr 1
    exact decide_eq_decide.2 (by rw [zvp k2]; omega)
  rw [if_neg k2]
  by_cases k3 : c.kind = 3
  · rw [if_pos k3]
    by_cases hb : 0 ≤ c.lba ∧ c.lba ≤ 64
    case neg => simp only [if_neg hb, ite_self]; exact z4y fun h => by rw [zvs k3] at h; omega
    simp only [if_pos hb, w hb.1 hb.2]
    simp only [ite_self, zmo, z9q]
    congr 1
    exact decide_eq_decide.2 (by rw [zvs k3]; omega)
  rw [if_neg k3]
  by_cases k4 : c.kind = 4
  · rw [if_pos k4]
    simp only [ite_self, zmo, z9q]
    congr 1
    exact decide_eq_decide.2 (by rw [zvn k4]; omega)
  rw [if_neg k4]
  by_cases k5 : c.kind = 5
  · rw [if_pos k5]
    simp only [ite_self, zmo, z9q]
    congr 1
    exact decide_eq_decide.2 (by rw [ckh_5 k5]; omega)
  rw [if_neg k5]
  by_cases k6 : c.kind = 6
  · rw [if_pos k6]
    simp only [ite_self, zmo, z9q]
    congr 1
    exact decide_eq_decide.2 (by rw [ckh_6 k6]; omega)
  rw [if_neg k6]
  by_cases k7 : c.kind = 7
  · rw [if_pos k7]
    simp only [ite_self, zmo, z9q]
    congr 1
    exact decide_eq_decide.2 (by rw [ckh_7 k7]; omega)
  rw [if_neg k7]
  have k8 : c.kind = 8 := by omega
  rw [if_pos k8]
  have e8 : Fo c.list → (c.lba = 0 ∧ c.n = 0) → (1 ≤ c.id ∧ c.id ≤ 2147483647) → c.d.length = 0 → CkH c := fun a b d e => (zo2 k8).2 ⟨b, d, e, a⟩
  have f8 : CkH c → (c.lba = 0 ∧ c.n = 0) ∧ (1 ≤ c.id ∧ c.id ≤ 2147483647) ∧ c.d.length = 0 ∧ Fo c.list := (zo2 k8).1
  by_cases h1 : c.lba = 0
  case neg => rw [if_neg h1]; exact z4y fun h => h1 (f8 h).1.1
  rw [if_pos h1]
  by_cases h2 : c.n = 0
  case neg => rw [if_neg h2]; exact z4y fun h => h2 (f8 h).1.2
  rw [if_pos h2]
  by_cases h3 : 1 ≤ c.id ∧ c.id ≤ 2147483647
  case neg => rw [if_neg h3]; exact z4y fun h => h3 (f8 h).2.1
  rw [if_pos h3]
  by_cases h4 : (c.d.length : Int) = 0
  case neg => rw [if_neg h4]; exact z4y fun h => h4 (by have := (f8 h).2.2.1; omega)
  rw [if_pos h4]
  by_cases h5 : (c.list.length : Int) = 0
  · rw [if_pos h5]
    have : c.list = [] := List.eq_nil_of_length_eq_zero (by omega)
    exact zs4 (e8 (this ▸ zxi) ⟨h1, h2⟩ h3 (by omega))
  rw [if_neg h5]
  congr 1
  exact decide_eq_decide.2 ⟨fun h => e8 h ⟨h1, h2⟩ h3 (by omega), fun h => (f8 h).2.2.2⟩
def zkn (c : Ch) : Prop := c.d.length ≤ 5000 ∧ zmq c.list
instance (c : Ch) : Decidable (zkn c) := by unfold zkn; infer_instance
theorem zj8 (c : Ch) : zgj c = some (decide (zkn c)) := by
  unfold zgj
  rw [w9, zu2, x9]
  by_cases h : (c.d.length : Int) ≤ 5000
  · rw [if_pos h]; congr 1; exact decide_eq_decide.2 ⟨fun g => ⟨by omega, g⟩, fun g => g.2⟩
  · rw [if_neg h]; exact z4y fun g => h (by have := g.1; omega)
def zqt (l : List Ch) : Prop := l.length ≤ 30 ∧ ∀ c ∈ l, zkn c
instance (l : List Ch) : Decidable (zqt l) := by unfold zqt; infer_instance
theorem zli (l : List Ch) (p : Ch → Prop) : (∀ i, i < l.length → p (u7 l i)) ↔ ∀ x ∈ l, p x := by
  unfold u7; exact z9v _ l p
theorem znu (l : List Ch) : changes l = some (decide (zqt l)) := by
  unfold changes
  rw [w9]
  by_cases h : (l.length : Int) > 30
  · rw [if_pos h]; exact z4y fun g => by have := g.1; omega
  rw [if_neg h, z69 (some false) (some true) l.length (fun i => zkn (u7 l i)) (∀ c ∈ l, zkn c) (zli l zkn)]
  · by_cases g : ∀ c ∈ l, zkn c
    · rw [if_pos g]; exact zs4 ⟨by omega, g⟩
    · rw [if_neg g]; exact z4y fun q => g q.2
  · intro i hi hq
    unfold z17
    simp only [w9, z0y, Int.toNat_natCast]
    rw [if_pos (by omega), x4 (by omega), zj8, x9, decide_eq_true hq, z7m, j9 (by omega) (by omega)]
  · intro i hi hq
    unfold z17
    simp only [w9, z0y, Int.toNat_natCast]
    rw [if_pos (by omega), x4 (by omega), zj8, x9, decide_eq_false hq, z9a, if_pos (by omega), x4 (by omega), x9, z9a]
    exact ⟨rfl, rfl⟩
  · unfold z17
    simp only [w9]
    rw [if_neg (by omega), if_neg (by omega)]
    exact ⟨rfl, rfl⟩
end Ab
end Go.Proofs.Ytimcbhhebnikiaa
namespace Go.Proofs.Ytimcbhhebnikiaa
open Go Go.Proofs.Ytimcbhhebnikiaa.Ab
set_option linter.unusedVariables false
set_option linter.unusedSimpArgs false
namespace Ab
theorem zu5 (l : List Ex) (hl : l.length ≤ 4294967295) (hd : ∀ x ∈ l, x.d.length ≤ 4294967296) : ze1 l = some l := by
  unfold ze1
  have hstep : ∀ i : Nat, i < l.length → z1a l (l.take i, (i : Int)) = some (l.take (i + 1), (i : Int) + 1) := by
    intro i hi
    have h1 := (z31 l (fun x => x.d.length ≤ 4294967296)).2 hd i hi
    unfold z1a
    simp only [w9, Int.toNat_natCast]
    rw [if_pos (by omega), x4 (by omega), x4 h1, x4 ⟨t9 _, by rw [List.length_take]; omega⟩, j9 (by omega) (by omega), zam ⟨0, 0, 0, 0, []⟩ l i hi]
    rfl
  have he : z1a l (l.take l.length, (l.length : Int)) = none := by
    unfold z1a
    simp only [w9]
    rw [if_neg (by omega)]
  have := fun f => zuh (α := List Ex) (step := z1a l) (f := f) (fun i => l.take i) l.length hstep he
  simp only [List.take_zero] at this
  rw [this]
  simp only [w9]
  rw [if_neg (by omega), x4 (by first | exact ⟨rfl, t9 _⟩ | exact ⟨trivial, t9 _⟩), List.take_length]
end Ab
end Go.Proofs.Ytimcbhhebnikiaa
namespace Go.Proofs.Ytimcbhhebnikiaa
open Go Go.Proofs.Ytimcbhhebnikiaa.Ab
set_option linter.unusedVariables false
set_option linter.unusedSimpArgs false
namespace Ab
noncomputable def putB (out : List Ex) (y : Ex) : Option (List Ex × List Ex) :=
 (tb ((decide ((↑(List.length out) : Int) > (0 : Int))))
  (tp ((((0 : Int) ≤ (wr ((↑(List.length out) : Int) - (1 : Int)))) ∧ ((wr ((↑(List.length out) : Int) - (1 : Int))) < (↑(List.length out) : Int))))
   (tc (z5x ((z7 out (Int.toNat (wr ((↑(List.length out) : Int) - (1 : Int)))))) (y)) fun s13 =>
    (tb ((s13.2 == (0 : Int)))
     (tp ((((List.length (xc s13.1)) = (5 : Nat)) ∧ ((((0 : Nat) + ((Int.toNat (wr ((↑(List.length out) : Int) - (1 : Int)))) * (5 : Nat))) + (List.length (xc s13.1))) ≤ (List.length (List.flatMap Ex.cells out)))))
      (some ((([] : List Ex), (List.set out (Int.toNat (wr ((↑(List.length out) : Int) - (1 : Int)))) s13.1)))))
     (tp ((((List.length (List.flatMap Ex.cells out)) = ((List.length out) * (5 : Nat))) ∧ (((List.length out) + (1 : Nat)) ≤ (4294967296 : Nat))))
      (some ((([] : List Ex), (out ++ [y]))))))))
  (tp ((((List.length (List.flatMap Ex.cells out)) = ((List.length out) * (5 : Nat))) ∧ (((List.length out) + (1 : Nat)) ≤ (4294967296 : Nat))))
   (some ((([] : List Ex), (out ++ [y]))))))
theorem z59 (out : List Ex) (y : Ex) (ho : out.length ≤ 1000000) : putB out y = some ([], add out y) := by
  unfold putB
  simp only [w9, z2w]
  by_cases h0 : out = []
  · subst h0
    rw [if_neg (by simp), x4 ⟨by simp, by simp⟩, zvj]; rfl
  · have hl : 0 < out.length := List.length_pos_iff.2 h0
    have hw : wr ((out.length : Int) - 1) = ((out.length - 1 : Nat) : Int) := by rw [j9 (by omega) (by omega)]; omega
    rw [if_pos (by omega), hw, x4 (by omega), Int.toNat_natCast, zui out h0 _ rfl, zsa, x9]
    by_cases hj : Jn (out.getLastD ⟨0, 0, 0, 0, []⟩) y
    · have e : jnv (out.getLastD ⟨0, 0, 0, 0, []⟩) y = (jnx (out.getLastD ⟨0, 0, 0, 0, []⟩) y, 0) := if_pos hj
      rw [e, if_pos rfl, x4 ⟨rfl, by rw [t9]; simp; omega⟩, zwg h0 hj, zk3 out h0 _ rfl]
    · have e : jnv (out.getLastD ⟨0, 0, 0, 0, []⟩) y = (⟨0, 0, 0, 0, []⟩, 70) := if_neg hj
      rw [e, if_neg (by simp), x4 ⟨t9 _, by omega⟩, zxa hj]
section
variable (blocks : Int) (l : List Ex) (x : Ex) (s0 s2 : Bool)
theorem b1_eq (s5 : Bool × Int × List Ex) (s8 : Ex × Bool) (h : s5.2.2.length ≤ 1000000) : zcs blocks l x s0 s2 s5 s8 = some ([], add s5.2.2 s8.1) := z59 s5.2.2 s8.1 h
theorem b2_eq (s5 : Bool × Int × List Ex) (s8 : Ex × Bool) (s10 : List Ex × List Ex) (h : s10.2.length ≤ 1000000) : zcy blocks l x s0 s2 s5 s8 s10 = some ([], add s10.2 x) := z59 s10.2 x h
theorem b3_eq (s5 : Bool × Int × List Ex) (s8 : Ex × Bool) (s10 s13 : List Ex × List Ex) (s14 : Ex × Bool) (h : s13.2.length ≤ 1000000) : zcq blocks l x s0 s2 s5 s8 s10 s13 s14 = some ([], add s13.2 s14.1) := z59 s13.2 s14.1 h
theorem b4_eq (s5 : Bool × Int × List Ex) (s8 : Ex × Bool) (s10 : List Ex × List Ex) (s13 : Ex × Bool) (h : s10.2.length ≤ 1000000) : zcm blocks l x s0 s2 s5 s8 s10 s13 = some ([], add s10.2 s13.1) := z59 s10.2 s13.1 h
theorem b5_eq (s5 : Bool × Int × List Ex) (s8 : Ex × Bool) (s10 : List Ex × List Ex) (s12 : Ex × Bool) (h : s10.2.length ≤ 1000000) : zcf blocks l x s0 s2 s5 s8 s10 s12 = some ([], add s10.2 s12.1) := z59 s10.2 s12.1 h
theorem b6_eq (s5 : Bool × Int × List Ex) (s8 : Ex × Bool) (h : s5.2.2.length ≤ 1000000) : zct blocks l x s0 s2 s5 s8 = some ([], add s5.2.2 x) := z59 s5.2.2 x h
theorem b7_eq (s5 : Bool × Int × List Ex) (s8 : Ex × Bool) (s12 : List Ex × List Ex) (s13 : Ex × Bool) (h : s12.2.length ≤ 1000000) : zcz blocks l x s0 s2 s5 s8 s12 s13 = some ([], add s12.2 s13.1) := z59 s12.2 s13.1 h
theorem b8_eq (s5 : Bool × Int × List Ex) (s8 s12 : Ex × Bool) (h : s5.2.2.length ≤ 1000000) : zch blocks l x s0 s2 s5 s8 s12 = some ([], add s5.2.2 s12.1) := z59 s5.2.2 s12.1 h
theorem b9_eq (s5 : Bool × Int × List Ex) (s8 s11 : Ex × Bool) (h : s5.2.2.length ≤ 1000000) : zcg blocks l x s0 s2 s5 s8 s11 = some ([], add s5.2.2 s11.1) := z59 s5.2.2 s11.1 h
theorem zv2 (fl : Bool) (i : Nat) (out : List Ex) (hi : i < l.length) (hl : l.length ≤ 1000000) (he : Ck (z7 l i)) (hx : Ck x) (ho : out.length ≤ 900000) :
    z1w blocks l x s0 s2 (fl, (i : Int), out) = some ((stp x (fl, out) (z7 l i)).1, (i : Int) + 1, (stp x (fl, out) (z7 l i)).2) := by
  have px := z0c hx
  have pe := z0c he
  unfold z1w
  simp only [w9, Int.toNat_natCast, zho, x9, z0y]
  have w1 : wr ((i : Int) + 1) = (i : Int) + 1 := j9 (by omega) (by omega)
  have w2 : wr (x.lba + x.len) = x.lba + x.len := j9 (by omega) (by omega)
  have w3 : wr ((z7 l i).lba + (z7 l i).len) = (z7 l i).lba + (z7 l i).len := j9 (by omega) (by omega)
  simp only [w1, w2, w3]
  rw [if_pos (by omega), x4 (by omega)]
  clear w1 w2 w3
  generalize z7 l i = e at he pe ⊢
  unfold stp F1 P1
  have a1 := zcw out (cu e 0 x.lba)
  have a2 := zcw out x
  have a3 := zcw (add out (cu e 0 x.lba)) x
  by_cases g1 : Cu e 0 x.lba <;> by_cases g3 : Cu e (x.lba + x.len) 64 <;> by_cases g2 : e.lba + e.len > x.lba <;> cases fl
  all_goals
    simp only [zd6, zjc, zhp, zhg, g1, g2, g3, not_false_eq_true, z7m, z9a, if_true, if_false, decide_true, decide_false, Bool.true_or, Bool.false_or, Bool.or_false, Option.toList_some, Option.toList_none, List.nil_append, List.append_nil, List.cons_append, List.foldl_cons, List.foldl_nil, and_true, and_false, true_and, false_and, Bool.true_eq_false, reduceCtorEq]
  all_goals first
    | rfl
    | (first
        | (rw [b1_eq _ _ _ _ _ _ _ (by first | assumption | (simp only; omega))]; simp only [x9])
        | (rw [b6_eq _ _ _ _ _ _ _ (by first | assumption | (simp only; omega))]; simp only [x9])
        | (rw [b8_eq _ _ _ _ _ _ _ _ (by first | assumption | (simp only; omega))]; simp only [x9]; done)
        | (rw [b9_eq _ _ _ _ _ _ _ _ (by first | assumption | (simp only; omega))]; simp only [x9]; done)
        | skip)
      <;> (try (rw [b2_eq _ _ _ _ _ _ _ _ (by simp only; omega)]; simp only [x9]))
      <;> (try (rw [b3_eq _ _ _ _ _ _ _ _ _ _ (by simp only; omega)]; simp only [x9]))
      <;> (try (rw [b4_eq _ _ _ _ _ _ _ _ _ (by simp only; omega)]; simp only [x9]))
      <;> (try (rw [b5_eq _ _ _ _ _ _ _ _ _ (by simp only; omega)]; simp only [x9]))
      <;> (try (rw [b7_eq _ _ _ _ _ _ _ _ _ (by simp only; omega)]; simp only [x9]))
end
end Ab
end Go.Proofs.Ytimcbhhebnikiaa
namespace Go.Proofs.Ytimcbhhebnikiaa
open Go Go.Proofs.Ytimcbhhebnikiaa.Ab
set_option linter.unusedVariables false
set_option linter.unusedSimpArgs false
namespace Ab
theorem zm9 {blocks : Int} {l : List Ex} (h : Mk blocks l) : ∀ x ∈ l, Ck x := fun x hx => (zaj (z6i h) x hx).1
theorem zhh {blocks : Int} {l : List Ex} (h : Mk blocks l) : ze1 l = some l :=
  zu5 l (by have := z6b h; omega) fun x hx => by have := za9 (zm9 h x hx); omega
def z3v (blocks : Int) (x : Ex) : Prop := Ck x ∧ x.lba + x.len ≤ blocks
instance (blocks : Int) (x : Ex) : Decidable (z3v blocks x) := by unfold z3v; infer_instance
def zio (blocks : Int) (l : List Ex) (x : Ex) : List Ex × Int := if Mk blocks l then (if z3v blocks x then (put l x, 0) else (l, 81)) else ([], 80)
theorem zx3 (x : Ex) (fl : Bool) (e : Ex) : (P1 x fl e).length ≤ 3 := by
  unfold P1
  rw [List.length_append, List.length_append]
  have h : ∀ o : Option Ex, o.toList.length ≤ 1 := fun o => by cases o <;> simp
  have h1 := h (cut e 0 x.lba)
  have h2 := h (cut e (x.lba + x.len) 64)
  split <;> simp only [List.length_cons, List.length_nil] <;> omega
theorem zoj (x : Ex) : ∀ (l : List Ex) (p : Bool × List Ex), (l.foldl (stp x) p).2.length ≤ p.2.length + 3 * l.length
  | [], p => by simp
  | e :: l, p => by
    have h1 := zoj x l (stp x p e)
    have h2 := zlp (P1 x p.1 e) p.2
    have h3 := zx3 x p.1 e
    have h4 : (stp x p e).2 = (P1 x p.1 e).foldl add p.2 := rfl
    rw [h4] at h1
    rw [List.foldl_cons, List.length_cons]; omega
theorem zs5 (x : Ex) (l : List Ex) (i : Nat) (hi : i < l.length) (p : Bool × List Ex) : (l.take (i + 1)).foldl (stp x) p = stp x ((l.take i).foldl (stp x) p) (z7 l i) := by
  rw [zdr l i hi, List.foldl_append]; rfl
theorem zij (blocks : Int) (l : List Ex) (x : Ex) (hl : l.length ≤ 4294967296) : zns blocks l x = some (zio blocks l x) := by
  unfold zns zio
  rw [z8l _ _ (by omega), x9, z0y]
  by_cases hm : Mk blocks l
  case neg => rw [zph hm, if_neg hm]; rfl
  rw [zse hm, z7m, if_pos hm, z3c, x9, z0y]
  by_cases hx : Ck x
  case neg => rw [za6 hx, z9a, zhh hm, x9, if_neg fun h => hx h.1]
  have px := z0c hx
  have hlen := z6b hm
  rw [ze9 hx, z7m, w9, j9 (x := x.lba + x.len) (by omega) (by omega)]
  by_cases hf : x.lba + x.len > blocks
  · rw [if_pos hf, zhh hm, x9, if_neg fun h => by have := h.2; omega]
  rw [if_neg hf, if_pos (show z3v blocks x from ⟨hx, by omega⟩)]
  have hS := fun (f : Bool × Int × List Ex → Option (List Ex × Int)) => z29 (f := f) (step := z1w blocks l x true true) (fun i => (((l.take i).foldl (stp x) (false, [])).1, (i : Int), ((l.take i).foldl (stp x) (false, [])).2)) l.length (fun i hi => ?_) ?_
  rotate_left
  · have hb := zoj x (l.take i) (false, [])
    rw [List.length_take] at hb
    simp only [List.length_nil] at hb
    rw [zv2 blocks l x true true _ i _ hi (by omega) (hm.2.1 i hi).1 hx (by omega), zs5 _ _ _ hi]
    simp
  · unfold z1w
    simp only [w9]
    rw [if_neg (by omega)]
  refine (hS _).trans ?_
  have hp : ((l.take l.length).foldl (stp x) (false, [])).2 = put l x := by rw [List.take_length, zny]; rfl
  simp only [w9, hp]
  have hmk := (z6w hm hx (by omega)).1
  rw [if_neg (by omega), x4 (by first | exact ⟨rfl, t9 _⟩ | exact ⟨trivial, t9 _⟩), zhh hmk, x9]
theorem zhv {blocks : Int} : ∀ (o l : List Ex), Mk blocks l → (∀ x ∈ o, z3v blocks x) → Mk blocks (o.foldl put l)
  | [], l, h, _ => h
  | x :: o, l, h, hf => by
    have h1 := hf x (by simp)
    exact zhv o (put l x) (z6w h h1.1 h1.2).1 fun y hy => hf y (by simp [hy])
end Ab
end Go.Proofs.Ytimcbhhebnikiaa
namespace Go.Proofs.Ytimcbhhebnikiaa
open Go Go.Proofs.Ytimcbhhebnikiaa.Ab
set_option linter.unusedVariables false
set_option linter.unusedSimpArgs false
namespace Ab
def zao (blocks : Int) (l o : List Ex) : List Ex × Int := if Mk blocks l then (if ∀ x ∈ o, z3v blocks x then (o.foldl put l, 0) else (l, 81)) else ([], 80)
theorem zl3 (o l : List Ex) (i : Nat) (hi : i < o.length) : (o.take (i + 1)).foldl put l = put ((o.take i).foldl put l) (z7 o i) := by
  rw [zdr o i hi, List.foldl_append]; rfl
theorem zjf {o : List Ex} {n : Nat} {P : Ex → Prop} (hn : n ≤ o.length) (h : ∀ j, j < n → P (z7 o j)) : ∀ x ∈ o.take n, P x := by
  intro x hx
  obtain ⟨j, hj, e⟩ := List.getElem_of_mem hx
  rw [List.length_take] at hj
  rw [List.getElem_take] at e
  have := h j (by omega)
  rw [← e]
  have e2 : z7 o j = o[j]'(by omega) := by unfold z7; simp [show j < o.length by omega]
  rw [← e2]; exact this
def zpw (l o : List Ex) (i : Nat) : List Ex × Int := ((o.take (i + 1)).foldl put l, ((i + 1 : Nat) : Int))
theorem zxj (l o : List Ex) (h : 0 < o.length) : zpw l o 0 = (put l (z7 o 0), 1) := by
  unfold zpw; rw [zl3 o l 0 h]; rfl
theorem zd0 (blocks : Int) (l o : List Ex) (hl : l.length ≤ 4294967296) (ho : o.length ≤ 4294967296) : zll blocks l o = some (zao blocks l o) := by
  unfold zll zao
  rw [z8l _ _ (by omega), x9, z0y]
  by_cases hm : Mk blocks l
  case neg => rw [zph hm, if_neg hm]; rfl
  rw [zse hm, z7m, if_pos hm, zhh hm, x9, z2w]
  by_cases h0 : o.length = 0
  · have : o = [] := List.eq_nil_of_length_eq_zero h0
    subst this
    rw [if_pos (show (0 : Int) = (([] : List Ex).length : Int) from rfl), if_pos (by simp)]; rfl
  rw [if_neg (by omega), zij _ _ _ hl, x9, z45]
  by_cases f0 : z3v blocks (z7 o 0)
  case neg =>
    have e : zio blocks l (z7 o 0) = (l, 81) := by unfold zio; rw [if_pos hm, if_neg f0]
    have hex : ¬ ∀ x ∈ o, z3v blocks x := fun h => f0 (h _ (by
      unfold z7; rw [List.getD_eq_getElem?_getD, List.getElem?_eq_getElem (by omega)]; exact List.getElem_mem _))
    rw [e, if_neg (by simp), x9, if_neg hex]
  have e : zio blocks l (z7 o 0) = (put l (z7 o 0), 0) := by unfold zio; rw [if_pos hm, if_pos f0]
  rw [e, if_pos rfl]
  have hQ : (∀ i, i < o.length - 1 → z3v blocks (z7 o (i + 1))) ↔ ∀ x ∈ o, z3v blocks x := by
    constructor
    · intro h
      have := zjf (o := o) (n := o.length) (P := z3v blocks) (Nat.le_refl _) fun j hj => by
        cases j with
        | zero => exact f0
        | succ j => exact h j (by omega)
      rwa [List.take_length] at this
    · intro h i hi
      refine h _ ?_
      unfold z7; rw [List.getD_eq_getElem?_getD, List.getElem?_eq_getElem (by omega)]; exact List.getElem_mem _
  have hmk : ∀ i, i < o.length → (∀ j, j < i → z3v blocks (z7 o (j + 1))) → Mk blocks ((o.take (i + 1)).foldl put l) := fun i hi h => zhv _ _ hm (zjf (by omega) fun j hj => by
    cases j with
    | zero => exact f0
    | succ j => exact h j (by omega))
  show th (z1s blocks l o true l (put l (z7 o 0), 0)) (put l (z7 o 0), 1) _ = _
  rw [← zxj l o (by omega)]
  refine Eq.trans (zev (some (l, 81)) (some (o.foldl put l, 0)) (zpw l o) (o.length - 1) (fun i => z3v blocks (z7 o (i + 1))) (∀ x ∈ o, z3v blocks x) hQ (fun i hi hpre hp => ?_) (fun i hi hpre hp => ?_) (fun hall => ?_)) ?_
  · have hk := hmk i (by omega) hpre
    unfold z1s zpw
    simp only [z2w, z45, Int.toNat_natCast]
    rw [if_neg (by omega), x4 (by omega), zij _ _ _ (by have := z6b hk; omega), x9]
    unfold zio
    rw [if_pos hk, if_pos hp, if_pos rfl, j9 (by omega) (by omega), zl3 _ _ _ (show i + 1 < o.length by omega)]
    simp
  · have hk := hmk i (by omega) hpre
    have e2 : zio blocks ((o.take (i + 1)).foldl put l) (z7 o (i + 1)) = ((o.take (i + 1)).foldl put l, 81) := by unfold zio; rw [if_pos hk, if_neg hp]
    unfold z1s zpw
    simp only [z2w, z45, Int.toNat_natCast]
    rw [zij _ _ _ (by have := z6b hk; omega), e2]
    simp only [x9]
    rw [if_neg (by omega), x4 (by omega), if_neg (by omega), if_neg (by omega), x4 (by omega)]
    exact ⟨rfl, rfl⟩
  · unfold z1s zpw
    simp only [z2w]
    rw [if_pos (by omega), if_pos (by omega), show o.length - 1 + 1 = o.length by omega, List.take_length]
    exact ⟨rfl, rfl⟩
  · by_cases hall : ∀ x ∈ o, z3v blocks x
    · rw [if_pos hall, if_pos hall]
    · rw [if_neg hall, if_neg hall]
end Ab
end Go.Proofs.Ytimcbhhebnikiaa
