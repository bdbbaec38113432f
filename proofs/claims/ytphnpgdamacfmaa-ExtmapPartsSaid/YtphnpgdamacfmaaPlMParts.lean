/- The law of the parts of a map within two stretches. -/
import Derived.Test.YtphnpgdamacfmaaPlMCh
import Derived.Test.YtphnpgdamacfmaaFlParts
import Derived.Test.YtphnpgdamacfmaaAbsZ
namespace Go.Proofs.Ytphnpgdamacfmaa
open Go Go.Proofs.Ytphnpgdamacfmaa.Ab
set_option linter.unusedVariables false
set_option linter.unusedSimpArgs false
namespace Ab
theorem tmod_b (a : UInt8) {d : Int} (hd : 1 ≤ d) : 0 ≤ Int.tmod (a.toNat : Int) d ∧ Int.tmod (a.toNat : Int) d ≤ d - 1 := by
  rw [Int.tmod_eq_emod_of_nonneg (by omega)]
  exact ⟨Int.emod_nonneg _ (by omega), by have := Int.emod_lt_of_pos (a.toNat : Int) (show 0 < d by omega); omega⟩
theorem u8_wr (a : UInt8) : wr (a.toNat : Int) = (a.toNat : Int) := by
  have := a.toNat_lt
  exact wr_id (by omega) (by omega)
theorem rng_ok {blocks : Int} {l : List Ex} (h : Mk blocks l) {lo n : Int} (g : Ro blocks lo n) : rng blocks l lo n = (fm lo n l, 0) := by
  unfold rng; rw [if_pos h, if_pos g]; rfl
theorem lExtmapParts_true (blocks : Int) (l : List Ex) (lba a b : UInt8) : lExtmapParts blocks l lba a b = some true := by
  unfold lExtmapParts aw8
  rw [tc_some, few_eq, tc_some, tb_not]
  by_cases hf : l.length ≤ 70 ∧ ∀ x ∈ l, x.d.length ≤ 3000
  case neg => rw [decide_eq_false hf]; rfl
  rw [decide_eq_true hf, tb_t, mCheck_eq _ _ (by omega), tc_some, tb_not]
  by_cases hm : Mk blocks l
  case neg => rw [mk_f hm]; rfl
  have hb := mk_blocks hm
  rw [mk_t hm, tb_t, tb_dec]
  by_cases h2 : blocks < 2
  · rw [if_pos h2]
  rw [if_neg h2, u8_wr, u8_wr, u8_wr, wr_id (x := blocks - 1) (by omega) (by omega)]
  have t1 := tmod_b lba (d := blocks - 1) (by omega)
  generalize Int.tmod (lba.toNat : Int) (blocks - 1) = fr at t1 ⊢
  rw [wr_id (x := blocks - fr) (by omega) (by omega), wr_id (x := blocks - fr - 1) (by omega) (by omega)]
  have t2 := tmod_b a (d := blocks - fr - 1) (by omega)
  generalize Int.tmod (a.toNat : Int) (blocks - fr - 1) = n0 at t2 ⊢
  rw [wr_id (x := 1 + n0) (by omega) (by omega), wr_id (x := blocks - fr - (1 + n0)) (by omega) (by omega)]
  have t3 := tmod_b b (d := blocks - fr - (1 + n0)) (by omega)
  generalize Int.tmod (b.toNat : Int) (blocks - fr - (1 + n0)) = m0 at t3 ⊢
  rw [wr_id (x := 1 + m0) (by omega) (by omega), wr_id (x := fr + (1 + n0)) (by omega) (by omega), wr_id (x := 1 + n0 + (1 + m0)) (by omega) (by omega)]
  rw [tp_pos (beq_eq_false_iff_ne.2 (by omega)), tp_pos (beq_eq_false_iff_ne.2 (by omega)), tp_pos (beq_eq_false_iff_ne.2 (by omega))]
  rw [mRange_eq _ _ _ _ (by omega), mRange_eq _ _ _ _ (by omega), mRange_eq _ _ _ _ (by omega)]
  rw [rng_ok hm (show Ro blocks fr (1 + n0) from ⟨by omega, by omega, by omega, by omega⟩), rng_ok hm (show Ro blocks (fr + (1 + n0)) (1 + m0) from ⟨by omega, by omega, by omega, by omega⟩), rng_ok hm (show Ro blocks fr (1 + n0 + (1 + m0)) from ⟨by omega, by omega, by omega, by omega⟩)]
  have hX : (fm fr (1 + n0) l).length ≤ 70 := Nat.le_trans (List.length_filterMap_le _ _) hf.1
  have hY : (fm (fr + (1 + n0)) (1 + m0) l).length ≤ 70 := Nat.le_trans (List.length_filterMap_le _ _) hf.1
  have hZ : (fm fr (1 + n0 + (1 + m0)) l).length ≤ 70 := Nat.le_trans (List.length_filterMap_le _ _) hf.1
  obtain ⟨F1, u, v, F2, e1, e2, e3⟩ := fm_parts hm (lo := fr) (n := 1 + n0) (m := 1 + m0) (by omega) (by omega) (by omega) (by omega)
  simp only [tc_some, tb_bne, if_true]
  rw [e1] at hX ⊢
  rw [e2] at hY ⊢
  simp only [List.length_append, List.length_cons, List.length_nil] at hX hY
  have hk : (wr (((F1 ++ [u]).length : Int) - 1)) = (F1.length : Int) := by
    rw [List.length_append, List.length_singleton, wr_id (by omega) (by omega)]; omega
  rw [hk]
  simp only [tb_beq, Int.toNat_natCast]
  rw [if_neg (by rw [List.length_append, List.length_singleton]; omega), if_neg (by rw [List.length_cons]; omega), tp_pos (exs_len _), tp_pos (by rw [List.length_append, List.length_singleton]; omega), tp_pos (by rw [List.length_append, List.length_singleton]; omega)]
  have x1 : exAt (F1 ++ [u]) F1.length = u := by unfold exAt; simp
  have x2 : exAt (v :: F2) 0 = v := rfl
  have k1 : List.take (F1.length - 0) (List.drop 0 (F1 ++ [u])) = F1 := by simp
  have k2 : List.take ((v :: F2).length - 1) (List.drop 1 (v :: F2)) = F2 := by simp
  rw [x1, x2, eJoin_eq, tc_some, k1, k2]
  rcases e3 with ⟨j, e3⟩ | ⟨j, e3⟩
  · have hj : jnv u v = (jnx u v, 0) := if_pos j
    rw [hj, e3, if_pos rfl, tp_pos ⟨by omega, by rw [List.length_append, List.length_singleton]; omega, exs_len _⟩, tp_pos ⟨by rw [List.length_cons]; omega, Nat.le_refl _, exs_len _⟩]
    rw [tp_pos ⟨by simp only [List.drop_zero, List.length_append, List.length_take, List.length_drop, exs_len, List.length_cons, List.length_nil]; omega, by rw [List.length_cons]; omega⟩]
    rw [tp_pos (by first | exact ⟨rfl, by simp only [List.drop_zero, List.length_append, List.length_take, List.length_drop, exs_len, List.length_cons, List.length_nil]; omega⟩ | exact ⟨trivial, by simp only [List.drop_zero, List.length_append, List.length_take, List.length_drop, exs_len, List.length_cons, List.length_nil]; omega⟩), r7All_eq _ _ (by rw [List.length_append, List.length_cons]; omega)]
    simp
  · have hj : jnv u v = (⟨0, 0, 0, 0, []⟩, 70) := if_neg j
    rw [hj, e3, if_neg (by decide), tp_pos (exs_len _), tp_pos ⟨exs_len _, by rw [List.length_append, List.length_singleton, List.length_cons]; omega⟩]
    rw [tp_pos (by first | exact ⟨rfl, by rw [List.length_append, exs_len, exs_len]; omega⟩ | exact ⟨trivial, by rw [List.length_append, exs_len, exs_len]; omega⟩), r7All_eq _ _ (by rw [List.length_append, List.length_append, List.length_singleton, List.length_cons]; omega)]
    simp
theorem extmapParts_call (blocks : Int) (l : List Ex) (lba a b : UInt8) (_ : I64 blocks) (_ : ∀ x ∈ l, Ex.ok x) : EvFr Try.prog cf false 7 [.i blocks, .sl l.length (l.flatMap Ex.cells), .y lba, .y a, .y b] (.b true) := lExtmapParts_ok blocks l lba a b true (lExtmapParts_true blocks l lba a b)
end Ab
end Go.Proofs.Ytphnpgdamacfmaa
