/- What the functions of zeros answer, in plain words: extents of bytes. -/
import Derived.Test.YtiaelfmohamipaaPlZ2
namespace Go.Proofs.Ytiaelfmohamipaa
open Go Go.Proofs.Ytiaelfmohamipaa.Ab
set_option linter.unusedVariables false
set_option linter.unusedSimpArgs false
namespace Ab
def mkx (lba : Int) (b : List UInt8) (c : Bool) (n : Int) : Ex := if c = true then ⟨lba, n, 1, 0, []⟩ else ⟨lba, n, 2, 0, b.take (32 * n).toNat⟩
def ly : Int → List UInt8 → Bool → Int → List Bool → List Ex
  | lba, b, c, n, [] => if n = 0 then [] else [mkx lba b c n]
  | lba, b, c, n, z :: zs => if z = c then ly lba b c (n + 1) zs else if n = 0 then ly lba b z 1 zs else mkx lba b c n :: ly (lba + n) (b.drop (32 * n).toNat) z 1 zs
def Lo (lba : Int) (b : List UInt8) : Prop := b.length % 32 = 0 ∧ 0 ≤ lba ∧ lba ≤ 64 ∧ (b.length : Int) / 32 ≤ 64 - lba
instance (lba : Int) (b : List UInt8) : Decidable (Lo lba b) := by unfold Lo; infer_instance
def lay (lba : Int) (b : List UInt8) : List Ex × Int := if Lo lba b then (ly lba b false 0 (flags b), 0) else ([], 150)
theorem tdiv32 (n : Nat) : Int.tdiv (n : Int) 32 = (n : Int) / 32 := Int.tdiv_eq_ediv_of_nonneg (by omega)
theorem pLay_B1_eq (lba0 : Int) (b0 : List UInt8) (c : Bool) (n : Int) (b' : List UInt8) (out : List Ex) (bc : List UInt8) (lba : Int) (h1 : 0 ≤ n) (h2 : n ≤ 64) (h3 : 32 * n ≤ bc.length) (h4 : 0 ≤ lba) (h5 : lba ≤ 64) (h6 : out.length ≤ 64) :
    pLay_B1 lba0 b0 (c, n, b', out, bc, lba) = some (out ++ [mkx lba bc c n], bc.drop (32 * n).toNat, lba + n) := by
  unfold pLay_B1
  simp only [tb_not]
  have w1 : wr (n * 32) = 32 * n := by rw [wr_id (by omega) (by omega)]; omega
  have w2 : wr (lba + n) = lba + n := wr_id (by omega) (by omega)
  rw [w1, w2]
  have hr : List.take ((bc.length - (32 * n).toNat) * 1) (bc.drop ((32 * n).toNat * 1)) = bc.drop (32 * n).toNat := by rw [Nat.mul_one, Nat.mul_one]; exact List.take_of_length_le (by simp)
  rw [hr]
  cases c with
  | true =>
    rw [tb_t, tp_pos ⟨exs_len _, by omega⟩, tp_pos (by omega), tp_pos (by rw [List.length_map]; omega)]
    rfl
  | false =>
    rw [tb_f, tp_pos (by omega), tp_pos (by rw [List.length_map]; omega), tp_pos (by omega), tp_pos ⟨exs_len _, by omega⟩]
    simp [mkx, List.take_take]
theorem pLay_B3_eq (lba0 : Int) (b0 : List UInt8) (c : Bool) (n : Int) (b' : List UInt8) (out : List Ex) (bc : List UInt8) (lba : Int) (h1 : 0 ≤ n) (h2 : n ≤ 64) (h3 : 32 * n ≤ bc.length) (h4 : 0 ≤ lba) (h5 : lba ≤ 64) (h6 : out.length ≤ 64) :
    pLay_B3 lba0 b0 (c, n, b', out, bc, lba) = some (out ++ [mkx lba bc c n], bc.drop (32 * n).toNat, lba + n) := pLay_B1_eq lba0 b0 c n b' out bc lba h1 h2 h3 h4 h5 h6
theorem pLay_eq (lba : Int) (b : List UInt8) (hb : b.length ≤ 4294967000) : pLay lba b = some (lay lba b) := by
  unfold pLay lay
  simp only [tb_bne, tb_dec, tdiv32]
  by_cases hm : b.length % 32 = 0
  case neg => rw [if_neg (fun h => hm ((tmod32 _).1 h)), if_neg fun h => hm h.1]
  rw [if_pos ((tmod32 _).2 hm)]
  by_cases h1 : lba < 0
  case pos => rw [if_pos h1, if_neg fun h => by have := h.2.1; omega]
  by_cases h2 : lba > 64
  case pos => rw [if_neg h1, if_pos h2, if_neg fun h => by have := h.2.2.1; omega]
  rw [if_neg h1, if_neg h2, wr_id (x := 64 - lba) (by omega) (by omega), wr_id (x := (b.length : Int) / 32) (by omega) (by omega)]
  by_cases h3 : (b.length : Int) / 32 > 64 - lba
  case pos => rw [if_pos h3, if_neg fun h => by have := h.2.2.2; omega]
  rw [if_neg h3, if_pos ⟨hm, by omega, by omega, by omega⟩]
  rw [th_rec (fun s : Bool × Int × List UInt8 × List Ex × List UInt8 × Int => some (s.2.2.2.1 ++ ly s.2.2.2.2.2 s.2.2.2.2.1 s.1 s.2.1 (flags s.2.2.1), (0 : Int)))
    (fun s => 0 ≤ s.2.1 ∧ (s.2.2.2.2.1.length : Int) = 32 * s.2.1 + s.2.2.1.length ∧ 0 ≤ s.2.2.2.2.2 ∧ s.2.2.2.2.2 + s.2.1 + (s.2.2.1.length : Int) / 32 ≤ 64 ∧ (s.2.2.2.1.length : Int) ≤ s.2.2.2.2.2) (fun s => s.2.2.1.length)]
  · simp
  · exact ⟨by simp, by simp, by simp only; omega, by simp only; omega, by simp only [List.length_nil]; omega⟩
  rintro ⟨c, n, b', out, bc, lb⟩ ⟨i1, i2, i3, i4, i5⟩
  simp only at i1 i2 i3 i4 i5 ⊢
  unfold pLay_L0_step
  rw [pLay_B1_eq _ _ _ _ _ _ _ _ i1 (by omega) (by omega) i3 (by omega) (by omega), pLay_B3_eq _ _ _ _ _ _ _ _ i1 (by omega) (by omega) i3 (by omega) (by omega)]
  simp only [tb_dec, zb_eq, rest_eq, tc_some]
  have hw : wr (n + 1) = n + 1 := wr_id (by omega) (by omega)
  rw [hw]
  by_cases hl : (b'.length : Int) ≥ 32
  · left
    rw [if_pos hl, tp_pos (by simp; omega)]
    have hf := flags_cons (b := b') (by omega)
    have hdl : (b'.drop 32).length = b'.length - 32 := List.length_drop
    rw [hf]
    by_cases hz : zb (b'.take 32) = c
    · have e1 : (!(zb (b'.take 32) == c)) = false := by rw [hz]; simp
      rw [e1, tb_f]
      refine ⟨_, rfl, ⟨by simp only; omega, by simp only [hdl]; omega, i3, by simp only [hdl]; omega, i5⟩, by simp only [hdl]; omega, ?_⟩
      simp only [ly]
      rw [if_pos hz, hz]
    · have e1 : (!(zb (b'.take 32) == c)) = true := by simp [hz]
      rw [e1, tb_t]
      by_cases hn : n > 0
      · rw [if_pos hn]
        refine ⟨_, rfl, ⟨by simp, by simp only [hdl, List.length_drop]; omega, by simp only; omega, by simp only [hdl]; omega, by simp only [List.length_append, List.length_singleton]; omega⟩, by simp only [hdl]; omega, ?_⟩
        simp only [ly]
        rw [if_neg hz, if_neg (show ¬ n = 0 by omega)]
        simp
      · rw [if_neg hn]
        have hn0 : n = 0 := by omega
        subst hn0
        refine ⟨_, rfl, ⟨by simp, by simp only [hdl]; omega, i3, by simp only [hdl]; omega, i5⟩, by simp only [hdl]; omega, ?_⟩
        simp only [ly]
        rw [if_neg hz, if_pos trivial]
        rfl
  · right
    rw [if_neg hl, if_neg hl, flags_nil (b := b') (by omega)]
    refine ⟨rfl, ?_⟩
    simp only [ly]
    by_cases hn : n > 0
    · rw [if_pos hn, tp_pos (by first | exact ⟨rfl, exs_len _⟩ | exact ⟨trivial, exs_len _⟩), if_neg (show ¬ n = 0 by omega)]
    · rw [if_neg hn, tp_pos (by first | exact ⟨rfl, exs_len _⟩ | exact ⟨trivial, exs_len _⟩), if_pos (show n = 0 by omega), List.append_nil]
/-- The same, out of runs. -/
def lr : Int → List UInt8 → Bool → List Int → List Ex
  | _, _, _, [] => []
  | lba, b, c, n :: ns => if n = 0 then lr lba b (!c) ns else mkx lba b c n :: lr (lba + n) (b.drop (32 * n).toNat) (!c) ns
theorem lr_rn : ∀ (zs : List Bool) (lba : Int) (b : List UInt8) (c : Bool) (n : Int), lr lba b c (rn c n zs) = ly lba b c n zs
  | [], lba, b, c, n => by simp only [rn, lr, ly]
  | z :: zs, lba, b, c, n => by
    simp only [rn, ly]
    by_cases hz : z = c
    · rw [if_pos hz, if_pos hz, lr_rn zs]
    · have hzc : (!c) = z := by cases z <;> cases c <;> simp_all
      rw [if_neg hz, if_neg hz]
      simp only [lr]
      rw [hzc, lr_rn zs, lr_rn zs]
theorem lr_runs (lba : Int) (b : List UInt8) (zs : List Bool) : lr lba b false (Ab.runs zs) = ly lba b false 0 zs := by
  unfold Ab.runs
  split
  · rename_i h; subst h; simp [lr, ly]
  · exact lr_rn zs lba b false 0
theorem runs_tot (b : List UInt8) : (sm (Ab.runs (flags b))).1 + (sm (Ab.runs (flags b))).2 = (b.length : Int) / 32 := by
  have h1 := sm_runs (flags b)
  have h2 := cnt_both (flags b)
  have h3 : (flags b).length = b.length / 32 := fl_length _ _
  rw [h1]; simp only; omega
theorem runs_nn (zs : List Bool) : ∀ x ∈ Ab.runs zs, 0 ≤ x := by
  unfold Ab.runs
  split
  · simp
  · exact rn_pos zs false 0 (by omega)
theorem runs_ln (b : List UInt8) : (Ab.runs (flags b)).length ≤ b.length / 32 + 1 := by
  have h3 : (flags b).length = b.length / 32 := fl_length _ _
  unfold Ab.runs
  split
  · simp
  · have := rn_lenb (flags b) false 0; omega
theorem rLay_eq (lba : Int) (b : List UInt8) (hb : b.length ≤ 4294967000) : rLay lba b = some (lay lba b) := by
  unfold rLay lay
  rw [rSplit_eq b hb, tc_some]
  by_cases hm : b.length % 32 = 0
  case neg => rw [if_neg hm, if_neg fun h => hm h.1]; rfl
  rw [if_pos hm]
  simp only [tb_bne, tb_dec, tdiv32, if_true]
  by_cases h1 : lba < 0
  case pos => rw [if_pos h1, if_neg fun h => by have := h.2.1; omega]
  by_cases h2 : lba > 64
  case pos => rw [if_neg h1, if_pos h2, if_neg fun h => by have := h.2.2.1; omega]
  rw [if_neg h1, if_neg h2, wr_id (x := 64 - lba) (by omega) (by omega), wr_id (x := (b.length : Int) / 32) (by omega) (by omega)]
  by_cases h3 : (b.length : Int) / 32 > 64 - lba
  case pos => rw [if_pos h3, if_neg fun h => by have := h.2.2.2; omega]
  rw [if_neg h3, if_pos ⟨hm, by omega, by omega, by omega⟩]
  have ht := runs_tot b
  have hnn := runs_nn (flags b)
  have hln := runs_ln b
  rw [← lr_runs]
  generalize Ab.runs (flags b) = rs at ht hnn hln ⊢
  rw [th_rec (fun s : Int × List Ex × Int => some (s.2.1 ++ lr (lba + s.2.2) (b.drop (32 * s.2.2).toNat) (decide (s.1 % 2 = 1)) (rs.drop s.1.toNat), (0 : Int)))
    (fun s => 0 ≤ s.1 ∧ s.1 ≤ rs.length ∧ 0 ≤ s.2.2 ∧ s.2.2 + ((sm (rs.drop s.1.toNat)).1 + (sm (rs.drop s.1.toNat)).2) = (b.length : Int) / 32 ∧ (s.2.1.length : Int) ≤ s.1) (fun s => (rs.length - s.1).toNat)]
  · simp
  · exact ⟨by simp, by simp, by simp, by simpa using ht, by simp⟩
  rintro ⟨i, out, at_⟩ ⟨i1, i2, i3, i4, i5⟩
  simp only at i1 i2 i3 i4 i5 ⊢
  unfold rLay_L0_step
  simp only [tb_dec, tb_beq, Nat.mul_one]
  by_cases hi : i < (rs.length : Int)
  · left
    have e := drop_at 0 rs i.toNat (by omega)
    have hx := hnn (rs.getD i.toNat 0) (List.mem_of_mem_drop (i := i.toNat) (by rw [e]; simp))
    have htl := sm_pos (rs.drop (i.toNat + 1)) fun y hy => hnn y (List.mem_of_mem_drop hy)
    rw [e] at i4
    simp only [sm] at i4
    have hi1 : wr (i + 1) = i + 1 := wr_id (by omega) (by omega)
    have ht1 : (i + 1).toNat = i.toNat + 1 := by omega
    have hpar : decide ((i + 1) % 2 = 1) = !decide (i % 2 = 1) := by
      rw [Bool.eq_iff_iff]; simp; omega
    have htm : (Int.tmod i 2 = 0) ↔ i % 2 = 0 := by rw [Int.tmod_eq_emod_of_nonneg i1]
    rw [if_pos hi, tp_pos ⟨i1, hi⟩, hi1, e]
    generalize rs.getD i.toNat 0 = n at hx i4 ⊢
    generalize hT : rs.drop (i.toNat + 1) = tl at htl i4 ⊢
    by_cases hn : n = 0
    · subst hn
      rw [if_pos rfl]
      refine ⟨_, rfl, ⟨by simp only; omega, by simp only; omega, i3, by simp only [ht1, hT]; omega, by simp only; omega⟩, by simp only; omega, ?_⟩
      simp only [ht1, hT, hpar, lr, if_true]
    · rw [if_neg hn]
      have w1 : wr (32 * at_) = 32 * at_ := wr_id (by omega) (by omega)
      have w2 : wr (at_ + n) = at_ + n := wr_id (by omega) (by omega)
      have w3 : wr (32 * (at_ + n)) = 32 * (at_ + n) := wr_id (by omega) (by omega)
      have w4 : wr (lba + at_) = lba + at_ := wr_id (by omega) (by omega)
      rw [w1, w2, w3, w4]
      have hdd : List.drop (32 * n).toNat (List.drop (32 * at_).toNat b) = List.drop (32 * (at_ + n)).toNat b := by
        rw [List.drop_drop, show (32 * at_).toNat + (32 * n).toNat = (32 * (at_ + n)).toNat by omega]
      by_cases hp : i % 2 = 0
      · rw [if_pos (htm.2 hp), tp_pos (by omega), tp_pos (by omega), tp_pos (by rw [List.length_map]; omega), tp_pos (by omega), tp_pos ⟨exs_len _, by omega⟩]
        refine ⟨_, rfl, ⟨by simp only; omega, by simp only; omega, by simp only; omega, by simp only [ht1, hT]; omega, by simp only [List.length_append, List.length_singleton]; omega⟩, by simp only; omega, ?_⟩
        have hc : decide (i % 2 = 1) = false := by rw [decide_eq_false_iff_not]; omega
        simp only [ht1, hT, hpar, hc, lr]
        rw [if_neg hn, hdd, show lba + (at_ + n) = lba + at_ + n by omega]
        simp only [mkx, Bool.false_eq_true, if_false, List.append_assoc, List.singleton_append]
        rw [List.take_take, Nat.min_self, show (32 * (at_ + n)).toNat - (32 * at_).toNat = (32 * n).toNat by omega]
      · rw [if_neg (fun h => hp (htm.1 h)), tp_pos ⟨exs_len _, by omega⟩]
        refine ⟨_, rfl, ⟨by simp only; omega, by simp only; omega, by simp only; omega, by simp only [ht1, hT]; omega, by simp only [List.length_append, List.length_singleton]; omega⟩, by simp only; omega, ?_⟩
        have hc : decide (i % 2 = 1) = true := by rw [decide_eq_true_iff]; omega
        simp only [ht1, hT, hpar, hc, lr]
        rw [if_neg hn, hdd, show lba + (at_ + n) = lba + at_ + n by omega]
        simp only [mkx, if_true, List.append_assoc, List.singleton_append]
  · right
    rw [if_neg hi, if_neg hi]
    refine ⟨rfl, ?_⟩
    rw [List.drop_of_length_le (l := rs) (i := i.toNat) (by omega), tp_pos (by first | exact ⟨rfl, exs_len _⟩ | exact ⟨trivial, exs_len _⟩)]
    simp [lr]
end Ab
end Go.Proofs.Ytiaelfmohamipaa
