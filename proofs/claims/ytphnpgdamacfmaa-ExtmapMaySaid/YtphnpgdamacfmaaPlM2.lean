/- What the functions of maps answer, in plain words: parts of extents, within blocks, of generations; how many blocks. -/
import Derived.Test.YtphnpgdamacfmaaPlM
namespace Go.Proofs.Ytphnpgdamacfmaa
open Go Go.Proofs.Ytphnpgdamacfmaa.Ab
set_option linter.unusedVariables false
set_option linter.unusedSimpArgs false
namespace Ab
/-- The part of an extent within so many blocks, if there is one. -/
def Cu (x : Ex) (lba n : Int) : Prop := Ck x ∧ 0 ≤ lba ∧ lba ≤ 64 ∧ 0 ≤ n ∧ n ≤ 64 ∧ max x.lba lba < min (x.lba + x.len) (lba + n)
instance (x : Ex) (lba n : Int) : Decidable (Cu x lba n) := by unfold Cu; infer_instance
def cu (x : Ex) (lba n : Int) : Ex :=
  ⟨max x.lba lba, min (x.lba + x.len) (lba + n) - max x.lba lba, x.kind, x.gen, if x.kind = 2 then (x.d.drop (32 * (max x.lba lba - x.lba)).toNat).take (32 * (min (x.lba + x.len) (lba + n) - max x.lba lba)).toNat else []⟩
def e0 : Ex := ⟨0, 0, 0, 0, []⟩
def cut (x : Ex) (lba n : Int) : Option Ex := if Cu x lba n then some (cu x lba n) else none
def cutv (x : Ex) (lba n : Int) : Ex × Bool := if Cu x lba n then (cu x lba n, true) else (e0, false)
theorem cut_pos {x : Ex} {lba n : Int} (h : Cu x lba n) : cut x lba n = some (cu x lba n) := if_pos h
theorem cut_neg {x : Ex} {lba n : Int} (h : ¬ Cu x lba n) : cut x lba n = none := if_neg h
theorem cutv_pos {x : Ex} {lba n : Int} (h : Cu x lba n) : cutv x lba n = (cu x lba n, true) := if_pos h
theorem cutv_neg {x : Ex} {lba n : Int} (h : ¬ Cu x lba n) : cutv x lba n = (e0, false) := if_neg h
theorem dslice (d : List UInt8) (x f t : Int) (h1 : 0 ≤ x) (h2 : x ≤ f) (h3 : f ≤ t) (h4 : t ≤ 64) (hd : 32 * (t - x) ≤ d.length) :
    List.take (((32 * (t - x)).toNat - (32 * (f - x)).toNat) * 1) (List.take (((32 * (t - x)).toNat - (32 * (f - x)).toNat) * 1) (List.drop ((32 * (f - x)).toNat * 1) d)) = (d.drop (32 * (f - x)).toNat).take (32 * (t - f)).toNat := by
  rw [Nat.mul_one, Nat.mul_one, List.take_take, Nat.min_self, show (32 * (t - x)).toNat - (32 * (f - x)).toNat = (32 * (t - f)).toNat by omega]
theorem eCut_eq (x : Ex) (lba n : Int) : eCut x lba n = some (cutv x lba n) := by
  unfold eCut
  simp only [eCheck_eq, tc_some, tb_not, tb_dec, tb_beq, imin_eq, imax_eq]
  by_cases hc : Ck x
  case neg => rw [ck_f hc, tb_f]; unfold cutv; rw [if_neg fun h => hc h.1]; rfl
  rw [ck_t hc, tb_t]
  by_cases h1 : lba ≥ 0
  case neg => rw [if_neg h1]; unfold cutv; rw [if_neg fun h => h1 h.2.1]; rfl
  by_cases h2 : lba ≤ 64
  case neg => rw [if_pos h1, if_neg h2]; unfold cutv; rw [if_neg fun h => h2 h.2.2.1]; rfl
  by_cases h3 : n ≥ 0
  case neg => rw [if_pos h1, if_pos h2, if_neg h3]; unfold cutv; rw [if_neg fun h => h3 h.2.2.2.1]; rfl
  by_cases h4 : n ≤ 64
  case neg => rw [if_pos h1, if_pos h2, if_pos h3, if_neg h4]; unfold cutv; rw [if_neg fun h => h4 h.2.2.2.2.1]; rfl
  have hcc := hc
  unfold Ck at hcc
  rw [if_pos h1, if_pos h2, if_pos h3, if_pos h4, wr_id (x := x.lba + x.len) (by omega) (by omega), wr_id (x := lba + n) (by omega) (by omega)]
  have hf1 : x.lba ≤ max x.lba lba := by omega
  have hf2 : max x.lba lba ≤ 64 := by omega
  have ht1 : min (x.lba + x.len) (lba + n) ≤ x.lba + x.len := by omega
  have hcu : (Cu x lba n) ↔ max x.lba lba < min (x.lba + x.len) (lba + n) := ⟨fun h => h.2.2.2.2.2, fun h => ⟨hc, h1, h2, h3, h4, h⟩⟩
  unfold cutv
  simp only [hcu]
  unfold cu
  generalize max x.lba lba = f at hf1 hf2 ⊢
  generalize min (x.lba + x.len) (lba + n) = t at ht1 ⊢
  by_cases h5 : f ≥ t
  · rw [if_pos h5, if_neg (show ¬ f < t by omega)]; rfl
  rw [if_neg h5, if_pos (show f < t by omega)]
  have w1 : wr (f - x.lba) = f - x.lba := wr_id (by omega) (by omega)
  have w2 : wr (t - x.lba) = t - x.lba := wr_id (by omega) (by omega)
  have w3 : wr (t - f) = t - f := wr_id (by omega) (by omega)
  have w4 : wr ((f - x.lba) * 32) = 32 * (f - x.lba) := by rw [wr_id (by omega) (by omega)]; omega
  have w5 : wr ((t - x.lba) * 32) = 32 * (t - x.lba) := by rw [wr_id (by omega) (by omega)]; omega
  rw [w1, w2, w3, w4, w5]
  by_cases hk : x.kind = 2
  · have hd := hcc.2.2.2.2.2.2.2.2.1 hk
    rw [if_pos hk, if_pos hk, tp_pos (by omega), tp_pos (by omega), tp_pos (by rw [List.length_map]; omega), tp_pos (by omega), dslice _ _ _ _ (by omega) (by omega) (by omega) (by omega) (by omega)]
  · rw [if_neg hk, if_neg hk]
/-- A loop that gathers. -/
theorem th_gath {σ α : Type} {step : σ × Int → Option (σ × Int)} {f : σ × Int → Option α} (A : Nat → σ) (n : Nat) (hs : ∀ i : Nat, i < n → step (A i, (i : Int)) = some (A (i + 1), (i : Int) + 1)) (he : step (A n, (n : Int)) = none) : th step (A 0, 0) f = f (A n, (n : Int)) := by
  have := th_run (step := step) (f := f) (fun i => (A i, (i : Int))) n (fun i hi => by rw [hs i hi]; simp) he
  simpa using this
theorem mOwn_eq (l : List Ex) (hl : l.length ≤ 4294967295) (hd : ∀ x ∈ l, x.d.length ≤ 4294967296) : mOwn l = some l := by
  unfold mOwn
  have hstep : ∀ i : Nat, i < l.length → mOwn_L0_step l (l.take i, (i : Int)) = some (l.take (i + 1), (i : Int) + 1) := by
    intro i hi
    have h1 := (exAt_all l (fun x => x.d.length ≤ 4294967296)).2 hd i hi
    unfold mOwn_L0_step
    simp only [tb_dec, Int.toNat_natCast]
    rw [if_pos (by omega), tp_pos (by omega), tp_pos h1, tp_pos ⟨exs_len _, by rw [List.length_take]; omega⟩, wr_id (by omega) (by omega), take_at ⟨0, 0, 0, 0, []⟩ l i hi]
    rfl
  have he : mOwn_L0_step l (l.take l.length, (l.length : Int)) = none := by
    unfold mOwn_L0_step
    simp only [tb_dec]
    rw [if_neg (by omega)]
  have := fun f => th_gath (α := List Ex) (step := mOwn_L0_step l) (f := f) (fun i => l.take i) l.length hstep he
  simp only [List.take_zero] at this
  rw [this]
  simp only [tb_dec]
  rw [if_neg (by omega), tp_pos (by first | exact ⟨rfl, exs_len _⟩ | exact ⟨trivial, exs_len _⟩), List.take_length]
def Ro (blocks lba n : Int) : Prop := 0 ≤ lba ∧ lba ≤ blocks ∧ 1 ≤ n ∧ n ≤ blocks - lba
instance (blocks lba n : Int) : Decidable (Ro blocks lba n) := by unfold Ro; infer_instance
noncomputable def rng (blocks : Int) (l : List Ex) (lba n : Int) : List Ex × Int := if Mk blocks l then (if Ro blocks lba n then (l.filterMap (fun x => cut x lba n), 0) else ([], 81)) else ([], 80)
theorem ex_take1 (l : List Ex) (i : Nat) (hi : i < l.length) : l.take (i + 1) = l.take i ++ [exAt l i] := by unfold exAt; exact take_at _ l i hi
theorem fm_take (g : Ex → Option Ex) (l : List Ex) (i : Nat) (hi : i < l.length) : (l.take (i + 1)).filterMap g = (l.take i).filterMap g ++ (match g (exAt l i) with | some y => [y] | none => []) := by
  rw [ex_take1 l i hi, List.filterMap_append]
  generalize exAt l i = x
  cases h : g x <;> simp [List.filterMap_cons, h]
theorem mRange_eq (blocks : Int) (l : List Ex) (lba n : Int) (hl : l.length ≤ 4294967295) : mRange blocks l lba n = some (rng blocks l lba n) := by
  unfold mRange rng
  rw [mCheck_eq _ _ (by omega), tc_some, tb_not]
  by_cases hm : Mk blocks l
  case neg => rw [mk_f hm, tb_f, if_neg hm]
  rw [mk_t hm, tb_t, if_pos hm]
  have hb := mk_blocks hm
  simp only [tb_dec]
  by_cases h1 : lba < 0
  case pos => rw [if_pos h1, if_neg fun h => by have := h.1; omega]
  by_cases h2 : lba > blocks
  case pos => rw [if_neg h1, if_pos h2, if_neg fun h => by have := h.2.1; omega]
  by_cases h3 : n < 1
  case pos => rw [if_neg h1, if_neg h2, if_pos h3, if_neg fun h => by have := h.2.2.1; omega]
  have hw : wr (blocks - lba) = blocks - lba := wr_id (by omega) (by omega)
  rw [hw]
  by_cases h4 : n > blocks - lba
  case pos => rw [if_neg h1, if_neg h2, if_neg h3, if_pos h4, if_neg fun h => by have := h.2.2.2; omega]
  rw [if_neg h1, if_neg h2, if_neg h3, if_neg h4, if_pos ⟨by omega, by omega, by omega, by omega⟩]
  have hlen : ∀ i, ((l.take i).filterMap (fun x => cut x lba n)).length ≤ i := fun i => Nat.le_trans (List.length_filterMap_le _ _) (by rw [List.length_take]; omega)
  have hstep : ∀ i : Nat, i < l.length → mRange_L0_step blocks l lba n true ((l.take i).filterMap (fun x => cut x lba n), (i : Int)) = some ((l.take (i + 1)).filterMap (fun x => cut x lba n), (i : Int) + 1) := by
    intro i hi
    have := hlen i
    unfold mRange_L0_step
    simp only [tb_dec, Int.toNat_natCast, eCut_eq, tc_some]
    rw [if_pos (by omega), tp_pos (by omega), wr_id (by omega) (by omega), fm_take _ _ _ hi]
    by_cases hc : Cu (exAt l i) lba n
    · rw [cutv_pos hc, cut_pos hc, tb_t, tp_pos ⟨exs_len _, by omega⟩]
    · rw [cutv_neg hc, cut_neg hc, tb_f, List.append_nil]
  have he : mRange_L0_step blocks l lba n true ((l.take l.length).filterMap (fun x => cut x lba n), (l.length : Int)) = none := by
    unfold mRange_L0_step
    simp only [tb_dec]
    rw [if_neg (by omega)]
  have := fun f => th_gath (α := List Ex × Int) (step := mRange_L0_step blocks l lba n true) (f := f) (fun i => (l.take i).filterMap (fun x => cut x lba n)) l.length hstep he
  simp only [List.take_zero, List.filterMap_nil] at this
  rw [this]
  simp only
  rw [if_neg (by omega), tp_pos (by first | exact ⟨rfl, exs_len _⟩ | exact ⟨trivial, exs_len _⟩), List.take_length]
noncomputable def snc (blocks : Int) (l : List Ex) (gen : Int) : List Ex × Int := if Mk blocks l then (l.filter (fun x => decide (x.gen > gen)), 0) else ([], 80)
theorem fi_take (p : Ex → Bool) (l : List Ex) (i : Nat) (hi : i < l.length) : (l.take (i + 1)).filter p = (l.take i).filter p ++ (if p (exAt l i) = true then [exAt l i] else []) := by
  rw [ex_take1 l i hi, List.filter_append]
  generalize exAt l i = x
  cases h : p x <;> simp [h]
theorem mSince_eq (blocks : Int) (l : List Ex) (gen : Int) (hl : l.length ≤ 4294967295) (hd : ∀ x ∈ l, x.d.length ≤ 4294967296) : mSince blocks l gen = some (snc blocks l gen) := by
  unfold mSince snc
  rw [mCheck_eq _ _ (by omega), tc_some, tb_not]
  by_cases hm : Mk blocks l
  case neg => rw [mk_f hm, tb_f, if_neg hm]
  rw [mk_t hm, tb_t, if_pos hm, mOwn_eq l hl hd, tc_some]
  simp only [tb_dec]
  have hlen : ∀ i, ((l.take i).filter (fun x => decide (x.gen > gen))).length ≤ i := fun i => Nat.le_trans (List.length_filter_le _ _) (by rw [List.length_take]; omega)
  have hstep : ∀ i : Nat, i < l.length → mSince_L0_step blocks l gen true l ((l.take i).filter (fun x => decide (x.gen > gen)), (i : Int)) = some ((l.take (i + 1)).filter (fun x => decide (x.gen > gen)), (i : Int) + 1) := by
    intro i hi
    have := hlen i
    unfold mSince_L0_step
    simp only [tb_dec, Int.toNat_natCast]
    rw [if_pos (by omega), tp_pos (by omega), wr_id (by omega) (by omega), fi_take _ _ _ hi]
    by_cases hc : (exAt l i).gen > gen
    · simp only [hc, if_true, decide_true]; rw [tp_pos ⟨exs_len _, by omega⟩]
    · simp only [hc, if_false, decide_false, Bool.false_eq_true, List.append_nil]
  have he : mSince_L0_step blocks l gen true l ((l.take l.length).filter (fun x => decide (x.gen > gen)), (l.length : Int)) = none := by
    unfold mSince_L0_step
    simp only [tb_dec]
    rw [if_neg (by omega)]
  have := fun f => th_gath (α := List Ex × Int) (step := mSince_L0_step blocks l gen true l) (f := f) (fun i => (l.take i).filter (fun x => decide (x.gen > gen))) l.length hstep he
  simp only [List.take_zero, List.filter_nil] at this
  rw [this]
  simp only
  rw [if_neg (by omega), tp_pos (by first | exact ⟨rfl, exs_len _⟩ | exact ⟨trivial, exs_len _⟩), List.take_length]
/-- How many blocks are of a kind. -/
def many : List Ex → Int → Int
  | [], _ => 0
  | x :: l, k => (if ck x = true ∧ x.kind = k then x.len else 0) + many l k
theorem many_append : ∀ (a b : List Ex) (k : Int), many (a ++ b) k = many a k + many b k
  | [], b, k => by simp [many]
  | x :: a, b, k => by simp only [List.cons_append, many, many_append a b k]; omega
theorem many_take (l : List Ex) (k : Int) (i : Nat) (h : i < l.length) : many (l.take (i + 1)) k = many (l.take i) k + if ck (exAt l i) = true ∧ (exAt l i).kind = k then (exAt l i).len else 0 := by
  rw [take_at ⟨0, 0, 0, 0, []⟩ l i h, many_append]; simp only [many]; unfold exAt; omega
theorem many_bound : ∀ (l : List Ex) (k : Int), 0 ≤ many l k ∧ many l k ≤ 64 * l.length
  | [], k => by simp [many]
  | x :: l, k => by
    have := many_bound l k
    simp only [many, List.length_cons]
    split
    · rename_i h
      have hc := ck_iff.1 h.1
      unfold Ck at hc
      omega
    · omega
theorem mMany_eq (l : List Ex) (k : Int) (hl : l.length ≤ 4294967296) : mMany l k = some (many l k) := by
  unfold mMany
  simp only [tb_dec]
  have hstep : ∀ i : Nat, i < l.length → mMany_L0_step l k (many (l.take i) k, (i : Int)) = some (many (l.take (i + 1)) k, (i : Int) + 1) := by
    intro i hi
    have hb := many_bound (l.take i) k
    rw [List.length_take] at hb
    unfold mMany_L0_step
    simp only [tb_dec, tb_beq, Int.toNat_natCast, eCheck_eq, tc_some]
    rw [if_pos (by omega), tp_pos (by omega), wr_id (x := (i : Int) + 1) (by omega) (by omega), many_take _ _ _ hi]
    by_cases hc : ck (exAt l i) = true
    · have hcc := ck_iff.1 hc
      unfold Ck at hcc
      rw [tb_pos hc]
      by_cases hk : (exAt l i).kind = k
      · rw [if_pos hk, if_pos (show ck (exAt l i) = true ∧ (exAt l i).kind = k from ⟨hc, hk⟩), wr_id (by omega) (by omega)]
      · rw [if_neg hk, if_neg (show ¬ (ck (exAt l i) = true ∧ (exAt l i).kind = k) from fun h => hk h.2)]; simp
    · rw [if_neg (show ¬ (ck (exAt l i) = true ∧ (exAt l i).kind = k) from fun h => hc h.1), tb_neg (by simpa using hc)]; simp
  have he : mMany_L0_step l k (many (l.take l.length) k, (l.length : Int)) = none := by
    unfold mMany_L0_step
    simp only [tb_dec]
    rw [if_neg (by omega)]
  have := fun f => th_gath (α := Int) (step := mMany_L0_step l k) (f := f) (fun i => many (l.take i) k) l.length hstep he
  simp only [List.take_zero, many] at this
  rw [this]
  simp only
  rw [if_neg (by omega), List.take_length]
end Ab
end Go.Proofs.Ytphnpgdamacfmaa
