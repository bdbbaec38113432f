/- The law of the three kinds' blocks. -/
import Derived.Test.YtphnpgdamacfmaaPlM2
import Derived.Test.YtphnpgdamacfmaaFlMany
import Derived.Test.YtphnpgdamacfmaaAbsZ
namespace Go.Proofs.Ytphnpgdamacfmaa
open Go Go.Proofs.Ytphnpgdamacfmaa.Ab
set_option linter.unusedVariables false
set_option linter.unusedSimpArgs false
namespace Ab
theorem ck_dlen8 {x : Ex} (h : Ck x) : x.d.length ≤ 2048 := by
  unfold Ck at h
  by_cases hk : x.kind = 2
  · have := h.2.2.2.2.2.2.2.2.1 hk; omega
  · rw [h.2.2.2.2.2.2.2.2.2 hk]; simp
theorem ex_mem {l : List Ex} {x : Ex} (hx : x ∈ l) : ∃ i, i < l.length ∧ x = exAt l i := by
  obtain ⟨i, hi, e⟩ := List.getElem_of_mem hx
  exact ⟨i, hi, by unfold exAt; simp [hi, e]⟩
theorem sl_nonneg : ∀ (l : List Ex), (∀ x ∈ l, Ck x) → 0 ≤ sl l
  | [], _ => by simp [sl]
  | x :: l, h => by
    have h1 := sl_nonneg l fun y hy => h y (by simp [hy])
    have h2 := h x (by simp)
    unfold Ck at h2
    simp only [sl]; omega
theorem mk_mem {blocks : Int} {l : List Ex} (h : Mk blocks l) {x : Ex} (hx : x ∈ l) : Ck x ∧ x.lba + x.len ≤ blocks := by
  obtain ⟨i, hi, e⟩ := ex_mem hx
  have hm : Ck (exAt l i) ∧ (exAt l i).lba = sl (l.take i) ∧ _ := h.2.1 i hi
  rw [← e] at hm
  refine ⟨hm.1, ?_⟩
  have hall : ∀ y ∈ l, Ck y := fun y hy => by
    obtain ⟨j, hj, e⟩ := ex_mem hy
    rw [e]; exact (h.2.1 j hj).1
  have h1 := sl_take l i hi
  have h2 : sl l = sl (l.take (i + 1)) + sl (l.drop (i + 1)) := by rw [← sl_append, List.take_append_drop]
  have h3 := sl_nonneg (l.drop (i + 1)) fun y hy => hall y (List.mem_of_mem_drop hy)
  have h4 := h.2.2
  have h5 := hm.2.1
  rw [← e] at h1
  omega
/-- The greatest generation. -/
def gm : List Ex → Int → Int
  | [], m => m
  | x :: l, m => gm l (max m x.gen)
theorem gm_app : ∀ (a b : List Ex) (m : Int), gm (a ++ b) m = gm b (gm a m)
  | [], _, _ => rfl
  | x :: a, b, m => by simp only [List.cons_append, gm, gm_app a b]
theorem gm_take (l : List Ex) (i : Nat) (hi : i < l.length) (m : Int) : gm (l.take (i + 1)) m = max (gm (l.take i) m) (exAt l i).gen := by
  rw [ex_take1 l i hi, gm_app]; rfl
theorem gm_ge : ∀ (l : List Ex) (m : Int), m ≤ gm l m ∧ ∀ x ∈ l, x.gen ≤ gm l m
  | [], m => by simp [gm]
  | x :: l, m => by
    have h := gm_ge l (max m x.gen)
    simp only [gm]
    refine ⟨by omega, fun y hy => ?_⟩
    rcases List.mem_cons.1 hy with e | e
    · subst e; omega
    · exact h.2 y e
theorem many_sum : ∀ (l : List Ex), (∀ x ∈ l, Ck x) → many l 0 + many l 1 + many l 2 = sl l
  | [], _ => by simp [many, sl]
  | x :: l, h => by
    have h1 := many_sum l fun y hy => h y (by simp [hy])
    have h2 := h x (by simp)
    simp only [many, sl, ck_t h2, true_and]
    unfold Ck at h2
    have h3 : x.kind = 0 ∨ x.kind = 1 ∨ x.kind = 2 := by omega
    rcases h3 with e | e | e <;> rw [e] <;> simp <;> omega
theorem fm_all (g : Ex → Option Ex) : ∀ (l : List Ex), (∀ x ∈ l, (g x).isSome) → (l.filterMap g).length = l.length
  | [], _ => rfl
  | x :: l, h => by
    have h1 := fm_all g l fun y hy => h y (by simp [hy])
    have h2 := h x (by simp)
    obtain ⟨y, hy⟩ := Option.isSome_iff_exists.1 h2
    rw [List.filterMap_cons, hy]
    simp [h1]
theorem lExtmapMany_L0_eq {α : Type} (blocks : Int) (l : List Ex) (s0 s2 : Bool) (hm : Mk blocks l) (hl : l.length ≤ 64) (f : Int × Int → Option α) :
    th (lExtmapMany_L0_step blocks l s0 s2) (0, 0) f = f (gm l 0, (l.length : Int)) := by
  have := th_run (f := f) (step := lExtmapMany_L0_step blocks l s0 s2) (fun i => (gm (l.take i) 0, (i : Int))) l.length (fun i hi => ?_) ?_
  · refine this.trans ?_
    simp only [List.take_length]
  · have hc := (hm.2.1 i hi).1
    have hdl := ck_dlen8 hc
    unfold lExtmapMany_L0_step
    simp only [tb_dec, Int.toNat_natCast, imax_eq]
    rw [if_pos (by omega), tp_pos (by omega), if_neg (by omega), wr_id (by omega) (by omega), gm_take _ _ hi]
    simp
  · unfold lExtmapMany_L0_step
    simp only [tb_dec]
    rw [if_neg (by omega)]
theorem lExtmapMany_true (blocks : Int) (l : List Ex) : lExtmapMany blocks l = some true := by
  unfold lExtmapMany aw8
  rw [tc_some, tb_dec]
  by_cases hl : (l.length : Int) > 64
  · rw [if_pos hl]
  rw [if_neg hl, mCheck_eq _ _ (by omega), tc_some, tb_not]
  by_cases hm : Mk blocks l
  case neg => rw [mk_f hm]; rfl
  have hb := mk_blocks hm
  have hd : ∀ x ∈ l, x.d.length ≤ 4294967296 := fun x hx => by have := ck_dlen8 (mk_mem hm hx).1; omega
  rw [mk_t hm, tb_t, lExtmapMany_L0_eq _ _ _ _ hm (by omega)]
  simp only [tb_dec]
  rw [if_neg (by omega), mSince_eq _ _ _ (by omega) hd, mSince_eq _ _ _ (by omega) hd, mRange_eq _ _ _ _ (by omega)]
  have e1 : snc blocks l (-1) = (l, 0) := by
    unfold snc
    rw [if_pos hm, List.filter_eq_self.2 fun x hx => ?_]
    have := (mk_mem hm hx).1
    unfold Ck at this
    exact decide_eq_true (by omega)
  have e2 : snc blocks l (gm l 0) = ([], 0) := by
    unfold snc
    rw [if_pos hm, List.filter_eq_nil_iff.2 fun x hx => ?_]
    have := (gm_ge l 0).2 x hx
    simp; omega
  have e3 : (rng blocks l 0 blocks).2 = 0 ∧ (rng blocks l 0 blocks).1.length = l.length := by
    unfold rng
    rw [if_pos hm, if_pos (show Ro blocks 0 blocks from ⟨by omega, by omega, by omega, by omega⟩)]
    refine ⟨rfl, fm_all _ _ fun x hx => ?_⟩
    have hx2 := mk_mem hm hx
    have hc := hx2.1
    unfold Ck at hc
    rw [cut_pos (show Cu x 0 blocks from ⟨hx2.1, by omega, by omega, by omega, by omega, by omega⟩)]
    rfl
  rw [show ((-(1 : Int))) = -1 from rfl, e1, e2]
  simp only [tc_some, tb_t, tb_beq]
  rw [if_pos trivial, if_pos trivial, if_pos e3.1, if_pos trivial, if_pos (by simp), if_pos (by rw [e3.2]), mMany_eq _ _ (by omega), mMany_eq _ _ (by omega), mMany_eq _ _ (by omega)]
  have hs := many_sum l fun x hx => (mk_mem hm hx).1
  have h0 := many_bound l 0
  have h1 := many_bound l 1
  have h2 := many_bound l 2
  have h3 := hm.2.2
  simp only [tc_some]
  rw [wr_id (x := many l 0 + many l 1) (by omega) (by omega), wr_id (by omega) (by omega), show many l 0 + many l 1 + many l 2 = blocks by omega]
  simp
theorem extmapMany_call (blocks : Int) (l : List Ex) (_ : I64 blocks) (_ : ∀ x ∈ l, Ex.ok x) : EvFr Try.prog cf false 8 [.i blocks, .sl l.length (l.flatMap Ex.cells)] (.b true) := lExtmapMany_ok blocks l true (lExtmapMany_true blocks l)
end Ab
end Go.Proofs.Ytphnpgdamacfmaa
