/- What the functions of zeros answer, in plain words: extents packed, all of them. -/
import Derived.Test.YtiaelfmohamipaaPlZ4
namespace Go.Proofs.Ytiaelfmohamipaa
open Go Go.Proofs.Ytiaelfmohamipaa.Ab
set_option linter.unusedVariables false
set_option linter.unusedSimpArgs false
namespace Ab
/-- A loop that asks something of each place, with a state of its own. -/
theorem th_firstZ {σ α : Type} {step : σ → Option σ} {f : σ → Option α} (r1 r2 : Option α) (S : Nat → σ) (n : Nat) (P : Nat → Prop) (Q : Prop) [Decidable Q] (hQ : (∀ i, i < n → P i) ↔ Q)
    (hs : ∀ i : Nat, i < n → (∀ j, j < i → P j) → P i → step (S i) = some (S (i + 1))) (hf : ∀ i : Nat, i < n → (∀ j, j < i → P j) → ¬ P i → step (S i) = none ∧ f (S i) = r1) (he : (∀ j, j < n → P j) → step (S n) = none ∧ f (S n) = r2) :
    th step (S 0) f = if Q then r2 else r1 := by
  by_cases h : ∀ i, i < n → P i
  · rw [if_pos (hQ.1 h), th_run (step := step) (f := f) S n (fun i hi => hs i hi (fun j hj => h j (by omega)) (h i hi)) (he h).1]
    exact (he h).2
  · rw [if_neg (fun g => h (hQ.2 g))]
    have hex : ∃ i, i < n ∧ ¬ P i := Classical.byContradiction fun hn => h fun i hi => Classical.byContradiction fun hp => hn ⟨i, hi, hp⟩
    have key : ∀ k, (∃ i, i < k ∧ i < n ∧ ¬ P i) → ∃ i, i < n ∧ ¬ P i ∧ ∀ j, j < i → P j := by
      intro k
      induction k with
      | zero => rintro ⟨i, hi, _⟩; omega
      | succ k ih =>
        rintro ⟨i, h1, h2, h3⟩
        by_cases hk : ∃ i, i < k ∧ i < n ∧ ¬ P i
        · exact ih hk
        · have hik : i = k := by
            rcases Nat.lt_or_ge i k with g | g
            · exact absurd ⟨i, g, h2, h3⟩ hk
            · omega
          refine ⟨i, h2, h3, fun j hj => ?_⟩
          exact Classical.byContradiction fun hp => hk ⟨j, by omega, by omega, hp⟩
    obtain ⟨i, h1, h2⟩ := hex
    obtain ⟨k, k1, k2, k3⟩ := key (i + 1) ⟨i, by omega, h1, h2⟩
    rw [th_run (step := step) (f := f) S k (fun i hi => hs i (by omega) (fun j hj => k3 j (by omega)) (k3 i hi)) (hf k k1 k3 k2).1]
    exact (hf k k1 k3 k2).2
def atp (l : List Ex) (i : Nat) : Int := if i = 0 then 0 else (exAt l (i - 1)).lba + (exAt l (i - 1)).len
theorem atp_succ (l : List Ex) (i : Nat) : atp l (i + 1) = (exAt l i).lba + (exAt l i).len := by unfold atp; rw [if_neg (by omega)]; rfl
def LP (l : List Ex) (i : Nat) : Prop := Ck (exAt l i) ∧ atp l i ≤ (exAt l i).lba
instance (l : List Ex) (i : Nat) : Decidable (LP l i) := by unfold LP; infer_instance
/-- Extents that may be, one behind the other. -/
def Ls (l : List Ex) : Prop := l.length ≤ 64 ∧ ∀ i, i < l.length → LP l i
instance (l : List Ex) : Decidable (Ls l) := by unfold Ls; infer_instance
theorem r10List_eq (l : List Ex) : r10List l = some (decide (Ls l)) := by
  unfold r10List
  rw [tb_dec]
  by_cases hl : (l.length : Int) > 64
  · rw [if_pos hl, decide_eq_false fun h => by have := h.1; omega]
  rw [if_neg hl]
  have := th_firstZ (α := Bool) (step := r10List_L0_step l) (some false) (some true) (fun i => (atp l i, (i : Int))) l.length (LP l) (∀ i, i < l.length → LP l i) Iff.rfl (fun i hi hpre hp => ?_) (f := fun s1 => tb (decide (s1.2 < (l.length : Int))) (tp ((0 : Int) ≤ s1.2 ∧ s1.2 < (l.length : Int)) (tc (r7Check (exAt l s1.2.toNat)) fun s4 => tb (!s4) (some false) (tb (decide ((exAt l s1.2.toNat).lba < s1.1)) (some false) none))) (some true)) (fun i hi hpre hp => ?_) (fun hall => ?_)
  · have e0 : atp l 0 = 0 := rfl
    simp only [e0, Int.natCast_zero] at this
    rw [this]
    by_cases h : ∀ i, i < l.length → LP l i
    · rw [if_pos h, decide_eq_true (show Ls l from ⟨by omega, h⟩)]
    · rw [if_neg h, decide_eq_false fun g => h g.2]
  · have hc := hp.1
    have hb := hp.2
    unfold r10List_L0_step
    simp only [tb_dec, tb_not, r7Check_eq, tc_some, Int.toNat_natCast]
    unfold Ck at hc
    rw [if_pos (by omega), tp_pos (by omega), ck_t hp.1, tb_t, if_neg (by omega), wr_id (by omega) (by omega), wr_id (by omega) (by omega), atp_succ]
    simp
  · unfold r10List_L0_step
    simp only [tb_dec, tb_not, r7Check_eq, tc_some, Int.toNat_natCast]
    by_cases hc : Ck (exAt l i)
    case neg => refine ⟨?_, ?_⟩ <;> (rw [if_pos (by omega), tp_pos (by omega), ck_f hc]; rfl)
    have hlt : (exAt l i).lba < atp l i := by
      rcases Int.lt_or_le (exAt l i).lba (atp l i) with g | g
      · exact g
      · exact absurd ⟨hc, g⟩ hp
    refine ⟨?_, ?_⟩ <;> (rw [if_pos (by omega), tp_pos (by omega), ck_t hc, tb_t, if_pos hlt])
  · unfold r10List_L0_step
    simp only [tb_dec]
    rw [if_neg (by omega), if_neg (by omega)]
    exact ⟨rfl, rfl⟩
theorem fold_take (l : List Ex) (out : List Ex) (i : Nat) (hi : i < l.length) : (l.take (i + 1)).foldl add out = add ((l.take i).foldl add out) (exAt l i) := by
  have h2 : l.take (i + 1) = l.take i ++ [exAt l i] := by unfold exAt; exact take_at _ l i hi
  rw [h2, List.foldl_append]; rfl
theorem add_nil (y : Ex) : add [] y = [y] := by unfold add; simp
theorem add_jn {out : List Ex} {y : Ex} (h0 : out ≠ []) (h : Jn (out.getLastD ⟨0, 0, 0, 0, []⟩) y) : add out y = out.dropLast ++ [jnx (out.getLastD ⟨0, 0, 0, 0, []⟩) y] := by unfold add; rw [if_pos ⟨h0, h⟩]
theorem add_no {out : List Ex} {y : Ex} (h : ¬ Jn (out.getLastD ⟨0, 0, 0, 0, []⟩) y) : add out y = out ++ [y] := by unfold add; rw [if_neg fun g => h g.2]
theorem pPack_L1_step_eq (l : List Ex) (s1 : List Ex × Int × Int) (s4 : Bool) (s7 : List Ex) (out : List Ex) (i : Nat) (hi : i < s7.length) (h7 : s7.length ≤ 4294967296) (ho : out.length + 1 ≤ 4294967296) :
    pPack_L1_step l s1 s4 s7 ((i : Int), [], out) = some ((i : Int) + 1, [], add out (exAt s7 i)) := by
  unfold pPack_L1_step
  simp only [tb_dec, tb_beq, Int.toNat_natCast]
  rw [if_pos (by omega), tp_pos (by omega), wr_id (x := (i : Int) + 1) (by omega) (by omega)]
  by_cases h0 : out = []
  · subst h0
    rw [if_neg (by simp), tp_pos ⟨by simp, by simp⟩, add_nil]; rfl
  · have hl : 0 < out.length := List.length_pos_iff.2 h0
    have hw : wr ((out.length : Int) - 1) = ((out.length - 1 : Nat) : Int) := by rw [wr_id (by omega) (by omega)]; omega
    rw [if_pos (by omega), hw, tp_pos (by omega), Int.toNat_natCast, last_at out h0 _ rfl, eJoin_eq, tc_some]
    by_cases hj : Jn (out.getLastD ⟨0, 0, 0, 0, []⟩) (exAt s7 i)
    · have e : jnv (out.getLastD ⟨0, 0, 0, 0, []⟩) (exAt s7 i) = (jnx (out.getLastD ⟨0, 0, 0, 0, []⟩) (exAt s7 i), 0) := if_pos hj
      rw [e, if_pos rfl, tp_pos ⟨rfl, by rw [exs_len]; simp; omega⟩, add_jn h0 hj, set_last_ex out h0 _ rfl]
    · have e : jnv (out.getLastD ⟨0, 0, 0, 0, []⟩) (exAt s7 i) = (⟨0, 0, 0, 0, []⟩, 70) := if_neg hj
      rw [e, if_neg (by simp), tp_pos ⟨exs_len _, ho⟩, add_no hj]
theorem pPack_L1_eq {α : Type} (l : List Ex) (s1 : List Ex × Int × Int) (s4 : Bool) (s7 : List Ex) (out : List Ex) (f : Int × List Ex × List Ex → Option α) (h7 : s7.length ≤ 1000000) (ho : out.length ≤ 1000000) :
    th (pPack_L1_step l s1 s4 s7) (0, [], out) f = f ((s7.length : Int), [], s7.foldl add out) := by
  have := th_run (f := f) (step := pPack_L1_step l s1 s4 s7) (fun i => ((i : Int), ([] : List Ex), (s7.take i).foldl add out)) s7.length (fun i hi => ?_) ?_
  · simpa using this
  · have hb := adds_len (s7.take i) out
    rw [List.length_take] at hb
    rw [pPack_L1_step_eq _ _ _ _ _ _ hi (by omega) (by omega), fold_take _ _ _ hi]
    simp
  · unfold pPack_L1_step
    simp only [tb_dec]
    rw [if_neg (by omega)]
theorem tolds_len : ∀ (l : List Ex), (∀ x ∈ l, Ck x) → (l.flatMap told).length ≤ 65 * l.length
  | [], _ => by simp
  | x :: l, h => by
    have h1 := told_len (h x (by simp))
    have h2 := tolds_len l fun y hy => h y (by simp [hy])
    rw [List.flatMap_cons, List.length_append, List.length_cons]; omega
theorem lp_ck {l : List Ex} {i : Nat} (hi : i ≤ l.length) (h : ∀ j, j < i → LP l j) : ∀ x ∈ l.take i, Ck x := by
  intro x hx
  obtain ⟨j, hj, e⟩ := List.getElem_of_mem hx
  rw [List.length_take] at hj
  have := (h j (by omega)).1
  rw [List.getElem_take] at e
  rw [← e]
  have e2 : exAt l j = l[j]'(by omega) := by unfold exAt; simp [show j < l.length by omega]
  rw [← e2]; exact this
/-- Extents packed. -/
def pk (l : List Ex) : List Ex × Int := if Ls l then ((l.flatMap told).foldl add [], 0) else ([], 70)
theorem flat_take (l : List Ex) (i : Nat) (hi : i < l.length) : (l.take (i + 1)).flatMap told = (l.take i).flatMap told ++ told (exAt l i) := by
  have h2 : l.take (i + 1) = l.take i ++ [exAt l i] := by unfold exAt; exact take_at _ l i hi
  rw [h2, List.flatMap_append]; simp
theorem pPack_eq (l : List Ex) : pPack l = some (pk l) := by
  unfold pPack pk
  rw [tb_dec]
  by_cases hl : (l.length : Int) > 64
  · rw [if_pos hl, if_neg fun h => by have := h.1; omega]
  rw [if_neg hl]
  have := th_firstZ (α := List Ex × Int) (step := pPack_L0_step l) (some ([], 70)) (some ((l.flatMap told).foldl add [], 0)) (fun i => (((l.take i).flatMap told).foldl add [], atp l i, (i : Int))) l.length (LP l) (∀ i, i < l.length → LP l i) Iff.rfl (fun i hi hpre hp => ?_) (f := fun s1 => tb (decide (s1.2.2 < (l.length : Int))) (tp ((0 : Int) ≤ s1.2.2 ∧ s1.2.2 < (l.length : Int)) (tc (eCheck (exAt l s1.2.2.toNat)) fun s4 => tb (!s4) (some ([], 70)) (tb (decide ((exAt l s1.2.2.toNat).lba < s1.2.1)) (some ([], 70)) none))) (tp ((0 : Nat) = (0 : Nat) ∧ (List.flatMap Ex.cells s1.1).length = s1.1.length * (5 : Nat)) (some (s1.1, 0)))) (fun i hi hpre hp => ?_) (fun hall => ?_)
  · refine this.trans ?_
    by_cases h : ∀ i, i < l.length → LP l i
    · rw [if_pos h, if_pos ⟨by omega, h⟩]
    · rw [if_neg h, if_neg fun g => h g.2]
  · have hc := hp.1
    have hb := hp.2
    have hbd := tolds_len _ (lp_ck (by omega) hpre)
    have hbd2 := adds_len ((l.take i).flatMap told) []
    have hbd3 := told_len hc
    rw [List.length_take] at hbd
    simp only [List.length_nil, Nat.zero_add] at hbd2
    unfold pPack_L0_step
    simp only [tb_dec, tb_not, eCheck_eq, tc_some, Int.toNat_natCast]
    unfold Ck at hc
    rw [if_pos (by omega), tp_pos (by omega), ck_t hp.1, tb_t, if_neg (by omega), pTold_eq _ hp.1, tc_some, pPack_L1_eq _ _ _ _ _ _ (by omega) (by omega)]
    simp only
    rw [if_neg (by omega), wr_id (by omega) (by omega), wr_id (by omega) (by omega), atp_succ, flat_take _ _ hi, List.foldl_append]
    simp
  · unfold pPack_L0_step
    simp only [tb_dec, tb_not, eCheck_eq, tc_some, Int.toNat_natCast]
    by_cases hc : Ck (exAt l i)
    case neg => refine ⟨?_, ?_⟩ <;> (rw [if_pos (by omega), tp_pos (by omega), ck_f hc]; rfl)
    have hlt : (exAt l i).lba < atp l i := by
      rcases Int.lt_or_le (exAt l i).lba (atp l i) with g | g
      · exact g
      · exact absurd ⟨hc, g⟩ hp
    refine ⟨?_, ?_⟩ <;> (rw [if_pos (by omega), tp_pos (by omega), ck_t hc, tb_t, if_pos hlt])
  · unfold pPack_L0_step
    simp only [tb_dec]
    rw [if_neg (by omega), if_neg (by omega), List.take_length, tp_pos (by first | exact ⟨rfl, exs_len _⟩ | exact ⟨trivial, exs_len _⟩)]
    exact ⟨rfl, rfl⟩
end Ab
end Go.Proofs.Ytiaelfmohamipaa
