/- Plain tools: numbers that fit, loops. -/
import Derived.Test.YtadipihpgcelmaaTab
namespace Go.Proofs.Ytadipihpgcelmaa
open Go Go.Proofs.Ytadipihpgcelmaa.Ab
set_option linter.unusedVariables false
set_option linter.unusedSimpArgs false
namespace Ab
theorem wr_id {x : Int} (h1 : -9223372036854775808 ≤ x) (h2 : x ≤ 9223372036854775807) : wr x = x := by
  simp [wr, IntKind.wrap, IntKind.bits, IntKind.signed]
  omega
section
variable {α β σ : Type}
@[simp] theorem tb_t (x y : Option α) : tb true x y = x := rfl
@[simp] theorem tb_f (x y : Option α) : tb false x y = y := rfl
theorem tb_pos {c : Bool} {x y : Option α} (h : c = true) : tb c x y = x := by subst h; rfl
theorem tb_neg {c : Bool} {x y : Option α} (h : c = false) : tb c x y = y := by subst h; rfl
theorem tp_pos {p : Prop} [Decidable p] {x : Option α} (h : p) : tp p x = x := if_pos h
@[simp] theorem tc_some (s : β) (f : β → Option α) : tc (some s) f = f s := rfl
theorem tb_ite (c : Bool) (x y : Option α) : tb c x y = if c = true then x else y := by cases c <;> rfl
theorem tb_dec (p : Prop) [Decidable p] (x y : Option α) : tb (decide p) x y = if p then x else y := by
  by_cases h : p <;> simp [h]
theorem tb_beq (a b : Int) (x y : Option α) : tb (a == b) x y = if a = b then x else y := by
  by_cases h : a = b
  · rw [if_pos h]; exact tb_pos (beq_iff_eq.2 h)
  · rw [if_neg h]; exact tb_neg (beq_eq_false_iff_ne.2 h)
theorem tb_bne (a b : Int) (x y : Option α) : tb (a != b) x y = if a = b then y else x := by
  by_cases h : a = b
  · rw [if_pos h]; exact tb_neg (bne_eq_false_iff_eq.2 h)
  · rw [if_neg h]; exact tb_pos (bne_iff_ne.2 h)
theorem tb_not (c : Bool) (x y : Option α) : tb (!c) x y = tb c y x := by cases c <;> rfl
theorem th_rec {step : σ → Option σ} {s0 : σ} {f : σ → Option α} (g : σ → Option α) (I : σ → Prop) (m : σ → Nat) (h0 : I s0)
    (h : ∀ s, I s → (∃ s', step s = some s' ∧ I s' ∧ m s' < m s ∧ g s' = g s) ∨ (step s = none ∧ f s = g s)) : th step s0 f = g s0 := by
  refine th_inv (fun s => I s ∧ g s = g s0) m ⟨h0, rfl⟩ (fun s s' hs e => ?_) (fun s hs e => ?_)
  · rcases h s hs.1 with ⟨s1, e1, i1, m1, g1⟩ | ⟨e1, _⟩
    · rw [e] at e1; injection e1 with e1; subst e1; exact ⟨⟨i1, g1.trans hs.2⟩, m1⟩
    · rw [e] at e1; cases e1
  · rcases h s hs.1 with ⟨s1, e1, _⟩ | ⟨_, e1⟩
    · rw [e] at e1; cases e1
    · rw [e1, hs.2]
theorem th_run {step : σ → Option σ} {f : σ → Option α} (S : Nat → σ) (k : Nat) (hs : ∀ i, i < k → step (S i) = some (S (i + 1))) (he : step (S k) = none) : th step (S 0) f = f (S k) := by
  have : ∀ n, n ≤ k → Runs step (S (k - n)) (S k) := by
    intro n
    induction n with
    | zero => exact fun _ => .refl _
    | succ n ih =>
      intro hn
      refine .step (hs _ (by omega)) ?_
      rw [show k - (n + 1) + 1 = k - n by omega]
      exact ih (by omega)
  have h := this k (Nat.le_refl _)
  rw [Nat.sub_self] at h
  exact th_of h he rfl
/-- A loop that asks something of each place. -/
theorem th_all {step : Int → Option Int} {f : Int → Option α} (r1 r2 : Option α) (n : Nat) (P : Nat → Prop) (Q : Prop) [Decidable Q] (hQ : (∀ i, i < n → P i) ↔ Q) (hs : ∀ i : Nat, i < n → P i → step (i : Int) = some ((i : Int) + 1)) (hf : ∀ i : Nat, i < n → ¬ P i → step (i : Int) = none ∧ f (i : Int) = r1) (he : step (n : Int) = none ∧ f (n : Int) = r2) :
    th step 0 f = if Q then r2 else r1 := by
  by_cases h : ∀ i, i < n → P i
  · rw [if_pos (hQ.1 h)]
    have := th_run (step := step) (f := f) (fun i => (i : Int)) n (fun i hi => hs i hi (h i hi)) he.1
    simp only [Int.natCast_zero] at this
    rw [this]; exact he.2
  · rw [if_neg (fun g => h (hQ.2 g))]
    have hex : ∃ i, i < n ∧ ¬ P i := by
      refine Classical.byContradiction fun hn => h fun i hi => ?_
      exact Classical.byContradiction fun hp => hn ⟨i, hi, hp⟩
    have key : ∀ k, (∃ i, i < k ∧ i < n ∧ ¬ P i) → ∃ i, i < n ∧ ¬ P i ∧ ∀ j, j < i → P j := by
      intro k
      induction k with
      | zero => rintro ⟨i, hi, _⟩; omega
      | succ k ih =>
        rintro ⟨i, h1, h2, h3⟩
        by_cases hk : ∃ i, i < k ∧ i < n ∧ ¬ P i
        · exact ih hk
        · have hik : i = k := by
            rcases Nat.lt_or_ge i k with g | g
            · exact absurd ⟨i, g, h2, h3⟩ hk
            · omega
          refine ⟨i, h2, h3, fun j hj => ?_⟩
          exact Classical.byContradiction fun hp => hk ⟨j, by omega, by omega, hp⟩
    obtain ⟨i, h1, h2⟩ := hex
    obtain ⟨k, k1, k2, k3⟩ := key (i + 1) ⟨i, by omega, h1, h2⟩
    have := th_run (step := step) (f := f) (fun i => (i : Int)) k (fun i hi => hs i (by omega) (k3 i hi)) (hf k k1 k2).1
    simp only [Int.natCast_zero] at this
    rw [this]; exact (hf k k1 k2).2
end
theorem drop_at {α : Type} (d : α) (l : List α) (i : Nat) (h : i < l.length) : l.drop i = l.getD i d :: l.drop (i + 1) := by
  rw [List.drop_eq_getElem_cons h]; simp [h]
theorem take_at {α : Type} (d : α) (l : List α) (i : Nat) (h : i < l.length) : l.take (i + 1) = l.take i ++ [l.getD i d] := by
  rw [List.take_succ_eq_append_getElem h]; simp [h]
theorem getD_all {α : Type} (d : α) (l : List α) (p : α → Prop) : (∀ i, i < l.length → p (l.getD i d)) ↔ ∀ x ∈ l, p x := by
  refine ⟨fun h x hx => ?_, fun h i hi => h _ ?_⟩
  · obtain ⟨i, hi, e⟩ := List.getElem_of_mem hx
    have := h i hi
    rw [← e]
    simpa [hi] using this
  · simp [hi]
end Ab
end Go.Proofs.Ytadipihpgcelmaa
