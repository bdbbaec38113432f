/- What becomes of a zone behind a step, in plain words. -/
import Derived.Test.YtanncjfbollofaaFnD
import Derived.Test.YtanncjfbollofaaPlain
namespace Go.Proofs.Ytanncjfbollofaa
open Go Go.Proofs.Ytanncjfbollofaa.Ab
set_option linter.unusedVariables false
set_option linter.unusedSimpArgs false
namespace Ab
def dn (z : Zo) (size : Int) (s : Sp) : Zo :=
  if s.k = 0 then (app z size s.d).1 else if s.k = 1 then (rst z).1 else if s.k = 2 then (fin z).1 else if s.k = 3 then flu z else if s.k = 4 then cra z size s.n else if s.k = 5 then (clo z).1 else z
theorem lDone_eq {z : Zo} (size : Int) {s : Sp} (h : z.d.length ≤ 2147483648) (hb : s.d.length ≤ 2147483648) : lDone z size s = some (dn z size s) := by
  unfold lDone dn
  simp only [tc, tb, tp, cond_eq_ite, beq_iff_eq, pAppend_eq (z := z) size h hb, pReset_eq (z := z) (by omega), pFinish_eq (z := z) (by omega), pFlush_eq (z := z) (by omega), pCrash_eq (z := z) size s.n (by omega), pClose_eq (z := z) (by omega), Option.bind_some]
  repeat' (refine ite_of (fun _ => ?_) (fun _ => ?_))
  all_goals simp_all
structure MayOk (z y : Zo) (size k : Int) : Prop where
  chk : chk y size = true
  begins : y.d.take (min y.d.length z.d.length) = z.d.take (min y.d.length z.d.length)
  lasts : k = 1 ∨ (z.la ≤ y.d.length ∧ z.la ≤ y.la)
  rs : z.rs ≤ y.rs
  len : k ≠ 1 → k ≠ 4 → z.d.length ≤ y.d.length
theorem mayOk_refl {z : Zo} {size : Int} (k : Int) (h : chk z size = true) : MayOk z z size k := by
  have := chk_size h
  exact ⟨h, rfl, .inr ⟨by omega, by omega⟩, by omega, fun _ _ => Nat.le_refl _⟩
theorem dn_may {z : Zo} {size : Int} (s : Sp) (hc : Ab.chk z size = true) : MayOk z (dn z size s) size s.k := by
  have hz := chk_size hc
  unfold dn
  by_cases h0 : s.k = 0
  · rw [if_pos h0]
    by_cases hb : s.d = []
    · have : app z size s.d = (z, 1) := by unfold app; rw [if_neg (fun h => h.2 hb)]
      rw [this]; exact mayOk_refl _ hc
    by_cases hr : (s.d.length : Int) > room z size
    · have : app z size s.d = (z, 30) := by unfold app; rw [if_pos ⟨hc, hb⟩, if_pos hr]
      rw [this]; exact mayOk_refl _ hc
    have hbl : 0 < s.d.length := by cases hs : s.d with | nil => exact absurd hs hb | cons _ _ => simp
    have hro : room z size = if z.st ≠ 3 then size - z.d.length else 0 := by unfold room; simp [hc]
    have h3 : z.st ≠ 3 := by intro h3; rw [if_neg (by simp [h3])] at hro; omega
    rw [if_pos h3] at hro
    have e : app z size s.d = (⟨if ((z.d ++ s.d).length : Int) = size then 3 else 1, z.rs, z.d ++ s.d, z.la⟩, 0) := by
      unfold app; rw [if_pos ⟨hc, hb⟩, if_neg hr]
    rw [e]
    have hl : (z.d ++ s.d).length = z.d.length + s.d.length := List.length_append
    refine ⟨?_, ?_, .inr ⟨?_, Int.le_refl _⟩, Int.le_refl _, fun _ _ => ?_⟩
    · unfold Ab.chk
      simp only [decide_eq_true_eq, hl]
      split <;> omega
    · simp only [hl]
      rw [show min (z.d.length + s.d.length) z.d.length = z.d.length by omega]
      simp
    · simp only [hl]; omega
    · simp only [hl]; omega
  rw [if_neg h0]
  by_cases h1 : s.k = 1
  · rw [if_pos h1]
    unfold rst
    split
    · rename_i hr
      refine ⟨?_, by simp, .inl h1, by simp; omega, fun h => absurd h1 h⟩
      unfold Ab.chk; simp; omega
    · exact mayOk_refl _ hc
  rw [if_neg h1]
  by_cases h2 : s.k = 2
  · rw [if_pos h2]
    unfold fin
    split
    · refine ⟨?_, rfl, .inr ⟨hz.2.2.2.2.2.2.2.2.1, Int.le_refl _⟩, Int.le_refl _, fun _ _ => Nat.le_refl _⟩
      unfold Ab.chk; simp; omega
    · exact mayOk_refl _ hc
  rw [if_neg h2]
  by_cases h3 : s.k = 3
  · rw [if_pos h3]
    unfold flu
    refine ⟨?_, rfl, .inr ⟨hz.2.2.2.2.2.2.2.2.1, hz.2.2.2.2.2.2.2.2.1⟩, Int.le_refl _, fun _ _ => Nat.le_refl _⟩
    unfold Ab.chk; simp only [decide_eq_true_eq]; omega
  rw [if_neg h3]
  by_cases h4 : s.k = 4
  · rw [if_pos h4]
    unfold cra
    rw [if_pos hc]
    simp only
    generalize hn : min (max s.n z.la) (z.d.length : Int) = n
    have hn1 : 0 ≤ n ∧ n ≤ z.d.length := by omega
    have hn2 : z.la ≤ n := by omega
    have hl : (z.d.take n.toNat).length = n.toNat := by rw [List.length_take]; omega
    refine ⟨?_, ?_, .inr ⟨?_, hn2⟩, Int.le_refl _, fun _ h => absurd h4 h⟩
    · unfold Ab.chk
      simp only [decide_eq_true_eq, hl]
      split
      · omega
      · split
        · omega
        · omega
    · simp only [hl]
      rw [show min n.toNat z.d.length = n.toNat by omega, List.take_take, Nat.min_self]
    · simp only [hl]; omega
  rw [if_neg h4]
  by_cases h5 : s.k = 5
  · rw [if_pos h5]
    unfold clo
    split
    · refine ⟨?_, rfl, .inr ⟨hz.2.2.2.2.2.2.2.2.1, Int.le_refl _⟩, Int.le_refl _, fun _ _ => Nat.le_refl _⟩
      unfold Ab.chk; simp; omega
    · exact mayOk_refl _ hc
  rw [if_neg h5]
  exact mayOk_refl _ hc
end Ab
end Go.Proofs.Ytanncjfbollofaa
