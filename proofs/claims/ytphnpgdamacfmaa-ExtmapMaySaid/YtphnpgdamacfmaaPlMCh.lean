/- Maps as chains of extents; cuts on both sides of a line. -/
import Derived.Test.YtphnpgdamacfmaaPlM2
import Derived.Test.YtphnpgdamacfmaaPlJ
namespace Go.Proofs.Ytphnpgdamacfmaa
open Go Go.Proofs.Ytphnpgdamacfmaa.Ab
set_option linter.unusedVariables false
set_option linter.unusedSimpArgs false
namespace Ab
/-- Extents one behind the other, from a block on, none of which goes on the one before it. -/
def CH : Int → List Ex → Prop
  | _, [] => True
  | s, x :: l => Ck x ∧ x.lba = s ∧ (∀ y, l.head? = some y → ¬ Jn x y) ∧ CH (s + x.len) l
theorem mk_ch {blocks : Int} {l : List Ex} (h : Mk blocks l) : CH 0 l := by
  have key : ∀ j, j ≤ l.length → CH (sl (l.take (l.length - j))) (l.drop (l.length - j)) := by
    intro j
    induction j with
    | zero => intro _; rw [Nat.sub_zero, List.drop_length]; trivial
    | succ j ih =>
      intro hj
      have hi : l.length - (j + 1) < l.length := by omega
      have hm := h.2.1 (l.length - (j + 1)) hi
      have e : l.drop (l.length - (j + 1)) = exAt l (l.length - (j + 1)) :: l.drop (l.length - (j + 1) + 1) := by unfold exAt; exact drop_at _ l _ hi
      rw [e]
      have hs := sl_take l (l.length - (j + 1)) hi
      have e2 : l.length - (j + 1) + 1 = l.length - j := by omega
      rw [e2] at hs ⊢
      refine ⟨hm.1, hm.2.1, fun y hy => ?_, by rw [← hs]; exact ih (by omega)⟩
      have hy2 : l.length - j < l.length ∧ y = exAt l (l.length - j) := by
        rw [List.head?_drop] at hy
        obtain ⟨g, e3⟩ := List.getElem?_eq_some_iff.1 hy
        exact ⟨g, by unfold exAt; simp [g, e3]⟩
      have hm2 := (h.2.1 (l.length - j) hy2.1).2.2 (by omega)
      rw [show l.length - j - 1 = l.length - (j + 1) by omega, ← hy2.2] at hm2
      exact hm2
  have := key l.length (Nat.le_refl _)
  simpa [sl] using this
theorem ch_ck : ∀ {l : List Ex} {s : Int}, CH s l → ∀ z ∈ l, Ck z ∧ s ≤ z.lba
  | [], _, _, z, hz => by cases hz
  | x :: l, s, h, z, hz => by
    have hc := h.1
    unfold Ck at hc
    rcases List.mem_cons.1 hz with e | e
    · subst e; exact ⟨h.1, by have := h.2.1; omega⟩
    · have := ch_ck h.2.2.2 z e
      exact ⟨this.1, by omega⟩
/-- A line through a chain: within an extent, or between two. -/
theorem ch_split : ∀ (l : List Ex) (s B : Int), CH s l → s < B → B < s + sl l →
    (∃ l1 x l2, l = l1 ++ x :: l2 ∧ Ck x ∧ x.lba < B ∧ B < x.lba + x.len ∧ (∀ z ∈ l1, z.lba + z.len ≤ B) ∧ (∀ z ∈ l2, B ≤ z.lba)) ∨
    (∃ l1 u v l2, l = l1 ++ u :: v :: l2 ∧ Ck u ∧ Ck v ∧ u.lba + u.len = B ∧ v.lba = B ∧ ¬ Jn u v ∧ (∀ z ∈ l1, z.lba + z.len ≤ B) ∧ (∀ z ∈ l2, B ≤ z.lba))
  | [], s, B, _, h1, h2 => by simp only [sl] at h2; omega
  | x :: l, s, B, h, h1, h2 => by
    have hc := h.1
    unfold Ck at hc
    have hs := h.2.1
    simp only [sl] at h2
    by_cases g : B < s + x.len
    · refine .inl ⟨[], x, l, rfl, h.1, by omega, by omega, (by intro z hz; cases hz), fun z hz => ?_⟩
      have := (ch_ck h.2.2.2 z hz).2
      omega
    by_cases g2 : B = s + x.len
    · cases l with
      | nil => simp only [sl] at h2; omega
      | cons v l =>
        obtain ⟨k1, k2, _, k4⟩ := h.2.2.2
        have kc := k1
        unfold Ck at kc
        refine .inr ⟨[], x, v, l, rfl, h.1, k1, by omega, by omega, h.2.2.1 v rfl, (by intro z hz; cases hz), fun z hz => ?_⟩
        have := (ch_ck k4 z hz).2
        omega
    have hl : ∀ l1 : List Ex, (∀ z ∈ l1, z.lba + z.len ≤ B) → ∀ z ∈ x :: l1, z.lba + z.len ≤ B := fun l1 hh z hz => by
      rcases List.mem_cons.1 hz with e | e
      · subst e; omega
      · exact hh z e
    rcases ch_split l _ B h.2.2.2 (by omega) (by omega) with ⟨l1, y, l2, e, a1, a2, a3, a4, a5⟩ | ⟨l1, u, v, l2, e, a1, a2, a3, a4, a5, a6, a7⟩
    · exact .inl ⟨x :: l1, y, l2, by rw [e]; rfl, a1, a2, a3, hl l1 a4, a5⟩
    · exact .inr ⟨x :: l1, u, v, l2, by rw [e]; rfl, a1, a2, a3, a4, a5, hl l1 a6, a7⟩
theorem fmap_congr {f g : Ex → Option Ex} : ∀ {l : List Ex}, (∀ x ∈ l, f x = g x) → l.filterMap f = l.filterMap g
  | [], _ => rfl
  | x :: l, h => by
    rw [List.filterMap_cons, List.filterMap_cons, h x (by simp), fmap_congr (l := l) fun y hy => h y (by simp [hy])]
/-- The parts within a stretch. -/
def fm (lo n : Int) (l : List Ex) : List Ex := l.filterMap fun x => cut x lo n
theorem fm_app (lo n : Int) (a b : List Ex) : fm lo n (a ++ b) = fm lo n a ++ fm lo n b := List.filterMap_append
theorem fm_yes {lo n : Int} {x : Ex} (h : Cu x lo n) (l : List Ex) : fm lo n (x :: l) = cu x lo n :: fm lo n l := by
  unfold fm; rw [List.filterMap_cons, cut_pos h]
theorem fm_nil {lo n : Int} {l : List Ex} (h : ∀ x ∈ l, ¬ Cu x lo n) : fm lo n l = [] := by
  unfold fm; exact List.filterMap_eq_nil_iff.2 fun x hx => cut_neg (h x hx)
theorem cut_left {x : Ex} {lo n m : Int} (h0 : 0 ≤ lo) (h1 : 0 ≤ n) (h2 : 0 ≤ m) (h3 : lo + n + m ≤ 64) (h : x.lba + x.len ≤ lo + n) : cut x lo n = cut x lo (n + m) := by
  have e : min (x.lba + x.len) (lo + n) = x.lba + x.len := by omega
  have e2 : min (x.lba + x.len) (lo + (n + m)) = x.lba + x.len := by omega
  have hc : cu x lo n = cu x lo (n + m) := by unfold cu; rw [e, e2]
  by_cases g : Cu x lo n
  · have g2 : Cu x lo (n + m) := by obtain ⟨c1, c2, c3, c4, c5, c6⟩ := g; exact ⟨c1, by omega, by omega, by omega, by omega, by omega⟩
    rw [cut_pos g, cut_pos g2, hc]
  · have g2 : ¬ Cu x lo (n + m) := fun k => g (by obtain ⟨c1, c2, c3, c4, c5, c6⟩ := k; exact ⟨c1, by omega, by omega, by omega, by omega, by omega⟩)
    rw [cut_neg g, cut_neg g2]
theorem cut_right {x : Ex} {lo n m : Int} (h0 : 0 ≤ lo) (h1 : 0 ≤ n) (h2 : 0 ≤ m) (h3 : lo + n + m ≤ 64) (h : lo + n ≤ x.lba) : cut x (lo + n) m = cut x lo (n + m) := by
  have e : max x.lba (lo + n) = x.lba := by omega
  have e2 : max x.lba lo = x.lba := by omega
  have hc : cu x (lo + n) m = cu x lo (n + m) := by unfold cu; rw [e, e2, Int.add_assoc]
  by_cases g : Cu x (lo + n) m
  · have g2 : Cu x lo (n + m) := by obtain ⟨c1, c2, c3, c4, c5, c6⟩ := g; exact ⟨c1, by omega, by omega, by omega, by omega, by omega⟩
    rw [cut_pos g, cut_pos g2, hc]
  · have g2 : ¬ Cu x lo (n + m) := fun k => g (by obtain ⟨c1, c2, c3, c4, c5, c6⟩ := k; exact ⟨c1, by omega, by omega, by omega, by omega, by omega⟩)
    rw [cut_neg g, cut_neg g2]
theorem cu_ck {x : Ex} {lo n : Int} (h : Cu x lo n) : Ck (cu x lo n) := by
  obtain ⟨c1, c2, c3, c4, c5, c6⟩ := h
  unfold Ck at c1
  refine ⟨by simp only [cu]; omega, by simp only [cu]; omega, by simp only [cu]; omega, by simp only [cu]; omega, by simp only [cu]; omega, by simp only [cu]; omega, by simp only [cu]; omega, by simp only [cu]; omega, fun hk => ?_, fun hk => ?_⟩
  · have hk : x.kind = 2 := hk
    have := c1.2.2.2.2.2.2.2.2.1 hk
    simp only [cu, if_pos hk, List.length_take, List.length_drop]; omega
  · have hk : ¬ x.kind = 2 := hk
    simp only [cu, if_neg hk]
theorem fm_parts {blocks : Int} {l : List Ex} (h : Mk blocks l) {lo n m : Int} (h0 : 0 ≤ lo) (h1 : 1 ≤ n) (h2 : 1 ≤ m) (h3 : lo + n + m ≤ blocks) :
    ∃ F1 a b F2, fm lo n l = F1 ++ [a] ∧ fm (lo + n) m l = b :: F2 ∧ ((Jn a b ∧ fm lo (n + m) l = F1 ++ jnx a b :: F2) ∨ (¬ Jn a b ∧ fm lo (n + m) l = F1 ++ a :: b :: F2)) := by
  have hb := mk_blocks h
  have hl : ∀ l1 : List Ex, (∀ z ∈ l1, z.lba + z.len ≤ lo + n) → fm lo n l1 = fm lo (n + m) l1 ∧ fm (lo + n) m l1 = [] := fun l1 hh =>
    ⟨fmap_congr fun z hz => cut_left h0 (by omega) (by omega) (by omega) (hh z hz), fm_nil fun z hz g => by have := hh z hz; unfold Cu at g; omega⟩
  have hr : ∀ l2 : List Ex, (∀ z ∈ l2, lo + n ≤ z.lba) → fm lo n l2 = [] ∧ fm (lo + n) m l2 = fm lo (n + m) l2 := fun l2 hh =>
    ⟨fm_nil fun z hz g => by have := hh z hz; unfold Cu at g; omega, fmap_congr fun z hz => cut_right h0 (by omega) (by omega) (by omega) (hh z hz)⟩
  rcases ch_split l 0 (lo + n) (mk_ch h) (by omega) (by rw [h.2.2]; omega) with ⟨l1, x, l2, e, a1, a2, a3, a4, a5⟩ | ⟨l1, u, v, l2, e, a1, a2, a3, a4, a5, a6, a7⟩
  · obtain ⟨p1, p2⟩ := hl l1 a4
    obtain ⟨q1, q2⟩ := hr l2 a5
    have hc := a1
    unfold Ck at hc
    have c1 : Cu x lo n := ⟨a1, by omega, by omega, by omega, by omega, by omega⟩
    have c2 : Cu x (lo + n) m := ⟨a1, by omega, by omega, by omega, by omega, by omega⟩
    have c3 : Cu x lo (n + m) := ⟨a1, by omega, by omega, by omega, by omega, by omega⟩
    refine ⟨fm lo (n + m) l1, cu x lo n, cu x (lo + n) m, fm lo (n + m) l2, ?_, ?_, .inl ⟨?_, ?_⟩⟩
    · rw [e, fm_app, fm_yes c1, p1, q1]
    · rw [e, fm_app, fm_yes c2, p2, q2]; rfl
    · have k1 : Ck (cu x lo n) := cu_ck c1
      have k2 : Ck (cu x (lo + n) m) := cu_ck c2
      refine ⟨k1, k2, ?_, rfl, rfl⟩
      simp only [cu]; omega
    · have hj : jnx (cu x lo n) (cu x (lo + n) m) = cu x lo (n + m) := by
        have f1 : min (x.lba + x.len) (lo + n) = lo + n := by omega
        have f2 : max x.lba (lo + n) = lo + n := by omega
        have f3 : lo + n + m = lo + (n + m) := by omega
        simp only [jnx, cu, f1, f2, f3, Ex.mk.injEq, true_and]
        refine ⟨by omega, ?_⟩
        split
        · have t1 : (32 * (lo + n - x.lba)).toNat = (32 * (max x.lba lo - x.lba)).toNat + (32 * (lo + n - max x.lba lo)).toNat := by omega
          have t2 : (32 * (min (x.lba + x.len) (lo + (n + m)) - max x.lba lo)).toNat = (32 * (lo + n - max x.lba lo)).toNat + (32 * (min (x.lba + x.len) (lo + (n + m)) - (lo + n))).toNat := by omega
          rw [t1, t2, List.take_add, List.drop_drop]
        · rfl
      rw [e, fm_app, fm_yes c3, hj]
  · obtain ⟨p1, p2⟩ := hl l1 a6
    obtain ⟨q1, q2⟩ := hr l2 a7
    have hu := a1
    have hv := a2
    unfold Ck at hu hv
    have c1 : Cu u lo n := ⟨a1, by omega, by omega, by omega, by omega, by omega⟩
    have c2 : ¬ Cu v lo n := fun g => by unfold Cu at g; omega
    have c3 : ¬ Cu u (lo + n) m := fun g => by unfold Cu at g; omega
    have c4 : Cu v (lo + n) m := ⟨a2, by omega, by omega, by omega, by omega, by omega⟩
    have s1 := hl [u] fun z hz => by rw [List.mem_singleton] at hz; subst hz; omega
    have s2 := hr [v] fun z hz => by rw [List.mem_singleton] at hz; subst hz; omega
    have es : l1 ++ u :: v :: l2 = l1 ++ ([u] ++ ([v] ++ l2)) := rfl
    have u1 : fm lo n [u] = [cu u lo n] := fm_yes c1 []
    have v1 : fm (lo + n) m [v] = [cu v (lo + n) m] := fm_yes c4 []
    refine ⟨fm lo (n + m) l1, cu u lo n, cu v (lo + n) m, fm lo (n + m) l2, ?_, ?_, .inr ⟨?_, ?_⟩⟩
    · rw [e, es, fm_app, fm_app, fm_app, p1, s2.1, q1, u1]; rfl
    · rw [e, es, fm_app, fm_app, fm_app, p2, s1.2, q2, v1]; rfl
    · rintro ⟨_, _, _, j4, j5⟩
      exact a5 ⟨a1, a2, by omega, j4, j5⟩
    · rw [e, es, fm_app, fm_app, fm_app, ← s1.1, ← s2.2, u1, v1]; rfl
end Ab
end Go.Proofs.Ytphnpgdamacfmaa
