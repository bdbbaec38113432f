/- An extent laid over a map: the pieces, and what they hold. -/
import Derived.Test.YtphnpgdamacfmaaPlMDen
namespace Go.Proofs.Ytphnpgdamacfmaa
open Go Go.Proofs.Ytphnpgdamacfmaa.Ab
set_option linter.unusedVariables false
set_option linter.unusedSimpArgs false
namespace Ab
/-- Of one extent of the map: what is left of it before, the new one if it is its turn, what is left behind. -/
def P1 (x : Ex) (fl : Bool) (e : Ex) : List Ex := (cut e 0 x.lba).toList ++ ((if fl = false ∧ e.lba + e.len > x.lba then [x] else []) ++ (cut e (x.lba + x.len) 64).toList)
def F1 (x : Ex) (fl : Bool) (e : Ex) : Bool := fl || decide (e.lba + e.len > x.lba)
def pcs (x : Ex) : Bool → List Ex → List Ex
  | _, [] => []
  | fl, e :: l => P1 x fl e ++ pcs x (F1 x fl e) l
def stp (x : Ex) (p : Bool × List Ex) (e : Ex) : Bool × List Ex := (F1 x p.1 e, (P1 x p.1 e).foldl add p.2)
theorem stp_pcs (x : Ex) : ∀ (l : List Ex) (fl : Bool) (out : List Ex), (l.foldl (stp x) (fl, out)).2 = (pcs x fl l).foldl add out
  | [], _, _ => rfl
  | e :: l, fl, out => by
    rw [List.foldl_cons]
    show (l.foldl (stp x) (F1 x fl e, (P1 x fl e).foldl add out)).2 = _
    rw [stp_pcs x l, pcs, List.foldl_append]
/-- The map with the new extent over it. -/
def put (l : List Ex) (x : Ex) : List Ex := (pcs x false l).foldl add []
theorem den_P1 {x e : Ex} (hx : Ck x) (he : Ck e) {fl : Bool} {k : Int} {c : Int × Int × List UInt8} :
    Den (P1 x fl e) k c ↔ ((k < x.lba ∨ x.lba + x.len ≤ k) ∧ Cv e k c) ∨ (fl = false ∧ e.lba + e.len > x.lba ∧ Cv x k c) := by
  have px := ck_pos hx
  have pe := ck_pos he
  unfold P1
  rw [den_app, den_app, cv_cut he (by omega) (by omega), cv_cut he (by omega) (by omega)]
  have hm : Den (if fl = false ∧ e.lba + e.len > x.lba then [x] else []) k c ↔ fl = false ∧ e.lba + e.len > x.lba ∧ Cv x k c := by
    split
    · rename_i h
      rw [den_one]
      exact ⟨fun q => ⟨h.1, h.2, q⟩, fun q => q.2.2⟩
    · rename_i h
      exact ⟨fun q => absurd q den_nil, fun q => absurd ⟨q.1, q.2.1⟩ h⟩
  rw [hm]
  constructor
  · rintro (⟨a, b, q⟩ | q | ⟨a, b, q⟩)
    · exact .inl ⟨.inl (by omega), q⟩
    · exact .inr q
    · exact .inl ⟨.inr (by omega), q⟩
  · rintro (⟨a | a, q⟩ | q)
    · have := q.1; exact .inl ⟨by omega, by omega, q⟩
    · have := q.2.1; exact .inr (.inr ⟨by omega, by omega, q⟩)
    · exact .inr (.inl q)
theorem den_pcs_t {x : Ex} (hx : Ck x) : ∀ (l : List Ex), (∀ e ∈ l, Ck e) → ∀ {k : Int} {c : Int × Int × List UInt8}, Den (pcs x true l) k c ↔ (k < x.lba ∨ x.lba + x.len ≤ k) ∧ Den l k c
  | [], _, k, c => by simp only [pcs]; exact ⟨fun q => absurd q den_nil, fun q => absurd q.2 den_nil⟩
  | e :: l, h, k, c => by
    have ih := den_pcs_t hx l (fun y hy => h y (by simp [hy])) (k := k) (c := c)
    rw [pcs, den_app, den_P1 hx (h e (by simp)), den_cons]
    rw [show F1 x true e = true from rfl, ih]
    constructor
    · rintro ((⟨a, q⟩ | ⟨a, _⟩) | ⟨a, q⟩)
      · exact ⟨a, .inl q⟩
      · cases a
      · exact ⟨a, .inr q⟩
    · rintro ⟨a, q | q⟩
      · exact .inl (.inl ⟨a, q⟩)
      · exact .inr ⟨a, q⟩
theorem den_pcs_f {x : Ex} (hx : Ck x) : ∀ (l : List Ex), (∀ e ∈ l, Ck e) → ∀ {k : Int} {c : Int × Int × List UInt8}, Den (pcs x false l) k c ↔ ((k < x.lba ∨ x.lba + x.len ≤ k) ∧ Den l k c) ∨ (Cv x k c ∧ ∃ e ∈ l, e.lba + e.len > x.lba)
  | [], _, k, c => by
    simp only [pcs]
    refine ⟨fun q => absurd q den_nil, ?_⟩
    rintro (⟨_, q⟩ | ⟨_, e, he, _⟩)
    · exact absurd q den_nil
    · cases he
  | e :: l, h, k, c => by
    rw [pcs, den_app, den_P1 hx (h e (by simp)), den_cons]
    by_cases g : e.lba + e.len > x.lba
    · rw [show F1 x false e = true from decide_eq_true g, den_pcs_t hx l (fun y hy => h y (by simp [hy]))]
      constructor
      · rintro ((⟨a, q⟩ | ⟨_, _, q⟩) | ⟨a, q⟩)
        · exact .inl ⟨a, .inl q⟩
        · exact .inr ⟨q, e, by simp, g⟩
        · exact .inl ⟨a, .inr q⟩
      · rintro (⟨a, q | q⟩ | ⟨q, _⟩)
        · exact .inl (.inl ⟨a, q⟩)
        · exact .inr ⟨a, q⟩
        · exact .inl (.inr ⟨rfl, g, q⟩)
    · rw [show F1 x false e = false from decide_eq_false g, den_pcs_f hx l (fun y hy => h y (by simp [hy]))]
      constructor
      · rintro ((⟨a, q⟩ | ⟨_, q, _⟩) | ⟨a, q⟩ | ⟨q, y, hy, hg⟩)
        · exact .inl ⟨a, .inl q⟩
        · exact absurd q g
        · exact .inl ⟨a, .inr q⟩
        · exact .inr ⟨q, y, by simp [hy], hg⟩
      · rintro (⟨a, q | q⟩ | ⟨q, y, hy, hg⟩)
        · exact .inl (.inl ⟨a, q⟩)
        · exact .inr (.inl ⟨a, q⟩)
        · rcases List.mem_cons.1 hy with e1 | e1
          · subst e1; exact absurd hg g
          · exact .inr (.inr ⟨q, y, e1, hg⟩)
theorem cg_cut {e : Ex} {lo n a b : Int} (he : Ck e) (h1 : 0 ≤ lo ∧ lo ≤ 64) (h2 : 0 ≤ n ∧ n ≤ 64) (ha : a = max e.lba lo) (hb : b = min (e.lba + e.len) (lo + n)) (hab : a < b) : Cg a (cut e lo n).toList b := by
  have g : Cu e lo n := ⟨he, h1.1, h1.2, h2.1, h2.2, by omega⟩
  rw [cut_pos g]
  refine ⟨cu_ck g, ha.symm, ?_⟩
  show a + (min (e.lba + e.len) (lo + n) - max e.lba lo) = b
  omega
theorem cg_none {e : Ex} {lo n a : Int} (h : ¬ max e.lba lo < min (e.lba + e.len) (lo + n)) : Cg a (cut e lo n).toList a := by
  rw [cut_neg fun g => h g.2.2.2.2.2]; rfl
theorem cg_pcs_t {x : Ex} (hx : Ck x) : ∀ (l : List Ex) (s e : Int), Cg s l e → x.lba < s → Cg (max s (x.lba + x.len)) (pcs x true l) (max e (x.lba + x.len))
  | [], s, e, h, _ => by rw [show s = e from h]; rfl
  | y :: l, s, e, h, hs => by
    obtain ⟨h1, h2, h3⟩ := h
    have px := ck_pos hx
    have py := ck_pos h1
    rw [pcs, P1, if_neg (by simp), List.nil_append]
    have hr := cg_pcs_t hx l (s + y.len) e h3 (by omega)
    refine cg_app _ _ (cg_app _ _ (cg_none (a := max s (x.lba + x.len)) (by omega)) ?_) hr
    by_cases g : s + y.len > x.lba + x.len
    · exact cg_cut h1 (by omega) (by omega) (by omega) (by omega) (by omega)
    · have e1 : max (s + y.len) (x.lba + x.len) = x.lba + x.len := by omega
      have e2 : max s (x.lba + x.len) = x.lba + x.len := by omega
      rw [e1, e2]
      exact cg_none (by omega)
theorem cg_pcs_f {x : Ex} (hx : Ck x) : ∀ (l : List Ex) (s e : Int), 0 ≤ s → Cg s l e → s ≤ x.lba → x.lba < e → Cg s (pcs x false l) (max e (x.lba + x.len))
  | [], s, e, h0, h, hs, he => by have : s = e := h; omega
  | y :: l, s, e, h0, h, hs, he => by
    obtain ⟨h1, h2, h3⟩ := h
    have px := ck_pos hx
    have py := ck_pos h1
    rw [pcs, P1]
    by_cases g : y.lba + y.len > x.lba
    · rw [if_pos ⟨rfl, g⟩, show F1 x false y = true from decide_eq_true g]
      have hr := cg_pcs_t hx l (s + y.len) e h3 (by omega)
      have hleft : Cg s (cut y 0 x.lba).toList x.lba := by
        by_cases q : s < x.lba
        · exact cg_cut h1 (by omega) (by omega) (by omega) (by omega) q
        · rw [show s = x.lba by omega]; exact cg_none (by omega)
      have hright : Cg (x.lba + x.len) (cut y (x.lba + x.len) 64).toList (max (s + y.len) (x.lba + x.len)) := by
        by_cases q : s + y.len > x.lba + x.len
        · exact cg_cut h1 (by omega) (by omega) (by omega) (by omega) (by omega)
        · rw [show max (s + y.len) (x.lba + x.len) = x.lba + x.len by omega]; exact cg_none (by omega)
      exact cg_app _ _ (cg_app _ _ hleft (cg_app [x] _ (m := x.lba + x.len) ⟨hx, rfl, rfl⟩ hright)) hr
    · rw [if_neg (fun q => g q.2), show F1 x false y = false from decide_eq_false g, List.nil_append]
      have hr := cg_pcs_f hx l (s + y.len) e (by omega) h3 (by omega) he
      refine cg_app _ _ (cg_app _ _ (m := s + y.len) (cg_cut h1 (by omega) (by omega) (by omega) (by omega) (by omega)) (cg_none (by omega))) hr
/-- A chain from 0 to its end is a map of so many blocks. -/
theorem ch_mk {blocks : Int} {l : List Ex} (h : CH 0 l) (hs : sl l = blocks) (hb : 1 ≤ blocks) : Mk blocks l := by
  have hne : l ≠ [] := by intro e; subst e; simp only [sl] at hs; omega
  have key : ∀ (l : List Ex) (s : Int), CH s l → ∀ i, i < l.length → Ck (exAt l i) ∧ (exAt l i).lba = s + sl (l.take i) ∧ (0 < i → ¬ Jn (exAt l (i - 1)) (exAt l i)) := by
    intro l
    induction l with
    | nil => intro s _ i hi; simp at hi
    | cons x l ih =>
      intro s h i hi
      cases i with
      | zero => exact ⟨h.1, by rw [List.take_zero]; simp only [sl]; rw [Int.add_zero]; exact h.2.1, fun q => by omega⟩
      | succ i =>
        simp only [List.length_cons] at hi
        obtain ⟨a, b, d⟩ := ih _ h.2.2.2 i (by omega)
        refine ⟨a, ?_, fun _ => ?_⟩
        · show (exAt l i).lba = _
          rw [b, List.take_succ_cons]; simp only [sl]; omega
        · cases i with
          | zero =>
            cases l with
            | nil => simp at hi
            | cons y l => exact h.2.2.1 y rfl
          | succ j => exact d (by omega)
  refine ⟨hne, fun i hi => ?_, hs⟩
  obtain ⟨a, b, d⟩ := key l 0 h i hi
  exact ⟨a, by rw [b, Int.zero_add], d⟩
theorem mk_uniq {blocks : Int} {l l' : List Ex} (h : Mk blocks l) (h' : Mk blocks l') (hd : ∀ k c, Den l k c ↔ Den l' k c) : l = l' :=
  ch_uniq l l' 0 (mk_ch h) (mk_ch h') (h.2.2.trans h'.2.2.symm) hd
theorem put_spec {blocks : Int} {l : List Ex} {x : Ex} (h : Mk blocks l) (hx : Ck x) (hf : x.lba + x.len ≤ blocks) :
    Mk blocks (put l x) ∧ ∀ k c, Den (put l x) k c ↔ ((k < x.lba ∨ x.lba + x.len ≤ k) ∧ Den l k c) ∨ Cv x k c := by
  have hc := mk_ch h
  have hb := mk_blocks h
  have px := ck_pos hx
  have hg : Cg 0 l blocks := by
    have := ch_cg hc
    rwa [h.2.2, Int.zero_add] at this
  have hp := cg_pcs_f hx l 0 blocks (by omega) hg (by omega) (by omega)
  rw [show max blocks (x.lba + x.len) = blocks by omega] at hp
  obtain ⟨a, b⟩ := ch_adds (pcs x false l) [] (e := blocks) trivial hp
  refine ⟨ch_mk a b (by omega), fun k c => ?_⟩
  unfold put
  rw [den_adds, den_pcs_f hx l fun e he => (ch_ck hc e he).1]
  have hex : ∃ e ∈ l, e.lba + e.len > x.lba := by
    refine ⟨exAt l (l.length - 1), ?_, ?_⟩
    · have hl : 0 < l.length := List.length_pos_iff.2 h.1
      unfold exAt
      rw [List.getD_eq_getElem?_getD, List.getElem?_eq_getElem (by omega)]
      exact List.getElem_mem _
    · have hl : 0 < l.length := List.length_pos_iff.2 h.1
      have h1 := (h.2.1 (l.length - 1) (by omega)).2.1
      have h2 := sl_take l (l.length - 1) (by omega)
      rw [show l.length - 1 + 1 = l.length by omega, List.take_length, h.2.2] at h2
      omega
  constructor
  · rintro (q | q | q)
    · exact absurd q den_nil
    · exact .inl q
    · exact .inr q.1
  · rintro (q | q)
    · exact .inr (.inl q)
    · exact .inr (.inr ⟨q, hex⟩)
end Ab
end Go.Proofs.Ytphnpgdamacfmaa
