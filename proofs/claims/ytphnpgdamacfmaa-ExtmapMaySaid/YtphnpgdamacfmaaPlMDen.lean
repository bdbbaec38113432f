/- What a map holds, block by block; maps that hold the same are the same. -/
import Derived.Test.YtphnpgdamacfmaaPlMCh
namespace Go.Proofs.Ytphnpgdamacfmaa
open Go Go.Proofs.Ytphnpgdamacfmaa.Ab
set_option linter.unusedVariables false
set_option linter.unusedSimpArgs false
namespace Ab
/-- A block of an extent. -/
def bAt (x : Ex) (k : Int) : Int × Int × List UInt8 := (x.kind, x.gen, (x.d.drop (32 * (k - x.lba)).toNat).take 32)
/-- An extent holds at a block so much. -/
def Cv (x : Ex) (k : Int) (c : Int × Int × List UInt8) : Prop := x.lba ≤ k ∧ k < x.lba + x.len ∧ c = bAt x k
def Den (l : List Ex) (k : Int) (c : Int × Int × List UInt8) : Prop := ∃ x ∈ l, Cv x k c
theorem den_nil {k : Int} {c : Int × Int × List UInt8} : ¬ Den [] k c := fun ⟨x, hx, _⟩ => by cases hx
theorem den_cons {x : Ex} {l : List Ex} {k : Int} {c : Int × Int × List UInt8} : Den (x :: l) k c ↔ Cv x k c ∨ Den l k c := by
  unfold Den; simp
theorem den_app {a b : List Ex} {k : Int} {c : Int × Int × List UInt8} : Den (a ++ b) k c ↔ Den a k c ∨ Den b k c := by
  unfold Den
  constructor
  · rintro ⟨x, hx, h⟩
    rcases List.mem_append.1 hx with e | e
    · exact .inl ⟨x, e, h⟩
    · exact .inr ⟨x, e, h⟩
  · rintro (⟨x, hx, h⟩ | ⟨x, hx, h⟩)
    · exact ⟨x, List.mem_append.2 (.inl hx), h⟩
    · exact ⟨x, List.mem_append.2 (.inr hx), h⟩
theorem den_one {x : Ex} {k : Int} {c : Int × Int × List UInt8} : Den [x] k c ↔ Cv x k c := by
  rw [den_cons]; exact or_iff_left den_nil
theorem ck_pos {x : Ex} (h : Ck x) : 0 ≤ x.lba ∧ x.lba ≤ 64 ∧ 1 ≤ x.len ∧ x.lba + x.len ≤ 64 := by
  unfold Ck at h; omega
theorem ck_d2 {x : Ex} (h : Ck x) (hk : x.kind = 2) : (x.d.length : Int) = 32 * x.len := by
  unfold Ck at h; exact h.2.2.2.2.2.2.2.2.1 hk
theorem ck_d0 {x : Ex} (h : Ck x) (hk : x.kind ≠ 2) : x.d = [] := by
  unfold Ck at h; exact h.2.2.2.2.2.2.2.2.2 hk
/-- A part holds what the whole holds there. -/
theorem bAt_cu {x : Ex} {lo n k : Int} (h : Ck x) (h1 : max x.lba lo ≤ k) (h2 : k < min (x.lba + x.len) (lo + n)) : bAt (cu x lo n) k = bAt x k := by
  have hp := ck_pos h
  simp only [bAt, cu, Prod.mk.injEq, true_and]
  split
  · rename_i hk
    have e : (32 * (k - x.lba)).toNat = (32 * (max x.lba lo - x.lba)).toNat + (32 * (k - max x.lba lo)).toNat := by omega
    rw [e, ← List.drop_drop, List.drop_take, List.take_take]
    congr 1
    omega
  · rename_i hk
    rw [ck_d0 h hk]; simp
theorem cv_cut {x : Ex} {lo n k : Int} {c : Int × Int × List UInt8} (h : Ck x) (h1 : 0 ≤ lo ∧ lo ≤ 64) (h2 : 0 ≤ n ∧ n ≤ 64) : Den (cut x lo n).toList k c ↔ lo ≤ k ∧ k < lo + n ∧ Cv x k c := by
  by_cases g : Cu x lo n
  · rw [cut_pos g]
    show Den [cu x lo n] k c ↔ _
    rw [den_one]
    unfold Cv
    have e1 : (cu x lo n).lba = max x.lba lo := rfl
    have e2 : (cu x lo n).len = min (x.lba + x.len) (lo + n) - max x.lba lo := rfl
    rw [e1, e2]
    constructor
    · rintro ⟨a, b, e⟩
      rw [bAt_cu h (by omega) (by omega)] at e
      exact ⟨by omega, by omega, by omega, by omega, e⟩
    · rintro ⟨a, b, c1, c2, e⟩
      exact ⟨by omega, by omega, by rw [bAt_cu h (by omega) (by omega)]; exact e⟩
  · rw [cut_neg g]
    refine ⟨fun hd => absurd hd den_nil, fun ⟨a, b, c1, c2, e⟩ => absurd ?_ g⟩
    exact ⟨h, by omega, by omega, by omega, by omega, by omega⟩
theorem ck_jnx {a b : Ex} (h : Jn a b) : Ck (jnx a b) := by
  obtain ⟨ha, hb, h1, h2, h3⟩ := h
  have pa := ck_pos ha
  have pb := ck_pos hb
  have ca := ha
  unfold Ck at ca
  refine ⟨by simp only [jnx]; omega, by simp only [jnx]; omega, by simp only [jnx]; omega, by simp only [jnx]; omega, by simp only [jnx]; omega, by simp only [jnx]; omega, by simp only [jnx]; omega, by simp only [jnx]; omega, fun hk => ?_, fun hk => ?_⟩
  · have hk : a.kind = 2 := hk
    have e1 := ck_d2 ha hk
    have e2 := ck_d2 hb (h2 ▸ hk)
    simp only [jnx, List.length_append]; omega
  · have hk : a.kind ≠ 2 := hk
    simp only [jnx, ck_d0 ha hk, ck_d0 hb (h2 ▸ hk), List.append_nil]
theorem cv_jnx {a b : Ex} (h : Jn a b) {k : Int} {c : Int × Int × List UInt8} : Cv (jnx a b) k c ↔ Cv a k c ∨ Cv b k c := by
  obtain ⟨ha, hb, h1, h2, h3⟩ := h
  have pa := ck_pos ha
  have pb := ck_pos hb
  have e0 : (jnx a b).lba = a.lba := rfl
  have e1 : (jnx a b).len = a.len + b.len := rfl
  have k1 : ∀ k, a.lba ≤ k → k < a.lba + a.len → bAt (jnx a b) k = bAt a k := by
    intro k g1 g2
    simp only [bAt, jnx, Prod.mk.injEq, true_and]
    by_cases hk : a.kind = 2
    · have d1 := ck_d2 ha hk
      rw [List.drop_append_of_le_length (by omega), List.take_append_of_le_length (by rw [List.length_drop]; omega)]
    · rw [ck_d0 ha hk, ck_d0 hb (h2 ▸ hk)]; rfl
  have k2 : ∀ k, b.lba ≤ k → k < b.lba + b.len → bAt (jnx a b) k = bAt b k := by
    intro k g1 g2
    simp only [bAt, jnx, Prod.mk.injEq]
    refine ⟨h2, h3, ?_⟩
    by_cases hk : a.kind = 2
    · have d1 := ck_d2 ha hk
      have e : (32 * (k - a.lba)).toNat = a.d.length + (32 * (k - b.lba)).toNat := by omega
      rw [e, ← List.drop_drop, List.drop_left]
    · rw [ck_d0 ha hk, ck_d0 hb (h2 ▸ hk)]; simp
  unfold Cv
  rw [e0, e1]
  constructor
  · rintro ⟨g1, g2, e⟩
    by_cases g : k < a.lba + a.len
    · exact .inl ⟨g1, g, by rw [← k1 k g1 g]; exact e⟩
    · exact .inr ⟨by omega, by omega, by rw [← k2 k (by omega) (by omega)]; exact e⟩
  · rintro (⟨g1, g2, e⟩ | ⟨g1, g2, e⟩)
    · exact ⟨by omega, by omega, by rw [k1 k g1 g2]; exact e⟩
    · exact ⟨by omega, by omega, by rw [k2 k g1 g2]; exact e⟩
theorem snoc_of {out : List Ex} (h : out ≠ []) : out = out.dropLast ++ [out.getLastD ⟨0, 0, 0, 0, []⟩] := by
  have e : out = out.dropLast ++ [out.getLast h] := (List.dropLast_concat_getLast h).symm
  have e2 : out.getLastD ⟨0, 0, 0, 0, []⟩ = out.getLast h := (congrArg (fun l => List.getLastD l ⟨0, 0, 0, 0, []⟩) e).trans (by simp)
  rw [e2]; exact e
theorem den_add {out : List Ex} {y : Ex} {k : Int} {c : Int × Int × List UInt8} : Den (add out y) k c ↔ Den out k c ∨ Cv y k c := by
  unfold add
  by_cases h : out ≠ [] ∧ Jn (out.getLastD ⟨0, 0, 0, 0, []⟩) y
  · rw [if_pos h]
    have e := snoc_of h.1
    generalize out.getLastD ⟨0, 0, 0, 0, []⟩ = a at h e ⊢
    generalize out.dropLast = o at e ⊢
    rw [e, den_app, den_app, den_one, den_one, cv_jnx h.2, or_assoc]
  · rw [if_neg h, den_app, den_one]
theorem den_adds : ∀ (ys out : List Ex) {k : Int} {c : Int × Int × List UInt8}, Den (ys.foldl add out) k c ↔ Den out k c ∨ Den ys k c
  | [], out, k, c => by simp only [List.foldl_nil]; exact (or_iff_left den_nil).symm
  | y :: ys, out, k, c => by rw [List.foldl_cons, den_adds ys, den_add, den_cons, or_assoc]
theorem ch_snoc : ∀ (o : List Ex) (s : Int) (y : Ex), CH s (o ++ [y]) ↔ CH s o ∧ Ck y ∧ y.lba = s + sl o ∧ (∀ a, o.getLast? = some a → ¬ Jn a y)
  | [], s, y => by simp [CH, sl]
  | x :: o, s, y => by
    have ih := ch_snoc o (s + x.len) y
    rw [List.cons_append]
    unfold CH
    rw [ih]
    cases o with
    | nil =>
      simp only [List.nil_append, List.head?_cons, List.head?_nil, Option.some.injEq, forall_eq', List.getLast?_singleton, List.getLast?_nil, CH, sl]
      constructor
      · rintro ⟨a, b, d, e, f, g, _⟩
        exact ⟨⟨a, b, (by intro y h; cases h), trivial⟩, f, by omega, d⟩
      · rintro ⟨⟨a, b, _, _⟩, f, g, d⟩
        exact ⟨a, b, d, trivial, f, by omega, (by intro a h; cases h)⟩
    | cons z o =>
      simp only [List.cons_append, List.head?_cons, Option.some.injEq, forall_eq', List.getLast?_cons_cons, sl]
      constructor
      · rintro ⟨a, b, d, e, f, g, i⟩
        exact ⟨⟨a, b, d, e⟩, f, by omega, i⟩
      · rintro ⟨⟨a, b, d, e⟩, f, g, i⟩
        exact ⟨a, b, d, e, f, by omega, i⟩
theorem ch_add {s : Int} {out : List Ex} {y : Ex} (h : CH s out) (hy : Ck y) (hl : y.lba = s + sl out) : CH s (add out y) ∧ sl (add out y) = sl out + y.len := by
  unfold add
  by_cases g : out ≠ [] ∧ Jn (out.getLastD ⟨0, 0, 0, 0, []⟩) y
  · rw [if_pos g]
    have e := snoc_of g.1
    generalize out.getLastD ⟨0, 0, 0, 0, []⟩ = a at g e ⊢
    generalize out.dropLast = o at e ⊢
    rw [e] at h hl ⊢
    obtain ⟨c1, c2, c3, c4⟩ := (ch_snoc o s a).1 h
    refine ⟨(ch_snoc o s _).2 ⟨c1, ck_jnx g.2, c3, fun b hb hj => c4 b hb ⟨hj.1, c2, hj.2.2.1, hj.2.2.2.1, hj.2.2.2.2⟩⟩, ?_⟩
    rw [sl_append, sl_append]
    simp only [sl, jnx]; omega
  · rw [if_neg g]
    refine ⟨(ch_snoc out s y).2 ⟨h, hy, hl, fun a ha hj => g ⟨?_, ?_⟩⟩, ?_⟩
    · intro e0; rw [e0] at ha; cases ha
    · rw [List.getLastD_eq_getLast?, ha]; exact hj
    · rw [sl_append]; simp only [sl]; omega
/-- Extents one behind the other, from a block to a block. -/
def Cg : Int → List Ex → Int → Prop
  | s, [], e => s = e
  | s, p :: ps, e => Ck p ∧ p.lba = s ∧ Cg (s + p.len) ps e
theorem cg_app : ∀ (a b : List Ex) {s m e : Int}, Cg s a m → Cg m b e → Cg s (a ++ b) e
  | [], b, s, m, e, h1, h2 => by rw [show s = m from h1]; exact h2
  | x :: a, b, s, m, e, h1, h2 => ⟨h1.1, h1.2.1, cg_app a b h1.2.2 h2⟩
theorem ch_adds : ∀ (ps out : List Ex) {e : Int}, CH 0 out → Cg (sl out) ps e → CH 0 (ps.foldl add out) ∧ sl (ps.foldl add out) = e
  | [], out, e, h, hg => ⟨h, hg⟩
  | p :: ps, out, e, h, hg => by
    obtain ⟨a, b⟩ := ch_add h hg.1 (by rw [Int.zero_add]; exact hg.2.1)
    rw [List.foldl_cons]
    exact ch_adds ps _ a (by rw [b]; exact hg.2.2)
theorem ch_cg : ∀ {l : List Ex} {s : Int}, CH s l → Cg s l (s + sl l)
  | [], s, _ => by simp [Cg, sl]
  | x :: l, s, h => ⟨h.1, h.2.1, by rw [show s + sl (x :: l) = s + x.len + sl l by simp only [sl]; omega]; exact ch_cg h.2.2.2⟩
theorem den_ge {l : List Ex} {s : Int} (h : CH s l) {k : Int} {c : Int × Int × List UInt8} (hd : Den l k c) : s ≤ k := by
  obtain ⟨x, hx, hc⟩ := hd
  have := (ch_ck h x hx).2
  have := hc.1
  omega
theorem d_ext {x y : Ex} (hx : Ck x) (hy : Ck y) (hb : x.lba = y.lba) (hl : x.len = y.len) (h : ∀ k, x.lba ≤ k → k < x.lba + x.len → bAt x k = bAt y k) : x = y := by
  have px := ck_pos hx
  have h0 := h x.lba (by omega) (by omega)
  simp only [bAt, Prod.mk.injEq] at h0
  have hd : x.d = y.d := by
    by_cases hk : x.kind = 2
    · have d1 := ck_d2 hx hk
      have d2 := ck_d2 hy (h0.1 ▸ hk)
      apply List.ext_getElem?
      intro j
      by_cases hj : j < x.d.length
      · have hq := h (x.lba + (j / 32 : Nat)) (by omega) (by omega)
        simp only [bAt, Prod.mk.injEq] at hq
        have hq : (List.take 32 (List.drop (32 * (x.lba + ((j / 32 : Nat) : Int) - x.lba)).toNat x.d))[j % 32]? = (List.take 32 (List.drop (32 * (x.lba + ((j / 32 : Nat) : Int) - y.lba)).toNat y.d))[j % 32]? := congrArg (fun l => l[j % 32]?) hq.2.2
        have hm : j % 32 < 32 := Nat.mod_lt _ (by omega)
        rw [List.getElem?_take_of_lt hm, List.getElem?_take_of_lt hm, List.getElem?_drop, List.getElem?_drop] at hq
        have e1 : (32 * (x.lba + ((j / 32 : Nat) : Int) - x.lba)).toNat + j % 32 = j := by omega
        have e2 : (32 * (x.lba + ((j / 32 : Nat) : Int) - y.lba)).toNat + j % 32 = j := by omega
        rw [e1, e2] at hq
        exact hq
      · rw [List.getElem?_eq_none (by omega), List.getElem?_eq_none (by omega)]
    · rw [ck_d0 hx hk, ck_d0 hy (h0.1 ▸ hk)]
  cases x; cases y
  simp_all
theorem sl_nn : ∀ {l : List Ex}, (∀ x ∈ l, Ck x) → 0 ≤ sl l
  | [], _ => by simp [sl]
  | x :: l, h => by
    have h1 := sl_nn fun y hy => h y (List.mem_cons_of_mem _ hy)
    have h2 := ck_pos (h x (by simp))
    simp only [sl]; omega
/-- Maps that hold the same are the same. -/
theorem ch_uniq : ∀ (l l' : List Ex) (s : Int), CH s l → CH s l' → sl l = sl l' → (∀ k c, Den l k c ↔ Den l' k c) → l = l'
  | [], [], _, _, _, _, _ => rfl
  | [], y :: l', s, _, h, e, _ => by
    have := ck_pos h.1
    have := sl_nn fun z hz => (ch_ck h.2.2.2 z hz).1
    simp only [sl] at e; omega
  | x :: l, [], s, h, _, e, _ => by
    have := ck_pos h.1
    have := sl_nn fun z hz => (ch_ck h.2.2.2 z hz).1
    simp only [sl] at e; omega
  | x :: l, y :: l', s, h, h', e, hd => by
    have px := ck_pos h.1
    have py := ck_pos h'.1
    have bx := h.2.1
    have hy := h'.2.1
    have key : ∀ (u v : Ex) (a b : List Ex), CH s (u :: a) → CH s (v :: b) → sl (u :: a) = sl (v :: b) → (∀ k c, Den (u :: a) k c ↔ Den (v :: b) k c) → v.len ≤ u.len := by
      intro u v a b hu hv es hdn
      rcases Int.lt_or_le u.len v.len with g | g
      case inr => exact g
      exfalso
      have pu := ck_pos hu.1
      have pv := ck_pos hv.1
      have bu := hu.2.1
      have bv := hv.2.1
      cases a with
      | nil =>
        have := sl_nn fun z hz => (ch_ck hv.2.2.2 z hz).1
        simp only [sl] at es; omega
      | cons w a =>
        have hw := hu.2.2.2
        have pw := ck_pos hw.1
        have bw := hw.2.1
        have c0 : Cv u s (bAt u s) := ⟨by omega, by omega, rfl⟩
        have c1 : Cv w w.lba (bAt w w.lba) := ⟨by omega, by omega, rfl⟩
        have d0 := (hdn _ _).1 (den_cons.2 (.inl c0))
        have d1 := (hdn _ _).1 (den_cons.2 (.inr (den_cons.2 (.inl c1))))
        have n0 : Cv v s (bAt u s) := (den_cons.1 d0).resolve_right fun q => by have := den_ge hv.2.2.2 q; omega
        have n1 : Cv v w.lba (bAt w w.lba) := (den_cons.1 d1).resolve_right fun q => by have := den_ge hv.2.2.2 q; omega
        have q0 := n0.2.2
        have q1 := n1.2.2
        simp only [bAt, Prod.mk.injEq] at q0 q1
        exact hu.2.2.1 w rfl ⟨hu.1, hw.1, by omega, by omega, by omega⟩
    have hlen : x.len = y.len := Int.le_antisymm (key y x l' l h' h e.symm fun k c => (hd k c).symm) (key x y l l' h h' e hd)
    have hxy : x = y := by
      refine d_ext h.1 h'.1 (by omega) hlen fun k g1 g2 => ?_
      have c0 : Cv x k (bAt x k) := ⟨g1, g2, rfl⟩
      have d0 := (hd _ _).1 (den_cons.2 (.inl c0))
      have n0 : Cv y k (bAt x k) := (den_cons.1 d0).resolve_right fun q => by have := den_ge h'.2.2.2 q; omega
      exact n0.2.2
    subst hxy
    have ht : l = l' := ch_uniq l l' (s + x.len) h.2.2.2 h'.2.2.2 (by simp only [sl] at e; omega) fun k c => by
      constructor
      · intro q
        have g := den_ge h.2.2.2 q
        exact (den_cons.1 ((hd _ _).1 (den_cons.2 (.inr q)))).resolve_left fun r => by have := r.2.1; omega
      · intro q
        have g := den_ge h'.2.2.2 q
        exact (den_cons.1 ((hd _ _).2 (den_cons.2 (.inr q)))).resolve_left fun r => by have := r.2.1; omega
    rw [ht]
end Ab
end Go.Proofs.Ytphnpgdamacfmaa
