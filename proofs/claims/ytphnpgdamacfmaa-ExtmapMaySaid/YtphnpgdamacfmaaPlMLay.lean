/- What extmap.Put and extmap.Lay answer; what a range of a map is. -/
import Derived.Test.YtphnpgdamacfmaaPlMPut
import Derived.Test.YtphnpgdamacfmaaFnE
namespace Go.Proofs.Ytphnpgdamacfmaa
open Go Go.Proofs.Ytphnpgdamacfmaa.Ab
set_option linter.unusedVariables false
set_option linter.unusedSimpArgs false
namespace Ab
theorem ch_len : ∀ {l : List Ex} {s : Int}, CH s l → (l.length : Int) ≤ sl l
  | [], _, _ => by simp [sl]
  | x :: l, s, h => by
    have := ch_len h.2.2.2
    have := ck_pos h.1
    simp only [sl, List.length_cons]; omega
theorem mk_len {blocks : Int} {l : List Ex} (h : Mk blocks l) : l.length ≤ 64 := by
  have h1 := ch_len (mk_ch h)
  have h2 := mk_blocks h
  have h3 := h.2.2
  omega
theorem mk_cks {blocks : Int} {l : List Ex} (h : Mk blocks l) : ∀ x ∈ l, Ck x := fun x hx => (ch_ck (mk_ch h) x hx).1
theorem own_mk {blocks : Int} {l : List Ex} (h : Mk blocks l) : mOwn l = some l :=
  mOwn_eq l (by have := mk_len h; omega) fun x hx => by have := ck_dlen (mk_cks h x hx); omega
/-- It may be, and lies within so many blocks. -/
def Fit8 (blocks : Int) (x : Ex) : Prop := Ck x ∧ x.lba + x.len ≤ blocks
instance (blocks : Int) (x : Ex) : Decidable (Fit8 blocks x) := by unfold Fit8; infer_instance
def puts (blocks : Int) (l : List Ex) (x : Ex) : List Ex × Int := if Mk blocks l then (if Fit8 blocks x then (put l x, 0) else (l, 81)) else ([], 80)
theorem P1_len (x : Ex) (fl : Bool) (e : Ex) : (P1 x fl e).length ≤ 3 := by
  unfold P1
  rw [List.length_append, List.length_append]
  have h : ∀ o : Option Ex, o.toList.length ≤ 1 := fun o => by cases o <;> simp
  have h1 := h (cut e 0 x.lba)
  have h2 := h (cut e (x.lba + x.len) 64)
  split <;> simp only [List.length_cons, List.length_nil] <;> omega
theorem stp_len (x : Ex) : ∀ (l : List Ex) (p : Bool × List Ex), (l.foldl (stp x) p).2.length ≤ p.2.length + 3 * l.length
  | [], p => by simp
  | e :: l, p => by
    have h1 := stp_len x l (stp x p e)
    have h2 := adds_len (P1 x p.1 e) p.2
    have h3 := P1_len x p.1 e
    have h4 : (stp x p e).2 = (P1 x p.1 e).foldl add p.2 := rfl
    rw [h4] at h1
    rw [List.foldl_cons, List.length_cons]; omega
theorem stp_take (x : Ex) (l : List Ex) (i : Nat) (hi : i < l.length) (p : Bool × List Ex) : (l.take (i + 1)).foldl (stp x) p = stp x ((l.take i).foldl (stp x) p) (exAt l i) := by
  rw [ex_take1 l i hi, List.foldl_append]; rfl
theorem mPut_eq (blocks : Int) (l : List Ex) (x : Ex) (hl : l.length ≤ 4294967296) : mPut blocks l x = some (puts blocks l x) := by
  unfold mPut puts
  rw [mCheck_eq _ _ hl, tc_some, tb_not]
  by_cases hm : Mk blocks l
  case neg => rw [mk_f hm, if_neg hm]; rfl
  rw [mk_t hm, tb_t, if_pos hm, eCheck_eq, tc_some, tb_not]
  by_cases hx : Ck x
  case neg => rw [ck_f hx, tb_f, own_mk hm, tc_some, if_neg fun h => hx h.1]
  have px := ck_pos hx
  have hlen := mk_len hm
  rw [ck_t hx, tb_t, tb_dec, wr_id (x := x.lba + x.len) (by omega) (by omega)]
  by_cases hf : x.lba + x.len > blocks
  · rw [if_pos hf, own_mk hm, tc_some, if_neg fun h => by have := h.2; omega]
  rw [if_neg hf, if_pos (show Fit8 blocks x from ⟨hx, by omega⟩)]
  have hS := fun (f : Bool × Int × List Ex → Option (List Ex × Int)) => th_run (f := f) (step := mPut_L0_step blocks l x true true) (fun i => (((l.take i).foldl (stp x) (false, [])).1, (i : Int), ((l.take i).foldl (stp x) (false, [])).2)) l.length (fun i hi => ?_) ?_
  rotate_left
  · have hb := stp_len x (l.take i) (false, [])
    rw [List.length_take] at hb
    simp only [List.length_nil] at hb
    rw [step_eq blocks l x true true _ i _ hi (by omega) (hm.2.1 i hi).1 hx (by omega), stp_take _ _ _ hi]
    simp
  · unfold mPut_L0_step
    simp only [tb_dec]
    rw [if_neg (by omega)]
  refine (hS _).trans ?_
  have hp : ((l.take l.length).foldl (stp x) (false, [])).2 = put l x := by rw [List.take_length, stp_pcs]; rfl
  simp only [tb_dec, hp]
  have hmk := (put_spec hm hx (by omega)).1
  rw [if_neg (by omega), tp_pos (by first | exact ⟨rfl, exs_len _⟩ | exact ⟨trivial, exs_len _⟩), own_mk hmk, tc_some]
theorem puts_mk {blocks : Int} : ∀ (o l : List Ex), Mk blocks l → (∀ x ∈ o, Fit8 blocks x) → Mk blocks (o.foldl put l)
  | [], l, h, _ => h
  | x :: o, l, h, hf => by
    have h1 := hf x (by simp)
    exact puts_mk o (put l x) (put_spec h h1.1 h1.2).1 fun y hy => hf y (by simp [hy])
def lays (blocks : Int) (l o : List Ex) : List Ex × Int := if Mk blocks l then (if ∀ x ∈ o, Fit8 blocks x then (o.foldl put l, 0) else (l, 81)) else ([], 80)
theorem put_take (o l : List Ex) (i : Nat) (hi : i < o.length) : (o.take (i + 1)).foldl put l = put ((o.take i).foldl put l) (exAt o i) := by
  rw [ex_take1 o i hi, List.foldl_append]; rfl
theorem mem_take {o : List Ex} {n : Nat} {P : Ex → Prop} (hn : n ≤ o.length) (h : ∀ j, j < n → P (exAt o j)) : ∀ x ∈ o.take n, P x := by
  intro x hx
  obtain ⟨j, hj, e⟩ := List.getElem_of_mem hx
  rw [List.length_take] at hj
  rw [List.getElem_take] at e
  have := h j (by omega)
  rw [← e]
  have e2 : exAt o j = o[j]'(by omega) := by unfold exAt; simp [show j < o.length by omega]
  rw [← e2]; exact this
def layS (l o : List Ex) (i : Nat) : List Ex × Int := ((o.take (i + 1)).foldl put l, ((i + 1 : Nat) : Int))
theorem layS_0 (l o : List Ex) (h : 0 < o.length) : layS l o 0 = (put l (exAt o 0), 1) := by
  unfold layS; rw [put_take o l 0 h]; rfl
theorem mLay_eq (blocks : Int) (l o : List Ex) (hl : l.length ≤ 4294967296) (ho : o.length ≤ 4294967296) : mLay blocks l o = some (lays blocks l o) := by
  unfold mLay lays
  rw [mCheck_eq _ _ hl, tc_some, tb_not]
  by_cases hm : Mk blocks l
  case neg => rw [mk_f hm, if_neg hm]; rfl
  rw [mk_t hm, tb_t, if_pos hm, own_mk hm, tc_some, tb_beq]
  by_cases h0 : o.length = 0
  · have : o = [] := List.eq_nil_of_length_eq_zero h0
    subst this
    rw [if_pos (show (0 : Int) = (([] : List Ex).length : Int) from rfl), if_pos (by simp)]; rfl
  rw [if_neg (by omega), mPut_eq _ _ _ hl, tc_some, tb_bne]
  by_cases f0 : Fit8 blocks (exAt o 0)
  case neg =>
    have e : puts blocks l (exAt o 0) = (l, 81) := by unfold puts; rw [if_pos hm, if_neg f0]
    have hex : ¬ ∀ x ∈ o, Fit8 blocks x := fun h => f0 (h _ (by
      unfold exAt; rw [List.getD_eq_getElem?_getD, List.getElem?_eq_getElem (by omega)]; exact List.getElem_mem _))
    rw [e, if_neg (by simp), tc_some, if_neg hex]
  have e : puts blocks l (exAt o 0) = (put l (exAt o 0), 0) := by unfold puts; rw [if_pos hm, if_pos f0]
  rw [e, if_pos rfl]
  have hQ : (∀ i, i < o.length - 1 → Fit8 blocks (exAt o (i + 1))) ↔ ∀ x ∈ o, Fit8 blocks x := by
    constructor
    · intro h
      have := mem_take (o := o) (n := o.length) (P := Fit8 blocks) (Nat.le_refl _) fun j hj => by
        cases j with
        | zero => exact f0
        | succ j => exact h j (by omega)
      rwa [List.take_length] at this
    · intro h i hi
      refine h _ ?_
      unfold exAt; rw [List.getD_eq_getElem?_getD, List.getElem?_eq_getElem (by omega)]; exact List.getElem_mem _
  have hmk : ∀ i, i < o.length → (∀ j, j < i → Fit8 blocks (exAt o (j + 1))) → Mk blocks ((o.take (i + 1)).foldl put l) := fun i hi h => puts_mk _ _ hm (mem_take (by omega) fun j hj => by
    cases j with
    | zero => exact f0
    | succ j => exact h j (by omega))
  show th (mLay_G0_step blocks l o true l (put l (exAt o 0), 0)) (put l (exAt o 0), 1) _ = _
  rw [← layS_0 l o (by omega)]
  refine Eq.trans (th_first (some (l, 81)) (some (o.foldl put l, 0)) (layS l o) (o.length - 1) (fun i => Fit8 blocks (exAt o (i + 1))) (∀ x ∈ o, Fit8 blocks x) hQ (fun i hi hpre hp => ?_) (fun i hi hpre hp => ?_) (fun hall => ?_)) ?_
  · have hk := hmk i (by omega) hpre
    unfold mLay_G0_step layS
    simp only [tb_beq, tb_bne, Int.toNat_natCast]
    rw [if_neg (by omega), tp_pos (by omega), mPut_eq _ _ _ (by have := mk_len hk; omega), tc_some]
    unfold puts
    rw [if_pos hk, if_pos hp, if_pos rfl, wr_id (by omega) (by omega), put_take _ _ _ (show i + 1 < o.length by omega)]
    simp
  · have hk := hmk i (by omega) hpre
    have e2 : puts blocks ((o.take (i + 1)).foldl put l) (exAt o (i + 1)) = ((o.take (i + 1)).foldl put l, 81) := by unfold puts; rw [if_pos hk, if_neg hp]
    unfold mLay_G0_step layS
    simp only [tb_beq, tb_bne, Int.toNat_natCast]
    rw [mPut_eq _ _ _ (by have := mk_len hk; omega), e2]
    simp only [tc_some]
    rw [if_neg (by omega), tp_pos (by omega), if_neg (by omega), if_neg (by omega), tp_pos (by omega)]
    exact ⟨rfl, rfl⟩
  · unfold mLay_G0_step layS
    simp only [tb_beq]
    rw [if_pos (by omega), if_pos (by omega), show o.length - 1 + 1 = o.length by omega, List.take_length]
    exact ⟨rfl, rfl⟩
  · by_cases hall : ∀ x ∈ o, Fit8 blocks x
    · rw [if_pos hall, if_pos hall]
    · rw [if_neg hall, if_neg hall]
theorem fm_ch {lo n : Int} (h0 : 0 ≤ lo) (h1 : 1 ≤ n) (h2 : lo + n ≤ 64) : ∀ (l : List Ex) (s : Int), 0 ≤ s → CH s l → s ≤ lo + n → lo + n ≤ s + sl l → CH (max s lo) (fm lo n l) ∧ sl (fm lo n l) = lo + n - max s lo
  | [], s, g0, h, g1, g2 => by
    simp only [sl] at g2
    refine ⟨trivial, ?_⟩
    show (0 : Int) = _
    omega
  | e :: l, s, g0, h, g1, g2 => by
    have pe := ck_pos h.1
    have be := h.2.1
    simp only [sl] at g2
    by_cases c1 : s + e.len ≤ lo
    · have hn : fm lo n (e :: l) = fm lo n l := by
        unfold fm; rw [List.filterMap_cons, cut_neg fun g => by have := g.2.2.2.2.2; omega]
      have ih := fm_ch h0 h1 h2 l (s + e.len) (by omega) h.2.2.2 (by omega) (by omega)
      rw [hn, show max s lo = max (s + e.len) lo by omega]; exact ih
    by_cases c2 : s = lo + n
    · have hn : fm lo n (e :: l) = [] := fm_nil fun z hz g => by
        have := (ch_ck h z hz).2
        have := g.2.2.2.2.2
        omega
      rw [hn]
      refine ⟨trivial, ?_⟩
      show (0 : Int) = _
      omega
    have g : Cu e lo n := ⟨h.1, by omega, by omega, by omega, by omega, by omega⟩
    have k1 : (cu e lo n).lba = max s lo := by show max e.lba lo = _; rw [be]
    have k2 : (cu e lo n).len = min (e.lba + e.len) (lo + n) - max s lo := by show _ - max e.lba lo = _; rw [be]
    rw [fm_yes g]
    by_cases c3 : lo + n ≤ s + e.len
    · have hn : fm lo n l = [] := fm_nil fun z hz q => by
        have := (ch_ck h.2.2.2 z hz).2
        have := q.2.2.2.2.2
        omega
      rw [hn]
      refine ⟨⟨cu_ck g, k1, (by intro y hy; cases hy), trivial⟩, ?_⟩
      simp only [sl, k2]; omega
    · have ih := fm_ch h0 h1 h2 l (s + e.len) (by omega) h.2.2.2 (by omega) (by omega)
      refine ⟨⟨cu_ck g, k1, fun y hy hj => ?_, ?_⟩, ?_⟩
      · cases l with
        | nil => simp only [sl] at g2; omega
        | cons v l =>
          have hv := h.2.2.2
          have pv := ck_pos hv.1
          have bv := hv.2.1
          have gv : Cu v lo n := ⟨hv.1, by omega, by omega, by omega, by omega, by omega⟩
          rw [fm_yes gv, List.head?_cons] at hy
          injection hy with hy
          subst hy
          exact h.2.2.1 v rfl ⟨h.1, hv.1, by omega, hj.2.2.2.1, hj.2.2.2.2⟩
      · rw [k2, show max s lo + (min (e.lba + e.len) (lo + n) - max s lo) = max (s + e.len) lo by omega]; exact ih.1
      · simp only [sl, k2, ih.2]; omega
theorem fm_den {lo n : Int} (h1 : 0 ≤ lo ∧ lo ≤ 64) (h2 : 0 ≤ n ∧ n ≤ 64) : ∀ (l : List Ex), (∀ x ∈ l, Ck x) → ∀ {k : Int} {c : Int × Int × List UInt8}, Den (fm lo n l) k c ↔ lo ≤ k ∧ k < lo + n ∧ Den l k c
  | [], _, k, c => ⟨fun q => absurd q den_nil, fun q => absurd q.2.2 den_nil⟩
  | x :: l, h, k, c => by
    have ih := fm_den h1 h2 l (fun y hy => h y (by simp [hy])) (k := k) (c := c)
    have e : fm lo n (x :: l) = (cut x lo n).toList ++ fm lo n l := by
      unfold fm
      rw [List.filterMap_cons]
      cases cut x lo n <;> rfl
    rw [e, den_app, cv_cut (h x (by simp)) h1 h2, ih, den_cons]
    constructor
    · rintro (⟨a, b, q⟩ | ⟨a, b, q⟩)
      · exact ⟨a, b, .inl q⟩
      · exact ⟨a, b, .inr q⟩
    · rintro ⟨a, b, q | q⟩
      · exact .inl ⟨a, b, q⟩
      · exact .inr ⟨a, b, q⟩
/-- What was laid last is found whole. -/
theorem range_put {blocks : Int} {l : List Ex} {y : Ex} (h : Mk blocks l) (hy : Fit8 blocks y) : rng blocks (put l y) y.lba y.len = ([y], 0) := by
  obtain ⟨hm, hd⟩ := put_spec h hy.1 hy.2
  have py := ck_pos hy.1
  have hb := mk_blocks h
  have hf := hy.2
  unfold rng
  rw [if_pos hm, if_pos (show Ro blocks y.lba y.len from ⟨by omega, by omega, by omega, by omega⟩)]
  have e : fm y.lba y.len (put l y) = [y] := by
    obtain ⟨c1, c2⟩ := fm_ch (lo := y.lba) (n := y.len) (by omega) (by omega) (by omega) (put l y) 0 (by omega) (mk_ch hm) (by omega) (by rw [hm.2.2]; omega)
    rw [show max 0 y.lba = y.lba by omega] at c1 c2
    refine ch_uniq _ _ y.lba c1 ⟨hy.1, rfl, (by intro z hz; cases hz), trivial⟩ (by rw [c2]; simp only [sl]; omega) fun k c => ?_
    rw [fm_den (by omega) (by omega) _ (mk_cks hm), hd, den_one]
    constructor
    · rintro ⟨a, b, (⟨q, _⟩ | q)⟩
      · omega
      · exact q
    · intro q
      have := q.1
      have := q.2.1
      exact ⟨by omega, by omega, .inr q⟩
  show (fm y.lba y.len (put l y), (0 : Int)) = _
  rw [e]
end Ab
end Go.Proofs.Ytphnpgdamacfmaa
