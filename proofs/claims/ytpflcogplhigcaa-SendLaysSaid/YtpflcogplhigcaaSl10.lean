/- The law 'SendLays': it returns true, and nothing that was there changes. No condition. (Part 10 of 12.) -/
import Derived.Test.YtpflcogplhigcaaSl9
import Derived.Test.YtpflcogplhigcaaRows
namespace Go.Proofs.Ytpflcogplhigcaa
open Go Go.Proofs.Ytpflcogplhigcaa.Ab
set_option linter.unusedVariables false
set_option linter.unusedSimpArgs false
namespace Ab
theorem ch_len : ∀ {l : List Ex} {s : Int}, CH s l → (l.length : Int) ≤ sl l
  | [], _, _ => by simp [sl]
  | x :: l, s, h => by
    have := ch_len h.2.2.2
    have := ck_pos h.1
    simp only [sl, List.length_cons]; omega
theorem mk_len {blocks : Int} {l : List Ex} (h : Mk blocks l) : l.length ≤ 64 := by
  have h1 := ch_len (mk_ch h)
  have h2 := mk_blocks h
  have h3 := h.2.2
  omega
theorem ch_fun : ∀ {l : List Ex} {s : Int}, CH s l → ∀ {k : Int} {c c' : Int × Int × List UInt8}, Den l k c → Den l k c' → c = c'
  | [], _, _, _, _, _, h1, _ => absurd h1 den_nil
  | x :: l, s, h, k, c, c', h1, h2 => by
    have bx := h.2.1
    rcases den_cons.1 h1 with a | a <;> rcases den_cons.1 h2 with b | b
    · rw [a.2.2, b.2.2]
    · have := den_ge h.2.2.2 b; have := a.2.1; omega
    · have := den_ge h.2.2.2 a; have := b.2.1; omega
    · exact ch_fun h.2.2.2 a b
theorem ch_cov : ∀ {l : List Ex} {s : Int}, CH s l → ∀ {k : Int}, s ≤ k → k < s + sl l → ∃ x ∈ l, x.lba ≤ k ∧ k < x.lba + x.len
  | [], s, _, k, h1, h2 => by simp only [sl] at h2; omega
  | x :: l, s, h, k, h1, h2 => by
    have bx := h.2.1
    simp only [sl] at h2
    by_cases g : k < x.lba + x.len
    · exact ⟨x, by simp, by omega, g⟩
    · obtain ⟨y, hy, q⟩ := ch_cov h.2.2.2 (k := k) (by omega) (by omega)
      exact ⟨y, by simp [hy], q⟩
theorem ch_end : ∀ {l : List Ex} {s : Int}, CH s l → ∀ x ∈ l, x.lba + x.len ≤ s + sl l
  | [], _, _, x, hx => by cases hx
  | y :: l, s, h, x, hx => by
    have by_ := h.2.1
    have h0 : 0 ≤ sl l := sl_nn fun z hz => (ch_ck h.2.2.2 z hz).1
    simp only [sl]
    rcases List.mem_cons.1 hx with e | e
    · subst e; omega
    · have := ch_end h.2.2.2 x e
      omega
end Ab
end Go.Proofs.Ytpflcogplhigcaa
namespace Go.Proofs.Ytpflcogplhigcaa
open Go Go.Proofs.Ytpflcogplhigcaa.Ab
set_option linter.unusedVariables false
set_option linter.unusedSimpArgs false
namespace Ab
theorem mk_cks {blocks : Int} {l : List Ex} (h : Mk blocks l) : ∀ x ∈ l, Ck x := fun x hx => (ch_ck (mk_ch h) x hx).1
theorem own_mk {blocks : Int} {l : List Ex} (h : Mk blocks l) : mOwn l = some l :=
  mOwn_eq l (by have := mk_len h; omega) fun x hx => by have := ck_dlen (mk_cks h x hx); omega
def Fit8 (blocks : Int) (x : Ex) : Prop := Ck x ∧ x.lba + x.len ≤ blocks
instance (blocks : Int) (x : Ex) : Decidable (Fit8 blocks x) := by unfold Fit8; infer_instance
def puts (blocks : Int) (l : List Ex) (x : Ex) : List Ex × Int := if Mk blocks l then (if Fit8 blocks x then (put l x, 0) else (l, 81)) else ([], 80)
theorem P1_len (x : Ex) (fl : Bool) (e : Ex) : (P1 x fl e).length ≤ 3 := by
  unfold P1
  rw [List.length_append, List.length_append]
  have h : ∀ o : Option Ex, o.toList.length ≤ 1 := fun o => by cases o <;> simp
  have h1 := h (cut e 0 x.lba)
  have h2 := h (cut e (x.lba + x.len) 64)
  split <;> simp only [List.length_cons, List.length_nil] <;> omega
theorem stp_len (x : Ex) : ∀ (l : List Ex) (p : Bool × List Ex), (l.foldl (stp x) p).2.length ≤ p.2.length + 3 * l.length
  | [], p => by simp
  | e :: l, p => by
    have h1 := stp_len x l (stp x p e)
    have h2 := adds_len (P1 x p.1 e) p.2
    have h3 := P1_len x p.1 e
    have h4 : (stp x p e).2 = (P1 x p.1 e).foldl add p.2 := rfl
    rw [h4] at h1
    rw [List.foldl_cons, List.length_cons]; omega
theorem stp_take (x : Ex) (l : List Ex) (i : Nat) (hi : i < l.length) (p : Bool × List Ex) : (l.take (i + 1)).foldl (stp x) p = stp x ((l.take i).foldl (stp x) p) (exAt l i) := by
  rw [ex_take1 l i hi, List.foldl_append]; rfl
theorem mPut_eq (blocks : Int) (l : List Ex) (x : Ex) (hl : l.length ≤ 4294967296) : mPut blocks l x = some (puts blocks l x) := by
  unfold mPut puts
  rw [mCheck_eq _ _ (by omega), tc_some, tb_not]
  by_cases hm : Mk blocks l
  case neg => rw [mk_f hm, if_neg hm]; rfl
  rw [mk_t hm, tb_t, if_pos hm, eCheck_eq, tc_some, tb_not]
  by_cases hx : Ck x
  case neg => rw [ck_f hx, tb_f, own_mk hm, tc_some, if_neg fun h => hx h.1]
  have px := ck_pos hx
  have hlen := mk_len hm
  rw [ck_t hx, tb_t, tb_dec, wr_id (x := x.lba + x.len) (by omega) (by omega)]
  by_cases hf : x.lba + x.len > blocks
  · rw [if_pos hf, own_mk hm, tc_some, if_neg fun h => by have := h.2; omega]
  rw [if_neg hf, if_pos (show Fit8 blocks x from ⟨hx, by omega⟩)]
  have hS := fun (f : Bool × Int × List Ex → Option (List Ex × Int)) => th_run (f := f) (step := mPut_L0_step blocks l x true true) (fun i => (((l.take i).foldl (stp x) (false, [])).1, (i : Int), ((l.take i).foldl (stp x) (false, [])).2)) l.length (fun i hi => ?_) ?_
  rotate_left
  · have hb := stp_len x (l.take i) (false, [])
    rw [List.length_take] at hb
    simp only [List.length_nil] at hb
    rw [step_eq blocks l x true true _ i _ hi (by omega) (hm.2.1 i hi).1 hx (by omega), stp_take _ _ _ hi]
    simp
  · unfold mPut_L0_step
    simp only [tb_dec]
    rw [if_neg (by omega)]
  refine (hS _).trans ?_
  have hp : ((l.take l.length).foldl (stp x) (false, [])).2 = put l x := by rw [List.take_length, stp_pcs]; rfl
  simp only [tb_dec, hp]
  have hmk := (put_spec hm hx (by omega)).1
  rw [if_neg (by omega), tp_pos (by first | exact ⟨rfl, exs_len _⟩ | exact ⟨trivial, exs_len _⟩), own_mk hmk, tc_some]
theorem puts_mk {blocks : Int} : ∀ (o l : List Ex), Mk blocks l → (∀ x ∈ o, Fit8 blocks x) → Mk blocks (o.foldl put l)
  | [], l, h, _ => h
  | x :: o, l, h, hf => by
    have h1 := hf x (by simp)
    exact puts_mk o (put l x) (put_spec h h1.1 h1.2).1 fun y hy => hf y (by simp [hy])
end Ab
end Go.Proofs.Ytpflcogplhigcaa
namespace Go.Proofs.Ytpflcogplhigcaa
open Go Go.Proofs.Ytpflcogplhigcaa.Ab
set_option linter.unusedVariables false
set_option linter.unusedSimpArgs false
namespace Ab
def lays (blocks : Int) (l o : List Ex) : List Ex × Int := if Mk blocks l then (if ∀ x ∈ o, Fit8 blocks x then (o.foldl put l, 0) else (l, 81)) else ([], 80)
theorem put_take (o l : List Ex) (i : Nat) (hi : i < o.length) : (o.take (i + 1)).foldl put l = put ((o.take i).foldl put l) (exAt o i) := by
  rw [ex_take1 o i hi, List.foldl_append]; rfl
theorem mem_take {o : List Ex} {n : Nat} {P : Ex → Prop} (hn : n ≤ o.length) (h : ∀ j, j < n → P (exAt o j)) : ∀ x ∈ o.take n, P x := by
  intro x hx
  obtain ⟨j, hj, e⟩ := List.getElem_of_mem hx
  rw [List.length_take] at hj
  rw [List.getElem_take] at e
  have := h j (by omega)
  rw [← e]
  have e2 : exAt o j = o[j]'(by omega) := by unfold exAt; simp [show j < o.length by omega]
  rw [← e2]; exact this
def layS (l o : List Ex) (i : Nat) : List Ex × Int := ((o.take (i + 1)).foldl put l, ((i + 1 : Nat) : Int))
theorem layS_0 (l o : List Ex) (h : 0 < o.length) : layS l o 0 = (put l (exAt o 0), 1) := by
  unfold layS; rw [put_take o l 0 h]; rfl
theorem mLay_eq (blocks : Int) (l o : List Ex) (hl : l.length ≤ 4294967296) (ho : o.length ≤ 4294967296) : mLay blocks l o = some (lays blocks l o) := by
  unfold mLay lays
  rw [mCheck_eq _ _ (by omega), tc_some, tb_not]
  by_cases hm : Mk blocks l
  case neg => rw [mk_f hm, if_neg hm]; rfl
  rw [mk_t hm, tb_t, if_pos hm, own_mk hm, tc_some, tb_beq]
  by_cases h0 : o.length = 0
  · have : o = [] := List.eq_nil_of_length_eq_zero h0
    subst this
    rw [if_pos (show (0 : Int) = (([] : List Ex).length : Int) from rfl), if_pos (by simp)]; rfl
  rw [if_neg (by omega), mPut_eq _ _ _ hl, tc_some, tb_bne]
  by_cases f0 : Fit8 blocks (exAt o 0)
  case neg =>
    have e : puts blocks l (exAt o 0) = (l, 81) := by unfold puts; rw [if_pos hm, if_neg f0]
    have hex : ¬ ∀ x ∈ o, Fit8 blocks x := fun h => f0 (h _ (by
      unfold exAt; rw [List.getD_eq_getElem?_getD, List.getElem?_eq_getElem (by omega)]; exact List.getElem_mem _))
    rw [e, if_neg (by simp), tc_some, if_neg hex]
  have e : puts blocks l (exAt o 0) = (put l (exAt o 0), 0) := by unfold puts; rw [if_pos hm, if_pos f0]
  rw [e, if_pos rfl]
  have hQ : (∀ i, i < o.length - 1 → Fit8 blocks (exAt o (i + 1))) ↔ ∀ x ∈ o, Fit8 blocks x := by
    constructor
    · intro h
      have := mem_take (o := o) (n := o.length) (P := Fit8 blocks) (Nat.le_refl _) fun j hj => by
        cases j with
        | zero => exact f0
        | succ j => exact h j (by omega)
      rwa [List.take_length] at this
    · intro h i hi
      refine h _ ?_
      unfold exAt; rw [List.getD_eq_getElem?_getD, List.getElem?_eq_getElem (by omega)]; exact List.getElem_mem _
  have hmk : ∀ i, i < o.length → (∀ j, j < i → Fit8 blocks (exAt o (j + 1))) → Mk blocks ((o.take (i + 1)).foldl put l) := fun i hi h => puts_mk _ _ hm (mem_take (by omega) fun j hj => by
    cases j with
    | zero => exact f0
    | succ j => exact h j (by omega))
  show th (mLay_G0_step blocks l o true l (put l (exAt o 0), 0)) (put l (exAt o 0), 1) _ = _
  rw [← layS_0 l o (by omega)]
  refine Eq.trans (th_first (some (l, 81)) (some (o.foldl put l, 0)) (layS l o) (o.length - 1) (fun i => Fit8 blocks (exAt o (i + 1))) (∀ x ∈ o, Fit8 blocks x) hQ (fun i hi hpre hp => ?_) (fun i hi hpre hp => ?_) (fun hall => ?_)) ?_
  · have hk := hmk i (by omega) hpre
    unfold mLay_G0_step layS
    simp only [tb_beq, tb_bne, Int.toNat_natCast]
    rw [if_neg (by omega), tp_pos (by omega), mPut_eq _ _ _ (by have := mk_len hk; omega), tc_some]
    unfold puts
    rw [if_pos hk, if_pos hp, if_pos rfl, wr_id (by omega) (by omega), put_take _ _ _ (show i + 1 < o.length by omega)]
    simp
  · have hk := hmk i (by omega) hpre
    have e2 : puts blocks ((o.take (i + 1)).foldl put l) (exAt o (i + 1)) = ((o.take (i + 1)).foldl put l, 81) := by unfold puts; rw [if_pos hk, if_neg hp]
    unfold mLay_G0_step layS
    simp only [tb_beq, tb_bne, Int.toNat_natCast]
    rw [mPut_eq _ _ _ (by have := mk_len hk; omega), e2]
    simp only [tc_some]
    rw [if_neg (by omega), tp_pos (by omega), if_neg (by omega), if_neg (by omega), tp_pos (by omega)]
    exact ⟨rfl, rfl⟩
  · unfold mLay_G0_step layS
    simp only [tb_beq]
    rw [if_pos (by omega), if_pos (by omega), show o.length - 1 + 1 = o.length by omega, List.take_length]
    exact ⟨rfl, rfl⟩
  · by_cases hall : ∀ x ∈ o, Fit8 blocks x
    · rw [if_pos hall, if_pos hall]
    · rw [if_neg hall, if_neg hall]
end Ab
end Go.Proofs.Ytpflcogplhigcaa
namespace Go.Proofs.Ytpflcogplhigcaa
open Go Go.Proofs.Ytpflcogplhigcaa.Ab
set_option linter.unusedVariables false
set_option linter.unusedSimpArgs false
namespace Ab
theorem den_lay {blocks : Int} : ∀ (o m : List Ex), Mk blocks m → (∀ x ∈ o, Fit8 blocks x) → (∀ x ∈ o, ∀ y ∈ o, ∀ k, x.lba ≤ k → k < x.lba + x.len → y.lba ≤ k → k < y.lba + y.len → bAt x k = bAt y k) →
    ∀ k c, Den (o.foldl put m) k c ↔ Den o k c ∨ ((∀ x ∈ o, k < x.lba ∨ x.lba + x.len ≤ k) ∧ Den m k c)
  | [], m, hm, _, _, k, c => by
    rw [List.foldl_nil]
    exact ⟨fun q => .inr ⟨(by intro x hx; cases hx), q⟩, fun q => q.elim (fun q => absurd q den_nil) (·.2)⟩
  | x :: o, m, hm, hf, hc, k, c => by
    have fx := hf x (by simp)
    obtain ⟨h1, d1⟩ := put_spec hm fx.1 fx.2
    have ih := den_lay o (put m x) h1 (fun y hy => hf y (by simp [hy])) (fun y hy z hz => hc y (by simp [hy]) z (by simp [hz])) k c
    rw [List.foldl_cons, ih, d1, den_cons]
    constructor
    · rintro (q | ⟨a, ⟨b, q⟩ | q⟩)
      · exact .inl (.inr q)
      · refine .inr ⟨fun y hy => ?_, q⟩
        rcases List.mem_cons.1 hy with e | e
        · subst e; exact b
        · exact a y e
      · exact .inl (.inl q)
    · rintro ((q | q) | ⟨a, q⟩)
      · by_cases g : ∀ y ∈ o, k < y.lba ∨ y.lba + y.len ≤ k
        · exact .inr ⟨g, .inr q⟩
        · have : ∃ y, y ∈ o ∧ ¬ (k < y.lba ∨ y.lba + y.len ≤ k) := Classical.byContradiction fun hn => g fun y hy => Classical.byContradiction fun hp => hn ⟨y, hy, hp⟩
          obtain ⟨y, hy, hk⟩ := this
          have e := hc x (by simp) y (by simp [hy]) k q.1 q.2.1 (by omega) (by omega)
          exact .inl ⟨y, hy, by omega, by omega, by rw [← e]; exact q.2.2⟩
      · exact .inl q
      · exact .inr ⟨fun y hy => a y (by simp [hy]), .inl ⟨a x (by simp), q⟩⟩
theorem mk_same {blocks : Int} {l : List Ex} (h : Mk blocks l) {o : List Ex} (ho : ∀ x ∈ o, x ∈ l) : (∀ x ∈ o, Fit8 blocks x) ∧ (∀ x ∈ o, ∀ y ∈ o, ∀ k, x.lba ≤ k → k < x.lba + x.len → y.lba ≤ k → k < y.lba + y.len → bAt x k = bAt y k) := by
  refine ⟨fun x hx => ⟨mk_cks h x (ho x hx), ?_⟩, fun x hx y hy k a1 a2 b1 b2 => ?_⟩
  · have hg := ch_end (mk_ch h) x (ho x hx)
    have h3 := h.2.2
    omega
  · exact ch_fun (mk_ch h) (k := k) ⟨x, ho x hx, a1, a2, rfl⟩ ⟨y, ho y hy, b1, b2, rfl⟩
def new (blocks : Int) : List Ex := [⟨0, blocks, 0, 0, []⟩]
theorem mk_new {blocks : Int} (h : 1 ≤ blocks ∧ blocks ≤ 64) : Mk blocks (new blocks) := by
  refine ch_mk (l := new blocks) ⟨?_, rfl, (by intro y hy; cases hy), trivial⟩ (by simp [new, sl]) h.1
  refine ⟨by simp, by simp, by simp only; omega, by simp only; omega, by simp, by simp, by simp, by simp, by simp, by simp⟩
end Ab
end Go.Proofs.Ytpflcogplhigcaa
namespace Go.Proofs.Ytpflcogplhigcaa
open Go Go.Proofs.Ytpflcogplhigcaa.Ab
set_option linter.unusedVariables false
set_option linter.unusedSimpArgs false
namespace Ab
def So : Int → List Ex → Prop
  | _, [] => True
  | s, x :: l => Ck x ∧ s ≤ x.lba ∧ So (x.lba + x.len) l
def en : Int → List Ex → Int
  | s, [] => s
  | _, x :: l => en (x.lba + x.len) l
theorem en_app : ∀ (a b : List Ex) (s : Int), en s (a ++ b) = en (en s a) b
  | [], b, s => rfl
  | x :: a, b, s => en_app a b _
theorem so_app : ∀ (a b : List Ex) (s : Int), So s (a ++ b) ↔ So s a ∧ So (en s a) b
  | [], b, s => by simp [So, en]
  | x :: a, b, s => by
    have ih := so_app a b (x.lba + x.len)
    simp only [List.cons_append, So, en, ih]
    exact ⟨fun ⟨h1, h2, h3, h4⟩ => ⟨⟨h1, h2, h3⟩, h4⟩, fun ⟨⟨h1, h2, h3⟩, h4⟩ => ⟨h1, h2, h3, h4⟩⟩
theorem so_ck : ∀ {l : List Ex} {s : Int}, So s l → ∀ x ∈ l, Ck x ∧ s ≤ x.lba
  | [], _, _, x, hx => by cases hx
  | y :: l, s, h, x, hx => by
    have p := ck_pos h.1
    rcases List.mem_cons.1 hx with e | e
    · subst e; exact ⟨h.1, h.2.1⟩
    · have := so_ck h.2.2 x e
      have := h.2.1
      exact ⟨(so_ck h.2.2 x e).1, by omega⟩
theorem so_en : ∀ {l : List Ex} {s : Int}, So s l → s ≤ en s l
  | [], _, _ => Int.le_refl _
  | x :: l, s, h => by
    have p := ck_pos h.1
    have := so_en h.2.2
    have := h.2.1
    simp only [en]; omega
theorem so_le : ∀ {l : List Ex} {s : Int}, So s l → ∀ x ∈ l, x.lba + x.len ≤ en s l
  | [], _, _, x, hx => by cases hx
  | y :: l, s, h, x, hx => by
    simp only [en]
    rcases List.mem_cons.1 hx with e | e
    · subst e; exact so_en h.2.2
    · exact so_le h.2.2 x e
theorem so_mono {l : List Ex} {s t : Int} (h : So s l) (ht : t ≤ s) : So t l := by
  cases l with
  | nil => trivial
  | cons x l => exact ⟨h.1, by have := h.2.1; omega, h.2.2⟩
theorem so_one : ∀ {l : List Ex} {s : Int}, So s l → ∀ x ∈ l, ∀ y ∈ l, ∀ k, x.lba ≤ k → k < x.lba + x.len → y.lba ≤ k → k < y.lba + y.len → x = y
  | [], _, _, x, hx, _, _, _, _, _, _, _ => by cases hx
  | z :: l, s, h, x, hx, y, hy, k, a1, a2, b1, b2 => by
    rcases List.mem_cons.1 hx with e | e <;> rcases List.mem_cons.1 hy with g | g
    · rw [e, g]
    · subst e; have := (so_ck h.2.2 y g).2; omega
    · subst g; have := (so_ck h.2.2 x e).2; omega
    · exact so_one h.2.2 x e y g k a1 a2 b1 b2
theorem ls_so {l : List Ex} (h : Ls l) : So 0 l := by
  have key : ∀ j, j ≤ l.length → So (atp l (l.length - j)) (l.drop (l.length - j)) := by
    intro j
    induction j with
    | zero => intro _; rw [Nat.sub_zero, List.drop_length]; trivial
    | succ j ih =>
      intro hj
      have hi : l.length - (j + 1) < l.length := by omega
      have hp := h.2 _ hi
      have e : l.drop (l.length - (j + 1)) = exAt l (l.length - (j + 1)) :: l.drop (l.length - (j + 1) + 1) := by unfold exAt; exact drop_at _ l _ hi
      rw [e]
      refine ⟨hp.1, hp.2, ?_⟩
      rw [← atp_succ, show l.length - (j + 1) + 1 = l.length - j by omega]
      exact ih (by omega)
  have := key l.length (Nat.le_refl _)
  simpa [atp] using this
theorem so_ls : ∀ (l : List Ex) (s : Int), So s l → ∀ i, i < l.length → Ck (exAt l i) ∧ (if i = 0 then s else (exAt l (i - 1)).lba + (exAt l (i - 1)).len) ≤ (exAt l i).lba
  | [], _, _, i, hi => by simp at hi
  | x :: l, s, h, 0, hi => ⟨h.1, h.2.1⟩
  | x :: l, s, h, i + 1, hi => by
    have ih := so_ls l _ h.2.2 i (by simpa using hi)
    refine ⟨ih.1, ?_⟩
    rw [if_neg (by omega), Nat.add_sub_cancel]
    have e : exAt (x :: l) (i + 1) = exAt l i := rfl
    rw [e]
    cases i with
    | zero => exact ih.2
    | succ i => have := ih.2; rw [if_neg (by omega), Nat.add_sub_cancel] at this; exact this
theorem so_lp {l : List Ex} (h : So 0 l) : ∀ i, i < l.length → LP l i := fun i hi => by
  have := so_ls l 0 h i hi
  unfold LP atp; exact this
def NJ : List Ex → Prop
  | [] => True
  | [_] => True
  | x :: y :: l => ¬ Jn x y ∧ NJ (y :: l)
theorem nj_snoc : ∀ (o : List Ex) (y : Ex), NJ (o ++ [y]) ↔ NJ o ∧ ∀ a, o.getLast? = some a → ¬ Jn a y
  | [], y => by simp [NJ]
  | [x], y => by simp [NJ]
  | x :: z :: o, y => by
    have ih := nj_snoc (z :: o) y
    simp only [List.cons_append, NJ] at ih ⊢
    rw [ih, List.getLast?_cons_cons, and_assoc]
theorem so_snoc (o : List Ex) (y : Ex) (s : Int) : So s (o ++ [y]) ↔ So s o ∧ Ck y ∧ en s o ≤ y.lba := by
  rw [so_app]; simp [So]
def Gd (x : Ex) : Prop := x.kind = 2 → ∀ z ∈ flags x.d, z = false
theorem gd_jnx {a b : Ex} (h : Jn a b) (ha : Gd a) (hb : Gd b) : Gd (jnx a b) := by
  intro hk z hz
  have hk : a.kind = 2 := hk
  have hl := ck_d2 h.1 hk
  have e : flags (jnx a b).d = flags a.d ++ flags b.d := flags_append _ (by omega)
  rw [e] at hz
  rcases List.mem_append.1 hz with g | g
  · exact ha hk z g
  · exact hb (h.2.2.2.1 ▸ hk) z g
theorem add_so {out : List Ex} {y : Ex} (h1 : So 0 out) (h2 : NJ out) (h3 : ∀ x ∈ out, Gd x) (hy : Ck y) (hg : Gd y) (hl : en 0 out ≤ y.lba) : So 0 (add out y) ∧ NJ (add out y) ∧ (∀ x ∈ add out y, Gd x) ∧ en 0 (add out y) = y.lba + y.len := by
  unfold add
  by_cases g : out ≠ [] ∧ Jn (out.getLastD ⟨0, 0, 0, 0, []⟩) y
  · rw [if_pos g]
    have e := snoc_of g.1
    generalize out.getLastD ⟨0, 0, 0, 0, []⟩ = a at g e ⊢
    generalize out.dropLast = o at e ⊢
    rw [e] at h1 h2 h3
    obtain ⟨a1, a2, a3⟩ := (so_snoc o a 0).1 h1
    obtain ⟨b1, b2⟩ := (nj_snoc o a).1 h2
    have hj := g.2
    refine ⟨(so_snoc o _ 0).2 ⟨a1, ck_jnx hj, a3⟩, (nj_snoc o _).2 ⟨b1, fun b hb q => b2 b hb ⟨q.1, a2, q.2.2.1, q.2.2.2.1, q.2.2.2.2⟩⟩, fun x hx => ?_, ?_⟩
    · rcases List.mem_append.1 hx with q | q
      · exact h3 x (List.mem_append_left _ q)
      · rw [List.mem_singleton] at q; subst q
        exact gd_jnx hj (h3 a (by simp)) hg
    · rw [en_app]
      simp only [en, jnx]
      have := hj.2.2.1
      omega
  · rw [if_neg g]
    refine ⟨(so_snoc out y 0).2 ⟨h1, hy, hl⟩, (nj_snoc out y).2 ⟨h2, fun a ha q => g ⟨?_, ?_⟩⟩, fun x hx => ?_, ?_⟩
    · intro e0; rw [e0] at ha; cases ha
    · rw [List.getLastD_eq_getLast?, ha]; exact q
    · rcases List.mem_append.1 hx with q | q
      · exact h3 x q
      · rw [List.mem_singleton] at q; subst q; exact hg
    · rw [en_app]; rfl
theorem adds_so : ∀ (ys out : List Ex), So 0 out → NJ out → (∀ x ∈ out, Gd x) → So (en 0 out) ys → (∀ x ∈ ys, Gd x) → So 0 (ys.foldl add out) ∧ NJ (ys.foldl add out) ∧ (∀ x ∈ ys.foldl add out, Gd x)
  | [], out, h1, h2, h3, _, _ => ⟨h1, h2, h3⟩
  | y :: ys, out, h1, h2, h3, h4, h5 => by
    obtain ⟨a, b, c, d⟩ := add_so h1 h2 h3 h4.1 (h5 y (by simp)) h4.2.1
    rw [List.foldl_cons]
    exact adds_so ys _ a b c (by rw [d]; exact h4.2.2) fun x hx => h5 x (by simp [hx])
/-! What is told apart. -/
theorem ly_ff : ∀ (zs : List Bool) (lba : Int) (b : List UInt8) (n : Int), (∀ z ∈ zs, z = false) → 0 ≤ n → ly lba b false n zs = if n + zs.length = 0 then [] else [mkx lba b false (n + zs.length)]
  | [], lba, b, n, _, hn => by simp [ly]
  | z :: zs, lba, b, n, h, hn => by
    have hz := h z (by simp)
    subst hz
    unfold ly
    rw [if_pos rfl, ly_ff zs lba b (n + 1) (fun y hy => h y (by simp [hy])) (by omega)]
    simp only [List.length_cons]
    rw [if_neg (by omega), if_neg (by omega), show n + 1 + (zs.length : Int) = n + ((zs.length + 1 : Nat) : Int) by omega]
theorem told_gd {x : Ex} (h : Ck x) (hg : Gd x) : told x = [x] := by
  unfold told
  by_cases hk : x.kind = 2
  · rw [if_pos hk]
    have hl := ck_d2 h hk
    have p := ck_pos h
    have hf : (flags x.d).length = x.d.length / 32 := fl_length _ _
    rw [ly_ff _ _ _ _ (hg hk) (Int.le_refl _), if_neg (by omega)]
    have e : (0 : Int) + ((flags x.d).length : Int) = x.len := by omega
    rw [e]
    simp only [List.map_cons, List.map_nil, mkx, sg, Bool.false_eq_true, if_false]
    rw [List.take_of_length_le (by omega), ← hk]
  · rw [if_neg hk]
    have := ck_d0 h hk
    cases x with
    | mk a b c e d => simp only at this; subst this; rfl
theorem flags_32 {b : List UInt8} (h : b.length = 32) : flags b = [zb b] := by
  rw [flags_cons (b := b) (by omega), flags_nil (by rw [List.length_drop]; omega), List.take_of_length_le (by omega)]
theorem wl_gd : ∀ (zs : List Bool) (lba : Int) (b : List UInt8) (c : Bool) (m : Nat), b.length = 32 * (m + zs.length) → flags (b.drop (32 * m)) = zs → (c = false → ∀ z ∈ flags (b.take (32 * m)), z = false) → ∀ x ∈ ly lba b c m zs, Gd x
  | [], lba, b, c, m, h3, h5, h6, x, hx => by
    unfold ly at hx
    split at hx
    · cases hx
    · rw [List.mem_singleton] at hx
      subst hx
      intro hk
      unfold mkx at hk ⊢
      cases c with
      | true => simp at hk
      | false =>
        simp only [Bool.false_eq_true, if_false]
        rw [show (32 * (m : Int)).toNat = 32 * m by omega]
        exact h6 rfl
  | z :: zs, lba, b, c, m, h3, h5, h6, x, hx => by
    simp only [List.length_cons] at h3
    have hf := flags_cons (b := b.drop (32 * m)) (by rw [List.length_drop]; omega)
    rw [h5] at hf
    injection hf with hz hzs
    have hd : (b.drop (32 * m)).drop 32 = b.drop (32 * (m + 1)) := by rw [List.drop_drop]; congr 1
    rw [hd] at hzs
    have h32 : ((b.drop (32 * m)).take 32).length = 32 := by rw [List.length_take, List.length_drop]; omega
    unfold ly at hx
    split at hx
    · rename_i hc
      refine wl_gd zs lba b c (m + 1) (by omega) hzs.symm (fun hcf => ?_) x (by rw [show ((m + 1 : Nat) : Int) = (m : Int) + 1 by omega]; exact hx)
      have e : b.take (32 * (m + 1)) = b.take (32 * m) ++ (b.drop (32 * m)).take 32 := by rw [show 32 * (m + 1) = 32 * m + 32 by omega, List.take_add]
      rw [e, flags_append _ (by rw [List.length_take]; omega), flags_32 h32]
      intro y hy
      rcases List.mem_append.1 hy with g | g
      · exact h6 hcf y g
      · rw [List.mem_singleton] at g
        rw [g, ← hz, hc, hcf]
    · rename_i hc
      split at hx
      · rename_i hm
        have hm0 : m = 0 := by omega
        subst hm0
        refine wl_gd zs lba b z 1 (by omega) hzs.symm (fun hcf => ?_) x (by simpa using hx)
        rw [Nat.mul_zero, List.drop_zero] at hz h32
        rw [Nat.mul_one, flags_32 h32]
        intro y hy
        rw [List.mem_singleton] at hy
        rw [hy, ← hz, hcf]
      · rcases List.mem_cons.1 hx with g | g
        · subst g
          intro hk
          unfold mkx at hk ⊢
          cases c with
          | true => simp at hk
          | false =>
            simp only [Bool.false_eq_true, if_false]
            rw [show (32 * (m : Int)).toNat = 32 * m by omega]
            exact h6 rfl
        · have e : (32 * (m : Int)).toNat = 32 * m := by omega
          rw [e] at g
          refine wl_gd zs (lba + m) (b.drop (32 * m)) z 1 (by rw [List.length_drop]; omega) (by rw [Nat.mul_one, hd]; exact hzs.symm) (fun hcf => ?_) x (by simpa using g)
          rw [Nat.mul_one, flags_32 h32]
          intro y hy
          rw [List.mem_singleton] at hy
          rw [hy, ← hz, hcf]
theorem wl_so : ∀ (l : List Ex) (lba k : Int) (b : List UInt8) (g : Int), 0 ≤ g ∧ g ≤ 2147483647 → WL lba k l b → So lba (l.map (sg g)) ∧ (en lba (l.map (sg g)) : Int) * 32 = lba * 32 + b.length
  | [], lba, k, b, g, _, h => by
    have h : b = [] := h
    subst h; simp [So, en]
  | x :: l, lba, k, b, g, hg, h => by
    obtain ⟨h1, h2, h3, b', h4, h5⟩ := h
    obtain ⟨i1, i2⟩ := wl_so l _ _ _ g hg h5
    have hl := eb_len h1
    have hc := h1
    unfold Ck at hc
    refine ⟨⟨?_, by show lba ≤ x.lba; omega, by show So (x.lba + x.len) _; rw [h2]; exact i1⟩, ?_⟩
    · exact ⟨hc.1, hc.2.1, hc.2.2.1, hc.2.2.2.1, hc.2.2.2.2.1, hc.2.2.2.2.2.1, hg.1, hg.2, hc.2.2.2.2.2.2.2.2.1, hc.2.2.2.2.2.2.2.2.2⟩
    · have hlen : b.length = (eb x).length + b'.length := by rw [h4, List.length_append]
      show en (x.lba + x.len) _ * 32 = _
      rw [h2, i2]; omega
theorem told_so {x : Ex} (h : Ck x) : So x.lba (told x) ∧ en x.lba (told x) = x.lba + x.len ∧ ∀ y ∈ told x, Gd y := by
  by_cases hk : x.kind = 2
  · have hw := lay_wl (ck_lo h hk)
    have hc := h
    unfold Ck at hc
    have hl := ck_d2 h hk
    obtain ⟨i1, i2⟩ := wl_so _ _ _ _ x.gen ⟨hc.2.2.2.2.2.2.1, hc.2.2.2.2.2.2.2.1⟩ hw
    unfold told
    rw [if_pos hk]
    refine ⟨i1, by omega, fun y hy => ?_⟩
    obtain ⟨z, hz, rfl⟩ := List.mem_map.1 hy
    have hf : (flags x.d).length = x.d.length / 32 := fl_length _ _
    have := wl_gd (flags x.d) x.lba x.d false 0 (by omega) (by simp) (fun _ y hy => by simp [flags_nil] at hy) z hz
    exact this
  · have e := told_gd h fun q => absurd q hk
    rw [e]
    exact ⟨⟨h, Int.le_refl _, trivial⟩, rfl, fun y hy => by rw [List.mem_singleton] at hy; subst hy; exact fun q => absurd q hk⟩
theorem tolds_so : ∀ (l : List Ex) (s : Int), So s l → So s (l.flatMap told) ∧ en s (l.flatMap told) = en s l ∧ ∀ y ∈ l.flatMap told, Gd y
  | [], s, _ => ⟨trivial, rfl, fun y hy => by simp at hy⟩
  | x :: l, s, h => by
    obtain ⟨a, b, c⟩ := told_so h.1
    obtain ⟨i1, i2, i3⟩ := tolds_so l _ h.2.2
    have p := ck_pos h.1
    have he : en s (told x) = x.lba + x.len := by
      cases hq : told x with
      | nil => rw [hq] at b; simp only [en] at b; omega
      | cons y q => rw [hq] at b; exact b
    rw [List.flatMap_cons]
    refine ⟨(so_app _ _ _).2 ⟨so_mono a h.2.1, by rw [he]; exact i1⟩, by rw [en_app, he, i2]; rfl, fun y hy => ?_⟩
    rcases List.mem_append.1 hy with g | g
    · exact c y g
    · exact i3 y g
theorem pk_spec {l : List Ex} (h : Ls l) : So 0 (pk l).1 ∧ NJ (pk l).1 ∧ (∀ x ∈ (pk l).1, Gd x) ∧ (pk l).2 = 0 ∧ (pk l).1 = (l.flatMap told).foldl add [] := by
  obtain ⟨a, b, c⟩ := tolds_so l 0 (ls_so h)
  have := adds_so (l.flatMap told) [] trivial trivial (fun x hx => by cases hx) a c
  have e : pk l = ((l.flatMap told).foldl add [], 0) := by unfold pk; rw [if_pos h]
  rw [e]
  exact ⟨this.1, this.2.1, this.2.2, rfl, rfl⟩
end Ab
end Go.Proofs.Ytpflcogplhigcaa
namespace Go.Proofs.Ytpflcogplhigcaa
open Go Go.Proofs.Ytpflcogplhigcaa.Ab
set_option linter.unusedVariables false
set_option linter.unusedSimpArgs false
namespace Ab
theorem th_run_at {σ α : Type} {step : σ → Option σ} {f : σ → Option α} (S : Nat → σ) (k : Nat) {s0 : σ} (h0 : s0 = S 0) (hs : ∀ i, i < k → step (S i) = some (S (i + 1))) (he : step (S k) = none) : th step s0 f = f (S k) := by
  subst h0; exact th_run S k hs he
theorem pad_rep (n m : Nat) : pad n (List.replicate m 0) = List.replicate n 0 := by
  unfold pad
  rw [List.replicate_append_replicate, List.take_replicate]
  congr 1; omega
theorem pad_nil (n : Nat) : pad n [] = List.replicate n 0 := pad_rep n 0
def CkC (c : Ce) : Prop := 0 ≤ c.kind ∧ c.kind ≤ 2 ∧ 0 ≤ c.gen ∧ c.gen ≤ 2147483647 ∧ (c.kind ≠ 2 → pad 32 c.d = List.replicate 32 0)
instance (c : Ce) : Decidable (CkC c) := by unfold CkC; infer_instance
def CkI (l : List Ce) : Prop := 1 ≤ l.length ∧ l.length ≤ 64 ∧ ∀ c ∈ l, CkC c
instance (l : List Ce) : Decidable (CkI l) := by unfold CkI; infer_instance
end Ab
end Go.Proofs.Ytpflcogplhigcaa
namespace Go.Proofs.Ytpflcogplhigcaa
open Go Go.Proofs.Ytpflcogplhigcaa.Ab
set_option linter.unusedVariables false
set_option linter.unusedSimpArgs false
namespace Ab
def blk (c : Ce) : Int × Int × List UInt8 := (c.kind, c.gen, if c.kind = 2 then pad 32 c.d else [])
def cb (c : Int × Int × List UInt8) : Ce := ⟨c.1, c.2.1, pad 32 c.2.2⟩
/-! Blocks of a map. -/
def xcs (x : Ex) : List Ce := (List.range x.len.toNat).map fun k => ⟨x.kind, x.gen, pad 32 ((eb x).drop (32 * k))⟩
def cellsM (m : List Ex) : List Ce := m.flatMap xcs
theorem pad_take (l : List UInt8) : pad 32 (l.take 32) = pad 32 l := by
  unfold pad
  rw [List.take_append, List.take_append, List.take_take, Nat.min_self, List.take_replicate, List.take_replicate, List.length_take]
  congr 2
  omega
theorem xcs_at {x : Ex} (h : Ck x) {k : Int} (h1 : x.lba ≤ k) (h2 : k < x.lba + x.len) : (xcs x)[(k - x.lba).toNat]? = some (cb (bAt x k)) := by
  unfold xcs
  rw [List.getElem?_map, List.getElem?_range (by omega)]
  simp only [Option.map_some, Option.some.injEq, cb, bAt, Ce.mk.injEq, true_and]
  unfold eb
  have e : 32 * (k - x.lba).toNat = (32 * (k - x.lba)).toNat := by omega
  rw [e, pad_take]
  split
  · rfl
  · rename_i hk
    rw [ck_d0 h hk, List.drop_replicate, List.drop_nil, pad_rep, pad_nil]
theorem xcs_len (x : Ex) : (xcs x).length = x.len.toNat := by simp [xcs]
theorem cellsM_len : ∀ {m : List Ex} {s : Int}, CH s m → ((cellsM m).length : Int) = sl m
  | [], _, _ => rfl
  | x :: m, s, h => by
    have := cellsM_len h.2.2.2
    have p := ck_pos h.1
    simp only [cellsM, List.flatMap_cons, List.length_append, xcs_len, sl] at this ⊢
    omega
theorem cellsM_den : ∀ {m : List Ex} {s : Int}, CH s m → ∀ {k : Int} {c : Int × Int × List UInt8}, Den m k c → (cellsM m)[(k - s).toNat]? = some (cb c)
  | [], _, _, k, c, hd => absurd hd den_nil
  | x :: m, s, h, k, c, hd => by
    have p := ck_pos h.1
    have hb := h.2.1
    simp only [cellsM, List.flatMap_cons]
    rcases den_cons.1 hd with q | q
    · rw [List.getElem?_append_left (by rw [xcs_len]; have := q.1; have := q.2.1; omega), q.2.2, ← hb]
      exact xcs_at h.1 q.1 q.2.1
    · have hg := den_ge h.2.2.2 q
      rw [List.getElem?_append_right (by rw [xcs_len]; omega), xcs_len]
      have := cellsM_den h.2.2.2 q
      rw [show (k - s).toNat - x.len.toNat = (k - (s + x.len)).toNat by omega]
      exact this
theorem den_ck {x : Ex} (h : Ck x) {k : Int} (h1 : x.lba ≤ k) (h2 : k < x.lba + x.len) : blk (cb (bAt x k)) = bAt x k ∧ CkC (cb (bAt x k)) := by
  have hc := h
  unfold Ck at hc
  have hl : x.kind = 2 → ((x.d.drop (32 * (k - x.lba)).toNat).take 32).length = 32 := fun hk => by
    have := ck_d2 h hk
    rw [List.length_take, List.length_drop]; omega
  constructor
  · have e : blk (cb (bAt x k)) = (x.kind, x.gen, if x.kind = 2 then pad 32 (pad 32 ((x.d.drop (32 * (k - x.lba)).toNat).take 32)) else []) := rfl
    rw [e]
    by_cases hk : x.kind = 2
    · rw [if_pos hk, pad_pad, pad_of (hl hk)]; rfl
    · rw [if_neg hk]; unfold bAt; rw [ck_d0 h hk]; simp
  · refine ⟨by simp only [cb, bAt]; omega, by simp only [cb, bAt]; omega, by simp only [cb, bAt]; omega, by simp only [cb, bAt]; omega, fun hk => ?_⟩
    have hk : x.kind ≠ 2 := hk
    simp only [cb, bAt, ck_d0 h hk, List.drop_nil, List.take_nil, pad_nil, pad_rep]
theorem ce_get {l : List Ce} {i : Nat} {c : Ce} (h : l[i]? = some c) : i < l.length ∧ ceAt l i = c := by
  obtain ⟨g, e⟩ := List.getElem?_eq_some_iff.1 h
  exact ⟨g, by unfold ceAt; simp [g, e]⟩
theorem mk_get {blocks : Int} {m : List Ex} (h : Mk blocks m) {i : Nat} (hi : (i : Int) < blocks) : ∃ x ∈ m, Ck x ∧ x.lba ≤ i ∧ (i : Int) < x.lba + x.len ∧ Den m i (bAt x i) ∧ (cellsM m)[i]? = some (cb (bAt x i)) := by
  have hc := mk_ch h
  obtain ⟨x, hx, h1, h2⟩ := ch_cov hc (k := i) (by omega) (by rw [h.2.2]; omega)
  have hd : Den m i (bAt x i) := ⟨x, hx, h1, h2, rfl⟩
  have := cellsM_den hc hd
  rw [Int.sub_zero, Int.toNat_natCast] at this
  exact ⟨x, hx, (ch_ck hc x hx).1, h1, h2, hd, this⟩
theorem cellsM_mk {blocks : Int} {m : List Ex} (h : Mk blocks m) : CkI (cellsM m) ∧ ((cellsM m).length : Int) = blocks ∧ ∀ c ∈ cellsM m, c.d.length = 32 := by
  have hl : ((cellsM m).length : Int) = blocks := (cellsM_len (mk_ch h)).trans h.2.2
  have hb := mk_blocks h
  have key : ∀ c ∈ cellsM m, CkC c ∧ c.d.length = 32 := by
    intro c hc
    obtain ⟨i, hi, e⟩ := List.getElem_of_mem hc
    obtain ⟨x, hx, k1, k2, k3, k4, k5⟩ := mk_get h (i := i) (by omega)
    rw [List.getElem?_eq_getElem hi, e] at k5
    injection k5 with k5
    subst k5
    exact ⟨(den_ck k1 k2 k3).2, by simp only [cb, pad_len]⟩
  exact ⟨⟨by omega, by omega, fun c hc => (key c hc).1⟩, hl, fun c hc => (key c hc).2⟩
end Ab
end Go.Proofs.Ytpflcogplhigcaa
namespace Go.Proofs.Ytpflcogplhigcaa
open Go Go.Proofs.Ytpflcogplhigcaa.Ab
set_option linter.unusedVariables false
set_option linter.unusedSimpArgs false
namespace Ab
def al (c : Ce) : Int × List UInt8 := (c.kind, pad 32 c.d)
def Fits (l : List Ce) (lba n : Int) : Prop := 0 ≤ lba ∧ lba ≤ l.length ∧ 1 ≤ n ∧ n ≤ l.length - lba
instance (l : List Ce) (lba n : Int) : Decidable (Fits l lba n) := by unfold Fits; infer_instance
end Ab
end Go.Proofs.Ytpflcogplhigcaa
namespace Go.Proofs.Ytpflcogplhigcaa
open Go Go.Proofs.Ytpflcogplhigcaa.Ab
set_option linter.unusedVariables false
set_option linter.unusedSimpArgs false
set_option maxRecDepth 1000000
set_option maxHeartbeats 0
namespace Ab
noncomputable abbrev iOf_L1_I (blocks : Int) (l : List Ex) (s0 : Bool) (s2 : List Ce × Int) (s5 : List UInt8) : St := (St.mk [(0, (AV.i blocks)), (1, (exs l)), (4, (AV.rf 0 34 0 s2.1.length)), (5, (AV.i 0)), (12, (AV.b (!s0))), (13, (exs l)), (14, (AV.i (l.length : Int))), (15, (AV.i s2.2)), (16, (AV.b (decide (s2.2 < (l.length : Int))))), (17, (AV.ip (List.drop (s2.2.toNat * 5) (l.flatMap Ex.cells)))), (18, (AV.ag (xc (exAt l s2.2.toNat)))), (7, (AV.pt 1 0)), (19, (AV.ag (xc (exAt l s2.2.toNat)))), (20, (bys s5)), (8, (bys s5))] 40 (AH.mk 2 [(1, (AObj.cells (xc (exAt l s2.2.toNat)))), (0, (AObj.cells (s2.1.flatMap Ce.cells)))]) false)
noncomputable abbrev iOf_L1_S (blocks : Int) (l : List Ex) (s0 : Bool) (s2 : List Ce × Int) (s5 : List UInt8) (s6 : List Ce × List UInt8) : St := (St.mk [(0, (AV.i blocks)), (1, (exs l)), (4, (AV.rf 2 34 0 s6.1.length)), (5, (AV.i 0)), (12, (AV.b (!s0))), (13, (exs l)), (14, (AV.i (l.length : Int))), (15, (AV.i s2.2)), (16, (AV.b (decide (s2.2 < (l.length : Int))))), (7, (AV.pt 1 0)), (8, (bys s6.2))] 40 (AH.mk 3 [(1, (AObj.cells (xc (exAt l s2.2.toNat)))), (2, (AObj.cells (s6.1.flatMap Ce.cells)))]) false)
noncomputable def iOf_L1_step (blocks : Int) (l : List Ex) (s0 : Bool) (s2 : List Ce × Int) (s5 : List UInt8) (s6 : List Ce × List UInt8) : Option (List Ce × List UInt8) :=
 (tb ((decide ((s6.2.length : Int) > (0 : Int)))) (tp ((((0 : Nat) ≤ (32 : Nat)) ∧ (((32 : Nat) ≤ s6.2.length) ∧ ((List.length (List.map AV.y s6.2)) = (s6.2.length * 1))))) (tp ((((List.length (s6.1.flatMap Ce.cells)) = (s6.1.length * 34)) ∧ ((s6.1.length + (1 : Nat)) ≤ (4294967296 : Nat)))) (some (((s6.1 ++ [(Ce.mk (exAt l s2.2.toNat).kind (exAt l s2.2.toNat).gen (pad 32 s6.2))]), (List.take ((s6.2.length - (32 : Nat)) * 1) (List.drop 32 s6.2))))))) none)
theorem iOf_L1_ok (blocks : Int) (l : List Ex) (s0 : Bool) (s2 : List Ce × Int) (s5 : List UInt8) (s6 zz : List Ce × List UInt8) : iOf_L1_step blocks l s0 s2 s5 s6 = some zz → EvStep Try.prog cf 2 (lp Try.prog 34 1) (iOf_L1_S blocks l s0 s2 s5 s6) (iOf_L1_S blocks l s0 s2 s5 zz) := by
  unfold iOf_L1_step
  exact tbD (fun h7 h7p => tp_ok fun h8 => tp_ok fun h9 => by intro e; injection e with e; subst e; exact leafS vw_eq (k := 300) (r := []) (hs := hz [(3, [.yes]), (9, [.yes]), (1, [.yes, .cells ((List.map AV.y (pad 32 s6.2))), .yes]), (1, [.cells (((AV.i (exAt l s2.2.toNat).kind) :: (AV.i (exAt l s2.2.toNat).gen) :: (List.map AV.y (pad 32 s6.2)))), .yes]), (1, [.cells (((AV.i (exAt l s2.2.toNat).kind) :: (AV.i (exAt l s2.2.toNat).gen) :: (List.map AV.y (pad 32 s6.2)))), .yes, .yes]), (1, [.yes]), (2, [.yes]), (1, [])]) (ks := [0, 1, 4, 5, 12, 13, 14, 15, 16, 7, 8]) (st1 := (St.mk [(0, (AV.i blocks)), (1, (exs l)), (4, (AV.rf 4 34 0 (s6.1.length + (1 : Nat)))), (5, (AV.i 0)), (12, (AV.b (!s0))), (13, (exs l)), (14, (AV.i (l.length : Int))), (15, (AV.i s2.2)), (16, (AV.b (decide (s2.2 < (l.length : Int))))), (7, (AV.pt 1 0)), (8, (AV.sl (s6.2.length - (32 : Nat)) (List.take ((s6.2.length - (32 : Nat)) * 1) (List.drop 32 (List.map AV.y s6.2)))))] 40 (AH.mk 5 [(4, (AObj.cells ((s6.1.flatMap Ce.cells) ++ ((AV.i (exAt l s2.2.toNat).kind) :: (AV.i (exAt l s2.2.toNat).gen) :: (List.map AV.y (pad 32 s6.2)))))), (3, (AObj.cells ((AV.i (exAt l s2.2.toNat).kind) :: (AV.i (exAt l s2.2.toNat).gen) :: (List.map AV.y (pad 32 s6.2))))), (1, (AObj.cells (xc (exAt l s2.2.toNat)))), (2, AObj.dead)]) false)) kq (ac h7 (ac h8 (ac (fq (p := ((32 : Nat) ≤ (List.length (List.take 32 (List.map AV.y s6.2)))))) (ac (show (List.take 32 (List.take 32 (List.map AV.y s6.2))) = (List.map AV.y (pad 32 s6.2)) from (pad_takeC (x := s6.2) tq bq)) (ac (tq (p := (((List.length (List.map AV.y (pad 32 s6.2))) = (32 : Nat)) ∧ (((2 : Nat) + (List.length (List.map AV.y (pad 32 s6.2)))) ≤ (List.length (List.set (List.set ((AV.i (Int.ofNat 0)) :: (AV.i (Int.ofNat 0)) :: List.replicate (32 : Nat) (AV.y (UInt8.ofNat (0 : Nat)))) 0 (AV.i (exAt l s2.2.toNat).kind)) 1 (AV.i (exAt l s2.2.toNat).gen))))))) (ac (Eq.refl (((AV.i (exAt l s2.2.toNat).kind) :: (AV.i (exAt l s2.2.toNat).gen) :: (List.map AV.y (pad 32 s6.2))) : List AV)) (ac (tq (p := (((List.length ((AV.i (exAt l s2.2.toNat).kind) :: (AV.i (exAt l s2.2.toNat).gen) :: (List.map AV.y (pad 32 s6.2)))) = (34 : Nat)) ∧ (((0 : Nat) + (List.length ((AV.i (exAt l s2.2.toNat).kind) :: (AV.i (exAt l s2.2.toNat).gen) :: (List.map AV.y (pad 32 s6.2))))) ≤ (34 : Nat))))) (ac (Eq.refl (((AV.i (exAt l s2.2.toNat).kind) :: (AV.i (exAt l s2.2.toNat).gen) :: (List.map AV.y (pad 32 s6.2))) : List AV)) (ac (tq (p := (((0 : Nat) = (0 : Nat)) ∧ ((List.length ((AV.i (exAt l s2.2.toNat).kind) :: (AV.i (exAt l s2.2.toNat).gen) :: (List.map AV.y (pad 32 s6.2)))) = (34 : Nat))))) (ac h9 (ac (show orderOk (rg Try.prog 34 0) = true ∧ allOk (Region.before (rg Try.prog 34 0)) [] 0 [(some [], some []), (some [], some []), (some [1], some []), (some [], some []), (some [1], some []), (some [], some []), (some [], some []), (some [], some []), (some [], some []), (some [], some []), (some [], some [3]), (some [2, 3], some [2, 4]), (some [], some [])] = true from (ord_of ord_34_0 bef_34_0 kq)) (ac (fq (p := (((32 : Nat) ≤ s6.2.length) ∧ ((s6.2.length ≤ s6.2.length) ∧ ((List.length (List.map AV.y s6.2)) = (s6.2.length * 1)))))) an)))))))))))) (Nat.le_of_ble_eq_true rfl) (Nat.le_of_ble_eq_true rfl) (absB_of [4] [] kq (.consn kq (.eqv tq rfl) (.consn kq (.eqv tq rfl) (.consn kq (.rfn (n := (s6.1.length + (1 : Nat))) rfl tq) (.consn kq (.eqv tq rfl) (.consn kq (.eqv tq rfl) (.consn kq (.eqv tq rfl) (.consn kq (.eqv tq rfl) (.consn kq (.eqv tq rfl) (.consn kq (.eqv tq rfl) (.consn kq (.pt rfl) (.consn (x := (AV.sl (s6.2.length - (32 : Nat)) (List.take ((s6.2.length - (32 : Nat)) * 1) (List.drop 32 (List.map AV.y s6.2))))) kq (.eqv tq rfl) .nil))))))))))) (.cons (.old rfl rfl (.cells (.pl rfl pq))) (.cons (.old rfl rfl (.cells (.pl tq pq))) .nil)))) fun h7 h7p => tn_ok
noncomputable abbrev iOf_L0_I (blocks : Int) (l : List Ex) (s0 : Bool) : St := (St.mk [(0, (AV.i blocks)), (1, (exs l)), (4, AV.nl), (5, (AV.i 0)), (9, (AV.i blocks)), (10, (exs l)), (11, (AV.b s0)), (12, (AV.b (!s0))), (13, (exs l)), (14, (AV.i (l.length : Int))), (15, (AV.i 0))] 40 (AH.mk 0 ([] : List (Prod Nat AObj))) false)
noncomputable abbrev iOf_L0_S (blocks : Int) (l : List Ex) (s0 : Bool) (s2 : List Ce × Int) : St := (St.mk [(0, (AV.i blocks)), (1, (exs l)), (4, (AV.rf 0 34 0 s2.1.length)), (5, (AV.i 0)), (12, (AV.b (!s0))), (13, (exs l)), (14, (AV.i (l.length : Int))), (15, (AV.i s2.2))] 40 (AH.mk 1 [(0, (AObj.cells (s2.1.flatMap Ce.cells)))]) false)
noncomputable def iOf_L0_step (blocks : Int) (l : List Ex) (s0 : Bool) (s2 : List Ce × Int) : Option (List Ce × Int) :=
 (tb ((decide (s2.2 < (l.length : Int)))) (tp ((((0 : Int) ≤ s2.2) ∧ (s2.2 < (l.length : Int)))) (tc (eBytes ((exAt l s2.2.toNat))) fun s5 => (th (iOf_L1_step blocks l s0 s2 s5) ((s2.1, s5)) fun s6 => (tb ((decide ((s6.2.length : Int) > (0 : Int)))) none (some ((s6.1, (wr (s2.2 + (1 : Int)))))))))) none)
theorem iOf_L0_ok (blocks : Int) (l : List Ex) (s0 : Bool) (s2 zz : List Ce × Int) : iOf_L0_step blocks l s0 s2 = some zz → EvStep Try.prog cf 0 (lp Try.prog 34 0) (iOf_L0_S blocks l s0 s2) (iOf_L0_S blocks l s0 zz) := by
  unfold iOf_L0_step
  exact tbD (fun h3 h3p => tp_ok fun h4 => tc_ok fun s5 h5 => th_ok fun s6 h6 => tbD (fun h7 h7p => tn_ok) fun h7 h7p => by intro e; injection e with e; subst e; exact leafS vw_eq (k := 300) (r := []) (hs := hz [(1, [.yes, .yes, .yes, .cells ((Ex.cells (exAt l s2.2.toNat)))]), (2, [.fc]), (1, [.fc]), (1, [.fres (bys (s5))]), (1, [.head (iOf_L1_S blocks l s0 s2 s5 s6)]), (3, [.no]), (2, [])]) (ks := [0, 1, 4, 5, 12, 13, 14, 15]) (st1 := (St.mk [(0, (AV.i blocks)), (1, (exs l)), (4, (AV.rf 2 34 0 s6.1.length)), (5, (AV.i 0)), (12, (AV.b (!s0))), (13, (exs l)), (14, (AV.i (l.length : Int))), (15, (AV.i (wr (s2.2 + (1 : Int)))))] 40 (AH.mk 3 [(1, (AObj.cells (xc (exAt l s2.2.toNat)))), (2, (AObj.cells (s6.1.flatMap Ce.cells)))]) false)) kq (ac h3 (ac h4 (ac (fq (p := ((5 : Nat) ≤ (List.length (List.drop (s2.2.toNat * 5) (l.flatMap Ex.cells)))))) (ac (show (List.take 5 (List.drop (s2.2.toNat * 5) (l.flatMap Ex.cells))) = (Ex.cells (exAt l s2.2.toNat)) from (ex_takeO bq bq)) (ac (eBytes_ok ((exAt l s2.2.toNat)) _ h5).any0 (ac (show EvHead Try.prog cf (lp Try.prog 34 1) (iOf_L1_I blocks l s0 s2 s5) (iOf_L1_S blocks l s0 s2 s5 s6) from (EvHead.of (iOf_L1_ok blocks l s0 s2 s5) (absB_of [0] [] kq (.consn kq (.eqv tq rfl) (.consn kq (.eqv tq rfl) (.consn kq (.rfn (n := s2.1.length) rfl tq) (.consn kq (.eqv tq rfl) (.consn kq (.eqv tq rfl) (.consn kq (.eqv tq rfl) (.consn kq (.eqv tq rfl) (.consn kq (.eqv tq rfl) (.consn kq (.eqv tq rfl) (.consn kq (.pt rfl) (.consn (x := (bys s5)) kq (.eqv tq rfl) .nil))))))))))) (.cons (.old rfl rfl (.cells (.pl rfl pq))) (.cons (.old rfl rfl (.cells (.pl tq pq))) .nil))) h6)) (ac h7 an))))))) (Nat.le_of_ble_eq_true rfl) (Nat.le_of_ble_eq_true rfl) (absB_of [2] [] kq (.consn kq (.eqv tq rfl) (.consn kq (.eqv tq rfl) (.consn kq (.rfn (n := s6.1.length) rfl tq) (.consn kq (.eqv tq rfl) (.consn kq (.eqv tq rfl) (.consn kq (.eqv tq rfl) (.consn kq (.eqv tq rfl) (.consn kq (.eqv tq rfl) .nil)))))))) (.cons (.old rfl rfl (.cells (.pl tq pq))) .nil))) fun h3 h3p => tn_ok
noncomputable def iOf (blocks : Int) (l : List Ex) : Option (List Ce × Int) :=
 (tc (mCheck (blocks) (l)) fun s0 => (tb ((!s0)) (some ((([] : List Ce), (80 : Int)))) (th (iOf_L0_step blocks l s0) ((([] : List Ce), (0 : Int))) fun s2 => (tb ((decide (s2.2 < (l.length : Int)))) none (tp ((((0 : Nat) = (0 : Nat)) ∧ ((List.length (s2.1.flatMap Ce.cells)) = (s2.1.length * 34)))) (some ((s2.1, (0 : Int)))))))))
abbrev iOf_G (blocks : Int) (l : List Ex) (r : List Ce × Int) : Prop := EvFr Try.prog cf true 34 [.i (blocks), exs (l)] (.tu [ces (r.1), .i (r.2)])
theorem iOf_ok (blocks : Int) (l : List Ex) (r : List Ce × Int) : iOf blocks l = some r → iOf_G blocks l r := by
  unfold iOf
  exact tc_ok fun s0 h0 => tb_ok (fun h1 => by intro e; injection e with e; subst e; exact leafR vw_eq (k := 300) (r := []) (hs := hz [(5, [.fres (.b (s0))]), (1, [.yes]), (2, [])]) (raw := (AV.tu [(AV.sl 0 ([] : List AV)), (AV.i 80)])) kq (ac (mCheck_ok (blocks) (l) _ h0).any0 (ac h1 an)) tq) fun h1 => th_ok fun s2 h2 => tbD (fun h3 h3p => tn_ok) fun h3 h3p => tp_ok fun h4 => by intro e; injection e with e; subst e; exact leafR vw_eq (k := 300) (r := []) (hs := hz [(5, [.fres (.b (s0))]), (1, [.no]), (3, [.head (iOf_L0_S blocks l s0 s2)]), (1, [.no]), (3, [.yes, .yes])]) (raw := (AV.tu [(ces s2.1), (AV.i 0)])) kq (ac (mCheck_ok (blocks) (l) _ h0).any0 (ac h1 (ac (show EvHead Try.prog cf (lp Try.prog 34 0) (iOf_L0_I blocks l s0) (iOf_L0_S blocks l s0 s2) from (EvHead.of (iOf_L0_ok blocks l s0) (absB_of [0] [] kq (.consn kq (.eqv tq rfl) (.consn kq (.eqv tq rfl) (.consn kq (.nln tq) (.consn kq (.eqv tq rfl) (.consn kq (.eqv tq rfl) (.consn kq (.eqv tq rfl) (.consn kq (.eqv tq rfl) (.consn kq (.eqv tq rfl) .nil)))))))) (.cons (.none rfl (Nat.le_refl _) rfl) .nil)) h2)) (ac h3 (ac h4 (ac (pq (p := Pl true ((s2.1.flatMap Ce.cells)))) an)))))) tq
end Ab
end Go.Proofs.Ytpflcogplhigcaa
namespace Go.Proofs.Ytpflcogplhigcaa
open Go Go.Proofs.Ytpflcogplhigcaa.Ab
set_option linter.unusedVariables false
set_option linter.unusedSimpArgs false
namespace Ab
theorem eBytes_eq {x : Ex} (h : Ck x) : eBytes x = some (eb x) := by
  unfold eBytes eb
  have hc := h
  unfold Ck at hc
  have w1 : wr (x.len * 32) = 32 * x.len := by rw [wr_id (by omega) (by omega)]; omega
  rw [eCheck_eq, tc_some, ck_t h, w1]
  simp only [Bool.not_true, tb_f]
  rw [tp_pos (by first | exact ⟨rfl, by omega, by omega⟩ | exact ⟨trivial, by omega, by omega⟩)]
  by_cases hk : x.kind = 2
  · have hl := hc.2.2.2.2.2.2.2.2.1 hk
    rw [if_pos hk, List.take_zero, List.nil_append, Nat.mul_one, show min x.d.length (32 * x.len).toNat = x.d.length by omega, List.take_length, List.take_of_length_le (by simp), List.length_map, List.drop_of_length_le (by rw [List.length_replicate]; omega), List.append_nil]
  · have hl := hc.2.2.2.2.2.2.2.2.2 hk
    rw [if_neg hk, hl]
    simp
def ofS (blocks : Int) (m : List Ex) : List Ce × Int := if Mk blocks m then (cellsM m, 0) else ([], 80)
theorem xcs_take (x : Ex) (h : Ck x) : ∀ k, k ≤ x.len.toNat → (xcs x).take k = (List.range k).map fun k => (⟨x.kind, x.gen, pad 32 ((eb x).drop (32 * k))⟩ : Ce) := by
  intro k hk
  unfold xcs
  rw [← List.map_take, List.take_range, Nat.min_eq_left hk]
theorem cellsM_take (m : List Ex) (i : Nat) (hi : i < m.length) : cellsM (m.take (i + 1)) = cellsM (m.take i) ++ xcs (exAt m i) := by
  have e : m.take (i + 1) = m.take i ++ [exAt m i] := take_at _ m i hi
  rw [e]; simp [cellsM]
theorem cellsM_le {blocks : Int} {m : List Ex} (h : Mk blocks m) (i : Nat) : (cellsM (m.take i)).length ≤ 64 := by
  have h1 := (cellsM_mk h).2.1
  have hb := mk_blocks h
  have e : cellsM m = cellsM (m.take i) ++ cellsM (m.drop i) := by unfold cellsM; rw [← List.flatMap_append, List.take_append_drop]
  rw [e, List.length_append] at h1
  omega
theorem mk_at {blocks : Int} {m : List Ex} (h : Mk blocks m) {i : Nat} (hi : i < m.length) : Ck (exAt m i) := (h.2.1 i hi).1
theorem ofL {α : Type} (x : Ex) (out : List Ce) (hx : Ck x) (ho : out.length ≤ 100) (step : List Ce × List UInt8 → Option (List Ce × List UInt8)) (f : List Ce × List UInt8 → Option α)
    (hs : ∀ (o : List Ce) (b : List UInt8), o.length ≤ 1000 → 32 ≤ b.length → b.length ≤ 100000 → step (o, b) = some (o ++ [⟨x.kind, x.gen, pad 32 b⟩], b.drop 32)) (he : ∀ o, step (o, []) = none) :
    th step (out, eb x) f = f (out ++ xcs x, []) := by
  have hl := eb_len hx
  have hc := hx
  unfold Ck at hc
  rw [th_run_at (S := fun k => (out ++ (xcs x).take k, (eb x).drop (32 * k))) (k := x.len.toNat) (by simp) ?_ ?_]
  · rw [List.take_of_length_le (by rw [xcs_len]; exact Nat.le_refl _), List.drop_of_length_le (by omega)]
  · intro k hk
    rw [hs _ _ (by rw [List.length_append, List.length_take, xcs_len]; omega) (by rw [List.length_drop]; omega) (by rw [List.length_drop]; omega), List.drop_drop, show 32 * k + 32 = 32 * (k + 1) by omega]
    have e : (xcs x).take (k + 1) = (xcs x).take k ++ [⟨x.kind, x.gen, pad 32 ((eb x).drop (32 * k))⟩] := by
      rw [xcs_take x hx _ (by omega), xcs_take x hx _ (by omega), List.range_succ, List.map_append]; rfl
    rw [e, List.append_assoc]
  · rw [List.drop_of_length_le (by omega)]
    exact he _
theorem iOf_eq (blocks : Int) (m : List Ex) (hm : m.length ≤ 4294967296) : iOf blocks m = some (ofS blocks m) := by
  unfold iOf ofS
  rw [mCheck_eq blocks m (by omega), tc_some, tb_not]
  by_cases h : Mk blocks m
  case neg => rw [mk_f h, tb_f, if_neg h]
  rw [mk_t h, tb_t, if_pos h]
  have hlen := mk_len h
  rw [th_run_at (S := fun i => (cellsM (m.take i), (i : Int))) (k := m.length) (by simp [cellsM]) ?_ ?_]
  · simp only [tb_dec]
    rw [if_neg (by omega), List.take_length, tp_pos (by rw [ces_len]; simp)]
  · intro i hi
    have hck := mk_at h hi
    have hle := cellsM_le h i
    unfold iOf_L0_step
    simp only [tb_dec, Int.toNat_natCast]
    rw [if_pos (by omega), tp_pos (by omega), eBytes_eq hck, tc_some, ofL (exAt m i) _ hck (by omega) _ _ ?_ ?_]
    · simp only [List.length_nil]
      rw [if_neg (by simp), cellsM_take m i hi, wr_id (by omega) (by omega)]; rfl
    · intro o b ho hb1 hb2
      unfold iOf_L1_step
      simp only [tb_dec, Int.toNat_natCast]
      rw [if_pos (by omega), tp_pos (by refine ⟨by omega, hb1, by simp⟩), tp_pos (by rw [ces_len]; omega), List.take_of_length_le (by rw [List.length_drop]; omega)]
    · intro o
      unfold iOf_L1_step
      simp only [tb_dec, List.length_nil]
      rw [if_neg (by simp)]
  · unfold iOf_L0_step
    simp only [tb_dec]
    rw [if_neg (by omega)]
end Ab
end Go.Proofs.Ytpflcogplhigcaa
namespace Go.Proofs.Ytpflcogplhigcaa
open Go Go.Proofs.Ytpflcogplhigcaa.Ab
set_option linter.unusedVariables false
set_option linter.unusedSimpArgs false
namespace Ab
theorem wl_den : ∀ (l : List Ex) (lba k : Int) (b : List UInt8), WL lba k l b → ∀ j : Nat, 32 * j + 32 ≤ b.length → ∃ c, Den l (lba + j) c ∧ pad 32 c.2.2 = pad 32 (b.drop (32 * j))
  | [], lba, k, b, h, j, hj => by
    have h : b = [] := h
    subst h; simp at hj
  | x :: l, lba, k, b, h, j, hj => by
    obtain ⟨h1, h2, h3, b', h4, h5⟩ := h
    have hl := eb_len h1
    have p := ck_pos h1
    have hlen : b.length = (eb x).length + b'.length := by rw [h4, List.length_append]
    by_cases g : (j : Int) < x.len
    · refine ⟨bAt x (lba + j), den_cons.2 (.inl ⟨by omega, by omega, rfl⟩), ?_⟩
      have e : (32 * (lba + (j : Int) - x.lba)).toNat = 32 * j := by omega
      simp only [bAt, e]
      rw [pad_take, h4]
      have hd : (eb x ++ b').drop (32 * j) = (eb x).drop (32 * j) ++ b' := List.drop_append_of_le_length (by omega)
      rw [hd, ← pad_take ((eb x).drop (32 * j) ++ b'), List.take_append_of_le_length (by rw [List.length_drop]; omega), pad_take]
      unfold eb
      by_cases hk : x.kind = 2
      · rw [if_pos hk]
      · rw [if_neg hk, ck_d0 h1 hk, List.drop_replicate, List.drop_nil, pad_rep, pad_nil]
    · obtain ⟨c, c1, c2⟩ := wl_den l _ _ _ h5 (j - x.len.toNat) (by omega)
      refine ⟨c, den_cons.2 (.inr ?_), ?_⟩
      · rw [show lba + (j : Int) = lba + x.len + ((j - x.len.toNat : Nat) : Int) by omega]; exact c1
      · rw [c2, h4, show 32 * j = (eb x).length + 32 * (j - x.len.toNat) by omega, ← List.drop_drop, List.drop_left]
theorem told_den {x : Ex} (h : Ck x) {k : Int} (h1 : x.lba ≤ k) (h2 : k < x.lba + x.len) : ∃ c, Den (told x) k c ∧ pad 32 c.2.2 = pad 32 (bAt x k).2.2 := by
  by_cases hk : x.kind = 2
  · have hw := lay_wl (ck_lo h hk)
    have hl := ck_d2 h hk
    obtain ⟨c, ⟨y, hy, q1, q2, q3⟩, c2⟩ := wl_den _ _ _ _ hw (k - x.lba).toNat (by omega)
    rw [show x.lba + (((k - x.lba).toNat : Nat) : Int) = k by omega] at q1 q2 q3
    refine ⟨bAt (sg x.gen y) k, ?_, ?_⟩
    · unfold told
      rw [if_pos hk]
      exact ⟨sg x.gen y, List.mem_map.2 ⟨y, hy, rfl⟩, q1, q2, rfl⟩
    · have e1 : (bAt (sg x.gen y) k).2.2 = c.2.2 := by rw [q3]; rfl
      rw [e1, c2]
      simp only [bAt]
      rw [pad_take, show 32 * (k - x.lba).toNat = (32 * (k - x.lba)).toNat by omega]
  · rw [told_gd h fun q => absurd q hk]
    exact ⟨bAt x k, den_one.2 ⟨h1, h2, rfl⟩, rfl⟩
theorem told_in {x : Ex} (h : Ck x) {k : Int} {c : Int × Int × List UInt8} (hd : Den (told x) k c) : x.lba ≤ k ∧ k < x.lba + x.len := by
  obtain ⟨a, b, _⟩ := told_so h
  obtain ⟨y, hy, q1, q2, _⟩ := hd
  have h1 := (so_ck a y hy).2
  have h2 := so_le a y hy
  rw [b] at h2
  omega
theorem den_flat {l : List Ex} {k : Int} {c : Int × Int × List UInt8} : Den (l.flatMap told) k c ↔ ∃ x ∈ l, Den (told x) k c := by
  unfold Den
  constructor
  · rintro ⟨y, hy, q⟩
    obtain ⟨x, hx, hy⟩ := List.mem_flatMap.1 hy
    exact ⟨x, hx, y, hy, q⟩
  · rintro ⟨x, hx, y, hy, q⟩
    exact ⟨y, List.mem_flatMap.2 ⟨x, hx, hy⟩, q⟩
theorem gd_is {x : Ex} (h : Ck x) (hg : Gd x) {j : Nat} (hj : 32 * j + 32 ≤ x.d.length) : isz ((x.d.drop (32 * j)).take 32) = false := by
  have hk : x.kind = 2 := by
    rcases Decidable.em (x.kind = 2) with q | q
    · exact q
    · rw [ck_d0 h q] at hj; simp at hj
  have hm : x.d = x.d.take (32 * j) ++ ((x.d.drop (32 * j)).take 32 ++ x.d.drop (32 * j + 32)) := by
    rw [← List.drop_drop, List.take_append_drop, List.take_append_drop]
  have hl : ((x.d.drop (32 * j)).take 32).length = 32 := by rw [List.length_take, List.length_drop]; omega
  have hf : zb ((x.d.drop (32 * j)).take 32) ∈ flags x.d := by
    have e : flags x.d = flags (x.d.take (32 * j)) ++ (flags ((x.d.drop (32 * j)).take 32) ++ flags (x.d.drop (32 * j + 32))) := by
      conv => lhs; rw [hm]
      rw [flags_append _ (by rw [List.length_take]; omega), flags_append _ (by rw [hl])]
    rw [e, flags_32 hl]
    exact List.mem_append_right _ (List.mem_append_left _ (by simp))
  have := hg hk _ hf
  rw [isz_zb hl]; exact this
theorem nj_at : ∀ (l : List Ex), NJ l → ∀ i, i + 1 < l.length → ¬ Jn (exAt l i) (exAt l (i + 1))
  | [], _, i, hi => by simp at hi
  | [_], _, i, hi => by simp at hi
  | x :: y :: l, h, 0, _ => h.1
  | x :: y :: l, h, i + 1, hi => nj_at (y :: l) h.2 i (by simpa using hi)
end Ab
end Go.Proofs.Ytpflcogplhigcaa
namespace Go.Proofs.Ytpflcogplhigcaa
open Go Go.Proofs.Ytpflcogplhigcaa.Ab
set_option linter.unusedVariables false
set_option linter.unusedSimpArgs false
set_option maxRecDepth 1000000
set_option maxHeartbeats 0
namespace Ab
noncomputable abbrev vCheck_L1_I (s : Sm) (s7 : Int × Int) (s10 : Bool) (s16 : Bool) : St := (St.mk [(0, (AV.ag [(AV.i s.blocks), (AV.i s.parent), (AV.i s.target), (exs s.list)])), (1, (AV.pt 0 0)), (42, (AV.b (decide ((s.list.length : Int) > (64 : Int))))), (3, (AV.i (wr ((exAt s.list s7.2.toNat).lba + (exAt s.list s7.2.toNat).len)))), (44, (exs s.list)), (45, (AV.i (s.list.length : Int))), (46, (AV.i s7.2)), (47, (AV.b (decide (s7.2 < (s.list.length : Int))))), (48, (AV.i s7.2)), (49, (AV.ip (List.drop (s7.2.toNat * 5) (s.list.flatMap Ex.cells)))), (50, (AV.ag (xc (exAt s.list s7.2.toNat)))), (5, (AV.pt 1 0)), (4, (AV.i s7.2)), (51, (AV.ag (xc (exAt s.list s7.2.toNat)))), (52, (AV.b s10)), (53, (AV.b (!s10))), (54, (AV.b (!s10))), (55, (AV.pt 1 3)), (56, (AV.i (exAt s.list s7.2.toNat).gen)), (57, (AV.b ((exAt s.list s7.2.toNat).gen != (0 : Int)))), (58, (AV.b ((exAt s.list s7.2.toNat).gen != (0 : Int)))), (59, (AV.b ((exAt s.list s7.2.toNat).gen != (0 : Int)))), (60, (AV.pt 1 0)), (61, (AV.i (exAt s.list s7.2.toNat).lba)), (62, (AV.i s7.1)), (63, (AV.b (decide ((exAt s.list s7.2.toNat).lba < s7.1)))), (64, (AV.b (decide ((exAt s.list s7.2.toNat).lba < s7.1)))), (65, (AV.b (decide ((exAt s.list s7.2.toNat).lba < s7.1)))), (66, (AV.i s7.2)), (67, (AV.b (decide (s7.2 > (0 : Int))))), (68, (AV.b (decide (s7.2 > (0 : Int))))), (69, (AV.pt 0 3)), (70, (exs s.list)), (71, (AV.i s7.2)), (72, (AV.i (wr (s7.2 - (1 : Int))))), (73, (AV.ip (List.drop ((Int.toNat (wr (s7.2 - (1 : Int)))) * 5) (s.list.flatMap Ex.cells)))), (74, (AV.ag (xc (exAt s.list (Int.toNat (wr (s7.2 - (1 : Int)))))))), (75, (AV.ag (xc (exAt s.list s7.2.toNat)))), (76, (AV.b s16)), (77, (AV.b s16)), (78, (AV.b s16)), (79, (AV.pt 1 0)), (80, (AV.i (exAt s.list s7.2.toNat).lba)), (81, (AV.pt 1 1)), (82, (AV.i (exAt s.list s7.2.toNat).len)), (83, (AV.i (wr ((exAt s.list s7.2.toNat).lba + (exAt s.list s7.2.toNat).len)))), (84, (AV.pt 1 4)), (85, (bys (exAt s.list s7.2.toNat).d)), (6, (bys (exAt s.list s7.2.toNat).d))] 99 (AH.mk 2 [(1, (AObj.cells (xc (exAt s.list s7.2.toNat)))), (0, (AObj.cells [(AV.i s.blocks), (AV.i s.parent), (AV.i s.target), (exs s.list)]))]) false)
noncomputable abbrev vCheck_L1_S (s : Sm) (s7 : Int × Int) (s10 : Bool) (s16 : Bool) (s18 : List UInt8) : St := (St.mk [(0, (AV.ag [(AV.i s.blocks), (AV.i s.parent), (AV.i s.target), (exs s.list)])), (1, (AV.pt 0 0)), (42, (AV.b (decide ((s.list.length : Int) > (64 : Int))))), (3, (AV.i (wr ((exAt s.list s7.2.toNat).lba + (exAt s.list s7.2.toNat).len)))), (44, (exs s.list)), (45, (AV.i (s.list.length : Int))), (46, (AV.i s7.2)), (47, (AV.b (decide (s7.2 < (s.list.length : Int))))), (5, (AV.pt 1 0)), (4, (AV.i s7.2)), (78, (AV.b s16)), (6, (bys s18))] 99 (AH.mk 2 [(1, (AObj.cells (xc (exAt s.list s7.2.toNat)))), (0, (AObj.cells [(AV.i s.blocks), (AV.i s.parent), (AV.i s.target), (exs s.list)]))]) false)
noncomputable def vCheck_L1_step (s : Sm) (s7 : Int × Int) (s10 : Bool) (s16 : Bool) (s18 : List UInt8) : Option (List UInt8) :=
 (tb ((decide ((s18.length : Int) ≥ (32 : Int)))) (tc (pIs ((List.take 32 s18))) fun s20 => (tb (s20) none (some ((List.take ((s18.length - (32 : Nat)) * 1) (List.drop 32 s18)))))) none)
theorem vCheck_L1_ok (s : Sm) (s7 : Int × Int) (s10 : Bool) (s16 : Bool) (s18 zz : List UInt8) : vCheck_L1_step s s7 s10 s16 s18 = some zz → EvStep Try.prog cf 2 (lp Try.prog 19 1) (vCheck_L1_S s s7 s10 s16 s18) (vCheck_L1_S s s7 s10 s16 zz) := by
  unfold vCheck_L1_step
  exact tbD (fun h19 h19p => tc_ok fun s20 h20 => tb_ok (fun h21 => tn_ok) fun h21 => by intro e; injection e with e; subst e; exact leafS vw_eq (k := 300) (r := []) (hs := hz [(3, [.yes]), (2, [.yes]), (1, [.fres (.b (s20)), .no]), (2, [.yes]), (1, [])]) (ks := [0, 1, 42, 3, 44, 45, 46, 47, 5, 4, 78, 6]) (st1 := (St.mk [(0, (AV.ag [(AV.i s.blocks), (AV.i s.parent), (AV.i s.target), (exs s.list)])), (1, (AV.pt 0 0)), (42, (AV.b (decide ((s.list.length : Int) > (64 : Int))))), (3, (AV.i (wr ((exAt s.list s7.2.toNat).lba + (exAt s.list s7.2.toNat).len)))), (44, (exs s.list)), (45, (AV.i (s.list.length : Int))), (46, (AV.i s7.2)), (47, (AV.b (decide (s7.2 < (s.list.length : Int))))), (5, (AV.pt 1 0)), (4, (AV.i s7.2)), (78, (AV.b s16)), (6, (AV.sl (s18.length - (32 : Nat)) (List.take ((s18.length - (32 : Nat)) * 1) (List.drop 32 (List.map AV.y s18)))))] 99 (AH.mk 2 [(1, (AObj.cells (xc (exAt s.list s7.2.toNat)))), (0, (AObj.cells [(AV.i s.blocks), (AV.i s.parent), (AV.i s.target), (exs s.list)]))]) false)) kq (ac h19 (ac (fq (p := (((0 : Nat) ≤ (32 : Nat)) ∧ (((32 : Nat) ≤ s18.length) ∧ ((List.length (List.map AV.y s18)) = (s18.length * 1)))))) (ac (show EvFr Try.prog cf false 40 [(AV.sl 32 (List.take 32 (List.map AV.y s18)))] (.b (s20)) from ((pIs_ok ((List.take 32 s18)) _ h20).any.cast tq)) (ac h21 (ac (fq (p := (((32 : Nat) ≤ s18.length) ∧ ((s18.length ≤ s18.length) ∧ ((List.length (List.map AV.y s18)) = (s18.length * 1)))))) an))))) (Nat.le_of_ble_eq_true rfl) (Nat.le_of_ble_eq_true rfl) (absB_of [] [] kq (.consn kq (.agp pq) (.consn kq (.pt rfl) (.consn kq (.eqv tq rfl) (.consn kq (.eqv tq rfl) (.consn kq (.eqv tq rfl) (.consn kq (.eqv tq rfl) (.consn kq (.eqv tq rfl) (.consn kq (.eqv tq rfl) (.consn kq (.pt rfl) (.consn kq (.eqv tq rfl) (.consn kq (.eqv tq rfl) (.consn (x := (AV.sl (s18.length - (32 : Nat)) (List.take ((s18.length - (32 : Nat)) * 1) (List.drop 32 (List.map AV.y s18))))) kq (.eqv tq rfl) .nil)))))))))))) (.cons (.old rfl rfl (.cells (.pl rfl pq))) (.cons (.old rfl rfl (.cells (.pl rfl pq))) .nil)))) fun h19 h19p => tn_ok
noncomputable abbrev vCheck_L2_I (s : Sm) (s7 : Int × Int) (s10 : Bool) : St := (St.mk [(0, (AV.ag [(AV.i s.blocks), (AV.i s.parent), (AV.i s.target), (exs s.list)])), (1, (AV.pt 0 0)), (42, (AV.b (decide ((s.list.length : Int) > (64 : Int))))), (3, (AV.i (wr ((exAt s.list s7.2.toNat).lba + (exAt s.list s7.2.toNat).len)))), (44, (exs s.list)), (45, (AV.i (s.list.length : Int))), (46, (AV.i s7.2)), (47, (AV.b (decide (s7.2 < (s.list.length : Int))))), (48, (AV.i s7.2)), (49, (AV.ip (List.drop (s7.2.toNat * 5) (s.list.flatMap Ex.cells)))), (50, (AV.ag (xc (exAt s.list s7.2.toNat)))), (5, (AV.pt 1 0)), (4, (AV.i s7.2)), (51, (AV.ag (xc (exAt s.list s7.2.toNat)))), (52, (AV.b s10)), (53, (AV.b (!s10))), (54, (AV.b (!s10))), (55, (AV.pt 1 3)), (56, (AV.i (exAt s.list s7.2.toNat).gen)), (57, (AV.b ((exAt s.list s7.2.toNat).gen != (0 : Int)))), (58, (AV.b ((exAt s.list s7.2.toNat).gen != (0 : Int)))), (59, (AV.b ((exAt s.list s7.2.toNat).gen != (0 : Int)))), (60, (AV.pt 1 0)), (61, (AV.i (exAt s.list s7.2.toNat).lba)), (62, (AV.i s7.1)), (63, (AV.b (decide ((exAt s.list s7.2.toNat).lba < s7.1)))), (64, (AV.b (decide ((exAt s.list s7.2.toNat).lba < s7.1)))), (65, (AV.b (decide ((exAt s.list s7.2.toNat).lba < s7.1)))), (66, (AV.i s7.2)), (67, (AV.b (decide (s7.2 > (0 : Int))))), (68, (AV.b (decide (s7.2 > (0 : Int))))), (69, (AV.tu ([] : List AV))), (70, (AV.tu ([] : List AV))), (71, (AV.tu ([] : List AV))), (72, (AV.tu ([] : List AV))), (73, (AV.tu ([] : List AV))), (74, (AV.tu ([] : List AV))), (75, (AV.tu ([] : List AV))), (76, (AV.tu ([] : List AV))), (77, (AV.b false)), (78, (AV.b false)), (79, (AV.pt 1 0)), (80, (AV.i (exAt s.list s7.2.toNat).lba)), (81, (AV.pt 1 1)), (82, (AV.i (exAt s.list s7.2.toNat).len)), (83, (AV.i (wr ((exAt s.list s7.2.toNat).lba + (exAt s.list s7.2.toNat).len)))), (84, (AV.pt 1 4)), (85, (bys (exAt s.list s7.2.toNat).d)), (6, (bys (exAt s.list s7.2.toNat).d))] 99 (AH.mk 2 [(1, (AObj.cells (xc (exAt s.list s7.2.toNat)))), (0, (AObj.cells [(AV.i s.blocks), (AV.i s.parent), (AV.i s.target), (exs s.list)]))]) false)
noncomputable abbrev vCheck_L2_S (s : Sm) (s7 : Int × Int) (s10 : Bool) (s15 : List UInt8) : St := (St.mk [(0, (AV.ag [(AV.i s.blocks), (AV.i s.parent), (AV.i s.target), (exs s.list)])), (1, (AV.pt 0 0)), (42, (AV.b (decide ((s.list.length : Int) > (64 : Int))))), (3, (AV.i (wr ((exAt s.list s7.2.toNat).lba + (exAt s.list s7.2.toNat).len)))), (44, (exs s.list)), (45, (AV.i (s.list.length : Int))), (46, (AV.i s7.2)), (47, (AV.b (decide (s7.2 < (s.list.length : Int))))), (5, (AV.pt 1 0)), (4, (AV.i s7.2)), (78, (AV.b false)), (6, (bys s15))] 99 (AH.mk 2 [(1, (AObj.cells (xc (exAt s.list s7.2.toNat)))), (0, (AObj.cells [(AV.i s.blocks), (AV.i s.parent), (AV.i s.target), (exs s.list)]))]) false)
noncomputable def vCheck_L2_step (s : Sm) (s7 : Int × Int) (s10 : Bool) (s15 : List UInt8) : Option (List UInt8) :=
 (tb ((decide ((s15.length : Int) ≥ (32 : Int)))) (tc (pIs ((List.take 32 s15))) fun s17 => (tb (s17) none (some ((List.take ((s15.length - (32 : Nat)) * 1) (List.drop 32 s15)))))) none)
theorem vCheck_L2_ok (s : Sm) (s7 : Int × Int) (s10 : Bool) (s15 zz : List UInt8) : vCheck_L2_step s s7 s10 s15 = some zz → EvStep Try.prog cf 2 (lp Try.prog 19 1) (vCheck_L2_S s s7 s10 s15) (vCheck_L2_S s s7 s10 zz) := by
  unfold vCheck_L2_step
  exact tbD (fun h16 h16p => tc_ok fun s17 h17 => tb_ok (fun h18 => tn_ok) fun h18 => by intro e; injection e with e; subst e; exact leafS vw_eq (k := 300) (r := []) (hs := hz [(3, [.yes]), (2, [.yes]), (1, [.fres (.b (s17)), .no]), (2, [.yes]), (1, [])]) (ks := [0, 1, 42, 3, 44, 45, 46, 47, 5, 4, 78, 6]) (st1 := (St.mk [(0, (AV.ag [(AV.i s.blocks), (AV.i s.parent), (AV.i s.target), (exs s.list)])), (1, (AV.pt 0 0)), (42, (AV.b (decide ((s.list.length : Int) > (64 : Int))))), (3, (AV.i (wr ((exAt s.list s7.2.toNat).lba + (exAt s.list s7.2.toNat).len)))), (44, (exs s.list)), (45, (AV.i (s.list.length : Int))), (46, (AV.i s7.2)), (47, (AV.b (decide (s7.2 < (s.list.length : Int))))), (5, (AV.pt 1 0)), (4, (AV.i s7.2)), (78, (AV.b false)), (6, (AV.sl (s15.length - (32 : Nat)) (List.take ((s15.length - (32 : Nat)) * 1) (List.drop 32 (List.map AV.y s15)))))] 99 (AH.mk 2 [(1, (AObj.cells (xc (exAt s.list s7.2.toNat)))), (0, (AObj.cells [(AV.i s.blocks), (AV.i s.parent), (AV.i s.target), (exs s.list)]))]) false)) kq (ac h16 (ac (fq (p := (((0 : Nat) ≤ (32 : Nat)) ∧ (((32 : Nat) ≤ s15.length) ∧ ((List.length (List.map AV.y s15)) = (s15.length * 1)))))) (ac (show EvFr Try.prog cf false 40 [(AV.sl 32 (List.take 32 (List.map AV.y s15)))] (.b (s17)) from ((pIs_ok ((List.take 32 s15)) _ h17).any.cast tq)) (ac h18 (ac (fq (p := (((32 : Nat) ≤ s15.length) ∧ ((s15.length ≤ s15.length) ∧ ((List.length (List.map AV.y s15)) = (s15.length * 1)))))) an))))) (Nat.le_of_ble_eq_true rfl) (Nat.le_of_ble_eq_true rfl) (absB_of [] [] kq (.consn kq (.agp pq) (.consn kq (.pt rfl) (.consn kq (.eqv tq rfl) (.consn kq (.eqv tq rfl) (.consn kq (.eqv tq rfl) (.consn kq (.eqv tq rfl) (.consn kq (.eqv tq rfl) (.consn kq (.eqv tq rfl) (.consn kq (.pt rfl) (.consn kq (.eqv tq rfl) (.consn kq (.eqv tq rfl) (.consn (x := (AV.sl (s15.length - (32 : Nat)) (List.take ((s15.length - (32 : Nat)) * 1) (List.drop 32 (List.map AV.y s15))))) kq (.eqv tq rfl) .nil)))))))))))) (.cons (.old rfl rfl (.cells (.pl rfl pq))) (.cons (.old rfl rfl (.cells (.pl rfl pq))) .nil)))) fun h16 h16p => tn_ok
noncomputable abbrev vCheck_L0_I (s : Sm) : St := (St.mk [(0, (AV.ag [(AV.i s.blocks), (AV.i s.parent), (AV.i s.target), (exs s.list)])), (1, (AV.pt 0 0)), (2, (AV.b false)), (7, (AV.pt 0 0)), (8, (AV.i s.blocks)), (9, (AV.b (decide (s.blocks < (1 : Int))))), (10, (AV.b (decide (s.blocks < (1 : Int))))), (11, (AV.pt 0 0)), (12, (AV.i s.blocks)), (13, (AV.b (decide (s.blocks > (64 : Int))))), (14, (AV.b (decide (s.blocks > (64 : Int))))), (15, (AV.b (decide (s.blocks > (64 : Int))))), (16, (AV.pt 0 2)), (17, (AV.i s.target)), (18, (AV.b (decide (s.target < (1 : Int))))), (19, (AV.b (decide (s.target < (1 : Int))))), (20, (AV.b (decide (s.target < (1 : Int))))), (21, (AV.pt 0 2)), (22, (AV.i s.target)), (23, (AV.b (decide (s.target > (2147483647 : Int))))), (24, (AV.b (decide (s.target > (2147483647 : Int))))), (25, (AV.b (decide (s.target > (2147483647 : Int))))), (26, (AV.pt 0 1)), (27, (AV.i s.parent)), (28, (AV.b (decide (s.parent < (0 : Int))))), (29, (AV.b (decide (s.parent < (0 : Int))))), (30, (AV.b (decide (s.parent < (0 : Int))))), (31, (AV.pt 0 1)), (32, (AV.i s.parent)), (33, (AV.pt 0 2)), (34, (AV.i s.target)), (35, (AV.b (decide (s.parent ≥ s.target)))), (36, (AV.b (decide (s.parent ≥ s.target)))), (37, (AV.b (decide (s.parent ≥ s.target)))), (38, (AV.pt 0 3)), (39, (exs s.list)), (40, (AV.i (s.list.length : Int))), (41, (AV.b (decide ((s.list.length : Int) > (64 : Int))))), (42, (AV.b (decide ((s.list.length : Int) > (64 : Int))))), (3, (AV.i 0)), (43, (AV.pt 0 3)), (44, (exs s.list)), (45, (AV.i (s.list.length : Int))), (46, (AV.i 0))] 99 (AH.mk 1 [(0, (AObj.cells [(AV.i s.blocks), (AV.i s.parent), (AV.i s.target), (exs s.list)]))]) false)
noncomputable abbrev vCheck_L0_S (s : Sm) (s7 : Int × Int) : St := (St.mk [(0, (AV.ag [(AV.i s.blocks), (AV.i s.parent), (AV.i s.target), (exs s.list)])), (1, (AV.pt 0 0)), (42, (AV.b (decide ((s.list.length : Int) > (64 : Int))))), (3, (AV.i s7.1)), (44, (exs s.list)), (45, (AV.i (s.list.length : Int))), (46, (AV.i s7.2))] 99 (AH.mk 1 [(0, (AObj.cells [(AV.i s.blocks), (AV.i s.parent), (AV.i s.target), (exs s.list)]))]) false)
noncomputable def vCheck_L0_step (s : Sm) (s7 : Int × Int) : Option (Int × Int) :=
 (tb ((decide (s7.2 < (s.list.length : Int)))) (tp ((((0 : Int) ≤ s7.2) ∧ (s7.2 < (s.list.length : Int)))) (tc (eCheck ((exAt s.list s7.2.toNat))) fun s10 => (tb ((!s10)) none (tb (((exAt s.list s7.2.toNat).gen != (0 : Int))) none (tb ((decide ((exAt s.list s7.2.toNat).lba < s7.1))) none (tb ((decide (s7.2 > (0 : Int)))) (tp ((((0 : Int) ≤ (wr (s7.2 - (1 : Int)))) ∧ ((wr (s7.2 - (1 : Int))) < (s.list.length : Int)))) (tc (eJoins ((exAt s.list (Int.toNat (wr (s7.2 - (1 : Int)))))) ((exAt s.list s7.2.toNat))) fun s16 => (tb (s16) none (th (vCheck_L1_step s s7 s10 s16) ((exAt s.list s7.2.toNat).d) fun s18 => (tb ((decide ((s18.length : Int) ≥ (32 : Int)))) none (some (((wr ((exAt s.list s7.2.toNat).lba + (exAt s.list s7.2.toNat).len)), (wr (s7.2 + (1 : Int))))))))))) (th (vCheck_L2_step s s7 s10) ((exAt s.list s7.2.toNat).d) fun s15 => (tb ((decide ((s15.length : Int) ≥ (32 : Int)))) none (some (((wr ((exAt s.list s7.2.toNat).lba + (exAt s.list s7.2.toNat).len)), (wr (s7.2 + (1 : Int)))))))))))))) none)
theorem vCheck_L0_ok (s : Sm) (s7 zz : Int × Int) : vCheck_L0_step s s7 = some zz → EvStep Try.prog cf 1 (lp Try.prog 19 0) (vCheck_L0_S s s7) (vCheck_L0_S s zz) := by
  unfold vCheck_L0_step
  exact tbD (fun h8 h8p => tp_ok fun h9 => tc_ok fun s10 h10 => tb_ok (fun h11 => tn_ok) fun h11 => tbN (fun h12 h12p => tn_ok) fun h12 h12p => tbD (fun h13 h13p => tn_ok) fun h13 h13p => tbD (fun h14 h14p => tp_ok fun h15 => tc_ok fun s16 h16 => tb_ok (fun h17 => tn_ok) fun h17 => th_ok fun s18 h18 => tbD (fun h19 h19p => tn_ok) fun h19 h19p => by intro e; injection e with e; subst e; exact leafIS vw_eq (k := 300) (r := []) (hs := hz [(1, [.yes]), (1, [.yes, .yes, .cells ((Ex.cells (exAt s.list s7.2.toNat)))]), (3, [.fc]), (1, [.fc]), (1, [.fres (.b (s10))]), (2, [.no]), (1, [.no]), (2, [.no]), (1, [.no]), (1, [.no]), (1, [.no]), (2, [.no]), (1, [.no]), (1, [.no]), (1, [.no]), (1, [.no]), (1, [.no]), (1, [.yes]), (1, [.yes]), (2, [.yes]), (1, [.yes]), (1, [.yes, .yes, .yes, .yes, .cells ((Ex.cells (exAt s.list (Int.toNat (wr (s7.2 - (1 : Int))))))), .yes]), (1, [.fc, .yes]), (1, [.fres (.b (s16)), .no, .yes, .no, .yes, .no]), (12, [.head (vCheck_L1_S s s7 s10 s16 s18)]), (3, [.no]), (2, [])]) (ks := [0, 1, 42, 3, 44, 45, 46]) (bs := [0]) kq (ac h8 (ac h9 (ac (fq (p := ((5 : Nat) ≤ (List.length (List.drop (s7.2.toNat * 5) (s.list.flatMap Ex.cells)))))) (ac (show (List.take 5 (List.drop (s7.2.toNat * 5) (s.list.flatMap Ex.cells))) = (Ex.cells (exAt s.list s7.2.toNat)) from (ex_takeO bq bq)) (ac (eCheck_ok ((exAt s.list s7.2.toNat)) _ h10).any0 (ac h11 (ac h11 (ac h11 (ac h11 (ac h12 (ac h12 (ac h12 (ac h12 (ac h12 (ac h13 (ac h13 (ac h13 (ac h14 (ac h14 (ac h14 (ac h14 (ac h14 (ac h15 (ac h14 (ac (fq (p := ((5 : Nat) ≤ (List.length (List.drop ((Int.toNat (wr (s7.2 - (1 : Int)))) * 5) (s.list.flatMap Ex.cells)))))) (ac (show (List.take 5 (List.drop ((Int.toNat (wr (s7.2 - (1 : Int)))) * 5) (s.list.flatMap Ex.cells))) = (Ex.cells (exAt s.list (Int.toNat (wr (s7.2 - (1 : Int)))))) from (ex_takeO bq bq)) (ac h14 (ac h14 (ac (eJoins_ok ((exAt s.list (Int.toNat (wr (s7.2 - (1 : Int)))))) ((exAt s.list s7.2.toNat)) _ h16).any0 (ac h13 (ac h14 (ac h13 (ac (show orderOk (rg Try.prog 19 0) = true ∧ allOk (Region.before (rg Try.prog 19 0)) [] 0 [(some [1], some []), (some [], some []), (some [], some []), (some [], some []), (some [], some []), (some [1], some []), (some [], some []), (some [], some []), (some [], some []), (some [], some []), (some [1], some []), (some [], some []), (some [], some []), (some [], some []), (some [], some []), (some [], some []), (some [], some []), (some [], some []), (some [], some []), (some [0], some []), (some [], some []), (some [], some []), (some [], some []), (some [], some []), (some [1], some []), (some [], some []), (some [], some []), (some [], some [])] = true from (ord_of ord_19_0 bef_19_0 kq)) (ac h17 (ac (show EvHead Try.prog cf (lp Try.prog 19 1) (vCheck_L1_I s s7 s10 s16) (vCheck_L1_S s s7 s10 s16 s18) from (EvHead.of (vCheck_L1_ok s s7 s10 s16) (absB_of [] [] kq (.consn kq (.agp pq) (.consn kq (.pt rfl) (.consn kq (.eqv tq rfl) (.consn kq (.eqv tq rfl) (.consn kq (.eqv tq rfl) (.consn kq (.eqv tq rfl) (.consn kq (.eqv tq rfl) (.consn kq (.eqv tq rfl) (.consn kq (.pt rfl) (.consn kq (.eqv tq rfl) (.consn kq (.eqv tq rfl) (.consn (x := (bys (exAt s.list s7.2.toNat).d)) kq (.eqv tq rfl) .nil)))))))))))) (.cons (.old rfl rfl (.cells (.pl rfl pq))) (.cons (.old rfl rfl (.cells (.pl rfl pq))) .nil))) h18)) (ac h19 an)))))))))))))))))))))))))))))))))))) kq) fun h14 h14p => th_ok fun s15 h15 => tbD (fun h16 h16p => tn_ok) fun h16 h16p => by intro e; injection e with e; subst e; exact leafIS vw_eq (k := 300) (r := []) (hs := hz [(1, [.yes]), (1, [.yes, .yes, .cells ((Ex.cells (exAt s.list s7.2.toNat)))]), (3, [.fc]), (1, [.fc]), (1, [.fres (.b (s10))]), (2, [.no]), (1, [.no]), (2, [.no]), (1, [.no]), (1, [.no]), (1, [.no]), (2, [.no]), (1, [.no]), (1, [.no]), (1, [.no]), (1, [.no]), (1, [.no]), (1, [.no, .no, .no, .no, .no, .no, .no, .no, .no, .no, .no, .yes]), (13, [.head (vCheck_L2_S s s7 s10 s15)]), (3, [.no]), (2, [])]) (ks := [0, 1, 42, 3, 44, 45, 46]) (bs := [0]) kq (ac h8 (ac h9 (ac (fq (p := ((5 : Nat) ≤ (List.length (List.drop (s7.2.toNat * 5) (s.list.flatMap Ex.cells)))))) (ac (show (List.take 5 (List.drop (s7.2.toNat * 5) (s.list.flatMap Ex.cells))) = (Ex.cells (exAt s.list s7.2.toNat)) from (ex_takeO bq bq)) (ac (eCheck_ok ((exAt s.list s7.2.toNat)) _ h10).any0 (ac h11 (ac h11 (ac h11 (ac h11 (ac h12 (ac h12 (ac h12 (ac h12 (ac h12 (ac h13 (ac h13 (ac h13 (ac h14 (ac h14 (ac h14 (ac h14 (ac h14 (ac h14 (ac h14 (ac h14 (ac h13 (ac h14 (ac h13 (ac (show orderOk (rg Try.prog 19 0) = true ∧ allOk (Region.before (rg Try.prog 19 0)) [] 0 [(some [1], some []), (some [], some []), (some [], some []), (some [], some []), (some [], some []), (some [1], some []), (some [], some []), (some [], some []), (some [], some []), (some [], some []), (some [1], some []), (some [], some []), (some [], some []), (some [], some []), (some [], some []), (some [], some []), (some [], some []), (some [], some []), (some [], some []), (some [], some []), (some [], some []), (some [], some []), (some [], some []), (some [], some []), (some [], some []), (some [], some []), (some [], some []), (some [], some [])] = true from (ord_of ord_19_0 bef_19_0 kq)) (ac (show EvHead Try.prog cf (lp Try.prog 19 1) (vCheck_L2_I s s7 s10) (vCheck_L2_S s s7 s10 s15) from (EvHead.of (vCheck_L2_ok s s7 s10) (absB_of [] [] kq (.consn kq (.agp pq) (.consn kq (.pt rfl) (.consn kq (.eqv tq rfl) (.consn kq (.eqv tq rfl) (.consn kq (.eqv tq rfl) (.consn kq (.eqv tq rfl) (.consn kq (.eqv tq rfl) (.consn kq (.eqv tq rfl) (.consn kq (.pt rfl) (.consn kq (.eqv tq rfl) (.consn kq (.eqv tq rfl) (.consn (x := (bys (exAt s.list s7.2.toNat).d)) kq (.eqv tq rfl) .nil)))))))))))) (.cons (.old rfl rfl (.cells (.pl rfl pq))) (.cons (.old rfl rfl (.cells (.pl rfl pq))) .nil))) h15)) (ac h16 an))))))))))))))))))))))))))))))) kq) fun h8 h8p => tn_ok
noncomputable abbrev vCheck_L3_I (s : Sm) (s7 : Int × Int) (s10 : Bool) (s16 : Bool) : St := (St.mk [(0, (AV.ag [(AV.i s.blocks), (AV.i s.parent), (AV.i s.target), (exs s.list)])), (1, (AV.pt 0 0)), (42, (AV.b (decide ((s.list.length : Int) > (64 : Int))))), (3, (AV.i (wr ((exAt s.list s7.2.toNat).lba + (exAt s.list s7.2.toNat).len)))), (44, (exs s.list)), (45, (AV.i (s.list.length : Int))), (46, (AV.i s7.2)), (47, (AV.b (decide (s7.2 < (s.list.length : Int))))), (48, (AV.i s7.2)), (49, (AV.ip (List.drop (s7.2.toNat * 5) (s.list.flatMap Ex.cells)))), (50, (AV.ag (xc (exAt s.list s7.2.toNat)))), (5, (AV.pt 1 0)), (4, (AV.i s7.2)), (51, (AV.ag (xc (exAt s.list s7.2.toNat)))), (52, (AV.b s10)), (53, (AV.b (!s10))), (54, (AV.b (!s10))), (55, (AV.pt 1 3)), (56, (AV.i (exAt s.list s7.2.toNat).gen)), (57, (AV.b ((exAt s.list s7.2.toNat).gen != (0 : Int)))), (58, (AV.b ((exAt s.list s7.2.toNat).gen != (0 : Int)))), (59, (AV.b ((exAt s.list s7.2.toNat).gen != (0 : Int)))), (60, (AV.pt 1 0)), (61, (AV.i (exAt s.list s7.2.toNat).lba)), (62, (AV.i s7.1)), (63, (AV.b (decide ((exAt s.list s7.2.toNat).lba < s7.1)))), (64, (AV.b (decide ((exAt s.list s7.2.toNat).lba < s7.1)))), (65, (AV.b (decide ((exAt s.list s7.2.toNat).lba < s7.1)))), (66, (AV.i s7.2)), (67, (AV.b (decide (s7.2 > (0 : Int))))), (68, (AV.b (decide (s7.2 > (0 : Int))))), (69, (AV.pt 0 3)), (70, (exs s.list)), (71, (AV.i s7.2)), (72, (AV.i (wr (s7.2 - (1 : Int))))), (73, (AV.ip (List.drop ((Int.toNat (wr (s7.2 - (1 : Int)))) * 5) (s.list.flatMap Ex.cells)))), (74, (AV.ag (xc (exAt s.list (Int.toNat (wr (s7.2 - (1 : Int)))))))), (75, (AV.ag (xc (exAt s.list s7.2.toNat)))), (76, (AV.b s16)), (77, (AV.b s16)), (78, (AV.b s16)), (79, (AV.pt 1 0)), (80, (AV.i (exAt s.list s7.2.toNat).lba)), (81, (AV.pt 1 1)), (82, (AV.i (exAt s.list s7.2.toNat).len)), (83, (AV.i (wr ((exAt s.list s7.2.toNat).lba + (exAt s.list s7.2.toNat).len)))), (84, (AV.pt 1 4)), (85, (bys (exAt s.list s7.2.toNat).d)), (6, (bys (exAt s.list s7.2.toNat).d))] 99 (AH.mk 2 [(1, (AObj.cells (xc (exAt s.list s7.2.toNat)))), (0, (AObj.cells [(AV.i s.blocks), (AV.i s.parent), (AV.i s.target), (exs s.list)]))]) false)
noncomputable abbrev vCheck_L3_S (s : Sm) (s7 : Int × Int) (s10 : Bool) (s16 : Bool) (s18 : List UInt8) : St := (St.mk [(0, (AV.ag [(AV.i s.blocks), (AV.i s.parent), (AV.i s.target), (exs s.list)])), (1, (AV.pt 0 0)), (42, (AV.b (decide ((s.list.length : Int) > (64 : Int))))), (3, (AV.i (wr ((exAt s.list s7.2.toNat).lba + (exAt s.list s7.2.toNat).len)))), (44, (exs s.list)), (45, (AV.i (s.list.length : Int))), (46, (AV.i s7.2)), (47, (AV.b (decide (s7.2 < (s.list.length : Int))))), (5, (AV.pt 1 0)), (4, (AV.i s7.2)), (78, (AV.b s16)), (6, (bys s18))] 99 (AH.mk 2 [(1, (AObj.cells (xc (exAt s.list s7.2.toNat)))), (0, (AObj.cells [(AV.i s.blocks), (AV.i s.parent), (AV.i s.target), (exs s.list)]))]) false)
noncomputable def vCheck_L3_step (s : Sm) (s7 : Int × Int) (s10 : Bool) (s16 : Bool) (s18 : List UInt8) : Option (List UInt8) :=
 (tb ((decide ((s18.length : Int) ≥ (32 : Int)))) (tc (pIs ((List.take 32 s18))) fun s20 => (tb (s20) none (some ((List.take ((s18.length - (32 : Nat)) * 1) (List.drop 32 s18)))))) none)
theorem vCheck_L3_ok (s : Sm) (s7 : Int × Int) (s10 : Bool) (s16 : Bool) (s18 zz : List UInt8) : vCheck_L3_step s s7 s10 s16 s18 = some zz → EvStep Try.prog cf 2 (lp Try.prog 19 1) (vCheck_L3_S s s7 s10 s16 s18) (vCheck_L3_S s s7 s10 s16 zz) := by
  unfold vCheck_L3_step
  exact tbD (fun h19 h19p => tc_ok fun s20 h20 => tb_ok (fun h21 => tn_ok) fun h21 => by intro e; injection e with e; subst e; exact leafS vw_eq (k := 300) (r := []) (hs := hz [(3, [.yes]), (2, [.yes]), (1, [.fres (.b (s20)), .no]), (2, [.yes]), (1, [])]) (ks := [0, 1, 42, 3, 44, 45, 46, 47, 5, 4, 78, 6]) (st1 := (St.mk [(0, (AV.ag [(AV.i s.blocks), (AV.i s.parent), (AV.i s.target), (exs s.list)])), (1, (AV.pt 0 0)), (42, (AV.b (decide ((s.list.length : Int) > (64 : Int))))), (3, (AV.i (wr ((exAt s.list s7.2.toNat).lba + (exAt s.list s7.2.toNat).len)))), (44, (exs s.list)), (45, (AV.i (s.list.length : Int))), (46, (AV.i s7.2)), (47, (AV.b (decide (s7.2 < (s.list.length : Int))))), (5, (AV.pt 1 0)), (4, (AV.i s7.2)), (78, (AV.b s16)), (6, (AV.sl (s18.length - (32 : Nat)) (List.take ((s18.length - (32 : Nat)) * 1) (List.drop 32 (List.map AV.y s18)))))] 99 (AH.mk 2 [(1, (AObj.cells (xc (exAt s.list s7.2.toNat)))), (0, (AObj.cells [(AV.i s.blocks), (AV.i s.parent), (AV.i s.target), (exs s.list)]))]) false)) kq (ac h19 (ac (fq (p := (((0 : Nat) ≤ (32 : Nat)) ∧ (((32 : Nat) ≤ s18.length) ∧ ((List.length (List.map AV.y s18)) = (s18.length * 1)))))) (ac (show EvFr Try.prog cf false 40 [(AV.sl 32 (List.take 32 (List.map AV.y s18)))] (.b (s20)) from ((pIs_ok ((List.take 32 s18)) _ h20).any.cast tq)) (ac h21 (ac (fq (p := (((32 : Nat) ≤ s18.length) ∧ ((s18.length ≤ s18.length) ∧ ((List.length (List.map AV.y s18)) = (s18.length * 1)))))) an))))) (Nat.le_of_ble_eq_true rfl) (Nat.le_of_ble_eq_true rfl) (absB_of [] [] kq (.consn kq (.agp pq) (.consn kq (.pt rfl) (.consn kq (.eqv tq rfl) (.consn kq (.eqv tq rfl) (.consn kq (.eqv tq rfl) (.consn kq (.eqv tq rfl) (.consn kq (.eqv tq rfl) (.consn kq (.eqv tq rfl) (.consn kq (.pt rfl) (.consn kq (.eqv tq rfl) (.consn kq (.eqv tq rfl) (.consn (x := (AV.sl (s18.length - (32 : Nat)) (List.take ((s18.length - (32 : Nat)) * 1) (List.drop 32 (List.map AV.y s18))))) kq (.eqv tq rfl) .nil)))))))))))) (.cons (.old rfl rfl (.cells (.pl rfl pq))) (.cons (.old rfl rfl (.cells (.pl rfl pq))) .nil)))) fun h19 h19p => tn_ok
noncomputable abbrev vCheck_L4_I (s : Sm) (s7 : Int × Int) (s10 : Bool) : St := (St.mk [(0, (AV.ag [(AV.i s.blocks), (AV.i s.parent), (AV.i s.target), (exs s.list)])), (1, (AV.pt 0 0)), (42, (AV.b (decide ((s.list.length : Int) > (64 : Int))))), (3, (AV.i (wr ((exAt s.list s7.2.toNat).lba + (exAt s.list s7.2.toNat).len)))), (44, (exs s.list)), (45, (AV.i (s.list.length : Int))), (46, (AV.i s7.2)), (47, (AV.b (decide (s7.2 < (s.list.length : Int))))), (48, (AV.i s7.2)), (49, (AV.ip (List.drop (s7.2.toNat * 5) (s.list.flatMap Ex.cells)))), (50, (AV.ag (xc (exAt s.list s7.2.toNat)))), (5, (AV.pt 1 0)), (4, (AV.i s7.2)), (51, (AV.ag (xc (exAt s.list s7.2.toNat)))), (52, (AV.b s10)), (53, (AV.b (!s10))), (54, (AV.b (!s10))), (55, (AV.pt 1 3)), (56, (AV.i (exAt s.list s7.2.toNat).gen)), (57, (AV.b ((exAt s.list s7.2.toNat).gen != (0 : Int)))), (58, (AV.b ((exAt s.list s7.2.toNat).gen != (0 : Int)))), (59, (AV.b ((exAt s.list s7.2.toNat).gen != (0 : Int)))), (60, (AV.pt 1 0)), (61, (AV.i (exAt s.list s7.2.toNat).lba)), (62, (AV.i s7.1)), (63, (AV.b (decide ((exAt s.list s7.2.toNat).lba < s7.1)))), (64, (AV.b (decide ((exAt s.list s7.2.toNat).lba < s7.1)))), (65, (AV.b (decide ((exAt s.list s7.2.toNat).lba < s7.1)))), (66, (AV.i s7.2)), (67, (AV.b (decide (s7.2 > (0 : Int))))), (68, (AV.b (decide (s7.2 > (0 : Int))))), (69, (AV.tu ([] : List AV))), (70, (AV.tu ([] : List AV))), (71, (AV.tu ([] : List AV))), (72, (AV.tu ([] : List AV))), (73, (AV.tu ([] : List AV))), (74, (AV.tu ([] : List AV))), (75, (AV.tu ([] : List AV))), (76, (AV.tu ([] : List AV))), (77, (AV.b false)), (78, (AV.b false)), (79, (AV.pt 1 0)), (80, (AV.i (exAt s.list s7.2.toNat).lba)), (81, (AV.pt 1 1)), (82, (AV.i (exAt s.list s7.2.toNat).len)), (83, (AV.i (wr ((exAt s.list s7.2.toNat).lba + (exAt s.list s7.2.toNat).len)))), (84, (AV.pt 1 4)), (85, (bys (exAt s.list s7.2.toNat).d)), (6, (bys (exAt s.list s7.2.toNat).d))] 99 (AH.mk 2 [(1, (AObj.cells (xc (exAt s.list s7.2.toNat)))), (0, (AObj.cells [(AV.i s.blocks), (AV.i s.parent), (AV.i s.target), (exs s.list)]))]) false)
noncomputable abbrev vCheck_L4_S (s : Sm) (s7 : Int × Int) (s10 : Bool) (s15 : List UInt8) : St := (St.mk [(0, (AV.ag [(AV.i s.blocks), (AV.i s.parent), (AV.i s.target), (exs s.list)])), (1, (AV.pt 0 0)), (42, (AV.b (decide ((s.list.length : Int) > (64 : Int))))), (3, (AV.i (wr ((exAt s.list s7.2.toNat).lba + (exAt s.list s7.2.toNat).len)))), (44, (exs s.list)), (45, (AV.i (s.list.length : Int))), (46, (AV.i s7.2)), (47, (AV.b (decide (s7.2 < (s.list.length : Int))))), (5, (AV.pt 1 0)), (4, (AV.i s7.2)), (78, (AV.b false)), (6, (bys s15))] 99 (AH.mk 2 [(1, (AObj.cells (xc (exAt s.list s7.2.toNat)))), (0, (AObj.cells [(AV.i s.blocks), (AV.i s.parent), (AV.i s.target), (exs s.list)]))]) false)
noncomputable def vCheck_L4_step (s : Sm) (s7 : Int × Int) (s10 : Bool) (s15 : List UInt8) : Option (List UInt8) :=
 (tb ((decide ((s15.length : Int) ≥ (32 : Int)))) (tc (pIs ((List.take 32 s15))) fun s17 => (tb (s17) none (some ((List.take ((s15.length - (32 : Nat)) * 1) (List.drop 32 s15)))))) none)
theorem vCheck_L4_ok (s : Sm) (s7 : Int × Int) (s10 : Bool) (s15 zz : List UInt8) : vCheck_L4_step s s7 s10 s15 = some zz → EvStep Try.prog cf 2 (lp Try.prog 19 1) (vCheck_L4_S s s7 s10 s15) (vCheck_L4_S s s7 s10 zz) := by
  unfold vCheck_L4_step
  exact tbD (fun h16 h16p => tc_ok fun s17 h17 => tb_ok (fun h18 => tn_ok) fun h18 => by intro e; injection e with e; subst e; exact leafS vw_eq (k := 300) (r := []) (hs := hz [(3, [.yes]), (2, [.yes]), (1, [.fres (.b (s17)), .no]), (2, [.yes]), (1, [])]) (ks := [0, 1, 42, 3, 44, 45, 46, 47, 5, 4, 78, 6]) (st1 := (St.mk [(0, (AV.ag [(AV.i s.blocks), (AV.i s.parent), (AV.i s.target), (exs s.list)])), (1, (AV.pt 0 0)), (42, (AV.b (decide ((s.list.length : Int) > (64 : Int))))), (3, (AV.i (wr ((exAt s.list s7.2.toNat).lba + (exAt s.list s7.2.toNat).len)))), (44, (exs s.list)), (45, (AV.i (s.list.length : Int))), (46, (AV.i s7.2)), (47, (AV.b (decide (s7.2 < (s.list.length : Int))))), (5, (AV.pt 1 0)), (4, (AV.i s7.2)), (78, (AV.b false)), (6, (AV.sl (s15.length - (32 : Nat)) (List.take ((s15.length - (32 : Nat)) * 1) (List.drop 32 (List.map AV.y s15)))))] 99 (AH.mk 2 [(1, (AObj.cells (xc (exAt s.list s7.2.toNat)))), (0, (AObj.cells [(AV.i s.blocks), (AV.i s.parent), (AV.i s.target), (exs s.list)]))]) false)) kq (ac h16 (ac (fq (p := (((0 : Nat) ≤ (32 : Nat)) ∧ (((32 : Nat) ≤ s15.length) ∧ ((List.length (List.map AV.y s15)) = (s15.length * 1)))))) (ac (show EvFr Try.prog cf false 40 [(AV.sl 32 (List.take 32 (List.map AV.y s15)))] (.b (s17)) from ((pIs_ok ((List.take 32 s15)) _ h17).any.cast tq)) (ac h18 (ac (fq (p := (((32 : Nat) ≤ s15.length) ∧ ((s15.length ≤ s15.length) ∧ ((List.length (List.map AV.y s15)) = (s15.length * 1)))))) an))))) (Nat.le_of_ble_eq_true rfl) (Nat.le_of_ble_eq_true rfl) (absB_of [] [] kq (.consn kq (.agp pq) (.consn kq (.pt rfl) (.consn kq (.eqv tq rfl) (.consn kq (.eqv tq rfl) (.consn kq (.eqv tq rfl) (.consn kq (.eqv tq rfl) (.consn kq (.eqv tq rfl) (.consn kq (.eqv tq rfl) (.consn kq (.pt rfl) (.consn kq (.eqv tq rfl) (.consn kq (.eqv tq rfl) (.consn (x := (AV.sl (s15.length - (32 : Nat)) (List.take ((s15.length - (32 : Nat)) * 1) (List.drop 32 (List.map AV.y s15))))) kq (.eqv tq rfl) .nil)))))))))))) (.cons (.old rfl rfl (.cells (.pl rfl pq))) (.cons (.old rfl rfl (.cells (.pl rfl pq))) .nil)))) fun h16 h16p => tn_ok
noncomputable def vCheck (s : Sm) : Option (Bool) :=
 (tb ((decide (s.blocks < (1 : Int)))) (some (false)) (tb ((decide (s.blocks > (64 : Int)))) (some (false)) (tb ((decide (s.target < (1 : Int)))) (some (false)) (tb ((decide (s.target > (2147483647 : Int)))) (some (false)) (tb ((decide (s.parent < (0 : Int)))) (some (false)) (tb ((decide (s.parent ≥ s.target))) (some (false)) (tb ((decide ((s.list.length : Int) > (64 : Int)))) (some (false)) (th (vCheck_L0_step s) (((0 : Int), (0 : Int))) fun s7 => (tb ((decide (s7.2 < (s.list.length : Int)))) (tp ((((0 : Int) ≤ s7.2) ∧ (s7.2 < (s.list.length : Int)))) (tc (eCheck ((exAt s.list s7.2.toNat))) fun s10 => (tb ((!s10)) (some (false)) (tb (((exAt s.list s7.2.toNat).gen != (0 : Int))) (some (false)) (tb ((decide ((exAt s.list s7.2.toNat).lba < s7.1))) (some (false)) (tb ((decide (s7.2 > (0 : Int)))) (tp ((((0 : Int) ≤ (wr (s7.2 - (1 : Int)))) ∧ ((wr (s7.2 - (1 : Int))) < (s.list.length : Int)))) (tc (eJoins ((exAt s.list (Int.toNat (wr (s7.2 - (1 : Int)))))) ((exAt s.list s7.2.toNat))) fun s16 => (tb (s16) (some (false)) (th (vCheck_L3_step s s7 s10 s16) ((exAt s.list s7.2.toNat).d) fun s18 => (tb ((decide ((s18.length : Int) ≥ (32 : Int)))) (tc (pIs ((List.take 32 s18))) fun s20 => (tb (s20) (some (false)) none)) none))))) (th (vCheck_L4_step s s7 s10) ((exAt s.list s7.2.toNat).d) fun s15 => (tb ((decide ((s15.length : Int) ≥ (32 : Int)))) (tc (pIs ((List.take 32 s15))) fun s17 => (tb (s17) (some (false)) none)) none)))))))) (some ((decide (s7.1 ≤ s.blocks)))))))))))))
abbrev vCheck_G (s : Sm) (r : Bool) : Prop := EvFr Try.prog cf true 19 [Sm.av (s)] (.b (r))
theorem vCheck_ok (s : Sm) (r : Bool) : vCheck s = some r → vCheck_G s r := by
  unfold vCheck
  exact tbD (fun h0 h0p => by intro e; injection e with e; subst e; exact leafR vw_eq (k := 300) (r := []) (hs := hz [(7, [.yes, .yes, .yes, .yes]), (30, [])]) (raw := (AV.b false)) kq (ac h0 (ac h0 (ac h0 (ac h0 an)))) tq) fun h0 h0p => tbD (fun h1 h1p => by intro e; injection e with e; subst e; exact leafR vw_eq (k := 300) (r := []) (hs := hz [(7, [.no]), (1, [.no]), (2, [.no]), (1, [.no]), (1, [.yes, .yes, .yes, .yes]), (25, [])]) (raw := (AV.b false)) kq (ac h0 (ac h0 (ac h0 (ac h0 (ac h1 (ac h1 (ac h1 (ac h1 an)))))))) tq) fun h1 h1p => tbD (fun h2 h2p => by intro e; injection e with e; subst e; exact leafR vw_eq (k := 300) (r := []) (hs := hz [(7, [.no]), (1, [.no]), (2, [.no]), (1, [.no]), (1, [.no]), (1, [.no]), (2, [.no]), (1, [.no]), (1, [.yes, .yes, .yes, .yes]), (20, [])]) (raw := (AV.b false)) kq (ac h0 (ac h0 (ac h0 (ac h0 (ac h1 (ac h1 (ac h1 (ac h1 (ac h2 (ac h2 (ac h2 (ac h2 an)))))))))))) tq) fun h2 h2p => tbD (fun h3 h3p => by intro e; injection e with e; subst e; exact leafR vw_eq (k := 300) (r := []) (hs := hz [(7, [.no]), (1, [.no]), (2, [.no]), (1, [.no]), (1, [.no]), (1, [.no]), (2, [.no]), (1, [.no]), (1, [.no]), (1, [.no]), (2, [.no]), (1, [.no]), (1, [.yes, .yes, .yes, .yes]), (15, [])]) (raw := (AV.b false)) kq (ac h0 (ac h0 (ac h0 (ac h0 (ac h1 (ac h1 (ac h1 (ac h1 (ac h2 (ac h2 (ac h2 (ac h2 (ac h3 (ac h3 (ac h3 (ac h3 an)))))))))))))))) tq) fun h3 h3p => tbD (fun h4 h4p => by intro e; injection e with e; subst e; exact leafR vw_eq (k := 300) (r := []) (hs := hz [(7, [.no]), (1, [.no]), (2, [.no]), (1, [.no]), (1, [.no]), (1, [.no]), (2, [.no]), (1, [.no]), (1, [.no]), (1, [.no]), (2, [.no]), (1, [.no]), (1, [.no]), (1, [.no]), (2, [.no]), (1, [.no]), (1, [.yes, .yes, .yes, .yes, .yes, .yes]), (8, [])]) (raw := (AV.b false)) kq (ac h0 (ac h0 (ac h0 (ac h0 (ac h1 (ac h1 (ac h1 (ac h1 (ac h2 (ac h2 (ac h2 (ac h2 (ac h3 (ac h3 (ac h3 (ac h3 (ac h4 (ac h4 (ac h4 (ac h4 (ac h4 (ac h4 an)))))))))))))))))))))) tq) fun h4 h4p => tbD (fun h5 h5p => by intro e; injection e with e; subst e; exact leafR vw_eq (k := 300) (r := []) (hs := hz [(7, [.no]), (1, [.no]), (2, [.no]), (1, [.no]), (1, [.no]), (1, [.no]), (2, [.no]), (1, [.no]), (1, [.no]), (1, [.no]), (2, [.no]), (1, [.no]), (1, [.no]), (1, [.no]), (2, [.no]), (1, [.no]), (1, [.no]), (1, [.no]), (2, [.no]), (1, [.no]), (2, [.no]), (1, [.no]), (1, [.yes, .yes, .yes, .yes, .yes]), (2, [])]) (raw := (AV.b false)) kq (ac h0 (ac h0 (ac h0 (ac h0 (ac h1 (ac h1 (ac h1 (ac h1 (ac h2 (ac h2 (ac h2 (ac h2 (ac h3 (ac h3 (ac h3 (ac h3 (ac h4 (ac h4 (ac h4 (ac h4 (ac h4 (ac h4 (ac h5 (ac h5 (ac h5 (ac h5 (ac h5 an))))))))))))))))))))))))))) tq) fun h5 h5p => tbD (fun h6 h6p => by intro e; injection e with e; subst e; exact leafR vw_eq (k := 300) (r := []) (hs := hz [(7, [.no]), (1, [.no]), (2, [.no]), (1, [.no]), (1, [.no]), (1, [.no]), (2, [.no]), (1, [.no]), (1, [.no]), (1, [.no]), (2, [.no]), (1, [.no]), (1, [.no]), (1, [.no]), (2, [.no]), (1, [.no]), (1, [.no]), (1, [.no]), (2, [.no]), (1, [.no]), (2, [.no]), (1, [.no]), (1, [.no]), (1, [.no]), (2, [.no]), (1, [.no]), (1, [.no, .yes]), (1, [])]) (raw := (AV.b false)) kq (ac h0 (ac h0 (ac h0 (ac h0 (ac h1 (ac h1 (ac h1 (ac h1 (ac h2 (ac h2 (ac h2 (ac h2 (ac h3 (ac h3 (ac h3 (ac h3 (ac h4 (ac h4 (ac h4 (ac h4 (ac h4 (ac h4 (ac h5 (ac h5 (ac h5 (ac h5 (ac h5 (ac h6 an)))))))))))))))))))))))))))) tq) fun h6 h6p => th_ok fun s7 h7 => tbD (fun h8 h8p => tp_ok fun h9 => tc_ok fun s10 h10 => tb_ok (fun h11 => by intro e; injection e with e; subst e; exact leafR vw_eq (k := 300) (r := []) (hs := hz [(7, [.no]), (1, [.no]), (2, [.no]), (1, [.no]), (1, [.no]), (1, [.no]), (2, [.no]), (1, [.no]), (1, [.no]), (1, [.no]), (2, [.no]), (1, [.no]), (1, [.no]), (1, [.no]), (2, [.no]), (1, [.no]), (1, [.no]), (1, [.no]), (2, [.no]), (1, [.no]), (2, [.no]), (1, [.no]), (1, [.no]), (1, [.no]), (2, [.no]), (1, [.no]), (1, [.no, .no]), (6, [.head (vCheck_L0_S s s7)]), (1, [.yes]), (1, [.yes, .yes, .cells ((Ex.cells (exAt s.list s7.2.toNat)))]), (3, [.fc]), (1, [.fc]), (1, [.fres (.b (s10))]), (2, [.yes, .yes, .yes, .yes]), (12, [.yes]), (2, [])]) (raw := (AV.b false)) kq (ac h0 (ac h0 (ac h0 (ac h0 (ac h1 (ac h1 (ac h1 (ac h1 (ac h2 (ac h2 (ac h2 (ac h2 (ac h3 (ac h3 (ac h3 (ac h3 (ac h4 (ac h4 (ac h4 (ac h4 (ac h4 (ac h4 (ac h5 (ac h5 (ac h5 (ac h5 (ac h5 (ac h6 (ac (show EvHead Try.prog cf (lp Try.prog 19 0) (vCheck_L0_I s) (vCheck_L0_S s s7) from (EvHead.of (vCheck_L0_ok s) (absB_of [] [] kq (.consn kq (.agp pq) (.consn kq (.pt rfl) (.consn kq (.eqv tq rfl) (.consn kq (.eqv tq rfl) (.consn kq (.eqv tq rfl) (.consn kq (.eqv tq rfl) (.consn kq (.eqv tq rfl) .nil))))))) (.cons (.old rfl rfl (.cells (.pl rfl pq))) .nil)) h7)) (ac h8 (ac h9 (ac (fq (p := ((5 : Nat) ≤ (List.length (List.drop (s7.2.toNat * 5) (s.list.flatMap Ex.cells)))))) (ac (show (List.take 5 (List.drop (s7.2.toNat * 5) (s.list.flatMap Ex.cells))) = (Ex.cells (exAt s.list s7.2.toNat)) from (ex_takeO bq bq)) (ac (eCheck_ok ((exAt s.list s7.2.toNat)) _ h10).any0 (ac h11 (ac h11 (ac h11 (ac h11 (ac (show orderOk (rg Try.prog 19 0) = true ∧ allOk (Region.before (rg Try.prog 19 0)) [] 0 [(some [1], some []), (some [], some []), (some [], some []), (some [], some []), (some [], some []), (some [], some []), (some [], some []), (some [], some []), (some [], some []), (some [], some []), (some [], some []), (some [], some []), (some [], some []), (some [], some []), (some [], some []), (some [], some []), (some [], some []), (some [], some []), (some [], some []), (some [], some []), (some [], some []), (some [], some []), (some [], some []), (some [], some []), (some [], some []), (some [], some []), (some [], some []), (some [], some [])] = true from (ord_of ord_19_0 bef_19_0 kq)) an))))))))))))))))))))))))))))))))))))))) tq) fun h11 => tbN (fun h12 h12p => by intro e; injection e with e; subst e; exact leafR vw_eq (k := 300) (r := []) (hs := hz [(7, [.no]), (1, [.no]), (2, [.no]), (1, [.no]), (1, [.no]), (1, [.no]), (2, [.no]), (1, [.no]), (1, [.no]), (1, [.no]), (2, [.no]), (1, [.no]), (1, [.no]), (1, [.no]), (2, [.no]), (1, [.no]), (1, [.no]), (1, [.no]), (2, [.no]), (1, [.no]), (2, [.no]), (1, [.no]), (1, [.no]), (1, [.no]), (2, [.no]), (1, [.no]), (1, [.no, .no]), (6, [.head (vCheck_L0_S s s7)]), (1, [.yes]), (1, [.yes, .yes, .cells ((Ex.cells (exAt s.list s7.2.toNat)))]), (3, [.fc]), (1, [.fc]), (1, [.fres (.b (s10))]), (2, [.no]), (1, [.no]), (2, [.no]), (1, [.no]), (1, [.yes, .yes, .yes, .yes, .yes]), (6, [.yes]), (2, [])]) (raw := (AV.b false)) kq (ac h0 (ac h0 (ac h0 (ac h0 (ac h1 (ac h1 (ac h1 (ac h1 (ac h2 (ac h2 (ac h2 (ac h2 (ac h3 (ac h3 (ac h3 (ac h3 (ac h4 (ac h4 (ac h4 (ac h4 (ac h4 (ac h4 (ac h5 (ac h5 (ac h5 (ac h5 (ac h5 (ac h6 (ac (show EvHead Try.prog cf (lp Try.prog 19 0) (vCheck_L0_I s) (vCheck_L0_S s s7) from (EvHead.of (vCheck_L0_ok s) (absB_of [] [] kq (.consn kq (.agp pq) (.consn kq (.pt rfl) (.consn kq (.eqv tq rfl) (.consn kq (.eqv tq rfl) (.consn kq (.eqv tq rfl) (.consn kq (.eqv tq rfl) (.consn kq (.eqv tq rfl) .nil))))))) (.cons (.old rfl rfl (.cells (.pl rfl pq))) .nil)) h7)) (ac h8 (ac h9 (ac (fq (p := ((5 : Nat) ≤ (List.length (List.drop (s7.2.toNat * 5) (s.list.flatMap Ex.cells)))))) (ac (show (List.take 5 (List.drop (s7.2.toNat * 5) (s.list.flatMap Ex.cells))) = (Ex.cells (exAt s.list s7.2.toNat)) from (ex_takeO bq bq)) (ac (eCheck_ok ((exAt s.list s7.2.toNat)) _ h10).any0 (ac h11 (ac h11 (ac h11 (ac h11 (ac h12 (ac h12 (ac h12 (ac h12 (ac h12 (ac (show orderOk (rg Try.prog 19 0) = true ∧ allOk (Region.before (rg Try.prog 19 0)) [] 0 [(some [1], some []), (some [], some []), (some [], some []), (some [], some []), (some [], some []), (some [1], some []), (some [], some []), (some [], some []), (some [], some []), (some [], some []), (some [], some []), (some [], some []), (some [], some []), (some [], some []), (some [], some []), (some [], some []), (some [], some []), (some [], some []), (some [], some []), (some [], some []), (some [], some []), (some [], some []), (some [], some []), (some [], some []), (some [], some []), (some [], some []), (some [], some []), (some [], some [])] = true from (ord_of ord_19_0 bef_19_0 kq)) an)))))))))))))))))))))))))))))))))))))))))))) tq) fun h12 h12p => tbD (fun h13 h13p => by intro e; injection e with e; subst e; exact leafR vw_eq (k := 300) (r := []) (hs := hz [(7, [.no]), (1, [.no]), (2, [.no]), (1, [.no]), (1, [.no]), (1, [.no]), (2, [.no]), (1, [.no]), (1, [.no]), (1, [.no]), (2, [.no]), (1, [.no]), (1, [.no]), (1, [.no]), (2, [.no]), (1, [.no]), (1, [.no]), (1, [.no]), (2, [.no]), (1, [.no]), (2, [.no]), (1, [.no]), (1, [.no]), (1, [.no]), (2, [.no]), (1, [.no]), (1, [.no, .no]), (6, [.head (vCheck_L0_S s s7)]), (1, [.yes]), (1, [.yes, .yes, .cells ((Ex.cells (exAt s.list s7.2.toNat)))]), (3, [.fc]), (1, [.fc]), (1, [.fres (.b (s10))]), (2, [.no]), (1, [.no]), (2, [.no]), (1, [.no]), (1, [.no]), (1, [.no]), (2, [.no]), (1, [.no]), (1, [.no]), (1, [.yes, .yes, .yes, .yes, .yes, .yes]), (2, [])]) (raw := (AV.b false)) kq (ac h0 (ac h0 (ac h0 (ac h0 (ac h1 (ac h1 (ac h1 (ac h1 (ac h2 (ac h2 (ac h2 (ac h2 (ac h3 (ac h3 (ac h3 (ac h3 (ac h4 (ac h4 (ac h4 (ac h4 (ac h4 (ac h4 (ac h5 (ac h5 (ac h5 (ac h5 (ac h5 (ac h6 (ac (show EvHead Try.prog cf (lp Try.prog 19 0) (vCheck_L0_I s) (vCheck_L0_S s s7) from (EvHead.of (vCheck_L0_ok s) (absB_of [] [] kq (.consn kq (.agp pq) (.consn kq (.pt rfl) (.consn kq (.eqv tq rfl) (.consn kq (.eqv tq rfl) (.consn kq (.eqv tq rfl) (.consn kq (.eqv tq rfl) (.consn kq (.eqv tq rfl) .nil))))))) (.cons (.old rfl rfl (.cells (.pl rfl pq))) .nil)) h7)) (ac h8 (ac h9 (ac (fq (p := ((5 : Nat) ≤ (List.length (List.drop (s7.2.toNat * 5) (s.list.flatMap Ex.cells)))))) (ac (show (List.take 5 (List.drop (s7.2.toNat * 5) (s.list.flatMap Ex.cells))) = (Ex.cells (exAt s.list s7.2.toNat)) from (ex_takeO bq bq)) (ac (eCheck_ok ((exAt s.list s7.2.toNat)) _ h10).any0 (ac h11 (ac h11 (ac h11 (ac h11 (ac h12 (ac h12 (ac h12 (ac h12 (ac h12 (ac h13 (ac h13 (ac h13 (ac h13 (ac h13 (ac (show orderOk (rg Try.prog 19 0) = true ∧ allOk (Region.before (rg Try.prog 19 0)) [] 0 [(some [1], some []), (some [], some []), (some [], some []), (some [], some []), (some [], some []), (some [1], some []), (some [], some []), (some [], some []), (some [], some []), (some [], some []), (some [1], some []), (some [], some []), (some [], some []), (some [], some []), (some [], some []), (some [], some []), (some [], some []), (some [], some []), (some [], some []), (some [], some []), (some [], some []), (some [], some []), (some [], some []), (some [], some []), (some [], some []), (some [], some []), (some [], some []), (some [], some [])] = true from (ord_of ord_19_0 bef_19_0 kq)) an))))))))))))))))))))))))))))))))))))))))))))))))) tq) fun h13 h13p => tbD (fun h14 h14p => tp_ok fun h15 => tc_ok fun s16 h16 => tb_ok (fun h17 => by intro e; injection e with e; subst e; exact leafR vw_eq (k := 300) (r := []) (hs := hz [(7, [.no]), (1, [.no]), (2, [.no]), (1, [.no]), (1, [.no]), (1, [.no]), (2, [.no]), (1, [.no]), (1, [.no]), (1, [.no]), (2, [.no]), (1, [.no]), (1, [.no]), (1, [.no]), (2, [.no]), (1, [.no]), (1, [.no]), (1, [.no]), (2, [.no]), (1, [.no]), (2, [.no]), (1, [.no]), (1, [.no]), (1, [.no]), (2, [.no]), (1, [.no]), (1, [.no, .no]), (6, [.head (vCheck_L0_S s s7)]), (1, [.yes]), (1, [.yes, .yes, .cells ((Ex.cells (exAt s.list s7.2.toNat)))]), (3, [.fc]), (1, [.fc]), (1, [.fres (.b (s10))]), (2, [.no]), (1, [.no]), (2, [.no]), (1, [.no]), (1, [.no]), (1, [.no]), (2, [.no]), (1, [.no]), (1, [.no]), (1, [.no]), (1, [.no]), (1, [.no]), (1, [.yes]), (1, [.yes]), (2, [.yes]), (1, [.yes]), (1, [.yes, .yes, .yes, .yes, .cells ((Ex.cells (exAt s.list (Int.toNat (wr (s7.2 - (1 : Int))))))), .yes]), (1, [.fc, .yes]), (1, [.fres (.b (s16)), .no, .yes, .no, .yes, .yes]), (1, [])]) (raw := (AV.b false)) kq (ac h0 (ac h0 (ac h0 (ac h0 (ac h1 (ac h1 (ac h1 (ac h1 (ac h2 (ac h2 (ac h2 (ac h2 (ac h3 (ac h3 (ac h3 (ac h3 (ac h4 (ac h4 (ac h4 (ac h4 (ac h4 (ac h4 (ac h5 (ac h5 (ac h5 (ac h5 (ac h5 (ac h6 (ac (show EvHead Try.prog cf (lp Try.prog 19 0) (vCheck_L0_I s) (vCheck_L0_S s s7) from (EvHead.of (vCheck_L0_ok s) (absB_of [] [] kq (.consn kq (.agp pq) (.consn kq (.pt rfl) (.consn kq (.eqv tq rfl) (.consn kq (.eqv tq rfl) (.consn kq (.eqv tq rfl) (.consn kq (.eqv tq rfl) (.consn kq (.eqv tq rfl) .nil))))))) (.cons (.old rfl rfl (.cells (.pl rfl pq))) .nil)) h7)) (ac h8 (ac h9 (ac (fq (p := ((5 : Nat) ≤ (List.length (List.drop (s7.2.toNat * 5) (s.list.flatMap Ex.cells)))))) (ac (show (List.take 5 (List.drop (s7.2.toNat * 5) (s.list.flatMap Ex.cells))) = (Ex.cells (exAt s.list s7.2.toNat)) from (ex_takeO bq bq)) (ac (eCheck_ok ((exAt s.list s7.2.toNat)) _ h10).any0 (ac h11 (ac h11 (ac h11 (ac h11 (ac h12 (ac h12 (ac h12 (ac h12 (ac h12 (ac h13 (ac h13 (ac h13 (ac h14 (ac h14 (ac h14 (ac h14 (ac h14 (ac h15 (ac h14 (ac (fq (p := ((5 : Nat) ≤ (List.length (List.drop ((Int.toNat (wr (s7.2 - (1 : Int)))) * 5) (s.list.flatMap Ex.cells)))))) (ac (show (List.take 5 (List.drop ((Int.toNat (wr (s7.2 - (1 : Int)))) * 5) (s.list.flatMap Ex.cells))) = (Ex.cells (exAt s.list (Int.toNat (wr (s7.2 - (1 : Int)))))) from (ex_takeO bq bq)) (ac h14 (ac h14 (ac (eJoins_ok ((exAt s.list (Int.toNat (wr (s7.2 - (1 : Int)))))) ((exAt s.list s7.2.toNat)) _ h16).any0 (ac h13 (ac h14 (ac h13 (ac (show orderOk (rg Try.prog 19 0) = true ∧ allOk (Region.before (rg Try.prog 19 0)) [] 0 [(some [1], some []), (some [], some []), (some [], some []), (some [], some []), (some [], some []), (some [1], some []), (some [], some []), (some [], some []), (some [], some []), (some [], some []), (some [1], some []), (some [], some []), (some [], some []), (some [], some []), (some [], some []), (some [], some []), (some [], some []), (some [], some []), (some [], some []), (some [0], some []), (some [], some []), (some [], some []), (some [], some []), (some [], some []), (some [1], some []), (some [], some []), (some [], some []), (some [], some [])] = true from (ord_of ord_19_0 bef_19_0 kq)) (ac h17 an))))))))))))))))))))))))))))))))))))))))))))))))))))))))))))))) tq) fun h17 => th_ok fun s18 h18 => tbD (fun h19 h19p => tc_ok fun s20 h20 => tb_ok (fun h21 => by intro e; injection e with e; subst e; exact leafR vw_eq (k := 300) (r := []) (hs := hz [(7, [.no]), (1, [.no]), (2, [.no]), (1, [.no]), (1, [.no]), (1, [.no]), (2, [.no]), (1, [.no]), (1, [.no]), (1, [.no]), (2, [.no]), (1, [.no]), (1, [.no]), (1, [.no]), (2, [.no]), (1, [.no]), (1, [.no]), (1, [.no]), (2, [.no]), (1, [.no]), (2, [.no]), (1, [.no]), (1, [.no]), (1, [.no]), (2, [.no]), (1, [.no]), (1, [.no, .no]), (6, [.head (vCheck_L0_S s s7)]), (1, [.yes]), (1, [.yes, .yes, .cells ((Ex.cells (exAt s.list s7.2.toNat)))]), (3, [.fc]), (1, [.fc]), (1, [.fres (.b (s10))]), (2, [.no]), (1, [.no]), (2, [.no]), (1, [.no]), (1, [.no]), (1, [.no]), (2, [.no]), (1, [.no]), (1, [.no]), (1, [.no]), (1, [.no]), (1, [.no]), (1, [.yes]), (1, [.yes]), (2, [.yes]), (1, [.yes]), (1, [.yes, .yes, .yes, .yes, .cells ((Ex.cells (exAt s.list (Int.toNat (wr (s7.2 - (1 : Int))))))), .yes]), (1, [.fc, .yes]), (1, [.fres (.b (s16)), .no, .yes, .no, .yes, .no]), (12, [.head (vCheck_L3_S s s7 s10 s16 s18)]), (3, [.yes]), (2, [.yes]), (1, [.fres (.b (s20)), .yes]), (1, [])]) (raw := (AV.b false)) kq (ac h0 (ac h0 (ac h0 (ac h0 (ac h1 (ac h1 (ac h1 (ac h1 (ac h2 (ac h2 (ac h2 (ac h2 (ac h3 (ac h3 (ac h3 (ac h3 (ac h4 (ac h4 (ac h4 (ac h4 (ac h4 (ac h4 (ac h5 (ac h5 (ac h5 (ac h5 (ac h5 (ac h6 (ac (show EvHead Try.prog cf (lp Try.prog 19 0) (vCheck_L0_I s) (vCheck_L0_S s s7) from (EvHead.of (vCheck_L0_ok s) (absB_of [] [] kq (.consn kq (.agp pq) (.consn kq (.pt rfl) (.consn kq (.eqv tq rfl) (.consn kq (.eqv tq rfl) (.consn kq (.eqv tq rfl) (.consn kq (.eqv tq rfl) (.consn kq (.eqv tq rfl) .nil))))))) (.cons (.old rfl rfl (.cells (.pl rfl pq))) .nil)) h7)) (ac h8 (ac h9 (ac (fq (p := ((5 : Nat) ≤ (List.length (List.drop (s7.2.toNat * 5) (s.list.flatMap Ex.cells)))))) (ac (show (List.take 5 (List.drop (s7.2.toNat * 5) (s.list.flatMap Ex.cells))) = (Ex.cells (exAt s.list s7.2.toNat)) from (ex_takeO bq bq)) (ac (eCheck_ok ((exAt s.list s7.2.toNat)) _ h10).any0 (ac h11 (ac h11 (ac h11 (ac h11 (ac h12 (ac h12 (ac h12 (ac h12 (ac h12 (ac h13 (ac h13 (ac h13 (ac h14 (ac h14 (ac h14 (ac h14 (ac h14 (ac h15 (ac h14 (ac (fq (p := ((5 : Nat) ≤ (List.length (List.drop ((Int.toNat (wr (s7.2 - (1 : Int)))) * 5) (s.list.flatMap Ex.cells)))))) (ac (show (List.take 5 (List.drop ((Int.toNat (wr (s7.2 - (1 : Int)))) * 5) (s.list.flatMap Ex.cells))) = (Ex.cells (exAt s.list (Int.toNat (wr (s7.2 - (1 : Int)))))) from (ex_takeO bq bq)) (ac h14 (ac h14 (ac (eJoins_ok ((exAt s.list (Int.toNat (wr (s7.2 - (1 : Int)))))) ((exAt s.list s7.2.toNat)) _ h16).any0 (ac h13 (ac h14 (ac h13 (ac (show orderOk (rg Try.prog 19 0) = true ∧ allOk (Region.before (rg Try.prog 19 0)) [] 0 [(some [1], some []), (some [], some []), (some [], some []), (some [], some []), (some [], some []), (some [1], some []), (some [], some []), (some [], some []), (some [], some []), (some [], some []), (some [1], some []), (some [], some []), (some [], some []), (some [], some []), (some [], some []), (some [], some []), (some [], some []), (some [], some []), (some [], some []), (some [0], some []), (some [], some []), (some [], some []), (some [], some []), (some [], some []), (some [1], some []), (some [], some []), (some [], some []), (some [], some [])] = true from (ord_of ord_19_0 bef_19_0 kq)) (ac h17 (ac (show EvHead Try.prog cf (lp Try.prog 19 1) (vCheck_L3_I s s7 s10 s16) (vCheck_L3_S s s7 s10 s16 s18) from (EvHead.of (vCheck_L3_ok s s7 s10 s16) (absB_of [] [] kq (.consn kq (.agp pq) (.consn kq (.pt rfl) (.consn kq (.eqv tq rfl) (.consn kq (.eqv tq rfl) (.consn kq (.eqv tq rfl) (.consn kq (.eqv tq rfl) (.consn kq (.eqv tq rfl) (.consn kq (.eqv tq rfl) (.consn kq (.pt rfl) (.consn kq (.eqv tq rfl) (.consn kq (.eqv tq rfl) (.consn (x := (bys (exAt s.list s7.2.toNat).d)) kq (.eqv tq rfl) .nil)))))))))))) (.cons (.old rfl rfl (.cells (.pl rfl pq))) (.cons (.old rfl rfl (.cells (.pl rfl pq))) .nil))) h18)) (ac h19 (ac (fq (p := (((0 : Nat) ≤ (32 : Nat)) ∧ (((32 : Nat) ≤ s18.length) ∧ ((List.length (List.map AV.y s18)) = (s18.length * 1)))))) (ac (show EvFr Try.prog cf false 40 [(AV.sl 32 (List.take 32 (List.map AV.y s18)))] (.b (s20)) from ((pIs_ok ((List.take 32 s18)) _ h20).any.cast tq)) (ac h21 an)))))))))))))))))))))))))))))))))))))))))))))))))))))))))))))))))))) tq) fun h21 => tn_ok) fun h19 h19p => tn_ok) fun h14 h14p => th_ok fun s15 h15 => tbD (fun h16 h16p => tc_ok fun s17 h17 => tb_ok (fun h18 => by intro e; injection e with e; subst e; exact leafR vw_eq (k := 300) (r := []) (hs := hz [(7, [.no]), (1, [.no]), (2, [.no]), (1, [.no]), (1, [.no]), (1, [.no]), (2, [.no]), (1, [.no]), (1, [.no]), (1, [.no]), (2, [.no]), (1, [.no]), (1, [.no]), (1, [.no]), (2, [.no]), (1, [.no]), (1, [.no]), (1, [.no]), (2, [.no]), (1, [.no]), (2, [.no]), (1, [.no]), (1, [.no]), (1, [.no]), (2, [.no]), (1, [.no]), (1, [.no, .no]), (6, [.head (vCheck_L0_S s s7)]), (1, [.yes]), (1, [.yes, .yes, .cells ((Ex.cells (exAt s.list s7.2.toNat)))]), (3, [.fc]), (1, [.fc]), (1, [.fres (.b (s10))]), (2, [.no]), (1, [.no]), (2, [.no]), (1, [.no]), (1, [.no]), (1, [.no]), (2, [.no]), (1, [.no]), (1, [.no]), (1, [.no]), (1, [.no]), (1, [.no]), (1, [.no, .no, .no, .no, .no, .no, .no, .no, .no, .no, .no, .yes]), (13, [.head (vCheck_L4_S s s7 s10 s15)]), (3, [.yes]), (2, [.yes]), (1, [.fres (.b (s17)), .yes]), (1, [])]) (raw := (AV.b false)) kq (ac h0 (ac h0 (ac h0 (ac h0 (ac h1 (ac h1 (ac h1 (ac h1 (ac h2 (ac h2 (ac h2 (ac h2 (ac h3 (ac h3 (ac h3 (ac h3 (ac h4 (ac h4 (ac h4 (ac h4 (ac h4 (ac h4 (ac h5 (ac h5 (ac h5 (ac h5 (ac h5 (ac h6 (ac (show EvHead Try.prog cf (lp Try.prog 19 0) (vCheck_L0_I s) (vCheck_L0_S s s7) from (EvHead.of (vCheck_L0_ok s) (absB_of [] [] kq (.consn kq (.agp pq) (.consn kq (.pt rfl) (.consn kq (.eqv tq rfl) (.consn kq (.eqv tq rfl) (.consn kq (.eqv tq rfl) (.consn kq (.eqv tq rfl) (.consn kq (.eqv tq rfl) .nil))))))) (.cons (.old rfl rfl (.cells (.pl rfl pq))) .nil)) h7)) (ac h8 (ac h9 (ac (fq (p := ((5 : Nat) ≤ (List.length (List.drop (s7.2.toNat * 5) (s.list.flatMap Ex.cells)))))) (ac (show (List.take 5 (List.drop (s7.2.toNat * 5) (s.list.flatMap Ex.cells))) = (Ex.cells (exAt s.list s7.2.toNat)) from (ex_takeO bq bq)) (ac (eCheck_ok ((exAt s.list s7.2.toNat)) _ h10).any0 (ac h11 (ac h11 (ac h11 (ac h11 (ac h12 (ac h12 (ac h12 (ac h12 (ac h12 (ac h13 (ac h13 (ac h13 (ac h14 (ac h14 (ac h14 (ac h14 (ac h14 (ac h14 (ac h14 (ac h14 (ac h13 (ac h14 (ac h13 (ac (show orderOk (rg Try.prog 19 0) = true ∧ allOk (Region.before (rg Try.prog 19 0)) [] 0 [(some [1], some []), (some [], some []), (some [], some []), (some [], some []), (some [], some []), (some [1], some []), (some [], some []), (some [], some []), (some [], some []), (some [], some []), (some [1], some []), (some [], some []), (some [], some []), (some [], some []), (some [], some []), (some [], some []), (some [], some []), (some [], some []), (some [], some []), (some [], some []), (some [], some []), (some [], some []), (some [], some []), (some [], some []), (some [], some []), (some [], some []), (some [], some []), (some [], some [])] = true from (ord_of ord_19_0 bef_19_0 kq)) (ac (show EvHead Try.prog cf (lp Try.prog 19 1) (vCheck_L4_I s s7 s10) (vCheck_L4_S s s7 s10 s15) from (EvHead.of (vCheck_L4_ok s s7 s10) (absB_of [] [] kq (.consn kq (.agp pq) (.consn kq (.pt rfl) (.consn kq (.eqv tq rfl) (.consn kq (.eqv tq rfl) (.consn kq (.eqv tq rfl) (.consn kq (.eqv tq rfl) (.consn kq (.eqv tq rfl) (.consn kq (.eqv tq rfl) (.consn kq (.pt rfl) (.consn kq (.eqv tq rfl) (.consn kq (.eqv tq rfl) (.consn (x := (bys (exAt s.list s7.2.toNat).d)) kq (.eqv tq rfl) .nil)))))))))))) (.cons (.old rfl rfl (.cells (.pl rfl pq))) (.cons (.old rfl rfl (.cells (.pl rfl pq))) .nil))) h15)) (ac h16 (ac (fq (p := (((0 : Nat) ≤ (32 : Nat)) ∧ (((32 : Nat) ≤ s15.length) ∧ ((List.length (List.map AV.y s15)) = (s15.length * 1)))))) (ac (show EvFr Try.prog cf false 40 [(AV.sl 32 (List.take 32 (List.map AV.y s15)))] (.b (s17)) from ((pIs_ok ((List.take 32 s15)) _ h17).any.cast tq)) (ac h18 an))))))))))))))))))))))))))))))))))))))))))))))))))))))))))))))) tq) fun h18 => tn_ok) fun h16 h16p => tn_ok) fun h8 h8p => by intro e; injection e with e; subst e; exact leafR vw_eq (k := 300) (r := []) (hs := hz [(7, [.no]), (1, [.no]), (2, [.no]), (1, [.no]), (1, [.no]), (1, [.no]), (2, [.no]), (1, [.no]), (1, [.no]), (1, [.no]), (2, [.no]), (1, [.no]), (1, [.no]), (1, [.no]), (2, [.no]), (1, [.no]), (1, [.no]), (1, [.no]), (2, [.no]), (1, [.no]), (2, [.no]), (1, [.no]), (1, [.no]), (1, [.no]), (2, [.no]), (1, [.no]), (1, [.no, .no]), (6, [.head (vCheck_L0_S s s7)]), (1, [.no]), (6, [])]) (raw := (AV.b (decide (s7.1 ≤ s.blocks)))) kq (ac h0 (ac h0 (ac h0 (ac h0 (ac h1 (ac h1 (ac h1 (ac h1 (ac h2 (ac h2 (ac h2 (ac h2 (ac h3 (ac h3 (ac h3 (ac h3 (ac h4 (ac h4 (ac h4 (ac h4 (ac h4 (ac h4 (ac h5 (ac h5 (ac h5 (ac h5 (ac h5 (ac h6 (ac (show EvHead Try.prog cf (lp Try.prog 19 0) (vCheck_L0_I s) (vCheck_L0_S s s7) from (EvHead.of (vCheck_L0_ok s) (absB_of [] [] kq (.consn kq (.agp pq) (.consn kq (.pt rfl) (.consn kq (.eqv tq rfl) (.consn kq (.eqv tq rfl) (.consn kq (.eqv tq rfl) (.consn kq (.eqv tq rfl) (.consn kq (.eqv tq rfl) .nil))))))) (.cons (.old rfl rfl (.cells (.pl rfl pq))) .nil)) h7)) (ac h8 an)))))))))))))))))))))))))))))) tq
end Ab
end Go.Proofs.Ytpflcogplhigcaa
namespace Go.Proofs.Ytpflcogplhigcaa
open Go Go.Proofs.Ytpflcogplhigcaa.Ab
set_option linter.unusedVariables false
set_option linter.unusedSimpArgs false
namespace Ab
def eAt (l : List Ex) (i : Nat) : Int := if i = 0 then 0 else (exAt l (i - 1)).lba + (exAt l (i - 1)).len
theorem eAt_succ (l : List Ex) (i : Nat) : eAt l (i + 1) = (exAt l i).lba + (exAt l i).len := by simp [eAt]
theorem eAt_en : ∀ (l : List Ex) (s : Int), (if l.length = 0 then s else (exAt l (l.length - 1)).lba + (exAt l (l.length - 1)).len) = en s l
  | [], s => rfl
  | [x], s => rfl
  | x :: y :: l, s => by
    have := eAt_en (y :: l) (x.lba + x.len)
    rw [if_neg (by simp)] at this ⊢
    show _ = en (x.lba + x.len) (y :: l)
    rw [← this]
    rfl
theorem walk_gd {α : Type} {x : Ex} (h : Ck x) (hg : Gd x) (step : List UInt8 → Option (List UInt8)) (f : List UInt8 → Option α)
    (hs : ∀ d : List UInt8, d.length ≤ 100000 → step d = if 32 ≤ d.length then (if isz (d.take 32) = true then none else some (d.drop 32)) else none) :
    th step x.d f = f (x.d.drop (32 * (x.d.length / 32))) := by
  have hl := ck_dlen h
  have := th_run (step := step) (f := f) (fun i => x.d.drop (32 * i)) (x.d.length / 32) (fun i hi => by
    rw [hs _ (by rw [List.length_drop]; omega), if_pos (by rw [List.length_drop]; omega), gd_is h hg (by omega), if_neg (by simp), List.drop_drop]
    congr 2) (by
    rw [hs _ (by rw [List.length_drop]; omega), if_neg (by rw [List.length_drop]; omega)])
  simpa using this
theorem v_tail (d : List UInt8) (h : 32 ≤ d.length) : List.take ((d.length - 32) * 1) (List.drop 32 d) = d.drop 32 := List.take_of_length_le (by rw [List.length_drop]; omega)
theorem vCheck_ok' {s : Sm} (h1 : 1 ≤ s.blocks ∧ s.blocks ≤ 64) (h2 : 1 ≤ s.target ∧ s.target ≤ 2147483647) (h3 : 0 ≤ s.parent ∧ s.parent < s.target) (h4 : s.list.length ≤ 64) (h5 : So 0 s.list) (h6 : NJ s.list) (h7 : ∀ x ∈ s.list, Gd x ∧ x.gen = 0) (h8 : en 0 s.list ≤ s.blocks) : vCheck s = some true := by
  unfold vCheck
  simp only [tb_dec]
  rw [if_neg (by omega), if_neg (by omega), if_neg (by omega), if_neg (by omega), if_neg (by omega), if_neg (by omega), if_neg (by omega)]
  have hls := so_ls s.list 0 h5
  have hgd := (exAt_all s.list (fun x => Gd x ∧ x.gen = 0)).2 h7
  have h0 : ((0 : Int), (0 : Int)) = (eAt s.list 0, ((0 : Nat) : Int)) := by simp [eAt]
  rw [h0, th_run (step := vCheck_L0_step s) (fun i => (eAt s.list i, (i : Int))) s.list.length]
  · rw [if_neg (by omega)]
    have := eAt_en s.list 0
    unfold eAt
    rw [this, decide_eq_true h8]
  · intro i hi
    obtain ⟨hck, hle⟩ := hls i hi
    have px := ck_pos hck
    have hl := ck_dlen hck
    obtain ⟨g1, g2⟩ := hgd i hi
    have hle' : eAt s.list i ≤ (exAt s.list i).lba := hle
    unfold vCheck_L0_step
    simp only [tb_dec, tb_not, tb_bne, Int.toNat_natCast, eCheck_eq, tc_some]
    rw [if_pos (by omega), tp_pos (by omega), ck_t hck, tb_t, if_pos g2, if_neg (by omega), eAt_succ, wr_id (x := (exAt s.list i).lba + (exAt s.list i).len) (by omega) (by omega), wr_id (x := (i : Int) + 1) (by omega) (by omega)]
    have e1 : ((i + 1 : Nat) : Int) = (i : Int) + 1 := by omega
    rw [e1]
    have hlen : (x : List UInt8) → x = (exAt s.list i).d.drop (32 * ((exAt s.list i).d.length / 32)) → ¬ ((x.length : Int) ≥ 32) := by
      rintro x rfl
      rw [List.length_drop]; omega
    by_cases hp : (i : Int) > 0
    · rw [if_pos hp, wr_id (x := (i : Int) - 1) (by omega) (by omega), tp_pos (by omega), show ((i : Int) - 1).toNat = i - 1 by omega, eJoins_eq, tc_some]
      have hnj := nj_at s.list h6 (i - 1) (by omega)
      rw [show i - 1 + 1 = i by omega] at hnj
      rw [jn_f hnj, tb_f]
      refine (walk_gd hck g1 _ _ fun d hd => ?_).trans ?_
      · unfold vCheck_L1_step
        simp only [tb_dec]
        by_cases g : 32 ≤ d.length
        · rw [if_pos (by omega), if_pos g, pIs_eq _ (by rw [List.length_take]; omega), tc_some, tb_ite, v_tail d g]
        · rw [if_neg (by omega), if_neg g]
      · rw [if_neg (hlen _ rfl)]
    · rw [if_neg hp]
      refine (walk_gd hck g1 _ _ fun d hd => ?_).trans ?_
      · unfold vCheck_L2_step
        simp only [tb_dec]
        by_cases g : 32 ≤ d.length
        · rw [if_pos (by omega), if_pos g, pIs_eq _ (by rw [List.length_take]; omega), tc_some, tb_ite, v_tail d g]
        · rw [if_neg (by omega), if_neg g]
      · rw [if_neg (hlen _ rfl)]
  · unfold vCheck_L0_step
    simp only [tb_dec]
    rw [if_neg (by omega)]
end Ab
end Go.Proofs.Ytpflcogplhigcaa
namespace Go.Proofs.Ytpflcogplhigcaa
open Go Go.Proofs.Ytpflcogplhigcaa.Ab
set_option linter.unusedVariables false
set_option linter.unusedSimpArgs false
namespace Ab
def part (d : List UInt8) (k : Nat) : List UInt8 := (pad 32 d).take k ++ List.replicate (32 - k) 0
end Ab
end Go.Proofs.Ytpflcogplhigcaa
namespace Go.Proofs.Ytpflcogplhigcaa
open Go Go.Proofs.Ytpflcogplhigcaa.Ab
set_option linter.unusedVariables false
set_option linter.unusedSimpArgs false
namespace Ab
def c0 : Ce := ⟨0, 0, List.replicate 32 0⟩
end Ab
end Go.Proofs.Ytpflcogplhigcaa
namespace Go.Proofs.Ytpflcogplhigcaa
open Go Go.Proofs.Ytpflcogplhigcaa.Ab
set_option linter.unusedVariables false
set_option linter.unusedSimpArgs false
namespace Ab
def Ag (x y : Ex) : Prop := ∀ k, x.lba ≤ k → k < x.lba + x.len → y.lba ≤ k → k < y.lba + y.len → bAt x k = bAt y k
def Kp (was l : List Ex) (gen : Int) : Prop := ∀ x ∈ l, x.gen ≤ gen → ∀ y ∈ was, Ag x y
open Classical in
noncomputable def kp (was l : List Ex) (gen : Int) : Bool := decide (Kp was l gen)
open Classical in
theorem kp_t {was l : List Ex} {gen : Int} (h : Kp was l gen) : kp was l gen = true := by unfold kp; exact decide_eq_true h
open Classical in
theorem kp_f {was l : List Ex} {gen : Int} (h : ¬ Kp was l gen) : kp was l gen = false := by unfold kp; exact decide_eq_false h
theorem cu_in {x y : Ex} (hx : Ck x) (h : Cu y x.lba x.len) : Cu x (cu y x.lba x.len).lba (cu y x.lba x.len).len := by
  have px := ck_pos hx
  have py := ck_pos h.1
  have h6 := h.2.2.2.2.2
  refine ⟨hx, ?_, ?_, ?_, ?_, ?_⟩ <;> simp only [cu] <;> omega
theorem ag_iff {x y : Ex} (hx : Ck x) (h : Cu y x.lba x.len) : ((cu x (cu y x.lba x.len).lba (cu y x.lba x.len).len).kind = (cu y x.lba x.len).kind ∧ (cu x (cu y x.lba x.len).lba (cu y x.lba x.len).len).gen = (cu y x.lba x.len).gen ∧ (cu x (cu y x.lba x.len).lba (cu y x.lba x.len).len).d = (cu y x.lba x.len).d) ↔ Ag x y := by
  have hw := cu_in hx h
  have px := ck_pos hx
  have py := ck_pos h.1
  have h6 := h.2.2.2.2.2
  have zl : (cu y x.lba x.len).lba = max y.lba x.lba := rfl
  have zn : (cu y x.lba x.len).len = min (y.lba + y.len) (x.lba + x.len) - max y.lba x.lba := rfl
  have cz := cu_ck h
  have bz : ∀ k, max y.lba x.lba ≤ k → k < min (y.lba + y.len) (x.lba + x.len) → bAt (cu y x.lba x.len) k = bAt y k := fun k a b => bAt_cu h.1 a b
  generalize cu y x.lba x.len = z at hw zl zn cz bz ⊢
  have wl : (cu x z.lba z.len).lba = max x.lba z.lba := rfl
  have wn : (cu x z.lba z.len).len = min (x.lba + x.len) (z.lba + z.len) - max x.lba z.lba := rfl
  have cw := cu_ck hw
  have bw : ∀ k, max x.lba z.lba ≤ k → k < min (x.lba + x.len) (z.lba + z.len) → bAt (cu x z.lba z.len) k = bAt x k := fun k a b => bAt_cu hx a b
  generalize cu x z.lba z.len = w at wl wn cw bw ⊢
  constructor
  · rintro ⟨e1, e2, e3⟩ k a b c d
    have e : w = z := by
      obtain ⟨w1, w2, w3, w4, w5⟩ := w
      obtain ⟨z1, z2, z3, z4, z5⟩ := z
      simp only at e1 e2 e3 wl wn zl zn
      subst e1; subst e2; subst e3
      congr 1 <;> omega
    rw [← bw k (by omega) (by omega), ← bz k (by omega) (by omega), e]
  · intro g
    have e : w = z := by
      refine d_ext cw cz (by omega) (by omega) fun k a b => ?_
      rw [bw k (by omega) (by omega), bz k (by omega) (by omega)]
      exact g k (by omega) (by omega) (by omega) (by omega)
    rw [e]; exact ⟨rfl, rfl, rfl⟩
theorem ag_no {x y : Ex} (hx : Ck x) (hy : Ck y) (h : ¬ Cu y x.lba x.len) : Ag x y := by
  intro k a b c d
  have px := ck_pos hx
  have py := ck_pos hy
  exact absurd ⟨hy, by omega, by omega, by omega, by omega, by omega⟩ h
open Classical in
theorem kept_key {α : Type} {x y : Ex} (hx : Ck x) (hy : Ck y) (F N G : Option α) :
    tc (eCut y x.lba x.len) (fun s7 => tb (!s7.2) N (tc (eCut x s7.1.lba s7.1.len) fun s9 => tb (s9.1.kind != s7.1.kind) F (tb (s9.1.gen != s7.1.gen) F (tb (!(s9.1.d == s7.1.d)) F G))))
      = if Ag x y then (if Cu y x.lba x.len then G else N) else F := by
  rw [eCut_eq, tc_some]
  by_cases h : Cu y x.lba x.len
  case neg =>
    rw [cutv_neg h, if_pos (ag_no hx hy h), if_neg h]
    simp only [Bool.not_false, tb_t]
  rw [cutv_pos h]
  simp only [Bool.not_true, tb_f]
  rw [eCut_eq, tc_some, cutv_pos (cu_in hx h), if_pos h]
  simp only [tb_bne, tb_not]
  have hi := ag_iff hx h
  by_cases g : Ag x y
  · obtain ⟨e1, e2, e3⟩ := hi.2 g
    rw [if_pos e1, if_pos e2, e3, if_pos g]; simp [tb_t]
  · rw [if_neg g]
    by_cases e1 : (cu x (cu y x.lba x.len).lba (cu y x.lba x.len).len).kind = (cu y x.lba x.len).kind
    case neg => rw [if_neg e1]
    rw [if_pos e1]
    by_cases e2 : (cu x (cu y x.lba x.len).lba (cu y x.lba x.len).len).gen = (cu y x.lba x.len).gen
    case neg => rw [if_neg e2]
    rw [if_pos e2]
    by_cases e3 : (cu x (cu y x.lba x.len).lba (cu y x.lba x.len).len).d = (cu y x.lba x.len).d
    · exact absurd (hi.1 ⟨e1, e2, e3⟩) g
    · rw [tb_neg (by simpa using e3)]
open Classical in
theorem sKept_eq (was l : List Ex) (gen : Int) (hw : ∀ x ∈ was, Ck x) (hl : ∀ x ∈ l, Ck x) (nw : was.length ≤ 9223372036854775807) (nl : l.length ≤ 9223372036854775807) : sKept was l gen = some (kp was l gen) := by
  have hw' := (exAt_all was Ck).2 hw
  have hl' := (exAt_all l Ck).2 hl
  unfold sKept
  rw [th_all (some false) (some true) l.length (fun i => (exAt l i).gen ≤ gen → ∀ y ∈ was, Ag (exAt l i) y) (Kp was l gen) (exAt_all l fun x => x.gen ≤ gen → ∀ y ∈ was, Ag x y)]
  · by_cases h : Kp was l gen
    · rw [if_pos h, kp_t h]
    · rw [if_neg h, kp_f h]
  · intro i hi hp
    unfold sKept_L0_step
    simp only [tb_dec, Int.toNat_natCast]
    rw [if_pos (by omega), tp_pos (by omega), wr_id (x := (i : Int) + 1) (by omega) (by omega)]
    by_cases hg : (exAt l i).gen > gen
    · rw [if_pos hg]
    rw [if_neg hg]
    rw [th_all none (some ((i : Int) + 1)) was.length (fun j => Ag (exAt l i) (exAt was j)) (∀ y ∈ was, Ag (exAt l i) y) (exAt_all was fun y => Ag (exAt l i) y)]
    · rw [if_pos (hp (by omega))]
    · intro j hj hq
      unfold sKept_L1_step
      simp only [tb_dec, Int.toNat_natCast]
      rw [if_pos (by omega), tp_pos (by omega), wr_id (x := (j : Int) + 1) (by omega) (by omega), kept_key (hl' i hi) (hw' j hj), if_pos hq]
      split <;> rfl
    · intro j hj hq
      unfold sKept_L1_step
      simp only [tb_dec, Int.toNat_natCast]
      rw [if_pos (by omega), tp_pos (by omega), wr_id (x := (j : Int) + 1) (by omega) (by omega), kept_key (hl' i hi) (hw' j hj), if_neg hq, if_pos (by omega)]
      exact ⟨rfl, rfl⟩
    · unfold sKept_L1_step
      simp only [tb_dec]
      rw [if_neg (by omega), if_neg (by omega)]
      exact ⟨rfl, rfl⟩
  · intro i hi hp
    have hg : ¬ (exAt l i).gen > gen := fun g => hp fun g2 => by omega
    have hn : ¬ ∀ y ∈ was, Ag (exAt l i) y := fun g => hp fun _ => g
    constructor
    · unfold sKept_L0_step
      simp only [tb_dec, Int.toNat_natCast]
      rw [if_pos (by omega), tp_pos (by omega), if_neg hg]
      rw [th_all none (some (wr ((i : Int) + 1))) was.length (fun j => Ag (exAt l i) (exAt was j)) (∀ y ∈ was, Ag (exAt l i) y) (exAt_all was fun y => Ag (exAt l i) y)]
      · rw [if_neg hn]
      · intro j hj hq
        unfold sKept_L1_step
        simp only [tb_dec, Int.toNat_natCast]
        rw [if_pos (by omega), tp_pos (by omega), wr_id (x := (j : Int) + 1) (by omega) (by omega), kept_key (hl' i hi) (hw' j hj), if_pos hq]
        split <;> rfl
      · intro j hj hq
        unfold sKept_L1_step
        simp only [tb_dec, Int.toNat_natCast]
        rw [if_pos (by omega), tp_pos (by omega), wr_id (x := (j : Int) + 1) (by omega) (by omega), kept_key (hl' i hi) (hw' j hj), if_neg hq, if_pos (by omega)]
        exact ⟨rfl, rfl⟩
      · unfold sKept_L1_step
        simp only [tb_dec]
        rw [if_neg (by omega), if_neg (by omega)]
        exact ⟨rfl, rfl⟩
    · simp only [tb_dec, Int.toNat_natCast]
      rw [if_pos (by omega), tp_pos (by omega), if_neg hg]
      rw [th_all (some false) none was.length (fun j => Ag (exAt l i) (exAt was j)) (∀ y ∈ was, Ag (exAt l i) y) (exAt_all was fun y => Ag (exAt l i) y)]
      · rw [if_neg hn]
      · intro j hj hq
        unfold sKept_L2_step
        simp only [tb_dec, Int.toNat_natCast]
        rw [if_pos (by omega), tp_pos (by omega), wr_id (x := (j : Int) + 1) (by omega) (by omega), kept_key (hl' i hi) (hw' j hj), if_pos hq]
        split <;> rfl
      · intro j hj hq
        constructor
        · unfold sKept_L2_step
          simp only [tb_dec, Int.toNat_natCast]
          rw [if_pos (by omega), tp_pos (by omega), wr_id (x := (j : Int) + 1) (by omega) (by omega), kept_key (hl' i hi) (hw' j hj), if_neg hq]
        · simp only [Int.toNat_natCast]
          rw [if_pos (by omega), tp_pos (by omega), kept_key (hl' i hi) (hw' j hj), if_neg hq]
      · unfold sKept_L2_step
        simp only [tb_dec]
        rw [if_neg (by omega), if_neg (by omega)]
        exact ⟨rfl, rfl⟩
  · unfold sKept_L0_step
    simp only [tb_dec]
    rw [if_neg (by omega), if_neg (by omega)]
    exact ⟨rfl, rfl⟩
end Ab
end Go.Proofs.Ytpflcogplhigcaa
namespace Go.Proofs.Ytpflcogplhigcaa
open Go Go.Proofs.Ytpflcogplhigcaa.Ab
set_option linter.unusedVariables false
set_option linter.unusedSimpArgs false
namespace Ab
def Up (blocks : Int) (l : List Ex) (gen : Int) : Prop := Mk blocks l ∧ ∀ x ∈ l, x.gen ≤ gen
instance (blocks : Int) (l : List Ex) (gen : Int) : Decidable (Up blocks l gen) := by unfold Up; infer_instance
theorem sUpto_eq (blocks : Int) (l : List Ex) (gen : Int) (nl : l.length ≤ 9223372036854775807) : sUpto blocks l gen = some (decide (Up blocks l gen)) := by
  unfold sUpto
  rw [mCheck_eq blocks l nl, tc_some]
  by_cases hm : Mk blocks l
  case neg => rw [mk_f hm, tb_f, decide_eq_false fun h => hm h.1]
  rw [mk_t hm, tb_t]
  rw [th_all (some false) (some true) l.length (fun i => (exAt l i).gen ≤ gen) (∀ x ∈ l, x.gen ≤ gen) (exAt_all l fun x => x.gen ≤ gen)]
  · by_cases h : ∀ x ∈ l, x.gen ≤ gen
    · have u : Up blocks l gen := ⟨hm, h⟩
      rw [if_pos h, decide_eq_true u]
    · rw [if_neg h, decide_eq_false fun g : Up blocks l gen => h g.2]
  · intro i hi hp
    unfold sUpto_L0_step
    simp only [tb_dec, Int.toNat_natCast]
    rw [if_pos (by omega), tp_pos (by omega), if_neg (by omega), wr_id (by omega) (by omega)]
  · intro i hi hp
    unfold sUpto_L0_step
    simp only [tb_dec, Int.toNat_natCast]
    rw [if_pos (by omega), tp_pos (by omega), if_pos (by omega), if_pos (by omega), tp_pos (by omega), if_pos (by omega)]
    exact ⟨rfl, by rw [decide_eq_true (show (i : Int) ≥ 0 by omega)]; rfl⟩
  · unfold sUpto_L0_step
    simp only [tb_dec]
    rw [if_neg (by omega), if_neg (by omega)]
    exact ⟨rfl, rfl⟩
theorem sWithin_eq (n low high : Int) : sWithin n low high = some (decide (low ≤ n ∧ n ≤ high)) := by
  unfold sWithin
  rw [tb_dec]
  by_cases h : n ≥ low
  · rw [if_pos h]; congr 1; rw [Bool.eq_iff_iff, decide_eq_true_iff, decide_eq_true_iff]; exact ⟨fun g => ⟨h, g⟩, fun g => g.2⟩
  · rw [if_neg h, decide_eq_false fun g => h g.1]
theorem poAt_all (l : List Po) (p : Po → Prop) : (∀ i, i < l.length → p (poAt l i)) ↔ ∀ x ∈ l, p x := by
  unfold poAt; exact getD_all _ l p
def Sx (l : List Ex) : Prop := l.length ≤ 1000 ∧ ∀ x ∈ l, x.d.length ≤ 1000000
def Sz (s : Sa) : Prop := Sx s.map ∧ s.points.length ≤ 1000 ∧ (∀ p ∈ s.points, Sx p.map) ∧ s.staged.length ≤ 1000000
def pv (s : Sa) (i : Nat) : Po := if i = 0 then ⟨0, 0, []⟩ else poAt s.points (i - 1)
theorem pv_succ (s : Sa) (i : Nat) : pv s (i + 1) = poAt s.points i := by simp [pv]
def PP (s : Sa) (i : Nat) : Prop :=
  Up s.blocks (poAt s.points i).map (poAt s.points i).gen ∧ (pv s i).id < (poAt s.points i).id ∧ (poAt s.points i).id ≤ s.last ∧ (pv s i).gen < (poAt s.points i).gen ∧ (poAt s.points i).gen < s.gen ∧ Kp (pv s i).map (poAt s.points i).map (pv s i).gen
def SOk (s : Sa) : Prop :=
  Up s.blocks s.map s.gen ∧ 1 ≤ s.gen ∧ s.gen ≤ 2147483647 ∧ s.points.length ≤ 4 ∧ 0 ≤ s.last ∧ s.last ≤ 2147483647 ∧ s.staged.length ≤ 4000 ∧ (∀ i, i < s.points.length → PP s i) ∧ Kp (pv s s.points.length).map s.map (pv s s.points.length).gen
open Classical in
noncomputable def st (s : Sa) : Int := if SOk s then 0 else 110
theorem st_t {s : Sa} (h : SOk s) : st s = 0 := by unfold st; rw [if_pos h]
theorem st_f {s : Sa} (h : ¬ SOk s) : st s = 110 := by unfold st; rw [if_neg h]
theorem up_ck {blocks : Int} {l : List Ex} {gen : Int} (h : Up blocks l gen) : ∀ x ∈ l, Ck x := fun x hx => (ch_ck (mk_ch h.1) x hx).1
theorem pv_ck {s : Sa} {i : Nat} (hp : ∀ j, j < i → PP s j) : ∀ x ∈ (pv s i).map, Ck x := by
  unfold pv
  split
  · intro x hx; cases hx
  · exact up_ck (hp (i - 1) (by omega)).1
def PS (s : Sa) (i : Nat) : Int × Int × Int × List Ex := ((i : Int), (pv s i).id, (pv s i).gen, (pv s i).map)
theorem pts_run {α : Type} (s : Sa) {step : Int × Int × Int × List Ex → Option (Int × Int × Int × List Ex)} {f : Int × Int × Int × List Ex → Option α} (n : Nat) (hs : ∀ i, i < n → step (PS s i) = some (PS s (i + 1))) (he : step (PS s n) = none) : th step (0, (0, (0, ([] : List Ex)))) f = f (PS s n) := by
  have := th_run (step := step) (f := f) (PS s) n hs he
  rwa [show PS s 0 = (0, 0, 0, []) from rfl] at this
theorem ps_end (s : Sa) {α : Type} (x y : Option α) : tb (decide ((PS s s.points.length).1 < (s.points.length : Int))) x y = y := tb_neg (decide_eq_false (by show ¬ ((s.points.length : Int) < s.points.length); omega))
open Classical in
noncomputable def MS (s : Sa) (i : Nat) : Bool × Int × Int × Int × List Ex := (decide (s.staged.length ≤ 4000 ∧ ∀ j, j < i → PP s j), PS s i)
def Bg (s : Sa) : Prop := s.map.length ≤ 9223372036854775807 ∧ s.points.length ≤ 9223372036854775807 ∧ ∀ p ∈ s.points, p.map.length ≤ 9223372036854775807
theorem sz_bg {s : Sa} (h : Sz s) : Bg s := ⟨by have := h.1.1; omega, by have := h.2.1; omega, fun p hp => by have := (h.2.2.1 p hp).1; omega⟩
theorem pv_bg {s : Sa} (h : Bg s) (i : Nat) (hi : i ≤ s.points.length) : (pv s i).map.length ≤ 9223372036854775807 := by
  unfold pv
  split
  · simp
  · exact (poAt_all s.points (fun p => p.map.length ≤ 9223372036854775807)).2 h.2.2 _ (by omega)
open Classical in
theorem sCheck_step {s : Sa} (h : Bg s) (a b c : Bool) {i : Nat} (hi : i < s.points.length) : sCheck_L0_step s a b c (MS s i) = some (MS s (i + 1)) := by
  have hz := h.2.1
  unfold MS PS sCheck_L0_step
  simp only [tb_dec, Int.toNat_natCast, pv_succ]
  rw [if_pos (by omega), tp_pos (by omega), wr_id (x := (i : Int) + 1) (by omega) (by omega)]
  have e1 : ((i + 1 : Nat) : Int) = (i : Int) + 1 := by omega
  rw [e1]
  have sx := (poAt_all s.points (fun p => p.map.length ≤ 9223372036854775807)).2 h.2.2 i hi
  have px := pv_bg h i (by omega)
  have hM : ∀ p : Prop, [Decidable p] → ((s.staged.length ≤ 4000 ∧ ∀ j, j < i + 1 → PP s j) ↔ p) → decide (s.staged.length ≤ 4000 ∧ ∀ j, j < i + 1 → PP s j) = decide p := fun p _ g => by
    rw [Bool.eq_iff_iff, decide_eq_true_iff, decide_eq_true_iff]; exact g
  have no : ¬ PP s i → decide (s.staged.length ≤ 4000 ∧ ∀ j, j < i + 1 → PP s j) = false := fun g => decide_eq_false fun q => g (q.2 i (by omega))
  by_cases hm : s.staged.length ≤ 4000 ∧ ∀ j, j < i → PP s j
  case neg =>
    rw [if_neg hm, decide_eq_false fun q => hm ⟨q.1, fun j hj => q.2 j (by omega)⟩]
  rw [if_pos hm, sUpto_eq _ _ _ sx, tc_some, tb_dec]
  by_cases h1 : Up s.blocks (poAt s.points i).map (poAt s.points i).gen
  case neg => rw [if_neg h1, no fun q => h1 q.1]
  rw [if_pos h1]
  by_cases h2 : (poAt s.points i).id > (pv s i).id
  case neg => rw [if_neg h2, no fun q => h2 q.2.1]
  rw [if_pos h2]
  by_cases h3 : (poAt s.points i).id ≤ s.last
  case neg => rw [if_neg h3, no fun q => h3 q.2.2.1]
  rw [if_pos h3]
  by_cases h4 : (poAt s.points i).gen > (pv s i).gen
  case neg => rw [if_neg h4, no fun q => h4 q.2.2.2.1]
  rw [if_pos h4]
  by_cases h5 : (poAt s.points i).gen < s.gen
  case neg => rw [if_neg h5, no fun q => h5 q.2.2.2.2.1]
  rw [if_pos h5, sKept_eq _ _ _ (pv_ck hm.2) (up_ck h1) px sx, tc_some]
  by_cases h6 : Kp (pv s i).map (poAt s.points i).map (pv s i).gen
  · rw [kp_t h6, decide_eq_true]
    refine ⟨hm.1, fun j hj => ?_⟩
    by_cases g : j = i
    · subst g; exact ⟨h1, h2, h3, h4, h5, h6⟩
    · exact hm.2 j (by omega)
  · rw [kp_f h6, no fun q => h6 q.2.2.2.2.2]
open Classical in
theorem sCheck_eqB {s : Sa} (h : Bg s) : sCheck s = some (st s) := by
  have hz := h.2.1
  have hx := h.1
  have e1 : ∀ i : Nat, ((i + 1 : Nat) : Int) = (i : Int) + 1 := fun i => by omega
  unfold sCheck
  rw [sUpto_eq _ _ _ hx, tc_some, tb_dec]
  by_cases h1 : Up s.blocks s.map s.gen
  case neg =>
    rw [if_neg h1, st_f fun q => h1 q.1, pts_run s s.points.length]
    · exact ps_end s _ _
    · intro i hi
      unfold PS sCheck_L4_step
      simp only [tb_dec, Int.toNat_natCast, pv_succ]
      rw [if_pos (by omega), tp_pos (by omega), wr_id (x := (i : Int) + 1) (by omega) (by omega), e1]
    · unfold PS sCheck_L4_step
      simp only [tb_dec]
      rw [if_neg (by omega)]
  rw [if_pos h1, sWithin_eq, tc_some, tb_dec]
  by_cases h2 : 1 ≤ s.gen ∧ s.gen ≤ 2147483647
  case neg =>
    rw [if_neg h2, st_f fun q => h2 ⟨q.2.1, q.2.2.1⟩, pts_run s s.points.length]
    · exact ps_end s _ _
    · intro i hi
      unfold PS sCheck_L3_step
      simp only [tb_dec, Int.toNat_natCast, pv_succ]
      rw [if_pos (by omega), tp_pos (by omega), wr_id (x := (i : Int) + 1) (by omega) (by omega), e1]
    · unfold PS sCheck_L3_step
      simp only [tb_dec]
      rw [if_neg (by omega)]
  rw [if_pos h2, tb_dec]
  by_cases h3 : (s.points.length : Int) ≤ 4
  case neg =>
    rw [if_neg h3, st_f fun q => h3 (by have := q.2.2.2.1; omega), pts_run s s.points.length]
    · exact ps_end s _ _
    · intro i hi
      unfold PS sCheck_L2_step
      simp only [tb_dec, Int.toNat_natCast, pv_succ]
      rw [if_pos (by omega), tp_pos (by omega), wr_id (x := (i : Int) + 1) (by omega) (by omega), e1]
    · unfold PS sCheck_L2_step
      simp only [tb_dec]
      rw [if_neg (by omega)]
  rw [if_pos h3, sWithin_eq, tc_some, tb_dec]
  by_cases h4 : 0 ≤ s.last ∧ s.last ≤ 2147483647
  case neg =>
    rw [if_neg h4, st_f fun q => h4 ⟨q.2.2.2.2.1, q.2.2.2.2.2.1⟩, pts_run s s.points.length]
    · exact ps_end s _ _
    · intro i hi
      unfold PS sCheck_L1_step
      simp only [tb_dec, Int.toNat_natCast, pv_succ]
      rw [if_pos (by omega), tp_pos (by omega), wr_id (x := (i : Int) + 1) (by omega) (by omega), e1]
    · unfold PS sCheck_L1_step
      simp only [tb_dec]
      rw [if_neg (by omega)]
  rw [if_pos h4]
  have hr := th_run (step := sCheck_L0_step s (decide (Up s.blocks s.map s.gen)) (decide (1 ≤ s.gen ∧ s.gen ≤ 2147483647)) (decide (0 ≤ s.last ∧ s.last ≤ 2147483647))) (f := fun s7 =>
    tb (decide (s7.2.1 < (s.points.length : Int))) none (tb (!s7.1) (some (110 : Int)) (tc (sKept s7.2.2.2.2 s.map s7.2.2.2.1) fun s10 => tb (!s10) (some 110) (some 0)))) (MS s) s.points.length (fun i hi => sCheck_step h _ _ _ hi) (by
      unfold MS PS sCheck_L0_step
      simp only [tb_dec]
      rw [if_neg (by omega)])
  have e0 : MS s 0 = (decide ((s.staged.length : Int) ≤ 4000), 0, 0, 0, []) := by
    unfold MS PS
    congr 1
    rw [Bool.eq_iff_iff, decide_eq_true_iff, decide_eq_true_iff]
    exact ⟨fun q => by have := q.1; omega, fun q => ⟨by omega, fun j hj => by omega⟩⟩
  rw [e0] at hr
  rw [hr]
  unfold MS PS
  simp only [tb_dec, tb_not]
  rw [if_neg (by omega)]
  by_cases h5 : s.staged.length ≤ 4000 ∧ ∀ j, j < s.points.length → PP s j
  case neg => rw [if_neg h5, st_f fun q => h5 ⟨q.2.2.2.2.2.2.1, q.2.2.2.2.2.2.2.1⟩]
  rw [if_pos h5, sKept_eq _ _ _ (pv_ck h5.2) (up_ck h1) (pv_bg h _ (Nat.le_refl _)) hx, tc_some]
  by_cases h6 : Kp (pv s s.points.length).map s.map (pv s s.points.length).gen
  · rw [kp_t h6, tb_t, st_t ⟨h1, h2.1, h2.2, by omega, h4.1, h4.2, h5.1, h5.2, h6⟩]
  · rw [kp_f h6, tb_f, st_f fun q => h6 q.2.2.2.2.2.2.2.2]
theorem sCheck_eq {s : Sa} (h : Sz s) : sCheck s = some (st s) := sCheck_eqB (sz_bg h)
end Ab
end Go.Proofs.Ytpflcogplhigcaa
namespace Go.Proofs.Ytpflcogplhigcaa
open Go Go.Proofs.Ytpflcogplhigcaa.Ab
set_option linter.unusedVariables false
set_option linter.unusedSimpArgs false
namespace Ab
theorem sExtents_eq {l : List Ex} (h : Sx l) : sExtents l = some l := by
  have hz := h.1
  have hd := (exAt_all l (fun x => x.d.length ≤ 1000000)).2 h.2
  unfold sExtents
  have := th_run (step := sExtents_L0_step l) (f := fun s0 => tb (decide (s0.2 < (l.length : Int))) none (tp (0 = 0 ∧ (List.flatMap Ex.cells s0.1).length = s0.1.length * 5) (some s0.1))) (fun i => (l.take i, (i : Int))) l.length (fun i hi => by
    have := hd i hi
    unfold sExtents_L0_step
    simp only [tb_dec, Int.toNat_natCast]
    rw [if_pos (by omega), tp_pos (by omega), tp_pos (by omega), tp_pos ⟨exs_len _, by rw [List.length_take]; omega⟩, wr_id (by omega) (by omega), ← ex_take1 l i hi]
    rfl) (by
    unfold sExtents_L0_step
    simp only [tb_dec]
    rw [if_neg (by omega)])
  rw [List.take_zero, List.take_length] at this
  refine this.trans ?_
  simp only [tb_dec]
  rw [if_neg (by omega), tp_pos ⟨by trivial, exs_len _⟩]
def sa0 : Sa := ⟨0, 0, [], [], 0, []⟩
open Classical in
noncomputable def cpy (s : Sa) : Sa := if SOk s then s else sa0
theorem cpy_t {s : Sa} (h : SOk s) : cpy s = s := by unfold cpy; rw [if_pos h]
theorem cpy_f {s : Sa} (h : ¬ SOk s) : cpy s = sa0 := by unfold cpy; rw [if_neg h]
theorem po_set_self (l : List Po) (i : Nat) : l.set i (poAt l i) = l := by
  refine List.ext_getElem? fun j => ?_
  rw [List.getElem?_set]
  by_cases h : i = j
  · subst h
    rw [if_pos rfl]
    by_cases g : i < l.length
    · rw [if_pos g]; unfold poAt; simp [g]
    · rw [if_neg g, List.getElem?_eq_none (by omega)]
  · rw [if_neg h]
theorem po_take1 (l : List Po) (i : Nat) (hi : i < l.length) : l.take (i + 1) = l.take i ++ [poAt l i] := by unfold poAt; exact take_at _ l i hi
theorem sCopy_eq {s : Sa} (h : Sz s) : sCopy s = some (cpy s) := by
  have hz := h.2.1
  have hx := h.1
  unfold sCopy
  rw [sCheck_eq h, tc_some, tb_bne]
  by_cases ho : SOk s
  case neg => rw [st_f ho, if_neg (by decide), cpy_f ho]; rfl
  rw [st_t ho, if_pos rfl, sExtents_eq hx, tc_some, tp_pos (pos_len _), tp_pos (by omega), tp_pos (by have := h.2.2.2; omega), cpy_t ho]
  have hp := (poAt_all s.points (fun p => Sx p.map)).2 h.2.2.1
  have := th_run (step := sCopy_L0_step s 0 s.map) (f := fun s6 => tb (decide (s6.1 < (s.points.length : Int))) none (tp (0 = 0 ∧ (List.flatMap Ex.cells s.map).length = s.map.length * 5) (tp (0 = 0 ∧ (List.flatMap Po.cells s6.2).length = s.points.length * 3) (some (Sa.mk s.blocks s.gen s.map s6.2 s.last s.staged))))) (fun i => ((i : Int), s.points)) s.points.length (fun i hi => by
    have e := pos_len s.points
    unfold sCopy_L0_step
    simp only [tb_dec, Int.toNat_natCast]
    rw [if_pos (by omega), tp_pos (by omega), tp_pos (by omega), sExtents_eq (hp i hi), tc_some, tp_pos ⟨rfl, by simp only [List.length_cons, List.length_nil]; omega⟩, wr_id (by omega) (by omega), List.take_length]
    have e2 : (Po.mk (poAt s.points i).id (poAt s.points i).gen (poAt s.points i).map) = poAt s.points i := rfl
    rw [e2, po_set_self]
    rfl) (by
    unfold sCopy_L0_step
    simp only [tb_dec]
    rw [if_neg (by omega)])
  refine this.trans ?_
  simp only [tb_dec]
  rw [if_neg (by omega), tp_pos ⟨by trivial, exs_len _⟩, tp_pos ⟨by trivial, pos_len _⟩]
theorem mk_sxx {b : Int} {l : List Ex} (h : Mk b l) : Sx l := ⟨by have := mk_len h; omega, fun x hx => by have := ck_dlen (ch_ck (mk_ch h) x hx).1; omega⟩
theorem sok_sz {s : Sa} (h : SOk s) : Sz s := by
  refine ⟨mk_sxx h.1.1, by have := h.2.2.2.1; omega, ?_, by have := h.2.2.2.2.2.2.1; omega⟩
  exact (poAt_all s.points fun p => Sx p.map).1 fun i hi => mk_sxx (h.2.2.2.2.2.2.2.1 i hi).1.1
theorem sCopy_eqB {s : Sa} (h : Bg s) : sCopy s = some (cpy s) := by
  by_cases ho : SOk s
  · exact sCopy_eq (sok_sz ho)
  unfold sCopy
  rw [sCheck_eqB h, tc_some, tb_bne, st_f ho, if_neg (by decide), cpy_f ho]
  rfl
def nw (blocks : Int) : Sa × Int := if 1 ≤ blocks ∧ blocks ≤ 64 then (⟨blocks, 1, [⟨0, blocks, 0, 0, []⟩], [], 0, []⟩, 0) else (sa0, 81)
theorem mNew_eq (blocks : Int) : mNew blocks = some (if 1 ≤ blocks ∧ blocks ≤ 64 then ([⟨0, blocks, 0, 0, []⟩], 0) else ([], 81)) := by
  unfold mNew
  simp only [tb_dec]
  by_cases h1 : blocks < 1
  · rw [if_pos h1, if_neg (by omega)]
  by_cases h2 : blocks > 64
  · rw [if_neg h1, if_pos h2, if_neg (by omega)]
  · rw [if_neg h1, if_neg h2, if_pos (by omega)]
theorem th_find {α β : Type} (l : List β) (d : β) (p : β → Bool) {step : Int → Option Int} {f : Int → Option α} (g : Option β → Option α) (hs : ∀ i : Nat, i < l.length → p (l.getD i d) = false → step (i : Int) = some ((i : Int) + 1)) (hf : ∀ i : Nat, i < l.length → p (l.getD i d) = true → step (i : Int) = none ∧ f (i : Int) = g (some (l.getD i d))) (he : step (l.length : Int) = none ∧ f (l.length : Int) = g none) : th step 0 f = g (l.find? p) := by
  have gd : ∀ i (hi : i < l.length), l.getD i d = l[i] := fun i hi => by simp [hi]
  cases h : l.find? p with
  | none =>
    have hn := List.find?_eq_none.1 h
    have := th_run (step := step) (f := f) (fun i => (i : Int)) l.length (fun i hi => hs i hi (by
      rw [gd i hi]
      have := hn l[i] (List.getElem_mem hi)
      simpa using this)) he.1
    simp only [Int.natCast_zero] at this
    rw [this]; exact he.2
  | some x =>
    obtain ⟨hx, i, hi, e, hlt⟩ := List.find?_eq_some_iff_getElem.1 h
    have hfi := hf i hi (by rw [gd i hi, e]; exact hx)
    have := th_run (step := step) (f := f) (fun i => (i : Int)) i (fun j hj => hs j (by omega) (by
      rw [gd j (by omega)]
      have := hlt j hj
      simpa using this)) hfi.1
    simp only [Int.natCast_zero] at this
    rw [this, hfi.2, gd i hi, e]
def po0 : Po := ⟨0, 0, []⟩
def fd (l : List Po) (id : Int) : Option Po := l.find? fun p => p.id == id
def fdv : Option Po → Po × Int
  | some p => (p, 0)
  | none => (po0, 111)
open Classical in
noncomputable def pnt (s : Sa) (id : Int) : Po × Int := if SOk s then fdv (fd s.points id) else (po0, 110)
theorem sPoint_eq {s : Sa} (h : Sz s) (id : Int) : sPoint s id = some (pnt s id) := by
  have hz := h.2.1
  unfold sPoint pnt
  rw [sCheck_eq h, tc_some, tb_bne]
  by_cases ho : SOk s
  case neg => rw [st_f ho, if_neg (by decide), if_neg ho]; rfl
  rw [st_t ho, if_pos rfl, if_pos ho, sCopy_eq h, tc_some, cpy_t ho]
  refine (th_find s.points ⟨0, 0, []⟩ (fun p => p.id == id) (fun o => some (fdv o)) ?_ ?_ ?_)
  · intro i hi hp
    have hp : ((poAt s.points i).id == id) = false := hp
    unfold sPoint_L0_step
    simp only [tb_dec, Int.toNat_natCast]
    rw [if_pos (by omega), tp_pos (by omega), tb_neg hp, wr_id (by omega) (by omega)]
  · intro i hi hp
    have hp : ((poAt s.points i).id == id) = true := hp
    unfold sPoint_L0_step
    simp only [tb_dec, Int.toNat_natCast]
    rw [if_pos (by omega), tp_pos (by omega), tb_pos hp, if_pos (by omega), tp_pos (by omega), tb_pos hp]
    exact ⟨rfl, rfl⟩
  · unfold sPoint_L0_step
    simp only [tb_dec]
    rw [if_neg (by omega), if_neg (by omega)]
    exact ⟨rfl, rfl⟩
theorem sIds_eqB {s : Sa} (h : Bg s) : sIds s = some ((cpy s).points.map Po.id) := by
  unfold sIds
  rw [sCopy_eqB h, tc_some]
  have hz : (cpy s).points.length ≤ 1000 := by
    unfold cpy; split
    · rename_i ho; exact (sok_sz ho).2.1
    · simp [sa0]
  generalize cpy s = t at hz ⊢
  have := th_run (step := sIds_L0_step s t) (f := fun s1 => tb (decide (s1.2 < (t.points.length : Int))) none (some s1.1)) (fun i => ((t.points.take i).map Po.id, (i : Int))) t.points.length (fun i hi => by
    unfold sIds_L0_step
    simp only [tb_dec, Int.toNat_natCast]
    rw [if_pos (by omega), tp_pos (by omega), tp_pos ⟨by simp, by rw [List.length_map, List.length_take]; omega⟩, wr_id (by omega) (by omega), po_take1 t.points i hi]
    simp) (by
    unfold sIds_L0_step
    simp only [tb_dec]
    rw [if_neg (by omega)])
  rw [List.take_zero, List.take_length] at this
  refine this.trans ?_
  simp only [tb_dec]
  rw [if_neg (by omega)]
def FewX (l : List Ex) : Prop := l.length ≤ 70 ∧ ∀ x ∈ l, x.d.length ≤ 3000
instance (l : List Ex) : Decidable (FewX l) := by unfold FewX; infer_instance
theorem few_eqX (l : List Ex) : few l = some (decide (FewX l)) := few_eq l
def FewS (s : Sa) : Prop := s.points.length ≤ 10 ∧ s.staged.length ≤ 6000 ∧ FewX s.map ∧ ∀ p ∈ s.points, FewX p.map
instance (s : Sa) : Decidable (FewS s) := by unfold FewS; infer_instance
theorem fewx_sx {l : List Ex} (h : FewX l) : Sx l := ⟨by have := h.1; omega, fun x hx => by have := h.2 x hx; omega⟩
theorem fews_sz {s : Sa} (h : FewS s) : Sz s := ⟨fewx_sx h.2.2.1, by have := h.1; omega, fun p hp => fewx_sx (h.2.2.2 p hp), by have := h.2.1; omega⟩
theorem few11_eq (s : Sa) : few11 s = some (decide (FewS s)) := by
  unfold few11
  simp only [tb_dec]
  by_cases h1 : (s.points.length : Int) > 10
  · rw [if_pos h1, decide_eq_false fun q : FewS s => by have := q.1; omega]
  rw [if_neg h1]
  by_cases h2 : (s.staged.length : Int) > 6000
  · rw [if_pos h2, decide_eq_false fun q : FewS s => by have := q.2.1; omega]
  rw [if_neg h2, few_eqX, tc_some, tb_not, tb_dec]
  by_cases h3 : FewX s.map
  case neg => rw [if_neg h3, decide_eq_false fun q : FewS s => h3 q.2.2.1]
  rw [if_pos h3]
  rw [th_all (some false) (some true) s.points.length (fun i => FewX (poAt s.points i).map) (∀ p ∈ s.points, FewX p.map) (poAt_all s.points fun p => FewX p.map)]
  · by_cases g : ∀ p ∈ s.points, FewX p.map
    · have u : FewS s := ⟨by omega, by omega, h3, g⟩
      rw [if_pos g, decide_eq_true u]
    · rw [if_neg g, decide_eq_false fun q : FewS s => g q.2.2.2]
  · intro i hi hq
    unfold few11_L0_step
    simp only [tb_dec, tb_not, Int.toNat_natCast]
    rw [if_pos (by omega), tp_pos (by omega), few_eqX, tc_some, decide_eq_true hq, tb_t, wr_id (by omega) (by omega)]
  · intro i hi hq
    unfold few11_L0_step
    simp only [tb_dec, tb_not, Int.toNat_natCast]
    rw [if_pos (by omega), tp_pos (by omega), few_eqX, tc_some, decide_eq_false hq, tb_f, if_pos (by omega), tp_pos (by omega), tc_some, tb_f]
    exact ⟨rfl, rfl⟩
  · unfold few11_L0_step
    simp only [tb_dec]
    rw [if_neg (by omega), if_neg (by omega)]
    exact ⟨rfl, rfl⟩
end Ab
end Go.Proofs.Ytpflcogplhigcaa
namespace Go.Proofs.Ytpflcogplhigcaa
open Go Go.Proofs.Ytpflcogplhigcaa.Ab
set_option linter.unusedVariables false
set_option linter.unusedSimpArgs false
namespace Ab
def endAt (l : List Ex) (i : Nat) : Int := if i = 0 then 0 else (exAt l (i - 1)).lba + (exAt l (i - 1)).len
def FP (l : List Ex) (i : Nat) : Prop := Ck (exAt l i) ∧ endAt l i ≤ (exAt l i).lba
def Fo (l : List Ex) : Prop := (∀ i, i < l.length → FP l i) ∧ l.length ≤ 64
instance (l : List Ex) (i : Nat) : Decidable (FP l i) := by unfold FP; infer_instance
instance (l : List Ex) : Decidable (Fo l) := by unfold Fo; infer_instance
def CkH (c : Ch) : Prop :=
  (c.kind = 1 ∧ (0 ≤ c.lba ∧ c.lba ≤ 64 ∧ 1 ≤ c.n ∧ c.n ≤ 64 - c.lba) ∧ c.id = 0 ∧ (c.d.length : Int) = c.n * 32 ∧ c.list.length = 0) ∨
  ((c.kind = 2 ∨ c.kind = 3) ∧ (0 ≤ c.lba ∧ c.lba ≤ 64 ∧ 1 ≤ c.n ∧ c.n ≤ 64 - c.lba) ∧ c.id = 0 ∧ c.d.length = 0 ∧ c.list.length = 0) ∨
  ((c.kind = 4 ∨ c.kind = 5) ∧ (c.lba = 0 ∧ c.n = 0) ∧ (1 ≤ c.id ∧ c.id ≤ 2147483647) ∧ c.d.length = 0 ∧ c.list.length = 0) ∨
  (c.kind = 6 ∧ (c.lba = 0 ∧ c.n = 0) ∧ c.id = 0 ∧ (1 ≤ c.d.length ∧ c.d.length ≤ 1000) ∧ c.list.length = 0) ∨
  (c.kind = 7 ∧ (c.lba = 0 ∧ c.n = 0) ∧ c.id = 0 ∧ c.d.length = 0 ∧ c.list.length = 0) ∨
  (c.kind = 8 ∧ (c.lba = 0 ∧ c.n = 0) ∧ (1 ≤ c.id ∧ c.id ≤ 2147483647) ∧ c.d.length = 0 ∧ Fo c.list)
instance (c : Ch) : Decidable (CkH c) := by unfold CkH; infer_instance
def FewC (c : Ch) : Prop := c.d.length ≤ 5000 ∧ FewX c.list
instance (c : Ch) : Decidable (FewC c) := by unfold FewC; infer_instance
def FewL (l : List Ch) : Prop := l.length ≤ 30 ∧ ∀ c ∈ l, FewC c
instance (l : List Ch) : Decidable (FewL l) := by unfold FewL; infer_instance
end Ab
end Go.Proofs.Ytpflcogplhigcaa
namespace Go.Proofs.Ytpflcogplhigcaa
open Go Go.Proofs.Ytpflcogplhigcaa.Ab
set_option linter.unusedVariables false
set_option linter.unusedSimpArgs false
namespace Ab
def gn (g : Int) (x : Ex) : Ex := ⟨x.lba, x.len, x.kind, g, x.d⟩
end Ab
end Go.Proofs.Ytpflcogplhigcaa
namespace Go.Proofs.Ytpflcogplhigcaa
open Go Go.Proofs.Ytpflcogplhigcaa.Ab
set_option linter.unusedVariables false
set_option linter.unusedSimpArgs false
set_option maxRecDepth 1000000
set_option maxHeartbeats 0
namespace Ab
noncomputable abbrev vMake_L0_I (s : Sa) (from_ : Int) (to_ : Int) (s0 : Po × Int) (s3 : Po × Int) : St := (St.mk [(0, (exs s0.1.map)), (1, (AV.i 0)), (2, (AV.fn (25 : Nat) [(AV.pt 3 0)])), (6, AV.nl), (10, (exs s0.1.map)), (11, (AV.i (s0.1.map.length : Int))), (12, (AV.i 0))] 41 (AH.mk 4 [(3, (AObj.cells [(AV.i s3.1.id), (AV.i s3.1.gen), (exs s3.1.map)])), (2, (AObj.cells [(AV.i s0.1.id), (AV.i s0.1.gen), (exs s0.1.map)])), (1, (AObj.cells [(AV.i 0), (AV.i 0), (AV.i 0), AV.nl])), (0, (AObj.cells [(AV.i s.blocks), (AV.i s.gen), (exs s.map), (AV.sl s.points.length (s.points.flatMap Po.cells)), (AV.i s.last), (bys s.staged)]))]) false)
noncomputable abbrev vMake_L0_S (s : Sa) (from_ : Int) (to_ : Int) (s0 : Po × Int) (s3 : Po × Int) (s6 : List Ex × Int) : St := (St.mk [(0, (exs s0.1.map)), (1, (AV.i 0)), (2, (AV.fn (25 : Nat) [(AV.pt 3 0)])), (6, (AV.rf 4 5 0 s6.1.length)), (10, (exs s0.1.map)), (11, (AV.i (s0.1.map.length : Int))), (12, (AV.i s6.2))] 41 (AH.mk 5 [(3, (AObj.cells [(AV.i s3.1.id), (AV.i s3.1.gen), (exs s3.1.map)])), (2, (AObj.cells [(AV.i s0.1.id), (AV.i s0.1.gen), (exs s0.1.map)])), (1, (AObj.cells [(AV.i 0), (AV.i 0), (AV.i 0), AV.nl])), (0, (AObj.cells [(AV.i s.blocks), (AV.i s.gen), (exs s.map), (AV.sl s.points.length (s.points.flatMap Po.cells)), (AV.i s.last), (bys s.staged)])), (4, (AObj.cells (s6.1.flatMap Ex.cells)))]) false)
noncomputable def vMake_L0_step (s : Sa) (from_ : Int) (to_ : Int) (s0 : Po × Int) (s3 : Po × Int) (s6 : List Ex × Int) : Option (List Ex × Int) :=
 (tb ((decide (s6.2 < (s0.1.map.length : Int)))) (tp ((((0 : Int) ≤ s6.2) ∧ (s6.2 < (s0.1.map.length : Int)))) (tb ((decide ((exAt s0.1.map s6.2.toNat).gen > s3.1.gen))) (tp ((((↑(List.length (exAt s0.1.map s6.2.toNat).d) : Int) = (↑(List.length (exAt s0.1.map s6.2.toNat).d) : Int)) ∧ (((0 : Int) ≤ (↑(List.length (exAt s0.1.map s6.2.toNat).d) : Int)) ∧ ((↑(List.length (exAt s0.1.map s6.2.toNat).d) : Int) ≤ (4294967296 : Int))))) (tp ((((List.length (s6.1.flatMap Ex.cells)) = (s6.1.length * 5)) ∧ ((s6.1.length + (1 : Nat)) ≤ (4294967296 : Nat)))) (some (((s6.1 ++ [(Ex.mk (exAt s0.1.map s6.2.toNat).lba (exAt s0.1.map s6.2.toNat).len (exAt s0.1.map s6.2.toNat).kind 0 (List.take ((Int.toNat (↑(List.length (exAt s0.1.map s6.2.toNat).d) : Int)) * 1) (((List.take 0 (List.replicate (Int.toNat (↑(List.length (exAt s0.1.map s6.2.toNat).d) : Int)) (UInt8.ofNat (0 : Nat)))) ++ (List.take ((Min.min (List.length (exAt s0.1.map s6.2.toNat).d) (Int.toNat (↑(List.length (exAt s0.1.map s6.2.toNat).d) : Int))) * 1) (exAt s0.1.map s6.2.toNat).d)) ++ (List.drop ((0 : Nat) + (List.length (List.take ((Min.min (List.length (exAt s0.1.map s6.2.toNat).d) (Int.toNat (↑(List.length (exAt s0.1.map s6.2.toNat).d) : Int))) * 1) (List.map AV.y (exAt s0.1.map s6.2.toNat).d)))) (List.replicate (Int.toNat (↑(List.length (exAt s0.1.map s6.2.toNat).d) : Int)) (UInt8.ofNat (0 : Nat)))))))]), (wr (s6.2 + (1 : Int)))))))) (some ((s6.1, (wr (s6.2 + (1 : Int)))))))) none)
theorem vMake_L0_ok (s : Sa) (from_ : Int) (to_ : Int) (s0 : Po × Int) (s3 : Po × Int) (s6 zz : List Ex × Int) : vMake_L0_step s from_ to_ s0 s3 s6 = some zz → EvStep Try.prog cf 4 (lp Try.prog 27 0) (vMake_L0_S s from_ to_ s0 s3 s6) (vMake_L0_S s from_ to_ s0 s3 zz) := by
  unfold vMake_L0_step
  exact tbD (fun h7 h7p => tp_ok fun h8 => tbD (fun h9 h9p => tp_ok fun h10 => tp_ok fun h11 => by intro e; injection e with e; subst e; exact leafS vw_eq (k := 300) (r := []) (hs := hz [(1, [.yes, .yes, .yes, .cells ((Ex.cells (exAt s0.1.map s6.2.toNat)))]), (2, [.fc]), (2, [.fc]), (11, [.yes]), (4, [.yes]), (5, [.yes, .yes]), (15, [.fc, .fc, .yes, .yes]), (3, [])]) (ks := [0, 1, 2, 6, 10, 11, 12]) (st1 := (St.mk [(0, (exs s0.1.map)), (1, (AV.i 0)), (2, (AV.fn (25 : Nat) [(AV.pt 3 0)])), (6, (AV.rf 9 5 0 (s6.1.length + (1 : Nat)))), (10, (exs s0.1.map)), (11, (AV.i (s0.1.map.length : Int))), (12, (AV.i (wr (s6.2 + (1 : Int)))))] 41 (AH.mk 10 [(9, (AObj.cells ((s6.1.flatMap Ex.cells) ++ [(AV.i (exAt s0.1.map s6.2.toNat).lba), (AV.i (exAt s0.1.map s6.2.toNat).len), (AV.i (exAt s0.1.map s6.2.toNat).kind), (AV.i 0), (AV.rf 7 1 0 (Int.toNat (↑(List.length (exAt s0.1.map s6.2.toNat).d) : Int)))]))), (8, (AObj.cells [(AV.i (exAt s0.1.map s6.2.toNat).lba), (AV.i (exAt s0.1.map s6.2.toNat).len), (AV.i (exAt s0.1.map s6.2.toNat).kind), (AV.i 0), (AV.rf 7 1 0 (Int.toNat (↑(List.length (exAt s0.1.map s6.2.toNat).d) : Int)))])), (7, (AObj.cells (((List.take 0 (List.flatten (List.replicate (Int.toNat (↑(List.length (exAt s0.1.map s6.2.toNat).d) : Int)) [(AV.y (UInt8.ofNat (0 : Nat)))]))) ++ (List.take ((Min.min (List.length (exAt s0.1.map s6.2.toNat).d) (Int.toNat (↑(List.length (exAt s0.1.map s6.2.toNat).d) : Int))) * 1) (List.map AV.y (exAt s0.1.map s6.2.toNat).d))) ++ (List.drop ((0 : Nat) + (List.length (List.take ((Min.min (List.length (exAt s0.1.map s6.2.toNat).d) (Int.toNat (↑(List.length (exAt s0.1.map s6.2.toNat).d) : Int))) * 1) (List.map AV.y (exAt s0.1.map s6.2.toNat).d)))) (List.flatten (List.replicate (Int.toNat (↑(List.length (exAt s0.1.map s6.2.toNat).d) : Int)) [(AV.y (UInt8.ofNat (0 : Nat)))])))))), (6, (AObj.cells (xc (exAt s0.1.map s6.2.toNat)))), (5, (AObj.cells (xc (exAt s0.1.map s6.2.toNat)))), (3, (AObj.cells [(AV.i s3.1.id), (AV.i s3.1.gen), (exs s3.1.map)])), (2, (AObj.cells [(AV.i s0.1.id), (AV.i s0.1.gen), (exs s0.1.map)])), (1, (AObj.cells [(AV.i 0), (AV.i 0), (AV.i 0), AV.nl])), (0, (AObj.cells [(AV.i s.blocks), (AV.i s.gen), (exs s.map), (AV.sl s.points.length (s.points.flatMap Po.cells)), (AV.i s.last), (bys s.staged)])), (4, AObj.dead)]) false)) kq (ac h7 (ac h8 (ac (fq (p := ((5 : Nat) ≤ (List.length (List.drop (s6.2.toNat * 5) (s0.1.map.flatMap Ex.cells)))))) (ac (show (List.take 5 (List.drop (s6.2.toNat * 5) (s0.1.map.flatMap Ex.cells))) = (Ex.cells (exAt s0.1.map s6.2.toNat)) from (ex_takeO bq bq)) (ac h9 (ac h10 (ac (tq (p := ((List.length (List.map AV.y (exAt s0.1.map s6.2.toNat).d)) = ((List.length (exAt s0.1.map s6.2.toNat).d) * 1)))) (ac (tq (p := (((0 : Nat) + ((Int.toNat (↑(List.length (exAt s0.1.map s6.2.toNat).d) : Int)) * 1)) ≤ (List.length (List.flatten (List.replicate (Int.toNat (↑(List.length (exAt s0.1.map s6.2.toNat).d) : Int)) [(AV.y (UInt8.ofNat (0 : Nat)))])))))) (ac (tq (p := (((0 : Nat) = (0 : Nat)) ∧ ((List.length [(AV.i (exAt s0.1.map s6.2.toNat).lba), (AV.i (exAt s0.1.map s6.2.toNat).len), (AV.i (exAt s0.1.map s6.2.toNat).kind), (AV.i 0), (AV.rf 7 1 0 (Int.toNat (↑(List.length (exAt s0.1.map s6.2.toNat).d) : Int)))]) = (5 : Nat))))) (ac h11 an)))))))))) (Nat.le_of_ble_eq_true rfl) (Nat.le_of_ble_eq_true rfl) (absB_of [9] [7] kq (.consn kq (.eqv tq rfl) (.consn kq (.eqv tq rfl) (.consn kq (.fn (.cons (.pt rfl) .nil)) (.consn kq (.rfn (n := (s6.1.length + (1 : Nat))) rfl tq) (.consn kq (.eqv tq rfl) (.consn kq (.eqv tq rfl) (.consn kq (.eqv tq rfl) .nil))))))) (.cons (.old rfl rfl (.cells (.pl rfl pq))) (.cons (.old rfl rfl (.cells (.pl rfl pq))) (.cons (.old rfl rfl (.cells (.cons (.eqv tq rfl) (.cons (.eqv tq rfl) (.cons (.eqv tq rfl) (.cons .nl0 .nil)))))) (.cons (.old rfl rfl (.cells (.pl rfl pq))) (.cons (.old rfl rfl (.cells (.cast rfl tq (.app (.pl rfl pq) (.cons (.eqv rfl rfl) (.cons (.eqv rfl rfl) (.cons (.eqv rfl rfl) (.cons (.eqv rfl rfl) (.cons (.frzn rfl tq pq (by simp) rfl) .nil))))))))) .nil))))))) fun h9 h9p => by intro e; injection e with e; subst e; exact leafS vw_eq (k := 300) (r := []) (hs := hz [(1, [.yes, .yes, .yes, .cells ((Ex.cells (exAt s0.1.map s6.2.toNat)))]), (2, [.fc]), (2, [.fc]), (11, [.no]), (2, [])]) (ks := [0, 1, 2, 6, 10, 11, 12]) (st1 := (St.mk [(0, (exs s0.1.map)), (1, (AV.i 0)), (2, (AV.fn (25 : Nat) [(AV.pt 3 0)])), (6, (AV.rf 4 5 0 s6.1.length)), (10, (exs s0.1.map)), (11, (AV.i (s0.1.map.length : Int))), (12, (AV.i (wr (s6.2 + (1 : Int)))))] 41 (AH.mk 7 [(6, (AObj.cells (xc (exAt s0.1.map s6.2.toNat)))), (5, (AObj.cells (xc (exAt s0.1.map s6.2.toNat)))), (3, (AObj.cells [(AV.i s3.1.id), (AV.i s3.1.gen), (exs s3.1.map)])), (2, (AObj.cells [(AV.i s0.1.id), (AV.i s0.1.gen), (exs s0.1.map)])), (1, (AObj.cells [(AV.i 0), (AV.i 0), (AV.i 0), AV.nl])), (0, (AObj.cells [(AV.i s.blocks), (AV.i s.gen), (exs s.map), (AV.sl s.points.length (s.points.flatMap Po.cells)), (AV.i s.last), (bys s.staged)])), (4, (AObj.cells (s6.1.flatMap Ex.cells)))]) false)) kq (ac h7 (ac h8 (ac (fq (p := ((5 : Nat) ≤ (List.length (List.drop (s6.2.toNat * 5) (s0.1.map.flatMap Ex.cells)))))) (ac (show (List.take 5 (List.drop (s6.2.toNat * 5) (s0.1.map.flatMap Ex.cells))) = (Ex.cells (exAt s0.1.map s6.2.toNat)) from (ex_takeO bq bq)) (ac h9 an))))) (Nat.le_of_ble_eq_true rfl) (Nat.le_of_ble_eq_true rfl) (absB_of [4] [] kq (.consn kq (.eqv tq rfl) (.consn kq (.eqv tq rfl) (.consn kq (.fn (.cons (.pt rfl) .nil)) (.consn kq (.rfn (n := s6.1.length) rfl tq) (.consn kq (.eqv tq rfl) (.consn kq (.eqv tq rfl) (.consn kq (.eqv tq rfl) .nil))))))) (.cons (.old rfl rfl (.cells (.pl rfl pq))) (.cons (.old rfl rfl (.cells (.pl rfl pq))) (.cons (.old rfl rfl (.cells (.cons (.eqv tq rfl) (.cons (.eqv tq rfl) (.cons (.eqv tq rfl) (.cons .nl0 .nil)))))) (.cons (.old rfl rfl (.cells (.pl rfl pq))) (.cons (.old rfl rfl (.cells (.pl tq pq))) .nil))))))) fun h7 h7p => tn_ok
noncomputable abbrev vMake_L1_I (s : Sa) (from_ : Int) (to_ : Int) (s0 : Po × Int) : St := (St.mk [(0, (exs s0.1.map)), (1, (AV.i 0)), (2, (AV.fn (24 : Nat) ([] : List AV))), (6, AV.nl), (10, (exs s0.1.map)), (11, (AV.i (s0.1.map.length : Int))), (12, (AV.i 0))] 41 (AH.mk 3 [(2, (AObj.cells [(AV.i s0.1.id), (AV.i s0.1.gen), (exs s0.1.map)])), (1, (AObj.cells [(AV.i 0), (AV.i 0), (AV.i 0), AV.nl])), (0, (AObj.cells [(AV.i s.blocks), (AV.i s.gen), (exs s.map), (AV.sl s.points.length (s.points.flatMap Po.cells)), (AV.i s.last), (bys s.staged)]))]) false)
noncomputable abbrev vMake_L1_S (s : Sa) (from_ : Int) (to_ : Int) (s0 : Po × Int) (s4 : List Ex × Int) : St := (St.mk [(0, (exs s0.1.map)), (1, (AV.i 0)), (2, (AV.fn (24 : Nat) ([] : List AV))), (6, (AV.rf 3 5 0 s4.1.length)), (10, (exs s0.1.map)), (11, (AV.i (s0.1.map.length : Int))), (12, (AV.i s4.2))] 41 (AH.mk 4 [(2, (AObj.cells [(AV.i s0.1.id), (AV.i s0.1.gen), (exs s0.1.map)])), (1, (AObj.cells [(AV.i 0), (AV.i 0), (AV.i 0), AV.nl])), (0, (AObj.cells [(AV.i s.blocks), (AV.i s.gen), (exs s.map), (AV.sl s.points.length (s.points.flatMap Po.cells)), (AV.i s.last), (bys s.staged)])), (3, (AObj.cells (s4.1.flatMap Ex.cells)))]) false)
noncomputable def vMake_L1_step (s : Sa) (from_ : Int) (to_ : Int) (s0 : Po × Int) (s4 : List Ex × Int) : Option (List Ex × Int) :=
 (tb ((decide (s4.2 < (s0.1.map.length : Int)))) (tp ((((0 : Int) ≤ s4.2) ∧ (s4.2 < (s0.1.map.length : Int)))) (tb (((exAt s0.1.map s4.2.toNat).kind != (0 : Int))) (tp ((((↑(List.length (exAt s0.1.map s4.2.toNat).d) : Int) = (↑(List.length (exAt s0.1.map s4.2.toNat).d) : Int)) ∧ (((0 : Int) ≤ (↑(List.length (exAt s0.1.map s4.2.toNat).d) : Int)) ∧ ((↑(List.length (exAt s0.1.map s4.2.toNat).d) : Int) ≤ (4294967296 : Int))))) (tp ((((List.length (s4.1.flatMap Ex.cells)) = (s4.1.length * 5)) ∧ ((s4.1.length + (1 : Nat)) ≤ (4294967296 : Nat)))) (some (((s4.1 ++ [(Ex.mk (exAt s0.1.map s4.2.toNat).lba (exAt s0.1.map s4.2.toNat).len (exAt s0.1.map s4.2.toNat).kind 0 (List.take ((Int.toNat (↑(List.length (exAt s0.1.map s4.2.toNat).d) : Int)) * 1) (((List.take 0 (List.replicate (Int.toNat (↑(List.length (exAt s0.1.map s4.2.toNat).d) : Int)) (UInt8.ofNat (0 : Nat)))) ++ (List.take ((Min.min (List.length (exAt s0.1.map s4.2.toNat).d) (Int.toNat (↑(List.length (exAt s0.1.map s4.2.toNat).d) : Int))) * 1) (exAt s0.1.map s4.2.toNat).d)) ++ (List.drop ((0 : Nat) + (List.length (List.take ((Min.min (List.length (exAt s0.1.map s4.2.toNat).d) (Int.toNat (↑(List.length (exAt s0.1.map s4.2.toNat).d) : Int))) * 1) (List.map AV.y (exAt s0.1.map s4.2.toNat).d)))) (List.replicate (Int.toNat (↑(List.length (exAt s0.1.map s4.2.toNat).d) : Int)) (UInt8.ofNat (0 : Nat)))))))]), (wr (s4.2 + (1 : Int)))))))) (some ((s4.1, (wr (s4.2 + (1 : Int)))))))) none)
theorem vMake_L1_ok (s : Sa) (from_ : Int) (to_ : Int) (s0 : Po × Int) (s4 zz : List Ex × Int) : vMake_L1_step s from_ to_ s0 s4 = some zz → EvStep Try.prog cf 3 (lp Try.prog 27 0) (vMake_L1_S s from_ to_ s0 s4) (vMake_L1_S s from_ to_ s0 zz) := by
  unfold vMake_L1_step
  exact tbD (fun h5 h5p => tp_ok fun h6 => tbN (fun h7 h7p => tp_ok fun h8 => tp_ok fun h9 => by intro e; injection e with e; subst e; exact leafS vw_eq (k := 300) (r := []) (hs := hz [(1, [.yes, .yes, .yes, .cells ((Ex.cells (exAt s0.1.map s4.2.toNat)))]), (2, [.fc]), (2, [.fc]), (8, [.yes]), (4, [.yes]), (5, [.yes, .yes]), (15, [.fc, .fc, .yes, .yes]), (3, [])]) (ks := [0, 1, 2, 6, 10, 11, 12]) (st1 := (St.mk [(0, (exs s0.1.map)), (1, (AV.i 0)), (2, (AV.fn (24 : Nat) ([] : List AV))), (6, (AV.rf 8 5 0 (s4.1.length + (1 : Nat)))), (10, (exs s0.1.map)), (11, (AV.i (s0.1.map.length : Int))), (12, (AV.i (wr (s4.2 + (1 : Int)))))] 41 (AH.mk 9 [(8, (AObj.cells ((s4.1.flatMap Ex.cells) ++ [(AV.i (exAt s0.1.map s4.2.toNat).lba), (AV.i (exAt s0.1.map s4.2.toNat).len), (AV.i (exAt s0.1.map s4.2.toNat).kind), (AV.i 0), (AV.rf 6 1 0 (Int.toNat (↑(List.length (exAt s0.1.map s4.2.toNat).d) : Int)))]))), (7, (AObj.cells [(AV.i (exAt s0.1.map s4.2.toNat).lba), (AV.i (exAt s0.1.map s4.2.toNat).len), (AV.i (exAt s0.1.map s4.2.toNat).kind), (AV.i 0), (AV.rf 6 1 0 (Int.toNat (↑(List.length (exAt s0.1.map s4.2.toNat).d) : Int)))])), (6, (AObj.cells (((List.take 0 (List.flatten (List.replicate (Int.toNat (↑(List.length (exAt s0.1.map s4.2.toNat).d) : Int)) [(AV.y (UInt8.ofNat (0 : Nat)))]))) ++ (List.take ((Min.min (List.length (exAt s0.1.map s4.2.toNat).d) (Int.toNat (↑(List.length (exAt s0.1.map s4.2.toNat).d) : Int))) * 1) (List.map AV.y (exAt s0.1.map s4.2.toNat).d))) ++ (List.drop ((0 : Nat) + (List.length (List.take ((Min.min (List.length (exAt s0.1.map s4.2.toNat).d) (Int.toNat (↑(List.length (exAt s0.1.map s4.2.toNat).d) : Int))) * 1) (List.map AV.y (exAt s0.1.map s4.2.toNat).d)))) (List.flatten (List.replicate (Int.toNat (↑(List.length (exAt s0.1.map s4.2.toNat).d) : Int)) [(AV.y (UInt8.ofNat (0 : Nat)))])))))), (5, (AObj.cells (xc (exAt s0.1.map s4.2.toNat)))), (4, (AObj.cells (xc (exAt s0.1.map s4.2.toNat)))), (2, (AObj.cells [(AV.i s0.1.id), (AV.i s0.1.gen), (exs s0.1.map)])), (1, (AObj.cells [(AV.i 0), (AV.i 0), (AV.i 0), AV.nl])), (0, (AObj.cells [(AV.i s.blocks), (AV.i s.gen), (exs s.map), (AV.sl s.points.length (s.points.flatMap Po.cells)), (AV.i s.last), (bys s.staged)])), (3, AObj.dead)]) false)) kq (ac h5 (ac h6 (ac (fq (p := ((5 : Nat) ≤ (List.length (List.drop (s4.2.toNat * 5) (s0.1.map.flatMap Ex.cells)))))) (ac (show (List.take 5 (List.drop (s4.2.toNat * 5) (s0.1.map.flatMap Ex.cells))) = (Ex.cells (exAt s0.1.map s4.2.toNat)) from (ex_takeO bq bq)) (ac h7 (ac h8 (ac (tq (p := ((List.length (List.map AV.y (exAt s0.1.map s4.2.toNat).d)) = ((List.length (exAt s0.1.map s4.2.toNat).d) * 1)))) (ac (tq (p := (((0 : Nat) + ((Int.toNat (↑(List.length (exAt s0.1.map s4.2.toNat).d) : Int)) * 1)) ≤ (List.length (List.flatten (List.replicate (Int.toNat (↑(List.length (exAt s0.1.map s4.2.toNat).d) : Int)) [(AV.y (UInt8.ofNat (0 : Nat)))])))))) (ac (tq (p := (((0 : Nat) = (0 : Nat)) ∧ ((List.length [(AV.i (exAt s0.1.map s4.2.toNat).lba), (AV.i (exAt s0.1.map s4.2.toNat).len), (AV.i (exAt s0.1.map s4.2.toNat).kind), (AV.i 0), (AV.rf 6 1 0 (Int.toNat (↑(List.length (exAt s0.1.map s4.2.toNat).d) : Int)))]) = (5 : Nat))))) (ac h9 an)))))))))) (Nat.le_of_ble_eq_true rfl) (Nat.le_of_ble_eq_true rfl) (absB_of [8] [6] kq (.consn kq (.eqv tq rfl) (.consn kq (.eqv tq rfl) (.consn kq (.fn .nil) (.consn kq (.rfn (n := (s4.1.length + (1 : Nat))) rfl tq) (.consn kq (.eqv tq rfl) (.consn kq (.eqv tq rfl) (.consn kq (.eqv tq rfl) .nil))))))) (.cons (.old rfl rfl (.cells (.pl rfl pq))) (.cons (.old rfl rfl (.cells (.cons (.eqv tq rfl) (.cons (.eqv tq rfl) (.cons (.eqv tq rfl) (.cons .nl0 .nil)))))) (.cons (.old rfl rfl (.cells (.pl rfl pq))) (.cons (.old rfl rfl (.cells (.cast rfl tq (.app (.pl rfl pq) (.cons (.eqv rfl rfl) (.cons (.eqv rfl rfl) (.cons (.eqv rfl rfl) (.cons (.eqv rfl rfl) (.cons (.frzn rfl tq pq (by simp) rfl) .nil))))))))) .nil)))))) fun h7 h7p => by intro e; injection e with e; subst e; exact leafS vw_eq (k := 300) (r := []) (hs := hz [(1, [.yes, .yes, .yes, .cells ((Ex.cells (exAt s0.1.map s4.2.toNat)))]), (2, [.fc]), (2, [.fc]), (8, [.no]), (2, [])]) (ks := [0, 1, 2, 6, 10, 11, 12]) (st1 := (St.mk [(0, (exs s0.1.map)), (1, (AV.i 0)), (2, (AV.fn (24 : Nat) ([] : List AV))), (6, (AV.rf 3 5 0 s4.1.length)), (10, (exs s0.1.map)), (11, (AV.i (s0.1.map.length : Int))), (12, (AV.i (wr (s4.2 + (1 : Int)))))] 41 (AH.mk 6 [(5, (AObj.cells (xc (exAt s0.1.map s4.2.toNat)))), (4, (AObj.cells (xc (exAt s0.1.map s4.2.toNat)))), (2, (AObj.cells [(AV.i s0.1.id), (AV.i s0.1.gen), (exs s0.1.map)])), (1, (AObj.cells [(AV.i 0), (AV.i 0), (AV.i 0), AV.nl])), (0, (AObj.cells [(AV.i s.blocks), (AV.i s.gen), (exs s.map), (AV.sl s.points.length (s.points.flatMap Po.cells)), (AV.i s.last), (bys s.staged)])), (3, (AObj.cells (s4.1.flatMap Ex.cells)))]) false)) kq (ac h5 (ac h6 (ac (fq (p := ((5 : Nat) ≤ (List.length (List.drop (s4.2.toNat * 5) (s0.1.map.flatMap Ex.cells)))))) (ac (show (List.take 5 (List.drop (s4.2.toNat * 5) (s0.1.map.flatMap Ex.cells))) = (Ex.cells (exAt s0.1.map s4.2.toNat)) from (ex_takeO bq bq)) (ac h7 an))))) (Nat.le_of_ble_eq_true rfl) (Nat.le_of_ble_eq_true rfl) (absB_of [3] [] kq (.consn kq (.eqv tq rfl) (.consn kq (.eqv tq rfl) (.consn kq (.fn .nil) (.consn kq (.rfn (n := s4.1.length) rfl tq) (.consn kq (.eqv tq rfl) (.consn kq (.eqv tq rfl) (.consn kq (.eqv tq rfl) .nil))))))) (.cons (.old rfl rfl (.cells (.pl rfl pq))) (.cons (.old rfl rfl (.cells (.cons (.eqv tq rfl) (.cons (.eqv tq rfl) (.cons (.eqv tq rfl) (.cons .nl0 .nil)))))) (.cons (.old rfl rfl (.cells (.pl rfl pq))) (.cons (.old rfl rfl (.cells (.pl tq pq))) .nil)))))) fun h5 h5p => tn_ok
noncomputable def vMake (s : Sa) (from_ : Int) (to_ : Int) : Option (Sm × Int) :=
 (tc (sPoint (s) (to_)) fun s0 => (tb ((s0.2 != (0 : Int))) (some (((Sm.mk 0 0 0 ([] : List Ex)), s0.2))) (tb ((from_ != (0 : Int))) (tc (sPoint (s) (from_)) fun s3 => (tb ((s3.2 != (0 : Int))) (some (((Sm.mk 0 0 0 ([] : List Ex)), s3.2))) (tb ((decide (from_ ≥ to_))) (some (((Sm.mk 0 0 0 ([] : List Ex)), (180 : Int)))) (th (vMake_L0_step s from_ to_ s0 s3) ((([] : List Ex), (0 : Int))) fun s6 => (tb ((decide (s6.2 < (s0.1.map.length : Int)))) none (tp ((((0 : Nat) = (0 : Nat)) ∧ ((List.length (s6.1.flatMap Ex.cells)) = (s6.1.length * 5)))) (tc (pPack (s6.1)) fun s9 => (tb ((s9.2 != (0 : Int))) (some (((Sm.mk 0 0 0 ([] : List Ex)), s9.2))) (some (((Sm.mk s.blocks from_ to_ s9.1), (0 : Int)))))))))))) (tb ((decide (from_ ≥ to_))) (some (((Sm.mk 0 0 0 ([] : List Ex)), (180 : Int)))) (th (vMake_L1_step s from_ to_ s0) ((([] : List Ex), (0 : Int))) fun s4 => (tb ((decide (s4.2 < (s0.1.map.length : Int)))) none (tp ((((0 : Nat) = (0 : Nat)) ∧ ((List.length (s4.1.flatMap Ex.cells)) = (s4.1.length * 5)))) (tc (pPack (s4.1)) fun s7 => (tb ((s7.2 != (0 : Int))) (some (((Sm.mk 0 0 0 ([] : List Ex)), s7.2))) (some (((Sm.mk s.blocks from_ to_ s7.1), (0 : Int)))))))))))))
abbrev vMake_G (s : Sa) (from_ : Int) (to_ : Int) (r : Sm × Int) : Prop := EvFr Try.prog cf false 10 [Sa.av (s), .i (from_), .i (to_)] (.tu [Sm.av (r.1), .i (r.2)])
theorem vMake_ok (s : Sa) (from_ : Int) (to_ : Int) (r : Sm × Int) : vMake s from_ to_ = some r → vMake_G s from_ to_ r := by
  unfold vMake
  exact tc_ok fun s0 h0 => tbN (fun h1 h1p => by intro e; injection e with e; subst e; exact leafR vw_eq (k := 300) (r := []) (hs := hz [(4, [.fc]), (2, [.fres (.tu [Po.av (s0.1), .i (s0.2)])]), (5, [.fc]), (3, [.yes]), (1, [.fc]), (2, [.fc]), (2, [.fc])]) (raw := (AV.tu [(AV.ag [(AV.i 0), (AV.i 0), (AV.i 0), (AV.sl 0 ([] : List AV))]), (AV.i s0.2)])) kq (ac (sPoint_ok (s) (to_) _ h0) (ac h1 an)) tq) fun h1 h1p => tbN (fun h2 h2p => tc_ok fun s3 h3 => tbN (fun h4 h4p => by intro e; injection e with e; subst e; exact leafR vw_eq (k := 300) (r := []) (hs := hz [(4, [.fc]), (2, [.fres (.tu [Po.av (s0.1), .i (s0.2)])]), (5, [.fc]), (3, [.no]), (3, [.yes]), (1, [.fc]), (2, [.fres (.tu [Po.av (s3.1), .i (s3.2)])]), (5, [.fc]), (3, [.yes]), (1, [.fc]), (2, [.fc]), (2, [.fc])]) (raw := (AV.tu [(AV.ag [(AV.i 0), (AV.i 0), (AV.i 0), (AV.sl 0 ([] : List AV))]), (AV.i s3.2)])) kq (ac (sPoint_ok (s) (to_) _ h0) (ac h1 (ac h2 (ac (sPoint_ok (s) (from_) _ h3) (ac h4 an))))) tq) fun h4 h4p => tbD (fun h5 h5p => by intro e; injection e with e; subst e; exact leafR vw_eq (k := 300) (r := []) (hs := hz [(4, [.fc]), (2, [.fres (.tu [Po.av (s0.1), .i (s0.2)])]), (5, [.fc]), (3, [.no]), (3, [.yes]), (1, [.fc]), (2, [.fres (.tu [Po.av (s3.1), .i (s3.2)])]), (5, [.fc]), (3, [.no]), (5, [.yes]), (1, [.fc]), (1, [.fc]), (2, [.fc])]) (raw := (AV.tu [(AV.ag [(AV.i 0), (AV.i 0), (AV.i 0), (AV.sl 0 ([] : List AV))]), (AV.i 180)])) kq (ac (sPoint_ok (s) (to_) _ h0) (ac h1 (ac h2 (ac (sPoint_ok (s) (from_) _ h3) (ac h4 (ac h5 an)))))) tq) fun h5 h5p => th_ok fun s6 h6 => tbD (fun h7 h7p => tn_ok) fun h7 h7p => tp_ok fun h8 => tc_ok fun s9 h9 => tbN (fun h10 h10p => by intro e; injection e with e; subst e; exact leafR vw_eq (k := 300) (r := []) (hs := hz [(4, [.fc]), (2, [.fres (.tu [Po.av (s0.1), .i (s0.2)])]), (5, [.fc]), (3, [.no]), (3, [.yes]), (1, [.fc]), (2, [.fres (.tu [Po.av (s3.1), .i (s3.2)])]), (5, [.fc]), (3, [.no]), (5, [.no]), (9, [.head (vMake_L0_S s from_ to_ s0 s3 s6)]), (1, [.no]), (3, [.yes, .yes, .fres (.tu [exs (s9.1), .i (s9.2)])]), (7, [.yes]), (1, [.fc]), (2, [.fc]), (2, [.fc])]) (raw := (AV.tu [(AV.ag [(AV.i 0), (AV.i 0), (AV.i 0), (AV.sl 0 ([] : List AV))]), (AV.i s9.2)])) kq (ac (sPoint_ok (s) (to_) _ h0) (ac h1 (ac h2 (ac (sPoint_ok (s) (from_) _ h3) (ac h4 (ac h5 (ac (show EvHead Try.prog cf (lp Try.prog 27 0) (vMake_L0_I s from_ to_ s0 s3) (vMake_L0_S s from_ to_ s0 s3 s6) from (EvHead.of (vMake_L0_ok s from_ to_ s0 s3) (absB_of [4] [] kq (.consn kq (.eqv tq rfl) (.consn kq (.eqv tq rfl) (.consn kq (.fn (.cons (.pt rfl) .nil)) (.consn kq (.nln tq) (.consn kq (.eqv tq rfl) (.consn kq (.eqv tq rfl) (.consn kq (.eqv tq rfl) .nil))))))) (.cons (.old rfl rfl (.cells (.pl rfl pq))) (.cons (.old rfl rfl (.cells (.pl rfl pq))) (.cons (.old rfl rfl (.cells (.cons (.eqv tq rfl) (.cons (.eqv tq rfl) (.cons (.eqv tq rfl) (.cons .nl0 .nil)))))) (.cons (.old rfl rfl (.cells (.pl rfl pq))) (.cons (.none rfl (Nat.le_refl _) rfl) .nil)))))) h6)) (ac h7 (ac h8 (ac (pq (p := Pl false ((s6.1.flatMap Ex.cells)))) (ac (pPack_ok (s6.1) _ h9) (ac h10 an)))))))))))) tq) fun h10 h10p => by intro e; injection e with e; subst e; exact leafR vw_eq (k := 300) (r := []) (hs := hz [(4, [.fc]), (2, [.fres (.tu [Po.av (s0.1), .i (s0.2)])]), (5, [.fc]), (3, [.no]), (3, [.yes]), (1, [.fc]), (2, [.fres (.tu [Po.av (s3.1), .i (s3.2)])]), (5, [.fc]), (3, [.no]), (5, [.no]), (9, [.head (vMake_L0_S s from_ to_ s0 s3 s6)]), (1, [.no]), (3, [.yes, .yes, .fres (.tu [exs (s9.1), .i (s9.2)])]), (7, [.no]), (8, [.fc]), (2, [.fc])]) (raw := (AV.tu [(AV.ag [(AV.i s.blocks), (AV.i from_), (AV.i to_), (exs s9.1)]), (AV.i 0)])) kq (ac (sPoint_ok (s) (to_) _ h0) (ac h1 (ac h2 (ac (sPoint_ok (s) (from_) _ h3) (ac h4 (ac h5 (ac (show EvHead Try.prog cf (lp Try.prog 27 0) (vMake_L0_I s from_ to_ s0 s3) (vMake_L0_S s from_ to_ s0 s3 s6) from (EvHead.of (vMake_L0_ok s from_ to_ s0 s3) (absB_of [4] [] kq (.consn kq (.eqv tq rfl) (.consn kq (.eqv tq rfl) (.consn kq (.fn (.cons (.pt rfl) .nil)) (.consn kq (.nln tq) (.consn kq (.eqv tq rfl) (.consn kq (.eqv tq rfl) (.consn kq (.eqv tq rfl) .nil))))))) (.cons (.old rfl rfl (.cells (.pl rfl pq))) (.cons (.old rfl rfl (.cells (.pl rfl pq))) (.cons (.old rfl rfl (.cells (.cons (.eqv tq rfl) (.cons (.eqv tq rfl) (.cons (.eqv tq rfl) (.cons .nl0 .nil)))))) (.cons (.old rfl rfl (.cells (.pl rfl pq))) (.cons (.none rfl (Nat.le_refl _) rfl) .nil)))))) h6)) (ac h7 (ac h8 (ac (pq (p := Pl false ((s6.1.flatMap Ex.cells)))) (ac (pPack_ok (s6.1) _ h9) (ac h10 an)))))))))))) tq) fun h2 h2p => tbD (fun h3 h3p => by intro e; injection e with e; subst e; exact leafR vw_eq (k := 300) (r := []) (hs := hz [(4, [.fc]), (2, [.fres (.tu [Po.av (s0.1), .i (s0.2)])]), (5, [.fc]), (3, [.no]), (3, [.no]), (3, [.yes]), (1, [.fc]), (1, [.fc]), (2, [.fc])]) (raw := (AV.tu [(AV.ag [(AV.i 0), (AV.i 0), (AV.i 0), (AV.sl 0 ([] : List AV))]), (AV.i 180)])) kq (ac (sPoint_ok (s) (to_) _ h0) (ac h1 (ac h2 (ac h3 an)))) tq) fun h3 h3p => th_ok fun s4 h4 => tbD (fun h5 h5p => tn_ok) fun h5 h5p => tp_ok fun h6 => tc_ok fun s7 h7 => tbN (fun h8 h8p => by intro e; injection e with e; subst e; exact leafR vw_eq (k := 300) (r := []) (hs := hz [(4, [.fc]), (2, [.fres (.tu [Po.av (s0.1), .i (s0.2)])]), (5, [.fc]), (3, [.no]), (3, [.no]), (3, [.no]), (9, [.head (vMake_L1_S s from_ to_ s0 s4)]), (1, [.no]), (3, [.yes, .yes, .fres (.tu [exs (s7.1), .i (s7.2)])]), (7, [.yes]), (1, [.fc]), (2, [.fc]), (2, [.fc])]) (raw := (AV.tu [(AV.ag [(AV.i 0), (AV.i 0), (AV.i 0), (AV.sl 0 ([] : List AV))]), (AV.i s7.2)])) kq (ac (sPoint_ok (s) (to_) _ h0) (ac h1 (ac h2 (ac h3 (ac (show EvHead Try.prog cf (lp Try.prog 27 0) (vMake_L1_I s from_ to_ s0) (vMake_L1_S s from_ to_ s0 s4) from (EvHead.of (vMake_L1_ok s from_ to_ s0) (absB_of [3] [] kq (.consn kq (.eqv tq rfl) (.consn kq (.eqv tq rfl) (.consn kq (.fn .nil) (.consn kq (.nln tq) (.consn kq (.eqv tq rfl) (.consn kq (.eqv tq rfl) (.consn kq (.eqv tq rfl) .nil))))))) (.cons (.old rfl rfl (.cells (.pl rfl pq))) (.cons (.old rfl rfl (.cells (.cons (.eqv tq rfl) (.cons (.eqv tq rfl) (.cons (.eqv tq rfl) (.cons .nl0 .nil)))))) (.cons (.old rfl rfl (.cells (.pl rfl pq))) (.cons (.none rfl (Nat.le_refl _) rfl) .nil))))) h4)) (ac h5 (ac h6 (ac (pq (p := Pl false ((s4.1.flatMap Ex.cells)))) (ac (pPack_ok (s4.1) _ h7) (ac h8 an)))))))))) tq) fun h8 h8p => by intro e; injection e with e; subst e; exact leafR vw_eq (k := 300) (r := []) (hs := hz [(4, [.fc]), (2, [.fres (.tu [Po.av (s0.1), .i (s0.2)])]), (5, [.fc]), (3, [.no]), (3, [.no]), (3, [.no]), (9, [.head (vMake_L1_S s from_ to_ s0 s4)]), (1, [.no]), (3, [.yes, .yes, .fres (.tu [exs (s7.1), .i (s7.2)])]), (7, [.no]), (8, [.fc]), (2, [.fc])]) (raw := (AV.tu [(AV.ag [(AV.i s.blocks), (AV.i from_), (AV.i to_), (exs s7.1)]), (AV.i 0)])) kq (ac (sPoint_ok (s) (to_) _ h0) (ac h1 (ac h2 (ac h3 (ac (show EvHead Try.prog cf (lp Try.prog 27 0) (vMake_L1_I s from_ to_ s0) (vMake_L1_S s from_ to_ s0 s4) from (EvHead.of (vMake_L1_ok s from_ to_ s0) (absB_of [3] [] kq (.consn kq (.eqv tq rfl) (.consn kq (.eqv tq rfl) (.consn kq (.fn .nil) (.consn kq (.nln tq) (.consn kq (.eqv tq rfl) (.consn kq (.eqv tq rfl) (.consn kq (.eqv tq rfl) .nil))))))) (.cons (.old rfl rfl (.cells (.pl rfl pq))) (.cons (.old rfl rfl (.cells (.cons (.eqv tq rfl) (.cons (.eqv tq rfl) (.cons (.eqv tq rfl) (.cons .nl0 .nil)))))) (.cons (.old rfl rfl (.cells (.pl rfl pq))) (.cons (.none rfl (Nat.le_refl _) rfl) .nil))))) h4)) (ac h5 (ac h6 (ac (pq (p := Pl false ((s4.1.flatMap Ex.cells)))) (ac (pPack_ok (s4.1) _ h7) (ac h8 an)))))))))) tq
noncomputable abbrev vDenote_L0_I (blocks : Int) (l : List Ex) (s : Sm) (gen : Int) (s0 : Bool) : St := (St.mk [(0, (exs s.list)), (1, (AV.i gen)), (2, (AV.fn (29 : Nat) ([] : List AV))), (6, AV.nl), (10, (exs s.list)), (11, (AV.i (s.list.length : Int))), (12, (AV.i 0))] 41 (AH.mk 1 [(0, (AObj.cells [(AV.i s.blocks), (AV.i s.parent), (AV.i s.target), (exs s.list)]))]) false)
noncomputable abbrev vDenote_L0_S (blocks : Int) (l : List Ex) (s : Sm) (gen : Int) (s0 : Bool) (s3 : List Ex × Int) : St := (St.mk [(0, (exs s.list)), (1, (AV.i gen)), (2, (AV.fn (29 : Nat) ([] : List AV))), (6, (AV.rf 1 5 0 s3.1.length)), (10, (exs s.list)), (11, (AV.i (s.list.length : Int))), (12, (AV.i s3.2))] 41 (AH.mk 2 [(0, (AObj.cells [(AV.i s.blocks), (AV.i s.parent), (AV.i s.target), (exs s.list)])), (1, (AObj.cells (s3.1.flatMap Ex.cells)))]) false)
noncomputable def vDenote_L0_step (blocks : Int) (l : List Ex) (s : Sm) (gen : Int) (s0 : Bool) (s3 : List Ex × Int) : Option (List Ex × Int) :=
 (tb ((decide (s3.2 < (s.list.length : Int)))) (tp ((((0 : Int) ≤ s3.2) ∧ (s3.2 < (s.list.length : Int)))) (tp ((((↑(List.length (exAt s.list s3.2.toNat).d) : Int) = (↑(List.length (exAt s.list s3.2.toNat).d) : Int)) ∧ (((0 : Int) ≤ (↑(List.length (exAt s.list s3.2.toNat).d) : Int)) ∧ ((↑(List.length (exAt s.list s3.2.toNat).d) : Int) ≤ (4294967296 : Int))))) (tp ((((List.length (s3.1.flatMap Ex.cells)) = (s3.1.length * 5)) ∧ ((s3.1.length + (1 : Nat)) ≤ (4294967296 : Nat)))) (some (((s3.1 ++ [(Ex.mk (exAt s.list s3.2.toNat).lba (exAt s.list s3.2.toNat).len (exAt s.list s3.2.toNat).kind gen (List.take ((Int.toNat (↑(List.length (exAt s.list s3.2.toNat).d) : Int)) * 1) (((List.take 0 (List.replicate (Int.toNat (↑(List.length (exAt s.list s3.2.toNat).d) : Int)) (UInt8.ofNat (0 : Nat)))) ++ (List.take ((Min.min (List.length (exAt s.list s3.2.toNat).d) (Int.toNat (↑(List.length (exAt s.list s3.2.toNat).d) : Int))) * 1) (exAt s.list s3.2.toNat).d)) ++ (List.drop ((0 : Nat) + (List.length (List.take ((Min.min (List.length (exAt s.list s3.2.toNat).d) (Int.toNat (↑(List.length (exAt s.list s3.2.toNat).d) : Int))) * 1) (List.map AV.y (exAt s.list s3.2.toNat).d)))) (List.replicate (Int.toNat (↑(List.length (exAt s.list s3.2.toNat).d) : Int)) (UInt8.ofNat (0 : Nat)))))))]), (wr (s3.2 + (1 : Int))))))))) none)
theorem vDenote_L0_ok (blocks : Int) (l : List Ex) (s : Sm) (gen : Int) (s0 : Bool) (s3 zz : List Ex × Int) : vDenote_L0_step blocks l s gen s0 s3 = some zz → EvStep Try.prog cf 1 (lp Try.prog 27 0) (vDenote_L0_S blocks l s gen s0 s3) (vDenote_L0_S blocks l s gen s0 zz) := by
  unfold vDenote_L0_step
  exact tbD (fun h4 h4p => tp_ok fun h5 => tp_ok fun h6 => tp_ok fun h7 => by intro e; injection e with e; subst e; exact leafS vw_eq (k := 300) (r := []) (hs := hz [(1, [.yes, .yes, .yes, .cells ((Ex.cells (exAt s.list s3.2.toNat)))]), (2, [.fc]), (2, [.fc]), (9, [.yes]), (5, [.yes, .yes]), (15, [.fc, .fc, .yes, .yes]), (3, [])]) (ks := [0, 1, 2, 6, 10, 11, 12]) (st1 := (St.mk [(0, (exs s.list)), (1, (AV.i gen)), (2, (AV.fn (29 : Nat) ([] : List AV))), (6, (AV.rf 6 5 0 (s3.1.length + (1 : Nat)))), (10, (exs s.list)), (11, (AV.i (s.list.length : Int))), (12, (AV.i (wr (s3.2 + (1 : Int)))))] 41 (AH.mk 7 [(6, (AObj.cells ((s3.1.flatMap Ex.cells) ++ [(AV.i (exAt s.list s3.2.toNat).lba), (AV.i (exAt s.list s3.2.toNat).len), (AV.i (exAt s.list s3.2.toNat).kind), (AV.i gen), (AV.rf 4 1 0 (Int.toNat (↑(List.length (exAt s.list s3.2.toNat).d) : Int)))]))), (5, (AObj.cells [(AV.i (exAt s.list s3.2.toNat).lba), (AV.i (exAt s.list s3.2.toNat).len), (AV.i (exAt s.list s3.2.toNat).kind), (AV.i gen), (AV.rf 4 1 0 (Int.toNat (↑(List.length (exAt s.list s3.2.toNat).d) : Int)))])), (4, (AObj.cells (((List.take 0 (List.flatten (List.replicate (Int.toNat (↑(List.length (exAt s.list s3.2.toNat).d) : Int)) [(AV.y (UInt8.ofNat (0 : Nat)))]))) ++ (List.take ((Min.min (List.length (exAt s.list s3.2.toNat).d) (Int.toNat (↑(List.length (exAt s.list s3.2.toNat).d) : Int))) * 1) (List.map AV.y (exAt s.list s3.2.toNat).d))) ++ (List.drop ((0 : Nat) + (List.length (List.take ((Min.min (List.length (exAt s.list s3.2.toNat).d) (Int.toNat (↑(List.length (exAt s.list s3.2.toNat).d) : Int))) * 1) (List.map AV.y (exAt s.list s3.2.toNat).d)))) (List.flatten (List.replicate (Int.toNat (↑(List.length (exAt s.list s3.2.toNat).d) : Int)) [(AV.y (UInt8.ofNat (0 : Nat)))])))))), (3, (AObj.cells (xc (exAt s.list s3.2.toNat)))), (2, (AObj.cells (xc (exAt s.list s3.2.toNat)))), (0, (AObj.cells [(AV.i s.blocks), (AV.i s.parent), (AV.i s.target), (exs s.list)])), (1, AObj.dead)]) false)) kq (ac h4 (ac h5 (ac (fq (p := ((5 : Nat) ≤ (List.length (List.drop (s3.2.toNat * 5) (s.list.flatMap Ex.cells)))))) (ac (show (List.take 5 (List.drop (s3.2.toNat * 5) (s.list.flatMap Ex.cells))) = (Ex.cells (exAt s.list s3.2.toNat)) from (ex_takeO bq bq)) (ac h6 (ac (tq (p := ((List.length (List.map AV.y (exAt s.list s3.2.toNat).d)) = ((List.length (exAt s.list s3.2.toNat).d) * 1)))) (ac (tq (p := (((0 : Nat) + ((Int.toNat (↑(List.length (exAt s.list s3.2.toNat).d) : Int)) * 1)) ≤ (List.length (List.flatten (List.replicate (Int.toNat (↑(List.length (exAt s.list s3.2.toNat).d) : Int)) [(AV.y (UInt8.ofNat (0 : Nat)))])))))) (ac (tq (p := (((0 : Nat) = (0 : Nat)) ∧ ((List.length [(AV.i (exAt s.list s3.2.toNat).lba), (AV.i (exAt s.list s3.2.toNat).len), (AV.i (exAt s.list s3.2.toNat).kind), (AV.i gen), (AV.rf 4 1 0 (Int.toNat (↑(List.length (exAt s.list s3.2.toNat).d) : Int)))]) = (5 : Nat))))) (ac h7 an))))))))) (Nat.le_of_ble_eq_true rfl) (Nat.le_of_ble_eq_true rfl) (absB_of [6] [4] kq (.consn kq (.eqv tq rfl) (.consn kq (.eqv tq rfl) (.consn kq (.fn .nil) (.consn kq (.rfn (n := (s3.1.length + (1 : Nat))) rfl tq) (.consn kq (.eqv tq rfl) (.consn kq (.eqv tq rfl) (.consn kq (.eqv tq rfl) .nil))))))) (.cons (.old rfl rfl (.cells (.pl rfl pq))) (.cons (.old rfl rfl (.cells (.cast rfl tq (.app (.pl rfl pq) (.cons (.eqv rfl rfl) (.cons (.eqv rfl rfl) (.cons (.eqv rfl rfl) (.cons (.eqv rfl rfl) (.cons (.frzn rfl tq pq (by simp) rfl) .nil))))))))) .nil)))) fun h4 h4p => tn_ok
noncomputable def vDenote (blocks : Int) (l : List Ex) (s : Sm) (gen : Int) : Option (List Ex × Int) :=
 (tc (vCheck (s)) fun s0 => (tb ((!s0)) (some ((([] : List Ex), (170 : Int)))) (tb ((s.blocks != blocks)) (some ((([] : List Ex), (170 : Int)))) (th (vDenote_L0_step blocks l s gen s0) ((([] : List Ex), (0 : Int))) fun s3 => (tb ((decide (s3.2 < (s.list.length : Int)))) none (tp ((((0 : Nat) = (0 : Nat)) ∧ ((List.length (s3.1.flatMap Ex.cells)) = (s3.1.length * 5)))) (tc (mLay (blocks) (l) (s3.1)) fun s6 => (tb ((s6.2 != (0 : Int))) (some ((([] : List Ex), s6.2))) (some ((s6.1, (0 : Int))))))))))))
abbrev vDenote_G (blocks : Int) (l : List Ex) (s : Sm) (gen : Int) (r : List Ex × Int) : Prop := EvFr Try.prog cf false 11 [.i (blocks), exs (l), Sm.av (s), .i (gen)] (.tu [exs (r.1), .i (r.2)])
theorem vDenote_ok (blocks : Int) (l : List Ex) (s : Sm) (gen : Int) (r : List Ex × Int) : vDenote blocks l s gen = some r → vDenote_G blocks l s gen r := by
  unfold vDenote
  exact tc_ok fun s0 h0 => tb_ok (fun h1 => by intro e; injection e with e; subst e; exact leafR vw_eq (k := 300) (r := []) (hs := hz [(4, [.fc]), (1, [.fres (.b (s0))]), (2, [.yes, .yes, .yes, .yes, .yes]), (3, [])]) (raw := (AV.tu [(AV.sl 0 ([] : List AV)), (AV.i 170)])) kq (ac (vCheck_ok (s) _ h0).any0 (ac h1 (ac h1 (ac h1 (ac h1 (ac h1 an)))))) tq) fun h1 => tbN (fun h2 h2p => by intro e; injection e with e; subst e; exact leafR vw_eq (k := 300) (r := []) (hs := hz [(4, [.fc]), (1, [.fres (.b (s0))]), (2, [.no]), (1, [.no]), (2, [.no]), (1, [.no]), (1, [.no, .yes]), (2, [])]) (raw := (AV.tu [(AV.sl 0 ([] : List AV)), (AV.i 170)])) kq (ac (vCheck_ok (s) _ h0).any0 (ac h1 (ac h1 (ac h1 (ac h1 (ac h1 (ac h2 an))))))) tq) fun h2 h2p => th_ok fun s3 h3 => tbD (fun h4 h4p => tn_ok) fun h4 h4p => tp_ok fun h5 => tc_ok fun s6 h6 => tbN (fun h7 h7p => by intro e; injection e with e; subst e; exact leafR vw_eq (k := 300) (r := []) (hs := hz [(4, [.fc]), (1, [.fres (.b (s0))]), (2, [.no]), (1, [.no]), (2, [.no]), (1, [.no]), (1, [.no, .no]), (11, [.head (vDenote_L0_S blocks l s gen s0 s3)]), (1, [.no]), (3, [.yes, .yes, .fres (.tu [exs (s6.1), .i (s6.2)])]), (7, [.yes]), (3, [])]) (raw := (AV.tu [(AV.sl 0 ([] : List AV)), (AV.i s6.2)])) kq (ac (vCheck_ok (s) _ h0).any0 (ac h1 (ac h1 (ac h1 (ac h1 (ac h1 (ac h2 (ac (show EvHead Try.prog cf (lp Try.prog 27 0) (vDenote_L0_I blocks l s gen s0) (vDenote_L0_S blocks l s gen s0 s3) from (EvHead.of (vDenote_L0_ok blocks l s gen s0) (absB_of [1] [] kq (.consn kq (.eqv tq rfl) (.consn kq (.eqv tq rfl) (.consn kq (.fn .nil) (.consn kq (.nln tq) (.consn kq (.eqv tq rfl) (.consn kq (.eqv tq rfl) (.consn kq (.eqv tq rfl) .nil))))))) (.cons (.old rfl rfl (.cells (.pl rfl pq))) (.cons (.none rfl (Nat.le_refl _) rfl) .nil))) h3)) (ac h4 (ac h5 (ac (pq (p := Pl false ((s3.1.flatMap Ex.cells)))) (ac (mLay_ok (blocks) (l) (s3.1) _ h6) (ac h7 an))))))))))))) tq) fun h7 h7p => by intro e; injection e with e; subst e; exact leafR vw_eq (k := 300) (r := []) (hs := hz [(4, [.fc]), (1, [.fres (.b (s0))]), (2, [.no]), (1, [.no]), (2, [.no]), (1, [.no]), (1, [.no, .no]), (11, [.head (vDenote_L0_S blocks l s gen s0 s3)]), (1, [.no]), (3, [.yes, .yes, .fres (.tu [exs (s6.1), .i (s6.2)])]), (7, [.no]), (3, [])]) (raw := (AV.tu [(exs s6.1), (AV.i 0)])) kq (ac (vCheck_ok (s) _ h0).any0 (ac h1 (ac h1 (ac h1 (ac h1 (ac h1 (ac h2 (ac (show EvHead Try.prog cf (lp Try.prog 27 0) (vDenote_L0_I blocks l s gen s0) (vDenote_L0_S blocks l s gen s0 s3) from (EvHead.of (vDenote_L0_ok blocks l s gen s0) (absB_of [1] [] kq (.consn kq (.eqv tq rfl) (.consn kq (.eqv tq rfl) (.consn kq (.fn .nil) (.consn kq (.nln tq) (.consn kq (.eqv tq rfl) (.consn kq (.eqv tq rfl) (.consn kq (.eqv tq rfl) .nil))))))) (.cons (.old rfl rfl (.cells (.pl rfl pq))) (.cons (.none rfl (Nat.le_refl _) rfl) .nil))) h3)) (ac h4 (ac h5 (ac (pq (p := Pl false ((s3.1.flatMap Ex.cells)))) (ac (mLay_ok (blocks) (l) (s3.1) _ h6) (ac h7 an))))))))))))) tq
end Ab
end Go.Proofs.Ytpflcogplhigcaa
namespace Go.Proofs.Ytpflcogplhigcaa
open Go Go.Proofs.Ytpflcogplhigcaa.Ab
set_option linter.unusedVariables false
set_option linter.unusedSimpArgs false
namespace Ab
theorem cpd (d : List UInt8) : List.take ((Int.toNat ((d.length : Nat) : Int)) * 1) (((List.take 0 (List.replicate (Int.toNat ((d.length : Nat) : Int)) (UInt8.ofNat 0))) ++ (List.take ((Min.min d.length (Int.toNat ((d.length : Nat) : Int))) * 1) d)) ++ (List.drop (0 + (List.length (List.take ((Min.min d.length (Int.toNat ((d.length : Nat) : Int))) * 1) (List.map AV.y d)))) (List.replicate (Int.toNat ((d.length : Nat) : Int)) (UInt8.ofNat 0)))) = d := by
  simp
def ofL_ (p : Ex → Bool) (g : Int) (l : List Ex) : List Ex := (l.filter p).map (gn g)
theorem of_take (p : Ex → Bool) (g : Int) (l : List Ex) (i : Nat) (hi : i < l.length) : ofL_ p g (l.take (i + 1)) = ofL_ p g (l.take i) ++ (if p (exAt l i) = true then [gn g (exAt l i)] else []) := by
  unfold ofL_
  rw [ex_take1 l i hi, List.filter_append, List.map_append]
  by_cases h : p (exAt l i) = true
  · rw [if_pos h]; simp [List.filter_cons, h]
  · rw [if_neg h]; simp [List.filter_cons, h]
theorem of_len (p : Ex → Bool) (g : Int) (l : List Ex) : (ofL_ p g l).length ≤ l.length := by
  unfold ofL_; rw [List.length_map]; exact List.length_filter_le _ _
def v0 : Sm := ⟨0, 0, 0, []⟩
def mkV (s : Sa) (a b : Int) (l : List Ex) : Sm × Int := if (pk l).2 ≠ 0 then (v0, (pk l).2) else (⟨s.blocks, a, b, (pk l).1⟩, 0)
noncomputable def makV (s : Sa) (a b : Int) : Sm × Int :=
  if (pnt s b).2 ≠ 0 then (v0, (pnt s b).2) else
  if a ≠ 0 then (if (pnt s a).2 ≠ 0 then (v0, (pnt s a).2) else if a ≥ b then (v0, 180) else mkV s a b (ofL_ (fun x => decide (x.gen > (pnt s a).1.gen)) 0 (pnt s b).1.map))
  else if a ≥ b then (v0, 180) else mkV s a b (ofL_ (fun x => x.kind != 0) 0 (pnt s b).1.map)
theorem pnt_sx {s : Sa} (h : Sz s) (id : Int) : Sx (pnt s id).1.map := by
  unfold pnt
  split
  · cases hf : fd s.points id with
    | none => exact ⟨by simp [fdv, po0], fun x hx => by cases hx⟩
    | some p => exact h.2.2.1 p (List.mem_of_find?_eq_some hf)
  · exact ⟨by simp [po0], fun x hx => by cases hx⟩
theorem vMake_eq {s : Sa} (h : Sz s) (a b : Int) : vMake s a b = some (makV s a b) := by
  unfold vMake makV
  rw [sPoint_eq h, tc_some, tb_bne]
  have hx := pnt_sx h b
  generalize pnt s b = q at hx
  by_cases h1 : q.2 = 0
  case neg => rw [if_neg h1, if_pos h1]; rfl
  rw [if_pos h1, if_neg (fun g => g h1), tb_bne]
  have hd := (exAt_all q.1.map (fun x => x.d.length ≤ 1000000)).2 hx.2
  have hxl := hx.1
  have key : ∀ (p : Ex → Bool) (step : List Ex × Int → Option (List Ex × Int)) (f : List Ex × Int → Option (Sm × Int)),
      (∀ (i : Nat) (o : List Ex), i < q.1.map.length → o.length ≤ 1000000 → step (o, (i : Int)) = some (o ++ (if p (exAt q.1.map i) = true then [gn 0 (exAt q.1.map i)] else []), (i : Int) + 1)) → (∀ o, step (o, (q.1.map.length : Int)) = none) →
      th step (([] : List Ex), 0) f = f (ofL_ p 0 q.1.map, (q.1.map.length : Int)) := by
    intro p step f hs he
    have := th_gath (step := step) (f := f) (fun i => ofL_ p 0 (q.1.map.take i)) q.1.map.length (fun i hi => by
      have hle := of_len p 0 (q.1.map.take i)
      rw [List.length_take] at hle
      rw [hs i _ hi (by omega), of_take p 0 _ i hi]) (he _)
    simp only [List.take_zero, List.take_length] at this
    exact this
  by_cases h2 : a = 0
  · rw [if_pos h2, if_neg (fun g => g h2), tb_dec]
    by_cases h3 : a ≥ b
    · rw [if_pos h3, if_pos h3]; rfl
    rw [if_neg h3, if_neg h3]
    refine (key (fun x => x.kind != 0) _ _ ?_ ?_).trans ?_
    · intro i o hi ho
      have h1 := hd i hi
      unfold vMake_L1_step
      simp only [tb_dec, tb_bne, Int.toNat_natCast]
      rw [if_pos (by omega), tp_pos (by omega), wr_id (x := (i : Int) + 1) (by omega) (by omega)]
      by_cases hk : (exAt q.1.map i).kind = 0
      · rw [if_pos hk, if_neg (by simp [hk])]; simp
      · rw [if_neg hk, if_pos (by simpa using hk), tp_pos ⟨by trivial, by omega, by omega⟩, tp_pos ⟨exs_len _, by omega⟩]
        exact congrArg (fun d => some (o ++ [(⟨(exAt q.1.map i).lba, (exAt q.1.map i).len, (exAt q.1.map i).kind, 0, d⟩ : Ex)], (i : Int) + 1)) (cpd _)
    · intro o
      unfold vMake_L1_step
      simp only [tb_dec]
      rw [if_neg (by omega)]
    · dsimp only
      rw [tb_dec, if_neg (by omega), tp_pos ⟨rfl, exs_len _⟩, pPack_eq, tc_some, tb_bne]
      unfold mkV
      by_cases h4 : (pk (ofL_ (fun x => x.kind != 0) 0 q.1.map)).2 = 0
      · rw [if_pos h4, if_neg (fun g => g h4)]
      · rw [if_neg h4, if_pos h4]; rfl
  · rw [if_neg h2, if_pos h2, sPoint_eq h, tc_some, tb_bne]
    generalize pnt s a = r
    by_cases h5 : r.2 = 0
    case neg => rw [if_neg h5, if_pos h5]; rfl
    rw [if_pos h5, if_neg (fun g => g h5), tb_dec]
    by_cases h3 : a ≥ b
    · rw [if_pos h3, if_pos h3]; rfl
    rw [if_neg h3, if_neg h3]
    refine (key (fun x => decide (x.gen > r.1.gen)) _ _ ?_ ?_).trans ?_
    · intro i o hi ho
      have h1 := hd i hi
      unfold vMake_L0_step
      simp only [tb_dec, Int.toNat_natCast]
      rw [if_pos (by omega), tp_pos (by omega), wr_id (x := (i : Int) + 1) (by omega) (by omega)]
      by_cases hk : (exAt q.1.map i).gen > r.1.gen
      · rw [if_pos hk, if_pos (decide_eq_true hk), tp_pos ⟨by trivial, by omega, by omega⟩, tp_pos ⟨exs_len _, by omega⟩]
        exact congrArg (fun d => some (o ++ [(⟨(exAt q.1.map i).lba, (exAt q.1.map i).len, (exAt q.1.map i).kind, 0, d⟩ : Ex)], (i : Int) + 1)) (cpd _)
      · rw [if_neg hk, if_neg (by simpa using hk)]; simp
    · intro o
      unfold vMake_L0_step
      simp only [tb_dec]
      rw [if_neg (by omega)]
    · dsimp only
      rw [tb_dec, if_neg (by omega), tp_pos ⟨rfl, exs_len _⟩, pPack_eq, tc_some, tb_bne]
      unfold mkV
      by_cases h4 : (pk (ofL_ (fun x => decide (x.gen > r.1.gen)) 0 q.1.map)).2 = 0
      · rw [if_pos h4, if_neg (fun g => g h4)]
      · rw [if_neg h4, if_pos h4]; rfl
theorem vDenote_eq {blocks : Int} {l : List Ex} {s : Sm} {gen : Int} (hl : l.length ≤ 4294967296) (hc : vCheck s = some true) (hb : s.blocks = blocks) (hn : s.list.length ≤ 64) (hd : ∀ x ∈ s.list, x.d.length ≤ 1000000) :
    vDenote blocks l s gen = some (if (lays blocks l (s.list.map (gn gen))).2 = 0 then ((lays blocks l (s.list.map (gn gen))).1, 0) else ([], (lays blocks l (s.list.map (gn gen))).2)) := by
  unfold vDenote
  rw [hc, tc_some, tb_not, tb_t, tb_bne, if_pos hb]
  have hd' := (exAt_all s.list (fun x => x.d.length ≤ 1000000)).2 hd
  have := fun s0 f => th_gath (α := List Ex × Int) (step := vDenote_L0_step blocks l s gen s0) (f := f) (fun i => (s.list.take i).map (gn gen)) s.list.length (fun i hi => by
    have h1 := hd' i hi
    unfold vDenote_L0_step
    simp only [tb_dec, Int.toNat_natCast]
    rw [if_pos (by omega), tp_pos (by omega), tp_pos ⟨by trivial, by omega, by omega⟩, tp_pos ⟨exs_len _, by rw [List.length_map, List.length_take]; omega⟩, wr_id (x := (i : Int) + 1) (by omega) (by omega), ex_take1 s.list i hi, List.map_append]
    exact congrArg (fun d => some ((s.list.take i).map (gn gen) ++ [(⟨(exAt s.list i).lba, (exAt s.list i).len, (exAt s.list i).kind, gen, d⟩ : Ex)], (i : Int) + 1)) (cpd _)) (by
    unfold vDenote_L0_step
    simp only [tb_dec]
    rw [if_neg (by omega)])
  simp only [List.take_zero, List.map_nil, List.take_length] at this
  rw [this]
  rw [tb_dec, if_neg (by omega), tp_pos ⟨rfl, exs_len _⟩, mLay_eq _ _ _ hl (by simp; omega), tc_some, tb_bne]
  split <;> rfl
end Ab
end Go.Proofs.Ytpflcogplhigcaa
namespace Go.Proofs.Ytpflcogplhigcaa
open Go Go.Proofs.Ytpflcogplhigcaa.Ab
set_option linter.unusedVariables false
set_option linter.unusedSimpArgs false
namespace Ab
def s1 (b : Int) : Sa := ⟨b, 1, new b, [], 0, []⟩
end Ab
end Go.Proofs.Ytpflcogplhigcaa
namespace Go.Proofs.Ytpflcogplhigcaa
open Go Go.Proofs.Ytpflcogplhigcaa.Ab
set_option linter.unusedVariables false
set_option linter.unusedSimpArgs false
namespace Ab
theorem kp_trans {b : Int} {A B C : List Ex} {g h : Int} (hB : Mk b B) (hC : Mk b C) (hg : g ≤ h) (h1 : Kp A B g) (h2 : Kp B C h) : Kp A C g := by
  intro x hx hxg y hy k k1 k2 k3 k4
  have hsub : ∀ z ∈ [x], z ∈ C := fun z hz => by
    have e : z = x := by simpa using hz
    rw [e]; exact hx
  have fx := (mk_same hC hsub).1 x (by simp)
  have px := ck_pos fx.1
  obtain ⟨z, hz, q1, q2⟩ := ch_cov (mk_ch hB) (k := k) (by omega) (by have := hB.2.2; have := fx.2; omega)
  have e1 := h2 x hx (by omega) z hz k k1 k2 q1 q2
  have e2 : x.gen = z.gen := congrArg (fun c : Int × Int × List UInt8 => c.2.1) e1
  exact e1.trans (h1 z hz (by omega) y hy k q1 q2 k3 k4)
theorem ids_nn {s : Sa} (h : SOk s) : ∀ i, i ≤ s.points.length → 0 ≤ (pv s i).id ∧ 0 ≤ (pv s i).gen
  | 0, _ => by simp [pv]
  | i + 1, hi => by
    have := ids_nn h i (by omega)
    have hp := h.2.2.2.2.2.2.2.1 i (by omega)
    rw [pv_succ]
    have h1 := hp.2.1
    have h2 := hp.2.2.2.1
    omega
theorem ids_lt {s : Sa} (h : SOk s) {i : Nat} : ∀ j, i < j → j < s.points.length → (poAt s.points i).id < (poAt s.points j).id
  | 0, hij, _ => by omega
  | j + 1, hij, hj => by
    have hp := (h.2.2.2.2.2.2.2.1 (j + 1) hj).2.1
    rw [pv_succ] at hp
    rcases Nat.lt_or_ge i j with g | g
    · have := ids_lt h j g (by omega); omega
    · have : i = j := by omega
      subst this; exact hp
theorem id_ok {s : Sa} (h : SOk s) {i : Nat} (hi : i < s.points.length) : 1 ≤ (poAt s.points i).id ∧ (poAt s.points i).id ≤ s.last ∧ s.last ≤ 2147483647 := by
  have hp := h.2.2.2.2.2.2.2.1 i hi
  have := ids_nn h i (by omega)
  have h1 := hp.2.1
  have h2 := hp.2.2.1
  have h3 := h.2.2.2.2.2.1
  omega
theorem po_get (l : List Po) {i : Nat} (h : i < l.length) : poAt l i = l[i] := by simp [poAt, h]
theorem fd_at {s : Sa} (h : SOk s) {k : Nat} (hk : k < s.points.length) : pnt s (poAt s.points k).id = (poAt s.points k, 0) := by
  unfold pnt
  rw [if_pos h]
  have : fd s.points (poAt s.points k).id = some (poAt s.points k) := by
    unfold fd
    rw [List.find?_eq_some_iff_getElem]
    refine ⟨beq_self_eq_true _, k, hk, (po_get _ hk).symm, fun j hj => ?_⟩
    have := ids_lt h k hj hk
    rw [← po_get s.points (by omega : j < s.points.length)]
    simp only [Bool.not_eq_true', beq_eq_false_iff_ne]
    omega
  rw [this]; rfl
end Ab
end Go.Proofs.Ytpflcogplhigcaa
namespace Go.Proofs.Ytpflcogplhigcaa
open Go Go.Proofs.Ytpflcogplhigcaa.Ab
set_option linter.unusedVariables false
set_option linter.unusedSimpArgs false
namespace Ab
theorem ch_so : ∀ {l : List Ex} {s : Int}, CH s l → So s l ∧ en s l = s + sl l
  | [], s, _ => ⟨trivial, by simp [en, sl]⟩
  | x :: l, s, h => by
    obtain ⟨h1, h2, _, h4⟩ := h
    rw [← h2] at h4
    have ih := ch_so h4
    exact ⟨⟨h1, by omega, ih.1⟩, by simp only [en, sl]; rw [ih.2]; omega⟩
theorem en_mono : ∀ {l : List Ex} {s t : Int}, t ≤ s → en t l ≤ en s l
  | [], s, t, h => h
  | x :: l, s, t, _ => Int.le_refl _
theorem so_filter (p : Ex → Bool) : ∀ {l : List Ex} {s : Int}, So s l → So s (l.filter p) ∧ en s (l.filter p) ≤ en s l
  | [], s, _ => ⟨trivial, Int.le_refl _⟩
  | x :: l, s, h => by
    obtain ⟨h1, h2, h3⟩ := h
    have ih := so_filter p h3
    have px := ck_pos h1
    by_cases q : p x = true
    · rw [List.filter_cons_of_pos q]; exact ⟨⟨h1, h2, ih.1⟩, ih.2⟩
    · rw [List.filter_cons_of_neg q]
      exact ⟨so_mono ih.1 (by omega), Int.le_trans (en_mono (by omega)) ih.2⟩
theorem ck_gn {x : Ex} (h : Ck x) {g : Int} (hg : 0 ≤ g ∧ g ≤ 2147483647) : Ck (gn g x) := by
  obtain ⟨h1, h2, h3, h4, h5, h6, _, _, h9, h10⟩ := h
  exact ⟨h1, h2, h3, h4, h5, h6, hg.1, hg.2, h9, h10⟩
theorem so_gn {g : Int} (hg : 0 ≤ g ∧ g ≤ 2147483647) : ∀ {l : List Ex} {s : Int}, So s l → So s (l.map (gn g)) ∧ en s (l.map (gn g)) = en s l
  | [], s, _ => ⟨trivial, rfl⟩
  | x :: l, s, h => by
    have ih := so_gn hg h.2.2
    exact ⟨⟨ck_gn h.1 hg, h.2.1, ih.1⟩, ih.2⟩
theorem so_len : ∀ {l : List Ex} {s : Int}, So s l → s + l.length ≤ en s l
  | [], s, _ => by simp [en]
  | x :: l, s, h => by
    have ih := so_len h.2.2
    have px := ck_pos h.1
    have h2 := h.2.1
    simp only [en, List.length_cons]
    omega
theorem of_so {b : Int} {m : List Ex} (h : Mk b m) (p : Ex → Bool) {g : Int} (hg : 0 ≤ g ∧ g ≤ 2147483647) : So 0 (ofL_ p g m) ∧ en 0 (ofL_ p g m) ≤ b ∧ (ofL_ p g m).length ≤ 64 := by
  obtain ⟨a, e⟩ := ch_so (mk_ch h)
  obtain ⟨a1, e1⟩ := so_filter p a
  obtain ⟨a2, e2⟩ := so_gn hg a1
  have hb := mk_blocks h
  have hs := h.2.2
  have hl := so_len a2
  unfold ofL_
  rw [e2] at hl ⊢
  exact ⟨a2, by omega, by omega⟩
theorem so_lsx {l : List Ex} (h : So 0 l) (hl : l.length ≤ 64) : Ls l := ⟨hl, so_lp h⟩
theorem add_gen {g : Int} {out : List Ex} {y : Ex} (h : ∀ x ∈ out, x.gen = g) (hy : y.gen = g) : ∀ x ∈ add out y, x.gen = g := by
  intro x hx
  unfold add at hx
  split at hx
  · rename_i q
    rcases List.mem_append.1 hx with q1 | q1
    · exact h x (List.dropLast_subset _ q1)
    · rw [List.mem_singleton] at q1
      subst q1
      have hm : out.getLastD ⟨0, 0, 0, 0, []⟩ ∈ out := by
        rw [snoc_of q.1]
        simp
      show (out.getLastD ⟨0, 0, 0, 0, []⟩).gen = g
      exact h _ hm
  · rcases List.mem_append.1 hx with q1 | q1
    · exact h x q1
    · rw [List.mem_singleton] at q1; subst q1; exact hy
theorem adds_gen {g : Int} : ∀ (ys out : List Ex), (∀ x ∈ out, x.gen = g) → (∀ x ∈ ys, x.gen = g) → ∀ x ∈ ys.foldl add out, x.gen = g
  | [], out, h, _ => h
  | y :: ys, out, h, hy => adds_gen ys _ (add_gen h (hy y (by simp))) fun x hx => hy x (by simp [hx])
theorem told_gen {x y : Ex} (hy : y ∈ told x) : y.gen = x.gen := by
  unfold told at hy
  split at hy
  · obtain ⟨z, _, rfl⟩ := List.mem_map.1 hy; rfl
  · rw [List.mem_singleton] at hy; subst hy; rfl
theorem adds_en : ∀ (ys out : List Ex), So 0 out → NJ out → (∀ x ∈ out, Gd x) → So (en 0 out) ys → (∀ x ∈ ys, Gd x) → en 0 (ys.foldl add out) = en (en 0 out) ys
  | [], out, _, _, _, _, _ => rfl
  | y :: ys, out, h1, h2, h3, h4, h5 => by
    obtain ⟨a, b, c, d⟩ := add_so h1 h2 h3 h4.1 (h5 y (by simp)) h4.2.1
    rw [List.foldl_cons, adds_en ys _ a b c (by rw [d]; exact h4.2.2) (fun x hx => h5 x (by simp [hx])), d]
    rfl
theorem pk_all {l : List Ex} {b : Int} (h : So 0 l) (he : en 0 l ≤ b) (hb : b ≤ 64) (hg : ∀ x ∈ l, x.gen = 0) : (pk l).2 = 0 ∧ So 0 (pk l).1 ∧ NJ (pk l).1 ∧ (∀ x ∈ (pk l).1, Gd x ∧ x.gen = 0) ∧ en 0 (pk l).1 ≤ b ∧ (pk l).1.length ≤ 64 := by
  have hl := so_len h
  have hls := so_lsx h (by omega)
  obtain ⟨p1, p2, p3, p4, p5⟩ := pk_spec hls
  obtain ⟨t1, t2, t3⟩ := tolds_so l 0 h
  have hen : en 0 (pk l).1 = en 0 l := by
    rw [p5, adds_en _ [] trivial trivial (fun x hx => by cases hx) t1 t3]
    exact t2
  have hgen : ∀ x ∈ (pk l).1, x.gen = 0 := by
    rw [p5]
    refine adds_gen _ [] (fun x hx => by cases hx) fun x hx => ?_
    obtain ⟨z, hz, q⟩ := List.mem_flatMap.1 hx
    rw [told_gen q, hg z hz]
  have hl2 := so_len p1
  exact ⟨p4, p1, p2, fun x hx => ⟨p3 x hx, hgen x hx⟩, by omega, by omega⟩
theorem mkV_ok {s : Sa} {a c : Int} {m : List Ex} (hm : Mk s.blocks m) (p : Ex → Bool) (ha : 0 ≤ a ∧ a < c) (hc : 1 ≤ c ∧ c ≤ 2147483647) :
    mkV s a c (ofL_ p 0 m) = (⟨s.blocks, a, c, (pk (ofL_ p 0 m)).1⟩, 0) ∧ vCheck ⟨s.blocks, a, c, (pk (ofL_ p 0 m)).1⟩ = some true ∧ So 0 (pk (ofL_ p 0 m)).1 ∧ en 0 (pk (ofL_ p 0 m)).1 ≤ s.blocks ∧ (pk (ofL_ p 0 m)).1.length ≤ 64 := by
  have hb := mk_blocks hm
  obtain ⟨o1, o2, o3⟩ := of_so hm p (g := 0) (by omega)
  have og : ∀ x ∈ ofL_ p 0 m, x.gen = 0 := fun x hx => by
    obtain ⟨y, _, rfl⟩ := List.mem_map.1 hx; rfl
  obtain ⟨q1, q2, q3, q4, q5, q6⟩ := pk_all o1 o2 hb.2 og
  refine ⟨by unfold mkV; rw [if_neg (fun g => g q1)], vCheck_ok' hb hc ha q6 q2 q3 q4 q5, q2, q5, q6⟩
theorem so_fit8 {b : Int} {l : List Ex} (h : So 0 l) (he : en 0 l ≤ b) : ∀ x ∈ l, Fit8 b x := fun x hx => ⟨(so_ck h x hx).1, by have := so_le h x hx; omega⟩
theorem den_ok {b a c gen : Int} {m l : List Ex} (hm : Mk b m) (hl : l.length ≤ 64) (h : So 0 l) (he : en 0 l ≤ b) (hg : 0 ≤ gen ∧ gen ≤ 2147483647) (hc : vCheck ⟨b, a, c, l⟩ = some true) : vDenote b m ⟨b, a, c, l⟩ gen = some ((l.map (gn gen)).foldl put m, 0) ∧ Mk b ((l.map (gn gen)).foldl put m) := by
  obtain ⟨g1, g2⟩ := so_gn hg h
  have hf := so_fit8 g1 (by rw [g2]; exact he)
  have hlen := mk_len hm
  rw [vDenote_eq (by omega) hc rfl hl fun x hx => by have := ck_dlen (so_ck h x hx).1; omega]
  have hlay : lays b m (l.map (gn gen)) = ((l.map (gn gen)).foldl put m, 0) := by unfold lays; rw [if_pos hm, if_pos hf]
  show some (if (lays b m (l.map (gn gen))).2 = 0 then _ else _) = _ ∧ _
  rw [hlay]
  exact ⟨rfl, puts_mk _ _ hm hf⟩
end Ab
end Go.Proofs.Ytpflcogplhigcaa
namespace Go.Proofs.Ytpflcogplhigcaa
open Go Go.Proofs.Ytpflcogplhigcaa.Ab
set_option linter.unusedVariables false
set_option linter.unusedSimpArgs false
set_option maxRecDepth 1000000
set_option maxHeartbeats 0
namespace Ab
noncomputable abbrev alike18_L0_I (blocks : Int) (a : List Ex) (b : List Ex) (s0 : List Ce × Int) (s1 : List Ce × Int) : St := (St.mk [(0, (AV.i blocks)), (1, (exs a)), (2, (exs b)), (6, (AV.b false)), (13, (AV.i blocks)), (14, (exs a)), (15, (AV.tu [(ces s0.1), (AV.i s0.2)])), (12, (AV.tu [(ces s0.1), (AV.i s0.2)])), (16, (ces s0.1)), (17, (AV.i s0.2)), (7, (ces s0.1)), (8, (AV.i s0.2)), (19, (AV.i blocks)), (20, (exs b)), (21, (AV.tu [(ces s1.1), (AV.i s1.2)])), (18, (AV.tu [(ces s1.1), (AV.i s1.2)])), (22, (ces s1.1)), (23, (AV.i s1.2)), (9, (ces s1.1)), (10, (AV.i s1.2)), (24, (AV.i s0.2)), (25, (AV.b (s0.2 != (0 : Int)))), (26, (AV.b (s0.2 != (0 : Int)))), (27, (AV.i s1.2)), (28, (AV.b (s1.2 != (0 : Int)))), (29, (AV.b (s1.2 != (0 : Int)))), (30, (AV.b (s1.2 != (0 : Int)))), (31, (ces s0.1)), (32, (AV.i (s0.1.length : Int))), (33, (ces s1.1)), (34, (AV.i (s1.1.length : Int))), (35, (AV.b ((s0.1.length : Int) != (s1.1.length : Int)))), (36, (AV.b ((s0.1.length : Int) != (s1.1.length : Int)))), (11, (AV.i 0))] 69 (AH.mk 0 ([] : List (Prod Nat AObj))) false)
noncomputable abbrev alike18_L0_S (blocks : Int) (a : List Ex) (b : List Ex) (s0 : List Ce × Int) (s1 : List Ce × Int) (s5 : Int) : St := (St.mk [(0, (AV.i blocks)), (1, (exs a)), (2, (exs b)), (7, (ces s0.1)), (8, (AV.i s0.2)), (9, (ces s1.1)), (10, (AV.i s1.2)), (36, (AV.b ((s0.1.length : Int) != (s1.1.length : Int)))), (11, (AV.i s5))] 69 (AH.mk 0 ([] : List (Prod Nat AObj))) false)
noncomputable def alike18_L0_step (blocks : Int) (a : List Ex) (b : List Ex) (s0 : List Ce × Int) (s1 : List Ce × Int) (s5 : Int) : Option (Int) :=
 (tb ((decide (s5 < (s0.1.length : Int)))) (tp ((((0 : Int) ≤ s5) ∧ (s5 < (s0.1.length : Int)))) (tp ((((0 : Int) ≤ s5) ∧ (s5 < (s1.1.length : Int)))) (tb ((!((pad 32 (ceAt s0.1 s5.toNat).d) == (pad 32 (ceAt s1.1 s5.toNat).d)))) none (tb ((!(((ceAt s0.1 s5.toNat).kind == (0 : Int)) == ((ceAt s1.1 s5.toNat).kind == (0 : Int))))) none (some ((wr (s5 + (1 : Int))))))))) none)
theorem alike18_L0_ok (blocks : Int) (a : List Ex) (b : List Ex) (s0 : List Ce × Int) (s1 : List Ce × Int) (s5 zz : Int) : alike18_L0_step blocks a b s0 s1 s5 = some zz → EvStep Try.prog cf 0 (lp Try.prog 16 0) (alike18_L0_S blocks a b s0 s1 s5) (alike18_L0_S blocks a b s0 s1 zz) := by
  unfold alike18_L0_step
  exact tbD (fun h6 h6p => tp_ok fun h7 => tp_ok fun h8 => tb_ok (fun h9 => tn_ok) fun h9 => tb_ok (fun h10 => tn_ok) fun h10 => by intro e; injection e with e; subst e; exact leafIS vw_eq (k := 300) (r := []) (hs := hz [(4, [.yes]), (2, [.yes]), (1, [.yes, .cells ((List.map AV.y (pad 32 (ceAt s0.1 s5.toNat).d)))]), (2, [.yes]), (1, [.yes, .cells ((List.map AV.y (pad 32 (ceAt s1.1 s5.toNat).d))), .yes, .truth (((pad 32 (ceAt s0.1 s5.toNat).d) == (pad 32 (ceAt s1.1 s5.toNat).d)))]), (1, [.no]), (1, [.no]), (1, [.no, .yes, .no]), (1, [.no, .yes, .val ((AV.i (ceAt s0.1 s5.toNat).kind)), .no]), (1, [.no]), (1, [.no]), (1, [.no, .yes, .no]), (1, [.no, .yes, .val ((AV.i (ceAt s1.1 s5.toNat).kind)), .no]), (1, [.no]), (1, [.no, .yes, .no]), (3, [])]) (ks := [0, 1, 2, 7, 8, 9, 10, 36, 11]) (bs := []) kq (ac h6 (ac h7 (ac (fq (p := ((32 : Nat) ≤ (List.length (List.drop 2 (List.drop (s5.toNat * 34) (s0.1.flatMap Ce.cells))))))) (ac (show (List.take 32 (List.drop 2 (List.drop (s5.toNat * 34) (s0.1.flatMap Ce.cells)))) = (List.map AV.y (pad 32 (ceAt s0.1 s5.toNat).d)) from (by first | exact ce_arr _ _ bq | ((try simp only [List.drop_drop]); first | exact ce_arr _ _ bq | (rw [show ((2 : Nat) + (s5.toNat * 34)) = (s5.toNat) * 34 + 2 by omega]; exact ce_arr _ _ bq)) | (simp [ceAt, pad_of (pad_len _ _), List.take_of_length_le]; done))) (ac h8 (ac (fq (p := ((32 : Nat) ≤ (List.length (List.drop 2 (List.drop (s5.toNat * 34) (s1.1.flatMap Ce.cells))))))) (ac (show (List.take 32 (List.drop 2 (List.drop (s5.toNat * 34) (s1.1.flatMap Ce.cells)))) = (List.map AV.y (pad 32 (ceAt s1.1 s5.toNat).d)) from (by first | exact ce_arr _ _ bq | ((try simp only [List.drop_drop]); first | exact ce_arr _ _ bq | (rw [show ((2 : Nat) + (s5.toNat * 34)) = (s5.toNat) * 34 + 2 by omega]; exact ce_arr _ _ bq)) | (simp [ceAt, pad_of (pad_len _ _), List.take_of_length_le]; done))) (ac (tq (p := (((List.length (List.map AV.y (pad 32 (ceAt s0.1 s5.toNat).d))) = (32 : Nat)) ∧ ((List.length (List.map AV.y (pad 32 (ceAt s1.1 s5.toNat).d))) = (32 : Nat))))) (ac (show eqCells ((List.map AV.y (pad 32 (ceAt s0.1 s5.toNat).d))) ((List.map AV.y (pad 32 (ceAt s1.1 s5.toNat).d))) = some (((pad 32 (ceAt s0.1 s5.toNat).d) == (pad 32 (ceAt s1.1 s5.toNat).d))) from (eqCells_of tq tq tq)) (ac h9 (ac h9 (ac h9 (ac h7 (ac h9 (ac h9 (ac (fq (p := ((1 : Nat) ≤ (List.length (List.drop (s5.toNat * 34) (s0.1.flatMap Ce.cells)))))) (ac (show (List.take 1 (List.drop (s5.toNat * 34) (s0.1.flatMap Ce.cells))) = [(AV.i (ceAt s0.1 s5.toNat).kind)] from (by first | exact ce_one0 _ _ _ bq rfl | (simpa using ce_one (s0.1) (s5.toNat) 0 _ bq rfl))) (ac h9 (ac h9 (ac h9 (ac h9 (ac h8 (ac h9 (ac h9 (ac (fq (p := ((1 : Nat) ≤ (List.length (List.drop (s5.toNat * 34) (s1.1.flatMap Ce.cells)))))) (ac (show (List.take 1 (List.drop (s5.toNat * 34) (s1.1.flatMap Ce.cells))) = [(AV.i (ceAt s1.1 s5.toNat).kind)] from (by first | exact ce_one0 _ _ _ bq rfl | (simpa using ce_one (s1.1) (s5.toNat) 0 _ bq rfl))) (ac h9 (ac h9 (ac h9 (ac (show orderOk (rg Try.prog 16 0) = true ∧ allOk (Region.before (rg Try.prog 16 0)) [] 0 [(some [], some []), (some [], some []), (some [], some []), (some [], some []), (some [], some []), (some [], some []), (some [], some []), (some [], some []), (some [], some []), (some [], some []), (some [], some []), (some [], some []), (some [], some []), (some [], some []), (some [], some []), (some [], some []), (some [], some []), (some [], some []), (some [], some []), (some [], some []), (some [], some []), (some [], some []), (some [], some []), (some [], some []), (some [], some []), (some [], some [])] = true from (ord_of ord_16_0 bef_16_0 kq)) (ac h10 an))))))))))))))))))))))))))))))) kq) fun h6 h6p => tn_ok
noncomputable def alike18 (blocks : Int) (a : List Ex) (b : List Ex) : Option (Bool) :=
 (tc (iOf (blocks) (a)) fun s0 => (tc (iOf (blocks) (b)) fun s1 => (tb ((s0.2 != (0 : Int))) (some (false)) (tb ((s1.2 != (0 : Int))) (some (false)) (tb (((s0.1.length : Int) != (s1.1.length : Int))) (some (false)) (th (alike18_L0_step blocks a b s0 s1) ((0 : Int)) fun s5 => (tb ((decide (s5 < (s0.1.length : Int)))) (tp ((((0 : Int) ≤ s5) ∧ (s5 < (s0.1.length : Int)))) (tb ((!((pad 32 (ceAt s0.1 s5.toNat).d) == (pad 32 (ceAt s1.1 s5.toNat).d)))) (some (false)) (tb ((!(((ceAt s0.1 s5.toNat).kind == (0 : Int)) == ((ceAt s1.1 s5.toNat).kind == (0 : Int))))) (some (false)) none))) (some (true)))))))))
abbrev alike18_G (blocks : Int) (a : List Ex) (b : List Ex) (r : Bool) : Prop := EvFr Try.prog cf true 16 [.i (blocks), exs (a), exs (b)] (.b (r))
theorem alike18_ok (blocks : Int) (a : List Ex) (b : List Ex) (r : Bool) : alike18 blocks a b = some r → alike18_G blocks a b r := by
  unfold alike18
  exact tc_ok fun s0 h0 => tc_ok fun s1 h1 => tbN (fun h2 h2p => by intro e; injection e with e; subst e; exact leafR vw_eq (k := 300) (r := []) (hs := hz [(4, [.fres (.tu [ces (s0.1), .i (s0.2)])]), (8, [.fres (.tu [ces (s1.1), .i (s1.2)])]), (8, [.yes, .yes, .yes]), (9, [])]) (raw := (AV.b false)) kq (ac (iOf_ok (blocks) (a) _ h0).any0 (ac (iOf_ok (blocks) (b) _ h1).any0 (ac h2 (ac h2 (ac h2 an))))) tq) fun h2 h2p => tbN (fun h3 h3p => by intro e; injection e with e; subst e; exact leafR vw_eq (k := 300) (r := []) (hs := hz [(4, [.fres (.tu [ces (s0.1), .i (s0.2)])]), (8, [.fres (.tu [ces (s1.1), .i (s1.2)])]), (8, [.no]), (1, [.no]), (1, [.no]), (1, [.yes, .yes, .yes, .yes, .yes, .yes]), (2, [])]) (raw := (AV.b false)) kq (ac (iOf_ok (blocks) (a) _ h0).any0 (ac (iOf_ok (blocks) (b) _ h1).any0 (ac h2 (ac h2 (ac h2 (ac h3 (ac h3 (ac h3 (ac h3 (ac h3 (ac h3 an))))))))))) tq) fun h3 h3p => tbN (fun h4 h4p => by intro e; injection e with e; subst e; exact leafR vw_eq (k := 300) (r := []) (hs := hz [(4, [.fres (.tu [ces (s0.1), .i (s0.2)])]), (8, [.fres (.tu [ces (s1.1), .i (s1.2)])]), (8, [.no]), (1, [.no]), (1, [.no]), (1, [.no]), (1, [.no]), (1, [.no]), (1, [.no]), (1, [.no]), (1, [.no, .yes]), (1, [])]) (raw := (AV.b false)) kq (ac (iOf_ok (blocks) (a) _ h0).any0 (ac (iOf_ok (blocks) (b) _ h1).any0 (ac h2 (ac h2 (ac h2 (ac h3 (ac h3 (ac h3 (ac h3 (ac h3 (ac h3 (ac h4 an)))))))))))) tq) fun h4 h4p => th_ok fun s5 h5 => tbD (fun h6 h6p => tp_ok fun h7 => tb_ok (fun h8 => by intro e; injection e with e; subst e; exact leafR vw_eq (k := 300) (r := []) (hs := hz [(4, [.fres (.tu [ces (s0.1), .i (s0.2)])]), (8, [.fres (.tu [ces (s1.1), .i (s1.2)])]), (8, [.no]), (1, [.no]), (1, [.no]), (1, [.no]), (1, [.no]), (1, [.no]), (1, [.no]), (1, [.no]), (1, [.no, .no]), (1, [.head (alike18_L0_S blocks a b s0 s1 s5)]), (4, [.yes]), (2, [.yes]), (1, [.yes, .cells ((List.map AV.y (pad 32 (ceAt s0.1 s5.toNat).d)))]), (2, [.yes]), (1, [.yes, .cells ((List.map AV.y (pad 32 (ceAt s1.1 s5.toNat).d))), .yes, .truth (((pad 32 (ceAt s0.1 s5.toNat).d) == (pad 32 (ceAt s1.1 s5.toNat).d)))]), (1, [.yes, .yes, .yes, .yes, .yes, .yes, .yes, .yes, .yes, .yes, .yes, .yes, .yes, .yes, .yes]), (2, [])]) (raw := (AV.b false)) kq (ac (iOf_ok (blocks) (a) _ h0).any0 (ac (iOf_ok (blocks) (b) _ h1).any0 (ac h2 (ac h2 (ac h2 (ac h3 (ac h3 (ac h3 (ac h3 (ac h3 (ac h3 (ac h4 (ac (show EvHead Try.prog cf (lp Try.prog 16 0) (alike18_L0_I blocks a b s0 s1) (alike18_L0_S blocks a b s0 s1 s5) from (EvHead.of (alike18_L0_ok blocks a b s0 s1) (absB_of [] [] kq (.consn kq (.eqv tq rfl) (.consn kq (.eqv tq rfl) (.consn kq (.eqv tq rfl) (.consn kq (.eqv tq rfl) (.consn kq (.eqv tq rfl) (.consn kq (.eqv tq rfl) (.consn kq (.eqv tq rfl) (.consn kq (.eqv tq rfl) (.consn kq (.eqv tq rfl) .nil))))))))) .nil) h5)) (ac h6 (ac h7 (ac (fq (p := ((32 : Nat) ≤ (List.length (List.drop 2 (List.drop (s5.toNat * 34) (s0.1.flatMap Ce.cells))))))) (ac (show (List.take 32 (List.drop 2 (List.drop (s5.toNat * 34) (s0.1.flatMap Ce.cells)))) = (List.map AV.y (pad 32 (ceAt s0.1 s5.toNat).d)) from (by first | exact ce_arr _ _ bq | ((try simp only [List.drop_drop]); first | exact ce_arr _ _ bq | (rw [show ((2 : Nat) + (s5.toNat * 34)) = (s5.toNat) * 34 + 2 by omega]; exact ce_arr _ _ bq)) | (simp [ceAt, pad_of (pad_len _ _), List.take_of_length_le]; done))) (ac (fq (p := (((0 : Int) ≤ s5) ∧ (s5 < (s1.1.length : Int))))) (ac (fq (p := ((32 : Nat) ≤ (List.length (List.drop 2 (List.drop (s5.toNat * 34) (s1.1.flatMap Ce.cells))))))) (ac (show (List.take 32 (List.drop 2 (List.drop (s5.toNat * 34) (s1.1.flatMap Ce.cells)))) = (List.map AV.y (pad 32 (ceAt s1.1 s5.toNat).d)) from (by first | exact ce_arr _ _ bq | ((try simp only [List.drop_drop]); first | exact ce_arr _ _ bq | (rw [show ((2 : Nat) + (s5.toNat * 34)) = (s5.toNat) * 34 + 2 by omega]; exact ce_arr _ _ bq)) | (simp [ceAt, pad_of (pad_len _ _), List.take_of_length_le]; done))) (ac (tq (p := (((List.length (List.map AV.y (pad 32 (ceAt s0.1 s5.toNat).d))) = (32 : Nat)) ∧ ((List.length (List.map AV.y (pad 32 (ceAt s1.1 s5.toNat).d))) = (32 : Nat))))) (ac (show eqCells ((List.map AV.y (pad 32 (ceAt s0.1 s5.toNat).d))) ((List.map AV.y (pad 32 (ceAt s1.1 s5.toNat).d))) = some (((pad 32 (ceAt s0.1 s5.toNat).d) == (pad 32 (ceAt s1.1 s5.toNat).d))) from (eqCells_of tq tq tq)) (ac h8 (ac h8 (ac h8 (ac h8 (ac h8 (ac h8 (ac h8 (ac h8 (ac h8 (ac h8 (ac h8 (ac h8 (ac h8 (ac h8 (ac (show orderOk (rg Try.prog 16 0) = true ∧ allOk (Region.before (rg Try.prog 16 0)) [] 0 [(some [], some []), (some [], some []), (some [], some []), (some [], some []), (some [], some []), (some [], some []), (some [], some []), (some [], some []), (some [], some []), (some [], some []), (some [], some []), (some [], some []), (some [], some []), (some [], some []), (some [], some []), (some [], some []), (some [], some []), (some [], some []), (some [], some []), (some [], some []), (some [], some []), (some [], some []), (some [], some []), (some [], some []), (some [], some []), (some [], some [])] = true from (ord_of ord_16_0 bef_16_0 kq)) an))))))))))))))))))))))))))))))))))))) tq) fun h8 => tb_ok (fun h9 => by intro e; injection e with e; subst e; exact leafR vw_eq (k := 300) (r := []) (hs := hz [(4, [.fres (.tu [ces (s0.1), .i (s0.2)])]), (8, [.fres (.tu [ces (s1.1), .i (s1.2)])]), (8, [.no]), (1, [.no]), (1, [.no]), (1, [.no]), (1, [.no]), (1, [.no]), (1, [.no]), (1, [.no]), (1, [.no, .no]), (1, [.head (alike18_L0_S blocks a b s0 s1 s5)]), (4, [.yes]), (2, [.yes]), (1, [.yes, .cells ((List.map AV.y (pad 32 (ceAt s0.1 s5.toNat).d)))]), (2, [.yes]), (1, [.yes, .cells ((List.map AV.y (pad 32 (ceAt s1.1 s5.toNat).d))), .yes, .truth (((pad 32 (ceAt s0.1 s5.toNat).d) == (pad 32 (ceAt s1.1 s5.toNat).d)))]), (1, [.no]), (1, [.no]), (1, [.no, .yes, .no]), (1, [.no, .yes, .val ((AV.i (ceAt s0.1 s5.toNat).kind)), .no]), (1, [.no]), (1, [.no]), (1, [.no, .yes, .no]), (1, [.no, .yes, .val ((AV.i (ceAt s1.1 s5.toNat).kind)), .no]), (1, [.no]), (1, [.no, .yes, .yes]), (1, [])]) (raw := (AV.b false)) kq (ac (iOf_ok (blocks) (a) _ h0).any0 (ac (iOf_ok (blocks) (b) _ h1).any0 (ac h2 (ac h2 (ac h2 (ac h3 (ac h3 (ac h3 (ac h3 (ac h3 (ac h3 (ac h4 (ac (show EvHead Try.prog cf (lp Try.prog 16 0) (alike18_L0_I blocks a b s0 s1) (alike18_L0_S blocks a b s0 s1 s5) from (EvHead.of (alike18_L0_ok blocks a b s0 s1) (absB_of [] [] kq (.consn kq (.eqv tq rfl) (.consn kq (.eqv tq rfl) (.consn kq (.eqv tq rfl) (.consn kq (.eqv tq rfl) (.consn kq (.eqv tq rfl) (.consn kq (.eqv tq rfl) (.consn kq (.eqv tq rfl) (.consn kq (.eqv tq rfl) (.consn kq (.eqv tq rfl) .nil))))))))) .nil) h5)) (ac h6 (ac h7 (ac (fq (p := ((32 : Nat) ≤ (List.length (List.drop 2 (List.drop (s5.toNat * 34) (s0.1.flatMap Ce.cells))))))) (ac (show (List.take 32 (List.drop 2 (List.drop (s5.toNat * 34) (s0.1.flatMap Ce.cells)))) = (List.map AV.y (pad 32 (ceAt s0.1 s5.toNat).d)) from (by first | exact ce_arr _ _ bq | ((try simp only [List.drop_drop]); first | exact ce_arr _ _ bq | (rw [show ((2 : Nat) + (s5.toNat * 34)) = (s5.toNat) * 34 + 2 by omega]; exact ce_arr _ _ bq)) | (simp [ceAt, pad_of (pad_len _ _), List.take_of_length_le]; done))) (ac (fq (p := (((0 : Int) ≤ s5) ∧ (s5 < (s1.1.length : Int))))) (ac (fq (p := ((32 : Nat) ≤ (List.length (List.drop 2 (List.drop (s5.toNat * 34) (s1.1.flatMap Ce.cells))))))) (ac (show (List.take 32 (List.drop 2 (List.drop (s5.toNat * 34) (s1.1.flatMap Ce.cells)))) = (List.map AV.y (pad 32 (ceAt s1.1 s5.toNat).d)) from (by first | exact ce_arr _ _ bq | ((try simp only [List.drop_drop]); first | exact ce_arr _ _ bq | (rw [show ((2 : Nat) + (s5.toNat * 34)) = (s5.toNat) * 34 + 2 by omega]; exact ce_arr _ _ bq)) | (simp [ceAt, pad_of (pad_len _ _), List.take_of_length_le]; done))) (ac (tq (p := (((List.length (List.map AV.y (pad 32 (ceAt s0.1 s5.toNat).d))) = (32 : Nat)) ∧ ((List.length (List.map AV.y (pad 32 (ceAt s1.1 s5.toNat).d))) = (32 : Nat))))) (ac (show eqCells ((List.map AV.y (pad 32 (ceAt s0.1 s5.toNat).d))) ((List.map AV.y (pad 32 (ceAt s1.1 s5.toNat).d))) = some (((pad 32 (ceAt s0.1 s5.toNat).d) == (pad 32 (ceAt s1.1 s5.toNat).d))) from (eqCells_of tq tq tq)) (ac h8 (ac h8 (ac h8 (ac h7 (ac h8 (ac h8 (ac (fq (p := ((1 : Nat) ≤ (List.length (List.drop (s5.toNat * 34) (s0.1.flatMap Ce.cells)))))) (ac (show (List.take 1 (List.drop (s5.toNat * 34) (s0.1.flatMap Ce.cells))) = [(AV.i (ceAt s0.1 s5.toNat).kind)] from (by first | exact ce_one0 _ _ _ bq rfl | (simpa using ce_one (s0.1) (s5.toNat) 0 _ bq rfl))) (ac h8 (ac h8 (ac h8 (ac h8 (ac (fq (p := (((0 : Int) ≤ s5) ∧ (s5 < (s1.1.length : Int))))) (ac h8 (ac h8 (ac (fq (p := ((1 : Nat) ≤ (List.length (List.drop (s5.toNat * 34) (s1.1.flatMap Ce.cells)))))) (ac (show (List.take 1 (List.drop (s5.toNat * 34) (s1.1.flatMap Ce.cells))) = [(AV.i (ceAt s1.1 s5.toNat).kind)] from (by first | exact ce_one0 _ _ _ bq rfl | (simpa using ce_one (s1.1) (s5.toNat) 0 _ bq rfl))) (ac h8 (ac h8 (ac h8 (ac (show orderOk (rg Try.prog 16 0) = true ∧ allOk (Region.before (rg Try.prog 16 0)) [] 0 [(some [], some []), (some [], some []), (some [], some []), (some [], some []), (some [], some []), (some [], some []), (some [], some []), (some [], some []), (some [], some []), (some [], some []), (some [], some []), (some [], some []), (some [], some []), (some [], some []), (some [], some []), (some [], some []), (some [], some []), (some [], some []), (some [], some []), (some [], some []), (some [], some []), (some [], some []), (some [], some []), (some [], some []), (some [], some []), (some [], some [])] = true from (ord_of ord_16_0 bef_16_0 kq)) (ac h9 an)))))))))))))))))))))))))))))))))))))))))))) tq) fun h9 => tn_ok) fun h6 h6p => by intro e; injection e with e; subst e; exact leafR vw_eq (k := 300) (r := []) (hs := hz [(4, [.fres (.tu [ces (s0.1), .i (s0.2)])]), (8, [.fres (.tu [ces (s1.1), .i (s1.2)])]), (8, [.no]), (1, [.no]), (1, [.no]), (1, [.no]), (1, [.no]), (1, [.no]), (1, [.no]), (1, [.no]), (1, [.no, .no]), (1, [.head (alike18_L0_S blocks a b s0 s1 s5)]), (4, [.no]), (1, [])]) (raw := (AV.b true)) kq (ac (iOf_ok (blocks) (a) _ h0).any0 (ac (iOf_ok (blocks) (b) _ h1).any0 (ac h2 (ac h2 (ac h2 (ac h3 (ac h3 (ac h3 (ac h3 (ac h3 (ac h3 (ac h4 (ac (show EvHead Try.prog cf (lp Try.prog 16 0) (alike18_L0_I blocks a b s0 s1) (alike18_L0_S blocks a b s0 s1 s5) from (EvHead.of (alike18_L0_ok blocks a b s0 s1) (absB_of [] [] kq (.consn kq (.eqv tq rfl) (.consn kq (.eqv tq rfl) (.consn kq (.eqv tq rfl) (.consn kq (.eqv tq rfl) (.consn kq (.eqv tq rfl) (.consn kq (.eqv tq rfl) (.consn kq (.eqv tq rfl) (.consn kq (.eqv tq rfl) (.consn kq (.eqv tq rfl) .nil))))))))) .nil) h5)) (ac h6 an)))))))))))))) tq
end Ab
end Go.Proofs.Ytpflcogplhigcaa
namespace Go.Proofs.Ytpflcogplhigcaa
open Go Go.Proofs.Ytpflcogplhigcaa.Ab
set_option linter.unusedVariables false
set_option linter.unusedSimpArgs false
set_option maxRecDepth 1000000
set_option maxHeartbeats 0
namespace Ab
def cX0 : Sa := ⟨8, 1, [⟨0, 8, 0, 0, []⟩], [], 0, []⟩
def cX : Sa := ⟨8, 3, [⟨0, 2, 0, 0, []⟩, ⟨2, 1, 0, 2, []⟩, ⟨3, 2, 1, 1, []⟩, ⟨5, 3, 0, 0, []⟩], [⟨5, 1, [⟨0, 2, 0, 0, []⟩, ⟨2, 3, 1, 1, []⟩, ⟨5, 3, 0, 0, []⟩]⟩, ⟨7, 2, [⟨0, 2, 0, 0, []⟩, ⟨2, 1, 0, 2, []⟩, ⟨3, 2, 1, 1, []⟩, ⟨5, 3, 0, 0, []⟩]⟩], 7, []⟩
def cL : List Ch := [⟨2, 2, 3, 0, [], []⟩, ⟨4, 0, 0, 5, [], []⟩, ⟨3, 2, 1, 0, [], []⟩, ⟨4, 0, 0, 7, [], []⟩]
def cA : Sm := ⟨8, 0, 5, [⟨2, 3, 1, 0, []⟩]⟩
def cB : Sm := ⟨8, 5, 7, [⟨2, 1, 0, 0, []⟩]⟩
def cV : Sm := ⟨0, 0, 0, []⟩
def cM : List Ex := [⟨0, 2, 0, 0, []⟩, ⟨2, 3, 1, 9, []⟩, ⟨5, 3, 0, 0, []⟩]
theorem cNew_ev : aCall Try.prog cf 4000 20 [.i 8] = some (.tu [Sa.av cX0, .i 0]) := by kernel_rfl
theorem cRun_ev : aCall Try.prog cf 4000 21 [Sa.av cX0, chs cL] = some (.tu [Sa.av cX, .i 4, .i 0]) := by kernel_rfl
theorem cMake_ev1 : aCall Try.prog cf 4000 10 [Sa.av cX, .i 0, .i 5] = some (.tu [Sm.av cA, .i 0]) := by kernel_rfl
theorem cMake_ev2 : aCall Try.prog cf 4000 10 [Sa.av cX, .i 5, .i 7] = some (.tu [Sm.av cB, .i 0]) := by kernel_rfl
theorem cMake_ev3 : aCall Try.prog cf 4000 10 [Sa.av cX, .i 7, .i 7] = some (.tu [Sm.av cV, .i 180]) := by kernel_rfl
theorem cMake_ev4 : aCall Try.prog cf 4000 10 [Sa.av cX, .i 0, .i 6] = some (.tu [Sm.av cV, .i 111]) := by kernel_rfl
theorem cDenote_ev1 : aCall Try.prog cf 4000 11 [.i 8, exs cX0.map, Sm.av cA, .i 9] = some (.tu [exs cM, .i 0]) := by kernel_rfl
theorem cDenote_ev2 : aCall Try.prog cf 4000 11 [.i 7, exs [], Sm.av cA, .i 9] = some (.tu [exs [], .i 170]) := by kernel_rfl
theorem cSame_ev1 : aCall Try.prog cf 4000 18 [Sm.av cA, Sm.av cA] = some (.b true) := by kernel_rfl
theorem cSame_ev2 : aCall Try.prog cf 4000 18 [Sm.av cB, Sm.av cB] = some (.b true) := by kernel_rfl
def cNew (b : Int) : Option (Sa × Int) := if b = 8 then some (cX0, 0) else none
def cRun (s : Sa) (l : List Ch) : Option (Sa × Int × Int) := if s = cX0 ∧ l = cL then some (cX, 4, 0) else none
def cMake (s : Sa) (a b : Int) : Option (Sm × Int) := if s = cX then (if a = 0 ∧ b = 5 then some (cA, 0) else if a = 5 ∧ b = 7 then some (cB, 0) else if a = 7 ∧ b = 7 then some (cV, 180) else if a = 0 ∧ b = 6 then some (cV, 111) else none) else none
def cDenote (n : Int) (l : List Ex) (s : Sm) (g : Int) : Option (List Ex × Int) := if s = cA ∧ g = 9 then (if n = 8 ∧ l = cX0.map then some (cM, 0) else if n = 7 ∧ l = [] then some ([], 170) else none) else none
def cSame (a b : Sm) : Option Bool := if a = cA ∧ b = cA then some true else if a = cB ∧ b = cB then some true else none
theorem cNew_ok (b : Int) (r : Sa × Int) (h : cNew b = some r) : EvFr Try.prog cf false 20 [.i b] (.tu [Sa.av r.1, .i r.2]) := by
  unfold cNew at h
  split at h
  · rename_i e; subst e; injection h with h; subst h; exact EvFr.of_aCall cNew_ev
  · cases h
theorem cRun_ok (s : Sa) (l : List Ch) (r : Sa × Int × Int) (h : cRun s l = some r) : EvFr Try.prog cf false 21 [s.av, chs l] (.tu [Sa.av r.1, .i r.2.1, .i r.2.2]) := by
  unfold cRun at h
  split at h
  · rename_i e; obtain ⟨rfl, rfl⟩ := e; injection h with h; subst h; exact EvFr.of_aCall cRun_ev
  · cases h
theorem cMake_ok (s : Sa) (a b : Int) (r : Sm × Int) (h : cMake s a b = some r) : EvFr Try.prog cf false 10 [s.av, .i a, .i b] (.tu [Sm.av r.1, .i r.2]) := by
  unfold cMake at h
  split at h
  · rename_i e; subst e
    split at h
    · rename_i e; obtain ⟨rfl, rfl⟩ := e; injection h with h; subst h; exact EvFr.of_aCall cMake_ev1
    split at h
    · rename_i e; obtain ⟨rfl, rfl⟩ := e; injection h with h; subst h; exact EvFr.of_aCall cMake_ev2
    split at h
    · rename_i e; obtain ⟨rfl, rfl⟩ := e; injection h with h; subst h; exact EvFr.of_aCall cMake_ev3
    split at h
    · rename_i e; obtain ⟨rfl, rfl⟩ := e; injection h with h; subst h; exact EvFr.of_aCall cMake_ev4
    · cases h
  · cases h
theorem cDenote_ok (n : Int) (l : List Ex) (s : Sm) (g : Int) (r : List Ex × Int) (h : cDenote n l s g = some r) : EvFr Try.prog cf false 11 [.i n, exs l, s.av, .i g] (.tu [exs r.1, .i r.2]) := by
  unfold cDenote at h
  split at h
  · rename_i e; obtain ⟨rfl, rfl⟩ := e
    split at h
    · rename_i e; obtain ⟨rfl, rfl⟩ := e; injection h with h; subst h; exact EvFr.of_aCall cDenote_ev1
    split at h
    · rename_i e; obtain ⟨rfl, rfl⟩ := e; injection h with h; subst h; exact EvFr.of_aCall cDenote_ev2
    · cases h
  · cases h
theorem cSame_ok (a b : Sm) (r : Bool) (h : cSame a b = some r) : EvFr Try.prog cf true 18 [a.av, b.av] (.b r) := by
  unfold cSame at h
  split at h
  · rename_i e; obtain ⟨rfl, rfl⟩ := e; injection h with h; subst h; exact EvFr.of_bool cSame_ev1
  split at h
  · rename_i e; obtain ⟨rfl, rfl⟩ := e; injection h with h; subst h; exact EvFr.of_bool cSame_ev2
  · cases h
end Ab
end Go.Proofs.Ytpflcogplhigcaa
namespace Go.Proofs.Ytpflcogplhigcaa
open Go Go.Proofs.Ytpflcogplhigcaa.Ab
set_option linter.unusedVariables false
set_option linter.unusedSimpArgs false
set_option maxRecDepth 1000000
set_option maxHeartbeats 0
namespace Ab
noncomputable def aw18 : Option (Bool) :=
 (tc (cNew ((8 : Int))) fun s0 => (tc (cRun (s0.1) ([(Ch.mk 2 2 3 0 ([] : List UInt8) ([] : List Ex)), (Ch.mk 4 0 0 5 ([] : List UInt8) ([] : List Ex)), (Ch.mk 3 2 1 0 ([] : List UInt8) ([] : List Ex)), (Ch.mk 4 0 0 7 ([] : List UInt8) ([] : List Ex))])) fun s1 => (tc (cMake (s1.1) ((0 : Int)) ((5 : Int))) fun s2 => (tc (cMake (s1.1) ((5 : Int)) ((7 : Int))) fun s3 => (tc (cMake (s1.1) ((7 : Int)) ((7 : Int))) fun s4 => (tc (cMake (s1.1) ((0 : Int)) ((6 : Int))) fun s5 => (tc (cDenote ((8 : Int)) (s0.1.map) (s2.1) ((9 : Int))) fun s6 => (tc (cDenote ((7 : Int)) (([] : List Ex)) (s2.1) ((9 : Int))) fun s7 => (tc (cSame (s2.1) ((Sm.mk 8 0 5 [(Ex.mk 2 3 1 0 ([] : List UInt8))]))) fun s8 => (tb (s8) (tc (cSame (s3.1) ((Sm.mk 8 5 7 [(Ex.mk 2 1 0 0 ([] : List UInt8))]))) fun s10 => (tb ((s1.2.1 == (4 : Int))) (tb ((s1.2.2 == (0 : Int))) (tb ((s2.2 == (0 : Int))) (tb ((s3.2 == (0 : Int))) (tb (s10) (tb ((s4.2 == (180 : Int))) (tb ((s5.2 == (111 : Int))) (tb (((s6.1.length : Int) == (3 : Int))) (tb ((s6.2 == (0 : Int))) (tb ((s7.2 == (170 : Int))) (some (true)) (some (false))) (some (false))) (some (false))) (some (false))) (some (false))) (some (false))) (some (false))) (some (false))) (some (false))) (some (false)))) (tb ((s1.2.1 == (4 : Int))) (tb ((s1.2.2 == (0 : Int))) (tb ((s2.2 == (0 : Int))) (tb ((s3.2 == (0 : Int))) (some (false)) (some (false))) (some (false))) (some (false))) (some (false)))))))))))))
abbrev aw18_G (r : Bool) : Prop := EvFr Try.prog cf true 7 [] (.b (r))
theorem aw18_ok (r : Bool) : aw18 = some r → aw18_G r := by
  unfold aw18
  exact tc_ok fun s0 h0 => tc_ok fun s1 h1 => tc_ok fun s2 h2 => tc_ok fun s3 h3 => tc_ok fun s4 h4 => tc_ok fun s5 h5 => tc_ok fun s6 h6 => tc_ok fun s7 h7 => tc_ok fun s8 h8 => tb_ok (fun h9 => tc_ok fun s10 h10 => tbE (fun h11 h11p => tbE (fun h12 h12p => tbE (fun h13 h13p => tbE (fun h14 h14p => tb_ok (fun h15 => tbE (fun h16 h16p => tbE (fun h17 h17p => tbE (fun h18 h18p => tbE (fun h19 h19p => tbE (fun h20 h20p => by intro e; injection e with e; subst e; exact leafR vw_eq (k := 300) (r := []) (hs := hz [(2, [.fres (.tu [Sa.av (s0.1), .i (s0.2)])]), (5, [.fc]), (2, [.fc]), (5, [.fc]), (1, [.fc]), (1, [.fc]), (1, [.fc, .fc]), (1, [.yes]), (1, [.fres (.tu [Sa.av (s1.1), .i (s1.2.1), .i (s1.2.2)])]), (6, [.fc]), (3, [.fc]), (1, [.fres (.tu [Sm.av (s2.1), .i (s2.2)])]), (5, [.fc]), (2, [.fc]), (1, [.fres (.tu [Sm.av (s3.1), .i (s3.2)])]), (5, [.fc]), (2, [.fc]), (1, [.fres (.tu [Sm.av (s4.1), .i (s4.2)])]), (5, [.fc]), (2, [.fc]), (1, [.fres (.tu [Sm.av (s5.1), .i (s5.2)])]), (5, [.fc]), (5, [.fc]), (1, [.fres (.tu [exs (s6.1), .i (s6.2)])]), (6, [.fc]), (1, [.fres (.tu [exs (s7.1), .i (s7.2)])]), (6, [.fc]), (2, [.fc, .fc]), (2, [.yes]), (1, [.fres (.b (s8))]), (1, [.yes]), (1, [.fc, .yes]), (1, [.yes]), (1, [.fc, .fc, .yes]), (1, [.yes]), (1, [.yes]), (1, [.fres (.b (s10)), .yes]), (4, [.yes]), (1, [.yes]), (1, [.yes]), (1, [.yes]), (1, [.yes]), (1, [.yes]), (1, [.yes]), (1, [.yes]), (1, [.yes]), (1, [.yes]), (1, [.yes]), (1, [.yes]), (1, [.yes]), (1, [.yes]), (1, [.yes]), (1, [.yes]), (1, [.yes]), (1, [.yes]), (1, [.yes]), (1, [.yes]), (1, [.yes]), (1, [.yes]), (1, [.yes]), (1, [.yes]), (1, [.yes]), (1, [.yes]), (1, [.yes]), (1, [.yes]), (1, [])]) (raw := (AV.b true)) kq (ac (cNew_ok ((8 : Int)) _ h0) (ac (tq (p := (((0 : Nat) = (0 : Nat)) ∧ ((24 : Nat) = (24 : Nat))))) (ac (cRun_ok (s0.1) ([(Ch.mk 2 2 3 0 ([] : List UInt8) ([] : List Ex)), (Ch.mk 4 0 0 5 ([] : List UInt8) ([] : List Ex)), (Ch.mk 3 2 1 0 ([] : List UInt8) ([] : List Ex)), (Ch.mk 4 0 0 7 ([] : List UInt8) ([] : List Ex))]) _ h1) (ac (cMake_ok (s1.1) ((0 : Int)) ((5 : Int)) _ h2) (ac (cMake_ok (s1.1) ((5 : Int)) ((7 : Int)) _ h3) (ac (cMake_ok (s1.1) ((7 : Int)) ((7 : Int)) _ h4) (ac (cMake_ok (s1.1) ((0 : Int)) ((6 : Int)) _ h5) (ac (cDenote_ok ((8 : Int)) (s0.1.map) (s2.1) ((9 : Int)) _ h6) (ac (cDenote_ok ((7 : Int)) (([] : List Ex)) (s2.1) ((9 : Int)) _ h7) (ac (tq (p := (((0 : Nat) = (0 : Nat)) ∧ ((5 : Nat) = (5 : Nat))))) (ac (cSame_ok (s2.1) ((Sm.mk 8 0 5 [(Ex.mk 2 3 1 0 ([] : List UInt8))])) _ h8) (ac h9 (ac h9 (ac h9 (ac h9 (ac h9 (ac (tq (p := (((0 : Nat) = (0 : Nat)) ∧ ((5 : Nat) = (5 : Nat))))) (ac (cSame_ok (s3.1) ((Sm.mk 8 5 7 [(Ex.mk 2 1 0 0 ([] : List UInt8))])) _ h10) (ac h9 (ac h11 (ac h11 (ac h11 (ac h12 (ac h12 (ac h12 (ac h13 (ac h13 (ac h13 (ac h14 (ac h14 (ac h15 (ac h15 (ac h15 (ac h16 (ac h16 (ac h16 (ac h17 (ac h17 (ac h17 (ac h17 (ac h18 (ac h18 (ac h18 (ac h19 (ac h19 (ac h19 (ac h20 an))))))))))))))))))))))))))))))))))))))))))))))) tq) fun h20 h20p => by intro e; injection e with e; subst e; exact leafR vw_eq (k := 300) (r := []) (hs := hz [(2, [.fres (.tu [Sa.av (s0.1), .i (s0.2)])]), (5, [.fc]), (2, [.fc]), (5, [.fc]), (1, [.fc]), (1, [.fc]), (1, [.fc, .fc]), (1, [.yes]), (1, [.fres (.tu [Sa.av (s1.1), .i (s1.2.1), .i (s1.2.2)])]), (6, [.fc]), (3, [.fc]), (1, [.fres (.tu [Sm.av (s2.1), .i (s2.2)])]), (5, [.fc]), (2, [.fc]), (1, [.fres (.tu [Sm.av (s3.1), .i (s3.2)])]), (5, [.fc]), (2, [.fc]), (1, [.fres (.tu [Sm.av (s4.1), .i (s4.2)])]), (5, [.fc]), (2, [.fc]), (1, [.fres (.tu [Sm.av (s5.1), .i (s5.2)])]), (5, [.fc]), (5, [.fc]), (1, [.fres (.tu [exs (s6.1), .i (s6.2)])]), (6, [.fc]), (1, [.fres (.tu [exs (s7.1), .i (s7.2)])]), (6, [.fc]), (2, [.fc, .fc]), (2, [.yes]), (1, [.fres (.b (s8))]), (1, [.yes]), (1, [.fc, .yes]), (1, [.yes]), (1, [.fc, .fc, .yes]), (1, [.yes]), (1, [.yes]), (1, [.fres (.b (s10)), .yes]), (4, [.yes]), (1, [.yes]), (1, [.yes]), (1, [.yes]), (1, [.yes]), (1, [.yes]), (1, [.yes]), (1, [.yes]), (1, [.yes]), (1, [.yes]), (1, [.yes]), (1, [.yes]), (1, [.yes]), (1, [.yes]), (1, [.yes]), (1, [.yes]), (1, [.yes]), (1, [.yes]), (1, [.yes]), (1, [.yes]), (1, [.yes]), (1, [.yes]), (1, [.yes]), (1, [.yes]), (1, [.yes]), (1, [.yes]), (1, [.yes]), (1, [.no]), (1, [])]) (raw := (AV.b false)) kq (ac (cNew_ok ((8 : Int)) _ h0) (ac (tq (p := (((0 : Nat) = (0 : Nat)) ∧ ((24 : Nat) = (24 : Nat))))) (ac (cRun_ok (s0.1) ([(Ch.mk 2 2 3 0 ([] : List UInt8) ([] : List Ex)), (Ch.mk 4 0 0 5 ([] : List UInt8) ([] : List Ex)), (Ch.mk 3 2 1 0 ([] : List UInt8) ([] : List Ex)), (Ch.mk 4 0 0 7 ([] : List UInt8) ([] : List Ex))]) _ h1) (ac (cMake_ok (s1.1) ((0 : Int)) ((5 : Int)) _ h2) (ac (cMake_ok (s1.1) ((5 : Int)) ((7 : Int)) _ h3) (ac (cMake_ok (s1.1) ((7 : Int)) ((7 : Int)) _ h4) (ac (cMake_ok (s1.1) ((0 : Int)) ((6 : Int)) _ h5) (ac (cDenote_ok ((8 : Int)) (s0.1.map) (s2.1) ((9 : Int)) _ h6) (ac (cDenote_ok ((7 : Int)) (([] : List Ex)) (s2.1) ((9 : Int)) _ h7) (ac (tq (p := (((0 : Nat) = (0 : Nat)) ∧ ((5 : Nat) = (5 : Nat))))) (ac (cSame_ok (s2.1) ((Sm.mk 8 0 5 [(Ex.mk 2 3 1 0 ([] : List UInt8))])) _ h8) (ac h9 (ac h9 (ac h9 (ac h9 (ac h9 (ac (tq (p := (((0 : Nat) = (0 : Nat)) ∧ ((5 : Nat) = (5 : Nat))))) (ac (cSame_ok (s3.1) ((Sm.mk 8 5 7 [(Ex.mk 2 1 0 0 ([] : List UInt8))])) _ h10) (ac h9 (ac h11 (ac h11 (ac h11 (ac h12 (ac h12 (ac h12 (ac h13 (ac h13 (ac h13 (ac h14 (ac h14 (ac h15 (ac h15 (ac h15 (ac h16 (ac h16 (ac h16 (ac h17 (ac h17 (ac h17 (ac h17 (ac h18 (ac h18 (ac h18 (ac h19 (ac h19 (ac h19 (ac h20 an))))))))))))))))))))))))))))))))))))))))))))))) tq) fun h19 h19p => by intro e; injection e with e; subst e; exact leafR vw_eq (k := 300) (r := []) (hs := hz [(2, [.fres (.tu [Sa.av (s0.1), .i (s0.2)])]), (5, [.fc]), (2, [.fc]), (5, [.fc]), (1, [.fc]), (1, [.fc]), (1, [.fc, .fc]), (1, [.yes]), (1, [.fres (.tu [Sa.av (s1.1), .i (s1.2.1), .i (s1.2.2)])]), (6, [.fc]), (3, [.fc]), (1, [.fres (.tu [Sm.av (s2.1), .i (s2.2)])]), (5, [.fc]), (2, [.fc]), (1, [.fres (.tu [Sm.av (s3.1), .i (s3.2)])]), (5, [.fc]), (2, [.fc]), (1, [.fres (.tu [Sm.av (s4.1), .i (s4.2)])]), (5, [.fc]), (2, [.fc]), (1, [.fres (.tu [Sm.av (s5.1), .i (s5.2)])]), (5, [.fc]), (5, [.fc]), (1, [.fres (.tu [exs (s6.1), .i (s6.2)])]), (6, [.fc]), (1, [.fres (.tu [exs (s7.1), .i (s7.2)])]), (6, [.fc]), (2, [.fc, .fc]), (2, [.yes]), (1, [.fres (.b (s8))]), (1, [.yes]), (1, [.fc, .yes]), (1, [.yes]), (1, [.fc, .fc, .yes]), (1, [.yes]), (1, [.yes]), (1, [.fres (.b (s10)), .yes]), (4, [.yes]), (1, [.yes]), (1, [.yes]), (1, [.yes]), (1, [.yes]), (1, [.yes]), (1, [.yes]), (1, [.yes]), (1, [.yes]), (1, [.yes]), (1, [.yes]), (1, [.yes]), (1, [.yes]), (1, [.yes]), (1, [.yes]), (1, [.yes]), (1, [.yes]), (1, [.yes]), (1, [.yes]), (1, [.yes]), (1, [.yes]), (1, [.yes]), (1, [.yes]), (1, [.yes]), (1, [.no, .no, .no]), (3, [])]) (raw := (AV.b false)) kq (ac (cNew_ok ((8 : Int)) _ h0) (ac (tq (p := (((0 : Nat) = (0 : Nat)) ∧ ((24 : Nat) = (24 : Nat))))) (ac (cRun_ok (s0.1) ([(Ch.mk 2 2 3 0 ([] : List UInt8) ([] : List Ex)), (Ch.mk 4 0 0 5 ([] : List UInt8) ([] : List Ex)), (Ch.mk 3 2 1 0 ([] : List UInt8) ([] : List Ex)), (Ch.mk 4 0 0 7 ([] : List UInt8) ([] : List Ex))]) _ h1) (ac (cMake_ok (s1.1) ((0 : Int)) ((5 : Int)) _ h2) (ac (cMake_ok (s1.1) ((5 : Int)) ((7 : Int)) _ h3) (ac (cMake_ok (s1.1) ((7 : Int)) ((7 : Int)) _ h4) (ac (cMake_ok (s1.1) ((0 : Int)) ((6 : Int)) _ h5) (ac (cDenote_ok ((8 : Int)) (s0.1.map) (s2.1) ((9 : Int)) _ h6) (ac (cDenote_ok ((7 : Int)) (([] : List Ex)) (s2.1) ((9 : Int)) _ h7) (ac (tq (p := (((0 : Nat) = (0 : Nat)) ∧ ((5 : Nat) = (5 : Nat))))) (ac (cSame_ok (s2.1) ((Sm.mk 8 0 5 [(Ex.mk 2 3 1 0 ([] : List UInt8))])) _ h8) (ac h9 (ac h9 (ac h9 (ac h9 (ac h9 (ac (tq (p := (((0 : Nat) = (0 : Nat)) ∧ ((5 : Nat) = (5 : Nat))))) (ac (cSame_ok (s3.1) ((Sm.mk 8 5 7 [(Ex.mk 2 1 0 0 ([] : List UInt8))])) _ h10) (ac h9 (ac h11 (ac h11 (ac h11 (ac h12 (ac h12 (ac h12 (ac h13 (ac h13 (ac h13 (ac h14 (ac h14 (ac h15 (ac h15 (ac h15 (ac h16 (ac h16 (ac h16 (ac h17 (ac h17 (ac h17 (ac h17 (ac h18 (ac h18 (ac h18 (ac h19 (ac h19 (ac h19 an)))))))))))))))))))))))))))))))))))))))))))))) tq) fun h18 h18p => by intro e; injection e with e; subst e; exact leafR vw_eq (k := 300) (r := []) (hs := hz [(2, [.fres (.tu [Sa.av (s0.1), .i (s0.2)])]), (5, [.fc]), (2, [.fc]), (5, [.fc]), (1, [.fc]), (1, [.fc]), (1, [.fc, .fc]), (1, [.yes]), (1, [.fres (.tu [Sa.av (s1.1), .i (s1.2.1), .i (s1.2.2)])]), (6, [.fc]), (3, [.fc]), (1, [.fres (.tu [Sm.av (s2.1), .i (s2.2)])]), (5, [.fc]), (2, [.fc]), (1, [.fres (.tu [Sm.av (s3.1), .i (s3.2)])]), (5, [.fc]), (2, [.fc]), (1, [.fres (.tu [Sm.av (s4.1), .i (s4.2)])]), (5, [.fc]), (2, [.fc]), (1, [.fres (.tu [Sm.av (s5.1), .i (s5.2)])]), (5, [.fc]), (5, [.fc]), (1, [.fres (.tu [exs (s6.1), .i (s6.2)])]), (6, [.fc]), (1, [.fres (.tu [exs (s7.1), .i (s7.2)])]), (6, [.fc]), (2, [.fc, .fc]), (2, [.yes]), (1, [.fres (.b (s8))]), (1, [.yes]), (1, [.fc, .yes]), (1, [.yes]), (1, [.fc, .fc, .yes]), (1, [.yes]), (1, [.yes]), (1, [.fres (.b (s10)), .yes]), (4, [.yes]), (1, [.yes]), (1, [.yes]), (1, [.yes]), (1, [.yes]), (1, [.yes]), (1, [.yes]), (1, [.yes]), (1, [.yes]), (1, [.yes]), (1, [.yes]), (1, [.yes]), (1, [.yes]), (1, [.yes]), (1, [.yes]), (1, [.yes]), (1, [.yes]), (1, [.yes]), (1, [.yes]), (1, [.yes]), (1, [.yes]), (1, [.no, .no, .no]), (7, [])]) (raw := (AV.b false)) kq (ac (cNew_ok ((8 : Int)) _ h0) (ac (tq (p := (((0 : Nat) = (0 : Nat)) ∧ ((24 : Nat) = (24 : Nat))))) (ac (cRun_ok (s0.1) ([(Ch.mk 2 2 3 0 ([] : List UInt8) ([] : List Ex)), (Ch.mk 4 0 0 5 ([] : List UInt8) ([] : List Ex)), (Ch.mk 3 2 1 0 ([] : List UInt8) ([] : List Ex)), (Ch.mk 4 0 0 7 ([] : List UInt8) ([] : List Ex))]) _ h1) (ac (cMake_ok (s1.1) ((0 : Int)) ((5 : Int)) _ h2) (ac (cMake_ok (s1.1) ((5 : Int)) ((7 : Int)) _ h3) (ac (cMake_ok (s1.1) ((7 : Int)) ((7 : Int)) _ h4) (ac (cMake_ok (s1.1) ((0 : Int)) ((6 : Int)) _ h5) (ac (cDenote_ok ((8 : Int)) (s0.1.map) (s2.1) ((9 : Int)) _ h6) (ac (cDenote_ok ((7 : Int)) (([] : List Ex)) (s2.1) ((9 : Int)) _ h7) (ac (tq (p := (((0 : Nat) = (0 : Nat)) ∧ ((5 : Nat) = (5 : Nat))))) (ac (cSame_ok (s2.1) ((Sm.mk 8 0 5 [(Ex.mk 2 3 1 0 ([] : List UInt8))])) _ h8) (ac h9 (ac h9 (ac h9 (ac h9 (ac h9 (ac (tq (p := (((0 : Nat) = (0 : Nat)) ∧ ((5 : Nat) = (5 : Nat))))) (ac (cSame_ok (s3.1) ((Sm.mk 8 5 7 [(Ex.mk 2 1 0 0 ([] : List UInt8))])) _ h10) (ac h9 (ac h11 (ac h11 (ac h11 (ac h12 (ac h12 (ac h12 (ac h13 (ac h13 (ac h13 (ac h14 (ac h14 (ac h15 (ac h15 (ac h15 (ac h16 (ac h16 (ac h16 (ac h17 (ac h17 (ac h17 (ac h17 (ac h18 (ac h18 (ac h18 an))))))))))))))))))))))))))))))))))))))))))) tq) fun h17 h17p => by intro e; injection e with e; subst e; exact leafR vw_eq (k := 300) (r := []) (hs := hz [(2, [.fres (.tu [Sa.av (s0.1), .i (s0.2)])]), (5, [.fc]), (2, [.fc]), (5, [.fc]), (1, [.fc]), (1, [.fc]), (1, [.fc, .fc]), (1, [.yes]), (1, [.fres (.tu [Sa.av (s1.1), .i (s1.2.1), .i (s1.2.2)])]), (6, [.fc]), (3, [.fc]), (1, [.fres (.tu [Sm.av (s2.1), .i (s2.2)])]), (5, [.fc]), (2, [.fc]), (1, [.fres (.tu [Sm.av (s3.1), .i (s3.2)])]), (5, [.fc]), (2, [.fc]), (1, [.fres (.tu [Sm.av (s4.1), .i (s4.2)])]), (5, [.fc]), (2, [.fc]), (1, [.fres (.tu [Sm.av (s5.1), .i (s5.2)])]), (5, [.fc]), (5, [.fc]), (1, [.fres (.tu [exs (s6.1), .i (s6.2)])]), (6, [.fc]), (1, [.fres (.tu [exs (s7.1), .i (s7.2)])]), (6, [.fc]), (2, [.fc, .fc]), (2, [.yes]), (1, [.fres (.b (s8))]), (1, [.yes]), (1, [.fc, .yes]), (1, [.yes]), (1, [.fc, .fc, .yes]), (1, [.yes]), (1, [.yes]), (1, [.fres (.b (s10)), .yes]), (4, [.yes]), (1, [.yes]), (1, [.yes]), (1, [.yes]), (1, [.yes]), (1, [.yes]), (1, [.yes]), (1, [.yes]), (1, [.yes]), (1, [.yes]), (1, [.yes]), (1, [.yes]), (1, [.yes]), (1, [.yes]), (1, [.yes]), (1, [.yes]), (1, [.yes]), (1, [.no, .no, .no, .no]), (11, [])]) (raw := (AV.b false)) kq (ac (cNew_ok ((8 : Int)) _ h0) (ac (tq (p := (((0 : Nat) = (0 : Nat)) ∧ ((24 : Nat) = (24 : Nat))))) (ac (cRun_ok (s0.1) ([(Ch.mk 2 2 3 0 ([] : List UInt8) ([] : List Ex)), (Ch.mk 4 0 0 5 ([] : List UInt8) ([] : List Ex)), (Ch.mk 3 2 1 0 ([] : List UInt8) ([] : List Ex)), (Ch.mk 4 0 0 7 ([] : List UInt8) ([] : List Ex))]) _ h1) (ac (cMake_ok (s1.1) ((0 : Int)) ((5 : Int)) _ h2) (ac (cMake_ok (s1.1) ((5 : Int)) ((7 : Int)) _ h3) (ac (cMake_ok (s1.1) ((7 : Int)) ((7 : Int)) _ h4) (ac (cMake_ok (s1.1) ((0 : Int)) ((6 : Int)) _ h5) (ac (cDenote_ok ((8 : Int)) (s0.1.map) (s2.1) ((9 : Int)) _ h6) (ac (cDenote_ok ((7 : Int)) (([] : List Ex)) (s2.1) ((9 : Int)) _ h7) (ac (tq (p := (((0 : Nat) = (0 : Nat)) ∧ ((5 : Nat) = (5 : Nat))))) (ac (cSame_ok (s2.1) ((Sm.mk 8 0 5 [(Ex.mk 2 3 1 0 ([] : List UInt8))])) _ h8) (ac h9 (ac h9 (ac h9 (ac h9 (ac h9 (ac (tq (p := (((0 : Nat) = (0 : Nat)) ∧ ((5 : Nat) = (5 : Nat))))) (ac (cSame_ok (s3.1) ((Sm.mk 8 5 7 [(Ex.mk 2 1 0 0 ([] : List UInt8))])) _ h10) (ac h9 (ac h11 (ac h11 (ac h11 (ac h12 (ac h12 (ac h12 (ac h13 (ac h13 (ac h13 (ac h14 (ac h14 (ac h15 (ac h15 (ac h15 (ac h16 (ac h16 (ac h16 (ac h17 (ac h17 (ac h17 (ac h17 an)))))))))))))))))))))))))))))))))))))))) tq) fun h16 h16p => by intro e; injection e with e; subst e; exact leafR vw_eq (k := 300) (r := []) (hs := hz [(2, [.fres (.tu [Sa.av (s0.1), .i (s0.2)])]), (5, [.fc]), (2, [.fc]), (5, [.fc]), (1, [.fc]), (1, [.fc]), (1, [.fc, .fc]), (1, [.yes]), (1, [.fres (.tu [Sa.av (s1.1), .i (s1.2.1), .i (s1.2.2)])]), (6, [.fc]), (3, [.fc]), (1, [.fres (.tu [Sm.av (s2.1), .i (s2.2)])]), (5, [.fc]), (2, [.fc]), (1, [.fres (.tu [Sm.av (s3.1), .i (s3.2)])]), (5, [.fc]), (2, [.fc]), (1, [.fres (.tu [Sm.av (s4.1), .i (s4.2)])]), (5, [.fc]), (2, [.fc]), (1, [.fres (.tu [Sm.av (s5.1), .i (s5.2)])]), (5, [.fc]), (5, [.fc]), (1, [.fres (.tu [exs (s6.1), .i (s6.2)])]), (6, [.fc]), (1, [.fres (.tu [exs (s7.1), .i (s7.2)])]), (6, [.fc]), (2, [.fc, .fc]), (2, [.yes]), (1, [.fres (.b (s8))]), (1, [.yes]), (1, [.fc, .yes]), (1, [.yes]), (1, [.fc, .fc, .yes]), (1, [.yes]), (1, [.yes]), (1, [.fres (.b (s10)), .yes]), (4, [.yes]), (1, [.yes]), (1, [.yes]), (1, [.yes]), (1, [.yes]), (1, [.yes]), (1, [.yes]), (1, [.yes]), (1, [.yes]), (1, [.yes]), (1, [.yes]), (1, [.yes]), (1, [.yes]), (1, [.yes]), (1, [.no, .no, .no]), (16, [])]) (raw := (AV.b false)) kq (ac (cNew_ok ((8 : Int)) _ h0) (ac (tq (p := (((0 : Nat) = (0 : Nat)) ∧ ((24 : Nat) = (24 : Nat))))) (ac (cRun_ok (s0.1) ([(Ch.mk 2 2 3 0 ([] : List UInt8) ([] : List Ex)), (Ch.mk 4 0 0 5 ([] : List UInt8) ([] : List Ex)), (Ch.mk 3 2 1 0 ([] : List UInt8) ([] : List Ex)), (Ch.mk 4 0 0 7 ([] : List UInt8) ([] : List Ex))]) _ h1) (ac (cMake_ok (s1.1) ((0 : Int)) ((5 : Int)) _ h2) (ac (cMake_ok (s1.1) ((5 : Int)) ((7 : Int)) _ h3) (ac (cMake_ok (s1.1) ((7 : Int)) ((7 : Int)) _ h4) (ac (cMake_ok (s1.1) ((0 : Int)) ((6 : Int)) _ h5) (ac (cDenote_ok ((8 : Int)) (s0.1.map) (s2.1) ((9 : Int)) _ h6) (ac (cDenote_ok ((7 : Int)) (([] : List Ex)) (s2.1) ((9 : Int)) _ h7) (ac (tq (p := (((0 : Nat) = (0 : Nat)) ∧ ((5 : Nat) = (5 : Nat))))) (ac (cSame_ok (s2.1) ((Sm.mk 8 0 5 [(Ex.mk 2 3 1 0 ([] : List UInt8))])) _ h8) (ac h9 (ac h9 (ac h9 (ac h9 (ac h9 (ac (tq (p := (((0 : Nat) = (0 : Nat)) ∧ ((5 : Nat) = (5 : Nat))))) (ac (cSame_ok (s3.1) ((Sm.mk 8 5 7 [(Ex.mk 2 1 0 0 ([] : List UInt8))])) _ h10) (ac h9 (ac h11 (ac h11 (ac h11 (ac h12 (ac h12 (ac h12 (ac h13 (ac h13 (ac h13 (ac h14 (ac h14 (ac h15 (ac h15 (ac h15 (ac h16 (ac h16 (ac h16 an)))))))))))))))))))))))))))))))))))) tq) fun h15 => by intro e; injection e with e; subst e; exact leafR vw_eq (k := 300) (r := []) (hs := hz [(2, [.fres (.tu [Sa.av (s0.1), .i (s0.2)])]), (5, [.fc]), (2, [.fc]), (5, [.fc]), (1, [.fc]), (1, [.fc]), (1, [.fc, .fc]), (1, [.yes]), (1, [.fres (.tu [Sa.av (s1.1), .i (s1.2.1), .i (s1.2.2)])]), (6, [.fc]), (3, [.fc]), (1, [.fres (.tu [Sm.av (s2.1), .i (s2.2)])]), (5, [.fc]), (2, [.fc]), (1, [.fres (.tu [Sm.av (s3.1), .i (s3.2)])]), (5, [.fc]), (2, [.fc]), (1, [.fres (.tu [Sm.av (s4.1), .i (s4.2)])]), (5, [.fc]), (2, [.fc]), (1, [.fres (.tu [Sm.av (s5.1), .i (s5.2)])]), (5, [.fc]), (5, [.fc]), (1, [.fres (.tu [exs (s6.1), .i (s6.2)])]), (6, [.fc]), (1, [.fres (.tu [exs (s7.1), .i (s7.2)])]), (6, [.fc]), (2, [.fc, .fc]), (2, [.yes]), (1, [.fres (.b (s8))]), (1, [.yes]), (1, [.fc, .yes]), (1, [.yes]), (1, [.fc, .fc, .yes]), (1, [.yes]), (1, [.yes]), (1, [.fres (.b (s10)), .yes]), (4, [.yes]), (1, [.yes]), (1, [.yes]), (1, [.yes]), (1, [.yes]), (1, [.yes]), (1, [.yes]), (1, [.yes]), (1, [.yes]), (1, [.yes]), (1, [.yes]), (1, [.no, .no, .no]), (20, [])]) (raw := (AV.b false)) kq (ac (cNew_ok ((8 : Int)) _ h0) (ac (tq (p := (((0 : Nat) = (0 : Nat)) ∧ ((24 : Nat) = (24 : Nat))))) (ac (cRun_ok (s0.1) ([(Ch.mk 2 2 3 0 ([] : List UInt8) ([] : List Ex)), (Ch.mk 4 0 0 5 ([] : List UInt8) ([] : List Ex)), (Ch.mk 3 2 1 0 ([] : List UInt8) ([] : List Ex)), (Ch.mk 4 0 0 7 ([] : List UInt8) ([] : List Ex))]) _ h1) (ac (cMake_ok (s1.1) ((0 : Int)) ((5 : Int)) _ h2) (ac (cMake_ok (s1.1) ((5 : Int)) ((7 : Int)) _ h3) (ac (cMake_ok (s1.1) ((7 : Int)) ((7 : Int)) _ h4) (ac (cMake_ok (s1.1) ((0 : Int)) ((6 : Int)) _ h5) (ac (cDenote_ok ((8 : Int)) (s0.1.map) (s2.1) ((9 : Int)) _ h6) (ac (cDenote_ok ((7 : Int)) (([] : List Ex)) (s2.1) ((9 : Int)) _ h7) (ac (tq (p := (((0 : Nat) = (0 : Nat)) ∧ ((5 : Nat) = (5 : Nat))))) (ac (cSame_ok (s2.1) ((Sm.mk 8 0 5 [(Ex.mk 2 3 1 0 ([] : List UInt8))])) _ h8) (ac h9 (ac h9 (ac h9 (ac h9 (ac h9 (ac (tq (p := (((0 : Nat) = (0 : Nat)) ∧ ((5 : Nat) = (5 : Nat))))) (ac (cSame_ok (s3.1) ((Sm.mk 8 5 7 [(Ex.mk 2 1 0 0 ([] : List UInt8))])) _ h10) (ac h9 (ac h11 (ac h11 (ac h11 (ac h12 (ac h12 (ac h12 (ac h13 (ac h13 (ac h13 (ac h14 (ac h14 (ac h15 (ac h15 (ac h15 an))))))))))))))))))))))))))))))))) tq) fun h14 h14p => by intro e; injection e with e; subst e; exact leafR vw_eq (k := 300) (r := []) (hs := hz [(2, [.fres (.tu [Sa.av (s0.1), .i (s0.2)])]), (5, [.fc]), (2, [.fc]), (5, [.fc]), (1, [.fc]), (1, [.fc]), (1, [.fc, .fc]), (1, [.yes]), (1, [.fres (.tu [Sa.av (s1.1), .i (s1.2.1), .i (s1.2.2)])]), (6, [.fc]), (3, [.fc]), (1, [.fres (.tu [Sm.av (s2.1), .i (s2.2)])]), (5, [.fc]), (2, [.fc]), (1, [.fres (.tu [Sm.av (s3.1), .i (s3.2)])]), (5, [.fc]), (2, [.fc]), (1, [.fres (.tu [Sm.av (s4.1), .i (s4.2)])]), (5, [.fc]), (2, [.fc]), (1, [.fres (.tu [Sm.av (s5.1), .i (s5.2)])]), (5, [.fc]), (5, [.fc]), (1, [.fres (.tu [exs (s6.1), .i (s6.2)])]), (6, [.fc]), (1, [.fres (.tu [exs (s7.1), .i (s7.2)])]), (6, [.fc]), (2, [.fc, .fc]), (2, [.yes]), (1, [.fres (.b (s8))]), (1, [.yes]), (1, [.fc, .yes]), (1, [.yes]), (1, [.fc, .fc, .yes]), (1, [.yes]), (1, [.yes]), (1, [.fres (.b (s10)), .yes]), (4, [.yes]), (1, [.yes]), (1, [.yes]), (1, [.yes]), (1, [.yes]), (1, [.yes]), (1, [.yes]), (1, [.yes]), (1, [.yes]), (1, [.no, .no]), (24, [])]) (raw := (AV.b false)) kq (ac (cNew_ok ((8 : Int)) _ h0) (ac (tq (p := (((0 : Nat) = (0 : Nat)) ∧ ((24 : Nat) = (24 : Nat))))) (ac (cRun_ok (s0.1) ([(Ch.mk 2 2 3 0 ([] : List UInt8) ([] : List Ex)), (Ch.mk 4 0 0 5 ([] : List UInt8) ([] : List Ex)), (Ch.mk 3 2 1 0 ([] : List UInt8) ([] : List Ex)), (Ch.mk 4 0 0 7 ([] : List UInt8) ([] : List Ex))]) _ h1) (ac (cMake_ok (s1.1) ((0 : Int)) ((5 : Int)) _ h2) (ac (cMake_ok (s1.1) ((5 : Int)) ((7 : Int)) _ h3) (ac (cMake_ok (s1.1) ((7 : Int)) ((7 : Int)) _ h4) (ac (cMake_ok (s1.1) ((0 : Int)) ((6 : Int)) _ h5) (ac (cDenote_ok ((8 : Int)) (s0.1.map) (s2.1) ((9 : Int)) _ h6) (ac (cDenote_ok ((7 : Int)) (([] : List Ex)) (s2.1) ((9 : Int)) _ h7) (ac (tq (p := (((0 : Nat) = (0 : Nat)) ∧ ((5 : Nat) = (5 : Nat))))) (ac (cSame_ok (s2.1) ((Sm.mk 8 0 5 [(Ex.mk 2 3 1 0 ([] : List UInt8))])) _ h8) (ac h9 (ac h9 (ac h9 (ac h9 (ac h9 (ac (tq (p := (((0 : Nat) = (0 : Nat)) ∧ ((5 : Nat) = (5 : Nat))))) (ac (cSame_ok (s3.1) ((Sm.mk 8 5 7 [(Ex.mk 2 1 0 0 ([] : List UInt8))])) _ h10) (ac h9 (ac h11 (ac h11 (ac h11 (ac h12 (ac h12 (ac h12 (ac h13 (ac h13 (ac h13 (ac h14 (ac h14 an)))))))))))))))))))))))))))))) tq) fun h13 h13p => by intro e; injection e with e; subst e; exact leafR vw_eq (k := 300) (r := []) (hs := hz [(2, [.fres (.tu [Sa.av (s0.1), .i (s0.2)])]), (5, [.fc]), (2, [.fc]), (5, [.fc]), (1, [.fc]), (1, [.fc]), (1, [.fc, .fc]), (1, [.yes]), (1, [.fres (.tu [Sa.av (s1.1), .i (s1.2.1), .i (s1.2.2)])]), (6, [.fc]), (3, [.fc]), (1, [.fres (.tu [Sm.av (s2.1), .i (s2.2)])]), (5, [.fc]), (2, [.fc]), (1, [.fres (.tu [Sm.av (s3.1), .i (s3.2)])]), (5, [.fc]), (2, [.fc]), (1, [.fres (.tu [Sm.av (s4.1), .i (s4.2)])]), (5, [.fc]), (2, [.fc]), (1, [.fres (.tu [Sm.av (s5.1), .i (s5.2)])]), (5, [.fc]), (5, [.fc]), (1, [.fres (.tu [exs (s6.1), .i (s6.2)])]), (6, [.fc]), (1, [.fres (.tu [exs (s7.1), .i (s7.2)])]), (6, [.fc]), (2, [.fc, .fc]), (2, [.yes]), (1, [.fres (.b (s8))]), (1, [.yes]), (1, [.fc, .yes]), (1, [.yes]), (1, [.fc, .fc, .yes]), (1, [.yes]), (1, [.yes]), (1, [.fres (.b (s10)), .yes]), (4, [.yes]), (1, [.yes]), (1, [.yes]), (1, [.yes]), (1, [.yes]), (1, [.yes]), (1, [.no, .no, .no]), (27, [])]) (raw := (AV.b false)) kq (ac (cNew_ok ((8 : Int)) _ h0) (ac (tq (p := (((0 : Nat) = (0 : Nat)) ∧ ((24 : Nat) = (24 : Nat))))) (ac (cRun_ok (s0.1) ([(Ch.mk 2 2 3 0 ([] : List UInt8) ([] : List Ex)), (Ch.mk 4 0 0 5 ([] : List UInt8) ([] : List Ex)), (Ch.mk 3 2 1 0 ([] : List UInt8) ([] : List Ex)), (Ch.mk 4 0 0 7 ([] : List UInt8) ([] : List Ex))]) _ h1) (ac (cMake_ok (s1.1) ((0 : Int)) ((5 : Int)) _ h2) (ac (cMake_ok (s1.1) ((5 : Int)) ((7 : Int)) _ h3) (ac (cMake_ok (s1.1) ((7 : Int)) ((7 : Int)) _ h4) (ac (cMake_ok (s1.1) ((0 : Int)) ((6 : Int)) _ h5) (ac (cDenote_ok ((8 : Int)) (s0.1.map) (s2.1) ((9 : Int)) _ h6) (ac (cDenote_ok ((7 : Int)) (([] : List Ex)) (s2.1) ((9 : Int)) _ h7) (ac (tq (p := (((0 : Nat) = (0 : Nat)) ∧ ((5 : Nat) = (5 : Nat))))) (ac (cSame_ok (s2.1) ((Sm.mk 8 0 5 [(Ex.mk 2 3 1 0 ([] : List UInt8))])) _ h8) (ac h9 (ac h9 (ac h9 (ac h9 (ac h9 (ac (tq (p := (((0 : Nat) = (0 : Nat)) ∧ ((5 : Nat) = (5 : Nat))))) (ac (cSame_ok (s3.1) ((Sm.mk 8 5 7 [(Ex.mk 2 1 0 0 ([] : List UInt8))])) _ h10) (ac h9 (ac h11 (ac h11 (ac h11 (ac h12 (ac h12 (ac h12 (ac h13 (ac h13 (ac h13 an)))))))))))))))))))))))))))) tq) fun h12 h12p => by intro e; injection e with e; subst e; exact leafR vw_eq (k := 300) (r := []) (hs := hz [(2, [.fres (.tu [Sa.av (s0.1), .i (s0.2)])]), (5, [.fc]), (2, [.fc]), (5, [.fc]), (1, [.fc]), (1, [.fc]), (1, [.fc, .fc]), (1, [.yes]), (1, [.fres (.tu [Sa.av (s1.1), .i (s1.2.1), .i (s1.2.2)])]), (6, [.fc]), (3, [.fc]), (1, [.fres (.tu [Sm.av (s2.1), .i (s2.2)])]), (5, [.fc]), (2, [.fc]), (1, [.fres (.tu [Sm.av (s3.1), .i (s3.2)])]), (5, [.fc]), (2, [.fc]), (1, [.fres (.tu [Sm.av (s4.1), .i (s4.2)])]), (5, [.fc]), (2, [.fc]), (1, [.fres (.tu [Sm.av (s5.1), .i (s5.2)])]), (5, [.fc]), (5, [.fc]), (1, [.fres (.tu [exs (s6.1), .i (s6.2)])]), (6, [.fc]), (1, [.fres (.tu [exs (s7.1), .i (s7.2)])]), (6, [.fc]), (2, [.fc, .fc]), (2, [.yes]), (1, [.fres (.b (s8))]), (1, [.yes]), (1, [.fc, .yes]), (1, [.yes]), (1, [.fc, .fc, .yes]), (1, [.yes]), (1, [.yes]), (1, [.fres (.b (s10)), .yes]), (4, [.yes]), (1, [.yes]), (1, [.yes]), (1, [.no, .no, .no]), (31, [])]) (raw := (AV.b false)) kq (ac (cNew_ok ((8 : Int)) _ h0) (ac (tq (p := (((0 : Nat) = (0 : Nat)) ∧ ((24 : Nat) = (24 : Nat))))) (ac (cRun_ok (s0.1) ([(Ch.mk 2 2 3 0 ([] : List UInt8) ([] : List Ex)), (Ch.mk 4 0 0 5 ([] : List UInt8) ([] : List Ex)), (Ch.mk 3 2 1 0 ([] : List UInt8) ([] : List Ex)), (Ch.mk 4 0 0 7 ([] : List UInt8) ([] : List Ex))]) _ h1) (ac (cMake_ok (s1.1) ((0 : Int)) ((5 : Int)) _ h2) (ac (cMake_ok (s1.1) ((5 : Int)) ((7 : Int)) _ h3) (ac (cMake_ok (s1.1) ((7 : Int)) ((7 : Int)) _ h4) (ac (cMake_ok (s1.1) ((0 : Int)) ((6 : Int)) _ h5) (ac (cDenote_ok ((8 : Int)) (s0.1.map) (s2.1) ((9 : Int)) _ h6) (ac (cDenote_ok ((7 : Int)) (([] : List Ex)) (s2.1) ((9 : Int)) _ h7) (ac (tq (p := (((0 : Nat) = (0 : Nat)) ∧ ((5 : Nat) = (5 : Nat))))) (ac (cSame_ok (s2.1) ((Sm.mk 8 0 5 [(Ex.mk 2 3 1 0 ([] : List UInt8))])) _ h8) (ac h9 (ac h9 (ac h9 (ac h9 (ac h9 (ac (tq (p := (((0 : Nat) = (0 : Nat)) ∧ ((5 : Nat) = (5 : Nat))))) (ac (cSame_ok (s3.1) ((Sm.mk 8 5 7 [(Ex.mk 2 1 0 0 ([] : List UInt8))])) _ h10) (ac h9 (ac h11 (ac h11 (ac h11 (ac h12 (ac h12 (ac h12 an))))))))))))))))))))))))) tq) fun h11 h11p => by intro e; injection e with e; subst e; exact leafR vw_eq (k := 300) (r := []) (hs := hz [(2, [.fres (.tu [Sa.av (s0.1), .i (s0.2)])]), (5, [.fc]), (2, [.fc]), (5, [.fc]), (1, [.fc]), (1, [.fc]), (1, [.fc, .fc]), (1, [.yes]), (1, [.fres (.tu [Sa.av (s1.1), .i (s1.2.1), .i (s1.2.2)])]), (6, [.fc]), (3, [.fc]), (1, [.fres (.tu [Sm.av (s2.1), .i (s2.2)])]), (5, [.fc]), (2, [.fc]), (1, [.fres (.tu [Sm.av (s3.1), .i (s3.2)])]), (5, [.fc]), (2, [.fc]), (1, [.fres (.tu [Sm.av (s4.1), .i (s4.2)])]), (5, [.fc]), (2, [.fc]), (1, [.fres (.tu [Sm.av (s5.1), .i (s5.2)])]), (5, [.fc]), (5, [.fc]), (1, [.fres (.tu [exs (s6.1), .i (s6.2)])]), (6, [.fc]), (1, [.fres (.tu [exs (s7.1), .i (s7.2)])]), (6, [.fc]), (2, [.fc, .fc]), (2, [.yes]), (1, [.fres (.b (s8))]), (1, [.yes]), (1, [.fc, .yes]), (1, [.yes]), (1, [.fc, .fc, .yes]), (1, [.yes]), (1, [.yes]), (1, [.fres (.b (s10)), .yes]), (4, [.no, .no, .no]), (35, [])]) (raw := (AV.b false)) kq (ac (cNew_ok ((8 : Int)) _ h0) (ac (tq (p := (((0 : Nat) = (0 : Nat)) ∧ ((24 : Nat) = (24 : Nat))))) (ac (cRun_ok (s0.1) ([(Ch.mk 2 2 3 0 ([] : List UInt8) ([] : List Ex)), (Ch.mk 4 0 0 5 ([] : List UInt8) ([] : List Ex)), (Ch.mk 3 2 1 0 ([] : List UInt8) ([] : List Ex)), (Ch.mk 4 0 0 7 ([] : List UInt8) ([] : List Ex))]) _ h1) (ac (cMake_ok (s1.1) ((0 : Int)) ((5 : Int)) _ h2) (ac (cMake_ok (s1.1) ((5 : Int)) ((7 : Int)) _ h3) (ac (cMake_ok (s1.1) ((7 : Int)) ((7 : Int)) _ h4) (ac (cMake_ok (s1.1) ((0 : Int)) ((6 : Int)) _ h5) (ac (cDenote_ok ((8 : Int)) (s0.1.map) (s2.1) ((9 : Int)) _ h6) (ac (cDenote_ok ((7 : Int)) (([] : List Ex)) (s2.1) ((9 : Int)) _ h7) (ac (tq (p := (((0 : Nat) = (0 : Nat)) ∧ ((5 : Nat) = (5 : Nat))))) (ac (cSame_ok (s2.1) ((Sm.mk 8 0 5 [(Ex.mk 2 3 1 0 ([] : List UInt8))])) _ h8) (ac h9 (ac h9 (ac h9 (ac h9 (ac h9 (ac (tq (p := (((0 : Nat) = (0 : Nat)) ∧ ((5 : Nat) = (5 : Nat))))) (ac (cSame_ok (s3.1) ((Sm.mk 8 5 7 [(Ex.mk 2 1 0 0 ([] : List UInt8))])) _ h10) (ac h9 (ac h11 (ac h11 (ac h11 an)))))))))))))))))))))) tq) fun h9 => tbE (fun h10 h10p => tbE (fun h11 h11p => tbE (fun h12 h12p => tbE (fun h13 h13p => by intro e; injection e with e; subst e; exact leafR vw_eq (k := 300) (r := []) (hs := hz [(2, [.fres (.tu [Sa.av (s0.1), .i (s0.2)])]), (5, [.fc]), (2, [.fc]), (5, [.fc]), (1, [.fc]), (1, [.fc]), (1, [.fc, .fc]), (1, [.yes]), (1, [.fres (.tu [Sa.av (s1.1), .i (s1.2.1), .i (s1.2.2)])]), (6, [.fc]), (3, [.fc]), (1, [.fres (.tu [Sm.av (s2.1), .i (s2.2)])]), (5, [.fc]), (2, [.fc]), (1, [.fres (.tu [Sm.av (s3.1), .i (s3.2)])]), (5, [.fc]), (2, [.fc]), (1, [.fres (.tu [Sm.av (s4.1), .i (s4.2)])]), (5, [.fc]), (2, [.fc]), (1, [.fres (.tu [Sm.av (s5.1), .i (s5.2)])]), (5, [.fc]), (5, [.fc]), (1, [.fres (.tu [exs (s6.1), .i (s6.2)])]), (6, [.fc]), (1, [.fres (.tu [exs (s7.1), .i (s7.2)])]), (6, [.fc]), (2, [.fc, .fc]), (2, [.yes]), (1, [.fres (.b (s8))]), (1, [.no, .no, .no, .no, .no, .no]), (4, [.yes]), (1, [.yes]), (1, [.yes]), (1, [.yes]), (1, [.yes]), (1, [.yes]), (1, [.yes]), (1, [.yes]), (1, [.yes]), (1, [.yes]), (1, [.yes]), (24, [])]) (raw := (AV.b false)) kq (ac (cNew_ok ((8 : Int)) _ h0) (ac (tq (p := (((0 : Nat) = (0 : Nat)) ∧ ((24 : Nat) = (24 : Nat))))) (ac (cRun_ok (s0.1) ([(Ch.mk 2 2 3 0 ([] : List UInt8) ([] : List Ex)), (Ch.mk 4 0 0 5 ([] : List UInt8) ([] : List Ex)), (Ch.mk 3 2 1 0 ([] : List UInt8) ([] : List Ex)), (Ch.mk 4 0 0 7 ([] : List UInt8) ([] : List Ex))]) _ h1) (ac (cMake_ok (s1.1) ((0 : Int)) ((5 : Int)) _ h2) (ac (cMake_ok (s1.1) ((5 : Int)) ((7 : Int)) _ h3) (ac (cMake_ok (s1.1) ((7 : Int)) ((7 : Int)) _ h4) (ac (cMake_ok (s1.1) ((0 : Int)) ((6 : Int)) _ h5) (ac (cDenote_ok ((8 : Int)) (s0.1.map) (s2.1) ((9 : Int)) _ h6) (ac (cDenote_ok ((7 : Int)) (([] : List Ex)) (s2.1) ((9 : Int)) _ h7) (ac (tq (p := (((0 : Nat) = (0 : Nat)) ∧ ((5 : Nat) = (5 : Nat))))) (ac (cSame_ok (s2.1) ((Sm.mk 8 0 5 [(Ex.mk 2 3 1 0 ([] : List UInt8))])) _ h8) (ac h9 (ac h9 (ac h9 (ac h9 (ac h9 (ac h9 (ac h10 (ac h10 (ac h10 (ac h11 (ac h11 (ac h11 (ac h12 (ac h12 (ac h12 (ac h13 (ac h13 an)))))))))))))))))))))))))))) tq) fun h13 h13p => by intro e; injection e with e; subst e; exact leafR vw_eq (k := 300) (r := []) (hs := hz [(2, [.fres (.tu [Sa.av (s0.1), .i (s0.2)])]), (5, [.fc]), (2, [.fc]), (5, [.fc]), (1, [.fc]), (1, [.fc]), (1, [.fc, .fc]), (1, [.yes]), (1, [.fres (.tu [Sa.av (s1.1), .i (s1.2.1), .i (s1.2.2)])]), (6, [.fc]), (3, [.fc]), (1, [.fres (.tu [Sm.av (s2.1), .i (s2.2)])]), (5, [.fc]), (2, [.fc]), (1, [.fres (.tu [Sm.av (s3.1), .i (s3.2)])]), (5, [.fc]), (2, [.fc]), (1, [.fres (.tu [Sm.av (s4.1), .i (s4.2)])]), (5, [.fc]), (2, [.fc]), (1, [.fres (.tu [Sm.av (s5.1), .i (s5.2)])]), (5, [.fc]), (5, [.fc]), (1, [.fres (.tu [exs (s6.1), .i (s6.2)])]), (6, [.fc]), (1, [.fres (.tu [exs (s7.1), .i (s7.2)])]), (6, [.fc]), (2, [.fc, .fc]), (2, [.yes]), (1, [.fres (.b (s8))]), (1, [.no, .no, .no, .no, .no, .no]), (4, [.yes]), (1, [.yes]), (1, [.yes]), (1, [.yes]), (1, [.yes]), (1, [.yes]), (1, [.yes]), (1, [.yes]), (1, [.yes]), (1, [.no, .no]), (24, [])]) (raw := (AV.b false)) kq (ac (cNew_ok ((8 : Int)) _ h0) (ac (tq (p := (((0 : Nat) = (0 : Nat)) ∧ ((24 : Nat) = (24 : Nat))))) (ac (cRun_ok (s0.1) ([(Ch.mk 2 2 3 0 ([] : List UInt8) ([] : List Ex)), (Ch.mk 4 0 0 5 ([] : List UInt8) ([] : List Ex)), (Ch.mk 3 2 1 0 ([] : List UInt8) ([] : List Ex)), (Ch.mk 4 0 0 7 ([] : List UInt8) ([] : List Ex))]) _ h1) (ac (cMake_ok (s1.1) ((0 : Int)) ((5 : Int)) _ h2) (ac (cMake_ok (s1.1) ((5 : Int)) ((7 : Int)) _ h3) (ac (cMake_ok (s1.1) ((7 : Int)) ((7 : Int)) _ h4) (ac (cMake_ok (s1.1) ((0 : Int)) ((6 : Int)) _ h5) (ac (cDenote_ok ((8 : Int)) (s0.1.map) (s2.1) ((9 : Int)) _ h6) (ac (cDenote_ok ((7 : Int)) (([] : List Ex)) (s2.1) ((9 : Int)) _ h7) (ac (tq (p := (((0 : Nat) = (0 : Nat)) ∧ ((5 : Nat) = (5 : Nat))))) (ac (cSame_ok (s2.1) ((Sm.mk 8 0 5 [(Ex.mk 2 3 1 0 ([] : List UInt8))])) _ h8) (ac h9 (ac h9 (ac h9 (ac h9 (ac h9 (ac h9 (ac h10 (ac h10 (ac h10 (ac h11 (ac h11 (ac h11 (ac h12 (ac h12 (ac h12 (ac h13 (ac h13 an)))))))))))))))))))))))))))) tq) fun h12 h12p => by intro e; injection e with e; subst e; exact leafR vw_eq (k := 300) (r := []) (hs := hz [(2, [.fres (.tu [Sa.av (s0.1), .i (s0.2)])]), (5, [.fc]), (2, [.fc]), (5, [.fc]), (1, [.fc]), (1, [.fc]), (1, [.fc, .fc]), (1, [.yes]), (1, [.fres (.tu [Sa.av (s1.1), .i (s1.2.1), .i (s1.2.2)])]), (6, [.fc]), (3, [.fc]), (1, [.fres (.tu [Sm.av (s2.1), .i (s2.2)])]), (5, [.fc]), (2, [.fc]), (1, [.fres (.tu [Sm.av (s3.1), .i (s3.2)])]), (5, [.fc]), (2, [.fc]), (1, [.fres (.tu [Sm.av (s4.1), .i (s4.2)])]), (5, [.fc]), (2, [.fc]), (1, [.fres (.tu [Sm.av (s5.1), .i (s5.2)])]), (5, [.fc]), (5, [.fc]), (1, [.fres (.tu [exs (s6.1), .i (s6.2)])]), (6, [.fc]), (1, [.fres (.tu [exs (s7.1), .i (s7.2)])]), (6, [.fc]), (2, [.fc, .fc]), (2, [.yes]), (1, [.fres (.b (s8))]), (1, [.no, .no, .no, .no, .no, .no]), (4, [.yes]), (1, [.yes]), (1, [.yes]), (1, [.yes]), (1, [.yes]), (1, [.yes]), (1, [.no, .no, .no]), (27, [])]) (raw := (AV.b false)) kq (ac (cNew_ok ((8 : Int)) _ h0) (ac (tq (p := (((0 : Nat) = (0 : Nat)) ∧ ((24 : Nat) = (24 : Nat))))) (ac (cRun_ok (s0.1) ([(Ch.mk 2 2 3 0 ([] : List UInt8) ([] : List Ex)), (Ch.mk 4 0 0 5 ([] : List UInt8) ([] : List Ex)), (Ch.mk 3 2 1 0 ([] : List UInt8) ([] : List Ex)), (Ch.mk 4 0 0 7 ([] : List UInt8) ([] : List Ex))]) _ h1) (ac (cMake_ok (s1.1) ((0 : Int)) ((5 : Int)) _ h2) (ac (cMake_ok (s1.1) ((5 : Int)) ((7 : Int)) _ h3) (ac (cMake_ok (s1.1) ((7 : Int)) ((7 : Int)) _ h4) (ac (cMake_ok (s1.1) ((0 : Int)) ((6 : Int)) _ h5) (ac (cDenote_ok ((8 : Int)) (s0.1.map) (s2.1) ((9 : Int)) _ h6) (ac (cDenote_ok ((7 : Int)) (([] : List Ex)) (s2.1) ((9 : Int)) _ h7) (ac (tq (p := (((0 : Nat) = (0 : Nat)) ∧ ((5 : Nat) = (5 : Nat))))) (ac (cSame_ok (s2.1) ((Sm.mk 8 0 5 [(Ex.mk 2 3 1 0 ([] : List UInt8))])) _ h8) (ac h9 (ac h9 (ac h9 (ac h9 (ac h9 (ac h9 (ac h10 (ac h10 (ac h10 (ac h11 (ac h11 (ac h11 (ac h12 (ac h12 (ac h12 an)))))))))))))))))))))))))) tq) fun h11 h11p => by intro e; injection e with e; subst e; exact leafR vw_eq (k := 300) (r := []) (hs := hz [(2, [.fres (.tu [Sa.av (s0.1), .i (s0.2)])]), (5, [.fc]), (2, [.fc]), (5, [.fc]), (1, [.fc]), (1, [.fc]), (1, [.fc, .fc]), (1, [.yes]), (1, [.fres (.tu [Sa.av (s1.1), .i (s1.2.1), .i (s1.2.2)])]), (6, [.fc]), (3, [.fc]), (1, [.fres (.tu [Sm.av (s2.1), .i (s2.2)])]), (5, [.fc]), (2, [.fc]), (1, [.fres (.tu [Sm.av (s3.1), .i (s3.2)])]), (5, [.fc]), (2, [.fc]), (1, [.fres (.tu [Sm.av (s4.1), .i (s4.2)])]), (5, [.fc]), (2, [.fc]), (1, [.fres (.tu [Sm.av (s5.1), .i (s5.2)])]), (5, [.fc]), (5, [.fc]), (1, [.fres (.tu [exs (s6.1), .i (s6.2)])]), (6, [.fc]), (1, [.fres (.tu [exs (s7.1), .i (s7.2)])]), (6, [.fc]), (2, [.fc, .fc]), (2, [.yes]), (1, [.fres (.b (s8))]), (1, [.no, .no, .no, .no, .no, .no]), (4, [.yes]), (1, [.yes]), (1, [.yes]), (1, [.no, .no, .no]), (31, [])]) (raw := (AV.b false)) kq (ac (cNew_ok ((8 : Int)) _ h0) (ac (tq (p := (((0 : Nat) = (0 : Nat)) ∧ ((24 : Nat) = (24 : Nat))))) (ac (cRun_ok (s0.1) ([(Ch.mk 2 2 3 0 ([] : List UInt8) ([] : List Ex)), (Ch.mk 4 0 0 5 ([] : List UInt8) ([] : List Ex)), (Ch.mk 3 2 1 0 ([] : List UInt8) ([] : List Ex)), (Ch.mk 4 0 0 7 ([] : List UInt8) ([] : List Ex))]) _ h1) (ac (cMake_ok (s1.1) ((0 : Int)) ((5 : Int)) _ h2) (ac (cMake_ok (s1.1) ((5 : Int)) ((7 : Int)) _ h3) (ac (cMake_ok (s1.1) ((7 : Int)) ((7 : Int)) _ h4) (ac (cMake_ok (s1.1) ((0 : Int)) ((6 : Int)) _ h5) (ac (cDenote_ok ((8 : Int)) (s0.1.map) (s2.1) ((9 : Int)) _ h6) (ac (cDenote_ok ((7 : Int)) (([] : List Ex)) (s2.1) ((9 : Int)) _ h7) (ac (tq (p := (((0 : Nat) = (0 : Nat)) ∧ ((5 : Nat) = (5 : Nat))))) (ac (cSame_ok (s2.1) ((Sm.mk 8 0 5 [(Ex.mk 2 3 1 0 ([] : List UInt8))])) _ h8) (ac h9 (ac h9 (ac h9 (ac h9 (ac h9 (ac h9 (ac h10 (ac h10 (ac h10 (ac h11 (ac h11 (ac h11 an))))))))))))))))))))))) tq) fun h10 h10p => by intro e; injection e with e; subst e; exact leafR vw_eq (k := 300) (r := []) (hs := hz [(2, [.fres (.tu [Sa.av (s0.1), .i (s0.2)])]), (5, [.fc]), (2, [.fc]), (5, [.fc]), (1, [.fc]), (1, [.fc]), (1, [.fc, .fc]), (1, [.yes]), (1, [.fres (.tu [Sa.av (s1.1), .i (s1.2.1), .i (s1.2.2)])]), (6, [.fc]), (3, [.fc]), (1, [.fres (.tu [Sm.av (s2.1), .i (s2.2)])]), (5, [.fc]), (2, [.fc]), (1, [.fres (.tu [Sm.av (s3.1), .i (s3.2)])]), (5, [.fc]), (2, [.fc]), (1, [.fres (.tu [Sm.av (s4.1), .i (s4.2)])]), (5, [.fc]), (2, [.fc]), (1, [.fres (.tu [Sm.av (s5.1), .i (s5.2)])]), (5, [.fc]), (5, [.fc]), (1, [.fres (.tu [exs (s6.1), .i (s6.2)])]), (6, [.fc]), (1, [.fres (.tu [exs (s7.1), .i (s7.2)])]), (6, [.fc]), (2, [.fc, .fc]), (2, [.yes]), (1, [.fres (.b (s8))]), (1, [.no, .no, .no, .no, .no, .no]), (4, [.no, .no, .no]), (35, [])]) (raw := (AV.b false)) kq (ac (cNew_ok ((8 : Int)) _ h0) (ac (tq (p := (((0 : Nat) = (0 : Nat)) ∧ ((24 : Nat) = (24 : Nat))))) (ac (cRun_ok (s0.1) ([(Ch.mk 2 2 3 0 ([] : List UInt8) ([] : List Ex)), (Ch.mk 4 0 0 5 ([] : List UInt8) ([] : List Ex)), (Ch.mk 3 2 1 0 ([] : List UInt8) ([] : List Ex)), (Ch.mk 4 0 0 7 ([] : List UInt8) ([] : List Ex))]) _ h1) (ac (cMake_ok (s1.1) ((0 : Int)) ((5 : Int)) _ h2) (ac (cMake_ok (s1.1) ((5 : Int)) ((7 : Int)) _ h3) (ac (cMake_ok (s1.1) ((7 : Int)) ((7 : Int)) _ h4) (ac (cMake_ok (s1.1) ((0 : Int)) ((6 : Int)) _ h5) (ac (cDenote_ok ((8 : Int)) (s0.1.map) (s2.1) ((9 : Int)) _ h6) (ac (cDenote_ok ((7 : Int)) (([] : List Ex)) (s2.1) ((9 : Int)) _ h7) (ac (tq (p := (((0 : Nat) = (0 : Nat)) ∧ ((5 : Nat) = (5 : Nat))))) (ac (cSame_ok (s2.1) ((Sm.mk 8 0 5 [(Ex.mk 2 3 1 0 ([] : List UInt8))])) _ h8) (ac h9 (ac h9 (ac h9 (ac h9 (ac h9 (ac h9 (ac h10 (ac h10 (ac h10 an)))))))))))))))))))) tq
end Ab
end Go.Proofs.Ytpflcogplhigcaa
namespace Go.Proofs.Ytpflcogplhigcaa
open Go Go.Proofs.Ytpflcogplhigcaa.Ab
set_option linter.unusedVariables false
set_option linter.unusedSimpArgs false
set_option maxRecDepth 1000000
set_option maxHeartbeats 0
namespace Ab
noncomputable def lSendLays (s : Sa) (i : UInt8) (k : UInt8) : Option (Bool) :=
 (tc (aw18) fun s0 => (tc (sIds (s)) fun s1 => (tc (few11 (s)) fun s2 => (tb ((!s2)) (some (s0)) (tb (((s1.length : Int) == (0 : Int))) (some (s0)) (tp ((((s1.length : Int) == (0 : Int)) = false)) (tp ((((0 : Int) ≤ (Int.tmod (wr (↑(UInt8.toNat k) : Int)) (s1.length : Int))) ∧ ((Int.tmod (wr (↑(UInt8.toNat k) : Int)) (s1.length : Int)) < (s1.length : Int)))) (tc (sPoint (s) ((List.getD s1 ((Int.toNat (Int.tmod (wr (↑(UInt8.toNat k) : Int)) (s1.length : Int))) * 1) (0 : Int)))) fun s7 => (tc (mNew (s.blocks)) fun s8 => (tc (vMake (s) ((0 : Int)) ((List.getD s1 ((Int.toNat (Int.tmod (wr (↑(UInt8.toNat k) : Int)) (s1.length : Int))) * 1) (0 : Int)))) fun s9 => (tc (vDenote (s.blocks) (s8.1) (s9.1) ((3 : Int))) fun s10 => (tb ((s7.2 != (0 : Int))) none (tb ((s9.2 != (0 : Int))) none (tb ((s10.2 != (0 : Int))) none (tc (alike18 (s.blocks) (s10.1) (s7.1.map)) fun s14 => (tb ((!s14)) none (tp ((((0 : Int) ≤ (Int.tmod (wr (↑(UInt8.toNat i) : Int)) (s1.length : Int))) ∧ ((Int.tmod (wr (↑(UInt8.toNat i) : Int)) (s1.length : Int)) < (s1.length : Int)))) (tb ((decide ((List.getD s1 ((Int.toNat (Int.tmod (wr (↑(UInt8.toNat i) : Int)) (s1.length : Int))) * 1) (0 : Int)) ≥ (List.getD s1 ((Int.toNat (Int.tmod (wr (↑(UInt8.toNat k) : Int)) (s1.length : Int))) * 1) (0 : Int))))) (some (s0)) (tc (sPoint (s) ((List.getD s1 ((Int.toNat (Int.tmod (wr (↑(UInt8.toNat i) : Int)) (s1.length : Int))) * 1) (0 : Int)))) fun s18 => (tc (vMake (s) ((List.getD s1 ((Int.toNat (Int.tmod (wr (↑(UInt8.toNat i) : Int)) (s1.length : Int))) * 1) (0 : Int))) ((List.getD s1 ((Int.toNat (Int.tmod (wr (↑(UInt8.toNat k) : Int)) (s1.length : Int))) * 1) (0 : Int)))) fun s19 => (tc (vDenote (s.blocks) (s18.1.map) (s19.1) ((2147483647 : Int))) fun s20 => (tb (s0) (tb ((s18.2 == (0 : Int))) (tb ((s19.2 == (0 : Int))) (tb ((s20.2 == (0 : Int))) (tc (alike18 (s.blocks) (s20.1) (s7.1.map)) fun s25 => (some (s25))) none) none) none) none))))))))))))))))))))))
abbrev lSendLays_G (s : Sa) (i : UInt8) (k : UInt8) (r : Bool) : Prop := EvFr Try.prog cf false 4 [Sa.av (s), .y (i), .y (k)] (.b (r))
theorem lSendLays_ok (s : Sa) (i : UInt8) (k : UInt8) (r : Bool) : lSendLays s i k = some r → lSendLays_G s i k r := by
  unfold lSendLays
  exact tc_ok fun s0 h0 => tc_ok fun s1 h1 => tc_ok fun s2 h2 => tb_ok (fun h3 => by intro e; injection e with e; subst e; exact leafR vw_eq (k := 300) (r := []) (hs := hz [(3, [.fres (.b (s0))]), (2, [.fc]), (1, [.fres (ints (s1))]), (2, [.fc]), (1, [.fres (.b (s2))]), (2, [.yes, .yes, .yes, .yes]), (3, [])]) (raw := (AV.b s0)) kq (ac (aw18_ok  _ h0).any0 (ac (sIds_ok (s) _ h1).any0 (ac (few11_ok (s) _ h2).any0 (ac h3 (ac h3 (ac h3 (ac h3 an))))))) tq) fun h3 => tbE (fun h4 h4p => by intro e; injection e with e; subst e; exact leafR vw_eq (k := 300) (r := []) (hs := hz [(3, [.fres (.b (s0))]), (2, [.fc]), (1, [.fres (ints (s1))]), (2, [.fc]), (1, [.fres (.b (s2))]), (2, [.no]), (1, [.no]), (1, [.no]), (1, [.no, .yes]), (2, [])]) (raw := (AV.b s0)) kq (ac (aw18_ok  _ h0).any0 (ac (sIds_ok (s) _ h1).any0 (ac (few11_ok (s) _ h2).any0 (ac h3 (ac h3 (ac h3 (ac h3 (ac h4 an)))))))) tq) fun h4 h4p => tp_ok fun h5 => tp_ok fun h6 => tc_ok fun s7 h7 => tc_ok fun s8 h8 => tc_ok fun s9 h9 => tc_ok fun s10 h10 => tbN (fun h11 h11p => tn_ok) fun h11 h11p => tbN (fun h12 h12p => tn_ok) fun h12 h12p => tbN (fun h13 h13p => tn_ok) fun h13 h13p => tc_ok fun s14 h14 => tb_ok (fun h15 => tn_ok) fun h15 => tp_ok fun h16 => tbD (fun h17 h17p => by intro e; injection e with e; subst e; exact leafR vw_eq (k := 300) (r := []) (hs := hz [(3, [.fres (.b (s0))]), (2, [.fc]), (1, [.fres (ints (s1))]), (2, [.fc]), (1, [.fres (.b (s2))]), (2, [.no]), (1, [.no]), (1, [.no]), (1, [.no, .no]), (4, [.yes, .yes, .yes, .val ((AV.i (List.getD s1 ((Int.toNat (Int.tmod (wr (↑(UInt8.toNat k) : Int)) (s1.length : Int))) * 1) (0 : Int))))]), (2, [.fc]), (2, [.fres (.tu [Po.av (s7.1), .i (s7.2)])]), (5, [.fc]), (5, [.fres (.tu [exs (s8.1), .i (s8.2)])]), (6, [.fc]), (2, [.fres (.tu [Sm.av (s9.1), .i (s9.2)])]), (5, [.fc]), (6, [.fc]), (1, [.fres (.tu [exs (s10.1), .i (s10.2)])]), (8, [.no]), (1, [.no]), (1, [.no]), (1, [.no]), (1, [.no]), (1, [.no]), (1, [.no]), (1, [.no]), (2, [.no]), (1, [.no]), (1, [.no]), (2, [.no]), (1, [.fres (.b (s14)), .no]), (1, [.no, .no]), (4, [.yes, .yes, .yes, .val ((AV.i (List.getD s1 ((Int.toNat (Int.tmod (wr (↑(UInt8.toNat i) : Int)) (s1.length : Int))) * 1) (0 : Int))))]), (4, [.yes]), (2, [])]) (raw := (AV.b s0)) kq (ac (aw18_ok  _ h0).any0 (ac (sIds_ok (s) _ h1).any0 (ac (few11_ok (s) _ h2).any0 (ac h3 (ac h3 (ac h3 (ac h3 (ac h4 (ac h5 (ac h6 (ac (fq (p := ((1 : Nat) ≤ (List.length (List.drop ((Int.toNat (Int.tmod (wr (↑(UInt8.toNat k) : Int)) (s1.length : Int))) * 1) (List.map AV.i s1)))))) (ac (show (List.take 1 (List.drop ((Int.toNat (Int.tmod (wr (↑(UInt8.toNat k) : Int)) (s1.length : Int))) * 1) (List.map AV.i s1))) = [(AV.i (List.getD s1 ((Int.toNat (Int.tmod (wr (↑(UInt8.toNat k) : Int)) (s1.length : Int))) * 1) (0 : Int)))] from (by (try simp only [List.drop_drop]); exact one_drop_iC (l := s1) tq bq)) (ac (sPoint_ok (s) ((List.getD s1 ((Int.toNat (Int.tmod (wr (↑(UInt8.toNat k) : Int)) (s1.length : Int))) * 1) (0 : Int))) _ h7) (ac (mNew_ok (s.blocks) _ h8) (ac (vMake_ok (s) ((0 : Int)) ((List.getD s1 ((Int.toNat (Int.tmod (wr (↑(UInt8.toNat k) : Int)) (s1.length : Int))) * 1) (0 : Int))) _ h9) (ac (vDenote_ok (s.blocks) (s8.1) (s9.1) ((3 : Int)) _ h10) (ac h11 (ac h11 (ac h11 (ac h12 (ac h12 (ac h12 (ac h13 (ac h13 (ac h13 (ac h13 (ac h13 (ac h13 (ac (alike18_ok (s.blocks) (s10.1) (s7.1.map) _ h14).any0 (ac h13 (ac h13 (ac h15 (ac h5 (ac h16 (ac (fq (p := ((1 : Nat) ≤ (List.length (List.drop ((Int.toNat (Int.tmod (wr (↑(UInt8.toNat i) : Int)) (s1.length : Int))) * 1) (List.map AV.i s1)))))) (ac (show (List.take 1 (List.drop ((Int.toNat (Int.tmod (wr (↑(UInt8.toNat i) : Int)) (s1.length : Int))) * 1) (List.map AV.i s1))) = [(AV.i (List.getD s1 ((Int.toNat (Int.tmod (wr (↑(UInt8.toNat i) : Int)) (s1.length : Int))) * 1) (0 : Int)))] from (by (try simp only [List.drop_drop]); exact one_drop_iC (l := s1) tq bq)) (ac h17 an))))))))))))))))))))))))))))))))))))) tq) fun h17 h17p => tc_ok fun s18 h18 => tc_ok fun s19 h19 => tc_ok fun s20 h20 => tb_ok (fun h21 => tbE (fun h22 h22p => tbE (fun h23 h23p => tbE (fun h24 h24p => tc_ok fun s25 h25 => by intro e; injection e with e; subst e; exact leafR vw_eq (k := 300) (r := []) (hs := hz [(3, [.fres (.b (s0))]), (2, [.fc]), (1, [.fres (ints (s1))]), (2, [.fc]), (1, [.fres (.b (s2))]), (2, [.no]), (1, [.no]), (1, [.no]), (1, [.no, .no]), (4, [.yes, .yes, .yes, .val ((AV.i (List.getD s1 ((Int.toNat (Int.tmod (wr (↑(UInt8.toNat k) : Int)) (s1.length : Int))) * 1) (0 : Int))))]), (2, [.fc]), (2, [.fres (.tu [Po.av (s7.1), .i (s7.2)])]), (5, [.fc]), (5, [.fres (.tu [exs (s8.1), .i (s8.2)])]), (6, [.fc]), (2, [.fres (.tu [Sm.av (s9.1), .i (s9.2)])]), (5, [.fc]), (6, [.fc]), (1, [.fres (.tu [exs (s10.1), .i (s10.2)])]), (8, [.no]), (1, [.no]), (1, [.no]), (1, [.no]), (1, [.no]), (1, [.no]), (1, [.no]), (1, [.no]), (2, [.no]), (1, [.no]), (1, [.no]), (2, [.no]), (1, [.fres (.b (s14)), .no]), (1, [.no, .no]), (4, [.yes, .yes, .yes, .val ((AV.i (List.getD s1 ((Int.toNat (Int.tmod (wr (↑(UInt8.toNat i) : Int)) (s1.length : Int))) * 1) (0 : Int))))]), (4, [.no]), (1, [.fc]), (2, [.fres (.tu [Po.av (s18.1), .i (s18.2)])]), (5, [.fc]), (2, [.fc]), (3, [.fres (.tu [Sm.av (s19.1), .i (s19.2)])]), (5, [.fc]), (8, [.fc]), (1, [.fres (.tu [exs (s20.1), .i (s20.2)])]), (7, [.yes]), (1, [.yes]), (1, [.yes]), (1, [.yes]), (1, [.yes]), (1, [.yes]), (1, [.yes]), (1, [.yes]), (1, [.yes]), (1, [.yes]), (1, [.yes]), (2, [.yes]), (1, [.yes]), (1, [.yes]), (2, [.yes]), (1, [.fres (.b (s25)), .yes]), (1, [])]) (raw := (AV.b s25)) kq (ac (aw18_ok  _ h0).any0 (ac (sIds_ok (s) _ h1).any0 (ac (few11_ok (s) _ h2).any0 (ac h3 (ac h3 (ac h3 (ac h3 (ac h4 (ac h5 (ac h6 (ac (fq (p := ((1 : Nat) ≤ (List.length (List.drop ((Int.toNat (Int.tmod (wr (↑(UInt8.toNat k) : Int)) (s1.length : Int))) * 1) (List.map AV.i s1)))))) (ac (show (List.take 1 (List.drop ((Int.toNat (Int.tmod (wr (↑(UInt8.toNat k) : Int)) (s1.length : Int))) * 1) (List.map AV.i s1))) = [(AV.i (List.getD s1 ((Int.toNat (Int.tmod (wr (↑(UInt8.toNat k) : Int)) (s1.length : Int))) * 1) (0 : Int)))] from (by (try simp only [List.drop_drop]); exact one_drop_iC (l := s1) tq bq)) (ac (sPoint_ok (s) ((List.getD s1 ((Int.toNat (Int.tmod (wr (↑(UInt8.toNat k) : Int)) (s1.length : Int))) * 1) (0 : Int))) _ h7) (ac (mNew_ok (s.blocks) _ h8) (ac (vMake_ok (s) ((0 : Int)) ((List.getD s1 ((Int.toNat (Int.tmod (wr (↑(UInt8.toNat k) : Int)) (s1.length : Int))) * 1) (0 : Int))) _ h9) (ac (vDenote_ok (s.blocks) (s8.1) (s9.1) ((3 : Int)) _ h10) (ac h11 (ac h11 (ac h11 (ac h12 (ac h12 (ac h12 (ac h13 (ac h13 (ac h13 (ac h13 (ac h13 (ac h13 (ac (alike18_ok (s.blocks) (s10.1) (s7.1.map) _ h14).any0 (ac h13 (ac h13 (ac h15 (ac h5 (ac h16 (ac (fq (p := ((1 : Nat) ≤ (List.length (List.drop ((Int.toNat (Int.tmod (wr (↑(UInt8.toNat i) : Int)) (s1.length : Int))) * 1) (List.map AV.i s1)))))) (ac (show (List.take 1 (List.drop ((Int.toNat (Int.tmod (wr (↑(UInt8.toNat i) : Int)) (s1.length : Int))) * 1) (List.map AV.i s1))) = [(AV.i (List.getD s1 ((Int.toNat (Int.tmod (wr (↑(UInt8.toNat i) : Int)) (s1.length : Int))) * 1) (0 : Int)))] from (by (try simp only [List.drop_drop]); exact one_drop_iC (l := s1) tq bq)) (ac h17 (ac (sPoint_ok (s) ((List.getD s1 ((Int.toNat (Int.tmod (wr (↑(UInt8.toNat i) : Int)) (s1.length : Int))) * 1) (0 : Int))) _ h18) (ac (vMake_ok (s) ((List.getD s1 ((Int.toNat (Int.tmod (wr (↑(UInt8.toNat i) : Int)) (s1.length : Int))) * 1) (0 : Int))) ((List.getD s1 ((Int.toNat (Int.tmod (wr (↑(UInt8.toNat k) : Int)) (s1.length : Int))) * 1) (0 : Int))) _ h19) (ac (vDenote_ok (s.blocks) (s18.1.map) (s19.1) ((2147483647 : Int)) _ h20) (ac h21 (ac h21 (ac h21 (ac h22 (ac h22 (ac h22 (ac h23 (ac h23 (ac h23 (ac h24 (ac h24 (ac h24 (ac h24 (ac h24 (ac h24 (ac (alike18_ok (s.blocks) (s20.1) (s7.1.map) _ h25).any0 (ac h24 an))))))))))))))))))))))))))))))))))))))))))))))))))))))))) tq) fun h24 h24p => tn_ok) fun h23 h23p => tn_ok) fun h22 h22p => tn_ok) fun h21 => tn_ok
end Ab
end Go.Proofs.Ytpflcogplhigcaa
