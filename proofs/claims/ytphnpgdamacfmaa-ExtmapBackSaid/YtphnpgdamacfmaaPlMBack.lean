/- The law of maps that are laid anew. -/
import Derived.Test.YtphnpgdamacfmaaPlMLay
import Derived.Test.YtphnpgdamacfmaaFlBack
import Derived.Test.YtphnpgdamacfmaaAbsZ
namespace Go.Proofs.Ytphnpgdamacfmaa
open Go Go.Proofs.Ytphnpgdamacfmaa.Ab
set_option linter.unusedVariables false
set_option linter.unusedSimpArgs false
namespace Ab
theorem ch_fun : ∀ {l : List Ex} {s : Int}, CH s l → ∀ {k : Int} {c c' : Int × Int × List UInt8}, Den l k c → Den l k c' → c = c'
  | [], _, _, _, _, _, h1, _ => absurd h1 den_nil
  | x :: l, s, h, k, c, c', h1, h2 => by
    have bx := h.2.1
    rcases den_cons.1 h1 with a | a <;> rcases den_cons.1 h2 with b | b
    · rw [a.2.2, b.2.2]
    · have := den_ge h.2.2.2 b; have := a.2.1; omega
    · have := den_ge h.2.2.2 a; have := b.2.1; omega
    · exact ch_fun h.2.2.2 a b
theorem ch_cov : ∀ {l : List Ex} {s : Int}, CH s l → ∀ {k : Int}, s ≤ k → k < s + sl l → ∃ x ∈ l, x.lba ≤ k ∧ k < x.lba + x.len
  | [], s, _, k, h1, h2 => by simp only [sl] at h2; omega
  | x :: l, s, h, k, h1, h2 => by
    have bx := h.2.1
    simp only [sl] at h2
    by_cases g : k < x.lba + x.len
    · exact ⟨x, by simp, by omega, g⟩
    · obtain ⟨y, hy, q⟩ := ch_cov h.2.2.2 (k := k) (by omega) (by omega)
      exact ⟨y, by simp [hy], q⟩
theorem ch_end : ∀ {l : List Ex} {s : Int}, CH s l → ∀ x ∈ l, x.lba + x.len ≤ s + sl l
  | [], _, _, x, hx => by cases hx
  | y :: l, s, h, x, hx => by
    have by_ := h.2.1
    have h0 : 0 ≤ sl l := sl_nn fun z hz => (ch_ck h.2.2.2 z hz).1
    simp only [sl]
    rcases List.mem_cons.1 hx with e | e
    · subst e; omega
    · have := ch_end h.2.2.2 x e
      omega
/-- Extents laid that tell the same where they meet. -/
theorem den_lay {blocks : Int} : ∀ (o m : List Ex), Mk blocks m → (∀ x ∈ o, Fit8 blocks x) → (∀ x ∈ o, ∀ y ∈ o, ∀ k, x.lba ≤ k → k < x.lba + x.len → y.lba ≤ k → k < y.lba + y.len → bAt x k = bAt y k) →
    ∀ k c, Den (o.foldl put m) k c ↔ Den o k c ∨ ((∀ x ∈ o, k < x.lba ∨ x.lba + x.len ≤ k) ∧ Den m k c)
  | [], m, hm, _, _, k, c => by
    rw [List.foldl_nil]
    exact ⟨fun q => .inr ⟨(by intro x hx; cases hx), q⟩, fun q => q.elim (fun q => absurd q den_nil) (·.2)⟩
  | x :: o, m, hm, hf, hc, k, c => by
    have fx := hf x (by simp)
    obtain ⟨h1, d1⟩ := put_spec hm fx.1 fx.2
    have ih := den_lay o (put m x) h1 (fun y hy => hf y (by simp [hy])) (fun y hy z hz => hc y (by simp [hy]) z (by simp [hz])) k c
    rw [List.foldl_cons, ih, d1, den_cons]
    constructor
    · rintro (q | ⟨a, ⟨b, q⟩ | q⟩)
      · exact .inl (.inr q)
      · refine .inr ⟨fun y hy => ?_, q⟩
        rcases List.mem_cons.1 hy with e | e
        · subst e; exact b
        · exact a y e
      · exact .inl (.inl q)
    · rintro ((q | q) | ⟨a, q⟩)
      · by_cases g : ∀ y ∈ o, k < y.lba ∨ y.lba + y.len ≤ k
        · exact .inr ⟨g, .inr q⟩
        · have : ∃ y, y ∈ o ∧ ¬ (k < y.lba ∨ y.lba + y.len ≤ k) := Classical.byContradiction fun hn => g fun y hy => Classical.byContradiction fun hp => hn ⟨y, hy, hp⟩
          obtain ⟨y, hy, hk⟩ := this
          have e := hc x (by simp) y (by simp [hy]) k q.1 q.2.1 (by omega) (by omega)
          exact .inl ⟨y, hy, by omega, by omega, by rw [← e]; exact q.2.2⟩
      · exact .inl q
      · exact .inr ⟨fun y hy => a y (by simp [hy]), .inl ⟨a x (by simp), q⟩⟩
theorem mk_same {blocks : Int} {l : List Ex} (h : Mk blocks l) {o : List Ex} (ho : ∀ x ∈ o, x ∈ l) : (∀ x ∈ o, Fit8 blocks x) ∧ (∀ x ∈ o, ∀ y ∈ o, ∀ k, x.lba ≤ k → k < x.lba + x.len → y.lba ≤ k → k < y.lba + y.len → bAt x k = bAt y k) := by
  refine ⟨fun x hx => ⟨mk_cks h x (ho x hx), ?_⟩, fun x hx y hy k a1 a2 b1 b2 => ?_⟩
  · have hg := ch_end (mk_ch h) x (ho x hx)
    have h3 := h.2.2
    omega
  · exact ch_fun (mk_ch h) (k := k) ⟨x, ho x hx, a1, a2, rfl⟩ ⟨y, ho y hy, b1, b2, rfl⟩
/-- A map's own extents over it, or over a new one if they are all. -/
theorem lay_own {blocks : Int} {l o : List Ex} (h : Mk blocks l) (ho : ∀ x ∈ o, x ∈ l) : o.foldl put l = l := by
  obtain ⟨f, g⟩ := mk_same h ho
  refine mk_uniq (puts_mk o l h f) h fun k c => ?_
  rw [den_lay o l h f g]
  constructor
  · rintro (⟨x, hx, q⟩ | ⟨_, q⟩)
    · exact ⟨x, ho x hx, q⟩
    · exact q
  · intro q
    by_cases hg : ∀ y ∈ o, k < y.lba ∨ y.lba + y.len ≤ k
    · exact .inr ⟨hg, q⟩
    · have : ∃ y, y ∈ o ∧ ¬ (k < y.lba ∨ y.lba + y.len ≤ k) := Classical.byContradiction fun hn => hg fun y hy => Classical.byContradiction fun hp => hn ⟨y, hy, hp⟩
      obtain ⟨y, hy, hk⟩ := this
      have e := ch_fun (mk_ch h) (k := k) q ⟨y, ho y hy, by omega, by omega, rfl⟩
      exact .inl ⟨y, hy, by omega, by omega, e⟩
theorem lay_new {blocks : Int} {l o m : List Ex} (h : Mk blocks l) (hm : Mk blocks m) (ho : ∀ x, x ∈ o ↔ x ∈ l) : o.foldl put m = l := by
  obtain ⟨f, g⟩ := mk_same h fun x hx => (ho x).1 hx
  refine mk_uniq (puts_mk o m hm f) h fun k c => ?_
  rw [den_lay o m hm f g]
  constructor
  · rintro (⟨x, hx, q⟩ | ⟨a, q⟩)
    · exact ⟨x, (ho x).1 hx, q⟩
    · obtain ⟨x, hx, q1, q2, _⟩ := q
      have e1 := ch_end (mk_ch hm) x hx
      have e2 := (ch_ck (mk_ch hm) x hx).2
      have h3 := hm.2.2
      have h4 := h.2.2
      obtain ⟨y, hy, q3⟩ := ch_cov (mk_ch h) (k := k) (by omega) (by omega)
      have := a y ((ho y).2 hy)
      omega
  · rintro ⟨x, hx, q⟩
    exact .inl ⟨x, (ho x).2 hx, q⟩
def new (blocks : Int) : List Ex := [⟨0, blocks, 0, 0, []⟩]
theorem mk_new {blocks : Int} (h : 1 ≤ blocks ∧ blocks ≤ 64) : Mk blocks (new blocks) := by
  refine ch_mk (l := new blocks) ⟨?_, rfl, (by intro y hy; cases hy), trivial⟩ (by simp [new, sl]) h.1
  refine ⟨by simp, by simp, by simp only; omega, by simp only; omega, by simp, by simp, by simp, by simp, by simp, by simp⟩
theorem rev_at (l : List Ex) (i : Nat) (hi : i < l.length) : exAt l (l.length - 1 - i) = exAt l.reverse i := by
  unfold exAt
  rw [List.getD_eq_getElem?_getD, List.getD_eq_getElem?_getD, List.getElem?_reverse hi]
theorem lExtmapBack_true (blocks : Int) (l : List Ex) (gen : Int) : lExtmapBack blocks l gen = some true := by
  unfold lExtmapBack aw8
  rw [tc_some, few_eq, tc_some, tb_not]
  by_cases hf : l.length ≤ 70 ∧ ∀ x ∈ l, x.d.length ≤ 3000
  case neg => rw [decide_eq_false hf]; rfl
  rw [decide_eq_true hf, tb_t, mCheck_eq _ _ (by omega), tc_some, tb_not]
  by_cases hm : Mk blocks l
  case neg => rw [mk_f hm]; rfl
  have hb := mk_blocks hm
  have hd : ∀ x ∈ l, x.d.length ≤ 4294967296 := fun x hx => by have := hf.2 x hx; omega
  have hnew : mNew blocks = some (new blocks, 0) := by
    unfold mNew
    simp only [tb_dec]
    rw [if_neg (by omega), if_neg (by omega)]; rfl
  rw [mk_t hm, tb_t, hnew, tc_some]
  have hS := fun (f : List Ex × Int → Option Bool) => th_run (f := f) (step := lExtmapBack_L0_step blocks l gen true (decide True) true (new blocks, 0)) (fun i => (l.reverse.take i, (i : Int))) l.length (fun i hi => ?_) ?_
  rotate_left
  · unfold lExtmapBack_L0_step
    have w1 : wr ((l.length : Int) - 1) = (l.length : Int) - 1 := wr_id (by omega) (by omega)
    have w2 : wr ((l.length : Int) - 1 - (i : Int)) = ((l.length - 1 - i : Nat) : Int) := by rw [wr_id (by omega) (by omega)]; omega
    simp only [tb_dec, w1, w2, Int.toNat_natCast]
    rw [if_pos (by omega), tp_pos (by omega), tp_pos ⟨exs_len _, by rw [List.length_take]; omega⟩, wr_id (by omega) (by omega), rev_at l i hi, ex_take1 l.reverse i (by rw [List.length_reverse]; exact hi)]
    simp
  · unfold lExtmapBack_L0_step
    simp only [tb_dec]
    rw [if_neg (by omega)]
  refine (hS _).trans ?_
  have hr : l.reverse.take l.length = l.reverse := by rw [List.take_of_length_le (by rw [List.length_reverse]; omega)]
  simp only [tb_dec, hr]
  have e1 : lays blocks (new blocks) l.reverse = (l, 0) := by
    unfold lays
    rw [if_pos (mk_new hb), if_pos (fun x hx => (mk_same hm (o := l) fun x hx => hx).1 x (List.mem_reverse.1 hx)), lay_new hm (mk_new hb) fun x => List.mem_reverse]
  have e2 : snc blocks l gen = (l.filter (fun x => decide (x.gen > gen)), 0) := by unfold snc; rw [if_pos hm]
  have e3 : snc blocks l (-1) = (l, 0) := by
    unfold snc
    rw [if_pos hm, List.filter_eq_self.2 fun x hx => ?_]
    have := mk_cks hm x hx
    unfold Ck at this
    exact decide_eq_true (by omega)
  have hsub : ∀ x ∈ l.filter (fun x => decide (x.gen > gen)), x ∈ l := fun x hx => (List.mem_filter.1 hx).1
  have e4 : lays blocks l (l.filter (fun x => decide (x.gen > gen))) = (l, 0) := by
    unfold lays
    rw [if_pos hm, if_pos (mk_same hm hsub).1, lay_own hm hsub]
  have hfl := List.length_filter_le (fun x : Ex => decide (x.gen > gen)) l
  rw [if_neg (by omega), tp_pos (by first | exact ⟨rfl, exs_len _⟩ | exact ⟨trivial, exs_len _⟩), mLay_eq _ _ _ (by simp [new]) (by rw [List.length_reverse]; omega), e1, mSince_eq _ _ _ (by omega) hd, e2, mSince_eq _ _ _ (by omega) hd, e3]
  simp only [tc_some]
  rw [mLay_eq _ _ _ (by omega) (by omega), e4]
  simp only [tc_some]
  rw [r7All_eq _ _ (by omega)]
  simp
theorem extmapBack_call (blocks : Int) (l : List Ex) (gen : Int) (_ : I64 blocks) (_ : ∀ x ∈ l, Ex.ok x) (_ : I64 gen) : EvFr Try.prog cf false 6 [.i blocks, .sl l.length (l.flatMap Ex.cells), .i gen] (.b true) := lExtmapBack_ok blocks l gen true (lExtmapBack_true blocks l gen)
end Ab
end Go.Proofs.Ytphnpgdamacfmaa
