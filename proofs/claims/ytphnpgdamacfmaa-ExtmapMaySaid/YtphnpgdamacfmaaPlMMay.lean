/- The law of whatever is laid over a new map. -/
import Derived.Test.YtphnpgdamacfmaaPlMLay
import Derived.Test.YtphnpgdamacfmaaFlMay
import Derived.Test.YtphnpgdamacfmaaAbsZ
namespace Go.Proofs.Ytphnpgdamacfmaa
open Go Go.Proofs.Ytphnpgdamacfmaa.Ab
set_option linter.unusedVariables false
set_option linter.unusedSimpArgs false
namespace Ab
/-- Blocks marked, so many from an extent's first on. -/
def marks (t : List Bool) (e : Ex) : Nat → List Bool
  | 0 => t
  | j + 1 => List.set (marks t e j) (0 + (e.lba + (j : Int)).toNat * 1) true
theorem marks_len (t : List Bool) (e : Ex) : ∀ j, (marks t e j).length = t.length
  | 0 => rfl
  | j + 1 => by rw [marks, List.length_set, marks_len t e j]
theorem marks_no (t : List Bool) (e : Ex) (h0 : 0 ≤ e.lba) (ht : t.length = 64) : ∀ (j : Nat) (k : Int), e.lba + j ≤ 64 → 0 ≤ k → (marks t e j).getD k.toNat false = false → t.getD k.toNat false = false ∧ (k < e.lba ∨ e.lba + j ≤ k)
  | 0, k, _, _, h => ⟨h, by omega⟩
  | j + 1, k, hj, hk, h => by
    rw [marks, List.getD_eq_getElem?_getD, List.getElem?_set] at h
    by_cases g : 0 + (e.lba + (j : Int)).toNat * 1 = k.toNat
    · rw [if_pos g, if_pos (by rw [marks_len, ht]; omega)] at h
      cases h
    · rw [if_neg g, ← List.getD_eq_getElem?_getD] at h
      have := marks_no t e h0 ht j k (by omega) hk h
      exact ⟨this.1, by omega⟩
def rd (n : Int) (p : List Ex × List Bool) (e : Ex) : List Ex × List Bool := if Fit8 n e then (put p.1 e, marks p.2 e e.len.toNat) else p
def Inv (n : Int) (p : List Ex × List Bool) : Prop := Mk n p.1 ∧ p.2.length = 64 ∧ ∀ k c, Den p.1 k c → p.2.getD k.toNat false = false → c = (0, 0, [])
theorem inv_rd {n : Int} {p : List Ex × List Bool} (h : Inv n p) (e : Ex) : Inv n (rd n p e) := by
  unfold rd
  by_cases hf : Fit8 n e
  case neg => rw [if_neg hf]; exact h
  rw [if_pos hf]
  obtain ⟨hm, hd⟩ := put_spec h.1 hf.1 hf.2
  have pe := ck_pos hf.1
  refine ⟨hm, by rw [marks_len]; exact h.2.1, fun k c hk ht => ?_⟩
  have hk0 : 0 ≤ k := den_ge (mk_ch hm) hk
  have hq := marks_no p.2 e (by omega) h.2.1 e.len.toNat k (by omega) hk0 ht
  rcases (hd k c).1 hk with ⟨_, q⟩ | q
  · exact h.2.2 k c q hq.1
  · have := q.1; have := q.2.1
    omega
theorem inv_fold {n : Int} : ∀ (o : List Ex) (p : List Ex × List Bool), Inv n p → Inv n (o.foldl (rd n) p)
  | [], _, h => h
  | e :: o, p, h => inv_fold o _ (inv_rd h e)
def nw (n : Int) : List Ex := [⟨0, n, 0, 0, []⟩]
theorem mk_nw {n : Int} (h : 1 ≤ n ∧ n ≤ 64) : Mk n (nw n) := by
  refine ch_mk (l := nw n) ⟨?_, rfl, (by intro y hy; cases hy), trivial⟩ (by simp [nw, sl]) h.1
  refine ⟨by simp, by simp, by simp only; omega, by simp only; omega, by simp, by simp, by simp, by simp, by simp, by simp⟩
theorem inv_0 {n : Int} (h : 1 ≤ n ∧ n ≤ 64) : Inv n (nw n, List.replicate 64 false) := by
  refine ⟨mk_nw h, by simp, fun k c hk _ => ?_⟩
  have := (den_one.1 hk).2.2
  rw [this]; simp [bAt]
theorem rd_take (n : Int) (o : List Ex) (i : Nat) (hi : i < o.length) (p : List Ex × List Bool) : (o.take (i + 1)).foldl (rd n) p = rd n ((o.take i).foldl (rd n) p) (exAt o i) := by
  rw [ex_take1 o i hi, List.foldl_append]; rfl
theorem th_stop {σ α : Type} {step : σ → Option σ} {f : σ → Option α} {s : σ} (h : step s = none) : th step s f = f s :=
  th_run (step := step) (f := f) (fun _ => s) 0 (fun i hi => by omega) h
theorem many_sum8 : ∀ (l : List Ex), (∀ x ∈ l, Ck x) → many l 0 + many l 1 + many l 2 = sl l
  | [], _ => by simp [many, sl]
  | x :: l, h => by
    have h1 := many_sum8 l fun y hy => h y (by simp [hy])
    have h2 := h x (by simp)
    simp only [many, sl, ck_t h2, true_and]
    unfold Ck at h2
    have h3 : x.kind = 0 ∨ x.kind = 1 ∨ x.kind = 2 := by omega
    rcases h3 with e | e | e <;> rw [e] <;> simp <;> omega
theorem range_one {n : Int} {m : List Ex} (h : Mk n m) {k : Int} (h0 : 0 ≤ k) (h1 : k < n) : ∃ z, rng n m k 1 = ([z], 0) ∧ Ck z ∧ z.lba = k ∧ z.len = 1 ∧ Den m k (bAt z k) := by
  have hb := mk_blocks h
  obtain ⟨c1, c2⟩ := fm_ch (lo := k) (n := 1) h0 (by omega) (by omega) m 0 (by omega) (mk_ch h) (by omega) (by rw [h.2.2]; omega)
  rw [show max 0 k = k by omega] at c1 c2
  have hr : rng n m k 1 = (fm k 1 m, 0) := by unfold rng; rw [if_pos h, if_pos (show Ro n k 1 from ⟨by omega, by omega, by omega, by omega⟩)]; rfl
  have hden : ∀ k' c, Den (fm k 1 m) k' c ↔ k ≤ k' ∧ k' < k + 1 ∧ Den m k' c := fun k' c => fm_den (by omega) (by omega) m (mk_cks h)
  rw [hr]
  revert c1 c2 hden
  generalize fm k 1 m = q
  intro c1 c2 hden
  match q, c1, c2, hden with
  | [], _, c2, _ => simp only [sl] at c2; omega
  | [z], c1, c2, hden =>
    simp only [sl] at c2
    have hl : z.len = 1 := by omega
    exact ⟨z, rfl, c1.1, c1.2.1, hl, ((hden k (bAt z k)).1 (den_one.2 ⟨by rw [c1.2.1]; omega, by rw [c1.2.1]; omega, rfl⟩)).2.2⟩
  | z :: w :: q, c1, c2, _ =>
    have p1 := ck_pos c1.1
    have p2 := ck_pos c1.2.2.2.1
    have p3 := sl_nn fun z hz => (ch_ck c1.2.2.2.2.2.2 z hz).1
    simp only [sl] at c2
    omega
theorem may_L2 {α : Type} (blocks : UInt8) (over_ : List Ex) (s0 s1 : Bool) (s3 : List Ex × Int) (m : List Ex) (i : Nat) (t : List Bool) (s7 : List Ex × Int) (s8 s10 : Bool) (n : Int) (hn : wr (1 + Int.tmod (wr (blocks.toNat : Int)) 64) = n) (hn2 : n ≤ 64) (hi : i < over_.length) (hl : over_.length ≤ 70) (hf : Fit8 n (exAt over_ i)) (ht : t.length = 64) (f : Int × List Bool → Option α) :
    th (lExtmapMay_L2_step blocks over_ s0 s1 s3 (m, (i : Int), t) s7 s8 s10) (0, t) f = f ((exAt over_ i).len, marks t (exAt over_ i) (exAt over_ i).len.toNat) := by
  have pe := ck_pos hf.1
  have hf2 := hf.2
  have := th_run (f := f) (step := lExtmapMay_L2_step blocks over_ s0 s1 s3 (m, (i : Int), t) s7 s8 s10) (fun j => ((j : Int), marks t (exAt over_ i) j)) (exAt over_ i).len.toNat (fun j hj => ?_) ?_
  · refine this.trans ?_
    rw [show (((exAt over_ i).len.toNat : Nat) : Int) = (exAt over_ i).len by omega]
  · unfold lExtmapMay_L2_step
    have w1 : wr ((exAt over_ i).lba + (exAt over_ i).len) = (exAt over_ i).lba + (exAt over_ i).len := wr_id (by omega) (by omega)
    have w2 : wr ((exAt over_ i).lba + (j : Int)) = (exAt over_ i).lba + (j : Int) := wr_id (by omega) (by omega)
    have hm := marks_len t (exAt over_ i) j
    simp only [hn, Int.toNat_natCast, w1, w2, tb_dec]
    rw [if_pos (by omega), tp_pos (by omega), if_pos (by omega), tp_pos (by omega), tp_pos (by first | exact ⟨rfl, by rw [List.length_map, hm]; omega⟩ | exact ⟨trivial, by rw [List.length_map, hm]; omega⟩), wr_id (by omega) (by omega)]
    simp [marks]
  · unfold lExtmapMay_L2_step
    have w1 : wr ((exAt over_ i).lba + (exAt over_ i).len) = (exAt over_ i).lba + (exAt over_ i).len := wr_id (by omega) (by omega)
    simp only [hn, Int.toNat_natCast, w1, tb_dec]
    rw [if_pos (by omega), tp_pos (by omega), if_neg (by omega)]
theorem may_L0 (blocks : UInt8) (over_ : List Ex) (s0 s1 : Bool) (s3 : List Ex × Int) (n : Int) (hn : wr (1 + Int.tmod (wr (blocks.toNat : Int)) 64) = n) (i : Nat) (p : List Ex × List Bool) (hp : Inv n p) (hi : i < over_.length) (hl : over_.length ≤ 70) :
    lExtmapMay_L0_step blocks over_ s0 s1 s3 (p.1, (i : Int), p.2) = some ((rd n p (exAt over_ i)).1, (i : Int) + 1, (rd n p (exAt over_ i)).2) := by
  have hb := mk_blocks hp.1
  have hlen := mk_len hp.1
  unfold lExtmapMay_L0_step
  simp only [hn, Int.toNat_natCast, tb_dec]
  rw [if_pos (by omega), tp_pos (by omega), mPut_eq _ _ _ (by omega), tc_some, eCheck_eq, tc_some, wr_id (x := (i : Int) + 1) (by omega) (by omega)]
  by_cases hc : Ck (exAt over_ i)
  case neg =>
    have e : puts n p.1 (exAt over_ i) = (p.1, 81) := by unfold puts; rw [if_pos hp.1, if_neg fun h => hc h.1]
    have e2 : rd n p (exAt over_ i) = p := by unfold rd; rw [if_neg fun h => hc h.1]
    rw [e, e2, ck_f hc, tb_f, mCheck_eq _ _ (by first | omega | (simp only; omega)), tc_some, mk_t hp.1]
    simp only [Bool.not_true, tb_f, tb_bne]
    rw [show (((81 : Int) == 0) == false) = true from rfl, Bool.not_true, tb_f, if_neg (by omega), r7All_eq _ _ (by first | omega | (simp only; omega)), tc_some, decide_eq_true rfl, Bool.not_true, tb_f, th_stop rfl]
  have pe := ck_pos hc
  have w1 : wr ((exAt over_ i).lba + (exAt over_ i).len) = (exAt over_ i).lba + (exAt over_ i).len := wr_id (by omega) (by omega)
  rw [ck_t hc, tb_t]
  by_cases hf : Fit8 n (exAt over_ i)
  case neg =>
    have hg : ¬ (exAt over_ i).lba + (exAt over_ i).len ≤ n := fun g => hf ⟨hc, g⟩
    have e : puts n p.1 (exAt over_ i) = (p.1, 81) := by unfold puts; rw [if_pos hp.1, if_neg hf]
    have e2 : rd n p (exAt over_ i) = p := by unfold rd; rw [if_neg hf]
    rw [e, e2, mCheck_eq _ _ (by first | omega | (simp only; omega)), tc_some, mk_t hp.1]
    simp only [Bool.not_true, tb_f, tb_bne, w1, decide_eq_false hg]
    rw [show (((81 : Int) == 0) == false) = true from rfl, Bool.not_true, tb_f, if_neg (by omega), r7All_eq _ _ (by first | omega | (simp only; omega)), tc_some, decide_eq_true rfl, Bool.not_true, tb_f, th_stop (by
      unfold lExtmapMay_L1_step
      simp only [hn, Int.toNat_natCast, w1, tb_dec]
      rw [if_neg hg])]
    simp only [if_neg hg]
  have hg := hf.2
  have e : puts n p.1 (exAt over_ i) = (put p.1 (exAt over_ i), 0) := by unfold puts; rw [if_pos hp.1, if_pos hf]
  have e2 : rd n p (exAt over_ i) = (put p.1 (exAt over_ i), marks p.2 (exAt over_ i) (exAt over_ i).len.toNat) := by unfold rd; rw [if_pos hf]
  have hk := (put_spec hp.1 hf.1 hf.2).1
  have hk2 := mk_len hk
  rw [e, e2, mCheck_eq _ _ (by first | omega | (simp only; omega)), tc_some, mk_t hk]
  simp only [Bool.not_true, tb_f, tb_bne, w1, decide_eq_true hg]
  rw [show (((0 : Int) == 0) == true) = true from rfl, Bool.not_true, tb_f, if_pos trivial, may_L2 blocks over_ s0 s1 s3 p.1 i p.2 _ _ _ n hn hb.2 hi hl hf hp.2.1]
  rw [if_pos hg, if_neg (by simp only; omega), mRange_eq _ _ _ _ (by first | omega | (simp only; omega)), range_put hp.1 hf]
  have ex0 : exAt [exAt over_ i] 0 = exAt over_ i := rfl
  simp [ex0, r7Same_eq]
theorem lExtmapMay_true (blocks : UInt8) (over_ : List Ex) : lExtmapMay blocks over_ = some true := by
  unfold lExtmapMay aw8
  rw [tc_some, few_eq, tc_some, tb_not]
  by_cases hf : over_.length ≤ 70 ∧ ∀ x ∈ over_, x.d.length ≤ 3000
  case neg => rw [decide_eq_false hf]; rfl
  rw [decide_eq_true hf, tb_t]
  have hbl := blocks.toNat_lt
  have hn : wr (1 + Int.tmod (wr (blocks.toNat : Int)) 64) = 1 + (blocks.toNat : Int) % 64 := by
    rw [wr_id (x := (blocks.toNat : Int)) (by omega) (by omega), Int.tmod_eq_emod_of_nonneg (by omega), wr_id (by omega) (by omega)]
  have hn2 : 1 ≤ 1 + (blocks.toNat : Int) % 64 ∧ 1 + (blocks.toNat : Int) % 64 ≤ 64 := by omega
  generalize 1 + (blocks.toNat : Int) % 64 = n at hn hn2
  have hnew : mNew n = some (nw n, 0) := by
    unfold mNew
    simp only [tb_dec]
    rw [if_neg (by omega), if_neg (by omega)]; rfl
  simp only [hn]
  rw [hnew, tc_some]
  have hinv : ∀ i, Inv n ((over_.take i).foldl (rd n) (nw n, List.replicate 64 false)) := fun i => inv_fold _ _ (inv_0 hn2)
  have hS := fun (f : List Ex × Int × List Bool → Option Bool) => th_run (f := f) (step := lExtmapMay_L0_step blocks over_ true (decide (over_.length ≤ 70 ∧ ∀ x ∈ over_, x.d.length ≤ 3000)) (nw n, 0)) (fun i => (((over_.take i).foldl (rd n) (nw n, List.replicate 64 false)).1, (i : Int), ((over_.take i).foldl (rd n) (nw n, List.replicate 64 false)).2)) over_.length (fun i hi => ?_) ?_
  rotate_left
  · rw [may_L0 blocks over_ _ _ _ n hn i _ (hinv i) hi hf.1, rd_take n over_ i hi]
    simp
  · unfold lExtmapMay_L0_step
    simp only [tb_dec]
    rw [if_neg (by omega)]
  rw [decide_eq_true hf] at hS
  refine (hS _).trans ?_
  have hv := hinv over_.length
  generalize (over_.take over_.length).foldl (rd n) (nw n, List.replicate 64 false) = p at hv ⊢
  simp only [tb_dec]
  rw [if_neg (by omega)]
  have hlen := mk_len hv.1
  have hT := fun (f : Int → Option Bool) => th_run (f := f) (step := lExtmapMay_L9_step blocks over_ true true (nw n, 0) (p.1, (over_.length : Int), p.2)) (fun i => (i : Int)) n.toNat (fun i hi => ?_) ?_
  rotate_left
  · unfold lExtmapMay_L9_step
    simp only [hn, tb_dec, tb_bne, tb_not]
    obtain ⟨z, hr, hz, z1, z2, z3⟩ := range_one hv.1 (k := (i : Int)) (by omega) (by omega)
    have ex0 : exAt [z] 0 = z := rfl
    have hl2 := hv.2.1
    have hwi : wr ((i : Int) + 1) = ((i + 1 : Nat) : Int) := by rw [wr_id (by omega) (by omega)]; omega
    rw [if_pos (by omega), mRange_eq _ _ _ _ (by omega), hr, tc_some]
    simp only [ex0, Int.toNat_natCast, hwi]
    rw [if_pos trivial, if_pos (by simp), tp_pos (by omega), tp_pos (by rw [List.length_map, hl2]; omega)]
    cases hb : p.2.getD (0 + i * 1) false with
    | true => rfl
    | false =>
      have hc := hv.2.2 (i : Int) _ z3 (by rw [Int.toNat_natCast]; rw [show 0 + i * 1 = i by omega] at hb; exact hb)
      simp only [bAt, Prod.mk.injEq] at hc
      have hze : z = ⟨(i : Int), 1, 0, 0, []⟩ := by
        have hd := ck_d0 hz (by omega)
        cases z
        simp_all
      rw [tb_f, r7Same_eq, tc_some, hze, decide_eq_true rfl, tb_t]
  · unfold lExtmapMay_L9_step
    simp only [hn, tb_dec]
    rw [if_neg (by omega)]
  refine (hT _).trans ?_
  rw [if_neg (by omega)]
  simp only [tb_t, tb_beq]
  have hs := many_sum8 p.1 (mk_cks hv.1)
  have h0 := many_bound p.1 0
  have h1 := many_bound p.1 1
  have h2 := many_bound p.1 2
  have h3 := hv.1.2.2
  rw [if_pos trivial, mMany_eq _ _ (by omega), mMany_eq _ _ (by omega), mMany_eq _ _ (by omega)]
  simp only [tc_some]
  rw [wr_id (x := many p.1 0 + many p.1 1) (by omega) (by omega), wr_id (by omega) (by omega), show many p.1 0 + many p.1 1 + many p.1 2 = n by omega]
  simp
theorem extmapMay_call (blocks : UInt8) (over_ : List Ex) (_ : ∀ x ∈ over_, Ex.ok x) : EvFr Try.prog cf false 4 [.y blocks, .sl over_.length (over_.flatMap Ex.cells)] (.b true) := lExtmapMay_ok blocks over_ true (lExtmapMay_true blocks over_)
end Ab
end Go.Proofs.Ytphnpgdamacfmaa
