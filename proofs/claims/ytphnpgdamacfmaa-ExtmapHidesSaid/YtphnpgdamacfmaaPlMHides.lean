/- The law of what lies over another one. -/
import Derived.Test.YtphnpgdamacfmaaPlMLay
import Derived.Test.YtphnpgdamacfmaaFlHides
import Derived.Test.YtphnpgdamacfmaaAbsZ
namespace Go.Proofs.Ytphnpgdamacfmaa
open Go Go.Proofs.Ytphnpgdamacfmaa.Ab
set_option linter.unusedVariables false
set_option linter.unusedSimpArgs false
namespace Ab
theorem put_twice {blocks : Int} {l : List Ex} {x : Ex} (h : Mk blocks l) (hx : Fit8 blocks x) : put (put l x) x = put l x := by
  obtain ⟨h1, d1⟩ := put_spec h hx.1 hx.2
  obtain ⟨h2, d2⟩ := put_spec h1 hx.1 hx.2
  refine mk_uniq h2 h1 fun k c => ?_
  rw [d2, d1]
  constructor
  · rintro (⟨a, q⟩ | q)
    · exact q
    · exact .inr q
  · rintro (⟨a, q⟩ | q)
    · exact .inl ⟨a, .inl ⟨a, q⟩⟩
    · exact .inr q
theorem put_apart {blocks : Int} {l : List Ex} {x y : Ex} (h : Mk blocks l) (hx : Fit8 blocks x) (hy : Fit8 blocks y) (ha : x.lba + x.len ≤ y.lba ∨ y.lba + y.len ≤ x.lba) : put (put l x) y = put (put l y) x := by
  obtain ⟨h1, d1⟩ := put_spec h hx.1 hx.2
  obtain ⟨h2, d2⟩ := put_spec h1 hy.1 hy.2
  obtain ⟨h3, d3⟩ := put_spec h hy.1 hy.2
  obtain ⟨h4, d4⟩ := put_spec h3 hx.1 hx.2
  refine mk_uniq h2 h4 fun k c => ?_
  rw [d2, d1, d4, d3]
  constructor
  · rintro (⟨a, ⟨b, q⟩ | q⟩ | q)
    · exact .inl ⟨b, .inl ⟨a, q⟩⟩
    · exact .inr q
    · have := q.1; have := q.2.1
      exact .inl ⟨by omega, .inr q⟩
  · rintro (⟨a, ⟨b, q⟩ | q⟩ | q)
    · exact .inl ⟨b, .inl ⟨a, q⟩⟩
    · exact .inr q
    · have := q.1; have := q.2.1
      exact .inl ⟨by omega, .inr q⟩
theorem lExtmapHides_true (blocks : Int) (l : List Ex) (x y : Ex) : lExtmapHides blocks l x y = some true := by
  unfold lExtmapHides aw8
  rw [tc_some, few_eq, tc_some, tb_not]
  by_cases hf : l.length ≤ 70 ∧ ∀ x ∈ l, x.d.length ≤ 3000
  case neg => rw [decide_eq_false hf]; rfl
  rw [decide_eq_true hf, tb_t]
  simp only [tb_dec]
  by_cases g1 : (x.d.length : Int) > 3000
  · rw [if_pos g1]
  by_cases g2 : (y.d.length : Int) > 3000
  · rw [if_neg g1, if_pos g2]
  rw [if_neg g1, if_neg g2, mLay_eq _ _ _ (by omega) (by simp), mLay_eq _ _ _ (by omega) (by simp), mLay_eq _ _ _ (by omega) (by simp), mLay_eq _ _ _ (by omega) (by simp)]
  simp only [tc_some, tb_t]
  by_cases hm : Mk blocks l
  case neg =>
    have e : ∀ o, lays blocks l o = ([], 80) := fun o => by unfold lays; rw [if_neg hm]
    simp [e]
  by_cases hx : Fit8 blocks x
  case neg =>
    have e : ∀ o, x ∈ o → lays blocks l o = (l, 81) := fun o ho => by unfold lays; rw [if_pos hm, if_neg fun h => hx (h x ho)]
    rw [e [x] (by simp), e [x, x] (by simp), e [x, y] (by simp), e [y, x] (by simp)]
    simp
  have e1 : lays blocks l [x] = (put l x, 0) := by unfold lays; rw [if_pos hm, if_pos (by simpa using hx)]; rfl
  have e2 : lays blocks l [x, x] = (put l x, 0) := by unfold lays; rw [if_pos hm, if_pos (by simpa using hx)]; show (put (put l x) x, (0 : Int)) = _; rw [put_twice hm hx]
  rw [e1, e2]
  by_cases hy : Fit8 blocks y
  case neg =>
    have e : ∀ o, y ∈ o → lays blocks l o = (l, 81) := fun o ho => by unfold lays; rw [if_pos hm, if_neg fun h => hy (h y ho)]
    rw [e [x, y] (by simp), e [y, x] (by simp)]
    simp
  have e3 : lays blocks l [x, y] = (put (put l x) y, 0) := by unfold lays; rw [if_pos hm, if_pos (by simpa using ⟨hx, hy⟩)]; rfl
  have e4 : lays blocks l [y, x] = (put (put l y) x, 0) := by unfold lays; rw [if_pos hm, if_pos (by simpa using ⟨hy, hx⟩)]; rfl
  rw [e3, e4]
  have hb := mk_blocks hm
  have px := ck_pos hx.1
  have py := ck_pos hy.1
  have h1 := (put_spec hm hx.1 hx.2).1
  have h2 := (put_spec h1 hy.1 hy.2).1
  have l1 := mk_len h1
  have l2 := mk_len h2
  have w1 : wr (x.lba + x.len) = x.lba + x.len := wr_id (by omega) (by omega)
  have w2 : wr (y.lba + y.len) = y.lba + y.len := wr_id (by omega) (by omega)
  have ex0 : exAt [y] 0 = y := rfl
  simp only [w1, w2, tb_bne, tb_beq, tb_not, tb_dec, if_true]
  rw [r7All_eq _ _ (by omega), mRange_eq _ _ _ _ (by omega), range_put h1 hy, r7All_eq _ _ (by omega)]
  by_cases ha : x.lba + x.len ≤ y.lba
  · rw [put_apart hm hx hy (.inl ha)]
    simp [ha, ex0, r7Same_eq]
  · by_cases hc : y.lba + y.len ≤ x.lba
    · rw [put_apart hm hx hy (.inr hc)]
      simp [ha, hc, ex0, r7Same_eq]
    · simp [ha, hc, ex0, r7Same_eq]
theorem extmapHides_call (blocks : Int) (l : List Ex) (x y : Ex) (_ : I64 blocks) (_ : ∀ x ∈ l, Ex.ok x) (_ : Ex.ok x) (_ : Ex.ok y) : EvFr Try.prog cf false 5 [.i blocks, .sl l.length (l.flatMap Ex.cells), .ag (Ex.cells x), .ag (Ex.cells y)] (.b true) := lExtmapHides_ok blocks l x y true (lExtmapHides_true blocks l x y)
end Ab
end Go.Proofs.Ytphnpgdamacfmaa
