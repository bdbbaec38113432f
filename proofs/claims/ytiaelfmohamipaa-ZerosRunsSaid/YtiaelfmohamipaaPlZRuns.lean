/- The law of runs of two texts of blocks. -/
import Derived.Test.YtiaelfmohamipaaPlZ
import Derived.Test.YtiaelfmohamipaaFlRuns
namespace Go.Proofs.Ytiaelfmohamipaa
open Go Go.Proofs.Ytiaelfmohamipaa.Ab
set_option linter.unusedVariables false
set_option linter.unusedSimpArgs false
namespace Ab
theorem runs_pos (zs : List Bool) : ∀ x ∈ Ab.runs zs, 0 ≤ x := by
  unfold Ab.runs
  split
  · simp
  · exact rn_pos zs false 0 (by omega)
theorem runs_lenb (zs : List Bool) : (Ab.runs zs).length ≤ zs.length + 1 := by
  unfold Ab.runs
  split
  · simp
  · exact rn_lenb zs false 0
theorem flags_len (b : List UInt8) : (flags b).length = b.length / 32 := fl_length _ _
theorem sum0_runs (b : List UInt8) (h : b.length ≤ 1000000000) : sum (Ab.runs (flags b)) 0 = some (cnt false (flags b)) := by
  have h1 := sm_runs (flags b)
  have h2 := cnt_both (flags b)
  have h3 := runs_lenb (flags b)
  have h4 := flags_len b
  have := sum_eq (Ab.runs (flags b)) 0 (runs_pos _) (by rw [h1]; simp only; omega) (by omega) (by omega)
  simpa [h1] using this
theorem sum1_runs (b : List UInt8) (h : b.length ≤ 1000000000) : sum (Ab.runs (flags b)) 1 = some (cnt true (flags b)) := by
  have h1 := sm_runs (flags b)
  have h2 := cnt_both (flags b)
  have h3 := runs_lenb (flags b)
  have h4 := flags_len b
  have h5 := sm_tail (Ab.runs (flags b))
  rw [h1] at h5
  have := sum_eq (Ab.runs (flags b)) 1 (runs_pos _) (by rw [h1]; simp only; omega) (by omega) (by omega)
  rw [List.drop_one, ← h5] at this
  simpa using this
theorem cnt_app (c : Bool) (a b : List Bool) : cnt c (a ++ b) = cnt c a + cnt c b := by
  unfold cnt; rw [List.count_append]; omega
theorem lZerosRuns_true (a b : List UInt8) : lZerosRuns a b = some true := by
  unfold lZerosRuns aw15
  simp only [tc_some, tb_dec, tb_bne, tb_beq, tb_t]
  by_cases ha : (a.length : Int) > 5000
  · rw [if_pos ha]
  by_cases hb : (b.length : Int) > 5000
  · rw [if_neg ha, if_pos hb]
  rw [if_neg ha, if_neg hb]
  by_cases hm : a.length % 32 = 0
  case neg => rw [if_neg (fun h => hm ((tmod32 _).1 h))]
  rw [if_pos ((tmod32 _).2 hm), pSplit_eq a (by omega), pSplit_eq b (by omega), pSplit_eq (a ++ b) (by rw [List.length_append]; omega)]
  simp only [tc_some]
  have hab : (a ++ b).length % 32 = b.length % 32 := by rw [List.length_append]; omega
  rw [hab, if_pos hm]
  by_cases hmb : b.length % 32 = 0
  · rw [if_pos hmb, if_pos hmb]
    simp only [if_true, sum0_runs a (by omega), sum0_runs b (by omega), sum1_runs a (by omega), sum1_runs b (by omega), sum0_runs (a ++ b) (by rw [List.length_append]; omega), sum1_runs (a ++ b) (by rw [List.length_append]; omega), tc_some]
    have hf := flags_append (a := a) b hm
    have la := flags_len a
    have lb := flags_len b
    have c1 := cnt_le false (flags a)
    have c2 := cnt_le false (flags b)
    have c3 := cnt_le true (flags a)
    have c4 := cnt_le true (flags b)
    rw [hf, cnt_app, cnt_app, wr_id (by omega) (by omega), wr_id (by omega) (by omega)]
    simp only [if_true]
    have r0 := runs_append_len (flags a) (flags b)
    have r1 := runs_lenb (flags a)
    have r2 := runs_lenb (flags b)
    rw [wr_id (x := (((Ab.runs (flags a)).length : Int) + (Ab.runs (flags b)).length)) (by omega) (by omega), wr_id (by omega) (by omega)]
    congr 1
    rw [decide_eq_true_iff]
    omega
  · rw [if_neg hmb, if_neg hmb]
    simp
theorem zerosRuns_call (a b : List UInt8) (_ _ : True) : EvFr Try.prog cf false 4 [bys a, bys b] (.b true) := lZerosRuns_ok a b true (lZerosRuns_true a b)
end Ab
end Go.Proofs.Ytiaelfmohamipaa
