/- ZoneCloses, in plain words: whatever comes in, true. -/
import Derived.Test.YtanncjfbollofaaFlCloses
import Derived.Test.YtanncjfbollofaaPlain
import Derived.Test.YtanncjfbollofaaAbsZ
namespace Go.Proofs.Ytanncjfbollofaa
open Go Go.Proofs.Ytanncjfbollofaa.Ab
set_option linter.unusedVariables false
set_option linter.unusedSimpArgs false
namespace Ab
theorem clones : CloneOk Try.prog cf.clone :=
  cloneOk_cons (clone_at Try.func29 rfl rfl rfl (by kernel_rfl) (t := 23) (by kernel_rfl)) (cloneOk_nil _)
theorem lCloses_true (a b : List UInt8) (keep : Int) : lCloses a b keep = some true := by
  unfold lCloses awake
  simp only [tc, tb, tp, Option.bind_some]
  by_cases h1 : ((a.length : Int) == 0) = true
  · simp only [h1, cond_true]
  by_cases h2 : decide ((a.length : Int) > 300) = true
  · simp only [h1, h2, cond_true, cond_false]
  by_cases h3 : ((b.length : Int) == 0) = true
  · simp only [h1, h2, h3, cond_true, cond_false]
  by_cases h4 : decide ((b.length : Int) > 300) = true
  · simp only [h1, h2, h3, h4, cond_true, cond_false]
  simp only [h1, h2, h3, h4, cond_true, cond_false]
  simp only [beq_iff_eq, decide_eq_true_eq] at h1 h2 h3 h4
  have la : 0 < a.length ∧ a.length ≤ 300 := by omega
  have lb : 0 < b.length ∧ b.length ≤ 300 := by omega
  have na : a ≠ [] := by intro h; subst h; simp at la
  have nb : b ≠ [] := by intro h; subst h; simp at lb
  have c0 : chk ⟨0, 0, [], 0⟩ 700 = true := by decide
  have r0 : room ⟨0, 0, [], 0⟩ 700 = 700 := by decide
  have e1 : app ⟨0, 0, [], 0⟩ 700 a = (⟨1, 0, a, 0⟩, 0) := by
    unfold app
    rw [if_pos ⟨c0, na⟩, r0, if_neg (by omega)]
    simp only [List.nil_append]
    rw [if_neg (by omega)]
  have e2 : clo ⟨1, 0, a, 0⟩ = (⟨2, 0, a, 0⟩, 0) := rfl
  have e4 : clo ⟨2, 0, a, 0⟩ = (⟨2, 0, a, 0⟩, 30) := rfl
  have c2 : chk ⟨2, 0, a, 0⟩ 700 = true := by
    unfold chk; simp only [decide_eq_true_eq]; omega
  have r2 : room ⟨2, 0, a, 0⟩ 700 = 700 - a.length := by
    unfold room; rw [if_pos ⟨c2, by simp⟩]
  have e3 : app ⟨2, 0, a, 0⟩ 700 b = (⟨1, 0, a ++ b, 0⟩, 0) := by
    unfold app
    rw [if_pos ⟨c2, nb⟩, r2, if_neg (by omega)]
    simp only [List.length_append]
    rw [if_neg (by omega)]
  have hla : (a ++ b).length = a.length + b.length := List.length_append
  have c3 : chk ⟨1, 0, a ++ b, 0⟩ 700 = true := by
    unfold chk; simp only [decide_eq_true_eq, hla]; omega
  rw [pAppend_eq (z := ⟨0, 0, [], 0⟩) 700 (b := a) (by simp) (by omega), e1]
  simp only [Option.bind_some]
  rw [pClose_eq (z := ⟨1, 0, a, 0⟩) (by simp; omega), e2]
  simp only [Option.bind_some]
  rw [pAppend_eq (z := ⟨2, 0, a, 0⟩) 700 (b := b) (by simp; omega) (by omega), e3]
  simp only [Option.bind_some]
  rw [pClose_eq (z := ⟨2, 0, a, 0⟩) (by simp; omega), e4]
  simp only [Option.bind_some]
  rw [pCrash_eq (z := ⟨1, 0, a ++ b, 0⟩) 700 keep (by simp; omega)]
  simp only [Option.bind_some, beq_self_eq_true, cond_true]
  unfold cra
  rw [if_pos c3]
  generalize hn : min (max keep 0) ((a ++ b).length : Int) = n
  have hn1 : 0 ≤ n ∧ n ≤ 600 := by omega
  have hn2 : n ≤ (a ++ b).length := by omega
  have hlen : (List.take n.toNat (a ++ b)).length = n.toNat := by rw [List.length_take]; omega
  have g1 : a.length ≤ 4294967296 := by omega
  have g2 : (List.map AV.y a).length = a.length * 1 ∧ a.length + b.length ≤ 4294967296 := by simp; omega
  simp only [if_pos g1, if_pos g2, hlen]
  by_cases h0 : n = 0
  · subst h0; simp
  · have h5 : ((n.toNat : Int) == 0) = false := by simp; omega
    have h6 : ¬ (n = 700 ∨ (1 : Int) = 3) := by omega
    simp only [h5, cond_false, if_neg h0, if_neg h6]
    rfl
theorem zoneCloses_call (a b : List UInt8) (keep : Int) (h1 h2 : True) (h3 : I64 keep) : EvFr Try.prog cf false 6 [bys a, bys b, .i keep] (.b true) :=
  (lCloses_ok a b keep true (lCloses_true a b keep)).any
end Ab
end Go.Proofs.Ytanncjfbollofaa
