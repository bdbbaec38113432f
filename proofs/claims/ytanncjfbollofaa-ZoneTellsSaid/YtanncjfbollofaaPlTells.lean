/- ZoneTells, in plain words: whatever comes in, true. -/
import Derived.Test.YtanncjfbollofaaFlTells
import Derived.Test.YtanncjfbollofaaPlain
import Derived.Test.YtanncjfbollofaaAbsZ
namespace Go.Proofs.Ytanncjfbollofaa
open Go Go.Proofs.Ytanncjfbollofaa.Ab
set_option linter.unusedVariables false
set_option linter.unusedSimpArgs false
namespace Ab
theorem clones : CloneOk Try.prog cf.clone :=
  cloneOk_cons (clone_at Try.func29 rfl rfl rfl (by kernel_rfl) (t := 23) (by kernel_rfl)) (cloneOk_nil _)
theorem lTells_true (z : Zo) (size : Int) (b : List UInt8) (keep : Int) : lTells z size b keep = some true := by
  unfold lTells awake
  simp only [tc, tb, tp, Option.bind_some]
  by_cases hz : z.d.length ≤ 300
  · by_cases hb : b.length ≤ 300
    · have h1 : (decide ((z.d.length : Int) > 300)) = false := by simp; omega
      have h2 : (decide ((b.length : Int) > 300)) = false := by simp; omega
      have hz' : z.d.length ≤ 4294967296 := by omega
      simp only [h1, h2, cond_false, pAppend_eq (z := z) size (b := b) (by omega) (by omega), rAppend_eq (z := z) size (b := b) (by omega) (by omega), pReset_eq hz', rReset_eq hz', pFinish_eq hz', rFinish_eq hz', pClose_eq hz', rClose_eq hz', pFlush_eq hz', rFlush_eq hz',
        pCrash_eq size keep hz', rCrash_eq size keep hz', pCheck_eq, rCheck_eq, pRoom_eq, rRoom_eq, rSame_eq, Option.bind_some, decide_true, cond_true, beq_self_eq_true]
    · have h1 : (decide ((z.d.length : Int) > 300)) = false := by simp; omega
      have h2 : (decide ((b.length : Int) > 300)) = true := by simp; omega
      simp only [h1, h2, cond_false, cond_true]
  · have h1 : (decide ((z.d.length : Int) > 300)) = true := by simp; omega
    simp only [h1, cond_true]
theorem zoneTells_call (z : Zo) (size : Int) (b : List UInt8) (keep : Int) (h1 : Zo.ok z) (h2 : I64 size) (h3 : I64 keep) : EvFr Try.prog cf false 8 [.ag (Zo.cells z), .i size, bys b, .i keep] (.b true) :=
  (lTells_ok z size b keep true (lTells_true z size b keep)).any
end Ab
end Go.Proofs.Ytanncjfbollofaa
