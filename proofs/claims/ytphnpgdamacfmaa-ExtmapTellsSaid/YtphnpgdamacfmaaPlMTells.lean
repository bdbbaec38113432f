/- The law of parts of maps. -/
import Derived.Test.YtphnpgdamacfmaaPlM2
import Derived.Test.YtphnpgdamacfmaaFlTells
import Derived.Test.YtphnpgdamacfmaaAbsZ
namespace Go.Proofs.Ytphnpgdamacfmaa
open Go Go.Proofs.Ytphnpgdamacfmaa.Ab
set_option linter.unusedVariables false
set_option linter.unusedSimpArgs false
namespace Ab
theorem lExtmapTells_true (blocks : Int) (l : List Ex) (lba n gen kind : Int) : lExtmapTells blocks l lba n gen kind = some true := by
  unfold lExtmapTells aw8
  rw [tc_some, few_eq, tc_some, tb_not]
  by_cases hf : l.length ≤ 70 ∧ ∀ x ∈ l, x.d.length ≤ 3000
  case neg => rw [decide_eq_false hf]; rfl
  rw [decide_eq_true hf, tb_t]
  have hd : ∀ x ∈ l, x.d.length ≤ 4294967296 := fun x hx => by have := hf.2 x hx; omega
  rw [mRange_eq _ _ _ _ (by omega), r8Range_eq _ _ _ _ (by omega), mSince_eq _ _ _ (by omega) hd, r8Since_eq _ _ _ (by omega)]
  simp only [tc_some]
  have h1 : (rng blocks l lba n).1.length ≤ 4294967296 := by
    unfold rng
    have := List.length_filterMap_le (fun x => cut x lba n) l
    split
    · split
      · simp only; omega
      · simp
    · simp
  have h2 : (snc blocks l gen).1.length ≤ 4294967296 := by
    unfold snc
    have := List.length_filter_le (fun x => decide (x.gen > gen)) l
    split
    · simp only; omega
    · simp
  rw [r7All_eq _ _ h1, r7All_eq _ _ h2, mMany_eq _ _ (by omega), r8Many_eq _ _ (by omega)]
  simp
theorem extmapTells_call (blocks : Int) (l : List Ex) (lba n gen kind : Int) (_ : I64 blocks) (_ : ∀ x ∈ l, Ex.ok x) (_ : I64 lba) (_ : I64 n) (_ : I64 gen) (_ : I64 kind) : EvFr Try.prog cf false 3 [.i blocks, .sl l.length (l.flatMap Ex.cells), .i lba, .i n, .i gen, .i kind] (.b true) := lExtmapTells_ok blocks l lba n gen kind true (lExtmapTells_true blocks l lba n gen kind)
end Ab
end Go.Proofs.Ytphnpgdamacfmaa
