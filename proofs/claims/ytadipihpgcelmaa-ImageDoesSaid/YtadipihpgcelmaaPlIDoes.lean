/- The law of blocks filled, written and read as the document says. -/
import Derived.Test.YtadipihpgcelmaaPlI2
import Derived.Test.YtadipihpgcelmaaFlDoes
import Derived.Test.YtadipihpgcelmaaAbsZ
namespace Go.Proofs.Ytadipihpgcelmaa
open Go Go.Proofs.Ytadipihpgcelmaa.Ab
set_option linter.unusedVariables false
set_option linter.unusedSimpArgs false
namespace Ab
theorem fillS_len (l : List Ce) (lba n kind gen : Int) : (fillS l lba n kind gen).1.length ≤ l.length := by
  unfold fillS
  split
  · split
    · simp only; rw [putN_len]; exact Nat.le_refl _
    · exact Nat.le_refl _
  · exact Nat.zero_le _
theorem writeS_len (l : List Ce) (lba gen : Int) (b : List UInt8) : (writeS l lba gen b).1.length ≤ l.length := by
  unfold writeS
  split
  · split
    · simp only; rw [putN_len]; exact Nat.le_refl _
    · exact Nat.le_refl _
  · exact Nat.zero_le _
theorem lImageDoes_true (l : List Ce) (lba n kind gen : Int) (b : List UInt8) : lImageDoes l lba n kind gen b = some true := by
  unfold lImageDoes
  rw [show aw9 = some true from rfl, tc_some]
  simp only [tb_dec]
  by_cases h1 : (l.length : Int) > 100
  · rw [if_pos h1]
  by_cases h2 : (b.length : Int) > 3000
  · rw [if_neg h1, if_pos h2]
  have e1 := fillS_len l lba n kind gen
  have e2 := writeS_len l lba gen b
  rw [if_neg h1, if_neg h2, iFill_eq l lba n kind gen (by omega), tc_some, r9Fill_eq l lba n kind gen (by omega), tc_some, iWrite_eq l lba gen b (by omega) (by omega), tc_some, r9Write_eq l lba gen b (by omega) (by omega), tc_some,
    iRead_eq l lba n (by omega), tc_some, r9Read_eq l lba n (by omega), tc_some, r9Same_eq0 _ _ (by omega), tc_some, r9Same_eq0 _ _ (by omega), tc_some]
  simp
theorem imageDoes_call (l : List Ce) (lba n kind gen : Int) (b : List UInt8) (_ : ∀ c ∈ l, Ce.ok c) (_ : I64 lba) (_ : I64 n) (_ : I64 kind) (_ : I64 gen) (_ : True) : EvFr Try.prog cf false 4 [.sl l.length (l.flatMap Ce.cells), .i lba, .i n, .i kind, .i gen, .sl b.length (b.map AV.y)] (.b true) := lImageDoes_ok l lba n kind gen b true (lImageDoes_true l lba n kind gen b)
end Ab
end Go.Proofs.Ytadipihpgcelmaa
