/- Functions, as they answer: printed by a program of this repo, out of the program's form; each with its proof. -/
import Derived.Test.YtadipihpgcelmaaRows
import Derived.Test.YtadipihpgcelmaaAbsY
import Derived.Test.YtadipihpgcelmaaTab
namespace Go.Proofs.Ytadipihpgcelmaa
open Go Go.Proofs.Ytadipihpgcelmaa.Ab
set_option linter.unusedVariables false
set_option linter.unusedSimpArgs false
set_option maxRecDepth 1000000
namespace Ab
def aw9 : Option Bool := some true
theorem aw9_eval : aCall Try.prog cf 4000 9 [] = some (.b true) := by kernel_rfl
theorem aw9_ok (r : Bool) : aw9 = some r → EvFr Try.prog cf true 9 [] (.b r) := fun h => by
  cases h
  exact EvFr.of_bool aw9_eval
end Ab
end Go.Proofs.Ytadipihpgcelmaa
