/- Functions, as they answer: printed by a program of this repo, out of the program's form; each with its proof. -/
import Derived.Test.YtphnpgdamacfmaaRows
import Derived.Test.YtphnpgdamacfmaaAbsY
import Derived.Test.YtphnpgdamacfmaaTab
namespace Go.Proofs.Ytphnpgdamacfmaa
open Go Go.Proofs.Ytphnpgdamacfmaa.Ab
set_option linter.unusedVariables false
set_option linter.unusedSimpArgs false
set_option maxRecDepth 1000000
namespace Ab
def aw8 : Option Bool := some true
theorem aw8_eval : aCall Try.prog cf 4000 9 [] = some (.b true) := by kernel_rfl
theorem aw8_ok (r : Bool) : aw8 = some r → EvFr Try.prog cf true 9 [] (.b r) := fun h => by
  cases h
  exact EvFr.of_bool aw8_eval
end Ab
end Go.Proofs.Ytphnpgdamacfmaa
