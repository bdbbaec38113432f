/- Functions, as they answer: printed by a program of this repo, out of the program's form; each with its proof. -/
import Derived.Test.YtiaelfmohamipaaRows
import Derived.Test.YtiaelfmohamipaaAbsY
import Derived.Test.YtiaelfmohamipaaTab
namespace Go.Proofs.Ytiaelfmohamipaa
open Go Go.Proofs.Ytiaelfmohamipaa.Ab
set_option linter.unusedVariables false
set_option linter.unusedSimpArgs false
set_option maxRecDepth 1000000
namespace Ab
def aw15 : Option Bool := some true
theorem aw15_eval : aCall Try.prog cf 4000 7 [] = some (.b true) := by kernel_rfl
theorem aw15_ok (r : Bool) : aw15 = some r → EvFr Try.prog cf true 7 [] (.b r) := fun h => by
  cases h
  exact EvFr.of_bool aw15_eval
end Ab
end Go.Proofs.Ytiaelfmohamipaa
