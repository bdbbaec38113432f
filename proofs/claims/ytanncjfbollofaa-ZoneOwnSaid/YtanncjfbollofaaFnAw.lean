/- Functions, as they answer: printed by a program of this repo, out of the program's form; each with its proof. -/
import Derived.Test.YtanncjfbollofaaRows
import Derived.Test.YtanncjfbollofaaAbsY
import Derived.Test.YtanncjfbollofaaTab
namespace Go.Proofs.Ytanncjfbollofaa
open Go Go.Proofs.Ytanncjfbollofaa.Ab
set_option linter.unusedVariables false
set_option linter.unusedSimpArgs false
set_option maxRecDepth 1000000
namespace Ab
def aw3 : Option Bool := some true
theorem aw3_eval : aCall Try.prog cf 4000 10 [] = some (.b true) := by kernel_rfl
theorem aw3_ok (r : Bool) : aw3 = some r → EvFr Try.prog cf true 10 [] (.b r) := fun h => by
  cases h
  exact EvFr.of_bool aw3_eval
end Ab
end Go.Proofs.Ytanncjfbollofaa
