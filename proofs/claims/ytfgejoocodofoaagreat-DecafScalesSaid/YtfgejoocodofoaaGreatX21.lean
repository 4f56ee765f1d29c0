/-
  Part of the proof of a statement: the means.
-/
import Derived.Test.YtfgejoocodofoaaGreatX10
import Derived.Test.YtfgejoocodofoaaGreatX18
import Derived.Test.YtfgejoocodofoaaGreatX16
import Derived.Test.YtfgejoocodofoaaGreatX13
set_option linter.unusedSectionVars false
set_option linter.unusedVariables false
set_option linter.unusedSimpArgs false
set_option linter.deprecated false
section
namespace Go.Sx.Tryz
open Go.Proofs
set_option maxRecDepth 40000
theorem qj4 (X : AP) : decide (X.x * X.y = X.y * X.x) = true := decide_eq_true (Fin.mul_comm _ _)
end Go.Sx.Tryz
end
