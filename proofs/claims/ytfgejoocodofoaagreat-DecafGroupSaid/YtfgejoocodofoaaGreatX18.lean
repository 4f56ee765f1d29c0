/-
  Part of the proof of a statement: the means.
-/
import Derived.Test.YtfgejoocodofoaaGreatX16
import Derived.Test.YtfgejoocodofoaaGreatX9
import Derived.Test.YtfgejoocodofoaaGreatX13
import Derived.Test.YtfgejoocodofoaaGreatX10
set_option linter.unusedSectionVars false
set_option linter.unusedVariables false
set_option linter.unusedSimpArgs false
set_option linter.deprecated false
section

end
section

end
section

end
section

end
