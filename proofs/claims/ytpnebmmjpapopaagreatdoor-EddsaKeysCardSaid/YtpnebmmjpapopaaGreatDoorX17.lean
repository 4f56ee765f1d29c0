/-
  Part of the proof of a statement: the means.
-/
import Derived.Test.YtpnebmmjpapopaaGreatDoorX16
import Derived.Test.YtpnebmmjpapopaaGreatDoorX91
import Derived.Test.YtpnebmmjpapopaaGreatDoorX13
import Derived.Test.YtpnebmmjpapopaaGreatDoorX10
set_option linter.unusedSectionVars false
set_option linter.unusedVariables false
set_option linter.unusedSimpArgs false
set_option linter.deprecated false
section

end
section

end
section

end
