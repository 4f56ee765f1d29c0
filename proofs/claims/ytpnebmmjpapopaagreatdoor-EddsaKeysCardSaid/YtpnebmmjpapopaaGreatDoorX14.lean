/-
  Part of the proof of a statement: the means.
-/
import Derived.Test.YtpnebmmjpapopaaGreatDoorX8
import Derived.Test.YtpnebmmjpapopaaGreatDoorX13
import Derived.Test.YtpnebmmjpapopaaGreatDoorX6
set_option linter.unusedSectionVars false
set_option linter.unusedVariables false
set_option linter.unusedSimpArgs false
set_option linter.deprecated false
section

end
section

end
section

end
section

end
section
namespace Go.Sx.Tryz
open Go.Proofs
set_option maxRecDepth 40000
theorem qfI {α:Type} {k:IntKind} {args:List SVal} {p:Prop} {post:α->Prop} {f:α->List Int} {g:α->Nat} {e:α->Int} (hc:IdsLtL noId args) (h:p -> ∃ x,post x):PR.Good ⟨p,α,post,fun z =>.tup [.fr k (f z) (g z),.int .i64 (e z)]⟩ args :=
 ⟨fun _=>⟨trivial,trivial,trivial⟩,(fun E x b q hq=>by simp[place,place.placeL]at hq;subst hq;exact⟨Nat.le_refl _,by simp⟩),fun _=>hc,h⟩
end Go.Sx.Tryz
end
section

end
section

end
section

end
