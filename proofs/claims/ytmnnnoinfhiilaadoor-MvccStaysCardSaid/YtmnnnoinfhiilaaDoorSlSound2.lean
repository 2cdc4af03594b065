/-
  What the model does at one operation that changes memory.
-/
import Derived.Test.YtmnnnoinfhiilaaDoorSlSound
import Derived.IntWalk
set_option linter.unusedSimpArgs false
set_option linter.unusedVariables false
set_option linter.unusedSectionVars false
namespace Go.SL
section
variable {P : Program} {ω : Om}
end
end Go.SL
