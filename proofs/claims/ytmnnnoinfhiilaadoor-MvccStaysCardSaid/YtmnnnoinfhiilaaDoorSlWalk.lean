/-
  A few more rules for walks.
-/
import Derived.Test.YtmnnnoinfhiilaaDoorSlData
set_option linter.unusedSimpArgs false
set_option linter.unusedVariables false
namespace Go.SL
section
variable {I : Imm} {L : LH} {K : Value → M}
end
end Go.SL
