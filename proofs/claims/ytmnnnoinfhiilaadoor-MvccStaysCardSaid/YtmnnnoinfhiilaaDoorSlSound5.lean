/-
  Reads and what changes memory; regions.
-/
import Derived.Test.YtmnnnoinfhiilaaDoorSlSound4
set_option linter.unusedSimpArgs false
set_option linter.unusedVariables false
set_option linter.unusedSectionVars false
namespace Go.SL
section
variable {P : Program} {ω : Om} {n : Nat} {a : Act} {e : Env}
end
end Go.SL
