/-
  What the model does at one operation is what 'opv2' says.
-/
import Derived.Test.YtmnnnoinfhiilaaDoorSlOps
set_option linter.unusedSimpArgs false
set_option linter.unusedVariables false
set_option linter.unusedSectionVars false
namespace Go.SL
section
variable {P : Program} {ω : Om} {n : Nat} {a : Act} {e : Env} {pn : Option (Value → M)}
def PnOf (pn : Option (Value → M)) : Value → M := match pn with
  | none => fun _ => F
  | some p => p
end
end Go.SL
