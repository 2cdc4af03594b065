/-
  Operations, regions: in a function's frame or in a round's.
-/
import Derived.Test.YtmnnnoinfhiilaaDoorSlOps2
import Derived.OrdersIn
set_option linter.unusedSimpArgs false
set_option linter.unusedVariables false
set_option linter.unusedSectionVars false
namespace Go.SL
section
variable {P : Program}
variable {r : Option Nat} {n : Nat} {ops : Array Oper} {Q : Exit → Act → World → Prop}
variable {PQ : List PanicEntry → List Deferred → World → Prop}
end
end Go.SL
