/-
  The laws on pure operations, all in one.
-/
-- S2
import Derived.Test.YtmnnnoinfhiilaaDoorSh
import Derived.Test.YtmnnnoinfhiilaaDoorSlMore
set_option linter.unusedSimpArgs false
set_option linter.unusedVariables false
namespace Go.Proofs.YtmnnnoinfhiilaaDoor
open Go.SL
end Go.Proofs.YtmnnnoinfhiilaaDoor
