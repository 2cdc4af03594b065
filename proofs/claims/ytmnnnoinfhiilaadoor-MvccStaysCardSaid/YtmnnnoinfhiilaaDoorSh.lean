/- The shallow forms of the functions, printed by a program (goshallow.py). -/
import Derived.Test.YtmnnnoinfhiilaaDoorChecked
import Derived.Test.YtmnnnoinfhiilaaDoorSlRules
set_option maxRecDepth 100000
set_option linter.unusedVariables false
namespace Go.Proofs.YtmnnnoinfhiilaaDoor
open Go.SL
end Go.Proofs.YtmnnnoinfhiilaaDoor
