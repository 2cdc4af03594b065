/-
  The laws of what stays and of what has not changed: their arguments as they come in.
-/
-- S3
import Derived.Test.YtmnnnoinfhiilaaDoorRE
set_option linter.unusedSimpArgs false
set_option linter.unusedVariables false
namespace Go.Proofs.YtmnnnoinfhiilaaDoor
open Go.SL
set_option maxRecDepth 10000
end Go.Proofs.YtmnnnoinfhiilaaDoor
