/-
  The document's lists, and the rows they stand for.
-/
-- S3
import Derived.Test.YtmnnnoinfhiilaaDoorT
set_option linter.unusedSimpArgs false
set_option linter.unusedVariables false
namespace Go.Proofs.YtmnnnoinfhiilaaDoor
open Go.SL
set_option maxRecDepth 10000
/-! ### An intent is set in the list -/
/-! ### An intent is taken out, a version put in -/
/-! ### What is collected -/
end Go.Proofs.YtmnnnoinfhiilaaDoor
