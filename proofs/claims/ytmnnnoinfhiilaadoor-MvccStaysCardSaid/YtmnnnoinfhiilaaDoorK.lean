/-
  A space is read: a span, what has changed, the floor, the intents.
-/
-- S3
import Derived.Test.YtmnnnoinfhiilaaDoorJ
set_option linter.unusedSimpArgs false
set_option linter.unusedVariables false
namespace Go.Proofs.YtmnnnoinfhiilaaDoor
open Go.SL
set_option maxRecDepth 10000
section
variable {ω : Om} {I : Imm} {L : LH} {K : Value → M}
/-! ### What has changed -/
end
end Go.Proofs.YtmnnnoinfhiilaaDoor
