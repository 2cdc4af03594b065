/-
  The document's space is read: a span, what has changed.
-/
-- S3
import Derived.Test.YtmnnnoinfhiilaaDoorW
set_option linter.unusedSimpArgs false
set_option linter.unusedVariables false
namespace Go.Proofs.YtmnnnoinfhiilaaDoor
open Go.SL
set_option maxRecDepth 10000
section
variable {ω : Om} {I : Imm} {L : LH} {K : Value → M}
/-! ### What has changed -/
end
end Go.Proofs.YtmnnnoinfhiilaaDoor
