/-
  The document's space is written: an intent is resolved.
-/
-- S3
import Derived.Test.YtmnnnoinfhiilaaDoorY
set_option linter.unusedSimpArgs false
set_option linter.unusedVariables false
namespace Go.Proofs.YtmnnnoinfhiilaaDoor
open Go.SL
set_option maxRecDepth 10000
section
variable {ω : Om} {I : Imm} {L : LH} {K : Value → M}
/-! ### Collecting -/
end
end Go.Proofs.YtmnnnoinfhiilaaDoor
