/-
  The document's space is read: a key, all keys, a span, what has changed.
-/
-- S3
import Derived.Test.YtmnnnoinfhiilaaDoorV
set_option linter.unusedSimpArgs false
set_option linter.unusedVariables false
namespace Go.Proofs.YtmnnnoinfhiilaaDoor
open Go.SL
set_option maxRecDepth 10000
/-! ### Keys, merged -/
section
variable {ω : Om} {I : Imm} {L : LH} {K : Value → M}
end
end Go.Proofs.YtmnnnoinfhiilaaDoor
