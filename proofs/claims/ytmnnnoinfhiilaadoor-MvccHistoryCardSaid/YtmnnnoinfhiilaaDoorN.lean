/-
  A space is read: its floor, its intents, how many versions.
-/
-- S3
import Derived.Test.YtmnnnoinfhiilaaDoorK
set_option linter.unusedSimpArgs false
set_option linter.unusedVariables false
namespace Go.Proofs.YtmnnnoinfhiilaaDoor
open Go.SL
set_option maxRecDepth 10000
section
variable {ω : Om} {I : Imm} {L : LH} {K : Value → M}
end
end Go.Proofs.YtmnnnoinfhiilaaDoor
