/-
  A space is written: what nobody can read is taken away.
-/
-- S3
import Derived.Test.YtmnnnoinfhiilaaDoorS
set_option linter.unusedSimpArgs false
set_option linter.unusedVariables false
namespace Go.Proofs.YtmnnnoinfhiilaaDoor
open Go.SL
set_option maxRecDepth 10000
section
variable {ω : Om} {I : Imm} {L : LH} {K : Value → M}
end
end Go.Proofs.YtmnnnoinfhiilaaDoor
