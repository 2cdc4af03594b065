/-
  A space is read: a cell's version, what a transaction reads.
-/
-- S3
import Derived.Test.YtmnnnoinfhiilaaDoorF
set_option linter.unusedSimpArgs false
set_option linter.unusedVariables false
namespace Go.Proofs.YtmnnnoinfhiilaaDoor
open Go.SL
set_option maxRecDepth 10000
section
variable {ω : Om} {I : Imm} {L : LH} {K : Value → M}
/-! ### The keys of a span, in turn -/
end
end Go.Proofs.YtmnnnoinfhiilaaDoor
