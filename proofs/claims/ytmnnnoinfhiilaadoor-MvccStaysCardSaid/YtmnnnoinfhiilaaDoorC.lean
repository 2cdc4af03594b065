/-
  Bytes of keys: zeros replaced, counted, found.
-/
-- S3
import Derived.Test.YtmnnnoinfhiilaaDoorB
import Derived.Lib.Bytealg
set_option linter.unusedSimpArgs false
set_option linter.unusedVariables false
namespace Go.Proofs.YtmnnnoinfhiilaaDoor
open Go.SL
set_option maxRecDepth 100000
section
variable {ω : Om} {I : Imm} {L : LH} {K : Value → M}
end
end Go.Proofs.YtmnnnoinfhiilaaDoor
