/-
  The document's space is written: an intent is set, put.
-/
-- S3
import Derived.Test.YtmnnnoinfhiilaaDoorX
set_option linter.unusedSimpArgs false
set_option linter.unusedVariables false
namespace Go.Proofs.YtmnnnoinfhiilaaDoor
open Go.SL
set_option maxRecDepth 10000
section
variable {ω : Om} {I : Imm} {L : LH} {K : Value → M}
abbrev refO (vV vI : Value) (fl : TStamp) : Obj := .cells #[vV, vI, .int .i64 fl.fWall, .int .i64 fl.fLogic] 57 (0, 0)
end
end Go.Proofs.YtmnnnoinfhiilaaDoor
