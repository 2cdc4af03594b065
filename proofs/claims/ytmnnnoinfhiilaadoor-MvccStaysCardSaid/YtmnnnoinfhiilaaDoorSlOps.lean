/-
  What the model does at operations over maps, runes, interfaces; at calls that may panic.
-/
import Derived.Test.YtmnnnoinfhiilaaDoorSlSound5
set_option linter.unusedSimpArgs false
set_option linter.unusedVariables false
set_option linter.unusedSectionVars false
namespace Go.SL
section
variable {P : Program} {ω : Om} {n : Nat} {a : Act} {e : Env}
theorem MapAt.heap {w : World} {I : Imm} {L : LH} {r clock : Nat} {es : Array MapEntry} (hs : St ω w I L) (h : MapAt I L r es clock) : w.heap[r]? = some (.map es clock) := h.elim (hs.own _ _) (hs.imm _ _)
end
end Go.SL
