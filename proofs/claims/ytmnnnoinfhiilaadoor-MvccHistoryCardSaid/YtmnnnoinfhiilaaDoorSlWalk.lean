/-
  A few more rules for walks.
-/
import Derived.Test.YtmnnnoinfhiilaaDoorSlData
set_option linter.unusedSimpArgs false
set_option linter.unusedVariables false
namespace Go.SL
section
variable {I : Imm} {L : LH} {K : Value → M}
theorem unfE {A B : M} (e : A = B) (h : B I L) : A I L := e ▸ h
theorem leafB {b b' : Bool} (h : K (.bool b) I L) (e : b = b') : K (.bool b') I L := e ▸ h
end
end Go.SL
