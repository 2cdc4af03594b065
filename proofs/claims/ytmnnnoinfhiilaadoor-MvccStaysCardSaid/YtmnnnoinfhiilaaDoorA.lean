/-
  Stamps, keys, spans: what the small functions tell.
-/
-- S3
import Derived.Test.YtmnnnoinfhiilaaDoorTy
import Derived.Test.YtmnnnoinfhiilaaDoorSS
set_option linter.unusedSimpArgs false
set_option linter.unusedVariables false
namespace Go.Proofs.YtmnnnoinfhiilaaDoor
open Go.SL
set_option maxRecDepth 10000
section
variable {ω : Om} {I : Imm} {L : LH} {K : Value → M}
def bhd (a b : TStamp) : Bool := decide (b.fWall < a.fWall ∨ (a.fWall = b.fWall ∧ b.fLogic < a.fLogic))
def wallB (n : Int) : Bool := decide (0 ≤ n ∧ n ≤ 9007199254740991)
def rightB (s : TStamp) : Bool := wallB s.fWall && decide (0 ≤ s.fLogic ∧ s.fLogic ≤ 65535)
def txnB (n : Int) : Bool := decide (1 ≤ n ∧ n ≤ 9007199254740991)
def keyOk (l : List UInt8) : Bool := decide (1 ≤ l.length ∧ l.length ≤ 110)
def nextF (s : TStamp) : TStamp × Int := if rightB s = false then (⟨0, 0⟩, 80) else if s.fLogic < 65535 then (⟨s.fWall, s.fLogic + 1⟩, 0) else if s.fWall = 9007199254740991 then (⟨0, 0⟩, 82) else (⟨s.fWall + 1, 0⟩, 0)
theorem rightB_iff {x : TStamp} (h : rightB x = true) : (0 ≤ x.fWall ∧ x.fWall ≤ 9007199254740991) ∧ 0 ≤ x.fLogic ∧ x.fLogic ≤ 65535 := by
  simpa [rightB, wallB] using h
end
end Go.Proofs.YtmnnnoinfhiilaaDoor
