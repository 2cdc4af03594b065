/-
  The document's space is read.
-/
-- S3
import Derived.Test.YtmnnnoinfhiilaaDoorU
set_option linter.unusedSimpArgs false
set_option linter.unusedVariables false
namespace Go.Proofs.YtmnnnoinfhiilaaDoor
open Go.SL
set_option maxRecDepth 10000
section
variable {ω : Om} {I : Imm} {L : LH} {K : Value → M}
structure RefF (I : Imm) (L : LH) (b : Nat) (vV vI : Value) (V : List TVersion) (Is : List TIntent) (fl : TStamp) : Prop where
  head : Cells I L b 0 [vV, vI, .int .i64 fl.fWall, .int .i64 fl.fLogic]
  vers : RL TVersionV 5 I [] vV V
  ints : RL TIntentV 6 I [] vI Is
theorem RefF.mono {I' : Imm} {L' : LH} {b : Nat} {vV vI : Value} {V : List TVersion} {Is : List TIntent} {fl : TStamp} (h : RefF I L b vV vI V Is fl) (hI : Ext I I') (hL : ∀ x ∈ L, x ∈ L') : RefF I' L' b vV vI V Is fl :=
  ⟨h.head.mono hI hL, h.vers.mono (fun x c h => h.mono hI) hI (fun _ h => h), h.ints.mono (fun x c h => h.mono hI) hI (fun _ h => h)⟩
end
end Go.Proofs.YtmnnnoinfhiilaaDoor
