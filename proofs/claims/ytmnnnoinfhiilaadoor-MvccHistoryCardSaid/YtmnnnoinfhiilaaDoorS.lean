/-
  Versions taken out of a slice.
-/
-- S3
import Derived.Test.YtmnnnoinfhiilaaDoorR
set_option linter.unusedSimpArgs false
set_option linter.unusedVariables false
namespace Go.Proofs.YtmnnnoinfhiilaaDoor
open Go.SL
set_option maxRecDepth 10000
section
variable {ω : Om} {I : Imm} {L : LH} {K : Value → M}
theorem split_at {α : Type} {l : List α} {j : Nat} (h : j < l.length) : l = l.take j ++ l[j] :: l.drop (j + 1) := by
  rw [← List.drop_eq_getElem_cons h, List.take_append_drop]
/-! ### What is noted while a cell is open -/
def NoteR (I : Imm) (b m ch : Nat) (kv : Value) (fl : TStamp) (X : LH) (nt : Nts) : Prop := ∃ NX, X.Perm ((b, spO m kv fl ch) :: NX) ∧ NtR I ch NX nt
theorem NoteR.mono {I I' : Imm} {b m ch : Nat} {kv : Value} {fl : TStamp} {X : LH} {nt : Nts} (h : NoteR I b m ch kv fl X nt) (hI : Ext I I') : NoteR I' b m ch kv fl X nt := by
  obtain ⟨NX, h1, h2⟩ := h
  exact ⟨NX, h1, h2.mono hI⟩
/-! ### A cell's old versions -/
end
end Go.Proofs.YtmnnnoinfhiilaaDoor
