/-
  Answers compared; a step played both ways.
-/
-- S3
import Derived.Test.YtmnnnoinfhiilaaDoorRA
set_option linter.unusedSimpArgs false
set_option linter.unusedVariables false
namespace Go.Proofs.YtmnnnoinfhiilaaDoor
open Go.SL
set_option maxRecDepth 10000
section
variable {ω : Om} {I : Imm} {L : LH} {K : Value → M}
/-! ### Both spaces -/
def stepS (sp : Sp) (x : TStep) : Sp := if x.fDo = 0 then putS sp x.fX else if x.fDo = 1 then resS sp x.fX.fKey x.fX.fTxn x.fYes x.fX.fAt else if x.fDo = 5 then colS sp x.fX.fAt else sp
theorem SpOk.step {sp : Sp} (h : SpOk sp) (x : TStep) : SpOk (stepS sp x) := by
  unfold stepS
  split
  · exact h.put
  · split
    · exact h.res
    · split
      · exact h.col
      · exact h
def Both (I : Imm) (b br : Nat) (L : LH) (sp : Sp) (nt : Nts) (F : LH) : Prop := ∃ X vV vI, L.Perm (X ++ ((br, refO vV vI sp.floor) :: F)) ∧ SpR I b X sp nt ∧ RL TVersionV 5 I [] vV (versOf sp.rows) ∧ RL TIntentV 6 I [] vI (intsOf sp.rows)
theorem RL.monoI {α : Type} {R : Imm → α → List Value → Prop} {n : Nat} {I I' : Imm} {v : Value} {xs : List α} (hR : ∀ x c, R I x c → R I' x c) (h : RL R n I [] v xs) (hI : Ext I I') : RL R n I' [] v xs := h.mono hR hI (fun _ h => h)
theorem Both.mono {I' : Imm} {b br : Nat} {sp : Sp} {nt : Nts} {F : LH} (h : Both I b br L sp nt F) (hI : Ext I I') : Both I' b br L sp nt F := by
  obtain ⟨X, vV, vI, h1, h2, h3, h4⟩ := h
  exact ⟨X, vV, vI, h1, h2.mono hI, RL.monoI (fun x c h => h.mono hI) h3 hI, RL.monoI (fun x c h => h.mono hI) h4 hI⟩
end
end Go.Proofs.YtmnnnoinfhiilaaDoor
