/-
  The laws of what stays and of what has not changed: the walks.
-/
-- S3
import Derived.Test.YtmnnnoinfhiilaaDoorRD
set_option linter.unusedSimpArgs false
set_option linter.unusedVariables false
namespace Go.Proofs.YtmnnnoinfhiilaaDoor
open Go.SL
set_option maxRecDepth 10000
section
variable {ω : Om} {I : Imm} {L : LH} {K : Value → M}
theorem Both.mem {b br : Nat} {sp : Sp} {nt : Nts} {F : LH} (h : Both I b br L sp nt F) : ∀ x ∈ F, x ∈ L := fun x hx => by
  obtain ⟨X, vV, vI, hp, _⟩ := h
  exact hp.mem_iff.2 (by simp [hx])
theorem Both.more {b br : Nat} {sp : Sp} {nt : Nts} {F : LH} (h : Both I b br L sp nt F) (x : Nat × Obj) : Both I b br (x :: L) sp nt (x :: F) := by
  obtain ⟨X, vV, vI, hp, h2⟩ := h
  exact ⟨X, vV, vI, ms_perm (by rw [ms_cons, ms_eq hp]; ((try simp only [ms_cons, ms_app, ms_nil, ms_nil']); (try ac_rfl))), h2⟩
theorem Both.less {b br : Nat} {sp : Sp} {nt : Nts} {F : LH} {x : Nat × Obj} (h : Both I b br L sp nt (x :: F)) : ∃ L', L.Perm (x :: L') ∧ Both I b br L' sp nt F := by
  obtain ⟨X, vV, vI, hp, h2⟩ := h
  exact ⟨X ++ (br, refO vV vI sp.floor) :: F, ms_perm (by rw [ms_eq hp]; ((try simp only [ms_cons, ms_app, ms_nil, ms_nil']); (try ac_rfl))), X, vV, vI, List.Perm.refl _, h2⟩
end
end Go.Proofs.YtmnnnoinfhiilaaDoor
