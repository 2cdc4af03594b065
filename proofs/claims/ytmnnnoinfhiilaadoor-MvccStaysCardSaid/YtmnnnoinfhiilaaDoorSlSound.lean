/-
  What the model does at one operation is what 'opv' says.
-/
import Derived.Test.YtmnnnoinfhiilaaDoorSlVc
set_option linter.unusedSimpArgs false
set_option linter.unusedVariables false
set_option linter.unusedSectionVars false
namespace Go.SL
section
variable {P : Program} {ω : Om}
theorem Cell.cell {w : World} {I : Imm} {L : LH} (h : St ω w I L) {b off : Nat} {v : Value} (hc : Cell I L b off v) : w.cell? ⟨b, off, none⟩ = some v := by
  obtain ⟨cs, T, fr, hm, hv⟩ := hc
  have hb : w.heap[b]? = some (.cells cs T fr) := hm.elim (h.own _ _) (h.imm _ _)
  simp [World.cell?, hb, hv]
theorem add_none (b off k : Nat) : (⟨b, off, none⟩ : Addr).add k = ⟨b, off + k, none⟩ := by
  unfold Addr.add; split <;> simp_all
theorem Cells.load {w : World} {I : Imm} {L : LH} (h : St ω w I L) {b off : Nat} {vs : List Value} (hc : Cells I L b off vs) :
    (loadCells ⟨b, off, none⟩ vs.length).run P w = .ok vs.toArray w :=
  run_loadCells_list w _ _ fun j v hv => by rw [add_none]; exact (hc j v hv).cell h
end
end Go.SL
