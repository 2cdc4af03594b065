/-
  In a fresh group, whichever of the members ticks first, leads; what it is proposed is committed by all three; and a node that joins behind a compaction gets the state: the arguments as they come in.
-/
-- S2
import Derived.Test.YtdcpeboecmkmlaaPO
set_option linter.unusedSimpArgs false
set_option linter.unusedVariables false
namespace Go.Proofs.Ytdcpeboecmkmlaa
open Go.SL
set_option maxRecDepth 10000
theorem ceU : Try.prog.cellsOf 5 = 1 := by kernel_rfl
theorem byU : Try.prog.bytesOf 5 = 1 := by kernel_rfl
theorem calm_walk {W : World} {base : Nat} {v0 v1 : Value} (o0 : Value.okWide Try.prog W .any base 3 v0) (t0 : Tr Try.prog W 3 v0.cells.toList)
    (o1 : Value.okWide Try.prog W .any base 34 v1) (t1 : Tr Try.prog W 34 v1.cells.toList) (ω : Om) :
    Cal Try.prog ω 10 #[v0, v1] (fun v I' _ => v = .bool true ∧ Ext (heapI W) I') (heapI W) [] := by
  obtain ⟨n, rfl, hwf⟩ := top_int Try.underlying3 o0 t0
  obtain ⟨l, hB, hbl⟩ := tr_bytes Try.underlying34 Try.underlying5 ceU byU (v := v1) (top_slice Try.underlying34 o1 t1)
  have e : reachBytes = 140737488351232 := by rfl
  exact calm_law (wf_i64 hwf) hB (by omega) (fun I' _ hI => ⟨rfl, hI⟩)
end Go.Proofs.Ytdcpeboecmkmlaa
