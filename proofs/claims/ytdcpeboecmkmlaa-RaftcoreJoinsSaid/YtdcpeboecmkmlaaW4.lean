/-
  A node that is made a member of a group whose leader has compacted its log gets the state, and commits what the leader does: the arguments as they come in.
-/
-- S2
import Derived.Test.YtdcpeboecmkmlaaPQ
set_option linter.unusedSimpArgs false
set_option linter.unusedVariables false
namespace Go.Proofs.Ytdcpeboecmkmlaa
open Go.SL
set_option maxRecDepth 10000
theorem ceU : Try.prog.cellsOf 5 = 1 := by kernel_rfl
theorem byU : Try.prog.bytesOf 5 = 1 := by kernel_rfl
theorem joins_walk {W : World} {base : Nat} {v1 : Value}
    (o1 : Value.okWide Try.prog W .any base 34 v1) (t1 : Tr Try.prog W 34 v1.cells.toList) (ω : Om) :
    Cal Try.prog ω 11 #[v1] (fun v I' _ => v = .bool true ∧ Ext (heapI W) I') (heapI W) [] := by
  obtain ⟨l, hB, hbl⟩ := tr_bytes Try.underlying34 Try.underlying5 ceU byU (v := v1) (top_slice Try.underlying34 o1 t1)
  have e : reachBytes = 140737488351232 := by rfl
  exact joins_law hB (by omega) (fun I' _ hI => ⟨rfl, hI⟩)
end Go.Proofs.Ytdcpeboecmkmlaa
