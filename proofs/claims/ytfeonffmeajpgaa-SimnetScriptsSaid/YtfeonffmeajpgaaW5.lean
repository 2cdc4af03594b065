import Derived.Test.YtfeonffmeajpgaaP
import Derived.Test.YtfeonffmeajpgaaV
set_option linter.unusedSimpArgs false
set_option linter.unusedVariables false
namespace Go.Proofs.Ytfeonffmeajpgaa
open Go.SL
theorem reach_le (n : Nat) (h : n * 72 ≤ reachBytes) : n < 4611686018427387900 := by
  have : reachBytes ≤ 140737488355328 * 2 := by decide
  omega
theorem scripts_walk {W : World} {base : Nat} {v0 : Value} (o0 : Value.okWide Try.prog W .any base 22 v0) (t0 : Tr Try.prog W 22 v0.cells.toList) (ω : Om) :
    Cal Try.prog ω 5 #[v0] (fun v I' _ => v = .bool true ∧ Ext (heapI W) I') (heapI W) [] := by
  obtain ⟨cells, sc, hS, hR, hb⟩ := script_open o0 t0
  exact scripts_law hS hR (reach_le _ hb) (fun I' L' hI => ⟨rfl, hI⟩)
end Go.Proofs.Ytfeonffmeajpgaa
