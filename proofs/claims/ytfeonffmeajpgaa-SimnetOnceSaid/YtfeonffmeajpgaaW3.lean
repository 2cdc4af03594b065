import Derived.Test.YtfeonffmeajpgaaO
import Derived.Test.YtfeonffmeajpgaaV
set_option linter.unusedSimpArgs false
set_option linter.unusedVariables false
namespace Go.Proofs.Ytfeonffmeajpgaa
open Go.SL
theorem once_walk {W : World} {base : Nat} {v0 : Value} (o0 : Value.okWide Try.prog W .any base 22 v0) (t0 : Tr Try.prog W 22 v0.cells.toList) (ω : Om) :
    Cal Try.prog ω 3 #[v0] (fun v I' _ => v = .bool true ∧ Ext (heapI W) I') (heapI W) [] := by
  obtain ⟨cells, sc, hS, hR, _⟩ := script_open o0 t0
  exact once_law hS hR (fun I' L' hI => ⟨rfl, hI⟩)
end Go.Proofs.Ytfeonffmeajpgaa
