import Derived.Test.YtfeonffmeajpgaaD
import Derived.Test.YtfeonffmeajpgaaSlOpen
set_option linter.unusedSimpArgs false
set_option linter.unusedVariables false
namespace Go.Proofs.Ytfeonffmeajpgaa
open Go.SL
theorem full_walk {W : World} {base : Nat} {v0 : Value} (o0 : Value.okWide Try.prog W .any base 3 v0) (t0 : Tr Try.prog W 3 v0.cells.toList) (ω : Om) :
    Cal Try.prog ω 4 #[v0] (fun v I' _ => v = .bool true ∧ Ext (heapI W) I') (heapI W) [] := by
  obtain ⟨n, rfl, hwf⟩ := top_int Try.underlying3 o0 t0
  exact full_law (wf_i64 hwf) (fun I' L' hI => ⟨rfl, hI⟩)
end Go.Proofs.Ytfeonffmeajpgaa
