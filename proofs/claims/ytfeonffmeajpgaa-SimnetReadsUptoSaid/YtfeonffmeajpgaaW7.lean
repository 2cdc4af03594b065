import Derived.Test.YtfeonffmeajpgaaD14
set_option linter.unusedSimpArgs false
set_option linter.unusedVariables false
namespace Go.Proofs.Ytfeonffmeajpgaa
open Go.SL
set_option maxRecDepth 10000

theorem reads_walk {W : World} {base : Nat} {v0 : Value} (o0 : Value.okWide Try.prog W .any base 28 v0) (t0 : TrR 137438953472 Try.prog W 28 v0.cells.toList) (ω : Om) :
    Cal Try.prog ω 7 #[v0] (fun v I' _ => v = .bool true ∧ Ext (heapI W) I') (heapI W) [] := by
  obtain ⟨l, hB, hl⟩ := tr_bytes Try.underlying28 Try.underlying5 ce5 by5 (top_slice Try.underlying28 o0 t0)
  exact reads_law hB (by omega) (fun I' hI => ⟨rfl, hI⟩)
end Go.Proofs.Ytfeonffmeajpgaa
