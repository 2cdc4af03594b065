/-
  What a transaction asks hangs on the ranges alone in the range and in where its span ends: its arguments as they come in.
-/
-- S2
import Derived.Test.YtlalbollbdlfhaaS
set_option linter.unusedSimpArgs false
set_option linter.unusedVariables false
namespace Go.Proofs.Ytlalbollbdlfhaa
open Go.SL
set_option maxRecDepth 10000
theorem same_walk {W : World} {base : Nat} {v0 v1 : Value} (o0 : Value.okWide Try.prog W .any base 33 v0) (t0 : TrR 137438953472 Try.prog W 33 v0.cells.toList)
    (o1 : Value.okWide Try.prog W .any base 36 v1) (t1 : TrR 137438953472 Try.prog W 36 v1.cells.toList) (ω : Om) :
    Cal Try.prog ω 4 #[v0, v1] (fun v I' _ => v = .bool true ∧ Ext (heapI W) I') (heapI W) [] := by
  obtain ⟨ls, hl, hb, h0⟩ := tr_list (B := TRangeB 137438953472) Try.underlying33 ceTRange (by decide) byTRange (top_slice Try.underlying33 o0 t0) (fun c hc => TRange_open hc)
  obtain ⟨ss, hl', hb', h1⟩ := tr_list (B := TStepB 137438953472) Try.underlying36 ceTStep (by decide) byTStep (top_slice Try.underlying36 o1 t1) (fun c hc => TStep_open hc)
  exact same_law h0 (by omega) (fun r hr => ⟨by have := (hb r hr).2.1.1; omega, by have := (hb r hr).2.1.2; omega⟩) h1 (by omega) hb' (fun I' L' hI => ⟨rfl, hI⟩)
end Go.Proofs.Ytlalbollbdlfhaa
