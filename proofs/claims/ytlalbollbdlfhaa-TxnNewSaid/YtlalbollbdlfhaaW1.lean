/-
  Which transactions there are: its arguments as they come in.
-/
-- S2
import Derived.Test.YtlalbollbdlfhaaP
set_option linter.unusedSimpArgs false
set_option linter.unusedVariables false
namespace Go.Proofs.Ytlalbollbdlfhaa
open Go.SL
set_option maxRecDepth 10000
theorem new_walk {W : World} {base : Nat} {v0 v1 v2 : Value} (o0 : Value.okWide Try.prog W .any base 3 v0) (t0 : Tr Try.prog W 3 v0.cells.toList)
    (o1 : Value.okWide Try.prog W .any base 23 v1) (t1 : Tr Try.prog W 23 v1.cells.toList) (o2 : Value.okWide Try.prog W .any base 3 v2) (t2 : Tr Try.prog W 3 v2.cells.toList) (ω : Om) :
    Cal Try.prog ω 3 #[v0, v1, v2] (fun v I' _ => v = .bool true ∧ Ext (heapI W) I') (heapI W) [] := by
  obtain ⟨n0, rfl, _⟩ := top_int Try.underlying3 o0 t0
  obtain ⟨n2, rfl, _⟩ := top_int Try.underlying3 o2 t2
  obtain ⟨cs, rfl, t⟩ := top_struct Try.underlying23 o1 t1
  obtain ⟨s, _, h⟩ := TStamp_open t
  rw [show cs = _ from h]
  exact new_law (fun I' L' hI => ⟨rfl, hI⟩)
end Go.Proofs.Ytlalbollbdlfhaa
