/-
  The laws of what stays and of what has not changed: their arguments as they come in.
-/
-- S3
import Derived.Test.YtmnnnoinfhiilaaDoorRE
set_option linter.unusedSimpArgs false
set_option linter.unusedVariables false
namespace Go.Proofs.YtmnnnoinfhiilaaDoor
open Go.SL
set_option maxRecDepth 10000
theorem stays_walk {W : World} {base : Nat} {v0 v1 v2 : Value} (o0 : Value.okWide Tryd.prog W .any base 50 v0) (t0 : Tr Tryd.prog W 50 v0.cells.toList)
    (o1 : Value.okWide Tryd.prog W .any base 50 v1) (t1 : Tr Tryd.prog W 50 v1.cells.toList)
    (o2 : Value.okWide Tryd.prog W .any base 52 v2) (t2 : Tr Tryd.prog W 52 v2.cells.toList) (ω : Om) :
    Cal Tryd.prog ω 4 #[v0, v1, v2] (fun v I' _ => v = .bool true ∧ Ext (heapI W) I') (heapI W) [] := by
  obtain ⟨ss, h1, h2, h3⟩ := tr_steps13 (top_slice Tryd.underlying50 o0 t0)
  obtain ⟨ss', h1', h2', h3'⟩ := tr_steps13 (top_slice Tryd.underlying50 o1 t1)
  obtain ⟨cs, rfl, t⟩ := top_struct Tryd.underlying52 o2 t2
  obtain ⟨x, hb, hx⟩ := TStep_open t
  exact stays_law h1 h1' (by omega) (by omega) hx (fun I' _ hI => ⟨rfl, hI⟩)
end Go.Proofs.YtmnnnoinfhiilaaDoor
