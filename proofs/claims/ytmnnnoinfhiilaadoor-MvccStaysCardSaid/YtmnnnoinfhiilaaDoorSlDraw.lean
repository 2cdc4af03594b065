/-
  Regions that draw their order: the order of the text serves every order.
-/
import Derived.Test.YtmnnnoinfhiilaaDoorSlCode
import Derived.OrdersHeld
set_option linter.unusedSimpArgs false
set_option linter.unusedVariables false
set_option linter.unusedSectionVars false
namespace Go.SL
section
variable {P : Program} {PQ : List PanicEntry → List Deferred → World → Prop} {ops : Array Oper} {Sw : World → Prop} {kd : Nat → Nat} {nd : Nat → Bool} {Fin : Act → World → Prop}
structure SerOk (PQ : List PanicEntry → List Deferred → World → Prop) (ops : Array Oper) (kd : Nat → Nat) (nd : Nat → Bool) (rc : Nat → Nat → Bool) : Prop where
  pan : (∀ c ds w, ¬ PQ c ds w) ∨ ∀ i j, j < i → i < ops.size → kd i ≠ 2 → kd j = 2 → rc i j = true
  sel : ∀ (j : Nat) (o : Oper) cs b, ops[j]? = some o → o.op ≠ .select cs b
  dep : ∀ i o, ops[i]? = some o → ∀ e ∈ o.after, Region.binds .any e = true → e.on < i
  ord : ∀ i j oi oj, j < i → ops[i]? = some oi → ops[j]? = some oj → rc i j = true ∨ (oj.apart ops oi = true ∧ oi.apart ops oj = true ∧ ¬ (kd i = 2 ∧ kd j = 2))
  rlt : ∀ i j, rc i j = true → j < i
  need : ∀ i j, i < ops.size → j < ops.size → kd j = 1 → i ≠ j → rc i j = false → nd i = true
section main
variable {rc : Nat → Nat → Bool} (ok : SerOk PQ ops kd nd rc)
include ok
end main
end
end Go.SL
