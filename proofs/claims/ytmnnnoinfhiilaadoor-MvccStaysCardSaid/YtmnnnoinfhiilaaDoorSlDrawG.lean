/-
  Regions that draw their order, with operations that change memory and have no order among them.
-/
import Derived.Test.YtmnnnoinfhiilaaDoorSlDraw
set_option linter.unusedSimpArgs false
set_option linter.unusedVariables false
set_option linter.unusedSectionVars false
namespace Go.SL
section
variable {P : Program} {PQ : List PanicEntry → List Deferred → World → Prop} {ops : Array Oper} {Sw : World → Prop} {kd : Nat → Nat} {nd : Nat → Bool} {rc : Nat → Nat → Bool} {Fin : Act → World → Prop}
structure SerGOk (ops : Array Oper) (kd : Nat → Nat) (nd : Nat → Bool) (rc : Nat → Nat → Bool) : Prop where
  sel : ∀ (j : Nat) (o : Oper) cs b, ops[j]? = some o → o.op ≠ .select cs b
  dep : ∀ i o, ops[i]? = some o → ∀ e ∈ o.after, Region.binds .any e = true → e.on < i
  ord : ∀ i j oi oj, j < i → ops[i]? = some oi → ops[j]? = some oj → rc i j = true ∨ (oj.apart ops oi = true ∧ oi.apart ops oj = true)
  need : ∀ i j, i < ops.size → j < ops.size → kd j = 1 → i ≠ j → rc i j = false → nd i = true
section main
variable (ok : SerGOk ops kd nd rc)
include ok
theorem SerGOk.apart {i j : Nat} {oi oj : Oper} (hi : ops[i]? = some oi) (hj : ops[j]? = some oj) (hne : i ≠ j) (h1 : rc i j = false) (h2 : rc j i = false) : oi.apart ops oj = true ∧ oj.apart ops oi = true := by
  rcases Nat.lt_or_gt_of_ne hne with h | h
  · have := (ok.ord j i oj oi h hj hi).resolve_left (by simp [h2])
    exact this
  · have := (ok.ord i j oi oj h hi hj).resolve_left (by simp [h1])
    exact ⟨this.2, this.1⟩
end main
end
end Go.SL
