/-
  Regions in the order of the text.
-/
import Derived.Test.YtmnnnoinfhiilaaDoorSlRun
set_option linter.unusedSimpArgs false
set_option linter.unusedVariables false
set_option linter.unusedSectionVars false
namespace Go.SL
section
variable {P : Program} {ω : Om} {n : Nat}
def yb (v : Value) (want : Bool) : Bool := match v with
  | .bool x => x == want
  | _ => false
def MdOk (n : Nat) (ops : Array Oper) (md : Md) (e : Env) : Prop :=
  ∀ f ∈ md, f.1 < n ∧ ∃ v, e.t f.1 = some v ∧ yb v f.2.1 = f.2.2
theorem MdOk.none (ops : Array Oper) (e : Env) : MdOk n ops [] e := fun _ h => by cases h
theorem MdOk.cons {ops : Array Oper} {md : Md} {e : Env} (h : MdOk n ops md e) {t : Tmp} {want b : Bool} {v : Value} (ht : t < n) (hv : e.t t = some v) (hb : yb v want = b) : MdOk n ops ((t, want, b) :: md) e := by
  intro f hf
  rcases List.mem_cons.1 hf with rfl | hf
  · exact ⟨ht, v, hv, hb⟩
  · exact h f hf
theorem Rep.known {n : Nat} {a : Act} {e : Env} (h : Rep n a e) {t : Tmp} {v : Value} (hv : e.t t = some v) : Rep n a (e.upd (some t) v) := by
  refine ⟨h.size, h.defers, fun t' v' ht' hv' => ?_⟩
  simp only [Env.upd] at hv'
  split at hv'
  · rename_i hb
    have := Nat.eq_of_beq_eq_true hb
    subst this
    simp only [Option.some.injEq] at hv'
    subst hv'
    exact h.at' t' _ ht' hv
  · exact h.at' t' v' ht' hv'
end
end Go.SL
