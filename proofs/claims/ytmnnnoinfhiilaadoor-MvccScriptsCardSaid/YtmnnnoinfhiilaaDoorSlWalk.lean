/-
  A few more rules for walks.
-/
import Derived.Test.YtmnnnoinfhiilaaDoorSlData
set_option linter.unusedSimpArgs false
set_option linter.unusedVariables false
namespace Go.SL
section
variable {I : Imm} {L : LH} {K : Value → M}
theorem unfE {A B : M} (e : A = B) (h : B I L) : A I L := e ▸ h
theorem leafB {b b' : Bool} (h : K (.bool b) I L) (e : b = b') : K (.bool b') I L := e ▸ h
theorem zall_false {α : Type} {p : α × Nat → Bool} {l : List α} {j : Nat} (hj : j < l.length) (h : p (l[j], j) = false) : l.zipIdx.all p = false := by
  rw [List.all_eq_false]
  refine ⟨(l[j], j), ?_, by simp [h]⟩
  rw [List.mem_iff_getElem?]
  exact ⟨j, by simp [hj]⟩
theorem zall_true {α : Type} {p : α × Nat → Bool} {l : List α} (h : ∀ j (hj : j < l.length), p (l[j], j) = true) : l.zipIdx.all p = true := by
  rw [List.all_eq_true]
  intro x hx
  obtain ⟨a, j⟩ := x
  obtain ⟨hj, _, he⟩ := List.mem_zipIdx hx
  simp only [Nat.zero_add, Nat.sub_zero] at *
  rw [he]
  exact h j (by omega)
end
end Go.SL
