/-
  Append, copy, clear, composite slices; and the operation as a whole.
-/
import Derived.Test.YtmnnnoinfhiilaaDoorSlSound2
set_option linter.unusedSimpArgs false
set_option linter.unusedVariables false
set_option linter.unusedSectionVars false
namespace Go.SL
section
variable {P : Program} {ω : Om}
theorem News.len {n m : Nat} {x : Value} {I : Imm} {L : LH} {news : List Value} (h : News n x I L m news) : (w : World) → (Builtin.lenOf x).run P w = .ok m w := by
  intro w
  rcases h with ⟨a, cap, rfl, rfl, _⟩ | ⟨b, off, cap, rfl, _⟩ | ⟨s, rfl, _, rfl, _⟩ <;> simp [Builtin.lenOf]
theorem News.length {n m : Nat} {x : Value} {I : Imm} {L : LH} {news : List Value} (h : News n x I L m news) : news.length = m * n := by
  rcases h with ⟨a, cap, rfl, rfl, rfl⟩ | ⟨b, off, cap, rfl, hl, _⟩ | ⟨s, rfl, rfl, rfl, rfl⟩
  · simp
  · exact hl
  · simp
theorem Cells.take {I : Imm} {L : LH} {b off : Nat} {vs : List Value} (h : Cells I L b off vs) (k : Nat) : Cells I L b off (vs.take k) := by
  intro j u hu
  rw [List.getElem?_take] at hu
  split at hu
  · exact h j u hu
  · cases hu
theorem News.first {n m k : Nat} {x : Value} {I : Imm} {L : LH} {news : List Value} (h : News n x I L m news) (hk : k ≤ m) {w : World} (hs : St ω w I L) :
    (Builtin.firstCells n k x).run P w = .ok (news.take (k * n)).toArray w := by
  rcases h with ⟨a, cap, rfl, rfl, rfl⟩ | ⟨b, off, cap, rfl, hl, hc⟩ | ⟨s, rfl, rfl, rfl, rfl⟩
  · have hk0 : k = 0 := by omega
    subst hk0
    cases a <;> simp [Builtin.firstCells, loadCells, loadCellsFrom]
  · have := Cells.load (P := P) hs (hc.take (k * n))
    have hlen : (news.take (k * n)).length = k * n := by
      rw [List.length_take, hl]
      exact Nat.min_eq_left (Nat.mul_le_mul_right n hk)
    rw [hlen] at this
    simp only [Builtin.firstCells, this]
  · simp only [Builtin.firstCells, Sem.run_pure, Nat.mul_one]
    congr 1
    apply Array.ext'
    simp [ByteArray.data_extract]
theorem News.all {n m : Nat} {x : Value} {I : Imm} {L : LH} {news : List Value} (h : News n x I L m news) {w : World} (hs : St ω w I L) :
    (Builtin.firstCells n m x).run P w = .ok news.toArray w := by
  have := h.first (P := P) (Nat.le_refl m) hs
  rwa [List.take_of_length_le (by rw [h.length]; exact Nat.le_refl _)] at this
end
end Go.SL
