/-
  What came in: the reading of an argument, in the words of the logic. A law's frame.
-/
import Derived.Test.YtmnnnoinfhiilaaDoorSlData
import GoSem.ClaimJoined
import Derived.Below
import Derived.WideShapes
set_option linter.unusedSimpArgs false
set_option linter.unusedVariables false
set_option linter.unusedSectionVars false
namespace Go.SL
def heapI (w : World) : Imm := fun b => w.heap[b]?
def omOf (w : World) : Om := ⟨w.tape, w.os, w.output⟩
theorem st_start (w : World) : St (omOf w) w (heapI w) [] := ⟨fun _ _ h => h, fun _ _ h => (List.not_mem_nil h).elim, List.nodup_nil, fun _ _ h => (List.not_mem_nil h).elim, rfl, rfl, rfl⟩
theorem law_below {P : Program} {f : FuncId} {args : Array Value} {w : World} (h : ∀ ω, Cal P ω f args (fun v I' _ => v = .bool true ∧ Ext (heapI w) I') (heapI w) []) :
    Calls P f args w fun e w' => e = .returned (.bool true) ∧ RowKit.Below w.heap.size w w' := by
  refine (h (omOf w) w (st_start w)).mono ?_
  rintro e w' ⟨v, I', L', rfl, hs, rfl, hI⟩
  have hblk : ∀ k, k < w.heap.size → w'.heap[k]? = w.heap[k]? := by
    intro k hk
    have h1 : heapI w k = some w.heap[k] := Array.getElem?_eq_getElem hk
    rw [hs.imm k _ (hI k _ h1)]
    exact h1.symm
  refine ⟨rfl, hs.os, hs.tape, hs.out, ?_, hblk⟩
  rcases Nat.eq_zero_or_pos w.heap.size with h0 | h0
  · omega
  · have := hblk (w.heap.size - 1) (by omega)
    rw [Array.getElem?_eq_getElem (by omega : w.heap.size - 1 < w.heap.size)] at this
    have := (Array.getElem?_eq_some_iff.1 this).1
    omega
def TrR (rz : Nat) (P : Program) (w : World) (T : TypeId) (cs : List Value) : Prop :=
  ∃ (H : Type) (enc : TypeId × Value → H) (fuel : Nat) (d : DataW H) (ps : List MemPlace), DataW.trod enc P w 0 (fun _ => true) true fuel T cs = some (d, ps) ∧ (d.weights P T).all (· ≤ rz) = true
section
variable {rz : Nat} {P : Program} {w : World} {T : TypeId} {cs : List Value}
/-! ### An argument -/
variable {r : Reach} {base : Nat} {v : Value}
end
end Go.SL
