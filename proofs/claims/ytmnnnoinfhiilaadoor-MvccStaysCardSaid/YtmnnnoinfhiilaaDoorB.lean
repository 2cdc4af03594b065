/-
  Slices of strings: looked through, copied, one put in, one taken out.
-/
-- S3
import Derived.Test.YtmnnnoinfhiilaaDoorA
import Derived.Lib.Overlaps
set_option linter.unusedSimpArgs false
set_option linter.unusedVariables false
namespace Go.Proofs.YtmnnnoinfhiilaaDoor
open Go.SL
set_option maxRecDepth 10000
section
variable {ω : Om} {I : Imm} {L : LH} {K : Value → M}
abbrev Strs (I : Imm) (L : LH) (v : Value) (l : List (List UInt8)) : Prop := RL StrV 1 I L v l
abbrev sstr (a : List UInt8) : Value := .string ⟨a.toArray⟩
def SrtK (l : List (List UInt8)) : Prop := l.Pairwise fun a b => blt a b = true
theorem SrtK.get {l : List (List UInt8)} (h : SrtK l) {p q : Nat} (h1 : p < q) (h2 : q < l.length) : blt (geti l (p : Int)) (geti l (q : Int)) = true := by
  rw [geti_nat (by omega), geti_nat h2]
  exact List.pairwise_iff_getElem.1 h p q (by omega) h2 h1
/-! ### Owned slices of strings -/
def strs (l : List (List UInt8)) : List Value := l.map sstr
theorem strs_recs : ∀ (l : List (List UInt8)), Recs (StrV I) 1 l (strs l)
  | [] => rfl
  | x :: l => ⟨rfl, rfl, strs_recs l⟩
abbrev StrO (X : LH) (v : Value) (l : List (List UInt8)) : Prop := SlO 9 1 X v (strs l) l.length
theorem StrO.rl {X L : LH} {v : Value} {l : List (List UInt8)} (h : StrO X v l) (hX : ∀ x ∈ X, x ∈ L) : Strs I L v l := by
  have hn := h.news (I := I) hX
  obtain ⟨_, hh⟩ := h
  rcases hh with ⟨_, h0, a, rfl⟩ | ⟨b, cap, cs, _, rfl, _, hle, _⟩
  · refine ⟨a, 0, _, ?_, by omega, hn, strs_recs l⟩
    rw [h0]
  · exact ⟨_, cap, _, rfl, hle, hn, strs_recs l⟩
end
end Go.Proofs.YtmnnnoinfhiilaaDoor
