/-
  The conditions of a function's code suffice for its call.
-/
import Derived.Test.YtmnnnoinfhiilaaDoorSlDrawG
import Derived.Deep.LoopGhost
import Derived.RangeFuncRecord
set_option linter.unusedSimpArgs false
set_option linter.unusedVariables false
set_option linter.unusedSectionVars false
namespace Go.SL
section
variable {P : Program} {ω : Om} {n : Nat}
def PP (ω : Om) (pn : Pnf) (c : List PanicEntry) (ds : List Deferred) (w : World) : Prop := ∃ e v I L, ds = dfs e.df ∧ c = [{ v, recovered := false }] ∧ St ω w I L ∧ PnOf (pnAt pn e) v I L
theorem PP.none {c : List PanicEntry} {ds : List Deferred} {w : World} : ¬ PP ω none c ds w := fun ⟨_, _, _, _, _, _, _, h⟩ => h
/-! ### Code -/
structure Same (l : List Nat) (pl : Bool) (a a' : Act) : Prop where
  tm : ∀ t, memB t l = false → a'.tmps.getD t undef = a.tmps.getD t undef
  df : pl = true → a'.defers = a.defers
theorem memB_mem {t : Nat} : ∀ {l : List Nat}, memB t l = true ↔ t ∈ l
  | [] => by simp [memB]
  | x :: xs => by
    simp only [memB, Bool.or_eq_true, List.mem_cons, memB_mem (l := xs)]
    constructor
    · rintro (h | h)
      · exact .inl (Nat.eq_of_beq_eq_true h)
      · exact .inr h
    · rintro (h | h)
      · subst h; exact .inl (Nat.beq_refl _)
      · exact .inr h
theorem Same.refl (l : List Nat) (pl : Bool) (a : Act) : Same l pl a a := ⟨fun _ _ => rfl, fun _ => rfl⟩
theorem memB_append {t : Nat} {l l' : List Nat} : memB t (l ++ l') = false → memB t l = false ∧ memB t l' = false := by
  intro h
  constructor
  · cases hb : memB t l with
    | false => rfl
    | true => rw [memB_mem.2 (List.mem_append_left _ (memB_mem.1 hb))] at h; cases h
  · cases hb : memB t l' with
    | false => rfl
    | true => rw [memB_mem.2 (List.mem_append_right _ (memB_mem.1 hb))] at h; cases h
theorem Same.trans {l : List Nat} {pl : Bool} {a b c : Act} (h : Same l pl a b) (h' : Same l pl b c) : Same l pl a c := ⟨fun t ht => (h'.tm t ht).trans (h.tm t ht), fun hp => (h'.df hp).trans (h.df hp)⟩
theorem Same.right {l l' : List Nat} {p p' : Bool} {a b : Act} (h : Same l' p' a b) : Same (l ++ l') (p && p') a b := ⟨fun t ht => h.tm t (memB_append ht).2, fun hp => h.df (by simp at hp; exact hp.2)⟩
theorem Same.any {l : List Nat} {p : Bool} {a b : Act} (h : Same l true a b) : Same l p a b := ⟨h.tm, fun _ => h.df rfl⟩
end
end Go.SL
