/-
  Operations, regions: in a function's frame or in a round's.
-/
import Derived.Test.YtmnnnoinfhiilaaDoorSlOps2
import Derived.OrdersIn
set_option linter.unusedSimpArgs false
set_option linter.unusedVariables false
set_option linter.unusedSectionVars false
namespace Go.SL
def Fr (r : Option Nat) : Fence := { Fence.wide with round := r }
section
variable {P : Program}
def uponR (P : Program) (o : Oper) (a : Act) (next : Act → World → Prop) (Q : Exit → Act → World → Prop) : Result Next → Prop
  | .ok (.value v) w' => next (a.put o.dst v) w'
  | .ok .skip w' => next (a.put o.dst undef) w'
  | .ok (.defer d) w' => next ({ a with defers := d :: a.defers }.put o.dst undef) w'
  | .ok (.enter f args) w' => Calls P f args w' fun
      | .returned v, w'' => next (a.put o.dst v) w''
      | .panicked chain, w'' => Q (.panic chain) a w''
      | .outgrown, _ => LetsOut Q
  | .ok (.row row args) w' => Rows P row args w' fun v w'' => next (a.put o.dst v) w''
  | .ok (.round l f tmps assign body) w' => RoundIn Fence.wide 0 P l f tmps assign body w' fun
      | .returned v, w'' => next (a.put o.dst v) w''
      | .panicked chain, w'' => Q (.panic chain) a w''
      | .outgrown, _ => LetsOut Q
  | .halt (.panic v) w' => Q (.panic [{ v, recovered := false }]) a w'
  | _ => False
def wpR (P : Program) (o : Oper) (a : Act) (w : World) (next : Act → World → Prop) (Q : Exit → Act → World → Prop) : Prop := uponR P o a next Q ((execOp a.eval o).run P w)
def wpOpR (P : Program) (ops : Array Oper) (Q : Exit → Act → World → Prop) (i : Nat) (K : Act → World → Prop) (a : Act) (w : World) : Prop :=
  match ops[i]? with
  | none => K a w
  | some o => if Region.wanted o (yielded ops a.tmps) then wpR P o a w K Q else K (a.put o.dst undef) w
def wpOpsR (P : Program) (ops : Array Oper) (Q : Exit → Act → World → Prop) : List Nat → Act → World → Prop
  | [], a, w => Q .normal a w
  | i :: rest, a, w => wpOpR P ops Q i (wpOpsR P ops Q rest) a w
def wpAnyR (P : Program) (ops : Array Oper) (Q : Exit → Act → World → Prop) : Nat → Array Bool → Act → World → Prop
  | 0, listed, a, w => Region.ready .any ops listed = [] ∧ Q .normal a w
  | fuel + 1, listed, a, w =>
    (Region.ready .any ops listed = [] → Q .normal a w) ∧
    ∀ i ∈ Region.ready .any ops listed, wpOpR P ops Q i (wpAnyR P ops Q fuel (listed.setIfInBounds i true)) a w
def okD (r : Option Nat) (o : Oper) : Prop := r = none ∨ ∀ c, o.op ≠ .defer c
variable {r : Option Nat} {n : Nat} {ops : Array Oper} {Q : Exit → Act → World → Prop}
theorem uponR_mono {o : Oper} {a : Act} {K K' : Act → World → Prop} {res : Result Next} (h : ∀ a w, K a w → K' a w) (hh : uponR P o a K Q res) : uponR P o a K' Q res := by
  cases res with
  | ok x w' =>
    cases x <;> simp only [uponR] at hh ⊢ <;>
      first
        | exact h _ _ hh
        | exact Calls.mono hh (fun e w'' he => by cases e <;> first | exact h _ _ he | exact he)
        | exact Rows.mono hh (fun _ _ he => h _ _ he)
        | exact RoundIn.mono hh (fun e w'' he => by cases e <;> first | exact h _ _ he | exact he)
  | halt x w' => cases x <;> simp only [uponR] at hh ⊢ <;> exact hh
theorem wpOpR_mono {i : Nat} {a : Act} {w : World} {K K' : Act → World → Prop} (h : ∀ a w, K a w → K' a w) (hh : wpOpR P ops Q i K a w) : wpOpR P ops Q i K' a w := by
  unfold wpOpR at *
  split
  · exact h _ _ (by simpa [*] using hh)
  · rename_i o ho
    simp only [ho] at hh
    split
    · rename_i hw; simp only [hw, if_true] at hh; exact uponR_mono h hh
    · rename_i hw; simp only [hw] at hh; exact h _ _ hh
theorem wpR_in {o : Oper} {a : Act} {w : World} {K : Act → World → Prop} (hd : okD r o) (h : wpR P o a w K Q) : o.wpIn (Fr r) n P a w K Q := by
  unfold Oper.wpIn
  refine ⟨fun _ _ => trivial, ?_⟩
  have hsem : o.semAt (Fr r).round a.eval = execOp a.eval o := by
    rcases hd with rfl | hd
    · rfl
    · exact Oper.semAt_eq _ _ _ hd
  rw [hsem]
  unfold wpR at h
  have hdep : (Fr r).depth.isSome = true → 1 ≤ n := fun h => by simp [Fr, Fence.wide] at h
  generalize (execOp a.eval o).run P w = res at *
  cases res with
  | ok x w' =>
    cases x <;> simp only [uponR, Oper.uponIn] at h ⊢
    case value v => exact h
    case skip => exact h
    case defer d => exact h
    case enter f args => exact ⟨hdep, (callsIn_wide (n := n - 1)).2 h⟩
    case row row args => exact ⟨hdep, fun c cs _ => let ⟨v, w', q, s⟩ := h c cs; ⟨v, w', q, stepsIn_wide.2 s⟩⟩
    case round l f tmps assign body => exact ⟨hdep, ⟨trivial, fun c cs _ => h.2 c cs (room_wide _)⟩⟩
  | halt x w' => cases x <;> simp only [uponR, Oper.uponIn] at h ⊢ <;> exact h
theorem wpOpR_in {i : Nat} {a : Act} {w : World} {K K' : Act → World → Prop} (hd : ∀ o ∈ ops, okD r o) (hK : ∀ a w, K a w → K' a w) (h : wpOpR P ops Q i K a w) : wpOpIn (Fr r) n P ops Q i K' a w := by
  have h := wpOpR_mono hK h
  unfold wpOpR at h
  unfold wpOpIn
  split
  · simpa [*] using h
  · rename_i o ho
    simp only [ho] at h
    split
    · rename_i hw; simp only [hw, if_true] at h; exact wpR_in (hd o (Array.mem_of_getElem? ho)) h
    · rename_i hw; simp only [hw] at h; exact ⟨fun _ _ => trivial, h⟩
theorem wpOpsR_in (hd : ∀ o ∈ ops, okD r o) : ∀ (l : List Nat) (a : Act) (w : World), wpOpsR P ops Q l a w → wpOpsIn (Fr r) n P ops Q l a w
  | [], a, w, h => h
  | i :: l, a, w, h => by
    rw [wpOpsIn_cons]
    exact wpOpR_in hd (fun a w h => wpOpsR_in hd l a w h) h
theorem wpAnyR_in (hd : ∀ o ∈ ops, okD r o) : ∀ (f : Nat) (listed : Array Bool) (a : Act) (w : World), wpAnyR P ops Q f listed a w → wpAnyIn (Fr r) n P .any ops Q f listed a w
  | 0, listed, a, w, h => h
  | f + 1, listed, a, w, h => ⟨h.1, fun i hi => wpOpR_in hd (fun a w h => wpAnyR_in hd f _ a w h) (h.2 i hi)⟩
theorem region_ops {id : Nat} {a : Act} {w : World} (hd : ∀ o ∈ ops, okD r o) (h : wpOpsR P ops Q (List.range ops.size) a w) : (Code.region id ops false).wpIn (Fr r) n P Q a w :=
  wpIn_region (wpOpsR_in hd _ a w h)
theorem region_any {id : Nat} {a : Act} {w : World} (hm : P.follows .mixedOrders = true) (hd : ∀ o ∈ ops, okD r o) (h : wpAnyR P ops Q ops.size (Array.replicate ops.size false) a { w with drawn := w.drawn + 1 }) :
    (Code.region id ops true).wpIn (Fr r) n P Q a w :=
  wpIn_region_any hm (wpAnyR_in hd _ _ _ _ h)
def Qp (PQ : List PanicEntry → List Deferred → World → Prop) : Exit → Act → World → Prop
  | .panic c, a, w => PQ c a.defers w
  | _, _, _ => False
variable {PQ : List PanicEntry → List Deferred → World → Prop}
theorem qp_put {c : List PanicEntry} {a : Act} {d : Option Tmp} {v : Value} {w : World} : Qp PQ (.panic c) (a.put d v) w ↔ Qp PQ (.panic c) a w := by
  cases d <;> exact Iff.rfl
theorem qp_out : ¬ LetsOut (Qp PQ) := fun ⟨_, _, h⟩ => h
theorem wpOpR_Q {i : Nat} {K : Act → World → Prop} {a : Act} {w : World} (hQ : ∀ c a w, PQ c a.defers w → Q (.panic c) a w) (h : wpOpR P ops (Qp PQ) i K a w) : wpOpR P ops Q i K a w := by
  unfold wpOpR at *
  split
  · simpa [*] using h
  · rename_i o ho
    simp only [ho] at h
    split
    · rename_i hw
      simp only [hw, if_true] at h
      unfold wpR at *
      generalize (execOp a.eval o).run P w = res at *
      cases res with
      | ok x w' =>
        cases x <;> simp only [uponR] at h ⊢ <;> first
          | exact h
          | exact Calls.mono h (fun e w'' he => by cases e <;> first | exact he | exact hQ _ _ _ he | exact (qp_out he).elim)
          | exact RoundIn.mono h (fun e w'' he => by cases e <;> first | exact he | exact hQ _ _ _ he | exact (qp_out he).elim)
      | halt x w' => cases x <;> simp only [uponR] at h ⊢ <;> exact hQ _ _ _ h
    · rename_i hw; simp only [hw] at h; exact h
end
end Go.SL
