/-
  The conditions of a piece of code, as predicates on memory, by recursion on the code: pure operations by functions on values, reads by relations, what changes memory by predicate transformers.
-/
import Derived.Test.YtmnnnoinfhiilaaDoorSlCore
import Derived.Laws.Append
import Derived.Laws.Cells
import Derived.Laws.CopyRow
import Derived.Laws.Strings
import Derived.Laws.StructEq
import Derived.Laws.Externs
import Derived.RangeFuncLeaves
import Derived.RangeFuncRecord
set_option linter.unusedSimpArgs false
set_option linter.unusedVariables false
set_option linter.unusedSectionVars false
namespace Go.SL
/-! ### Pure operations: functions on values -/
def lenV : Value → Option Value
  | .slice _ n _ => some (.int .i64 n)
  | _ => none
def bndV (x : Option Value) (dflt y : Nat) : Option Nat := match x with
  | none => some dflt
  | some (.int _ i) => if 0 ≤ i ∧ i ≤ y then some i.toNat else none
  | some _ => none
def slcV (n : Nat) (x : Value) (lo hi mx : Option Value) : Option Value :=
  match x with
  | .slice a len cap =>
    if hi.isNone && mx.isSome then none else
    (bndV mx cap cap).bind fun m => (bndV hi len m).bind fun h => (bndV lo 0 h).bind fun l =>
      some (.slice (if m = l then a else a.map (·.add (l * n))) (h - l) (m - l))
  | _ => none
def ixV (n : Nat) (x i : Value) : Option Value :=
  match x, i with
  | .slice (some ⟨b, off, none⟩) len _, .int _ i => if 0 ≤ i ∧ i < len then some (.pointer (some ⟨b, off + i.toNat * n, none⟩)) else none
  | _, _ => none
/-! ### Reads -/
def Cell (I : Imm) (L : LH) (b off : Nat) (v : Value) : Prop := ∃ cs T fr, ((b, Obj.cells cs T fr) ∈ L ∨ I b = some (Obj.cells cs T fr)) ∧ cs[off]? = some v
def Cells (I : Imm) (L : LH) (b off : Nat) (vs : List Value) : Prop := ∀ j u, vs[j]? = some u → Cell I L b (off + j) u
def bsR (x : Value) (I : Imm) (L : LH) (v : Value) : Prop :=
  (∃ a cap, x = .slice a 0 cap ∧ v = .string .empty) ∨
  (∃ b off len cap, ∃ s : List UInt8, x = .slice (some ⟨b, off, none⟩) len cap ∧ s.length = len ∧ Cells I L b off (s.map fun c => .int .u8 c.toNat) ∧ v = .string ⟨s.toArray⟩)
/-! ### What changes memory -/
abbrev one (v : Value) : Bool := v.oneCell'
def News (n : Nat) (x : Value) (I : Imm) (L : LH) (m : Nat) (news : List Value) : Prop :=
  (∃ a cap, x = .slice a 0 cap ∧ m = 0 ∧ news = []) ∨
  (∃ b off cap, x = .slice (some ⟨b, off, none⟩) m cap ∧ news.length = m * n ∧ Cells I L b off news) ∨
  (∃ s : ByteArray, x = .string s ∧ n = 1 ∧ m = s.size ∧ news = s.data.toList.map fun b => .int .u8 b.toNat)
/-! ### Maps -/
def MapAt (I : Imm) (L : LH) (r : Nat) (es : Array MapEntry) (clock : Nat) : Prop := (r, Obj.map es clock) ∈ L ∨ I r = some (Obj.map es clock)
/-! ### Interfaces -/
section
variable (P : Program) (ω : Om)
def entersB (f : FuncId) : Bool := match P.funcs[f]? with
  | some fn => fn.name != "runtime.NumGoroutine" && fn.body.isSome
  | none => false
def extOf (f : FuncId) : Option (Array Value → Sem Value) := match P.funcs[f]? with
  | some fn => if fn.name == "runtime.NumGoroutine" || fn.body.isSome then none else match Extern.findNext fn with
    | some _ => none
    | none => Extern.find fn
  | none => none
def ExtE (e : Array Value → Sem Value) (args : Array Value) (K : Value → M) : M := fun I L => ∃ v, (∀ w, St ω w I L → (e args).run P w = .ok v w) ∧ K v I L
def YCal (l : Nat) (args : Array Value) (K : Value → M) : M := fun I L => ∀ w, St ω w I L → ∃ f tmps assign body, (Instr.yield l args).run P w = .ok (.round l f tmps assign body) w ∧ RoundIn Fence.wide 0 P l f tmps assign body w (Ret ω K)
def CalV (x : Value) (args : Array Value) (K : Value → M) : M := match x with
  | .func (.func f) first cap => if entersB P f then Cal P ω f (first ++ args ++ cap) K else match extOf P f with
    | some e => ExtE P ω e (first ++ args ++ cap) K
    | none => F
  | .func (.yield l) first cap => YCal P ω l (first ++ args) K
  | _ => F
/-! ### An operation -/
/-! ### A region -/
abbrev Pnf := Option (List Df → Value → M)
def pnAt (pn : Pnf) (e : Env) : Option (Value → M) := match pn with
  | none => none
  | some p => some (p e.df)
abbrev Md := List (Tmp × Bool × Bool)
/-! Operations that change memory and have no order among them: each of their orders is asked. -/
/-! ### Code -/
def memB (t : Nat) : List Nat → Bool
  | [] => false
  | x :: xs => Nat.beq t x || memB t xs
/-! A range over a function: the loop's record, its rounds -/
abbrev LoF := LoopState → Option Code → Obj
end
end Go.SL
