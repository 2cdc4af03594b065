/-
  Lists of lists, strings: as cells, and how they come in.
-/
import Derived.Test.YtmnnnoinfhiilaaDoorSlList
import Derived.Test.YtmnnnoinfhiilaaDoorSlOpen
set_option linter.unusedSimpArgs false
set_option linter.unusedVariables false
set_option linter.unusedSectionVars false
namespace Go.SL
def str (l : List UInt8) : Value := .string ⟨l.toArray⟩
def StrV (_ : Imm) (x : List UInt8) (c : List Value) : Prop := c = [.string ⟨x.toArray⟩]
def BysV (I : Imm) (x : List UInt8) (c : List Value) : Prop := ∃ v, c = [v] ∧ Bytes I v x
def IntsV (I : Imm) (x : List Int) (c : List Value) : Prop := ∃ v, c = [v] ∧ Ints I v x
def IntV (k : IntKind) (_ : Imm) (x : Int) (c : List Value) : Prop := c = [.int k x]
def BoolV (_ : Imm) (x : Bool) (c : List Value) : Prop := c = [.bool x]
theorem StrV.mono {I I' : Imm} {x : List UInt8} {c : List Value} (h : StrV I x c) (hI : Ext I I') : StrV I' x c := h
theorem IntV.mono {k : IntKind} {I I' : Imm} {x : Int} {c : List Value} (h : IntV k I x c) (hI : Ext I I') : IntV k I' x c := h
theorem BoolV.mono {I I' : Imm} {x : Bool} {c : List Value} (h : BoolV I x c) (hI : Ext I I') : BoolV I' x c := h
theorem BysV.mono {I I' : Imm} {x : List UInt8} {c : List Value} (h : BysV I x c) (hI : Ext I I') : BysV I' x c := by
  obtain ⟨v, hc, h⟩ := h; exact ⟨v, hc, h.mono hI⟩
theorem IntsV.mono {I I' : Imm} {x : List Int} {c : List Value} (h : IntsV I x c) (hI : Ext I I') : IntsV I' x c := by
  obtain ⟨v, hc, h⟩ := h; exact ⟨v, hc, h.mono hI⟩
theorem StrV.one {I : Imm} {x : List UInt8} {c : List Value} (h : StrV I x c) : ∀ u ∈ c, u.oneCell' = true := by
  rw [show c = _ from h]; exact one_all rfl
theorem BysV.one {I : Imm} {x : List UInt8} {c : List Value} (h : BysV I x c) : ∀ u ∈ c, u.oneCell' = true := by
  obtain ⟨v, rfl, h⟩ := h
  obtain ⟨_, _, rfl⟩ := Bytes.form h
  exact one_all rfl
theorem IntsV.one {I : Imm} {x : List Int} {c : List Value} (h : IntsV I x c) : ∀ u ∈ c, u.oneCell' = true := by
  obtain ⟨v, rfl, h⟩ := h
  obtain ⟨_, _, rfl⟩ := Ints.form h
  exact one_all rfl
theorem StrV.len {I : Imm} {x : List UInt8} {c : List Value} (h : StrV I x c) : c.length = 1 := by rw [show c = _ from h]; rfl
theorem BysV.len {I : Imm} {x : List UInt8} {c : List Value} (h : BysV I x c) : c.length = 1 := by
  obtain ⟨v, rfl, h⟩ := h; rfl
theorem IntsV.len {I : Imm} {x : List Int} {c : List Value} (h : IntsV I x c) : c.length = 1 := by
  obtain ⟨v, rfl, h⟩ := h; rfl
theorem Ints.len {I : Imm} {v : Value} {l : List Int} (h : Ints I v l) : lenV v = some (.int .i64 l.length) := by
  obtain ⟨_, a, c, rfl, _⟩ := h
  rfl
theorem Bytes.len {I : Imm} {v : Value} {l : List UInt8} (h : Bytes I v l) : lenV v = some (.int .i64 l.length) := by
  obtain ⟨_, a, c, rfl, _⟩ := h
  rfl
theorem recs_all {α : Type} {R : α → List Value → Prop} {B : α → Prop} {n : Nat} (hB : ∀ x c, R x c → B x) : ∀ {xs : List α} {cells : List Value}, Recs R n xs cells → ∀ x ∈ xs, B x
  | [], _, _, x, hx => by cases hx
  | y :: ys, _, ⟨_, h2, h3⟩, x, hx => by
    rcases List.mem_cons.1 hx with rfl | hx
    · exact hB _ _ h2
    · exact recs_all hB h3 x hx
section
variable {rz : Nat} {P : Program} {W : World} {T : TypeId}
theorem tr_field {cs : List Value} {fs : Array Field} {f : Field} (i : Nat) {n : Nat} (hu : P.underlying T = some (.struct fs)) (h : TrR rz P W T cs) (hi : fs.toList[i]? = some f) (hc : P.cellsOf f.type = n) :
    TrR rz P W f.type ((cs.drop f.offset).take n) := by
  have := (tr_struct hu h).2 f (List.mem_of_getElem? hi)
  rwa [hc] at this
theorem tr_one {cs : List Value} (hc : P.cellsOf T = 1) {e : TypeId} (hu : P.underlying T = some (.slice e)) (h : TrR rz P W T cs) : ∃ v, cs = [v] := by
  obtain ⟨a, len, cap, rfl, _⟩ := tr_slice hu h
  exact ⟨_, rfl⟩
end
end Go.SL
