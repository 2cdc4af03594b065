/-
  Lists of lists, strings: as cells, and how they come in.
-/
import Derived.Test.YtmnnnoinfhiilaaDoorSlList
import Derived.Test.YtmnnnoinfhiilaaDoorSlOpen
set_option linter.unusedSimpArgs false
set_option linter.unusedVariables false
set_option linter.unusedSectionVars false
namespace Go.SL

def inI64 (n : Int) : Prop := -9223372036854775808 ≤ n ∧ n ≤ 9223372036854775807
def str (l : List UInt8) : Value := .string ⟨l.toArray⟩
def StrV (_ : Imm) (x : List UInt8) (c : List Value) : Prop := c = [.string ⟨x.toArray⟩]
def BysV (I : Imm) (x : List UInt8) (c : List Value) : Prop := ∃ v, c = [v] ∧ Bytes I v x
def IntsV (I : Imm) (x : List Int) (c : List Value) : Prop := ∃ v, c = [v] ∧ Ints I v x
def IntV (k : IntKind) (_ : Imm) (x : Int) (c : List Value) : Prop := c = [.int k x]
def BoolV (_ : Imm) (x : Bool) (c : List Value) : Prop := c = [.bool x]
def LstV {α : Type} (R : Imm → α → List Value → Prop) (n : Nat) (I : Imm) (xs : List α) (c : List Value) : Prop := ∃ v, c = [v] ∧ RL R n I [] v xs

theorem StrV.mono {I I' : Imm} {x : List UInt8} {c : List Value} (h : StrV I x c) (hI : Ext I I') : StrV I' x c := h
theorem IntV.mono {k : IntKind} {I I' : Imm} {x : Int} {c : List Value} (h : IntV k I x c) (hI : Ext I I') : IntV k I' x c := h
theorem BoolV.mono {I I' : Imm} {x : Bool} {c : List Value} (h : BoolV I x c) (hI : Ext I I') : BoolV I' x c := h
theorem BysV.mono {I I' : Imm} {x : List UInt8} {c : List Value} (h : BysV I x c) (hI : Ext I I') : BysV I' x c := by
  obtain ⟨v, hc, h⟩ := h; exact ⟨v, hc, h.mono hI⟩
theorem IntsV.mono {I I' : Imm} {x : List Int} {c : List Value} (h : IntsV I x c) (hI : Ext I I') : IntsV I' x c := by
  obtain ⟨v, hc, h⟩ := h; exact ⟨v, hc, h.mono hI⟩
theorem StrV.one {I : Imm} {x : List UInt8} {c : List Value} (h : StrV I x c) : ∀ u ∈ c, u.oneCell' = true := by
  rw [show c = _ from h]; exact one_all rfl
theorem BysV.one {I : Imm} {x : List UInt8} {c : List Value} (h : BysV I x c) : ∀ u ∈ c, u.oneCell' = true := by
  obtain ⟨v, rfl, h⟩ := h
  obtain ⟨_, _, rfl⟩ := Bytes.form h
  exact one_all rfl
theorem IntsV.one {I : Imm} {x : List Int} {c : List Value} (h : IntsV I x c) : ∀ u ∈ c, u.oneCell' = true := by
  obtain ⟨v, rfl, h⟩ := h
  obtain ⟨_, _, rfl⟩ := Ints.form h
  exact one_all rfl
theorem StrV.len {I : Imm} {x : List UInt8} {c : List Value} (h : StrV I x c) : c.length = 1 := by rw [show c = _ from h]; rfl
theorem BysV.len {I : Imm} {x : List UInt8} {c : List Value} (h : BysV I x c) : c.length = 1 := by
  obtain ⟨v, rfl, h⟩ := h; rfl
theorem IntsV.len {I : Imm} {x : List Int} {c : List Value} (h : IntsV I x c) : c.length = 1 := by
  obtain ⟨v, rfl, h⟩ := h; rfl

theorem Ints.len {I : Imm} {v : Value} {l : List Int} (h : Ints I v l) : lenV v = some (.int .i64 l.length) := by
  obtain ⟨_, a, c, rfl, _⟩ := h
  rfl
theorem Bytes.len {I : Imm} {v : Value} {l : List UInt8} (h : Bytes I v l) : lenV v = some (.int .i64 l.length) := by
  obtain ⟨_, a, c, rfl, _⟩ := h
  rfl

theorem recs_all {α : Type} {R : α → List Value → Prop} {B : α → Prop} {n : Nat} (hB : ∀ x c, R x c → B x) : ∀ {xs : List α} {cells : List Value}, Recs R n xs cells → ∀ x ∈ xs, B x
  | [], _, _, x, hx => by cases hx
  | y :: ys, _, ⟨_, h2, h3⟩, x, hx => by
    rcases List.mem_cons.1 hx with rfl | hx
    · exact hB _ _ h2
    · exact recs_all hB h3 x hx

section
variable {rz : Nat} {P : Program} {W : World} {T : TypeId}
theorem tr_field {cs : List Value} {fs : Array Field} {f : Field} (i : Nat) {n : Nat} (hu : P.underlying T = some (.struct fs)) (h : TrR rz P W T cs) (hi : fs.toList[i]? = some f) (hc : P.cellsOf f.type = n) :
    TrR rz P W f.type ((cs.drop f.offset).take n) := by
  have := (tr_struct hu h).2 f (List.mem_of_getElem? hi)
  rwa [hc] at this
theorem tr_str {cs : List Value} (hu : P.underlying T = some .string) (h : TrR rz P W T cs) : ∃ s : List UInt8, cs = [.string ⟨s.toArray⟩] ∧ s.length ≤ rz := by
  obtain ⟨s, hs, hb⟩ := tr_string hu h
  refine ⟨s.data.toList, by rw [hs], ?_⟩
  rw [Array.length_toList]; exact hb
theorem tr_list {α : Type} {V : Imm → α → List Value → Prop} {B : α → Prop} {e n bt : Nat} (hu : P.underlying T = some (.slice e)) (hn : P.cellsOf e = n) (hn0 : 0 < n) (hb : P.bytesOf e = bt) {v : Value} (h : TrR rz P W T [v]) (hR : ∀ c, TrR rz P W e c → ∃ x, B x ∧ V (heapI W) x c) :
    ∃ xs : List α, xs.length * bt ≤ rz ∧ (∀ y ∈ xs, B y) ∧ RL V n (heapI W) [] v xs := by
  subst hn hb
  obtain ⟨cells, xs, hS, hRR, hlen⟩ := tr_recs (R := fun x c => B x ∧ V (heapI W) x c) hu hn0 h hR
  exact ⟨xs, hlen, recs_all (fun _ _ h => h.1) hRR, RL.ofI hS (hRR.imp fun _ _ h => h.2)⟩
theorem tr_one {cs : List Value} (hc : P.cellsOf T = 1) {e : TypeId} (hu : P.underlying T = some (.slice e)) (h : TrR rz P W T cs) : ∃ v, cs = [v] := by
  obtain ⟨a, len, cap, rfl, _⟩ := tr_slice hu h
  exact ⟨_, rfl⟩
theorem bys_open {cs : List Value} {e : TypeId} (hu : P.underlying T = some (.slice e)) (he : P.underlying e = some (.int .u8)) (hc : P.cellsOf T = 1) (hn : P.cellsOf e = 1) (hb : P.bytesOf e = 1) (h : TrR rz P W T cs) :
    ∃ x : List UInt8, x.length ≤ rz ∧ BysV (heapI W) x cs := by
  obtain ⟨v, rfl⟩ := tr_one hc hu h
  obtain ⟨l, h1, h2⟩ := tr_bytes hu he hn hb h
  exact ⟨l, h2, v, rfl, h1⟩
theorem lst_open {α : Type} {V : Imm → α → List Value → Prop} {B : α → Prop} {cs : List Value} {e n bt : Nat} (hu : P.underlying T = some (.slice e)) (hc : P.cellsOf T = 1) (hn : P.cellsOf e = n) (hn0 : 0 < n) (hb : P.bytesOf e = bt) (h : TrR rz P W T cs) (hR : ∀ c, TrR rz P W e c → ∃ x, B x ∧ V (heapI W) x c) :
    ∃ xs : List α, (xs.length * bt ≤ rz ∧ ∀ y ∈ xs, B y) ∧ LstV V n (heapI W) xs cs := by
  obtain ⟨v, rfl⟩ := tr_one hc hu h
  obtain ⟨l, h1, h2, h3⟩ := tr_list hu hn hn0 hb h hR
  exact ⟨l, ⟨h1, h2⟩, v, rfl, h3⟩
end
end Go.SL
