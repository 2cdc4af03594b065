/-
  Bytes and their order, strings as lists, parts of blocks.
-/
import Derived.Test.YtmnnnoinfhiilaaDoorSlEnc
set_option linter.unusedSimpArgs false
set_option linter.unusedVariables false
set_option linter.unusedSectionVars false
namespace Go.SL
/-! ### Strings as lists of bytes -/
abbrev blt : List UInt8 → List UInt8 → Bool := Op.bytesLess
section
variable (a b : List UInt8)
end
/-! ### The order of bytes -/
theorem blt_nil (a : List UInt8) : blt a [] = false := by cases a <;> rfl
theorem blt_irrefl : ∀ a : List UInt8, blt a a = false
  | [] => rfl
  | x :: a => by simp [Op.bytesLess, blt_irrefl a]
theorem blt_trans : ∀ {a b c : List UInt8}, blt a b = true → blt b c = true → blt a c = true
  | _, [], _, h, _ => by rw [blt_nil] at h; cases h
  | _, _ :: _, [], _, h => by simp [Op.bytesLess] at h
  | [], _ :: _, _ :: _, _, _ => rfl
  | x :: a, y :: b, z :: c, h1, h2 => by
    simp only [Op.bytesLess, Bool.or_eq_true, Bool.and_eq_true, decide_eq_true_eq, beq_iff_eq] at h1 h2 ⊢
    rcases h1 with h1 | ⟨rfl, h1⟩
    · rcases h2 with h2 | ⟨rfl, h2⟩
      · exact .inl (UInt8.lt_trans h1 h2)
      · exact .inl h1
    · rcases h2 with h2 | ⟨rfl, h2⟩
      · exact .inl h2
      · exact .inr ⟨rfl, blt_trans h1 h2⟩
theorem blt_total : ∀ (a b : List UInt8), blt a b = false → blt b a = false → a = b
  | [], [], _, _ => rfl
  | [], _ :: _, h, _ => by simp [Op.bytesLess] at h
  | _ :: _, [], _, h => by simp [Op.bytesLess] at h
  | x :: a, y :: b, h1, h2 => by
    simp only [Op.bytesLess, Bool.or_eq_false_iff, Bool.and_eq_false_iff, decide_eq_false_iff_not, beq_eq_false_iff_ne, ne_eq] at h1 h2
    have hxy : x = y := by
      rw [← UInt8.toNat_inj]
      have a1 := h1.1
      have a2 := h2.1
      rw [UInt8.lt_iff_toNat_lt] at a1 a2
      omega
    subst hxy
    rw [blt_total a b (h1.2.resolve_left (by simp)) (h2.2.resolve_left (by simp))]
theorem blt_asymm {a b : List UInt8} (h : blt a b = true) : blt b a = false := by
  cases hb : blt b a with
  | false => rfl
  | true => have := blt_trans h hb; rw [blt_irrefl] at this; cases this
/-! ### bytealg.Compare -/
section
variable {P : Program} {ω : Om} {I : Imm} {L : LH} {K : Value → M}
end
/-! ### Parts of blocks -/
section
variable {I I0 : Imm} {L L' X : LH} {K : Value → M} {b off n T : Nat}
end
/-! ### Regions that write to a block -/
class MemB (x : Nat × Obj) (L : LH) : Prop where
  mem : x ∈ L
instance memBRight (x : Nat × Obj) (A L : LH) [h : MemB x L] : MemB x (A ++ L) := ⟨List.mem_append_right _ h.mem⟩
instance memBThere (x y : Nat × Obj) (L : LH) [h : MemB x L] : MemB x (y :: L) := ⟨List.mem_cons_of_mem _ h.mem⟩
instance memBHere (x : Nat × Obj) (L : LH) : MemB x (x :: L) := ⟨List.mem_cons_self ..⟩
instance (priority := 70) lsubConsL (x : Nat × Obj) (X L : LH) [h : MemB x L] [h' : LSub X L] : LSub (x :: X) L := ⟨fun y hy => by
  rcases List.mem_cons.1 hy with rfl | hy
  · exact h.mem
  · exact h'.sub y hy⟩
class DelB (b : Nat) (L : LH) (L' : outParam LH) : Prop where
  sub : ∀ x ∈ L', x ∈ L
instance delBThere (b : Nat) (x : Nat × Obj) (L L' : LH) [h : DelB b L L'] : DelB b (x :: L) (x :: L') := ⟨fun y hy => by
  rcases List.mem_cons.1 hy with rfl | hy
  · exact List.mem_cons_self ..
  · exact List.mem_cons_of_mem _ (h.sub y hy)⟩
instance delBHere (b : Nat) (o : Obj) (L : LH) : DelB b ((b, o) :: L) L := ⟨fun y hy => List.mem_cons_of_mem _ hy⟩
class PickB (b : Nat) (L : LH) (o : outParam Obj) (R : outParam LH) : Prop where
  perm : L.Perm ((b, o) :: R)
instance pickBRight (b : Nat) (o : Obj) (A L R : LH) [h : PickB b L o R] : PickB b (A ++ L) o (A ++ R) := ⟨(List.Perm.append_left A h.perm).trans List.perm_middle⟩
instance pickBThere (b : Nat) (o : Obj) (y : Nat × Obj) (L R : LH) [h : PickB b L o R] : PickB b (y :: L) o (y :: R) := ⟨(List.Perm.cons y h.perm).trans (List.Perm.swap ..)⟩
instance pickBHere (b : Nat) (o : Obj) (R : LH) : PickB b ((b, o) :: R) o R := ⟨List.Perm.refl _⟩
theorem RL.hd {α : Type} [Inhabited α] {R : Imm → α → List Value → Prop} {I : Imm} {L : LH} {n : Nat} {v : Value} {xs : List α} (h : RL R n I L v xs) (h0 : xs ≠ []) :
    ∃ b off c, ixV n v (.int .i64 0) = some (.pointer (some ⟨b, off, none⟩)) ∧ c.length = n ∧ R I (geti xs 0) c ∧ ∀ I' L', Ext I I' → (∀ x ∈ L, x ∈ L') → Cells I' L' b off c :=
  RL.ix h (by omega) (by have := List.length_pos_iff.2 h0; omega)
/-! ### Lists of records that grow -/
section
variable {α : Type} {R : Imm → α → List Value → Prop} {I : Imm} {T n bytes : Nat} {z : Array Value} {X6 L0 F : LH} {v : Value} {xs : List α} {x : α} {c cells : List Value} {K : Value → M}
end
end Go.SL
