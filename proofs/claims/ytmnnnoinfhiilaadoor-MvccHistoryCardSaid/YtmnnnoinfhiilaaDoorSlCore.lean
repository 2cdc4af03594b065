/-
  A small program logic over the model, world hidden: the immutable part of memory 'I' (a map of blocks), the owned part 'L' (a list of blocks), and predicates 'M' on both.
-/
import Derived.Orders
import Derived.OrdersHeld
import Derived.KernelRfl
set_option linter.unusedSimpArgs false
set_option linter.unusedVariables false
set_option linter.unusedSectionVars false
namespace Go.SL
abbrev Imm := Nat → Option Obj
abbrev LH := List (Nat × Obj)
abbrev M := Imm → LH → Prop
inductive Df where
  | col (D : Nat)
  | fn (f : Nat) (cap args : List Value)
def dfs : List Df → List Deferred
  | [] => []
  | .col D :: r => { target := .collected D, args := #[] } :: dfs r
  | .fn f cap args :: r => { target := .fn (.func f) cap.toArray, args := args.toArray } :: dfs r
structure Env where
  t : Nat → Option Value
  df : List Df
structure Om where
  tape : Nat → Question → Nat
  os : Os
  out : Array (Nat × ByteArray)
structure St (ω : Om) (w : World) (I : Imm) (L : LH) : Prop where
  imm : ∀ b o, I b = some o → w.heap[b]? = some o
  own : ∀ b o, (b, o) ∈ L → w.heap[b]? = some o
  nodup : (L.map Prod.fst).Nodup
  apart : ∀ b o, (b, o) ∈ L → I b = none
  tape : w.tape = ω.tape
  os : w.os = ω.os
  out : w.output = ω.out
def Ext (I I' : Imm) : Prop := ∀ b o, I b = some o → I' b = some o
theorem Ext.refl (I : Imm) : Ext I I := fun _ _ h => h
theorem Ext.trans {I J K : Imm} (h : Ext I J) (h' : Ext J K) : Ext I K := fun b o hb => h' b o (h b o hb)
theorem St.drew {ω : Om} {w : World} {I : Imm} {L : LH} (h : St ω w I L) (n : Nat) : St ω { w with drawn := n } I L :=
  ⟨h.imm, h.own, h.nodup, h.apart, h.tape, h.os, h.out⟩
theorem St.lt {ω : Om} {w : World} {I : Imm} {L : LH} (h : St ω w I L) {b : Nat} {o : Obj} (hm : (b, o) ∈ L) : b < w.heap.size := by
  have := h.own b o hm
  exact (Array.getElem?_eq_some_iff.1 this).1
theorem St.ltI {ω : Om} {w : World} {I : Imm} {L : LH} (h : St ω w I L) {b : Nat} {o : Obj} (hm : I b = some o) : b < w.heap.size := by
  have := h.imm b o hm
  exact (Array.getElem?_eq_some_iff.1 this).1
theorem St.push {ω : Om} {w : World} {I : Imm} {L : LH} (h : St ω w I L) (o : Obj) :
    St ω { w with heap := w.heap.push o } I ((w.heap.size, o) :: L) := by
  refine ⟨fun b o' hb => ?_, fun b o' hb => ?_, ?_, fun b o' hb => ?_, h.tape, h.os, h.out⟩
  · have := h.imm b o' hb
    have hlt := h.ltI hb
    simp only [Array.getElem?_push]
    rw [if_neg (by omega)]; exact this
  · rcases List.mem_cons.1 hb with hb | hb
    · simp only [Prod.mk.injEq] at hb; obtain ⟨rfl, rfl⟩ := hb; simp
    · have := h.own b o' hb
      have hlt := h.lt hb
      simp only [Array.getElem?_push]
      rw [if_neg (by omega)]; exact this
  · simp only [List.map_cons, List.nodup_cons]
    refine ⟨fun hm => ?_, h.nodup⟩
    obtain ⟨⟨b, o'⟩, hm, hb⟩ := List.mem_map.1 hm
    have := h.lt hm
    simp only at hb; omega
  · rcases List.mem_cons.1 hb with hb | hb
    · simp only [Prod.mk.injEq] at hb; obtain ⟨rfl, rfl⟩ := hb
      cases hI : I w.heap.size with
      | none => rfl
      | some o'' => exact absurd (h.ltI hI) (by omega)
    · exact h.apart b o' hb
theorem St.perm {ω : Om} {w : World} {I : Imm} {L L' : LH} (h : St ω w I L) (hp : L.Perm L') : St ω w I L' :=
  ⟨h.imm, fun b o hb => h.own b o (hp.mem_iff.2 hb), (hp.map _).nodup_iff.1 h.nodup, fun b o hb => h.apart b o (hp.mem_iff.2 hb), h.tape, h.os, h.out⟩
theorem St.drop {ω : Om} {w : World} {I : Imm} {L L' : LH} (h : St ω w I L) (hs : L'.Sublist L) : St ω w I L' :=
  ⟨h.imm, fun b o hb => h.own b o (hs.subset hb), h.nodup.sublist (hs.map _), fun b o hb => h.apart b o (hs.subset hb), h.tape, h.os, h.out⟩
def Imm.put (I : Imm) (b : Nat) (o : Obj) : Imm := fun b' => if b' = b then some o else I b'
theorem St.freeze {ω : Om} {w : World} {I : Imm} {L : LH} {b : Nat} {o : Obj} (h : St ω w I ((b, o) :: L)) : St ω w (Imm.put I b o) L := by
  have hb := h.own b o (List.mem_cons_self ..)
  refine ⟨fun b' o' hb' => ?_, fun b' o' hb' => h.own b' o' (List.mem_cons_of_mem _ hb'), (List.nodup_cons.1 h.nodup).2, fun b' o' hb' => ?_, h.tape, h.os, h.out⟩
  · unfold Imm.put at hb'
    split at hb'
    · rename_i e; subst e; simp only [Option.some.injEq] at hb'; subst hb'; exact hb
    · exact h.imm b' o' hb'
  · unfold Imm.put
    have hn := (List.nodup_cons.1 h.nodup).1
    rw [if_neg (fun e => hn (by subst e; exact List.mem_map.2 ⟨(b', o'), hb', rfl⟩))]
    exact h.apart b' o' (List.mem_cons_of_mem _ hb')
theorem St.ext_put {ω : Om} {w : World} {I : Imm} {L : LH} {b : Nat} {o : Obj} (h : St ω w I ((b, o) :: L)) : Ext I (Imm.put I b o) := by
  intro b' o' hb'
  unfold Imm.put
  have := h.apart b o (List.mem_cons_self ..)
  rw [if_neg (fun e => by subst e; rw [this] at hb'; cases hb')]
  exact hb'
/-! ### Environments -/
def Env.upd (e : Env) (d : Option Tmp) (v : Value) : Env :=
  match d with
  | none => e
  | some d => ⟨fun t => if Nat.beq t d then some v else e.t t, e.df⟩
def Env.ev (n : Nat) (e : Env) : Operand → Option Value
  | .tmp t => if Nat.blt t n then e.t t else none
  | .const v => some v
  | .global g => some (.pointer (some ⟨g, 0, none⟩))
  | .func f => some (.func (.func f) #[] #[])
structure Rep (n : Nat) (a : Act) (e : Env) : Prop where
  size : a.tmps.size = n
  defers : a.defers = dfs e.df
  at' : ∀ t v, t < n → e.t t = some v → a.tmps.getD t undef = v
theorem Rep.ev {n : Nat} {a : Act} {e : Env} (h : Rep n a e) {x : Operand} {v : Value} (hx : e.ev n x = some v) : a.eval x = v := by
  cases x with
  | tmp t =>
    simp only [Env.ev] at hx
    split at hx
    · rename_i ht
      exact h.at' t v (by simpa [Nat.blt_eq] using ht) hx
    · cases hx
  | const u => simpa [Env.ev, Act.eval] using hx
  | global g => simpa [Env.ev, Act.eval] using hx
  | func f => simpa [Env.ev, Act.eval] using hx
theorem Rep.put {n : Nat} {a : Act} {e : Env} (h : Rep n a e) (d : Option Tmp) (v : Value) : Rep n (a.put d v) (e.upd d v) := by
  cases d with
  | none => exact h
  | some d =>
    refine ⟨by simp [Act.put, h.size], by simp [Act.put, h.defers, Env.upd], fun t u ht hu => ?_⟩
    simp only [Env.upd] at hu
    by_cases htd : t = d
    · subst htd
      simp only [Nat.beq_refl, if_true, Option.some.injEq] at hu
      subst hu
      have : t < a.tmps.size := by rw [h.size]; exact ht
      simp [Act.put, this]
    · have : Nat.beq t d = false := by
        cases hb : Nat.beq t d with
        | false => rfl
        | true => exact absurd (Nat.eq_of_beq_eq_true hb) htd
      simp only [this, Bool.false_eq_true, if_false] at hu
      have hh := h.at' t u ht hu
      have hne : d ≠ t := fun e => htd e.symm
      simp only [Act.put]
      rw [Array.getD_eq_getD_getElem?] at hh ⊢
      rw [Array.getElem?_setIfInBounds_ne hne]; exact hh
theorem Rep.init (args : Array Value) (k : Nat) (e : Env) (n : Nat) (hn : args.size + k = n) (he : ∀ t v, e.t t = some v → args[t]? = some v) (hd : e.df = []) :
    Rep n { tmps := args ++ Array.replicate k undef, defers := [] } e := by
  refine ⟨by simp [hn], by rw [hd]; rfl, fun t v ht hv => ?_⟩
  have h := he t v hv
  have hlt := (Array.getElem?_eq_some_iff.1 h).1
  rw [Array.getD_eq_getD_getElem?, Array.getElem?_append_left hlt, h]; rfl
/-! ### Sequences -/
section
variable (P : Program) (ω : Om)
def Ret (K : Value → M) (e : Ending) (w' : World) : Prop := ∃ v I' L', e = .returned v ∧ St ω w' I' L' ∧ K v I' L'
def Cal (f : FuncId) (args : Array Value) (K : Value → M) : M := fun I L => ∀ w, St ω w I L → Calls P f args w (Ret ω K)
end
def F : M := fun _ _ => False
def Br (v : Value) (A B : M) : M := match v with
  | .bool b => if b then A else B
  | _ => F
def Gd (v : Value) (want : Bool) (A B : M) : M := match v with
  | .bool b => if b == want then A else B
  | _ => F
def Keep (S : M) (K : Value → M) : Value → M := fun v I L => S I L ∧ K v I L
def Draw (B : M → M) : M := fun I L => ∃ S : M, S I L ∧ B S I L
def DrawW (ws : List Value) (B : M → M) : M := Draw B
theorem Br_true (A B : M) : Br (.bool true) A B = A := rfl
theorem Br_false (A B : M) : Br (.bool false) A B = B := rfl
theorem br_split {b : Bool} {A B : M} {I : Imm} {L : LH} (ht : b = true → A I L) (hf : b = false → B I L) : Br (.bool b) A B I L := by
  cases b
  · exact hf rfl
  · exact ht rfl
theorem gd_split {b want : Bool} {A B : M} {I : Imm} {L : LH} (ht : b = want → A I L) (hf : b ≠ want → B I L) : Gd (.bool b) want A B I L := by
  unfold Gd
  by_cases h : b = want
  · simp only [h, beq_self_eq_true, if_true]; exact ht h
  · simp only [beq_eq_false_iff_ne.2 h, Bool.false_eq_true, if_false]; exact hf h
def Cons (I : Imm) (L : LH) : Prop := (L.map Prod.fst).Nodup ∧ ∀ b o, (b, o) ∈ L → I b = none
theorem St.cons {ω : Om} {w : World} {I : Imm} {L : LH} (h : St ω w I L) : Cons I L := ⟨h.nodup, h.apart⟩
def Gh (A : M) : M := fun I L => Cons I L → ∃ I' L', (∀ ω w, St ω w I L → St ω w I' L') ∧ A I' L'
def gh (K : Value → M) : Value → M := fun v => Gh (K v)
theorem gh_elim {K : Value → M} {ω : Om} {w : World} {v : Value} {I : Imm} {L : LH} (hs : St ω w I L) (h : gh K v I L) : ∃ I' L', St ω w I' L' ∧ K v I' L' := by
  obtain ⟨I', L', h1, h2⟩ := h hs.cons
  exact ⟨I', L', h1 ω w hs, h2⟩
def LoopM {σ : Type} (s0 : σ) (B : σ → (σ → M) → M) : M := fun I L =>
  ∃ (Inv : Nat → σ → M) (m : Nat), Inv m s0 I L ∧ ∀ m s I' L', Inv m s I' L' → B s (fun s' => Gh fun I2 L2 => ∃ m', m' < m ∧ Inv m' s' I2 L2) I' L'
end Go.SL
