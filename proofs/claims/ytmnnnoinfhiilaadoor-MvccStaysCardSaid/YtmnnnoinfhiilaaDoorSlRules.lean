/-
  Rules for proofs over the shallow forms.
-/
import Derived.Test.YtmnnnoinfhiilaaDoorSlVcSound
import Derived.IntWalk
set_option linter.unusedSimpArgs false
set_option linter.unusedVariables false
set_option linter.unusedSectionVars false
namespace Go.SL
/-! ### Pure operations -/
section pure
variable (b off k n : Nat) (a c : Int) (t u : Bool) (K : Value → M) (v : Value)
theorem ixV_in (k : IntKind) (len cap i : Nat) (h : i < len) : ixV n (.slice (some ⟨b, off, none⟩) len cap) (.int k i) = some (.pointer (some ⟨b, off + i * n, none⟩)) := by
  simp only [ixV]; rw [if_pos (by omega)]; simp
end pure
/-! ### Blocks -/
class InL (b : Nat) (L : LH) (o : outParam Obj) : Prop where
  mem : (b, o) ∈ L
instance inRight (b : Nat) (A L : LH) (o : Obj) [h : InL b L o] : InL b (A ++ L) o := ⟨List.mem_append_right _ h.mem⟩
instance inThere (b : Nat) (x : Nat × Obj) (L : LH) (o : Obj) [h : InL b L o] : InL b (x :: L) o := ⟨List.mem_cons_of_mem _ h.mem⟩
instance inHere (b : Nat) (L : LH) (o : Obj) : InL b ((b, o) :: L) o := ⟨List.mem_cons_self ..⟩
class GetL (l : List Value) (k : Nat) (v : outParam Value) : Prop where
  get : l[k]? = some v
instance getThere (x : Value) (l : List Value) (k : Nat) (v : Value) [h : GetL l k v] : GetL (x :: l) (k + 1) v := ⟨by simpa using h.get⟩
instance getHere (v : Value) (l : List Value) : GetL (v :: l) 0 v := ⟨rfl⟩
class SetL (l : List Value) (k : Nat) (v : Value) (l' : outParam (List Value)) : Prop where
  set : l.set k v = l' ∧ k < l.length
instance setThere (x : Value) (l : List Value) (k : Nat) (v : Value) (l' : List Value) [h : SetL l k v l'] : SetL (x :: l) (k + 1) v (x :: l') :=
  ⟨by simp [h.set.1], by simpa using h.set.2⟩
instance setHere (x v : Value) (l : List Value) : SetL (x :: l) 0 v (v :: l) := ⟨rfl, by simp⟩
class SplitL (X L : LH) (R : outParam LH) : Prop where
  perm : L.Perm (X ++ R)
instance splitRight (X A L R : LH) [h : SplitL X L R] : SplitL X (A ++ L) (A ++ R) := ⟨(List.Perm.append_left A h.perm).trans (by
  rw [← List.append_assoc, ← List.append_assoc]; exact List.Perm.append_right R List.perm_append_comm)⟩
instance splitThere (X L R : LH) (y : Nat × Obj) [h : SplitL X L R] : SplitL X (y :: L) (y :: R) := ⟨(List.Perm.cons y h.perm).trans List.perm_middle.symm⟩
instance splitHere (X R : LH) : SplitL X (X ++ R) R := ⟨List.Perm.refl _⟩
class SplitB (x : Nat × Obj) (L : LH) (R : outParam LH) : Prop where
  perm : L.Perm (x :: R)
instance splitBRight (x : Nat × Obj) (A L R : LH) [h : SplitB x L R] : SplitB x (A ++ L) (A ++ R) := ⟨(List.Perm.append_left A h.perm).trans List.perm_middle⟩
instance splitBThere (x y : Nat × Obj) (L R : LH) [h : SplitB x L R] : SplitB x (y :: L) (y :: R) := ⟨(List.Perm.cons y h.perm).trans (List.Perm.swap ..)⟩
instance splitBHere (x : Nat × Obj) (R : LH) : SplitB x (x :: R) R := ⟨List.Perm.refl _⟩
class SubP (L' L : LH) : Prop where
  sub : ∃ R, L.Perm (L' ++ R)
instance (priority := 50) subRight (L' A L : LH) [h : SubP L' L] : SubP L' (A ++ L) := by
  obtain ⟨R, hR⟩ := h.sub
  exact ⟨A ++ R, (List.Perm.append_left A hR).trans (by rw [← List.append_assoc, ← List.append_assoc]; exact List.Perm.append_right R List.perm_append_comm)⟩
instance (priority := 50) subThere (L' L : LH) (y : Nat × Obj) [h : SubP L' L] : SubP L' (y :: L) := by
  obtain ⟨R, hR⟩ := h.sub
  exact ⟨y :: R, (List.Perm.cons y hR).trans List.perm_middle.symm⟩
instance (priority := 40) subNil (L : LH) : SubP [] L := ⟨L, List.Perm.refl _⟩
instance subCons (x : Nat × Obj) (L' L R : LH) [h : SplitB x L R] [h' : SubP L' R] : SubP (x :: L') L := by
  obtain ⟨R', hR⟩ := h'.sub
  exact ⟨R', h.perm.trans (List.Perm.cons x hR)⟩
instance subApp (A L' L R : LH) [h : SplitL A L R] [h' : SubP L' R] : SubP (A ++ L') L := by
  obtain ⟨R', hR⟩ := h'.sub
  exact ⟨R', h.perm.trans (by rw [List.append_assoc]; exact List.Perm.append_left A hR)⟩
instance subSelf (L : LH) : SubP L L := ⟨[], by simp⟩
class UpL (b : Nat) (L : LH) (o o' : Obj) (L' : outParam LH) : Prop where
  up : ∃ L1 L2, L = L1 ++ (b, o) :: L2 ∧ L' = L1 ++ (b, o') :: L2
instance upRight (b : Nat) (A L : LH) (o o' : Obj) (L' : LH) [h : UpL b L o o' L'] : UpL b (A ++ L) o o' (A ++ L') := by
  obtain ⟨L1, L2, rfl, rfl⟩ := h.up
  exact ⟨A ++ L1, L2, by simp, by simp⟩
instance upThere (b : Nat) (x : Nat × Obj) (L : LH) (o o' : Obj) (L' : LH) [h : UpL b L o o' L'] : UpL b (x :: L) o o' (x :: L') := by
  obtain ⟨L1, L2, rfl, rfl⟩ := h.up
  exact ⟨x :: L1, L2, rfl, rfl⟩
instance upHere (b : Nat) (L : LH) (o o' : Obj) : UpL b ((b, o) :: L) o o' ((b, o') :: L) := ⟨[], L, rfl, rfl⟩
theorem Cell.own {I : Imm} {L : LH} {b off : Nat} {v : Value} {cs : Array Value} {T : Nat} {fr : Nat × Nat} (hm : (b, Obj.cells cs T fr) ∈ L) (hv : cs[off]? = some v) : Cell I L b off v := ⟨cs, T, fr, .inl hm, hv⟩
theorem Cell.imm {I : Imm} {L : LH} {b off : Nat} {v : Value} {cs : Array Value} {T : Nat} {fr : Nat × Nat} (hm : I b = some (Obj.cells cs T fr)) (hv : cs[off]? = some v) : Cell I L b off v := ⟨cs, T, fr, .inr hm, hv⟩
theorem Cell.mono {I I' : Imm} {L L' : LH} {b off : Nat} {v : Value} (h : Cell I L b off v) (hI : Ext I I') (hL : ∀ x ∈ L, x ∈ L') : Cell I' L' b off v := by
  obtain ⟨cs, T, fr, hm, hv⟩ := h
  exact ⟨cs, T, fr, hm.imp (hL _) (hI _ _), hv⟩
/-! ### Reads -/
section reads
variable {I : Imm} {L : LH} {K : Value → M} {b off n : Nat} {v : Value}
variable {S : M}
end reads
section stay
variable {I I0 : Imm} {L X : LH} {K : Value → M} {b off n : Nat} {v : Value}
theorem draw {B : M → M} (S : M) (h1 : S I L) (h2 : B S I L) : Draw B I L := ⟨S, h1, h2⟩
end stay
/-! ### Ghosts -/
section ghosts
variable {I : Imm} {L : LH}
theorem Cons.perm {L' : LH} (h : Cons I L) (hp : L.Perm L') : Cons I L' := ⟨(hp.map _).nodup_iff.1 h.1, fun b o hb => h.2 b o (hp.mem_iff.2 hb)⟩
theorem Cons.drop {L' : LH} (h : Cons I L) (hs : L'.Sublist L) : Cons I L' := ⟨h.1.sublist (hs.map _), fun b o hb => h.2 b o (hs.subset hb)⟩
theorem Gh.done {A : M} (h : A I L) : Gh A I L := fun _ => ⟨I, L, fun _ _ h => h, h⟩
theorem Gh.cons {A : M} (h : Cons I L → Gh A I L) : Gh A I L := fun hc => h hc hc
theorem Gh.perm {A : M} {L' : LH} (hp : L.Perm L') (h : Gh A I L') : Gh A I L := by
  intro hc
  obtain ⟨I', L', h1, h2⟩ := h (hc.perm hp)
  exact ⟨I', L', fun ω w hs => h1 ω w (hs.perm hp), h2⟩
theorem Gh.drop {A : M} {L' : LH} (hp : L'.Sublist L) (h : Gh A I L') : Gh A I L := by
  intro hc
  obtain ⟨I', L', h1, h2⟩ := h (hc.drop hp)
  exact ⟨I', L', fun ω w hs => h1 ω w (hs.drop hp), h2⟩
theorem Gh.to {A : M} (L' : LH) [hs : SubP L' L] (h : Gh A I L') : Gh A I L := by
  obtain ⟨R, hR⟩ := hs.sub
  exact Gh.perm hR (Gh.drop (List.sublist_append_left L' R) h)
theorem Gh.mono {A B : M} (h : Gh A I L) (hab : ∀ I' L', A I' L' → B I' L') : Gh B I L := by
  intro hc
  obtain ⟨I', L', h1, h2⟩ := h hc
  exact ⟨I', L', h1, hab _ _ h2⟩
end ghosts
/-! ### Stores, new blocks -/
section effs
variable {I : Imm} {L L' : LH} {K : Value → M} {b off n T : Nat} {v : Value}
theorem one_all {vs : List Value} (h : vs.all (·.oneCell') = true) : ∀ u ∈ vs, u.oneCell' = true := fun u hu => List.all_eq_true.1 h u hu
end effs
/-! ### Calls, ghosts -/
section calls
variable {P : Program} {ω : Om} {f : FuncId} {args : Array Value} {K : Value → M} {I : Imm} {L : LH}
theorem Cal.gh (h : Cal P ω f args (fun v => Gh (K v)) I L) : Cal P ω f args K I L := fun w hs =>
  (h w hs).mono fun _ _ ⟨v, _, _, he, hs', hg⟩ => by
    obtain ⟨I2, L2, h1, h2⟩ := hg hs'.cons
    exact ⟨v, I2, L2, he, h1 ω _ hs', h2⟩
theorem call (h : Cal P ω f args K I L) : Cal P ω f args (SL.gh K) I L := fun w hs =>
  (h w hs).mono fun _ _ ⟨v, I', L', he, hs', h2⟩ => ⟨v, I', L', he, hs', Gh.done h2⟩
theorem Cal.to (L' : LH) [hs : SubP L' L] (h : Cal P ω f args K I L') : Cal P ω f args K I L := fun w hw => by
  obtain ⟨R, hR⟩ := hs.sub
  exact h w ((hw.perm hR).drop (List.sublist_append_left L' R))
theorem Cal.split (X : LH) {R : LH} [h : SplitL X L R] (hc : Cal P ω f args K I (X ++ R)) : Cal P ω f args K I L := fun w hs => hc w (hs.perm h.perm)
theorem Cal.perm {L' : LH} (hp : L.Perm L') (h : Cal P ω f args K I L') : Cal P ω f args K I L := fun w hs => h w (hs.perm hp)
theorem Cal.drop {L' : LH} (hp : L'.Sublist L) (h : Cal P ω f args K I L') : Cal P ω f args K I L := fun w hs => h w (hs.drop hp)
theorem Cal.mono {K' : Value → M} (h : Cal P ω f args K I L) (hk : ∀ v I' L', K v I' L' → K' v I' L') : Cal P ω f args K' I L := fun w hs =>
  (h w hs).mono fun _ _ ⟨v, I', L', he, hs', h2⟩ => ⟨v, I', L', he, hs', hk v I' L' h2⟩
theorem Cal.cons (h : Cons I L → Cal P ω f args K I L) : Cal P ω f args K I L := fun w hs => h hs.cons w hs
theorem loop {σ : Type} {s0 : σ} {B : σ → (σ → M) → M} (Inv : Nat → σ → M) (m : Nat) (h0 : Inv m s0 I L)
    (h : ∀ m s I' L', Inv m s I' L' → B s (fun s' => Gh fun I2 L2 => ∃ m', m' < m ∧ Inv m' s' I2 L2) I' L') : LoopM s0 B I L := ⟨Inv, m, h0, h⟩
end calls
end Go.SL
