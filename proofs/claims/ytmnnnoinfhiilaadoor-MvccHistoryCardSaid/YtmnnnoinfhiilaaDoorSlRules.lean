/-
  Rules for proofs over the shallow forms.
-/
import Derived.Test.YtmnnnoinfhiilaaDoorSlVcSound
import Derived.IntWalk
set_option linter.unusedSimpArgs false
set_option linter.unusedVariables false
set_option linter.unusedSectionVars false
namespace Go.SL
/-! ### Pure operations -/
section pure
variable (b off k n : Nat) (a c : Int) (t u : Bool) (K : Value → M) (v : Value)
theorem Pv_some : Pv (some v) K = K v := rfl
theorem fldV_p : fldV k (.pointer (some ⟨b, off, none⟩)) = some (.pointer (some ⟨b, off + k, none⟩)) := rfl
theorem nilV_p (x : Addr) : nilV (.pointer (some x)) = some (.pointer (some x)) := rfl
theorem nilV_f (f : FuncId) (xs ys : Array Value) : nilV (.func (.func f) xs ys) = some (.func (.func f) xs ys) := rfl
theorem lenV_s (x : Option Addr) (l m : Nat) : lenV (.slice x l m) = some (.int .i64 l) := rfl
theorem capV_s (x : Option Addr) (l m : Nat) : capV (.slice x l m) = some (.int .i64 m) := rfl
theorem minV_i (k k' : IntKind) : minV (.int k a) (.int k' c) = some (.int k (if c < a then c else a)) := rfl
theorem maxV_i (k k' : IntKind) : maxV (.int k a) (.int k' c) = some (.int k (if c > a then c else a)) := rfl
theorem lenSV_s (s : ByteArray) : lenSV (.string s) = some (.int .i64 s.size) := rfl
theorem strV_s (s : ByteArray) : strV (.string s) = some (.string s) := rfl
theorem unV_not : unV .not (.bool t) = some (.bool !t) := rfl
theorem unV_neg (k : IntKind) : unV .neg (.int k a) = some (.int k (k.wrap (0 - a))) := rfl
theorem pickV_t (x y : Value) : pickV (.bool true) x y = some x := rfl
theorem pickV_f (x y : Value) : pickV (.bool false) x y = some y := rfl
theorem exV_t (vs : Array Value) (i : Nat) : exV (.tuple vs) i = vs[i]? := rfl
theorem cvIV_i (k k' : IntKind) : cvIV k (.int k' a) = some (.int k (k.wrap a)) := rfl
theorem binI_add (k : IntKind) : binIV .add (.int k a) (.int k c) = some (.int k (k.wrap (a + c))) := by simp [binIV]
theorem binI_sub (k : IntKind) : binIV .sub (.int k a) (.int k c) = some (.int k (k.wrap (a - c))) := by simp [binIV]
theorem binI_mul (k : IntKind) : binIV .mul (.int k a) (.int k c) = some (.int k (k.wrap (a * c))) := by simp [binIV]
theorem binI_eql (k : IntKind) : binIV .eql (.int k a) (.int k c) = some (.bool (a == c)) := by simp [binIV]
theorem binI_neq (k : IntKind) : binIV .neq (.int k a) (.int k c) = some (.bool (a != c)) := by simp [binIV]
theorem binI_lss (k : IntKind) : binIV .lss (.int k a) (.int k c) = some (.bool (decide (a < c))) := by simp [binIV]
theorem binI_leq (k : IntKind) : binIV .leq (.int k a) (.int k c) = some (.bool (decide (a ≤ c))) := by simp [binIV]
theorem binI_gtr (k : IntKind) : binIV .gtr (.int k a) (.int k c) = some (.bool (decide (c < a))) := by simp [binIV]
theorem binI_geq (k : IntKind) : binIV .geq (.int k a) (.int k c) = some (.bool (decide (c ≤ a))) := by simp [binIV]
theorem binI_shr (k k' : IntKind) (h : 0 ≤ c) : binIV .shr (.int k a) (.int k' c) = some (.int k (a.fdiv (2 ^ (min c.toNat k.bits)))) := by
  simp only [binIV]; rw [if_neg (by omega)]
theorem binI_and (k : IntKind) : binIV .and (.int k a) (.int k c) = some (.int k (bitsV .and k a c)) := by simp [binIV]
theorem binI_or (k : IntKind) : binIV .or (.int k a) (.int k c) = some (.int k (bitsV .or k a c)) := by simp [binIV]
theorem binB_eql : binBV .eql (.bool t) (.bool u) = some (.bool (t == u)) := rfl
theorem binB_neq : binBV .neq (.bool t) (.bool u) = some (.bool (!(t == u))) := rfl
theorem binP_eql_nil (x : Addr) : binPV .eql (.pointer (some x)) (.pointer none) = some (.bool false) := rfl
theorem binP_neq_nil (x : Addr) : binPV .neq (.pointer (some x)) (.pointer none) = some (.bool true) := rfl
theorem binN_eql_nil (x : Addr) (l m l' m' : Nat) : binNV .eql (.slice (some x) l m) (.slice none l' m') = some (.bool false) := rfl
theorem binN_neq_nil (x : Addr) (l m l' m' : Nat) : binNV .neq (.slice (some x) l m) (.slice none l' m') = some (.bool true) := rfl
theorem binN_eql_nn (l m l' m' : Nat) : binNV .eql (.slice none l m) (.slice none l' m') = some (.bool true) := rfl
theorem binN_neq_nn (l m l' m' : Nat) : binNV .neq (.slice none l m) (.slice none l' m') = some (.bool false) := rfl
theorem ixV_in (k : IntKind) (len cap i : Nat) (h : i < len) : ixV n (.slice (some ⟨b, off, none⟩) len cap) (.int k i) = some (.pointer (some ⟨b, off + i * n, none⟩)) := by
  simp only [ixV]; rw [if_pos (by omega)]; simp
theorem wrap_i64 (h : -9223372036854775808 ≤ a ∧ a ≤ 9223372036854775807) : IntKind.i64.wrap a = a := IntWalk.i64_in a h
theorem cells_agg (cs : Array Value) : Value.cells (.agg cs) = cs := rfl
end pure
/-! ### Blocks -/
class InL (b : Nat) (L : LH) (o : outParam Obj) : Prop where
  mem : (b, o) ∈ L
instance inRight (b : Nat) (A L : LH) (o : Obj) [h : InL b L o] : InL b (A ++ L) o := ⟨List.mem_append_right _ h.mem⟩
instance inThere (b : Nat) (x : Nat × Obj) (L : LH) (o : Obj) [h : InL b L o] : InL b (x :: L) o := ⟨List.mem_cons_of_mem _ h.mem⟩
instance inHere (b : Nat) (L : LH) (o : Obj) : InL b ((b, o) :: L) o := ⟨List.mem_cons_self ..⟩
class GetL (l : List Value) (k : Nat) (v : outParam Value) : Prop where
  get : l[k]? = some v
instance getThere (x : Value) (l : List Value) (k : Nat) (v : Value) [h : GetL l k v] : GetL (x :: l) (k + 1) v := ⟨by simpa using h.get⟩
instance getHere (v : Value) (l : List Value) : GetL (v :: l) 0 v := ⟨rfl⟩
class SetL (l : List Value) (k : Nat) (v : Value) (l' : outParam (List Value)) : Prop where
  set : l.set k v = l' ∧ k < l.length
instance setThere (x : Value) (l : List Value) (k : Nat) (v : Value) (l' : List Value) [h : SetL l k v l'] : SetL (x :: l) (k + 1) v (x :: l') :=
  ⟨by simp [h.set.1], by simpa using h.set.2⟩
instance setHere (x v : Value) (l : List Value) : SetL (x :: l) 0 v (v :: l) := ⟨rfl, by simp⟩
class SplitL (X L : LH) (R : outParam LH) : Prop where
  perm : L.Perm (X ++ R)
instance splitRight (X A L R : LH) [h : SplitL X L R] : SplitL X (A ++ L) (A ++ R) := ⟨(List.Perm.append_left A h.perm).trans (by
  rw [← List.append_assoc, ← List.append_assoc]; exact List.Perm.append_right R List.perm_append_comm)⟩
instance splitThere (X L R : LH) (y : Nat × Obj) [h : SplitL X L R] : SplitL X (y :: L) (y :: R) := ⟨(List.Perm.cons y h.perm).trans List.perm_middle.symm⟩
instance splitHere (X R : LH) : SplitL X (X ++ R) R := ⟨List.Perm.refl _⟩
class SplitB (x : Nat × Obj) (L : LH) (R : outParam LH) : Prop where
  perm : L.Perm (x :: R)
instance splitBRight (x : Nat × Obj) (A L R : LH) [h : SplitB x L R] : SplitB x (A ++ L) (A ++ R) := ⟨(List.Perm.append_left A h.perm).trans List.perm_middle⟩
instance splitBThere (x y : Nat × Obj) (L R : LH) [h : SplitB x L R] : SplitB x (y :: L) (y :: R) := ⟨(List.Perm.cons y h.perm).trans (List.Perm.swap ..)⟩
instance splitBHere (x : Nat × Obj) (R : LH) : SplitB x (x :: R) R := ⟨List.Perm.refl _⟩
class SubP (L' L : LH) : Prop where
  sub : ∃ R, L.Perm (L' ++ R)
instance (priority := 50) subRight (L' A L : LH) [h : SubP L' L] : SubP L' (A ++ L) := by
  obtain ⟨R, hR⟩ := h.sub
  exact ⟨A ++ R, (List.Perm.append_left A hR).trans (by rw [← List.append_assoc, ← List.append_assoc]; exact List.Perm.append_right R List.perm_append_comm)⟩
instance (priority := 50) subThere (L' L : LH) (y : Nat × Obj) [h : SubP L' L] : SubP L' (y :: L) := by
  obtain ⟨R, hR⟩ := h.sub
  exact ⟨y :: R, (List.Perm.cons y hR).trans List.perm_middle.symm⟩
instance (priority := 40) subNil (L : LH) : SubP [] L := ⟨L, List.Perm.refl _⟩
instance subCons (x : Nat × Obj) (L' L R : LH) [h : SplitB x L R] [h' : SubP L' R] : SubP (x :: L') L := by
  obtain ⟨R', hR⟩ := h'.sub
  exact ⟨R', h.perm.trans (List.Perm.cons x hR)⟩
instance subApp (A L' L R : LH) [h : SplitL A L R] [h' : SubP L' R] : SubP (A ++ L') L := by
  obtain ⟨R', hR⟩ := h'.sub
  exact ⟨R', h.perm.trans (by rw [List.append_assoc]; exact List.Perm.append_left A hR)⟩
instance subSelf (L : LH) : SubP L L := ⟨[], by simp⟩
class UpL (b : Nat) (L : LH) (o o' : Obj) (L' : outParam LH) : Prop where
  up : ∃ L1 L2, L = L1 ++ (b, o) :: L2 ∧ L' = L1 ++ (b, o') :: L2
instance upRight (b : Nat) (A L : LH) (o o' : Obj) (L' : LH) [h : UpL b L o o' L'] : UpL b (A ++ L) o o' (A ++ L') := by
  obtain ⟨L1, L2, rfl, rfl⟩ := h.up
  exact ⟨A ++ L1, L2, by simp, by simp⟩
instance upThere (b : Nat) (x : Nat × Obj) (L : LH) (o o' : Obj) (L' : LH) [h : UpL b L o o' L'] : UpL b (x :: L) o o' (x :: L') := by
  obtain ⟨L1, L2, rfl, rfl⟩ := h.up
  exact ⟨x :: L1, L2, rfl, rfl⟩
instance upHere (b : Nat) (L : LH) (o o' : Obj) : UpL b ((b, o) :: L) o o' ((b, o') :: L) := ⟨[], L, rfl, rfl⟩
theorem Cell.own {I : Imm} {L : LH} {b off : Nat} {v : Value} {cs : Array Value} {T : Nat} {fr : Nat × Nat} (hm : (b, Obj.cells cs T fr) ∈ L) (hv : cs[off]? = some v) : Cell I L b off v := ⟨cs, T, fr, .inl hm, hv⟩
theorem Cell.imm {I : Imm} {L : LH} {b off : Nat} {v : Value} {cs : Array Value} {T : Nat} {fr : Nat × Nat} (hm : I b = some (Obj.cells cs T fr)) (hv : cs[off]? = some v) : Cell I L b off v := ⟨cs, T, fr, .inr hm, hv⟩
theorem Cell.mono {I I' : Imm} {L L' : LH} {b off : Nat} {v : Value} (h : Cell I L b off v) (hI : Ext I I') (hL : ∀ x ∈ L, x ∈ L') : Cell I' L' b off v := by
  obtain ⟨cs, T, fr, hm, hv⟩ := h
  exact ⟨cs, T, fr, hm.imp (hL _) (hI _ _), hv⟩
/-! ### Reads -/
section reads
variable {I : Imm} {L : LH} {K : Value → M} {b off n : Nat} {v : Value}
theorem rd1 (h : Cell I L b off v) (hk : K v I L) : Rv none (ld1R (.pointer (some ⟨b, off, none⟩))) K I L := ⟨v, ⟨b, off, rfl, h⟩, hk⟩
theorem rdb {l : List Value} {T : Nat} {fr : Nat × Nat} [h : InL b L (.cells l.toArray T fr)] [g : GetL l off v] (hk : K v I L) : Rv none (ld1R (.pointer (some ⟨b, off, none⟩))) K I L :=
  rd1 (Cell.own h.mem (by simpa using g.get)) hk
theorem rdN {vs : List Value} (hl : vs.length = n) (h : Cells I L b off vs) (hk : K (.agg vs.toArray) I L) : Rv none (ldNR n (.pointer (some ⟨b, off, none⟩))) K I L := ⟨_, ⟨b, off, vs, rfl, hl, h, rfl⟩, hk⟩
theorem rdB {l : List Value} {T : Nat} {fr : Nat × Nat} [h : InL b L (.cells l.toArray T fr)] (hl : l.length = n) (hk : K (.agg l.toArray) I L) : Rv none (ldNR n (.pointer (some ⟨b, 0, none⟩))) K I L :=
  rdN hl (fun j u hu => Cell.own h.mem (by simpa using hu)) hk
theorem rdP {l : List Value} {T : Nat} {fr : Nat × Nat} [h : InL b L (.cells l.toArray T fr)] (vs : List Value) (he : (l.drop off).take n = vs) (hl : vs.length = n) (hk : K (.agg vs.toArray) I L) : Rv none (ldNR n (.pointer (some ⟨b, off, none⟩))) K I L :=
  rdN hl (fun j u hu => Cell.own h.mem (by
    subst he
    rw [List.getElem?_take] at hu
    split at hu
    · rw [List.getElem?_drop] at hu; simpa using hu
    · cases hu)) hk
variable {S : M}
theorem rd1S (h : ∀ I' L', S I' L' → Cell I' L' b off v) (hk : K v I L) : Rv (some S) (ld1R (.pointer (some ⟨b, off, none⟩))) K I L := ⟨v, fun I' L' hS => ⟨b, off, rfl, h I' L' hS⟩, hk⟩
theorem rdNS {vs : List Value} (hl : vs.length = n) (h : ∀ I' L', S I' L' → Cells I' L' b off vs) (hk : K (.agg vs.toArray) I L) : Rv (some S) (ldNR n (.pointer (some ⟨b, off, none⟩))) K I L :=
  ⟨_, fun I' L' hS => ⟨b, off, vs, rfl, hl, h I' L' hS, rfl⟩, hk⟩
end reads
def Stay (I0 : Imm) (X : LH) : M := fun I L => Ext I0 I ∧ ∀ x ∈ X, x ∈ L
theorem Stay.start (I : Imm) (L : LH) : Stay I L I L := ⟨Ext.refl I, fun _ h => h⟩
section stay
variable {I I0 : Imm} {L X : LH} {K : Value → M} {b off n : Nat} {v : Value}
theorem rdbS {l : List Value} {T : Nat} {fr : Nat × Nat} [h : InL b X (.cells l.toArray T fr)] [g : GetL l off v] (hk : K v I L) : Rv (some (Stay I0 X)) (ld1R (.pointer (some ⟨b, off, none⟩))) K I L :=
  rd1S (fun I' L' hS => Cell.own (hS.2 _ h.mem) (by simpa using g.get)) hk
theorem rdBS {l : List Value} {T : Nat} {fr : Nat × Nat} [h : InL b X (.cells l.toArray T fr)] (hl : l.length = n) (hk : K (.agg l.toArray) I L) : Rv (some (Stay I0 X)) (ldNR n (.pointer (some ⟨b, 0, none⟩))) K I L :=
  rdNS hl (fun I' L' hS j u hu => Cell.own (hS.2 _ h.mem) (by simpa using hu)) hk
theorem rd1I (h : Cell I0 X b off v) (hk : K v I L) : Rv (some (Stay I0 X)) (ld1R (.pointer (some ⟨b, off, none⟩))) K I L :=
  rd1S (fun _ _ hS => h.mono hS.1 hS.2) hk
theorem rdNI {vs : List Value} (hl : vs.length = n) (h : Cells I0 X b off vs) (hk : K (.agg vs.toArray) I L) : Rv (some (Stay I0 X)) (ldNR n (.pointer (some ⟨b, off, none⟩))) K I L :=
  rdNS hl (fun _ _ hS j u hu => (h j u hu).mono hS.1 hS.2) hk
theorem keepS (h1 : Ext I0 I) (h2 : ∀ x ∈ X, x ∈ L) (hk : K v I L) : Keep (Stay I0 X) K v I L := ⟨⟨h1, h2⟩, hk⟩
theorem draw {B : M → M} (S : M) (h1 : S I L) (h2 : B S I L) : Draw B I L := ⟨S, h1, h2⟩
end stay
/-! ### Ghosts -/
section ghosts
variable {I : Imm} {L : LH}
theorem Cons.ext_put {b : Nat} {o : Obj} (h : Cons I ((b, o) :: L)) : Ext I (Imm.put I b o) := by
  intro b' o' hb'
  unfold Imm.put
  have := h.2 b o (List.mem_cons_self ..)
  rw [if_neg (fun e => by subst e; rw [this] at hb'; cases hb')]
  exact hb'
theorem Cons.freeze {b : Nat} {o : Obj} (h : Cons I ((b, o) :: L)) : Cons (Imm.put I b o) L := by
  refine ⟨(List.nodup_cons.1 h.1).2, fun b' o' hm => ?_⟩
  unfold Imm.put
  have hn := (List.nodup_cons.1 h.1).1
  rw [if_neg (fun e => hn (by subst e; exact List.mem_map.2 ⟨(b', o'), hm, rfl⟩))]
  exact h.2 b' o' (List.mem_cons_of_mem _ hm)
theorem Cons.perm {L' : LH} (h : Cons I L) (hp : L.Perm L') : Cons I L' := ⟨(hp.map _).nodup_iff.1 h.1, fun b o hb => h.2 b o (hp.mem_iff.2 hb)⟩
theorem Cons.drop {L' : LH} (h : Cons I L) (hs : L'.Sublist L) : Cons I L' := ⟨h.1.sublist (hs.map _), fun b o hb => h.2 b o (hs.subset hb)⟩
theorem Gh.done {A : M} (h : A I L) : Gh A I L := fun _ => ⟨I, L, fun _ _ h => h, h⟩
theorem Gh.cons {A : M} (h : Cons I L → Gh A I L) : Gh A I L := fun hc => h hc hc
theorem Gh.freeze {A : M} {b : Nat} {o : Obj} (h : Ext I (Imm.put I b o) → Gh A (Imm.put I b o) L) : Gh A I ((b, o) :: L) := by
  intro hc
  obtain ⟨I', L', h1, h2⟩ := h hc.ext_put hc.freeze
  exact ⟨I', L', fun ω w hs => h1 ω w hs.freeze, h2⟩
theorem Gh.perm {A : M} {L' : LH} (hp : L.Perm L') (h : Gh A I L') : Gh A I L := by
  intro hc
  obtain ⟨I', L', h1, h2⟩ := h (hc.perm hp)
  exact ⟨I', L', fun ω w hs => h1 ω w (hs.perm hp), h2⟩
theorem Gh.drop {A : M} {L' : LH} (hp : L'.Sublist L) (h : Gh A I L') : Gh A I L := by
  intro hc
  obtain ⟨I', L', h1, h2⟩ := h (hc.drop hp)
  exact ⟨I', L', fun ω w hs => h1 ω w (hs.drop hp), h2⟩
theorem Gh.to {A : M} (L' : LH) [hs : SubP L' L] (h : Gh A I L') : Gh A I L := by
  obtain ⟨R, hR⟩ := hs.sub
  exact Gh.perm hR (Gh.drop (List.sublist_append_left L' R) h)
theorem Gh.mono {A B : M} (h : Gh A I L) (hab : ∀ I' L', A I' L' → B I' L') : Gh B I L := by
  intro hc
  obtain ⟨I', L', h1, h2⟩ := h hc
  exact ⟨I', L', h1, hab _ _ h2⟩
end ghosts
/-! ### Stores, new blocks -/
section effs
variable {I : Imm} {L L' : LH} {K : Value → M} {b off n T : Nat} {v : Value}
theorem wr_one (l l' : List Value) (k : Nat) (v : Value) (h : l.set k v = l') : wr l.toArray k [v] = l'.toArray := by
  simp [wr, h]
theorem st1 {l l' : List Value} [h : InL b L (.cells l.toArray T (0, 0))] [g : SetL l off v l'] [u : UpL b L (.cells l.toArray T (0, 0)) (.cells l'.toArray T (0, 0)) L'] (hv : v.oneCell' = true) (hk : K undef I L') :
    Sto 1 (.pointer (some ⟨b, off, none⟩)) v (gh K) I L := by
  obtain ⟨L1, L2, rfl, rfl⟩ := u.up
  have hc : v.cells = #[v] := by cases v <;> first | rfl | simp [Value.oneCell'] at hv
  refine ⟨b, off, l.toArray, T, L1, L2, rfl, by simp [hc], by simp [hc]; exact hv, by simp; have := g.set.2; omega, rfl, ?_⟩
  rw [hc, wr_one l l' off v g.set.1]
  exact Gh.done hk
theorem wr_all : ∀ (vs l : List Value) (off : Nat), off + vs.length = l.length → wr l.toArray off vs = (l.take off ++ vs).toArray := by
  intro vs l off h
  rw [wr_eq vs l.toArray off (by simp; omega)]
  simp [h]
theorem stB {l vs : List Value} [h : InL b L (.cells l.toArray T (0, 0))] [u : UpL b L (.cells l.toArray T (0, 0)) (.cells vs.toArray T (0, 0)) L'] (hl : vs.length = n) (hl' : l.length = n) (h1 : ∀ u ∈ vs, u.oneCell' = true) (hk : K undef I L') :
    Sto n (.pointer (some ⟨b, 0, none⟩)) (.agg vs.toArray) (gh K) I L := by
  obtain ⟨L1, L2, rfl, rfl⟩ := u.up
  refine ⟨b, 0, l.toArray, T, L1, L2, rfl, by simp [Value.cells, hl], by simpa [Value.cells] using h1, by simp [hl'], rfl, ?_⟩
  simp only [Value.cells]
  rw [wr_all vs l 0 (by omega)]
  exact Gh.done (by simpa using hk)
theorem one_all {vs : List Value} (h : vs.all (·.oneCell') = true) : ∀ u ∈ vs, u.oneCell' = true := fun u hu => List.all_eq_true.1 h u hu
theorem newI {o : Obj} (h : ∀ b, K (.pointer (some ⟨b, 0, none⟩)) I ((b, o) :: L)) : New o (gh K) I L := fun b => Gh.done (h b)
end effs
/-! ### Calls, ghosts -/
section calls
variable {P : Program} {ω : Om} {f : FuncId} {args : Array Value} {K : Value → M} {I : Imm} {L : LH}
theorem Cal.gh (h : Cal P ω f args (fun v => Gh (K v)) I L) : Cal P ω f args K I L := fun w hs =>
  (h w hs).mono fun _ _ ⟨v, _, _, he, hs', hg⟩ => by
    obtain ⟨I2, L2, h1, h2⟩ := hg hs'.cons
    exact ⟨v, I2, L2, he, h1 ω _ hs', h2⟩
theorem call (h : Cal P ω f args K I L) : Cal P ω f args (SL.gh K) I L := fun w hs =>
  (h w hs).mono fun _ _ ⟨v, I', L', he, hs', h2⟩ => ⟨v, I', L', he, hs', Gh.done h2⟩
theorem callG (h : Cal P ω f args (fun v => Gh (K v)) I L) : Cal P ω f args (SL.gh K) I L := h
theorem Cal.to (L' : LH) [hs : SubP L' L] (h : Cal P ω f args K I L') : Cal P ω f args K I L := fun w hw => by
  obtain ⟨R, hR⟩ := hs.sub
  exact h w ((hw.perm hR).drop (List.sublist_append_left L' R))
theorem Cal.split (X : LH) {R : LH} [h : SplitL X L R] (hc : Cal P ω f args K I (X ++ R)) : Cal P ω f args K I L := fun w hs => hc w (hs.perm h.perm)
theorem Cal.perm {L' : LH} (hp : L.Perm L') (h : Cal P ω f args K I L') : Cal P ω f args K I L := fun w hs => h w (hs.perm hp)
theorem Cal.drop {L' : LH} (hp : L'.Sublist L) (h : Cal P ω f args K I L') : Cal P ω f args K I L := fun w hs => h w (hs.drop hp)
theorem Cal.freeze {b : Nat} {o : Obj} (h : Ext I (Imm.put I b o) → Cal P ω f args K (Imm.put I b o) L) : Cal P ω f args K I ((b, o) :: L) := fun w hs => h hs.ext_put w hs.freeze
theorem Cal.mono {K' : Value → M} (h : Cal P ω f args K I L) (hk : ∀ v I' L', K v I' L' → K' v I' L') : Cal P ω f args K' I L := fun w hs =>
  (h w hs).mono fun _ _ ⟨v, I', L', he, hs', h2⟩ => ⟨v, I', L', he, hs', hk v I' L' h2⟩
theorem Cal.cons (h : Cons I L → Cal P ω f args K I L) : Cal P ω f args K I L := fun w hs => h hs.cons w hs
theorem loop {σ : Type} {s0 : σ} {B : σ → (σ → M) → M} (Inv : Nat → σ → M) (m : Nat) (h0 : Inv m s0 I L)
    (h : ∀ m s I' L', Inv m s I' L' → B s (fun s' => Gh fun I2 L2 => ∃ m', m' < m ∧ Inv m' s' I2 L2) I' L') : LoopM s0 B I L := ⟨Inv, m, h0, h⟩
end calls
end Go.SL
