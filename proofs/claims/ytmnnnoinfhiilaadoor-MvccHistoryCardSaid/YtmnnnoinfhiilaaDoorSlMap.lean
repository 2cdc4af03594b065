/-
  Maps with strings as keys, in memory: rules.
-/
import Derived.Test.YtmnnnoinfhiilaaDoorSlMore
set_option linter.unusedSimpArgs false
set_option linter.unusedVariables false
set_option linter.unusedSectionVars false
namespace Go.SL
/-! ### Lists of blocks in any order: equations for 'ac_rfl' -/
def msSet (α : Type) : Setoid (List α) := ⟨List.Perm, List.Perm.refl, List.Perm.symm, List.Perm.trans⟩
def MS (α : Type) : Type := Quotient (msSet α)
def ms {α : Type} (l : List α) : MS α := Quotient.mk (msSet α) l
def msAdd {α : Type} (a b : MS α) : MS α := Quotient.liftOn₂ a b (fun x y => ms (x ++ y)) (fun _ _ _ _ h1 h2 => Quotient.sound (s := msSet α) (List.Perm.append h1 h2))
instance {α : Type} : Std.Associative (msAdd (α := α)) := ⟨fun a b c => by
  refine Quotient.inductionOn₃ a b c fun x y z => ?_
  show ms (x ++ y ++ z) = ms (x ++ (y ++ z))
  rw [List.append_assoc]⟩
instance {α : Type} : Std.Commutative (msAdd (α := α)) := ⟨fun a b => by
  refine Quotient.inductionOn₂ a b fun x y => ?_
  exact Quotient.sound (s := msSet α) List.perm_append_comm⟩
theorem ms_app {α : Type} (a b : List α) : ms (a ++ b) = msAdd (ms a) (ms b) := rfl
def ms1 {α : Type} (x : α) : MS α := ms [x]
theorem ms_cons {α : Type} (x : α) (b : List α) : ms (x :: b) = msAdd (ms1 x) (ms b) := rfl
theorem ms_nil {α : Type} (a : MS α) : msAdd a (ms []) = a := Quotient.inductionOn a fun x => by show ms (x ++ []) = ms x; rw [List.append_nil]
theorem ms_nil' {α : Type} (a : MS α) : msAdd (ms []) a = a := Quotient.inductionOn a fun x => rfl
theorem ms_eq {α : Type} {a b : List α} (h : a.Perm b) : ms a = ms b := Quotient.sound (s := msSet α) h
theorem ms_perm {α : Type} {a b : List α} (h : ms a = ms b) : a.Perm b := Quotient.exact (s := msSet α) h
abbrev Key := List UInt8
def kstr (k : Key) : Value := .string ⟨k.toArray⟩
def eKey (e : MapEntry) : Key := match e.key with
  | .string s => s.data.toList
  | _ => []
def fnd (k : Key) : List MapEntry → Nat → Option (Nat × Value)
  | [], _ => none
  | e :: r, i => if eKey e = k then some (i, e.val) else fnd k r (i + 1)
def updM (m : Key → Option Value) (k : Key) (v : Option Value) : Key → Option Value := fun q => if q = k then v else m q
structure MapS (es : Array MapEntry) (clock : Nat) (m : Key → Option Value) : Prop where
  str : ∀ e ∈ es.toList, ∃ s : ByteArray, e.key = .string s
  nod : (es.toList.map eKey).Nodup
  brn : ∀ e ∈ es.toList, e.born < clock
  bnd : (es.toList.map (·.born)).Nodup
  val : ∀ k, m k = (fnd k es.toList 0).map (·.2)
theorem beq_bytes {a b : ByteArray} : (a == b) = decide (a.data.toList = b.data.toList) := by
  cases a with
  | mk a => cases b with
    | mk b =>
      show (a == b) = _
      rw [Bool.eq_iff_iff]
      simp only [beq_iff_eq, decide_eq_true_eq]
      exact ⟨fun h => by rw [h], fun h => by cases a; cases b; simpa using h⟩
theorem findNow_fnd {k : Key} : ∀ {l : List MapEntry} {i : Nat}, (∀ e ∈ l, ∃ s : ByteArray, e.key = .string s) → Instr.findNow .string (kstr k) l i = some (fnd k l i)
  | [], _, _ => rfl
  | e :: l, i, h => by
    obtain ⟨s, hs⟩ := h e (List.mem_cons_self ..)
    have ih := findNow_fnd (k := k) (l := l) (i := i + 1) (fun x hx => h x (List.mem_cons_of_mem _ hx))
    simp only [Instr.findNow, fnd, eKey, hs, kstr, Instr.sameNow]
    rw [beq_bytes]
    by_cases hk : s.data.toList = k
    · have : decide ((⟨k.toArray⟩ : ByteArray).data.toList = s.data.toList) = true := by simp [hk]
      rw [this, if_pos hk]
    · have : decide ((⟨k.toArray⟩ : ByteArray).data.toList = s.data.toList) = false := by simp; exact fun h => hk h.symm
      rw [this, if_neg hk]
      exact ih
theorem MapS.find {es : Array MapEntry} {clock : Nat} {m : Key → Option Value} (h : MapS es clock m) (k : Key) : Instr.findNow .string (kstr k) es.toList 0 = some (fnd k es.toList 0) := findNow_fnd h.str
theorem MapS.empty : MapS #[] 0 (fun _ => none) := ⟨fun e h => by simp at h, by simp, fun e h => by simp at h, by simp, fun k => rfl⟩
theorem fnd_none {k : Key} : ∀ {l : List MapEntry} {i : Nat}, fnd k l i = none ↔ k ∉ l.map eKey
  | [], _ => by simp [fnd]
  | e :: l, i => by
    simp only [fnd, List.map_cons, List.mem_cons, not_or]
    by_cases h : eKey e = k
    · simp [h]
    · rw [if_neg h, fnd_none (l := l)]
      exact ⟨fun h' => ⟨fun e' => h e'.symm, h'⟩, fun h' => h'.2⟩
theorem fnd_some {k : Key} : ∀ {l : List MapEntry} {i j : Nat} {v : Value}, fnd k l i = some (j, v) → ∃ n e, j = i + n ∧ l[n]? = some e ∧ eKey e = k ∧ e.val = v
  | [], _, _, _, h => by simp [fnd] at h
  | e :: l, i, j, v, h => by
    simp only [fnd] at h
    split at h
    · rename_i hk
      simp only [Option.some.injEq, Prod.mk.injEq] at h
      exact ⟨0, e, by omega, rfl, hk, h.2⟩
    · obtain ⟨n, e', h1, h2, h3, h4⟩ := fnd_some h
      exact ⟨n + 1, e', by omega, by simpa using h2, h3, h4⟩
theorem fnd_shift {k : Key} : ∀ {l : List MapEntry} {i j : Nat}, (fnd k l i).map (·.2) = (fnd k l j).map (·.2)
  | [], _, _ => rfl
  | e :: l, i, j => by
    simp only [fnd]
    split
    · rfl
    · exact fnd_shift
theorem fnd_append {k : Key} : ∀ {l l' : List MapEntry} {i : Nat}, (fnd k (l ++ l') i).map (·.2) = match (fnd k l i).map (·.2) with
    | some v => some v
    | none => (fnd k l' 0).map (·.2)
  | [], l', i => by simp only [List.nil_append, fnd, Option.map_none]; exact fnd_shift
  | e :: l, l', i => by
    simp only [List.cons_append, fnd]
    split
    · rfl
    · exact fnd_append
theorem fnd_set {k q : Key} {v : Value} : ∀ {l : List MapEntry} {n : Nat} {e : MapEntry}, l[n]? = some e → eKey e = k → (l.map eKey).Nodup →
    (fnd q (l.set n { e with key := kstr k, val := v }) 0).map (·.2) = if q = k then some v else (fnd q l 0).map (·.2)
  | [], n, e, h, _, _ => by simp at h
  | x :: l, 0, e, h, hk, hn => by
    simp only [List.getElem?_cons_zero, Option.some.injEq] at h
    subst h
    have hko : eKey { x with key := kstr k, val := v } = k := by simp [eKey, kstr]
    simp only [List.set_cons_zero, fnd, hko, hk]
    by_cases h : k = q
    · simp [h]
    · rw [if_neg h, if_neg (fun e => h e.symm), if_neg h]
  | x :: l, n + 1, e, h, hk, hn => by
    simp only [List.getElem?_cons_succ] at h
    simp only [List.map_cons, List.nodup_cons] at hn
    simp only [List.set_cons_succ, fnd]
    have hmem : k ∈ l.map eKey := List.mem_map.2 ⟨e, List.mem_of_getElem? h, hk⟩
    by_cases hx : eKey x = q
    · rw [if_pos hx, if_pos hx, if_neg]
      intro e'
      rw [hx, e'] at hn
      exact hn.1 hmem
    · rw [if_neg hx, if_neg hx]
      have ih := fnd_set (q := q) (v := v) h hk hn.2
      rw [fnd_shift (j := 0), ih, fnd_shift (i := 0 + 1) (j := 0)]
theorem set_keys {k : Key} {v : Value} : ∀ {l : List MapEntry} {n : Nat} {e : MapEntry}, l[n]? = some e → eKey e = k → (l.set n { e with key := kstr k, val := v }).map eKey = l.map eKey
  | [], n, e, h, _ => by simp at h
  | x :: l, 0, e, h, hk => by
    simp only [List.getElem?_cons_zero, Option.some.injEq] at h
    subst h
    simp [eKey, kstr] at hk ⊢
    exact hk.symm
  | x :: l, n + 1, e, h, hk => by
    simp only [List.getElem?_cons_succ] at h
    simp only [List.set_cons_succ, List.map_cons, set_keys h hk]
theorem set_borns {k : Key} {v : Value} : ∀ {l : List MapEntry} {n : Nat} {e : MapEntry}, l[n]? = some e → (l.set n { e with key := kstr k, val := v }).map (·.born) = l.map (·.born)
  | [], n, e, h => by simp at h
  | x :: l, 0, e, h => by
    simp only [List.getElem?_cons_zero, Option.some.injEq] at h
    subst h
    simp
  | x :: l, n + 1, e, h => by
    simp only [List.getElem?_cons_succ] at h
    simp only [List.set_cons_succ, List.map_cons, set_borns (k := k) h]
def putE (k : Key) (v : Value) (es : Array MapEntry) (clock : Nat) : Obj := match fnd k es.toList 0 with
  | some (i, _) => .map (es.modify i fun e => { e with key := kstr k, val := v }) clock
  | none => .map (es.push { key := kstr k, val := v, born := clock }) (clock + 1)
theorem modify_set {α : Type} {a : Array α} {i : Nat} {f : α → α} {x : α} (h : a.toList[i]? = some x) : (a.modify i f).toList = a.toList.set i (f x) := by
  have hlt : i < a.size := by
    have := (List.getElem?_eq_some_iff.1 h).1
    simpa using this
  apply List.ext_getElem?
  intro j
  simp only [Array.getElem?_toList, Array.getElem?_modify]
  rw [List.getElem?_set]
  by_cases e : i = j
  · subst e
    simp only [Array.getElem?_toList] at h
    rw [h]
    simp [hlt]
  · simp [e]
theorem MapS.put {es : Array MapEntry} {clock : Nat} {m : Key → Option Value} (h : MapS es clock m) (k : Key) (v : Value) : ∃ es' clock', putE k v es clock = .map es' clock' ∧ MapS es' clock' (updM m k (some v)) := by
  unfold putE
  cases hf : fnd k es.toList 0 with
  | none =>
    refine ⟨_, _, rfl, ?_⟩
    have hn := fnd_none.1 hf
    have hl : (es.push { key := kstr k, val := v, born := clock }).toList = es.toList ++ [{ key := kstr k, val := v, born := clock }] := by simp
    have hko : eKey { key := kstr k, val := v, born := clock } = k := by simp [eKey, kstr]
    refine ⟨fun e he => ?_, ?_, fun e he => ?_, ?_, fun q => ?_⟩
    · rw [hl] at he
      rcases List.mem_append.1 he with he | he
      · exact h.str e he
      · simp only [List.mem_singleton] at he; subst he; exact ⟨_, rfl⟩
    · rw [hl, List.map_append, List.nodup_append]
      refine ⟨h.nod, by simp, fun a ha b hb => ?_⟩
      simp only [List.map_cons, List.map_nil, List.mem_singleton, hko] at hb
      subst hb
      exact fun e => hn (e ▸ ha)
    · rw [hl] at he
      rcases List.mem_append.1 he with he | he
      · have := h.brn e he; omega
      · simp only [List.mem_singleton] at he; subst he; simp
    · rw [hl, List.map_append, List.nodup_append]
      refine ⟨h.bnd, by simp, fun a ha b hb => ?_⟩
      simp only [List.map_cons, List.map_nil, List.mem_singleton] at hb
      subst hb
      obtain ⟨e, he, rfl⟩ := List.mem_map.1 ha
      have := h.brn e he; omega
    · rw [hl, fnd_append, ← h.val q]
      unfold updM
      by_cases e : q = k
      · subst e
        rw [if_pos rfl, h.val q, hf]
        simp [fnd, hko]
      · rw [if_neg e]
        have hf0 : fnd q [{ key := kstr k, val := v, born := clock }] 0 = none := by
          simp only [fnd, hko]
          rw [if_neg (fun e' => e (Eq.symm e'))]
        rw [hf0]
        cases m q <;> rfl
  | some p =>
    obtain ⟨i, u⟩ := p
    obtain ⟨n, e, h1, h2, h3, h4⟩ := fnd_some hf
    obtain rfl : i = n := by omega
    refine ⟨_, _, rfl, ?_⟩
    have hl := modify_set (f := fun e => { e with key := kstr k, val := v }) h2
    refine ⟨fun x hx => ?_, ?_, fun x hx => ?_, ?_, fun q => ?_⟩
    · rw [hl] at hx
      rcases List.mem_or_eq_of_mem_set hx with hx | rfl
      · exact h.str x hx
      · exact ⟨_, rfl⟩
    · rw [hl, set_keys h2 h3]; exact h.nod
    · rw [hl] at hx
      rcases List.mem_or_eq_of_mem_set hx with hx | rfl
      · exact h.brn x hx
      · exact h.brn e (List.mem_of_getElem? h2)
    · rw [hl, set_borns (k := k) h2]; exact h.bnd
    · rw [hl, fnd_set h2 h3 h.nod, ← h.val q]; rfl
def delE (k : Key) (es : Array MapEntry) (clock : Nat) : Obj := match fnd k es.toList 0 with
  | some (i, _) => .map (es.eraseIdxIfInBounds i) clock
  | none => .map es clock
theorem fnd_erase {k q : Key} : ∀ {l : List MapEntry} {n : Nat} {e : MapEntry}, l[n]? = some e → eKey e = k → (l.map eKey).Nodup → (fnd q (l.eraseIdx n) 0).map (·.2) = if q = k then none else (fnd q l 0).map (·.2)
  | [], n, e, h, _, _ => by simp at h
  | x :: l, 0, e, h, hk, hn => by
    simp only [List.getElem?_cons_zero, Option.some.injEq] at h
    subst h
    simp only [List.map_cons, List.nodup_cons] at hn
    simp only [List.eraseIdx_cons_zero, fnd, hk]
    by_cases h : q = k
    · subst h
      rw [if_pos rfl, fnd_none.2 (by rw [← hk]; exact hn.1)]; rfl
    · rw [if_neg h, if_neg (fun e => h e.symm)]
      exact fnd_shift
  | x :: l, n + 1, e, h, hk, hn => by
    simp only [List.getElem?_cons_succ] at h
    simp only [List.map_cons, List.nodup_cons] at hn
    simp only [List.eraseIdx_cons_succ, fnd]
    have hmem : k ∈ l.map eKey := List.mem_map.2 ⟨e, List.mem_of_getElem? h, hk⟩
    by_cases hx : eKey x = q
    · rw [if_pos hx, if_pos hx, if_neg]
      intro e'
      rw [hx, e'] at hn
      exact hn.1 hmem
    · rw [if_neg hx, if_neg hx, fnd_shift (j := 0), fnd_erase h hk hn.2, fnd_shift (i := 0 + 1) (j := 0)]
theorem MapS.del {es : Array MapEntry} {clock : Nat} {m : Key → Option Value} (h : MapS es clock m) (k : Key) : ∃ es', delE k es clock = .map es' clock ∧ MapS es' clock (updM m k none) := by
  unfold delE
  cases hf : fnd k es.toList 0 with
  | none =>
    refine ⟨es, rfl, h.str, h.nod, h.brn, h.bnd, fun q => ?_⟩
    unfold updM
    by_cases e : q = k
    · subst e; rw [if_pos rfl, hf]; rfl
    · rw [if_neg e]; exact h.val q
  | some p =>
    obtain ⟨i, u⟩ := p
    obtain ⟨n, e, h1, h2, h3, h4⟩ := fnd_some hf
    obtain rfl : i = n := by omega
    have hlt : i < es.size := by
      have := (List.getElem?_eq_some_iff.1 h2).1
      simpa using this
    have hl : (es.eraseIdxIfInBounds i).toList = es.toList.eraseIdx i := by simp [Array.eraseIdxIfInBounds, hlt]
    refine ⟨_, rfl, fun x hx => ?_, ?_, fun x hx => ?_, ?_, fun q => ?_⟩
    · rw [hl] at hx; exact h.str x (List.mem_of_mem_eraseIdx hx)
    · rw [hl]; exact h.nod.sublist (List.Sublist.map _ (List.eraseIdx_sublist ..))
    · rw [hl] at hx; exact h.brn x (List.mem_of_mem_eraseIdx hx)
    · rw [hl]; exact h.bnd.sublist (List.Sublist.map _ (List.eraseIdx_sublist ..))
    · rw [hl, fnd_erase h2 h3 h.nod, ← h.val q]; rfl
section rules
variable {I : Imm} {L : LH} {K : Value → M} {b : Nat} {es : Array MapEntry} {clock : Nat} {m : Key → Option Value} {k : Key} {v : Value} {S : M}
def lkV (zero : Value) (ok : Bool) : Option Value → Value
  | some u => if ok then .tuple #[u, .bool true] else u
  | none => if ok then .tuple #[zero, .bool false] else zero
theorem lk_eq {zero : Value} {ok : Bool} (h : MapS es clock m) : (match fnd k es.toList 0 with
    | some (_, u) => if ok then .tuple #[u, .bool true] else u
    | none => if ok then .tuple #[zero, .bool false] else zero) = lkV zero ok (m k) := by
  rw [h.val k]
  cases fnd k es.toList 0 <;> rfl
theorem lk_at {zero : Value} {ok : Bool} (ha : MapAt I L b es clock) (h : MapS es clock m) : lkR .string zero ok (.map (some b)) (kstr k) I L (lkV zero ok (m k)) :=
  ⟨es, _, .inr ⟨b, clock, rfl, ha⟩, h.find k, (lk_eq h).symm⟩
theorem lkm {zero : Value} {ok : Bool} [hin : InL b L (.map es clock)] (h : MapS es clock m) (hk : K (lkV zero ok (m k)) I L) : Rv none (lkR .string zero ok (.map (some b)) (kstr k)) K I L :=
  ⟨_, lk_at (.inl hin.mem) h, hk⟩
theorem putm {L' : LH} {es' : Array MapEntry} {clock' : Nat} (h : MapS es clock m) (he : putE k v es clock = .map es' clock') [u : UpL b L (.map es clock) (.map es' clock') L'] (hk : K undef I L') :
    PutM .string (.map (some b)) (kstr k) v K I L := by
  obtain ⟨L1, L2, rfl, rfl⟩ := u.up
  refine ⟨b, es, clock, L1, L2, _, rfl, rfl, h.find k, ?_⟩
  unfold putE at he
  cases hf : fnd k es.toList 0 with
  | none => rw [hf] at he; simp only at he ⊢; rw [he]; exact hk
  | some p => obtain ⟨i, w⟩ := p; rw [hf] at he; simp only at he ⊢; rw [he]; exact hk
theorem delm {L' : LH} {es' : Array MapEntry} {clock' : Nat} (h : MapS es clock m) (he : delE k es clock = .map es' clock') [u : UpL b L (.map es clock) (.map es' clock') L'] (hk : K (.tuple #[]) I L') :
    DelM .string (.map (some b)) (kstr k) K I L := by
  obtain ⟨L1, L2, rfl, rfl⟩ := u.up
  refine .inr ⟨b, es, clock, L1, L2, _, rfl, rfl, h.find k, ?_⟩
  unfold delE at he
  cases hf : fnd k es.toList 0 with
  | none => rw [hf] at he; simp only at he ⊢; rw [he]; exact hk
  | some p => obtain ⟨i, w⟩ := p; rw [hf] at he; simp only at he ⊢; rw [he]; exact hk
theorem newm (hk : ∀ b, K (.map (some b)) I ((b, .map #[] 0) :: L)) : NewM K I L := hk
end rules
/-! ### Calls of values say less -/
theorem CalV.mono {P : Program} {ω : Om} {x : Value} {args : Array Value} {K K' : Value → M} {I : Imm} {L : LH} (h : CalV P ω x args K I L) (hk : ∀ v I' L', K v I' L' → K' v I' L') : CalV P ω x args K' I L := by
  match x, h with
  | .func (.func f) first cap, h =>
    simp only [CalV] at h ⊢
    by_cases he : entersB P f = true
    · rw [if_pos he] at h ⊢
      exact Cal.mono h hk
    · rw [if_neg he] at h ⊢
      cases hx : extOf P f with
      | none => rw [hx] at h; exact h.elim
      | some e =>
        rw [hx] at h
        obtain ⟨v, h1, h2⟩ := h
        exact ⟨v, h1, hk _ _ _ h2⟩
  | .func (.yield l) first cap, h => 
    intro w hs
    obtain ⟨f, tmps, assign, body, h1, h2⟩ := h w hs
    exact ⟨f, tmps, assign, body, h1, RoundIn.mono h2 fun e w' ⟨v, I', L', e1, e2, e3⟩ => ⟨v, I', L', e1, e2, hk _ _ _ e3⟩⟩
/-! ### A range over a map that stays as it is -/
structure It (es : Array MapEntry) (vis : List MapEntry) : Prop where
  sub : ∀ e ∈ vis, e ∈ es.toList
  nod : (vis.map (·.born)).Nodup
theorem It.none (es : Array MapEntry) : It es [] := ⟨(fun e h => by cases h), by simp⟩
section iter
variable {I : Imm} {L0 : LH} {K : Value → M} {b r clock : Nat} {es : Array MapEntry} {m : Key → Option Value} {vis : List MapEntry}
theorem MapAt.skip {x : Nat × Obj} (ha : MapAt I L0 r es clock) : MapAt I (x :: L0) r es clock := ha.imp (List.mem_cons_of_mem _) id
end iter
end Go.SL
