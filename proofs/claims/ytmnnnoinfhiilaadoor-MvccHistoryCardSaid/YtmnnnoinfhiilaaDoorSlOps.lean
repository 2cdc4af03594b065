/-
  What the model does at operations over maps, runes, interfaces; at calls that may panic.
-/
import Derived.Test.YtmnnnoinfhiilaaDoorSlSound5
set_option linter.unusedSimpArgs false
set_option linter.unusedVariables false
set_option linter.unusedSectionVars false
namespace Go.SL
section
variable {P : Program} {ω : Om} {n : Nat} {a : Act} {e : Env}
theorem mapB_spec {T k E : Nat} (h : mapB P T = some (k, E)) : P.underlying T = some (.map k E) := by
  unfold mapB at h; split at h <;> simp_all
theorem znv_spec {E : Nat} {z : Value} (h : znv P E = some z) (w : World) : (zeroValue E).run P w = .ok z w := by
  unfold znv at h
  split at h
  · rename_i i hi; exact run_zero hi h
  · cases h
theorem MapAt.heap {w : World} {I : Imm} {L : LH} {r clock : Nat} {es : Array MapEntry} (hs : St ω w I L) (h : MapAt I L r es clock) : w.heap[r]? = some (.map es clock) := h.elim (hs.own _ _) (hs.imm _ _)
theorem run_getMap {w : World} {r clock : Nat} {es : Array MapEntry} (h : w.heap[r]? = some (.map es clock)) : (getObj r).run P w = .ok (.map es clock) w := by
  simp [getObj, Sem.run, h]
theorem run_checkKey {k : Nat} {d : TypeDesc} (hu : P.underlying k = some d) (hd : keyB d = true) (em : Bool) (v : Value) (w : World) : (Instr.checkKey em 10000 k v).run P w = .ok () w := by
  unfold Instr.checkKey
  simp only [Sem.run_bind, run_und hu, Result.andThen_ok]
  cases d <;> first | (simp [keyB] at hd; done) | simp
theorem run_findKey {k : Nat} {d : TypeDesc} {v : Value} {es : List MapEntry} {r : Option (Nat × Value)} (hu : P.underlying k = some d) (hf : Instr.findNow d v es 0 = some r) (w : World) : (Instr.findKey k v es).run P w = .ok r w := by
  simp [Instr.findKey, run_und hu, hf]
theorem findNow_at {d : TypeDesc} {k : Value} : ∀ {l : List MapEntry} {i0 i : Nat} {v : Value}, Instr.findNow d k l i0 = some (some (i, v)) → ∃ j e, i = i0 + j ∧ l[j]? = some e ∧ e.val = v ∧ Instr.sameNow d k e.key = some true
  | [], i0, i, v, h => by simp [Instr.findNow] at h
  | e :: l, i0, i, v, h => by
    simp only [Instr.findNow] at h
    split at h
    · rename_i hs
      simp only [Option.some.injEq, Prod.mk.injEq] at h
      exact ⟨0, e, by omega, rfl, h.2, hs⟩
    · obtain ⟨j, e', h1, h2, h3, h4⟩ := findNow_at h
      exact ⟨j + 1, e', by omega, by simpa using h2, h3, h4⟩
    · cases h
theorem byteArray_of_beq {a b : ByteArray} (h : (a == b) = true) : a = b := by
  cases a; cases b
  congr
  exact eq_of_beq (α := Array UInt8) h
theorem byteArray_beq_self (a : ByteArray) : (a == a) = true := by
  cases a with
  | mk d => exact beq_self_eq_true (α := Array UInt8) d
theorem same_bits {d : TypeDesc} {k k' : Value} (hd : keyB d = true) (h : Instr.sameNow d k k' = some true) : Instr.sameBits 10000 k' k = true := by
  unfold Instr.sameNow at h
  split at h
  · split at h
    · rename_i hk; subst hk
      simp only [Option.some.injEq, beq_iff_eq] at h
      subst h
      simp [Instr.sameBits]
    · cases h
  · rename_i a b
    simp only [Option.some.injEq] at h
    obtain rfl : a = b := byteArray_of_beq h
    simp [Instr.sameBits, byteArray_beq_self]
  · simp [keyB] at hd
  · cases h
theorem run_keyStays {d : TypeDesc} {k : Value} {es : Array MapEntry} {i : Nat} {v : Value} (hd : keyB d = true) (hf : Instr.findNow d k es.toList 0 = some (some (i, v))) (w : World) :
    (Instr.keyThatStays (((es[i]?).map (·.key)).getD k) k).run P w = .ok k w := by
  obtain ⟨j, e, h1, h2, h3, h4⟩ := findNow_at hf
  have : es[i]? = some e := by
    rw [show i = j by omega]; simpa using h2
  rw [this]
  simp [Instr.keyThatStays, same_bits hd h4]
theorem run_lk {T kt E : Nat} {d : TypeDesc} {z x k v : Value} {ok : Bool} {w : World} {I : Imm} {L : LH} (hT : mapB P T = some (kt, E)) (hu : P.underlying kt = some d) (hd : keyB d = true) (hz : znv P E = some z) (hs : St ω w I L)
    (h : lkR d z ok x k I L v) : (Instr.lookup T x k ok).run P w = .ok v w := by
  have hT' := mapB_spec hT
  obtain ⟨es, r, hM, hf, rfl⟩ := h
  unfold Instr.lookup
  rcases hM with ⟨rfl, rfl⟩ | ⟨r', clock, rfl, hA⟩
  · simp only [Sem.run_bind, run_und hT', Result.andThen_ok, Sem.run_pure, run_checkKey hu hd, run_findKey hu hf]
    cases r with
    | none => simp [znv_spec hz]
    | some q => obtain ⟨i, u⟩ := q; simp
  · simp only [Sem.run_bind, run_und hT', Result.andThen_ok, run_getMap (hA.heap hs), Sem.run_pure, run_checkKey hu hd, run_findKey hu hf]
    cases r with
    | none => simp [znv_spec hz]
    | some q => obtain ⟨i, u⟩ := q; simp
theorem run_set {w : World} {b : Nat} {o o' : Obj} (h : w.heap[b]? = some o) (hc : ∀ c T fr, o ≠ .cells c T fr) : (setObj b o').run P w = .ok () { w with heap := w.heap.setIfInBounds b o' } := by
  cases o <;> first | exact absurd rfl (hc _ _ _) | simp [setObj, Sem.run, h]
theorem run_put {T kt E : Nat} {d : TypeDesc} {x k v : Value} {w : World} {I : Imm} {L : LH} {K : Value → M} (hT : mapB P T = some (kt, E)) (hu : P.underlying kt = some d) (hd : keyB d = true) (hs : St ω w I L) (h : PutM d x k v K I L) :
    ∃ w' I' L', (Instr.mapUpdate T x k v).run P w = .ok () w' ∧ St ω w' I' L' ∧ K undef I' L' := by
  have hT' := mapB_spec hT
  obtain ⟨r, es, clock, L1, L2, q, rfl, rfl, hf, hk⟩ := h
  have hb := hs.own r (.map es clock) (by simp)
  refine ⟨_, I, _, ?_, obj_st hs, hk⟩
  unfold Instr.mapUpdate
  simp only [Sem.run_bind, run_und hT', Result.andThen_ok, run_getMap hb, run_checkKey hu hd, run_findKey hu hf]
  cases q with
  | none => exact run_set hb (fun _ _ _ => by simp)
  | some p =>
    obtain ⟨i, u⟩ := p
    simp only [Sem.run_bind, run_keyStays hd hf, Result.andThen_ok]
    exact run_set hb (fun _ _ _ => by simp)
theorem run_del {T kt E ty : Nat} {Ts : List Nat} {d : TypeDesc} {x k : Value} {w : World} {I : Imm} {L : LH} {K : Value → M} (hT : mapB P T = some (kt, E)) (hu : P.underlying kt = some d) (hd : keyB d = true) (hs : St ω w I L) (h : DelM d x k K I L) :
    ∃ w' I' L', (Builtin.delete_ (T :: Ts).toArray ty #[x, k]).run P w = .ok (.tuple #[]) w' ∧ St ω w' I' L' ∧ K (.tuple #[]) I' L' := by
  have hT' := mapB_spec hT
  rcases h with ⟨rfl, hk⟩ | ⟨r, es, clock, L1, L2, q, rfl, rfl, hf, hk⟩
  · refine ⟨w, I, L, ?_, hs, hk⟩
    simp [Builtin.delete_, run_und hT', run_checkKey hu hd]
  · have hb := hs.own r (.map es clock) (by simp)
    refine ⟨_, I, _, ?_, obj_st hs, hk⟩
    simp only [Builtin.delete_, List.getElem?_toArray, List.getElem?_cons_zero, List.getElem?_cons_succ, Sem.run_bind, run_und hT', Result.andThen_ok, run_getMap hb, run_checkKey hu hd, run_findKey hu hf]
    cases q with
    | none => simp only [Sem.run_bind, run_set (o' := .map es clock) hb (fun _ _ _ => by simp), Result.andThen_ok, Sem.run_pure]
    | some p => obtain ⟨i, u⟩ := p; simp only [Sem.run_bind, run_set (o' := .map (es.eraseIdxIfInBounds i) clock) hb (fun _ _ _ => by simp), Result.andThen_ok, Sem.run_pure]
theorem run_clrM {T kt E ty : Nat} {x : Value} {w : World} {I : Imm} {L : LH} {K : Value → M} (hT : mapB P T = some (kt, E)) (hs : St ω w I L) (h : ClrM x K I L) :
    ∃ w' I' L', (Builtin.clear_ #[T] ty #[x]).run P w = .ok (.tuple #[]) w' ∧ St ω w' I' L' ∧ K (.tuple #[]) I' L' := by
  have hT' := mapB_spec hT
  rcases h with ⟨rfl, hk⟩ | ⟨r, es, clock, L1, L2, rfl, rfl, hk⟩
  · refine ⟨w, I, L, ?_, hs, hk⟩
    simp [Builtin.clear_, run_und hT']
  · have hb := hs.own r (.map es clock) (by simp)
    refine ⟨_, I, _, ?_, obj_st hs, hk⟩
    simp [Builtin.clear_, run_und hT', run_getMap hb, run_set (o' := .map #[] clock) hb (fun _ _ _ => by simp)]
theorem run_lenM {T kt E ty : Nat} {x v : Value} {w : World} {I : Imm} {L : LH} (hT : mapB P T = some (kt, E)) (hs : St ω w I L) (h : lenMR x I L v) : (Builtin.len_ #[T] ty #[x]).run P w = .ok v w := by
  have hT' := mapB_spec hT
  obtain ⟨es, hM, rfl⟩ := h
  rcases hM with ⟨rfl, rfl⟩ | ⟨r, clock, rfl, hA⟩
  · simp [Builtin.len_, run_und hT', goInt]
  · simp [Builtin.len_, run_und hT', goInt, run_getMap (hA.heap hs)]
theorem run_mkM {T kt E : Nat} {r : Option Value} {w : World} {I : Imm} {L : LH} {K : Value → M} (hT : mapB P T = some (kt, E)) (hr : r = none ∨ ∃ k i, r = some (.int k i)) (hs : St ω w I L) (h : NewM K I L) :
    ∃ v w' I' L', (Instr.makeMap T r).run P w = .ok v w' ∧ St ω w' I' L' ∧ K v I' L' := by
  have hT' := mapB_spec hT
  refine ⟨.map (some w.heap.size), _, I, _, ?_, hs.push (.map #[] 0), h _⟩
  rcases hr with rfl | ⟨k, i, rfl⟩
  · simp [Instr.makeMap, newObj, Sem.run]
  · simp [Instr.makeMap, newObj, Sem.run, run_und hT', asInt, asIntOf]
theorem run_rng {T : Nat} {d : TypeDesc} {x : Value} {w : World} {I : Imm} {L : LH} {K : Value → M} (hu : P.underlying T = some d) (hs : St ω w I L)
    (h : (∃ k e, d = .map k e ∧ RngMp x K I L) ∨ (d = .string ∧ RngS x K I L)) :
    ∃ v w' I' L', (Instr.range T x).run P w = .ok v w' ∧ St ω w' I' L' ∧ K v I' L' := by
  rcases h with ⟨k, e, rfl, ⟨rfl, hk⟩ | ⟨r, es, clock, rfl, hA, hk⟩⟩ | ⟨rfl, s, rfl, hk⟩
  · refine ⟨_, _, I, _, ?_, hs.push (.mapIter none 0 #[] 0), hk _⟩
    simp [Instr.range, newObj, Sem.run, run_und hu]
  · refine ⟨_, _, I, _, ?_, hs.push (.mapIter (some r) clock #[] clock), hk _⟩
    simp [Instr.range, newObj, Sem.run, run_und hu, run_getMap (hA.heap hs)]
  · refine ⟨_, _, I, _, ?_, hs.push (.stringIter s 0), hk _⟩
    simp [Instr.range, newObj, Sem.run, run_und hu]
theorem run_nxtS {T : Nat} {x : Value} {w : World} {I : Imm} {L : LH} {K : Value → M} (hs : St ω w I L) (h : NxtS x K I L) :
    ∃ v w' I' L', (Instr.next x true T).run P w = .ok v w' ∧ St ω w' I' L' ∧ K v I' L' := by
  obtain ⟨b, s, pos, L1, L2, rfl, rfl, hk⟩ := h
  have hb := hs.own b (.stringIter s pos) (by simp)
  have hg : (getObj b).run P w = .ok (.stringIter s pos) w := by simp [getObj, Sem.run, hb]
  by_cases hp : pos < s.size
  · rw [if_pos hp] at hk
    refine ⟨_, _, I, _, ?_, obj_st hs, hk⟩
    simp only [Instr.next, Sem.run_bind, hg, Result.andThen_ok, if_pos hp]
    simp [run_set (o' := .stringIter s (pos + (Utf8.decode s pos).2)) hb (fun _ _ _ => by simp), goInt]
  · rw [if_neg hp] at hk
    refine ⟨_, w, I, _, ?_, hs, hk⟩
    simp only [Instr.next, Sem.run_bind, hg, Result.andThen_ok, if_neg hp]
    simp
theorem run_choose {n : Nat} (hn : 0 < n) (w : World) : ∃ i d, i < n ∧ (choose (.mapNext n)).run P w = .ok i { w with drawn := d } := by
  unfold choose
  simp only [Sem.run]
  by_cases hf : (Question.mapNext n).forced = true
  · refine ⟨0, w.drawn, hn, ?_⟩
    simp [hf]
  · refine ⟨w.tape w.drawn (.mapNext n) % n, w.drawn + 1, Nat.mod_lt _ hn, ?_⟩
    simp [hf, Question.cut]
theorem run_nxtM {T : Nat} {x : Value} {w : World} {I : Imm} {L : LH} {K : Value → M} (hs : St ω w I L) (h : NxtM x K I L) :
    ∃ v w' I' L', (Instr.next x false T).run P w = .ok v w' ∧ St ω w' I' L' ∧ K v I' L' := by
  obtain ⟨b, L1, L2, rfl, ⟨since, seen, last, hL, hk⟩ | ⟨r, since, seen, last, es, clock, hL, hA, hno, hend, hall⟩⟩ := h
  · have hb := hs.own b (.mapIter none since seen last) (by rw [hL]; simp)
    have hg : (getObj b).run P w = .ok (.mapIter none since seen last) w := by simp [getObj, Sem.run, hb]
    refine ⟨_, w, I, L, ?_, hs, hk⟩
    simp [Instr.next, hg]
  · subst hL
    have hb := hs.own b (.mapIter (some r) since seen last) (by simp)
    have hg : (getObj b).run P w = .ok (.mapIter (some r) since seen last) w := by simp [getObj, Sem.run, hb]
    have hm := run_getMap (P := P) (hA.heap hs)
    obtain ⟨left, hleft⟩ : ∃ left, left = es.filter fun e => !seen.contains e.born := ⟨_, rfl⟩
    obtain ⟨cands, hc⟩ : ∃ c : Array (Option MapEntry), c = (if (left.filter (·.born < since)).isEmpty then #[none] else #[]) ++ (left.filter (·.born < since) ++ left.filter (·.born ≥ since)).map some := ⟨_, rfl⟩
    have hpos : 0 < cands.size := by
      rw [hc]
      by_cases he : (left.filter (·.born < since)).isEmpty = true
      · simp [he]; omega
      · have : (left.filter (·.born < since)).size ≠ 0 := by simpa [Array.isEmpty] using he
        simp only [he, Bool.false_eq_true, if_false, Array.size_append, Array.size_map]
        omega
    obtain ⟨i, dr, hi, hrun⟩ := run_choose (P := P) hpos w
    have hcand := Array.getElem?_eq_getElem hi
    have hs' := hs.drew dr
    have hpre : (Instr.next (.pointer (some ⟨b, 0, none⟩)) false T).run P w = ((match cands[i]? with
        | some (some e) => do
          setObj b (.mapIter (some r) since (seen.push e.born) clock)
          pure (.tuple #[.bool true, e.key, e.val])
        | some none => pure (.tuple #[.bool false])
        | none => stuck "Next: no such candidate" : Sem Value)).run P { w with drawn := dr } := by
      simp only [Instr.next, Sem.run_bind, hg, Result.andThen_ok, hm]
      rw [if_neg hno]
      simp only [Sem.run_bind, Sem.run_pure, Result.andThen_ok]
      rw [← hleft, ← hc, hrun]
      rfl
    rw [hpre, hcand]
    have hmem : cands[i] ∈ cands := Array.getElem_mem hi
    cases hci : cands[i] with
    | none =>
      rw [hci] at hmem
      refine ⟨_, _, I, _, by simp, hs', hend ?_⟩
      intro e he hns
      by_cases he2 : (left.filter (·.born < since)).isEmpty = true
      · rcases Nat.lt_or_ge e.born since with hlt | hge
        · exfalso
          have : e ∈ left.filter (·.born < since) := by
            rw [hleft]
            simp only [Array.mem_filter, decide_eq_true_eq, Bool.not_eq_true']
            exact ⟨⟨he, hns⟩, hlt⟩
          rw [Array.isEmpty_iff.1 he2] at this
          simp at this
        · exact hge
      · rw [hc] at hmem
        simp [he2] at hmem
    | some e =>
      rw [hci] at hmem
      have hel : e ∈ left := by
        rw [hc] at hmem
        rcases Array.mem_append.1 hmem with hmem | hmem
        · split at hmem <;> simp at hmem
        · obtain ⟨e', he', hee⟩ := Array.mem_map.1 hmem
          simp only [Option.some.injEq] at hee
          subst hee
          rcases Array.mem_append.1 he' with he' | he'
          · exact (Array.mem_filter.1 he').1
          · exact (Array.mem_filter.1 he').1
      rw [hleft] at hel
      simp only [Array.mem_filter, Bool.not_eq_true'] at hel
      refine ⟨_, _, I, _, ?_, obj_st hs', hall e hel.1 hel.2⟩
      simp only [Sem.run_bind, run_set (P := P) (o' := .mapIter (some r) since (seen.push e.born) clock) (w := { w with drawn := dr }) hb (fun _ _ _ => by simp), Result.andThen_ok, Sem.run_pure]
theorem run_ent {x v : Value} {w : World} {I : Imm} {L : LH} (hs : St ω w I L) (h : entR x I L v) : (Instr.entry x).run P w = .ok v w := by
  obtain ⟨b, r, since, seen, last, es, clock, st, e, rfl, hb, hst, hA, hcl, hf, rfl⟩ := h
  have hb' : w.heap[b]? = some (.mapIter (some r) since seen last) := hb.elim (hs.own _ _) (hs.imm _ _)
  have hg : (getObj b).run P w = .ok (.mapIter (some r) since seen last) w := by simp [getObj, Sem.run, hb']
  have hm := run_getMap (P := P) (hA.heap hs)
  simp only [Instr.entry, Sem.run_bind, hg, Result.andThen_ok, hst, hm, hcl, Bool.false_eq_true, if_false, hf, Sem.run_pure]
theorem iface_not {T : Nat} {d : TypeDesc} (hd : P.underlying T = some d) (h : ifaceB P T = false) : ∀ ms, d ≠ .interface ms := by
  intro ms e; subst e
  simp [ifaceB, hd] at h
theorem run_mkI {T : Nat} {d : TypeDesc} {v : Value} {w : World} (hd : P.underlying T = some d) (h : ifaceB P T = false) : (Instr.makeInterface T v).run P w = .ok (.iface T v) w := by
  have := iface_not hd h
  unfold Instr.makeInterface
  simp only [Sem.run_bind, run_und hd, Result.andThen_ok]
  cases d <;> first | exact absurd rfl (this _) | simp
theorem run_asrt {T U : Nat} {d : TypeDesc} {x v z : Value} {w : World} (hd : P.underlying T = some d) (h : ifaceB P T = false) (hz : znv P T = some z) (hv : asrtV T z x = some v) : (Instr.typeAssert x U T true).run P w = .ok v w := by
  have := iface_not hd h
  unfold Instr.typeAssert
  simp only [Sem.run_bind, run_und hd, Result.andThen_ok]
  unfold asrtV at hv
  split at hv
  · simp only [Option.some.injEq] at hv; subst hv
    cases d <;> first | exact absurd rfl (this _) | simp [znv_spec hz]
  · rename_i t u
    simp only [Option.some.injEq] at hv
    by_cases ht : t = T
    · subst ht
      simp only [Nat.beq_refl, if_true] at hv; subst hv
      cases d <;> first | exact absurd rfl (this _) | simp
    · have hb : Nat.beq t T = false := by
        cases hb : Nat.beq t T with
        | false => rfl
        | true => exact absurd (Nat.eq_of_beq_eq_true hb) ht
      simp only [hb, Bool.false_eq_true, if_false] at hv; subst hv
      cases d <;> first | exact absurd rfl (this _) | simp [ht, znv_spec hz]
  · cases hv
theorem eq_map (d : Nat) {T k E : TypeId} {w : World} (hu : P.underlying T = some (.map k E)) (b : Option Nat) (a : Nat) :
    (Op.equalIn (d + 1) T (.map none) (.map b)).run P w = .ok b.isNone w ∧ (Op.equalIn (d + 1) T (.map (some a)) (.map none)).run P w = .ok false w := by
  constructor <;> simp [Op.equalIn, run_und hu]
theorem run_binM {op : BinOp} {T k E : Nat} {x y v : Value} {w : World} (hu : P.underlying T = some (.map k E)) (hv : binMV op x y = some v) : (binOp op T x y).run P w = .ok v w := by
  unfold binMV at hv
  split at hv <;> simp only [Option.some.injEq, reduceCtorEq] at hv <;> subst hv <;> simp only [binOp] <;>
    simp [Op.equal, Op.maxDepth, (eq_map 9999 hu _ default).1, (eq_map 9999 hu none _).2]
theorem guard_map {op : BinOp} {T : Nat} {o1 o2 : Operand} {x y v : Value} {w : World} (hv : binMV op x y = some v) : (eqGuard op T o1 o2 x y).run P w = .ok () w := by
  unfold binMV at hv
  split at hv <;> simp only [Option.some.injEq, reduceCtorEq] at hv <;> simp [eqGuard]
theorem eq_if (d : Nat) {T : TypeId} {ms : Array (String × TypeId)} {w : World} (hu : P.underlying T = some (.interface ms)) (t : Nat) (v : Value) :
    (Op.equalIn (d + 1) T .nilIface .nilIface).run P w = .ok true w ∧ (Op.equalIn (d + 1) T (.iface t v) .nilIface).run P w = .ok false w := by
  constructor <;> simp [Op.equalIn, run_und hu]
theorem run_binF {op : BinOp} {T : Nat} {lit : Bool} {x y v : Value} {w : World} (hi : ifaceB P T = true) (hv : binFV lit op x y = some v) : (binOp op T x y).run P w = .ok v w := by
  unfold ifaceB at hi
  split at hi
  · rename_i ms hu
    unfold binFV at hv
    split at hv <;> (try split at hv) <;> simp only [Option.some.injEq, reduceCtorEq] at hv <;> subst hv <;> simp only [binOp] <;>
      simp [Op.equal, Op.maxDepth, (eq_if 9999 hu _ _).2, (eq_if 9999 hu 0 .nilIface).1]
  · cases hi
theorem guard_if {op : BinOp} {T : Nat} {o1 o2 : Operand} {x y v : Value} {w : World} (hv : binFV (litB o1 || litB o2) op x y = some v) : (eqGuard op T o1 o2 x y).run P w = .ok () w := by
  have nn : (litB o1 || litB o2) = true → (eqGuard op T o1 o2 .nilIface .nilIface).run P w = .ok () w := by
    intro hl
    cases o1 <;> cases o2 <;> simp [litB] at hl <;> simp [eqGuard]
  unfold binFV at hv
  split at hv
  · simp [eqGuard]
  · simp [eqGuard]
  · split at hv
    · rename_i hl; exact nn hl
    · cases hv
  · split at hv
    · rename_i hl; exact nn hl
    · cases hv
  · cases hv
end
end Go.SL
