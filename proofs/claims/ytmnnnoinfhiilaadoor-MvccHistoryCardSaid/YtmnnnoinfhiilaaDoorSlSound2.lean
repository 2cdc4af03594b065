/-
  What the model does at one operation that changes memory.
-/
import Derived.Test.YtmnnnoinfhiilaaDoorSlSound
import Derived.IntWalk
set_option linter.unusedSimpArgs false
set_option linter.unusedVariables false
set_option linter.unusedSectionVars false
namespace Go.SL
section
variable {P : Program} {ω : Om}
theorem wr_get : ∀ (vs : List Value) (cs : Array Value) (off j : Nat), off + vs.length ≤ cs.size →
    (wr cs off vs)[j]? = if j < off then cs[j]? else if j < off + vs.length then vs[j - off]? else cs[j]?
  | [], cs, off, j, _ => by simp only [wr, List.length_nil, Nat.add_zero]; split <;> rfl
  | v :: vs, cs, off, j, h => by
    simp only [List.length_cons] at h
    rw [wr, wr_get vs _ (off + 1) j (by simp; omega)]
    simp only [List.length_cons]
    by_cases h1 : j < off
    · rw [if_pos (by omega), if_pos h1, Array.getElem?_setIfInBounds_ne (by omega)]
    · rw [if_neg h1]
      by_cases h2 : j = off
      · subst h2
        rw [if_pos (by omega), if_pos (by omega), Array.getElem?_setIfInBounds_self_of_lt (by omega)]; simp
      · rw [if_neg (by omega), Array.getElem?_setIfInBounds_ne (by omega)]
        by_cases h3 : j < off + 1 + vs.length
        · rw [if_pos h3, if_pos (by omega), show j - off = (j - (off + 1)) + 1 from by omega]; simp
        · rw [if_neg h3, if_neg (by omega)]
theorem wr_size : ∀ (vs : List Value) (cs : Array Value) (off : Nat), (wr cs off vs).size = cs.size
  | [], _, _ => rfl
  | _ :: vs, _, _ => by rw [wr, wr_size vs]; simp
theorem wr_eq (vs : List Value) (cs : Array Value) (off : Nat) (h : off + vs.length ≤ cs.size) :
    wr cs off vs = (cs.toList.take off ++ vs ++ cs.toList.drop (off + vs.length)).toArray := by
  apply Array.ext_getElem?
  intro j
  rw [wr_get vs cs off j h]
  have hc : cs.toList.length = cs.size := by simp
  have ht : (cs.toList.take off).length = off := by rw [List.length_take]; omega
  simp only [List.getElem?_toArray, List.append_assoc, List.getElem?_append, ht, List.getElem?_drop]
  by_cases h1 : j < off
  · simp [h1]
  · rw [if_neg h1, if_neg h1]
    by_cases h2 : j < off + vs.length
    · rw [if_pos h2, if_pos (by omega)]
    · rw [if_neg h2, if_neg (by omega), show off + vs.length + (j - off - vs.length) = j from by omega]; simp
theorem setRow_st {w : World} {I : Imm} {L1 L2 : LH} {b T : Nat} {fr : Nat × Nat} {cs cs' : Array Value} (h : St ω w I (L1 ++ (b, .cells cs T fr) :: L2)) :
    St ω (w.setRow b cs') I (L1 ++ (b, .cells cs' T fr) :: L2) := by
  have hb := h.own b (.cells cs T fr) (by simp)
  have hnd := h.nodup
  have hne : ∀ b' o', (b', o') ∈ L1 ∨ (b', o') ∈ L2 → b' ≠ b := by
    intro b' o' hm e
    subst e
    simp only [List.map_append, List.map_cons, List.nodup_append, List.nodup_cons] at hnd
    rcases hm with hm | hm
    · exact hnd.2.2 b' (List.mem_map.2 ⟨_, hm, rfl⟩) b' (List.mem_cons_self ..) rfl
    · exact hnd.2.1.1 (List.mem_map.2 ⟨_, hm, rfl⟩)
  have hat : ∀ b', b' ≠ b → (w.setRow b cs').heap[b']? = w.heap[b']? := by
    intro b' hb'
    simp only [World.setRow, Array.getElem?_modify]
    rw [if_neg (fun e => hb' e.symm)]
  refine ⟨fun b' o' hb' => ?_, fun b' o' hb' => ?_, by simpa using h.nodup, fun b' o' hb' => ?_, h.tape, h.os, h.out⟩
  · rw [hat b' (fun e => by subst e; have := h.apart b' _ (by simp : (b', Obj.cells cs T fr) ∈ _); rw [this] at hb'; cases hb')]
    exact h.imm b' o' hb'
  · simp only [List.mem_append, List.mem_cons, Prod.mk.injEq] at hb'
    rcases hb' with hb' | ⟨rfl, rfl⟩ | hb'
    · rw [hat b' (hne b' o' (.inl hb'))]; exact h.own b' o' (by simp [hb'])
    · exact setRow_heap w b' cs cs' T fr hb
    · rw [hat b' (hne b' o' (.inr hb'))]; exact h.own b' o' (by simp [hb'])
  · simp only [List.mem_append, List.mem_cons, Prod.mk.injEq] at hb'
    rcases hb' with hb' | ⟨rfl, rfl⟩ | hb'
    · exact h.apart b' o' (by simp [hb'])
    · exact h.apart b' (.cells cs T fr) (by simp)
    · exact h.apart b' o' (by simp [hb'])
theorem obj_st {w : World} {I : Imm} {L1 L2 : LH} {b : Nat} {o o' : Obj} (h : St ω w I (L1 ++ (b, o) :: L2)) :
    St ω { w with heap := w.heap.setIfInBounds b o' } I (L1 ++ (b, o') :: L2) := by
  have hb := h.own b o (by simp)
  have hnd := h.nodup
  have hne : ∀ b' o', (b', o') ∈ L1 ∨ (b', o') ∈ L2 → b' ≠ b := by
    intro b' o' hm e
    subst e
    simp only [List.map_append, List.map_cons, List.nodup_append, List.nodup_cons] at hnd
    rcases hm with hm | hm
    · exact hnd.2.2 b' (List.mem_map.2 ⟨_, hm, rfl⟩) b' (List.mem_cons_self ..) rfl
    · exact hnd.2.1.1 (List.mem_map.2 ⟨_, hm, rfl⟩)
  have hat : ∀ b', b' ≠ b → (w.heap.setIfInBounds b o')[b']? = w.heap[b']? := fun b' hb' => Array.getElem?_setIfInBounds_ne (fun e => hb' e.symm)
  refine ⟨fun b' o2 hb' => ?_, fun b' o2 hb' => ?_, by simpa using h.nodup, fun b' o2 hb' => ?_, h.tape, h.os, h.out⟩
  · rw [hat b' (fun e => by subst e; have := h.apart b' _ (by simp : (b', o) ∈ _); rw [this] at hb'; cases hb')]
    exact h.imm b' o2 hb'
  · simp only [List.mem_append, List.mem_cons, Prod.mk.injEq] at hb'
    rcases hb' with hb' | ⟨rfl, rfl⟩ | hb'
    · rw [hat b' (hne b' o2 (.inl hb'))]; exact h.own b' o2 (by simp [hb'])
    · have hlt := (Array.getElem?_eq_some_iff.1 hb).1
      simp [hlt]
    · rw [hat b' (hne b' o2 (.inr hb'))]; exact h.own b' o2 (by simp [hb'])
  · simp only [List.mem_append, List.mem_cons, Prod.mk.injEq] at hb'
    rcases hb' with hb' | ⟨rfl, rfl⟩ | hb'
    · exact h.apart b' o2 (by simp [hb'])
    · exact h.apart b' o (by simp)
    · exact h.apart b' o2 (by simp [hb'])
theorem freeze_set (w : World) {b : Nat} {cs : Array Value} {T : Nat} (hb : w.heap[b]? = some (.cells cs T (0, 0))) :
    w.freeze { block := b, off := cs.size } 1 = { w with heap := w.heap.setIfInBounds b (.cells cs T (cs.size, cs.size + 1)) } := by
  unfold World.freeze
  simp only [Nat.one_ne_zero, if_false]
  congr 1
  apply Array.ext_getElem?
  intro j
  rw [Array.getElem?_modify]
  by_cases hj : b = j
  · subst hj
    have hlt := (Array.getElem?_eq_some_iff.1 hb).1
    rw [hb, if_pos rfl, Array.getElem?_setIfInBounds_self_of_lt hlt]
    simp
  · rw [if_neg hj, Array.getElem?_setIfInBounds_ne hj]
theorem run_mrkS {T E : Nat} {x : Value} {K : Value → M} {w : World} {I : Imm} {L : LH} (hu : P.underlying T = some (.slice E)) (hE : P.underlying E = some (.int .u8)) (hs : St ω w I L) (h : MrkS x K I L) :
    ∃ u w' I' L', (convert T T x).run P w = .ok u w' ∧ St ω w' I' L' ∧ K u I' L' := by
  obtain ⟨b, off, len, cap, cs, T', L1, L2, rfl, rfl, hK⟩ := h
  have hb := hs.own b (.cells cs T' (0, 0)) (by simp)
  refine ⟨_, _, I, _, ?_, obj_st (o' := .cells cs T' (cs.size, cs.size + 1)) hs, hK⟩
  have hsh : w.shape? b = some (T', cs.size) := by simp [World.shape?, hb]
  simp only [convert, run_und hu, Sem.run_bind, Result.andThen_ok, beq_self_eq_true, run_und hE, markStringish, run_shape, hsh, run_freeze, Sem.run_pure, freeze_set w hb]
theorem run_cvSB {src T E : Nat} {x : Value} {K : Value → M} {w : World} {I : Imm} {L : LH} (hs' : P.underlying src = some .string) (hu : P.underlying T = some (.slice E)) (hE : P.underlying E = some (.int .u8)) (hs : St ω w I L) (h : CvSB E x K I L) :
    ∃ u w' I' L', (convert src T x).run P w = .ok u w' ∧ St ω w' I' L' ∧ K u I' L' := by
  obtain ⟨s, rfl, hK⟩ := h
  have hq : (Question.appendCap s.size 0 E).forced = false := rfl
  let c := (Question.appendCap s.size 0 E).cut (w.tape w.drawn (Question.appendCap s.size 0 E))
  have hc : s.size ≤ c := Nat.le_add_right _ _
  let cells : Array Value := s.data.map (fun b => .int .u8 b.toNat) ++ Array.replicate (c - s.size) (.int .u8 0)
  have hcs : cells.size = c := by
    have : s.data.size = s.size := rfl
    simp [cells, this]; omega
  have h1 : St ω { w with drawn := w.drawn + 1 } I L := hs.drew _
  have h2 := h1.push (.cells cells E (0, 0))
  have h3 := obj_st (L1 := []) (o' := .cells cells E (c, c + 1)) h2
  refine ⟨.slice (some ⟨w.heap.size, 0, none⟩) s.size c, _, I, _, ?_, h3, hK w.heap.size c hc⟩
  have hb : ({ w with drawn := w.drawn + 1, heap := w.heap.push (.cells cells E (0, 0)) } : World).heap[w.heap.size]? = some (.cells cells E (0, 0)) := by simp
  have hfr := freeze_set _ hb
  rw [hcs] at hfr
  have hsh : ({ w with drawn := w.drawn + 1, heap := w.heap.push (.cells cells E (0, 0)) } : World).shape? w.heap.size = some (E, c) := by simp [World.shape?, hcs]
  simp only [convert, run_und hs', run_und hu, Sem.run_bind, Result.andThen_ok, run_und hE, Conv.stringToBytes, run_choose, hq, Bool.false_eq_true, if_false, newRow, run_newObj, Sem.run_pure, markStringish, run_shape, hsh, run_freeze, hfr, cells, c]
theorem run_stores {w : World} {I : Imm} {L1 L2 : LH} {b T off : Nat} {cs : Array Value} {vs : List Value} (h : St ω w I (L1 ++ (b, .cells cs T (0, 0)) :: L2)) (hl : off + vs.length ≤ cs.size)
    (h1 : ∀ v ∈ vs, one v = true) : ∃ w', (storeCells ⟨b, off, none⟩ vs).run P w = .ok () w' ∧ St ω w' I (L1 ++ (b, .cells (wr cs off vs) T (0, 0)) :: L2) := by
  have hb := h.own b (.cells cs T (0, 0)) (by simp)
  have hr := run_storeCells_at (P := P) b off T vs 0 cs w hb (by omega) h1
  refine ⟨_, hr, ?_⟩
  rw [wr_eq vs cs off hl]
  exact setRow_st h
theorem run_sto {T n by' : Nat} {z : Array Value} {x v : Value} {K : Value → M} {w : World} {I : Imm} {L : LH} (ht : tinfo P T = some (n, by', z)) (hs : St ω w I L) (h : Sto n x v K I L) :
    ∃ w' I' L', (Instr.storeAt T x v).run P w = .ok () w' ∧ St ω w' I' L' ∧ K undef I' L' := by
  obtain ⟨inf, zv, hi', hz, rfl, hn, _, _, _⟩ := tinfo_spec ht
  obtain ⟨b, off, cs, T', L1, L2, rfl, hsz, h1, hle, rfl, hK⟩ := h
  obtain ⟨w', hr, hst⟩ := run_stores (P := P) (vs := v.cells.toList) hs (by simp [hsz]; exact hle) h1
  refine ⟨w', I, _, ?_, hst, hK⟩
  simp [Instr.storeAt, Instr.sureAddr, storeVar, run_sizeOf hi', hn, hsz, hr]
theorem run_new {T : Nat} {v : Value} {K : Value → M} {w : World} {I : Imm} {L : LH} (hs : St ω w I L) (h : New (.cells v.cells T (0, 0)) K I L) :
    ∃ u w' I' L', (Instr.box T v).run P w = .ok u w' ∧ St ω w' I' L' ∧ K u I' L' :=
  ⟨.pointer (some ⟨w.heap.size, 0, none⟩), _, I, _, by simp [Instr.box, newVar, newRow], hs.push _, h _⟩
theorem run_alloc {T n by' : Nat} {z : Array Value} {K : Value → M} {w : World} {I : Imm} {L : LH} (ht : tinfo P T = some (n, by', z)) (hs : St ω w I L) (h : New (.cells z T (0, 0)) K I L) :
    ∃ u w' I' L', (Instr.alloc T true (.tuple #[])).run P w = .ok u w' ∧ St ω w' I' L' ∧ K u I' L' := by
  obtain ⟨inf, zv, hi', hz, rfl, hn, _, _, _⟩ := tinfo_spec ht
  exact ⟨.pointer (some ⟨w.heap.size, 0, none⟩), _, I, _, by simp [Instr.alloc, run_zero hi' hz, newVar, newRow], hs.push _, h _⟩
theorem run_mkS {T E by' n : Nat} {z : Array Value} {l c : Value} {K : Value → M} {w : World} {I : Imm} {L : LH} (hu : P.underlying T = some (.slice E)) (ht : tinfo P E = some (n, by', z))
    (hs : St ω w I L) (h : MkS E by' z l c K I L) : ∃ u w' I' L', (Instr.makeSlice T l c).run P w = .ok u w' ∧ St ω w' I' L' ∧ K u I' L' := by
  obtain ⟨inf, zv, hi', hz, rfl, hn, hby, hsz, hpos⟩ := tinfo_spec ht
  obtain ⟨k, k', ln, cn, rfl, rfl, hlc, hc, hcb, hK⟩ := h
  have hwl : IntKind.i64.wrap (ln : Int) = ln := IntWalk.i64_in _ (by omega)
  have hwc : IntKind.i64.wrap (cn : Int) = cn := IntWalk.i64_in _ (by omega)
  have hcells : (Array.range (cn * n)).map ((if cn * n = 0 then #[] else zv.cells)[· % (if cn * n = 0 then #[] else zv.cells).size]!) = Builtin.zeroCells zv.cells cn := by
    unfold Builtin.zeroCells
    rw [hsz]
    by_cases h0 : cn * n = 0
    · rw [h0]; simp
    · simp only [h0, if_false]; rw [hsz]
  refine ⟨.slice (some ⟨w.heap.size, 0, none⟩) ln cn, { w with heap := w.heap.push (.cells (Builtin.zeroCells zv.cells cn) E (0, 0)) }, I, _, ?_, hs.push _, hK _⟩
  have hnn : ¬ ((cn : Int) < 0) := by omega
  have hbb : ¬ (281474976710656 < ((by' : Int)) * (cn : Int)) := by
    have h1 : (((cn * by' : Nat)) : Int) ≤ ((281474976710656 : Nat) : Int) := Int.ofNat_le.2 hcb
    rw [Int.natCast_mul, Int.mul_comm] at h1
    exact Int.not_lt.2 h1
  have hln : ¬ ((ln : Int) < 0) := by omega
  have hgt : ¬ ((ln : Int) > (cn : Int)) := by omega
  rw [← hcells]
  by_cases h0 : cn * n = 0
  · simp [Instr.makeSlice, run_und hu, asInt, asIntOf, run_info hi', hby, hwl, hwc, hnn, hbb, hln, hgt, run_sizeOf hi', hn, h0, newRow]
  · simp [Instr.makeSlice, run_und hu, asInt, asIntOf, run_info hi', hby, hwl, hwc, hnn, hbb, hln, hgt, run_sizeOf hi', hn, h0, newRow, run_zero hi' hz]
end
end Go.SL
