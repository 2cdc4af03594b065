/-
  Append, copy, clear, composite slices; and the operation as a whole.
-/
import Derived.Test.YtmnnnoinfhiilaaDoorSlSound2
set_option linter.unusedSimpArgs false
set_option linter.unusedVariables false
set_option linter.unusedSectionVars false
namespace Go.SL
section
variable {P : Program} {ω : Om}
theorem run_bldS {T E by' n len : Nat} {z : Array Value} {parts : Array (Nat × Value)} {K : Value → M} {w : World} {I : Imm} {L : LH} (hu : P.underlying T = some (.slice E)) (ht : tinfo P E = some (n, by', z))
    (hle : len * n ≤ 16777216) (hs : St ω w I L) (h : BldS E n z len parts.toList K I L) : ∃ u w' I' L', (Instr.buildSlice T len parts).run P w = .ok u w' ∧ St ω w' I' L' ∧ K u I' L' := by
  obtain ⟨inf, zv, hi', hz, rfl, hn, hby, hsz, hpos⟩ := tinfo_spec ht
  obtain ⟨cells, hc, hK⟩ := h
  refine ⟨.slice (some ⟨w.heap.size, 0, none⟩) len len, { w with heap := w.heap.push (.cells cells E (0, 0)) }, I, _, ?_, hs.push _, hK _⟩
  have hcells : ∀ (zz : Array Value), len * n = 0 → (Array.range (len * n)).map (zz[· % zz.size]!) = (Array.range (len * n)).map (zv.cells[· % zv.cells.size]!) := by
    intro zz h0; rw [h0]; simp
  have hnot : ¬ (len * n > 2 ^ 24) := by omega
  by_cases h0 : len * n = 0
  · simp only [Instr.buildSlice, run_und hu, Sem.run_bind, Result.andThen_ok, run_sizeOf hi', hn, if_neg hnot, if_pos h0, Sem.run_pure, hcells #[] h0, hc, newRow, run_newObj]
  · simp only [Instr.buildSlice, run_und hu, Sem.run_bind, Result.andThen_ok, run_sizeOf hi', hn, if_neg hnot, if_neg h0, Sem.run_pure, run_zero hi' hz, hc, newRow, run_newObj]
theorem News.len {n m : Nat} {x : Value} {I : Imm} {L : LH} {news : List Value} (h : News n x I L m news) : (w : World) → (Builtin.lenOf x).run P w = .ok m w := by
  intro w
  rcases h with ⟨a, cap, rfl, rfl, _⟩ | ⟨b, off, cap, rfl, _⟩ | ⟨s, rfl, _, rfl, _⟩ <;> simp [Builtin.lenOf]
theorem News.length {n m : Nat} {x : Value} {I : Imm} {L : LH} {news : List Value} (h : News n x I L m news) : news.length = m * n := by
  rcases h with ⟨a, cap, rfl, rfl, rfl⟩ | ⟨b, off, cap, rfl, hl, _⟩ | ⟨s, rfl, rfl, rfl, rfl⟩
  · simp
  · exact hl
  · simp
theorem Cells.take {I : Imm} {L : LH} {b off : Nat} {vs : List Value} (h : Cells I L b off vs) (k : Nat) : Cells I L b off (vs.take k) := by
  intro j u hu
  rw [List.getElem?_take] at hu
  split at hu
  · exact h j u hu
  · cases hu
theorem News.first {n m k : Nat} {x : Value} {I : Imm} {L : LH} {news : List Value} (h : News n x I L m news) (hk : k ≤ m) {w : World} (hs : St ω w I L) :
    (Builtin.firstCells n k x).run P w = .ok (news.take (k * n)).toArray w := by
  rcases h with ⟨a, cap, rfl, rfl, rfl⟩ | ⟨b, off, cap, rfl, hl, hc⟩ | ⟨s, rfl, rfl, rfl, rfl⟩
  · have hk0 : k = 0 := by omega
    subst hk0
    cases a <;> simp [Builtin.firstCells, loadCells, loadCellsFrom]
  · have := Cells.load (P := P) hs (hc.take (k * n))
    have hlen : (news.take (k * n)).length = k * n := by
      rw [List.length_take, hl]
      exact Nat.min_eq_left (Nat.mul_le_mul_right n hk)
    rw [hlen] at this
    simp only [Builtin.firstCells, this]
  · simp only [Builtin.firstCells, Sem.run_pure, Nat.mul_one]
    congr 1
    apply Array.ext'
    simp [ByteArray.data_extract]
theorem News.all {n m : Nat} {x : Value} {I : Imm} {L : LH} {news : List Value} (h : News n x I L m news) {w : World} (hs : St ω w I L) :
    (Builtin.firstCells n m x).run P w = .ok news.toArray w := by
  have := h.first (P := P) (Nat.le_refl m) hs
  rwa [List.take_of_length_le (by rw [h.length]; exact Nat.le_refl _)] at this
theorem growBy_le {need : Nat} : ∀ (k c : Nat), c ≤ need + (need + 768) / 4 → Builtin.growBy need k c ≤ need + (need + 768) / 4
  | 0, c, h => h
  | k + 1, c, h => by
    unfold Builtin.growBy
    split
    · exact h
    · exact growBy_le k _ (by omega)
theorem growslice_fits2 {need old bytes : Nat} (h : old < need) (hb : need * bytes ≤ 150000000000000) (h1 : bytes ≤ 1073741824) : Builtin.nextslicecap need old * bytes ≤ 281474976710656 := by
  unfold Builtin.nextslicecap
  split
  · omega
  · split
    · have : 2 * old * bytes ≤ 512 * 1073741824 := Nat.mul_le_mul (by omega) h1
      omega
    · have h2 := Nat.mul_le_mul_right bytes (growBy_le (need := need) 4 old (by omega))
      refine Nat.le_trans h2 ?_
      have h3 : 4 * ((need + 768) / 4) * bytes ≤ (need + 768) * bytes := Nat.mul_le_mul_right _ (by omega)
      rw [Nat.add_mul, Nat.mul_assoc] at h3
      rw [Nat.add_mul]
      omega
theorem run_app {T T' ty E by' n : Nat} {d : TypeDesc} {z : Array Value} {s x : Value} {K : Value → M} {w : World} {I : Imm} {L : LH} (hu : P.underlying T = some (.slice E)) (hu' : P.underlying T' = some d)
    (hd : ∀ k, d ≠ .int k) (ht : tinfo P E = some (n, by', z)) (hb30 : by' ≤ 1073741824) (hs : St ω w I L) (h : App E n by' z s x K I L) :
    ∃ u w' I' L', (Builtin.append_ #[T, T'] ty #[s, x]).run P w = .ok u w' ∧ St ω w' I' L' ∧ K u I' L' := by
  obtain ⟨inf, zv, hi', hz, rfl, hn, hby, hsz, hpos⟩ := tinfo_spec ht
  obtain ⟨a, len, cap, m, news, rfl, hnews, h1, h⟩ := h
  have hzeros : (match d with | .int _ => true | _ => false) = false := by
    cases d <;> first | rfl | exact absurd rfl (hd _)
  rcases h with ⟨hfit, rfl, hK⟩ | ⟨hfit, b, off, cs, T2, L1, L2, rfl, rfl, hle, hK⟩ | ⟨hgrow, hbytes, hmax, olds, L0, holds, hsub, hK⟩
  · refine ⟨_, w, I, L, ?_, hs, hK⟩
    simp only [Builtin.append_, List.getElem?_toArray, List.getElem?_cons_zero, List.getElem?_cons_succ, run_und hu, Sem.run_bind, Result.andThen_ok, run_sizeOf hi', hn, run_und hu', Sem.run_pure, hzeros, Bool.false_eq_true,
      if_false, hnews.len, if_pos hfit, Bool.not_false, if_true, hnews.all hs]
    cases a <;> simp [storeCells]
  · obtain ⟨w', hr, hst⟩ := run_stores (P := P) (off := off + len * n) (vs := news) hs (by rw [hnews.length, Nat.add_assoc, ← Nat.add_mul]; exact hle) h1
    refine ⟨_, w', I, _, ?_, hst, hK⟩
    simp only [Builtin.append_, List.getElem?_toArray, List.getElem?_cons_zero, List.getElem?_cons_succ, run_und hu, Sem.run_bind, Result.andThen_ok, run_sizeOf hi', hn, run_und hu', Sem.run_pure, hzeros, Bool.false_eq_true,
      if_false, hnews.len, if_pos hfit, Bool.not_false, if_true, hnews.all hs, add_none, hr]
  · have hq : (Question.appendCap (len + m) cap E).forced = false := rfl
    let c := (Question.appendCap (len + m) cap E).cut (w.tape w.drawn (Question.appendCap (len + m) cap E))
    have hc : len + m ≤ c := Nat.le_add_right _ _
    have hs' : St ω { w with drawn := w.drawn + 1 } I L := hs.drew _
    refine ⟨.slice (some ⟨w.heap.size, 0, none⟩) (len + m) c,
      { w with drawn := w.drawn + 1, heap := w.heap.push (.cells ((olds ++ news).toArray ++ Builtin.zeroCells zv.cells (c - (len + m))) E (0, 0)) }, I, _, ?_, (hs'.drop hsub).push _, hK w.heap.size c hc⟩
    have hcap : ¬ (Builtin.nextslicecap (len + m) cap * by' > 2 ^ 48) := by
      have := growslice_fits2 hgrow hbytes hb30
      omega
    have hfit : ¬ (len + m ≤ cap) := by omega
    have hmx : ¬ ((((len + m : Nat) : Int) > IntKind.i64.max) ∧ ((false = true) ∨ by' = 0)) := by
      have : IntKind.i64.max = 9223372036854775807 := by decide
      omega
    simp only [Builtin.append_, List.getElem?_toArray, List.getElem?_cons_zero, List.getElem?_cons_succ, run_und hu, Sem.run_bind, Result.andThen_ok, run_sizeOf hi', hn, run_und hu', Sem.run_pure, hzeros, Bool.false_eq_true,
      if_false, hnews.len, if_neg hfit, Bool.not_false, if_true, run_info hi', hby, if_neg hmx, if_neg hcap, run_choose, hq, run_askRoom, holds.all hs', hnews.all hs', run_zero hi' hz, newRow, run_newObj]
    have hmx' : ¬ (9223372036854775807 < (len : Int) + (m : Int) ∧ by' = 0) := by omega
    have hcap' : ¬ (281474976710656 < Builtin.nextslicecap (len + m) cap * by') := by omega
    simp [c, hmx', hcap', run_info hi', hby, run_zero hi' hz]
    rw [if_neg (by rw [hq]; decide)]
    have e1 : (Builtin.firstCells n len (.slice a len cap)).run P w.drew = .ok olds.toArray w.drew := holds.all hs'
    have e2 : (Builtin.firstCells n m x).run P w.drew = .ok news.toArray w.drew := hnews.all hs'
    simp [e1, e2]
    rw [← List.append_toArray, Array.append_assoc]
    rfl
theorem zc_one {z : Array Value} {m : Nat} (h1 : ∀ u ∈ z.toList, one u = true) (hz : 0 < z.size) : ∀ v ∈ (Builtin.zeroCells z m).toList, one v = true := by
  intro v hv
  simp only [Builtin.zeroCells, Array.toList_map, List.mem_map] at hv
  obtain ⟨j, _, rfl⟩ := hv
  have hlt : j % z.size < z.size := Nat.mod_lt _ (by omega)
  rw [getElem!_pos z _ hlt]
  exact h1 _ (Array.getElem_mem_toList hlt)
theorem run_appZ {T T' ty E by' n : Nat} {k : IntKind} {z : Array Value} {s x : Value} {K : Value → M} {w : World} {I : Imm} {L : LH} (hu : P.underlying T = some (.slice E)) (hu' : P.underlying T' = some (.int k))
    (ht : tinfo P E = some (n, by', z)) (hb30 : by' ≤ 1073741824) (hs : St ω w I L) (h : AppZ E n by' z s x K I L) :
    ∃ u w' I' L', (Builtin.append_ #[T, T'] ty #[s, x]).run P w = .ok u w' ∧ St ω w' I' L' ∧ K u I' L' := by
  obtain ⟨inf, zv, hi', hz, rfl, hn, hby, hsz, hpos⟩ := tinfo_spec ht
  obtain ⟨a, len, cap, m, rfl, rfl, h1, hmb, hm, h⟩ := h
  have hw : IntKind.i64.wrap (m : Int) = m := IntWalk.i64_in _ (by omega)
  have hneg : ¬ ((m : Int) < 0) := by omega
  have hbb : ¬ ((m : Int) * (by' : Int) > 281474976710656) := by
    have h1 : (((m * by' : Nat)) : Int) ≤ ((150000000000000 : Nat) : Int) := Int.ofNat_le.2 hmb
    rw [Int.natCast_mul] at h1
    omega
  have hzl : (Builtin.zeroCells zv.cells m).toList.length = m * n := by simp [Builtin.zeroCells, hsz]
  have hzc : m * n = 0 → Builtin.zeroCells zv.cells m = #[] := by
    intro h0; simp [Builtin.zeroCells, hsz, h0]
  rcases h with ⟨hfit, rfl, hK⟩ | ⟨hfit, b, off, cs, T2, L1, L2, rfl, rfl, hle, hK⟩ | ⟨hgrow, hbytes, hmax, olds, L0, holds, hsub, hK⟩
  · refine ⟨_, w, I, L, ?_, hs, hK⟩
    have hzc : Builtin.zeroCells zv.cells 0 = #[] := by simp [Builtin.zeroCells]
    have hw0 : IntKind.i64.wrap 0 = 0 := by decide
    have hfit' : len ≤ cap := by omega
    cases a <;> simp [Builtin.append_, run_und hu, run_sizeOf hi', hn, run_und hu', asInt, asIntOf, hw0, run_info hi', hby, hfit', storeCells]
  · obtain ⟨w', hr, hst⟩ := run_stores (P := P) (off := off + len * n) (vs := (Builtin.zeroCells zv.cells m).toList) hs (by rw [hzl, Nat.add_assoc, ← Nat.add_mul]; exact hle) (zc_one h1 (by omega))
    refine ⟨_, w', I, _, ?_, hst, hK⟩
    by_cases h0 : m * n = 0
    · rw [hzc h0] at hr
      simp [Builtin.append_, run_und hu, run_sizeOf hi', hn, run_und hu', asInt, asIntOf, hw, run_info hi', hby, hneg, hbb, hfit, add_none, h0]
      simp at hr
      simp [hr]
    · simp [Builtin.append_, run_und hu, run_sizeOf hi', hn, run_und hu', asInt, asIntOf, hw, run_info hi', hby, hneg, hbb, hfit, add_none, hr, h0, run_zero hi' hz]
  · have hq : (Question.appendCap (len + m) cap E).forced = false := rfl
    let c := (Question.appendCap (len + m) cap E).cut (w.tape w.drawn (Question.appendCap (len + m) cap E))
    have hc : len + m ≤ c := Nat.le_add_right _ _
    have hs' : St ω { w with drawn := w.drawn + 1 } I L := hs.drew _
    refine ⟨.slice (some ⟨w.heap.size, 0, none⟩) (len + m) c,
      { w with drawn := w.drawn + 1, heap := w.heap.push (.cells (olds.toArray ++ Builtin.zeroCells zv.cells m ++ Builtin.zeroCells zv.cells (c - (len + m))) E (0, 0)) }, I, _, ?_, (hs'.drop hsub).push _, hK w.heap.size c hc⟩
    have hcap : ¬ (Builtin.nextslicecap (len + m) cap * by' > 2 ^ 48) := by
      have := growslice_fits2 hgrow hbytes hb30
      omega
    have hcap' : ¬ (281474976710656 < Builtin.nextslicecap (len + m) cap * by') := by omega
    have hfit : ¬ (len + m ≤ cap) := by omega
    have hmx : ¬ ((9223372036854775807 : Int) < (len : Int) + (m : Int)) := by omega
    have hmx2 : IntKind.i64.max = 9223372036854775807 := by decide
    have e1 : (Builtin.firstCells n len (.slice a len cap)).run P w.drew = .ok olds.toArray w.drew := holds.all hs'
    simp [Builtin.append_, run_und hu, run_sizeOf hi', hn, run_und hu', asInt, asIntOf, hw, run_info hi', hby, hneg, hbb, hfit, hmx2, hmx, hcap', run_choose]
    rw [if_neg (by rw [hq]; decide)]
    by_cases h0 : m * n = 0
    · simp [e1, h0, run_zero hi' hz, hzc h0, newRow, run_newObj, c]
      rfl
    · simp [e1, h0, run_zero hi' hz, newRow, run_newObj, c]
      rfl
theorem run_cpy {T ty E by' n : Nat} {Ts : List TypeId} {z : Array Value} {s x : Value} {K : Value → M} {w : World} {I : Imm} {L : LH} (hu : P.underlying T = some (.slice E))
    (ht : tinfo P E = some (n, by', z)) (hs : St ω w I L) (h : CpyV n s x K I L) :
    ∃ u w' I' L', (Builtin.copy_ (T :: Ts).toArray ty #[s, x]).run P w = .ok u w' ∧ St ω w' I' L' ∧ K u I' L' := by
  obtain ⟨inf, zv, hi', hz, rfl, hn, hby, hsz, hpos⟩ := tinfo_spec ht
  obtain ⟨a, len, cap, m, xs, rfl, hnews, h⟩ := h
  have hf := hnews.first (P := P) (Nat.min_le_left m len) hs
  rcases h with ⟨h0, hK⟩ | ⟨b, off, cs, T2, L1, L2, rfl, rfl, hle, h1, hK⟩
  · refine ⟨_, w, I, L, ?_, hs, hK⟩
    rw [h0] at hf
    simp only [Nat.zero_mul, List.take_zero] at hf
    have h0' : Nat.min m len = 0 := h0
    simp only [Builtin.copy_, List.getElem?_toArray, List.getElem?_cons_zero, List.getElem?_cons_succ, run_und hu, Sem.run_bind, Result.andThen_ok, run_sizeOf hi', hn, hnews.len, h0', hf]
    cases a <;> simp [storeCells, goInt]
  · have hlen : (xs.take (min m len * n)).length = min m len * n := by
      rw [List.length_take, hnews.length]; exact Nat.min_eq_left (Nat.mul_le_mul_right n (Nat.min_le_left m len))
    obtain ⟨w', hr, hst⟩ := run_stores (P := P) (off := off) (vs := xs.take (min m len * n)) hs (by rw [hlen]; exact hle) (fun v hv => h1 v hv)
    refine ⟨_, w', I, _, ?_, hst, hK⟩
    have hmin : Nat.min m len = min m len := rfl
    simp only [Builtin.copy_, List.getElem?_toArray, List.getElem?_cons_zero, List.getElem?_cons_succ, run_und hu, Sem.run_bind, Result.andThen_ok, run_sizeOf hi', hn, hnews.len, hmin, hf, hr, Sem.run_pure, goInt]
theorem run_clr {T ty E by' n : Nat} {z : Array Value} {x : Value} {K : Value → M} {w : World} {I : Imm} {L : LH} (hu : P.underlying T = some (.slice E))
    (ht : tinfo P E = some (n, by', z)) (hs : St ω w I L) (h : ClrV z x K I L) :
    ∃ u w' I' L', (Builtin.clear_ #[T] ty #[x]).run P w = .ok u w' ∧ St ω w' I' L' ∧ K u I' L' := by
  obtain ⟨inf, zv, hi', hz, rfl, hn, hby, hsz, hpos⟩ := tinfo_spec ht
  rcases h with ⟨a, cap, rfl, hK⟩ | ⟨b, off, len, cap, cs, T2, L1, L2, rfl, rfl, hle, h1, hK⟩
  · refine ⟨_, w, I, L, ?_, hs, hK⟩
    simp only [Builtin.clear_, List.getElem?_toArray, List.getElem?_cons_zero, run_und hu, Sem.run_bind, Result.andThen_ok]
    cases a <;> simp
  · have hz1 : ∀ v ∈ (Builtin.zeroCells zv.cells len).toList, one v = true := by
      intro v hv
      simp only [Builtin.zeroCells, Array.toList_map, List.mem_map] at hv
      obtain ⟨j, _, rfl⟩ := hv
      have hlt : j % zv.cells.size < zv.cells.size := Nat.mod_lt _ (by omega)
      rw [getElem!_pos zv.cells _ hlt]
      exact h1 _ (Array.getElem_mem_toList hlt)
    have hzl : (Builtin.zeroCells zv.cells len).toList.length = len * zv.cells.size := by simp [Builtin.zeroCells]
    obtain ⟨w', hr, hst⟩ := run_stores (P := P) (off := off) (vs := (Builtin.zeroCells zv.cells len).toList) hs (by rw [hzl]; exact hle) hz1
    refine ⟨_, w', I, _, ?_, hst, hK⟩
    cases len with
    | zero =>
      have : (Builtin.zeroCells zv.cells 0).toList = [] := by simp [Builtin.zeroCells]
      rw [this] at hr
      simp only [storeCells, Sem.run_pure, Result.ok.injEq, true_and] at hr
      subst hr
      simp only [Builtin.clear_, List.getElem?_toArray, List.getElem?_cons_zero, run_und hu, Sem.run_bind, Result.andThen_ok, Sem.run_pure]
    | succ len =>
      simp only [Builtin.clear_, List.getElem?_toArray, List.getElem?_cons_zero, run_und hu, Sem.run_bind, Result.andThen_ok, run_zero hi' hz, hr, Sem.run_pure]
def Outc (P : Program) (ω : Om) (K : Value → M) : Result Next → Prop
  | .ok (.value v) w' => ∃ I' L', St ω w' I' L' ∧ K v I' L'
  | .ok .skip w' => ∃ I' L', St ω w' I' L' ∧ K undef I' L'
  | .ok (.enter f args) w' => Calls P f args w' (Ret ω K)
  | .ok (.round l f tmps assign body) w' => RoundIn Fence.wide 0 P l f tmps assign body w' (Ret ω K)
  | _ => False
def OutP (P : Program) (ω : Om) (K Pn : Value → M) : Result Next → Prop
  | .ok (.value v) w' => ∃ I' L', St ω w' I' L' ∧ K v I' L'
  | .ok .skip w' => ∃ I' L', St ω w' I' L' ∧ K undef I' L'
  | .ok (.enter f args) w' => Calls P f args w' (RetP ω K Pn)
  | .ok (.round l f tmps assign body) w' => RoundIn Fence.wide 0 P l f tmps assign body w' (Ret ω K)
  | .halt (.panic v) w' => ∃ I' L', St ω w' I' L' ∧ Pn v I' L'
  | _ => False
theorem Outc.toP {K Pn : Value → M} {r : Result Next} (h : Outc P ω K r) : OutP P ω K Pn r := by
  unfold Outc at h
  split at h
  · exact h
  · exact h
  · exact Calls.mono h fun e w' ⟨v, I', L', he, hs, hk⟩ => ⟨v, I', L', hs, .inl ⟨he, hk⟩⟩
  · exact h
  · exact h.elim
theorem run_calV {x : Value} {args : Array Value} {K : Value → M} {w : World} {I : Imm} {L : LH} (hs : St ω w I L) (h : CalV P ω x args K I L) :
    Outc P ω K ((do let d ← Deferred.ofValue x args; invoke d.target d.args : Sem Next).run P w) := by
  unfold CalV at h
  split at h
  · rename_i f first cap
    split at h
    · rename_i he
      unfold entersB at he
      split at he
      · rename_i fn hf
        simp only [Bool.and_eq_true, bne_iff_ne, ne_eq] at he
        have hn : (fn.name == "runtime.NumGoroutine") = false := by simpa using he.1
        have hb : fn.body.isNone = false := by
          cases hb : fn.body with
          | none => simp [hb] at he
          | some _ => rfl
        have hr : (do let d ← Deferred.ofValue (.func (.func f) first cap) args; invoke d.target d.args : Sem Next).run P w = .ok (.enter f (first ++ args ++ cap)) w := by
          simp only [Deferred.ofValue, Sem.run_bind, Sem.run_pure, Result.andThen_ok, invoke, callFunc, run_program, hf, hn, hb, Bool.false_eq_true, if_false]
        rw [hr]
        exact h w hs
      · cases he
    · cases hext : extOf P f with
      | none => rw [hext] at h; exact h.elim
      | some e =>
        rw [hext] at h
        simp only at h
        unfold extOf at hext
        cases hf : P.funcs[f]? with
        | none => rw [hf] at hext; cases hext
        | some fn =>
          rw [hf] at hext
          simp only at hext
          by_cases hnb : (fn.name == "runtime.NumGoroutine" || fn.body.isSome) = true
          · rw [if_pos hnb] at hext; cases hext
          · rw [if_neg hnb] at hext
            simp only [Bool.or_eq_true, not_or, Bool.not_eq_true] at hnb
            cases hn : Extern.findNext fn with
            | some _ => rw [hn] at hext; cases hext
            | none =>
              rw [hn] at hext
              simp only at hext
              obtain ⟨v, hv, hk⟩ := h
              have hb : fn.body.isNone = true := by
                cases hb : fn.body with
                | none => rfl
                | some _ => rw [hb] at hnb; simp at hnb
              have hr := run_callFunc_extern hf hnb.1 hb hn hext (first ++ args ++ cap) w
              rw [hv w hs] at hr
              have hr2 : (do let d ← Deferred.ofValue (.func (.func f) first cap) args; invoke d.target d.args : Sem Next).run P w = (callFunc f (first ++ args ++ cap)).run P w := by
                simp only [Deferred.ofValue, Sem.run_bind, Sem.run_pure, Result.andThen_ok, invoke]
              rw [hr2, hr]
              exact ⟨I, L, hs, hk⟩
  · rename_i l first cap
    obtain ⟨f, tmps, assign, body, hy, hR⟩ := h w hs
    have hr : (do let d ← Deferred.ofValue (.func (.yield l) first cap) args; invoke d.target d.args : Sem Next).run P w = .ok (.round l f tmps assign body) w := by
      simp only [Deferred.ofValue, Sem.run_bind, Sem.run_pure, Result.andThen_ok, invoke, hy]
    rw [hr]
    exact hR
  · exact h.elim
theorem run_calVP {x : Value} {args : Array Value} {K Pn : Value → M} {w : World} {I : Imm} {L : LH} (hs : St ω w I L) (h : CalVP P ω x args K Pn I L) :
    OutP P ω K Pn ((do let d ← Deferred.ofValue x args; invoke d.target d.args : Sem Next).run P w) := by
  unfold CalVP at h
  split at h
  · rename_i f first cap
    by_cases he : entersB P f = true
    · rw [if_pos he] at h
      unfold entersB at he
      split at he
      · rename_i fn hf
        simp only [Bool.and_eq_true, bne_iff_ne, ne_eq] at he
        have hn : (fn.name == "runtime.NumGoroutine") = false := by simpa using he.1
        have hb : fn.body.isNone = false := by
          cases hb : fn.body with
          | none => simp [hb] at he
          | some _ => rfl
        have hr : (do let d ← Deferred.ofValue (.func (.func f) first cap) args; invoke d.target d.args : Sem Next).run P w = .ok (.enter f (first ++ args ++ cap)) w := by
          simp only [Deferred.ofValue, Sem.run_bind, Sem.run_pure, Result.andThen_ok, invoke, callFunc, run_program, hf, hn, hb, Bool.false_eq_true, if_false]
        rw [hr]
        exact h w hs
      · cases he
    · rw [if_neg he] at h
      refine (run_calV (K := K) hs ?_).toP
      unfold CalV
      simp only
      rw [if_neg he]
      exact h
  · rename_i l first cap
    exact (run_calV (x := .func (.yield l) first cap) hs h).toP
  · exact h.elim
theorem evs_spec {n : Nat} {a : Act} {e : Env} (hr : Rep n a e) : ∀ (xs : List Operand) (vs : List Value), evs (e.ev n) xs = some vs → xs.map a.eval = vs
  | [], vs, h => by simpa [evs] using h
  | x :: xs, vs, h => by
    simp only [evs] at h
    split at h
    · rename_i v hv
      split at h
      · rename_i us hus
        simp only [Option.some.injEq] at h
        subst h
        simp [hr.ev hv, evs_spec hr xs us hus]
      · cases h
    · cases h
theorem evps_spec {n : Nat} {a : Act} {e : Env} (hr : Rep n a e) : ∀ (xs : List (Nat × Operand)) (vs : List (Nat × Value)), evps (e.ev n) xs = some vs → xs.map (fun (i, x) => (i, a.eval x)) = vs
  | [], vs, h => by simpa [evps] using h
  | (i, x) :: xs, vs, h => by
    simp only [evps] at h
    split at h
    · rename_i v hv
      split at h
      · rename_i us hus
        simp only [Option.some.injEq] at h
        subst h
        simp [hr.ev hv, evps_spec hr xs us hus]
      · cases h
    · cases h
theorem evo_spec {n : Nat} {a : Act} {e : Env} (hr : Rep n a e) (x : Option Operand) (v : Option Value) (h : evo (e.ev n) x = some v) : x.map a.eval = v := by
  cases x with
  | none => simpa [evo] using h
  | some x =>
    simp only [evo] at h
    split at h
    · rename_i u hu
      simp only [Option.some.injEq] at h
      subst h
      simp [hr.ev hu]
    · cases h
theorem opt_ne {α : Type} {x : Option α} {f : α → OpV} {r : OpV} (h : opt x f = r) (hr : r ≠ .no) : ∃ a, x = some a ∧ f a = r := by
  cases x with
  | none => exact absurd h.symm hr
  | some a => exact ⟨a, rfl, h⟩
end
end Go.SL
