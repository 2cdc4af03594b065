/-
  An operation as a whole: 'opv' is right.
-/
import Derived.Test.YtmnnnoinfhiilaaDoorSlSound3
set_option linter.unusedSimpArgs false
set_option linter.unusedVariables false
set_option linter.unusedSectionVars false
namespace Go.SL
section
variable {P : Program} {ω : Om} {n : Nat} {a : Act} {e : Env}
theorem run_bsR {src dst E : Nat} {x v : Value} {w : World} {I : Imm} {L : LH} (hu : P.underlying src = some (.slice E)) (hd : P.underlying dst = some .string) (hE : P.underlying E = some (.int .u8))
    (hs : St ω w I L) (h : bsR x I L v) : (convert src dst x).run P w = .ok v w := by
  rcases h with ⟨a, cap, rfl, rfl⟩ | ⟨b, off, len, cap, s, rfl, rfl, hc, rfl⟩
  · cases a <;> simp [convert, run_und hu, run_und hd, run_und hE, Conv.bytesToString, loadCells, loadCellsFrom]
  · have hl := Cells.load (P := P) hs hc
    rw [List.length_map] at hl
    have hfor : ∀ (f : Value → ByteArray → Sem (ForInStep ByteArray)), (∀ (c : UInt8) s, f (.int .u8 c.toNat) s = pure (ForInStep.yield (s.push c))) →
        ∀ (t : List UInt8) (acc : ByteArray), (forIn (t.map fun c => Value.int .u8 c.toNat) acc f).run P w = .ok ⟨(acc.data.toList ++ t).toArray⟩ w := by
      intro f hf t
      induction t with
      | nil => intro acc; simp
      | cons c t ih =>
        intro acc
        simp only [List.map_cons, List.forIn_cons, Sem.run_bind, Sem.run_pure, Result.andThen_ok, hf, ih]
        congr 1
        simp [ByteArray.push]
    simp only [convert, run_und hu, run_und hd, run_und hE, Conv.bytesToString, Sem.run_bind, Result.andThen_ok, hl]
    simp only [← Array.forIn_toList]
    rw [hfor _ (fun c s => by simp) s ByteArray.empty]
    rfl
theorem eqGuard_ok {op : BinOp} {T : TypeId} {x y : Operand} {u v : Value} {w : World} (h : ∀ cs, u ≠ .agg cs) (h' : u ≠ .nilIface) : (eqGuard op T x y u v).run P w = .ok () w := by
  cases u <;> first | exact absurd rfl h' | exact absurd rfl (h _) | (unfold eqGuard; split <;> rfl)
theorem opv_pure {o : Oper} {v : Value} (hr : Rep n a e) (h : opv P ω (e.ev n) o.op = .pure (some v)) (w : World) : (execOp a.eval o).run P w = .ok (.value v) w := by
  obtain ⟨dst, op, type, pos, after, guard⟩ := o
  simp only at h
  have key : ∀ {α : Type} {x : Option α} {f : α → OpV} {r : Option Value}, opt x f = .pure r → ∃ a, x = some a ∧ f a = .pure r := fun h => opt_ne h (by simp)
  cases op <;> simp only [opv, reduceCtorEq] at h
  case move x =>
    obtain ⟨u, hu, h⟩ := key h
    simp only [OpV.pure.injEq, Option.some.injEq] at h; subst h
    simp [execOp, hr.ev hu]
  case assign x =>
    obtain ⟨u, hu, h⟩ := key h
    simp only [OpV.pure.injEq, Option.some.injEq] at h; subst h
    simp [execOp, hr.ev hu]
  case pick c x y =>
    obtain ⟨u, hu, h⟩ := key h
    obtain ⟨u1, hu1, h⟩ := key h
    obtain ⟨u2, hu2, h⟩ := key h
    simp only [OpV.pure.injEq] at h
    unfold pickV at h
    split at h
    · simp only [Option.some.injEq] at h; subst h
      simp [execOp, hr.ev hu, hr.ev hu1, hr.ev hu2, asBool]
    · cases h
  case nilCheck x =>
    obtain ⟨u, hu, h⟩ := key h
    simp only [OpV.pure.injEq] at h
    simp only [execOp, hr.ev hu]
    unfold nilV at h
    split at h
    · cases h
    · cases h
    · cases h
    · cases h
    · rename_i h1 h2 h3 h4
      simp only [Option.some.injEq] at h; subst h
      split
      · exact absurd rfl h1
      · exact absurd rfl h2
      · exact absurd rfl h3
      · exact absurd rfl (h4 _ _ _)
      · rfl
  case fieldAddr T x f =>
    obtain ⟨u, hu, h⟩ := key h
    obtain ⟨k, hk, h⟩ := key h
    simp only [OpV.pure.injEq] at h
    simp [execOp, hr.ev hu, run_fld hk h]
  case binOp op T x y _ =>
    obtain ⟨u, hu, h⟩ := key h
    obtain ⟨u1, hu1, h⟩ := key h
    have hg : ∀ {r}, (∀ cs, u ≠ .agg cs) → u ≠ .nilIface → (binOp op T u u1).run P w = .ok r w → (execOp a.eval ⟨dst, .binOp op T x y ‹_›, type, pos, after, guard⟩).run P w = .ok (.value r) w := by
      intro r h1 h2 h3
      simp [execOp, hr.ev hu, hr.ev hu1, eqGuard_ok h1 h2, h3]
    split at h <;> simp only [OpV.pure.injEq, reduceCtorEq] at h
    · refine hg ?_ ?_ (run_binI h)
      · intro cs e; subst e; simp [binIV] at h
      · intro e; subst e; simp [binIV] at h
    · refine hg ?_ ?_ (run_binS h)
      · intro cs e; subst e; simp [binSV] at h
      · intro e; subst e; simp [binSV] at h
    · rename_i hT
      refine hg ?_ ?_ (run_binB hT h)
      · intro cs e; subst e; simp [binBV] at h
      · intro e; subst e; simp [binBV] at h
    · rename_i hT
      refine hg ?_ ?_ (run_binP hT h)
      · intro cs e; subst e; simp [binPV] at h
      · intro e; subst e; simp [binPV] at h
    · rename_i hT
      refine hg ?_ ?_ (run_binN hT h)
      · intro cs e; subst e; simp [binNV] at h
      · intro e; subst e; simp [binNV] at h
    · rename_i fs hT
      unfold binTV at h
      split at h
      · cases h
      · rename_i hgu
        simp only [Bool.or_eq_false_iff] at hgu
        split at h
        · rename_i l hl
          have h2 := h
          unfold binAV at h2
          split at h2
          · simp [execOp, hr.ev hu, hr.ev hu1, run_eqGuard_agg (P := P) w _ T x y _ _ hgu.2, run_binA hT hgu.1 hl h]
          · simp [execOp, hr.ev hu, hr.ev hu1, run_eqGuard_agg (P := P) w _ T x y _ _ hgu.2, run_binA hT hgu.1 hl h]
          · cases h2
        · cases h
  case unOp op T x =>
    obtain ⟨u, hu, h⟩ := key h
    simp only [OpV.pure.injEq] at h
    simp [execOp, hr.ev hu, run_un h]
  case extract x i =>
    obtain ⟨u, hu, h⟩ := key h
    simp only [OpV.pure.injEq] at h
    simp [execOp, hr.ev hu, run_ex h]
  case convert src dst x =>
    obtain ⟨u, hu, h⟩ := key h
    split at h
    · rename_i k k' h1 h2
      simp only [OpV.pure.injEq] at h
      unfold cvIV at h
      split at h
      · simp only [Option.some.injEq] at h; subst h
        simp [execOp, hr.ev hu, convert, run_und h1, run_und h2, Conv.intToInt]
      · cases h
    · split at h <;> cases h
    · split at h
      · split at h <;> cases h
      · cases h
    · split at h <;> cases h
    · rename_i h1 h2
      simp only [OpV.pure.injEq] at h
      unfold strV at h
      split at h
      · simp only [Option.some.injEq] at h; subst h
        simp [execOp, hr.ev hu, convert, run_und h1, run_und h2]
      · cases h
    · cases h
  case indexAddr T x i =>
    obtain ⟨u, hu, h⟩ := key h
    obtain ⟨u1, hu1, h⟩ := key h
    split at h
    · rename_i E hE
      obtain ⟨⟨m, by', z⟩, ht, h⟩ := key h
      simp only [OpV.pure.injEq] at h
      simp [execOp, hr.ev hu, hr.ev hu1, run_ix hE ht h]
    · rename_i len E hE
      obtain ⟨⟨m, by', z⟩, ht, h⟩ := key h
      simp only [OpV.pure.injEq] at h
      simp [execOp, hr.ev hu, hr.ev hu1, run_ixP hE ht h]
    · cases h
  case index T x i =>
    obtain ⟨u, hu, h⟩ := key h
    obtain ⟨u1, hu1, h⟩ := key h
    split at h
    · rename_i hT
      simp only [OpV.pure.injEq] at h
      simp [execOp, hr.ev hu, hr.ev hu1, run_ixS hT h]
    · rename_i len E hT
      obtain ⟨d, hd, h⟩ := key h
      obtain ⟨⟨m, by', z⟩, ht, h⟩ := key h
      simp only [OpV.pure.injEq] at h
      simp [execOp, hr.ev hu, hr.ev hu1, run_ixA hT hd ht h]
    · cases h
  case slice T x lo hi mx =>
    obtain ⟨u, hu, h⟩ := key h
    obtain ⟨u1, hu1, h⟩ := key h
    obtain ⟨u2, hu2, h⟩ := key h
    obtain ⟨u3, hu3, h⟩ := key h
    split at h
    · rename_i hT
      split at h
      · cases h
      · rename_i hm
        simp only [OpV.pure.injEq] at h
        have hm' : u3 = none := by cases u3 <;> simp_all
        subst hm'
        simp [execOp, hr.ev hu, evo_spec hr _ _ hu1, evo_spec hr _ _ hu2, evo_spec hr _ _ hu3, run_slcS hT h]
    · rename_i E hT
      obtain ⟨⟨m, by', z⟩, ht, h⟩ := key h
      simp only [OpV.pure.injEq] at h
      simp [execOp, hr.ev hu, evo_spec hr _ _ hu1, evo_spec hr _ _ hu2, evo_spec hr _ _ hu3, run_slc hT ht h]
    · cases h
  case build T parts =>
    obtain ⟨ps, hps, h⟩ := key h
    obtain ⟨⟨m, by', z⟩, ht, h⟩ := key h
    have he := evps_spec hr _ _ hps
    have this : (parts.map fun (i, x) => (i, a.eval x)).toList = ps := by simpa using he
    split at h
    · rename_i len E hT
      obtain ⟨⟨m2, by2, z2⟩, hE, h⟩ := key h
      simp only [OpV.pure.injEq] at h
      simp only [execOp, Sem.run_bind]
      rw [run_bldA hT hE ht (by rw [this]; exact h)]
      rfl
    · obtain ⟨pl, hpl, h⟩ := key h
      simp only [OpV.pure.injEq] at h
      simp only [execOp, Sem.run_bind]
      rw [run_bld hpl ht (by rw [this]; exact h)]
      rfl
  case field T x f =>
    obtain ⟨u, hu, h⟩ := key h
    split at h
    · rename_i fs hT
      split at h
      · rename_i fd hf
        obtain ⟨d, hd, h⟩ := key h
        obtain ⟨⟨m, by', z⟩, ht, h⟩ := key h
        simp only [OpV.pure.injEq] at h
        cases u with
        | agg cs =>
          have hU : (P.underlying fd.type).isSome = true := by rw [hd]; rfl
          simp [execOp, hr.ev hu, Instr.field, run_und hT, hf, asAgg, run_part hU ht h]
        | _ => simp [fldvV] at h
      · cases h
    · cases h
  case makeFunc fn first cap =>
    obtain ⟨u, hu, h⟩ := key h
    obtain ⟨u1, hu1, h⟩ := key h
    simp only [OpV.pure.injEq, Option.some.injEq] at h; subst h
    have e1 := evs_spec hr _ _ hu
    have e2 := evs_spec hr _ _ hu1
    have e1' : first.map a.eval = u.toArray := by apply Array.ext'; simpa using e1
    have e2' : cap.map a.eval = u1.toArray := by apply Array.ext'; simpa using e2
    simp [execOp, Instr.makeFunc, e1', e2']
  case load T x =>
    obtain ⟨u, hu, h⟩ := key h
    split at h
    · obtain ⟨_, _, h⟩ := key h; cases h
    · split at h <;> cases h
  case alloc T => obtain ⟨_, _, h⟩ := key h; cases h
  case box T x => obtain ⟨_, _, h⟩ := key h; cases h
  case store T x y => obtain ⟨_, _, h⟩ := key h; obtain ⟨_, _, h⟩ := key h; obtain ⟨_, _, h⟩ := key h; cases h
  case makeSlice T l c => obtain ⟨_, _, h⟩ := key h; obtain ⟨_, _, h⟩ := key h; obtain ⟨_, _, h⟩ := key h; obtain ⟨_, _, h⟩ := key h; cases h
  case buildSlice T len ps =>
    obtain ⟨_, _, h⟩ := key h; obtain ⟨_, _, h⟩ := key h; obtain ⟨_, _, h⟩ := key h
    split at h <;> cases h
  case call c =>
    obtain ⟨callee, args, argTypes⟩ := c
    cases callee with
    | value f => simp only at h; obtain ⟨_, _, h⟩ := key h; obtain ⟨_, _, h⟩ := key h; cases h
    | invoke r m => simp at h
    | builtin b =>
      cases b <;> simp only [reduceCtorEq] at h
      case len =>
        split at h
        · rename_i x T hx hT
          obtain ⟨u, hu, h⟩ := key h
          have ea : args = #[x] := by apply Array.ext'; simpa using hx
          have et : argTypes = #[T] := by apply Array.ext'; simpa using hT
          subst ea et
          split at h
          · rename_i E hE
            simp only [OpV.pure.injEq] at h
            unfold lenV at h
            split at h
            · simp only [Option.some.injEq] at h; subst h
              simp [execOp, resolve, invoke, builtin, Builtin.len_, hr.ev hu, run_und hE, goInt]
            · cases h
          · rename_i hE
            simp only [OpV.pure.injEq] at h
            unfold lenSV at h
            split at h
            · simp only [Option.some.injEq] at h; subst h
              simp [execOp, resolve, invoke, builtin, Builtin.len_, hr.ev hu, run_und hE, goInt]
            · cases h
          · rename_i len E hE
            simp only [OpV.pure.injEq, Option.some.injEq] at h; subst h
            simp [execOp, resolve, invoke, builtin, Builtin.len_, hr.ev hu, run_und hE, goInt]
          · cases h
        · cases h
      case cap =>
        split at h
        · rename_i x T hx hT
          obtain ⟨u, hu, h⟩ := key h
          have ea : args = #[x] := by apply Array.ext'; simpa using hx
          have et : argTypes = #[T] := by apply Array.ext'; simpa using hT
          subst ea et
          split at h
          · rename_i E hE
            simp only [OpV.pure.injEq] at h
            unfold capV at h
            split at h
            · simp only [Option.some.injEq] at h; subst h
              simp [execOp, resolve, invoke, builtin, Builtin.cap_, hr.ev hu, run_und hE, goInt]
            · cases h
          · cases h
        · cases h
      case min =>
        split at h
        · rename_i x y hx
          obtain ⟨u, hu, h⟩ := key h
          obtain ⟨u1, hu1, h⟩ := key h
          have ea : args = #[x, y] := by apply Array.ext'; simpa using hx
          subst ea
          simp only [OpV.pure.injEq] at h
          unfold minV at h
          split at h
          · simp only [Option.some.injEq] at h; subst h
            simp [execOp, resolve, invoke, builtin, Builtin.min_, Builtin.min2, hr.ev hu, hr.ev hu1]
          · cases h
        · cases h
      case max =>
        split at h
        · rename_i x y hx
          obtain ⟨u, hu, h⟩ := key h
          obtain ⟨u1, hu1, h⟩ := key h
          have ea : args = #[x, y] := by apply Array.ext'; simpa using hx
          subst ea
          simp only [OpV.pure.injEq] at h
          unfold maxV at h
          split at h
          · simp only [Option.some.injEq] at h; subst h
            simp [execOp, resolve, invoke, builtin, Builtin.max_, Builtin.max2, hr.ev hu, hr.ev hu1]
          · cases h
        · cases h
      case append =>
        split at h
        · obtain ⟨_, _, h⟩ := key h; obtain ⟨_, _, h⟩ := key h; obtain ⟨_, _, h⟩ := key h; obtain ⟨_, _, h⟩ := key h
          split at h
          · split at h <;> cases h
          · cases h
        · cases h
      case copy =>
        split at h
        · obtain ⟨_, _, h⟩ := key h; obtain ⟨_, _, h⟩ := key h; obtain ⟨_, _, h⟩ := key h; obtain ⟨_, _, h⟩ := key h; cases h
        · cases h
      case clear =>
        split at h
        · obtain ⟨_, _, h⟩ := key h; obtain ⟨_, _, h⟩ := key h; obtain ⟨_, _, h⟩ := key h; cases h
        · cases h
end
end Go.SL
