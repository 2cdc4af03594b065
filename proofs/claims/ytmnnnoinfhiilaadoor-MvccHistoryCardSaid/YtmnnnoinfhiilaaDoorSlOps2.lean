/-
  What the model does at one operation is what 'opv2' says.
-/
import Derived.Test.YtmnnnoinfhiilaaDoorSlOps
set_option linter.unusedSimpArgs false
set_option linter.unusedVariables false
set_option linter.unusedSectionVars false
namespace Go.SL
section
variable {P : Program} {ω : Om} {n : Nat} {a : Act} {e : Env} {pn : Option (Value → M)}
theorem mkd_spec {T : Nat} {f : TypeDesc → Nat → OpV} {r : OpV} (h : mkd P T f = r) (hr : r ≠ .no) : ∃ kt E d, mapB P T = some (kt, E) ∧ P.underlying kt = some d ∧ keyB d = true ∧ f d E = r := by
  unfold mkd at h
  obtain ⟨⟨kt, E⟩, h1, h⟩ := opt_ne h hr
  obtain ⟨d, h2, h⟩ := opt_ne h hr
  split at h
  · rename_i hd; exact ⟨kt, E, d, h1, h2, hd, h⟩
  · exact absurd h.symm hr
theorem args1 {α : Type} {l : Array α} {x : α} (h : l.toList = [x]) : l = #[x] := by apply Array.ext'; simpa using h
theorem args2 {α : Type} {l : Array α} {x y : α} (h : l.toList = [x, y]) : l = #[x, y] := by apply Array.ext'; simpa using h
theorem argsC {α : Type} {l : Array α} {x : α} {r : List α} (h : l.toList = x :: r) : l = (x :: r).toArray := by apply Array.ext'; simpa using h
theorem opv2_pure {o : Oper} {v : Value} (hr : Rep n a e) (h : opv2 P ω pn (e.ev n) o.op = .pure (some v)) (w : World) : (execOp a.eval o).run P w = .ok (.value v) w := by
  obtain ⟨dst, op, type, pos, after, guard⟩ := o
  simp only at h
  have key : ∀ {α : Type} {x : Option α} {f : α → OpV}, opt x f = .pure (some v) → ∃ a, x = some a ∧ f a = .pure (some v) := fun h => opt_ne h (by simp)
  cases op
  case makeInterface T x =>
    simp only [opv2] at h
    obtain ⟨u, hu, h⟩ := key h
    split at h
    · cases h
    · rename_i hi
      obtain ⟨d, hd, h⟩ := key h
      simp only [OpV.pure.injEq, Option.some.injEq] at h; subst h
      simp [execOp, hr.ev hu, run_mkI hd (by simpa using hi)]
  case typeAssert x U T ok =>
    cases ok with
    | false => exact opv_pure (o := ⟨dst, .typeAssert x U T false, type, pos, after, guard⟩) hr (by simpa only [opv2] using h) w
    | true =>
      simp only [opv2] at h
      obtain ⟨u, hu, h⟩ := key h
      split at h
      · cases h
      · rename_i hi
        obtain ⟨d, hd, h⟩ := key h
        obtain ⟨z, hz, h⟩ := key h
        simp only [OpV.pure.injEq] at h
        simp [execOp, hr.ev hu, run_asrt hd (by simpa using hi) hz h]
  case binOp op T x y U =>
    simp only [opv2] at h
    split at h
    · rename_i hi
      obtain ⟨u, hu, h⟩ := key h
      obtain ⟨u1, hu1, h⟩ := key h
      simp only [OpV.pure.injEq] at h
      simp [execOp, hr.ev hu, hr.ev hu1, guard_if h, run_binF hi h]
    · split at h
      · rename_i q hq
        obtain ⟨u, hu, h⟩ := key h
        obtain ⟨u1, hu1, h⟩ := key h
        simp only [OpV.pure.injEq] at h
        simp [execOp, hr.ev hu, hr.ev hu1, guard_map h, run_binM (mapB_spec hq) h]
      · exact opv_pure (o := ⟨dst, .binOp op T x y U, type, pos, after, guard⟩) hr h w
  case panic x =>
    simp only [opv2] at h
    split at h
    · cases h
    · obtain ⟨u, hu, h⟩ := key h
      split at h <;> cases h
  case makeMap T r =>
    cases r with
    | none => simp only [opv2] at h; obtain ⟨u, hu, h⟩ := key h; cases h
    | some r =>
      simp only [opv2] at h; obtain ⟨u, hu, h⟩ := key h; obtain ⟨u1, hu1, h⟩ := key h
      split at h <;> cases h
  case lookup T x i ok =>
    simp only [opv2] at h; obtain ⟨u, hu, h⟩ := key h; obtain ⟨u1, hu1, h⟩ := key h
    obtain ⟨_, _, _, _, _, _, h⟩ := mkd_spec h (by simp); obtain ⟨_, _, h⟩ := key h; cases h
  case mapUpdate T m k x =>
    simp only [opv2] at h; obtain ⟨u, hu, h⟩ := key h; obtain ⟨u1, hu1, h⟩ := key h; obtain ⟨u2, hu2, h⟩ := key h
    obtain ⟨_, _, _, _, _, _, h⟩ := mkd_spec h (by simp); cases h
  case insert T m k x =>
    simp only [opv2] at h; obtain ⟨u, hu, h⟩ := key h; obtain ⟨u1, hu1, h⟩ := key h; obtain ⟨u2, hu2, h⟩ := key h
    obtain ⟨_, _, _, _, _, _, h⟩ := mkd_spec h (by simp); cases h
  case range T x =>
    simp only [opv2] at h; obtain ⟨u, hu, h⟩ := key h
    split at h <;> cases h
  case next x s =>
    simp only [opv2] at h; obtain ⟨u, hu, h⟩ := key h
    split at h <;> cases h
  case entry x => simp only [opv2] at h; obtain ⟨u, hu, h⟩ := key h; cases h
  case call c =>
    obtain ⟨callee, args, argTypes⟩ := c
    cases callee with
    | value f =>
      cases pn with
      | none => exact opv_pure (o := ⟨dst, .call ⟨.value f, args, argTypes⟩, type, pos, after, guard⟩) hr (by simpa only [opv2] using h) w
      | some Pn =>
        simp only [opv2] at h; obtain ⟨u, hu, h⟩ := key h; obtain ⟨u1, hu1, h⟩ := key h; cases h
    | invoke r m => exact opv_pure (o := ⟨dst, .call ⟨.invoke r m, args, argTypes⟩, type, pos, after, guard⟩) hr (by simpa only [opv2] using h) w
    | builtin b =>
      cases b
      case delete =>
        simp only [opv2] at h
        split at h
        · obtain ⟨u, hu, h⟩ := key h; obtain ⟨u1, hu1, h⟩ := key h
          obtain ⟨_, _, _, _, _, _, h⟩ := mkd_spec h (by simp); cases h
        · cases h
      case len =>
        simp only [opv2] at h
        split at h
        · split at h
          · obtain ⟨u, hu, h⟩ := key h; cases h
          · exact opv_pure (o := ⟨dst, .call ⟨.builtin .len, args, argTypes⟩, type, pos, after, guard⟩) hr h w
        · cases h
      case clear =>
        simp only [opv2] at h
        split at h
        · split at h
          · obtain ⟨u, hu, h⟩ := key h; cases h
          · exact opv_pure (o := ⟨dst, .call ⟨.builtin .clear, args, argTypes⟩, type, pos, after, guard⟩) hr h w
        · cases h
      all_goals exact opv_pure (o := ⟨dst, .call ⟨.builtin _, args, argTypes⟩, type, pos, after, guard⟩) hr (by simpa only [opv2] using h) w
  all_goals exact opv_pure (o := ⟨dst, _, type, pos, after, guard⟩) hr (by simpa only [opv2] using h) w
theorem opv2_read {o : Oper} {R : Imm → LH → Value → Prop} (hr : Rep n a e) (h : opv2 P ω pn (e.ev n) o.op = .read R) {w : World} {I : Imm} {L : LH} (hs : St ω w I L) {v : Value} (hv : R I L v) :
    (execOp a.eval o).run P w = .ok (.value v) w := by
  obtain ⟨dst, op, type, pos, after, guard⟩ := o
  simp only at h
  have key : ∀ {α : Type} {x : Option α} {f : α → OpV}, opt x f = .read R → ∃ a, x = some a ∧ f a = .read R := fun h => opt_ne h (by simp)
  cases op
  case makeInterface T x =>
    simp only [opv2] at h; obtain ⟨u, hu, h⟩ := key h
    split at h
    · cases h
    · obtain ⟨d, hd, h⟩ := key h; cases h
  case typeAssert x U T ok =>
    cases ok with
    | false => exact opv_read (o := ⟨dst, .typeAssert x U T false, type, pos, after, guard⟩) hr (by simpa only [opv2] using h) hs hv
    | true =>
      simp only [opv2] at h; obtain ⟨u, hu, h⟩ := key h
      split at h
      · cases h
      · obtain ⟨d, hd, h⟩ := key h; obtain ⟨z, hz, h⟩ := key h; cases h
  case binOp op T x y U =>
    simp only [opv2] at h
    split at h
    · obtain ⟨u, hu, h⟩ := key h; obtain ⟨u1, hu1, h⟩ := key h; cases h
    · split at h
      · obtain ⟨u, hu, h⟩ := key h; obtain ⟨u1, hu1, h⟩ := key h; cases h
      · exact opv_read (o := ⟨dst, .binOp op T x y U, type, pos, after, guard⟩) hr h hs hv
  case panic x =>
    simp only [opv2] at h
    split at h
    · cases h
    · obtain ⟨u, hu, h⟩ := key h
      split at h <;> cases h
  case makeMap T r =>
    cases r with
    | none => simp only [opv2] at h; obtain ⟨u, hu, h⟩ := key h; cases h
    | some r =>
      simp only [opv2] at h; obtain ⟨u, hu, h⟩ := key h; obtain ⟨u1, hu1, h⟩ := key h
      split at h <;> cases h
  case lookup T x i ok =>
    simp only [opv2] at h; obtain ⟨u, hu, h⟩ := key h; obtain ⟨u1, hu1, h⟩ := key h
    obtain ⟨kt, E, d, h1, h2, h3, h⟩ := mkd_spec h (by simp); obtain ⟨z, hz, h⟩ := key h
    simp only [OpV.read.injEq] at h; subst h
    simp [execOp, hr.ev hu, hr.ev hu1, run_lk h1 h2 h3 hz hs hv]
  case mapUpdate T m k x =>
    simp only [opv2] at h; obtain ⟨u, hu, h⟩ := key h; obtain ⟨u1, hu1, h⟩ := key h; obtain ⟨u2, hu2, h⟩ := key h
    obtain ⟨_, _, _, _, _, _, h⟩ := mkd_spec h (by simp); cases h
  case insert T m k x =>
    simp only [opv2] at h; obtain ⟨u, hu, h⟩ := key h; obtain ⟨u1, hu1, h⟩ := key h; obtain ⟨u2, hu2, h⟩ := key h
    obtain ⟨_, _, _, _, _, _, h⟩ := mkd_spec h (by simp); cases h
  case range T x =>
    simp only [opv2] at h; obtain ⟨u, hu, h⟩ := key h
    split at h <;> cases h
  case next x s =>
    simp only [opv2] at h; obtain ⟨u, hu, h⟩ := key h
    split at h <;> cases h
  case entry x =>
    simp only [opv2] at h; obtain ⟨u, hu, h⟩ := key h
    simp only [OpV.read.injEq] at h; subst h
    simp [execOp, hr.ev hu, run_ent hs hv]
  case call c =>
    obtain ⟨callee, args, argTypes⟩ := c
    cases callee with
    | value f =>
      cases pn with
      | none => exact opv_read (o := ⟨dst, .call ⟨.value f, args, argTypes⟩, type, pos, after, guard⟩) hr (by simpa only [opv2] using h) hs hv
      | some Pn =>
        simp only [opv2] at h; obtain ⟨u, hu, h⟩ := key h; obtain ⟨u1, hu1, h⟩ := key h; cases h
    | invoke r m => exact opv_read (o := ⟨dst, .call ⟨.invoke r m, args, argTypes⟩, type, pos, after, guard⟩) hr (by simpa only [opv2] using h) hs hv
    | builtin b =>
      cases b
      case delete =>
        simp only [opv2] at h
        split at h
        · obtain ⟨u, hu, h⟩ := key h; obtain ⟨u1, hu1, h⟩ := key h
          obtain ⟨_, _, _, _, _, _, h⟩ := mkd_spec h (by simp); cases h
        · cases h
      case len =>
        simp only [opv2] at h
        split at h
        · rename_i x T hx hT
          split at h
          · rename_i q hq
            obtain ⟨u, hu, h⟩ := key h
            simp only [OpV.read.injEq] at h; subst h
            obtain rfl := args1 hx
            obtain rfl := args1 hT
            simp [execOp, resolve, invoke, builtin, hr.ev hu, run_lenM hq hs hv]
          · exact opv_read (o := ⟨dst, .call ⟨.builtin .len, args, argTypes⟩, type, pos, after, guard⟩) hr h hs hv
        · cases h
      case clear =>
        simp only [opv2] at h
        split at h
        · split at h
          · obtain ⟨u, hu, h⟩ := key h; cases h
          · exact opv_read (o := ⟨dst, .call ⟨.builtin .clear, args, argTypes⟩, type, pos, after, guard⟩) hr h hs hv
        · cases h
      all_goals exact opv_read (o := ⟨dst, .call ⟨.builtin _, args, argTypes⟩, type, pos, after, guard⟩) hr (by simpa only [opv2] using h) hs hv
  all_goals exact opv_read (o := ⟨dst, _, type, pos, after, guard⟩) hr (by simpa only [opv2] using h) hs hv
def PnOf (pn : Option (Value → M)) : Value → M := match pn with
  | none => fun _ => F
  | some p => p
theorem outp_value {K Pn : Value → M} {s : Sem Value} {w : World} (h : ∃ v w' I' L', s.run P w = .ok v w' ∧ St ω w' I' L' ∧ K v I' L') : OutP P ω K Pn ((do pure (.value (← s)) : Sem Next).run P w) := by
  obtain ⟨v, w', I', L', hr, hs, hk⟩ := h
  simp only [Sem.run_bind, hr, Result.andThen_ok, Sem.run_pure]
  exact ⟨I', L', hs, hk⟩
theorem outp_unit {K Pn : Value → M} {s : Sem Unit} {w : World} (h : ∃ w' I' L', s.run P w = .ok () w' ∧ St ω w' I' L' ∧ K undef I' L') : OutP P ω K Pn ((do s; pure .skip : Sem Next).run P w) := by
  obtain ⟨w', I', L', hr, hs, hk⟩ := h
  simp only [Sem.run_bind, hr, Result.andThen_ok, Sem.run_pure]
  exact ⟨I', L', hs, hk⟩
theorem opv2_eff {o : Oper} {E : (Value → M) → M} (hr : Rep n a e) (h : opv2 P ω pn (e.ev n) o.op = .eff E) {w : World} {I : Imm} {L : LH} (hs : St ω w I L) {K : Value → M} (hE' : E K I L) :
    OutP P ω K (PnOf pn) ((execOp a.eval o).run P w) := by
  obtain ⟨dst, op, type, pos, after, guard⟩ := o
  simp only at h
  have key : ∀ {α : Type} {x : Option α} {f : α → OpV}, opt x f = .eff E → ∃ a, x = some a ∧ f a = .eff E := fun h => opt_ne h (by simp)
  cases op
  case makeInterface T x =>
    simp only [opv2] at h; obtain ⟨u, hu, h⟩ := key h
    split at h
    · cases h
    · obtain ⟨d, hd, h⟩ := key h; cases h
  case typeAssert x U T ok =>
    cases ok with
    | false => exact (opv_eff (o := ⟨dst, .typeAssert x U T false, type, pos, after, guard⟩) hr (by simpa only [opv2] using h) hs hE').toP
    | true =>
      simp only [opv2] at h; obtain ⟨u, hu, h⟩ := key h
      split at h
      · cases h
      · obtain ⟨d, hd, h⟩ := key h; obtain ⟨z, hz, h⟩ := key h; cases h
  case binOp op T x y U =>
    simp only [opv2] at h
    split at h
    · obtain ⟨u, hu, h⟩ := key h; obtain ⟨u1, hu1, h⟩ := key h; cases h
    · split at h
      · obtain ⟨u, hu, h⟩ := key h; obtain ⟨u1, hu1, h⟩ := key h; cases h
      · exact (opv_eff (o := ⟨dst, .binOp op T x y U, type, pos, after, guard⟩) hr h hs hE').toP
  case panic x =>
    simp only [opv2] at h
    split at h
    · cases h
    · obtain ⟨u, hu, h⟩ := key h
      split at h
      · rename_i Pn v t x'
        simp only [OpV.eff.injEq] at h; subst h
        have : (execOp a.eval ⟨dst, .panic x, type, pos, after, guard⟩).run P w = .halt (.panic (.iface t x')) w := by
          simp [execOp, hr.ev hu, Instr.panic, goPanic, Sem.run_bind, Sem.run]
        rw [this]
        exact ⟨I, L, hs, hE'⟩
      · cases h
  case makeMap T r =>
    cases r with
    | none =>
      simp only [opv2] at h; obtain ⟨q, hq, h⟩ := key h
      simp only [OpV.eff.injEq] at h; subst h
      exact outp_value (run_mkM hq (.inl rfl) hs hE')
    | some r =>
      simp only [opv2] at h; obtain ⟨q, hq, h⟩ := key h; obtain ⟨u1, hu1, h⟩ := key h
      split at h
      · simp only [OpV.eff.injEq] at h; subst h
        exact outp_value (run_mkM hq (.inr ⟨_, _, congrArg some (hr.ev hu1)⟩) hs hE')
      · cases h
  case lookup T x i ok =>
    simp only [opv2] at h; obtain ⟨u, hu, h⟩ := key h; obtain ⟨u1, hu1, h⟩ := key h
    obtain ⟨kt, E, d, h1, h2, h3, h⟩ := mkd_spec h (by simp); obtain ⟨z, hz, h⟩ := key h; cases h
  case mapUpdate T m k x =>
    simp only [opv2] at h; obtain ⟨u, hu, h⟩ := key h; obtain ⟨u1, hu1, h⟩ := key h; obtain ⟨u2, hu2, h⟩ := key h
    obtain ⟨_, _, _, h1, h2, h3, h⟩ := mkd_spec h (by simp)
    simp only [OpV.eff.injEq] at h; subst h
    refine outp_unit ?_
    rw [hr.ev hu, hr.ev hu1, hr.ev hu2]
    exact run_put h1 h2 h3 hs hE'
  case insert T m k x =>
    simp only [opv2] at h; obtain ⟨u, hu, h⟩ := key h; obtain ⟨u1, hu1, h⟩ := key h; obtain ⟨u2, hu2, h⟩ := key h
    obtain ⟨_, _, _, h1, h2, h3, h⟩ := mkd_spec h (by simp)
    simp only [OpV.eff.injEq] at h; subst h
    refine outp_unit ?_
    rw [hr.ev hu, hr.ev hu1, hr.ev hu2]
    exact run_put h1 h2 h3 hs hE'
  case range T x =>
    simp only [opv2] at h; obtain ⟨u, hu, h⟩ := key h
    split at h
    · rename_i k e hT
      simp only [OpV.eff.injEq] at h; subst h
      refine outp_value ?_
      rw [hr.ev hu]
      exact run_rng hT hs (.inl ⟨k, e, rfl, hE'⟩)
    · rename_i hT
      simp only [OpV.eff.injEq] at h; subst h
      refine outp_value ?_
      rw [hr.ev hu]
      exact run_rng hT hs (.inr ⟨rfl, hE'⟩)
    · cases h
  case entry x => simp only [opv2] at h; obtain ⟨u, hu, h⟩ := key h; cases h
  case next x s =>
    simp only [opv2] at h; obtain ⟨u, hu, h⟩ := key h
    cases s with
    | true =>
      simp only [if_true, OpV.eff.injEq] at h; subst h
      refine outp_value ?_
      rw [hr.ev hu]
      exact run_nxtS hs hE'
    | false =>
      simp only [Bool.false_eq_true, if_false, OpV.eff.injEq] at h; subst h
      refine outp_value ?_
      rw [hr.ev hu]
      exact run_nxtM hs hE'
  case call c =>
    obtain ⟨callee, args, argTypes⟩ := c
    cases callee with
    | value f =>
      cases pn with
      | none => exact (opv_eff (o := ⟨dst, .call ⟨.value f, args, argTypes⟩, type, pos, after, guard⟩) hr (by simpa only [opv2] using h) hs hE').toP
      | some Pn =>
        simp only [opv2] at h; obtain ⟨u, hu, h⟩ := key h; obtain ⟨us, hus, h⟩ := key h
        simp only [OpV.eff.injEq] at h; subst h
        have := run_calVP hs hE'
        have hargs : args.map a.eval = us.toArray := by
          have := evs_spec hr args.toList us hus
          apply Array.ext'
          simpa using this
        have hrun : (execOp a.eval ⟨dst, .call ⟨.value f, args, argTypes⟩, type, pos, after, guard⟩) = (do let d ← Deferred.ofValue u us.toArray; invoke d.target d.args : Sem Next) := by
          simp only [execOp, resolve, hargs, hr.ev hu]
        rw [hrun]
        exact this
    | invoke r m => exact (opv_eff (o := ⟨dst, .call ⟨.invoke r m, args, argTypes⟩, type, pos, after, guard⟩) hr (by simpa only [opv2] using h) hs hE').toP
    | builtin b =>
      cases b
      case delete =>
        simp only [opv2] at h
        split at h
        · rename_i m k T Ts hx hT
          obtain ⟨u, hu, h⟩ := key h; obtain ⟨u1, hu1, h⟩ := key h
          obtain ⟨_, _, _, h1, h2, h3, h⟩ := mkd_spec h (by simp)
          simp only [OpV.eff.injEq] at h; subst h
          obtain rfl := args2 hx
          obtain rfl := argsC hT
          obtain ⟨w', I', L', hrun, hst, hk⟩ := run_del (ty := type) (Ts := Ts) h1 h2 h3 hs hE'
          simp only [execOp, resolve, Sem.run_bind, Sem.run_pure, Result.andThen_ok, invoke, builtin, List.map_toArray, List.map_cons, List.map_nil, hr.ev hu, hr.ev hu1, hrun]
          exact ⟨I', L', hst, hk⟩
        · cases h
      case len =>
        simp only [opv2] at h
        split at h
        · split at h
          · obtain ⟨u, hu, h⟩ := key h; cases h
          · exact (opv_eff (o := ⟨dst, .call ⟨.builtin .len, args, argTypes⟩, type, pos, after, guard⟩) hr h hs hE').toP
        · cases h
      case clear =>
        simp only [opv2] at h
        split at h
        · rename_i x T hx hT
          split at h
          · rename_i q hq
            obtain ⟨u, hu, h⟩ := key h
            simp only [OpV.eff.injEq] at h; subst h
            obtain rfl := args1 hx
            obtain rfl := args1 hT
            obtain ⟨w', I', L', hrun, hst, hk⟩ := run_clrM (ty := type) hq hs hE'
            simp only [execOp, resolve, Sem.run_bind, Sem.run_pure, Result.andThen_ok, invoke, builtin, List.map_toArray, List.map_cons, List.map_nil, hr.ev hu, hrun]
            exact ⟨I', L', hst, hk⟩
          · exact (opv_eff (o := ⟨dst, .call ⟨.builtin .clear, args, argTypes⟩, type, pos, after, guard⟩) hr h hs hE').toP
        · cases h
      all_goals exact (opv_eff (o := ⟨dst, .call ⟨.builtin _, args, argTypes⟩, type, pos, after, guard⟩) hr (by simpa only [opv2] using h) hs hE').toP
  all_goals exact (opv_eff (o := ⟨dst, _, type, pos, after, guard⟩) hr (by simpa only [opv2] using h) hs hE').toP
end
end Go.SL
