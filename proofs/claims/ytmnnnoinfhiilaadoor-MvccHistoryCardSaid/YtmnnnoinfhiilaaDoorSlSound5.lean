/-
  Reads and what changes memory; regions.
-/
import Derived.Test.YtmnnnoinfhiilaaDoorSlSound4
set_option linter.unusedSimpArgs false
set_option linter.unusedVariables false
set_option linter.unusedSectionVars false
namespace Go.SL
section
variable {P : Program} {ω : Om} {n : Nat} {a : Act} {e : Env}
theorem opv_read {o : Oper} {R : Imm → LH → Value → Prop} (hr : Rep n a e) (h : opv P ω (e.ev n) o.op = .read R) {w : World} {I : Imm} {L : LH} (hs : St ω w I L) {v : Value} (hv : R I L v) :
    (execOp a.eval o).run P w = .ok (.value v) w := by
  obtain ⟨dst, op, type, pos, after, guard⟩ := o
  simp only at h
  have key : ∀ {α : Type} {x : Option α} {f : α → OpV}, opt x f = .read R → ∃ a, x = some a ∧ f a = .read R := fun h => opt_ne h (by simp)
  cases op <;> simp only [opv, reduceCtorEq] at h
  case load T x =>
    obtain ⟨u, hu, h⟩ := key h
    split at h
    · rename_i ha
      obtain ⟨⟨m, by', z⟩, ht, h⟩ := key h
      simp only [OpV.read.injEq] at h; subst h
      simp [execOp, hr.ev hu, loadVar_agg ht ha hs hv]
    · rename_i ha
      split at h
      · rename_i d hd
        simp only [OpV.read.injEq] at h; subst h
        simp [execOp, hr.ev hu, loadVar_one hd (by simpa using ha) hs hv]
      · cases h
  case convert src dst x =>
    obtain ⟨u, hu, h⟩ := key h
    split at h
    · cases h
    · rename_i E h1 h2
      split at h
      · rename_i hE
        simp only [OpV.read.injEq] at h; subst h
        simp [execOp, hr.ev hu, run_bsR h1 h2 hE hs hv]
      · cases h
    · split at h
      · split at h <;> cases h
      · cases h
    · split at h <;> cases h
    · cases h
    · cases h
  case call c =>
    obtain ⟨callee, args, argTypes⟩ := c
    cases callee with
    | value f => simp only at h; obtain ⟨_, _, h⟩ := key h; obtain ⟨_, _, h⟩ := key h; cases h
    | invoke r m => simp at h
    | builtin b =>
      cases b <;> simp only [reduceCtorEq] at h
      case len =>
        split at h
        · obtain ⟨_, _, h⟩ := key h; split at h <;> cases h
        · cases h
      case cap =>
        split at h
        · obtain ⟨_, _, h⟩ := key h; split at h <;> cases h
        · cases h
      case min =>
        split at h
        · obtain ⟨_, _, h⟩ := key h; obtain ⟨_, _, h⟩ := key h; cases h
        · cases h
      case max =>
        split at h
        · obtain ⟨_, _, h⟩ := key h; obtain ⟨_, _, h⟩ := key h; cases h
        · cases h
      case append =>
        split at h
        · obtain ⟨_, _, h⟩ := key h; obtain ⟨_, _, h⟩ := key h; obtain ⟨_, _, h⟩ := key h; obtain ⟨_, _, h⟩ := key h; split at h <;> first | cases h | (split at h <;> cases h)
        · cases h
      case copy =>
        split at h
        · obtain ⟨_, _, h⟩ := key h; obtain ⟨_, _, h⟩ := key h; obtain ⟨_, _, h⟩ := key h; obtain ⟨_, _, h⟩ := key h; cases h
        · cases h
      case clear =>
        split at h
        · obtain ⟨_, _, h⟩ := key h; obtain ⟨_, _, h⟩ := key h; obtain ⟨_, _, h⟩ := key h; cases h
        · cases h
  case move x => obtain ⟨_, _, h⟩ := key h; cases h
  case assign x => obtain ⟨_, _, h⟩ := key h; cases h
  case pick c x y => obtain ⟨_, _, h⟩ := key h; obtain ⟨_, _, h⟩ := key h; obtain ⟨_, _, h⟩ := key h; cases h
  case nilCheck x => obtain ⟨_, _, h⟩ := key h; cases h
  case fieldAddr T x f => obtain ⟨_, _, h⟩ := key h; obtain ⟨_, _, h⟩ := key h; cases h
  case binOp op T x y _ => obtain ⟨_, _, h⟩ := key h; obtain ⟨_, _, h⟩ := key h; split at h <;> cases h
  case unOp op T x => obtain ⟨_, _, h⟩ := key h; cases h
  case extract x i => obtain ⟨_, _, h⟩ := key h; cases h
  case indexAddr T x i =>
    obtain ⟨_, _, h⟩ := key h; obtain ⟨_, _, h⟩ := key h
    split at h
    · obtain ⟨_, _, h⟩ := key h; cases h
    · obtain ⟨_, _, h⟩ := key h; cases h
    · cases h
  case index T x i =>
    obtain ⟨_, _, h⟩ := key h; obtain ⟨_, _, h⟩ := key h
    split at h
    · cases h
    · obtain ⟨_, _, h⟩ := key h; obtain ⟨_, _, h⟩ := key h; cases h
    · cases h
  case slice T x lo hi mx =>
    obtain ⟨_, _, h⟩ := key h; obtain ⟨_, _, h⟩ := key h; obtain ⟨_, _, h⟩ := key h; obtain ⟨_, _, h⟩ := key h
    split at h
    · split at h <;> cases h
    · obtain ⟨_, _, h⟩ := key h; cases h
    · cases h
  case build T parts =>
    obtain ⟨_, _, h⟩ := key h; obtain ⟨_, _, h⟩ := key h
    split at h
    · obtain ⟨_, _, h⟩ := key h; cases h
    · obtain ⟨_, _, h⟩ := key h; cases h
  case field T x f =>
    obtain ⟨_, _, h⟩ := key h
    split at h
    · split at h
      · obtain ⟨_, _, h⟩ := key h; obtain ⟨_, _, h⟩ := key h; cases h
      · cases h
    · cases h
  case makeFunc fn first cap => obtain ⟨_, _, h⟩ := key h; obtain ⟨_, _, h⟩ := key h; cases h
  case alloc T => obtain ⟨_, _, h⟩ := key h; cases h
  case box T x => obtain ⟨_, _, h⟩ := key h; cases h
  case store T x y => obtain ⟨_, _, h⟩ := key h; obtain ⟨_, _, h⟩ := key h; obtain ⟨_, _, h⟩ := key h; cases h
  case makeSlice T l c => obtain ⟨_, _, h⟩ := key h; obtain ⟨_, _, h⟩ := key h; obtain ⟨_, _, h⟩ := key h; obtain ⟨_, _, h⟩ := key h; cases h
  case buildSlice T len ps => obtain ⟨_, _, h⟩ := key h; obtain ⟨_, _, h⟩ := key h; obtain ⟨_, _, h⟩ := key h; split at h <;> cases h
theorem outc_value {K : Value → M} {s : Sem Value} {w : World} (h : ∃ u w' I' L', s.run P w = .ok u w' ∧ St ω w' I' L' ∧ K u I' L') :
    Outc P ω K ((do pure (.value (← s)) : Sem Next).run P w) := by
  obtain ⟨u, w', I', L', hr, hs, hk⟩ := h
  simp only [Sem.run_bind, hr, Result.andThen_ok, Sem.run_pure]
  exact ⟨I', L', hs, hk⟩
theorem opv_eff {o : Oper} {E : (Value → M) → M} (hr : Rep n a e) (h : opv P ω (e.ev n) o.op = .eff E) {w : World} {I : Imm} {L : LH} (hs : St ω w I L) {K : Value → M} (hE' : E K I L) :
    Outc P ω K ((execOp a.eval o).run P w) := by
  obtain ⟨dst, op, type, pos, after, guard⟩ := o
  simp only at h
  have key : ∀ {α : Type} {x : Option α} {f : α → OpV}, opt x f = .eff E → ∃ a, x = some a ∧ f a = .eff E := fun h => opt_ne h (by simp)
  cases op <;> simp only [opv, reduceCtorEq] at h
  case alloc T =>
    obtain ⟨⟨m, by', z⟩, ht, h⟩ := key h
    simp only [OpV.eff.injEq] at h; subst h
    exact outc_value (run_alloc ht hs hE')
  case box T x =>
    obtain ⟨u, hu, h⟩ := key h
    simp only [OpV.eff.injEq] at h; subst h
    simp only [execOp, hr.ev hu]
    exact outc_value (run_new hs hE')
  case store T x y =>
    obtain ⟨u, hu, h⟩ := key h
    obtain ⟨u1, hu1, h⟩ := key h
    obtain ⟨⟨m, by', z⟩, ht, h⟩ := key h
    simp only [OpV.eff.injEq] at h; subst h
    obtain ⟨w', I', L', hrun, hst, hk⟩ := run_sto ht hs hE'
    simp only [execOp, hr.ev hu, hr.ev hu1, Sem.run_bind, hrun, Result.andThen_ok, Sem.run_pure]
    exact ⟨I', L', hst, hk⟩
  case makeSlice T l c =>
    obtain ⟨u, hu, h⟩ := key h
    obtain ⟨u1, hu1, h⟩ := key h
    obtain ⟨E', hE2, h⟩ := key h
    obtain ⟨⟨m, by', z⟩, ht, h⟩ := key h
    simp only [OpV.eff.injEq] at h; subst h
    simp only [execOp, hr.ev hu, hr.ev hu1]
    exact outc_value (run_mkS (elemOfB_spec hE2) ht hs hE')
  case buildSlice T len parts =>
    obtain ⟨ps, hps, h⟩ := key h
    obtain ⟨E', hE2, h⟩ := key h
    obtain ⟨⟨m, by', z⟩, ht, h⟩ := key h
    split at h
    · rename_i hle
      simp only [OpV.eff.injEq] at h; subst h
      have he := evps_spec hr _ _ hps
      have : (parts.map fun (i, x) => (i, a.eval x)).toList = ps := by simpa using he
      rw [← this] at hE'
      simp only [execOp]
      exact outc_value (run_bldS (elemOfB_spec hE2) ht hle hs hE')
    · cases h
  case call c =>
    obtain ⟨callee, args, argTypes⟩ := c
    cases callee with
    | value f =>
      simp only at h
      obtain ⟨u, hu, h⟩ := key h
      obtain ⟨vs, hvs, h⟩ := key h
      simp only [OpV.eff.injEq] at h; subst h
      have e1 := evs_spec hr _ _ hvs
      have e1' : args.map a.eval = vs.toArray := by apply Array.ext'; simpa using e1
      simp only [execOp, resolve, hr.ev hu, e1']
      exact run_calV hs hE'
    | invoke r m => simp at h
    | builtin b =>
      cases b <;> simp only [reduceCtorEq] at h
      case len =>
        split at h
        · obtain ⟨_, _, h⟩ := key h; split at h <;> cases h
        · cases h
      case cap =>
        split at h
        · obtain ⟨_, _, h⟩ := key h; split at h <;> cases h
        · cases h
      case min =>
        split at h
        · obtain ⟨_, _, h⟩ := key h; obtain ⟨_, _, h⟩ := key h; cases h
        · cases h
      case max =>
        split at h
        · obtain ⟨_, _, h⟩ := key h; obtain ⟨_, _, h⟩ := key h; cases h
        · cases h
      case append =>
        split at h
        · rename_i s x T T' hx hT
          obtain ⟨u, hu, h⟩ := key h
          obtain ⟨u1, hu1, h⟩ := key h
          obtain ⟨E', hE2, h⟩ := key h
          obtain ⟨⟨m, by', z⟩, ht, h⟩ := key h
          have ea : args = #[s, x] := by apply Array.ext'; simpa using hx
          have et : argTypes = #[T, T'] := by apply Array.ext'; simpa using hT
          subst ea et
          have hb30 : by' ≤ 1073741824 := by
            by_cases hb : by' ≤ 1073741824
            · exact hb
            · simp only [if_neg hb] at h; cases h
          simp only [if_pos hb30] at h
          have fin : ∀ d, P.underlying T' = some d → (∀ k, d ≠ .int k) → App E' m by' z u u1 K I L →
              Outc P ω K ((execOp a.eval ⟨dst, .call ⟨.builtin .append, #[s, x], #[T, T']⟩, type, pos, after, guard⟩).run P w) := by
            intro d hd hk hA
            have := run_app (ty := type) (elemOfB_spec hE2) hd hk ht hb30 hs hA
            simp only [execOp, resolve, Sem.run_bind, Sem.run_pure, Result.andThen_ok, invoke, builtin, List.map_toArray, List.map_cons, List.map_nil, hr.ev hu, hr.ev hu1]
            obtain ⟨v, w', I', L', hrun, hst, hkk⟩ := this
            simp only [hrun, Result.andThen_ok]
            exact ⟨I', L', hst, hkk⟩
          split at h
          · rename_i hd
            simp only [OpV.eff.injEq] at h; subst h
            exact fin _ hd (by simp) hE'
          · rename_i hd
            simp only [OpV.eff.injEq] at h; subst h
            exact fin _ hd (by simp) hE'
          · rename_i kk hd
            simp only [OpV.eff.injEq] at h; subst h
            have := run_appZ (ty := type) (elemOfB_spec hE2) hd ht hb30 hs hE'
            simp only [execOp, resolve, Sem.run_bind, Sem.run_pure, Result.andThen_ok, invoke, builtin, List.map_toArray, List.map_cons, List.map_nil, hr.ev hu, hr.ev hu1]
            obtain ⟨v, w', I', L', hrun, hst, hkk⟩ := this
            simp only [hrun, Result.andThen_ok]
            exact ⟨I', L', hst, hkk⟩
          · cases h
        · cases h
      case copy =>
        split at h
        · rename_i s x T Ts hx hT
          obtain ⟨u, hu, h⟩ := key h
          obtain ⟨u1, hu1, h⟩ := key h
          obtain ⟨E', hE2, h⟩ := key h
          obtain ⟨⟨m, by', z⟩, ht, h⟩ := key h
          simp only [OpV.eff.injEq] at h; subst h
          have ea : args = #[s, x] := by apply Array.ext'; simpa using hx
          have et : argTypes = (T :: Ts).toArray := by apply Array.ext'; simpa using hT
          subst ea et
          have := run_cpy (ty := type) (Ts := Ts) (elemOfB_spec hE2) ht hs hE'
          simp only [execOp, resolve, Sem.run_bind, Sem.run_pure, Result.andThen_ok, invoke, builtin, List.map_toArray, List.map_cons, List.map_nil, hr.ev hu, hr.ev hu1]
          obtain ⟨v, w', I', L', hrun, hst, hkk⟩ := this
          simp only [hrun, Result.andThen_ok]
          exact ⟨I', L', hst, hkk⟩
        · cases h
      case clear =>
        split at h
        · rename_i x T hx hT
          obtain ⟨u, hu, h⟩ := key h
          obtain ⟨E', hE2, h⟩ := key h
          obtain ⟨⟨m, by', z⟩, ht, h⟩ := key h
          simp only [OpV.eff.injEq] at h; subst h
          have ea : args = #[x] := by apply Array.ext'; simpa using hx
          have et : argTypes = #[T] := by apply Array.ext'; simpa using hT
          subst ea et
          have := run_clr (ty := type) (elemOfB_spec hE2) ht hs hE'
          simp only [execOp, resolve, Sem.run_bind, Sem.run_pure, Result.andThen_ok, invoke, builtin, List.map_toArray, List.map_cons, List.map_nil, hr.ev hu]
          obtain ⟨v, w', I', L', hrun, hst, hkk⟩ := this
          simp only [hrun, Result.andThen_ok]
          exact ⟨I', L', hst, hkk⟩
        · cases h
  case move x => obtain ⟨_, _, h⟩ := key h; cases h
  case assign x => obtain ⟨_, _, h⟩ := key h; cases h
  case pick c x y => obtain ⟨_, _, h⟩ := key h; obtain ⟨_, _, h⟩ := key h; obtain ⟨_, _, h⟩ := key h; cases h
  case nilCheck x => obtain ⟨_, _, h⟩ := key h; cases h
  case fieldAddr T x f => obtain ⟨_, _, h⟩ := key h; obtain ⟨_, _, h⟩ := key h; cases h
  case binOp op T x y _ => obtain ⟨_, _, h⟩ := key h; obtain ⟨_, _, h⟩ := key h; split at h <;> cases h
  case unOp op T x => obtain ⟨_, _, h⟩ := key h; cases h
  case extract x i => obtain ⟨_, _, h⟩ := key h; cases h
  case indexAddr T x i =>
    obtain ⟨_, _, h⟩ := key h; obtain ⟨_, _, h⟩ := key h
    split at h
    · obtain ⟨_, _, h⟩ := key h; cases h
    · obtain ⟨_, _, h⟩ := key h; cases h
    · cases h
  case index T x i =>
    obtain ⟨_, _, h⟩ := key h; obtain ⟨_, _, h⟩ := key h
    split at h
    · cases h
    · obtain ⟨_, _, h⟩ := key h; obtain ⟨_, _, h⟩ := key h; cases h
    · cases h
  case slice T x lo hi mx =>
    obtain ⟨_, _, h⟩ := key h; obtain ⟨_, _, h⟩ := key h; obtain ⟨_, _, h⟩ := key h; obtain ⟨_, _, h⟩ := key h
    split at h
    · split at h <;> cases h
    · obtain ⟨_, _, h⟩ := key h; cases h
    · cases h
  case build T parts =>
    obtain ⟨_, _, h⟩ := key h; obtain ⟨_, _, h⟩ := key h
    split at h
    · obtain ⟨_, _, h⟩ := key h; cases h
    · obtain ⟨_, _, h⟩ := key h; cases h
  case field T x f =>
    obtain ⟨_, _, h⟩ := key h
    split at h
    · split at h
      · obtain ⟨_, _, h⟩ := key h; obtain ⟨_, _, h⟩ := key h; cases h
      · cases h
    · cases h
  case makeFunc fn first cap => obtain ⟨_, _, h⟩ := key h; obtain ⟨_, _, h⟩ := key h; cases h
  case load T x =>
    obtain ⟨_, _, h⟩ := key h
    split at h
    · obtain ⟨_, _, h⟩ := key h; cases h
    · split at h <;> cases h
  case convert src dst x =>
    obtain ⟨u, hu, h⟩ := key h
    split at h
    · cases h
    · split at h <;> cases h
    · rename_i e h1 h2
      split at h
      · rename_i hE
        split at h
        · rename_i hsd
          have hsd := Nat.eq_of_beq_eq_true hsd
          simp only [OpV.eff.injEq] at h; subst h
          simp only [execOp, hr.ev hu]
          rw [hsd]
          exact outc_value (run_mrkS h2 hE hs hE')
        · cases h
      · cases h
    · rename_i e h1 h2
      split at h
      · rename_i hE
        simp only [OpV.eff.injEq] at h; subst h
        simp only [execOp, hr.ev hu]
        exact outc_value (run_cvSB h1 h2 hE hs hE')
      · cases h
    · cases h
    · cases h
end
end Go.SL
