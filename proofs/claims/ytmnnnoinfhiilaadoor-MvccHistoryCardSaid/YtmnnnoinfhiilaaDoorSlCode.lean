/-
  Regions in the order of the text.
-/
import Derived.Test.YtmnnnoinfhiilaaDoorSlRun
set_option linter.unusedSimpArgs false
set_option linter.unusedVariables false
set_option linter.unusedSectionVars false
namespace Go.SL
section
variable {P : Program} {ω : Om} {n : Nat}
def yb (v : Value) (want : Bool) : Bool := match v with
  | .bool x => x == want
  | _ => false
def MdOk (n : Nat) (ops : Array Oper) (md : Md) (e : Env) : Prop :=
  ∀ f ∈ md, f.1 < n ∧ ∃ v, e.t f.1 = some v ∧ yb v f.2.1 = f.2.2
theorem MdOk.none (ops : Array Oper) (e : Env) : MdOk n ops [] e := fun _ h => by cases h
theorem MdOk.cons {ops : Array Oper} {md : Md} {e : Env} (h : MdOk n ops md e) {t : Tmp} {want b : Bool} {v : Value} (ht : t < n) (hv : e.t t = some v) (hb : yb v want = b) : MdOk n ops ((t, want, b) :: md) e := by
  intro f hf
  rcases List.mem_cons.1 hf with rfl | hf
  · exact ⟨ht, v, hv, hb⟩
  · exact h f hf
theorem MdOk.forget {ops : Array Oper} {md : Md} {e : Env} (h : MdOk n ops md e) (d : Option Tmp) (v : Value) : MdOk n ops (forget d md) (e.upd d v) := by
  cases d with
  | none => exact h
  | some d =>
    intro f hf
    simp only [SL.forget, List.mem_filter] at hf
    obtain ⟨h1, v', h2, h3⟩ := h f hf.1
    refine ⟨h1, v', ?_, h3⟩
    have : Nat.beq f.1 d = false := by simpa using hf.2
    simp only [Env.upd, this, Bool.false_eq_true, if_false, h2]
theorem MdOk.skd {ops : Array Oper} {md : Md} {e : Env} (h : MdOk n ops md e) (d : Option Tmp) : MdOk n ops (skd n d md) (e.upd d undef) := by
  cases d with
  | none => exact h
  | some d =>
    have hf := h.forget (some d) undef
    simp only [SL.skd]
    split
    · rename_i hb
      have hlt : d < n := by simpa [Nat.blt_eq] using hb
      exact (hf.cons (v := undef) hlt (by simp [Env.upd]) rfl).cons (v := undef) hlt (by simp [Env.upd]) rfl
    · exact hf
theorem dec_mem : ∀ {md : Md} {t : Tmp} {want b : Bool}, dec md t want = some b → (t, want, b) ∈ md
  | [], _, _, _, h => by simp [dec] at h
  | (t', want', b') :: r, t, want, b, h => by
    simp only [dec] at h
    split at h
    · rename_i hc
      simp only [Bool.and_eq_true, beq_iff_eq] at hc
      simp only [Option.some.injEq] at h
      rw [← Nat.eq_of_beq_eq_true hc.1, ← hc.2, ← h]
      exact List.mem_cons_self ..
    · exact List.mem_cons_of_mem _ (dec_mem h)
theorem yielded_of {a : Act} {e : Env} (hr : Rep n a e) {ops : Array Oper} {g : Nat} {t : Tmp} {v : Value} {want : Bool} (hg : gvar ops g = some t) (ht : t < n) (hx : e.t t = some v) : (yielded ops a.tmps g == some want) = yb v want := by
  unfold yielded
  unfold gvar at hg
  rw [hg]
  have h := hr.at' t _ ht hx
  have hlt : t < a.tmps.size := by rw [hr.size]; exact ht
  rw [Array.getD_eq_getD_getElem?, Array.getElem?_eq_getElem hlt] at h
  simp only [Option.bind_some, Array.getElem?_eq_getElem hlt]
  simp only [Option.getD_some] at h
  rw [h]
  cases v <;> simp [yb]
theorem Rep.known {n : Nat} {a : Act} {e : Env} (h : Rep n a e) {t : Tmp} {v : Value} (hv : e.t t = some v) : Rep n a (e.upd (some t) v) := by
  refine ⟨h.size, h.defers, fun t' v' ht' hv' => ?_⟩
  simp only [Env.upd] at hv'
  split at hv'
  · rename_i hb
    have := Nat.eq_of_beq_eq_true hb
    subst this
    simp only [Option.some.injEq] at hv'
    subst hv'
    exact h.at' t' _ ht' hv
  · exact h.at' t' v' ht' hv'
theorem upd_self (e : Env) (t : Tmp) (v : Value) : (e.upd (some t) v).t t = some v := by simp [Env.upd]
theorem step_list {pn : Pnf} {S : Option M} {nd : Nat → Bool} {ops : Array Oper} {i : Nat} {md : Md} {o : Oper} {rest : List Oper} {e : Env} {K : Env → M} {I : Imm} {L : LH} {a : Act}
    (hr : Rep n a e) (hmd : MdOk n ops md e) (h : vcList P ω pn S nd n ops i md (o :: rest) e K I L) :
    ∃ e' : Env, Rep n a e' ∧ pnAt pn e' = pnAt pn e ∧ (
    (Region.wanted o (yielded ops a.tmps) = true ∧ ∃ md', (∀ v, MdOk n ops md' (e'.upd o.dst v)) ∧ vcOp P ω (pnAt pn e) S (nd i) (e'.ev n) o.op (fun v => vcList P ω pn S nd n ops (i + 1) md' rest (e'.upd o.dst v) K) I L) ∨
    (Region.wanted o (yielded ops a.tmps) = false ∧ ∃ md', MdOk n ops md' (e'.upd o.dst undef) ∧ skM S (nd i) (opk P o.op) (vcList P ω pn S nd n ops (i + 1) md' rest (e'.upd o.dst undef) K) I L)) := by
  simp only [vcList] at h
  unfold Region.wanted
  cases hgd : o.guard with
  | none =>
    rw [hgd] at h
    exact ⟨e, hr, rfl, .inl ⟨rfl, _, fun v => hmd.forget _ v, h⟩⟩
  | some gw =>
    obtain ⟨g, want⟩ := gw
    rw [hgd] at h
    simp only at h ⊢
    cases hgv : gvar ops g with
    | none => rw [hgv] at h; exact h.elim
    | some t =>
      rw [hgv] at h
      simp only at h
      cases hd : dec md t want with
      | some b =>
        obtain ⟨ht, v, hv, hb⟩ := hmd _ (dec_mem hd)
        have fin := yielded_of (want := want) hr hgv ht hv
        simp only at hb
        rw [hb] at fin
        rw [hd] at h
        cases b with
        | true => exact ⟨e, hr, rfl, .inl ⟨fin, _, fun v => hmd.forget _ v, h⟩⟩
        | false => exact ⟨e, hr, rfl, .inr ⟨fin, _, hmd.skd _, h⟩⟩
      | none =>
        rw [hd] at h
        simp only [Env.ev] at h
        by_cases ht : t < n
        · have htb : Nat.blt t n = true := by simpa [Nat.blt_eq] using ht
          simp only [htb, if_true] at h
          cases hv : e.t t with
          | none => rw [hv] at h; exact h.elim
          | some v =>
            rw [hv] at h
            simp only at h
            have fin := yielded_of (want := want) hr hgv ht hv
            have hup : ∀ u, e.t t = some u → MdOk n ops md (e.upd (some t) u) := by
              intro u hu f hf
              obtain ⟨h1, v', h2, h3⟩ := hmd f hf
              refine ⟨h1, v', ?_, h3⟩
              simp only [Env.upd]
              split
              · rename_i hb
                have := Nat.eq_of_beq_eq_true hb
                rw [this, hu] at h2
                exact h2
              · exact h2
            unfold Gd at h
            split at h
            · rename_i x
              split at h
              · rename_i hb
                have hx : x = want := by simpa using hb
                subst hx
                refine ⟨_, hr.known hv, by cases pn <;> rfl, .inl ⟨by rw [fin]; simp [yb], _, fun v => ((hup _ hv).cons ht (upd_self e t (.bool x)) (by simp [yb])).forget _ v, h⟩⟩
              · rename_i hb
                have hb' : (x == want) = false := by simpa using hb
                have hx : x = !want := by revert hb'; cases x <;> cases want <;> decide
                subst hx
                refine ⟨_, hr.known hv, by cases pn <;> rfl, .inr ⟨by rw [fin]; exact hb', _, ((hup _ hv).cons ht (upd_self e t _) hb').skd _, h⟩⟩
            · exact h.elim
        · have htb : Nat.blt t n = false := by
            cases hb : Nat.blt t n with
            | false => rfl
            | true => exact absurd (by simpa [Nat.blt_eq] using hb) ht
          simp only [htb, Bool.false_eq_true, if_false] at h
          exact h.elim
theorem uponR_outp {o : Oper} {a : Act} {K Pn : Value → M} {r : Result Next} {Kw : Act → World → Prop} {Q : Exit → Act → World → Prop}
    (hk : ∀ v w' I' L', St ω w' I' L' → K v I' L' → Kw (a.put o.dst v) w') (hp : ∀ v w' I' L', St ω w' I' L' → Pn v I' L' → Q (.panic [{ v, recovered := false }]) a w') (h : OutP P ω K Pn r) : uponR P o a Kw Q r := by
  unfold OutP at h
  split at h
  · obtain ⟨I', L', hs, hk'⟩ := h; exact hk _ _ I' L' hs hk'
  · obtain ⟨I', L', hs, hk'⟩ := h; exact hk _ _ I' L' hs hk'
  · refine Calls.mono h fun e w' he => ?_
    obtain ⟨v, I', L', hs, ⟨rfl, hk'⟩ | ⟨rfl, hp'⟩⟩ := he
    · exact hk _ _ I' L' hs hk'
    · exact hp _ _ I' L' hs hp'
  · refine RoundIn.mono h fun e w' he => ?_
    obtain ⟨v, I', L', rfl, hs, hk'⟩ := he
    exact hk _ _ I' L' hs hk'
  · obtain ⟨I', L', hs, hp'⟩ := h; exact hp _ _ I' L' hs hp'
  · exact h.elim
theorem vcOp_wp {o : Oper} {a : Act} {e : Env} (hr : Rep n a e) {pn : Option (Value → M)} {need : Bool} {K : Value → M} {w : World} {I : Imm} {L : LH} (hs : St ω w I L) (h : vcOp P ω pn none need (e.ev n) o.op K I L)
    {Kw : Act → World → Prop} {Q : Exit → Act → World → Prop} (hk : ∀ v w' I' L', St ω w' I' L' → K v I' L' → Kw (a.put o.dst v) w') (hp : ∀ v w' I' L', St ω w' I' L' → PnOf pn v I' L' → Q (.panic [{ v, recovered := false }]) a w') : wpR P o a w Kw Q := by
  unfold vcOp at h
  unfold wpR
  cases hop : opv2 P ω pn (e.ev n) o.op with
  | pure r =>
    rw [hop] at h
    simp only [chk, Option.isSome_none, Bool.not_false, Bool.true_or, if_true] at h
    cases r with
    | some v =>
      rw [opv2_pure hr hop w]
      exact hk _ _ I L hs h
    | none => exact h.elim
  | read R =>
    rw [hop] at h
    simp only [chk, Option.isSome_none, Bool.not_false, Bool.true_or, if_true, Rv] at h
    obtain ⟨v, hv, hK⟩ := h
    rw [opv2_read hr hop hs hv]
    exact hk _ _ I L hs hK
  | eff E =>
    rw [hop] at h
    simp only [chk, Option.isSome_none, Bool.not_false, Bool.true_or, if_true, kp] at h
    exact uponR_outp (fun v w' I' L' hs' hg => by obtain ⟨I2, L2, hs2, hk2⟩ := gh_elim hs' hg; exact hk v w' I2 L2 hs2 hk2) hp (opv2_eff hr hop hs h)
  | no => rw [hop] at h; exact h.elim
def PanOf (ω : Om) (pn : Pnf) (Q : Exit → Act → World → Prop) : Prop := ∀ (a : Act) (e : Env) (w : World) (v : Value) (I : Imm) (L : LH), a.defers = dfs e.df → St ω w I L → PnOf (pnAt pn e) v I L → Q (.panic [{ v, recovered := false }]) a w
theorem vcList_seq {pn : Pnf} {ops : Array Oper} {nd : Nat → Bool} {K : Env → M} {Q : Exit → Act → World → Prop} {Iv : Act → Prop} (hI : ∀ a o v, o ∈ ops → Iv a → Iv (a.put o.dst v))
    (hQ : ∀ a w e I L, Iv a → Rep n a e → St ω w I L → K e I L → Q .normal a w) (hP : PanOf ω pn Q) :
    ∀ (rest : List Oper) (i : Nat) (md : Md) (e : Env) (a : Act) (w : World) (I : Imm) (L : LH), (∀ k, rest[k]? = ops[i + k]?) → Iv a → Rep n a e → MdOk n ops md e → St ω w I L →
      vcList P ω pn none nd n ops i md rest e K I L → wpOpsR P ops Q (List.range' i rest.length) a w
  | [], i, md, e, a, w, I, L, _, hv, hr, _, hs, h => hQ a w e I L hv hr hs h
  | o :: rest, i, md, e, a, w, I, L, hops, hv, hr, hmd, hs, h => by
    have ho : ops[i]? = some o := by have := hops 0; simpa using this.symm
    have hom : o ∈ ops := Array.mem_of_getElem? ho
    have hops' : ∀ k, rest[k]? = ops[(i + 1) + k]? := fun k => by
      have := hops (k + 1); simp only [List.getElem?_cons_succ] at this
      rw [this]; congr 1; omega
    simp only [List.length_cons, List.range'_succ, wpOpsR, wpOpR, ho]
    obtain ⟨e', hr, hpe, hstep⟩ := step_list hr hmd h
    rcases hstep with ⟨hw, md', hmd', h⟩ | ⟨hw, md', hmd', h⟩
    · simp only [hw, if_true]
      exact vcOp_wp hr hs h (fun v w' I' L' hs' hk => vcList_seq hI hQ hP rest (i + 1) md' _ _ w' I' L' hops' (hI _ o v hom hv) (hr.put _ _) (hmd' v) hs' hk)
        (fun v w' I' L' hs' hp => hP a e' w' v I' L' hr.defers hs' (by rw [hpe]; exact hp))
    · simp only [hw, Bool.false_eq_true, if_false]
      exact vcList_seq hI hQ hP rest (i + 1) md' _ _ w I L hops' (hI _ o _ hom hv) (hr.put _ _) hmd' hs h
theorem region_seq {r : Option Nat} {m : Nat} {pn : Pnf} {ops : Array Oper} {nd : Nat → Bool} {K : Env → M} {Q : Exit → Act → World → Prop} {id : Nat} {e : Env} {a : Act} {w : World} {I : Imm} {L : LH}
    {Iv : Act → Prop} (hd : ∀ o ∈ ops, okD r o) (hI : ∀ a o v, o ∈ ops → Iv a → Iv (a.put o.dst v)) (hv : Iv a)
    (hQ : ∀ a w e I L, Iv a → Rep n a e → St ω w I L → K e I L → Q .normal a w) (hP : PanOf ω pn Q) (hr : Rep n a e) (hs : St ω w I L) (h : vcList P ω pn none nd n ops 0 [] ops.toList e K I L) :
    (Code.region id ops false).wpIn (Fr r) m P Q a w := by
  refine region_ops hd ?_
  have := vcList_seq hI hQ hP ops.toList 0 [] e a w I L (fun k => by simp) hv hr (MdOk.none _ _) hs h
  rw [List.range_eq_range']
  simpa using this
end
end Go.SL
