/-
  The conditions of a function's code suffice for its call.
-/
import Derived.Test.YtdcpeboecmkmlaaSlDrawG
import Derived.Deep.LoopGhost
set_option linter.unusedSimpArgs false
set_option linter.unusedVariables false
set_option linter.unusedSectionVars false
namespace Go.SL

section
variable {P : Program} {ω : Om} {n : Nat}

def SwOf (ω : Om) (S : M) (w : World) : Prop := ∃ I L, St ω w I L ∧ S I L
def FinOf (ω : Om) (n : Nat) (Iv : Act → Prop) (K : Env → M) (a : Act) (w : World) : Prop := Iv a ∧ ∃ e I L, Rep n a e ∧ St ω w I L ∧ K e I L

theorem vcList_ser {ops : Array Oper} {nd : Nat → Bool} {S : M} {K : Env → M} {Iv : Act → Prop} (hI : ∀ a o v, o ∈ ops → Iv a → Iv (a.put o.dst v)) :
    ∀ (rest : List Oper) (i : Nat) (md : Md) (e : Env) (a : Act) (w : World) (I : Imm) (L : LH), (∀ k, rest[k]? = ops[i + k]?) → Iv a → Rep n a e → MdOk n ops md e → St ω w I L →
      vcList P ω (some S) nd n ops i md rest e K I L → Ser P ops (SwOf ω S) (kindAt P ops) nd (FinOf ω n Iv K) (List.range' i rest.length) a w
  | [], i, md, e, a, w, I, L, _, hv, hr, _, hs, h => ⟨hv, e, I, L, hr, hs, h⟩
  | o :: rest, i, md, e, a, w, I, L, hops, hv, hr, hmd, hs, h => by
    have ho : ops[i]? = some o := by have := hops 0; simpa using this.symm
    have hom : o ∈ ops := Array.mem_of_getElem? ho
    have hops' : ∀ k, rest[k]? = ops[(i + 1) + k]? := fun k => by
      have := hops (k + 1); simp only [List.getElem?_cons_succ] at this
      rw [this]; congr 1; omega
    have hkd : kindAt P ops i = opk P o.op := by simp [kindAt, ho]
    simp only [List.length_cons, List.range'_succ]
    refine ⟨o, ho, ?_⟩
    obtain ⟨e', hr, hstep⟩ := step_list hr hmd h
    rcases hstep with ⟨hw, md', hmd', h⟩ | ⟨hw, md', hmd', h⟩
    · unfold vcOp at h
      cases hop : opv P ω (e'.ev n) o.op with
      | pure r =>
        rw [hop] at h
        simp only [chk, Option.isSome_some, Bool.not_true, Bool.false_or] at h
        split at h
        · rename_i hk
          have hk := Nat.eq_of_beq_eq_true hk
          cases r with
          | none => exact h.elim
          | some v =>
            refine .inr ⟨by rw [hkd, hk]; decide, v, .inl ⟨hw, fun w' _ => opv_pure hr hop w'⟩, ?_⟩
            exact vcList_ser hI rest (i + 1) md' _ _ w I L hops' (hI _ o _ hom hv) (hr.put _ _) (hmd' v) hs h
        · exact h.elim
      | read R =>
        rw [hop] at h
        simp only [chk, Option.isSome_some, Bool.not_true, Bool.false_or] at h
        split at h
        · rename_i hk
          have hk := Nat.eq_of_beq_eq_true hk
          obtain ⟨v, hR, hK⟩ := h
          refine .inr ⟨by rw [hkd, hk]; decide, v, .inl ⟨hw, fun w' hS => ?_⟩, ?_⟩
          · obtain ⟨I', L', hs', hS'⟩ := hS (by rw [hkd, hk])
            exact opv_read hr hop hs' (hR I' L' hS')
          · exact vcList_ser hI rest (i + 1) md' _ _ w I L hops' (hI _ o _ hom hv) (hr.put _ _) (hmd' v) hs hK
        · exact h.elim
      | eff E =>
        rw [hop] at h
        simp only [chk, Option.isSome_some, Bool.not_true, Bool.false_or] at h
        split at h
        · rename_i hk
          have hk := Nat.eq_of_beq_eq_true hk
          refine .inl ⟨by rw [hkd, hk], ?_⟩
          unfold wpOp
          simp only [ho, hw, if_true]
          refine .inl ?_
          unfold Oper.wp
          refine upon_outc hr (fun v w' I0 L0 hs0 hg => ?_) (opv_eff hr hop hs h)
          obtain ⟨I', L', hs', hk'⟩ := gh_elim hs0 hg
          simp only [kp] at hk'
          split at hk'
          · exact ⟨fun _ => ⟨I', L', hs', hk'.1⟩, vcList_ser hI rest (i + 1) md' _ _ w' I' L' hops' (hI _ o _ hom hv) (hr.put _ _) (hmd' v) hs' hk'.2⟩
          · rename_i hn
            exact ⟨fun h => absurd h hn, vcList_ser hI rest (i + 1) md' _ _ w' I' L' hops' (hI _ o _ hom hv) (hr.put _ _) (hmd' v) hs' hk'⟩
        · exact h.elim
      | no => rw [hop] at h; exact h.elim
    · simp only [skM] at h
      by_cases hk : kindAt P ops i = 2
      · refine .inl ⟨hk, ?_⟩
        unfold wpOp
        simp only [ho, hw, Bool.false_eq_true, if_false]
        rw [hkd] at hk
        rw [hk] at h
        cases hn : nd i with
        | true =>
          rw [hn] at h
          simp only [Nat.beq_refl, Bool.and_self, if_true] at h
          exact ⟨fun _ => ⟨I, L, hs, h.1⟩, vcList_ser hI rest (i + 1) md' _ _ w I L hops' (hI _ o _ hom hv) (hr.put _ _) hmd' hs h.2⟩
        | false =>
          rw [hn] at h
          simp only [Bool.false_and, Bool.false_eq_true, if_false] at h
          exact ⟨(fun h => absurd h (by decide)), vcList_ser hI rest (i + 1) md' _ _ w I L hops' (hI _ o _ hom hv) (hr.put _ _) hmd' hs h⟩
      · refine .inr ⟨hk, undef, .inr ⟨hw, rfl⟩, ?_⟩
        rw [hkd] at hk
        have hb : Nat.beq (opk P o.op) 2 = false := by
          cases hb : Nat.beq (opk P o.op) 2 with
          | false => rfl
          | true => exact absurd (Nat.eq_of_beq_eq_true hb) hk
        simp only [hb, Bool.and_false, Bool.false_eq_true, if_false] at h
        exact vcList_ser hI rest (i + 1) md' _ _ w I L hops' (hI _ o _ hom hv) (hr.put _ _) hmd' hs h

theorem AllM_mem {I : Imm} {L : LH} : ∀ {Ms : List M} {A : M}, AllM Ms I L → A ∈ Ms → A I L
  | [], _, h, _ => h.elim
  | [B], A, h, hm => by simp only [List.mem_singleton] at hm; subst hm; exact h
  | B :: C :: r, A, h, hm => by
    rcases List.mem_cons.1 hm with hm | hm
    · subst hm; exact h.1
    · exact AllM_mem h.2 hm
theorem rdyB_spec {rc : Nat → Nat → Bool} {i : Nat} {l : List Nat} : rdyB rc i l = true ↔ Rdy rc i l := by
  simp only [rdyB, List.all_eq_true, Bool.or_eq_true, Bool.not_eq_true']
  constructor
  · intro h j hj hne
    rcases h j hj with h | h
    · exact absurd (Nat.eq_of_beq_eq_true h) hne
    · exact h
  · intro h j hj
    by_cases e : j = i
    · left; rw [e]; exact Nat.beq_refl i
    · right; exact h j hj e

theorem vcG_ser {ops : Array Oper} {nd : Nat → Bool} {rc : Nat → Nat → Bool} {S : M} {K : Env → M} {Iv : Act → Prop} (hI : ∀ a o v, o ∈ ops → Iv a → Iv (a.put o.dst v)) (hg : ∀ (i : Nat) o, ops[i]? = some o → o.guard = none) :
    ∀ (f : Nat) (l : List Nat) (e : Env) (a : Act) (w : World) (I : Imm) (L : LH), Iv a → Rep n a e → St ω w I L → (∀ i ∈ l, i < ops.size) →
      vcG P ω S nd (kindAt P ops) rc n ops f l e K I L → SerG P ops (SwOf ω S) (kindAt P ops) nd rc (FinOf ω n Iv K) f l a w
  | 0, l, e, a, w, I, L, hv, hr, hs, _, h => ⟨hv, e, I, L, hr, hs, h⟩
  | f + 1, l, e, a, w, I, L, hv, hr, hs, hlt, h => by
    unfold vcG at h
    have hlt' : ∀ i, ∀ j ∈ l.erase i, j < ops.size := fun i j hj => hlt j (List.mem_of_mem_erase hj)
    have hw : ∀ (i : Nat) (o : Oper), ops[i]? = some o → Region.wanted o (yielded ops a.tmps) = true := fun i o ho => by simp [Region.wanted, hg i o ho]
    cases hf : l.find? (fun i => !Nat.beq (kindAt P ops i) 2 && rdyB rc i l) with
    | some i =>
      simp only [hf] at h
      have hp := List.find?_some hf
      have hm := List.mem_of_find?_eq_some hf
      simp only [Bool.and_eq_true, Bool.not_eq_true'] at hp
      have hrd := rdyB_spec.1 hp.2
      have hk2 : kindAt P ops i ≠ 2 := fun e => by rw [e] at hp; simp at hp
      cases ho : ops[i]? with
      | some o =>
        simp only [ho] at h
        have hom : o ∈ ops := Array.mem_of_getElem? ho
        have hkd : kindAt P ops i = opk P o.op := by simp [kindAt, ho]
        unfold vcOp at h
        cases hop : opv P ω (e.ev n) o.op with
        | pure r =>
          rw [hop] at h
          simp only [chk, Option.isSome_some, Bool.not_true, Bool.false_or] at h
          split at h
          · cases r with
            | none => exact h.elim
            | some v => exact .inl ⟨i, o, v, hm, hk2, hrd, ho, .inl ⟨hw i o ho, fun w' _ => opv_pure hr hop w'⟩, vcG_ser hI hg f _ _ _ w I L (hI _ o _ hom hv) (hr.put _ _) hs (hlt' i) h⟩
          · exact h.elim
        | read R =>
          rw [hop] at h
          simp only [chk, Option.isSome_some, Bool.not_true, Bool.false_or] at h
          split at h
          · rename_i hk
            have hk := Nat.eq_of_beq_eq_true hk
            obtain ⟨v, hR, hK⟩ := h
            refine .inl ⟨i, o, v, hm, hk2, hrd, ho, .inl ⟨hw i o ho, fun w' hS => ?_⟩, vcG_ser hI hg f _ _ _ w I L (hI _ o _ hom hv) (hr.put _ _) hs (hlt' i) hK⟩
            obtain ⟨I', L', hs', hS'⟩ := hS (by rw [hkd, hk])
            exact opv_read hr hop hs' (hR I' L' hS')
          · exact h.elim
        | eff E =>
          rw [hop] at h
          simp only [chk, Option.isSome_some, Bool.not_true, Bool.false_or] at h
          split at h
          · rename_i hk
            have hk := Nat.eq_of_beq_eq_true hk
            exact absurd (hkd.trans hk) hk2
          · exact h.elim
        | no => rw [hop] at h; exact h.elim
      | none => simp only [ho] at h; exact h.elim
    | none =>
      simp only [hf] at h
      refine .inr ⟨fun i hi hrd => ?_, fun k hk hrd => ?_⟩
      · have := List.find?_eq_none.1 hf i hi
        simp only [Bool.and_eq_true, Bool.not_eq_true', not_and, Bool.not_eq_true] at this
        cases hb : Nat.beq (kindAt P ops i) 2 with
        | true => exact Nat.eq_of_beq_eq_true hb
        | false => have := this hb; rw [rdyB_spec.2 hrd] at this; cases this
      · have h := AllM_mem h (List.mem_map.2 ⟨k, List.mem_filter.2 ⟨hk, rdyB_spec.2 hrd⟩, rfl⟩)
        have hk2 : kindAt P ops k = 2 := by
          have := List.find?_eq_none.1 hf k hk
          simp only [Bool.and_eq_true, Bool.not_eq_true', not_and, Bool.not_eq_true] at this
          cases hb : Nat.beq (kindAt P ops k) 2 with
          | true => exact Nat.eq_of_beq_eq_true hb
          | false => have := this hb; rw [rdyB_spec.2 hrd] at this; cases this
        cases ho : ops[k]? with
        | some o =>
          simp only [ho] at h
          have hom : o ∈ ops := Array.mem_of_getElem? ho
          have hkd : kindAt P ops k = opk P o.op := by simp [kindAt, ho]
          rw [hkd] at hk2
          unfold vcOp at h
          cases hop : opv P ω (e.ev n) o.op with
          | pure r =>
            rw [hop] at h
            simp only [chk, Option.isSome_some, Bool.not_true, Bool.false_or, hk2] at h
            exact h.elim
          | read R =>
            rw [hop] at h
            simp only [chk, Option.isSome_some, Bool.not_true, Bool.false_or, hk2] at h
            exact h.elim
          | eff E =>
            rw [hop] at h
            simp only [chk, Option.isSome_some, Bool.not_true, Bool.false_or, hk2, Nat.beq_refl, if_true] at h
            unfold wpOp
            simp only [ho, hw k o ho, if_true]
            refine .inl ?_
            unfold Oper.wp
            refine upon_outc hr (fun v w' I0 L0 hs0 hgg => ?_) (opv_eff hr hop hs h)
            obtain ⟨I', L', hs', hk'⟩ := gh_elim hs0 hgg
            simp only [kp] at hk'
            split at hk'
            · exact ⟨fun _ => ⟨I', L', hs', hk'.1⟩, vcG_ser hI hg f _ _ _ w' I' L' (hI _ o _ hom hv) (hr.put _ _) hs' (hlt' k) hk'.2⟩
            · rename_i hn
              exact ⟨fun h => absurd h hn, vcG_ser hI hg f _ _ _ w' I' L' (hI _ o _ hom hv) (hr.put _ _) hs' (hlt' k) hk'⟩
          | no => rw [hop] at h; exact h.elim
        | none => simp only [ho] at h; exact h.elim

theorem reach_lt {ops : Array Oper} (hdep : ∀ i o, ops[i]? = some o → ∀ e ∈ o.after, Region.binds .any e = true → e.on < i) : ∀ (f i j : Nat), reach ops f i j = true → j < i
  | 0, _, _, h => by simp [reach] at h
  | f + 1, i, j, h => by
    simp only [reach] at h
    cases ho : ops[i]? with
    | none => rw [ho] at h; simp at h
    | some o =>
      rw [ho] at h
      simp only at h
      obtain ⟨e, he, hb⟩ := Array.any_eq_true'.1 h
      simp only [Bool.and_eq_true, Bool.or_eq_true] at hb
      have hlt := hdep i o ho e he hb.1
      rcases hb.2 with hb | hb
      · have := Nat.eq_of_beq_eq_true hb; omega
      · have := hb.1; simp [Nat.blt_eq] at this; omega

theorem reach_listed {ops : Array Oper} {listed : Array Bool} (hdc : ∀ k, listed.getD k false = true → ∀ o, ops[k]? = some o → ∀ e ∈ o.after, Region.binds .any e = true → listed.getD e.on false = true) :
    ∀ (f i j : Nat), (∀ o, ops[i]? = some o → ∀ e ∈ o.after, Region.binds .any e = true → listed.getD e.on false = true) → reach ops f i j = true → listed.getD j false = true
  | 0, _, _, _, h => by simp [reach] at h
  | f + 1, i, j, hi, h => by
    simp only [reach] at h
    cases ho : ops[i]? with
    | none => rw [ho] at h; simp at h
    | some o =>
      rw [ho] at h
      simp only at h
      obtain ⟨e, he, hb⟩ := Array.any_eq_true'.1 h
      simp only [Bool.and_eq_true, Bool.or_eq_true] at hb
      have hl := hi o ho e he hb.1
      rcases hb.2 with hb | hb
      · have := Nat.eq_of_beq_eq_true hb; rw [← this]; exact hl
      · exact reach_listed hdc f e.on j (fun o' ho' => hdc e.on hl o' ho') hb.2

theorem serial_ok {ops : Array Oper} (h : serialB P ops = true) : SerOk ops (kindAt P ops) (needAt P ops) (fun i j => reach ops ops.size i j) := by
  unfold serialB at h
  simp only [Bool.and_eq_true, List.all_eq_true, List.mem_range] at h
  obtain ⟨hsel, hall⟩ := h
  have hdep : ∀ i o, ops[i]? = some o → ∀ e ∈ o.after, Region.binds .any e = true → e.on < i := by
    intro i o ho e he hb
    have := hall i (Array.getElem?_eq_some_iff.1 ho).1
    rw [ho] at this
    simp only [Bool.and_eq_true, Array.all_eq_true_iff_forall_mem] at this
    have h1 := this.1 e he
    rw [hb] at h1
    simpa [Nat.blt_eq] using h1
  refine ⟨Region.noSelect_spec hsel, hdep, fun i j oi oj hji hi hj => ?_, fun i j hr => reach_lt hdep _ _ _ hr, fun i j hi hj hk hne hr => ?_⟩
  · have := hall i (Array.getElem?_eq_some_iff.1 hi).1
    rw [hi] at this
    simp only [Bool.and_eq_true, List.all_eq_true, List.mem_range] at this
    have h1 := this.2 j hji
    rw [hj] at h1
    simp only [Bool.or_eq_true, Bool.and_eq_true] at h1
    rcases h1 with h1 | h1
    · exact .inl h1
    · refine .inr ⟨h1.1.1, h1.1.2, ?_⟩
      rintro ⟨k1, k2⟩
      simp only [kindAt, hi] at k1
      simp only [kindAt, hj] at k2
      rw [k1, k2] at h1
      simp at h1
  · unfold needAt
    simp only [List.any_eq_true, List.mem_range, Bool.and_eq_true, Bool.not_eq_true']
    refine ⟨j, hj, ⟨by rw [hk]; rfl, ?_⟩, hr⟩
    cases hb : Nat.beq i j with
    | false => rfl
    | true => exact absurd (Nat.eq_of_beq_eq_true hb) hne

theorem gen_ok {ops : Array Oper} (h : genB ops = true) : SerGOk ops (kindAt P ops) (needAt P ops) (fun i j => reach ops ops.size i j) ∧ ∀ (i : Nat) o, ops[i]? = some o → o.guard = none := by
  unfold genB at h
  simp only [Bool.and_eq_true, List.all_eq_true, List.mem_range] at h
  obtain ⟨hsel, hall⟩ := h
  have hdep : ∀ i o, ops[i]? = some o → ∀ e ∈ o.after, Region.binds .any e = true → e.on < i := by
    intro i o ho e he hb
    have := hall i (Array.getElem?_eq_some_iff.1 ho).1
    rw [ho] at this
    simp only [Bool.and_eq_true, Array.all_eq_true_iff_forall_mem] at this
    have h1 := this.1.2 e he
    rw [hb] at h1
    simpa [Nat.blt_eq] using h1
  refine ⟨⟨Region.noSelect_spec hsel, hdep, fun i j oi oj hji hi hj => ?_, fun i j hi hj hk hne hr => ?_⟩, fun i o ho => ?_⟩
  · have := hall i (Array.getElem?_eq_some_iff.1 hi).1
    rw [hi] at this
    simp only [Bool.and_eq_true, List.all_eq_true, List.mem_range] at this
    have h1 := this.2 j hji
    rw [hj] at h1
    simp only [Bool.or_eq_true, Bool.and_eq_true] at h1
    exact h1
  · unfold needAt
    simp only [List.any_eq_true, List.mem_range, Bool.and_eq_true, Bool.not_eq_true']
    refine ⟨j, hj, ⟨by rw [hk]; rfl, ?_⟩, hr⟩
    cases hb : Nat.beq i j with
    | false => rfl
    | true => exact absurd (Nat.eq_of_beq_eq_true hb) hne
  · have := hall i (Array.getElem?_eq_some_iff.1 ho).1
    rw [ho] at this
    simp only [Bool.and_eq_true] at this
    simpa using this.1.1

theorem region_draw {ops : Array Oper} {K : Env → M} {Q : Exit → Act → World → Prop} {id : Nat} {e : Env} {a : Act} {w : World} {I : Imm} {L : LH} (hm : P.follows .mixedOrders = true)
    {Iv : Act → Prop} (hI : ∀ a o v, o ∈ ops → Iv a → Iv (a.put o.dst v)) (hv : Iv a) (hQ : ∀ a w e I L, Iv a → Rep n a e → St ω w I L → K e I L → Q .normal a w) (hr : Rep n a e) (hs : St ω w I L) (h : vcDraw P ω n ops e K I L) :
    (Code.region id ops true).wp P Q a w := by
  unfold vcDraw at h
  split at h
  · rename_i hser
    obtain ⟨S, hS, h⟩ := h
    have ok := serial_ok hser
    refine wp_region_any hm ?_
    have hs' : St ω { w with drawn := w.drawn + 1 } I L := hs.drew _
    have hser' := vcList_ser hI ops.toList 0 [] e a _ I L (fun k => by simp) hv hr (MdOk.none _ _) hs' h
    refine ser_any ok (Sw := SwOf ω S) (Fin := FinOf ω n Iv K) (fun a w ⟨h0, e, I, L, h1, h2, h3⟩ => hQ a w e I L h0 h1 h2 h3) ?_ ops.size (Array.replicate ops.size false) (List.range ops.size) a _ (by simp) (by simp)
      List.pairwise_lt_range (fun i => ?_) (fun k hk => ?_) (fun _ => ⟨I, L, hs', hS⟩) ?_
    · intro listed i hdc hi j hr
      obtain ⟨_, o, ho, hdeps⟩ := mem_ready.1 hi
      exact reach_listed hdc _ i j (fun o' ho' => by rw [ho] at ho'; simp only [Option.some.injEq] at ho'; subst ho'; exact hdeps) hr
    · rw [List.mem_range]
      constructor
      · intro hi; exact ⟨hi, by simp [hi]⟩
      · exact fun h => h.1
    · exfalso
      by_cases hk' : k < ops.size
      · simp [hk'] at hk
      · simp [hk'] at hk
    · rw [List.range_eq_range']; simpa using hser'
  · split at h
    · rename_i hgen
      obtain ⟨S, hS, h⟩ := h
      obtain ⟨ok, hg⟩ := gen_ok (P := P) hgen
      refine wp_region_any hm ?_
      have hs' : St ω { w with drawn := w.drawn + 1 } I L := hs.drew _
      have hser' := vcG_ser hI hg ops.size (List.range ops.size) e a _ I L hv hr hs' (fun i hi => List.mem_range.1 hi) h
      refine serg_any ok (Sw := SwOf ω S) (Fin := FinOf ω n Iv K) (fun a w ⟨h0, e, I, L, h1, h2, h3⟩ => hQ a w e I L h0 h1 h2 h3) ?_ ops.size (Array.replicate ops.size false) (List.range ops.size) a _ (by simp) (by simp)
        List.pairwise_lt_range (fun i => ?_) (fun k hk => ?_) (fun _ => ⟨I, L, hs', hS⟩) hser'
      · intro listed i hdc hi j hr
        obtain ⟨_, o, ho, hdeps⟩ := mem_ready.1 hi
        exact reach_listed hdc _ i j (fun o' ho' => by rw [ho] at ho'; simp only [Option.some.injEq] at ho'; subst ho'; exact hdeps) hr
      · rw [List.mem_range]
        constructor
        · intro hi; exact ⟨hi, by simp [hi]⟩
        · exact fun h => h.1
      · exfalso
        by_cases hk' : k < ops.size
        · simp [hk'] at hk
        · simp [hk'] at hk
    · exact h.elim


/-! ### Code -/

def Post (ω : Om) (n : Nat) (K : Env → M) (X : Nat → Env → M) (R : Env → M) : Exit → Act → World → Prop
  | .normal, a, w => ∃ e I L, Rep n a e ∧ St ω w I L ∧ K e I L
  | .exit id, a, w => ∃ e I L, Rep n a e ∧ St ω w I L ∧ X id e I L
  | .ret, a, w => ∃ e I L, Rep n a e ∧ St ω w I L ∧ R e I L
  | _, _, _ => False

/-- what a piece of code does not assign stays -/
def Same (l : List Nat) (a a' : Act) : Prop := ∀ t, memB t l = false → a'.tmps.getD t undef = a.tmps.getD t undef

theorem memB_mem {t : Nat} : ∀ {l : List Nat}, memB t l = true ↔ t ∈ l
  | [] => by simp [memB]
  | x :: xs => by
    simp only [memB, Bool.or_eq_true, List.mem_cons, memB_mem (l := xs)]
    constructor
    · rintro (h | h)
      · exact .inl (Nat.eq_of_beq_eq_true h)
      · exact .inr h
    · rintro (h | h)
      · subst h; exact .inl (Nat.beq_refl _)
      · exact .inr h

theorem getT_spec {n : Nat} {a : Act} {e : Env} (hr : Rep n a e) : ∀ (ss : List Nat) (s : Tup ss), getT e ss = some s → ∀ (e0 : Env), Rep n a e0 → Rep n a (setT e0 ss s)
  | [], _, _, e0, h0 => h0
  | t :: ss, s, h, e0, h0 => by
    simp only [getT] at h
    split at h
    · cases h
    · rename_i v hv
      split at h
      · cases h
      · rename_i r hrr
        injection h with h'
        subst h'
        have ih := getT_spec hr ss r hrr e0 h0
        refine ⟨ih.size, ih.defers, fun t' v' ht' hv' => ?_⟩
        simp only [setT, Env.upd] at hv'
        split at hv'
        · rename_i hb
          have := Nat.eq_of_beq_eq_true hb
          subst this
          simp only [Option.some.injEq] at hv'
          subst hv'
          exact hr.at' t' _ ht' hv
        · exact ih.at' t' v' ht' hv'

theorem Rep.weaken {n : Nat} {a : Act} {e e' : Env} (h : Rep n a e) (hle : ∀ t v, e' t = some v → e t = some v) : Rep n a e' :=
  ⟨h.size, h.defers, fun t v ht hv => h.at' t v ht (hle t v hv)⟩

theorem clr_le (e : Env) (l : List Nat) : ∀ t v, clr e l t = some v → e t = some v := by
  intro t v h
  unfold clr at h
  split at h
  · cases h
  · exact h


theorem Same.refl (l : List Nat) (a : Act) : Same l a a := fun _ _ => rfl

theorem memB_append {t : Nat} {l l' : List Nat} : memB t (l ++ l') = false → memB t l = false ∧ memB t l' = false := by
  intro h
  constructor
  · cases hb : memB t l with
    | false => rfl
    | true => rw [memB_mem.2 (List.mem_append_left _ (memB_mem.1 hb))] at h; cases h
  · cases hb : memB t l' with
    | false => rfl
    | true => rw [memB_mem.2 (List.mem_append_right _ (memB_mem.1 hb))] at h; cases h

theorem Same.trans {l : List Nat} {a b c : Act} (h : Same l a b) (h' : Same l b c) : Same l a c := fun t ht => (h' t ht).trans (h t ht)
theorem Same.left {l l' : List Nat} {a b : Act} (h : Same l a b) : Same (l ++ l') a b := fun t ht => h t (memB_append ht).1
theorem Same.right {l l' : List Nat} {a b : Act} (h : Same l' a b) : Same (l ++ l') a b := fun t ht => h t (memB_append ht).2

theorem same_put {l : List Nat} {a b : Act} (h : Same l a b) {d : Option Tmp} {v : Value} (hd : ∀ t, d = some t → memB t l = true) : Same l a (b.put d v) := by
  intro t ht
  cases d with
  | none => exact h t ht
  | some d =>
    have hne : d ≠ t := fun e => by subst e; rw [hd d rfl] at ht; cases ht
    rw [← h t ht]
    simp only [Act.put, Array.getD_eq_getD_getElem?]
    rw [Array.getElem?_setIfInBounds_ne hne]

theorem mem_asgOps : ∀ (l : List Oper) (o : Oper) (t : Nat), o ∈ l → o.dst = some t → memB t (asgOps l) = true
  | [], _, _, h, _ => by cases h
  | x :: l, o, t, h, hd => by
    simp only [asgOps]
    rcases List.mem_cons.1 h with h | h
    · subst h
      rw [hd]
      simp only [memB, Nat.beq_refl, Bool.true_or]
    · have := mem_asgOps l o t h hd
      split
      · simp only [memB, this, Bool.or_true]
      · exact this

theorem setT_clr {n : Nat} {l : List Nat} {e : Env} {a a' : Act} (hr : Rep n a e) (hsz : a'.tmps.size = n) (hd : a'.defers = []) (hs : Same l a a') : Rep n a' (clr e l) := by
  refine ⟨hsz, hd, fun t v ht hv => ?_⟩
  unfold clr at hv
  split at hv
  · cases hv
  · rename_i hm
    rw [hs t (by simpa using hm)]
    exact hr.at' t v ht hv

theorem vc_sound (hm : P.follows .mixedOrders = true) : ∀ (c : Code) (K : Env → M) (X : Nat → Env → M) (R : Env → M) (e : Env) (a : Act) (w : World) (I : Imm) (L : LH),
    Rep n a e → St ω w I L → vc P ω n c K X R e I L → c.wp P (fun x a' w' => Same (asg c) a a' ∧ Post ω n K X R x a' w') a w := by
  intro c
  induction c with
  | skip => exact fun K X R e a w I L hr hs h => wp_skip ⟨Same.refl _ _, e, I, L, hr, hs, h⟩
  | label l => exact fun K X R e a w I L hr hs h => wp_label ⟨Same.refl _ _, e, I, L, hr, hs, h⟩
  | region id ops draw =>
    intro K X R e a w I L hr hs h
    have hI : ∀ a' o v, o ∈ ops → Same (asgOps ops.toList) a a' → Same (asgOps ops.toList) a (a'.put o.dst v) :=
      fun a' o v ho hsm => same_put hsm fun t ht => mem_asgOps ops.toList o t (Array.mem_toList_iff.2 ho) ht
    cases draw with
    | false => exact region_seq hI (Same.refl _ _) (fun a w e I L hv hr hs hk => ⟨hv, e, I, L, hr, hs, hk⟩) hr hs h
    | true => exact region_draw hm hI (Same.refl _ _) (fun a w e I L hv hr hs hk => ⟨hv, e, I, L, hr, hs, hk⟩) hr hs h
  | seq x y ihx ihy =>
    intro K X R e a w I L hr hs h
    refine wp_seq (wp_mono (ihx _ X R e a w I L hr hs h) ?_)
    rintro ex a1 w1 ⟨hsm, hp⟩
    cases ex with
    | normal =>
      obtain ⟨e1, I1, L1, hr1, hs1, h1⟩ := hp
      refine wp_mono (ihy K X R e1 a1 w1 I1 L1 hr1 hs1 h1) ?_
      rintro ex2 a2 w2 ⟨hsm2, hp2⟩
      exact ⟨(hsm.left).trans hsm2.right, hp2⟩
    | exit id => exact ⟨hsm.left, hp⟩
    | ret => exact ⟨hsm.left, hp⟩
    | goto l => exact hp.elim
    | panic ch => exact hp.elim
    | outgrown => exact hp.elim
  | cond c x y ihx ihy =>
    intro K X R e a w I L hr hs h
    simp only [vc] at h
    cases hv : e.ev n c with
    | none => rw [hv] at h; exact h.elim
    | some v =>
      rw [hv] at h
      simp only at h
      cases v with
      | bool b =>
        refine wp_cond (t := b) (hr.ev hv) ?_
        cases b with
        | true =>
          refine wp_mono (ihx K X R e a w I L hr hs h) ?_
          rintro ex a2 w2 ⟨hsm2, hp2⟩
          exact ⟨hsm2.left, hp2⟩
        | false =>
          refine wp_mono (ihy K X R e a w I L hr hs h) ?_
          rintro ex a2 w2 ⟨hsm2, hp2⟩
          exact ⟨hsm2.right, hp2⟩
      | _ => exact h.elim
  | block id c ih =>
    intro K X R e a w I L hr hs h
    refine wp_block (wp_mono (ih K _ R e a w I L hr hs h) ?_)
    rintro ex a1 w1 ⟨hsm, hp⟩
    cases ex with
    | normal => exact ⟨hsm, hp⟩
    | exit id' =>
      obtain ⟨e1, I1, L1, hr1, hs1, h1⟩ := hp
      simp only [Exit.inBlock]
      by_cases hid : id' = id
      · subst hid
        simp only [Nat.beq_refl, if_true] at h1
        rw [if_pos rfl]
        exact ⟨hsm, e1, I1, L1, hr1, hs1, h1⟩
      · have hb : Nat.beq id' id = false := by
          cases hb : Nat.beq id' id with
          | false => rfl
          | true => exact absurd (Nat.eq_of_beq_eq_true hb) hid
        simp only [hb, Bool.false_eq_true, if_false] at h1
        rw [if_neg hid]
        exact ⟨hsm, e1, I1, L1, hr1, hs1, h1⟩
    | ret => exact ⟨hsm, hp⟩
    | goto l => exact hp.elim
    | panic ch => exact hp.elim
    | outgrown => exact hp.elim
  | loop c ih =>
    intro K X R e a w I L hr hs h
    simp only [vc, Lp] at h
    cases hg : getT e (carried n (asg c) e) with
    | none => rw [hg] at h; exact h.elim
    | some s0 =>
      rw [hg] at h
      simp only [onT] at h
      obtain ⟨Inv, m0, h0, hround⟩ := h
      refine wp_loop_ghost (fun k a' w' => Same (asg c) a a' ∧ ∃ s I' L', Rep n a' (setT (clr e (asg c)) (carried n (asg c) e) s) ∧ St ω w' I' L' ∧ Inv k s I' L') m0
        ⟨Same.refl _ _, s0, I, L, getT_spec hr _ s0 hg _ (hr.weaken (clr_le e _)), hs, h0⟩ ?_
      rintro k a1 w1 ⟨hsm, s, I1, L1, hr1, hs1, hinv⟩
      refine wp_mono (ih _ X R _ a1 w1 I1 L1 hr1 hs1 (hround k s I1 L1 hinv)) ?_
      rintro ex a2 w2 ⟨hsm2, hp⟩
      cases ex with
      | normal =>
        obtain ⟨e2, I2, L2, hr2, hs2, h2⟩ := hp
        cases hg2 : getT e2 (carried n (asg c) e) with
        | none => rw [hg2] at h2; exact h2.elim
        | some s2 =>
          rw [hg2] at h2
          obtain ⟨I3, L3, h3, m', hlt, h2⟩ := h2 hs2.cons
          exact ⟨m', hlt, hsm.trans hsm2, s2, I3, L3, getT_spec hr2 _ s2 hg2 _ (setT_clr hr hr2.size hr2.defers (hsm.trans hsm2)), h3 ω w2 hs2, h2⟩
      | exit id => exact ⟨hsm.trans hsm2, hp⟩
      | ret => exact ⟨hsm.trans hsm2, hp⟩
      | goto l => exact hp.elim
      | panic ch => exact hp.elim
      | outgrown => exact hp.elim
  | exit id => exact fun K X R e a w I L hr hs h => wp_exit ⟨Same.refl _ _, e, I, L, hr, hs, h⟩
  | ret => exact fun K X R e a w I L hr hs h => wp_ret ⟨Same.refl _ _, e, I, L, hr, hs, h⟩
  | rangeFunc f ps x y _ _ => exact fun K X R e a w I L hr hs h => h.elim
  | scope c _ => exact fun K X R e a w I L hr hs h => h.elim
  | goto l => exact fun K X R e a w I L hr hs h => h.elim
  | refuse s => exact fun K X R e a w I L hr hs h => h.elim

def resM (tmps : Array Value) : ResultVar → Sem Value
  | .tmp t => pure (tmps.getD t undef)
  | .cell a t => do loadVar t (← asAddr (tmps.getD a undef))

theorem res_sound {a : Act} {e : Env} (hr : Rep n a e) {w : World} {I : Imm} {L : LH} (hs : St ω w I L) : ∀ (rs : List ResultVar) (K : List Value → M), vcRes P n e rs K I L →
    ∃ vs, (rs.mapM (resM a.tmps)).run P w = .ok vs w ∧ K vs I L
  | [], K, h => ⟨[], by simp, h⟩
  | .tmp t :: rs, K, h => by
    simp only [vcRes] at h
    cases hv : e.ev n (.tmp t) with
    | none => rw [hv] at h; exact h.elim
    | some v =>
      rw [hv] at h
      obtain ⟨vs, h1, h2⟩ := res_sound hr hs rs _ h
      have hev := hr.ev hv
      simp only [Act.eval] at hev
      exact ⟨v :: vs, by simp only [List.mapM_cons, Sem.run_bind, Sem.run_pure, Result.andThen_ok, resM, h1, hev], h2⟩
  | .cell t T :: rs, K, h => by
    simp only [vcRes] at h
    cases hv : e.ev n (.tmp t) with
    | none => rw [hv] at h; exact h.elim
    | some x =>
      rw [hv] at h
      cases ht : tinfo P T with
      | none => rw [ht] at h; exact h.elim
      | some m =>
        obtain ⟨m, by', z⟩ := m
        rw [ht] at h
        simp only at h
        split at h
        · rename_i hag
          obtain ⟨v, hR, h⟩ := h
          obtain ⟨vs, h1, h2⟩ := res_sound hr hs rs _ h
          have hev := hr.ev hv
          simp only [Act.eval] at hev
          have hl := loadVar_agg ht hag hs hR
          obtain ⟨b, off, us, rfl, _⟩ := hR
          simp only [Instr.loadAt, Instr.sureAddr, Sem.run_bind, Sem.run_pure, Result.andThen_ok] at hl
          exact ⟨v :: vs, by simp only [List.mapM_cons, Sem.run_bind, Sem.run_pure, Result.andThen_ok, resM, h1, hev, asAddr, hl], h2⟩
        · exact h.elim

theorem cal_of_vc (hm : P.follows .mixedOrders = true) {f : FuncId} {fn : Func} (hf : P.funcs[f]? = some fn) {args : List Value} {K : Value → M} {I : Imm} {L : LH} (h : vcF P ω fn args K I L) :
    Cal P ω f args.toArray K I L := by
  intro w hs
  unfold vcF at h
  cases hb : fn.body with
  | none => rw [hb] at h; exact h.elim
  | some c =>
    rw [hb] at h
    simp only at h
    split at h
    · rename_i hle
      have hle : args.length ≤ fn.ntmps := by simpa using hle
      refine calls_of_wp hf hb (wp_mono (vc_sound hm c _ _ _ _ _ w I L (Rep.init args.toArray _ _ fn.ntmps (by simp; omega) (fun t v hv => by simpa using hv)) hs h) ?_)
      have fin : ∀ (a' : Act) (w' : World) (e : Env) (I' : Imm) (L' : LH), Rep fn.ntmps a' e → St ω w' I' L' → vcRes P fn.ntmps e fn.results.toList (fun vs => K (resV vs)) I' L' →
          a'.defers = [] ∧ ∃ v, (results fn a'.tmps).run P w' = .ok v w' ∧ Ret ω K (.returned v) w' := by
        intro a' w' e I' L' hr hs' hres
        obtain ⟨vs, hrun, hk⟩ := res_sound hr hs' _ _ hres
        refine ⟨hr.defers, resV vs, ?_, resV vs, I', L', rfl, hs', hk⟩
        have hres' : results fn a'.tmps = (do
            let vs ← fn.results.mapM (resM a'.tmps)
            pure (if h : vs.size = 1 then vs[0] else .tuple vs)) := by
          unfold results
          congr 1
        rw [hres', Array.mapM_eq_mapM_toList]
        simp only [Sem.run_bind, Sem.run_map, hrun, Result.andThen_ok, Sem.run_pure]
        congr 1
        unfold resV
        match vs with
        | [] => simp
        | [v] => simp
        | v :: u :: r => simp
      rintro ex a' w' ⟨_, hp⟩
      cases ex with
      | normal => obtain ⟨e, I', L', h1, h2, h3⟩ := hp; exact fin a' w' e I' L' h1 h2 h3
      | ret => obtain ⟨e, I', L', h1, h2, h3⟩ := hp; exact fin a' w' e I' L' h1 h2 h3
      | exit id => obtain ⟨e, I', L', h1, h2, h3⟩ := hp; exact h3.elim
      | goto l => exact hp.elim
      | panic ch => exact hp.elim
      | outgrown => exact hp.elim
    · exact h.elim

end
end Go.SL
