/-
  Regions that draw their order: the order of the text serves every order.
-/
import Derived.Test.YtmnnnoinfhiilaaDoorSlCode
import Derived.OrdersHeld
set_option linter.unusedSimpArgs false
set_option linter.unusedVariables false
set_option linter.unusedSectionVars false
namespace Go.SL
section
variable {P : Program} {PQ : List PanicEntry → List Deferred → World → Prop} {ops : Array Oper} {Sw : World → Prop} {kd : Nat → Nat} {nd : Nat → Bool} {Fin : Act → World → Prop}
def Ser (P : Program) (PQ : List PanicEntry → List Deferred → World → Prop) (ops : Array Oper) (Sw : World → Prop) (kd : Nat → Nat) (nd : Nat → Bool) (Fin : Act → World → Prop) : List Nat → Act → World → Prop
  | [], a, w => Fin a w
  | i :: l, a, w => ∃ o, ops[i]? = some o ∧
      ((kd i = 2 ∧ wpOpR P ops (Qp PQ) i (fun a' w' => (nd i = true → Sw w') ∧ Ser P PQ ops Sw kd nd Fin l a' w') a w) ∨
       (kd i ≠ 2 ∧ ∃ v, YieldsIf P ops (fun w => kd i = 1 → Sw w) o v a ∧ Ser P PQ ops Sw kd nd Fin l (a.put o.dst v) w))
theorem wpOp_form {j : Nat} {oj : Oper} (hj : ops[j]? = some oj) {K : Act → World → Prop} {a : Act} {w : World} (h : wpOpR P ops (Qp PQ) j K a w) :
    wpOpR P ops (Qp PQ) j (fun a' w' => (∃ u ds, a' = ({ a with defers := ds } : Act).put oj.dst u) ∧ K a' w') a w := by
  unfold wpOpR at *
  simp only [hj] at *
  split
  · rename_i hw
    simp only [hw, if_true] at h
    unfold wpR at *
    generalize (execOp a.eval oj).run P w = r at *
    cases r with
    | ok x w' =>
      cases x <;> simp only [uponR] at h ⊢
      case value v => exact ⟨⟨v, a.defers, rfl⟩, h⟩
      case skip => exact ⟨⟨undef, a.defers, rfl⟩, h⟩
      case defer d => exact ⟨⟨undef, d :: a.defers, rfl⟩, h⟩
      case enter f args => exact Calls.mono h (fun e w'' he => by cases e <;> first | exact ⟨⟨_, a.defers, rfl⟩, he⟩ | exact he)
      case row r args => exact Rows.mono h (fun v w'' he => ⟨⟨v, a.defers, rfl⟩, he⟩)
      case round l f tmps assign body => exact RoundIn.mono h (fun e w'' he => by cases e <;> first | exact ⟨⟨_, a.defers, rfl⟩, he⟩ | exact he)
    | halt x w' => cases x <;> simp only [uponR] at h ⊢ <;> exact h
  · rename_i hw; simp only [hw] at h
    exact ⟨⟨undef, a.defers, rfl⟩, h⟩
theorem wpOp_some {j : Nat} {K : Act → World → Prop} {a : Act} {w : World} (hst : ∀ c ds w, ¬ PQ c ds w) (h : wpOpR P ops (Qp PQ) j K a w) : ∃ a' w', K a' w' := by
  unfold wpOpR at h
  split at h
  · exact ⟨_, _, h⟩
  · rename_i o ho
    split at h
    · unfold wpR at h
      cases hrun : (execOp a.eval o).run P w with
      | ok x w' =>
        rw [hrun] at h
        cases x <;> simp only [uponR] at h
        case value v => exact ⟨_, _, h⟩
        case skip => exact ⟨_, _, h⟩
        case defer d => exact ⟨_, _, h⟩
        case enter f args =>
          obtain ⟨e, w'', fr, he, _⟩ := h []
          cases e with
          | returned v => exact ⟨_, _, he⟩
          | panicked c => exact (hst _ _ _ he).elim
          | outgrown => exact (qp_out he).elim
        case row r args => obtain ⟨v, w'', hR, _⟩ := h default []; exact ⟨_, _, hR⟩
        case round l f tmps assign body =>
          obtain ⟨e, w'', he, _⟩ := h.2 default [] (room_wide _)
          cases e with
          | returned v => exact ⟨_, _, he⟩
          | panicked c => exact (hst _ _ _ he).elim
          | outgrown => exact (qp_out he).elim
      | halt x w' =>
        rw [hrun] at h
        cases x <;> simp only [uponR] at h
        exact (hst _ _ _ h).elim
    · exact ⟨_, _, h⟩
theorem wpOp_put_back {j : Nat} {oi oj : Oper} {v : Value} (hj : ops[j]? = some oj) (hap : oi.apart ops oj = true) (hsj : ∀ cs b, oj.op ≠ .select cs b)
    {K : Act → World → Prop} {a : Act} {w : World} (h : wpOpR P ops (Qp PQ) j (fun a' w' => K (a'.put oi.dst v) w') a w) : wpOpR P ops (Qp PQ) j K (a.put oi.dst v) w := by
  obtain ⟨h1, h2, h3⟩ := Oper.apart_spec hap
  unfold wpOpR at *
  simp only [hj] at *
  rw [wanted_put oj a oi.dst v h1]
  split
  · rename_i hw
    simp only [hw, if_true] at h
    unfold wpR at *
    rw [execOp_put oj hsj a oi.dst v h1]
    generalize (execOp a.eval oj).run P w = r at *
    cases r with
    | ok x w' =>
      cases x <;> simp only [uponR] at h ⊢
      case value u => rw [Act.put_comm a v u h2]; exact h
      case skip => rw [Act.put_comm a v undef h2]; exact h
      case defer d =>
        rw [Act.put_defers, Act.put_comm _ v undef h2]; exact h
      case enter f args => exact Calls.mono h (fun e w'' he => by cases e <;> first | (simp only at he ⊢; rw [Act.put_comm a v _ h2]; exact he) | exact qp_put.2 he | exact he)
      case row r args => exact Rows.mono h (fun u w'' he => by rw [Act.put_comm a v u h2]; exact he)
      case round l f tmps assign body => exact RoundIn.mono h (fun e w'' he => by cases e <;> first | (simp only at he ⊢; rw [Act.put_comm a v _ h2]; exact he) | exact qp_put.2 he | exact he)
    | halt x w' => cases x <;> simp only [uponR] at h ⊢ <;> exact qp_put.2 h
  · rename_i hw; simp only [hw] at h
    rw [Act.put_comm a v undef h2]; exact h
theorem yieldsR {Q : Exit → Act → World → Prop} {S : World → Prop} {i : Nat} {o : Oper} {v : Value} {a : Act} (hi : ops[i]? = some o) (hy : YieldsIf P ops S o v a)
    {K : Act → World → Prop} {w : World} (hS : S w) (h : K (a.put o.dst v) w) : wpOpR P ops Q i K a w := by
  unfold wpOpR
  simp only [hi]
  rcases hy with ⟨hw, hv⟩ | ⟨hw, rfl⟩
  · simp only [hw, if_true, wpR, hv w hS, uponR]; exact h
  · simp only [hw, Bool.false_eq_true, if_false]; exact h
theorem wpOpR_putIf {S : World → Prop} {j : Nat} {oi oj : Oper} {v : Value} (hj : ops[j]? = some oj) (hap : oi.apart ops oj = true)
    (hsi : ∀ cs b, oi.op ≠ .select cs b) (hsj : ∀ cs b, oj.op ≠ .select cs b) {K : Act → World → Prop} {a : Act} {w : World}
    (hy : YieldsIf P ops S oi v a) (h : wpOpR P ops (Qp PQ) j K (a.put oi.dst v) w) :
    wpOpR P ops (Qp PQ) j (fun a' w' => YieldsIf P ops S oi v a' ∧ K (a'.put oi.dst v) w') a w := by
  obtain ⟨h1, h2, h3⟩ := Oper.apart_spec hap
  have keep : ∀ (a : Act), YieldsIf P ops S oi v a → ∀ u, YieldsIf P ops S oi v (a.put oj.dst u) := fun a hy u =>
    hy.of_same (execOp_put oi hsi a oj.dst u h3) (wanted_put oi a oj.dst u h3)
  have keepD : ∀ d, YieldsIf P ops S oi v { a with defers := d :: a.defers } := fun d => hy.of_same rfl rfl
  unfold wpOpR at *
  simp only [hj] at *
  rw [wanted_put oj a oi.dst v h1] at h
  split
  · rename_i hw
    simp only [hw, if_true] at h
    unfold wpR at *
    rw [execOp_put oj hsj a oi.dst v h1] at h
    generalize (execOp a.eval oj).run P w = r at *
    cases r with
    | ok n w' =>
      cases n <;> simp only [uponR] at h ⊢
      case value u => exact ⟨keep a hy u, by rw [← Act.put_comm a v u h2]; exact h⟩
      case skip => exact ⟨keep a hy _, by rw [← Act.put_comm a v undef h2]; exact h⟩
      case defer d =>
        refine ⟨keep _ (keepD d) _, ?_⟩
        rw [← Act.put_comm _ v undef h2, ← Act.put_defers]
        exact h
      case enter f args =>
        refine Calls.mono h fun e w'' he => ?_
        cases e with
        | returned u => exact ⟨keep a hy u, by rw [← Act.put_comm a v u h2]; exact he⟩
        | panicked c => exact qp_put.1 he
        | outgrown => exact he
      case row row args => exact Rows.mono h fun u w'' he => ⟨keep a hy u, by rw [← Act.put_comm a v u h2]; exact he⟩
      case round l f tmps assign body =>
        refine RoundIn.mono h fun e w'' he => ?_
        cases e with
        | returned u => exact ⟨keep a hy u, by rw [← Act.put_comm a v u h2]; exact he⟩
        | panicked c => exact qp_put.1 he
        | outgrown => exact he
    | halt x w' =>
      cases x <;> simp only [uponR] at h ⊢ <;> exact qp_put.1 h
  · rename_i hw
    simp only [hw] at h
    exact ⟨keep a hy _, by rw [← Act.put_comm a v undef h2]; exact h⟩
theorem yields_same {S : World → Prop} {oi oj : Oper} {v u : Value} {a : Act} {ds : List Deferred} (hsi : ∀ cs b, oi.op ≠ .select cs b) (h3 : ∀ d, oj.dst = some d → d ∉ oi.looksAt ops) :
    YieldsIf P ops S oi v (({ a with defers := ds } : Act).put oj.dst u) ↔ YieldsIf P ops S oi v a := by
  have e1 : execOp (({ a with defers := ds } : Act).put oj.dst u).eval oi = execOp a.eval oi := by
    rw [execOp_put oi hsi _ oj.dst u h3]; rfl
  have e2 : Region.wanted oi (yielded ops (({ a with defers := ds } : Act).put oj.dst u).tmps) = Region.wanted oi (yielded ops a.tmps) := by
    rw [wanted_put oi _ oj.dst u h3]
  constructor
  · exact fun h => h.of_same e1.symm e2.symm
  · exact fun h => h.of_same e1 e2
theorem yields_unique {S : World → Prop} {o : Oper} {v u : Value} {a : Act} {w : World} (hw : S w) (h : YieldsIf P ops S o v a) (h' : YieldsIf P ops S o u a) : v = u := by
  rcases h with ⟨hw1, h⟩ | ⟨hw1, rfl⟩ <;> rcases h' with ⟨hw2, h'⟩ | ⟨hw2, rfl⟩
  · have := (h w hw).symm.trans (h' w hw)
    simpa using this
  · rw [hw1] at hw2; cases hw2
  · rw [hw1] at hw2; cases hw2
  · rfl
structure SerOk (PQ : List PanicEntry → List Deferred → World → Prop) (ops : Array Oper) (kd : Nat → Nat) (nd : Nat → Bool) (rc : Nat → Nat → Bool) : Prop where
  pan : (∀ c ds w, ¬ PQ c ds w) ∨ ∀ i j, j < i → i < ops.size → kd i ≠ 2 → kd j = 2 → rc i j = true
  sel : ∀ (j : Nat) (o : Oper) cs b, ops[j]? = some o → o.op ≠ .select cs b
  dep : ∀ i o, ops[i]? = some o → ∀ e ∈ o.after, Region.binds .any e = true → e.on < i
  ord : ∀ i j oi oj, j < i → ops[i]? = some oi → ops[j]? = some oj → rc i j = true ∨ (oj.apart ops oi = true ∧ oi.apart ops oj = true ∧ ¬ (kd i = 2 ∧ kd j = 2))
  rlt : ∀ i j, rc i j = true → j < i
  need : ∀ i j, i < ops.size → j < ops.size → kd j = 1 → i ≠ j → rc i j = false → nd i = true
section main
variable {rc : Nat → Nat → Bool} (ok : SerOk PQ ops kd nd rc)
include ok
theorem ser_quiet {i : Nat} {oi : Oper} (hi : ops[i]? = some oi) (hk : kd i ≠ 2) : ∀ (l : List Nat) (a : Act) (w : World), l.Pairwise (· < ·) → (∀ j ∈ l, j < ops.size) → i ∈ l → (∀ j ∈ l, j < i → rc i j = false) →
    Ser P PQ ops Sw kd nd Fin l a w → (∃ v, YieldsIf P ops (fun w => kd i = 1 → Sw w) oi v a ∧ Ser P PQ ops Sw kd nd Fin (l.erase i) (a.put oi.dst v) w)
  | [], _, _, _, _, hm, _, _ => by cases hm
  | j :: l, a, w, hp, hlt, hm, hrc, h => by
    obtain ⟨oj, hj, h⟩ := h
    by_cases hij : j = i
    · subst hij
      rw [hi] at hj
      simp only [Option.some.injEq] at hj
      subst hj
      rcases h with ⟨hk2, _⟩ | ⟨_, v, hy, hser⟩
      · exact absurd hk2 hk
      · exact ⟨v, hy, by simpa using hser⟩
    · have hm' : i ∈ l := by
        rcases List.mem_cons.1 hm with h | h
        · exact absurd h.symm hij
        · exact h
      have hji : j < i := (List.pairwise_cons.1 hp).1 i hm'
      have hp' := (List.pairwise_cons.1 hp).2
      have hlt' : ∀ k ∈ l, k < ops.size := fun k hk => hlt k (List.mem_cons_of_mem _ hk)
      have hrc' : ∀ k ∈ l, k < i → rc i k = false := fun k hk => hrc k (List.mem_cons_of_mem _ hk)
      have hap := (ok.ord i j oi oj hji hi hj).resolve_left (by rw [hrc j (List.mem_cons_self ..) hji]; simp)
      obtain ⟨ap1, ap2, _⟩ := hap
      obtain ⟨a1, a2, a3⟩ := Oper.apart_spec ap1
      obtain ⟨b1, b2, b3⟩ := Oper.apart_spec ap2
      have herase : (j :: l).erase i = j :: l.erase i := by rw [List.erase_cons_tail (by simpa using hij)]
      rw [herase]
      rcases h with ⟨hk2, hwp⟩ | ⟨hkj, vj, hyj, hser⟩
      · -- the earlier one changes memory
        have hst : ∀ c ds w, ¬ PQ c ds w := by
          rcases ok.pan with hst | hp
          · exact hst
          · have h1 := hp i j hji (hlt' i hm') hk hk2
            rw [hrc j (List.mem_cons_self ..) hji] at h1; cases h1
        have hform := wpOp_form hj hwp
        have hmono : wpOpR P ops (Qp PQ) j (fun a' w' => (∃ u ds, a' = ({ a with defers := ds } : Act).put oj.dst u) ∧ (nd j = true → Sw w') ∧
            ∃ v, YieldsIf P ops (fun w => kd i = 1 → Sw w) oi v a ∧ Ser P PQ ops Sw kd nd Fin (l.erase i) (a'.put oi.dst v) w') a w := by
          refine wpOpR_mono ?_ hform
          rintro a' w' ⟨⟨u, ds, rfl⟩, hS, hser⟩
          obtain ⟨v, hy, hs⟩ := ser_quiet hi hk l _ w' hp' hlt' hm' hrc' hser
          exact ⟨⟨u, ds, rfl⟩, hS, v, (yields_same (ok.sel i oi · · hi) b3).1 hy, hs⟩
        obtain ⟨a0, w0, _, _, v, hy, _⟩ := wpOp_some hst hmono
        refine ⟨v, hy, oj, hj, .inl ⟨hk2, wpOp_put_back hj ap2 (ok.sel j oj · · hj) (wpOpR_mono ?_ hmono)⟩⟩
        rintro a' w' ⟨_, hS, v', hy', hs'⟩
        have hSw : kd i = 1 → Sw w' := fun hk1 => hS (ok.need j i (hlt j (List.mem_cons_self ..)) (hlt' i hm') hk1 hij (by
          cases hr : rc j i with
          | false => rfl
          | true => have := ok.rlt j i hr; omega))
        have := yields_unique (S := fun w => kd i = 1 → Sw w) hSw hy hy'
        subst this
        exact ⟨hS, hs'⟩
      · obtain ⟨vi, hyi, hs⟩ := ser_quiet hi hk l _ w hp' hlt' hm' hrc' hser
        refine ⟨vi, ?_, oj, hj, .inr ⟨hkj, vj, ?_, ?_⟩⟩
        · exact (yields_same (ds := a.defers) (ok.sel i oi · · hi) b3).1 hyi
        · exact (yields_same (ds := a.defers) (ok.sel j oj · · hj) a3).2 hyj
        · rw [Act.put_comm a vi vj b2]; exact hs
theorem ser_eff {i : Nat} {oi : Oper} (hi : ops[i]? = some oi) (hk : kd i = 2) : ∀ (l : List Nat) (a : Act) (w : World), l.Pairwise (· < ·) → i ∈ l → (∀ j ∈ l, j < i → rc i j = false) →
    Ser P PQ ops Sw kd nd Fin l a w → wpOpR P ops (Qp PQ) i (fun a' w' => (nd i = true → Sw w') ∧ Ser P PQ ops Sw kd nd Fin (l.erase i) a' w') a w
  | [], _, _, _, hm, _, _ => by cases hm
  | j :: l, a, w, hp, hm, hrc, h => by
    obtain ⟨oj, hj, h⟩ := h
    by_cases hij : j = i
    · subst hij
      rcases h with ⟨_, h⟩ | ⟨hk2, _⟩
      · simpa using h
      · exact absurd hk hk2
    · have hm' : i ∈ l := by
        rcases List.mem_cons.1 hm with h | h
        · exact absurd h.symm hij
        · exact h
      have hji : j < i := (List.pairwise_cons.1 hp).1 i hm'
      have hp' := (List.pairwise_cons.1 hp).2
      have hrc' : ∀ k ∈ l, k < i → rc i k = false := fun k hk => hrc k (List.mem_cons_of_mem _ hk)
      have hap := (ok.ord i j oi oj hji hi hj).resolve_left (by rw [hrc j (List.mem_cons_self ..) hji]; simp)
      obtain ⟨ap1, ap2, hne⟩ := hap
      have herase : (j :: l).erase i = j :: l.erase i := by rw [List.erase_cons_tail (by simpa using hij)]
      rw [herase]
      rcases h with ⟨hk2, _⟩ | ⟨hkj, vj, hyj, hser⟩
      · exact absurd ⟨hk, hk2⟩ hne
      · have ih := ser_eff hi hk l _ w hp' hm' hrc' hser
        have := wpOpR_putIf hi ap1 (ok.sel j oj · · hj) (ok.sel i oi · · hi) hyj ih
        refine wpOpR_mono ?_ this
        rintro a' w' ⟨hy, hS, hs⟩
        exact ⟨hS, oj, hj, .inr ⟨hkj, vj, hy, hs⟩⟩
theorem ser_any {Q : Exit → Act → World → Prop} (hQ : ∀ a w, Fin a w → Q .normal a w) (hQP : ∀ c a w, PQ c a.defers w → Q (.panic c) a w)
    (hrl : ∀ (listed : Array Bool) i, (∀ k, listed.getD k false = true → ∀ o, ops[k]? = some o → ∀ e ∈ o.after, Region.binds .any e = true → listed.getD e.on false = true) →
      i ∈ Region.ready .any ops listed → ∀ j, rc i j = true → listed.getD j false = true) :
    ∀ (fuel : Nat) (listed : Array Bool) (l : List Nat) (a : Act) (w : World), listed.size = ops.size → l.length = fuel → l.Pairwise (· < ·) → (∀ i, i ∈ l ↔ i < ops.size ∧ listed.getD i true = false) →
      (∀ k, listed.getD k false = true → ∀ o, ops[k]? = some o → ∀ e ∈ o.after, Region.binds .any e = true → listed.getD e.on false = true) →
      ((∃ j ∈ l, kd j = 1) → Sw w) → Ser P PQ ops Sw kd nd Fin l a w → wpAnyR P ops Q fuel listed a w
  | 0, listed, l, a, w, hsz, hlen, hp, hmem, hdc, hS, h => by
    have hl : l = [] := List.eq_nil_of_length_eq_zero hlen
    subst hl
    refine ⟨?_, hQ a w h⟩
    apply List.eq_nil_iff_forall_not_mem.2
    intro i hi
    obtain ⟨h0, o, ho, _⟩ := mem_ready.1 hi
    have := (hmem i).2 ⟨(Array.getElem?_eq_some_iff.1 ho).1, h0⟩
    cases this
  | fuel + 1, listed, l, a, w, hsz, hlen, hp, hmem, hdc, hS, h => by
    have both : ∀ j, j < ops.size → (listed.getD j false = true ∨ listed.getD j true = false) := by
      intro j hj
      have : j < listed.size := by omega
      rw [Array.getD_eq_getD_getElem?, Array.getD_eq_getD_getElem?, Array.getElem?_eq_getElem this]
      cases listed[j] <;> simp
    refine ⟨fun hnil => ?_, fun i hi => ?_⟩
    · cases l with
      | nil => simp at hlen
      | cons j l =>
        exfalso
        obtain ⟨oj, hj, _⟩ := h
        have hjm := (hmem j).1 (List.mem_cons_self ..)
        have : j ∈ Region.ready .any ops listed := mem_ready.2 ⟨hjm.2, oj, hj, fun e he hb => by
          have hlt := ok.dep j oj hj e he hb
          rcases both e.on (by omega) with h | h
          · exact h
          · have hm := (hmem e.on).2 ⟨by omega, h⟩
            rcases List.mem_cons.1 hm with h | h
            · omega
            · have := (List.pairwise_cons.1 hp).1 _ h; omega⟩
        rw [hnil] at this; cases this
    · obtain ⟨h0, oi, ho, hdeps⟩ := mem_ready.1 hi
      have hlt := (Array.getElem?_eq_some_iff.1 ho).1
      have him : i ∈ l := (hmem i).2 ⟨hlt, h0⟩
      have hrc : ∀ j ∈ l, rc i j = false := by
        intro j hj
        cases hr : rc i j with
        | false => rfl
        | true =>
          have h1 := hrl listed i hdc hi j hr
          have h2 := ((hmem j).1 hj).2
          have : j < listed.size := by have := ((hmem j).1 hj).1; omega
          rw [Array.getD_eq_getD_getElem?, Array.getElem?_eq_getElem this] at h1 h2
          simp only [Option.getD_some] at h1 h2
          rw [h1] at h2; cases h2
      have next : ∀ a' w', ((∃ j ∈ l.erase i, kd j = 1) → Sw w') → Ser P PQ ops Sw kd nd Fin (l.erase i) a' w' → wpAnyR P ops Q fuel (listed.setIfInBounds i true) a' w' := by
        intro a' w' hS' hs'
        have hnd : l.Nodup := hp.imp (fun h => Nat.ne_of_lt h)
        refine ser_any hQ hQP hrl fuel _ (l.erase i) a' w' (by simp [hsz]) (by rw [List.length_erase_of_mem him, hlen]; rfl) (hp.sublist List.erase_sublist) (fun k => ?_) (fun k hk o hok e he hb => ?_) hS' hs'
        · rw [hnd.mem_erase_iff, hmem k]
          by_cases hki : k = i
          · subst hki
            have : k < listed.size := by omega
            simp [this]
          · rw [getD_set_ne true (fun e => hki e.symm)]
            simp [hki]
        · by_cases hki : k = i
          · subst hki
            rw [ho] at hok
            simp only [Option.some.injEq] at hok
            subst hok
            exact getD_set_true (hdeps e he hb)
          · rw [getD_set_ne false (fun e => hki e.symm)] at hk
            exact getD_set_true (hdc k hk o hok e he hb)
      by_cases hk : kd i = 2
      · refine wpOpR_Q hQP (wpOpR_mono ?_ (ser_eff ok ho hk l a w hp him (fun j hj _ => hrc j hj) h))
        rintro a' w' ⟨hS', hs'⟩
        refine next a' w' (fun ⟨j, hj, hkj⟩ => hS' ?_) hs'
        have hnd : l.Nodup := hp.imp (fun h => Nat.ne_of_lt h)
        have hj' := (hnd.mem_erase_iff.1 hj)
        exact ok.need i j hlt ((hmem j).1 hj'.2).1 hkj (fun e => hj'.1 e.symm) (hrc j hj'.2)
      · obtain ⟨v, hy, hs'⟩ := ser_quiet ok ho hk l a w hp (fun j hj => ((hmem j).1 hj).1) him (fun j hj _ => hrc j hj) h
        have hSi : kd i = 1 → Sw w := fun h1 => hS ⟨i, him, h1⟩
        exact yieldsR ho hy hSi (next _ w (fun ⟨j, hj, hkj⟩ => hS ⟨j, List.mem_of_mem_erase hj, hkj⟩) hs')
end main
end
end Go.SL
