/-
  Regions that draw their order, with operations that change memory and have no order among them.
-/
import Derived.Test.YtmnnnoinfhiilaaDoorSlDraw
set_option linter.unusedSimpArgs false
set_option linter.unusedVariables false
set_option linter.unusedSectionVars false
namespace Go.SL
section
variable {P : Program} {PQ : List PanicEntry → List Deferred → World → Prop} {ops : Array Oper} {Sw : World → Prop} {kd : Nat → Nat} {nd : Nat → Bool} {rc : Nat → Nat → Bool} {Fin : Act → World → Prop}
def Rdy (rc : Nat → Nat → Bool) (i : Nat) (l : List Nat) : Prop := ∀ j ∈ l, j ≠ i → rc i j = false
theorem Rdy.erase {i j : Nat} {l : List Nat} (h : Rdy rc i l) : Rdy rc i (l.erase j) := fun k hk hne => h k (List.mem_of_mem_erase hk) hne
def SerG (P : Program) (PQ : List PanicEntry → List Deferred → World → Prop) (ops : Array Oper) (Sw : World → Prop) (kd : Nat → Nat) (nd : Nat → Bool) (rc : Nat → Nat → Bool) (Fin : Act → World → Prop) : Nat → List Nat → Act → World → Prop
  | 0, _, a, w => Fin a w
  | f + 1, l, a, w =>
    (∃ i o v, i ∈ l ∧ kd i ≠ 2 ∧ Rdy rc i l ∧ ops[i]? = some o ∧ YieldsIf P ops (fun w => kd i = 1 → Sw w) o v a ∧ SerG P PQ ops Sw kd nd rc Fin f (l.erase i) (a.put o.dst v) w) ∨
    ((∀ i ∈ l, Rdy rc i l → kd i = 2) ∧ ∀ k ∈ l, Rdy rc k l → wpOpR P ops (Qp PQ) k (fun a' w' => (nd k = true → Sw w') ∧ SerG P PQ ops Sw kd nd rc Fin f (l.erase k) a' w') a w)
structure SerGOk (ops : Array Oper) (kd : Nat → Nat) (nd : Nat → Bool) (rc : Nat → Nat → Bool) : Prop where
  sel : ∀ (j : Nat) (o : Oper) cs b, ops[j]? = some o → o.op ≠ .select cs b
  dep : ∀ i o, ops[i]? = some o → ∀ e ∈ o.after, Region.binds .any e = true → e.on < i
  ord : ∀ i j oi oj, j < i → ops[i]? = some oi → ops[j]? = some oj → rc i j = true ∨ (oj.apart ops oi = true ∧ oi.apart ops oj = true)
  need : ∀ i j, i < ops.size → j < ops.size → kd j = 1 → i ≠ j → rc i j = false → nd i = true
section main
variable (ok : SerGOk ops kd nd rc)
include ok
theorem SerGOk.apart {i j : Nat} {oi oj : Oper} (hi : ops[i]? = some oi) (hj : ops[j]? = some oj) (hne : i ≠ j) (h1 : rc i j = false) (h2 : rc j i = false) : oi.apart ops oj = true ∧ oj.apart ops oi = true := by
  rcases Nat.lt_or_gt_of_ne hne with h | h
  · have := (ok.ord j i oj oi h hj hi).resolve_left (by simp [h2])
    exact this
  · have := (ok.ord i j oi oj h hi hj).resolve_left (by simp [h1])
    exact ⟨this.2, this.1⟩
theorem serg_quiet {i : Nat} {oi : Oper} (hi : ops[i]? = some oi) (hk : kd i ≠ 2) : ∀ (f : Nat) (l : List Nat) (a : Act) (w : World), l.Nodup → l.length = f + 1 → i ∈ l → Rdy rc i l → SerG P PQ ops Sw kd nd rc Fin (f + 1) l a w →
    ∃ v, YieldsIf P ops (fun w => kd i = 1 → Sw w) oi v a ∧ SerG P PQ ops Sw kd nd rc Fin f (l.erase i) (a.put oi.dst v) w := by
  intro f
  induction f with
  | zero =>
    intro l a w hnd hlen hm hrd h
    rcases h with ⟨i', o', v', hm', hk', hrd', ho', hy', hs'⟩ | ⟨h2, _⟩
    · have : i' = i := by
        cases l with
        | nil => cases hm
        | cons x l =>
          have : l = [] := List.eq_nil_of_length_eq_zero (by simpa using hlen)
          subst this
          simp only [List.mem_singleton] at hm hm'
          rw [hm, hm']
      subst this
      rw [hi] at ho'
      simp only [Option.some.injEq] at ho'
      subst ho'
      exact ⟨v', hy', hs'⟩
    · exact absurd (h2 i hm hrd) hk
  | succ f ih =>
    intro l a w hnd hlen hm hrd h
    rcases h with ⟨i', o', v', hm', hk', hrd', ho', hy', hs'⟩ | ⟨h2, _⟩
    · by_cases hii : i' = i
      · subst hii
        rw [hi] at ho'
        simp only [Option.some.injEq] at ho'
        subst ho'
        exact ⟨v', hy', hs'⟩
      · have hm1 : i ∈ l.erase i' := (List.mem_erase_of_ne (fun e => hii e.symm)).2 hm
        obtain ⟨v, hy, hs⟩ := ih (l.erase i') _ w (hnd.erase i') (by rw [List.length_erase_of_mem hm', hlen]; rfl) hm1 hrd.erase hs'
        obtain ⟨ap1, ap2⟩ := ok.apart hi ho' (fun e => hii e.symm) (hrd i' hm' hii) (hrd' i hm (fun e => hii e.symm))
        obtain ⟨a1, a2, a3⟩ := Oper.apart_spec ap1
        obtain ⟨b1, b2, b3⟩ := Oper.apart_spec ap2
        refine ⟨v, (yields_same (ds := a.defers) (ok.sel i oi · · hi) a3).1 hy, .inl ⟨i', o', v', (List.mem_erase_of_ne hii).2 hm', hk', hrd'.erase, ho', ?_, ?_⟩⟩
        · exact (yields_same (ds := a.defers) (ok.sel i' o' · · ho') b3).2 hy'
        · rw [List.erase_comm, Act.put_comm a v v' a2]; exact hs
    · exact absurd (h2 i hm hrd) hk
theorem serg_eff {k : Nat} {ok' : Oper} (hi : ops[k]? = some ok') (hk : kd k = 2) : ∀ (f : Nat) (l : List Nat) (a : Act) (w : World), l.Nodup → l.length = f + 1 → k ∈ l → Rdy rc k l → SerG P PQ ops Sw kd nd rc Fin (f + 1) l a w →
    wpOpR P ops (Qp PQ) k (fun a' w' => (nd k = true → Sw w') ∧ SerG P PQ ops Sw kd nd rc Fin f (l.erase k) a' w') a w := by
  intro f
  induction f with
  | zero =>
    intro l a w hnd hlen hm hrd h
    rcases h with ⟨i', o', v', hm', hk', hrd', ho', hy', hs'⟩ | ⟨_, h2⟩
    · have : i' = k := by
        cases l with
        | nil => cases hm
        | cons x l =>
          have : l = [] := List.eq_nil_of_length_eq_zero (by simpa using hlen)
          subst this
          simp only [List.mem_singleton] at hm hm'
          rw [hm, hm']
      subst this
      exact absurd hk hk'
    · exact h2 k hm hrd
  | succ f ih =>
    intro l a w hnd hlen hm hrd h
    rcases h with ⟨i', o', v', hm', hk', hrd', ho', hy', hs'⟩ | ⟨_, h2⟩
    · have hii : i' ≠ k := fun e => by subst e; exact hk' hk
      have hm1 : k ∈ l.erase i' := (List.mem_erase_of_ne (fun e => hii e.symm)).2 hm
      have := ih (l.erase i') _ w (hnd.erase i') (by rw [List.length_erase_of_mem hm', hlen]; rfl) hm1 hrd.erase hs'
      obtain ⟨ap1, ap2⟩ := ok.apart hi ho' (fun e => hii e.symm) (hrd i' hm' hii) (hrd' k hm (fun e => hii e.symm))
      have := wpOpR_putIf hi ap2 (ok.sel i' o' · · ho') (ok.sel k ok' · · hi) hy' this
      refine wpOpR_mono ?_ this
      rintro a' w' ⟨hy, hS, hs⟩
      refine ⟨hS, .inl ⟨i', o', v', (List.mem_erase_of_ne hii).2 hm', hk', hrd'.erase, ho', hy, ?_⟩⟩
      rw [List.erase_comm]; exact hs
    · exact h2 k hm hrd
theorem serg_any {Q : Exit → Act → World → Prop} (hQ : ∀ a w, Fin a w → Q .normal a w) (hQP : ∀ c a w, PQ c a.defers w → Q (.panic c) a w)
    (hrl : ∀ (listed : Array Bool) i, (∀ k, listed.getD k false = true → ∀ o, ops[k]? = some o → ∀ e ∈ o.after, Region.binds .any e = true → listed.getD e.on false = true) →
      i ∈ Region.ready .any ops listed → ∀ j, rc i j = true → listed.getD j false = true) :
    ∀ (fuel : Nat) (listed : Array Bool) (l : List Nat) (a : Act) (w : World), listed.size = ops.size → l.length = fuel → l.Pairwise (· < ·) → (∀ i, i ∈ l ↔ i < ops.size ∧ listed.getD i true = false) →
      (∀ k, listed.getD k false = true → ∀ o, ops[k]? = some o → ∀ e ∈ o.after, Region.binds .any e = true → listed.getD e.on false = true) →
      ((∃ j ∈ l, kd j = 1) → Sw w) → SerG P PQ ops Sw kd nd rc Fin fuel l a w → wpAnyR P ops Q fuel listed a w
  | 0, listed, l, a, w, hsz, hlen, hp, hmem, hdc, hS, h => by
    have hl : l = [] := List.eq_nil_of_length_eq_zero hlen
    subst hl
    refine ⟨?_, hQ a w h⟩
    apply List.eq_nil_iff_forall_not_mem.2
    intro i hi
    obtain ⟨h0, o, ho, _⟩ := mem_ready.1 hi
    have := (hmem i).2 ⟨(Array.getElem?_eq_some_iff.1 ho).1, h0⟩
    cases this
  | fuel + 1, listed, l, a, w, hsz, hlen, hp, hmem, hdc, hS, h => by
    have both : ∀ j, j < ops.size → (listed.getD j false = true ∨ listed.getD j true = false) := by
      intro j hj
      have : j < listed.size := by omega
      rw [Array.getD_eq_getD_getElem?, Array.getD_eq_getD_getElem?, Array.getElem?_eq_getElem this]
      cases listed[j] <;> simp
    refine ⟨fun hnil => ?_, fun i hi => ?_⟩
    · cases l with
      | nil => simp at hlen
      | cons j l =>
        exfalso
        have hjm := (hmem j).1 (List.mem_cons_self ..)
        obtain ⟨oj, hj⟩ : ∃ oj, ops[j]? = some oj := ⟨_, Array.getElem?_eq_getElem hjm.1⟩
        have : j ∈ Region.ready .any ops listed := mem_ready.2 ⟨hjm.2, oj, hj, fun e he hb => by
          have hlt := ok.dep j oj hj e he hb
          rcases both e.on (by omega) with h | h
          · exact h
          · have hm := (hmem e.on).2 ⟨by omega, h⟩
            rcases List.mem_cons.1 hm with h | h
            · omega
            · have := (List.pairwise_cons.1 hp).1 _ h; omega⟩
        rw [hnil] at this; cases this
    · obtain ⟨h0, oi, ho, hdeps⟩ := mem_ready.1 hi
      have hlt := (Array.getElem?_eq_some_iff.1 ho).1
      have him : i ∈ l := (hmem i).2 ⟨hlt, h0⟩
      have hnd : l.Nodup := hp.imp (fun h => Nat.ne_of_lt h)
      have hrc : ∀ j ∈ l, rc i j = false := by
        intro j hj
        cases hr : rc i j with
        | false => rfl
        | true =>
          have h1 := hrl listed i hdc hi j hr
          have h2 := ((hmem j).1 hj).2
          have : j < listed.size := by have := ((hmem j).1 hj).1; omega
          rw [Array.getD_eq_getD_getElem?, Array.getElem?_eq_getElem this] at h1 h2
          simp only [Option.getD_some] at h1 h2
          rw [h1] at h2; cases h2
      have next : ∀ a' w', ((∃ j ∈ l.erase i, kd j = 1) → Sw w') → SerG P PQ ops Sw kd nd rc Fin fuel (l.erase i) a' w' → wpAnyR P ops Q fuel (listed.setIfInBounds i true) a' w' := by
        intro a' w' hS' hs'
        refine serg_any hQ hQP hrl fuel _ (l.erase i) a' w' (by simp [hsz]) (by rw [List.length_erase_of_mem him, hlen]; rfl) (hp.sublist List.erase_sublist) (fun k => ?_) (fun k hk o hok e he hb => ?_) hS' hs'
        · rw [hnd.mem_erase_iff, hmem k]
          by_cases hki : k = i
          · subst hki
            have : k < listed.size := by omega
            simp [this]
          · rw [getD_set_ne true (fun e => hki e.symm)]
            simp [hki]
        · by_cases hki : k = i
          · subst hki
            rw [ho] at hok
            simp only [Option.some.injEq] at hok
            subst hok
            exact getD_set_true (hdeps e he hb)
          · rw [getD_set_ne false (fun e => hki e.symm)] at hk
            exact getD_set_true (hdc k hk o hok e he hb)
      by_cases hk : kd i = 2
      · refine wpOpR_Q hQP (wpOpR_mono ?_ (serg_eff ok ho hk fuel l a w hnd hlen him (fun j hj _ => hrc j hj) h))
        rintro a' w' ⟨hS', hs'⟩
        refine next a' w' (fun ⟨j, hj, hkj⟩ => hS' ?_) hs'
        have hj' := (hnd.mem_erase_iff.1 hj)
        exact ok.need i j hlt ((hmem j).1 hj'.2).1 hkj (fun e => hj'.1 e.symm) (hrc j hj'.2)
      · obtain ⟨v, hy, hs'⟩ := serg_quiet ok ho hk fuel l a w hnd hlen him (fun j hj _ => hrc j hj) h
        have hSi : kd i = 1 → Sw w := fun h1 => hS ⟨i, him, h1⟩
        exact yieldsR ho hy hSi (next _ w (fun ⟨j, hj, hkj⟩ => hS ⟨j, List.mem_of_mem_erase hj, hkj⟩) hs')
end main
end
end Go.SL
