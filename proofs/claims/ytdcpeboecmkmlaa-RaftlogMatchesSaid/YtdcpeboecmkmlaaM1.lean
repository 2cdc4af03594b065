/-
  Logs that add each in terms of its own, and are offered what others have, match: plainly.
-/
import Derived.Test.YtdcpeboecmkmlaaY
set_option linter.unusedSimpArgs false
set_option linter.unusedVariables false
namespace Go.Proofs.Ytdcpeboecmkmlaa
open Go.SL
set_option maxRecDepth 10000

/-- the log 'es' is, up to each of its entries, what that entry's leader had -/
def Pre (LL : Int → List LE) (es : List LE) : Prop := ∀ i : Nat, i < es.length → es.take (i + 1) = (LL (geti es (i : Int)).term).take (i + 1)

theorem Pre.long {LL : Int → List LE} {es : List LE} (h : Pre LL es) {i : Nat} (hi : i < es.length) : i + 1 ≤ (LL (geti es (i : Int)).term).length := by
  have := congrArg List.length (h i hi)
  rw [List.length_take, List.length_take] at this
  omega
theorem Pre.mono {LL LL' : Int → List LE} {es : List LE} (h : Pre LL es) (hp : ∀ t, ∃ r, LL' t = LL t ++ r) : Pre LL' es := by
  intro i hi
  obtain ⟨r, hr⟩ := hp (geti es (i : Int)).term
  rw [hr, List.take_append_of_le_length (h.long hi)]
  exact h i hi
theorem geti_take {es : List LE} {n i : Nat} (h : i < n) : geti (es.take n) (i : Int) = geti es (i : Int) := by
  simp only [geti, List.getD]
  rw [List.getElem?_take, if_pos (by omega)]
theorem Pre.take {LL : Int → List LE} {es : List LE} (h : Pre LL es) (n : Nat) : Pre LL (es.take n) := by
  intro i hi
  rw [List.length_take] at hi
  rw [geti_take (by omega), List.take_take, Nat.min_eq_left (by omega)]
  exact h i (by omega)
theorem Pre.snoc {LL : Int → List LE} {es : List LE} {e : LE} (h : Pre LL es) (he : LL e.term = es ++ [e]) : Pre LL (es ++ [e]) := by
  intro i hi
  simp only [List.length_append, List.length_cons, List.length_nil] at hi
  by_cases hl : i < es.length
  · have e1 : geti (es ++ [e]) (i : Int) = geti es (i : Int) := by
      simp only [geti, List.getD]
      rw [List.getElem?_append_left (by omega)]
    rw [e1, List.take_append_of_le_length (by omega)]
    exact h i hl
  · have : i = es.length := by omega
    subst this
    have e1 : geti (es ++ [e]) (es.length : Int) = e := by simp [geti, List.getD]
    rw [e1, he]
theorem Pre.same {LL : Int → List LE} {a b : List LE} (ha : Pre LL a) (hb : Pre LL b) {i : Nat} (hia : i < a.length) (hib : i < b.length) (ht : (geti a (i : Int)).term = (geti b (i : Int)).term) : a.take (i + 1) = b.take (i + 1) := by
  rw [ha i hia, hb i hib, ht]

def mk3 (es : List LE) : LG := ⟨0, 0, [1, 2, 3], es, 0⟩
theorem mk3_wf {es : List LE} (h : followB 0 0 es = true) (hl : es.length ≤ 400) : WF (mk3 es) :=
  ⟨rfl, rfl, rfl, by simp [mk3], h, by simp [mk3, lastI], by simp [mk3]; omega⟩
theorem fol_take {i t : Int} {es : List LE} (h : followB i t es = true) (m : Nat) : followB i t (es.take m) = true := by
  rw [← List.take_append_drop m es, followB_append, Bool.and_eq_true] at h
  exact h.1

theorem offW_match {LL : Int → List LE} {a b : List LE} (ha : followB 0 0 a = true) (pa : Pre LL a) (pb : Pre LL b) : ∀ (m N : Nat), N ≤ a.length → N ≤ b.length → b.take N = a.take N →
    ∃ es, offW (mk3 b) ((a.drop N).take m) = some (mk3 es) ∧ (es = b ∨ ∃ j, es = a.take j)
  | 0, N, _, _, _ => ⟨b, by simp [offW], .inl rfl⟩
  | m + 1, N, h1, h2, h3 => by
    by_cases hN : N < a.length
    · have hi := (fol_at ha hN).1
      have hd := drop_geti hN
      have cut : ∃ es, some ({ mk3 b with es := b.take N ++ geti a (N : Int) :: (a.drop (N + 1)).take m } : LG) = some (mk3 es) ∧ (es = b ∨ ∃ j, es = a.take j) := by
        refine ⟨_, rfl, .inr ⟨N + (m + 1), ?_⟩⟩
        rw [h3, List.take_add, hd, List.take_succ_cons]
      rw [hd, List.take_succ_cons, offW]
      have ei : (geti a (N : Int)).index = (N : Int) + 1 := by omega
      by_cases hb : N < b.length
      · have e1 : entAt (mk3 b) (geti a (N : Int)).index = some (geti b (N : Int)) := by
          rw [ei]
          unfold entAt lastI mk3
          simp only
          rw [if_pos (by omega)]
          congr 2; omega
        rw [e1]
        simp only
        by_cases ht : (geti b (N : Int)).term = (geti a (N : Int)).term
        · rw [if_pos ht]
          exact offW_match ha pa pb m (N + 1) (by omega) (by omega) (pb.same pa hb hN ht)
        · rw [if_neg ht, if_neg (by rw [ei]; show ¬ ((N : Int) + 1 ≤ 0); omega), ei]
          have : ((N : Int) + 1 - (mk3 b).index - 1).toNat = N := by show ((N : Int) + 1 - 0 - 1).toNat = N; omega
          rw [this]
          exact cut
      · have e1 : entAt (mk3 b) (geti a (N : Int)).index = none := by
          rw [ei]
          unfold entAt lastI mk3
          simp only
          rw [if_neg (by omega)]
        rw [e1, ei]
        have : ((N : Int) + 1 - (mk3 b).index - 1).toNat = N := by show ((N : Int) + 1 - 0 - 1).toNat = N; omega
        simp only [this]
        exact cut
    · rw [List.drop_of_length_le (by omega)]
      exact ⟨b, by simp [offW], .inl rfl⟩

theorem offer_mt {LL : Int → List LE} {a b : List LE} (ha : followB 0 0 a = true) (hb : followB 0 0 b = true) (hal : a.length ≤ 400) (hbl : b.length ≤ 400) (pa : Pre LL a) (pb : Pre LL b) {N many t : Int} (ht : termAt (mk3 a) N = (t, 0)) :
    ∃ es, (offerG (mk3 b) N t (sliceAt (mk3 a) (N + 1) many)).2.2 = (0, mk3 es) ∧ (es = b ∨ ∃ j, es = a.take j) := by
  have wa := mk3_wf ha hal
  have wb := mk3_wf hb hbl
  obtain ⟨q1, q2⟩ := termAt_ok ht
  have hta := termAt_in wa q1 q2
  rw [hta] at ht
  simp only [Prod.mk.injEq, and_true] at ht
  have q1' : 0 ≤ N := q1
  have q2' : N ≤ a.length := by have : N ≤ 0 + (a.length : Int) := q2; omega
  have e0 : (N - (mk3 a).index).toNat = N.toNat := by show (N - 0).toNat = N.toNat; omega
  rw [e0] at ht
  have ht' : ltm 0 (a.take N.toNat) = t := ht
  obtain ⟨m, hm⟩ : ∃ m, sliceAt (mk3 a) (N + 1) many = (a.drop N.toNat).take m := by
    unfold sliceAt
    split
    · exact ⟨many.toNat, by rw [show (N + 1 - (mk3 a).index - 1).toNat = N.toNat from by show (N + 1 - 0 - 1).toNat = N.toNat; omega]; rfl⟩
    · exact ⟨0, by simp⟩
  obtain ⟨f1, f2⟩ := fol_drop ha (k := N.toNat) (by omega)
  have hf : followB N t (sliceAt (mk3 a) (N + 1) many) = true := by
    rw [hm]
    refine fol_take ?_ m
    rw [show (0 : Int) + (N.toNat : Int) = N from by omega, ht'] at f1
    exact f1
  have hcN : countB N = true := in_count wa q1 q2
  have hct : countB t = true := by rw [← ht']; exact ltm_count rfl f2
  unfold offerG
  rw [if_neg (by simp [hcN, hct, hf]), if_neg (by show ¬ (N < 0); omega)]
  by_cases htb : termAt (mk3 b) N = (t, 0)
  · rw [if_pos htb]
    obtain ⟨r1, r2⟩ := termAt_ok htb
    have htb' := termAt_in wb r1 r2
    rw [htb'] at htb
    simp only [Prod.mk.injEq, and_true] at htb
    have r2' : N ≤ b.length := by have : N ≤ 0 + (b.length : Int) := r2; omega
    have e0' : (N - (mk3 b).index).toNat = N.toNat := by show (N - 0).toNat = N.toNat; omega
    rw [e0'] at htb
    have htb'' : ltm 0 (b.take N.toNat) = t := htb
    have hpre : b.take N.toNat = a.take N.toNat := by
      by_cases h0 : N.toNat = 0
      · rw [h0]; rfl
      · have g1 := take_geti (l := a) (k := N.toNat - 1) (by omega)
        have g2 := take_geti (l := b) (k := N.toNat - 1) (by omega)
        have e : N.toNat - 1 + 1 = N.toNat := by omega
        have hs := pb.same pa (i := N.toNat - 1) (by omega) (by omega) ?_
        · rwa [e] at hs
        · rw [e] at g1 g2
          rw [g1, ltm_append] at ht'
          rw [g2, ltm_append] at htb''
          simp only [ltm] at ht' htb''
          rw [htb'', ht']
    unfold off2
    obtain ⟨es, h1, h2⟩ := offW_match ha pa pb m N.toNat (by omega) (by omega) hpre
    rw [← hm] at h1
    rw [h1]
    exact ⟨es, rfl, h2⟩
  · rw [if_neg htb]
    exact ⟨b, rfl, .inl rfl⟩

/-- three logs, the term, the leader, what each term's leader had -/
structure Mt (gs : Nat → List LE) (n : Nat) (T ld : Int) (LL : Int → List LE) : Prop where
  fol : ∀ k, followB 0 0 (gs k) = true
  len : ∀ k, (gs k).length ≤ n
  pre : ∀ k, Pre LL (gs k)
  prL : ∀ t, Pre LL (LL t)
  new : ∀ t, T < t → LL t = []
  trm : ∀ k, ltm 0 (gs k) ≤ T
  lead : ∀ k : Nat, ld = k → 1 ≤ T ∧ LL T = gs k
  tn : 0 ≤ T ∧ T ≤ n

theorem Mt.start : Mt (fun _ => []) 0 0 (-1) (fun _ => []) :=
  ⟨fun _ => rfl, fun _ => by simp, fun _ i h => by simp at h, fun _ i h => by simp at h, fun _ _ => rfl, fun _ => by simp [ltm], fun k h => by omega, by omega⟩
def upd (gs : Nat → List LE) (k : Nat) (es : List LE) : Nat → List LE := fun j => if j = k then es else gs j
theorem upd_self (gs : Nat → List LE) (k : Nat) (es : List LE) : upd gs k es k = es := by simp [upd]
theorem upd_ne {gs : Nat → List LE} {k j : Nat} {es : List LE} (h : j ≠ k) : upd gs k es j = gs j := by simp [upd, h]

theorem Mt.add {gs : Nat → List LE} {n : Nat} {T ld : Int} {LL : Int → List LE} (h : Mt gs n T ld LL) (hn : n ≤ 300) (k : Nat) (d : UInt8) :
    (addG (mk3 (gs k)) (if ld = k then T else T + 1) 2 [d]).2 = (0, mk3 (gs k ++ [⟨(gs k).length + 1, if ld = k then T else T + 1, 2, [d]⟩])) ∧
    ∃ LL', Mt (upd gs k (gs k ++ [⟨(gs k).length + 1, if ld = k then T else T + 1, 2, [d]⟩])) (n + 1) (if ld = k then T else T + 1) k LL' := by
  generalize hT : (if ld = (k : Int) then T else T + 1) = T'
  have htn := h.tn
  have hT' : 1 ≤ T' ∧ T ≤ T' ∧ T' ≤ T + 1 ∧ ∃ r, gs k ++ r = gs k ++ [⟨(gs k).length + 1, T', 2, [d]⟩] ∧ (LL T' = gs k ∨ LL T' = []) := by
    split at hT
    · rename_i hl
      obtain ⟨l1, l2⟩ := h.lead k hl
      subst hT
      exact ⟨l1, by omega, by omega, _, rfl, .inl l2⟩
    · subst hT
      exact ⟨by omega, by omega, by omega, _, rfl, .inr (h.new _ (by omega))⟩
  obtain ⟨t1, t2, t3, -, -, hLT⟩ := hT'
  have hlen := h.len k
  have hfol : followB 0 0 (gs k ++ [⟨(gs k).length + 1, T', 2, [d]⟩]) = true := by
    have := h.trm k
    rw [followB_append, h.fol k]
    simp only [followB, entB, countB, Bool.true_and, Bool.and_true, Bool.and_eq_true, decide_eq_true_eq, List.length_cons, List.length_nil]
    refine ⟨⟨⟨⟨⟨?_, ?_⟩, ?_⟩, ?_⟩, ?_⟩, ?_⟩
    · omega
    · omega
    · omega
    · simp
    · omega
    · omega
  refine ⟨?_, ?_⟩
  · unfold addG
    have e1 : lastI (mk3 (gs k)) + 1 = (gs k).length + 1 := by show (0 : Int) + (gs k).length + 1 = _; omega
    have hfl : followB (lastI (mk3 (gs k))) (lastT (mk3 (gs k))) [⟨lastI (mk3 (gs k)) + 1, T', 2, [d]⟩] = true := by
      rw [followB_append, Bool.and_eq_true] at hfol
      rw [e1]
      exact hfol.2
    rw [if_pos hfl, e1]
    rfl
  · have hLL : ∀ t, ∃ r, (fun t => if t = T' then gs k ++ [⟨(gs k).length + 1, T', 2, [d]⟩] else LL t) t = LL t ++ r := by
      intro t
      simp only
      split
      · rename_i e
        subst e
        rcases hLT with h1 | h1
        · rw [h1]; exact ⟨_, rfl⟩
        · rw [h1]; exact ⟨_, rfl⟩
      · exact ⟨[], by simp⟩
    have hp : Pre (fun t => if t = T' then gs k ++ [⟨(gs k).length + 1, T', 2, [d]⟩] else LL t) (gs k ++ [⟨(gs k).length + 1, T', 2, [d]⟩]) :=
      Pre.snoc ((h.pre k).mono hLL) (by simp)
    refine ⟨fun t => if t = T' then gs k ++ [⟨(gs k).length + 1, T', 2, [d]⟩] else LL t, ?_⟩
    have hc : ∀ (Q : List LE → Prop), (∀ j, Q (gs j)) → Q (gs k ++ [⟨(gs k).length + 1, T', 2, [d]⟩]) → ∀ j, Q (upd gs k (gs k ++ [⟨(gs k).length + 1, T', 2, [d]⟩]) j) := by
      intro Q h1 h2 j
      by_cases hj : j = k
      · subst hj; rw [upd_self]; exact h2
      · rw [upd_ne hj]; exact h1 j
    refine ⟨hc (fun es => followB 0 0 es = true) h.fol hfol, hc (fun es => es.length ≤ n + 1) (fun j => by have := h.len j; omega) (by simp; omega), hc (Pre _) (fun j => (h.pre j).mono hLL) hp, ?_, ?_, hc (fun es => ltm 0 es ≤ T') (fun j => by have := h.trm j; omega) (by rw [ltm_append]; simp [ltm]), ?_, by omega⟩
    · intro t
      split
      · exact hp
      · exact (h.prL t).mono hLL
    · intro t ht
      rw [if_neg (by omega)]
      exact h.new t (by omega)
    · intro j hj
      have : j = k := by omega
      subst this
      rw [upd_self]
      exact ⟨t1, by simp⟩

theorem ltm_take_le {t : Int} : ∀ {i : Int} {es : List LE} (n : Nat), followB i t es = true → ltm t (es.take n) ≤ ltm t es := by
  intro i es n h
  have h' := h
  rw [← List.take_append_drop n es, followB_append, Bool.and_eq_true] at h'
  have := ltm_ge h'.2
  conv => rhs; rw [← List.take_append_drop n es, ltm_append]
  exact this

theorem Mt.offer {gs : Nat → List LE} {n : Nat} {T ld : Int} {LL : Int → List LE} (h : Mt gs n T ld LL) (hn : n ≤ 300) (a b : Nat) {N many t : Int} (ht : termAt (mk3 (gs a)) N = (t, 0)) :
    ∃ es, (offerG (mk3 (gs b)) N t (sliceAt (mk3 (gs a)) (N + 1) many)).2.2 = (0, mk3 es) ∧ Mt (upd gs b es) n T (if ld = b then -1 else ld) LL := by
  obtain ⟨es, h1, h2⟩ := offer_mt (h.fol a) (h.fol b) (by have := h.len a; omega) (by have := h.len b; omega) (h.pre a) (h.pre b) (many := many) ht
  refine ⟨es, h1, ?_⟩
  have hc : ∀ (Q : List LE → Prop), (∀ j, Q (gs j)) → (∀ j m, Q ((gs j).take m)) → ∀ j, Q (upd gs b es j) := by
    intro Q q1 q2 j
    by_cases hj : j = b
    · subst hj; rw [upd_self]
      rcases h2 with rfl | ⟨m, rfl⟩
      · exact q1 _
      · exact q2 _ _
    · rw [upd_ne hj]; exact q1 j
  refine ⟨hc (fun es => followB 0 0 es = true) h.fol (fun j m => fol_take (h.fol j) m), hc (fun es => es.length ≤ n) h.len (fun j m => by have := h.len j; rw [List.length_take]; omega), hc (Pre LL) h.pre (fun j m => (h.pre j).take m), h.prL, h.new,
    hc (fun es => ltm 0 es ≤ T) h.trm (fun j m => by have := h.trm j; have := ltm_take_le m (h.fol j); omega), ?_, h.tn⟩
  intro k hk
  split at hk
  · omega
  · have : k ≠ b := by omega
    rw [upd_ne this]
    exact h.lead k hk
theorem Mt.up {gs : Nat → List LE} {n : Nat} {T ld : Int} {LL : Int → List LE} (h : Mt gs n T ld LL) : Mt gs (n + 1) T ld LL :=
  ⟨h.fol, fun k => by have := h.len k; omega, h.pre, h.prL, h.new, h.trm, h.lead, by have := h.tn; omega⟩
end Go.Proofs.Ytdcpeboecmkmlaa
