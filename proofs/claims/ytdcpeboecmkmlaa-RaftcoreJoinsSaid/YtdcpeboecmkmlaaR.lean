/-
  The document's log is offered entries: its code. Copies of both logs.
-/
-- S4
import Derived.Test.YtdcpeboecmkmlaaQ
set_option linter.unusedSimpArgs false
set_option linter.unusedVariables false
namespace Go.Proofs.Ytdcpeboecmkmlaa
open Go.SL
set_option maxRecDepth 10000

section
variable {ω : Om} {I : Imm} {L : LH} {K : Value → M}

theorem app1_len (g : LG) (e : LE) : (app1 g e).es.length ≤ g.es.length + 1 := by
  unfold app1; split <;> simp
theorem app1_index (g : LG) (e : LE) : (app1 g e).index = g.index := by
  unfold app1; split <;> rfl

/-- the second round: what lies behind the last entry is laid down -/
theorem roffer4_spec {b : Nat} {F : LH} {X : LH} {g : LG} {i : Int} {ev : Value} {es : List LE} {I0 : Imm} (hI0 : Ext I0 I) (h : LogQ I b X g) (hi : 0 ≤ i ∧ i ≤ 9007199254740991) (hz : 0 ≤ g.index ∧ g.index ≤ 9007199254740991) (he : Ents I ev es) (hlen : (g.es.length + es.length) * 48 ≤ 150000000000000)
    (hk : ∀ X' I', Ext I0 I' → LogQ I' b X' (app2 g es) → K (.tuple #[.int .i64 (i + es.length), .bool true, .int .i64 0]) I' (X' ++ F)) :
    sh77_4 ω (.pointer (some ⟨b, 0, none⟩)) (.int .i64 i) (.int .i64 0) (.bool false) (.int .i64 0) ev (fun v => Gh (K v)) I (X ++ F) := by
  unfold sh77_4
  refine loop (fun m s I' L' => Ext I I' ∧ ∃ (k : Nat) (gk : LG) (Xk : LH), k + m = es.length ∧ s = (.int .i64 k, ()) ∧ LogQ I' b Xk gk ∧ L' = Xk ++ F ∧ app2 gk (es.drop k) = app2 g es ∧ gk.index = g.index ∧ gk.es.length ≤ g.es.length + k) es.length
    ⟨Ext.refl I, 0, g, X, by omega, rfl, h, rfl, rfl, rfl, by omega⟩ ?_
  rintro m s I' L' ⟨hI, k, gk, Xk, hkm, rfl, hQ, rfl, hap, hgi, hgl⟩
  unfold sh77_7
  simp only [RL.len he, SSe, List.getElem?_toArray, List.getElem?_cons_zero, List.getElem?_cons_succ, Nat.zero_add, Nat.add_zero, Nat.zero_mul]
  have hsz : Sz gk := ⟨by omega, by omega, by omega⟩
  refine br_split (fun hlt => ?_) (fun hlt => ?_)
  · simp at hlt
    rw [drop_geti hlt, app2] at hap
    obtain ⟨b2, off, c, hix, hcl, ⟨dv, rfl, hB⟩, hc⟩ := RL.ix he (i := k) (by omega) (by omega)
    have hc := hc I' [] hI (fun _ h => by cases h)
    have d0 := hc 0 _ rfl
    simp only [Nat.add_zero] at d0
    simp only [hix, SSe, List.getElem?_toArray, List.getElem?_cons_zero, List.getElem?_cons_succ, Nat.zero_add, Nat.add_zero, Nat.zero_mul]
    refine drawC ?_
    refine rdCS d0 (Ext.refl _) ?_
    refine call (rlast_spec hQ.viewF hsz ?_)
    refine keepC (Ext.refl _) ?_
    try simp only [SSe, List.getElem?_toArray, List.getElem?_cons_zero, List.getElem?_cons_succ, Nat.zero_add, Nat.add_zero, Nat.zero_mul]
    refine br_split (fun h1 => ?_) (fun h1 => ?_)
    · simp only [decide_eq_true_eq] at h1
      rw [app1, if_pos h1] at hap
      obtain ⟨mv, lv, rfl, hm, hE⟩ := hQ
      refine drawC ?_
      simp only [List.cons_append, List.nil_append]
      refine rdbS ?_
      refine rdNCS hc (Ext.refl _) rfl ?_
      refine snoc3 (e := geti es (k : Int)) hE ⟨_, rfl, hB.mono hI⟩ (Ext.refl _) (by omega) (fun X' v' cells' h' hR' => ?_)
      try simp only [SSe, List.getElem?_toArray, List.getElem?_cons_zero, List.getElem?_cons_succ, Nat.zero_add, Nat.add_zero, Nat.zero_mul]
      refine st1G (gr_one (I := I') (.inl h')) ?_
      refine Ents.ofO h' hR' (fun I4 hI4 hE4 => Gh.done ?_)
      unfold sh77_8
      simp only [SSe, List.getElem?_toArray, List.getElem?_cons_zero, List.getElem?_cons_succ, Nat.zero_add, Nat.add_zero, Nat.zero_mul, wrap_i64 ((k : Int) + 1) (by omega)]
      refine Gh.done ?_
      exact ⟨m - 1, by omega, hI.trans hI4, k + 1, { gk with es := gk.es ++ [geti es (k : Int)] }, [_], by omega, by simp, ⟨mv, v', rfl, hm.mono hI4, hE4⟩, rfl, hap, hgi, by simp; omega⟩
    · simp only [decide_eq_false_iff_not] at h1
      rw [app1, if_neg h1] at hap
      unfold sh77_8
      simp only [SSe, List.getElem?_toArray, List.getElem?_cons_zero, List.getElem?_cons_succ, Nat.zero_add, Nat.add_zero, Nat.zero_mul, wrap_i64 ((k : Int) + 1) (by omega)]
      refine Gh.done ?_
      exact ⟨m - 1, by omega, hI, k + 1, gk, Xk, by omega, by simp, hQ, rfl, hap, hgi, by omega⟩
  · simp at hlt
    rw [List.drop_of_length_le (by omega), app2] at hap
    unfold sh77_5
    simp only [RL.len he, SSe, List.getElem?_toArray, List.getElem?_cons_zero, List.getElem?_cons_succ, Nat.zero_add, Nat.add_zero, Nat.zero_mul, wrap_i64 (i + es.length) (by omega)]
    rw [← hap] at hk
    exact Gh.done (hk Xk I' (hI0.trans hI) hQ)

/-- the first round: an entry that is another one -/
theorem roffer3_spec {b : Nat} {F : LH} {X : LH} {g : LG} {i t : Int} {ev : Value} {es : List LE} {I0 : Imm} (hI0 : Ext I0 I) (h : LogQ I b X g) (hw : WF g) (hb : Beh g i t es) (he : Ents I ev es) (hlen : (g.es.length + es.length) * 48 ≤ 150000000000000)
    (hk : ∀ X' I', Ext I0 I' → LogQ I' b X' (off2 g i es).2.2.2 → K (.tuple #[.int .i64 (off2 g i es).1, .bool (off2 g i es).2.1, .int .i64 (off2 g i es).2.2.1]) I' (X' ++ F)) :
    sh77_3 ω (.pointer (some ⟨b, 0, none⟩)) (.int .i64 i) (.int .i64 0) (.bool false) (.int .i64 0) ev (fun v => Gh (K v)) I (X ++ F) := by
  have hlast := hw.last
  have hlo := hb.lo
  have hhi := hb.hi
  have hwl := hw.len
  have hca := conf_app hw es i t hb
  have hidx := fol_index hb.fol
  have hsome : ∀ g1, conf1 g es = some g1 → off2 g i es = (i + es.length, true, 0, app2 g1 es) := fun g1 h1 => by
    rw [h1] at hca
    unfold off2
    rw [← hca]
    rfl
  unfold sh77_3
  refine loop (fun m s I' L' => I' = I ∧ L' = X ++ F ∧ ∃ k : Nat, k + m = es.length ∧ s = (.int .i64 0, .bool false, .int .i64 0, .int .i64 k, ()) ∧ conf1 g (es.drop k) = conf1 g es) es.length
    ⟨rfl, rfl, 0, by omega, rfl, rfl⟩ ?_
  rintro m s I' L' ⟨rfl, rfl, k, hkm, rfl, hco⟩
  unfold sh77_12
  simp only [RL.len he, SSe, List.getElem?_toArray, List.getElem?_cons_zero, List.getElem?_cons_succ, Nat.zero_add, Nat.add_zero, Nat.zero_mul]
  refine br_split (fun hlt => ?_) (fun hlt => ?_)
  · simp at hlt
    rw [drop_geti hlt, conf1] at hco
    obtain ⟨b2, off, c, hix, hcl, ⟨dv, rfl, hB⟩, hc⟩ := RL.ix he (i := k) (by omega) (by omega)
    have hc := hc I' [] (Ext.refl _) (fun _ h => by cases h)
    have d0 := hc 0 _ rfl
    have d1 := hc 1 _ rfl
    simp only [Nat.add_zero] at d0
    have hxi := hidx (geti es (k : Int)) (by rw [geti_nat hlt]; exact List.getElem_mem hlt)
    have hei := (fol_at hb.fol hlt).1
    simp only [hix, SSe, List.getElem?_toArray, List.getElem?_cons_zero, List.getElem?_cons_succ, Nat.zero_add, Nat.add_zero, Nat.zero_mul]
    refine rdC d0 (Ext.refl _) ?_
    refine call (rentryAt_spec h.viewF hw.sz (by unfold inI64; omega) (fun c2 hc2 => ?_))
    obtain ⟨dv2, rfl, hB2⟩ := hc2
    obtain ⟨a2, cap2, rfl⟩ := hB2.form
    try simp only [SSe, List.getElem?_toArray, List.getElem?_cons_zero, List.getElem?_cons_succ, Nat.zero_add, Nat.add_zero, Nat.zero_mul]
    refine newI (fun b4 => ?_)
    refine stB rfl rfl (one_all rfl) ?_
    refine drawC ?_
    have next : (conf1 g (es.drop (k + 1)) = conf1 g es) → ∀ o, (Gh fun I2 L2 => ∃ m', m' < m ∧ I2 = I' ∧ L2 = X ++ F ∧ ∃ k' : Nat, k' + m' = es.length ∧ ((.int .i64 0, .bool false, .int .i64 0, .int .i64 ((k : Int) + 1), ()) : Value × Value × Value × Value × Unit) = (.int .i64 0, .bool false, .int .i64 0, .int .i64 k', ()) ∧ conf1 g (es.drop k') = conf1 g es) I' ((b4, o) :: (X ++ F)) := fun hn o => by
      refine Gh.to (X ++ F) (Gh.done ?_)
      exact ⟨m - 1, by omega, rfl, rfl, k + 1, by omega, by simp, hn⟩
    cases hent : entAt g (geti es (k : Int)).index with
    | none =>
      rw [hent] at hco
      simp only [Option.isSome_none, Bool.false_eq_true, if_false, SSe, List.getElem?_toArray, List.getElem?_cons_zero, List.getElem?_cons_succ, Nat.zero_add, Nat.add_zero, Nat.zero_mul]
      refine gd_split (fun h9 => by simp at h9) (fun _ => ?_)
      simp only [SSe, List.getElem?_toArray, List.getElem?_cons_zero, List.getElem?_cons_succ, Nat.zero_add, Nat.add_zero, Nat.zero_mul, wrap_i64 ((k : Int) + 1) (by omega)]
      exact next hco _
    | some old =>
      rw [hent] at hco
      simp only [hent, Option.getD_some] at hB2
      simp only [hent, Option.isSome_some, if_true, Option.getD_some, beq_self_eq_true, SSe, List.getElem?_toArray, List.getElem?_cons_zero, List.getElem?_cons_succ, Nat.zero_add, Nat.add_zero, Nat.zero_mul]
      refine rdbS ?_
      refine rdCS d1 (Ext.refl _) ?_
      simp only [SSe, List.getElem?_toArray, List.getElem?_cons_zero, List.getElem?_cons_succ, Nat.zero_add, Nat.add_zero, Nat.zero_mul] at hco ⊢
      refine br_split (fun h1 => ?_) (fun h1 => ?_)
      · simp at h1
        rw [if_neg h1] at hco
        obtain ⟨mv, lv, rfl, hm, hE⟩ := id h
        unfold sh77_13
        simp only [hix, SSe, List.getElem?_toArray, List.getElem?_cons_zero, List.getElem?_cons_succ, Nat.zero_add, Nat.add_zero, Nat.zero_mul, List.cons_append, List.nil_append]
        refine drawC ?_
        refine rdCS d0 (Ext.refl _) ?_
        refine rdbS ?_
        try simp only [SSe, List.getElem?_toArray, List.getElem?_cons_zero, List.getElem?_cons_succ, Nat.zero_add, Nat.add_zero, Nat.zero_mul]
        refine br_split (fun h2 => ?_) (fun h2 => ?_)
        · simp at h2
          rw [if_pos h2] at hco
          rw [← hco] at hca
          rw [off2, ← hca] at hk
          exact Gh.to (_ :: F) (Gh.done (hk [_] I' hI0 h))
        · simp at h2
          rw [if_neg (by omega)] at hco
          rw [hsome _ hco.symm] at hk
          refine drawC ?_
          refine bld_zero (fun X0 u hX0 => keepC (Ext.refl _) ?_)
          refine rdbS ?_
          refine rdCS d0 (Ext.refl _) ?_
          refine rdbS ?_
          have hin : g.index < (geti es (k : Int)).index ∧ (geti es (k : Int)).index ≤ lastI g := by
            unfold entAt at hent
            split at hent
            · assumption
            · cases hent
          unfold lastI at hin
          simp only [SSe, List.getElem?_toArray, List.getElem?_cons_zero, List.getElem?_cons_succ, Nat.zero_add, Nat.add_zero, Nat.zero_mul, wrap_i64 ((geti es (k : Int)).index - g.index) (by omega), wrap_i64 ((geti es (k : Int)).index - g.index - 1) (by omega)]
          obtain ⟨v1, hs1, hl1⟩ := RL.part hE (lo := 0) (hi := ((geti es (k : Int)).index - g.index - 1).toNat) (by omega) (by omega) none (some (.int .i64 ((geti es (k : Int)).index - g.index - 1))) rfl (fun cap hc => by simp [bndV]; omega)
          rw [List.drop_zero, Nat.sub_zero] at hl1
          simp only [hs1, SSe, List.getElem?_toArray, List.getElem?_cons_zero, List.getElem?_cons_succ, Nat.zero_add, Nat.add_zero, Nat.zero_mul]
          refine copy_app (X := X0) (Ents.to hl1 (Ext.refl _)) hX0 (by rw [List.length_take]; omega) (fun X' v' cells' h6 hR' => Gh.done ?_)
          try simp only [SSe, List.getElem?_toArray, List.getElem?_cons_zero, List.getElem?_cons_succ, Nat.zero_add, Nat.add_zero, Nat.zero_mul]
          refine st1G (gr_one (I := I') (.inl h6)) ?_
          refine Ents.ofO h6 hR' (fun I2 hI2 hE2 => ?_)
          refine Gh.to ((b, Obj.cells #[.int .i64 g.index, .int .i64 g.term, mv, v', .int .i64 g.commit] 120 (0, 0)) :: F) (Gh.done ?_)
          refine roffer4_spec (X := [_]) (g := trunc g (geti es (k : Int))) (hI0.trans hI2) ⟨mv, v', rfl, hm.mono hI2, hE2⟩ (by omega) (by simp only [trunc]; omega) (Ents.to he hI2) (by simp only [trunc, List.length_take]; omega) hk
      · simp at h1
        rw [if_pos h1] at hco
        simp only [wrap_i64 ((k : Int) + 1) (by omega)]
        exact next hco _
  · simp at hlt
    rw [List.drop_of_length_le (by omega), conf1] at hco
    rw [hsome _ hco.symm] at hk
    exact roffer4_spec hI0 h (by omega) (by omega) he hlen hk

theorem roffer2_spec {b : Nat} {F : LH} {X : LH} {g : LG} {i t : Int} {ev : Value} {es es0 : List LE} {I0 : Imm} (hI0 : Ext I0 I) (h : LogQ I b X g) (hw : WF g) (he : Ents I ev es) (h1 : countB i = true) (h2 : countB t = true) (h3 : followB i t es0 = true) (hes : es = if i < g.index then es0.drop (g.index - i).toNat else es0) (hlen : (g.es.length + es.length) * 48 ≤ 150000000000000)
    (hk : ∀ X' I', Ext I0 I' → LogQ I' b X' (offerG g i t es0).2.2.2 → K (.tuple #[.int .i64 (offerG g i t es0).1, .bool (offerG g i t es0).2.1, .int .i64 (offerG g i t es0).2.2.1]) I' (X' ++ F)) :
    sh77_2 ω (.pointer (some ⟨b, 0, none⟩)) (.int .i64 i) (.int .i64 t) (.int .i64 0) (.bool false) (.int .i64 0) ev (fun v => Gh (K v)) I (X ++ F) := by
  have hlast := hw.last
  have h1' := h1
  simp [countB] at h1'
  obtain ⟨mv0, lv0, hm0, hl0, c0, c1, c2, c3, c4, c5⟩ := (h.viewF (F := F)).cells
  rw [offerG, if_neg (by simp [h1, h2, h3])] at hk
  unfold sh77_2
  try simp only [SSe, List.getElem?_toArray, List.getElem?_cons_zero, List.getElem?_cons_succ, Nat.zero_add, Nat.add_zero, Nat.zero_mul]
  refine rd1 c0 ?_
  try simp only [SSe, List.getElem?_toArray, List.getElem?_cons_zero, List.getElem?_cons_succ, Nat.zero_add, Nat.add_zero, Nat.zero_mul]
  refine br_split (fun h4 => ?_) (fun h4 => ?_)
  · simp at h4
    rw [if_pos h4] at hk hes
    rw [← hes] at hk
    have hbe : ¬ (es.length ≠ 0 ∧ (geti es 0).term < g.term) → Beh g g.index g.term es := fun hn => by
      rw [hes] at hn ⊢
      exact offer_before hw h3 h4 hn
    refine rd1 c0 ?_
    refine drawC ?_
    simp only [RL.len he, SSe, List.getElem?_toArray, List.getElem?_cons_zero, List.getElem?_cons_succ, Nat.zero_add, Nat.add_zero, Nat.zero_mul]
    refine gd_split (fun h5 => ?_) (fun h5 => ?_)
    · simp only [decide_eq_true_eq] at h5
      obtain ⟨b2, off, c, hix, hcl, ⟨dv, rfl, hB⟩, hc⟩ := RL.ix he (i := 0) (by omega) (by omega)
      simp only [hix, SSe, List.getElem?_toArray, List.getElem?_cons_zero, List.getElem?_cons_succ, Nat.zero_add, Nat.add_zero, Nat.zero_mul]
      have d1 := hc I (X ++ F) (Ext.refl _) (fun _ h => by cases h) 1 _ rfl
      refine rdCS d1 (Ext.refl _) ?_
      refine rdCS c1 (Ext.refl _) ?_
      try simp only [SSe, List.getElem?_toArray, List.getElem?_cons_zero, List.getElem?_cons_succ, Nat.zero_add, Nat.add_zero, Nat.zero_mul]
      refine br_split (fun h6 => ?_) (fun h6 => ?_)
      · simp only [decide_eq_true_eq] at h6
        rw [if_pos ⟨by omega, h6⟩] at hk
        exact Gh.done (hk X I hI0 h)
      · simp only [decide_eq_false_iff_not] at h6
        rw [if_neg (by omega)] at hk
        exact roffer3_spec hI0 h hw (hbe (by omega)) he hlen hk
    · simp only [ne_eq, decide_eq_true_eq] at h5
      rw [if_neg (by omega)] at hk
      exact roffer3_spec hI0 h hw (hbe (by omega)) he hlen hk
  · simp at h4
    rw [if_neg (by omega)] at hk hes
    subst hes
    refine call (rterm_spec h.viewF hw.sz (by unfold inI64; omega) ?_)
    try simp only [SSe, List.getElem?_toArray, List.getElem?_cons_zero, List.getElem?_cons_succ, Nat.zero_add, Nat.add_zero, Nat.zero_mul]
    have no : termAt g i ≠ (t, 0) → sh77_15 ω (.pointer (some ⟨b, 0, none⟩)) (.int .i64 i) (.int .i64 0) (.bool false) (.int .i64 0) (fun v => Gh (K v)) I (X ++ F) := fun hne => by
      rw [if_neg hne] at hk
      unfold sh77_15
      refine call (rlast_spec h.viewF hw.sz ?_)
      try simp only [SSe, List.getElem?_toArray, List.getElem?_cons_zero, List.getElem?_cons_succ, Nat.zero_add, Nat.add_zero, Nat.zero_mul]
      refine rd1 c4 ?_
      simp only [SSe, List.getElem?_toArray, List.getElem?_cons_zero, List.getElem?_cons_succ, Nat.zero_add, Nat.add_zero, Nat.zero_mul, wrap_i64 (i - 1) (by omega)]
      have e : (if (if i - 1 < lastI g then i - 1 else lastI g) > g.commit then (if i - 1 < lastI g then i - 1 else lastI g) else g.commit) = max g.commit (min (lastI g) (i - 1)) := by
        repeat' split
        all_goals omega
      rw [e]
      exact Gh.done (hk X I hI0 h)
    refine gd_split (fun h5 => ?_) (fun h5 => no (by intro e; rw [e] at h5; simp at h5))
    refine br_split (fun h6 => no (by intro e; rw [e] at h6; simp at h6)) (fun h6 => ?_)
    have ht : termAt g i = (t, 0) := by
      simp at h5 h6
      rw [← h6, ← h5]
    rw [if_pos ht] at hk
    exact roffer3_spec hI0 h hw (offer_behind hw h3 h1 ht) he hlen hk

theorem roffer_spec {b : Nat} {X F : LH} {g : LG} {i t : Int} {ev : Value} {es : List LE} (h : LogQ I b X g) (hw : WF g) (he : Ents I ev es) (hlen : (g.es.length + es.length) * 48 ≤ 150000000000000)
    (hk : ∀ X' I', Ext I I' → LogQ I' b X' (offerG g i t es).2.2.2 → K (.tuple #[.int .i64 (offerG g i t es).1, .bool (offerG g i t es).2.1, .int .i64 (offerG g i t es).2.2.1]) I' (X' ++ F)) :
    Cal Try.prog ω 77 #[.pointer (some ⟨b, 0, none⟩), .int .i64 i, .int .i64 t, ev] K I (X ++ F) := by
  have hlast := hw.last
  refine cal77 ?_
  unfold sh77
  have bad : (countB i && countB t && followB i t es) = false → ∀ I', Ext I I' → Gh (K (.tuple #[.int .i64 0, .bool false, .int .i64 1])) I' (X ++ F) := fun hb I' hI' => by
    rw [offerG, if_pos hb] at hk
    exact Gh.done (hk X I' hI' (h.mono hI'))
  refine call (rcount_spec ?_)
  refine call (rcount_spec ?_)
  refine call (rfollows_spec he (by omega) (fun I1 f hI1 hf => ?_))
  try simp only [SSe, List.getElem?_toArray, List.getElem?_cons_zero, List.getElem?_cons_succ, Nat.zero_add, Nat.add_zero, Nat.zero_mul]
  refine gd_split (fun h1 => ?_) (fun h1 => bad (by simp_all) I1 hI1)
  refine gd_split (fun h2 => ?_) (fun h2 => bad (by simp_all) I1 hI1)
  simp at h1 h2
  have hf := hf h1
  subst hf
  refine br_split (fun h3 => bad (by simp_all) I1 hI1) (fun h3 => ?_)
  simp at h3
  have h' := h.mono hI1
  obtain ⟨mv0, lv0, hm0, hl0, c0, c1, c2, c3, c4, c5⟩ := (h'.viewF (F := F)).cells
  have hfl : ∀ k, ((es.take k).filter (fun e => decide (g.index < e.index))).length ≤ es.length := fun k => by
    have := List.length_filter_le (fun e => decide (g.index < e.index)) (es.take k)
    rw [List.length_take] at this; omega
  refine loop (fun m s I' L' => Ext I1 I' ∧ ∃ (k : Nat) (w : Value), k + m = es.length ∧ s = (w, .int .i64 k, ()) ∧
      ((k < es.length ∧ ∃ (X6 : LH) (cells : List Value), SlO 59 4 X6 w cells ((es.take k).filter (fun e => decide (g.index < e.index))).length ∧ Recs (LeV I') 4 ((es.take k).filter (fun e => decide (g.index < e.index))) cells ∧ L' = X6 ++ (X ++ F)) ∨
       (k = es.length ∧ Ents I' w (es.filter (fun e => decide (g.index < e.index))) ∧ L' = X ++ F))) es.length
    ⟨Ext.refl _, 0, _, by omega, rfl, ?_⟩ ?_
  · by_cases h0 : es.length = 0
    · have : es = [] := List.eq_nil_of_length_eq_zero h0
      subst this
      exact .inr ⟨rfl, RL.nil _ _, rfl⟩
    · exact .inl ⟨by omega, [], [], SlO.none _ _, rfl, rfl⟩
  rintro m s I' L' ⟨hI', k, w, hkm, rfl, hcase⟩
  unfold sh77_17
  simp only [RL.len he, SSe, List.getElem?_toArray, List.getElem?_cons_zero, List.getElem?_cons_succ, Nat.zero_add, Nat.add_zero, Nat.zero_mul]
  rcases hcase with ⟨hlt, X6, cells, h6, hR, rfl⟩ | ⟨hkl, hE, rfl⟩
  · have hlt' : ((k : Int) < es.length) := by omega
    simp only [hlt', decide_true, Br_true]
    have hft := filter_take (p := fun e => decide (g.index < e.index)) hlt
    have next : ∀ (I2 : Imm) (w' : Value) (X' : LH) (cells' : List Value) (XX : LH), Ext I' I2 → SlO 59 4 X' w' cells' ((es.take (k + 1)).filter (fun e => decide (g.index < e.index))).length → Recs (LeV I2) 4 ((es.take (k + 1)).filter (fun e => decide (g.index < e.index))) cells' →
        (Gh fun I3 L3 => ∃ m', m' < m ∧ Ext I1 I3 ∧ ∃ (k' : Nat) (w2 : Value), k' + m' = es.length ∧ ((w', .int .i64 ((k : Int) + 1), ()) : Value × Value × Unit) = (w2, .int .i64 k', ()) ∧
      ((k' < es.length ∧ ∃ (X6 : LH) (cells : List Value), SlO 59 4 X6 w2 cells ((es.take k').filter (fun e => decide (g.index < e.index))).length ∧ Recs (LeV I3) 4 ((es.take k').filter (fun e => decide (g.index < e.index))) cells ∧ L3 = X6 ++ (X ++ F)) ∨
       (k' = es.length ∧ Ents I3 w2 (es.filter (fun e => decide (g.index < e.index))) ∧ L3 = X ++ F))) I2 (X' ++ (XX ++ (X ++ F))) := by
      intro I2 w' X' cells' XX hI2 h6' hR'
      by_cases hk1 : k + 1 = es.length
      · rw [List.take_of_length_le (by omega)] at h6' hR'
        refine Ents.ofO h6' hR' (fun I4 hI4 hE4 => ?_)
        refine Gh.to (X ++ F) (Gh.done ?_)
        exact ⟨m - 1, by omega, (hI'.trans hI2).trans hI4, k + 1, w', by omega, by simp, .inr ⟨hk1, hE4, rfl⟩⟩
      · refine Gh.to (X' ++ (X ++ F)) (Gh.done ?_)
        exact ⟨m - 1, by omega, hI'.trans hI2, k + 1, w', by omega, by simp, .inl ⟨by omega, X', cells', h6', hR', rfl⟩⟩
    obtain ⟨b2, off, c, hix, hcl, ⟨dv, rfl, hB⟩, hc⟩ := RL.ix he (i := k) (by omega) (by omega)
    have hc := hc I' [] (hI1.trans hI') (fun _ h => by cases h)
    have d0 := hc 0 _ rfl
    simp only [Nat.add_zero] at d0
    simp only [hix, SSe, List.getElem?_toArray, List.getElem?_cons_zero, List.getElem?_cons_succ, Nat.zero_add, Nat.add_zero, Nat.zero_mul]
    refine drawC ?_
    refine rdCS d0 (Ext.refl _) ?_
    refine rdCS c0 hI' ?_
    try simp only [SSe, List.getElem?_toArray, List.getElem?_cons_zero, List.getElem?_cons_succ, Nat.zero_add, Nat.add_zero, Nat.zero_mul]
    have hfk := hfl k
    refine br_split (fun h4 => ?_) (fun h4 => ?_)
    · rw [if_pos h4] at hft
      unfold sh77_20
      simp only [hix, SSe, List.getElem?_toArray, List.getElem?_cons_zero, List.getElem?_cons_succ, Nat.zero_add, Nat.add_zero, Nat.zero_mul]
      refine rdNC hc (Ext.refl _) rfl ?_
      refine ent_app (X6 := X6) (e := geti es (k : Int)) h6 hR ⟨_, rfl, hB.mono (hI1.trans hI')⟩ (by have := hfl (k + 1); rw [hft, List.length_append] at this; simp only [List.length_cons, List.length_nil] at this; omega) (fun X1 X6' v' cells' h6' hR' => ?_)
      rw [← hft] at h6' hR'
      unfold sh77_18
      simp only [SSe, List.getElem?_toArray, List.getElem?_cons_zero, List.getElem?_cons_succ, Nat.zero_add, Nat.add_zero, Nat.zero_mul, wrap_i64 ((k : Int) + 1) (by omega)]
      exact next I' v' X6' cells' X1 (Ext.refl _) h6' hR'
    · rw [if_neg (by simp [h4]), List.append_nil] at hft
      unfold sh77_18
      simp only [SSe, List.getElem?_toArray, List.getElem?_cons_zero, List.getElem?_cons_succ, Nat.zero_add, Nat.add_zero, Nat.zero_mul, wrap_i64 ((k : Int) + 1) (by omega)]
      rw [← hft] at h6 hR
      exact next I' w X6 cells [] (Ext.refl _) h6 hR
  · have hlt' : ¬ ((k : Int) < es.length) := by omega
    simp only [hlt', decide_false, Br_false]
    have hfull := hfl es.length
    rw [List.take_of_length_le (Nat.le_refl _)] at hfull
    exact roffer2_spec (hI1.trans hI') (h'.mono hI') hw hE h1 h2 h3 (filter_left h3) (by omega) hk

end
end Go.Proofs.Ytdcpeboecmkmlaa
