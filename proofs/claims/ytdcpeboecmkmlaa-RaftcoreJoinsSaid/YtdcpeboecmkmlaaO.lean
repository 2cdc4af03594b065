/-
  The program's log is offered entries; copies of logs.
-/
-- S4
import Derived.Test.YtdcpeboecmkmlaaH
set_option linter.unusedSimpArgs false
set_option linter.unusedVariables false
namespace Go.Proofs.Ytdcpeboecmkmlaa
open Go.SL
set_option maxRecDepth 10000

section
variable {ω : Om} {I : Imm} {L : LH} {K : Value → M}

/-- entries behind others that have no room -/
theorem ents_app {j : Nat} {a : Option Addr} {v : Value} {X7 : LH} {pre suf : List LE} {cells : List Value} {K : Value → M} (hj : pre.length = j) (hp : LsV I L (.slice a j j) pre) (h7 : SlO 59 4 X7 v cells suf.length) (hR : Recs (LeV I) 4 suf cells) (hX : ∀ x ∈ X7, x ∈ L) (hs : 0 < suf.length) (hl : (j + suf.length) * 48 ≤ 150000000000000)
    (hk : ∀ X' v' cells', SlO 59 4 X' v' cells' (pre ++ suf).length → Recs (LeV I) 4 (pre ++ suf) cells' → K v' I (X' ++ L)) :
    App 59 4 48 #[(Value.int .i64 0), (Value.int .i64 0), (Value.int .i64 0), (Value.slice none 0 0)] (.slice a j j) v (gh K) I L := by
  obtain ⟨a', cap, cells5, e5, _, hn5, hR5⟩ := hp
  rw [hj] at hn5
  refine app_view (List.Perm.refl _) rfl rfl hn5 (h7.news hX) (hR.one_cells (fun _ _ h => h.one)) hs hl (by omega) (fun X' v' h => ?_)
  exact hk X' v' _ (by rw [List.length_append, hj]; exact h) (Recs.append hR5 hR)

set_option maxHeartbeats 1000000 in
theorem offer2_spec {b : Nat} {X F : LH} {g : LG} {i t : Int} {ev : Value} {es : List LE} {I0 : Imm} (hI0 : Ext I0 I) (h : LogR I b X g) (hw : WF g) (hb : Beh g i t es) (he : Ents I ev es) (hlen : (g.es.length + es.length) * 48 ≤ 150000000000000)
    (hk : ∀ X' I', Ext I0 I' → LogR I' b X' (off2 g i es).2.2.2 → K (.tuple #[.int .i64 (off2 g i es).1, .bool (off2 g i es).2.1, .int .i64 (off2 g i es).2.2.1]) I' (X' ++ F)) :
    sh16_2 ω (.pointer (some ⟨b, 0, none⟩)) (.int .i64 i) ev (.int .i64 0) (.bool false) (.int .i64 0) (fun v => Gh (K v)) I (X ++ F) := by
  have hlast := hw.last
  have hlo := hb.lo
  have hhi := hb.hi
  have hwl := hw.len
  unfold sh16_2
  simp only [RL.len he, SSe, List.getElem?_toArray, List.getElem?_cons_zero, List.getElem?_cons_succ, Nat.zero_add, Nat.add_zero, Nat.zero_mul, wrap_i64 (i + es.length) (by omega)]
  refine loop (fun m s I' L' => Ext I I' ∧ L' = X ++ F ∧ ∃ (k : Nat) (t' : Int), k + m = es.length ∧ s = (.int .i64 0, .bool false, .int .i64 0, .int .i64 k, ()) ∧ Beh g (i + k) t' (es.drop k) ∧ offW g (es.drop k) = offW g es) es.length
    ⟨Ext.refl I, rfl, 0, t, by omega, rfl, by simpa using hb, rfl⟩ ?_
  rintro m s I' L' ⟨hI, rfl, k, t', hkm, rfl, hbk, hof⟩
  unfold sh16_5
  try simp only [SSe, List.getElem?_toArray, List.getElem?_cons_zero, List.getElem?_cons_succ, Nat.zero_add, Nat.add_zero, Nat.zero_mul]
  refine br_split (fun hlt => ?_) (fun hlt => ?_)
  · simp at hlt
    have hlok := hbk.lo
    have hhik := hbk.hi
    have hfk := hbk.fol
    rw [drop_geti hlt] at hfk hof hbk
    simp only [followB, Bool.and_eq_true, decide_eq_true_eq] at hfk
    have hei : (geti es (k : Int)).index = i + k + 1 := hfk.1.1.2
    obtain ⟨b2, off, c, hix, hcl, ⟨dv, rfl, hB⟩, hc⟩ := RL.ix he (i := k) (by omega) (by omega)
    have hc := hc I' (X ++ F) hI (fun _ h => by cases h)
    obtain ⟨a, cap, rfl⟩ := hB.form
    have hV : LogV I' (X ++ F) b g := (h.mono hI).viewF
    obtain ⟨mv0, lv0, hm0, hl0, c0, c1, c2, c3, c4, c5⟩ := hV.cells
    simp only [hix, SSe, List.getElem?_toArray, List.getElem?_cons_zero, List.getElem?_cons_succ, Nat.zero_add, Nat.add_zero, Nat.zero_mul]
    refine rdN rfl hc ?_
    refine newI (fun b3 => ?_)
    refine stB rfl rfl (one_all rfl) ?_
    try simp only [SSe, List.getElem?_toArray, List.getElem?_cons_zero, List.getElem?_cons_succ, Nat.zero_add, Nat.add_zero, Nat.zero_mul]
    refine rdb ?_
    refine call (entry_spec (LogV.to hV (Ext.refl I')) hw (by unfold inI64; omega) (fun c hcc => ?_))
    obtain ⟨dv2, rfl, hB2⟩ := hcc
    obtain ⟨a2, cap2, rfl⟩ := hB2.form
    try simp only [SSe, List.getElem?_toArray, List.getElem?_cons_zero, List.getElem?_cons_succ, Nat.zero_add, Nat.add_zero, Nat.zero_mul]
    refine newI (fun b4 => ?_)
    refine stB rfl rfl (one_all rfl) ?_
    simp only [offW] at hof
    -- what is cut off and laid down
    have hj : ((geti es (k : Int)).index - g.index - 1).toNat ≤ g.es.length := by unfold lastI at hhik; omega
    obtain ⟨a5, hs5, hl5⟩ := RL.clip hl0 hj
    rw [show ((((geti es (k : Int)).index - g.index - 1).toNat : Nat) : Int) = (geti es (k : Int)).index - g.index - 1 from by omega] at hs5
    obtain ⟨v6, hs6, hl6⟩ := RL.part he (lo := k) (hi := es.length) (by omega) (Nat.le_refl _) (some (.int .i64 k)) none (bnd_in _ _ _ _ (by omega)) (fun _ _ => rfl)
    rw [List.take_of_length_le (by simp)] at hl6
    have hsm : ∀ e ∈ es.drop k, e.data.length ≤ 140737488355328 := fun e he => by
      obtain ⟨j, hj', rfl⟩ := List.getElem_of_mem (List.mem_of_mem_drop he)
      rw [← geti_nat hj']
      have := entB_small (fol_at hb.fol hj').2.1
      omega
    have hdl : (es.drop k).length = es.length - k := List.length_drop ..
    have leaf1 : offW g es = none → ∀ o3 o4, Gh (K (.tuple #[.int .i64 0, .bool false, .int .i64 101])) I' ((b4, o4) :: (b3, o3) :: (X ++ F)) := fun hn o3 o4 => by
      rw [off2, hn] at hk
      exact Gh.to (X ++ F) (Gh.done (hk X I' (hI0.trans hI) (h.mono hI)))
    have leaf2 : offW g es = some { g with es := g.es.take ((geti es (k : Int)).index - g.index - 1).toNat ++ es.drop k } → ∀ (I2 : Imm) (hI2 : Ext I' I2) (X' : LH) (v' : Value) (cells' : List Value) (o3 o4 : Obj) (XX : LH), SlO 59 4 X' v' cells' (g.es.take ((geti es (k : Int)).index - g.index - 1).toNat ++ es.drop k).length → Recs (LeV I2) 4 (g.es.take ((geti es (k : Int)).index - g.index - 1).toNat ++ es.drop k) cells' →
        Sto 1 (.pointer (some ⟨b, 3, none⟩)) v' (gh fun _ => fun I L => Gh (K (.tuple #[.int .i64 (i + es.length), .bool true, .int .i64 0])) I L) I2 (X' ++ (XX ++ ((b4, o4) :: (b3, o3) :: (X ++ F)))) := by
      intro hsome I2 hI2 X' v' cells' o3 o4 XX h6 hR
      rw [off2, hsome] at hk
      obtain ⟨mv, lv, XL, cells, rfl, hm, hG, hR1⟩ := h.mono (hI.trans hI2)
      simp only [List.cons_append]
      refine st1 (gr_one (I := I2) (.inl h6)) ?_
      exact Gh.to (_ :: (X' ++ F)) (Gh.done (hk (_ :: X') I2 ((hI0.trans hI).trans hI2) ⟨mv, v', X', cells', rfl, hm, .inl h6, hR⟩))
    cases hent : entAt g (geti es (k : Int)).index with
    | none =>
      rw [hent, ← drop_geti hlt] at hof
      simp only at hof
      try simp only [SSe, List.getElem?_toArray, List.getElem?_cons_zero, List.getElem?_cons_succ, Nat.zero_add, Nat.add_zero, Nat.zero_mul]
      simp only [Option.isSome_none, Gd_ft]
      refine drawC ?_
      refine drawC ?_
      refine rdCS c3 (Ext.refl _) ?_
      refine rdbS ?_
      refine rdCS c0 (Ext.refl _) ?_
      simp only [SSe, List.getElem?_toArray, List.getElem?_cons_zero, List.getElem?_cons_succ, Nat.zero_add, Nat.add_zero, Nat.zero_mul, wrap_i64 ((geti es (k : Int)).index - g.index) (by omega), wrap_i64 ((geti es (k : Int)).index - g.index - 1) (by omega)]
      refine rdbS ?_
      refine rdCS c0 (Ext.refl _) ?_
      simp only [SSe, List.getElem?_toArray, List.getElem?_cons_zero, List.getElem?_cons_succ, Nat.zero_add, Nat.add_zero, Nat.zero_mul, wrap_i64 ((geti es (k : Int)).index - g.index) (by omega), wrap_i64 ((geti es (k : Int)).index - g.index - 1) (by omega), hs5, hs6]
      refine call (owned_spec (Ents.to hl6 hI) hsm (by omega) (fun X7 v7 cells7 I7 hI7 h7 hR7 => ?_))
      refine keepC hI7 ?_
      refine ents_app (pre := g.es.take ((geti es (k : Int)).index - g.index - 1).toNat) (suf := es.drop k) (by rw [List.length_take]; omega) (LsV.to hl5 hI7) h7 hR7 (fun x hx => List.mem_append_left _ hx) (by omega) (by omega) (fun X8 v8 cells8 h8 hR8 => ?_)
      try simp only [SSe, List.getElem?_toArray, List.getElem?_cons_zero, List.getElem?_cons_succ, Nat.zero_add, Nat.add_zero, Nat.zero_mul]
      exact leaf2 hof.symm I7 hI7 X8 v8 cells8 _ _ X7 h8 hR8
    | some old =>
      rw [hent, ← drop_geti hlt] at hof
      simp only [hent, Option.getD_some] at hB2
      simp only [hent, Option.getD_some, Option.isSome_some, Gd_tt] at hof ⊢
      try simp only [SSe, List.getElem?_toArray, List.getElem?_cons_zero, List.getElem?_cons_succ, Nat.zero_add, Nat.add_zero, Nat.zero_mul]
      refine rdb ?_
      refine rdb ?_
      try simp only [SSe, List.getElem?_toArray, List.getElem?_cons_zero, List.getElem?_cons_succ, Nat.zero_add, Nat.add_zero, Nat.zero_mul]
      refine br_split (fun h1 => ?_) (fun h1 => ?_)
      · simp at h1
        rw [if_pos h1] at hof
        simp only [wrap_i64 ((k : Int) + 1) (by omega)]
        refine Gh.to (X ++ F) (Gh.done ?_)
        refine ⟨m - 1, by omega, hI, rfl, k + 1, (geti es (k : Int)).term, by omega, by simp, ?_, hof⟩
        have hin : (geti es (k : Int)).index ≤ lastI g := by
          unfold entAt at hent
          split at hent
          · omega
          · cases hent
        obtain ⟨q1, q2⟩ := take_trm hw (i := (geti es (k : Int)).index) (by omega) hin
        rw [hent] at q1
        simp only [Option.some.injEq] at q1
        rw [← q1, h1, hei] at q2
        exact ⟨by have := hfk.2; rwa [show i + (k : Int) + 1 = i + ((k + 1 : Nat) : Int) from by omega] at this, by omega, by omega, by rw [show i + ((k + 1 : Nat) : Int) = i + (k : Int) + 1 from by omega, ← q2]; exact Int.le_refl _⟩
      · simp at h1
        rw [if_neg h1] at hof
        refine drawC ?_
        refine rdbS ?_
        refine rdCS c4 (Ext.refl _) ?_
        try simp only [SSe, List.getElem?_toArray, List.getElem?_cons_zero, List.getElem?_cons_succ, Nat.zero_add, Nat.add_zero, Nat.zero_mul]
        refine br_split (fun h2 => ?_) (fun h2 => ?_)
        · simp at h2
          rw [if_pos h2] at hof
          exact leaf1 hof.symm _ _
        · simp at h2
          rw [if_neg (by omega)] at hof
          refine drawC ?_
          refine rdCS c3 (Ext.refl _) ?_
          refine rdbS ?_
          refine rdCS c0 (Ext.refl _) ?_
          simp only [SSe, List.getElem?_toArray, List.getElem?_cons_zero, List.getElem?_cons_succ, Nat.zero_add, Nat.add_zero, Nat.zero_mul, wrap_i64 ((geti es (k : Int)).index - g.index) (by omega), wrap_i64 ((geti es (k : Int)).index - g.index - 1) (by omega)]
          refine rdbS ?_
          refine rdCS c0 (Ext.refl _) ?_
          simp only [SSe, List.getElem?_toArray, List.getElem?_cons_zero, List.getElem?_cons_succ, Nat.zero_add, Nat.add_zero, Nat.zero_mul, wrap_i64 ((geti es (k : Int)).index - g.index) (by omega), wrap_i64 ((geti es (k : Int)).index - g.index - 1) (by omega), hs5, hs6]
          refine call (owned_spec (Ents.to hl6 hI) hsm (by omega) (fun X7 v7 cells7 I7 hI7 h7 hR7 => ?_))
          refine keepC hI7 ?_
          refine ents_app (pre := g.es.take ((geti es (k : Int)).index - g.index - 1).toNat) (suf := es.drop k) (by rw [List.length_take]; omega) (LsV.to hl5 hI7) h7 hR7 (fun x hx => List.mem_append_left _ hx) (by omega) (by omega) (fun X8 v8 cells8 h8 hR8 => ?_)
          try simp only [SSe, List.getElem?_toArray, List.getElem?_cons_zero, List.getElem?_cons_succ, Nat.zero_add, Nat.add_zero, Nat.zero_mul]
          exact leaf2 hof.symm I7 hI7 X8 v8 cells8 _ _ X7 h8 hR8
  · simp at hlt
    rw [List.drop_of_length_le (by omega), offW] at hof
    rw [off2, ← hof] at hk
    exact Gh.done (hk X I' (hI0.trans hI) (h.mono hI))

theorem offer_spec {b : Nat} {X F : LH} {g : LG} {i t : Int} {ev : Value} {es : List LE} (h : LogR I b X g) (hw : WF g) (he : Ents I ev es) (hi : inI64 i) (hlen : (g.es.length + es.length) * 48 ≤ 150000000000000)
    (hk : ∀ X' I', Ext I I' → LogR I' b X' (offerG g i t es).2.2.2 → K (.tuple #[.int .i64 (offerG g i t es).1, .bool (offerG g i t es).2.1, .int .i64 (offerG g i t es).2.2.1]) I' (X' ++ F)) :
    Cal Try.prog ω 16 #[.pointer (some ⟨b, 0, none⟩), .int .i64 i, .int .i64 t, ev] K I (X ++ F) := by
  have hlast := hw.last
  unfold inI64 at hi
  refine cal16 ?_
  unfold sh16
  have bad : (countB i && countB t && followB i t es) = false → ∀ I', Ext I I' → Gh (K (.tuple #[.int .i64 0, .bool false, .int .i64 1])) I' (X ++ F) := fun hb I' hI' => by
    rw [offerG, if_pos hb] at hk
    exact Gh.done (hk X I' hI' (h.mono hI'))
  refine call (count_spec ?_)
  try simp only [SSe, List.getElem?_toArray, List.getElem?_cons_zero, List.getElem?_cons_succ, Nat.zero_add, Nat.add_zero, Nat.zero_mul]
  refine gd_split (fun h1 => ?_) (fun h1 => bad (by simp_all) I (Ext.refl I))
  refine call (count_spec ?_)
  try simp only [SSe, List.getElem?_toArray, List.getElem?_cons_zero, List.getElem?_cons_succ, Nat.zero_add, Nat.add_zero, Nat.zero_mul]
  refine gd_split (fun h2 => ?_) (fun h2 => bad (by simp_all) I (Ext.refl I))
  simp at h1 h2
  have h1' := h1
  simp [countB] at h1'
  refine call (follow_spec he h1 (by omega) (fun I1 hI1 => ?_))
  try simp only [SSe, List.getElem?_toArray, List.getElem?_cons_zero, List.getElem?_cons_succ, Nat.zero_add, Nat.add_zero, Nat.zero_mul]
  refine br_split (fun h3 => bad (by simp_all) I1 hI1) (fun h3 => ?_)
  simp at h3
  rw [offerG, if_neg (by simp [h1, h2, h3])] at hk
  have h' := h.mono hI1
  obtain ⟨mv0, lv0, hm0, hl0, c0, c1, c2, c3, c4, c5⟩ := (h'.viewF (F := F)).cells
  refine rd1 c0 ?_
  try simp only [SSe, List.getElem?_toArray, List.getElem?_cons_zero, List.getElem?_cons_succ, Nat.zero_add, Nat.add_zero, Nat.zero_mul]
  refine br_split (fun h4 => ?_) (fun h4 => ?_)
  · simp at h4
    rw [if_pos h4] at hk
    unfold sh16_7
    try simp only [SSe, List.getElem?_toArray, List.getElem?_cons_zero, List.getElem?_cons_succ, Nat.zero_add, Nat.add_zero, Nat.zero_mul]
    refine rd1 c0 ?_
    simp only [SSe, List.getElem?_toArray, List.getElem?_cons_zero, List.getElem?_cons_succ, Nat.zero_add, Nat.add_zero, Nat.zero_mul, wrap_i64 (g.index - i) (by omega), RL.len he]
    have hmin : (if (es.length : Int) < g.index - i then (es.length : Int) else g.index - i) = ((min (g.index - i).toNat es.length : Nat) : Int) := by split <;> omega
    rw [hmin]
    obtain ⟨v1, hs1, hl1⟩ := RL.part he (lo := min (g.index - i).toNat es.length) (hi := es.length) (by omega) (Nat.le_refl _) (some (.int .i64 ((min (g.index - i).toNat es.length : Nat) : Int))) none (bnd_in _ _ _ _ (by omega)) (fun _ _ => rfl)
    rw [List.take_of_length_le (by simp)] at hl1
    have hdd : es.drop (min (g.index - i).toNat es.length) = es.drop (g.index - i).toNat := by
      by_cases hle : (g.index - i).toNat ≤ es.length
      · rw [Nat.min_eq_left hle]
      · rw [List.drop_of_length_le (by omega), List.drop_of_length_le (by omega)]
    rw [hdd] at hl1
    simp only [hs1, SSe, List.getElem?_toArray, List.getElem?_cons_zero, List.getElem?_cons_succ, Nat.zero_add, Nat.add_zero, Nat.zero_mul]
    refine rd1 c0 ?_
    try simp only [SSe, List.getElem?_toArray, List.getElem?_cons_zero, List.getElem?_cons_succ, Nat.zero_add, Nat.add_zero, Nat.zero_mul]
    refine drawC ?_
    simp only [RL.len hl1, SSe, List.getElem?_toArray, List.getElem?_cons_zero, List.getElem?_cons_succ, Nat.zero_add, Nat.add_zero, Nat.zero_mul]
    have hl1' : Ents I1 v1 (es.drop (g.index - i).toNat) := Ents.to hl1 hI1
    have hdl : (es.drop (g.index - i).toNat).length ≤ es.length := by rw [List.length_drop]; omega
    refine gd_split (fun h5 => ?_) (fun h5 => ?_)
    · simp only [decide_eq_true_eq] at h5
      obtain ⟨b2, off, c, hix, hcl, ⟨dv, rfl, hB⟩, hc⟩ := RL.ix hl1' (i := 0) (by omega) (by omega)
      simp only [hix, SSe, List.getElem?_toArray, List.getElem?_cons_zero, List.getElem?_cons_succ, Nat.zero_add, Nat.add_zero, Nat.zero_mul]
      have d1 := hc I1 (X ++ F) (Ext.refl _) (fun _ h => by cases h) 1 _ rfl
      refine rdCS d1 (Ext.refl _) ?_
      refine rdCS c1 (Ext.refl _) ?_
      try simp only [SSe, List.getElem?_toArray, List.getElem?_cons_zero, List.getElem?_cons_succ, Nat.zero_add, Nat.add_zero, Nat.zero_mul]
      refine br_split (fun h6 => ?_) (fun h6 => ?_)
      · simp only [decide_eq_true_eq] at h6
        rw [if_pos ⟨by omega, h6⟩] at hk
        exact Gh.done (hk X I1 hI1 h')
      · simp only [decide_eq_false_iff_not] at h6
        rw [if_neg (by omega)] at hk
        exact offer2_spec hI1 h' hw (offer_before hw h3 h4 (by omega)) hl1' (by omega) hk
    · simp only [ne_eq, decide_eq_true_eq] at h5
      rw [if_neg (by omega)] at hk
      exact offer2_spec hI1 h' hw (offer_before hw h3 h4 (by omega)) hl1' (by omega) hk
  · simp at h4
    rw [if_neg (by omega)] at hk
    unfold sh16_9
    refine call (term_spec h'.viewF hw (by unfold inI64; omega) ?_)
    try simp only [SSe, List.getElem?_toArray, List.getElem?_cons_zero, List.getElem?_cons_succ, Nat.zero_add, Nat.add_zero, Nat.zero_mul]
    have no : termAt g i ≠ (t, 0) → sh16_10 ω (.pointer (some ⟨b, 0, none⟩)) (.int .i64 i) (.int .i64 0) (.bool false) (.int .i64 0) (fun v => Gh (K v)) I1 (X ++ F) := fun hne => by
      rw [if_neg hne] at hk
      unfold sh16_10
      refine call (last_spec h'.viewF hw ?_)
      try simp only [SSe, List.getElem?_toArray, List.getElem?_cons_zero, List.getElem?_cons_succ, Nat.zero_add, Nat.add_zero, Nat.zero_mul]
      refine rd1 c4 ?_
      simp only [SSe, List.getElem?_toArray, List.getElem?_cons_zero, List.getElem?_cons_succ, Nat.zero_add, Nat.add_zero, Nat.zero_mul, wrap_i64 (i - 1) (by omega)]
      have e : (if (if i - 1 < lastI g then i - 1 else lastI g) > g.commit then (if i - 1 < lastI g then i - 1 else lastI g) else g.commit) = max g.commit (min (lastI g) (i - 1)) := by
        repeat' split
        all_goals omega
      rw [e]
      exact Gh.done (hk X I1 hI1 h')
    refine gd_split (fun h5 => ?_) (fun h5 => no (by intro e; rw [e] at h5; simp at h5))
    refine br_split (fun h6 => no (by intro e; rw [e] at h6; simp at h6)) (fun h6 => ?_)
    have ht : termAt g i = (t, 0) := by
      simp at h5 h6
      rw [← h6, ← h5]
    rw [if_pos ht] at hk
    exact offer2_spec hI1 h' hw (offer_behind hw h3 h1 ht) (Ents.to he hI1) hlen hk

end
end Go.Proofs.Ytdcpeboecmkmlaa
