import Derived.Test.YtfeonffmeajpgaaN4
set_option linter.unusedSimpArgs false
set_option linter.unusedVariables false
namespace Go.Proofs.Ytfeonffmeajpgaa
open Go.SL
set_option maxRecDepth 10000

section
variable {ω : Om} {I : Imm} {L : LH} {K : Value → M}

theorem bldW (a : Option Addr) (l c : Nat) : bldV #[.slice none 0 0] #[(0, 1)] [(0, .slice a l c)] = some (.agg #[.slice a l c]) := by rfl

/-- the last line of Encode -/
theorem wfin {bw : Nat} {X F : LH} {bs bs' : List UInt8} (h : WrR bw X bs) (e : bs = bs') (hk : ∀ v' I', Ext I I' → Bytes I' v' bs' → Gh (K (.tuple #[v', .int .i64 0])) I' F) :
    sh25_1 ω (.slice none 0 0) (.int .i64 0) (.pointer (some ⟨bw, 0, none⟩)) (fun v => Gh (K v)) I (X ++ F) := by
  subst e
  obtain ⟨v, Y, rfl, hS⟩ := h
  unfold sh25_1
  simp only [Pv_some, fldV_p, nilV_p, nilV_f, lenV_s, capV_s, lenSV_s, strV_s, unV_not, unV_neg, pickV_t, pickV_f, exV_t, cvIV_i, binI_add, binI_sub, binI_mul, binI_eql, binI_neq, binI_lss, binI_leq, binI_gtr, binI_geq, binI_and, binI_or, binB_eql, binB_neq, binS_eql, binS_neq, binP_eql_nil, binP_neq_nil, binN_eql_nil, binN_neq_nil, binN_eql_nn, binN_neq_nn, Br_true, Br_false, cells_agg, List.getElem?_toArray, List.getElem?_cons_zero, List.getElem?_cons_succ, Nat.zero_add, Nat.add_zero, Nat.zero_mul, List.cons_append]
  refine rdb ?_
  refine call (Cal.split Y (clipb_spec hS (fun v' I' hI' hS' => ?_)))
  exact Gh.to F (hk v' I' hI' hS')

theorem wents {m : RM} {bw : Nat} {X F : LH} {ev : Value} {bs bs' : List UInt8} (hE : EntsV I ev m.entries) (hd : ∀ e ∈ m.entries, e.data.length ≤ 12000 ∧ 0 ≤ e.term ∧ e.term ≤ 9007199254740991) (h64 : m.entries.length ≤ 64)
    (hS : WrR bw X bs) (hb : bs.length ≤ 1000) (e : bs ++ entsL m.entries = bs')
    (hk : ∀ v' I', Ext I I' → Bytes I' v' bs' → Gh (K (.tuple #[v', .int .i64 0])) I' F) :
    LoopM ((.int .i64 0, ()) : Value × Unit) (fun s Kn0 => sh25_4 ω (.slice none 0 0) (.int .i64 0) (.pointer (some ⟨bw, 0, none⟩)) ev (.int .i64 m.entries.length) s.1 Kn0 (fun v => Gh (K v))) I (X ++ F) := by
  have hlen := fun k => entsL_len (es := m.entries.take k) (fun e hm => ⟨(hd e (List.mem_of_mem_take hm)).1, by have := hd e (List.mem_of_mem_take hm); omega⟩)
  refine loop (fun s I' L' => Ext I I' ∧ ∃ (k : Nat) (X6 : LH), s = (.int .i64 k, ()) ∧ k ≤ m.entries.length ∧ WrR bw X6 (bs ++ entsL (m.entries.take k)) ∧ L' = X6 ++ F)
    (fun s _ _ => match s with | (.int _ k, _) => ((m.entries.length : Int) - k).toNat | _ => 0) ⟨Ext.refl I, 0, X, rfl, by omega, by simpa [entsL] using hS, rfl⟩ ?_
  rintro s I' L' ⟨hI, k, X6, rfl, hk1, h6, rfl⟩
  simp only
  (first | (with_reducible refine unfE (sh25_1.eq_1 ..) ?_) | (with_reducible refine unfE (sh25_2.eq_1 ..) ?_) | (with_reducible refine unfE (sh25_3.eq_1 ..) ?_) | (with_reducible refine unfE (sh25_4.eq_1 ..) ?_) | (with_reducible refine unfE (sh25_5.eq_1 ..) ?_) | (with_reducible refine unfE (sh25_6.eq_1 ..) ?_) | (with_reducible refine unfE (sh25_7.eq_1 ..) ?_) | (with_reducible refine unfE (sh25.eq_1 ..) ?_))
  simp only [Pv_some, fldV_p, nilV_p, nilV_f, lenV_s, capV_s, lenSV_s, strV_s, unV_not, unV_neg, pickV_t, pickV_f, exV_t, cvIV_i, binI_add, binI_sub, binI_mul, binI_eql, binI_neq, binI_lss, binI_leq, binI_gtr, binI_geq, binI_and, binI_or, binB_eql, binB_neq, binS_eql, binS_neq, binP_eql_nil, binP_neq_nil, binN_eql_nil, binN_neq_nil, binN_eql_nn, binN_neq_nn, Br_true, Br_false, cells_agg, List.getElem?_toArray, List.getElem?_cons_zero, List.getElem?_cons_succ, Nat.zero_add, Nat.add_zero, Nat.zero_mul]
  by_cases hlt : k < m.entries.length
  · have h1 : ((k : Int) < m.entries.length) := by omega
    simp only [h1, decide_true, Br_true]
    obtain ⟨b, off, c, hix, ⟨ddv, rfl, hB⟩, hc⟩ := (hE.mono hI).at hlt
    have hdk := hd m.entries[k] (List.getElem_mem hlt)
    have hl1 := hlen k
    rw [List.length_take] at hl1
    have h9 := varI_len (n := m.entries[k].term) (by omega)
    obtain ⟨_, _, rfl⟩ := hB.form
    simp only [hix, Pv_some, fldV_p, nilV_p, nilV_f, lenV_s, capV_s, lenSV_s, strV_s, unV_not, unV_neg, pickV_t, pickV_f, exV_t, cvIV_i, binI_add, binI_sub, binI_mul, binI_eql, binI_neq, binI_lss, binI_leq, binI_gtr, binI_geq, binI_and, binI_or, binB_eql, binB_neq, binS_eql, binS_neq, binP_eql_nil, binP_neq_nil, binN_eql_nil, binN_neq_nil, binN_eql_nn, binN_neq_nn, Br_true, Br_false, cells_agg, List.getElem?_toArray, List.getElem?_cons_zero, List.getElem?_cons_succ, Nat.zero_add, Nat.add_zero, Nat.zero_mul]
    refine rdN rfl (hc I' _ (Ext.refl I')) ?_
    refine newI (fun b2 => ?_)
    refine stB rfl rfl (one_all rfl) ?_
    try simp only [Pv_some, fldV_p, nilV_p, nilV_f, lenV_s, capV_s, lenSV_s, strV_s, unV_not, unV_neg, pickV_t, pickV_f, exV_t, cvIV_i, binI_add, binI_sub, binI_mul, binI_eql, binI_neq, binI_lss, binI_leq, binI_gtr, binI_geq, binI_and, binI_or, binB_eql, binB_neq, binS_eql, binS_neq, binP_eql_nil, binP_neq_nil, binN_eql_nil, binN_neq_nil, binN_eql_nn, binN_neq_nn, Br_true, Br_false, cells_agg, List.getElem?_toArray, List.getElem?_cons_zero, List.getElem?_cons_succ, Nat.zero_add, Nat.add_zero, Nat.zero_mul]
    refine rdb ?_
    refine bi1 (fun u I1 hI1 hu => ?_)
    refine call (Cal.split X6 (wcount_spec h6 hu (by simp) (by simp; omega) (by simp; omega) (fun X7 h7 => ?_)))
    try simp only [Pv_some, fldV_p, nilV_p, nilV_f, lenV_s, capV_s, lenSV_s, strV_s, unV_not, unV_neg, pickV_t, pickV_f, exV_t, cvIV_i, binI_add, binI_sub, binI_mul, binI_eql, binI_neq, binI_lss, binI_leq, binI_gtr, binI_geq, binI_and, binI_or, binB_eql, binB_neq, binS_eql, binS_neq, binP_eql_nil, binP_neq_nil, binN_eql_nil, binN_neq_nil, binN_eql_nn, binN_neq_nn, Br_true, Br_false, cells_agg, List.getElem?_toArray, List.getElem?_cons_zero, List.getElem?_cons_succ, Nat.zero_add, Nat.add_zero, Nat.zero_mul]
    refine rdb ?_
    refine call (wbyte_spec h7 (by simp [varsL]; omega) (fun X8 h8 => ?_))
    try simp only [Pv_some, fldV_p, nilV_p, nilV_f, lenV_s, capV_s, lenSV_s, strV_s, unV_not, unV_neg, pickV_t, pickV_f, exV_t, cvIV_i, binI_add, binI_sub, binI_mul, binI_eql, binI_neq, binI_lss, binI_leq, binI_gtr, binI_geq, binI_and, binI_or, binB_eql, binB_neq, binS_eql, binS_neq, binP_eql_nil, binP_neq_nil, binN_eql_nil, binN_neq_nil, binN_eql_nn, binN_neq_nn, Br_true, Br_false, cells_agg, List.getElem?_toArray, List.getElem?_cons_zero, List.getElem?_cons_succ, Nat.zero_add, Nat.add_zero, Nat.zero_mul]
    refine rdb ?_
    refine call (wtext_spec h8 (hB.mono hI1) (by simp [varsL]; omega) (fun X9 I2 hI2 h9 => ?_))
    simp only [Pv_some, fldV_p, nilV_p, nilV_f, lenV_s, capV_s, lenSV_s, strV_s, unV_not, unV_neg, pickV_t, pickV_f, exV_t, cvIV_i, binI_add, binI_sub, binI_mul, binI_eql, binI_neq, binI_lss, binI_leq, binI_gtr, binI_geq, binI_and, binI_or, binB_eql, binB_neq, binS_eql, binS_neq, binP_eql_nil, binP_neq_nil, binN_eql_nil, binN_neq_nil, binN_eql_nn, binN_neq_nn, Br_true, Br_false, cells_agg, List.getElem?_toArray, List.getElem?_cons_zero, List.getElem?_cons_succ, Nat.zero_add, Nat.add_zero, Nat.zero_mul, wrap_i64 ((k : Int) + 1) (by omega)]
    refine Gh.to (X9 ++ F) (Gh.done ⟨⟨(hI.trans hI1).trans hI2, k + 1, X9, by simp, by omega, ?_, rfl⟩, by omega⟩)
    rw [entsL_snoc hlt]
    simpa [List.append_assoc, varsL] using h9
  · have h1 : ¬ ((k : Int) < m.entries.length) := by omega
    simp only [h1, decide_false, Br_false]
    unfold sh25_3 sh25_2
    rw [List.take_of_length_le (by omega), e] at h6
    exact wfin h6 rfl (fun v' I2 hI2 hB => hk v' I2 (hI.trans hI2) hB)

theorem wmems {m : RM} {c : List Value} {b1 bw : Nat} {X F : LH} {mv : Value} {bs bs' : List UInt8} (hm : MsgV I m c) (hM : Ints I mv m.members) (h5 : m.members.length ≤ 5) (hd : m.data.length ≤ 60000)
    (hS : WrR bw X bs) (hb : bs.length ≤ 1000) (hF : InL b1 F (Obj.cells c.toArray 51 (0, 0))) (e : bs ++ m.members.map byteOf ++ textL m.data = bs')
    (hk : ∀ v' I', Ext I I' → Bytes I' v' bs' → Gh (K (.tuple #[v', .int .i64 0])) I' F) :
    LoopM ((.int .i64 0, ()) : Value × Unit) (fun s Kn0 => sh25_7 ω (.pointer (some ⟨b1, 0, none⟩)) (.slice none 0 0) (.int .i64 0) (.pointer (some ⟨bw, 0, none⟩)) mv (.int .i64 m.members.length) s.1 Kn0 (fun v => Gh (K v))) I (X ++ F) := by
  obtain ⟨ev, mv', dv, rfl, hE, _, hD⟩ := hm
  refine loop (fun s I' L' => I' = I ∧ ∃ (k : Nat) (X6 : LH), s = (.int .i64 k, ()) ∧ k ≤ m.members.length ∧ WrR bw X6 (bs ++ (m.members.take k).map byteOf) ∧ L' = X6 ++ F)
    (fun s _ _ => match s with | (.int _ k, _) => ((m.members.length : Int) - k).toNat | _ => 0) ⟨rfl, 0, X, rfl, by omega, by simpa using hS, rfl⟩ ?_
  rintro s I' L' ⟨rfl, k, X6, rfl, hk1, h6, rfl⟩
  simp only
  (first | (with_reducible refine unfE (sh25_1.eq_1 ..) ?_) | (with_reducible refine unfE (sh25_2.eq_1 ..) ?_) | (with_reducible refine unfE (sh25_3.eq_1 ..) ?_) | (with_reducible refine unfE (sh25_4.eq_1 ..) ?_) | (with_reducible refine unfE (sh25_5.eq_1 ..) ?_) | (with_reducible refine unfE (sh25_6.eq_1 ..) ?_) | (with_reducible refine unfE (sh25_7.eq_1 ..) ?_) | (with_reducible refine unfE (sh25.eq_1 ..) ?_))
  simp only [Pv_some, fldV_p, nilV_p, nilV_f, lenV_s, capV_s, lenSV_s, strV_s, unV_not, unV_neg, pickV_t, pickV_f, exV_t, cvIV_i, binI_add, binI_sub, binI_mul, binI_eql, binI_neq, binI_lss, binI_leq, binI_gtr, binI_geq, binI_and, binI_or, binB_eql, binB_neq, binS_eql, binS_neq, binP_eql_nil, binP_neq_nil, binN_eql_nil, binN_neq_nil, binN_eql_nn, binN_neq_nn, Br_true, Br_false, cells_agg, List.getElem?_toArray, List.getElem?_cons_zero, List.getElem?_cons_succ, Nat.zero_add, Nat.add_zero, Nat.zero_mul]
  by_cases hlt : k < m.members.length
  · have h1 : ((k : Int) < m.members.length) := by omega
    simp only [h1, decide_true, Br_true]
    obtain ⟨b, off, hix, hc⟩ := Ints.at hM hlt
    simp only [hix, Pv_some, fldV_p, nilV_p, nilV_f, lenV_s, capV_s, lenSV_s, strV_s, unV_not, unV_neg, pickV_t, pickV_f, exV_t, cvIV_i, binI_add, binI_sub, binI_mul, binI_eql, binI_neq, binI_lss, binI_leq, binI_gtr, binI_geq, binI_and, binI_or, binB_eql, binB_neq, binS_eql, binS_neq, binP_eql_nil, binP_neq_nil, binN_eql_nil, binN_neq_nil, binN_eql_nn, binN_neq_nn, Br_true, Br_false, cells_agg, List.getElem?_toArray, List.getElem?_cons_zero, List.getElem?_cons_succ, Nat.zero_add, Nat.add_zero, Nat.zero_mul]
    refine rd1 (hc I' _ (Ext.refl I')) ?_
    refine call (wbyte_spec h6 (by simp; omega) (fun X8 h8 => ?_))
    simp only [Pv_some, fldV_p, nilV_p, nilV_f, lenV_s, capV_s, lenSV_s, strV_s, unV_not, unV_neg, pickV_t, pickV_f, exV_t, cvIV_i, binI_add, binI_sub, binI_mul, binI_eql, binI_neq, binI_lss, binI_leq, binI_gtr, binI_geq, binI_and, binI_or, binB_eql, binB_neq, binS_eql, binS_neq, binP_eql_nil, binP_neq_nil, binN_eql_nil, binN_neq_nil, binN_eql_nn, binN_neq_nn, Br_true, Br_false, cells_agg, List.getElem?_toArray, List.getElem?_cons_zero, List.getElem?_cons_succ, Nat.zero_add, Nat.add_zero, Nat.zero_mul, wrap_i64 ((k : Int) + 1) (by omega)]
    refine Gh.done ⟨⟨rfl, k + 1, X8, by simp, by omega, ?_, rfl⟩, by omega⟩
    have e : (m.members.take (k + 1)).map byteOf = (m.members.take k).map byteOf ++ [byteOf (m.members.getD k 0)] := by
      rw [show m.members.getD k 0 = m.members[k] from by simp [List.getD, hlt], List.take_add_one, List.getElem?_eq_getElem hlt, List.map_append]
      rfl
    rw [e, ← List.append_assoc]
    exact h8
  · have h1 : ¬ ((k : Int) < m.members.length) := by omega
    simp only [h1, decide_false, Br_false]
    unfold sh25_6 sh25_5
    rw [List.take_of_length_le (by omega)] at h6
    simp only [Pv_some, fldV_p, nilV_p, nilV_f, lenV_s, capV_s, lenSV_s, strV_s, unV_not, unV_neg, pickV_t, pickV_f, exV_t, cvIV_i, binI_add, binI_sub, binI_mul, binI_eql, binI_neq, binI_lss, binI_leq, binI_gtr, binI_geq, binI_and, binI_or, binB_eql, binB_neq, binS_eql, binS_neq, binP_eql_nil, binP_neq_nil, binN_eql_nil, binN_neq_nil, binN_eql_nn, binN_neq_nn, Br_true, Br_false, cells_agg, List.getElem?_toArray, List.getElem?_cons_zero, List.getElem?_cons_succ, Nat.zero_add, Nat.add_zero, Nat.zero_mul]
    refine rdb ?_
    refine call (wtext_spec h6 hD (by simp; omega) (fun X9 I2 hI2 h9 => ?_))
    unfold sh25_2
    exact wfin h9 e (fun v' I3 hI3 hB => hk v' I3 (hI2.trans hI3) hB)

set_option maxHeartbeats 1000000 in
theorem enc_spec {m : RM} {c : List Value} (hm : MsgV I m c) (hl : m.members.length < 4611686018427387904)
    (hk1 : rightB m = true → ∀ v' I', Ext I I' → Bytes I' v' (encL m) → K (.tuple #[v', .int .i64 0]) I' L) (hk0 : rightB m = false → ∀ I', Ext I I' → K (.tuple #[.slice none 0 0, .int .i64 92]) I' L) :
    Cal Try.prog ω 25 #[.agg c.toArray] K I L := by
  have hm0 := hm
  obtain ⟨ev, mv, dv, rfl, hE, hM, hD⟩ := hm
  have e1 := hE.len
  have e2 := Ints.len hM
  refine cal25 ?_
  unfold sh25
  refine newI (fun b1 => ?_)
  simp only [Pv_some, fldV_p, nilV_p, nilV_f, lenV_s, capV_s, lenSV_s, strV_s, unV_not, unV_neg, pickV_t, pickV_f, exV_t, cvIV_i, binI_add, binI_sub, binI_mul, binI_eql, binI_neq, binI_lss, binI_leq, binI_gtr, binI_geq, binI_and, binI_or, binB_eql, binB_neq, binS_eql, binS_neq, binP_eql_nil, binP_neq_nil, binN_eql_nil, binN_neq_nil, binN_eql_nn, binN_neq_nn, Br_true, Br_false, cells_agg, List.getElem?_toArray, List.getElem?_cons_zero, List.getElem?_cons_succ, Nat.zero_add, Nat.add_zero, Nat.zero_mul]
  refine rdB rfl ?_
  refine call (right_spec hm0 hl (fun I1 hI1 => ?_))
  simp only [Pv_some, fldV_p, nilV_p, nilV_f, lenV_s, capV_s, lenSV_s, strV_s, unV_not, unV_neg, pickV_t, pickV_f, exV_t, cvIV_i, binI_add, binI_sub, binI_mul, binI_eql, binI_neq, binI_lss, binI_leq, binI_gtr, binI_geq, binI_and, binI_or, binB_eql, binB_neq, binS_eql, binS_neq, binP_eql_nil, binP_neq_nil, binN_eql_nil, binN_neq_nil, binN_eql_nn, binN_neq_nn, Br_true, Br_false, cells_agg, List.getElem?_toArray, List.getElem?_cons_zero, List.getElem?_cons_succ, Nat.zero_add, Nat.add_zero, Nat.zero_mul]
  refine br_split (fun hr => ?_) (fun hr => ?_)
  · simp only [Bool.not_eq_eq_eq_not, Bool.not_true] at hr
    exact Gh.to L (Gh.done (hk0 hr I1 hI1))
  simp only [Bool.not_eq_eq_eq_not, Bool.not_false] at hr
  obtain ⟨d1, d2, d3, d4, d5, d6, d7, d8⟩ := right_data hr
  have hk := hk1 hr
  repeat' (first | (with_reducible refine gd_split (fun _ => ?_) (fun _ => ?_)) | (with_reducible refine br_split (fun _ => ?_) (fun _ => ?_)) | (with_reducible refine newI (fun _ => ?_)) | first | refine rdb ?_ | refine st1 rfl ?_ | refine rdB rfl ?_ | refine rdbS ?_ | refine rdBS rfl ?_ | (simp only [Pv_some, fldV_p, nilV_p, nilV_f, lenV_s, capV_s, lenSV_s, strV_s, unV_not, unV_neg, pickV_t, pickV_f, exV_t, cvIV_i, binI_add, binI_sub, binI_mul, binI_eql, binI_neq, binI_lss, binI_leq, binI_gtr, binI_geq, binI_and, binI_or, binB_eql, binB_neq, binS_eql, binS_neq, binP_eql_nil, binP_neq_nil, binN_eql_nil, binN_neq_nil, binN_eql_nn, binN_neq_nn, Br_true, Br_false, cells_agg, List.getElem?_toArray, List.getElem?_cons_zero, List.getElem?_cons_succ, Nat.zero_add, Nat.add_zero, Nat.zero_mul, u8_wrap]))
  refine bb4 (fun X1 v1 h1 => ?_)
  obtain ⟨aa, cc, rfl⟩ := h1.form
  simp only [bldW, Pv_some, fldV_p, nilV_p, nilV_f, lenV_s, capV_s, lenSV_s, strV_s, unV_not, unV_neg, pickV_t, pickV_f, exV_t, cvIV_i, binI_add, binI_sub, binI_mul, binI_eql, binI_neq, binI_lss, binI_leq, binI_gtr, binI_geq, binI_and, binI_or, binB_eql, binB_neq, binS_eql, binS_neq, binP_eql_nil, binP_neq_nil, binN_eql_nil, binN_neq_nil, binN_eql_nn, binN_neq_nn, Br_true, Br_false, cells_agg, List.getElem?_toArray, List.getElem?_cons_zero, List.getElem?_cons_succ, Nat.zero_add, Nat.add_zero, Nat.zero_mul]
  refine newI (fun bw => ?_)
  have hw : WrR bw ((bw, Obj.cells #[.slice aa 4 cc] 74 (0, 0)) :: X1) [byteOf m.kind, byteOf m.group, byteOf m.frm, byteOf m.to] := ⟨_, X1, rfl, h1⟩
  refine rdb ?_
  refine bi1 (fun u I2 hI2 hu => ?_)
  have t1 := varI_len (n := m.term) (by omega)
  have t2 := varI_len (n := m.index) (by omega)
  have t3 := varI_len (n := m.logTerm) (by omega)
  have t4 := varI_len (n := m.commit) (by omega)
  have t5 := varL_9 (n := m.entries.length) (by omega)
  have t6 := varL_9 (n := m.members.length) (by omega)
  have hkk : ∀ {I3 : Imm}, Ext I2 I3 → ∀ v' I', Ext I3 I' → Bytes I' v' (encL m) → Gh (K (.tuple #[v', .int .i64 0])) I' ((b1, Obj.cells #[.int .i64 m.kind, .int .i64 m.group, .int .i64 m.frm, .int .i64 m.to, .int .i64 m.term, .int .i64 m.index, .int .i64 m.logTerm, .int .i64 m.commit, .bool m.ok, ev, mv, dv] 51 (0, 0)) :: L) :=
    fun hI3 v' I' hI' hB => Gh.to L (Gh.done (hk v' I' (((hI1.trans hI2).trans hI3).trans hI') hB))
  refine call (wcount_spec hw hu (by simp) (by simp; omega) (by simp) (fun X2 h2 => ?_))
  refine rdb ?_
  simp only [Pv_some, fldV_p, nilV_p, nilV_f, lenV_s, capV_s, lenSV_s, strV_s, unV_not, unV_neg, pickV_t, pickV_f, exV_t, cvIV_i, binI_add, binI_sub, binI_mul, binI_eql, binI_neq, binI_lss, binI_leq, binI_gtr, binI_geq, binI_and, binI_or, binB_eql, binB_neq, binS_eql, binS_neq, binP_eql_nil, binP_neq_nil, binN_eql_nil, binN_neq_nil, binN_eql_nn, binN_neq_nn, Br_true, Br_false, cells_agg, List.getElem?_toArray, List.getElem?_cons_zero, List.getElem?_cons_succ, Nat.zero_add, Nat.add_zero, Nat.zero_mul]
  refine br_split (fun k1 => ?_) (fun k1 => ?_)
  · simp only [beq_iff_eq] at k1
    refine rdb ?_
    try simp only [Pv_some, fldV_p, nilV_p, nilV_f, lenV_s, capV_s, lenSV_s, strV_s, unV_not, unV_neg, pickV_t, pickV_f, exV_t, cvIV_i, binI_add, binI_sub, binI_mul, binI_eql, binI_neq, binI_lss, binI_leq, binI_gtr, binI_geq, binI_and, binI_or, binB_eql, binB_neq, binS_eql, binS_neq, binP_eql_nil, binP_neq_nil, binN_eql_nil, binN_neq_nil, binN_eql_nn, binN_neq_nn, Br_true, Br_false, cells_agg, List.getElem?_toArray, List.getElem?_cons_zero, List.getElem?_cons_succ, Nat.zero_add, Nat.add_zero, Nat.zero_mul]
    refine rdb ?_
    refine bi2 (fun u I3 hI3 hu => ?_)
    refine call (wcount_spec h2 hu (by simp) (by simp; omega) (by simp [varsL]; omega) (fun X3 h3 => ?_))
    unfold sh25_2
    exact wfin h3 (by simp [encL, bodyL, k1, varsL]) (hkk hI3)
  simp only [beq_eq_false_iff_ne] at k1
  refine br_split (fun k2 => ?_) (fun k2 => ?_)
  · simp only [beq_iff_eq] at k2
    refine rdb ?_
    refine call (wtruth_spec h2 (by simp [varsL]; omega) (fun X3 h3 => ?_))
    unfold sh25_2
    exact wfin h3 (by simp [encL, bodyL, k2, varsL]) (hkk (Ext.refl _))
  simp only [beq_eq_false_iff_ne] at k2
  refine br_split (fun k3 => ?_) (fun k3 => ?_)
  · simp only [beq_iff_eq] at k3
    refine rdb ?_
    try simp only [Pv_some, fldV_p, nilV_p, nilV_f, lenV_s, capV_s, lenSV_s, strV_s, unV_not, unV_neg, pickV_t, pickV_f, exV_t, cvIV_i, binI_add, binI_sub, binI_mul, binI_eql, binI_neq, binI_lss, binI_leq, binI_gtr, binI_geq, binI_and, binI_or, binB_eql, binB_neq, binS_eql, binS_neq, binP_eql_nil, binP_neq_nil, binN_eql_nil, binN_neq_nil, binN_eql_nn, binN_neq_nn, Br_true, Br_false, cells_agg, List.getElem?_toArray, List.getElem?_cons_zero, List.getElem?_cons_succ, Nat.zero_add, Nat.add_zero, Nat.zero_mul]
    refine rdb ?_
    try simp only [Pv_some, fldV_p, nilV_p, nilV_f, lenV_s, capV_s, lenSV_s, strV_s, unV_not, unV_neg, pickV_t, pickV_f, exV_t, cvIV_i, binI_add, binI_sub, binI_mul, binI_eql, binI_neq, binI_lss, binI_leq, binI_gtr, binI_geq, binI_and, binI_or, binB_eql, binB_neq, binS_eql, binS_neq, binP_eql_nil, binP_neq_nil, binN_eql_nil, binN_neq_nil, binN_eql_nn, binN_neq_nn, Br_true, Br_false, cells_agg, List.getElem?_toArray, List.getElem?_cons_zero, List.getElem?_cons_succ, Nat.zero_add, Nat.add_zero, Nat.zero_mul]
    refine rdb ?_
    try simp only [Pv_some, fldV_p, nilV_p, nilV_f, lenV_s, capV_s, lenSV_s, strV_s, unV_not, unV_neg, pickV_t, pickV_f, exV_t, cvIV_i, binI_add, binI_sub, binI_mul, binI_eql, binI_neq, binI_lss, binI_leq, binI_gtr, binI_geq, binI_and, binI_or, binB_eql, binB_neq, binS_eql, binS_neq, binP_eql_nil, binP_neq_nil, binN_eql_nil, binN_neq_nil, binN_eql_nn, binN_neq_nn, Br_true, Br_false, cells_agg, List.getElem?_toArray, List.getElem?_cons_zero, List.getElem?_cons_succ, Nat.zero_add, Nat.add_zero, Nat.zero_mul]
    refine rdb ?_
    simp only [e1, Pv_some, fldV_p, nilV_p, nilV_f, lenV_s, capV_s, lenSV_s, strV_s, unV_not, unV_neg, pickV_t, pickV_f, exV_t, cvIV_i, binI_add, binI_sub, binI_mul, binI_eql, binI_neq, binI_lss, binI_leq, binI_gtr, binI_geq, binI_and, binI_or, binB_eql, binB_neq, binS_eql, binS_neq, binP_eql_nil, binP_neq_nil, binN_eql_nil, binN_neq_nil, binN_eql_nn, binN_neq_nn, Br_true, Br_false, cells_agg, List.getElem?_toArray, List.getElem?_cons_zero, List.getElem?_cons_succ, Nat.zero_add, Nat.add_zero, Nat.zero_mul]
    refine bi4 (fun u I3 hI3 hu => ?_)
    refine call (wcount_spec h2 hu (by simp) (by simp; omega) (by simp [varsL]; omega) (fun X3 h3 => ?_))
    try simp only [Pv_some, fldV_p, nilV_p, nilV_f, lenV_s, capV_s, lenSV_s, strV_s, unV_not, unV_neg, pickV_t, pickV_f, exV_t, cvIV_i, binI_add, binI_sub, binI_mul, binI_eql, binI_neq, binI_lss, binI_leq, binI_gtr, binI_geq, binI_and, binI_or, binB_eql, binB_neq, binS_eql, binS_neq, binP_eql_nil, binP_neq_nil, binN_eql_nil, binN_neq_nil, binN_eql_nn, binN_neq_nn, Br_true, Br_false, cells_agg, List.getElem?_toArray, List.getElem?_cons_zero, List.getElem?_cons_succ, Nat.zero_add, Nat.add_zero, Nat.zero_mul]
    refine rdb ?_
    simp only [e1, Pv_some, fldV_p, nilV_p, nilV_f, lenV_s, capV_s, lenSV_s, strV_s, unV_not, unV_neg, pickV_t, pickV_f, exV_t, cvIV_i, binI_add, binI_sub, binI_mul, binI_eql, binI_neq, binI_lss, binI_leq, binI_gtr, binI_geq, binI_and, binI_or, binB_eql, binB_neq, binS_eql, binS_neq, binP_eql_nil, binP_neq_nil, binN_eql_nil, binN_neq_nil, binN_eql_nn, binN_neq_nn, Br_true, Br_false, cells_agg, List.getElem?_toArray, List.getElem?_cons_zero, List.getElem?_cons_succ, Nat.zero_add, Nat.add_zero, Nat.zero_mul]
    exact wents (hE.mono ((hI1.trans hI2).trans hI3)) d1 d2 h3 (by simp [varsL]; omega) (by simp [encL, bodyL, k3, varsL]) (hkk hI3)
  simp only [beq_eq_false_iff_ne] at k3
  refine br_split (fun k4 => ?_) (fun k4 => ?_)
  · simp only [beq_iff_eq] at k4
    refine rdb ?_
    refine call (wtruth_spec h2 (by simp [varsL]; omega) (fun X3 h3 => ?_))
    try simp only [Pv_some, fldV_p, nilV_p, nilV_f, lenV_s, capV_s, lenSV_s, strV_s, unV_not, unV_neg, pickV_t, pickV_f, exV_t, cvIV_i, binI_add, binI_sub, binI_mul, binI_eql, binI_neq, binI_lss, binI_leq, binI_gtr, binI_geq, binI_and, binI_or, binB_eql, binB_neq, binS_eql, binS_neq, binP_eql_nil, binP_neq_nil, binN_eql_nil, binN_neq_nil, binN_eql_nn, binN_neq_nn, Br_true, Br_false, cells_agg, List.getElem?_toArray, List.getElem?_cons_zero, List.getElem?_cons_succ, Nat.zero_add, Nat.add_zero, Nat.zero_mul]
    refine rdb ?_
    refine bi1 (fun u I3 hI3 hu => ?_)
    refine call (wcount_spec h3 hu (by simp) (by simp; omega) (by simp [varsL, truthL]; omega) (fun X4 h4 => ?_))
    unfold sh25_2
    exact wfin h4 (by simp [encL, bodyL, k4, varsL]) (hkk hI3)
  simp only [beq_eq_false_iff_ne] at k4
  refine br_split (fun k5 => ?_) (fun k5 => ?_)
  · simp only [beq_iff_eq] at k5
    refine rdb ?_
    try simp only [Pv_some, fldV_p, nilV_p, nilV_f, lenV_s, capV_s, lenSV_s, strV_s, unV_not, unV_neg, pickV_t, pickV_f, exV_t, cvIV_i, binI_add, binI_sub, binI_mul, binI_eql, binI_neq, binI_lss, binI_leq, binI_gtr, binI_geq, binI_and, binI_or, binB_eql, binB_neq, binS_eql, binS_neq, binP_eql_nil, binP_neq_nil, binN_eql_nil, binN_neq_nil, binN_eql_nn, binN_neq_nn, Br_true, Br_false, cells_agg, List.getElem?_toArray, List.getElem?_cons_zero, List.getElem?_cons_succ, Nat.zero_add, Nat.add_zero, Nat.zero_mul]
    refine rdb ?_
    try simp only [Pv_some, fldV_p, nilV_p, nilV_f, lenV_s, capV_s, lenSV_s, strV_s, unV_not, unV_neg, pickV_t, pickV_f, exV_t, cvIV_i, binI_add, binI_sub, binI_mul, binI_eql, binI_neq, binI_lss, binI_leq, binI_gtr, binI_geq, binI_and, binI_or, binB_eql, binB_neq, binS_eql, binS_neq, binP_eql_nil, binP_neq_nil, binN_eql_nil, binN_neq_nil, binN_eql_nn, binN_neq_nn, Br_true, Br_false, cells_agg, List.getElem?_toArray, List.getElem?_cons_zero, List.getElem?_cons_succ, Nat.zero_add, Nat.add_zero, Nat.zero_mul]
    refine rdb ?_
    simp only [e2, Pv_some, fldV_p, nilV_p, nilV_f, lenV_s, capV_s, lenSV_s, strV_s, unV_not, unV_neg, pickV_t, pickV_f, exV_t, cvIV_i, binI_add, binI_sub, binI_mul, binI_eql, binI_neq, binI_lss, binI_leq, binI_gtr, binI_geq, binI_and, binI_or, binB_eql, binB_neq, binS_eql, binS_neq, binP_eql_nil, binP_neq_nil, binN_eql_nil, binN_neq_nil, binN_eql_nn, binN_neq_nn, Br_true, Br_false, cells_agg, List.getElem?_toArray, List.getElem?_cons_zero, List.getElem?_cons_succ, Nat.zero_add, Nat.add_zero, Nat.zero_mul]
    refine bi3 (fun u I3 hI3 hu => ?_)
    refine call (wcount_spec h2 hu (by simp) (by simp; omega) (by simp [varsL]; omega) (fun X3 h3 => ?_))
    try simp only [Pv_some, fldV_p, nilV_p, nilV_f, lenV_s, capV_s, lenSV_s, strV_s, unV_not, unV_neg, pickV_t, pickV_f, exV_t, cvIV_i, binI_add, binI_sub, binI_mul, binI_eql, binI_neq, binI_lss, binI_leq, binI_gtr, binI_geq, binI_and, binI_or, binB_eql, binB_neq, binS_eql, binS_neq, binP_eql_nil, binP_neq_nil, binN_eql_nil, binN_neq_nil, binN_eql_nn, binN_neq_nn, Br_true, Br_false, cells_agg, List.getElem?_toArray, List.getElem?_cons_zero, List.getElem?_cons_succ, Nat.zero_add, Nat.add_zero, Nat.zero_mul]
    refine rdb ?_
    simp only [e2, Pv_some, fldV_p, nilV_p, nilV_f, lenV_s, capV_s, lenSV_s, strV_s, unV_not, unV_neg, pickV_t, pickV_f, exV_t, cvIV_i, binI_add, binI_sub, binI_mul, binI_eql, binI_neq, binI_lss, binI_leq, binI_gtr, binI_geq, binI_and, binI_or, binB_eql, binB_neq, binS_eql, binS_neq, binP_eql_nil, binP_neq_nil, binN_eql_nil, binN_neq_nil, binN_eql_nn, binN_neq_nn, Br_true, Br_false, cells_agg, List.getElem?_toArray, List.getElem?_cons_zero, List.getElem?_cons_succ, Nat.zero_add, Nat.add_zero, Nat.zero_mul]
    exact wmems (hm0.mono ((hI1.trans hI2).trans hI3)) (hM.mono ((hI1.trans hI2).trans hI3)) d3 d4 h3 (by simp [varsL]; omega) inferInstance (by simp [encL, bodyL, k5, varsL]) (hkk hI3)
  simp only [beq_eq_false_iff_ne] at k5
  unfold sh25_2
  exact wfin h2 (by simp [encL, bodyL, k1, k2, k3, k4, k5, varsL]) (hkk (Ext.refl _))

end
end Go.Proofs.Ytfeonffmeajpgaa
