import Derived.Test.YtfeonffmeajpgaaD14
set_option linter.unusedSimpArgs false
set_option linter.unusedVariables false
namespace Go.Proofs.Ytfeonffmeajpgaa
open Go.SL
set_option maxRecDepth 10000

section
variable {ω : Om} {I : Imm} {L : LH} {K : Value → M}

theorem there_less {v9 : Value} {b : List UInt8} {less : Int} {m : RM} (hr : rightB m = true) (hb : b = encL m) (hB : Bytes I v9 b) (hlen : b.length * 8 ≤ 140737488355328) (hk : ∀ I', Ext I I' → Gh (K (.bool true)) I' L) :
    sh8_2 ω (.int .i64 less) (.bool false) (.bool true) v9 (fun v => Gh (K v)) I L := by
  unfold sh8_2 sh8_3
  simp only [Bytes.len hB, Pv_some, fldV_p, nilV_p, nilV_f, lenV_s, capV_s, lenSV_s, strV_s, unV_not, unV_neg, pickV_t, pickV_f, exV_t, cvIV_i, binI_add, binI_sub, binI_mul, binI_eql, binI_neq, binI_lss, binI_leq, binI_gtr, binI_geq, binI_and, binI_or, binB_eql, binB_neq, binS_eql, binS_neq, binP_eql_nil, binP_neq_nil, binN_eql_nil, binN_neq_nil, binN_eql_nn, binN_neq_nn, Br_true, Br_false, cells_agg, List.getElem?_toArray, List.getElem?_cons_zero, List.getElem?_cons_succ, Nat.zero_add, Nat.add_zero, Nat.zero_mul]
  refine gd_split (fun g1 => ?_) (fun _ => hk I (Ext.refl I))
  simp only [decide_eq_true_eq] at g1
  refine br_split (fun g2 => ?_) (fun _ => hk I (Ext.refl I))
  simp only [decide_eq_true_eq] at g2
  unfold sh8_4 sh8_3
  obtain ⟨n, rfl⟩ := Int.eq_ofNat_of_zero_le g1
  obtain ⟨v', hs, hB'⟩ := Bytes.take (n := n) hB (by omega)
  simp only [hs, Pv_some, fldV_p, nilV_p, nilV_f, lenV_s, capV_s, lenSV_s, strV_s, unV_not, unV_neg, pickV_t, pickV_f, exV_t, cvIV_i, binI_add, binI_sub, binI_mul, binI_eql, binI_neq, binI_lss, binI_leq, binI_gtr, binI_geq, binI_and, binI_or, binB_eql, binB_neq, binS_eql, binS_neq, binP_eql_nil, binP_neq_nil, binN_eql_nil, binN_neq_nil, binN_eql_nn, binN_neq_nn, Br_true, Br_false, cells_agg, List.getElem?_toArray, List.getElem?_cons_zero, List.getElem?_cons_succ, Nat.zero_add, Nat.add_zero, Nat.zero_mul]
  have hlt : (b.take n).length * 8 ≤ 140737488355328 := by rw [List.length_take]; omega
  refine call (dec_bad hB' hlt (by subst hb; exact less_not hr (by omega)) (fun c I' hI' hv => ?_))
  have f1 := msg_form hv
  simp only [Pv_some, fldV_p, nilV_p, nilV_f, lenV_s, capV_s, lenSV_s, strV_s, unV_not, unV_neg, pickV_t, pickV_f, exV_t, cvIV_i, binI_add, binI_sub, binI_mul, binI_eql, binI_neq, binI_lss, binI_leq, binI_gtr, binI_geq, binI_and, binI_or, binB_eql, binB_neq, binS_eql, binS_neq, binP_eql_nil, binP_neq_nil, binN_eql_nil, binN_neq_nil, binN_eql_nn, binN_neq_nn, Br_true, Br_false, cells_agg, List.getElem?_toArray, List.getElem?_cons_zero, List.getElem?_cons_succ, Nat.zero_add, Nat.add_zero, Nat.zero_mul]
  refine newI (fun bg => ?_)
  refine stB f1.1 rfl f1.2 ?_
  simp only [bne_self_eq_false, Pv_some, fldV_p, nilV_p, nilV_f, lenV_s, capV_s, lenSV_s, strV_s, unV_not, unV_neg, pickV_t, pickV_f, exV_t, cvIV_i, binI_add, binI_sub, binI_mul, binI_eql, binI_neq, binI_lss, binI_leq, binI_gtr, binI_geq, binI_and, binI_or, binB_eql, binB_neq, binS_eql, binS_neq, binP_eql_nil, binP_neq_nil, binN_eql_nil, binN_neq_nil, binN_eql_nn, binN_neq_nn, Br_true, Br_false, cells_agg, List.getElem?_toArray, List.getElem?_cons_zero, List.getElem?_cons_succ, Nat.zero_add, Nat.add_zero, Nat.zero_mul]
  exact Gh.to L (hk I' hI')

theorem there_law {m : RM} {c : List Value} {v1 : Value} {more : List UInt8} {less : Int} (hm : MsgV I m c) (hl : m.members.length < 4611686018427387904) (hM : Bytes I v1 more) (hml : more.length * 8 ≤ 70368744177664)
    (hel : (rightB m = true → (encL m).length * 8 ≤ 35184372088832)) (hk : ∀ I', Ext I I' → K (.bool true) I' L) : Cal Try.prog ω 8 #[.agg c.toArray, v1, .int .i64 less] K I L := by
  have f0 := msg_form hm
  refine cal8 ?_
  unfold sh8
  refine newI (fun b1 => ?_)
  refine call (coded_spec (fun I1 hI1 => ?_))
  simp only [Pv_some, fldV_p, nilV_p, nilV_f, lenV_s, capV_s, lenSV_s, strV_s, unV_not, unV_neg, pickV_t, pickV_f, exV_t, cvIV_i, binI_add, binI_sub, binI_mul, binI_eql, binI_neq, binI_lss, binI_leq, binI_gtr, binI_geq, binI_and, binI_or, binB_eql, binB_neq, binS_eql, binS_neq, binP_eql_nil, binP_neq_nil, binN_eql_nil, binN_neq_nil, binN_eql_nn, binN_neq_nn, Br_true, Br_false, cells_agg, List.getElem?_toArray, List.getElem?_cons_zero, List.getElem?_cons_succ, Nat.zero_add, Nat.add_zero, Nat.zero_mul]
  refine rdB f0.1 ?_
  refine call (rright_spec (hm.mono hI1) hl (fun I2 hI2 => ?_))
  refine rdB f0.1 ?_
  have hI12 := hI1.trans hI2
  refine call (enc_spec (hm.mono hI12) hl (fun hr v' I3 hI3 hB => ?_) (fun hr I3 hI3 => ?_))
  · simp only [hr, Pv_some, fldV_p, nilV_p, nilV_f, lenV_s, capV_s, lenSV_s, strV_s, unV_not, unV_neg, pickV_t, pickV_f, exV_t, cvIV_i, binI_add, binI_sub, binI_mul, binI_eql, binI_neq, binI_lss, binI_leq, binI_gtr, binI_geq, binI_and, binI_or, binB_eql, binB_neq, binS_eql, binS_neq, binP_eql_nil, binP_neq_nil, binN_eql_nil, binN_neq_nil, binN_eql_nn, binN_neq_nn, Br_true, Br_false, cells_agg, List.getElem?_toArray, List.getElem?_cons_zero, List.getElem?_cons_succ, Nat.zero_add, Nat.add_zero, Nat.zero_mul, Bool.not_true]
    have he := hel hr
    have hsm := right_small hr
    refine call (dec_spec hB (by omega) (DecR.mk (fun m h1 h2 => parse_of h1 h2) (fun m' hm' c' I4 hI4 hv => ?_) (fun hn => absurd ⟨m, hr, rfl⟩ hn)))
    obtain rfl := isMsg_eq hm' ⟨hr, rfl⟩
    have f1 := msg_form hv
    simp only [Pv_some, fldV_p, nilV_p, nilV_f, lenV_s, capV_s, lenSV_s, strV_s, unV_not, unV_neg, pickV_t, pickV_f, exV_t, cvIV_i, binI_add, binI_sub, binI_mul, binI_eql, binI_neq, binI_lss, binI_leq, binI_gtr, binI_geq, binI_and, binI_or, binB_eql, binB_neq, binS_eql, binS_neq, binP_eql_nil, binP_neq_nil, binN_eql_nil, binN_neq_nil, binN_eql_nn, binN_neq_nn, Br_true, Br_false, cells_agg, List.getElem?_toArray, List.getElem?_cons_zero, List.getElem?_cons_succ, Nat.zero_add, Nat.add_zero, Nat.zero_mul]
    refine newI (fun bg => ?_)
    refine stB f1.1 rfl f1.2 ?_
    refine rdB f1.1 ?_
    refine rdB f0.1 ?_
    refine call (samemsg_spec hv (hm.mono ((hI12.trans hI3).trans hI4)) hsm.1 hsm.2 ?_)
    simp only [bne_self_eq_false, Pv_some, fldV_p, nilV_p, nilV_f, lenV_s, capV_s, lenSV_s, strV_s, unV_not, unV_neg, pickV_t, pickV_f, exV_t, cvIV_i, binI_add, binI_sub, binI_mul, binI_eql, binI_neq, binI_lss, binI_leq, binI_gtr, binI_geq, binI_and, binI_or, binB_eql, binB_neq, binS_eql, binS_neq, binP_eql_nil, binP_neq_nil, binN_eql_nil, binN_neq_nil, binN_eql_nn, binN_neq_nn, Br_true, Br_false, cells_agg, List.getElem?_toArray, List.getElem?_cons_zero, List.getElem?_cons_succ, Nat.zero_add, Nat.add_zero, Nat.zero_mul]
    refine gd_split (fun _ => ?_) (fun h => absurd rfl h)
    refine gd_split (fun _ => ?_) (fun h => absurd rfl h)
    have hM4 := hM.mono ((hI12.trans hI3).trans hI4)
    simp only [Bool.not_true, Bytes.len hM4, Pv_some, fldV_p, nilV_p, nilV_f, lenV_s, capV_s, lenSV_s, strV_s, unV_not, unV_neg, pickV_t, pickV_f, exV_t, cvIV_i, binI_add, binI_sub, binI_mul, binI_eql, binI_neq, binI_lss, binI_leq, binI_gtr, binI_geq, binI_and, binI_or, binB_eql, binB_neq, binS_eql, binS_neq, binP_eql_nil, binP_neq_nil, binN_eql_nil, binN_neq_nil, binN_eql_nn, binN_neq_nn, Br_true, Br_false, cells_agg, List.getElem?_toArray, List.getElem?_cons_zero, List.getElem?_cons_succ, Nat.zero_add, Nat.add_zero, Nat.zero_mul]
    have hB4 := hB.mono hI4
    refine br_split (fun g => ?_) (fun _ => ?_)
    · simp only [decide_eq_true_eq] at g
      unfold sh8_5
      refine bld_zero (fun X u hX => ?_)
      refine app_own (X := X) rfl hX (SlI.news hB4) (u8s_one _) (by omega) (by omega) (fun X2 v2 h2 => ?_)
      refine app_own (X := X2) rfl h2 (SlI.news hM4) (u8s_one _) (by omega) (by omega) (fun X3 v3 h3 => ?_)
      refine call (cal_pre (SlO.freeze h3 (fun I5 hI5 hS5 => Gh.done ?_)))
      have hB5 : Bytes I5 v3 (encL m' ++ more) := by
        have : u8s (encL m' ++ more) = [] ++ u8s (encL m') ++ u8s more := by simp [u8s]
        unfold Bytes
        rw [this, List.length_append]
        simpa using hS5
      refine dec_bad hB5 (by rw [List.length_append]; omega) (more_not hr (by intro h; subst h; simp at g)) (fun c5 I6 hI6 hv6 => ?_)
      have f6 := msg_form hv6
      simp only [Pv_some, fldV_p, nilV_p, nilV_f, lenV_s, capV_s, lenSV_s, strV_s, unV_not, unV_neg, pickV_t, pickV_f, exV_t, cvIV_i, binI_add, binI_sub, binI_mul, binI_eql, binI_neq, binI_lss, binI_leq, binI_gtr, binI_geq, binI_and, binI_or, binB_eql, binB_neq, binS_eql, binS_neq, binP_eql_nil, binP_neq_nil, binN_eql_nil, binN_neq_nil, binN_eql_nn, binN_neq_nn, Br_true, Br_false, cells_agg, List.getElem?_toArray, List.getElem?_cons_zero, List.getElem?_cons_succ, Nat.zero_add, Nat.add_zero, Nat.zero_mul]
      refine newI (fun bg6 => ?_)
      refine stB f6.1 rfl f6.2 ?_
      simp only [bne_self_eq_false, Pv_some, fldV_p, nilV_p, nilV_f, lenV_s, capV_s, lenSV_s, strV_s, unV_not, unV_neg, pickV_t, pickV_f, exV_t, cvIV_i, binI_add, binI_sub, binI_mul, binI_eql, binI_neq, binI_lss, binI_leq, binI_gtr, binI_geq, binI_and, binI_or, binB_eql, binB_neq, binS_eql, binS_neq, binP_eql_nil, binP_neq_nil, binN_eql_nil, binN_neq_nil, binN_eql_nn, binN_neq_nn, Br_true, Br_false, cells_agg, List.getElem?_toArray, List.getElem?_cons_zero, List.getElem?_cons_succ, Nat.zero_add, Nat.add_zero, Nat.zero_mul]
      exact there_less (K := K) hr rfl ((hB4.mono hI5).mono hI6) (by omega) (fun I7 hI7 => Gh.to L (Gh.done (hk I7 (((((hI12.trans hI3).trans hI4).trans hI5).trans hI6).trans hI7))))
    · exact there_less (K := K) hr rfl hB4 (by omega) (fun I7 hI7 => Gh.to L (Gh.done (hk I7 (((hI12.trans hI3).trans hI4).trans hI7))))
  · simp only [hr, Pv_some, fldV_p, nilV_p, nilV_f, lenV_s, capV_s, lenSV_s, strV_s, unV_not, unV_neg, pickV_t, pickV_f, exV_t, cvIV_i, binI_add, binI_sub, binI_mul, binI_eql, binI_neq, binI_lss, binI_leq, binI_gtr, binI_geq, binI_and, binI_or, binB_eql, binB_neq, binS_eql, binS_neq, binP_eql_nil, binP_neq_nil, binN_eql_nil, binN_neq_nil, binN_eql_nn, binN_neq_nn, Br_true, Br_false, cells_agg, List.getElem?_toArray, List.getElem?_cons_zero, List.getElem?_cons_succ, Nat.zero_add, Nat.add_zero, Nat.zero_mul, Bool.not_false]
    refine gd_split (fun _ => ?_) (fun h => absurd rfl h)
    simp only [beq_self_eq_true]
    exact Gh.to L (Gh.done (hk I3 (hI12.trans hI3)))

/-! ### How long a message is -/
theorem entsL_le {es : List LE} {B : Nat} (h : ∀ e ∈ es, e.data.length ≤ B ∧ e.term ≤ 9007199254740991) (hB : B ≤ 1048576) : (entsL es).length ≤ es.length * (B + 30) := by
  induction es with
  | nil => simp [entsL]
  | cons e es ih =>
    have h1 := h e (List.mem_cons_self ..)
    have h2 := ih (fun x hx => h x (List.mem_cons_of_mem _ hx))
    have v1 := varL_9 (n := e.term.toNat) (by omega)
    have v2 := varL_9 (n := e.data.length) (by omega)
    simp only [entsL, List.flatMap_cons, List.length_append, List.length_singleton, textL, List.length_cons, List.length_nil, Nat.add_mul, Nat.one_mul] at h2 ⊢
    omega
theorem encL_len {m : RM} (hr : rightB m = true) : (encL m).length ≤ 1048576 := by
  have hs := hr
  simp only [rightB, Bool.and_eq_true, countB, decide_eq_true_eq] at hr
  obtain ⟨⟨⟨⟨⟨⟨⟨⟨⟨hi, ht⟩, hc⟩, hT⟩, hf⟩, hto⟩, hT1⟩, hg1⟩, hg2⟩, hr⟩ := hr
  have v1 := varL_9 (n := m.term.toNat) (by omega)
  have v2 := varL_9 (n := m.index.toNat) (by omega)
  have v3 := varL_9 (n := m.logTerm.toNat) (by omega)
  have v4 := varL_9 (n := m.commit.toNat) (by omega)
  have hb : (bodyL m).length ≤ 1000000 := by
    unfold bodyL
    by_cases k1 : m.kind = 1
    · simp only [k1, if_true, List.length_append]; omega
    by_cases k2 : m.kind = 2
    · simp [k2, truthL]
    by_cases k3 : m.kind = 3
    · simp only [k3, if_true, if_false, Bool.and_eq_true, show ¬ ((3 : Int) = 1) by omega, show ¬ ((3 : Int) = 2) by omega, entsB, decide_eq_true_eq] at hr
      obtain ⟨_, r5, r6⟩ := hr
      have hE : (entsL m.entries).length ≤ m.entries.length * (12000 + 30) := by
        refine entsL_le (fun e he => ?_) (by omega)
        obtain ⟨j, hj, rfl⟩ := List.mem_iff_getElem.1 he
        rw [List.all_eq_true] at r6
        have := r6 (m.entries[j], j) (by rw [List.mem_iff_getElem?]; exact ⟨j, by simp [hj]⟩)
        simp only [entOk, entB, Bool.and_eq_true, countB, decide_eq_true_eq, beq_iff_eq] at this
        obtain ⟨⟨⟨⟨⟨a1, a2⟩, a3⟩, a4⟩, a5⟩, a6⟩ := this
        refine ⟨?_, by omega⟩
        by_cases q1 : m.entries[j].kind = 1
        · simp only [q1, if_true, decide_eq_true_eq] at a4; omega
        by_cases q2 : m.entries[j].kind = 2
        · simp only [q2, if_true, if_false, decide_eq_true_eq, show ¬ ((2 : Int) = 1) by omega] at a4; omega
        by_cases q3 : m.entries[j].kind = 3
        · simp only [q3, if_true, if_false, show ¬ ((3 : Int) = 1) by omega, show ¬ ((3 : Int) = 2) by omega] at a4
          have := memB_len a4
          rw [nums_len] at this
          omega
        simp [q1, q2, q3] at a4
      have v5 := varL_9 (n := m.entries.length) (by omega)
      simp only [k3, if_true, if_false, show ¬ ((3 : Int) = 1) by omega, show ¬ ((3 : Int) = 2) by omega, List.length_append]
      have : m.entries.length * (12000 + 30) ≤ 64 * 12030 := Nat.mul_le_mul_right _ r5
      omega
    by_cases k4 : m.kind = 4
    · simp only [k4, if_true, if_false, show ¬ ((4 : Int) = 1) by omega, show ¬ ((4 : Int) = 2) by omega, show ¬ ((4 : Int) = 3) by omega, List.length_append, truthL, List.length_singleton]; omega
    by_cases k5 : m.kind = 5
    · simp only [k5, if_true, if_false, Bool.and_eq_true, decide_eq_true_eq, show ¬ ((5 : Int) = 1) by omega, show ¬ ((5 : Int) = 2) by omega, show ¬ ((5 : Int) = 3) by omega, show ¬ ((5 : Int) = 4) by omega] at hr
      have h5 := memB_len hr.1.2
      have v5 := varL_9 (n := m.members.length) (by omega)
      have v6 := varL_9 (n := m.data.length) (by omega)
      simp only [k5, if_true, if_false, show ¬ ((5 : Int) = 1) by omega, show ¬ ((5 : Int) = 2) by omega, show ¬ ((5 : Int) = 3) by omega, show ¬ ((5 : Int) = 4) by omega, List.length_append, List.length_map, textL]
      omega
    simp [k1, k2, k3, k4, k5]
  simp only [encL, List.length_append, List.length_cons, List.length_nil]
  omega

end

theorem there_walk {W : World} {base : Nat} {v0 v1 v2 : Value} (o0 : Value.okWide Try.prog W .any base 51 v0) (t0 : TrR 137438953472 Try.prog W 51 v0.cells.toList) (o1 : Value.okWide Try.prog W .any base 28 v1) (t1 : TrR 137438953472 Try.prog W 28 v1.cells.toList) (o2 : Value.okWide Try.prog W .any base 3 v2) (t2 : TrR 137438953472 Try.prog W 3 v2.cells.toList) (ω : Om) :
    Cal Try.prog ω 8 #[v0, v1, v2] (fun v I' _ => v = .bool true ∧ Ext (heapI W) I') (heapI W) [] := by
  obtain ⟨cs, rfl, t⟩ := top_struct Try.underlying51 o0 t0
  obtain ⟨m, hm, hml, _⟩ := msg_open t
  obtain ⟨l, hB, hl⟩ := tr_bytes Try.underlying28 Try.underlying5 ce5 by5 (top_slice Try.underlying28 o1 t1)
  obtain ⟨n, rfl, _⟩ := top_int Try.underlying3 o2 t2
  exact there_law hm (by omega) hB (by omega) (fun hr => by have := encL_len hr; omega) (fun I' hI => ⟨rfl, hI⟩)
end Go.Proofs.Ytfeonffmeajpgaa
