import Derived.Test.YtfeonffmeajpgaaM6
set_option linter.unusedSimpArgs false
set_option linter.unusedVariables false
namespace Go.Proofs.Ytfeonffmeajpgaa
open Go.SL
set_option maxRecDepth 10000

section
variable {ω : Om} {I : Imm} {L : LH} {K : Value → M}

theorem rightB_index {m : RM} (h : countB m.index = false) : rightB m = false := by simp [rightB, h]
theorem rightB_logTerm {m : RM} (h : countB m.logTerm = false) : rightB m = false := by simp [rightB, h]
theorem rightB_commit {m : RM} (h : countB m.commit = false) : rightB m = false := by simp [rightB, h]
theorem rightB_term {m : RM} (h : countB m.term = false) : rightB m = false := by simp [rightB, h]

set_option maxHeartbeats 2000000 in
theorem right1_spec {m : RM} {c : List Value} {b1 : Nat} (hm : MsgV I m c) (hl : m.members.length < 4611686018427387904) (h0 : countB m.index = true) (h1 : countB m.logTerm = true) (h2 : countB m.commit = true) (h3 : countB m.term = true)
    (hk : ∀ I', Ext I I' → K (.bool (rightB m)) I' L) : sh41_1 ω (.pointer (some ⟨b1, 0, none⟩)) (.bool false) (fun v => Gh (K v)) I ((b1, Obj.cells c.toArray 51 (0, 0)) :: L) := by
  have hm0 := hm
  obtain ⟨ev, mv, dv, rfl, hE, hM, hD⟩ := hm
  have e1 := hE.len
  have e2 := Ints.len hM
  have e3 := Bytes.len hD
  unfold sh41_1
  simp only [Pv_some, fldV_p, nilV_p, nilV_f, lenV_s, capV_s, lenSV_s, strV_s, unV_not, unV_neg, pickV_t, pickV_f, exV_t, cvIV_i, binI_add, binI_sub, binI_mul, binI_eql, binI_neq, binI_lss, binI_leq, binI_gtr, binI_geq, binI_and, binI_or, binB_eql, binB_neq, binS_eql, binS_neq, binP_eql_nil, binP_neq_nil, binN_eql_nil, binN_neq_nil, binN_eql_nn, binN_neq_nn, Br_true, Br_false, cells_agg, List.getElem?_toArray, List.getElem?_cons_zero, List.getElem?_cons_succ, Nat.zero_add, Nat.add_zero, Nat.zero_mul]
  refine rdb ?_
  refine call (node_spec ?_)
  simp only [Pv_some, fldV_p, nilV_p, nilV_f, lenV_s, capV_s, lenSV_s, strV_s, unV_not, unV_neg, pickV_t, pickV_f, exV_t, cvIV_i, binI_add, binI_sub, binI_mul, binI_eql, binI_neq, binI_lss, binI_leq, binI_gtr, binI_geq, binI_and, binI_or, binB_eql, binB_neq, binS_eql, binS_neq, binP_eql_nil, binP_neq_nil, binN_eql_nil, binN_neq_nil, binN_eql_nn, binN_neq_nn, Br_true, Br_false, cells_agg, List.getElem?_toArray, List.getElem?_cons_zero, List.getElem?_cons_succ, Nat.zero_add, Nat.add_zero, Nat.zero_mul]
  refine gd_split (fun g1 => ?_) (fun g1 => ?_)
  rotate_left
  · unfold sh41_2
    exact Gh.to L (Gh.done (leafB (hk I (Ext.refl I)) (by simp at g1; simp [rightB, g1])))
  refine rdb ?_
  refine call (node_spec ?_)
  simp only [Pv_some, fldV_p, nilV_p, nilV_f, lenV_s, capV_s, lenSV_s, strV_s, unV_not, unV_neg, pickV_t, pickV_f, exV_t, cvIV_i, binI_add, binI_sub, binI_mul, binI_eql, binI_neq, binI_lss, binI_leq, binI_gtr, binI_geq, binI_and, binI_or, binB_eql, binB_neq, binS_eql, binS_neq, binP_eql_nil, binP_neq_nil, binN_eql_nil, binN_neq_nil, binN_eql_nn, binN_neq_nn, Br_true, Br_false, cells_agg, List.getElem?_toArray, List.getElem?_cons_zero, List.getElem?_cons_succ, Nat.zero_add, Nat.add_zero, Nat.zero_mul]
  refine gd_split (fun g2 => ?_) (fun g2 => ?_)
  rotate_left
  · unfold sh41_2
    exact Gh.to L (Gh.done (leafB (hk I (Ext.refl I)) (by simp at g2; simp [rightB, g2])))
  simp only [Bool.not_eq_eq_eq_not, Bool.not_false] at g1 g2
  repeat' (first | (with_reducible refine gd_split (fun _ => ?_) (fun _ => ?_)) | (with_reducible refine br_split (fun _ => ?_) (fun _ => ?_)) | (with_reducible refine newI (fun _ => ?_)) | (with_reducible refine call (members_spec hM hl ?_)) | (with_reducible refine call (entries_spec (hm0) h0 (fun _ hI1 => ?_))) | (with_reducible refine unfE (sh41_2.eq_1 ..) ?_) | (with_reducible refine unfE (sh41_3.eq_1 ..) ?_) | (with_reducible refine unfE (sh41_4.eq_1 ..) ?_) | (with_reducible refine unfE (sh41_1.eq_1 ..) ?_) | (with_reducible refine unfE (sh41_5.eq_1 ..) ?_) | (with_reducible refine unfE (sh41_6.eq_1 ..) ?_) | (with_reducible refine unfE (sh41.eq_1 ..) ?_) | first | refine rdb ?_ | refine st1 rfl ?_ | refine rdB rfl ?_ | refine rdbS ?_ | refine rdBS rfl ?_ | (simp only [Pv_some, fldV_p, nilV_p, nilV_f, lenV_s, capV_s, lenSV_s, strV_s, unV_not, unV_neg, pickV_t, pickV_f, exV_t, cvIV_i, binI_add, binI_sub, binI_mul, binI_eql, binI_neq, binI_lss, binI_leq, binI_gtr, binI_geq, binI_and, binI_or, binB_eql, binB_neq, binS_eql, binS_neq, binP_eql_nil, binP_neq_nil, binN_eql_nil, binN_neq_nil, binN_eql_nn, binN_neq_nn, Br_true, Br_false, cells_agg, List.getElem?_toArray, List.getElem?_cons_zero, List.getElem?_cons_succ, Nat.zero_add, Nat.add_zero, Nat.zero_mul, e1, e2, e3]))
  all_goals first | (refine Gh.to L (Gh.done (leafB (hk I (Ext.refl I)) ?_))) | (refine Gh.to L (Gh.done (leafB (hk _ hI1) ?_))) | (refine Gh.to L (Gh.done (leafB (hk _ (by assumption)) ?_)))
  all_goals clear hk hm0 hE hM hD e1 e2 e3 hl
  all_goals simp only [cast_empty, ne_eq, beq_iff_eq, Bool.not_eq_true, decide_eq_true_eq, decide_eq_false_iff_not, Bool.not_eq_false, Bool.not_eq_eq_eq_not, Bool.not_false, Bool.not_true, beq_eq_false_iff_ne, Int.not_lt, Int.not_le] at *
  all_goals simp [rightB, *]
  all_goals try omega
  all_goals try (simp_all; done)
  all_goals try (simp_all; omega)

end
end Go.Proofs.Ytfeonffmeajpgaa
