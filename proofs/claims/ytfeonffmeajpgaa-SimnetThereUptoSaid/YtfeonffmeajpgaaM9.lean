import Derived.Test.YtfeonffmeajpgaaM8
set_option linter.unusedSimpArgs false
set_option linter.unusedVariables false
namespace Go.Proofs.Ytfeonffmeajpgaa
open Go.SL
set_option maxRecDepth 10000

section
variable {ω : Om} {I : Imm} {L : LH} {K : Value → M}

theorem rightB_gone {m : RM} (h : (countB m.index && countB m.logTerm && countB m.commit && countB m.term && nodeB m.frm && nodeB m.to && decide (1 ≤ m.term) && decide (1 ≤ m.group) && decide (m.group ≤ 255)) = false) : rightB m = false := by
  unfold rightB; rw [h]; rfl

set_option maxHeartbeats 4000000 in
theorem rright_spec {m : RM} {c : List Value} (hm : MsgV I m c) (hl : m.members.length < 4611686018427387904) (hk : ∀ I', Ext I I' → K (.bool (rightB m)) I' L) : Cal Try.prog ω 30 #[.agg c.toArray] K I L := by
  have hm0 := hm
  obtain ⟨ev, mv, dv, rfl, hE, hM, hD⟩ := hm
  have e1 := hE.len
  have e2 := Ints.len hM
  have e3 := Bytes.len hD
  refine cal30 ?_
  unfold sh30
  refine newI (fun b1 => ?_)
  simp only [Pv_some, fldV_p, nilV_p, nilV_f, lenV_s, capV_s, lenSV_s, strV_s, unV_not, unV_neg, pickV_t, pickV_f, exV_t, cvIV_i, binI_add, binI_sub, binI_mul, binI_eql, binI_neq, binI_lss, binI_leq, binI_gtr, binI_geq, binI_and, binI_or, binB_eql, binB_neq, binS_eql, binS_neq, binP_eql_nil, binP_neq_nil, binN_eql_nil, binN_neq_nil, binN_eql_nn, binN_neq_nn, Br_true, Br_false, cells_agg, List.getElem?_toArray, List.getElem?_cons_zero, List.getElem?_cons_succ, Nat.zero_add, Nat.add_zero, Nat.zero_mul]
  refine rdb ?_
  refine call (rnode_spec ?_)
  simp only [Pv_some, fldV_p, nilV_p, nilV_f, lenV_s, capV_s, lenSV_s, strV_s, unV_not, unV_neg, pickV_t, pickV_f, exV_t, cvIV_i, binI_add, binI_sub, binI_mul, binI_eql, binI_neq, binI_lss, binI_leq, binI_gtr, binI_geq, binI_and, binI_or, binB_eql, binB_neq, binS_eql, binS_neq, binP_eql_nil, binP_neq_nil, binN_eql_nil, binN_neq_nil, binN_eql_nn, binN_neq_nn, Br_true, Br_false, cells_agg, List.getElem?_toArray, List.getElem?_cons_zero, List.getElem?_cons_succ, Nat.zero_add, Nat.add_zero, Nat.zero_mul]
  refine rdb ?_
  refine call (rnode_spec ?_)
  simp only [Pv_some, fldV_p, nilV_p, nilV_f, lenV_s, capV_s, lenSV_s, strV_s, unV_not, unV_neg, pickV_t, pickV_f, exV_t, cvIV_i, binI_add, binI_sub, binI_mul, binI_eql, binI_neq, binI_lss, binI_leq, binI_gtr, binI_geq, binI_and, binI_or, binB_eql, binB_neq, binS_eql, binS_neq, binP_eql_nil, binP_neq_nil, binN_eql_nil, binN_neq_nil, binN_eql_nn, binN_neq_nn, Br_true, Br_false, cells_agg, List.getElem?_toArray, List.getElem?_cons_zero, List.getElem?_cons_succ, Nat.zero_add, Nat.add_zero, Nat.zero_mul]
  refine rdb ?_
  refine call (rcount_spec ?_)
  simp only [Pv_some, fldV_p, nilV_p, nilV_f, lenV_s, capV_s, lenSV_s, strV_s, unV_not, unV_neg, pickV_t, pickV_f, exV_t, cvIV_i, binI_add, binI_sub, binI_mul, binI_eql, binI_neq, binI_lss, binI_leq, binI_gtr, binI_geq, binI_and, binI_or, binB_eql, binB_neq, binS_eql, binS_neq, binP_eql_nil, binP_neq_nil, binN_eql_nil, binN_neq_nil, binN_eql_nn, binN_neq_nn, Br_true, Br_false, cells_agg, List.getElem?_toArray, List.getElem?_cons_zero, List.getElem?_cons_succ, Nat.zero_add, Nat.add_zero, Nat.zero_mul]
  refine rdb ?_
  refine call (rcount_spec ?_)
  simp only [Pv_some, fldV_p, nilV_p, nilV_f, lenV_s, capV_s, lenSV_s, strV_s, unV_not, unV_neg, pickV_t, pickV_f, exV_t, cvIV_i, binI_add, binI_sub, binI_mul, binI_eql, binI_neq, binI_lss, binI_leq, binI_gtr, binI_geq, binI_and, binI_or, binB_eql, binB_neq, binS_eql, binS_neq, binP_eql_nil, binP_neq_nil, binN_eql_nil, binN_neq_nil, binN_eql_nn, binN_neq_nn, Br_true, Br_false, cells_agg, List.getElem?_toArray, List.getElem?_cons_zero, List.getElem?_cons_succ, Nat.zero_add, Nat.add_zero, Nat.zero_mul]
  refine rdb ?_
  refine call (rcount_spec ?_)
  simp only [Pv_some, fldV_p, nilV_p, nilV_f, lenV_s, capV_s, lenSV_s, strV_s, unV_not, unV_neg, pickV_t, pickV_f, exV_t, cvIV_i, binI_add, binI_sub, binI_mul, binI_eql, binI_neq, binI_lss, binI_leq, binI_gtr, binI_geq, binI_and, binI_or, binB_eql, binB_neq, binS_eql, binS_neq, binP_eql_nil, binP_neq_nil, binN_eql_nil, binN_neq_nil, binN_eql_nn, binN_neq_nn, Br_true, Br_false, cells_agg, List.getElem?_toArray, List.getElem?_cons_zero, List.getElem?_cons_succ, Nat.zero_add, Nat.add_zero, Nat.zero_mul]
  refine rdb ?_
  refine call (rcount_spec ?_)
  simp only [Pv_some, fldV_p, nilV_p, nilV_f, lenV_s, capV_s, lenSV_s, strV_s, unV_not, unV_neg, pickV_t, pickV_f, exV_t, cvIV_i, binI_add, binI_sub, binI_mul, binI_eql, binI_neq, binI_lss, binI_leq, binI_gtr, binI_geq, binI_and, binI_or, binB_eql, binB_neq, binS_eql, binS_neq, binP_eql_nil, binP_neq_nil, binN_eql_nil, binN_neq_nil, binN_eql_nn, binN_neq_nn, Br_true, Br_false, cells_agg, List.getElem?_toArray, List.getElem?_cons_zero, List.getElem?_cons_succ, Nat.zero_add, Nat.add_zero, Nat.zero_mul]
  refine gd_split (fun g1 => ?_) (fun g1 => ?_)
  rotate_left
  · unfold sh30_1
    exact Gh.to L (Gh.done (leafB (hk I (Ext.refl I)) (rightB_gone (by simp at g1; simp [g1]))))
  refine gd_split (fun g2 => ?_) (fun g2 => ?_)
  rotate_left
  · unfold sh30_1
    exact Gh.to L (Gh.done (leafB (hk I (Ext.refl I)) (rightB_gone (by simp at g2; simp [g2]))))
  refine gd_split (fun g3 => ?_) (fun g3 => ?_)
  rotate_left
  · unfold sh30_1
    exact Gh.to L (Gh.done (leafB (hk I (Ext.refl I)) (rightB_gone (by simp at g3; simp [g3]))))
  refine gd_split (fun g4 => ?_) (fun g4 => ?_)
  rotate_left
  · unfold sh30_1
    exact Gh.to L (Gh.done (leafB (hk I (Ext.refl I)) (rightB_gone (by simp at g4; simp [g4]))))
  refine gd_split (fun g5 => ?_) (fun g5 => ?_)
  rotate_left
  · unfold sh30_1
    exact Gh.to L (Gh.done (leafB (hk I (Ext.refl I)) (rightB_gone (by simp at g5; simp [g5]))))
  refine gd_split (fun g6 => ?_) (fun g6 => ?_)
  rotate_left
  · unfold sh30_1
    exact Gh.to L (Gh.done (leafB (hk I (Ext.refl I)) (rightB_gone (by simp at g6; simp [g6]))))
  simp only [Bool.not_eq_eq_eq_not, Bool.not_false] at g1 g2 g3 g4 g5 g6
  repeat' (first | (with_reducible refine gd_split (fun _ => ?_) (fun _ => ?_)) | (with_reducible refine br_split (fun _ => ?_) (fun _ => ?_)) | (with_reducible refine newI (fun _ => ?_)) | (with_reducible refine call (rmembers_spec hM hl ?_)) | (with_reducible refine rents_loop hm0 g3 ?_ (fun _ hI1 => ?_)) | (with_reducible refine unfE (sh30_1.eq_1 ..) ?_) | (with_reducible refine unfE (sh30_2.eq_1 ..) ?_) | (with_reducible refine unfE (sh30_4.eq_1 ..) ?_) | (with_reducible refine unfE (sh30_5.eq_1 ..) ?_) | (with_reducible refine unfE (sh30_6.eq_1 ..) ?_) | (with_reducible refine unfE (sh30_8.eq_1 ..) ?_) | (with_reducible refine unfE (sh30_7.eq_1 ..) ?_) | (with_reducible refine unfE (sh30_3.eq_1 ..) ?_) | (with_reducible refine unfE (sh30.eq_1 ..) ?_) | first | refine rdb ?_ | refine st1 rfl ?_ | refine rdB rfl ?_ | refine rdbS ?_ | refine rdBS rfl ?_ | (simp only [Pv_some, fldV_p, nilV_p, nilV_f, lenV_s, capV_s, lenSV_s, strV_s, unV_not, unV_neg, pickV_t, pickV_f, exV_t, cvIV_i, binI_add, binI_sub, binI_mul, binI_eql, binI_neq, binI_lss, binI_leq, binI_gtr, binI_geq, binI_and, binI_or, binB_eql, binB_neq, binS_eql, binS_neq, binP_eql_nil, binP_neq_nil, binN_eql_nil, binN_neq_nil, binN_eql_nn, binN_neq_nn, Br_true, Br_false, cells_agg, List.getElem?_toArray, List.getElem?_cons_zero, List.getElem?_cons_succ, Nat.zero_add, Nat.add_zero, Nat.zero_mul, e1, e2, e3]))
  all_goals first | (refine Gh.done (leafB (hk _ hI1) ?_)) | (refine Gh.to L (Gh.done (leafB (hk I (Ext.refl I)) ?_))) | (refine (leafB (hk _ (by assumption)) ?_)) | skip
  all_goals clear hk hm0 hE hM hD e1 e2 e3 hl
  all_goals simp only [cast_empty, ne_eq, beq_iff_eq, Bool.not_eq_true, decide_eq_true_eq, decide_eq_false_iff_not, Bool.not_eq_false, Bool.not_eq_eq_eq_not, Bool.not_false, Bool.not_true, beq_eq_false_iff_ne, Int.not_lt, Int.not_le] at *
  all_goals try omega
  all_goals simp [rightB, *]
  all_goals try omega
  all_goals try (simp_all; done)
  all_goals try (simp_all; omega)
  all_goals try (intros; simp [entsB]; omega)

end
end Go.Proofs.Ytfeonffmeajpgaa
