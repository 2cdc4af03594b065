import Derived.Test.YtfeonffmeajpgaaN3
set_option linter.unusedSimpArgs false
set_option linter.unusedVariables false
namespace Go.Proofs.Ytfeonffmeajpgaa
open Go.SL
set_option maxRecDepth 10000

section
variable {ω : Om} {I : Imm} {L : LH} {K : Value → M}

theorem rvarI_spec {X F : LH} {v : Value} {bs : List UInt8} {n : Int} (h : SlO 5 1 X v (u8s bs) bs.length) (h0 : 0 ≤ n) (hn : n < 9223372036854775808) (hb : bs.length + 20 ≤ 140737488355328)
    (hk : ∀ X' v', SlO 5 1 X' v' (u8s (bs ++ varL n.toNat)) (bs ++ varL n.toNat).length → K v' I (X' ++ F)) : Cal Try.prog ω 47 #[v, .int .i64 n] K I (X ++ F) := by
  have := rvar_spec (ω := ω) (I := I) (F := F) (n := n.toNat) h (by omega) hb hk
  rwa [show ((n.toNat : Nat) : Int) = n from by omega] at this

theorem enc_fin {X : LH} {x : Nat × Obj} {v : Value} {bs bs' : List UInt8} (h : SlO 5 1 X v (u8s bs) bs.length) (e : bs = bs') (hk : ∀ v' I', Ext I I' → Bytes I' v' bs' → K (.tuple #[v', .int .i64 0]) I' L) :
    Gh (K (.tuple #[v, .int .i64 0])) I (X ++ x :: L) := by
  subst e
  exact SlO.freeze h (fun I' hI hS => Gh.to L (Gh.done (hk v I' hI hS)))

theorem varI_len {n : Int} (h : n < 9223372036854775808) : (varL n.toNat).length ≤ 9 := varL_9 (by omega)

set_option maxHeartbeats 1000000 in
theorem renc_spec {m : RM} {c : List Value} (hm : MsgV I m c) (hl : m.members.length < 4611686018427387904)
    (hk1 : rightB m = true → ∀ v' I', Ext I I' → Bytes I' v' (encL m) → K (.tuple #[v', .int .i64 0]) I' L) (hk0 : rightB m = false → ∀ I', Ext I I' → K (.tuple #[.slice none 0 0, .int .i64 92]) I' L) :
    Cal Try.prog ω 26 #[.agg c.toArray] K I L := by
  have hm0 := hm
  obtain ⟨ev, mv, dv, rfl, hE, hM, hD⟩ := hm
  have e1 := hE.len
  have e2 := Ints.len hM
  refine cal26 ?_
  unfold sh26
  refine newI (fun b1 => ?_)
  simp only [Pv_some, fldV_p, nilV_p, nilV_f, lenV_s, capV_s, lenSV_s, strV_s, unV_not, unV_neg, pickV_t, pickV_f, exV_t, cvIV_i, binI_add, binI_sub, binI_mul, binI_eql, binI_neq, binI_lss, binI_leq, binI_gtr, binI_geq, binI_and, binI_or, binB_eql, binB_neq, binS_eql, binS_neq, binP_eql_nil, binP_neq_nil, binN_eql_nil, binN_neq_nil, binN_eql_nn, binN_neq_nn, Br_true, Br_false, cells_agg, List.getElem?_toArray, List.getElem?_cons_zero, List.getElem?_cons_succ, Nat.zero_add, Nat.add_zero, Nat.zero_mul]
  refine rdB rfl ?_
  refine call (rright_spec hm0 hl (fun I1 hI1 => ?_))
  simp only [Pv_some, fldV_p, nilV_p, nilV_f, lenV_s, capV_s, lenSV_s, strV_s, unV_not, unV_neg, pickV_t, pickV_f, exV_t, cvIV_i, binI_add, binI_sub, binI_mul, binI_eql, binI_neq, binI_lss, binI_leq, binI_gtr, binI_geq, binI_and, binI_or, binB_eql, binB_neq, binS_eql, binS_neq, binP_eql_nil, binP_neq_nil, binN_eql_nil, binN_neq_nil, binN_eql_nn, binN_neq_nn, Br_true, Br_false, cells_agg, List.getElem?_toArray, List.getElem?_cons_zero, List.getElem?_cons_succ, Nat.zero_add, Nat.add_zero, Nat.zero_mul]
  refine br_split (fun hr => ?_) (fun hr => ?_)
  · simp only [Bool.not_eq_eq_eq_not, Bool.not_true] at hr
    exact Gh.to L (Gh.done (hk0 hr I1 hI1))
  simp only [Bool.not_eq_eq_eq_not, Bool.not_false] at hr
  obtain ⟨d1, d2, d3, d4, d5, d6, d7, d8⟩ := right_data hr
  have hk := hk1 hr
  repeat' (first | (with_reducible refine gd_split (fun _ => ?_) (fun _ => ?_)) | (with_reducible refine br_split (fun _ => ?_) (fun _ => ?_)) | (with_reducible refine newI (fun _ => ?_)) | first | refine rdb ?_ | refine st1 rfl ?_ | refine rdB rfl ?_ | refine rdbS ?_ | refine rdBS rfl ?_ | (simp only [Pv_some, fldV_p, nilV_p, nilV_f, lenV_s, capV_s, lenSV_s, strV_s, unV_not, unV_neg, pickV_t, pickV_f, exV_t, cvIV_i, binI_add, binI_sub, binI_mul, binI_eql, binI_neq, binI_lss, binI_leq, binI_gtr, binI_geq, binI_and, binI_or, binB_eql, binB_neq, binS_eql, binS_neq, binP_eql_nil, binP_neq_nil, binN_eql_nil, binN_neq_nil, binN_eql_nn, binN_neq_nn, Br_true, Br_false, cells_agg, List.getElem?_toArray, List.getElem?_cons_zero, List.getElem?_cons_succ, Nat.zero_add, Nat.add_zero, Nat.zero_mul, u8_wrap]))
  refine bb4 (fun X1 v1 h1 => ?_)
  refine rdb ?_
  have t1 := varI_len (n := m.term) (by omega)
  have t2 := varI_len (n := m.index) (by omega)
  have t3 := varI_len (n := m.logTerm) (by omega)
  have t4 := varI_len (n := m.commit) (by omega)
  have t5 := varL_9 (n := m.entries.length) (by omega)
  have t6 := varL_9 (n := m.members.length) (by omega)
  have fin : ∀ {I3 : Imm} {X : LH} {v : Value} {bs : List UInt8}, Ext I1 I3 → SlO 5 1 X v (u8s bs) bs.length → bs = encL m → Gh (K (.tuple #[v, .int .i64 0])) I3 (X ++ (b1, Obj.cells #[.int .i64 m.kind, .int .i64 m.group, .int .i64 m.frm, .int .i64 m.to, .int .i64 m.term, .int .i64 m.index, .int .i64 m.logTerm, .int .i64 m.commit, .bool m.ok, ev, mv, dv] 51 (0, 0)) :: L) :=
    fun hI3 h e => enc_fin h e (fun v' I' hI' hB => hk v' I' ((hI1.trans hI3).trans hI') hB)
  refine call (rvarI_spec (bs := [byteOf m.kind, byteOf m.group, byteOf m.frm, byteOf m.to]) h1 (by omega) (by omega) (by simp) (fun X2 v2 h2 => ?_))
  refine rdb ?_
  simp only [Pv_some, fldV_p, nilV_p, nilV_f, lenV_s, capV_s, lenSV_s, strV_s, unV_not, unV_neg, pickV_t, pickV_f, exV_t, cvIV_i, binI_add, binI_sub, binI_mul, binI_eql, binI_neq, binI_lss, binI_leq, binI_gtr, binI_geq, binI_and, binI_or, binB_eql, binB_neq, binS_eql, binS_neq, binP_eql_nil, binP_neq_nil, binN_eql_nil, binN_neq_nil, binN_eql_nn, binN_neq_nn, Br_true, Br_false, cells_agg, List.getElem?_toArray, List.getElem?_cons_zero, List.getElem?_cons_succ, Nat.zero_add, Nat.add_zero, Nat.zero_mul]
  refine br_split (fun k1 => ?_) (fun k1 => ?_)
  · simp only [beq_iff_eq] at k1
    refine rdb ?_
    refine call (rvarI_spec h2 (by omega) (by omega) (by simp; omega) (fun X3 v3 h3 => ?_))
    try simp only [Pv_some, fldV_p, nilV_p, nilV_f, lenV_s, capV_s, lenSV_s, strV_s, unV_not, unV_neg, pickV_t, pickV_f, exV_t, cvIV_i, binI_add, binI_sub, binI_mul, binI_eql, binI_neq, binI_lss, binI_leq, binI_gtr, binI_geq, binI_and, binI_or, binB_eql, binB_neq, binS_eql, binS_neq, binP_eql_nil, binP_neq_nil, binN_eql_nil, binN_neq_nil, binN_eql_nn, binN_neq_nn, Br_true, Br_false, cells_agg, List.getElem?_toArray, List.getElem?_cons_zero, List.getElem?_cons_succ, Nat.zero_add, Nat.add_zero, Nat.zero_mul]
    refine rdb ?_
    refine call (rvarI_spec h3 (by omega) (by omega) (by simp; omega) (fun X4 v4 h4 => ?_))
    unfold sh26_2 sh26_1
    exact fin (Ext.refl _) h4 (by simp [encL, bodyL, k1])
  simp only [beq_eq_false_iff_ne] at k1
  refine br_split (fun k2 => ?_) (fun k2 => ?_)
  · simp only [beq_iff_eq] at k2
    refine rdb ?_
    refine call (rtruth_spec h2 (by simp; omega) (fun X3 v3 h3 => ?_))
    unfold sh26_2 sh26_1
    exact fin (Ext.refl _) h3 (by simp [encL, bodyL, k2])
  simp only [beq_eq_false_iff_ne] at k2
  refine br_split (fun k3 => ?_) (fun k3 => ?_)
  · simp only [beq_iff_eq] at k3
    refine rdb ?_
    refine call (rvarI_spec h2 (by omega) (by omega) (by simp; omega) (fun X3 v3 h3 => ?_))
    try simp only [Pv_some, fldV_p, nilV_p, nilV_f, lenV_s, capV_s, lenSV_s, strV_s, unV_not, unV_neg, pickV_t, pickV_f, exV_t, cvIV_i, binI_add, binI_sub, binI_mul, binI_eql, binI_neq, binI_lss, binI_leq, binI_gtr, binI_geq, binI_and, binI_or, binB_eql, binB_neq, binS_eql, binS_neq, binP_eql_nil, binP_neq_nil, binN_eql_nil, binN_neq_nil, binN_eql_nn, binN_neq_nn, Br_true, Br_false, cells_agg, List.getElem?_toArray, List.getElem?_cons_zero, List.getElem?_cons_succ, Nat.zero_add, Nat.add_zero, Nat.zero_mul]
    refine rdb ?_
    refine call (rvarI_spec h3 (by omega) (by omega) (by simp; omega) (fun X4 v4 h4 => ?_))
    try simp only [Pv_some, fldV_p, nilV_p, nilV_f, lenV_s, capV_s, lenSV_s, strV_s, unV_not, unV_neg, pickV_t, pickV_f, exV_t, cvIV_i, binI_add, binI_sub, binI_mul, binI_eql, binI_neq, binI_lss, binI_leq, binI_gtr, binI_geq, binI_and, binI_or, binB_eql, binB_neq, binS_eql, binS_neq, binP_eql_nil, binP_neq_nil, binN_eql_nil, binN_neq_nil, binN_eql_nn, binN_neq_nn, Br_true, Br_false, cells_agg, List.getElem?_toArray, List.getElem?_cons_zero, List.getElem?_cons_succ, Nat.zero_add, Nat.add_zero, Nat.zero_mul]
    refine rdb ?_
    refine call (rvarI_spec h4 (by omega) (by omega) (by simp; omega) (fun X5 v5 h5 => ?_))
    try simp only [Pv_some, fldV_p, nilV_p, nilV_f, lenV_s, capV_s, lenSV_s, strV_s, unV_not, unV_neg, pickV_t, pickV_f, exV_t, cvIV_i, binI_add, binI_sub, binI_mul, binI_eql, binI_neq, binI_lss, binI_leq, binI_gtr, binI_geq, binI_and, binI_or, binB_eql, binB_neq, binS_eql, binS_neq, binP_eql_nil, binP_neq_nil, binN_eql_nil, binN_neq_nil, binN_eql_nn, binN_neq_nn, Br_true, Br_false, cells_agg, List.getElem?_toArray, List.getElem?_cons_zero, List.getElem?_cons_succ, Nat.zero_add, Nat.add_zero, Nat.zero_mul]
    refine rdb ?_
    simp only [e1, Pv_some, fldV_p, nilV_p, nilV_f, lenV_s, capV_s, lenSV_s, strV_s, unV_not, unV_neg, pickV_t, pickV_f, exV_t, cvIV_i, binI_add, binI_sub, binI_mul, binI_eql, binI_neq, binI_lss, binI_leq, binI_gtr, binI_geq, binI_and, binI_or, binB_eql, binB_neq, binS_eql, binS_neq, binP_eql_nil, binP_neq_nil, binN_eql_nil, binN_neq_nil, binN_eql_nn, binN_neq_nn, Br_true, Br_false, cells_agg, List.getElem?_toArray, List.getElem?_cons_zero, List.getElem?_cons_succ, Nat.zero_add, Nat.add_zero, Nat.zero_mul]
    refine call (rvar_spec h5 (by omega) (by simp; omega) (fun X6 v6 h6 => ?_))
    refine rents_write (hm0.mono hI1) d1 d2 h6 (by simp; omega) inferInstance (fun X7 v7 h7 => ?_)
    exact fin (Ext.refl _) h7 (by simp [encL, bodyL, k3])
  simp only [beq_eq_false_iff_ne] at k3
  refine br_split (fun k4 => ?_) (fun k4 => ?_)
  · simp only [beq_iff_eq] at k4
    refine rdb ?_
    refine call (rtruth_spec h2 (by simp; omega) (fun X3 v3 h3 => ?_))
    try simp only [Pv_some, fldV_p, nilV_p, nilV_f, lenV_s, capV_s, lenSV_s, strV_s, unV_not, unV_neg, pickV_t, pickV_f, exV_t, cvIV_i, binI_add, binI_sub, binI_mul, binI_eql, binI_neq, binI_lss, binI_leq, binI_gtr, binI_geq, binI_and, binI_or, binB_eql, binB_neq, binS_eql, binS_neq, binP_eql_nil, binP_neq_nil, binN_eql_nil, binN_neq_nil, binN_eql_nn, binN_neq_nn, Br_true, Br_false, cells_agg, List.getElem?_toArray, List.getElem?_cons_zero, List.getElem?_cons_succ, Nat.zero_add, Nat.add_zero, Nat.zero_mul]
    refine rdb ?_
    refine call (rvarI_spec h3 (by omega) (by omega) (by simp [truthL]; omega) (fun X4 v4 h4 => ?_))
    unfold sh26_2 sh26_1
    exact fin (Ext.refl _) h4 (by simp [encL, bodyL, k4])
  simp only [beq_eq_false_iff_ne] at k4
  refine br_split (fun k5 => ?_) (fun k5 => ?_)
  · simp only [beq_iff_eq] at k5
    refine rdb ?_
    refine call (rvarI_spec h2 (by omega) (by omega) (by simp; omega) (fun X3 v3 h3 => ?_))
    try simp only [Pv_some, fldV_p, nilV_p, nilV_f, lenV_s, capV_s, lenSV_s, strV_s, unV_not, unV_neg, pickV_t, pickV_f, exV_t, cvIV_i, binI_add, binI_sub, binI_mul, binI_eql, binI_neq, binI_lss, binI_leq, binI_gtr, binI_geq, binI_and, binI_or, binB_eql, binB_neq, binS_eql, binS_neq, binP_eql_nil, binP_neq_nil, binN_eql_nil, binN_neq_nil, binN_eql_nn, binN_neq_nn, Br_true, Br_false, cells_agg, List.getElem?_toArray, List.getElem?_cons_zero, List.getElem?_cons_succ, Nat.zero_add, Nat.add_zero, Nat.zero_mul]
    refine rdb ?_
    refine call (rvarI_spec h3 (by omega) (by omega) (by simp; omega) (fun X4 v4 h4 => ?_))
    try simp only [Pv_some, fldV_p, nilV_p, nilV_f, lenV_s, capV_s, lenSV_s, strV_s, unV_not, unV_neg, pickV_t, pickV_f, exV_t, cvIV_i, binI_add, binI_sub, binI_mul, binI_eql, binI_neq, binI_lss, binI_leq, binI_gtr, binI_geq, binI_and, binI_or, binB_eql, binB_neq, binS_eql, binS_neq, binP_eql_nil, binP_neq_nil, binN_eql_nil, binN_neq_nil, binN_eql_nn, binN_neq_nn, Br_true, Br_false, cells_agg, List.getElem?_toArray, List.getElem?_cons_zero, List.getElem?_cons_succ, Nat.zero_add, Nat.add_zero, Nat.zero_mul]
    refine rdb ?_
    simp only [e2, Pv_some, fldV_p, nilV_p, nilV_f, lenV_s, capV_s, lenSV_s, strV_s, unV_not, unV_neg, pickV_t, pickV_f, exV_t, cvIV_i, binI_add, binI_sub, binI_mul, binI_eql, binI_neq, binI_lss, binI_leq, binI_gtr, binI_geq, binI_and, binI_or, binB_eql, binB_neq, binS_eql, binS_neq, binP_eql_nil, binP_neq_nil, binN_eql_nil, binN_neq_nil, binN_eql_nn, binN_neq_nn, Br_true, Br_false, cells_agg, List.getElem?_toArray, List.getElem?_cons_zero, List.getElem?_cons_succ, Nat.zero_add, Nat.add_zero, Nat.zero_mul]
    refine call (rvar_spec h4 (by omega) (by simp; omega) (fun X5 v5 h5 => ?_))
    refine rmems_write (hm0.mono hI1) d3 d4 h5 (by simp; omega) inferInstance (fun X7 v7 h7 => ?_)
    exact fin (Ext.refl _) h7 (by simp [encL, bodyL, k5])
  simp only [beq_eq_false_iff_ne] at k5
  unfold sh26_2 sh26_1
  exact fin (Ext.refl _) h2 (by simp [encL, bodyL, k1, k2, k3, k4, k5])

end
end Go.Proofs.Ytfeonffmeajpgaa
