/-
  The program's node: time, data, members, states.
-/
-- S2
import Derived.Test.YtdcpeboecmkmlaaKN
set_option linter.unusedSimpArgs false
set_option linter.unusedVariables false
namespace Go.Proofs.Ytdcpeboecmkmlaa
open Go.SL
set_option maxRecDepth 10000

section
variable {ω : Om} {I : Imm} {L : LH} {K : Value → M}

theorem tick_spec {b E B : Nat} {X F : LH} {r : RF} {w : Int} (h : RaftR I b X r) (hw : RWF E B r) (hE : (E + 1) * 48 ≤ 150000000000000) (hB : B ≤ 1000000) (ho : r.out = [])
    (hk : ∀ X' v I', Ext I I' → Msgs I' [] v (tickF r w).out → RaftR I' b X' (takeF (tickF r w)) → K v I' (X' ++ F)) : Cal Try.prog ω 39 #[.pointer (some ⟨b, 0, none⟩), .int .i64 w] K I (X ++ F) := by
  obtain ⟨lb, XL, XO, stv, ov, z0, z1, z2, oc, rfl, h1, h2, h3, h4⟩ := h
  have hol : r.out.length = 0 := by rw [ho]; rfl
  have hel := hw.ela
  refine cal39 ?_
  unfold sh39
  simp only [List.cons_append, List.append_assoc, Pv_some, fldV_p, nilV_p, nilV_f, lenV_s, capV_s, sLen, minV_i, maxV_i, strV_s, unV_not, unV_neg, pickV_t, pickV_f, exV_t, cvIV_i, binI_add, binI_sub, binI_mul, binI_eql, binI_neq, binI_lss, binI_leq, binI_gtr, binI_geq, binI_and, binI_or, binB_eql, binB_neq, sEq, sNe, sLt, sLe, sGt, sGe, stampEq, stampNe, fldv_agg, fldv_one, binP_eql_nil, binP_neq_nil, binN_eql_nil, binN_neq_nil, binN_eql_nn, binN_neq_nn, Br_true, Br_false, Gd_tt, Gd_ft, Gd_tf, Gd_ff, cells_agg, List.getElem?_toArray, List.getElem?_cons_zero, List.getElem?_cons_succ, Nat.zero_add, Nat.add_zero, Nat.zero_mul, List.drop_succ_cons, List.drop_zero, List.take_succ_cons, List.take_zero, List.nil_append, List.cons_append, Nat.reduceAdd, List.drop_nil, List.take_nil, bld_1, bld_2, bld_3, bld_4, bld_5, bld_6, bld_7, bld_8, bld_9, bld_10, bld_11, bld_12, bld_13, bld_14, bld_15, bld_16, bld_17, bld_18]
  refine rdb ?_
  try simp only [Pv_some, fldV_p, nilV_p, nilV_f, lenV_s, capV_s, sLen, minV_i, maxV_i, strV_s, unV_not, unV_neg, pickV_t, pickV_f, exV_t, cvIV_i, binI_add, binI_sub, binI_mul, binI_eql, binI_neq, binI_lss, binI_leq, binI_gtr, binI_geq, binI_and, binI_or, binB_eql, binB_neq, sEq, sNe, sLt, sLe, sGt, sGe, stampEq, stampNe, fldv_agg, fldv_one, binP_eql_nil, binP_neq_nil, binN_eql_nil, binN_neq_nil, binN_eql_nn, binN_neq_nn, Br_true, Br_false, Gd_tt, Gd_ft, Gd_tf, Gd_ff, cells_agg, List.getElem?_toArray, List.getElem?_cons_zero, List.getElem?_cons_succ, Nat.zero_add, Nat.add_zero, Nat.zero_mul, List.drop_succ_cons, List.drop_zero, List.take_succ_cons, List.take_zero, List.nil_append, List.cons_append, Nat.reduceAdd, List.drop_nil, List.take_nil, bld_1, bld_2, bld_3, bld_4, bld_5, bld_6, bld_7, bld_8, bld_9, bld_10, bld_11, bld_12, bld_13, bld_14, bld_15, bld_16, bld_17, bld_18]
  refine br_split (fun h3' => ?_) (fun h3' => ?_)
  · simp at h3'
    rw [tickF, if_pos h3'] at hk
    refine call (raft_cal (r := r) b F z0 z1 z2 h1 h2 h3 h4 rfl (fun X hX => ?_))
    refine sendAll_spec hX hw (by omega) (fun X' I1 hI1 hX' => ?_)
    exact call (take_spec hX' (fun X2 v I2 hI2 hv hX2 => Gh.done (hk X2 v I2 (hI1.trans hI2) hv hX2)))
  simp at h3'
  rw [tickF, if_neg h3'] at hk
  have hw' : RWF E (B + 1) { r with elapsed := r.elapsed + 1 } := ⟨hw.wf, hw.len, hw.grp, hw.idn, hw.trm, hw.vot, hw.lst, hw.stl, by simp only; omega, hw.nxb, hw.mtb⟩
  repeat' (first | (with_reducible refine drawC ?_) | (with_reducible refine drawW1 ?_) | (with_reducible refine drawW2 ?_) | (with_reducible refine keepC (by repeat (first | exact Ext.refl _ | assumption | refine Ext.trans ?_ (by assumption))) ?_) | (with_reducible refine newI (fun _ => ?_)) | first | (with_reducible refine rdb ?_) | ((with_reducible refine st1 ?_ ?_); rfl) | ((with_reducible refine rdB ?_ ?_); rfl) | (with_reducible refine rdbS ?_) | ((with_reducible refine rdBS ?_ ?_); rfl) | ((with_reducible refine stB ?_ ?_ ?_ ?_); rfl; rfl; exact one_all rfl) | ((with_reducible refine rdP _ rfl ?_ ?_); rfl) | ((with_reducible refine rdPS _ rfl ?_ ?_); rfl) | ((with_reducible refine stP _ rfl ?_ ?_ ?_ ?_); rfl; rfl; rfl) | (with_reducible refine And.intro ?_ ?_) | (simp only [Bool.not_true, Bool.not_false, Bool.and_self, Bool.true_and, Int.reduceBEq, Int.reduceBNe, Int.reduceLT, Int.reduceLE, decide_true, decide_false, Br_true, Br_false, Gd_tt, Gd_ft, Gd_tf, Gd_ff, beq_self_eq_true, bne_self_eq_false]) | (with_reducible refine gd_split (fun _ => ?_) (fun _ => ?_)) | (with_reducible refine br_split (fun _ => ?_) (fun _ => ?_)) | (simp only [Pv_some, fldV_p, nilV_p, nilV_f, lenV_s, capV_s, sLen, minV_i, maxV_i, strV_s, unV_not, unV_neg, pickV_t, pickV_f, exV_t, cvIV_i, binI_add, binI_sub, binI_mul, binI_eql, binI_neq, binI_lss, binI_leq, binI_gtr, binI_geq, binI_and, binI_or, binB_eql, binB_neq, sEq, sNe, sLt, sLe, sGt, sGe, stampEq, stampNe, fldv_agg, fldv_one, binP_eql_nil, binP_neq_nil, binN_eql_nil, binN_neq_nil, binN_eql_nn, binN_neq_nn, Br_true, Br_false, Gd_tt, Gd_ft, Gd_tf, Gd_ff, cells_agg, List.getElem?_toArray, List.getElem?_cons_zero, List.getElem?_cons_succ, Nat.zero_add, Nat.add_zero, Nat.zero_mul, List.drop_succ_cons, List.drop_zero, List.take_succ_cons, List.take_zero, List.nil_append, List.cons_append, Nat.reduceAdd, List.drop_nil, List.take_nil, bld_1, bld_2, bld_3, bld_4, bld_5, bld_6, bld_7, bld_8, bld_9, bld_10, bld_11, bld_12, bld_13, bld_14, bld_15, bld_16, bld_17, bld_18, wrap_i64 (r.elapsed + 1) (by omega)]))
  · rename_i hwt
    simp at hwt
    refine call (lmembers_spec h1.view hw.wf (fun v I1 hI1 hv => ?_))
    refine keepC hI1 ?_
    try simp only [Pv_some, fldV_p, nilV_p, nilV_f, lenV_s, capV_s, sLen, minV_i, maxV_i, strV_s, unV_not, unV_neg, pickV_t, pickV_f, exV_t, cvIV_i, binI_add, binI_sub, binI_mul, binI_eql, binI_neq, binI_lss, binI_leq, binI_gtr, binI_geq, binI_and, binI_or, binB_eql, binB_neq, sEq, sNe, sLt, sLe, sGt, sGe, stampEq, stampNe, fldv_agg, fldv_one, binP_eql_nil, binP_neq_nil, binN_eql_nil, binN_neq_nil, binN_eql_nn, binN_neq_nn, Br_true, Br_false, Gd_tt, Gd_ft, Gd_tf, Gd_ff, cells_agg, List.getElem?_toArray, List.getElem?_cons_zero, List.getElem?_cons_succ, Nat.zero_add, Nat.add_zero, Nat.zero_mul, List.drop_succ_cons, List.drop_zero, List.take_succ_cons, List.take_zero, List.nil_append, List.cons_append, Nat.reduceAdd, List.drop_nil, List.take_nil, bld_1, bld_2, bld_3, bld_4, bld_5, bld_6, bld_7, bld_8, bld_9, bld_10, bld_11, bld_12, bld_13, bld_14, bld_15, bld_16, bld_17, bld_18]
    refine rdbS ?_
    refine call (contains_spec hv (by have := memB_len hw.wf.mems; omega) ?_)
    have h1' := h1.mono hI1
    have h2' := h2.mono hI1
    have h4' := h4.imp fun _ _ h => h.mono hI1
    refine br_split (fun hc => ?_) (fun hc => ?_)
    · rw [if_pos ⟨hwt, hc⟩] at hk
      unfold sh39_2
      refine call (raft_cal (r := { r with elapsed := r.elapsed + 1 }) b F z0 z1 z2 h1' h2' h3 h4' rfl (fun X hX => ?_))
      refine want_spec hX hw' hE (by simp only; omega) (fun X' I2 hI2 hX' => ?_)
      unfold sh39_1
      exact call (take_spec hX' (fun X2 v I3 hI3 hv hX2 => Gh.done (hk X2 v I3 ((hI1.trans hI2).trans hI3) hv hX2)))
    · rw [if_neg (by intro h; unfold mems at h; rw [hc] at h; exact absurd h.2 (by simp))] at hk
      unfold sh39_1
      refine call (raft_cal (r := { r with elapsed := r.elapsed + 1 }) b F z0 z1 z2 h1' h2' h3 h4' rfl (fun X hX => ?_))
      exact take_spec hX (fun X2 v I3 hI3 hv hX2 => Gh.done (hk X2 v I3 (hI1.trans hI3) hv hX2))
  · exact Stay.start _ _
  · rename_i hwt
    simp at hwt
    rw [if_neg (by omega)] at hk
    unfold sh39_1
    refine call (raft_cal (r := { r with elapsed := r.elapsed + 1 }) b F z0 z1 z2 h1 h2 h3 h4 rfl (fun X hX => ?_))
    exact take_spec hX (fun X2 v I3 hI3 hv hX2 => Gh.done (hk X2 v I3 hI3 hv hX2))

theorem addc_spec {b E B : Nat} {X F : LH} {r : RF} {k : Int} {dv : Value} {d : List UInt8} (h : RaftR I b X r) (hw : RWF E B r) (hE : (E + 1) * 48 ≤ 150000000000000) (ho : r.out = []) (hd : Bytes I dv d) (hdl : d.length ≤ 140737488355328)
    (hk : ∀ X' v I', Ext I I' → Msgs I' [] v (addF r k d).2.2.out → RaftR I' b X' (takeF (addF r k d).2.2) → K (.tuple #[.int .i64 (addF r k d).1, v, .int .i64 (addF r k d).2.1]) I' (X' ++ F)) :
    Cal Try.prog ω 98 #[.pointer (some ⟨b, 0, none⟩), .int .i64 k, dv] K I (X ++ F) := by
  obtain ⟨lb, XL, XO, stv, ov, z0, z1, z2, oc, rfl, h1, h2, h3, h4⟩ := h
  have hol : r.out.length = 0 := by rw [ho]; rfl
  refine cal98 ?_
  unfold sh98
  simp only [List.cons_append, List.append_assoc]
  repeat' (first | (with_reducible refine drawC ?_) | (with_reducible refine drawW1 ?_) | (with_reducible refine drawW2 ?_) | (with_reducible refine keepC (by repeat (first | exact Ext.refl _ | assumption | refine Ext.trans ?_ (by assumption))) ?_) | (with_reducible refine newI (fun _ => ?_)) | first | (with_reducible refine rdb ?_) | ((with_reducible refine st1 ?_ ?_); rfl) | ((with_reducible refine rdB ?_ ?_); rfl) | (with_reducible refine rdbS ?_) | ((with_reducible refine rdBS ?_ ?_); rfl) | ((with_reducible refine stB ?_ ?_ ?_ ?_); rfl; rfl; exact one_all rfl) | ((with_reducible refine rdP _ rfl ?_ ?_); rfl) | ((with_reducible refine rdPS _ rfl ?_ ?_); rfl) | ((with_reducible refine stP _ rfl ?_ ?_ ?_ ?_); rfl; rfl; rfl) | (with_reducible refine And.intro ?_ ?_) | (simp only [Bool.not_true, Bool.not_false, Bool.and_self, Bool.true_and, Int.reduceBEq, Int.reduceBNe, Int.reduceLT, Int.reduceLE, decide_true, decide_false, Br_true, Br_false, Gd_tt, Gd_ft, Gd_tf, Gd_ff, beq_self_eq_true, bne_self_eq_false]) | (with_reducible refine gd_split (fun _ => ?_) (fun _ => ?_)) | (with_reducible refine br_split (fun _ => ?_) (fun _ => ?_)) | (simp only [Pv_some, fldV_p, nilV_p, nilV_f, lenV_s, capV_s, sLen, minV_i, maxV_i, strV_s, unV_not, unV_neg, pickV_t, pickV_f, exV_t, cvIV_i, binI_add, binI_sub, binI_mul, binI_eql, binI_neq, binI_lss, binI_leq, binI_gtr, binI_geq, binI_and, binI_or, binB_eql, binB_neq, sEq, sNe, sLt, sLe, sGt, sGe, stampEq, stampNe, fldv_agg, fldv_one, binP_eql_nil, binP_neq_nil, binN_eql_nil, binN_neq_nil, binN_eql_nn, binN_neq_nn, Br_true, Br_false, Gd_tt, Gd_ft, Gd_tf, Gd_ff, cells_agg, List.getElem?_toArray, List.getElem?_cons_zero, List.getElem?_cons_succ, Nat.zero_add, Nat.add_zero, Nat.zero_mul, List.drop_succ_cons, List.drop_zero, List.take_succ_cons, List.take_zero, List.nil_append, List.cons_append, Nat.reduceAdd, List.drop_nil, List.take_nil, bld_1, bld_2, bld_3, bld_4, bld_5, bld_6, bld_7, bld_8, bld_9, bld_10, bld_11, bld_12, bld_13, bld_14, bld_15, bld_16, bld_17, bld_18]))
  refine callG (Cal.split XL (add_spec h1 hw.wf hd hdl (by have := hw.len; omega) (fun XL' I1 hI1 hL' => ?_)))
  have hwa := hw.add hE k d
  have hgg : (addG r.g r.term k d).2.1 ≠ 0 → (addG r.g r.term k d).2.2 = r.g := fun h => by
    unfold addG at h ⊢; split
    · rename_i hh; rw [if_pos hh] at h; exact absurd rfl h
    · rfl
  have e : addF r k d = if (addG r.g r.term k d).2.1 ≠ 0 then (0, (addG r.g r.term k d).2.1, r) else ((addG r.g r.term k d).1, 0, sendAllF (commitF { r with g := (addG r.g r.term k d).2.2 }).2) := rfl
  rw [e] at hk
  generalize addG r.g r.term k d = a at *
  have h2' := h2.mono hI1
  have h4' := h4.imp fun _ _ h => h.mono hI1
  refine Gh.pick b (XL' ++ (XO ++ F)) (Gh.done ?_)
  try simp only [Pv_some, fldV_p, nilV_p, nilV_f, lenV_s, capV_s, sLen, minV_i, maxV_i, strV_s, unV_not, unV_neg, pickV_t, pickV_f, exV_t, cvIV_i, binI_add, binI_sub, binI_mul, binI_eql, binI_neq, binI_lss, binI_leq, binI_gtr, binI_geq, binI_and, binI_or, binB_eql, binB_neq, sEq, sNe, sLt, sLe, sGt, sGe, stampEq, stampNe, fldv_agg, fldv_one, binP_eql_nil, binP_neq_nil, binN_eql_nil, binN_neq_nil, binN_eql_nn, binN_neq_nn, Br_true, Br_false, Gd_tt, Gd_ft, Gd_tf, Gd_ff, cells_agg, List.getElem?_toArray, List.getElem?_cons_zero, List.getElem?_cons_succ, Nat.zero_add, Nat.add_zero, Nat.zero_mul, List.drop_succ_cons, List.drop_zero, List.take_succ_cons, List.take_zero, List.nil_append, List.cons_append, Nat.reduceAdd, List.drop_nil, List.take_nil, bld_1, bld_2, bld_3, bld_4, bld_5, bld_6, bld_7, bld_8, bld_9, bld_10, bld_11, bld_12, bld_13, bld_14, bld_15, bld_16, bld_17, bld_18]
  refine br_split (fun he => ?_) (fun he => ?_)
  · have he : a.2.1 ≠ 0 := by simpa using he
    rw [if_pos he] at hk
    simp only [ho, takeF_nil ho] at hk
    rw [hgg he] at hL'
    exact raft_end (r := r) (F := F) z0 z1 z2 (fun X' h' => hk X' _ I1 hI1 (RL.nil _ _) h') hL' h2' h3 h4' rfl
  · have he : ¬ a.2.1 ≠ 0 := by simpa using he
    rw [if_neg he] at hk
    refine call (raft_cal (r := { r with g := a.2.2 }) b F z0 z1 z2 hL' h2' h3 h4' rfl (fun X hX => ?_))
    refine commit_specR hX hwa (fun X' I2 hI2 hX' => ?_)
    refine call (sendAll_spec hX' hwa.commit (by rw [commit_out]; simp only; omega) (fun X2 I3 hI3 hX2 => ?_))
    refine call (take_spec hX2 (fun X3 v I4 hI4 hv hX3 => ?_))
    exact Gh.done (hk X3 v I4 (((hI1.trans hI2).trans hI3).trans hI4) hv hX3)

theorem propose_spec {b E B : Nat} {X F : LH} {r : RF} {dv : Value} {d : List UInt8} (h : RaftR I b X r) (hw : RWF E B r) (hE : (E + 1) * 48 ≤ 150000000000000) (ho : r.out = []) (hd : Bytes I dv d) (hdl : d.length ≤ 140737488355328)
    (hk : ∀ X' v I', Ext I I' → Msgs I' [] v (proposeF r d).2.2.out → RaftR I' b X' (takeF (proposeF r d).2.2) → K (.tuple #[.int .i64 (proposeF r d).1, v, .int .i64 (proposeF r d).2.1]) I' (X' ++ F)) :
    Cal Try.prog ω 41 #[.pointer (some ⟨b, 0, none⟩), dv] K I (X ++ F) := by
  have hX := h
  obtain ⟨lb, XL, XO, stv, ov, z0, z1, z2, oc, rfl, h1, h2, h3, h4⟩ := h
  refine cal41 ?_
  unfold sh41
  simp only [List.cons_append, List.append_assoc, Pv_some, fldV_p, nilV_p, nilV_f, lenV_s, capV_s, sLen, minV_i, maxV_i, strV_s, unV_not, unV_neg, pickV_t, pickV_f, exV_t, cvIV_i, binI_add, binI_sub, binI_mul, binI_eql, binI_neq, binI_lss, binI_leq, binI_gtr, binI_geq, binI_and, binI_or, binB_eql, binB_neq, sEq, sNe, sLt, sLe, sGt, sGe, stampEq, stampNe, fldv_agg, fldv_one, binP_eql_nil, binP_neq_nil, binN_eql_nil, binN_neq_nil, binN_eql_nn, binN_neq_nn, Br_true, Br_false, Gd_tt, Gd_ft, Gd_tf, Gd_ff, cells_agg, List.getElem?_toArray, List.getElem?_cons_zero, List.getElem?_cons_succ, Nat.zero_add, Nat.add_zero, Nat.zero_mul, List.drop_succ_cons, List.drop_zero, List.take_succ_cons, List.take_zero, List.nil_append, List.cons_append, Nat.reduceAdd, List.drop_nil, List.take_nil, bld_1, bld_2, bld_3, bld_4, bld_5, bld_6, bld_7, bld_8, bld_9, bld_10, bld_11, bld_12, bld_13, bld_14, bld_15, bld_16, bld_17, bld_18]
  refine rdb ?_
  try simp only [Pv_some, fldV_p, nilV_p, nilV_f, lenV_s, capV_s, sLen, minV_i, maxV_i, strV_s, unV_not, unV_neg, pickV_t, pickV_f, exV_t, cvIV_i, binI_add, binI_sub, binI_mul, binI_eql, binI_neq, binI_lss, binI_leq, binI_gtr, binI_geq, binI_and, binI_or, binB_eql, binB_neq, sEq, sNe, sLt, sLe, sGt, sGe, stampEq, stampNe, fldv_agg, fldv_one, binP_eql_nil, binP_neq_nil, binN_eql_nil, binN_neq_nil, binN_eql_nn, binN_neq_nn, Br_true, Br_false, Gd_tt, Gd_ft, Gd_tf, Gd_ff, cells_agg, List.getElem?_toArray, List.getElem?_cons_zero, List.getElem?_cons_succ, Nat.zero_add, Nat.add_zero, Nat.zero_mul, List.drop_succ_cons, List.drop_zero, List.take_succ_cons, List.take_zero, List.nil_append, List.cons_append, Nat.reduceAdd, List.drop_nil, List.take_nil, bld_1, bld_2, bld_3, bld_4, bld_5, bld_6, bld_7, bld_8, bld_9, bld_10, bld_11, bld_12, bld_13, bld_14, bld_15, bld_16, bld_17, bld_18]
  refine br_split (fun h3' => ?_) (fun h3' => ?_)
  · have h3' : r.role ≠ 3 := by simpa using h3'
    rw [proposeF, if_pos h3'] at hk
    simp only [ho, takeF_nil ho] at hk
    exact raft_end (r := r) (F := F) z0 z1 z2 (fun X' h' => hk X' _ I (Ext.refl I) (RL.nil _ _) h') h1 h2 h3 h4 rfl
  · have h3' : ¬ r.role ≠ 3 := by simpa using h3'
    rw [proposeF, if_neg h3'] at hk
    refine call (raft_cal (r := r) b F z0 z1 z2 h1 h2 h3 h4 rfl (fun X hX => ?_))
    refine addc_spec hX hw hE ho hd hdl (fun X' v I1 hI1 hv hX' => ?_)
    try simp only [Pv_some, fldV_p, nilV_p, nilV_f, lenV_s, capV_s, sLen, minV_i, maxV_i, strV_s, unV_not, unV_neg, pickV_t, pickV_f, exV_t, cvIV_i, binI_add, binI_sub, binI_mul, binI_eql, binI_neq, binI_lss, binI_leq, binI_gtr, binI_geq, binI_and, binI_or, binB_eql, binB_neq, sEq, sNe, sLt, sLe, sGt, sGe, stampEq, stampNe, fldv_agg, fldv_one, binP_eql_nil, binP_neq_nil, binN_eql_nil, binN_neq_nil, binN_eql_nn, binN_neq_nn, Br_true, Br_false, Gd_tt, Gd_ft, Gd_tf, Gd_ff, cells_agg, List.getElem?_toArray, List.getElem?_cons_zero, List.getElem?_cons_succ, Nat.zero_add, Nat.add_zero, Nat.zero_mul, List.drop_succ_cons, List.drop_zero, List.take_succ_cons, List.take_zero, List.nil_append, List.cons_append, Nat.reduceAdd, List.drop_nil, List.take_nil, bld_1, bld_2, bld_3, bld_4, bld_5, bld_6, bld_7, bld_8, bld_9, bld_10, bld_11, bld_12, bld_13, bld_14, bld_15, bld_16, bld_17, bld_18]
    exact Gh.done (hk X' v I1 hI1 hv hX')

theorem unlike_spec {av bv : Value} {l k : List Int} (ha : Ints I av l) (hb : Ints I bv k) (hla : l.length < 4611686018427387904) (hlb : k.length < 4611686018427387904) (hk : K (.int .i64 (unlikeL l k)) I L) : Cal Try.prog ω 100 #[av, bv] K I L := by
  refine cal100 ?_
  unfold sh100
  refine loop (fun m s I' L' => I' = I ∧ L' = L ∧ ∃ j : Nat, j + m = 5 ∧ s = (.int .i64 ((([1, 2, 3, 4, 5] : List Int).take j).filter fun p : Int => l.contains p != k.contains p).length, .int .i64 (j + 1), ())) 5 ⟨rfl, rfl, 0, by omega, rfl⟩ ?_
  rintro m s I' L' ⟨rfl, rfl, j, hj, rfl⟩
  unfold sh100_3
  try simp only [Pv_some, fldV_p, nilV_p, nilV_f, lenV_s, capV_s, sLen, minV_i, maxV_i, strV_s, unV_not, unV_neg, pickV_t, pickV_f, exV_t, cvIV_i, binI_add, binI_sub, binI_mul, binI_eql, binI_neq, binI_lss, binI_leq, binI_gtr, binI_geq, binI_and, binI_or, binB_eql, binB_neq, sEq, sNe, sLt, sLe, sGt, sGe, stampEq, stampNe, fldv_agg, fldv_one, binP_eql_nil, binP_neq_nil, binN_eql_nil, binN_neq_nil, binN_eql_nn, binN_neq_nn, Br_true, Br_false, Gd_tt, Gd_ft, Gd_tf, Gd_ff, cells_agg, List.getElem?_toArray, List.getElem?_cons_zero, List.getElem?_cons_succ, Nat.zero_add, Nat.add_zero, Nat.zero_mul, List.drop_succ_cons, List.drop_zero, List.take_succ_cons, List.take_zero, List.nil_append, List.cons_append, Nat.reduceAdd, List.drop_nil, List.take_nil, bld_1, bld_2, bld_3, bld_4, bld_5, bld_6, bld_7, bld_8, bld_9, bld_10, bld_11, bld_12, bld_13, bld_14, bld_15, bld_16, bld_17, bld_18]
  refine br_split (fun hlt => ?_) (fun hlt => ?_)
  · simp at hlt
    refine call (contains_spec ha hla ?_)
    refine call (contains_spec hb hlb ?_)
    try simp only [Pv_some, fldV_p, nilV_p, nilV_f, lenV_s, capV_s, sLen, minV_i, maxV_i, strV_s, unV_not, unV_neg, pickV_t, pickV_f, exV_t, cvIV_i, binI_add, binI_sub, binI_mul, binI_eql, binI_neq, binI_lss, binI_leq, binI_gtr, binI_geq, binI_and, binI_or, binB_eql, binB_neq, sEq, sNe, sLt, sLe, sGt, sGe, stampEq, stampNe, fldv_agg, fldv_one, binP_eql_nil, binP_neq_nil, binN_eql_nil, binN_neq_nil, binN_eql_nn, binN_neq_nn, Br_true, Br_false, Gd_tt, Gd_ft, Gd_tf, Gd_ff, cells_agg, List.getElem?_toArray, List.getElem?_cons_zero, List.getElem?_cons_succ, Nat.zero_add, Nat.add_zero, Nat.zero_mul, List.drop_succ_cons, List.drop_zero, List.take_succ_cons, List.take_zero, List.nil_append, List.cons_append, Nat.reduceAdd, List.drop_nil, List.take_nil, bld_1, bld_2, bld_3, bld_4, bld_5, bld_6, bld_7, bld_8, bld_9, bld_10, bld_11, bld_12, bld_13, bld_14, bld_15, bld_16, bld_17, bld_18]
    unfold sh100_4
    have hc : j = 0 ∨ j = 1 ∨ j = 2 ∨ j = 3 ∨ j = 4 := by omega
    have hfl := List.length_filter_le (fun p : Int => l.contains p != k.contains p) (([1, 2, 3, 4, 5] : List Int).take j)
    rw [List.length_take] at hfl
    have hts : ([1, 2, 3, 4, 5] : List Int).take (j + 1) = ([1, 2, 3, 4, 5] : List Int).take j ++ [((j : Int) + 1)] := by
      rcases hc with rfl | rfl | rfl | rfl | rfl <;> rfl
    refine br_split (fun hq => ?_) (fun hq => ?_)
    · simp only [Pv_some, fldV_p, nilV_p, nilV_f, lenV_s, capV_s, sLen, minV_i, maxV_i, strV_s, unV_not, unV_neg, pickV_t, pickV_f, exV_t, cvIV_i, binI_add, binI_sub, binI_mul, binI_eql, binI_neq, binI_lss, binI_leq, binI_gtr, binI_geq, binI_and, binI_or, binB_eql, binB_neq, sEq, sNe, sLt, sLe, sGt, sGe, stampEq, stampNe, fldv_agg, fldv_one, binP_eql_nil, binP_neq_nil, binN_eql_nil, binN_neq_nil, binN_eql_nn, binN_neq_nn, Br_true, Br_false, Gd_tt, Gd_ft, Gd_tf, Gd_ff, cells_agg, List.getElem?_toArray, List.getElem?_cons_zero, List.getElem?_cons_succ, Nat.zero_add, Nat.add_zero, Nat.zero_mul, List.drop_succ_cons, List.drop_zero, List.take_succ_cons, List.take_zero, List.nil_append, List.cons_append, Nat.reduceAdd, List.drop_nil, List.take_nil, bld_1, bld_2, bld_3, bld_4, bld_5, bld_6, bld_7, bld_8, bld_9, bld_10, bld_11, bld_12, bld_13, bld_14, bld_15, bld_16, bld_17, bld_18, wrap_i64 ((j : Int) + 1 + 1) (by omega), wrap_i64 (((([1, 2, 3, 4, 5] : List Int).take j).filter fun p : Int => l.contains p != k.contains p).length + 1) (by omega)]
      refine Gh.done ⟨m - 1, by omega, rfl, rfl, j + 1, by omega, ?_⟩
      rw [hts, List.filter_append, List.length_append, List.filter_cons_of_pos (by simpa using hq)]
      simp
    · simp only [Pv_some, fldV_p, nilV_p, nilV_f, lenV_s, capV_s, sLen, minV_i, maxV_i, strV_s, unV_not, unV_neg, pickV_t, pickV_f, exV_t, cvIV_i, binI_add, binI_sub, binI_mul, binI_eql, binI_neq, binI_lss, binI_leq, binI_gtr, binI_geq, binI_and, binI_or, binB_eql, binB_neq, sEq, sNe, sLt, sLe, sGt, sGe, stampEq, stampNe, fldv_agg, fldv_one, binP_eql_nil, binP_neq_nil, binN_eql_nil, binN_neq_nil, binN_eql_nn, binN_neq_nn, Br_true, Br_false, Gd_tt, Gd_ft, Gd_tf, Gd_ff, cells_agg, List.getElem?_toArray, List.getElem?_cons_zero, List.getElem?_cons_succ, Nat.zero_add, Nat.add_zero, Nat.zero_mul, List.drop_succ_cons, List.drop_zero, List.take_succ_cons, List.take_zero, List.nil_append, List.cons_append, Nat.reduceAdd, List.drop_nil, List.take_nil, bld_1, bld_2, bld_3, bld_4, bld_5, bld_6, bld_7, bld_8, bld_9, bld_10, bld_11, bld_12, bld_13, bld_14, bld_15, bld_16, bld_17, bld_18, wrap_i64 ((j : Int) + 1 + 1) (by omega)]
      refine Gh.done ⟨m - 1, by omega, rfl, rfl, j + 1, by omega, ?_⟩
      rw [hts, List.filter_append, List.length_append, List.filter_cons_of_neg (by simpa using hq)]
      simp
  · simp at hlt
    obtain rfl : j = 5 := by omega
    exact Gh.done hk
end
end Go.Proofs.Ytdcpeboecmkmlaa
