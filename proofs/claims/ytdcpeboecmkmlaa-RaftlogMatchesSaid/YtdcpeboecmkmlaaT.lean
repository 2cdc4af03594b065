/-
  A step of a script, both ways; a log and any script.
-/
import Derived.Test.YtdcpeboecmkmlaaS
set_option linter.unusedSimpArgs false
set_option linter.unusedVariables false
namespace Go.Proofs.Ytdcpeboecmkmlaa
open Go.SL
set_option maxRecDepth 10000

section
variable {ω : Om} {I : Imm} {L : LH} {K : Value → M}

theorem le48 {a b c : Nat} (h : b * 48 ≤ c) (hab : a ≤ b) : a * 48 ≤ c := Nat.le_trans (Nat.mul_le_mul_right 48 hab) h
set_option maxHeartbeats 1000000 in
theorem play_spec {b c n : Nat} {X Y F : LH} {g : LG} {s : Stp} {cs : List Value} (hR : LogR I b X g) (hQ : LogQ I c Y g) (hw : WF g) (hs : StpV n I s cs) (hn : n ≤ 140737488355328) (hlen : (g.es.length + s.ents.length + 1) * 48 ≤ 140737488355328)
    (hk : ∀ X' Y' I' g', Ext I I' → LogR I' b X' g' → LogQ I' c Y' g' → WF g' → g'.es.length ≤ g.es.length + s.ents.length + 1 → K (.bool true) I' (X' ++ (Y' ++ F))) :
    Cal Try.prog ω 32 #[.pointer (some ⟨b, 0, none⟩), .pointer (some ⟨c, 0, none⟩), .agg cs.toArray] K I (X ++ (Y ++ F)) := by
  obtain ⟨dv, ev, mv, rfl, hd, he, hm, ⟨i1, i2, i3⟩, n1, n2⟩ := hs
  have hdl : s.data.length ≤ 140737488355328 := by omega
  have hl1 : (g.es.length + 1) * 48 ≤ 140737488355328 := le48 hlen (by omega)
  have hl2 : (g.es.length + s.ents.length) * 48 ≤ 140737488355328 := le48 hlen (by omega)
  clear hlen
  refine cal32 ?_
  unfold sh32
  refine newI (fun b1 => ?_)
  try simp only [Pv_some, fldV_p, nilV_p, nilV_f, lenV_s, capV_s, lenSV_s, minV_i, maxV_i, strV_s, unV_not, unV_neg, pickV_t, pickV_f, exV_t, cvIV_i, binI_add, binI_sub, binI_mul, binI_eql, binI_neq, binI_lss, binI_leq, binI_gtr, binI_geq, binI_and, binI_or, binB_eql, binB_neq, binS_eql, binS_neq, binP_eql_nil, binP_neq_nil, binN_eql_nil, binN_neq_nil, binN_eql_nn, binN_neq_nn, Br_true, Br_false, Gd_tt, Gd_ft, Gd_tf, Gd_ff, cells_agg, List.getElem?_toArray, List.getElem?_cons_zero, List.getElem?_cons_succ, Nat.zero_add, Nat.add_zero, Nat.zero_mul]
  refine rdb ?_
  try simp only [Pv_some, fldV_p, nilV_p, nilV_f, lenV_s, capV_s, lenSV_s, minV_i, maxV_i, strV_s, unV_not, unV_neg, pickV_t, pickV_f, exV_t, cvIV_i, binI_add, binI_sub, binI_mul, binI_eql, binI_neq, binI_lss, binI_leq, binI_gtr, binI_geq, binI_and, binI_or, binB_eql, binB_neq, binS_eql, binS_neq, binP_eql_nil, binP_neq_nil, binN_eql_nil, binN_neq_nil, binN_eql_nn, binN_neq_nn, Br_true, Br_false, Gd_tt, Gd_ft, Gd_tf, Gd_ff, cells_agg, List.getElem?_toArray, List.getElem?_cons_zero, List.getElem?_cons_succ, Nat.zero_add, Nat.add_zero, Nat.zero_mul]
  have hVR : ∀ {J : Imm}, Ext I J → LogV J ((b1, Obj.cells #[.int .i64 s.d, .int .i64 s.a, .int .i64 s.b, .int .i64 s.c, dv, ev, mv] 43 (0, 0)) :: (X ++ (Y ++ F))) b g := fun hJ => (hR.mono hJ).view
  have hVQ : ∀ {J : Imm}, Ext I J → LogV J ((b1, Obj.cells #[.int .i64 s.d, .int .i64 s.a, .int .i64 s.b, .int .i64 s.c, dv, ev, mv] 43 (0, 0)) :: (X ++ (Y ++ F))) c g := fun hJ => (hQ.mono hJ).view
  have stay : ∀ {J : Imm}, Ext I J → K (.bool true) J (X ++ (Y ++ F)) := fun hJ => hk X Y _ g hJ (hR.mono hJ) (hQ.mono hJ) hw (by omega)
  refine br_split (fun h0 => ?_) (fun h0 => ?_)
  · refine rdb ?_
    refine rdb ?_
    refine rdb ?_
    refine call (Cal.split X ?_)
    refine add_spec hR hw hd hdl hl1 (fun X1 I1 hI1 hR1 => ?_)
    try simp only [Pv_some, fldV_p, nilV_p, nilV_f, lenV_s, capV_s, lenSV_s, minV_i, maxV_i, strV_s, unV_not, unV_neg, pickV_t, pickV_f, exV_t, cvIV_i, binI_add, binI_sub, binI_mul, binI_eql, binI_neq, binI_lss, binI_leq, binI_gtr, binI_geq, binI_and, binI_or, binB_eql, binB_neq, binS_eql, binS_neq, binP_eql_nil, binP_neq_nil, binN_eql_nil, binN_neq_nil, binN_eql_nn, binN_neq_nn, Br_true, Br_false, Gd_tt, Gd_ft, Gd_tf, Gd_ff, cells_agg, List.getElem?_toArray, List.getElem?_cons_zero, List.getElem?_cons_succ, Nat.zero_add, Nat.add_zero, Nat.zero_mul]
    refine rdb ?_
    refine rdb ?_
    refine rdb ?_
    refine call (Cal.split Y ?_)
    refine radd_spec (hQ.mono hI1) hw (hd.mono hI1) hl1 (fun Y2 I2 hI2 hQ2 => ?_)
    simp only [Pv_some, fldV_p, nilV_p, nilV_f, lenV_s, capV_s, lenSV_s, minV_i, maxV_i, strV_s, unV_not, unV_neg, pickV_t, pickV_f, exV_t, cvIV_i, binI_add, binI_sub, binI_mul, binI_eql, binI_neq, binI_lss, binI_leq, binI_gtr, binI_geq, binI_and, binI_or, binB_eql, binB_neq, binS_eql, binS_neq, binP_eql_nil, binP_neq_nil, binN_eql_nil, binN_neq_nil, binN_eql_nn, binN_neq_nn, Br_true, Br_false, Gd_tt, Gd_ft, Gd_tf, Gd_ff, cells_agg, List.getElem?_toArray, List.getElem?_cons_zero, List.getElem?_cons_succ, Nat.zero_add, Nat.add_zero, Nat.zero_mul, beq_self_eq_true]
    have := add_len g s.b s.c s.data
    exact Gh.to (X1 ++ (Y2 ++ F)) (Gh.done (hk X1 Y2 I2 _ (hI1.trans hI2) (hR1.mono hI2) hQ2 (add_wf hw hl1) (by omega)))
  refine br_split (fun h1 => ?_) (fun h1 => ?_)
  · refine rdb ?_
    refine rdb ?_
    refine rdb ?_
    refine call (Cal.split X ?_)
    refine offer_spec hR hw he i1 hl2 (fun X1 I1 hI1 hR1 => ?_)
    try simp only [Pv_some, fldV_p, nilV_p, nilV_f, lenV_s, capV_s, lenSV_s, minV_i, maxV_i, strV_s, unV_not, unV_neg, pickV_t, pickV_f, exV_t, cvIV_i, binI_add, binI_sub, binI_mul, binI_eql, binI_neq, binI_lss, binI_leq, binI_gtr, binI_geq, binI_and, binI_or, binB_eql, binB_neq, binS_eql, binS_neq, binP_eql_nil, binP_neq_nil, binN_eql_nil, binN_neq_nil, binN_eql_nn, binN_neq_nn, Br_true, Br_false, Gd_tt, Gd_ft, Gd_tf, Gd_ff, cells_agg, List.getElem?_toArray, List.getElem?_cons_zero, List.getElem?_cons_succ, Nat.zero_add, Nat.add_zero, Nat.zero_mul]
    refine rdb ?_
    refine rdb ?_
    refine rdb ?_
    refine call (Cal.split Y ?_)
    refine roffer_spec (hQ.mono hI1) hw (Ents.to he hI1) hl2 (fun Y2 I2 hI2 hQ2 => ?_)
    simp only [Pv_some, fldV_p, nilV_p, nilV_f, lenV_s, capV_s, lenSV_s, minV_i, maxV_i, strV_s, unV_not, unV_neg, pickV_t, pickV_f, exV_t, cvIV_i, binI_add, binI_sub, binI_mul, binI_eql, binI_neq, binI_lss, binI_leq, binI_gtr, binI_geq, binI_and, binI_or, binB_eql, binB_neq, binS_eql, binS_neq, binP_eql_nil, binP_neq_nil, binN_eql_nil, binN_neq_nil, binN_eql_nn, binN_neq_nn, Br_true, Br_false, Gd_tt, Gd_ft, Gd_tf, Gd_ff, cells_agg, List.getElem?_toArray, List.getElem?_cons_zero, List.getElem?_cons_succ, Nat.zero_add, Nat.add_zero, Nat.zero_mul, beq_self_eq_true]
    have := offer_len g s.a s.b s.ents
    exact Gh.to (X1 ++ (Y2 ++ F)) (Gh.done (hk X1 Y2 I2 _ (hI1.trans hI2) (hR1.mono hI2) hQ2 (offer_wf hw hl2) (by omega)))
  refine br_split (fun h2 => ?_) (fun h2 => ?_)
  · refine rdb ?_
    refine call (Cal.split X ?_)
    refine settle_spec hR hw (fun X1 hR1 => ?_)
    try simp only [Pv_some, fldV_p, nilV_p, nilV_f, lenV_s, capV_s, lenSV_s, minV_i, maxV_i, strV_s, unV_not, unV_neg, pickV_t, pickV_f, exV_t, cvIV_i, binI_add, binI_sub, binI_mul, binI_eql, binI_neq, binI_lss, binI_leq, binI_gtr, binI_geq, binI_and, binI_or, binB_eql, binB_neq, binS_eql, binS_neq, binP_eql_nil, binP_neq_nil, binN_eql_nil, binN_neq_nil, binN_eql_nn, binN_neq_nn, Br_true, Br_false, Gd_tt, Gd_ft, Gd_tf, Gd_ff, cells_agg, List.getElem?_toArray, List.getElem?_cons_zero, List.getElem?_cons_succ, Nat.zero_add, Nat.add_zero, Nat.zero_mul]
    refine rdb ?_
    refine call (Cal.split Y ?_)
    refine rsettle_spec hQ hw (fun Y2 hQ2 => ?_)
    simp only [Pv_some, fldV_p, nilV_p, nilV_f, lenV_s, capV_s, lenSV_s, minV_i, maxV_i, strV_s, unV_not, unV_neg, pickV_t, pickV_f, exV_t, cvIV_i, binI_add, binI_sub, binI_mul, binI_eql, binI_neq, binI_lss, binI_leq, binI_gtr, binI_geq, binI_and, binI_or, binB_eql, binB_neq, binS_eql, binS_neq, binP_eql_nil, binP_neq_nil, binN_eql_nil, binN_neq_nil, binN_eql_nn, binN_neq_nn, Br_true, Br_false, Gd_tt, Gd_ft, Gd_tf, Gd_ff, cells_agg, List.getElem?_toArray, List.getElem?_cons_zero, List.getElem?_cons_succ, Nat.zero_add, Nat.add_zero, Nat.zero_mul, beq_self_eq_true]
    have := settle_len g s.a
    exact Gh.to (X1 ++ (Y2 ++ F)) (Gh.done (hk X1 Y2 I _ (Ext.refl I) hR1 hQ2 (settle_wf hw) (by omega)))
  refine br_split (fun h3 => ?_) (fun h3 => ?_)
  · refine rdb ?_
    refine call (Cal.split X ?_)
    refine cut_spec hR hw i1 (fun X1 I1 hI1 hR1 => ?_)
    try simp only [Pv_some, fldV_p, nilV_p, nilV_f, lenV_s, capV_s, lenSV_s, minV_i, maxV_i, strV_s, unV_not, unV_neg, pickV_t, pickV_f, exV_t, cvIV_i, binI_add, binI_sub, binI_mul, binI_eql, binI_neq, binI_lss, binI_leq, binI_gtr, binI_geq, binI_and, binI_or, binB_eql, binB_neq, binS_eql, binS_neq, binP_eql_nil, binP_neq_nil, binN_eql_nil, binN_neq_nil, binN_eql_nn, binN_neq_nn, Br_true, Br_false, Gd_tt, Gd_ft, Gd_tf, Gd_ff, cells_agg, List.getElem?_toArray, List.getElem?_cons_zero, List.getElem?_cons_succ, Nat.zero_add, Nat.add_zero, Nat.zero_mul]
    refine rdb ?_
    refine call (Cal.split Y ?_)
    refine rcut_spec (hQ.mono hI1) hw i1 (fun Y2 I2 hI2 hQ2 => ?_)
    simp only [Pv_some, fldV_p, nilV_p, nilV_f, lenV_s, capV_s, lenSV_s, minV_i, maxV_i, strV_s, unV_not, unV_neg, pickV_t, pickV_f, exV_t, cvIV_i, binI_add, binI_sub, binI_mul, binI_eql, binI_neq, binI_lss, binI_leq, binI_gtr, binI_geq, binI_and, binI_or, binB_eql, binB_neq, binS_eql, binS_neq, binP_eql_nil, binP_neq_nil, binN_eql_nil, binN_neq_nil, binN_eql_nn, binN_neq_nn, Br_true, Br_false, Gd_tt, Gd_ft, Gd_tf, Gd_ff, cells_agg, List.getElem?_toArray, List.getElem?_cons_zero, List.getElem?_cons_succ, Nat.zero_add, Nat.add_zero, Nat.zero_mul, beq_self_eq_true]
    have := cut_len g s.a
    exact Gh.to (X1 ++ (Y2 ++ F)) (Gh.done (hk X1 Y2 I2 _ (hI1.trans hI2) (hR1.mono hI2) hQ2 (cut_wf hw) (by omega)))
  refine br_split (fun h4 => ?_) (fun h4 => ?_)
  · refine rdb ?_
    refine rdb ?_
    refine rdb ?_
    have hm' := hm
    obtain ⟨am, cm, rfl⟩ := Ints.form hm'
    simp only [bldP, Pv_some, fldV_p, nilV_p, nilV_f, lenV_s, capV_s, lenSV_s, minV_i, maxV_i, strV_s, unV_not, unV_neg, pickV_t, pickV_f, exV_t, cvIV_i, binI_add, binI_sub, binI_mul, binI_eql, binI_neq, binI_lss, binI_leq, binI_gtr, binI_geq, binI_and, binI_or, binB_eql, binB_neq, binS_eql, binS_neq, binP_eql_nil, binP_neq_nil, binN_eql_nil, binN_neq_nil, binN_eql_nn, binN_neq_nn, Br_true, Br_false, Gd_tt, Gd_ft, Gd_tf, Gd_ff, cells_agg, List.getElem?_toArray, List.getElem?_cons_zero, List.getElem?_cons_succ, Nat.zero_add, Nat.add_zero, Nat.zero_mul]
    refine call (Cal.split X ?_)
    refine reset_spec hR hw hm i1 (fun X1 I1 hI1 hR1 => ?_)
    try simp only [Pv_some, fldV_p, nilV_p, nilV_f, lenV_s, capV_s, lenSV_s, minV_i, maxV_i, strV_s, unV_not, unV_neg, pickV_t, pickV_f, exV_t, cvIV_i, binI_add, binI_sub, binI_mul, binI_eql, binI_neq, binI_lss, binI_leq, binI_gtr, binI_geq, binI_and, binI_or, binB_eql, binB_neq, binS_eql, binS_neq, binP_eql_nil, binP_neq_nil, binN_eql_nil, binN_neq_nil, binN_eql_nn, binN_neq_nn, Br_true, Br_false, Gd_tt, Gd_ft, Gd_tf, Gd_ff, cells_agg, List.getElem?_toArray, List.getElem?_cons_zero, List.getElem?_cons_succ, Nat.zero_add, Nat.add_zero, Nat.zero_mul]
    refine rdb ?_
    refine rdb ?_
    refine rdb ?_
    refine call (Cal.split Y ?_)
    refine rreset_spec (hQ.mono hI1) hw (hm.mono hI1) i1 (fun Y2 I2 hI2 hQ2 => ?_)
    simp only [Pv_some, fldV_p, nilV_p, nilV_f, lenV_s, capV_s, lenSV_s, minV_i, maxV_i, strV_s, unV_not, unV_neg, pickV_t, pickV_f, exV_t, cvIV_i, binI_add, binI_sub, binI_mul, binI_eql, binI_neq, binI_lss, binI_leq, binI_gtr, binI_geq, binI_and, binI_or, binB_eql, binB_neq, binS_eql, binS_neq, binP_eql_nil, binP_neq_nil, binN_eql_nil, binN_neq_nil, binN_eql_nn, binN_neq_nn, Br_true, Br_false, Gd_tt, Gd_ft, Gd_tf, Gd_ff, cells_agg, List.getElem?_toArray, List.getElem?_cons_zero, List.getElem?_cons_succ, Nat.zero_add, Nat.add_zero, Nat.zero_mul, beq_self_eq_true]
    have := reset_len g s.a s.b s.mem
    exact Gh.to (X1 ++ (Y2 ++ F)) (Gh.done (hk X1 Y2 I2 _ (hI1.trans hI2) (hR1.mono hI2) hQ2 (reset_wf hw) (by omega)))
  refine br_split (fun h5 => ?_) (fun h5 => ?_)
  · refine rdb ?_
    refine call (term_spec (hVR (Ext.refl I)) hw i1 ?_)
    try simp only [Pv_some, fldV_p, nilV_p, nilV_f, lenV_s, capV_s, lenSV_s, minV_i, maxV_i, strV_s, unV_not, unV_neg, pickV_t, pickV_f, exV_t, cvIV_i, binI_add, binI_sub, binI_mul, binI_eql, binI_neq, binI_lss, binI_leq, binI_gtr, binI_geq, binI_and, binI_or, binB_eql, binB_neq, binS_eql, binS_neq, binP_eql_nil, binP_neq_nil, binN_eql_nil, binN_neq_nil, binN_eql_nn, binN_neq_nn, Br_true, Br_false, Gd_tt, Gd_ft, Gd_tf, Gd_ff, cells_agg, List.getElem?_toArray, List.getElem?_cons_zero, List.getElem?_cons_succ, Nat.zero_add, Nat.add_zero, Nat.zero_mul]
    refine rdb ?_
    refine call (rterm_spec (hVQ (Ext.refl I)) hw.sz i1 ?_)
    try simp only [Pv_some, fldV_p, nilV_p, nilV_f, lenV_s, capV_s, lenSV_s, minV_i, maxV_i, strV_s, unV_not, unV_neg, pickV_t, pickV_f, exV_t, cvIV_i, binI_add, binI_sub, binI_mul, binI_eql, binI_neq, binI_lss, binI_leq, binI_gtr, binI_geq, binI_and, binI_or, binB_eql, binB_neq, binS_eql, binS_neq, binP_eql_nil, binP_neq_nil, binN_eql_nil, binN_neq_nil, binN_eql_nn, binN_neq_nn, Br_true, Br_false, Gd_tt, Gd_ft, Gd_tf, Gd_ff, cells_agg, List.getElem?_toArray, List.getElem?_cons_zero, List.getElem?_cons_succ, Nat.zero_add, Nat.add_zero, Nat.zero_mul]
    refine rdb ?_
    refine call (at_spec (hVR (Ext.refl I)) hw i1 (fun c1 I1 hI1 hc1 => ?_))
    have hc1' := hc1
    obtain ⟨dv1, rfl, hB1⟩ := hc1'
    obtain ⟨a1, cap1, rfl⟩ := hB1.form
    try simp only [Pv_some, fldV_p, nilV_p, nilV_f, lenV_s, capV_s, lenSV_s, minV_i, maxV_i, strV_s, unV_not, unV_neg, pickV_t, pickV_f, exV_t, cvIV_i, binI_add, binI_sub, binI_mul, binI_eql, binI_neq, binI_lss, binI_leq, binI_gtr, binI_geq, binI_and, binI_or, binB_eql, binB_neq, binS_eql, binS_neq, binP_eql_nil, binP_neq_nil, binN_eql_nil, binN_neq_nil, binN_eql_nn, binN_neq_nn, Br_true, Br_false, Gd_tt, Gd_ft, Gd_tf, Gd_ff, cells_agg, List.getElem?_toArray, List.getElem?_cons_zero, List.getElem?_cons_succ, Nat.zero_add, Nat.add_zero, Nat.zero_mul]
    refine newI (fun b2 => ?_)
    refine stB rfl rfl (one_all rfl) ?_
    refine rdb ?_
    refine call (rentryAt_spec (LogV.to (hVQ hI1) (Ext.refl _)) hw.sz i1 (fun c2 hc2 => ?_))
    have hc2' := hc2
    obtain ⟨dv2, rfl, hB2⟩ := hc2'
    obtain ⟨a2, cap2, rfl⟩ := hB2.form
    try simp only [Pv_some, fldV_p, nilV_p, nilV_f, lenV_s, capV_s, lenSV_s, minV_i, maxV_i, strV_s, unV_not, unV_neg, pickV_t, pickV_f, exV_t, cvIV_i, binI_add, binI_sub, binI_mul, binI_eql, binI_neq, binI_lss, binI_leq, binI_gtr, binI_geq, binI_and, binI_or, binB_eql, binB_neq, binS_eql, binS_neq, binP_eql_nil, binP_neq_nil, binN_eql_nil, binN_neq_nil, binN_eql_nn, binN_neq_nn, Br_true, Br_false, Gd_tt, Gd_ft, Gd_tf, Gd_ff, cells_agg, List.getElem?_toArray, List.getElem?_cons_zero, List.getElem?_cons_succ, Nat.zero_add, Nat.add_zero, Nat.zero_mul]
    refine newI (fun b3 => ?_)
    refine stB rfl rfl (one_all rfl) ?_
    refine rdb ?_
    refine call (membersAt_spec (LogV.to (hVR hI1) (Ext.refl _)) hw i1 (fun v3 I3 hI3 h3 => ?_))
    try simp only [Pv_some, fldV_p, nilV_p, nilV_f, lenV_s, capV_s, lenSV_s, minV_i, maxV_i, strV_s, unV_not, unV_neg, pickV_t, pickV_f, exV_t, cvIV_i, binI_add, binI_sub, binI_mul, binI_eql, binI_neq, binI_lss, binI_leq, binI_gtr, binI_geq, binI_and, binI_or, binB_eql, binB_neq, binS_eql, binS_neq, binP_eql_nil, binP_neq_nil, binN_eql_nil, binN_neq_nil, binN_eql_nn, binN_neq_nn, Br_true, Br_false, Gd_tt, Gd_ft, Gd_tf, Gd_ff, cells_agg, List.getElem?_toArray, List.getElem?_cons_zero, List.getElem?_cons_succ, Nat.zero_add, Nat.add_zero, Nat.zero_mul]
    refine rdb ?_
    refine call (rmembersAt_spec (LogV.to (hVQ (hI1.trans hI3)) (Ext.refl _)) hw i1 (fun v4 I4 hI4 h4 => ?_))
    try simp only [Pv_some, fldV_p, nilV_p, nilV_f, lenV_s, capV_s, lenSV_s, minV_i, maxV_i, strV_s, unV_not, unV_neg, pickV_t, pickV_f, exV_t, cvIV_i, binI_add, binI_sub, binI_mul, binI_eql, binI_neq, binI_lss, binI_leq, binI_gtr, binI_geq, binI_and, binI_or, binB_eql, binB_neq, binS_eql, binS_neq, binP_eql_nil, binP_neq_nil, binN_eql_nil, binN_neq_nil, binN_eql_nn, binN_neq_nn, Br_true, Br_false, Gd_tt, Gd_ft, Gd_tf, Gd_ff, cells_agg, List.getElem?_toArray, List.getElem?_cons_zero, List.getElem?_cons_succ, Nat.zero_add, Nat.add_zero, Nat.zero_mul]
    refine rdB rfl ?_
    refine one_ents (hc1.mono (hI3.trans hI4)) (fun u5 I5 hI5 hE5 => ?_)
    refine rdB rfl ?_
    refine one_ents (hc2.mono ((hI3.trans hI4).trans hI5)) (fun u6 I6 hI6 hE6 => ?_)
    refine call (sameents_spec (Ents.to hE5 hI6) (Ents.to hE6 (Ext.refl _)) (by simp) ?_)
    have hml : (mAt g s.a).1.length ≤ 5 := by
      unfold mAt
      split
      · rename_i hin
        have hk : (s.a - g.index).toNat ≤ g.es.length := by unfold lastI at hin; omega
        exact memB_len (memOf_ok hw.mem (fol_drop hw.fol hk).2)
      · simp
    refine call (sameints_spec (h3.mono ((hI4.trans hI5).trans hI6)) (h4.mono (hI5.trans hI6)) (by omega) ?_)
    simp only [Pv_some, fldV_p, nilV_p, nilV_f, lenV_s, capV_s, lenSV_s, minV_i, maxV_i, strV_s, unV_not, unV_neg, pickV_t, pickV_f, exV_t, cvIV_i, binI_add, binI_sub, binI_mul, binI_eql, binI_neq, binI_lss, binI_leq, binI_gtr, binI_geq, binI_and, binI_or, binB_eql, binB_neq, binS_eql, binS_neq, binP_eql_nil, binP_neq_nil, binN_eql_nil, binN_neq_nil, binN_eql_nn, binN_neq_nn, Br_true, Br_false, Gd_tt, Gd_ft, Gd_tf, Gd_ff, cells_agg, List.getElem?_toArray, List.getElem?_cons_zero, List.getElem?_cons_succ, Nat.zero_add, Nat.add_zero, Nat.zero_mul, beq_self_eq_true]
    exact Gh.to (X ++ (Y ++ F)) (Gh.done (stay ((((hI1.trans hI3).trans hI4).trans hI5).trans hI6)))
  refine br_split (fun h6 => ?_) (fun h6 => ?_)
  · refine rdb ?_
    refine rdb ?_
    refine call (slice_spec (hVR (Ext.refl I)) hw i1 i2 (fun v1 I1 hI1 hE1 => ?_))
    refine rdb ?_
    refine rdb ?_
    refine call (rslice_spec (hVQ hI1) hw.sz i1 i2 (fun v2 I2 hI2 hE2 => ?_))
    have hwl := hw.len
    refine call (sameents_spec (Ents.to hE1 hI2) (Ents.to hE2 (Ext.refl _)) (by
      unfold sliceAt
      split
      · rw [List.length_take, List.length_drop]; omega
      · simp) ?_)
    exact Gh.to (X ++ (Y ++ F)) (Gh.done (stay (hI1.trans hI2)))
  refine br_split (fun h7 => ?_) (fun h7 => ?_)
  · refine rdb ?_
    refine rdb ?_
    refine call (newer_spec (hVR (Ext.refl I)) hw ?_)
    refine rdb ?_
    refine rdb ?_
    refine call (rnewer_spec (hVQ (Ext.refl I)) hw ?_)
    simp only [Pv_some, fldV_p, nilV_p, nilV_f, lenV_s, capV_s, lenSV_s, minV_i, maxV_i, strV_s, unV_not, unV_neg, pickV_t, pickV_f, exV_t, cvIV_i, binI_add, binI_sub, binI_mul, binI_eql, binI_neq, binI_lss, binI_leq, binI_gtr, binI_geq, binI_and, binI_or, binB_eql, binB_neq, binS_eql, binS_neq, binP_eql_nil, binP_neq_nil, binN_eql_nil, binN_neq_nil, binN_eql_nn, binN_neq_nn, Br_true, Br_false, Gd_tt, Gd_ft, Gd_tf, Gd_ff, cells_agg, List.getElem?_toArray, List.getElem?_cons_zero, List.getElem?_cons_succ, Nat.zero_add, Nat.add_zero, Nat.zero_mul, beq_self_eq_true]
    exact Gh.to (X ++ (Y ++ F)) (Gh.done (stay (Ext.refl I)))
  · exact Gh.to (X ++ (Y ++ F)) (Gh.done (stay (Ext.refl I)))

/-- a script: steps whose lists have at most 'n' bytes -/
abbrev Script (n : Nat) (I : Imm) (v : Value) (ss : List Stp) : Prop := RL (StpV n) 7 I [] v ss
theorem Script.to {n : Nat} {I I' : Imm} {L' : LH} {v : Value} {ss : List Stp} (h : Script n I v ss) (hI : Ext I I') : RL (StpV n) 7 I' L' v ss := RL.mono (fun _ _ h => StpV.mono h hI) h hI (fun _ h => by cases h)

theorem scripts_law {v0 v1 : Value} {m : List Int} {ss : List Stp} (h0 : Ints I v0 m) (h1 : Script 137438953472 I v1 ss) (hlen : ss.length < 4611686018427387904) (hk : ∀ I' L', Ext I I' → K (.bool true) I' L') : Cal Try.prog ω 6 #[v0, v1] K I L := by
  refine cal6 ?_
  unfold sh6
  refine call (awake_spec (fun I1 hI1 => ?_))
  refine call (new_spec (h0.mono hI1) (fun hb => ?_) (fun hb b X I2 hI2 hR => ?_))
  · try simp only [Pv_some, fldV_p, nilV_p, nilV_f, lenV_s, capV_s, lenSV_s, minV_i, maxV_i, strV_s, unV_not, unV_neg, pickV_t, pickV_f, exV_t, cvIV_i, binI_add, binI_sub, binI_mul, binI_eql, binI_neq, binI_lss, binI_leq, binI_gtr, binI_geq, binI_and, binI_or, binB_eql, binB_neq, binS_eql, binS_neq, binP_eql_nil, binP_neq_nil, binN_eql_nil, binN_neq_nil, binN_eql_nn, binN_neq_nn, Br_true, Br_false, Gd_tt, Gd_ft, Gd_tf, Gd_ff, cells_agg, List.getElem?_toArray, List.getElem?_cons_zero, List.getElem?_cons_succ, Nat.zero_add, Nat.add_zero, Nat.zero_mul]
    refine call (rnew_spec (h0.mono hI1) (fun _ => ?_) (fun hb' => by rw [hb] at hb'; cases hb'))
    simp only [Pv_some, fldV_p, nilV_p, nilV_f, lenV_s, capV_s, lenSV_s, minV_i, maxV_i, strV_s, unV_not, unV_neg, pickV_t, pickV_f, exV_t, cvIV_i, binI_add, binI_sub, binI_mul, binI_eql, binI_neq, binI_lss, binI_leq, binI_gtr, binI_geq, binI_and, binI_or, binB_eql, binB_neq, binS_eql, binS_neq, binP_eql_nil, binP_neq_nil, binN_eql_nil, binN_neq_nil, binN_eql_nn, binN_neq_nn, Br_true, Br_false, Gd_tt, Gd_ft, Gd_tf, Gd_ff, cells_agg, List.getElem?_toArray, List.getElem?_cons_zero, List.getElem?_cons_succ, Nat.zero_add, Nat.add_zero, Nat.zero_mul, bne_self_eq_false]
    exact Gh.done (hk I1 _ hI1)
  · try simp only [Pv_some, fldV_p, nilV_p, nilV_f, lenV_s, capV_s, lenSV_s, minV_i, maxV_i, strV_s, unV_not, unV_neg, pickV_t, pickV_f, exV_t, cvIV_i, binI_add, binI_sub, binI_mul, binI_eql, binI_neq, binI_lss, binI_leq, binI_gtr, binI_geq, binI_and, binI_or, binB_eql, binB_neq, binS_eql, binS_neq, binP_eql_nil, binP_neq_nil, binN_eql_nil, binN_neq_nil, binN_eql_nn, binN_neq_nn, Br_true, Br_false, Gd_tt, Gd_ft, Gd_tf, Gd_ff, cells_agg, List.getElem?_toArray, List.getElem?_cons_zero, List.getElem?_cons_succ, Nat.zero_add, Nat.add_zero, Nat.zero_mul]
    refine call (rnew_spec ((h0.mono hI1).mono hI2) (fun hb' => by rw [hb] at hb'; cases hb') (fun _ c Y hQ => ?_))
    simp only [Pv_some, fldV_p, nilV_p, nilV_f, lenV_s, capV_s, lenSV_s, minV_i, maxV_i, strV_s, unV_not, unV_neg, pickV_t, pickV_f, exV_t, cvIV_i, binI_add, binI_sub, binI_mul, binI_eql, binI_neq, binI_lss, binI_leq, binI_gtr, binI_geq, binI_and, binI_or, binB_eql, binB_neq, binS_eql, binS_neq, binP_eql_nil, binP_neq_nil, binN_eql_nil, binN_neq_nil, binN_eql_nn, binN_neq_nn, Br_true, Br_false, Gd_tt, Gd_ft, Gd_tf, Gd_ff, cells_agg, List.getElem?_toArray, List.getElem?_cons_zero, List.getElem?_cons_succ, Nat.zero_add, Nat.add_zero, Nat.zero_mul, bne_self_eq_false, beq_self_eq_true, Bool.not_true]
    have hw := new_wf hb
    have hI12 := hI1.trans hI2
    refine loop (fun mm s I' L' => Ext I2 I' ∧ ∃ (k : Nat) (X Y : LH) (g : LG), k + mm = ss.length ∧ s = ((Value.bool false, Value.int .i64 k, ()) : Value × Value × Unit) ∧ LogR I' b X g ∧ LogQ I' c Y g ∧ WF g ∧ k ≤ 400 ∧ g.es.length ≤ k * 2863311532 ∧ L' = Y ++ (X ++ L)) ss.length
      ⟨Ext.refl _, 0, X, Y, newG m, by omega, rfl, hR, hQ, hw, by omega, by simp [newG], rfl⟩ ?_
    rintro mm s I' L' ⟨hI', k, X, Y, g, hkm, rfl, hR, hQ, hw, hk400, hgl, rfl⟩
    unfold sh6_5
    simp only [RL.len h1, Pv_some, fldV_p, nilV_p, nilV_f, lenV_s, capV_s, lenSV_s, minV_i, maxV_i, strV_s, unV_not, unV_neg, pickV_t, pickV_f, exV_t, cvIV_i, binI_add, binI_sub, binI_mul, binI_eql, binI_neq, binI_lss, binI_leq, binI_gtr, binI_geq, binI_and, binI_or, binB_eql, binB_neq, binS_eql, binS_neq, binP_eql_nil, binP_neq_nil, binN_eql_nil, binN_neq_nil, binN_eql_nn, binN_neq_nn, Br_true, Br_false, Gd_tt, Gd_ft, Gd_tf, Gd_ff, cells_agg, List.getElem?_toArray, List.getElem?_cons_zero, List.getElem?_cons_succ, Nat.zero_add, Nat.add_zero, Nat.zero_mul]
    refine gd_split (fun hlt => ?_) (fun hlt => Gh.done (hk I' _ (hI12.trans hI')))
    refine br_split (fun h4 => ?_) (fun h4 => Gh.done (hk I' _ (hI12.trans hI')))
    simp at hlt h4
    obtain ⟨b2, off, cs, hix, hcl, hst, hc⟩ := RL.ix h1 (i := k) (by omega) (by omega)
    simp only [hix, Pv_some, fldV_p, nilV_p, nilV_f, lenV_s, capV_s, lenSV_s, minV_i, maxV_i, strV_s, unV_not, unV_neg, pickV_t, pickV_f, exV_t, cvIV_i, binI_add, binI_sub, binI_mul, binI_eql, binI_neq, binI_lss, binI_leq, binI_gtr, binI_geq, binI_and, binI_or, binB_eql, binB_neq, binS_eql, binS_neq, binP_eql_nil, binP_neq_nil, binN_eql_nil, binN_neq_nil, binN_eql_nn, binN_neq_nn, Br_true, Br_false, Gd_tt, Gd_ft, Gd_tf, Gd_ff, cells_agg, List.getElem?_toArray, List.getElem?_cons_zero, List.getElem?_cons_succ, Nat.zero_add, Nat.add_zero, Nat.zero_mul]
    refine rdN hcl (hc I' _ (hI12.trans hI') (fun _ h => by cases h)) ?_
    have hst' := hst
    obtain ⟨_, _, _, _, _, _, _, _, n1, n2⟩ := hst'
    refine call (Cal.split X ?_)
    refine play_spec hR hQ hw (hst.mono (hI12.trans hI')) (by omega) (le48 (b := 2932031007402) (by omega) (by omega)) (fun X3 Y3 I3 g3 hI3 hR3 hQ3 hw3 hl3 => ?_)
    simp only [Pv_some, fldV_p, nilV_p, nilV_f, lenV_s, capV_s, lenSV_s, minV_i, maxV_i, strV_s, unV_not, unV_neg, pickV_t, pickV_f, exV_t, cvIV_i, binI_add, binI_sub, binI_mul, binI_eql, binI_neq, binI_lss, binI_leq, binI_gtr, binI_geq, binI_and, binI_or, binB_eql, binB_neq, binS_eql, binS_neq, binP_eql_nil, binP_neq_nil, binN_eql_nil, binN_neq_nil, binN_eql_nn, binN_neq_nn, Br_true, Br_false, Gd_tt, Gd_ft, Gd_tf, Gd_ff, cells_agg, List.getElem?_toArray, List.getElem?_cons_zero, List.getElem?_cons_succ, Nat.zero_add, Nat.add_zero, Nat.zero_mul, Bool.not_true]
    refine call (same_spec hR3.view hQ3.view hw3 (fun I4 hI4 => ?_))
    simp only [Pv_some, fldV_p, nilV_p, nilV_f, lenV_s, capV_s, lenSV_s, minV_i, maxV_i, strV_s, unV_not, unV_neg, pickV_t, pickV_f, exV_t, cvIV_i, binI_add, binI_sub, binI_mul, binI_eql, binI_neq, binI_lss, binI_leq, binI_gtr, binI_geq, binI_and, binI_or, binB_eql, binB_neq, binS_eql, binS_neq, binP_eql_nil, binP_neq_nil, binN_eql_nil, binN_neq_nil, binN_eql_nn, binN_neq_nn, Br_true, Br_false, Gd_tt, Gd_ft, Gd_tf, Gd_ff, cells_agg, List.getElem?_toArray, List.getElem?_cons_zero, List.getElem?_cons_succ, Nat.zero_add, Nat.add_zero, Nat.zero_mul, Bool.not_true, wrap_i64 ((k : Int) + 1) (by omega)]
    refine Gh.to (Y3 ++ (X3 ++ L)) (Gh.done ?_)
    exact ⟨mm - 1, by omega, (hI'.trans hI3).trans hI4, k + 1, X3, Y3, g3, by omega, by simp, hR3.mono hI4, hQ3.mono hI4, hw3, by omega, by omega, rfl⟩

end
end Go.Proofs.Ytdcpeboecmkmlaa
