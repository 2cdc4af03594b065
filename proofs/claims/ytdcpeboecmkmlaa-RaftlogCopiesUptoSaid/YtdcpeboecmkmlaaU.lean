/-
  What is loaded, cut and loaded again; copies.
-/
import Derived.Test.YtdcpeboecmkmlaaV
set_option linter.unusedSimpArgs false
set_option linter.unusedVariables false
namespace Go.Proofs.Ytdcpeboecmkmlaa
open Go.SL
set_option maxRecDepth 10000

theorem wf_load {g : LG} (h : WF g) : loadB g.index g.term g.mem g.es g.commit = true := by
  have hz := h.zer
  simp only [loadB, pointB, h.idx, h.trm, h.mem, h.fol, Bool.true_and, Bool.and_true, Bool.and_eq_true, decide_eq_true_eq]
  refine ⟨?_, h.com⟩
  rw [beq_iff_eq, Bool.eq_iff_iff]
  simpa using hz

section
variable {ω : Om} {I : Imm} {L : LH} {K : Value → M}

set_option maxHeartbeats 1000000 in
theorem loads_law {index term : Int} {s : Stp} {cs : List Value} (hs : StpV 140737488355328 I s cs) (hk : ∀ I' L', Ext I I' → K (.bool true) I' L') : Cal Try.prog ω 4 #[.int .i64 index, .int .i64 term, .agg cs.toArray] K I L := by
  obtain ⟨dv, ev, mv, rfl, hd, he, hm, ⟨i1, i2, i3⟩, n1, n2⟩ := hs
  have hm' := hm
  obtain ⟨am, cm, rfl⟩ := Ints.form hm'
  refine cal4 ?_
  unfold sh4
  refine newI (fun b1 => ?_)
  refine call (awake_spec (fun I1 hI1 => ?_))
  try simp only [Pv_some, fldV_p, nilV_p, nilV_f, lenV_s, capV_s, lenSV_s, minV_i, maxV_i, strV_s, unV_not, unV_neg, pickV_t, pickV_f, exV_t, cvIV_i, binI_add, binI_sub, binI_mul, binI_eql, binI_neq, binI_lss, binI_leq, binI_gtr, binI_geq, binI_and, binI_or, binB_eql, binB_neq, binS_eql, binS_neq, binP_eql_nil, binP_neq_nil, binN_eql_nil, binN_neq_nil, binN_eql_nn, binN_neq_nn, Br_true, Br_false, Gd_tt, Gd_ft, Gd_tf, Gd_ff, cells_agg, List.getElem?_toArray, List.getElem?_cons_zero, List.getElem?_cons_succ, Nat.zero_add, Nat.add_zero, Nat.zero_mul]
  refine rdb ?_
  simp only [bldP, Pv_some, fldV_p, nilV_p, nilV_f, lenV_s, capV_s, lenSV_s, minV_i, maxV_i, strV_s, unV_not, unV_neg, pickV_t, pickV_f, exV_t, cvIV_i, binI_add, binI_sub, binI_mul, binI_eql, binI_neq, binI_lss, binI_leq, binI_gtr, binI_geq, binI_and, binI_or, binB_eql, binB_neq, binS_eql, binS_neq, binP_eql_nil, binP_neq_nil, binN_eql_nil, binN_neq_nil, binN_eql_nn, binN_neq_nn, Br_true, Br_false, Gd_tt, Gd_ft, Gd_tf, Gd_ff, cells_agg, List.getElem?_toArray, List.getElem?_cons_zero, List.getElem?_cons_succ, Nat.zero_add, Nat.add_zero, Nat.zero_mul]
  refine rdb ?_
  refine rdb ?_
  refine call (load_spec (hm.mono hI1) (Ents.to he hI1) n2 i1 (fun hb I2 hI2 => ?_) (fun hb b X I2 hI2 hR => ?_))
  · try simp only [Pv_some, fldV_p, nilV_p, nilV_f, lenV_s, capV_s, lenSV_s, minV_i, maxV_i, strV_s, unV_not, unV_neg, pickV_t, pickV_f, exV_t, cvIV_i, binI_add, binI_sub, binI_mul, binI_eql, binI_neq, binI_lss, binI_leq, binI_gtr, binI_geq, binI_and, binI_or, binB_eql, binB_neq, binS_eql, binS_neq, binP_eql_nil, binP_neq_nil, binN_eql_nil, binN_neq_nil, binN_eql_nn, binN_neq_nn, Br_true, Br_false, Gd_tt, Gd_ft, Gd_tf, Gd_ff, cells_agg, List.getElem?_toArray, List.getElem?_cons_zero, List.getElem?_cons_succ, Nat.zero_add, Nat.add_zero, Nat.zero_mul]
    refine rdb ?_
    refine rdb ?_
    refine rdb ?_
    refine call (rload_spec (hm.mono (hI1.trans hI2)) (Ents.to he (hI1.trans hI2)) n2 (fun _ I3 hI3 => ?_) (fun hb' => by rw [hb] at hb'; cases hb'))
    simp only [Pv_some, fldV_p, nilV_p, nilV_f, lenV_s, capV_s, lenSV_s, minV_i, maxV_i, strV_s, unV_not, unV_neg, pickV_t, pickV_f, exV_t, cvIV_i, binI_add, binI_sub, binI_mul, binI_eql, binI_neq, binI_lss, binI_leq, binI_gtr, binI_geq, binI_and, binI_or, binB_eql, binB_neq, binS_eql, binS_neq, binP_eql_nil, binP_neq_nil, binN_eql_nil, binN_neq_nil, binN_eql_nn, binN_neq_nn, Br_true, Br_false, Gd_tt, Gd_ft, Gd_tf, Gd_ff, cells_agg, List.getElem?_toArray, List.getElem?_cons_zero, List.getElem?_cons_succ, Nat.zero_add, Nat.add_zero, Nat.zero_mul, bne_self_eq_false, beq_self_eq_true, Bool.not_true]
    exact Gh.done (hk I3 _ ((hI1.trans hI2).trans hI3))
  try simp only [Pv_some, fldV_p, nilV_p, nilV_f, lenV_s, capV_s, lenSV_s, minV_i, maxV_i, strV_s, unV_not, unV_neg, pickV_t, pickV_f, exV_t, cvIV_i, binI_add, binI_sub, binI_mul, binI_eql, binI_neq, binI_lss, binI_leq, binI_gtr, binI_geq, binI_and, binI_or, binB_eql, binB_neq, binS_eql, binS_neq, binP_eql_nil, binP_neq_nil, binN_eql_nil, binN_neq_nil, binN_eql_nn, binN_neq_nn, Br_true, Br_false, Gd_tt, Gd_ft, Gd_tf, Gd_ff, cells_agg, List.getElem?_toArray, List.getElem?_cons_zero, List.getElem?_cons_succ, Nat.zero_add, Nat.add_zero, Nat.zero_mul]
  refine rdb ?_
  refine rdb ?_
  refine rdb ?_
  refine call (rload_spec (hm.mono (hI1.trans hI2)) (Ents.to he (hI1.trans hI2)) n2 (fun hb' => by rw [hb] at hb'; cases hb') (fun _ c Y I3 hI3 hQ => ?_))
  simp only [Pv_some, fldV_p, nilV_p, nilV_f, lenV_s, capV_s, lenSV_s, minV_i, maxV_i, strV_s, unV_not, unV_neg, pickV_t, pickV_f, exV_t, cvIV_i, binI_add, binI_sub, binI_mul, binI_eql, binI_neq, binI_lss, binI_leq, binI_gtr, binI_geq, binI_and, binI_or, binB_eql, binB_neq, binS_eql, binS_neq, binP_eql_nil, binP_neq_nil, binN_eql_nil, binN_neq_nil, binN_eql_nn, binN_neq_nn, Br_true, Br_false, Gd_tt, Gd_ft, Gd_tf, Gd_ff, cells_agg, List.getElem?_toArray, List.getElem?_cons_zero, List.getElem?_cons_succ, Nat.zero_add, Nat.add_zero, Nat.zero_mul, bne_self_eq_false, beq_self_eq_true, Bool.not_true]
  have hw := load_wf hb n2
  generalize hg : (⟨index, term, s.mem, s.ents, s.a⟩ : LG) = g at hR hQ hw
  have hge : g.es = s.ents := by rw [← hg]
  refine call (same_spec (hR.mono hI3).view hQ.view hw (fun I4 hI4 => ?_))
  have hcom := hw.com
  have hlast := hw.last
  refine call (commit_spec (hR.mono (hI3.trans hI4)).view ?_)
  refine call (Cal.split X ?_)
  refine cut_spec (hR.mono (hI3.trans hI4)) hw (by unfold inI64; omega) (fun X5 I5 hI5 hR5 => ?_)
  have hcut : (cutG g g.commit).1 = 0 := by unfold cutG; rw [if_neg (by omega)]
  have hw5 := cut_wf (i := g.commit) hw
  have hcl := cut_len g g.commit
  have hcc : (cutG g g.commit).2.commit = g.commit := by unfold cutG; split <;> rfl
  rw [hcut]
  generalize hg5 : (cutG g g.commit).2 = g5 at hR5 hw5 hcl hcc
  have hl5 := hw5.last
  refine call (start_spec hR5.viewF hw5 (fun mv6 I6 hI6 hm6 => ?_))
  have hm6' := hm6
  obtain ⟨a6, c6, rfl⟩ := Ints.form hm6'
  refine newI (fun b6 => ?_)
  refine stB rfl rfl (one_all rfl) ?_
  try simp only [Pv_some, fldV_p, nilV_p, nilV_f, lenV_s, capV_s, lenSV_s, minV_i, maxV_i, strV_s, unV_not, unV_neg, pickV_t, pickV_f, exV_t, cvIV_i, binI_add, binI_sub, binI_mul, binI_eql, binI_neq, binI_lss, binI_leq, binI_gtr, binI_geq, binI_and, binI_or, binB_eql, binB_neq, binS_eql, binS_neq, binP_eql_nil, binP_neq_nil, binN_eql_nil, binN_neq_nil, binN_eql_nn, binN_neq_nn, Br_true, Br_false, Gd_tt, Gd_ft, Gd_tf, Gd_ff, cells_agg, List.getElem?_toArray, List.getElem?_cons_zero, List.getElem?_cons_succ, Nat.zero_add, Nat.add_zero, Nat.zero_mul]
  refine rdb ?_
  simp only [Pv_some, fldV_p, nilV_p, nilV_f, lenV_s, capV_s, lenSV_s, minV_i, maxV_i, strV_s, unV_not, unV_neg, pickV_t, pickV_f, exV_t, cvIV_i, binI_add, binI_sub, binI_mul, binI_eql, binI_neq, binI_lss, binI_leq, binI_gtr, binI_geq, binI_and, binI_or, binB_eql, binB_neq, binS_eql, binS_neq, binP_eql_nil, binP_neq_nil, binN_eql_nil, binN_neq_nil, binN_eql_nn, binN_neq_nn, Br_true, Br_false, Gd_tt, Gd_ft, Gd_tf, Gd_ff, cells_agg, List.getElem?_toArray, List.getElem?_cons_zero, List.getElem?_cons_succ, Nat.zero_add, Nat.add_zero, Nat.zero_mul, wrap_i64 (g5.index + 1) (by omega)]
  refine rdb ?_
  simp only [RL.len he, Pv_some, fldV_p, nilV_p, nilV_f, lenV_s, capV_s, lenSV_s, minV_i, maxV_i, strV_s, unV_not, unV_neg, pickV_t, pickV_f, exV_t, cvIV_i, binI_add, binI_sub, binI_mul, binI_eql, binI_neq, binI_lss, binI_leq, binI_gtr, binI_geq, binI_and, binI_or, binB_eql, binB_neq, binS_eql, binS_neq, binP_eql_nil, binP_neq_nil, binN_eql_nil, binN_neq_nil, binN_eql_nn, binN_neq_nn, Br_true, Br_false, Gd_tt, Gd_ft, Gd_tf, Gd_ff, cells_agg, List.getElem?_toArray, List.getElem?_cons_zero, List.getElem?_cons_succ, Nat.zero_add, Nat.add_zero, Nat.zero_mul, wrap_i64 ((s.ents.length : Int) + 1) (by omega)]
  refine call (slice_spec (hR5.mono hI6).view hw5 (by unfold inI64; omega) (by unfold inI64; omega) (fun v7 I7 hI7 hE7 => ?_))
  rw [slice_all hw5 (by rw [hge] at hcl; omega)] at hE7
  refine rdB rfl ?_
  have hlb := wf_load hw5
  rw [hcc] at hlb
  refine call (load_spec (hm6.mono hI7) hE7 hw5.len (by unfold inI64; omega) (fun hb' => by rw [hlb] at hb'; cases hb') (fun _ b8 X8 I8 hI8 hR8 => ?_))
  simp only [Pv_some, fldV_p, nilV_p, nilV_f, lenV_s, capV_s, lenSV_s, minV_i, maxV_i, strV_s, unV_not, unV_neg, pickV_t, pickV_f, exV_t, cvIV_i, binI_add, binI_sub, binI_mul, binI_eql, binI_neq, binI_lss, binI_leq, binI_gtr, binI_geq, binI_and, binI_or, binB_eql, binB_neq, binS_eql, binS_neq, binP_eql_nil, binP_neq_nil, binN_eql_nil, binN_neq_nil, binN_eql_nn, binN_neq_nn, Br_true, Br_false, Gd_tt, Gd_ft, Gd_tf, Gd_ff, cells_agg, List.getElem?_toArray, List.getElem?_cons_zero, List.getElem?_cons_succ, Nat.zero_add, Nat.add_zero, Nat.zero_mul, bne_self_eq_false]
  have hQ8 := hQ.mono (hI4.trans (hI5.trans (hI6.trans (hI7.trans hI8))))
  refine call (Cal.split Y ?_)
  refine rcut_spec hQ8 hw (by unfold inI64; omega) (fun Y9 I9 hI9 hQ9 => ?_)
  rw [hcut]
  rw [hg5] at hQ9
  have e8 : (⟨g5.index, g5.term, g5.mem, g5.es, g.commit⟩ : LG) = g5 := by rw [← hcc]
  rw [e8] at hR8
  refine call (same_spec (hR8.mono hI9).view hQ9.view hw5 (fun I10 hI10 => ?_))
  simp only [Pv_some, fldV_p, nilV_p, nilV_f, lenV_s, capV_s, lenSV_s, minV_i, maxV_i, strV_s, unV_not, unV_neg, pickV_t, pickV_f, exV_t, cvIV_i, binI_add, binI_sub, binI_mul, binI_eql, binI_neq, binI_lss, binI_leq, binI_gtr, binI_geq, binI_and, binI_or, binB_eql, binB_neq, binS_eql, binS_neq, binP_eql_nil, binP_neq_nil, binN_eql_nil, binN_neq_nil, binN_eql_nn, binN_neq_nn, Br_true, Br_false, Gd_tt, Gd_ft, Gd_tf, Gd_ff, cells_agg, List.getElem?_toArray, List.getElem?_cons_zero, List.getElem?_cons_succ, Nat.zero_add, Nat.add_zero, Nat.zero_mul, beq_self_eq_true]
  exact Gh.done (hk I10 _ (hI1.trans (hI2.trans (hI3.trans (hI4.trans (hI5.trans (hI6.trans (hI7.trans (hI8.trans (hI9.trans hI10))))))))))
end

theorem loads_walk {W : World} {base : Nat} {v0 v1 v2 : Value} (o0 : Value.okWide Try.prog W .any base 3 v0) (t0 : Tr Try.prog W 3 v0.cells.toList)
    (o1 : Value.okWide Try.prog W .any base 3 v1) (t1 : Tr Try.prog W 3 v1.cells.toList) (o2 : Value.okWide Try.prog W .any base 43 v2) (t2 : Tr Try.prog W 43 v2.cells.toList) (ω : Om) :
    Cal Try.prog ω 4 #[v0, v1, v2] (fun v I' _ => v = .bool true ∧ Ext (heapI W) I') (heapI W) [] := by
  obtain ⟨n0, rfl, _⟩ := top_int Try.underlying3 o0 t0
  obtain ⟨n1, rfl, _⟩ := top_int Try.underlying3 o1 t1
  obtain ⟨cs, rfl, t⟩ := top_struct Try.underlying43 o2 t2
  obtain ⟨s, dv, ev, mv, h1, h2, h3, h4, h5, h6, h7⟩ := stp_open t
  have hz : reachBytes ≤ 140737488355328 := by decide
  exact loads_law (s := s) ⟨dv, ev, mv, h1, h2, h3, h4, h5, by omega, by omega⟩ (fun I' L' hI => ⟨rfl, hI⟩)
end Go.Proofs.Ytdcpeboecmkmlaa
