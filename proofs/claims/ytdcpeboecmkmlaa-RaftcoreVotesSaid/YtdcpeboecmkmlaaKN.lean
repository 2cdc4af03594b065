/-
  The program's node: its calls.
-/
-- S2
import Derived.Test.YtdcpeboecmkmlaaKM
set_option linter.unusedSimpArgs false
set_option linter.unusedVariables false
namespace Go.Proofs.Ytdcpeboecmkmlaa
open Go.SL
set_option maxRecDepth 10000

theorem takeF_nil {r : RF} (h : r.out = []) : takeF r = r := by cases r; simp only at h; subst h; rfl
section
variable {ω : Om} {I : Imm} {L : LH} {K : Value → M}

/-- Step behind its tests -/
theorem step3_spec {b m1 : Nat} {o : Obj} {X F : LH} {r : RF} {I0 : Imm} (hI0 : Ext I0 I) (h : RaftR I b X r)
    (hk : ∀ X' v I', Ext I0 I' → Msgs I' [] v r.out → RaftR I' b X' (takeF r) → K (.tuple #[v, .int .i64 0]) I' (X' ++ F)) :
    sh40_3 ω (.pointer (some ⟨b, 0, none⟩)) (.slice none 0 0) (.int .i64 0) (fun v => Gh (K v)) I (X ++ ((m1, o) :: F)) := by
  unfold sh40_3
  refine call (take_spec h (fun X' v I1 hI1 hv hX' => ?_))
  exact Gh.to (X' ++ F) (Gh.done (hk X' v I1 (hI0.trans hI1) hv hX'))
theorem step3_spec' {b m1 : Nat} {o : Obj} {X F : LH} {r : RF} {I0 : Imm} (hI0 : Ext I0 I) (h : RaftR I b X r)
    (hk : ∀ X' v I', Ext I0 I' → Msgs I' [] v r.out → RaftR I' b X' (takeF r) → K (.tuple #[v, .int .i64 0]) I' (X' ++ F)) :
    sh40_3 ω (.pointer (some ⟨b, 0, none⟩)) (.slice none 0 0) (.int .i64 0) (fun v => Gh (K v)) I ((m1, o) :: (X ++ F)) := by
  unfold sh40_3
  refine call (Cal.to (X ++ F) (take_spec h (fun X' v I1 hI1 hv hX' => ?_)))
  exact Gh.done (hk X' v I1 (hI0.trans hI1) hv hX')

theorem step2_spec {b m1 E B : Nat} {X F : LH} {r : RF} {m : RM} {a0 a1 a2 : Option Addr} {p0 p1 p2 : Nat} {I0 : Imm} (hI0 : Ext I0 I) (h : RaftR I b X r) (hw : RWF E B r) (hE : (E + 64) * 48 ≤ 150000000000000) (ho : r.out = [])
    (hm : MsgV I m (mcells m (.slice a0 m.ents.length p0) (.slice a1 m.mem.length p1) (.slice a2 m.data.length p2))) (hr : RB m)
    (hk : ∀ X' v I', Ext I0 I' → Msgs I' [] v (if m.term < r.term then refuseF r m else handleF r m).out → RaftR I' b X' (takeF (if m.term < r.term then refuseF r m else handleF r m)) → K (.tuple #[v, .int .i64 0]) I' (X' ++ F)) :
    sh40_2 ω (.pointer (some ⟨b, 0, none⟩)) (.pointer (some ⟨m1, 0, none⟩)) (.slice none 0 0) (.int .i64 0) (fun v => Gh (K v)) I
      ((m1, Obj.cells (mcells m (.slice a0 m.ents.length p0) (.slice a1 m.mem.length p1) (.slice a2 m.data.length p2)).toArray 77 (0, 0)) :: (X ++ F)) := by
  have hX := h
  obtain ⟨lb, XL, XO, stv, ov, z0, z1, z2, oc, rfl, h1, h2, h3, h4⟩ := h
  have hol : r.out.length = 0 := by rw [ho]; rfl
  unfold sh40_2
  simp only [List.cons_append, List.append_assoc]
  have back : ∀ {K : Value → M} {f : FuncId} {args : Array Value}, (∀ X, RaftR I b X r → Cal Try.prog ω f args K I (X ++ ((m1, Obj.cells (mcells m (.slice a0 m.ents.length p0) (.slice a1 m.mem.length p1) (.slice a2 m.data.length p2)).toArray 77 (0, 0)) :: F))) →
      Cal Try.prog ω f args K I ((m1, Obj.cells (mcells m (.slice a0 m.ents.length p0) (.slice a1 m.mem.length p1) (.slice a2 m.data.length p2)).toArray 77 (0, 0)) :: (b, Obj.cells (rcells r z0 z1 z2 (.pointer (some ⟨lb, 0, none⟩)) stv ov).toArray 131 (0, 0)) :: (XL ++ (XO ++ F))) :=
    fun hc => raft_cal (r := r) b _ z0 z1 z2 h1 h2 h3 h4 rfl hc
  repeat' (first | (with_reducible refine drawC ?_) | (with_reducible refine drawW1 ?_) | (with_reducible refine drawW2 ?_) | (with_reducible refine keepC (by repeat (first | exact Ext.refl _ | assumption | refine Ext.trans ?_ (by assumption))) ?_) | (with_reducible refine newI (fun _ => ?_)) | first | (with_reducible refine rdb ?_) | ((with_reducible refine st1 ?_ ?_); rfl) | ((with_reducible refine rdB ?_ ?_); rfl) | (with_reducible refine rdbS ?_) | ((with_reducible refine rdBS ?_ ?_); rfl) | ((with_reducible refine stB ?_ ?_ ?_ ?_); rfl; rfl; exact one_all rfl) | ((with_reducible refine rdP _ rfl ?_ ?_); rfl) | ((with_reducible refine rdPS _ rfl ?_ ?_); rfl) | ((with_reducible refine stP _ rfl ?_ ?_ ?_ ?_); rfl; rfl; rfl) | (with_reducible refine And.intro ?_ ?_) | (simp only [Bool.not_true, Bool.not_false, Bool.and_self, Bool.true_and, Int.reduceBEq, Int.reduceBNe, Int.reduceLT, Int.reduceLE, decide_true, decide_false, Br_true, Br_false, Gd_tt, Gd_ft, Gd_tf, Gd_ff, beq_self_eq_true, bne_self_eq_false]) | (with_reducible refine gd_split (fun _ => ?_) (fun _ => ?_)) | (with_reducible refine br_split (fun _ => ?_) (fun _ => ?_)) | (simp only [Pv_some, fldV_p, nilV_p, nilV_f, lenV_s, capV_s, sLen, minV_i, maxV_i, strV_s, unV_not, unV_neg, pickV_t, pickV_f, exV_t, cvIV_i, binI_add, binI_sub, binI_mul, binI_eql, binI_neq, binI_lss, binI_leq, binI_gtr, binI_geq, binI_and, binI_or, binB_eql, binB_neq, sEq, sNe, sLt, sLe, sGt, sGe, stampEq, stampNe, fldv_agg, fldv_one, binP_eql_nil, binP_neq_nil, binN_eql_nil, binN_neq_nil, binN_eql_nn, binN_neq_nn, Br_true, Br_false, Gd_tt, Gd_ft, Gd_tf, Gd_ff, cells_agg, List.getElem?_toArray, List.getElem?_cons_zero, List.getElem?_cons_succ, Nat.zero_add, Nat.add_zero, Nat.zero_mul, List.drop_succ_cons, List.drop_zero, List.take_succ_cons, List.take_zero, List.nil_append, List.cons_append, Nat.reduceAdd, List.drop_nil, List.take_nil, bld_1, bld_2, bld_3, bld_4, bld_5, bld_6, bld_7, bld_8, bld_9, bld_10, bld_11, bld_12, bld_13, bld_14, bld_15, bld_16, bld_17, bld_18]))
  · rename_i hlt
    simp at hlt
    rw [if_pos hlt] at hk
    refine call (back (fun X hX => refuse_spec hX hm (by omega) (fun X' hX' => ?_)))
    refine call (take_spec hX' (fun X2 v I1 hI1 hv hX2 => ?_))
    exact Gh.to (X2 ++ F) (Gh.done (hk X2 v I1 (hI0.trans hI1) hv hX2))
  all_goals (
    have hlt' : ¬ m.term < r.term := by simp_all
    rw [if_neg hlt'] at hk)
  · rw [show handleF r m = askedF r m by clear hk back h1 h2 h3 h4 hm hX; simp_all [handleF]] at hk
    exact call (back (fun X hX => asked_spec hX hw.wf hm (by omega) (fun X' hX' => step3_spec hI0 hX' hk)))
  · rw [show handleF r m = (if electedF { r with vt := updI r.vt m.frm true } then leadF { r with vt := updI r.vt m.frm true } else { r with vt := updI r.vt m.frm true }) by clear hk back h1 h2 h3 h4 hm hX; simp_all [handleF, grantedF]] at hk
    have hw' : RWF E B { r with vt := updI r.vt m.frm true } := ⟨hw.wf, hw.len, hw.grp, hw.idn, hw.trm, hw.vot, hw.lst, hw.stl, hw.ela, hw.nxb, hw.mtb⟩
    unfold sh40_5
    repeat' (first | (with_reducible refine drawC ?_) | (with_reducible refine drawW1 ?_) | (with_reducible refine drawW2 ?_) | (with_reducible refine keepC (by repeat (first | exact Ext.refl _ | assumption | refine Ext.trans ?_ (by assumption))) ?_) | (with_reducible refine newI (fun _ => ?_)) | first | (with_reducible refine rdb ?_) | ((with_reducible refine st1 ?_ ?_); rfl) | ((with_reducible refine rdB ?_ ?_); rfl) | (with_reducible refine rdbS ?_) | ((with_reducible refine rdBS ?_ ?_); rfl) | ((with_reducible refine stB ?_ ?_ ?_ ?_); rfl; rfl; exact one_all rfl) | ((with_reducible refine rdP _ rfl ?_ ?_); rfl) | ((with_reducible refine rdPS _ rfl ?_ ?_); rfl) | ((with_reducible refine stP _ rfl ?_ ?_ ?_ ?_); rfl; rfl; rfl) | (with_reducible refine And.intro ?_ ?_) | (simp only [Bool.not_true, Bool.not_false, Bool.and_self, Bool.true_and, Int.reduceBEq, Int.reduceBNe, Int.reduceLT, Int.reduceLE, decide_true, decide_false, Br_true, Br_false, Gd_tt, Gd_ft, Gd_tf, Gd_ff, beq_self_eq_true, bne_self_eq_false]) | (with_reducible refine gd_split (fun _ => ?_) (fun _ => ?_)) | (with_reducible refine br_split (fun _ => ?_) (fun _ => ?_)) | (simp only [Pv_some, fldV_p, nilV_p, nilV_f, lenV_s, capV_s, sLen, minV_i, maxV_i, strV_s, unV_not, unV_neg, pickV_t, pickV_f, exV_t, cvIV_i, binI_add, binI_sub, binI_mul, binI_eql, binI_neq, binI_lss, binI_leq, binI_gtr, binI_geq, binI_and, binI_or, binB_eql, binB_neq, sEq, sNe, sLt, sLe, sGt, sGe, stampEq, stampNe, fldv_agg, fldv_one, binP_eql_nil, binP_neq_nil, binN_eql_nil, binN_neq_nil, binN_eql_nn, binN_neq_nn, Br_true, Br_false, Gd_tt, Gd_ft, Gd_tf, Gd_ff, cells_agg, List.getElem?_toArray, List.getElem?_cons_zero, List.getElem?_cons_succ, Nat.zero_add, Nat.add_zero, Nat.zero_mul, List.drop_succ_cons, List.drop_zero, List.take_succ_cons, List.take_zero, List.nil_append, List.cons_append, Nat.reduceAdd, List.drop_nil, List.take_nil, bld_1, bld_2, bld_3, bld_4, bld_5, bld_6, bld_7, bld_8, bld_9, bld_10, bld_11, bld_12, bld_13, bld_14, bld_15, bld_16, bld_17, bld_18]))
    simp only [ixPV_at _ (show 0 ≤ m.frm by have := hr.frm; omega) (show m.frm < ((6 : Nat) : Int) by have := hr.frm; omega), Pv_some, fldV_p, nilV_p, nilV_f, lenV_s, capV_s, sLen, minV_i, maxV_i, strV_s, unV_not, unV_neg, pickV_t, pickV_f, exV_t, cvIV_i, binI_add, binI_sub, binI_mul, binI_eql, binI_neq, binI_lss, binI_leq, binI_gtr, binI_geq, binI_and, binI_or, binB_eql, binB_neq, sEq, sNe, sLt, sLe, sGt, sGe, stampEq, stampNe, fldv_agg, fldv_one, binP_eql_nil, binP_neq_nil, binN_eql_nil, binN_neq_nil, binN_eql_nn, binN_neq_nn, Br_true, Br_false, Gd_tt, Gd_ft, Gd_tf, Gd_ff, cells_agg, List.getElem?_toArray, List.getElem?_cons_zero, List.getElem?_cons_succ, Nat.zero_add, Nat.add_zero, Nat.zero_mul, List.drop_succ_cons, List.drop_zero, List.take_succ_cons, List.take_zero, List.nil_append, List.cons_append, Nat.reduceAdd, List.drop_nil, List.take_nil, bld_1, bld_2, bld_3, bld_4, bld_5, bld_6, bld_7, bld_8, bld_9, bld_10, bld_11, bld_12, bld_13, bld_14, bld_15, bld_16, bld_17, bld_18]
    refine stL (rc_svt hr.frm) (by rw [rc_len]; have := hr.frm; omega) rfl ?_
    refine call (raft_cal (r := { r with vt := updI r.vt m.frm true }) b ((m1, Obj.cells (mcells m (.slice a0 m.ents.length p0) (.slice a1 m.mem.length p1) (.slice a2 m.data.length p2)).toArray 77 (0, 0)) :: F) z0 z1 z2 h1 h2 h3 h4 rfl (fun X hX => ?_))
    exact elected_spec hX hw' (by omega) (by simp only; omega) (fun X' I1 hI1 hX' => step3_spec (hI0.trans hI1) hX' hk)
  · rw [show handleF r m = r by clear hk back h1 h2 h3 h4 hm hX; simp_all [handleF, grantedF]] at hk
    simpa only [List.cons_append, List.append_assoc] using step3_spec' (m1 := m1) (o := Obj.cells (mcells m (.slice a0 m.ents.length p0) (.slice a1 m.mem.length p1) (.slice a2 m.data.length p2)).toArray 77 (0, 0)) hI0 hX hk
  · rw [show handleF r m = r by clear hk back h1 h2 h3 h4 hm hX; simp_all [handleF, grantedF]] at hk
    simpa only [List.cons_append, List.append_assoc] using step3_spec' (m1 := m1) (o := Obj.cells (mcells m (.slice a0 m.ents.length p0) (.slice a1 m.mem.length p1) (.slice a2 m.data.length p2)).toArray 77 (0, 0)) hI0 hX hk
  · rw [show handleF r m = (if r.role = 3 then r else appendF r m) by clear hk back h1 h2 h3 h4 hm hX; simp_all [handleF]] at hk
    exact call (back (fun X hX => append_spec hX hw hE hm hr (by omega) (fun X' I1 hI1 hX' => step3_spec (hI0.trans hI1) hX' hk)))
  · rw [show handleF r m = (if r.role = 3 then r else installF r m) by clear hk back h1 h2 h3 h4 hm hX; simp_all [handleF]] at hk
    exact call (back (fun X hX => install_spec hX hw hm hr (by omega) (fun X' I1 hI1 hX' => step3_spec (hI0.trans hI1) hX' hk)))
  · rw [show handleF r m = (if r.role = 3 then appendedF r m else r) by clear hk back h1 h2 h3 h4 hm hX; simp_all [handleF]] at hk
    exact call (back (fun X hX => appended_spec hX hw hm hr (by omega) (fun X' I1 hI1 hX' => step3_spec (hI0.trans hI1) hX' hk)))
  · rw [show handleF r m = r by clear hk back h1 h2 h3 h4 hm hX; simp_all [handleF]] at hk
    simpa only [List.cons_append, List.append_assoc] using step3_spec' (m1 := m1) (o := Obj.cells (mcells m (.slice a0 m.ents.length p0) (.slice a1 m.mem.length p1) (.slice a2 m.data.length p2)).toArray 77 (0, 0)) hI0 hX hk

theorem step2_spec' {b m1 E B : Nat} {X F : LH} {r : RF} {m : RM} {a0 a1 a2 : Option Addr} {p0 p1 p2 : Nat} {I0 : Imm} (hI0 : Ext I0 I) (h : RaftR I b X r) (hw : RWF E B r) (hE : (E + 64) * 48 ≤ 150000000000000) (ho : r.out = [])
    (hm : MsgV I m (mcells m (.slice a0 m.ents.length p0) (.slice a1 m.mem.length p1) (.slice a2 m.data.length p2))) (hr : RB m)
    (hk : ∀ X' v I', Ext I0 I' → Msgs I' [] v (if m.term < r.term then refuseF r m else handleF r m).out → RaftR I' b X' (takeF (if m.term < r.term then refuseF r m else handleF r m)) → K (.tuple #[v, .int .i64 0]) I' (X' ++ F)) :
    Gh (sh40_2 ω (.pointer (some ⟨b, 0, none⟩)) (.pointer (some ⟨m1, 0, none⟩)) (.slice none 0 0) (.int .i64 0) (fun v => Gh (K v))) I
      (X ++ ((m1, Obj.cells (mcells m (.slice a0 m.ents.length p0) (.slice a1 m.mem.length p1) (.slice a2 m.data.length p2)).toArray 77 (0, 0)) :: F)) :=
  Gh.perm List.perm_middle (Gh.done (step2_spec hI0 h hw hE ho hm hr hk))

theorem step_spec {b E B : Nat} {X F : LH} {r : RF} {m : RM} {c : List Value} (h : RaftR I b X r) (hw : RWF E B r) (hE : (E + 64) * 48 ≤ 150000000000000) (ho : r.out = []) (hm : MsgV I m c) (hml : m.mem.length < 4611686018427387904)
    (hk : ∀ X' v I', Ext I I' → Msgs I' [] v (stepF r m).2.out → RaftR I' b X' (takeF (stepF r m).2) → K (.tuple #[v, .int .i64 (stepF r m).1]) I' (X' ++ F)) :
    Cal Try.prog ω 40 #[.pointer (some ⟨b, 0, none⟩), .agg c.toArray] K I (X ++ F) := by
  have hm0 := hm
  have hX := h
  obtain ⟨lb, XL, XO, stv, ov, z0, z1, z2, oc, rfl, h1, h2, h3, h4⟩ := h
  obtain ⟨a0, p0, a1, p1, a2, p2, rfl, hEn, hM, hD⟩ := hm.form
  refine cal40 ?_
  unfold sh40
  simp only [List.cons_append, List.append_assoc] at hk ⊢
  refine newI (fun m1 => ?_)
  refine rdB rfl ?_
  have bad : stepF r m = (1, r) → ∀ I', Ext I I' → Gh (K (.tuple #[.slice none 0 0, .int .i64 1])) I' ((m1, Obj.cells (mcells m (.slice a0 m.ents.length p0) (.slice a1 m.mem.length p1) (.slice a2 m.data.length p2)).toArray 77 (0, 0)) :: (b, Obj.cells (rcells r z0 z1 z2 (.pointer (some ⟨lb, 0, none⟩)) stv ov).toArray 131 (0, 0)) :: (XL ++ (XO ++ F))) := fun hs I' hI' => by
    rw [hs] at hk
    simp only [ho, takeF_nil ho] at hk
    exact raft_end (r := r) (F := F) z0 z1 z2 (fun X' h' => hk X' _ I' hI' (RL.nil _ _) h') (h1.mono hI') (h2.mono hI') h3 (h4.imp fun _ _ h => h.mono hI') rfl
  refine call (enc_spec hm0 hml (fun hr v I1 hI1 => ?_) (fun hr I1 hI1 => ?_))
  · have hR := right_data hr
    have hb2 : (m.group ≠ r.group ∨ m.to ≠ r.id) → stepF r m = (1, r) := fun hne => by rw [stepF, if_pos (.inr hne)]
    repeat' (first | (with_reducible refine drawC ?_) | (with_reducible refine drawW1 ?_) | (with_reducible refine drawW2 ?_) | (with_reducible refine keepC (by repeat (first | exact Ext.refl _ | assumption | refine Ext.trans ?_ (by assumption))) ?_) | (with_reducible refine newI (fun _ => ?_)) | first | (with_reducible refine rdb ?_) | ((with_reducible refine st1 ?_ ?_); rfl) | ((with_reducible refine rdB ?_ ?_); rfl) | (with_reducible refine rdbS ?_) | ((with_reducible refine rdBS ?_ ?_); rfl) | ((with_reducible refine stB ?_ ?_ ?_ ?_); rfl; rfl; exact one_all rfl) | ((with_reducible refine rdP _ rfl ?_ ?_); rfl) | ((with_reducible refine rdPS _ rfl ?_ ?_); rfl) | ((with_reducible refine stP _ rfl ?_ ?_ ?_ ?_); rfl; rfl; rfl) | (with_reducible refine And.intro ?_ ?_) | (simp only [Bool.not_true, Bool.not_false, Bool.and_self, Bool.true_and, Int.reduceBEq, Int.reduceBNe, Int.reduceLT, Int.reduceLE, decide_true, decide_false, Br_true, Br_false, Gd_tt, Gd_ft, Gd_tf, Gd_ff, beq_self_eq_true, bne_self_eq_false]) | (with_reducible refine gd_split (fun _ => ?_) (fun _ => ?_)) | (with_reducible refine br_split (fun _ => ?_) (fun _ => ?_)) | (simp only [Pv_some, fldV_p, nilV_p, nilV_f, lenV_s, capV_s, sLen, minV_i, maxV_i, strV_s, unV_not, unV_neg, pickV_t, pickV_f, exV_t, cvIV_i, binI_add, binI_sub, binI_mul, binI_eql, binI_neq, binI_lss, binI_leq, binI_gtr, binI_geq, binI_and, binI_or, binB_eql, binB_neq, sEq, sNe, sLt, sLe, sGt, sGe, stampEq, stampNe, fldv_agg, fldv_one, binP_eql_nil, binP_neq_nil, binN_eql_nil, binN_neq_nil, binN_eql_nn, binN_neq_nn, Br_true, Br_false, Gd_tt, Gd_ft, Gd_tf, Gd_ff, cells_agg, List.getElem?_toArray, List.getElem?_cons_zero, List.getElem?_cons_succ, Nat.zero_add, Nat.add_zero, Nat.zero_mul, List.drop_succ_cons, List.drop_zero, List.take_succ_cons, List.take_zero, List.nil_append, List.cons_append, Nat.reduceAdd, List.drop_nil, List.take_nil, bld_1, bld_2, bld_3, bld_4, bld_5, bld_6, bld_7, bld_8, bld_9, bld_10, bld_11, bld_12, bld_13, bld_14, bld_15, bld_16, bld_17, bld_18]))
    all_goals first
      | (refine bad (hb2 ?_) I1 hI1; clear bad hb2 hk hX h1 h2 h3 h4 hm hm0; simp_all; done)
      | skip
    · have hg : m.group = r.group ∧ m.to = r.id := by clear bad hb2 hk hX h1 h2 h3 h4 hm hm0; simp_all
      have hup : r.term < m.term := by clear bad hb2 hk hX h1 h2 h3 h4 hm hm0; simp_all
      rw [show stepF r m = (0, if m.term < (followF r m.term).term then refuseF (followF r m.term) m else handleF (followF r m.term) m) by
        rw [stepF, if_neg (by simp [hr, hg.1, hg.2]), if_neg (by omega), upF, if_pos hup, if_neg (by simp only [followF]; rw [if_pos hup]; omega)]] at hk
      unfold sh40_6
      repeat' (first | (with_reducible refine drawC ?_) | (with_reducible refine drawW1 ?_) | (with_reducible refine drawW2 ?_) | (with_reducible refine keepC (by repeat (first | exact Ext.refl _ | assumption | refine Ext.trans ?_ (by assumption))) ?_) | (with_reducible refine newI (fun _ => ?_)) | first | (with_reducible refine rdb ?_) | ((with_reducible refine st1 ?_ ?_); rfl) | ((with_reducible refine rdB ?_ ?_); rfl) | (with_reducible refine rdbS ?_) | ((with_reducible refine rdBS ?_ ?_); rfl) | ((with_reducible refine stB ?_ ?_ ?_ ?_); rfl; rfl; exact one_all rfl) | ((with_reducible refine rdP _ rfl ?_ ?_); rfl) | ((with_reducible refine rdPS _ rfl ?_ ?_); rfl) | ((with_reducible refine stP _ rfl ?_ ?_ ?_ ?_); rfl; rfl; rfl) | (with_reducible refine And.intro ?_ ?_) | (simp only [Bool.not_true, Bool.not_false, Bool.and_self, Bool.true_and, Int.reduceBEq, Int.reduceBNe, Int.reduceLT, Int.reduceLE, decide_true, decide_false, Br_true, Br_false, Gd_tt, Gd_ft, Gd_tf, Gd_ff, beq_self_eq_true, bne_self_eq_false]) | (with_reducible refine gd_split (fun _ => ?_) (fun _ => ?_)) | (with_reducible refine br_split (fun _ => ?_) (fun _ => ?_)) | (simp only [Pv_some, fldV_p, nilV_p, nilV_f, lenV_s, capV_s, sLen, minV_i, maxV_i, strV_s, unV_not, unV_neg, pickV_t, pickV_f, exV_t, cvIV_i, binI_add, binI_sub, binI_mul, binI_eql, binI_neq, binI_lss, binI_leq, binI_gtr, binI_geq, binI_and, binI_or, binB_eql, binB_neq, sEq, sNe, sLt, sLe, sGt, sGe, stampEq, stampNe, fldv_agg, fldv_one, binP_eql_nil, binP_neq_nil, binN_eql_nil, binN_neq_nil, binN_eql_nn, binN_neq_nn, Br_true, Br_false, Gd_tt, Gd_ft, Gd_tf, Gd_ff, cells_agg, List.getElem?_toArray, List.getElem?_cons_zero, List.getElem?_cons_succ, Nat.zero_add, Nat.add_zero, Nat.zero_mul, List.drop_succ_cons, List.drop_zero, List.take_succ_cons, List.take_zero, List.nil_append, List.cons_append, Nat.reduceAdd, List.drop_nil, List.take_nil, bld_1, bld_2, bld_3, bld_4, bld_5, bld_6, bld_7, bld_8, bld_9, bld_10, bld_11, bld_12, bld_13, bld_14, bld_15, bld_16, bld_17, bld_18]))
      refine callG (raft_cal (r := r) b ((m1, Obj.cells (mcells m (.slice a0 m.ents.length p0) (.slice a1 m.mem.length p1) (.slice a2 m.data.length p2)).toArray 77 (0, 0)) :: F) z0 z1 z2 (h1.mono hI1) (h2.mono hI1) h3 (h4.imp fun _ _ h => h.mono hI1) rfl (fun X hX => ?_))
      refine follow_spec11 hX (fun X' hX' => ?_)
      refine step2_spec' hI1 hX' (hw.follow (by have := hR.trm; omega)) hE ho (hm.mono hI1) hR hk
    · have hg : m.group = r.group ∧ m.to = r.id := by clear bad hb2 hk hX h1 h2 h3 h4 hm hm0; simp_all
      have hup : ¬ r.term < m.term := by clear bad hb2 hk hX h1 h2 h3 h4 hm hm0; simp_all
      rw [show stepF r m = (0, if m.term < r.term then refuseF r m else handleF r m) by
        rw [stepF, if_neg (by simp [hr, hg.1, hg.2]), upF, if_neg hup]; split <;> rfl] at hk
      have := step2_spec (m1 := m1) (ω := ω) (F := F) hI1 (hX.mono hI1) hw hE ho (hm.mono hI1) hR hk
      simpa only [List.cons_append, List.append_assoc] using this
  · repeat' (first | (with_reducible refine drawC ?_) | (with_reducible refine drawW1 ?_) | (with_reducible refine drawW2 ?_) | (with_reducible refine keepC (by repeat (first | exact Ext.refl _ | assumption | refine Ext.trans ?_ (by assumption))) ?_) | (with_reducible refine newI (fun _ => ?_)) | first | (with_reducible refine rdb ?_) | ((with_reducible refine st1 ?_ ?_); rfl) | ((with_reducible refine rdB ?_ ?_); rfl) | (with_reducible refine rdbS ?_) | ((with_reducible refine rdBS ?_ ?_); rfl) | ((with_reducible refine stB ?_ ?_ ?_ ?_); rfl; rfl; exact one_all rfl) | ((with_reducible refine rdP _ rfl ?_ ?_); rfl) | ((with_reducible refine rdPS _ rfl ?_ ?_); rfl) | ((with_reducible refine stP _ rfl ?_ ?_ ?_ ?_); rfl; rfl; rfl) | (with_reducible refine And.intro ?_ ?_) | (simp only [Bool.not_true, Bool.not_false, Bool.and_self, Bool.true_and, Int.reduceBEq, Int.reduceBNe, Int.reduceLT, Int.reduceLE, decide_true, decide_false, Br_true, Br_false, Gd_tt, Gd_ft, Gd_tf, Gd_ff, beq_self_eq_true, bne_self_eq_false]) | (with_reducible refine gd_split (fun _ => ?_) (fun _ => ?_)) | (with_reducible refine br_split (fun _ => ?_) (fun _ => ?_)) | (simp only [Pv_some, fldV_p, nilV_p, nilV_f, lenV_s, capV_s, sLen, minV_i, maxV_i, strV_s, unV_not, unV_neg, pickV_t, pickV_f, exV_t, cvIV_i, binI_add, binI_sub, binI_mul, binI_eql, binI_neq, binI_lss, binI_leq, binI_gtr, binI_geq, binI_and, binI_or, binB_eql, binB_neq, sEq, sNe, sLt, sLe, sGt, sGe, stampEq, stampNe, fldv_agg, fldv_one, binP_eql_nil, binP_neq_nil, binN_eql_nil, binN_neq_nil, binN_eql_nn, binN_neq_nn, Br_true, Br_false, Gd_tt, Gd_ft, Gd_tf, Gd_ff, cells_agg, List.getElem?_toArray, List.getElem?_cons_zero, List.getElem?_cons_succ, Nat.zero_add, Nat.add_zero, Nat.zero_mul, List.drop_succ_cons, List.drop_zero, List.take_succ_cons, List.take_zero, List.nil_append, List.cons_append, Nat.reduceAdd, List.drop_nil, List.take_nil, bld_1, bld_2, bld_3, bld_4, bld_5, bld_6, bld_7, bld_8, bld_9, bld_10, bld_11, bld_12, bld_13, bld_14, bld_15, bld_16, bld_17, bld_18]))
    exact bad (by rw [stepF, if_pos (.inl hr)]) I1 hI1
end
end Go.Proofs.Ytdcpeboecmkmlaa
