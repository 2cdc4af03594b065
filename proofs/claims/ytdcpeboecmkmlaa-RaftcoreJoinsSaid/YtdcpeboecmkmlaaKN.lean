/-
  The program's node: its calls.
-/
-- S3
import Derived.Test.YtdcpeboecmkmlaaKM
set_option linter.unusedSimpArgs false
set_option linter.unusedVariables false
namespace Go.Proofs.Ytdcpeboecmkmlaa
open Go.SL
set_option maxRecDepth 10000

theorem takeF_nil {r : RF} (h : r.out = []) : takeF r = r := by cases r; simp only at h; subst h; rfl
section
variable {ω : Om} {I : Imm} {L : LH} {K : Value → M}

/-- Step behind its tests -/
theorem step3_spec {b m1 : Nat} {o : Obj} {X F : LH} {r : RF} {I0 : Imm} (hI0 : Ext I0 I) (h : RaftR I b X r)
    (hk : ∀ X' v I', Ext I0 I' → Msgs I' [] v r.out → RaftR I' b X' (takeF r) → K (.tuple #[v, .int .i64 0]) I' (X' ++ F)) :
    sh40_3 ω (.pointer (some ⟨b, 0, none⟩)) (.slice none 0 0) (.int .i64 0) (fun v => Gh (K v)) I (X ++ ((m1, o) :: F)) := by
  unfold sh40_3
  refine call (take_spec h (fun X' v I1 hI1 hv hX' => ?_))
  exact Gh.to (X' ++ F) (Gh.done (hk X' v I1 (hI0.trans hI1) hv hX'))
theorem step3_spec' {b m1 : Nat} {o : Obj} {X F : LH} {r : RF} {I0 : Imm} (hI0 : Ext I0 I) (h : RaftR I b X r)
    (hk : ∀ X' v I', Ext I0 I' → Msgs I' [] v r.out → RaftR I' b X' (takeF r) → K (.tuple #[v, .int .i64 0]) I' (X' ++ F)) :
    sh40_3 ω (.pointer (some ⟨b, 0, none⟩)) (.slice none 0 0) (.int .i64 0) (fun v => Gh (K v)) I ((m1, o) :: (X ++ F)) := by
  unfold sh40_3
  refine call (Cal.to (X ++ F) (take_spec h (fun X' v I1 hI1 hv hX' => ?_)))
  exact Gh.done (hk X' v I1 (hI0.trans hI1) hv hX')

theorem step2_spec {b m1 E B : Nat} {X F : LH} {r : RF} {m : RM} {a0 a1 a2 : Option Addr} {p0 p1 p2 : Nat} {I0 : Imm} (hI0 : Ext I0 I) (h : RaftR I b X r) (hw : RWF E B r) (hE : (E + 64) * 48 ≤ 150000000000000) (ho : r.out = [])
    (hm : MsgV I m (mcells m (.slice a0 m.ents.length p0) (.slice a1 m.mem.length p1) (.slice a2 m.data.length p2))) (hr : RB m)
    (hk : ∀ X' v I', Ext I0 I' → Msgs I' [] v (if m.term < r.term then refuseF r m else handleF r m).out → RaftR I' b X' (takeF (if m.term < r.term then refuseF r m else handleF r m)) → K (.tuple #[v, .int .i64 0]) I' (X' ++ F)) :
    sh40_2 ω (.pointer (some ⟨b, 0, none⟩)) (.pointer (some ⟨m1, 0, none⟩)) (.slice none 0 0) (.int .i64 0) (fun v => Gh (K v)) I
      ((m1, Obj.cells (mcells m (.slice a0 m.ents.length p0) (.slice a1 m.mem.length p1) (.slice a2 m.data.length p2)).toArray 77 (0, 0)) :: (X ++ F)) := by
  have hX := h
  obtain ⟨lb, XL, XO, stv, ov, z0, z1, z2, oc, rfl, h1, h2, h3, h4⟩ := h
  have hol : r.out.length = 0 := by rw [ho]; rfl
  unfold sh40_2
  simp only [List.cons_append, List.append_assoc]
  have back : ∀ {K : Value → M} {f : FuncId} {args : Array Value}, (∀ X, RaftR I b X r → Cal Try.prog ω f args K I (X ++ ((m1, Obj.cells (mcells m (.slice a0 m.ents.length p0) (.slice a1 m.mem.length p1) (.slice a2 m.data.length p2)).toArray 77 (0, 0)) :: F))) →
      Cal Try.prog ω f args K I ((m1, Obj.cells (mcells m (.slice a0 m.ents.length p0) (.slice a1 m.mem.length p1) (.slice a2 m.data.length p2)).toArray 77 (0, 0)) :: (b, Obj.cells (rcells r z0 z1 z2 (.pointer (some ⟨lb, 0, none⟩)) stv ov).toArray 131 (0, 0)) :: (XL ++ (XO ++ F))) :=
    fun hc => raft_cal (r := r) b _ z0 z1 z2 h1 h2 h3 h4 rfl hc
  repeat' (first | (with_reducible refine drawC ?_) | (with_reducible refine drawW1 ?_) | (with_reducible refine drawW2 ?_) | (with_reducible refine keepC (by repeat (first | exact Ext.refl _ | assumption | refine Ext.trans ?_ (by assumption))) ?_) | (with_reducible refine newI (fun _ => ?_)) | first | (with_reducible refine rdb ?_) | ((with_reducible refine st1 ?_ ?_); rfl) | ((with_reducible refine rdB ?_ ?_); rfl) | (with_reducible refine rdbS ?_) | ((with_reducible refine rdBS ?_ ?_); rfl) | ((with_reducible refine stB ?_ ?_ ?_ ?_); rfl; rfl; exact one_all rfl) | ((with_reducible refine rdP _ rfl ?_ ?_); rfl) | ((with_reducible refine rdPS _ rfl ?_ ?_); rfl) | ((with_reducible refine stP _ rfl ?_ ?_ ?_ ?_); rfl; rfl; rfl) | (with_reducible refine And.intro ?_ ?_) | (simp only [Bool.not_true, Bool.not_false, Bool.and_self, Bool.true_and, Int.reduceBEq, Int.reduceBNe, Int.reduceLT, Int.reduceLE, decide_true, decide_false, Br_true, Br_false, Gd_tt, Gd_ft, Gd_tf, Gd_ff, beq_self_eq_true, bne_self_eq_false]) | (with_reducible refine gd_split (fun _ => ?_) (fun _ => ?_)) | (with_reducible refine br_split (fun _ => ?_) (fun _ => ?_)) | (simp only [SSd, List.getElem?_toArray, List.getElem?_cons_zero, List.getElem?_cons_succ, Nat.zero_add, Nat.add_zero, Nat.zero_mul, List.drop_succ_cons, List.drop_zero, List.take_succ_cons, List.take_zero, List.nil_append, List.cons_append, Nat.reduceAdd, List.drop_nil, List.take_nil]))
  · rename_i hlt
    simp at hlt
    rw [if_pos hlt] at hk
    refine call (back (fun X hX => refuse_spec hX hm (by omega) (fun X' hX' => ?_)))
    refine call (take_spec hX' (fun X2 v I1 hI1 hv hX2 => ?_))
    exact Gh.to (X2 ++ F) (Gh.done (hk X2 v I1 (hI0.trans hI1) hv hX2))
  all_goals (
    have hlt' : ¬ m.term < r.term := by simp_all
    rw [if_neg hlt'] at hk)
  · rw [show handleF r m = askedF r m by clear hk back h1 h2 h3 h4 hm hX; simp_all [handleF]] at hk
    exact call (back (fun X hX => asked_spec hX hw.wf hm (by omega) (fun X' hX' => step3_spec hI0 hX' hk)))
  · rw [show handleF r m = (if electedF { r with vt := updI r.vt m.frm true } then leadF { r with vt := updI r.vt m.frm true } else { r with vt := updI r.vt m.frm true }) by clear hk back h1 h2 h3 h4 hm hX; simp_all [handleF, grantedF]] at hk
    have hw' : RWF E B { r with vt := updI r.vt m.frm true } := ⟨hw.wf, hw.len, hw.grp, hw.idn, hw.trm, hw.vot, hw.lst, hw.stl, hw.ela, hw.nxb, hw.mtb⟩
    unfold sh40_5
    repeat' (first | (with_reducible refine drawC ?_) | (with_reducible refine drawW1 ?_) | (with_reducible refine drawW2 ?_) | (with_reducible refine keepC (by repeat (first | exact Ext.refl _ | assumption | refine Ext.trans ?_ (by assumption))) ?_) | (with_reducible refine newI (fun _ => ?_)) | first | (with_reducible refine rdb ?_) | ((with_reducible refine st1 ?_ ?_); rfl) | ((with_reducible refine rdB ?_ ?_); rfl) | (with_reducible refine rdbS ?_) | ((with_reducible refine rdBS ?_ ?_); rfl) | ((with_reducible refine stB ?_ ?_ ?_ ?_); rfl; rfl; exact one_all rfl) | ((with_reducible refine rdP _ rfl ?_ ?_); rfl) | ((with_reducible refine rdPS _ rfl ?_ ?_); rfl) | ((with_reducible refine stP _ rfl ?_ ?_ ?_ ?_); rfl; rfl; rfl) | (with_reducible refine And.intro ?_ ?_) | (simp only [Bool.not_true, Bool.not_false, Bool.and_self, Bool.true_and, Int.reduceBEq, Int.reduceBNe, Int.reduceLT, Int.reduceLE, decide_true, decide_false, Br_true, Br_false, Gd_tt, Gd_ft, Gd_tf, Gd_ff, beq_self_eq_true, bne_self_eq_false]) | (with_reducible refine gd_split (fun _ => ?_) (fun _ => ?_)) | (with_reducible refine br_split (fun _ => ?_) (fun _ => ?_)) | (simp only [SSd, List.getElem?_toArray, List.getElem?_cons_zero, List.getElem?_cons_succ, Nat.zero_add, Nat.add_zero, Nat.zero_mul, List.drop_succ_cons, List.drop_zero, List.take_succ_cons, List.take_zero, List.nil_append, List.cons_append, Nat.reduceAdd, List.drop_nil, List.take_nil]))
    simp only [ixPV_at _ (show 0 ≤ m.frm by have := hr.frm; omega) (show m.frm < ((6 : Nat) : Int) by have := hr.frm; omega), SSd, List.getElem?_toArray, List.getElem?_cons_zero, List.getElem?_cons_succ, Nat.zero_add, Nat.add_zero, Nat.zero_mul, List.drop_succ_cons, List.drop_zero, List.take_succ_cons, List.take_zero, List.nil_append, List.cons_append, Nat.reduceAdd, List.drop_nil, List.take_nil]
    refine stL (rc_svt hr.frm) (by rw [rc_len]; have := hr.frm; omega) rfl ?_
    refine call (raft_cal (r := { r with vt := updI r.vt m.frm true }) b ((m1, Obj.cells (mcells m (.slice a0 m.ents.length p0) (.slice a1 m.mem.length p1) (.slice a2 m.data.length p2)).toArray 77 (0, 0)) :: F) z0 z1 z2 h1 h2 h3 h4 rfl (fun X hX => ?_))
    exact elected_spec hX hw' (by omega) (by simp only; omega) (fun X' I1 hI1 hX' => step3_spec (hI0.trans hI1) hX' hk)
  · rw [show handleF r m = r by clear hk back h1 h2 h3 h4 hm hX; simp_all [handleF, grantedF]] at hk
    simpa only [List.cons_append, List.append_assoc] using step3_spec' (m1 := m1) (o := Obj.cells (mcells m (.slice a0 m.ents.length p0) (.slice a1 m.mem.length p1) (.slice a2 m.data.length p2)).toArray 77 (0, 0)) hI0 hX hk
  · rw [show handleF r m = r by clear hk back h1 h2 h3 h4 hm hX; simp_all [handleF, grantedF]] at hk
    simpa only [List.cons_append, List.append_assoc] using step3_spec' (m1 := m1) (o := Obj.cells (mcells m (.slice a0 m.ents.length p0) (.slice a1 m.mem.length p1) (.slice a2 m.data.length p2)).toArray 77 (0, 0)) hI0 hX hk
  · rw [show handleF r m = (if r.role = 3 then r else appendF r m) by clear hk back h1 h2 h3 h4 hm hX; simp_all [handleF]] at hk
    exact call (back (fun X hX => append_spec hX hw hE hm hr (by omega) (fun X' I1 hI1 hX' => step3_spec (hI0.trans hI1) hX' hk)))
  · rw [show handleF r m = (if r.role = 3 then r else installF r m) by clear hk back h1 h2 h3 h4 hm hX; simp_all [handleF]] at hk
    exact call (back (fun X hX => install_spec hX hw hm hr (by omega) (fun X' I1 hI1 hX' => step3_spec (hI0.trans hI1) hX' hk)))
  · rw [show handleF r m = (if r.role = 3 then appendedF r m else r) by clear hk back h1 h2 h3 h4 hm hX; simp_all [handleF]] at hk
    exact call (back (fun X hX => appended_spec hX hw hm hr (by omega) (fun X' I1 hI1 hX' => step3_spec (hI0.trans hI1) hX' hk)))
  · rw [show handleF r m = r by clear hk back h1 h2 h3 h4 hm hX; simp_all [handleF]] at hk
    simpa only [List.cons_append, List.append_assoc] using step3_spec' (m1 := m1) (o := Obj.cells (mcells m (.slice a0 m.ents.length p0) (.slice a1 m.mem.length p1) (.slice a2 m.data.length p2)).toArray 77 (0, 0)) hI0 hX hk

theorem step2_spec' {b m1 E B : Nat} {X F : LH} {r : RF} {m : RM} {a0 a1 a2 : Option Addr} {p0 p1 p2 : Nat} {I0 : Imm} (hI0 : Ext I0 I) (h : RaftR I b X r) (hw : RWF E B r) (hE : (E + 64) * 48 ≤ 150000000000000) (ho : r.out = [])
    (hm : MsgV I m (mcells m (.slice a0 m.ents.length p0) (.slice a1 m.mem.length p1) (.slice a2 m.data.length p2))) (hr : RB m)
    (hk : ∀ X' v I', Ext I0 I' → Msgs I' [] v (if m.term < r.term then refuseF r m else handleF r m).out → RaftR I' b X' (takeF (if m.term < r.term then refuseF r m else handleF r m)) → K (.tuple #[v, .int .i64 0]) I' (X' ++ F)) :
    Gh (sh40_2 ω (.pointer (some ⟨b, 0, none⟩)) (.pointer (some ⟨m1, 0, none⟩)) (.slice none 0 0) (.int .i64 0) (fun v => Gh (K v))) I
      (X ++ ((m1, Obj.cells (mcells m (.slice a0 m.ents.length p0) (.slice a1 m.mem.length p1) (.slice a2 m.data.length p2)).toArray 77 (0, 0)) :: F)) :=
  Gh.perm List.perm_middle (Gh.done (step2_spec hI0 h hw hE ho hm hr hk))

theorem step_spec {b E B : Nat} {X F : LH} {r : RF} {m : RM} {c : List Value} (h : RaftR I b X r) (hw : RWF E B r) (hE : (E + 64) * 48 ≤ 150000000000000) (ho : r.out = []) (hm : MsgV I m c) (hml : m.mem.length < 4611686018427387904)
    (hk : ∀ X' v I', Ext I I' → Msgs I' [] v (stepF r m).2.out → RaftR I' b X' (takeF (stepF r m).2) → K (.tuple #[v, .int .i64 (stepF r m).1]) I' (X' ++ F)) :
    Cal Try.prog ω 40 #[.pointer (some ⟨b, 0, none⟩), .agg c.toArray] K I (X ++ F) := by
  have hm0 := hm
  have hX := h
  obtain ⟨lb, XL, XO, stv, ov, z0, z1, z2, oc, rfl, h1, h2, h3, h4⟩ := h
  obtain ⟨a0, p0, a1, p1, a2, p2, rfl, hEn, hM, hD⟩ := hm.form
  refine cal40 ?_
  unfold sh40
  simp only [List.cons_append, List.append_assoc] at hk ⊢
  refine newI (fun m1 => ?_)
  refine rdB rfl ?_
  have bad : stepF r m = (1, r) → ∀ I', Ext I I' → Gh (K (.tuple #[.slice none 0 0, .int .i64 1])) I' ((m1, Obj.cells (mcells m (.slice a0 m.ents.length p0) (.slice a1 m.mem.length p1) (.slice a2 m.data.length p2)).toArray 77 (0, 0)) :: (b, Obj.cells (rcells r z0 z1 z2 (.pointer (some ⟨lb, 0, none⟩)) stv ov).toArray 131 (0, 0)) :: (XL ++ (XO ++ F))) := fun hs I' hI' => by
    rw [hs] at hk
    simp only [ho, takeF_nil ho] at hk
    exact raft_end (r := r) (F := F) z0 z1 z2 (fun X' h' => hk X' _ I' hI' (RL.nil _ _) h') (h1.mono hI') (h2.mono hI') h3 (h4.imp fun _ _ h => h.mono hI') rfl
  refine call (enc_spec hm0 hml (fun hr v I1 hI1 => ?_) (fun hr I1 hI1 => ?_))
  · have hR := right_data hr
    have hb2 : (m.group ≠ r.group ∨ m.to ≠ r.id) → stepF r m = (1, r) := fun hne => by rw [stepF, if_pos (.inr hne)]
    repeat' (first | (with_reducible refine drawC ?_) | (with_reducible refine drawW1 ?_) | (with_reducible refine drawW2 ?_) | (with_reducible refine keepC (by repeat (first | exact Ext.refl _ | assumption | refine Ext.trans ?_ (by assumption))) ?_) | (with_reducible refine newI (fun _ => ?_)) | first | (with_reducible refine rdb ?_) | ((with_reducible refine st1 ?_ ?_); rfl) | ((with_reducible refine rdB ?_ ?_); rfl) | (with_reducible refine rdbS ?_) | ((with_reducible refine rdBS ?_ ?_); rfl) | ((with_reducible refine stB ?_ ?_ ?_ ?_); rfl; rfl; exact one_all rfl) | ((with_reducible refine rdP _ rfl ?_ ?_); rfl) | ((with_reducible refine rdPS _ rfl ?_ ?_); rfl) | ((with_reducible refine stP _ rfl ?_ ?_ ?_ ?_); rfl; rfl; rfl) | (with_reducible refine And.intro ?_ ?_) | (simp only [Bool.not_true, Bool.not_false, Bool.and_self, Bool.true_and, Int.reduceBEq, Int.reduceBNe, Int.reduceLT, Int.reduceLE, decide_true, decide_false, Br_true, Br_false, Gd_tt, Gd_ft, Gd_tf, Gd_ff, beq_self_eq_true, bne_self_eq_false]) | (with_reducible refine gd_split (fun _ => ?_) (fun _ => ?_)) | (with_reducible refine br_split (fun _ => ?_) (fun _ => ?_)) | (simp only [SSd, List.getElem?_toArray, List.getElem?_cons_zero, List.getElem?_cons_succ, Nat.zero_add, Nat.add_zero, Nat.zero_mul, List.drop_succ_cons, List.drop_zero, List.take_succ_cons, List.take_zero, List.nil_append, List.cons_append, Nat.reduceAdd, List.drop_nil, List.take_nil]))
    all_goals first
      | (refine bad (hb2 ?_) I1 hI1; clear bad hb2 hk hX h1 h2 h3 h4 hm hm0; simp_all; done)
      | skip
    · have hg : m.group = r.group ∧ m.to = r.id := by clear bad hb2 hk hX h1 h2 h3 h4 hm hm0; simp_all
      have hup : r.term < m.term := by clear bad hb2 hk hX h1 h2 h3 h4 hm hm0; simp_all
      rw [show stepF r m = (0, if m.term < (followF r m.term).term then refuseF (followF r m.term) m else handleF (followF r m.term) m) by
        rw [stepF, if_neg (by simp [hr, hg.1, hg.2]), if_neg (by omega), upF, if_pos hup, if_neg (by simp only [followF]; rw [if_pos hup]; omega)]] at hk
      unfold sh40_6
      repeat' (first | (with_reducible refine drawC ?_) | (with_reducible refine drawW1 ?_) | (with_reducible refine drawW2 ?_) | (with_reducible refine keepC (by repeat (first | exact Ext.refl _ | assumption | refine Ext.trans ?_ (by assumption))) ?_) | (with_reducible refine newI (fun _ => ?_)) | first | (with_reducible refine rdb ?_) | ((with_reducible refine st1 ?_ ?_); rfl) | ((with_reducible refine rdB ?_ ?_); rfl) | (with_reducible refine rdbS ?_) | ((with_reducible refine rdBS ?_ ?_); rfl) | ((with_reducible refine stB ?_ ?_ ?_ ?_); rfl; rfl; exact one_all rfl) | ((with_reducible refine rdP _ rfl ?_ ?_); rfl) | ((with_reducible refine rdPS _ rfl ?_ ?_); rfl) | ((with_reducible refine stP _ rfl ?_ ?_ ?_ ?_); rfl; rfl; rfl) | (with_reducible refine And.intro ?_ ?_) | (simp only [Bool.not_true, Bool.not_false, Bool.and_self, Bool.true_and, Int.reduceBEq, Int.reduceBNe, Int.reduceLT, Int.reduceLE, decide_true, decide_false, Br_true, Br_false, Gd_tt, Gd_ft, Gd_tf, Gd_ff, beq_self_eq_true, bne_self_eq_false]) | (with_reducible refine gd_split (fun _ => ?_) (fun _ => ?_)) | (with_reducible refine br_split (fun _ => ?_) (fun _ => ?_)) | (simp only [SSd, List.getElem?_toArray, List.getElem?_cons_zero, List.getElem?_cons_succ, Nat.zero_add, Nat.add_zero, Nat.zero_mul, List.drop_succ_cons, List.drop_zero, List.take_succ_cons, List.take_zero, List.nil_append, List.cons_append, Nat.reduceAdd, List.drop_nil, List.take_nil]))
      refine callG (raft_cal (r := r) b ((m1, Obj.cells (mcells m (.slice a0 m.ents.length p0) (.slice a1 m.mem.length p1) (.slice a2 m.data.length p2)).toArray 77 (0, 0)) :: F) z0 z1 z2 (h1.mono hI1) (h2.mono hI1) h3 (h4.imp fun _ _ h => h.mono hI1) rfl (fun X hX => ?_))
      refine follow_spec11 hX (fun X' hX' => ?_)
      refine step2_spec' hI1 hX' (hw.follow (by have := hR.trm; omega)) hE ho (hm.mono hI1) hR hk
    · have hg : m.group = r.group ∧ m.to = r.id := by clear bad hb2 hk hX h1 h2 h3 h4 hm hm0; simp_all
      have hup : ¬ r.term < m.term := by clear bad hb2 hk hX h1 h2 h3 h4 hm hm0; simp_all
      rw [show stepF r m = (0, if m.term < r.term then refuseF r m else handleF r m) by
        rw [stepF, if_neg (by simp [hr, hg.1, hg.2]), upF, if_neg hup]; split <;> rfl] at hk
      have := step2_spec (m1 := m1) (ω := ω) (F := F) hI1 (hX.mono hI1) hw hE ho (hm.mono hI1) hR hk
      simpa only [List.cons_append, List.append_assoc] using this
  · repeat' (first | (with_reducible refine drawC ?_) | (with_reducible refine drawW1 ?_) | (with_reducible refine drawW2 ?_) | (with_reducible refine keepC (by repeat (first | exact Ext.refl _ | assumption | refine Ext.trans ?_ (by assumption))) ?_) | (with_reducible refine newI (fun _ => ?_)) | first | (with_reducible refine rdb ?_) | ((with_reducible refine st1 ?_ ?_); rfl) | ((with_reducible refine rdB ?_ ?_); rfl) | (with_reducible refine rdbS ?_) | ((with_reducible refine rdBS ?_ ?_); rfl) | ((with_reducible refine stB ?_ ?_ ?_ ?_); rfl; rfl; exact one_all rfl) | ((with_reducible refine rdP _ rfl ?_ ?_); rfl) | ((with_reducible refine rdPS _ rfl ?_ ?_); rfl) | ((with_reducible refine stP _ rfl ?_ ?_ ?_ ?_); rfl; rfl; rfl) | (with_reducible refine And.intro ?_ ?_) | (simp only [Bool.not_true, Bool.not_false, Bool.and_self, Bool.true_and, Int.reduceBEq, Int.reduceBNe, Int.reduceLT, Int.reduceLE, decide_true, decide_false, Br_true, Br_false, Gd_tt, Gd_ft, Gd_tf, Gd_ff, beq_self_eq_true, bne_self_eq_false]) | (with_reducible refine gd_split (fun _ => ?_) (fun _ => ?_)) | (with_reducible refine br_split (fun _ => ?_) (fun _ => ?_)) | (simp only [SSd, List.getElem?_toArray, List.getElem?_cons_zero, List.getElem?_cons_succ, Nat.zero_add, Nat.add_zero, Nat.zero_mul, List.drop_succ_cons, List.drop_zero, List.take_succ_cons, List.take_zero, List.nil_append, List.cons_append, Nat.reduceAdd, List.drop_nil, List.take_nil]))
    exact bad (by rw [stepF, if_pos (.inl hr)]) I1 hI1
end
end Go.Proofs.Ytdcpeboecmkmlaa

namespace Go.Proofs.Ytdcpeboecmkmlaa
open Go.SL
set_option maxRecDepth 10000

section
variable {ω : Om} {I : Imm} {L : LH} {K : Value → M}

theorem tick_spec {b E B : Nat} {X F : LH} {r : RF} {w : Int} (h : RaftR I b X r) (hw : RWF E B r) (hE : (E + 1) * 48 ≤ 150000000000000) (hB : B ≤ 1000000) (ho : r.out = [])
    (hk : ∀ X' v I', Ext I I' → Msgs I' [] v (tickF r w).out → RaftR I' b X' (takeF (tickF r w)) → K v I' (X' ++ F)) : Cal Try.prog ω 39 #[.pointer (some ⟨b, 0, none⟩), .int .i64 w] K I (X ++ F) := by
  obtain ⟨lb, XL, XO, stv, ov, z0, z1, z2, oc, rfl, h1, h2, h3, h4⟩ := h
  have hol : r.out.length = 0 := by rw [ho]; rfl
  have hel := hw.ela
  refine cal39 ?_
  unfold sh39
  simp only [List.cons_append, List.append_assoc, SSd, List.getElem?_toArray, List.getElem?_cons_zero, List.getElem?_cons_succ, Nat.zero_add, Nat.add_zero, Nat.zero_mul, List.drop_succ_cons, List.drop_zero, List.take_succ_cons, List.take_zero, List.nil_append, List.cons_append, Nat.reduceAdd, List.drop_nil, List.take_nil]
  refine rdb ?_
  try simp only [SSd, List.getElem?_toArray, List.getElem?_cons_zero, List.getElem?_cons_succ, Nat.zero_add, Nat.add_zero, Nat.zero_mul, List.drop_succ_cons, List.drop_zero, List.take_succ_cons, List.take_zero, List.nil_append, List.cons_append, Nat.reduceAdd, List.drop_nil, List.take_nil]
  refine br_split (fun h3' => ?_) (fun h3' => ?_)
  · simp at h3'
    rw [tickF, if_pos h3'] at hk
    refine call (raft_cal (r := r) b F z0 z1 z2 h1 h2 h3 h4 rfl (fun X hX => ?_))
    refine sendAll_spec hX hw (by omega) (fun X' I1 hI1 hX' => ?_)
    exact call (take_spec hX' (fun X2 v I2 hI2 hv hX2 => Gh.done (hk X2 v I2 (hI1.trans hI2) hv hX2)))
  simp at h3'
  rw [tickF, if_neg h3'] at hk
  have hw' : RWF E (B + 1) { r with elapsed := r.elapsed + 1 } := ⟨hw.wf, hw.len, hw.grp, hw.idn, hw.trm, hw.vot, hw.lst, hw.stl, by simp only; omega, hw.nxb, hw.mtb⟩
  repeat' (first | (with_reducible refine drawC ?_) | (with_reducible refine drawW1 ?_) | (with_reducible refine drawW2 ?_) | (with_reducible refine keepC (by repeat (first | exact Ext.refl _ | assumption | refine Ext.trans ?_ (by assumption))) ?_) | (with_reducible refine newI (fun _ => ?_)) | first | (with_reducible refine rdb ?_) | ((with_reducible refine st1 ?_ ?_); rfl) | ((with_reducible refine rdB ?_ ?_); rfl) | (with_reducible refine rdbS ?_) | ((with_reducible refine rdBS ?_ ?_); rfl) | ((with_reducible refine stB ?_ ?_ ?_ ?_); rfl; rfl; exact one_all rfl) | ((with_reducible refine rdP _ rfl ?_ ?_); rfl) | ((with_reducible refine rdPS _ rfl ?_ ?_); rfl) | ((with_reducible refine stP _ rfl ?_ ?_ ?_ ?_); rfl; rfl; rfl) | (with_reducible refine And.intro ?_ ?_) | (simp only [Bool.not_true, Bool.not_false, Bool.and_self, Bool.true_and, Int.reduceBEq, Int.reduceBNe, Int.reduceLT, Int.reduceLE, decide_true, decide_false, Br_true, Br_false, Gd_tt, Gd_ft, Gd_tf, Gd_ff, beq_self_eq_true, bne_self_eq_false]) | (with_reducible refine gd_split (fun _ => ?_) (fun _ => ?_)) | (with_reducible refine br_split (fun _ => ?_) (fun _ => ?_)) | (simp only [SSd, List.getElem?_toArray, List.getElem?_cons_zero, List.getElem?_cons_succ, Nat.zero_add, Nat.add_zero, Nat.zero_mul, List.drop_succ_cons, List.drop_zero, List.take_succ_cons, List.take_zero, List.nil_append, List.cons_append, Nat.reduceAdd, List.drop_nil, List.take_nil, wrap_i64 (r.elapsed + 1) (by omega)]))
  · rename_i hwt
    simp at hwt
    refine call (lmembers_spec h1.view hw.wf (fun v I1 hI1 hv => ?_))
    refine keepC hI1 ?_
    try simp only [SSd, List.getElem?_toArray, List.getElem?_cons_zero, List.getElem?_cons_succ, Nat.zero_add, Nat.add_zero, Nat.zero_mul, List.drop_succ_cons, List.drop_zero, List.take_succ_cons, List.take_zero, List.nil_append, List.cons_append, Nat.reduceAdd, List.drop_nil, List.take_nil]
    refine rdbS ?_
    refine call (contains_spec hv (by have := memB_len hw.wf.mems; omega) ?_)
    have h1' := h1.mono hI1
    have h2' := h2.mono hI1
    have h4' := h4.imp fun _ _ h => h.mono hI1
    refine br_split (fun hc => ?_) (fun hc => ?_)
    · rw [if_pos ⟨hwt, hc⟩] at hk
      unfold sh39_2
      refine call (raft_cal (r := { r with elapsed := r.elapsed + 1 }) b F z0 z1 z2 h1' h2' h3 h4' rfl (fun X hX => ?_))
      refine want_spec hX hw' hE (by simp only; omega) (fun X' I2 hI2 hX' => ?_)
      unfold sh39_1
      exact call (take_spec hX' (fun X2 v I3 hI3 hv hX2 => Gh.done (hk X2 v I3 ((hI1.trans hI2).trans hI3) hv hX2)))
    · rw [if_neg (by intro h; unfold mems at h; rw [hc] at h; exact absurd h.2 (by simp))] at hk
      unfold sh39_1
      refine call (raft_cal (r := { r with elapsed := r.elapsed + 1 }) b F z0 z1 z2 h1' h2' h3 h4' rfl (fun X hX => ?_))
      exact take_spec hX (fun X2 v I3 hI3 hv hX2 => Gh.done (hk X2 v I3 (hI1.trans hI3) hv hX2))
  · exact Stay.start _ _
  · rename_i hwt
    simp at hwt
    rw [if_neg (by omega)] at hk
    unfold sh39_1
    refine call (raft_cal (r := { r with elapsed := r.elapsed + 1 }) b F z0 z1 z2 h1 h2 h3 h4 rfl (fun X hX => ?_))
    exact take_spec hX (fun X2 v I3 hI3 hv hX2 => Gh.done (hk X2 v I3 hI3 hv hX2))

theorem addc_spec {b E B : Nat} {X F : LH} {r : RF} {k : Int} {dv : Value} {d : List UInt8} (h : RaftR I b X r) (hw : RWF E B r) (hE : (E + 1) * 48 ≤ 150000000000000) (ho : r.out = []) (hd : Bytes I dv d) (hdl : d.length ≤ 140737488355328)
    (hk : ∀ X' v I', Ext I I' → Msgs I' [] v (addF r k d).2.2.out → RaftR I' b X' (takeF (addF r k d).2.2) → K (.tuple #[.int .i64 (addF r k d).1, v, .int .i64 (addF r k d).2.1]) I' (X' ++ F)) :
    Cal Try.prog ω 98 #[.pointer (some ⟨b, 0, none⟩), .int .i64 k, dv] K I (X ++ F) := by
  obtain ⟨lb, XL, XO, stv, ov, z0, z1, z2, oc, rfl, h1, h2, h3, h4⟩ := h
  have hol : r.out.length = 0 := by rw [ho]; rfl
  refine cal98 ?_
  unfold sh98
  simp only [List.cons_append, List.append_assoc]
  repeat' (first | (with_reducible refine drawC ?_) | (with_reducible refine drawW1 ?_) | (with_reducible refine drawW2 ?_) | (with_reducible refine keepC (by repeat (first | exact Ext.refl _ | assumption | refine Ext.trans ?_ (by assumption))) ?_) | (with_reducible refine newI (fun _ => ?_)) | first | (with_reducible refine rdb ?_) | ((with_reducible refine st1 ?_ ?_); rfl) | ((with_reducible refine rdB ?_ ?_); rfl) | (with_reducible refine rdbS ?_) | ((with_reducible refine rdBS ?_ ?_); rfl) | ((with_reducible refine stB ?_ ?_ ?_ ?_); rfl; rfl; exact one_all rfl) | ((with_reducible refine rdP _ rfl ?_ ?_); rfl) | ((with_reducible refine rdPS _ rfl ?_ ?_); rfl) | ((with_reducible refine stP _ rfl ?_ ?_ ?_ ?_); rfl; rfl; rfl) | (with_reducible refine And.intro ?_ ?_) | (simp only [Bool.not_true, Bool.not_false, Bool.and_self, Bool.true_and, Int.reduceBEq, Int.reduceBNe, Int.reduceLT, Int.reduceLE, decide_true, decide_false, Br_true, Br_false, Gd_tt, Gd_ft, Gd_tf, Gd_ff, beq_self_eq_true, bne_self_eq_false]) | (with_reducible refine gd_split (fun _ => ?_) (fun _ => ?_)) | (with_reducible refine br_split (fun _ => ?_) (fun _ => ?_)) | (simp only [SSd, List.getElem?_toArray, List.getElem?_cons_zero, List.getElem?_cons_succ, Nat.zero_add, Nat.add_zero, Nat.zero_mul, List.drop_succ_cons, List.drop_zero, List.take_succ_cons, List.take_zero, List.nil_append, List.cons_append, Nat.reduceAdd, List.drop_nil, List.take_nil]))
  refine callG (Cal.split XL (add_spec h1 hw.wf hd hdl (by have := hw.len; omega) (fun XL' I1 hI1 hL' => ?_)))
  have hwa := hw.add hE k d
  have hgg : (addG r.g r.term k d).2.1 ≠ 0 → (addG r.g r.term k d).2.2 = r.g := fun h => by
    unfold addG at h ⊢; split
    · rename_i hh; rw [if_pos hh] at h; exact absurd rfl h
    · rfl
  have e : addF r k d = if (addG r.g r.term k d).2.1 ≠ 0 then (0, (addG r.g r.term k d).2.1, r) else ((addG r.g r.term k d).1, 0, sendAllF (commitF { r with g := (addG r.g r.term k d).2.2 }).2) := rfl
  rw [e] at hk
  generalize addG r.g r.term k d = a at *
  have h2' := h2.mono hI1
  have h4' := h4.imp fun _ _ h => h.mono hI1
  refine Gh.pick b (XL' ++ (XO ++ F)) (Gh.done ?_)
  try simp only [SSd, List.getElem?_toArray, List.getElem?_cons_zero, List.getElem?_cons_succ, Nat.zero_add, Nat.add_zero, Nat.zero_mul, List.drop_succ_cons, List.drop_zero, List.take_succ_cons, List.take_zero, List.nil_append, List.cons_append, Nat.reduceAdd, List.drop_nil, List.take_nil]
  refine br_split (fun he => ?_) (fun he => ?_)
  · have he : a.2.1 ≠ 0 := by simpa using he
    rw [if_pos he] at hk
    simp only [ho, takeF_nil ho] at hk
    rw [hgg he] at hL'
    exact raft_end (r := r) (F := F) z0 z1 z2 (fun X' h' => hk X' _ I1 hI1 (RL.nil _ _) h') hL' h2' h3 h4' rfl
  · have he : ¬ a.2.1 ≠ 0 := by simpa using he
    rw [if_neg he] at hk
    refine call (raft_cal (r := { r with g := a.2.2 }) b F z0 z1 z2 hL' h2' h3 h4' rfl (fun X hX => ?_))
    refine commit_specR hX hwa (fun X' I2 hI2 hX' => ?_)
    refine call (sendAll_spec hX' hwa.commit (by rw [commit_out]; simp only; omega) (fun X2 I3 hI3 hX2 => ?_))
    refine call (take_spec hX2 (fun X3 v I4 hI4 hv hX3 => ?_))
    exact Gh.done (hk X3 v I4 (((hI1.trans hI2).trans hI3).trans hI4) hv hX3)

theorem propose_spec {b E B : Nat} {X F : LH} {r : RF} {dv : Value} {d : List UInt8} (h : RaftR I b X r) (hw : RWF E B r) (hE : (E + 1) * 48 ≤ 150000000000000) (ho : r.out = []) (hd : Bytes I dv d) (hdl : d.length ≤ 140737488355328)
    (hk : ∀ X' v I', Ext I I' → Msgs I' [] v (proposeF r d).2.2.out → RaftR I' b X' (takeF (proposeF r d).2.2) → K (.tuple #[.int .i64 (proposeF r d).1, v, .int .i64 (proposeF r d).2.1]) I' (X' ++ F)) :
    Cal Try.prog ω 41 #[.pointer (some ⟨b, 0, none⟩), dv] K I (X ++ F) := by
  have hX := h
  obtain ⟨lb, XL, XO, stv, ov, z0, z1, z2, oc, rfl, h1, h2, h3, h4⟩ := h
  refine cal41 ?_
  unfold sh41
  simp only [List.cons_append, List.append_assoc, SSd, List.getElem?_toArray, List.getElem?_cons_zero, List.getElem?_cons_succ, Nat.zero_add, Nat.add_zero, Nat.zero_mul, List.drop_succ_cons, List.drop_zero, List.take_succ_cons, List.take_zero, List.nil_append, List.cons_append, Nat.reduceAdd, List.drop_nil, List.take_nil]
  refine rdb ?_
  try simp only [SSd, List.getElem?_toArray, List.getElem?_cons_zero, List.getElem?_cons_succ, Nat.zero_add, Nat.add_zero, Nat.zero_mul, List.drop_succ_cons, List.drop_zero, List.take_succ_cons, List.take_zero, List.nil_append, List.cons_append, Nat.reduceAdd, List.drop_nil, List.take_nil]
  refine br_split (fun h3' => ?_) (fun h3' => ?_)
  · have h3' : r.role ≠ 3 := by simpa using h3'
    rw [proposeF, if_pos h3'] at hk
    simp only [ho, takeF_nil ho] at hk
    exact raft_end (r := r) (F := F) z0 z1 z2 (fun X' h' => hk X' _ I (Ext.refl I) (RL.nil _ _) h') h1 h2 h3 h4 rfl
  · have h3' : ¬ r.role ≠ 3 := by simpa using h3'
    rw [proposeF, if_neg h3'] at hk
    refine call (raft_cal (r := r) b F z0 z1 z2 h1 h2 h3 h4 rfl (fun X hX => ?_))
    refine addc_spec hX hw hE ho hd hdl (fun X' v I1 hI1 hv hX' => ?_)
    try simp only [SSd, List.getElem?_toArray, List.getElem?_cons_zero, List.getElem?_cons_succ, Nat.zero_add, Nat.add_zero, Nat.zero_mul, List.drop_succ_cons, List.drop_zero, List.take_succ_cons, List.take_zero, List.nil_append, List.cons_append, Nat.reduceAdd, List.drop_nil, List.take_nil]
    exact Gh.done (hk X' v I1 hI1 hv hX')

theorem unlike_spec {av bv : Value} {l k : List Int} (ha : Ints I av l) (hb : Ints I bv k) (hla : l.length < 4611686018427387904) (hlb : k.length < 4611686018427387904) (hk : K (.int .i64 (unlikeL l k)) I L) : Cal Try.prog ω 100 #[av, bv] K I L := by
  refine cal100 ?_
  unfold sh100
  refine loop (fun m s I' L' => I' = I ∧ L' = L ∧ ∃ j : Nat, j + m = 5 ∧ s = (.int .i64 ((([1, 2, 3, 4, 5] : List Int).take j).filter fun p : Int => l.contains p != k.contains p).length, .int .i64 (j + 1), ())) 5 ⟨rfl, rfl, 0, by omega, rfl⟩ ?_
  rintro m s I' L' ⟨rfl, rfl, j, hj, rfl⟩
  unfold sh100_3
  try simp only [SSd, List.getElem?_toArray, List.getElem?_cons_zero, List.getElem?_cons_succ, Nat.zero_add, Nat.add_zero, Nat.zero_mul, List.drop_succ_cons, List.drop_zero, List.take_succ_cons, List.take_zero, List.nil_append, List.cons_append, Nat.reduceAdd, List.drop_nil, List.take_nil]
  refine br_split (fun hlt => ?_) (fun hlt => ?_)
  · simp at hlt
    refine call (contains_spec ha hla ?_)
    refine call (contains_spec hb hlb ?_)
    try simp only [SSd, List.getElem?_toArray, List.getElem?_cons_zero, List.getElem?_cons_succ, Nat.zero_add, Nat.add_zero, Nat.zero_mul, List.drop_succ_cons, List.drop_zero, List.take_succ_cons, List.take_zero, List.nil_append, List.cons_append, Nat.reduceAdd, List.drop_nil, List.take_nil]
    unfold sh100_4
    have hc : j = 0 ∨ j = 1 ∨ j = 2 ∨ j = 3 ∨ j = 4 := by omega
    have hfl := List.length_filter_le (fun p : Int => l.contains p != k.contains p) (([1, 2, 3, 4, 5] : List Int).take j)
    rw [List.length_take] at hfl
    have hts : ([1, 2, 3, 4, 5] : List Int).take (j + 1) = ([1, 2, 3, 4, 5] : List Int).take j ++ [((j : Int) + 1)] := by
      rcases hc with rfl | rfl | rfl | rfl | rfl <;> rfl
    refine br_split (fun hq => ?_) (fun hq => ?_)
    · simp only [SSd, List.getElem?_toArray, List.getElem?_cons_zero, List.getElem?_cons_succ, Nat.zero_add, Nat.add_zero, Nat.zero_mul, List.drop_succ_cons, List.drop_zero, List.take_succ_cons, List.take_zero, List.nil_append, List.cons_append, Nat.reduceAdd, List.drop_nil, List.take_nil, wrap_i64 ((j : Int) + 1 + 1) (by omega), wrap_i64 (((([1, 2, 3, 4, 5] : List Int).take j).filter fun p : Int => l.contains p != k.contains p).length + 1) (by omega)]
      refine Gh.done ⟨m - 1, by omega, rfl, rfl, j + 1, by omega, ?_⟩
      rw [hts, List.filter_append, List.length_append, List.filter_cons_of_pos (by simpa using hq)]
      simp
    · simp only [SSd, List.getElem?_toArray, List.getElem?_cons_zero, List.getElem?_cons_succ, Nat.zero_add, Nat.add_zero, Nat.zero_mul, List.drop_succ_cons, List.drop_zero, List.take_succ_cons, List.take_zero, List.nil_append, List.cons_append, Nat.reduceAdd, List.drop_nil, List.take_nil, wrap_i64 ((j : Int) + 1 + 1) (by omega)]
      refine Gh.done ⟨m - 1, by omega, rfl, rfl, j + 1, by omega, ?_⟩
      rw [hts, List.filter_append, List.length_append, List.filter_cons_of_neg (by simpa using hq)]
      simp
  · simp at hlt
    obtain rfl : j = 5 := by omega
    exact Gh.done hk
end
end Go.Proofs.Ytdcpeboecmkmlaa

namespace Go.Proofs.Ytdcpeboecmkmlaa
open Go.SL
set_option maxRecDepth 10000

section
variable {ω : Om} {I : Imm} {L : LH} {K : Value → M}

theorem change_spec {b E B : Nat} {X F : LH} {r : RF} {lv : Value} {l : List Int} (h : RaftR I b X r) (hw : RWF E B r) (hE : (E + 1) * 48 ≤ 150000000000000) (ho : r.out = []) (hl : Ints I lv l) (hll : l.length < 4611686018427387904)
    (hk : ∀ X' v I', Ext I I' → Msgs I' [] v (changeF r l).2.2.out → RaftR I' b X' (takeF (changeF r l).2.2) → K (.tuple #[.int .i64 (changeF r l).1, v, .int .i64 (changeF r l).2.1]) I' (X' ++ F)) :
    Cal Try.prog ω 42 #[.pointer (some ⟨b, 0, none⟩), lv] K I (X ++ F) := by
  have hX := h
  obtain ⟨lb, XL, XO, stv, ov, z0, z1, z2, oc, rfl, h1, h2, h3, h4⟩ := h
  have hln := Ints.len hl
  have hcom := hw.wf.com
  have hlast := hw.wf.last
  refine cal42 ?_
  unfold sh42
  simp only [List.cons_append, List.append_assoc, SSd, List.getElem?_toArray, List.getElem?_cons_zero, List.getElem?_cons_succ, Nat.zero_add, Nat.add_zero, Nat.zero_mul, List.drop_succ_cons, List.drop_zero, List.take_succ_cons, List.take_zero, List.nil_append, List.cons_append, Nat.reduceAdd, List.drop_nil, List.take_nil]
  refine rdb ?_
  try simp only [SSd, List.getElem?_toArray, List.getElem?_cons_zero, List.getElem?_cons_succ, Nat.zero_add, Nat.add_zero, Nat.zero_mul, List.drop_succ_cons, List.drop_zero, List.take_succ_cons, List.take_zero, List.nil_append, List.cons_append, Nat.reduceAdd, List.drop_nil, List.take_nil]
  have bad : ∀ (e : Int) I', changeF r l = (0, e, r) → Ext I I' → Gh (K (.tuple #[.int .i64 0, .slice none 0 0, .int .i64 e])) I' ((b, Obj.cells (rcells r z0 z1 z2 (.pointer (some ⟨lb, 0, none⟩)) stv ov).toArray 131 (0, 0)) :: (XL ++ (XO ++ F))) := fun e I' hs hI' => by
    rw [hs] at hk
    simp only [ho, takeF_nil ho] at hk
    exact raft_end (r := r) (F := F) z0 z1 z2 (fun X' h' => hk X' _ I' hI' (RL.nil _ _) h') (h1.mono hI') (h2.mono hI') h3 (h4.imp fun _ _ h => h.mono hI') rfl
  refine br_split (fun h3' => bad 110 I (by rw [changeF, if_pos (by simpa using h3')]) (Ext.refl I)) (fun h3' => ?_)
  have h3' : ¬ r.role ≠ 3 := by simpa using h3'
  rw [changeF, if_neg h3'] at bad hk
  refine call (cmembers_spec hl hll ?_)
  try simp only [SSd, List.getElem?_toArray, List.getElem?_cons_zero, List.getElem?_cons_succ, Nat.zero_add, Nat.add_zero, Nat.zero_mul, List.drop_succ_cons, List.drop_zero, List.take_succ_cons, List.take_zero, List.nil_append, List.cons_append, Nat.reduceAdd, List.drop_nil, List.take_nil]
  refine br_split (fun hm => bad 1 I (by rw [if_pos (by simpa using hm)]) (Ext.refl I)) (fun hm => ?_)
  have hm : memB l = true := by simpa using hm
  rw [if_neg (by simp [hm])] at bad hk
  have hl5 := memB_len hm
  have hmm := memB_mem hm
  repeat' (first | (with_reducible refine drawC ?_) | (with_reducible refine drawW1 ?_) | (with_reducible refine drawW2 ?_) | (with_reducible refine keepC (by repeat (first | exact Ext.refl _ | assumption | refine Ext.trans ?_ (by assumption))) ?_) | (with_reducible refine newI (fun _ => ?_)) | ((with_reducible refine call ?_); refine (commit_spec h1.view ?_)) | ((with_reducible refine call ?_); refine (term_spec h1.view hw.wf (by unfold inI64; omega) ?_)) | ((with_reducible refine call ?_); refine (changing_spec h1.view hw.wf ?_)) | first | (with_reducible refine rdb ?_) | ((with_reducible refine st1 ?_ ?_); rfl) | ((with_reducible refine rdB ?_ ?_); rfl) | (with_reducible refine rdbS ?_) | ((with_reducible refine rdBS ?_ ?_); rfl) | ((with_reducible refine stB ?_ ?_ ?_ ?_); rfl; rfl; exact one_all rfl) | ((with_reducible refine rdP _ rfl ?_ ?_); rfl) | ((with_reducible refine rdPS _ rfl ?_ ?_); rfl) | ((with_reducible refine stP _ rfl ?_ ?_ ?_ ?_); rfl; rfl; rfl) | (with_reducible refine And.intro ?_ ?_) | (simp only [Bool.not_true, Bool.not_false, Bool.and_self, Bool.true_and, Int.reduceBEq, Int.reduceBNe, Int.reduceLT, Int.reduceLE, decide_true, decide_false, Br_true, Br_false, Gd_tt, Gd_ft, Gd_tf, Gd_ff, beq_self_eq_true, bne_self_eq_false]) | (with_reducible refine gd_split (fun _ => ?_) (fun _ => ?_)) | (with_reducible refine br_split (fun _ => ?_) (fun _ => ?_)) | (simp only [SSd, List.getElem?_toArray, List.getElem?_cons_zero, List.getElem?_cons_succ, Nat.zero_add, Nat.add_zero, Nat.zero_mul, List.drop_succ_cons, List.drop_zero, List.take_succ_cons, List.take_zero, List.nil_append, List.cons_append, Nat.reduceAdd, List.drop_nil, List.take_nil]))
  all_goals try (refine bad 111 I ?_ (Ext.refl I); rw [if_pos (by clear bad hk h1 h2 h3 h4 hX hl; simp_all)]; done)
  refine call (lmembers_spec h1.view hw.wf (fun mv I1 hI1 hmv => ?_))
  refine call (unlike_spec (hl.mono hI1) hmv (by omega) (by have := memB_len hw.wf.mems; omega) ?_)
  simp only [hln, SSd, List.getElem?_toArray, List.getElem?_cons_zero, List.getElem?_cons_succ, Nat.zero_add, Nat.add_zero, Nat.zero_mul, List.drop_succ_cons, List.drop_zero, List.take_succ_cons, List.take_zero, List.nil_append, List.cons_append, Nat.reduceAdd, List.drop_nil, List.take_nil]
  refine br_split (fun hu => bad 111 I1 (by rw [if_pos (by unfold mems; right; right; simp at hu; omega)]) hI1) (fun hu => ?_)
  have hu : unlikeL l (mems r) = 1 := by unfold mems; simp at hu; omega
  rw [if_neg (by clear bad hk h1 h2 h3 h4 hX hl; simp_all)] at hk
  refine loop (fun m s I' L' => I' = I1 ∧ ∃ (k : Nat) (X6 : LH) (v : Value), k + m = l.length ∧ s = (v, .int .i64 k, ()) ∧ SlO 5 1 X6 v (u8s ((l.take k).map byteOf)) ((l.take k).map byteOf).length ∧
      L' = X6 ++ ((b, Obj.cells (rcells r z0 z1 z2 (.pointer (some ⟨lb, 0, none⟩)) stv ov).toArray 131 (0, 0)) :: (XL ++ (XO ++ F)))) l.length ⟨rfl, 0, [], _, by omega, rfl, SlO.none _ _, rfl⟩ ?_
  rintro m s I' L' ⟨rfl, k, X6, v, hkm, rfl, h6, rfl⟩
  unfold sh42_4
  try simp only [SSd, List.getElem?_toArray, List.getElem?_cons_zero, List.getElem?_cons_succ, Nat.zero_add, Nat.add_zero, Nat.zero_mul, List.drop_succ_cons, List.drop_zero, List.take_succ_cons, List.take_zero, List.nil_append, List.cons_append, Nat.reduceAdd, List.drop_nil, List.take_nil]
  refine br_split (fun hlt => ?_) (fun hlt => ?_)
  · simp at hlt
    obtain ⟨b2, off, hix, hc2⟩ := ints_at hl (i := k) (by omega) (by omega)
    simp only [hix, SSd, List.getElem?_toArray, List.getElem?_cons_zero, List.getElem?_cons_succ, Nat.zero_add, Nat.add_zero, Nat.zero_mul, List.drop_succ_cons, List.drop_zero, List.take_succ_cons, List.take_zero, List.nil_append, List.cons_append, Nat.reduceAdd, List.drop_nil, List.take_nil]
    refine rd1 (hc2 I' _ hI1) ?_
    simp only [SSd, List.getElem?_toArray, List.getElem?_cons_zero, List.getElem?_cons_succ, Nat.zero_add, Nat.add_zero, Nat.zero_mul, List.drop_succ_cons, List.drop_zero, List.take_succ_cons, List.take_zero, List.nil_append, List.cons_append, Nat.reduceAdd, List.drop_nil, List.take_nil, u8_wrap]
    refine bld_one rfl (by omega) rfl (fun X1 u hX1 => ?_)
    refine app_own (X := X6) rfl h6 (hX1.news (fun x hx => List.mem_append_left _ hx)) (by simp [Value.cells, Value.oneCell']) (by rw [List.length_map, List.length_take]; omega) (by rw [List.length_map, List.length_take]; omega) (fun X' v' hX' => ?_)
    simp only [SSd, List.getElem?_toArray, List.getElem?_cons_zero, List.getElem?_cons_succ, Nat.zero_add, Nat.add_zero, Nat.zero_mul, List.drop_succ_cons, List.drop_zero, List.take_succ_cons, List.take_zero, List.nil_append, List.cons_append, Nat.reduceAdd, List.drop_nil, List.take_nil, wrap_i64 ((k : Int) + 1) (by omega)]
    refine Gh.to (X' ++ ((b, Obj.cells (rcells r z0 z1 z2 (.pointer (some ⟨lb, 0, none⟩)) stv ov).toArray 131 (0, 0)) :: (XL ++ (XO ++ F)))) (Gh.done ⟨m - 1, by omega, rfl, k + 1, X', v', by omega, by simp, ?_, rfl⟩)
    rw [take_geti hlt, List.map_append, List.length_append]
    simpa [Value.cells, u8s] using hX'
  · simp at hlt
    rw [List.take_of_length_le (by omega)] at h6
    unfold sh42_2
    refine call (cal_pre (SlO.freeze h6 (fun I2 hI2 hS => Gh.done ?_)))
    have hI12 := hI1.trans hI2
    refine raft_cal (r := r) b F z0 z1 z2 (h1.mono hI12) (h2.mono hI12) h3 (h4.imp fun _ _ h => h.mono hI12) rfl (fun X hX => ?_)
    refine addc_spec hX hw hE ho (d := l.map byteOf) hS (by rw [List.length_map]; omega) (fun X' v I3 hI3 hv hX' => ?_)
    try simp only [SSd, List.getElem?_toArray, List.getElem?_cons_zero, List.getElem?_cons_succ, Nat.zero_add, Nat.add_zero, Nat.zero_mul, List.drop_succ_cons, List.drop_zero, List.take_succ_cons, List.take_zero, List.nil_append, List.cons_append, Nat.reduceAdd, List.drop_nil, List.take_nil]
    exact Gh.done (hk X' v I3 (hI12.trans hI3) hv hX')

theorem compact_spec {b E B : Nat} {X F : LH} {r : RF} {i : Int} {dv : Value} {d : List UInt8} (h : RaftR I b X r) (hw : RWF E B r) (hi : inI64 i) (hd : Bytes I dv d) (hdl : d.length < 4611686018427387904)
    (hk : ∀ X' I', Ext I I' → RaftR I' b X' (compactF r i d).2 → K (.int .i64 (compactF r i d).1) I' (X' ++ F)) :
    Cal Try.prog ω 43 #[.pointer (some ⟨b, 0, none⟩), .int .i64 i, dv] K I (X ++ F) := by
  have hX := h
  obtain ⟨lb, XL, XO, stv, ov, z0, z1, z2, oc, rfl, h1, h2, h3, h4⟩ := h
  have hln := Bytes.len hd
  refine cal43 ?_
  unfold sh43
  simp only [List.cons_append, List.append_assoc, hln, SSd, List.getElem?_toArray, List.getElem?_cons_zero, List.getElem?_cons_succ, Nat.zero_add, Nat.add_zero, Nat.zero_mul, List.drop_succ_cons, List.drop_zero, List.take_succ_cons, List.take_zero, List.nil_append, List.cons_append, Nat.reduceAdd, List.drop_nil, List.take_nil]
  refine br_split (fun hs => ?_) (fun hs => ?_)
  · have hs : 60000 < d.length := by simp at hs; omega
    rw [compactF, if_pos hs] at hk
    exact raft_end (r := r) (F := F) z0 z1 z2 (fun X' h' => hk X' I (Ext.refl I) h') h1 h2 h3 h4 rfl
  have hs : ¬ 60000 < d.length := by simp at hs; omega
  rw [compactF, if_neg hs] at hk
  refine rdb ?_
  refine callG (Cal.split XL (cut_spec h1 hw.wf hi (fun XL' I1 hI1 hL' => ?_)))
  have hgg : (cutG r.g i).1 ≠ 0 → (cutG r.g i).2 = r.g := fun h => by
    unfold cutG at h ⊢; split
    · rfl
    · rename_i hh; rw [if_neg hh] at h; exact absurd rfl h
  generalize cutG r.g i = a at *
  have h2' := h2.mono hI1
  have h4' := h4.imp fun _ _ h => h.mono hI1
  refine Gh.pick b (XL' ++ (XO ++ F)) (Gh.done ?_)
  try simp only [SSd, List.getElem?_toArray, List.getElem?_cons_zero, List.getElem?_cons_succ, Nat.zero_add, Nat.add_zero, Nat.zero_mul, List.drop_succ_cons, List.drop_zero, List.take_succ_cons, List.take_zero, List.nil_append, List.cons_append, Nat.reduceAdd, List.drop_nil, List.take_nil]
  refine br_split (fun he => ?_) (fun he => ?_)
  · have he : a.1 ≠ 0 := by simpa using he
    simp only [if_pos he] at hk
    rw [hgg he] at hL'
    exact raft_end (r := r) (F := F) z0 z1 z2 (fun X' h' => hk X' I1 hI1 h') hL' h2' h3 h4' rfl
  · have he : ¬ a.1 ≠ 0 := by simpa using he
    simp only [if_neg he] at hk
    refine call (cloneB_spec (hd.mono hI1) (by omega) (fun v I2 hI2 hv => ?_))
    obtain ⟨av, pv, rfl⟩ := Bytes.form hv
    repeat' (first | (with_reducible refine drawC ?_) | (with_reducible refine drawW1 ?_) | (with_reducible refine drawW2 ?_) | (with_reducible refine keepC (by repeat (first | exact Ext.refl _ | assumption | refine Ext.trans ?_ (by assumption))) ?_) | (with_reducible refine newI (fun _ => ?_)) | first | (with_reducible refine rdb ?_) | ((with_reducible refine st1 ?_ ?_); rfl) | ((with_reducible refine rdB ?_ ?_); rfl) | (with_reducible refine rdbS ?_) | ((with_reducible refine rdBS ?_ ?_); rfl) | ((with_reducible refine stB ?_ ?_ ?_ ?_); rfl; rfl; exact one_all rfl) | ((with_reducible refine rdP _ rfl ?_ ?_); rfl) | ((with_reducible refine rdPS _ rfl ?_ ?_); rfl) | ((with_reducible refine stP _ rfl ?_ ?_ ?_ ?_); rfl; rfl; rfl) | (with_reducible refine And.intro ?_ ?_) | (simp only [Bool.not_true, Bool.not_false, Bool.and_self, Bool.true_and, Int.reduceBEq, Int.reduceBNe, Int.reduceLT, Int.reduceLE, decide_true, decide_false, Br_true, Br_false, Gd_tt, Gd_ft, Gd_tf, Gd_ff, beq_self_eq_true, bne_self_eq_false]) | (with_reducible refine gd_split (fun _ => ?_) (fun _ => ?_)) | (with_reducible refine br_split (fun _ => ?_) (fun _ => ?_)) | (simp only [SSd, List.getElem?_toArray, List.getElem?_cons_zero, List.getElem?_cons_succ, Nat.zero_add, Nat.add_zero, Nat.zero_mul, List.drop_succ_cons, List.drop_zero, List.take_succ_cons, List.take_zero, List.nil_append, List.cons_append, Nat.reduceAdd, List.drop_nil, List.take_nil]))
    exact raft_end (r := { r with g := a.2, st := d }) (F := F) z0 z1 z2 (fun X' h' => hk X' I2 (hI1.trans hI2) h') (hL'.mono hI2) hv h3 (h4'.imp fun _ _ h => h.mono hI2) rfl

/-! ### What it tells -/
theorem gterm_spec {b : Nat} {v : Value} (hc : Cell I L b 2 v) (hk : K v I L) : Cal Try.prog ω 37 #[.pointer (some ⟨b, 0, none⟩)] K I L := by
  refine cal37 ?_
  unfold sh37
  try simp only [SSd, List.getElem?_toArray, List.getElem?_cons_zero, List.getElem?_cons_succ, Nat.zero_add, Nat.add_zero, Nat.zero_mul, List.drop_succ_cons, List.drop_zero, List.take_succ_cons, List.take_zero, List.nil_append, List.cons_append, Nat.reduceAdd, List.drop_nil, List.take_nil]
  exact rd1 hc (Gh.done hk)
theorem gvote_spec {b : Nat} {v : Value} (hc : Cell I L b 3 v) (hk : K v I L) : Cal Try.prog ω 38 #[.pointer (some ⟨b, 0, none⟩)] K I L := by
  refine cal38 ?_
  unfold sh38
  try simp only [SSd, List.getElem?_toArray, List.getElem?_cons_zero, List.getElem?_cons_succ, Nat.zero_add, Nat.add_zero, Nat.zero_mul, List.drop_succ_cons, List.drop_zero, List.take_succ_cons, List.take_zero, List.nil_append, List.cons_append, Nat.reduceAdd, List.drop_nil, List.take_nil]
  exact rd1 hc (Gh.done hk)
theorem grole_spec {b : Nat} {v : Value} (hc : Cell I L b 6 v) (hk : K v I L) : Cal Try.prog ω 51 #[.pointer (some ⟨b, 0, none⟩)] K I L := by
  refine cal51 ?_
  unfold sh51
  try simp only [SSd, List.getElem?_toArray, List.getElem?_cons_zero, List.getElem?_cons_succ, Nat.zero_add, Nat.add_zero, Nat.zero_mul, List.drop_succ_cons, List.drop_zero, List.take_succ_cons, List.take_zero, List.nil_append, List.cons_append, Nat.reduceAdd, List.drop_nil, List.take_nil]
  exact rd1 hc (Gh.done hk)
theorem gstate_spec {b : Nat} {v : Value} {l : List UInt8} (hc : Cell I L b 5 v) (hv : Bytes I v l) (hl : l.length ≤ 60000) (hk : ∀ v' I', Ext I I' → Bytes I' v' l → K v' I' L) : Cal Try.prog ω 46 #[.pointer (some ⟨b, 0, none⟩)] K I L := by
  refine cal46 ?_
  unfold sh46
  try simp only [SSd, List.getElem?_toArray, List.getElem?_cons_zero, List.getElem?_cons_succ, Nat.zero_add, Nat.add_zero, Nat.zero_mul, List.drop_succ_cons, List.drop_zero, List.take_succ_cons, List.take_zero, List.nil_append, List.cons_append, Nat.reduceAdd, List.drop_nil, List.take_nil]
  refine rd1 hc ?_
  exact call (cloneB_spec hv (by omega) (fun v' I' hI' hv' => Gh.done (hk v' I' hI' hv')))
abbrev lcells (g : LG) (mv lv : Value) : List Value := [.int .i64 g.index, .int .i64 g.term, mv, lv, .int .i64 g.commit]
theorem glog_spec {b lb : Nat} {g : LG} {L0 : LH} {mv lv : Value} [LSub L0 L] (hb : Cell I L b 4 (.pointer (some ⟨lb, 0, none⟩))) (hc : Cells I L lb 0 (lcells g mv lv)) (hm : Ints I mv g.mem) (hl : LsV I L0 lv g.es) (hml : g.mem.length ≤ 5)
    (hk : ∀ b' mv' a I', Ext I I' → Ints I' mv' g.mem → LsV I' L0 (.slice a g.es.length g.es.length) g.es → K (.pointer (some ⟨b', 0, none⟩)) I' ((b', Obj.cells (lcells g mv' (.slice a g.es.length g.es.length)).toArray 112 (0, 0)) :: L)) :
    Cal Try.prog ω 45 #[.pointer (some ⟨b, 0, none⟩)] K I L := by
  refine cal45 ?_
  unfold sh45
  try simp only [SSd, List.getElem?_toArray, List.getElem?_cons_zero, List.getElem?_cons_succ, Nat.zero_add, Nat.add_zero, Nat.zero_mul, List.drop_succ_cons, List.drop_zero, List.take_succ_cons, List.take_zero, List.nil_append, List.cons_append, Nat.reduceAdd, List.drop_nil, List.take_nil]
  refine rd1 hb ?_
  exact call (copy_spec hc hm hl hml (fun b' mv' a I' hI' hm' hl' => Gh.done (hk b' mv' a I' hI' hm' hl')))

theorem new11_spec {lb : Nat} {g : LG} {mv lv sv : Value} {group id term vote : Int} {st : List UInt8} (hc : Cells I L lb 0 (lcells g mv lv)) (hm : Ints I mv g.mem) (hl : Ents I lv g.es) (hw : WF g) (hs : Bytes I sv st) (hsl : st.length < 4611686018427387904)
    (hk0 : newOk group id term vote g st = false → ∀ I', Ext I I' → K (.tuple #[.pointer none, .int .i64 1]) I' L)
    (hk1 : newOk group id term vote g st = true → ∀ b X I', Ext I I' → RaftR I' b X (newF group id term vote g st) → K (.tuple #[.pointer (some ⟨b, 0, none⟩), .int .i64 0]) I' (X ++ L)) :
    Cal Try.prog ω 44 #[.int .i64 group, .int .i64 id, .int .i64 term, .int .i64 vote, .pointer (some ⟨lb, 0, none⟩), sv] K I L := by
  have hln := Bytes.len hs
  have hV : LogV I L lb g := ⟨mv, lv, hc, hm, Ents.to hl (Ext.refl I)⟩
  refine cal44 ?_
  unfold sh44
  refine call (last_spec hV hw ?_)
  try simp only [SSd, List.getElem?_toArray, List.getElem?_cons_zero, List.getElem?_cons_succ, Nat.zero_add, Nat.add_zero, Nat.zero_mul, List.drop_succ_cons, List.drop_zero, List.take_succ_cons, List.take_zero, List.nil_append, List.cons_append, Nat.reduceAdd, List.drop_nil, List.take_nil]
  have fin : ∀ v21 : Bool, v21 = !newOk group id term vote g st → sh44_1 ω (.int .i64 group) (.int .i64 id) (.int .i64 term) (.int .i64 vote) (.pointer (some ⟨lb, 0, none⟩)) sv (.pointer none) (.int .i64 0) (.bool v21) (fun v => Gh (K v)) I L := by
    intro v21 hv
    unfold sh44_1
    refine br_split (fun ht => ?_) (fun ht => ?_)
    · rw [ht] at hv
      exact Gh.done (hk0 (by simpa using hv.symm) I (Ext.refl I))
    · rw [ht] at hv
      have hok : newOk group id term vote g st = true := by simpa using hv.symm
      have hst : st.length ≤ 60000 := by simp only [newOk, Bool.and_eq_true, decide_eq_true_eq] at hok; exact hok.2
      refine call (copy_spec (L0 := []) hc hm hl (memB_len hw.mem) (fun b' mv' a I1 hI1 hm' hl' => ?_))
      refine call (cloneB_spec (hs.mono hI1) (by omega) (fun v I2 hI2 hv => ?_))
      obtain ⟨av, pv, rfl⟩ := Bytes.form hv
      repeat' (first | (with_reducible refine drawC ?_) | (with_reducible refine drawW1 ?_) | (with_reducible refine drawW2 ?_) | (with_reducible refine keepC (by repeat (first | exact Ext.refl _ | assumption | refine Ext.trans ?_ (by assumption))) ?_) | (with_reducible refine newI (fun _ => ?_)) | first | (with_reducible refine rdb ?_) | ((with_reducible refine st1 ?_ ?_); rfl) | ((with_reducible refine rdB ?_ ?_); rfl) | (with_reducible refine rdbS ?_) | ((with_reducible refine rdBS ?_ ?_); rfl) | ((with_reducible refine stB ?_ ?_ ?_ ?_); rfl; rfl; exact one_all rfl) | ((with_reducible refine rdP _ rfl ?_ ?_); rfl) | ((with_reducible refine rdPS _ rfl ?_ ?_); rfl) | ((with_reducible refine stP _ rfl ?_ ?_ ?_ ?_); rfl; rfl; rfl) | (with_reducible refine And.intro ?_ ?_) | (simp only [Bool.not_true, Bool.not_false, Bool.and_self, Bool.true_and, Int.reduceBEq, Int.reduceBNe, Int.reduceLT, Int.reduceLE, decide_true, decide_false, Br_true, Br_false, Gd_tt, Gd_ft, Gd_tf, Gd_ff, beq_self_eq_true, bne_self_eq_false]) | (with_reducible refine gd_split (fun _ => ?_) (fun _ => ?_)) | (with_reducible refine br_split (fun _ => ?_) (fun _ => ?_)) | (simp only [SSd, List.getElem?_toArray, List.getElem?_cons_zero, List.getElem?_cons_succ, Nat.zero_add, Nat.add_zero, Nat.zero_mul, List.drop_succ_cons, List.drop_zero, List.take_succ_cons, List.take_zero, List.nil_append, List.cons_append, Nat.reduceAdd, List.drop_nil, List.take_nil]))
      rename_i nb
      refine Gh.done ?_
      obtain ⟨cells, hS, hR⟩ := RL.toI (by omega) (LsV.to (L' := []) hl' hI2)
      have hI12 := hI1.trans hI2
      have := hk1 hok nb ((nb, Obj.cells (rcells (newF group id term vote g st) false 0 0 (.pointer (some ⟨b', 0, none⟩)) (.slice av st.length pv) (.slice none 0 0)).toArray 131 (0, 0)) :: ([(b', Obj.cells (lcells g mv' (.slice a g.es.length g.es.length)).toArray 112 (0, 0))] ++ [])) I2 hI12
        ⟨b', _, [], _, _, false, 0, 0, [], rfl, ⟨mv', _, [], cells, rfl, hm'.mono hI2, .inr ⟨rfl, ⟨a, rfl⟩, hS⟩, hR⟩, hv, SlO.none _ _, rfl⟩
      exact this
  repeat' (first | (with_reducible refine drawC ?_) | (with_reducible refine drawW1 ?_) | (with_reducible refine drawW2 ?_) | (with_reducible refine keepC (by repeat (first | exact Ext.refl _ | assumption | refine Ext.trans ?_ (by assumption))) ?_) | (with_reducible refine newI (fun _ => ?_)) | ((with_reducible refine call ?_); refine (cnode_spec ?_)) | ((with_reducible refine call ?_); refine (ccount_spec ?_)) | first | (with_reducible refine rdb ?_) | ((with_reducible refine st1 ?_ ?_); rfl) | ((with_reducible refine rdB ?_ ?_); rfl) | (with_reducible refine rdbS ?_) | ((with_reducible refine rdBS ?_ ?_); rfl) | ((with_reducible refine stB ?_ ?_ ?_ ?_); rfl; rfl; exact one_all rfl) | ((with_reducible refine rdP _ rfl ?_ ?_); rfl) | ((with_reducible refine rdPS _ rfl ?_ ?_); rfl) | ((with_reducible refine stP _ rfl ?_ ?_ ?_ ?_); rfl; rfl; rfl) | (with_reducible refine unfE (sh44_2.eq_1 ..) ?_) | (with_reducible refine And.intro ?_ ?_) | (simp only [Bool.not_true, Bool.not_false, Bool.and_self, Bool.true_and, Int.reduceBEq, Int.reduceBNe, Int.reduceLT, Int.reduceLE, decide_true, decide_false, Br_true, Br_false, Gd_tt, Gd_ft, Gd_tf, Gd_ff, beq_self_eq_true, bne_self_eq_false]) | (with_reducible refine gd_split (fun _ => ?_) (fun _ => ?_)) | (with_reducible refine br_split (fun _ => ?_) (fun _ => ?_)) | (simp only [SSd, List.getElem?_toArray, List.getElem?_cons_zero, List.getElem?_cons_succ, Nat.zero_add, Nat.add_zero, Nat.zero_mul, List.drop_succ_cons, List.drop_zero, List.take_succ_cons, List.take_zero, List.nil_append, List.cons_append, Nat.reduceAdd, List.drop_nil, List.take_nil, hln]))
  all_goals (refine fin _ ?_; clear fin hk0 hk1 hc hm hl hw hs hV; rw [Bool.eq_iff_iff]; simp_all [newOk] <;> omega)
end
end Go.Proofs.Ytdcpeboecmkmlaa
