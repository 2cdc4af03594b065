/-
  The document's node: its small functions.
-/
-- S3
import Derived.Test.YtdcpeboecmkmlaaGreatKR
set_option linter.unusedSimpArgs false
set_option linter.unusedVariables false
namespace Go.Proofs.YtdcpeboecmkmlaaGreat
open Go.SL
set_option maxRecDepth 10000

section
variable {r : RF} {z0 : Bool} {z1 z2 : Int} {lv stv ov : Value}
theorem qc_vt {p : Int} (h : 1 ≤ p ∧ p ≤ 5) : (qcells r z0 z1 z2 lv stv ov)[9 + p.toNat * 1]? = some (.bool (r.vt p)) := by
  rcases five h with rfl | rfl | rfl | rfl | rfl <;> rfl
theorem qc_nx {p : Int} (h : 1 ≤ p ∧ p ≤ 5) : (qcells r z0 z1 z2 lv stv ov)[15 + p.toNat * 1]? = some (.int .i64 (r.nx p)) := by
  rcases five h with rfl | rfl | rfl | rfl | rfl <;> rfl
theorem qc_mt {p : Int} (h : 1 ≤ p ∧ p ≤ 5) : (qcells r z0 z1 z2 lv stv ov)[21 + p.toNat * 1]? = some (.int .i64 (r.mt p)) := by
  rcases five h with rfl | rfl | rfl | rfl | rfl <;> rfl
theorem qc_svt {p : Int} {t : Bool} (h : 1 ≤ p ∧ p ≤ 5) : (qcells r z0 z1 z2 lv stv ov).set (9 + p.toNat * 1) (.bool t) = qcells { r with vt := updI r.vt p t } z0 z1 z2 lv stv ov := by
  rcases five h with rfl | rfl | rfl | rfl | rfl <;> rfl
theorem qc_snx {p : Int} {t : Int} (h : 1 ≤ p ∧ p ≤ 5) : (qcells r z0 z1 z2 lv stv ov).set (15 + p.toNat * 1) (.int .i64 t) = qcells { r with nx := updI r.nx p t } z0 z1 z2 lv stv ov := by
  rcases five h with rfl | rfl | rfl | rfl | rfl <;> rfl
theorem qc_smt {p : Int} {t : Int} (h : 1 ≤ p ∧ p ≤ 5) : (qcells r z0 z1 z2 lv stv ov).set (21 + p.toNat * 1) (.int .i64 t) = qcells { r with mt := updI r.mt p t } z0 z1 z2 lv stv ov := by
  rcases five h with rfl | rfl | rfl | rfl | rfl <;> rfl
theorem qc_len : (qcells r z0 z1 z2 lv stv ov).length = 28 := rfl
end
section
variable {ω : Om} {I : Imm} {L : LH} {K : Value → M}

instance (priority := 2000) subSing (x : Nat × Obj) (L' L R : LH) [h : SplitB x L R] [h' : SubP L' R] : SubP ([x] ++ L') L := subCons x L' L R

instance (priority := 2000) splitSing (x : Nat × Obj) (L R : LH) [h : SplitB x L R] : SplitL [x] L R := ⟨h.perm⟩
theorem qsend_spec {b : Nat} {X F : LH} {r : RF} {m : RM} {c : List Value} (h : RaftQ I b X r) (hm : MsgV I m c) (hl : r.out.length ≤ 1000)
    (hk : ∀ X', RaftQ I b X' (sendF r m) → K (.tuple #[]) I (X' ++ F)) : Cal Tryz.prog ω 47 #[.pointer (some ⟨b, 0, none⟩), .agg c.toArray] K I (X ++ F) := by
  obtain ⟨lb, XL, XO, stv, ov, z0, z1, z2, oc, rfl, h1, h2, h3, h4⟩ := h
  obtain ⟨a0, p0, a1, p1, a2, p2, rfl, hE, hM, hD⟩ := hm.form
  refine cal47 ?_
  unfold sh47
  simp only [List.cons_append, List.append_assoc]
  repeat' (first | (with_reducible refine drawC ?_) | (with_reducible refine drawW1 ?_) | (with_reducible refine drawW2 ?_) | (with_reducible refine keepC (by repeat (first | exact Ext.refl _ | assumption | refine Ext.trans ?_ (by assumption))) ?_) | (with_reducible refine newI (fun _ => ?_)) | first | (with_reducible refine rdb ?_) | ((with_reducible refine st1 ?_ ?_); rfl) | ((with_reducible refine rdB ?_ ?_); rfl) | (with_reducible refine rdbS ?_) | ((with_reducible refine rdBS ?_ ?_); rfl) | ((with_reducible refine stB ?_ ?_ ?_ ?_); rfl; rfl; exact one_all rfl) | ((with_reducible refine rdP _ rfl ?_ ?_); rfl) | ((with_reducible refine rdPS _ rfl ?_ ?_); rfl) | ((with_reducible refine stP _ rfl ?_ ?_ ?_ ?_); rfl; rfl; rfl) | (with_reducible refine And.intro ?_ ?_) | (simp only [Bool.not_true, Bool.not_false, Bool.and_self, Bool.true_and, Int.reduceBEq, Int.reduceBNe, Int.reduceLT, Int.reduceLE, decide_true, decide_false, Br_true, Br_false, Gd_tt, Gd_ft, Gd_tf, Gd_ff, beq_self_eq_true, bne_self_eq_false]) | (with_reducible refine gd_split (fun _ => ?_) (fun _ => ?_)) | (with_reducible refine br_split (fun _ => ?_) (fun _ => ?_)) | (simp only [SSd, List.getElem?_toArray, List.getElem?_cons_zero, List.getElem?_cons_succ, Nat.zero_add, Nat.add_zero, Nat.zero_mul, List.drop_succ_cons, List.drop_zero, List.take_succ_cons, List.take_zero, List.nil_append, List.cons_append, Nat.reduceAdd, List.drop_nil, List.take_nil]))
  refine rec_appK (x := { m with group := r.group, frm := r.id, term := r.term }) (X6 := XO) (Ext.refl I) (fun y hy => hy) rfl (by omega) h3 h4 ⟨_, _, _, rfl, hE, hM, hD⟩ rfl (one_all rfl) (by omega) (by omega) (fun X1 X6' a' c' cells' h6 hR => ?_)
  repeat' (first | (with_reducible refine drawC ?_) | (with_reducible refine drawW1 ?_) | (with_reducible refine drawW2 ?_) | (with_reducible refine keepC (by repeat (first | exact Ext.refl _ | assumption | refine Ext.trans ?_ (by assumption))) ?_) | (with_reducible refine newI (fun _ => ?_)) | first | (with_reducible refine rdb ?_) | ((with_reducible refine st1 ?_ ?_); rfl) | ((with_reducible refine rdB ?_ ?_); rfl) | (with_reducible refine rdbS ?_) | ((with_reducible refine rdBS ?_ ?_); rfl) | ((with_reducible refine stB ?_ ?_ ?_ ?_); rfl; rfl; exact one_all rfl) | ((with_reducible refine rdP _ rfl ?_ ?_); rfl) | ((with_reducible refine rdPS _ rfl ?_ ?_); rfl) | ((with_reducible refine stP _ rfl ?_ ?_ ?_ ?_); rfl; rfl; rfl) | (with_reducible refine And.intro ?_ ?_) | (simp only [Bool.not_true, Bool.not_false, Bool.and_self, Bool.true_and, Int.reduceBEq, Int.reduceBNe, Int.reduceLT, Int.reduceLE, decide_true, decide_false, Br_true, Br_false, Gd_tt, Gd_ft, Gd_tf, Gd_ff, beq_self_eq_true, bne_self_eq_false]) | (with_reducible refine gd_split (fun _ => ?_) (fun _ => ?_)) | (with_reducible refine br_split (fun _ => ?_) (fun _ => ?_)) | (simp only [SSd, List.getElem?_toArray, List.getElem?_cons_zero, List.getElem?_cons_succ, Nat.zero_add, Nat.add_zero, Nat.zero_mul, List.drop_succ_cons, List.drop_zero, List.take_succ_cons, List.take_zero, List.nil_append, List.cons_append, Nat.reduceAdd, List.drop_nil, List.take_nil]))
  exact raftq_end (r := sendF r m) (F := F) z0 z1 z2 hk h1 h2 h6 hR rfl

theorem qtake_spec {b : Nat} {X F : LH} {r : RF} (h : RaftQ I b X r) (hk : ∀ X' v I', Ext I I' → Msgs I' [] v r.out → RaftQ I' b X' (takeF r) → K v I' (X' ++ F)) :
    Cal Tryz.prog ω 22 #[.pointer (some ⟨b, 0, none⟩)] K I (X ++ F) := by
  obtain ⟨lb, XL, XO, stv, ov, z0, z1, z2, oc, rfl, h1, h2, h3, h4⟩ := h
  simp only [List.cons_append, List.append_assoc]
  refine Cal.split XO (cal_pre (RL.ofO (R := MsgV) MsgV.mono h3 h4 (fun I1 hI1 hL => Gh.done ?_)))
  refine cal22 ?_
  unfold sh22
  repeat' (first | (with_reducible refine drawC ?_) | (with_reducible refine drawW1 ?_) | (with_reducible refine drawW2 ?_) | (with_reducible refine keepC (by repeat (first | exact Ext.refl _ | assumption | refine Ext.trans ?_ (by assumption))) ?_) | (with_reducible refine newI (fun _ => ?_)) | first | (with_reducible refine rdb ?_) | ((with_reducible refine st1 ?_ ?_); rfl) | ((with_reducible refine rdB ?_ ?_); rfl) | (with_reducible refine rdbS ?_) | ((with_reducible refine rdBS ?_ ?_); rfl) | ((with_reducible refine stB ?_ ?_ ?_ ?_); rfl; rfl; exact one_all rfl) | ((with_reducible refine rdP _ rfl ?_ ?_); rfl) | ((with_reducible refine rdPS _ rfl ?_ ?_); rfl) | ((with_reducible refine stP _ rfl ?_ ?_ ?_ ?_); rfl; rfl; rfl) | (with_reducible refine And.intro ?_ ?_) | (simp only [Bool.not_true, Bool.not_false, Bool.and_self, Bool.true_and, Int.reduceBEq, Int.reduceBNe, Int.reduceLT, Int.reduceLE, decide_true, decide_false, Br_true, Br_false, Gd_tt, Gd_ft, Gd_tf, Gd_ff, beq_self_eq_true, bne_self_eq_false]) | (with_reducible refine gd_split (fun _ => ?_) (fun _ => ?_)) | (with_reducible refine br_split (fun _ => ?_) (fun _ => ?_)) | (simp only [SSd, List.getElem?_toArray, List.getElem?_cons_zero, List.getElem?_cons_succ, Nat.zero_add, Nat.add_zero, Nat.zero_mul, List.drop_succ_cons, List.drop_zero, List.take_succ_cons, List.take_zero, List.nil_append, List.cons_append, Nat.reduceAdd, List.drop_nil, List.take_nil]))
  exact Gh.done (raftq_fin (XO := []) (r := takeF r) z0 z1 z2 (fun X' h' => hk X' _ I1 hI1 hL h') (h1.mono hI1) (h2.mono hI1) (SlO.none _ _) rfl rfl)

theorem qfollow_spec {b : Nat} {X F : LH} {r : RF} {t : Int} (h : RaftQ I b X r) (hk : ∀ X', RaftQ I b X' (followF r t) → K (.tuple #[]) I (X' ++ F)) :
    Cal Tryz.prog ω 46 #[.pointer (some ⟨b, 0, none⟩), .int .i64 t] K I (X ++ F) := by
  obtain ⟨lb, XL, XO, stv, ov, z0, z1, z2, oc, rfl, h1, h2, h3, h4⟩ := h
  refine cal46 ?_
  unfold sh46
  simp only [List.cons_append, List.append_assoc]
  repeat' (first | (with_reducible refine drawC ?_) | (with_reducible refine drawW1 ?_) | (with_reducible refine drawW2 ?_) | (with_reducible refine keepC (by repeat (first | exact Ext.refl _ | assumption | refine Ext.trans ?_ (by assumption))) ?_) | (with_reducible refine newI (fun _ => ?_)) | first | (with_reducible refine rdb ?_) | ((with_reducible refine st1 ?_ ?_); rfl) | ((with_reducible refine rdB ?_ ?_); rfl) | (with_reducible refine rdbS ?_) | ((with_reducible refine rdBS ?_ ?_); rfl) | ((with_reducible refine stB ?_ ?_ ?_ ?_); rfl; rfl; exact one_all rfl) | ((with_reducible refine rdP _ rfl ?_ ?_); rfl) | ((with_reducible refine rdPS _ rfl ?_ ?_); rfl) | ((with_reducible refine stP _ rfl ?_ ?_ ?_ ?_); rfl; rfl; rfl) | (with_reducible refine unfE (sh46_1.eq_1 ..) ?_) | (with_reducible refine unfE (sh46.eq_1 ..) ?_) | (with_reducible refine And.intro ?_ ?_) | (simp only [Bool.not_true, Bool.not_false, Bool.and_self, Bool.true_and, Int.reduceBEq, Int.reduceBNe, Int.reduceLT, Int.reduceLE, decide_true, decide_false, Br_true, Br_false, Gd_tt, Gd_ft, Gd_tf, Gd_ff, beq_self_eq_true, bne_self_eq_false]) | (with_reducible refine gd_split (fun _ => ?_) (fun _ => ?_)) | (with_reducible refine br_split (fun _ => ?_) (fun _ => ?_)) | (simp only [SSd, List.getElem?_toArray, List.getElem?_cons_zero, List.getElem?_cons_succ, Nat.zero_add, Nat.add_zero, Nat.zero_mul, List.drop_succ_cons, List.drop_zero, List.take_succ_cons, List.take_zero, List.nil_append, List.cons_append, Nat.reduceAdd, List.drop_nil, List.take_nil]))
  all_goals (
    refine Gh.done (raftq_fin z0 z1 z2 hk h1 h2 h3 h4 ?_)
    simp_all [followF]
    try omega)

theorem qhear_spec {b : Nat} {X F : LH} {r : RF} {p : Int} (h : RaftQ I b X r) (hk : ∀ X', RaftQ I b X' (hearF r p) → K (.tuple #[]) I (X' ++ F)) :
    Cal Tryz.prog ω 113 #[.pointer (some ⟨b, 0, none⟩), .int .i64 p] K I (X ++ F) := by
  obtain ⟨lb, XL, XO, stv, ov, z0, z1, z2, oc, rfl, h1, h2, h3, h4⟩ := h
  simp only [List.cons_append, List.append_assoc] at *
  refine cal113 ?_
  unfold sh113
  repeat' (first | (with_reducible refine drawC ?_) | (with_reducible refine drawW1 ?_) | (with_reducible refine drawW2 ?_) | (with_reducible refine keepC (by repeat (first | exact Ext.refl _ | assumption | refine Ext.trans ?_ (by assumption))) ?_) | (with_reducible refine newI (fun _ => ?_)) | first | (with_reducible refine rdb ?_) | ((with_reducible refine st1 ?_ ?_); rfl) | ((with_reducible refine rdB ?_ ?_); rfl) | (with_reducible refine rdbS ?_) | ((with_reducible refine rdBS ?_ ?_); rfl) | ((with_reducible refine stB ?_ ?_ ?_ ?_); rfl; rfl; exact one_all rfl) | ((with_reducible refine rdP _ rfl ?_ ?_); rfl) | ((with_reducible refine rdPS _ rfl ?_ ?_); rfl) | ((with_reducible refine stP _ rfl ?_ ?_ ?_ ?_); rfl; rfl; rfl) | (with_reducible refine And.intro ?_ ?_) | (simp only [Bool.not_true, Bool.not_false, Bool.and_self, Bool.true_and, Int.reduceBEq, Int.reduceBNe, Int.reduceLT, Int.reduceLE, decide_true, decide_false, Br_true, Br_false, Gd_tt, Gd_ft, Gd_tf, Gd_ff, beq_self_eq_true, bne_self_eq_false]) | (with_reducible refine gd_split (fun _ => ?_) (fun _ => ?_)) | (with_reducible refine br_split (fun _ => ?_) (fun _ => ?_)) | (simp only [SSd, List.getElem?_toArray, List.getElem?_cons_zero, List.getElem?_cons_succ, Nat.zero_add, Nat.add_zero, Nat.zero_mul, List.drop_succ_cons, List.drop_zero, List.take_succ_cons, List.take_zero, List.nil_append, List.cons_append, Nat.reduceAdd, List.drop_nil, List.take_nil]))
  exact raftq_end (r := hearF r p) (F := F) z0 z1 z2 hk h1 h2 h3 h4 rfl

theorem qmember_spec {b lb : Nat} {g : LG} {p : Int} (hc : Cell I L b 4 (.pointer (some ⟨lb, 0, none⟩))) (hl : LogV I L lb g) (hw : WF g) (hk : ∀ I', Ext I I' → K (.bool ((memOf g.mem g.es).contains p)) I' L) :
    Cal Tryz.prog ω 35 #[.pointer (some ⟨b, 0, none⟩), .int .i64 p] K I L := by
  have hml := memB_len hw.mems
  refine cal35 ?_
  unfold sh35
  try simp only [SSd, List.getElem?_toArray, List.getElem?_cons_zero, List.getElem?_cons_succ, Nat.zero_add, Nat.add_zero, Nat.zero_mul, List.drop_succ_cons, List.drop_zero, List.take_succ_cons, List.take_zero, List.nil_append, List.cons_append, Nat.reduceAdd, List.drop_nil, List.take_nil]
  refine rd1 hc ?_
  refine call (rlmembers_spec hl hw (fun v I1 hI1 hv => ?_))
  generalize memOf g.mem g.es = l at *
  have hln := Ints.len hv
  refine loop (fun m s I' L' => I' = I1 ∧ L' = L ∧ ∃ k : Nat, k + m = l.length ∧ s = (.bool false, .int .i64 k, ()) ∧ (l.drop k).contains p = l.contains p) l.length ⟨rfl, rfl, 0, by omega, rfl, rfl⟩ ?_
  rintro m s I' L' ⟨rfl, rfl, k, hkm, rfl, hd⟩
  unfold sh35_3
  simp only [hln, SSd, List.getElem?_toArray, List.getElem?_cons_zero, List.getElem?_cons_succ, Nat.zero_add, Nat.add_zero, Nat.zero_mul, List.drop_succ_cons, List.drop_zero, List.take_succ_cons, List.take_zero, List.nil_append, List.cons_append, Nat.reduceAdd, List.drop_nil, List.take_nil]
  refine br_split (fun hlt => ?_) (fun hlt => ?_)
  · simp at hlt
    obtain ⟨b2, off, hix, hc2⟩ := ints_at hv (i := k) (by omega) (by omega)
    simp only [hix, SSd, List.getElem?_toArray, List.getElem?_cons_zero, List.getElem?_cons_succ, Nat.zero_add, Nat.add_zero, Nat.zero_mul, List.drop_succ_cons, List.drop_zero, List.take_succ_cons, List.take_zero, List.nil_append, List.cons_append, Nat.reduceAdd, List.drop_nil, List.take_nil]
    refine rd1 (hc2 I' L' (Ext.refl _)) ?_
    rw [drop_geti hlt, List.contains_cons] at hd
    try simp only [SSd, List.getElem?_toArray, List.getElem?_cons_zero, List.getElem?_cons_succ, Nat.zero_add, Nat.add_zero, Nat.zero_mul, List.drop_succ_cons, List.drop_zero, List.take_succ_cons, List.take_zero, List.nil_append, List.cons_append, Nat.reduceAdd, List.drop_nil, List.take_nil]
    refine br_split (fun he => ?_) (fun he => ?_)
    · simp at he
      exact Gh.done (leafB (hk I' hI1) (by rw [← hd]; simp [he]))
    · simp only [SSd, List.getElem?_toArray, List.getElem?_cons_zero, List.getElem?_cons_succ, Nat.zero_add, Nat.add_zero, Nat.zero_mul, List.drop_succ_cons, List.drop_zero, List.take_succ_cons, List.take_zero, List.nil_append, List.cons_append, Nat.reduceAdd, List.drop_nil, List.take_nil, wrap_i64 ((k : Int) + 1) (by omega)]
      refine Gh.done ⟨m - 1, by omega, rfl, rfl, k + 1, by omega, by simp, ?_⟩
      rw [← hd]
      simp at he
      simp [Ne.symm he]
  · simp at hlt
    rw [List.drop_of_length_le (by omega)] at hd
    exact Gh.done (leafB (hk I' hI1) (by rw [← hd]; simp))

theorem qelected_spec {b : Nat} {X F : LH} {r : RF} (h : RaftQ I b X r) (hw : WF r.g) (hk : ∀ I', Ext I I' → RaftQ I' b X r → K (.bool (electedF r)) I' (X ++ F)) :
    Cal Tryz.prog ω 49 #[.pointer (some ⟨b, 0, none⟩)] K I (X ++ F) := by
  have hX := h
  obtain ⟨lb, XL, XO, stv, ov, z0, z1, z2, oc, rfl, h1, h2, h3, h4⟩ := h
  have hmm := memB_mem hw.mems
  have hml := memB_len hw.mems
  refine cal49 ?_
  unfold sh49
  simp only [List.cons_append, List.append_assoc, SSd, List.getElem?_toArray, List.getElem?_cons_zero, List.getElem?_cons_succ, Nat.zero_add, Nat.add_zero, Nat.zero_mul, List.drop_succ_cons, List.drop_zero, List.take_succ_cons, List.take_zero, List.nil_append, List.cons_append, Nat.reduceAdd, List.drop_nil, List.take_nil] at hk ⊢
  refine rdb ?_
  refine call (rlmembers_spec h1.view hw (fun v I1 hI1 hv => ?_))
  have e : electedF r = majF (memOf r.g.mem r.g.es) r.vt := rfl
  rw [e] at hk
  generalize memOf r.g.mem r.g.es = l at *
  have hln := Ints.len hv
  refine loop (fun m s I' L' => I' = I1 ∧ L' = (b, Obj.cells (qcells r z0 z1 z2 (.pointer (some ⟨lb, 0, none⟩)) stv ov).toArray 63 (0, 0)) :: (XL ++ (XO ++ F)) ∧ ∃ k : Nat, k + m = l.length ∧ s = (.int .i64 ((l.take k).filter r.vt).length, .int .i64 k, ())) l.length ⟨rfl, rfl, 0, by omega, rfl⟩ ?_
  rintro m s I' L' ⟨rfl, rfl, k, hkm, rfl⟩
  unfold sh49_3
  simp only [hln, SSd, List.getElem?_toArray, List.getElem?_cons_zero, List.getElem?_cons_succ, Nat.zero_add, Nat.add_zero, Nat.zero_mul, List.drop_succ_cons, List.drop_zero, List.take_succ_cons, List.take_zero, List.nil_append, List.cons_append, Nat.reduceAdd, List.drop_nil, List.take_nil]
  have hfl := List.length_filter_le r.vt (l.take k)
  rw [List.length_take] at hfl
  refine br_split (fun hlt => ?_) (fun hlt => ?_)
  · simp at hlt
    obtain ⟨b2, off, hix, hc2⟩ := ints_at hv (i := k) (by omega) (by omega)
    have hp := hmm (geti l (k : Int)) (by rw [geti_nat hlt]; exact List.getElem_mem hlt)
    refine drawC ?_
    simp only [hix, SSd, List.getElem?_toArray, List.getElem?_cons_zero, List.getElem?_cons_succ, Nat.zero_add, Nat.add_zero, Nat.zero_mul, List.drop_succ_cons, List.drop_zero, List.take_succ_cons, List.take_zero, List.nil_append, List.cons_append, Nat.reduceAdd, List.drop_nil, List.take_nil]
    refine rd1I (hc2 _ _ (Ext.refl _)) ?_
    simp only [ixPV_at _ (show 0 ≤ geti l (k : Int) by omega) (show geti l (k : Int) < ((6 : Nat) : Int) by omega), SSd, List.getElem?_toArray, List.getElem?_cons_zero, List.getElem?_cons_succ, Nat.zero_add, Nat.add_zero, Nat.zero_mul, List.drop_succ_cons, List.drop_zero, List.take_succ_cons, List.take_zero, List.nil_append, List.cons_append, Nat.reduceAdd, List.drop_nil, List.take_nil]
    refine rdLS (qc_vt hp) ?_
    have ht := take_geti hlt
    unfold sh49_4
    refine br_split (fun hq => ?_) (fun hq => ?_)
    · simp only [SSd, List.getElem?_toArray, List.getElem?_cons_zero, List.getElem?_cons_succ, Nat.zero_add, Nat.add_zero, Nat.zero_mul, List.drop_succ_cons, List.drop_zero, List.take_succ_cons, List.take_zero, List.nil_append, List.cons_append, Nat.reduceAdd, List.drop_nil, List.take_nil, wrap_i64 ((k : Int) + 1) (by omega), wrap_i64 (((l.take k).filter r.vt).length + 1) (by omega)]
      refine Gh.done ⟨m - 1, by omega, rfl, rfl, k + 1, by omega, ?_⟩
      rw [ht, List.filter_append, List.length_append]
      simp [hq]
    · simp only [SSd, List.getElem?_toArray, List.getElem?_cons_zero, List.getElem?_cons_succ, Nat.zero_add, Nat.add_zero, Nat.zero_mul, List.drop_succ_cons, List.drop_zero, List.take_succ_cons, List.take_zero, List.nil_append, List.cons_append, Nat.reduceAdd, List.drop_nil, List.take_nil, wrap_i64 ((k : Int) + 1) (by omega)]
      refine Gh.done ⟨m - 1, by omega, rfl, rfl, k + 1, by omega, ?_⟩
      rw [ht, List.filter_append, List.length_append]
      simp [hq]
  · simp at hlt
    unfold sh49_1
    simp only [hln, SSd, List.getElem?_toArray, List.getElem?_cons_zero, List.getElem?_cons_succ, Nat.zero_add, Nat.add_zero, Nat.zero_mul, List.drop_succ_cons, List.drop_zero, List.take_succ_cons, List.take_zero, List.nil_append, List.cons_append, Nat.reduceAdd, List.drop_nil, List.take_nil, wrap_i64 (2 * (((l.take k).filter r.vt).length : Int)) (by omega)]
    refine Gh.done (leafB (hk I' hI1 (hX.mono hI1)) ?_)
    rw [List.take_of_length_le (by omega), majF]
    exact decide_eq_decide.2 (by omega)

theorem qsendTo_spec {b E B : Nat} {X F : LH} {r : RF} {p : Int} (h : RaftQ I b X r) (hw : RWF E B r) (hp : 1 ≤ p ∧ p ≤ 5) (hl : r.out.length ≤ 1000)
    (hk : ∀ X' I', Ext I I' → RaftQ I' b X' (sendToF r p) → K (.tuple #[]) I' (X' ++ F)) : Cal Tryz.prog ω 93 #[.pointer (some ⟨b, 0, none⟩), .int .i64 p] K I (X ++ F) := by
  obtain ⟨lb, XL, XO, stv, ov, z0, z1, z2, oc, rfl, h1, h2, h3, h4⟩ := h
  have hnx := hw.nxb p
  have hlast := hw.wf.last
  have hidx := hw.wf.idx
  simp [countB] at hidx
  have h1v := h1
  obtain ⟨mv, lv, rfl, hm, hE⟩ := h1
  obtain ⟨am, pm, rfl⟩ := Ints.form hm
  obtain ⟨ast, pst, rfl⟩ := Bytes.form h2
  refine cal93 ?_
  unfold sh93
  simp only [List.cons_append, List.append_assoc, List.nil_append, ixPV_at _ (show 0 ≤ p by omega) (show p < ((6 : Nat) : Int) by omega), SSd, List.getElem?_toArray, List.getElem?_cons_zero, List.getElem?_cons_succ, Nat.zero_add, Nat.add_zero, Nat.zero_mul, List.drop_succ_cons, List.drop_zero, List.take_succ_cons, List.take_zero, List.nil_append, List.cons_append, Nat.reduceAdd, List.drop_nil, List.take_nil]
  refine rdL (qc_nx hp) ?_
  simp only [SSd, List.getElem?_toArray, List.getElem?_cons_zero, List.getElem?_cons_succ, Nat.zero_add, Nat.add_zero, Nat.zero_mul, List.drop_succ_cons, List.drop_zero, List.take_succ_cons, List.take_zero, List.nil_append, List.cons_append, Nat.reduceAdd, List.drop_nil, List.take_nil, wrap_i64 (r.nx p - 1) (by omega)]
  refine rdb ?_
  try simp only [SSd, List.getElem?_toArray, List.getElem?_cons_zero, List.getElem?_cons_succ, Nat.zero_add, Nat.add_zero, Nat.zero_mul, List.drop_succ_cons, List.drop_zero, List.take_succ_cons, List.take_zero, List.nil_append, List.cons_append, Nat.reduceAdd, List.drop_nil, List.take_nil]
  refine rdb ?_
  try simp only [SSd, List.getElem?_toArray, List.getElem?_cons_zero, List.getElem?_cons_succ, Nat.zero_add, Nat.add_zero, Nat.zero_mul, List.drop_succ_cons, List.drop_zero, List.take_succ_cons, List.take_zero, List.nil_append, List.cons_append, Nat.reduceAdd, List.drop_nil, List.take_nil]
  refine br_split (fun hlt => ?_) (fun hlt => ?_)
  · simp at hlt
    repeat' (first | (with_reducible refine drawC ?_) | (with_reducible refine drawW1 ?_) | (with_reducible refine drawW2 ?_) | (with_reducible refine keepC (by repeat (first | exact Ext.refl _ | assumption | refine Ext.trans ?_ (by assumption))) ?_) | (with_reducible refine newI (fun _ => ?_)) | first | (with_reducible refine rdb ?_) | ((with_reducible refine st1 ?_ ?_); rfl) | ((with_reducible refine rdB ?_ ?_); rfl) | (with_reducible refine rdbS ?_) | ((with_reducible refine rdBS ?_ ?_); rfl) | ((with_reducible refine stB ?_ ?_ ?_ ?_); rfl; rfl; exact one_all rfl) | ((with_reducible refine rdP _ rfl ?_ ?_); rfl) | ((with_reducible refine rdPS _ rfl ?_ ?_); rfl) | ((with_reducible refine stP _ rfl ?_ ?_ ?_ ?_); rfl; rfl; rfl) | (with_reducible refine And.intro ?_ ?_) | (simp only [Bool.not_true, Bool.not_false, Bool.and_self, Bool.true_and, Int.reduceBEq, Int.reduceBNe, Int.reduceLT, Int.reduceLE, decide_true, decide_false, Br_true, Br_false, Gd_tt, Gd_ft, Gd_tf, Gd_ff, beq_self_eq_true, bne_self_eq_false]) | (with_reducible refine gd_split (fun _ => ?_) (fun _ => ?_)) | (with_reducible refine br_split (fun _ => ?_) (fun _ => ?_)) | (simp only [SSd, List.getElem?_toArray, List.getElem?_cons_zero, List.getElem?_cons_succ, Nat.zero_add, Nat.add_zero, Nat.zero_mul, List.drop_succ_cons, List.drop_zero, List.take_succ_cons, List.take_zero, List.nil_append, List.cons_append, Nat.reduceAdd, List.drop_nil, List.take_nil]))
    refine call (raftq_cal (r := r) (XL := [_]) b F z0 z1 z2 h1v h2 h3 h4 rfl (fun X hX => ?_))
    refine qsend_spec (m := snapM r p) hX ⟨_, _, _, rfl, RL.nil _ _, hm, h2⟩ hl (fun X' hX' => ?_)
    refine Gh.done (hk X' I (Ext.refl I) ?_)
    rw [sendToF, if_pos hlt]; exact hX'
  · simp at hlt
    repeat' (first | (with_reducible refine drawC ?_) | (with_reducible refine drawW1 ?_) | (with_reducible refine drawW2 ?_) | (with_reducible refine keepC (by repeat (first | exact Ext.refl _ | assumption | refine Ext.trans ?_ (by assumption))) ?_) | (with_reducible refine newI (fun _ => ?_)) | ((with_reducible refine call ?_); refine (rterm_spec (g := r.g) h1v.view hw.wf.sz (by unfold inI64; omega) ?_)) | first | (with_reducible refine rdb ?_) | ((with_reducible refine st1 ?_ ?_); rfl) | ((with_reducible refine rdB ?_ ?_); rfl) | (with_reducible refine rdbS ?_) | ((with_reducible refine rdBS ?_ ?_); rfl) | ((with_reducible refine stB ?_ ?_ ?_ ?_); rfl; rfl; exact one_all rfl) | ((with_reducible refine rdP _ rfl ?_ ?_); rfl) | ((with_reducible refine rdPS _ rfl ?_ ?_); rfl) | ((with_reducible refine stP _ rfl ?_ ?_ ?_ ?_); rfl; rfl; rfl) | (with_reducible refine And.intro ?_ ?_) | (simp only [Bool.not_true, Bool.not_false, Bool.and_self, Bool.true_and, Int.reduceBEq, Int.reduceBNe, Int.reduceLT, Int.reduceLE, decide_true, decide_false, Br_true, Br_false, Gd_tt, Gd_ft, Gd_tf, Gd_ff, beq_self_eq_true, bne_self_eq_false]) | (with_reducible refine gd_split (fun _ => ?_) (fun _ => ?_)) | (with_reducible refine br_split (fun _ => ?_) (fun _ => ?_)) | (simp only [SSd, List.getElem?_toArray, List.getElem?_cons_zero, List.getElem?_cons_succ, Nat.zero_add, Nat.add_zero, Nat.zero_mul, List.drop_succ_cons, List.drop_zero, List.take_succ_cons, List.take_zero, List.nil_append, List.cons_append, Nat.reduceAdd, List.drop_nil, List.take_nil]))
    refine call (rslice_spec (g := r.g) h1v.view hw.wf.sz (by unfold inI64; rw [wrap_i64 _ (by omega)]; omega) (by unfold inI64; omega) (fun v I2 hI2 hv => ?_))
    obtain ⟨av, pv, rfl⟩ := RL.form hv
    repeat' (first | (with_reducible refine drawC ?_) | (with_reducible refine drawW1 ?_) | (with_reducible refine drawW2 ?_) | (with_reducible refine keepC (by repeat (first | exact Ext.refl _ | assumption | refine Ext.trans ?_ (by assumption))) ?_) | (with_reducible refine newI (fun _ => ?_)) | first | (with_reducible refine rdb ?_) | ((with_reducible refine st1 ?_ ?_); rfl) | ((with_reducible refine rdB ?_ ?_); rfl) | (with_reducible refine rdbS ?_) | ((with_reducible refine rdBS ?_ ?_); rfl) | ((with_reducible refine stB ?_ ?_ ?_ ?_); rfl; rfl; exact one_all rfl) | ((with_reducible refine rdP _ rfl ?_ ?_); rfl) | ((with_reducible refine rdPS _ rfl ?_ ?_); rfl) | ((with_reducible refine stP _ rfl ?_ ?_ ?_ ?_); rfl; rfl; rfl) | (with_reducible refine And.intro ?_ ?_) | (simp only [Bool.not_true, Bool.not_false, Bool.and_self, Bool.true_and, Int.reduceBEq, Int.reduceBNe, Int.reduceLT, Int.reduceLE, decide_true, decide_false, Br_true, Br_false, Gd_tt, Gd_ft, Gd_tf, Gd_ff, beq_self_eq_true, bne_self_eq_false]) | (with_reducible refine gd_split (fun _ => ?_) (fun _ => ?_)) | (with_reducible refine br_split (fun _ => ?_) (fun _ => ?_)) | (simp only [SSd, List.getElem?_toArray, List.getElem?_cons_zero, List.getElem?_cons_succ, Nat.zero_add, Nat.add_zero, Nat.zero_mul, List.drop_succ_cons, List.drop_zero, List.take_succ_cons, List.take_zero, List.nil_append, List.cons_append, Nat.reduceAdd, List.drop_nil, List.take_nil, wrap_i64 (r.nx p - 1 + 1) (by omega)]))
    refine call (raftq_cal (r := r) (XL := [_]) b F z0 z1 z2 (h1v.mono hI2) (h2.mono hI2) h3 (h4.imp fun _ _ h => h.mono hI2) rfl (fun X hX => ?_))
    refine qsend_spec (m := appM r p) hX ⟨_, _, _, rfl, ?_, SlI.nil _ _ _ _, SlI.nil _ _ _ _⟩ hl (fun X' hX' => ?_)
    · rw [wrap_i64 (r.nx p - 1 + 1) (by omega)] at hv; exact hv
    refine Gh.done (hk X' I2 hI2 ?_)
    rw [sendToF, if_neg (by omega)]; exact hX'
end
end Go.Proofs.YtdcpeboecmkmlaaGreat

namespace Go.Proofs.YtdcpeboecmkmlaaGreat
open Go.SL
set_option maxRecDepth 10000

section
variable {ω : Om} {I : Imm} {L : LH} {K : Value → M}

theorem qothers_spec {b E B : Nat} {X F : LH} {r : RF} (h : RaftQ I b X r) (hw : RWF E B r) (hl : r.out.length ≤ 900)
    (hk : ∀ X' I', Ext I I' → RaftQ I' b X' (sendAllF r) → K (.tuple #[]) I' (X' ++ F)) : Cal Tryz.prog ω 34 #[.pointer (some ⟨b, 0, none⟩)] K I (X ++ F) := by
  have hX := h
  obtain ⟨lb, XL, XO, stv, ov, z0, z1, z2, oc, rfl, h1, h2, h3, h4⟩ := h
  have hmm := memB_mem hw.wf.mems
  have hml := memB_len hw.wf.mems
  refine cal34 ?_
  unfold sh34
  simp only [List.cons_append, List.append_assoc, SSd, List.getElem?_toArray, List.getElem?_cons_zero, List.getElem?_cons_succ, Nat.zero_add, Nat.add_zero, Nat.zero_mul, List.drop_succ_cons, List.drop_zero, List.take_succ_cons, List.take_zero, List.nil_append, List.cons_append, Nat.reduceAdd, List.drop_nil, List.take_nil]
  refine rdb ?_
  try simp only [SSd, List.getElem?_toArray, List.getElem?_cons_zero, List.getElem?_cons_succ, Nat.zero_add, Nat.add_zero, Nat.zero_mul, List.drop_succ_cons, List.drop_zero, List.take_succ_cons, List.take_zero, List.nil_append, List.cons_append, Nat.reduceAdd, List.drop_nil, List.take_nil]
  refine br_split (fun hr => ?_) (fun hr => ?_)
  · simp at hr
    rw [sendAllF, if_neg hr] at hk
    exact raftq_end (F := F) z0 z1 z2 (fun X' h' => hk X' I (Ext.refl I) h') h1 h2 h3 h4 rfl
  simp at hr
  rw [sendAllF, if_pos hr] at hk
  refine rdb ?_
  refine call (rlmembers_spec h1.view hw.wf (fun v I1 hI1 hv => ?_))
  unfold mems at hk
  generalize memOf r.g.mem r.g.es = l at *
  have hln := Ints.len hv
  refine loop (fun m s I' L' => Ext I1 I' ∧ ∃ (k : Nat) (X' : LH), k + m = l.length ∧ s = (.int .i64 k, ()) ∧ RaftQ I' b X' (eachF r (l.take k)) ∧ L' = X' ++ F) l.length ⟨Ext.refl _, 0, _, by omega, rfl, hX.mono hI1, by simp only [List.cons_append, List.append_assoc]⟩ ?_
  clear h1 h2 h3 h4 hX
  rintro m s I' L' ⟨hI, k, X', hkm, rfl, hR, rfl⟩
  unfold sh34_2
  simp only [hln, SSd, List.getElem?_toArray, List.getElem?_cons_zero, List.getElem?_cons_succ, Nat.zero_add, Nat.add_zero, Nat.zero_mul, List.drop_succ_cons, List.drop_zero, List.take_succ_cons, List.take_zero, List.nil_append, List.cons_append, Nat.reduceAdd, List.drop_nil, List.take_nil]
  refine br_split (fun hlt => ?_) (fun hlt => ?_)
  · simp at hlt
    obtain ⟨b2, off, hix, hc2⟩ := ints_at hv (i := k) (by omega) (by omega)
    obtain ⟨lb, XL, XO, stv, ov, z0, z1, z2, oc, rfl, h1, h2, h3, h4⟩ := hR
    simp only [List.cons_append, List.append_assoc]
    refine drawC ?_
    simp only [hix, SSd, List.getElem?_toArray, List.getElem?_cons_zero, List.getElem?_cons_succ, Nat.zero_add, Nat.add_zero, Nat.zero_mul, List.drop_succ_cons, List.drop_zero, List.take_succ_cons, List.take_zero, List.nil_append, List.cons_append, Nat.reduceAdd, List.drop_nil, List.take_nil]
    refine rd1I (hc2 _ _ hI) ?_
    try simp only [SSd, List.getElem?_toArray, List.getElem?_cons_zero, List.getElem?_cons_succ, Nat.zero_add, Nat.add_zero, Nat.zero_mul, List.drop_succ_cons, List.drop_zero, List.take_succ_cons, List.take_zero, List.nil_append, List.cons_append, Nat.reduceAdd, List.drop_nil, List.take_nil]
    refine rdbS ?_
    have hs := each_same (l.take k) r
    have ht := take_geti hlt
    have hid := (RF.ext_out hs.2).2.1
    have hp := hmm (geti l (k : Int)) (by rw [geti_nat hlt]; exact List.getElem_mem hlt)
    have hn := each_snoc r (l.take k) (geti l (k : Int))
    rw [← ht] at hn
    try simp only [SSd, List.getElem?_toArray, List.getElem?_cons_zero, List.getElem?_cons_succ, Nat.zero_add, Nat.add_zero, Nat.zero_mul, List.drop_succ_cons, List.drop_zero, List.take_succ_cons, List.take_zero, List.nil_append, List.cons_append, Nat.reduceAdd, List.drop_nil, List.take_nil]
    refine br_split (fun hq => ?_) (fun hq => ?_)
    · simp at hq
      rw [if_neg hq] at hn
      refine rd1 (hc2 _ _ hI) ?_
      refine call (raftq_cal (r := eachF r (l.take k)) b F z0 z1 z2 h1 h2 h3 h4 rfl (fun X hX => ?_))
      refine qsendTo_spec hX (hw.each _) hp (by rw [List.length_take] at hs; omega) (fun X' I2 hI2 hX' => ?_)
      unfold sh34_3
      simp only [SSd, List.getElem?_toArray, List.getElem?_cons_zero, List.getElem?_cons_succ, Nat.zero_add, Nat.add_zero, Nat.zero_mul, List.drop_succ_cons, List.drop_zero, List.take_succ_cons, List.take_zero, List.nil_append, List.cons_append, Nat.reduceAdd, List.drop_nil, List.take_nil, wrap_i64 ((k : Int) + 1) (by omega)]
      exact Gh.done ⟨m - 1, by omega, hI.trans hI2, k + 1, X', by omega, by simp, by rw [hn]; exact hX', rfl⟩
    · simp at hq
      rw [if_pos hq] at hn
      unfold sh34_3
      simp only [SSd, List.getElem?_toArray, List.getElem?_cons_zero, List.getElem?_cons_succ, Nat.zero_add, Nat.add_zero, Nat.zero_mul, List.drop_succ_cons, List.drop_zero, List.take_succ_cons, List.take_zero, List.nil_append, List.cons_append, Nat.reduceAdd, List.drop_nil, List.take_nil, wrap_i64 ((k : Int) + 1) (by omega)]
      refine Gh.done ⟨m - 1, by omega, hI, k + 1, (b, Obj.cells (qcells (eachF r (l.take k)) z0 z1 z2 (.pointer (some ⟨lb, 0, none⟩)) stv ov).toArray 63 (0, 0)) :: (XL ++ XO), by omega, by simp, ?_, ?_⟩
      · rw [hn]; exact ⟨lb, XL, XO, stv, ov, z0, z1, z2, oc, rfl, h1, h2, h3, h4⟩
      · simp only [List.cons_append, List.append_assoc]
  · simp at hlt
    rw [List.take_of_length_le (by omega)] at hR
    exact Gh.done (hk X' I' (hI1.trans hI) hR)

/-- the last lines of 'commit' -/
theorem qcommit2_spec {b lb : Nat} {XL XO F : LH} {r : RF} {stv ov : Value} {z0 : Bool} {z1 z2 best : Int} {oc : List Value} {I0 : Imm} (hI0 : Ext I0 I) (hw : WF r.g)
    (h1 : LogQ I lb XL r.g) (h2 : Bytes I stv r.st) (h3 : SlO 34 12 XO ov oc r.out.length) (h4 : Recs (MsgV I) 12 r.out oc)
    (hk : ∀ X' I', Ext I0 I' → RaftQ I' b X' (outF r) → K (.bool (decide (0 < best))) I' (X' ++ F)) :
    sh112_2 ω (.pointer (some ⟨b, 0, none⟩)) (.bool false) (.int .i64 best) (fun v => Gh (K v)) I
      ((b, Obj.cells (qcells r z0 z1 z2 (.pointer (some ⟨lb, 0, none⟩)) stv ov).toArray 63 (0, 0)) :: (XL ++ (XO ++ F))) := by
  unfold sh112_2
  repeat' (first | (with_reducible refine drawC ?_) | (with_reducible refine drawW1 ?_) | (with_reducible refine drawW2 ?_) | (with_reducible refine keepC (by repeat (first | exact Ext.refl _ | assumption | refine Ext.trans ?_ (by assumption))) ?_) | (with_reducible refine newI (fun _ => ?_)) | ((with_reducible refine call ?_); refine (rchanging_spec h1.view hw ?_)) | ((with_reducible refine call ?_); refine (qmember_spec (Cell.own (InL.mem) rfl) h1.view hw (fun I1 hI1 => ?_))) | first | (with_reducible refine rdb ?_) | ((with_reducible refine st1 ?_ ?_); rfl) | ((with_reducible refine rdB ?_ ?_); rfl) | (with_reducible refine rdbS ?_) | ((with_reducible refine rdBS ?_ ?_); rfl) | ((with_reducible refine stB ?_ ?_ ?_ ?_); rfl; rfl; exact one_all rfl) | ((with_reducible refine rdP _ rfl ?_ ?_); rfl) | ((with_reducible refine rdPS _ rfl ?_ ?_); rfl) | ((with_reducible refine stP _ rfl ?_ ?_ ?_ ?_); rfl; rfl; rfl) | (with_reducible refine And.intro ?_ ?_) | (simp only [Bool.not_true, Bool.not_false, Bool.and_self, Bool.true_and, Int.reduceBEq, Int.reduceBNe, Int.reduceLT, Int.reduceLE, decide_true, decide_false, Br_true, Br_false, Gd_tt, Gd_ft, Gd_tf, Gd_ff, beq_self_eq_true, bne_self_eq_false]) | (with_reducible refine gd_split (fun _ => ?_) (fun _ => ?_)) | (with_reducible refine br_split (fun _ => ?_) (fun _ => ?_)) | (simp only [SSd, List.getElem?_toArray, List.getElem?_cons_zero, List.getElem?_cons_succ, Nat.zero_add, Nat.add_zero, Nat.zero_mul, List.drop_succ_cons, List.drop_zero, List.take_succ_cons, List.take_zero, List.nil_append, List.cons_append, Nat.reduceAdd, List.drop_nil, List.take_nil]))
  all_goals (
    have h1' := h1.mono hI1
    have h2' := h2.mono hI1
    have h4' := h4.imp fun _ _ h => h.mono hI1)
  · have e : outF r = { r with role := 1, leader := 0 } := by
      rw [outF, if_pos]; unfold mems; simp_all
    rw [e] at hk
    unfold sh112_4 sh112_3
    repeat' (first | (with_reducible refine drawC ?_) | (with_reducible refine drawW1 ?_) | (with_reducible refine drawW2 ?_) | (with_reducible refine keepC (by repeat (first | exact Ext.refl _ | assumption | refine Ext.trans ?_ (by assumption))) ?_) | (with_reducible refine newI (fun _ => ?_)) | first | (with_reducible refine rdb ?_) | ((with_reducible refine st1 ?_ ?_); rfl) | ((with_reducible refine rdB ?_ ?_); rfl) | (with_reducible refine rdbS ?_) | ((with_reducible refine rdBS ?_ ?_); rfl) | ((with_reducible refine stB ?_ ?_ ?_ ?_); rfl; rfl; exact one_all rfl) | ((with_reducible refine rdP _ rfl ?_ ?_); rfl) | ((with_reducible refine rdPS _ rfl ?_ ?_); rfl) | ((with_reducible refine stP _ rfl ?_ ?_ ?_ ?_); rfl; rfl; rfl) | (with_reducible refine And.intro ?_ ?_) | (simp only [Bool.not_true, Bool.not_false, Bool.and_self, Bool.true_and, Int.reduceBEq, Int.reduceBNe, Int.reduceLT, Int.reduceLE, decide_true, decide_false, Br_true, Br_false, Gd_tt, Gd_ft, Gd_tf, Gd_ff, beq_self_eq_true, bne_self_eq_false]) | (with_reducible refine gd_split (fun _ => ?_) (fun _ => ?_)) | (with_reducible refine br_split (fun _ => ?_) (fun _ => ?_)) | (simp only [SSd, List.getElem?_toArray, List.getElem?_cons_zero, List.getElem?_cons_succ, Nat.zero_add, Nat.add_zero, Nat.zero_mul, List.drop_succ_cons, List.drop_zero, List.take_succ_cons, List.take_zero, List.nil_append, List.cons_append, Nat.reduceAdd, List.drop_nil, List.take_nil]))
    exact raftq_end (r := { r with role := 1, leader := 0 }) (F := F) z0 z1 z2 (fun X' h' => hk X' I1 (hI0.trans hI1) h') h1' h2' h3 h4' rfl
  · have e : outF r = r := by
      rw [outF, if_neg]; unfold mems; simp_all
    rw [e] at hk
    unfold sh112_3
    repeat' (first | (with_reducible refine drawC ?_) | (with_reducible refine drawW1 ?_) | (with_reducible refine drawW2 ?_) | (with_reducible refine keepC (by repeat (first | exact Ext.refl _ | assumption | refine Ext.trans ?_ (by assumption))) ?_) | (with_reducible refine newI (fun _ => ?_)) | first | (with_reducible refine rdb ?_) | ((with_reducible refine st1 ?_ ?_); rfl) | ((with_reducible refine rdB ?_ ?_); rfl) | (with_reducible refine rdbS ?_) | ((with_reducible refine rdBS ?_ ?_); rfl) | ((with_reducible refine stB ?_ ?_ ?_ ?_); rfl; rfl; exact one_all rfl) | ((with_reducible refine rdP _ rfl ?_ ?_); rfl) | ((with_reducible refine rdPS _ rfl ?_ ?_); rfl) | ((with_reducible refine stP _ rfl ?_ ?_ ?_ ?_); rfl; rfl; rfl) | (with_reducible refine And.intro ?_ ?_) | (simp only [Bool.not_true, Bool.not_false, Bool.and_self, Bool.true_and, Int.reduceBEq, Int.reduceBNe, Int.reduceLT, Int.reduceLE, decide_true, decide_false, Br_true, Br_false, Gd_tt, Gd_ft, Gd_tf, Gd_ff, beq_self_eq_true, bne_self_eq_false]) | (with_reducible refine gd_split (fun _ => ?_) (fun _ => ?_)) | (with_reducible refine br_split (fun _ => ?_) (fun _ => ?_)) | (simp only [SSd, List.getElem?_toArray, List.getElem?_cons_zero, List.getElem?_cons_succ, Nat.zero_add, Nat.add_zero, Nat.zero_mul, List.drop_succ_cons, List.drop_zero, List.take_succ_cons, List.take_zero, List.nil_append, List.cons_append, Nat.reduceAdd, List.drop_nil, List.take_nil]))
    exact raftq_end (r := r) (F := F) z0 z1 z2 (fun X' h' => hk X' I1 (hI0.trans hI1) h') h1' h2' h3 h4' rfl
  · have e : outF r = r := by
      rw [outF, if_neg]; simp_all
    rw [e] at hk
    unfold sh112_3
    repeat' (first | (with_reducible refine drawC ?_) | (with_reducible refine drawW1 ?_) | (with_reducible refine drawW2 ?_) | (with_reducible refine keepC (by repeat (first | exact Ext.refl _ | assumption | refine Ext.trans ?_ (by assumption))) ?_) | (with_reducible refine newI (fun _ => ?_)) | first | (with_reducible refine rdb ?_) | ((with_reducible refine st1 ?_ ?_); rfl) | ((with_reducible refine rdB ?_ ?_); rfl) | (with_reducible refine rdbS ?_) | ((with_reducible refine rdBS ?_ ?_); rfl) | ((with_reducible refine stB ?_ ?_ ?_ ?_); rfl; rfl; exact one_all rfl) | ((with_reducible refine rdP _ rfl ?_ ?_); rfl) | ((with_reducible refine rdPS _ rfl ?_ ?_); rfl) | ((with_reducible refine stP _ rfl ?_ ?_ ?_ ?_); rfl; rfl; rfl) | (with_reducible refine And.intro ?_ ?_) | (simp only [Bool.not_true, Bool.not_false, Bool.and_self, Bool.true_and, Int.reduceBEq, Int.reduceBNe, Int.reduceLT, Int.reduceLE, decide_true, decide_false, Br_true, Br_false, Gd_tt, Gd_ft, Gd_tf, Gd_ff, beq_self_eq_true, bne_self_eq_false]) | (with_reducible refine gd_split (fun _ => ?_) (fun _ => ?_)) | (with_reducible refine br_split (fun _ => ?_) (fun _ => ?_)) | (simp only [SSd, List.getElem?_toArray, List.getElem?_cons_zero, List.getElem?_cons_succ, Nat.zero_add, Nat.add_zero, Nat.zero_mul, List.drop_succ_cons, List.drop_zero, List.take_succ_cons, List.take_zero, List.nil_append, List.cons_append, Nat.reduceAdd, List.drop_nil, List.take_nil]))
    exact raftq_end (r := r) (F := F) z0 z1 z2 (fun X' h' => hk X' I1 (hI0.trans hI1) h') h1' h2' h3 h4' rfl

theorem qcommit_spec {b E B : Nat} {X F : LH} {r : RF} (h : RaftQ I b X r) (hw : RWF E B r)
    (hk : ∀ X' I', Ext I I' → RaftQ I' b X' (commitF r).2 → K (.bool (commitF r).1) I' (X' ++ F)) : Cal Tryz.prog ω 112 #[.pointer (some ⟨b, 0, none⟩)] K I (X ++ F) := by
  obtain ⟨lb, XL, XO, stv, ov, z0, z1, z2, oc, rfl, h1, h2, h3, h4⟩ := h
  rw [commitF_eq] at hk
  simp only at hk
  have hlast := hw.wf.last
  have hcom := hw.wf.com
  have hidx := hw.wf.idx
  have hmm := memB_mem hw.wf.mems
  have hml := memB_len hw.wf.mems
  simp [countB] at hidx
  have h1v := h1
  obtain ⟨mv, lv, rfl, hm, hE⟩ := h1
  refine cal112 ?_
  unfold sh112
  simp only [List.cons_append, List.append_assoc, List.nil_append]
  try simp only [SSd, List.getElem?_toArray, List.getElem?_cons_zero, List.getElem?_cons_succ, Nat.zero_add, Nat.add_zero, Nat.zero_mul, List.drop_succ_cons, List.drop_zero, List.take_succ_cons, List.take_zero, List.nil_append, List.cons_append, Nat.reduceAdd, List.drop_nil, List.take_nil]
  refine rdb ?_
  refine call (rlast_spec (g := r.g) h1v.view hw.wf.sz ?_)
  repeat' (first | (with_reducible refine drawC ?_) | (with_reducible refine drawW1 ?_) | (with_reducible refine drawW2 ?_) | (with_reducible refine keepC (by repeat (first | exact Ext.refl _ | assumption | refine Ext.trans ?_ (by assumption))) ?_) | (with_reducible refine newI (fun _ => ?_)) | first | (with_reducible refine rdb ?_) | ((with_reducible refine st1 ?_ ?_); rfl) | ((with_reducible refine rdB ?_ ?_); rfl) | (with_reducible refine rdbS ?_) | ((with_reducible refine rdBS ?_ ?_); rfl) | ((with_reducible refine stB ?_ ?_ ?_ ?_); rfl; rfl; exact one_all rfl) | ((with_reducible refine rdP _ rfl ?_ ?_); rfl) | ((with_reducible refine rdPS _ rfl ?_ ?_); rfl) | ((with_reducible refine stP _ rfl ?_ ?_ ?_ ?_); rfl; rfl; rfl) | (with_reducible refine And.intro ?_ ?_) | (simp only [Bool.not_true, Bool.not_false, Bool.and_self, Bool.true_and, Int.reduceBEq, Int.reduceBNe, Int.reduceLT, Int.reduceLE, decide_true, decide_false, Br_true, Br_false, Gd_tt, Gd_ft, Gd_tf, Gd_ff, beq_self_eq_true, bne_self_eq_false]) | (with_reducible refine gd_split (fun _ => ?_) (fun _ => ?_)) | (with_reducible refine br_split (fun _ => ?_) (fun _ => ?_)) | (simp only [SSd, List.getElem?_toArray, List.getElem?_cons_zero, List.getElem?_cons_succ, Nat.zero_add, Nat.add_zero, Nat.zero_mul, List.drop_succ_cons, List.drop_zero, List.take_succ_cons, List.take_zero, List.nil_append, List.cons_append, Nat.reduceAdd, List.drop_nil, List.take_nil]))
  simp only [ixPV_at _ (show 0 ≤ r.id by have := hw.idn; omega) (show r.id < ((6 : Nat) : Int) by have := hw.idn; omega), SSd, List.getElem?_toArray, List.getElem?_cons_zero, List.getElem?_cons_succ, Nat.zero_add, Nat.add_zero, Nat.zero_mul, List.drop_succ_cons, List.drop_zero, List.take_succ_cons, List.take_zero, List.nil_append, List.cons_append, Nat.reduceAdd, List.drop_nil, List.take_nil]
  refine stL (qc_smt hw.idn) (by rw [qc_len]; have := hw.idn; omega) rfl ?_
  try simp only [SSd, List.getElem?_toArray, List.getElem?_cons_zero, List.getElem?_cons_succ, Nat.zero_add, Nat.add_zero, Nat.zero_mul, List.drop_succ_cons, List.drop_zero, List.take_succ_cons, List.take_zero, List.nil_append, List.cons_append, Nat.reduceAdd, List.drop_nil, List.take_nil]
  refine rdb ?_
  refine call (rlmembers_spec (g := r.g) h1v.view hw.wf (fun v I1 hI1 hv => ?_))
  have hq : ∀ n, hasQ (matF r) n = (((termAt r.g n).1 == r.term) && majF (memOf r.g.mem r.g.es) (fun p => decide (n ≤ (matF r).mt p))) := fun n => rfl
  have hwm := hw.mat
  have hmat : ({ r with mt := updI r.mt r.id (lastI r.g) } : RF) = matF r := rfl
  have hg : (matF r).g = r.g := rfl
  generalize hl : memOf r.g.mem r.g.es = l at *
  have hln := Ints.len hv
  repeat' (first | (with_reducible refine drawC ?_) | (with_reducible refine drawW1 ?_) | (with_reducible refine drawW2 ?_) | (with_reducible refine keepC (by repeat (first | exact Ext.refl _ | assumption | refine Ext.trans ?_ (by assumption))) ?_) | (with_reducible refine newI (fun _ => ?_)) | first | (with_reducible refine rdb ?_) | ((with_reducible refine st1 ?_ ?_); rfl) | ((with_reducible refine rdB ?_ ?_); rfl) | (with_reducible refine rdbS ?_) | ((with_reducible refine rdBS ?_ ?_); rfl) | ((with_reducible refine stB ?_ ?_ ?_ ?_); rfl; rfl; exact one_all rfl) | ((with_reducible refine rdP _ rfl ?_ ?_); rfl) | ((with_reducible refine rdPS _ rfl ?_ ?_); rfl) | ((with_reducible refine stP _ rfl ?_ ?_ ?_ ?_); rfl; rfl; rfl) | (with_reducible refine And.intro ?_ ?_) | (simp only [Bool.not_true, Bool.not_false, Bool.and_self, Bool.true_and, Int.reduceBEq, Int.reduceBNe, Int.reduceLT, Int.reduceLE, decide_true, decide_false, Br_true, Br_false, Gd_tt, Gd_ft, Gd_tf, Gd_ff, beq_self_eq_true, bne_self_eq_false]) | (with_reducible refine gd_split (fun _ => ?_) (fun _ => ?_)) | (with_reducible refine br_split (fun _ => ?_) (fun _ => ?_)) | (simp only [SSd, List.getElem?_toArray, List.getElem?_cons_zero, List.getElem?_cons_succ, Nat.zero_add, Nat.add_zero, Nat.zero_mul, List.drop_succ_cons, List.drop_zero, List.take_succ_cons, List.take_zero, List.nil_append, List.cons_append, Nat.reduceAdd, List.drop_nil, List.take_nil, wrap_i64 (r.g.commit + 1) (by unfold lastI at *; omega)]))
  rw [hmat]
  have h1' := h1v.mono hI1
  have h2' := h2.mono hI1
  have h4' := h4.imp fun _ _ h => h.mono hI1
  have hbG : bestF (matF r) = bestG (hasQ (matF r)) r.g.commit (lastI r.g - r.g.commit).toNat := rfl
  refine loop (fun m s I' L' => I' = I1 ∧ L' = (b, Obj.cells (qcells (matF r) z0 z1 z2 (.pointer (some ⟨lb, 0, none⟩)) stv ov).toArray 63 (0, 0)) :: (lb, Obj.cells #[.int .i64 r.g.index, .int .i64 r.g.term, mv, lv, .int .i64 r.g.commit] 94 (0, 0)) :: (XO ++ F) ∧
      ∃ j : Nat, j + m = (lastI r.g - r.g.commit).toNat ∧ s = (.int .i64 (bestG (hasQ (matF r)) r.g.commit j), .int .i64 (r.g.commit + 1 + j), ())) (lastI r.g - r.g.commit).toNat ⟨rfl, rfl, 0, by omega, by simp [bestG]⟩ ?_
  rintro m s I' L' ⟨rfl, rfl, j, hj, rfl⟩
  have hbl := bestG_le (hasQ (matF r)) r.g.commit j
  unfold sh112_6
  try simp only [SSd, List.getElem?_toArray, List.getElem?_cons_zero, List.getElem?_cons_succ, Nat.zero_add, Nat.add_zero, Nat.zero_mul, List.drop_succ_cons, List.drop_zero, List.take_succ_cons, List.take_zero, List.nil_append, List.cons_append, Nat.reduceAdd, List.drop_nil, List.take_nil]
  refine br_split (fun hlt => ?_) (fun hlt => ?_)
  · simp at hlt
    refine rdb ?_
    refine call (rterm_spec (g := r.g) (LogQ.view h1') hw.wf.sz (by unfold inI64; unfold lastI at *; omega) ?_)
    try simp only [SSd, List.getElem?_toArray, List.getElem?_cons_zero, List.getElem?_cons_succ, Nat.zero_add, Nat.add_zero, Nat.zero_mul, List.drop_succ_cons, List.drop_zero, List.take_succ_cons, List.take_zero, List.nil_append, List.cons_append, Nat.reduceAdd, List.drop_nil, List.take_nil]
    have hqj := hq (r.g.commit + 1 + j)
    have hb1 : bestG (hasQ (matF r)) r.g.commit (j + 1) = if hasQ (matF r) (r.g.commit + 1 + j) then r.g.commit + 1 + j else bestG (hasQ (matF r)) r.g.commit j := by
      rw [bestG, show r.g.commit + ((j + 1 : Nat) : Int) = r.g.commit + 1 + j by omega]
    refine loop (fun m2 s I2 L2 => I2 = I' ∧ L2 = (b, Obj.cells (qcells (matF r) z0 z1 z2 (.pointer (some ⟨lb, 0, none⟩)) stv ov).toArray 63 (0, 0)) :: (lb, Obj.cells #[.int .i64 r.g.index, .int .i64 r.g.term, mv, lv, .int .i64 r.g.commit] 94 (0, 0)) :: (XO ++ F) ∧
      ∃ k : Nat, k + m2 = l.length ∧ s = (.int .i64 ((l.take k).filter fun p => decide (r.g.commit + 1 + j ≤ (matF r).mt p)).length, .int .i64 k, ())) l.length ⟨rfl, rfl, 0, by omega, rfl⟩ ?_
    rintro m2 s I2 L2 ⟨rfl, rfl, k, hk2, rfl⟩
    unfold sh112_12
    simp only [hln, SSd, List.getElem?_toArray, List.getElem?_cons_zero, List.getElem?_cons_succ, Nat.zero_add, Nat.add_zero, Nat.zero_mul, List.drop_succ_cons, List.drop_zero, List.take_succ_cons, List.take_zero, List.nil_append, List.cons_append, Nat.reduceAdd, List.drop_nil, List.take_nil]
    have hfl := List.length_filter_le (fun p => decide (r.g.commit + 1 + j ≤ (matF r).mt p)) (l.take k)
    rw [List.length_take] at hfl
    refine br_split (fun hlt2 => ?_) (fun hlt2 => ?_)
    · simp at hlt2
      obtain ⟨b2, off, hix, hc2⟩ := ints_at hv (i := k) (by omega) (by omega)
      have hp := hmm (geti l (k : Int)) (by rw [geti_nat hlt2]; exact List.getElem_mem hlt2)
      refine drawC ?_
      simp only [hix, SSd, List.getElem?_toArray, List.getElem?_cons_zero, List.getElem?_cons_succ, Nat.zero_add, Nat.add_zero, Nat.zero_mul, List.drop_succ_cons, List.drop_zero, List.take_succ_cons, List.take_zero, List.nil_append, List.cons_append, Nat.reduceAdd, List.drop_nil, List.take_nil]
      refine rd1I (hc2 _ _ (Ext.refl _)) ?_
      simp only [ixPV_at _ (show 0 ≤ geti l (k : Int) by omega) (show geti l (k : Int) < ((6 : Nat) : Int) by omega), SSd, List.getElem?_toArray, List.getElem?_cons_zero, List.getElem?_cons_succ, Nat.zero_add, Nat.add_zero, Nat.zero_mul, List.drop_succ_cons, List.drop_zero, List.take_succ_cons, List.take_zero, List.nil_append, List.cons_append, Nat.reduceAdd, List.drop_nil, List.take_nil]
      refine rdLS (qc_mt hp) ?_
      have ht := take_geti hlt2
      unfold sh112_13
      try simp only [SSd, List.getElem?_toArray, List.getElem?_cons_zero, List.getElem?_cons_succ, Nat.zero_add, Nat.add_zero, Nat.zero_mul, List.drop_succ_cons, List.drop_zero, List.take_succ_cons, List.take_zero, List.nil_append, List.cons_append, Nat.reduceAdd, List.drop_nil, List.take_nil]
      refine br_split (fun hq => ?_) (fun hq => ?_)
      · simp only [SSd, List.getElem?_toArray, List.getElem?_cons_zero, List.getElem?_cons_succ, Nat.zero_add, Nat.add_zero, Nat.zero_mul, List.drop_succ_cons, List.drop_zero, List.take_succ_cons, List.take_zero, List.nil_append, List.cons_append, Nat.reduceAdd, List.drop_nil, List.take_nil, wrap_i64 ((k : Int) + 1) (by omega), wrap_i64 ((((l.take k).filter fun p => decide (r.g.commit + 1 + j ≤ (matF r).mt p)).length : Int) + 1) (by omega)]
        refine Gh.done ⟨m2 - 1, by omega, rfl, rfl, k + 1, by omega, ?_⟩
        rw [ht, List.filter_append, List.length_append, List.filter_cons_of_pos (by simpa using hq)]
        simp
      · simp only [SSd, List.getElem?_toArray, List.getElem?_cons_zero, List.getElem?_cons_succ, Nat.zero_add, Nat.add_zero, Nat.zero_mul, List.drop_succ_cons, List.drop_zero, List.take_succ_cons, List.take_zero, List.nil_append, List.cons_append, Nat.reduceAdd, List.drop_nil, List.take_nil, wrap_i64 ((k : Int) + 1) (by omega)]
        refine Gh.done ⟨m2 - 1, by omega, rfl, rfl, k + 1, by omega, ?_⟩
        rw [ht, List.filter_append, List.length_append, List.filter_cons_of_neg (by simpa using hq)]
        simp
    · simp at hlt2
      rw [List.take_of_length_le (by omega)] at hfl ⊢
      unfold sh112_9
      simp only [hln, SSd, List.getElem?_toArray, List.getElem?_cons_zero, List.getElem?_cons_succ, Nat.zero_add, Nat.add_zero, Nat.zero_mul, List.drop_succ_cons, List.drop_zero, List.take_succ_cons, List.take_zero, List.nil_append, List.cons_append, Nat.reduceAdd, List.drop_nil, List.take_nil]
      refine rdb ?_
      have next : ∀ bb : Int, bb = bestG (hasQ (matF r)) r.g.commit (j + 1) → sh112_7 ω (.int .i64 bb) (.int .i64 (r.g.commit + 1 + j)) (fun s' => Gh fun I3 L3 => ∃ m', m' < m ∧ (I3 = I2 ∧ L3 = (b, Obj.cells (qcells (matF r) z0 z1 z2 (.pointer (some ⟨lb, 0, none⟩)) stv ov).toArray 63 (0, 0)) :: (lb, Obj.cells #[.int .i64 r.g.index, .int .i64 r.g.term, mv, lv, .int .i64 r.g.commit] 94 (0, 0)) :: (XO ++ F) ∧
          ∃ j : Nat, j + m' = (lastI r.g - r.g.commit).toNat ∧ s' = (.int .i64 (bestG (hasQ (matF r)) r.g.commit j), .int .i64 (r.g.commit + 1 + j), ()))) (fun v => Gh (K v)) I2
          ((b, Obj.cells (qcells (matF r) z0 z1 z2 (.pointer (some ⟨lb, 0, none⟩)) stv ov).toArray 63 (0, 0)) :: (lb, Obj.cells #[.int .i64 r.g.index, .int .i64 r.g.term, mv, lv, .int .i64 r.g.commit] 94 (0, 0)) :: (XO ++ F)) := by
        intro bb hbb
        unfold sh112_7
        simp only [SSd, List.getElem?_toArray, List.getElem?_cons_zero, List.getElem?_cons_succ, Nat.zero_add, Nat.add_zero, Nat.zero_mul, List.drop_succ_cons, List.drop_zero, List.take_succ_cons, List.take_zero, List.nil_append, List.cons_append, Nat.reduceAdd, List.drop_nil, List.take_nil, wrap_i64 (r.g.commit + 1 + j + 1) (by unfold lastI at *; omega)]
        refine Gh.done ⟨m - 1, by omega, rfl, rfl, j + 1, by omega, ?_⟩
        rw [hbb, show r.g.commit + 1 + ((j + 1 : Nat) : Int) = r.g.commit + 1 + j + 1 by omega]
      have htm : (matF r).term = r.term := rfl
      simp only [SSd, List.getElem?_toArray, List.getElem?_cons_zero, List.getElem?_cons_succ, Nat.zero_add, Nat.add_zero, Nat.zero_mul, List.drop_succ_cons, List.drop_zero, List.take_succ_cons, List.take_zero, List.nil_append, List.cons_append, Nat.reduceAdd, List.drop_nil, List.take_nil, htm]
      refine gd_split (fun hte => ?_) (fun hte => next _ (by rw [hb1, hqj]; simp at hte; simp [hte]))
      simp at hte
      simp only [SSd, List.getElem?_toArray, List.getElem?_cons_zero, List.getElem?_cons_succ, Nat.zero_add, Nat.add_zero, Nat.zero_mul, List.drop_succ_cons, List.drop_zero, List.take_succ_cons, List.take_zero, List.nil_append, List.cons_append, Nat.reduceAdd, List.drop_nil, List.take_nil, wrap_i64 (2 * ((l.filter fun p => decide (r.g.commit + 1 + j ≤ (matF r).mt p)).length : Int)) (by omega)]
      refine br_split (fun hmj => next _ ?_) (fun hmj => next _ ?_)
      · simp at hmj
        rw [hb1, if_pos]
        rw [hqj, majF]; simp [hte]; omega
      · simp at hmj
        rw [hb1, if_neg]
        rw [hqj, majF]; simp [hte]; omega
  · simp at hlt
    have hjj : j = (lastI r.g - r.g.commit).toNat := by omega
    rw [hjj, ← hbG]
    unfold sh112_1
    try simp only [SSd, List.getElem?_toArray, List.getElem?_cons_zero, List.getElem?_cons_succ, Nat.zero_add, Nat.add_zero, Nat.zero_mul, List.drop_succ_cons, List.drop_zero, List.take_succ_cons, List.take_zero, List.nil_append, List.cons_append, Nat.reduceAdd, List.drop_nil, List.take_nil]
    refine br_split (fun hpos => ?_) (fun hpos => ?_)
    · simp at hpos
      rw [comF, if_pos hpos] at hk
      refine rdb ?_
      refine callG (Cal.split [_] (rsettle_spec (g := r.g) h1' hw.wf (fun XL' hL' => ?_)))
      refine Gh.pick b (XL' ++ (XO ++ F)) (Gh.done ?_)
      exact qcommit2_spec (r := settleF (matF r) (bestF (matF r))) hI1 (settle_wf hw.wf) hL' h2' h3 h4' hk
    · simp at hpos
      rw [comF, if_neg (by omega)] at hk
      exact qcommit2_spec (r := matF r) (XL := [_]) hI1 hw.wf h1' h2' h3 h4' hk
end
end Go.Proofs.YtdcpeboecmkmlaaGreat
