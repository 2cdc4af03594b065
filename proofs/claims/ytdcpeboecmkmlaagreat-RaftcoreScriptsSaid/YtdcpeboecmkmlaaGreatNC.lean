/-
  The document's node: it leads, it wants to; time; data.
-/
-- S3
import Derived.Test.YtdcpeboecmkmlaaGreatNA
set_option linter.unusedSimpArgs false
set_option linter.unusedVariables false
namespace Go.Proofs.YtdcpeboecmkmlaaGreat
open Go.SL
set_option maxRecDepth 10000

theorem ldq_set {r : RF} {n k y1 y2 : Int} {z0 : Bool} {lv stv ov : Value} (h : 1 ≤ k ∧ k ≤ 5) :
    ((qcells (ldF r n k) z0 y1 y2 lv stv ov).set (15 + k.toNat * 1) (.int .i64 n)).set (21 + k.toNat * 1) (.int .i64 0) = qcells (ldF r n (k + 1)) z0 y1 y2 lv stv ov := by
  rcases five h with rfl | rfl | rfl | rfl | rfl <;> simp [qcells, ldF]
theorem ldq_1 {r : RF} {n y1 y2 : Int} {z0 : Bool} {lv stv ov : Value} : qcells (ldF r n 1) z0 y1 y2 lv stv ov = qcells { r with role := 3, leader := r.id } z0 y1 y2 lv stv ov := by
  simp [qcells, ldF]
theorem ldq_6 {r : RF} {y1 y2 : Int} {z0 : Bool} {lv stv ov : Value} : qcells (ldF r (lastI r.g + 1) 6) z0 y1 y2 lv stv ov = qcells (lead0 r) z0 y1 y2 lv stv ov := by
  simp [qcells, ldF, lead0]
section
variable {ω : Om} {I : Imm} {L : LH} {K : Value → M}

theorem qlead_spec {b E B : Nat} {X F : LH} {r : RF} (h : RaftQ I b X r) (hw : RWF E B r) (hE : (E + 1) * 48 ≤ 150000000000000) (hl : r.out.length ≤ 800)
    (hk : ∀ X' I', Ext I I' → RaftQ I' b X' (leadF r) → K (.tuple #[]) I' (X' ++ F)) : Cal Tryz.prog ω 50 #[.pointer (some ⟨b, 0, none⟩)] K I (X ++ F) := by
  obtain ⟨lb, XL, XO, stv, ov, z0, z1, z2, oc, rfl, h1, h2, h3, h4⟩ := h
  have hlast := hw.wf.last
  refine cal50 ?_
  unfold sh50
  simp only [List.cons_append, List.append_assoc]
  try simp only [SSd, List.getElem?_toArray, List.getElem?_cons_zero, List.getElem?_cons_succ, Nat.zero_add, Nat.add_zero, Nat.zero_mul, List.drop_succ_cons, List.drop_zero, List.take_succ_cons, List.take_zero, List.nil_append, List.cons_append, Nat.reduceAdd, List.drop_nil, List.take_nil]
  refine rdb ?_
  refine call (rlast_spec h1.view hw.wf.sz ?_)
  repeat' (first | (with_reducible refine drawC ?_) | (with_reducible refine drawW1 ?_) | (with_reducible refine drawW2 ?_) | (with_reducible refine keepC (by repeat (first | exact Ext.refl _ | assumption | refine Ext.trans ?_ (by assumption))) ?_) | (with_reducible refine newI (fun _ => ?_)) | first | (with_reducible refine rdb ?_) | ((with_reducible refine st1 ?_ ?_); rfl) | ((with_reducible refine rdB ?_ ?_); rfl) | (with_reducible refine rdbS ?_) | ((with_reducible refine rdBS ?_ ?_); rfl) | ((with_reducible refine stB ?_ ?_ ?_ ?_); rfl; rfl; exact one_all rfl) | ((with_reducible refine rdP _ rfl ?_ ?_); rfl) | ((with_reducible refine rdPS _ rfl ?_ ?_); rfl) | ((with_reducible refine stP _ rfl ?_ ?_ ?_ ?_); rfl; rfl; rfl) | (with_reducible refine And.intro ?_ ?_) | (simp only [Bool.not_true, Bool.not_false, Bool.and_self, Bool.true_and, Int.reduceBEq, Int.reduceBNe, Int.reduceLT, Int.reduceLE, decide_true, decide_false, Br_true, Br_false, Gd_tt, Gd_ft, Gd_tf, Gd_ff, beq_self_eq_true, bne_self_eq_false]) | (with_reducible refine gd_split (fun _ => ?_) (fun _ => ?_)) | (with_reducible refine br_split (fun _ => ?_) (fun _ => ?_)) | (simp only [SSd, List.getElem?_toArray, List.getElem?_cons_zero, List.getElem?_cons_succ, Nat.zero_add, Nat.add_zero, Nat.zero_mul, List.drop_succ_cons, List.drop_zero, List.take_succ_cons, List.take_zero, List.nil_append, List.cons_append, Nat.reduceAdd, List.drop_nil, List.take_nil]))
  refine loop (fun m s I' L' => I' = I ∧ ∃ (k : Int), 1 ≤ k ∧ k + m = 6 ∧ s = (.int .i64 k, ()) ∧
      L' = (b, Obj.cells (qcells (ldF r (lastI r.g + 1) k) z0 z1 z2 (.pointer (some ⟨lb, 0, none⟩)) stv ov).toArray 63 (0, 0)) :: (XL ++ (XO ++ F)))
    5 ⟨rfl, 1, by omega, by omega, rfl, ?_⟩ ?_
  · rw [ldq_1]
  rintro m s I' L' ⟨rfl, k, hk0, hkm, rfl, rfl⟩
  unfold sh50_3
  try simp only [SSd, List.getElem?_toArray, List.getElem?_cons_zero, List.getElem?_cons_succ, Nat.zero_add, Nat.add_zero, Nat.zero_mul, List.drop_succ_cons, List.drop_zero, List.take_succ_cons, List.take_zero, List.nil_append, List.cons_append, Nat.reduceAdd, List.drop_nil, List.take_nil]
  refine br_split (fun hlt => ?_) (fun hlt => ?_)
  · simp at hlt
    simp only [SSd, List.getElem?_toArray, List.getElem?_cons_zero, List.getElem?_cons_succ, Nat.zero_add, Nat.add_zero, Nat.zero_mul, List.drop_succ_cons, List.drop_zero, List.take_succ_cons, List.take_zero, List.nil_append, List.cons_append, Nat.reduceAdd, List.drop_nil, List.take_nil, wrap_i64 (lastI r.g + 1) (by omega), ixPV_at _ (show 0 ≤ k by omega) (show k < ((6 : Nat) : Int) by omega)]
    refine stL rfl (by rw [qc_len]; omega) rfl ?_
    refine stL (ldq_set ⟨hk0, by omega⟩) (by rw [List.length_set, qc_len]; omega) rfl ?_
    exact Gh.done ⟨m - 1, by omega, rfl, k + 1, by omega, by omega, by rw [wrap_i64 (k + 1) (by omega)], rfl⟩
  · simp at hlt
    obtain rfl : k = 6 := by omega
    rw [ldq_6]
    unfold sh50_1
    repeat' (first | (with_reducible refine drawC ?_) | (with_reducible refine drawW1 ?_) | (with_reducible refine drawW2 ?_) | (with_reducible refine keepC (by repeat (first | exact Ext.refl _ | assumption | refine Ext.trans ?_ (by assumption))) ?_) | (with_reducible refine newI (fun _ => ?_)) | first | (with_reducible refine rdb ?_) | ((with_reducible refine st1 ?_ ?_); rfl) | ((with_reducible refine rdB ?_ ?_); rfl) | (with_reducible refine rdbS ?_) | ((with_reducible refine rdBS ?_ ?_); rfl) | ((with_reducible refine stB ?_ ?_ ?_ ?_); rfl; rfl; exact one_all rfl) | ((with_reducible refine rdP _ rfl ?_ ?_); rfl) | ((with_reducible refine rdPS _ rfl ?_ ?_); rfl) | ((with_reducible refine stP _ rfl ?_ ?_ ?_ ?_); rfl; rfl; rfl) | (with_reducible refine And.intro ?_ ?_) | (simp only [Bool.not_true, Bool.not_false, Bool.and_self, Bool.true_and, Int.reduceBEq, Int.reduceBNe, Int.reduceLT, Int.reduceLE, decide_true, decide_false, Br_true, Br_false, Gd_tt, Gd_ft, Gd_tf, Gd_ff, beq_self_eq_true, bne_self_eq_false]) | (with_reducible refine gd_split (fun _ => ?_) (fun _ => ?_)) | (with_reducible refine br_split (fun _ => ?_) (fun _ => ?_)) | (simp only [SSd, List.getElem?_toArray, List.getElem?_cons_zero, List.getElem?_cons_succ, Nat.zero_add, Nat.add_zero, Nat.zero_mul, List.drop_succ_cons, List.drop_zero, List.take_succ_cons, List.take_zero, List.nil_append, List.cons_append, Nat.reduceAdd, List.drop_nil, List.take_nil]))
    refine callG (Cal.split XL (radd_spec (d := []) h1 hw.wf (SlI.nil _ _ _ _) (by have := hw.len; omega) (fun XL' I2 hI2 hL' => ?_)))
    have hwa := hw.lead0.add hE 1 []
    try simp only [SSd, List.getElem?_toArray, List.getElem?_cons_zero, List.getElem?_cons_succ, Nat.zero_add, Nat.add_zero, Nat.zero_mul, List.drop_succ_cons, List.drop_zero, List.take_succ_cons, List.take_zero, List.nil_append, List.cons_append, Nat.reduceAdd, List.drop_nil, List.take_nil]
    refine Gh.pick b (XL' ++ (XO ++ F)) (Gh.done ?_)
    refine call (raftq_cal (r := { lead0 r with g := (addG r.g r.term 1 []).2.2 }) b F z0 z1 z2 hL' (h2.mono hI2) h3 (h4.imp fun _ _ h => h.mono hI2) rfl (fun X hX => ?_))
    refine qcommit_spec hX hwa (fun X' I3 hI3 hX' => ?_)
    refine call (qothers_spec hX' hwa.commit (by rw [commit_out]; simp only [lead0]; omega) (fun X'' I4 hI4 hX'' => ?_))
    exact Gh.done (hk X'' I4 ((hI2.trans hI3).trans hI4) hX'')

theorem qwant_spec {b E B : Nat} {X F : LH} {r : RF} (h : RaftQ I b X r) (hw : RWF E B r) (hE : (E + 1) * 48 ≤ 150000000000000) (hl : r.out.length ≤ 700)
    (hk : ∀ X' I', Ext I I' → RaftQ I' b X' (wantF r) → K (.tuple #[]) I' (X' ++ F)) : Cal Tryz.prog ω 36 #[.pointer (some ⟨b, 0, none⟩)] K I (X ++ F) := by
  obtain ⟨lb, XL, XO, stv, ov, z0, z1, z2, oc, rfl, h1, h2, h3, h4⟩ := h
  have hmm := memB_mem hw.wf.mems
  have hml := memB_len hw.wf.mems
  have htr := hw.trm
  refine cal36 ?_
  unfold sh36
  simp only [List.cons_append, List.append_assoc, SSd, List.getElem?_toArray, List.getElem?_cons_zero, List.getElem?_cons_succ, Nat.zero_add, Nat.add_zero, Nat.zero_mul, List.drop_succ_cons, List.drop_zero, List.take_succ_cons, List.take_zero, List.nil_append, List.cons_append, Nat.reduceAdd, List.drop_nil, List.take_nil]
  refine rdb ?_
  try simp only [SSd, List.getElem?_toArray, List.getElem?_cons_zero, List.getElem?_cons_succ, Nat.zero_add, Nat.add_zero, Nat.zero_mul, List.drop_succ_cons, List.drop_zero, List.take_succ_cons, List.take_zero, List.nil_append, List.cons_append, Nat.reduceAdd, List.drop_nil, List.take_nil]
  refine br_split (fun ht => ?_) (fun ht => ?_)
  · simp at ht
    rw [wantF, if_pos ht] at hk
    exact raftq_end (F := F) z0 z1 z2 (fun X' h' => hk X' I (Ext.refl I) h') h1 h2 h3 h4 rfl
  simp at ht
  rw [wantF, if_neg ht] at hk
  have hw0 := hw.want0 ht
  repeat' (first | (with_reducible refine drawC ?_) | (with_reducible refine drawW1 ?_) | (with_reducible refine drawW2 ?_) | (with_reducible refine keepC (by repeat (first | exact Ext.refl _ | assumption | refine Ext.trans ?_ (by assumption))) ?_) | (with_reducible refine newI (fun _ => ?_)) | first | (with_reducible refine rdb ?_) | ((with_reducible refine st1 ?_ ?_); rfl) | ((with_reducible refine rdB ?_ ?_); rfl) | (with_reducible refine rdbS ?_) | ((with_reducible refine rdBS ?_ ?_); rfl) | ((with_reducible refine stB ?_ ?_ ?_ ?_); rfl; rfl; exact one_all rfl) | ((with_reducible refine rdP _ rfl ?_ ?_); rfl) | ((with_reducible refine rdPS _ rfl ?_ ?_); rfl) | ((with_reducible refine stP _ rfl ?_ ?_ ?_ ?_); rfl; rfl; rfl) | (with_reducible refine And.intro ?_ ?_) | (simp only [Bool.not_true, Bool.not_false, Bool.and_self, Bool.true_and, Int.reduceBEq, Int.reduceBNe, Int.reduceLT, Int.reduceLE, decide_true, decide_false, Br_true, Br_false, Gd_tt, Gd_ft, Gd_tf, Gd_ff, beq_self_eq_true, bne_self_eq_false]) | (with_reducible refine gd_split (fun _ => ?_) (fun _ => ?_)) | (with_reducible refine br_split (fun _ => ?_) (fun _ => ?_)) | (simp only [SSd, List.getElem?_toArray, List.getElem?_cons_zero, List.getElem?_cons_succ, Nat.zero_add, Nat.add_zero, Nat.zero_mul, List.drop_succ_cons, List.drop_zero, List.take_succ_cons, List.take_zero, List.nil_append, List.cons_append, Nat.reduceAdd, List.drop_nil, List.take_nil, wrap_i64 (r.term + 1) (by omega), bldA6]))
  simp only [ixPV_at _ (show 0 ≤ r.id by have := hw.idn; omega) (show r.id < ((6 : Nat) : Int) by have := hw.idn; omega), SSd, List.getElem?_toArray, List.getElem?_cons_zero, List.getElem?_cons_succ, Nat.zero_add, Nat.add_zero, Nat.zero_mul, List.drop_succ_cons, List.drop_zero, List.take_succ_cons, List.take_zero, List.nil_append, List.cons_append, Nat.reduceAdd, List.drop_nil, List.take_nil]
  refine stL (l' := qcells (want0 r) false z1 z2 (.pointer (some ⟨lb, 0, none⟩)) stv ov) ?_ ?_ rfl ?_
  · have h5 := hw.idn
    rcases five hw.idn with e | e | e | e | e <;> rw [e] <;> simp [qcells, want0, e]
  · have h5 := hw.idn
    simp; omega
  refine call (raftq_cal (r := want0 r) b F false z1 z2 h1 h2 h3 h4 rfl (fun X hX => ?_))
  refine qelected_spec hX hw0.wf (fun I1 hI1 hX' => ?_)
  refine br_split (fun he => ?_) (fun he => ?_)
  · simp only [he, if_true] at hk
    refine call (qlead_spec hX' hw0 hE (by simp only [want0]; omega) (fun X' I2 hI2 hX2 => ?_))
    exact Gh.done (hk X' I2 (hI1.trans hI2) hX2)
  simp only [he, Bool.false_eq_true, if_false] at hk
  clear h1 h2 h3 h4
  have hRR := hX'
  obtain ⟨lb, XL, XO, stv, ov, z0, z1, z2, oc, rfl, h1, h2, h3, h4⟩ := hX'
  simp only [List.cons_append, List.append_assoc, SSd, List.getElem?_toArray, List.getElem?_cons_zero, List.getElem?_cons_succ, Nat.zero_add, Nat.add_zero, Nat.zero_mul, List.drop_succ_cons, List.drop_zero, List.take_succ_cons, List.take_zero, List.nil_append, List.cons_append, Nat.reduceAdd, List.drop_nil, List.take_nil]
  refine rdb ?_
  refine call (rlmembers_spec h1.view hw0.wf (fun v I2 hI2 hv => ?_))
  have h1' := h1.mono hI2
  try simp only [SSd, List.getElem?_toArray, List.getElem?_cons_zero, List.getElem?_cons_succ, Nat.zero_add, Nat.add_zero, Nat.zero_mul, List.drop_succ_cons, List.drop_zero, List.take_succ_cons, List.take_zero, List.nil_append, List.cons_append, Nat.reduceAdd, List.drop_nil, List.take_nil]
  refine rdb ?_
  refine call (rlast_spec h1'.view hw0.wf.sz ?_)
  try simp only [SSd, List.getElem?_toArray, List.getElem?_cons_zero, List.getElem?_cons_succ, Nat.zero_add, Nat.add_zero, Nat.zero_mul, List.drop_succ_cons, List.drop_zero, List.take_succ_cons, List.take_zero, List.nil_append, List.cons_append, Nat.reduceAdd, List.drop_nil, List.take_nil]
  refine rdb ?_
  refine call (rlastTerm_spec h1'.view hw0.wf.sz ?_)
  rw [show (want0 r).g = r.g from rfl] at *
  rw [show mems r = memOf r.g.mem r.g.es from rfl] at hk
  generalize memOf r.g.mem r.g.es = l at *
  have hln := Ints.len hv
  try simp only [SSd, List.getElem?_toArray, List.getElem?_cons_zero, List.getElem?_cons_succ, Nat.zero_add, Nat.add_zero, Nat.zero_mul, List.drop_succ_cons, List.drop_zero, List.take_succ_cons, List.take_zero, List.nil_append, List.cons_append, Nat.reduceAdd, List.drop_nil, List.take_nil]
  refine loop (fun m s I' L' => Ext I2 I' ∧ ∃ (k : Nat) (X' : LH), k + m = l.length ∧ s = (.int .i64 k, ()) ∧ RaftQ I' b X' (askF (want0 r) (l.take k)) ∧ L' = X' ++ F) l.length ⟨Ext.refl _, 0, _, by omega, rfl, hRR.mono hI2, by simp only [List.cons_append, List.append_assoc]⟩ ?_
  clear h1 h1' h2 h3 h4 hRR
  rintro m s I' L' ⟨hI, k, X', hkm, rfl, hR, rfl⟩
  unfold sh36_2
  simp only [hln, SSd, List.getElem?_toArray, List.getElem?_cons_zero, List.getElem?_cons_succ, Nat.zero_add, Nat.add_zero, Nat.zero_mul, List.drop_succ_cons, List.drop_zero, List.take_succ_cons, List.take_zero, List.nil_append, List.cons_append, Nat.reduceAdd, List.drop_nil, List.take_nil]
  refine br_split (fun hlt => ?_) (fun hlt => ?_)
  · simp at hlt
    obtain ⟨b2, off, hix, hc2⟩ := ints_at hv (i := k) (by omega) (by omega)
    obtain ⟨lb, XL, XO, stv, ov, z0, z1, z2, oc, rfl, h1, h2, h3, h4⟩ := hR
    simp only [List.cons_append, List.append_assoc]
    refine drawC ?_
    simp only [hix, SSd, List.getElem?_toArray, List.getElem?_cons_zero, List.getElem?_cons_succ, Nat.zero_add, Nat.add_zero, Nat.zero_mul, List.drop_succ_cons, List.drop_zero, List.take_succ_cons, List.take_zero, List.nil_append, List.cons_append, Nat.reduceAdd, List.drop_nil, List.take_nil]
    refine rd1I (hc2 _ _ hI) ?_
    try simp only [SSd, List.getElem?_toArray, List.getElem?_cons_zero, List.getElem?_cons_succ, Nat.zero_add, Nat.add_zero, Nat.zero_mul, List.drop_succ_cons, List.drop_zero, List.take_succ_cons, List.take_zero, List.nil_append, List.cons_append, Nat.reduceAdd, List.drop_nil, List.take_nil]
    refine rdbS ?_
    have hs := ask_same (l.take k) (want0 r)
    have ht := take_geti hlt
    have hid := (RF.ext_out hs.2).2.1
    have hg := (RF.ext_out hs.2).1
    have hn := ask_snoc (want0 r) (l.take k) (geti l (k : Int))
    rw [← ht] at hn
    try simp only [SSd, List.getElem?_toArray, List.getElem?_cons_zero, List.getElem?_cons_succ, Nat.zero_add, Nat.add_zero, Nat.zero_mul, List.drop_succ_cons, List.drop_zero, List.take_succ_cons, List.take_zero, List.nil_append, List.cons_append, Nat.reduceAdd, List.drop_nil, List.take_nil]
    refine br_split (fun hq => ?_) (fun hq => ?_)
    · simp at hq
      rw [if_neg hq] at hn
      refine rd1 (hc2 _ _ hI) ?_
      try simp only [SSd, List.getElem?_toArray, List.getElem?_cons_zero, List.getElem?_cons_succ, Nat.zero_add, Nat.add_zero, Nat.zero_mul, List.drop_succ_cons, List.drop_zero, List.take_succ_cons, List.take_zero, List.nil_append, List.cons_append, Nat.reduceAdd, List.drop_nil, List.take_nil]
      refine call (raftq_cal (r := askF (want0 r) (l.take k)) b F z0 z1 z2 h1 h2 h3 h4 rfl (fun X hX => ?_))
      refine qsend_spec (m := voteM (askF (want0 r) (l.take k)) (geti l (k : Int))) hX ⟨_, _, _, by simp only [voteM, hg]; rfl, RL.nil _ _, SlI.nil _ _ _ _, SlI.nil _ _ _ _⟩ (by have h5 := hs.1; rw [show (want0 r).out = r.out from rfl, List.length_take] at h5; omega) (fun X' hX' => ?_)
      unfold sh36_3
      simp only [SSd, List.getElem?_toArray, List.getElem?_cons_zero, List.getElem?_cons_succ, Nat.zero_add, Nat.add_zero, Nat.zero_mul, List.drop_succ_cons, List.drop_zero, List.take_succ_cons, List.take_zero, List.nil_append, List.cons_append, Nat.reduceAdd, List.drop_nil, List.take_nil, wrap_i64 ((k : Int) + 1) (by omega)]
      exact Gh.done ⟨m - 1, by omega, hI, k + 1, X', by omega, by simp, by rw [hn]; exact hX', rfl⟩
    · simp at hq
      rw [if_pos hq] at hn
      unfold sh36_3
      simp only [SSd, List.getElem?_toArray, List.getElem?_cons_zero, List.getElem?_cons_succ, Nat.zero_add, Nat.add_zero, Nat.zero_mul, List.drop_succ_cons, List.drop_zero, List.take_succ_cons, List.take_zero, List.nil_append, List.cons_append, Nat.reduceAdd, List.drop_nil, List.take_nil, wrap_i64 ((k : Int) + 1) (by omega)]
      refine Gh.done ⟨m - 1, by omega, hI, k + 1, (b, Obj.cells (qcells (askF (want0 r) (l.take k)) z0 z1 z2 (.pointer (some ⟨lb, 0, none⟩)) stv ov).toArray 63 (0, 0)) :: (XL ++ XO), by omega, by simp, ?_, ?_⟩
      · rw [hn]; exact ⟨lb, XL, XO, stv, ov, z0, z1, z2, oc, rfl, h1, h2, h3, h4⟩
      · simp only [List.cons_append, List.append_assoc]
  · simp at hlt
    rw [List.take_of_length_le (by omega)] at hR
    exact Gh.done (hk X' I' ((hI1.trans hI2).trans hI) hR)

theorem qtick_spec {b E B : Nat} {X F : LH} {r : RF} {w : Int} (h : RaftQ I b X r) (hw : RWF E B r) (hE : (E + 1) * 48 ≤ 150000000000000) (hB : B ≤ 1000000) (ho : r.out = [])
    (hk : ∀ X' I', Ext I I' → RaftQ I' b X' (tickF r w) → K (.tuple #[]) I' (X' ++ F)) : Cal Tryz.prog ω 7 #[.pointer (some ⟨b, 0, none⟩), .int .i64 w] K I (X ++ F) := by
  obtain ⟨lb, XL, XO, stv, ov, z0, z1, z2, oc, rfl, h1, h2, h3, h4⟩ := h
  have hol : r.out.length = 0 := by rw [ho]; rfl
  have hel := hw.ela
  refine cal7 ?_
  unfold sh7
  simp only [List.cons_append, List.append_assoc, SSd, List.getElem?_toArray, List.getElem?_cons_zero, List.getElem?_cons_succ, Nat.zero_add, Nat.add_zero, Nat.zero_mul, List.drop_succ_cons, List.drop_zero, List.take_succ_cons, List.take_zero, List.nil_append, List.cons_append, Nat.reduceAdd, List.drop_nil, List.take_nil]
  refine rdb ?_
  try simp only [SSd, List.getElem?_toArray, List.getElem?_cons_zero, List.getElem?_cons_succ, Nat.zero_add, Nat.add_zero, Nat.zero_mul, List.drop_succ_cons, List.drop_zero, List.take_succ_cons, List.take_zero, List.nil_append, List.cons_append, Nat.reduceAdd, List.drop_nil, List.take_nil]
  refine br_split (fun h3' => ?_) (fun h3' => ?_)
  · simp at h3'
    rw [tickF, if_pos h3'] at hk
    refine call (raftq_cal (r := r) b F z0 z1 z2 h1 h2 h3 h4 rfl (fun X hX => ?_))
    exact qothers_spec hX hw (by omega) (fun X' I1 hI1 hX' => Gh.done (hk X' I1 hI1 hX'))
  simp at h3'
  rw [tickF, if_neg h3'] at hk
  have hw' : RWF E (B + 1) { r with elapsed := r.elapsed + 1 } := ⟨hw.wf, hw.len, hw.grp, hw.idn, hw.trm, hw.vot, hw.lst, hw.stl, by simp only; omega, hw.nxb, hw.mtb⟩
  repeat' (first | (with_reducible refine drawC ?_) | (with_reducible refine drawW1 ?_) | (with_reducible refine drawW2 ?_) | (with_reducible refine keepC (by repeat (first | exact Ext.refl _ | assumption | refine Ext.trans ?_ (by assumption))) ?_) | (with_reducible refine newI (fun _ => ?_)) | ((with_reducible refine call ?_); refine (qmember_spec (Cell.own (InL.mem) rfl) h1.view hw.wf (fun I1 hI1 => ?_))) | first | (with_reducible refine rdb ?_) | ((with_reducible refine st1 ?_ ?_); rfl) | ((with_reducible refine rdB ?_ ?_); rfl) | (with_reducible refine rdbS ?_) | ((with_reducible refine rdBS ?_ ?_); rfl) | ((with_reducible refine stB ?_ ?_ ?_ ?_); rfl; rfl; exact one_all rfl) | ((with_reducible refine rdP _ rfl ?_ ?_); rfl) | ((with_reducible refine rdPS _ rfl ?_ ?_); rfl) | ((with_reducible refine stP _ rfl ?_ ?_ ?_ ?_); rfl; rfl; rfl) | (with_reducible refine And.intro ?_ ?_) | (simp only [Bool.not_true, Bool.not_false, Bool.and_self, Bool.true_and, Int.reduceBEq, Int.reduceBNe, Int.reduceLT, Int.reduceLE, decide_true, decide_false, Br_true, Br_false, Gd_tt, Gd_ft, Gd_tf, Gd_ff, beq_self_eq_true, bne_self_eq_false]) | (with_reducible refine gd_split (fun _ => ?_) (fun _ => ?_)) | (with_reducible refine br_split (fun _ => ?_) (fun _ => ?_)) | (simp only [SSd, List.getElem?_toArray, List.getElem?_cons_zero, List.getElem?_cons_succ, Nat.zero_add, Nat.add_zero, Nat.zero_mul, List.drop_succ_cons, List.drop_zero, List.take_succ_cons, List.take_zero, List.nil_append, List.cons_append, Nat.reduceAdd, List.drop_nil, List.take_nil, wrap_i64 (r.elapsed + 1) (by omega)]))
  all_goals (
    have h1' := h1.mono hI1
    have h2' := h2.mono hI1
    have h4' := h4.imp fun _ _ h => h.mono hI1)
  · rename_i hwt hc
    simp at hwt
    rw [if_pos ⟨hwt, hc⟩] at hk
    unfold sh7_1
    refine call (raftq_cal (r := { r with elapsed := r.elapsed + 1 }) b F z0 z1 z2 h1' h2' h3 h4' rfl (fun X hX => ?_))
    exact qwant_spec hX hw' hE (by simp only; omega) (fun X' I2 hI2 hX' => Gh.done (hk X' I2 (hI1.trans hI2) hX'))
  · rename_i hwt hc
    rw [if_neg (by intro h; unfold mems at h; rw [hc] at h; exact absurd h.2 (by simp))] at hk
    exact raftq_end (r := { r with elapsed := r.elapsed + 1 }) (F := F) z0 z1 z2 (fun X' h' => hk X' I1 hI1 h') h1' h2' h3 h4' rfl
  · rename_i hwt
    simp at hwt
    rw [if_neg (by omega)] at hk
    exact raftq_end (r := { r with elapsed := r.elapsed + 1 }) (F := F) z0 z1 z2 (fun X' h' => hk X' I1 hI1 h') h1' h2' h3 h4' rfl

theorem qadd_spec {b E B : Nat} {X F : LH} {r : RF} {k : Int} {dv : Value} {d : List UInt8} (h : RaftQ I b X r) (hw : RWF E B r) (hE : (E + 1) * 48 ≤ 150000000000000) (ho : r.out = []) (hd : Bytes I dv d)
    (hk : ∀ X' I', Ext I I' → RaftQ I' b X' (addF r k d).2.2 → K (.tuple #[.int .i64 (addF r k d).1, .int .i64 (addF r k d).2.1]) I' (X' ++ F)) :
    Cal Tryz.prog ω 55 #[.pointer (some ⟨b, 0, none⟩), .int .i64 k, dv] K I (X ++ F) := by
  obtain ⟨lb, XL, XO, stv, ov, z0, z1, z2, oc, rfl, h1, h2, h3, h4⟩ := h
  have hol : r.out.length = 0 := by rw [ho]; rfl
  refine cal55 ?_
  unfold sh55
  simp only [List.cons_append, List.append_assoc]
  repeat' (first | (with_reducible refine drawC ?_) | (with_reducible refine drawW1 ?_) | (with_reducible refine drawW2 ?_) | (with_reducible refine keepC (by repeat (first | exact Ext.refl _ | assumption | refine Ext.trans ?_ (by assumption))) ?_) | (with_reducible refine newI (fun _ => ?_)) | first | (with_reducible refine rdb ?_) | ((with_reducible refine st1 ?_ ?_); rfl) | ((with_reducible refine rdB ?_ ?_); rfl) | (with_reducible refine rdbS ?_) | ((with_reducible refine rdBS ?_ ?_); rfl) | ((with_reducible refine stB ?_ ?_ ?_ ?_); rfl; rfl; exact one_all rfl) | ((with_reducible refine rdP _ rfl ?_ ?_); rfl) | ((with_reducible refine rdPS _ rfl ?_ ?_); rfl) | ((with_reducible refine stP _ rfl ?_ ?_ ?_ ?_); rfl; rfl; rfl) | (with_reducible refine And.intro ?_ ?_) | (simp only [Bool.not_true, Bool.not_false, Bool.and_self, Bool.true_and, Int.reduceBEq, Int.reduceBNe, Int.reduceLT, Int.reduceLE, decide_true, decide_false, Br_true, Br_false, Gd_tt, Gd_ft, Gd_tf, Gd_ff, beq_self_eq_true, bne_self_eq_false]) | (with_reducible refine gd_split (fun _ => ?_) (fun _ => ?_)) | (with_reducible refine br_split (fun _ => ?_) (fun _ => ?_)) | (simp only [SSd, List.getElem?_toArray, List.getElem?_cons_zero, List.getElem?_cons_succ, Nat.zero_add, Nat.add_zero, Nat.zero_mul, List.drop_succ_cons, List.drop_zero, List.take_succ_cons, List.take_zero, List.nil_append, List.cons_append, Nat.reduceAdd, List.drop_nil, List.take_nil]))
  refine callG (Cal.split XL (radd_spec h1 hw.wf hd (by have := hw.len; omega) (fun XL' I1 hI1 hL' => ?_)))
  have hwa := hw.add hE k d
  have hgg : (addG r.g r.term k d).2.1 ≠ 0 → (addG r.g r.term k d).2.2 = r.g := fun h => by
    unfold addG at h ⊢; split
    · rename_i hh; rw [if_pos hh] at h; exact absurd rfl h
    · rfl
  have e : addF r k d = if (addG r.g r.term k d).2.1 ≠ 0 then (0, (addG r.g r.term k d).2.1, r) else ((addG r.g r.term k d).1, 0, sendAllF (commitF { r with g := (addG r.g r.term k d).2.2 }).2) := rfl
  rw [e] at hk
  generalize addG r.g r.term k d = a at *
  have h2' := h2.mono hI1
  have h4' := h4.imp fun _ _ h => h.mono hI1
  refine Gh.pick b (XL' ++ (XO ++ F)) (Gh.done ?_)
  try simp only [SSd, List.getElem?_toArray, List.getElem?_cons_zero, List.getElem?_cons_succ, Nat.zero_add, Nat.add_zero, Nat.zero_mul, List.drop_succ_cons, List.drop_zero, List.take_succ_cons, List.take_zero, List.nil_append, List.cons_append, Nat.reduceAdd, List.drop_nil, List.take_nil]
  refine br_split (fun he => ?_) (fun he => ?_)
  · have he : a.2.1 ≠ 0 := by simpa using he
    rw [if_pos he] at hk
    rw [hgg he] at hL'
    exact raftq_end (r := r) (F := F) z0 z1 z2 (fun X' h' => hk X' I1 hI1 h') hL' h2' h3 h4' rfl
  · have he : ¬ a.2.1 ≠ 0 := by simpa using he
    rw [if_neg he] at hk
    refine call (raftq_cal (r := { r with g := a.2.2 }) b F z0 z1 z2 hL' h2' h3 h4' rfl (fun X hX => ?_))
    refine qcommit_spec hX hwa (fun X' I2 hI2 hX' => ?_)
    refine call (qothers_spec hX' hwa.commit (by rw [commit_out]; simp only; omega) (fun X2 I3 hI3 hX2 => ?_))
    exact Gh.done (hk X2 I3 ((hI1.trans hI2).trans hI3) hX2)

theorem add_long {r : RF} {d : List UInt8} (h : 12000 < d.length) : addF r 2 d = (0, 1, r) := by
  have : addG r.g r.term 2 d = (0, 1, r.g) := by
    unfold addG
    rw [if_neg]
    simp [followB, entB]
    omega
  unfold addF
  rw [this]
  rfl
theorem qpropose_spec {b E B : Nat} {X F : LH} {r : RF} {dv : Value} {d : List UInt8} (h : RaftQ I b X r) (hw : RWF E B r) (hE : (E + 1) * 48 ≤ 150000000000000) (ho : r.out = []) (hd : Bytes I dv d)
    (hk : ∀ X' I', Ext I I' → RaftQ I' b X' (proposeF r d).2.2 → K (.tuple #[.int .i64 (proposeF r d).1, .int .i64 (proposeF r d).2.1]) I' (X' ++ F)) :
    Cal Tryz.prog ω 11 #[.pointer (some ⟨b, 0, none⟩), dv] K I (X ++ F) := by
  obtain ⟨lb, XL, XO, stv, ov, z0, z1, z2, oc, rfl, h1, h2, h3, h4⟩ := h
  have hln := Bytes.len hd
  refine cal11 ?_
  unfold sh11
  simp only [List.cons_append, List.append_assoc, SSd, List.getElem?_toArray, List.getElem?_cons_zero, List.getElem?_cons_succ, Nat.zero_add, Nat.add_zero, Nat.zero_mul, List.drop_succ_cons, List.drop_zero, List.take_succ_cons, List.take_zero, List.nil_append, List.cons_append, Nat.reduceAdd, List.drop_nil, List.take_nil]
  refine rdb ?_
  simp only [hln, SSd, List.getElem?_toArray, List.getElem?_cons_zero, List.getElem?_cons_succ, Nat.zero_add, Nat.add_zero, Nat.zero_mul, List.drop_succ_cons, List.drop_zero, List.take_succ_cons, List.take_zero, List.nil_append, List.cons_append, Nat.reduceAdd, List.drop_nil, List.take_nil]
  refine br_split (fun h3' => ?_) (fun h3' => ?_)
  · have h3' : r.role ≠ 3 := by simpa using h3'
    rw [proposeF, if_pos h3'] at hk
    exact raftq_end (r := r) (F := F) z0 z1 z2 (fun X' h' => hk X' I (Ext.refl I) h') h1 h2 h3 h4 rfl
  have h3' : ¬ r.role ≠ 3 := by simpa using h3'
  rw [proposeF, if_neg h3'] at hk
  refine br_split (fun hlg => ?_) (fun hlg => ?_)
  · rw [add_long (by simp at hlg; omega)] at hk
    exact raftq_end (r := r) (F := F) z0 z1 z2 (fun X' h' => hk X' I (Ext.refl I) h') h1 h2 h3 h4 rfl
  · refine call (raftq_cal (r := r) b F z0 z1 z2 h1 h2 h3 h4 rfl (fun X hX => ?_))
    refine qadd_spec hX hw hE ho hd (fun X' I1 hI1 hX' => ?_)
    try simp only [SSd, List.getElem?_toArray, List.getElem?_cons_zero, List.getElem?_cons_succ, Nat.zero_add, Nat.add_zero, Nat.zero_mul, List.drop_succ_cons, List.drop_zero, List.take_succ_cons, List.take_zero, List.nil_append, List.cons_append, Nat.reduceAdd, List.drop_nil, List.take_nil]
    exact Gh.done (hk X' I1 hI1 hX')
end
end Go.Proofs.YtdcpeboecmkmlaaGreat

namespace Go.Proofs.YtdcpeboecmkmlaaGreat
open Go.SL
set_option maxRecDepth 10000

section
variable {ω : Om} {I : Imm} {L : LH} {K : Value → M}

theorem qappend_spec {b E B : Nat} {X F : LH} {r : RF} {m : RM} {c : List Value} (h : RaftQ I b X r) (hw : RWF E B r) (hE : (E + 64) * 48 ≤ 150000000000000) (hm : MsgV I m c) (hr : RB m) (hl : r.out.length ≤ 1000)
    (hk : ∀ X' I', Ext I I' → RaftQ I' b X' (appendF r m) → K (.tuple #[]) I' (X' ++ F)) : Cal Tryz.prog ω 51 #[.pointer (some ⟨b, 0, none⟩), .agg c.toArray] K I (X ++ F) := by
  obtain ⟨a0, p0, a1, p1, a2, p2, rfl, hEn, hM, hD⟩ := hm.form
  refine cal51 ?_
  unfold sh51
  refine newI (fun m1 => ?_)
  try simp only [SSd, List.getElem?_toArray, List.getElem?_cons_zero, List.getElem?_cons_succ, Nat.zero_add, Nat.add_zero, Nat.zero_mul, List.drop_succ_cons, List.drop_zero, List.take_succ_cons, List.take_zero, List.nil_append, List.cons_append, Nat.reduceAdd, List.drop_nil, List.take_nil]
  refine rdb ?_
  have hlen := hw.len
  have hnum := hr.num
  have hidx := hr.idx
  refine callG (Cal.split X (qhear_spec (F := (m1, Obj.cells (mcells m (.slice a0 m.ents.length p0) (.slice a1 m.mem.length p1) (.slice a2 m.data.length p2)).toArray 34 (0, 0)) :: F) h (fun X' hX' => ?_)))
  obtain ⟨lb, XL, XO, stv, ov, z0, z1, z2, oc, rfl, h1, h2, h3, h4⟩ := hX'
  simp only [List.cons_append, List.append_assoc]
  refine Gh.pick m1 ((b, Obj.cells (qcells (hearF r m.frm) z0 z1 z2 (.pointer (some ⟨lb, 0, none⟩)) stv ov).toArray 63 (0, 0)) :: (XL ++ (XO ++ F))) (Gh.done ?_)
  repeat' (first | (with_reducible refine drawC ?_) | (with_reducible refine drawW1 ?_) | (with_reducible refine drawW2 ?_) | (with_reducible refine keepC (by repeat (first | exact Ext.refl _ | assumption | refine Ext.trans ?_ (by assumption))) ?_) | (with_reducible refine newI (fun _ => ?_)) | first | (with_reducible refine rdb ?_) | ((with_reducible refine st1 ?_ ?_); rfl) | ((with_reducible refine rdB ?_ ?_); rfl) | (with_reducible refine rdbS ?_) | ((with_reducible refine rdBS ?_ ?_); rfl) | ((with_reducible refine stB ?_ ?_ ?_ ?_); rfl; rfl; exact one_all rfl) | ((with_reducible refine rdP _ rfl ?_ ?_); rfl) | ((with_reducible refine rdPS _ rfl ?_ ?_); rfl) | ((with_reducible refine stP _ rfl ?_ ?_ ?_ ?_); rfl; rfl; rfl) | (with_reducible refine And.intro ?_ ?_) | (simp only [Bool.not_true, Bool.not_false, Bool.and_self, Bool.true_and, Int.reduceBEq, Int.reduceBNe, Int.reduceLT, Int.reduceLE, decide_true, decide_false, Br_true, Br_false, Gd_tt, Gd_ft, Gd_tf, Gd_ff, beq_self_eq_true, bne_self_eq_false]) | (with_reducible refine gd_split (fun _ => ?_) (fun _ => ?_)) | (with_reducible refine br_split (fun _ => ?_) (fun _ => ?_)) | (simp only [SSd, List.getElem?_toArray, List.getElem?_cons_zero, List.getElem?_cons_succ, Nat.zero_add, Nat.add_zero, Nat.zero_mul, List.drop_succ_cons, List.drop_zero, List.take_succ_cons, List.take_zero, List.nil_append, List.cons_append, Nat.reduceAdd, List.drop_nil, List.take_nil]))
  have hg : (hearF r m.frm).g = r.g := rfl
  rw [hg] at h1
  refine callG (Cal.split XL (roffer_spec h1 hw.wf hEn (by omega) (fun XL' I1 hI1 hL' => ?_)))
  generalize ho : offerG r.g m.index m.lterm m.ents = o at *
  have e : appendF r m = if o.2.2.1 ≠ 0 then { hearF r m.frm with g := o.2.2.2 } else sendF (if o.2.1 then settleF { hearF r m.frm with g := o.2.2.2 } (min m.commit o.1) else { hearF r m.frm with g := o.2.2.2 }) (doneM m o.2.1 o.1) := by
    rw [← ho]; rfl
  rw [e] at hk
  have hwo : WF o.2.2.2 := by rw [← ho]; exact offer_wf hw.wf (by omega)
  have h2' := h2.mono hI1
  have h4' := h4.imp fun _ _ h => h.mono hI1
  refine Gh.pick m1 ((b, Obj.cells (qcells (hearF r m.frm) z0 z1 z2 (.pointer (some ⟨lb, 0, none⟩)) stv ov).toArray 63 (0, 0)) :: (XL' ++ (XO ++ F))) (Gh.done ?_)
  try simp only [SSd, List.getElem?_toArray, List.getElem?_cons_zero, List.getElem?_cons_succ, Nat.zero_add, Nat.add_zero, Nat.zero_mul, List.drop_succ_cons, List.drop_zero, List.take_succ_cons, List.take_zero, List.nil_append, List.cons_append, Nat.reduceAdd, List.drop_nil, List.take_nil]
  refine br_split (fun he => ?_) (fun he => ?_)
  · simp at he
    rw [if_pos he] at hk
    exact raftq_end (r := { hearF r m.frm with g := o.2.2.2 }) (F := F) z0 z1 z2 (fun X' h' => hk X' I1 hI1 h') hL' h2' h3 h4' rfl
  simp at he
  rw [if_neg (by simp [he])] at hk
  have fin : ∀ (XL : LH) (r' : RF) (I2 : Imm), Ext I1 I2 → LogQ I2 lb XL r'.g → r'.st = r.st → r'.out = r.out → qcells r' z0 z1 z2 (.pointer (some ⟨lb, 0, none⟩)) stv ov = qcells (hearF r m.frm) z0 z1 z2 (.pointer (some ⟨lb, 0, none⟩)) stv ov →
      (∀ X' I', Ext I I' → RaftQ I' b X' (sendF r' (doneM m o.2.1 o.1)) → K (.tuple #[]) I' (X' ++ F)) →
      sh51_1 ω (.pointer (some ⟨b, 0, none⟩)) (.pointer (some ⟨m1, 0, none⟩)) (.int .i64 o.1) (.bool o.2.1) (fun v => Gh (K v)) I2 ((m1, Obj.cells (mcells m (.slice a0 m.ents.length p0) (.slice a1 m.mem.length p1) (.slice a2 m.data.length p2)).toArray 34 (0, 0)) ::
        (b, Obj.cells (qcells (hearF r m.frm) z0 z1 z2 (.pointer (some ⟨lb, 0, none⟩)) stv ov).toArray 63 (0, 0)) :: (XL ++ (XO ++ F))) := by
    intro XL r' I2 hI2 hL e2 e3 e4 hk
    unfold sh51_1
    repeat' (first | (with_reducible refine drawC ?_) | (with_reducible refine drawW1 ?_) | (with_reducible refine drawW2 ?_) | (with_reducible refine keepC (by repeat (first | exact Ext.refl _ | assumption | refine Ext.trans ?_ (by assumption))) ?_) | (with_reducible refine newI (fun _ => ?_)) | first | (with_reducible refine rdb ?_) | ((with_reducible refine st1 ?_ ?_); rfl) | ((with_reducible refine rdB ?_ ?_); rfl) | (with_reducible refine rdbS ?_) | ((with_reducible refine rdBS ?_ ?_); rfl) | ((with_reducible refine stB ?_ ?_ ?_ ?_); rfl; rfl; exact one_all rfl) | ((with_reducible refine rdP _ rfl ?_ ?_); rfl) | ((with_reducible refine rdPS _ rfl ?_ ?_); rfl) | ((with_reducible refine stP _ rfl ?_ ?_ ?_ ?_); rfl; rfl; rfl) | (with_reducible refine And.intro ?_ ?_) | (simp only [Bool.not_true, Bool.not_false, Bool.and_self, Bool.true_and, Int.reduceBEq, Int.reduceBNe, Int.reduceLT, Int.reduceLE, decide_true, decide_false, Br_true, Br_false, Gd_tt, Gd_ft, Gd_tf, Gd_ff, beq_self_eq_true, bne_self_eq_false]) | (with_reducible refine gd_split (fun _ => ?_) (fun _ => ?_)) | (with_reducible refine br_split (fun _ => ?_) (fun _ => ?_)) | (simp only [SSd, List.getElem?_toArray, List.getElem?_cons_zero, List.getElem?_cons_succ, Nat.zero_add, Nat.add_zero, Nat.zero_mul, List.drop_succ_cons, List.drop_zero, List.take_succ_cons, List.take_zero, List.nil_append, List.cons_append, Nat.reduceAdd, List.drop_nil, List.take_nil]))
    refine call (raftq_cal (r := r') b F z0 z1 z2 hL (by rw [e2]; exact h2'.mono hI2) (by rw [e3]; exact h3) (by rw [e3]; exact h4'.imp fun _ _ h => h.mono hI2) (by rw [e4]) (fun X hX => ?_))
    refine qsend_spec (m := doneM m o.2.1 o.1) hX ⟨_, _, _, rfl, RL.nil _ _, SlI.nil _ _ _ _, SlI.nil _ _ _ _⟩ (by rw [e3]; exact hl) (fun X' hX' => Gh.done (hk X' I2 (hI1.trans hI2) hX'))
  refine br_split (fun hk2 => ?_) (fun hk2 => ?_)
  · rw [if_pos hk2] at hk
    repeat' (first | (with_reducible refine drawC ?_) | (with_reducible refine drawW1 ?_) | (with_reducible refine drawW2 ?_) | (with_reducible refine keepC (by repeat (first | exact Ext.refl _ | assumption | refine Ext.trans ?_ (by assumption))) ?_) | (with_reducible refine newI (fun _ => ?_)) | first | (with_reducible refine rdb ?_) | ((with_reducible refine st1 ?_ ?_); rfl) | ((with_reducible refine rdB ?_ ?_); rfl) | (with_reducible refine rdbS ?_) | ((with_reducible refine rdBS ?_ ?_); rfl) | ((with_reducible refine stB ?_ ?_ ?_ ?_); rfl; rfl; exact one_all rfl) | ((with_reducible refine rdP _ rfl ?_ ?_); rfl) | ((with_reducible refine rdPS _ rfl ?_ ?_); rfl) | ((with_reducible refine stP _ rfl ?_ ?_ ?_ ?_); rfl; rfl; rfl) | (with_reducible refine And.intro ?_ ?_) | (simp only [Bool.not_true, Bool.not_false, Bool.and_self, Bool.true_and, Int.reduceBEq, Int.reduceBNe, Int.reduceLT, Int.reduceLE, decide_true, decide_false, Br_true, Br_false, Gd_tt, Gd_ft, Gd_tf, Gd_ff, beq_self_eq_true, bne_self_eq_false]) | (with_reducible refine gd_split (fun _ => ?_) (fun _ => ?_)) | (with_reducible refine br_split (fun _ => ?_) (fun _ => ?_)) | (simp only [SSd, List.getElem?_toArray, List.getElem?_cons_zero, List.getElem?_cons_succ, Nat.zero_add, Nat.add_zero, Nat.zero_mul, List.drop_succ_cons, List.drop_zero, List.take_succ_cons, List.take_zero, List.nil_append, List.cons_append, Nat.reduceAdd, List.drop_nil, List.take_nil]))
    rw [show (if o.fst < m.commit then o.fst else m.commit) = min m.commit o.1 by split <;> omega]
    refine callG (Cal.split XL' (rsettle_spec hL' hwo (fun XL2 hL2 => ?_)))
    refine Gh.pick m1 ((b, Obj.cells (qcells (hearF r m.frm) z0 z1 z2 (.pointer (some ⟨lb, 0, none⟩)) stv ov).toArray 63 (0, 0)) :: (XL2 ++ (XO ++ F))) (Gh.done ?_)
    exact fin XL2 (settleF { hearF r m.frm with g := o.2.2.2 } (min m.commit o.1)) I1 (Ext.refl _) hL2 rfl rfl rfl hk
  · rw [if_neg (by simp [hk2])] at hk
    exact fin XL' { hearF r m.frm with g := o.2.2.2 } I1 (Ext.refl _) hL' rfl rfl rfl hk

theorem qsnap_spec {b E B : Nat} {X F : LH} {r : RF} {m : RM} {c : List Value} (h : RaftQ I b X r) (hw : RWF E B r) (hm : MsgV I m c) (hr : RB m) (hl : r.out.length ≤ 1000)
    (hk : ∀ X' I', Ext I I' → RaftQ I' b X' (installF r m) → K (.tuple #[]) I' (X' ++ F)) : Cal Tryz.prog ω 52 #[.pointer (some ⟨b, 0, none⟩), .agg c.toArray] K I (X ++ F) := by
  obtain ⟨a0, p0, a1, p1, a2, p2, rfl, hEn, hM, hD⟩ := hm.form
  refine cal52 ?_
  unfold sh52
  refine newI (fun m1 => ?_)
  try simp only [SSd, List.getElem?_toArray, List.getElem?_cons_zero, List.getElem?_cons_succ, Nat.zero_add, Nat.add_zero, Nat.zero_mul, List.drop_succ_cons, List.drop_zero, List.take_succ_cons, List.take_zero, List.nil_append, List.cons_append, Nat.reduceAdd, List.drop_nil, List.take_nil]
  refine rdb ?_
  have hidx := hr.idx
  have hdat := hr.dat
  refine callG (Cal.split X (qhear_spec (F := (m1, Obj.cells (mcells m (.slice a0 m.ents.length p0) (.slice a1 m.mem.length p1) (.slice a2 m.data.length p2)).toArray 34 (0, 0)) :: F) h (fun X' hX' => ?_)))
  obtain ⟨lb, XL, XO, stv, ov, z0, z1, z2, oc, rfl, h1, h2, h3, h4⟩ := hX'
  have hg : (hearF r m.frm).g = r.g := rfl
  rw [hg] at h1
  have h1v := h1
  obtain ⟨mv, lv, rfl, hlm, hlE⟩ := h1
  simp only [List.cons_append, List.append_assoc, List.nil_append]
  refine Gh.pick m1 ((b, Obj.cells (qcells (hearF r m.frm) z0 z1 z2 (.pointer (some ⟨lb, 0, none⟩)) stv ov).toArray 63 (0, 0)) :: (lb, Obj.cells #[.int .i64 r.g.index, .int .i64 r.g.term, mv, lv, .int .i64 r.g.commit] 94 (0, 0)) :: (XO ++ F)) (Gh.done ?_)
  try simp only [SSd, List.getElem?_toArray, List.getElem?_cons_zero, List.getElem?_cons_succ, Nat.zero_add, Nat.add_zero, Nat.zero_mul, List.drop_succ_cons, List.drop_zero, List.take_succ_cons, List.take_zero, List.nil_append, List.cons_append, Nat.reduceAdd, List.drop_nil, List.take_nil]
  refine drawC ?_
  refine rdbS ?_
  try simp only [SSd, List.getElem?_toArray, List.getElem?_cons_zero, List.getElem?_cons_succ, Nat.zero_add, Nat.add_zero, Nat.zero_mul, List.drop_succ_cons, List.drop_zero, List.take_succ_cons, List.take_zero, List.nil_append, List.cons_append, Nat.reduceAdd, List.drop_nil, List.take_nil]
  refine rdbS ?_
  try simp only [SSd, List.getElem?_toArray, List.getElem?_cons_zero, List.getElem?_cons_succ, Nat.zero_add, Nat.add_zero, Nat.zero_mul, List.drop_succ_cons, List.drop_zero, List.take_succ_cons, List.take_zero, List.nil_append, List.cons_append, Nat.reduceAdd, List.drop_nil, List.take_nil]
  refine rdbS ?_
  try simp only [SSd, List.getElem?_toArray, List.getElem?_cons_zero, List.getElem?_cons_succ, Nat.zero_add, Nat.add_zero, Nat.zero_mul, List.drop_succ_cons, List.drop_zero, List.take_succ_cons, List.take_zero, List.nil_append, List.cons_append, Nat.reduceAdd, List.drop_nil, List.take_nil]
  refine br_split (fun hc => ?_) (fun hc => ?_)
  · simp at hc
    rw [installF, if_pos (show m.index ≤ (hearF r m.frm).g.commit from hc)] at hk
    repeat' (first | (with_reducible refine drawC ?_) | (with_reducible refine drawW1 ?_) | (with_reducible refine drawW2 ?_) | (with_reducible refine keepC (by repeat (first | exact Ext.refl _ | assumption | refine Ext.trans ?_ (by assumption))) ?_) | (with_reducible refine newI (fun _ => ?_)) | first | (with_reducible refine rdb ?_) | ((with_reducible refine st1 ?_ ?_); rfl) | ((with_reducible refine rdB ?_ ?_); rfl) | (with_reducible refine rdbS ?_) | ((with_reducible refine rdBS ?_ ?_); rfl) | ((with_reducible refine stB ?_ ?_ ?_ ?_); rfl; rfl; exact one_all rfl) | ((with_reducible refine rdP _ rfl ?_ ?_); rfl) | ((with_reducible refine rdPS _ rfl ?_ ?_); rfl) | ((with_reducible refine stP _ rfl ?_ ?_ ?_ ?_); rfl; rfl; rfl) | (with_reducible refine And.intro ?_ ?_) | (simp only [Bool.not_true, Bool.not_false, Bool.and_self, Bool.true_and, Int.reduceBEq, Int.reduceBNe, Int.reduceLT, Int.reduceLE, decide_true, decide_false, Br_true, Br_false, Gd_tt, Gd_ft, Gd_tf, Gd_ff, beq_self_eq_true, bne_self_eq_false]) | (with_reducible refine gd_split (fun _ => ?_) (fun _ => ?_)) | (with_reducible refine br_split (fun _ => ?_) (fun _ => ?_)) | (simp only [SSd, List.getElem?_toArray, List.getElem?_cons_zero, List.getElem?_cons_succ, Nat.zero_add, Nat.add_zero, Nat.zero_mul, List.drop_succ_cons, List.drop_zero, List.take_succ_cons, List.take_zero, List.nil_append, List.cons_append, Nat.reduceAdd, List.drop_nil, List.take_nil]))
    refine call (raftq_cal (r := hearF r m.frm) (XL := [_]) b F z0 z1 z2 h1v h2 h3 h4 rfl (fun X hX => ?_))
    exact qsend_spec (m := doneM m true r.g.commit) hX ⟨_, _, _, rfl, RL.nil _ _, SlI.nil _ _ _ _, SlI.nil _ _ _ _⟩ hl (fun X' hX' => Gh.done (hk X' I (Ext.refl _) hX'))
  · simp at hc
    repeat' (first | (with_reducible refine drawC ?_) | (with_reducible refine drawW1 ?_) | (with_reducible refine drawW2 ?_) | (with_reducible refine keepC (by repeat (first | exact Ext.refl _ | assumption | refine Ext.trans ?_ (by assumption))) ?_) | (with_reducible refine newI (fun _ => ?_)) | first | (with_reducible refine rdb ?_) | ((with_reducible refine st1 ?_ ?_); rfl) | ((with_reducible refine rdB ?_ ?_); rfl) | (with_reducible refine rdbS ?_) | ((with_reducible refine rdBS ?_ ?_); rfl) | ((with_reducible refine stB ?_ ?_ ?_ ?_); rfl; rfl; exact one_all rfl) | ((with_reducible refine rdP _ rfl ?_ ?_); rfl) | ((with_reducible refine rdPS _ rfl ?_ ?_); rfl) | ((with_reducible refine stP _ rfl ?_ ?_ ?_ ?_); rfl; rfl; rfl) | (with_reducible refine And.intro ?_ ?_) | (simp only [Bool.not_true, Bool.not_false, Bool.and_self, Bool.true_and, Int.reduceBEq, Int.reduceBNe, Int.reduceLT, Int.reduceLE, decide_true, decide_false, Br_true, Br_false, Gd_tt, Gd_ft, Gd_tf, Gd_ff, beq_self_eq_true, bne_self_eq_false]) | (with_reducible refine gd_split (fun _ => ?_) (fun _ => ?_)) | (with_reducible refine br_split (fun _ => ?_) (fun _ => ?_)) | (simp only [SSd, List.getElem?_toArray, List.getElem?_cons_zero, List.getElem?_cons_succ, Nat.zero_add, Nat.add_zero, Nat.zero_mul, List.drop_succ_cons, List.drop_zero, List.take_succ_cons, List.take_zero, List.nil_append, List.cons_append, Nat.reduceAdd, List.drop_nil, List.take_nil]))
    generalize ho : resetG r.g m.index m.lterm m.mem = o at *
    have e : installF r m = if o.1 ≠ 0 then hearF r m.frm else sendF { hearF r m.frm with g := o.2, st := m.data } (doneM m true m.index) := by
      rw [← ho, installF, if_neg (show ¬ m.index ≤ (hearF r m.frm).g.commit by show ¬ m.index ≤ r.g.commit; omega)]; rfl
    rw [e] at hk
    refine callG (Cal.split [_] (rreset_spec h1v hw.wf hM (by unfold inI64; omega) (fun XL' I1 hI1 hL' => ?_)))
    rw [ho] at hL' ⊢
    refine Gh.pick m1 ((b, Obj.cells (qcells (hearF r m.frm) z0 z1 z2 (.pointer (some ⟨lb, 0, none⟩)) stv ov).toArray 63 (0, 0)) :: (XL' ++ (XO ++ F))) (Gh.done ?_)
    try simp only [SSd, List.getElem?_toArray, List.getElem?_cons_zero, List.getElem?_cons_succ, Nat.zero_add, Nat.add_zero, Nat.zero_mul, List.drop_succ_cons, List.drop_zero, List.take_succ_cons, List.take_zero, List.nil_append, List.cons_append, Nat.reduceAdd, List.drop_nil, List.take_nil]
    refine br_split (fun he => ?_) (fun he => ?_)
    · simp at he
      rw [if_pos he] at hk
      have hno : o.2 = r.g := by
        rw [← ho] at he ⊢
        unfold resetG at he ⊢
        split
        · rfl
        · split
          · rfl
          · simp_all
      rw [hno] at hL'
      exact raftq_end (r := hearF r m.frm) (F := F) z0 z1 z2 (fun X' h' => hk X' I1 hI1 h') hL' (h2.mono hI1) h3 (h4.imp fun _ _ h => h.mono hI1) rfl
    · simp at he
      rw [if_neg (by simp [he])] at hk
      refine bld_zero (fun XB u hXB => ?_)
      try simp only [SSd, List.getElem?_toArray, List.getElem?_cons_zero, List.getElem?_cons_succ, Nat.zero_add, Nat.add_zero, Nat.zero_mul, List.drop_succ_cons, List.drop_zero, List.take_succ_cons, List.take_zero, List.nil_append, List.cons_append, Nat.reduceAdd, List.drop_nil, List.take_nil]
      refine rdb ?_
      refine app_ownG (X := XB) rfl hXB (SlI.news (hD.mono hI1)) (u8s_one _) (by omega) (by omega) (fun XB' v' hXB' => ?_)
      obtain ⟨av, pv, rfl⟩ := hXB'.form
      refine SlO.freeze hXB' (fun I2 hI2 hS => Gh.done ?_)
      have hv : Bytes I2 (.slice av (0 + m.data.length) pv) m.data := by simpa [Bytes] using hS
      rw [Nat.zero_add] at hv ⊢
      repeat' (first | (with_reducible refine drawC ?_) | (with_reducible refine drawW1 ?_) | (with_reducible refine drawW2 ?_) | (with_reducible refine keepC (by repeat (first | exact Ext.refl _ | assumption | refine Ext.trans ?_ (by assumption))) ?_) | (with_reducible refine newI (fun _ => ?_)) | first | (with_reducible refine rdb ?_) | ((with_reducible refine st1 ?_ ?_); rfl) | ((with_reducible refine rdB ?_ ?_); rfl) | (with_reducible refine rdbS ?_) | ((with_reducible refine rdBS ?_ ?_); rfl) | ((with_reducible refine stB ?_ ?_ ?_ ?_); rfl; rfl; exact one_all rfl) | ((with_reducible refine rdP _ rfl ?_ ?_); rfl) | ((with_reducible refine rdPS _ rfl ?_ ?_); rfl) | ((with_reducible refine stP _ rfl ?_ ?_ ?_ ?_); rfl; rfl; rfl) | (with_reducible refine And.intro ?_ ?_) | (simp only [Bool.not_true, Bool.not_false, Bool.and_self, Bool.true_and, Int.reduceBEq, Int.reduceBNe, Int.reduceLT, Int.reduceLE, decide_true, decide_false, Br_true, Br_false, Gd_tt, Gd_ft, Gd_tf, Gd_ff, beq_self_eq_true, bne_self_eq_false]) | (with_reducible refine gd_split (fun _ => ?_) (fun _ => ?_)) | (with_reducible refine br_split (fun _ => ?_) (fun _ => ?_)) | (simp only [SSd, List.getElem?_toArray, List.getElem?_cons_zero, List.getElem?_cons_succ, Nat.zero_add, Nat.add_zero, Nat.zero_mul, List.drop_succ_cons, List.drop_zero, List.take_succ_cons, List.take_zero, List.nil_append, List.cons_append, Nat.reduceAdd, List.drop_nil, List.take_nil]))
      refine call (raftq_cal (r := { hearF r m.frm with g := o.2, st := m.data }) b F z0 z1 z2 (hL'.mono hI2) hv h3 (h4.imp fun _ _ h => h.mono (hI1.trans hI2)) rfl (fun X hX => ?_))
      exact qsend_spec (m := doneM m true m.index) hX ⟨_, _, _, rfl, RL.nil _ _, SlI.nil _ _ _ _, SlI.nil _ _ _ _⟩ hl (fun X' hX' => Gh.done (hk X' I2 (hI1.trans hI2) hX'))

theorem qappended_spec {b E B : Nat} {X F : LH} {r : RF} {m : RM} {c : List Value} (h : RaftQ I b X r) (hw : RWF E B r) (hm : MsgV I m c) (hr : RB m) (hl : r.out.length ≤ 900)
    (hk : ∀ X' I', Ext I I' → RaftQ I' b X' (appendedF r m) → K (.tuple #[]) I' (X' ++ F)) : Cal Tryz.prog ω 53 #[.pointer (some ⟨b, 0, none⟩), .agg c.toArray] K I (X ++ F) := by
  obtain ⟨lb, XL, XO, stv, ov, z0, z1, z2, oc, rfl, h1, h2, h3, h4⟩ := h
  obtain ⟨a0, p0, a1, p1, a2, p2, rfl, hEn, hM, hD⟩ := hm.form
  have hidx := hr.idx
  have hfr := hr.frm
  have hlast := hw.wf.last
  have hnx := hw.nxb m.frm
  have hmt := hw.mtb m.frm
  refine cal53 ?_
  unfold sh53
  simp only [List.cons_append, List.append_assoc]
  refine newI (fun m1 => ?_)
  try simp only [SSd, List.getElem?_toArray, List.getElem?_cons_zero, List.getElem?_cons_succ, Nat.zero_add, Nat.add_zero, Nat.zero_mul, List.drop_succ_cons, List.drop_zero, List.take_succ_cons, List.take_zero, List.nil_append, List.cons_append, Nat.reduceAdd, List.drop_nil, List.take_nil]
  refine rdb ?_
  try simp only [SSd, List.getElem?_toArray, List.getElem?_cons_zero, List.getElem?_cons_succ, Nat.zero_add, Nat.add_zero, Nat.zero_mul, List.drop_succ_cons, List.drop_zero, List.take_succ_cons, List.take_zero, List.nil_append, List.cons_append, Nat.reduceAdd, List.drop_nil, List.take_nil]
  refine rdb ?_
  refine call (rlast_spec h1.view hw.wf.sz ?_)
  try simp only [SSd, List.getElem?_toArray, List.getElem?_cons_zero, List.getElem?_cons_succ, Nat.zero_add, Nat.add_zero, Nat.zero_mul, List.drop_succ_cons, List.drop_zero, List.take_succ_cons, List.take_zero, List.nil_append, List.cons_append, Nat.reduceAdd, List.drop_nil, List.take_nil]
  refine rdb ?_
  try simp only [SSd, List.getElem?_toArray, List.getElem?_cons_zero, List.getElem?_cons_succ, Nat.zero_add, Nat.add_zero, Nat.zero_mul, List.drop_succ_cons, List.drop_zero, List.take_succ_cons, List.take_zero, List.nil_append, List.cons_append, Nat.reduceAdd, List.drop_nil, List.take_nil]
  refine br_split (fun hok => ?_) (fun hok => ?_)
  · have hok : m.ok = false := by simpa using hok
    repeat' (first | (with_reducible refine drawC ?_) | (with_reducible refine drawW1 ?_) | (with_reducible refine drawW2 ?_) | (with_reducible refine keepC (by repeat (first | exact Ext.refl _ | assumption | refine Ext.trans ?_ (by assumption))) ?_) | (with_reducible refine newI (fun _ => ?_)) | first | (with_reducible refine rdb ?_) | ((with_reducible refine st1 ?_ ?_); rfl) | ((with_reducible refine rdB ?_ ?_); rfl) | (with_reducible refine rdbS ?_) | ((with_reducible refine rdBS ?_ ?_); rfl) | ((with_reducible refine stB ?_ ?_ ?_ ?_); rfl; rfl; exact one_all rfl) | ((with_reducible refine rdP _ rfl ?_ ?_); rfl) | ((with_reducible refine rdPS _ rfl ?_ ?_); rfl) | ((with_reducible refine stP _ rfl ?_ ?_ ?_ ?_); rfl; rfl; rfl) | (with_reducible refine And.intro ?_ ?_) | (simp only [Bool.not_true, Bool.not_false, Bool.and_self, Bool.true_and, Int.reduceBEq, Int.reduceBNe, Int.reduceLT, Int.reduceLE, decide_true, decide_false, Br_true, Br_false, Gd_tt, Gd_ft, Gd_tf, Gd_ff, beq_self_eq_true, bne_self_eq_false]) | (with_reducible refine gd_split (fun _ => ?_) (fun _ => ?_)) | (with_reducible refine br_split (fun _ => ?_) (fun _ => ?_)) | (simp only [SSd, List.getElem?_toArray, List.getElem?_cons_zero, List.getElem?_cons_succ, Nat.zero_add, Nat.add_zero, Nat.zero_mul, List.drop_succ_cons, List.drop_zero, List.take_succ_cons, List.take_zero, List.nil_append, List.cons_append, Nat.reduceAdd, List.drop_nil, List.take_nil, wrap_i64 (m.index + 1) (by omega), ixPV_at _ (show 0 ≤ m.frm by omega) (show m.frm < ((6 : Nat) : Int) by omega)]))
    refine rdLS (qc_nx hfr) ?_
    try simp only [SSd, List.getElem?_toArray, List.getElem?_cons_zero, List.getElem?_cons_succ, Nat.zero_add, Nat.add_zero, Nat.zero_mul, List.drop_succ_cons, List.drop_zero, List.take_succ_cons, List.take_zero, List.nil_append, List.cons_append, Nat.reduceAdd, List.drop_nil, List.take_nil]
    refine br_split (fun hlt => ?_) (fun hlt => ?_)
    · simp at hlt
      rw [appendedF, if_pos hok, if_pos hlt] at hk
      repeat' (first | (with_reducible refine drawC ?_) | (with_reducible refine drawW1 ?_) | (with_reducible refine drawW2 ?_) | (with_reducible refine keepC (by repeat (first | exact Ext.refl _ | assumption | refine Ext.trans ?_ (by assumption))) ?_) | (with_reducible refine newI (fun _ => ?_)) | first | (with_reducible refine rdb ?_) | ((with_reducible refine st1 ?_ ?_); rfl) | ((with_reducible refine rdB ?_ ?_); rfl) | (with_reducible refine rdbS ?_) | ((with_reducible refine rdBS ?_ ?_); rfl) | ((with_reducible refine stB ?_ ?_ ?_ ?_); rfl; rfl; exact one_all rfl) | ((with_reducible refine rdP _ rfl ?_ ?_); rfl) | ((with_reducible refine rdPS _ rfl ?_ ?_); rfl) | ((with_reducible refine stP _ rfl ?_ ?_ ?_ ?_); rfl; rfl; rfl) | (with_reducible refine And.intro ?_ ?_) | (simp only [Bool.not_true, Bool.not_false, Bool.and_self, Bool.true_and, Int.reduceBEq, Int.reduceBNe, Int.reduceLT, Int.reduceLE, decide_true, decide_false, Br_true, Br_false, Gd_tt, Gd_ft, Gd_tf, Gd_ff, beq_self_eq_true, bne_self_eq_false]) | (with_reducible refine gd_split (fun _ => ?_) (fun _ => ?_)) | (with_reducible refine br_split (fun _ => ?_) (fun _ => ?_)) | (simp only [SSd, List.getElem?_toArray, List.getElem?_cons_zero, List.getElem?_cons_succ, Nat.zero_add, Nat.add_zero, Nat.zero_mul, List.drop_succ_cons, List.drop_zero, List.take_succ_cons, List.take_zero, List.nil_append, List.cons_append, Nat.reduceAdd, List.drop_nil, List.take_nil, ixPV_at _ (show 0 ≤ m.frm by omega) (show m.frm < ((6 : Nat) : Int) by omega)]))
      refine rdLS (qc_mt hfr) ?_
      try simp only [SSd, List.getElem?_toArray, List.getElem?_cons_zero, List.getElem?_cons_succ, Nat.zero_add, Nat.add_zero, Nat.zero_mul, List.drop_succ_cons, List.drop_zero, List.take_succ_cons, List.take_zero, List.nil_append, List.cons_append, Nat.reduceAdd, List.drop_nil, List.take_nil]
      rw [show (if r.mt m.frm > m.index then r.mt m.frm else m.index) = max m.index (r.mt m.frm) by split <;> omega, wrap_i64 (max m.index (r.mt m.frm) + 1) (by omega)]
      try simp only [ixPV_at _ (show 0 ≤ m.frm by omega) (show m.frm < ((6 : Nat) : Int) by omega), SSd, List.getElem?_toArray, List.getElem?_cons_zero, List.getElem?_cons_succ, Nat.zero_add, Nat.add_zero, Nat.zero_mul, List.drop_succ_cons, List.drop_zero, List.take_succ_cons, List.take_zero, List.nil_append, List.cons_append, Nat.reduceAdd, List.drop_nil, List.take_nil]
      refine stL (qc_snx hfr) (by rw [qc_len]; omega) rfl ?_
      have hw' : RWF E B { r with nx := updI r.nx m.frm (max m.index (r.mt m.frm) + 1) } := ⟨hw.wf, hw.len, hw.grp, hw.idn, hw.trm, hw.vot, hw.lst, hw.stl, hw.ela, fun p => by simp only [updI]; split <;> first | omega | exact hw.nxb p, hw.mtb⟩
      refine call (raftq_cal (r := { r with nx := updI r.nx m.frm (max m.index (r.mt m.frm) + 1) }) b F z0 z1 z2 h1 h2 h3 h4 rfl (fun X hX => ?_))
      exact qsendTo_spec hX hw' hfr (by simp only; omega) (fun X' I1 hI1 hX' => Gh.done (hk X' I1 hI1 hX'))
    · simp at hlt
      rw [appendedF, if_pos hok, if_neg (by omega)] at hk
      exact raftq_end (r := r) (F := F) z0 z1 z2 (fun X' h' => hk X' I (Ext.refl I) h') h1 h2 h3 h4 rfl
  have hok : ¬ m.ok = false := by simpa using hok
  refine rdb ?_
  try simp only [SSd, List.getElem?_toArray, List.getElem?_cons_zero, List.getElem?_cons_succ, Nat.zero_add, Nat.add_zero, Nat.zero_mul, List.drop_succ_cons, List.drop_zero, List.take_succ_cons, List.take_zero, List.nil_append, List.cons_append, Nat.reduceAdd, List.drop_nil, List.take_nil]
  refine br_split (fun hle => ?_) (fun hle => ?_)
  · simp at hle
    rw [appendedF, if_neg hok, if_pos (by omega)] at hk
    exact raftq_end (r := r) (F := F) z0 z1 z2 (fun X' h' => hk X' I (Ext.refl I) h') h1 h2 h3 h4 rfl
  simp at hle
  rw [appendedF, if_neg hok, if_neg (by omega)] at hk
  repeat' (first | (with_reducible refine drawC ?_) | (with_reducible refine drawW1 ?_) | (with_reducible refine drawW2 ?_) | (with_reducible refine keepC (by repeat (first | exact Ext.refl _ | assumption | refine Ext.trans ?_ (by assumption))) ?_) | (with_reducible refine newI (fun _ => ?_)) | first | (with_reducible refine rdb ?_) | ((with_reducible refine st1 ?_ ?_); rfl) | ((with_reducible refine rdB ?_ ?_); rfl) | (with_reducible refine rdbS ?_) | ((with_reducible refine rdBS ?_ ?_); rfl) | ((with_reducible refine stB ?_ ?_ ?_ ?_); rfl; rfl; exact one_all rfl) | ((with_reducible refine rdP _ rfl ?_ ?_); rfl) | ((with_reducible refine rdPS _ rfl ?_ ?_); rfl) | ((with_reducible refine stP _ rfl ?_ ?_ ?_ ?_); rfl; rfl; rfl) | (with_reducible refine And.intro ?_ ?_) | (simp only [Bool.not_true, Bool.not_false, Bool.and_self, Bool.true_and, Int.reduceBEq, Int.reduceBNe, Int.reduceLT, Int.reduceLE, decide_true, decide_false, Br_true, Br_false, Gd_tt, Gd_ft, Gd_tf, Gd_ff, beq_self_eq_true, bne_self_eq_false]) | (with_reducible refine gd_split (fun _ => ?_) (fun _ => ?_)) | (with_reducible refine br_split (fun _ => ?_) (fun _ => ?_)) | (simp only [SSd, List.getElem?_toArray, List.getElem?_cons_zero, List.getElem?_cons_succ, Nat.zero_add, Nat.add_zero, Nat.zero_mul, List.drop_succ_cons, List.drop_zero, List.take_succ_cons, List.take_zero, List.nil_append, List.cons_append, Nat.reduceAdd, List.drop_nil, List.take_nil, ixPV_at _ (show 0 ≤ m.frm by omega) (show m.frm < ((6 : Nat) : Int) by omega)]))
  refine rdLS (qc_mt hfr) ?_
  repeat' (first | (with_reducible refine drawC ?_) | (with_reducible refine drawW1 ?_) | (with_reducible refine drawW2 ?_) | (with_reducible refine keepC (by repeat (first | exact Ext.refl _ | assumption | refine Ext.trans ?_ (by assumption))) ?_) | (with_reducible refine newI (fun _ => ?_)) | first | (with_reducible refine rdb ?_) | ((with_reducible refine st1 ?_ ?_); rfl) | ((with_reducible refine rdB ?_ ?_); rfl) | (with_reducible refine rdbS ?_) | ((with_reducible refine rdBS ?_ ?_); rfl) | ((with_reducible refine stB ?_ ?_ ?_ ?_); rfl; rfl; exact one_all rfl) | ((with_reducible refine rdP _ rfl ?_ ?_); rfl) | ((with_reducible refine rdPS _ rfl ?_ ?_); rfl) | ((with_reducible refine stP _ rfl ?_ ?_ ?_ ?_); rfl; rfl; rfl) | (with_reducible refine And.intro ?_ ?_) | (simp only [Bool.not_true, Bool.not_false, Bool.and_self, Bool.true_and, Int.reduceBEq, Int.reduceBNe, Int.reduceLT, Int.reduceLE, decide_true, decide_false, Br_true, Br_false, Gd_tt, Gd_ft, Gd_tf, Gd_ff, beq_self_eq_true, bne_self_eq_false]) | (with_reducible refine gd_split (fun _ => ?_) (fun _ => ?_)) | (with_reducible refine br_split (fun _ => ?_) (fun _ => ?_)) | (simp only [SSd, List.getElem?_toArray, List.getElem?_cons_zero, List.getElem?_cons_succ, Nat.zero_add, Nat.add_zero, Nat.zero_mul, List.drop_succ_cons, List.drop_zero, List.take_succ_cons, List.take_zero, List.nil_append, List.cons_append, Nat.reduceAdd, List.drop_nil, List.take_nil, ixPV_at _ (show 0 ≤ m.frm by omega) (show m.frm < ((6 : Nat) : Int) by omega)]))
  rw [show (if m.index > r.mt m.frm then m.index else r.mt m.frm) = max (r.mt m.frm) m.index by split <;> omega]
  refine stL (qc_smt hfr) (by rw [qc_len]; omega) rfl ?_
  refine drawC ?_
  try simp only [ixPV_at _ (show 0 ≤ m.frm by omega) (show m.frm < ((6 : Nat) : Int) by omega), SSd, List.getElem?_toArray, List.getElem?_cons_zero, List.getElem?_cons_succ, Nat.zero_add, Nat.add_zero, Nat.zero_mul, List.drop_succ_cons, List.drop_zero, List.take_succ_cons, List.take_zero, List.nil_append, List.cons_append, Nat.reduceAdd, List.drop_nil, List.take_nil]
  refine rdLS (qc_mt hfr) ?_
  simp only [updI_same, ixPV_at _ (show 0 ≤ m.frm by omega) (show m.frm < ((6 : Nat) : Int) by omega), SSd, List.getElem?_toArray, List.getElem?_cons_zero, List.getElem?_cons_succ, Nat.zero_add, Nat.add_zero, Nat.zero_mul, List.drop_succ_cons, List.drop_zero, List.take_succ_cons, List.take_zero, List.nil_append, List.cons_append, Nat.reduceAdd, List.drop_nil, List.take_nil, wrap_i64 (max (r.mt m.frm) m.index + 1) (by omega)]
  refine stL (qc_snx hfr) (by rw [qc_len]; omega) rfl ?_
  simp only at hk
  generalize hr1 : ({ r with mt := updI r.mt m.frm (max (r.mt m.frm) m.index), nx := updI r.nx m.frm (max (r.mt m.frm) m.index + 1) } : RF) = r1 at *
  have hg : r1.g = r.g := by rw [← hr1]
  have hst : r1.st = r.st := by rw [← hr1]
  have hou : r1.out = r.out := by rw [← hr1]
  have hw' : RWF E B r1 := by
    rw [← hr1]
    exact ⟨hw.wf, hw.len, hw.grp, hw.idn, hw.trm, hw.vot, hw.lst, hw.stl, hw.ela, fun p => by simp only [updI]; split <;> first | omega | exact hw.nxb p, fun p => by simp only [updI]; split <;> first | omega | exact hw.mtb p⟩
  refine call (raftq_cal (r := r1) b ((m1, Obj.cells (mcells m (.slice a0 m.ents.length p0) (.slice a1 m.mem.length p1) (.slice a2 m.data.length p2)).toArray 34 (0, 0)) :: F) z0 z1 z2 (by rw [hg]; exact h1) (by rw [hst]; exact h2) (by rw [hou]; exact h3) (by rw [hou]; exact h4) rfl (fun X hX => ?_))
  refine qcommit_spec hX hw' (fun X' I1 hI1 hX' => ?_)
  have hwc := hw'.commit
  have hoc := commit_out r1
  generalize commitF r1 = cc at *
  clear h1 h2 h3 h4 hX
  obtain ⟨lb, XL, XO, stv, ov, z0, z1, z2, oc, rfl, h1, h2, h3, h4⟩ := hX'
  simp only [List.cons_append, List.append_assoc, SSd, List.getElem?_toArray, List.getElem?_cons_zero, List.getElem?_cons_succ, Nat.zero_add, Nat.add_zero, Nat.zero_mul, List.drop_succ_cons, List.drop_zero, List.take_succ_cons, List.take_zero, List.nil_append, List.cons_append, Nat.reduceAdd, List.drop_nil, List.take_nil]
  refine rdb ?_
  try simp only [SSd, List.getElem?_toArray, List.getElem?_cons_zero, List.getElem?_cons_succ, Nat.zero_add, Nat.add_zero, Nat.zero_mul, List.drop_succ_cons, List.drop_zero, List.take_succ_cons, List.take_zero, List.nil_append, List.cons_append, Nat.reduceAdd, List.drop_nil, List.take_nil]
  refine br_split (fun hro => ?_) (fun hro => ?_)
  · have hro : ¬ cc.2.role = 3 := by simpa using hro
    have e : (if cc.1 = true then sendAllF cc.2 else if cc.2.role = 3 ∧ cc.2.nx m.frm ≤ lastI r.g then sendToF cc.2 m.frm else cc.2) = cc.2 := by
      rw [sendAllF, if_neg hro]
      split
      · rfl
      · rw [if_neg (fun h => hro h.1)]
    rw [e] at hk
    exact raftq_end (r := cc.2) (F := F) z0 z1 z2 (fun X' h' => hk X' I1 hI1 h') h1 h2 h3 h4 rfl
  have hro : cc.2.role = 3 := by simpa using hro
  refine br_split (fun hc => ?_) (fun hc => ?_)
  · rw [hc, if_pos rfl] at hk
    refine call (raftq_cal (r := cc.2) b F z0 z1 z2 h1 h2 h3 h4 rfl (fun X hX => ?_))
    exact qothers_spec hX hwc (by rw [hoc, hou]; omega) (fun X2 I2 hI2 hX2 => Gh.done (hk X2 I2 (hI1.trans hI2) hX2))
  rw [hc, if_neg (by simp)] at hk
  try simp only [ixPV_at _ (show 0 ≤ m.frm by omega) (show m.frm < ((6 : Nat) : Int) by omega), SSd, List.getElem?_toArray, List.getElem?_cons_zero, List.getElem?_cons_succ, Nat.zero_add, Nat.add_zero, Nat.zero_mul, List.drop_succ_cons, List.drop_zero, List.take_succ_cons, List.take_zero, List.nil_append, List.cons_append, Nat.reduceAdd, List.drop_nil, List.take_nil]
  refine rdL (qc_nx hfr) ?_
  try simp only [SSd, List.getElem?_toArray, List.getElem?_cons_zero, List.getElem?_cons_succ, Nat.zero_add, Nat.add_zero, Nat.zero_mul, List.drop_succ_cons, List.drop_zero, List.take_succ_cons, List.take_zero, List.nil_append, List.cons_append, Nat.reduceAdd, List.drop_nil, List.take_nil]
  refine br_split (fun hn => ?_) (fun hn => ?_)
  · simp at hn
    rw [if_pos ⟨hro, hn⟩] at hk
    refine call (raftq_cal (r := cc.2) b F z0 z1 z2 h1 h2 h3 h4 rfl (fun X hX => ?_))
    exact qsendTo_spec hX hwc hfr (by rw [hoc, hou]; omega) (fun X' I2 hI2 hX' => Gh.done (hk X' I2 (hI1.trans hI2) hX'))
  · simp at hn
    rw [if_neg (by omega)] at hk
    exact raftq_end (r := cc.2) (F := F) z0 z1 z2 (fun X' h' => hk X' I1 hI1 h') h1 h2 h3 h4 rfl
end
end Go.Proofs.YtdcpeboecmkmlaaGreat
