/-
  The program's node: majorities, sending, what is committed.
-/
-- S3
import Derived.Test.YtdcpeboecmkmlaaKF
set_option linter.unusedSimpArgs false
set_option linter.unusedVariables false
namespace Go.Proofs.Ytdcpeboecmkmlaa
open Go.SL
set_option maxRecDepth 10000

/-- what holds of a node between its calls; 'E': how many entries, 'B': how much it waited, 'Z': how many bytes -/
structure RWF (E B : Nat) (r : RF) : Prop where
  wf : WF r.g
  len : r.g.es.length ≤ E
  grp : 1 ≤ r.group ∧ r.group ≤ 255
  idn : 1 ≤ r.id ∧ r.id ≤ 5
  trm : 0 ≤ r.term ∧ r.term ≤ 9007199254740991
  vot : r.vote = 0 ∨ (1 ≤ r.vote ∧ r.vote ≤ 5)
  lst : lastT r.g ≤ r.term
  stl : r.st.length ≤ 60000
  ela : 0 ≤ r.elapsed ∧ r.elapsed ≤ B
  nxb : ∀ p, 0 ≤ r.nx p ∧ r.nx p ≤ 9007199254740992
  mtb : ∀ p, 0 ≤ r.mt p ∧ r.mt p ≤ 9007199254740991

theorem risB_mem : ∀ {l : List Int} {last : Int}, risB last l = true → ∀ p ∈ l, last < p ∧ p ≤ 5
  | [], _, _, p, hp => by cases hp
  | x :: l, last, h, p, hp => by
    simp only [risB, Bool.and_eq_true, decide_eq_true_eq] at h
    rcases List.mem_cons.1 hp with rfl | hp
    · exact h.1
    · have := risB_mem h.2 p hp; omega
theorem memB_mem {l : List Int} (h : memB l = true) : ∀ p ∈ l, 1 ≤ p ∧ p ≤ 5 := fun p hp => by
  simp only [memB, Bool.and_eq_true] at h
  have := risB_mem h.2 p hp; omega
theorem WF.mems {g : LG} (h : WF g) : memB (memOf g.mem g.es) = true := memOf_ok h.mem h.fol

section
variable {ω : Om} {I : Imm} {L : LH} {K : Value → M}

/-- a test of nodes -/
def TestN (ω : Om) (fv : Value) (I : Imm) (L : LH) (q : Int → Bool) : Prop := ∀ (p : Int) (I' : Imm) (K : Value → M), 1 ≤ p ∧ p ≤ 5 → Ext I I' → K (.bool (q p)) I' L → CalV Try.prog ω fv #[.int .i64 p] K I' L
theorem majority_spec {b lb : Nat} {g : LG} {fv : Value} {q : Int → Bool} (hc : Cell I L b 4 (.pointer (some ⟨lb, 0, none⟩))) (hl : LogV I L lb g) (hw : WF g) (hf : TestN ω fv I L q) (hk : ∀ I', Ext I I' → K (.bool (majF (memOf g.mem g.es) q)) I' L) :
    Cal Try.prog ω 121 #[.pointer (some ⟨b, 0, none⟩), fv] K I L := by
  have hmm := memB_mem hw.mems
  have hml := memB_len hw.mems
  refine cal121 ?_
  unfold sh121
  try simp only [SSd, List.getElem?_toArray, List.getElem?_cons_zero, List.getElem?_cons_succ, Nat.zero_add, Nat.add_zero, Nat.zero_mul, List.drop_succ_cons, List.drop_zero, List.take_succ_cons, List.take_zero, List.nil_append, List.cons_append, Nat.reduceAdd, List.drop_nil, List.take_nil]
  refine rd1 hc ?_
  refine call (lmembers_spec hl hw (fun v I1 hI1 hv => ?_))
  generalize memOf g.mem g.es = l at *
  have hln := Ints.len hv
  simp only [hln, SSd, List.getElem?_toArray, List.getElem?_cons_zero, List.getElem?_cons_succ, Nat.zero_add, Nat.add_zero, Nat.zero_mul, List.drop_succ_cons, List.drop_zero, List.take_succ_cons, List.take_zero, List.nil_append, List.cons_append, Nat.reduceAdd, List.drop_nil, List.take_nil]
  refine loop (fun m s I' L' => Ext I1 I' ∧ L' = L ∧ ∃ k : Nat, k + m = l.length ∧ s = (.int .i64 ((l.take k).filter q).length, .int .i64 k, ())) l.length ⟨Ext.refl _, rfl, 0, by omega, rfl⟩ ?_
  rintro m s I' L' ⟨hI, rfl, k, hkm, rfl⟩
  unfold sh121_3
  try simp only [SSd, List.getElem?_toArray, List.getElem?_cons_zero, List.getElem?_cons_succ, Nat.zero_add, Nat.add_zero, Nat.zero_mul, List.drop_succ_cons, List.drop_zero, List.take_succ_cons, List.take_zero, List.nil_append, List.cons_append, Nat.reduceAdd, List.drop_nil, List.take_nil]
  have hfl := List.length_filter_le q (l.take k)
  rw [List.length_take] at hfl
  refine br_split (fun hlt => ?_) (fun hlt => ?_)
  · simp at hlt
    obtain ⟨b2, off, hix, hc2⟩ := ints_at hv (i := k) (by omega) (by omega)
    simp only [hix, SSd, List.getElem?_toArray, List.getElem?_cons_zero, List.getElem?_cons_succ, Nat.zero_add, Nat.add_zero, Nat.zero_mul, List.drop_succ_cons, List.drop_zero, List.take_succ_cons, List.take_zero, List.nil_append, List.cons_append, Nat.reduceAdd, List.drop_nil, List.take_nil]
    refine rd1 (hc2 I' L' hI) ?_
    refine hf (geti l (k : Int)) I' _ (hmm _ (by rw [geti_nat hlt]; exact List.getElem_mem hlt)) (hI1.trans hI) (Gh.done ?_)
    have ht := take_geti hlt
    unfold sh121_4
    refine br_split (fun hq => ?_) (fun hq => ?_)
    · simp only [SSd, List.getElem?_toArray, List.getElem?_cons_zero, List.getElem?_cons_succ, Nat.zero_add, Nat.add_zero, Nat.zero_mul, List.drop_succ_cons, List.drop_zero, List.take_succ_cons, List.take_zero, List.nil_append, List.cons_append, Nat.reduceAdd, List.drop_nil, List.take_nil, wrap_i64 ((k : Int) + 1) (by omega), wrap_i64 (((l.take k).filter q).length + 1) (by omega)]
      refine Gh.done ⟨m - 1, by omega, hI, rfl, k + 1, by omega, ?_⟩
      rw [ht, List.filter_append, List.length_append]
      simp [hq]
    · simp only [SSd, List.getElem?_toArray, List.getElem?_cons_zero, List.getElem?_cons_succ, Nat.zero_add, Nat.add_zero, Nat.zero_mul, List.drop_succ_cons, List.drop_zero, List.take_succ_cons, List.take_zero, List.nil_append, List.cons_append, Nat.reduceAdd, List.drop_nil, List.take_nil, wrap_i64 ((k : Int) + 1) (by omega)]
      refine Gh.done ⟨m - 1, by omega, hI, rfl, k + 1, by omega, ?_⟩
      rw [ht, List.filter_append, List.length_append]
      simp [hq]
  · simp at hlt
    unfold sh121_1
    simp only [hln, SSd, List.getElem?_toArray, List.getElem?_cons_zero, List.getElem?_cons_succ, Nat.zero_add, Nat.add_zero, Nat.zero_mul, List.drop_succ_cons, List.drop_zero, List.take_succ_cons, List.take_zero, List.nil_append, List.cons_append, Nat.reduceAdd, List.drop_nil, List.take_nil, wrap_i64 (2 * (((l.take k).filter q).length : Int)) (by omega)]
    refine Gh.done (leafB (hk I' (hI1.trans hI)) ?_)
    rw [List.take_of_length_le (by omega), majF]
    exact decide_eq_decide.2 (by omega)

theorem contains_spec {v : Value} {l : List Int} {p : Int} (h : Ints I v l) (hl : l.length < 4611686018427387904) (hk : K (.bool (l.contains p)) I L) : Cal Try.prog ω 88 #[v, .int .i64 p] K I L := by
  have idx : ∀ {K : Value → M}, (∀ z : Int, (0 ≤ z ↔ l.contains p = true) → K (.int .i64 z) I L) → Cal Try.prog ω 113 #[v, .int .i64 p] K I L := by
    intro K hk
    refine cal113 ?_
    have hln := Ints.len h
    unfold sh113
    simp only [hln, SSd, List.getElem?_toArray, List.getElem?_cons_zero, List.getElem?_cons_succ, Nat.zero_add, Nat.add_zero, Nat.zero_mul, List.drop_succ_cons, List.drop_zero, List.take_succ_cons, List.take_zero, List.nil_append, List.cons_append, Nat.reduceAdd, List.drop_nil, List.take_nil]
    refine loop (fun m s I' L' => I' = I ∧ L' = L ∧ ∃ k : Nat, k + m = l.length ∧ s = (.int .i64 0, .int .i64 k, ()) ∧ (l.drop k).contains p = l.contains p) l.length ⟨rfl, rfl, 0, by omega, rfl, rfl⟩ ?_
    rintro m s I' L' ⟨rfl, rfl, k, hkm, rfl, hd⟩
    unfold sh113_3
    try simp only [SSd, List.getElem?_toArray, List.getElem?_cons_zero, List.getElem?_cons_succ, Nat.zero_add, Nat.add_zero, Nat.zero_mul, List.drop_succ_cons, List.drop_zero, List.take_succ_cons, List.take_zero, List.nil_append, List.cons_append, Nat.reduceAdd, List.drop_nil, List.take_nil]
    refine br_split (fun hlt => ?_) (fun hlt => ?_)
    · simp at hlt
      obtain ⟨b2, off, hix, hc2⟩ := ints_at h (i := k) (by omega) (by omega)
      simp only [hix, SSd, List.getElem?_toArray, List.getElem?_cons_zero, List.getElem?_cons_succ, Nat.zero_add, Nat.add_zero, Nat.zero_mul, List.drop_succ_cons, List.drop_zero, List.take_succ_cons, List.take_zero, List.nil_append, List.cons_append, Nat.reduceAdd, List.drop_nil, List.take_nil]
      refine rd1 (hc2 I' L' (Ext.refl _)) ?_
      rw [drop_geti hlt, List.contains_cons] at hd
      try simp only [SSd, List.getElem?_toArray, List.getElem?_cons_zero, List.getElem?_cons_succ, Nat.zero_add, Nat.add_zero, Nat.zero_mul, List.drop_succ_cons, List.drop_zero, List.take_succ_cons, List.take_zero, List.nil_append, List.cons_append, Nat.reduceAdd, List.drop_nil, List.take_nil]
      refine br_split (fun he => ?_) (fun he => ?_)
      · simp at he
        exact Gh.done (hk k (by rw [← hd]; simp [he]))
      · simp only [SSd, List.getElem?_toArray, List.getElem?_cons_zero, List.getElem?_cons_succ, Nat.zero_add, Nat.add_zero, Nat.zero_mul, List.drop_succ_cons, List.drop_zero, List.take_succ_cons, List.take_zero, List.nil_append, List.cons_append, Nat.reduceAdd, List.drop_nil, List.take_nil, wrap_i64 ((k : Int) + 1) (by omega)]
        refine Gh.done ⟨m - 1, by omega, rfl, rfl, k + 1, by omega, by simp, ?_⟩
        rw [← hd]
        simp at he
        simp [he]
    · simp at hlt
      rw [List.drop_of_length_le (by omega)] at hd
      exact Gh.done (hk (-1) (by rw [← hd]; simp))
  refine cal88 ?_
  unfold sh88
  refine call (idx (fun z hz => ?_))
  try simp only [SSd, List.getElem?_toArray, List.getElem?_cons_zero, List.getElem?_cons_succ, Nat.zero_add, Nat.add_zero, Nat.zero_mul, List.drop_succ_cons, List.drop_zero, List.take_succ_cons, List.take_zero, List.nil_append, List.cons_append, Nat.reduceAdd, List.drop_nil, List.take_nil]
  refine Gh.done (leafB hk ?_)
  rw [Bool.eq_iff_iff, ← hz]; simp

theorem cloneB_spec {v : Value} {l : List UInt8} (h : Bytes I v l) (hl : l.length ≤ 150000000000000) (hk : ∀ v' I', Ext I I' → Bytes I' v' l → K v' I' L) : Cal Try.prog ω 101 #[v] K I L := by
  refine cal101 ?_
  unfold sh101
  obtain ⟨a, cap, rfl⟩ := Bytes.form h
  cases a with
  | none =>
    try simp only [SSd, List.getElem?_toArray, List.getElem?_cons_zero, List.getElem?_cons_succ, Nat.zero_add, Nat.add_zero, Nat.zero_mul, List.drop_succ_cons, List.drop_zero, List.take_succ_cons, List.take_zero, List.nil_append, List.cons_append, Nat.reduceAdd, List.drop_nil, List.take_nil]
    have hl0 : l.length = 0 := by
      obtain ⟨_, a, c, e, _, h⟩ := h
      cases e
      by_cases h0 : l.length = 0
      · exact h0
      · obtain ⟨b, off, cs, T, fr, e, _⟩ := h h0; cases e
    have : l = [] := List.eq_nil_of_length_eq_zero hl0
    subst this
    exact Gh.done (hk _ I (Ext.refl I) (SlI.nil I 1 none 0))
  | some a =>
    try simp only [SSd, List.getElem?_toArray, List.getElem?_cons_zero, List.getElem?_cons_succ, Nat.zero_add, Nat.add_zero, Nat.zero_mul, List.drop_succ_cons, List.drop_zero, List.take_succ_cons, List.take_zero, List.nil_append, List.cons_append, Nat.reduceAdd, List.drop_nil, List.take_nil]
    refine bld_zero (fun X u hX => ?_)
    refine app_own rfl hX (SlI.news h) (u8s_one _) (by omega) (by omega) (fun X' v' hX' => ?_)
    refine SlO.freeze hX' (fun I' hI hS => Gh.done (hk _ I' hI ?_))
    simpa [Bytes] using hS

theorem RaftR.nodes {E B : Nat} {r : RF} (h : RWF E B r) : memB (mems r) = true := h.wf.mems

/-- how a node is read while its blocks lie among 'L' -/
theorem RaftR.start {b : Nat} {X : LH} {r : RF} (h : RaftR I b X r) : ∃ lb XL XO stv ov z0 z1 z2 oc, X = (b, Obj.cells (rcells r z0 z1 z2 (.pointer (some ⟨lb, 0, none⟩)) stv ov).toArray 131 (0, 0)) :: (XL ++ XO) ∧
    LogR I lb XL r.g ∧ Bytes I stv r.st ∧ SlO 77 12 XO ov oc r.out.length ∧ Recs (MsgV I) 12 r.out oc := h

theorem sendTo_spec {b E B : Nat} {X F : LH} {r : RF} {p : Int} (h : RaftR I b X r) (hw : RWF E B r) (hp : 1 ≤ p ∧ p ≤ 5) (hl : r.out.length ≤ 1000)
    (hk : ∀ X' I', Ext I I' → RaftR I' b X' (sendToF r p) → K (.tuple #[]) I' (X' ++ F)) : Cal Try.prog ω 111 #[.pointer (some ⟨b, 0, none⟩), .int .i64 p] K I (X ++ F) := by
  obtain ⟨lb, XL, XO, stv, ov, z0, z1, z2, oc, rfl, h1, h2, h3, h4⟩ := h
  have hnx := hw.nxb p
  have hlast := hw.wf.last
  have hidx := hw.wf.idx
  simp [countB] at hidx
  refine cal111 ?_
  unfold sh111
  simp only [List.cons_append, List.append_assoc, ixPV_at _ (show 0 ≤ p by omega) (show p < ((6 : Nat) : Int) by omega), SSd, List.getElem?_toArray, List.getElem?_cons_zero, List.getElem?_cons_succ, Nat.zero_add, Nat.add_zero, Nat.zero_mul, List.drop_succ_cons, List.drop_zero, List.take_succ_cons, List.take_zero, List.nil_append, List.cons_append, Nat.reduceAdd, List.drop_nil, List.take_nil]
  refine rdL (rc_nx hp) ?_
  simp only [SSd, List.getElem?_toArray, List.getElem?_cons_zero, List.getElem?_cons_succ, Nat.zero_add, Nat.add_zero, Nat.zero_mul, List.drop_succ_cons, List.drop_zero, List.take_succ_cons, List.take_zero, List.nil_append, List.cons_append, Nat.reduceAdd, List.drop_nil, List.take_nil, wrap_i64 (r.nx p - 1) (by omega)]
  refine rdb ?_
  refine call (start_spec h1.view hw.wf (fun mv I1 hI1 hm => ?_))
  obtain ⟨am, pm, rfl⟩ := Ints.form hm
  refine newI (fun b2 => ?_)
  refine stB rfl rfl (one_all rfl) ?_
  try simp only [SSd, List.getElem?_toArray, List.getElem?_cons_zero, List.getElem?_cons_succ, Nat.zero_add, Nat.add_zero, Nat.zero_mul, List.drop_succ_cons, List.drop_zero, List.take_succ_cons, List.take_zero, List.nil_append, List.cons_append, Nat.reduceAdd, List.drop_nil, List.take_nil]
  refine rdb ?_
  try simp only [SSd, List.getElem?_toArray, List.getElem?_cons_zero, List.getElem?_cons_succ, Nat.zero_add, Nat.add_zero, Nat.zero_mul, List.drop_succ_cons, List.drop_zero, List.take_succ_cons, List.take_zero, List.nil_append, List.cons_append, Nat.reduceAdd, List.drop_nil, List.take_nil]
  have h1' := h1.mono hI1
  have h2' := h2.mono hI1
  have h4' := h4.imp fun _ _ h => h.mono hI1
  refine br_split (fun hlt => ?_) (fun hlt => ?_)
  · simp at hlt
    repeat' (first | (with_reducible refine drawC ?_) | (with_reducible refine drawW1 ?_) | (with_reducible refine drawW2 ?_) | (with_reducible refine keepC (by repeat (first | exact Ext.refl _ | assumption | refine Ext.trans ?_ (by assumption))) ?_) | (with_reducible refine newI (fun _ => ?_)) | ((with_reducible refine call ?_); refine (cloneB_spec h2' (by have := hw.stl; omega) (fun v I2 hI2 hv => ?_))) | first | (with_reducible refine rdb ?_) | ((with_reducible refine st1 ?_ ?_); rfl) | ((with_reducible refine rdB ?_ ?_); rfl) | (with_reducible refine rdbS ?_) | ((with_reducible refine rdBS ?_ ?_); rfl) | ((with_reducible refine stB ?_ ?_ ?_ ?_); rfl; rfl; exact one_all rfl) | ((with_reducible refine rdP _ rfl ?_ ?_); rfl) | ((with_reducible refine rdPS _ rfl ?_ ?_); rfl) | ((with_reducible refine stP _ rfl ?_ ?_ ?_ ?_); rfl; rfl; rfl) | (with_reducible refine And.intro ?_ ?_) | (simp only [Bool.not_true, Bool.not_false, Bool.and_self, Bool.true_and, Int.reduceBEq, Int.reduceBNe, Int.reduceLT, Int.reduceLE, decide_true, decide_false, Br_true, Br_false, Gd_tt, Gd_ft, Gd_tf, Gd_ff, beq_self_eq_true, bne_self_eq_false]) | (with_reducible refine gd_split (fun _ => ?_) (fun _ => ?_)) | (with_reducible refine br_split (fun _ => ?_) (fun _ => ?_)) | (simp only [SSd, List.getElem?_toArray, List.getElem?_cons_zero, List.getElem?_cons_succ, Nat.zero_add, Nat.add_zero, Nat.zero_mul, List.drop_succ_cons, List.drop_zero, List.take_succ_cons, List.take_zero, List.nil_append, List.cons_append, Nat.reduceAdd, List.drop_nil, List.take_nil]))
    obtain ⟨av, pv, rfl⟩ := Bytes.form hv
    repeat' (first | (with_reducible refine drawC ?_) | (with_reducible refine drawW1 ?_) | (with_reducible refine drawW2 ?_) | (with_reducible refine keepC (by repeat (first | exact Ext.refl _ | assumption | refine Ext.trans ?_ (by assumption))) ?_) | (with_reducible refine newI (fun _ => ?_)) | first | (with_reducible refine rdb ?_) | ((with_reducible refine st1 ?_ ?_); rfl) | ((with_reducible refine rdB ?_ ?_); rfl) | (with_reducible refine rdbS ?_) | ((with_reducible refine rdBS ?_ ?_); rfl) | ((with_reducible refine stB ?_ ?_ ?_ ?_); rfl; rfl; exact one_all rfl) | ((with_reducible refine rdP _ rfl ?_ ?_); rfl) | ((with_reducible refine rdPS _ rfl ?_ ?_); rfl) | ((with_reducible refine stP _ rfl ?_ ?_ ?_ ?_); rfl; rfl; rfl) | (with_reducible refine And.intro ?_ ?_) | (simp only [Bool.not_true, Bool.not_false, Bool.and_self, Bool.true_and, Int.reduceBEq, Int.reduceBNe, Int.reduceLT, Int.reduceLE, decide_true, decide_false, Br_true, Br_false, Gd_tt, Gd_ft, Gd_tf, Gd_ff, beq_self_eq_true, bne_self_eq_false]) | (with_reducible refine gd_split (fun _ => ?_) (fun _ => ?_)) | (with_reducible refine br_split (fun _ => ?_) (fun _ => ?_)) | (simp only [SSd, List.getElem?_toArray, List.getElem?_cons_zero, List.getElem?_cons_succ, Nat.zero_add, Nat.add_zero, Nat.zero_mul, List.drop_succ_cons, List.drop_zero, List.take_succ_cons, List.take_zero, List.nil_append, List.cons_append, Nat.reduceAdd, List.drop_nil, List.take_nil]))
    refine call (raft_cal (r := r) b F z0 z1 z2 (h1'.mono hI2) (h2'.mono hI2) h3 (h4'.imp fun _ _ h => h.mono hI2) rfl (fun X hX => ?_))
    refine send_spec (m := snapM r p) hX ⟨_, _, _, rfl, RL.nil _ _, hm.mono hI2, hv⟩ hl (fun X' hX' => ?_)
    refine Gh.done (hk X' I2 (hI1.trans hI2) ?_)
    rw [sendToF, if_pos hlt]; exact hX'
  · simp at hlt
    repeat' (first | (with_reducible refine drawC ?_) | (with_reducible refine drawW1 ?_) | (with_reducible refine drawW2 ?_) | (with_reducible refine keepC (by repeat (first | exact Ext.refl _ | assumption | refine Ext.trans ?_ (by assumption))) ?_) | (with_reducible refine newI (fun _ => ?_)) | ((with_reducible refine call ?_); refine (term_spec h1'.view hw.wf (by unfold inI64; omega) ?_)) | ((with_reducible refine call ?_); refine (commit_spec h1'.view ?_)) | first | (with_reducible refine rdb ?_) | ((with_reducible refine st1 ?_ ?_); rfl) | ((with_reducible refine rdB ?_ ?_); rfl) | (with_reducible refine rdbS ?_) | ((with_reducible refine rdBS ?_ ?_); rfl) | ((with_reducible refine stB ?_ ?_ ?_ ?_); rfl; rfl; exact one_all rfl) | ((with_reducible refine rdP _ rfl ?_ ?_); rfl) | ((with_reducible refine rdPS _ rfl ?_ ?_); rfl) | ((with_reducible refine stP _ rfl ?_ ?_ ?_ ?_); rfl; rfl; rfl) | (with_reducible refine And.intro ?_ ?_) | (simp only [Bool.not_true, Bool.not_false, Bool.and_self, Bool.true_and, Int.reduceBEq, Int.reduceBNe, Int.reduceLT, Int.reduceLE, decide_true, decide_false, Br_true, Br_false, Gd_tt, Gd_ft, Gd_tf, Gd_ff, beq_self_eq_true, bne_self_eq_false]) | (with_reducible refine gd_split (fun _ => ?_) (fun _ => ?_)) | (with_reducible refine br_split (fun _ => ?_) (fun _ => ?_)) | (simp only [SSd, List.getElem?_toArray, List.getElem?_cons_zero, List.getElem?_cons_succ, Nat.zero_add, Nat.add_zero, Nat.zero_mul, List.drop_succ_cons, List.drop_zero, List.take_succ_cons, List.take_zero, List.nil_append, List.cons_append, Nat.reduceAdd, List.drop_nil, List.take_nil]))
    refine call (slice_spec h1'.view hw.wf (by unfold inI64; rw [wrap_i64 _ (by omega)]; omega) (by unfold inI64; omega) (fun v I2 hI2 hv => ?_))
    obtain ⟨av, pv, rfl⟩ := RL.form hv
    repeat' (first | (with_reducible refine drawC ?_) | (with_reducible refine drawW1 ?_) | (with_reducible refine drawW2 ?_) | (with_reducible refine keepC (by repeat (first | exact Ext.refl _ | assumption | refine Ext.trans ?_ (by assumption))) ?_) | (with_reducible refine newI (fun _ => ?_)) | first | (with_reducible refine rdb ?_) | ((with_reducible refine st1 ?_ ?_); rfl) | ((with_reducible refine rdB ?_ ?_); rfl) | (with_reducible refine rdbS ?_) | ((with_reducible refine rdBS ?_ ?_); rfl) | ((with_reducible refine stB ?_ ?_ ?_ ?_); rfl; rfl; exact one_all rfl) | ((with_reducible refine rdP _ rfl ?_ ?_); rfl) | ((with_reducible refine rdPS _ rfl ?_ ?_); rfl) | ((with_reducible refine stP _ rfl ?_ ?_ ?_ ?_); rfl; rfl; rfl) | (with_reducible refine And.intro ?_ ?_) | (simp only [Bool.not_true, Bool.not_false, Bool.and_self, Bool.true_and, Int.reduceBEq, Int.reduceBNe, Int.reduceLT, Int.reduceLE, decide_true, decide_false, Br_true, Br_false, Gd_tt, Gd_ft, Gd_tf, Gd_ff, beq_self_eq_true, bne_self_eq_false]) | (with_reducible refine gd_split (fun _ => ?_) (fun _ => ?_)) | (with_reducible refine br_split (fun _ => ?_) (fun _ => ?_)) | (simp only [SSd, List.getElem?_toArray, List.getElem?_cons_zero, List.getElem?_cons_succ, Nat.zero_add, Nat.add_zero, Nat.zero_mul, List.drop_succ_cons, List.drop_zero, List.take_succ_cons, List.take_zero, List.nil_append, List.cons_append, Nat.reduceAdd, List.drop_nil, List.take_nil, wrap_i64 (r.nx p - 1 + 1) (by omega)]))
    refine call (raft_cal (r := r) b F z0 z1 z2 (h1'.mono hI2) (h2'.mono hI2) h3 (h4'.imp fun _ _ h => h.mono hI2) rfl (fun X hX => ?_))
    refine send_spec (m := appM r p) hX ⟨_, _, _, rfl, ?_, SlI.nil _ _ _ _, SlI.nil _ _ _ _⟩ hl (fun X' hX' => ?_)
    · rw [wrap_i64 (r.nx p - 1 + 1) (by omega)] at hv; exact hv
    refine Gh.done (hk X' I2 (hI1.trans hI2) ?_)
    rw [sendToF, if_neg (by omega)]; exact hX'
end
end Go.Proofs.Ytdcpeboecmkmlaa

namespace Go.Proofs.Ytdcpeboecmkmlaa
open Go.SL
set_option maxRecDepth 10000

theorem RWF.send {E B : Nat} {r : RF} (h : RWF E B r) (m : RM) : RWF E B (sendF r m) := ⟨h.wf, h.len, h.grp, h.idn, h.trm, h.vot, h.lst, h.stl, h.ela, h.nxb, h.mtb⟩
theorem RWF.sendTo {E B : Nat} {r : RF} (h : RWF E B r) (p : Int) : RWF E B (sendToF r p) := h.send _
theorem RWF.take {E B : Nat} {r : RF} (h : RWF E B r) : RWF E B (takeF r) := ⟨h.wf, h.len, h.grp, h.idn, h.trm, h.vot, h.lst, h.stl, h.ela, h.nxb, h.mtb⟩
theorem each_cons (r : RF) (p : Int) (l : List Int) : eachF r (p :: l) = eachF (if p = r.id then r else sendToF r p) l := rfl
/-- what sending to all leaves as it is -/
theorem each_same : ∀ (l : List Int) (r : RF), (eachF r l).out.length ≤ r.out.length + l.length ∧ { eachF r l with out := [] } = { r with out := [] }
  | [], r => ⟨by simp [eachF], rfl⟩
  | p :: l, r => by
    rw [each_cons]
    split
    · have := each_same l r; exact ⟨by simp only [List.length_cons]; omega, this.2⟩
    · have := each_same l (sendToF r p)
      refine ⟨by simp only [List.length_cons, sendToF, sendF, List.length_append, List.length_nil] at this ⊢; omega, this.2.trans rfl⟩
theorem each_snoc (r : RF) (l : List Int) (p : Int) : eachF r (l ++ [p]) = if p = (eachF r l).id then eachF r l else sendToF (eachF r l) p := by
  unfold eachF; rw [List.foldl_append]; rfl
theorem RF.ext_out {r r' : RF} (h : { r with out := [] } = { r' with out := [] }) : r.g = r'.g ∧ r.id = r'.id ∧ r.role = r'.role ∧ r.term = r'.term ∧ r.vote = r'.vote ∧ r.st = r'.st ∧ r.group = r'.group ∧ r.leader = r'.leader ∧ r.elapsed = r'.elapsed ∧ r.vt = r'.vt ∧ r.nx = r'.nx ∧ r.mt = r'.mt := by
  cases r; cases r'; simp_all
theorem RWF.out {E B : Nat} {r r' : RF} (h : RWF E B r) (e : { r' with out := [] } = { r with out := [] }) : RWF E B r' := by
  obtain ⟨e1, e2, e3, e4, e5, e6, e7, e8, e9, e10, e11, e12⟩ := RF.ext_out e
  exact ⟨by rw [e1]; exact h.wf, by rw [e1]; exact h.len, by rw [e7]; exact h.grp, by rw [e2]; exact h.idn, by rw [e4]; exact h.trm, by rw [e5]; exact h.vot, by rw [e1, e4]; exact h.lst, by rw [e6]; exact h.stl, by rw [e9]; exact h.ela, by rw [e11]; exact h.nxb, by rw [e12]; exact h.mtb⟩
theorem RWF.each {E B : Nat} {r : RF} (h : RWF E B r) (l : List Int) : RWF E B (eachF r l) := h.out (each_same l r).2
theorem RWF.all {E B : Nat} {r : RF} (h : RWF E B r) : RWF E B (sendAllF r) := by
  unfold sendAllF; split
  · exact h.each _
  · exact h

section
variable {ω : Om} {I : Imm} {L : LH} {K : Value → M}

theorem sendAll_spec {b E B : Nat} {X F : LH} {r : RF} (h : RaftR I b X r) (hw : RWF E B r) (hl : r.out.length ≤ 900)
    (hk : ∀ X' I', Ext I I' → RaftR I' b X' (sendAllF r) → K (.tuple #[]) I' (X' ++ F)) : Cal Try.prog ω 86 #[.pointer (some ⟨b, 0, none⟩)] K I (X ++ F) := by
  have hX := h
  obtain ⟨lb, XL, XO, stv, ov, z0, z1, z2, oc, rfl, h1, h2, h3, h4⟩ := h
  have hmm := memB_mem hw.wf.mems
  have hml := memB_len hw.wf.mems
  refine cal86 ?_
  unfold sh86
  simp only [List.cons_append, List.append_assoc, SSd, List.getElem?_toArray, List.getElem?_cons_zero, List.getElem?_cons_succ, Nat.zero_add, Nat.add_zero, Nat.zero_mul, List.drop_succ_cons, List.drop_zero, List.take_succ_cons, List.take_zero, List.nil_append, List.cons_append, Nat.reduceAdd, List.drop_nil, List.take_nil]
  refine rdb ?_
  try simp only [SSd, List.getElem?_toArray, List.getElem?_cons_zero, List.getElem?_cons_succ, Nat.zero_add, Nat.add_zero, Nat.zero_mul, List.drop_succ_cons, List.drop_zero, List.take_succ_cons, List.take_zero, List.nil_append, List.cons_append, Nat.reduceAdd, List.drop_nil, List.take_nil]
  refine br_split (fun hr => ?_) (fun hr => ?_)
  · simp at hr
    rw [sendAllF, if_neg hr] at hk
    exact raft_end (F := F) z0 z1 z2 (fun X' h' => hk X' I (Ext.refl I) h') h1 h2 h3 h4 rfl
  simp at hr
  rw [sendAllF, if_pos hr] at hk
  refine rdb ?_
  refine call (lmembers_spec h1.view hw.wf (fun v I1 hI1 hv => ?_))
  unfold mems at hk
  generalize memOf r.g.mem r.g.es = l at *
  have hln := Ints.len hv
  simp only [hln, SSd, List.getElem?_toArray, List.getElem?_cons_zero, List.getElem?_cons_succ, Nat.zero_add, Nat.add_zero, Nat.zero_mul, List.drop_succ_cons, List.drop_zero, List.take_succ_cons, List.take_zero, List.nil_append, List.cons_append, Nat.reduceAdd, List.drop_nil, List.take_nil]
  refine loop (fun m s I' L' => Ext I1 I' ∧ ∃ (k : Nat) (X' : LH), k + m = l.length ∧ s = (.int .i64 k, ()) ∧ RaftR I' b X' (eachF r (l.take k)) ∧ L' = X' ++ F) l.length ⟨Ext.refl _, 0, _, by omega, rfl, hX.mono hI1, by simp only [List.cons_append, List.append_assoc]⟩ ?_
  clear h1 h2 h3 h4 hX
  rintro m s I' L' ⟨hI, k, X', hkm, rfl, hR, rfl⟩
  unfold sh86_2
  try simp only [SSd, List.getElem?_toArray, List.getElem?_cons_zero, List.getElem?_cons_succ, Nat.zero_add, Nat.add_zero, Nat.zero_mul, List.drop_succ_cons, List.drop_zero, List.take_succ_cons, List.take_zero, List.nil_append, List.cons_append, Nat.reduceAdd, List.drop_nil, List.take_nil]
  refine br_split (fun hlt => ?_) (fun hlt => ?_)
  · simp at hlt
    obtain ⟨b2, off, hix, hc2⟩ := ints_at hv (i := k) (by omega) (by omega)
    simp only [hix, SSd, List.getElem?_toArray, List.getElem?_cons_zero, List.getElem?_cons_succ, Nat.zero_add, Nat.add_zero, Nat.zero_mul, List.drop_succ_cons, List.drop_zero, List.take_succ_cons, List.take_zero, List.nil_append, List.cons_append, Nat.reduceAdd, List.drop_nil, List.take_nil]
    refine rd1 (hc2 I' _ hI) ?_
    obtain ⟨lb, XL, XO, stv, ov, z0, z1, z2, oc, rfl, h1, h2, h3, h4⟩ := hR
    simp only [List.cons_append, List.append_assoc, SSd, List.getElem?_toArray, List.getElem?_cons_zero, List.getElem?_cons_succ, Nat.zero_add, Nat.add_zero, Nat.zero_mul, List.drop_succ_cons, List.drop_zero, List.take_succ_cons, List.take_zero, List.nil_append, List.cons_append, Nat.reduceAdd, List.drop_nil, List.take_nil]
    refine rdb ?_
    have hs := each_same (l.take k) r
    have ht := take_geti hlt
    have hid := (RF.ext_out hs.2).2.1
    have hp := hmm (geti l (k : Int)) (by rw [geti_nat hlt]; exact List.getElem_mem hlt)
    have hn := each_snoc r (l.take k) (geti l (k : Int))
    rw [← ht] at hn
    try simp only [SSd, List.getElem?_toArray, List.getElem?_cons_zero, List.getElem?_cons_succ, Nat.zero_add, Nat.add_zero, Nat.zero_mul, List.drop_succ_cons, List.drop_zero, List.take_succ_cons, List.take_zero, List.nil_append, List.cons_append, Nat.reduceAdd, List.drop_nil, List.take_nil]
    refine br_split (fun hq => ?_) (fun hq => ?_)
    · simp at hq
      rw [if_neg hq] at hn
      refine call (raft_cal (r := eachF r (l.take k)) b F z0 z1 z2 h1 h2 h3 h4 rfl (fun X hX => ?_))
      refine sendTo_spec hX (hw.each _) hp (by rw [List.length_take] at hs; omega) (fun X' I2 hI2 hX' => ?_)
      unfold sh86_3
      simp only [SSd, List.getElem?_toArray, List.getElem?_cons_zero, List.getElem?_cons_succ, Nat.zero_add, Nat.add_zero, Nat.zero_mul, List.drop_succ_cons, List.drop_zero, List.take_succ_cons, List.take_zero, List.nil_append, List.cons_append, Nat.reduceAdd, List.drop_nil, List.take_nil, wrap_i64 ((k : Int) + 1) (by omega)]
      exact Gh.done ⟨m - 1, by omega, hI.trans hI2, k + 1, X', by omega, by simp, by rw [hn]; exact hX', rfl⟩
    · simp at hq
      rw [if_pos hq] at hn
      unfold sh86_3
      simp only [SSd, List.getElem?_toArray, List.getElem?_cons_zero, List.getElem?_cons_succ, Nat.zero_add, Nat.add_zero, Nat.zero_mul, List.drop_succ_cons, List.drop_zero, List.take_succ_cons, List.take_zero, List.nil_append, List.cons_append, Nat.reduceAdd, List.drop_nil, List.take_nil, wrap_i64 ((k : Int) + 1) (by omega)]
      refine Gh.done ⟨m - 1, by omega, hI, k + 1, (b, Obj.cells (rcells (eachF r (l.take k)) z0 z1 z2 (.pointer (some ⟨lb, 0, none⟩)) stv ov).toArray 131 (0, 0)) :: (XL ++ XO), by omega, by simp, ?_, ?_⟩
      · rw [hn]; exact ⟨lb, XL, XO, stv, ov, z0, z1, z2, oc, rfl, h1, h2, h3, h4⟩
      · simp only [List.cons_append, List.append_assoc]
  · simp at hlt
    rw [List.take_of_length_le (by omega)] at hR
    exact Gh.done (hk X' I' (hI1.trans hI) hR)

theorem calV_commit (x y z : Value) : CalV Try.prog ω (.func (Fn.func 131) #[] #[x, y]) #[z] K = Cal Try.prog ω 131 #[z, x, y] K := by
  show (if entersB Try.prog 131 = true then Cal Try.prog ω 131 (#[] ++ #[z] ++ #[x, y]) K else F) = _
  rw [if_pos (show entersB Try.prog 131 = true by kernel_rfl)]
  rfl
theorem calV_elected (x z : Value) : CalV Try.prog ω (.func (Fn.func 122) #[] #[x]) #[z] K = Cal Try.prog ω 122 #[z, x] K := by
  show (if entersB Try.prog 122 = true then Cal Try.prog ω 122 (#[] ++ #[z] ++ #[x]) K else F) = _
  rw [if_pos (show entersB Try.prog 122 = true by kernel_rfl)]
  rfl

theorem bestG_le (q : Int → Bool) (c : Int) : ∀ k : Nat, bestG q c k = 0 ∨ (c < bestG q c k ∧ bestG q c k ≤ c + k ∧ q (bestG q c k) = true)
  | 0 => .inl rfl
  | k + 1 => by
    rw [bestG]
    split
    · rename_i h; exact .inr ⟨by omega, by omega, h⟩
    · rcases bestG_le q c k with h | ⟨h1, h2, h3⟩
      · exact .inl h
      · exact .inr ⟨h1, by omega, h3⟩

/-- the node behind the search -/
def comF (r : RF) (b : Int) : RF := outF (if 0 < b then settleF (matF r) b else matF r)
theorem commitF_eq (r : RF) : commitF r = (decide (0 < bestF (matF r)), comF r (bestF (matF r))) := rfl
theorem RWF.mat {E B : Nat} {r : RF} (h : RWF E B r) : RWF E B (matF r) := by
  have hl := h.wf.last
  have hi := h.wf.idx
  simp [countB] at hi
  refine ⟨h.wf, h.len, h.grp, h.idn, h.trm, h.vot, h.lst, h.stl, h.ela, h.nxb, fun p => ?_⟩
  simp only [matF, updI]
  split
  · unfold lastI at *; omega
  · exact h.mtb p
theorem settle_lastT (g : LG) (n : Int) : lastT (settleG g n).2 = lastT g := by unfold settleG; split <;> rfl
theorem settle_lastI (g : LG) (n : Int) : lastI (settleG g n).2 = lastI g := by unfold settleG; split <;> rfl
theorem settle_es (g : LG) (n : Int) : (settleG g n).2.es = g.es ∧ (settleG g n).2.mem = g.mem ∧ (settleG g n).2.index = g.index ∧ (settleG g n).2.term = g.term := by unfold settleG; split <;> exact ⟨rfl, rfl, rfl, rfl⟩
theorem RWF.settle {E B : Nat} {r : RF} (h : RWF E B r) (n : Int) : RWF E B (settleF r n) :=
  ⟨settle_wf h.wf, by simp only [settleF, settle_es]; exact h.len, h.grp, h.idn, h.trm, h.vot, by simp only [settleF, settle_lastT]; exact h.lst, h.stl, h.ela, h.nxb, h.mtb⟩
theorem RWF.quit {E B : Nat} {r : RF} (h : RWF E B r) : RWF E B (outF r) := by
  unfold outF; split
  · exact ⟨h.wf, h.len, h.grp, h.idn, h.trm, h.vot, h.lst, h.stl, h.ela, h.nxb, h.mtb⟩
  · exact h
theorem RWF.commit {E B : Nat} {r : RF} (h : RWF E B r) : RWF E B (commitF r).2 := by
  rw [commitF_eq, comF]
  refine RWF.quit ?_
  split
  · exact h.mat.settle _
  · exact h.mat
theorem commit_out (r : RF) : (commitF r).2.out = r.out := by
  simp only [commitF_eq, comF, outF]
  split <;> split <;> rfl

/-- the last lines of 'commit' -/
theorem commit1_spec {b r1 nb lb : Nat} {XL XO F : LH} {r : RF} {stv ov nv : Value} {z0 done : Bool} {z1 z2 : Int} {oc : List Value} {I0 : Imm} (hI0 : Ext I0 I) (hw : WF r.g)
    (h1 : LogR I lb XL r.g) (h2 : Bytes I stv r.st) (h3 : SlO 77 12 XO ov oc r.out.length) (h4 : Recs (MsgV I) 12 r.out oc)
    (hk : ∀ X' I', Ext I0 I' → RaftR I' b X' (outF r) → K (.bool done) I' (X' ++ F)) :
    sh123_1 ω (.pointer (some ⟨r1, 0, none⟩)) (.bool false) (.bool done) (fun v => Gh (K v)) I
      ((nb, Obj.cells #[nv] 3 (0, 0)) :: (r1, Obj.cells #[.pointer (some ⟨b, 0, none⟩)] 72 (0, 0)) :: (b, Obj.cells (rcells r z0 z1 z2 (.pointer (some ⟨lb, 0, none⟩)) stv ov).toArray 131 (0, 0)) :: (XL ++ (XO ++ F))) := by
  unfold sh123_1
  repeat' (first | (with_reducible refine drawC ?_) | (with_reducible refine drawW1 ?_) | (with_reducible refine drawW2 ?_) | (with_reducible refine keepC (by repeat (first | exact Ext.refl _ | assumption | refine Ext.trans ?_ (by assumption))) ?_) | (with_reducible refine newI (fun _ => ?_)) | ((with_reducible refine call ?_); refine (changing_spec h1.view hw ?_)) | first | (with_reducible refine rdb ?_) | ((with_reducible refine st1 ?_ ?_); rfl) | ((with_reducible refine rdB ?_ ?_); rfl) | (with_reducible refine rdbS ?_) | ((with_reducible refine rdBS ?_ ?_); rfl) | ((with_reducible refine stB ?_ ?_ ?_ ?_); rfl; rfl; exact one_all rfl) | ((with_reducible refine rdP _ rfl ?_ ?_); rfl) | ((with_reducible refine rdPS _ rfl ?_ ?_); rfl) | ((with_reducible refine stP _ rfl ?_ ?_ ?_ ?_); rfl; rfl; rfl) | (with_reducible refine And.intro ?_ ?_) | (simp only [Bool.not_true, Bool.not_false, Bool.and_self, Bool.true_and, Int.reduceBEq, Int.reduceBNe, Int.reduceLT, Int.reduceLE, decide_true, decide_false, Br_true, Br_false, Gd_tt, Gd_ft, Gd_tf, Gd_ff, beq_self_eq_true, bne_self_eq_false]) | (with_reducible refine gd_split (fun _ => ?_) (fun _ => ?_)) | (with_reducible refine br_split (fun _ => ?_) (fun _ => ?_)) | (simp only [SSd, List.getElem?_toArray, List.getElem?_cons_zero, List.getElem?_cons_succ, Nat.zero_add, Nat.add_zero, Nat.zero_mul, List.drop_succ_cons, List.drop_zero, List.take_succ_cons, List.take_zero, List.nil_append, List.cons_append, Nat.reduceAdd, List.drop_nil, List.take_nil]))
  · refine call (lmembers_spec h1.view hw (fun v I1 hI1 hv => ?_))
    refine keepC hI1 ?_
    try simp only [SSd, List.getElem?_toArray, List.getElem?_cons_zero, List.getElem?_cons_succ, Nat.zero_add, Nat.add_zero, Nat.zero_mul, List.drop_succ_cons, List.drop_zero, List.take_succ_cons, List.take_zero, List.nil_append, List.cons_append, Nat.reduceAdd, List.drop_nil, List.take_nil]
    refine rdbS ?_
    try simp only [SSd, List.getElem?_toArray, List.getElem?_cons_zero, List.getElem?_cons_succ, Nat.zero_add, Nat.add_zero, Nat.zero_mul, List.drop_succ_cons, List.drop_zero, List.take_succ_cons, List.take_zero, List.nil_append, List.cons_append, Nat.reduceAdd, List.drop_nil, List.take_nil]
    refine rdbS ?_
    refine call (contains_spec hv (by have := memB_len hw.mems; omega) ?_)
    try simp only [SSd, List.getElem?_toArray, List.getElem?_cons_zero, List.getElem?_cons_succ, Nat.zero_add, Nat.add_zero, Nat.zero_mul, List.drop_succ_cons, List.drop_zero, List.take_succ_cons, List.take_zero, List.nil_append, List.cons_append, Nat.reduceAdd, List.drop_nil, List.take_nil]
    have h1' := h1.mono hI1
    have h2' := h2.mono hI1
    have h4' := h4.imp fun _ _ h => h.mono hI1
    refine br_split (fun hc => ?_) (fun hc => ?_)
    · have e : outF r = { r with role := 1, leader := 0 } := by
        rw [outF, if_pos]; unfold mems; simp_all
      rw [e] at hk
      unfold sh123_3
      refine drawD b ?_
      repeat' (first | (with_reducible refine drawC ?_) | (with_reducible refine drawW1 ?_) | (with_reducible refine drawW2 ?_) | (with_reducible refine keepC (by repeat (first | exact Ext.refl _ | assumption | refine Ext.trans ?_ (by assumption))) ?_) | (with_reducible refine newI (fun _ => ?_)) | first | (with_reducible refine rdb ?_) | ((with_reducible refine st1 ?_ ?_); rfl) | ((with_reducible refine rdB ?_ ?_); rfl) | (with_reducible refine rdbS ?_) | ((with_reducible refine rdBS ?_ ?_); rfl) | ((with_reducible refine stB ?_ ?_ ?_ ?_); rfl; rfl; exact one_all rfl) | ((with_reducible refine rdP _ rfl ?_ ?_); rfl) | ((with_reducible refine rdPS _ rfl ?_ ?_); rfl) | ((with_reducible refine stP _ rfl ?_ ?_ ?_ ?_); rfl; rfl; rfl) | (with_reducible refine And.intro ?_ ?_) | (simp only [Bool.not_true, Bool.not_false, Bool.and_self, Bool.true_and, Int.reduceBEq, Int.reduceBNe, Int.reduceLT, Int.reduceLE, decide_true, decide_false, Br_true, Br_false, Gd_tt, Gd_ft, Gd_tf, Gd_ff, beq_self_eq_true, bne_self_eq_false]) | (with_reducible refine gd_split (fun _ => ?_) (fun _ => ?_)) | (with_reducible refine br_split (fun _ => ?_) (fun _ => ?_)) | (simp only [SSd, List.getElem?_toArray, List.getElem?_cons_zero, List.getElem?_cons_succ, Nat.zero_add, Nat.add_zero, Nat.zero_mul, List.drop_succ_cons, List.drop_zero, List.take_succ_cons, List.take_zero, List.nil_append, List.cons_append, Nat.reduceAdd, List.drop_nil, List.take_nil]))
      exact raft_end (r := { r with role := 1, leader := 0 }) (F := F) z0 z1 z2 (fun X' h' => hk X' I1 (hI0.trans hI1) h') h1' h2' h3 h4' rfl
    · have e : outF r = r := by
        rw [outF, if_neg]; unfold mems; simp_all
      rw [e] at hk
      exact raft_end (r := r) (F := F) z0 z1 z2 (fun X' h' => hk X' I1 (hI0.trans hI1) h') h1' h2' h3 h4' rfl
  · exact Stay.start _ _
  · have e : outF r = r := by
      rw [outF, if_neg]; simp_all
    rw [e] at hk
    exact raft_end (r := r) (F := F) z0 z1 z2 (fun X' h' => hk X' I hI0 h') h1 h2 h3 h4 rfl

theorem Gh.second {A : M} {x y : Nat × Obj} (h : Gh A I (x :: L)) : Gh A I (x :: y :: L) := Gh.drop (.cons_cons _ (List.sublist_cons_self ..)) h
/-- the search for what is to be committed -/
def ComInv (r : RF) (b r1 lb : Nat) (z0 : Bool) (z1 z2 : Int) (stv ov : Value) (XL XO F : LH) (I : Imm) (m : Nat) (s : Value × Value × Unit) : M := fun I' L' => Ext I I' ∧ ∃ (nb : Nat),
      ((s = (.bool false, .pointer (some ⟨nb, 0, none⟩), ()) ∧ r.g.commit + m ≤ lastI r.g ∧ bestG (hasQ (matF r)) r.g.commit m = bestF (matF r) ∧
        L' = (nb, Obj.cells #[.int .i64 (r.g.commit + m)] 3 (0, 0)) :: (r1, Obj.cells #[.pointer (some ⟨b, 0, none⟩)] 72 (0, 0)) :: (b, Obj.cells (rcells (matF r) z0 z1 z2 (.pointer (some ⟨lb, 0, none⟩)) stv ov).toArray 131 (0, 0)) :: (XL ++ (XO ++ F))) ∨
       (∃ XL' n, s = (.bool true, .pointer (some ⟨nb, 0, none⟩), ()) ∧ 0 < bestF (matF r) ∧ LogR I' lb XL' (settleF (matF r) (bestF (matF r))).g ∧ inI64 n ∧ n < bestF (matF r) ∧ bestF (matF r) ≤ lastI r.g ∧
        L' = (nb, Obj.cells #[.int .i64 n] 3 (0, 0)) :: (r1, Obj.cells #[.pointer (some ⟨b, 0, none⟩)] 72 (0, 0)) :: (b, Obj.cells (rcells (matF r) z0 z1 z2 (.pointer (some ⟨lb, 0, none⟩)) stv ov).toArray 131 (0, 0)) :: (XL' ++ (XO ++ F))))

theorem commit_specR {b E B : Nat} {X F : LH} {r : RF} (h : RaftR I b X r) (hw : RWF E B r)
    (hk : ∀ X' I', Ext I I' → RaftR I' b X' (commitF r).2 → K (.bool (commitF r).1) I' (X' ++ F)) : Cal Try.prog ω 123 #[.pointer (some ⟨b, 0, none⟩)] K I (X ++ F) := by
  obtain ⟨lb, XL, XO, stv, ov, z0, z1, z2, oc, rfl, h1, h2, h3, h4⟩ := h
  rw [commitF_eq] at hk
  simp only at hk
  have hlast := hw.wf.last
  have hcom := hw.wf.com
  have hidx := hw.wf.idx
  simp [countB] at hidx
  refine cal123 ?_
  unfold sh123
  simp only [List.cons_append, List.append_assoc]
  refine newI (fun r1 => ?_)
  simp only [cells_ptr, SSd, List.getElem?_toArray, List.getElem?_cons_zero, List.getElem?_cons_succ, Nat.zero_add, Nat.add_zero, Nat.zero_mul, List.drop_succ_cons, List.drop_zero, List.take_succ_cons, List.take_zero, List.nil_append, List.cons_append, Nat.reduceAdd, List.drop_nil, List.take_nil]
  refine rdb ?_
  try simp only [SSd, List.getElem?_toArray, List.getElem?_cons_zero, List.getElem?_cons_succ, Nat.zero_add, Nat.add_zero, Nat.zero_mul, List.drop_succ_cons, List.drop_zero, List.take_succ_cons, List.take_zero, List.nil_append, List.cons_append, Nat.reduceAdd, List.drop_nil, List.take_nil]
  refine rdb ?_
  refine call (last_spec h1.view hw.wf ?_)
  repeat' (first | (with_reducible refine drawC ?_) | (with_reducible refine drawW1 ?_) | (with_reducible refine drawW2 ?_) | (with_reducible refine keepC (by repeat (first | exact Ext.refl _ | assumption | refine Ext.trans ?_ (by assumption))) ?_) | (with_reducible refine newI (fun _ => ?_)) | first | (with_reducible refine rdb ?_) | ((with_reducible refine st1 ?_ ?_); rfl) | ((with_reducible refine rdB ?_ ?_); rfl) | (with_reducible refine rdbS ?_) | ((with_reducible refine rdBS ?_ ?_); rfl) | ((with_reducible refine stB ?_ ?_ ?_ ?_); rfl; rfl; exact one_all rfl) | ((with_reducible refine rdP _ rfl ?_ ?_); rfl) | ((with_reducible refine rdPS _ rfl ?_ ?_); rfl) | ((with_reducible refine stP _ rfl ?_ ?_ ?_ ?_); rfl; rfl; rfl) | (with_reducible refine And.intro ?_ ?_) | (simp only [Bool.not_true, Bool.not_false, Bool.and_self, Bool.true_and, Int.reduceBEq, Int.reduceBNe, Int.reduceLT, Int.reduceLE, decide_true, decide_false, Br_true, Br_false, Gd_tt, Gd_ft, Gd_tf, Gd_ff, beq_self_eq_true, bne_self_eq_false]) | (with_reducible refine gd_split (fun _ => ?_) (fun _ => ?_)) | (with_reducible refine br_split (fun _ => ?_) (fun _ => ?_)) | (simp only [SSd, List.getElem?_toArray, List.getElem?_cons_zero, List.getElem?_cons_succ, Nat.zero_add, Nat.add_zero, Nat.zero_mul, List.drop_succ_cons, List.drop_zero, List.take_succ_cons, List.take_zero, List.nil_append, List.cons_append, Nat.reduceAdd, List.drop_nil, List.take_nil]))
  simp only [ixPV_at _ (show 0 ≤ r.id by have := hw.idn; omega) (show r.id < ((6 : Nat) : Int) by have := hw.idn; omega), SSd, List.getElem?_toArray, List.getElem?_cons_zero, List.getElem?_cons_succ, Nat.zero_add, Nat.add_zero, Nat.zero_mul, List.drop_succ_cons, List.drop_zero, List.take_succ_cons, List.take_zero, List.nil_append, List.cons_append, Nat.reduceAdd, List.drop_nil, List.take_nil]
  refine stL (rc_smt hw.idn) (by rw [rc_len]; have := hw.idn; omega) rfl ?_
  refine newI (fun nb => ?_)
  refine st1 rfl ?_
  have hwm := hw.mat
  have hbl := bestG_le (hasQ (matF r)) (matF r).g.commit (lastI (matF r).g - (matF r).g.commit).toNat
  have hnew : ∀ {Kn : Value × Value × Unit → M} {I' : Imm} {L' : LH} {nb : Nat} {n : Int} {done : Bool}, inI64 (n - 1) →
      (∀ nb', Kn (.bool done, .pointer (some ⟨nb', 0, none⟩), ()) I' ((nb', Obj.cells #[.int .i64 (n - 1)] 3 (0, 0)) :: (nb, Obj.cells #[.int .i64 n] 3 (0, 0)) :: L')) →
      sh123_6 ω (.bool done) (.pointer (some ⟨nb, 0, none⟩)) Kn (fun v => Gh (K v)) I' ((nb, Obj.cells #[.int .i64 n] 3 (0, 0)) :: L') := by
    intro Kn I' L' nb n done hn hk
    unfold inI64 at hn
    unfold sh123_6
    repeat' (first | (with_reducible refine drawC ?_) | (with_reducible refine drawW1 ?_) | (with_reducible refine drawW2 ?_) | (with_reducible refine keepC (by repeat (first | exact Ext.refl _ | assumption | refine Ext.trans ?_ (by assumption))) ?_) | (with_reducible refine newI (fun _ => ?_)) | first | (with_reducible refine rdb ?_) | ((with_reducible refine st1 ?_ ?_); rfl) | ((with_reducible refine rdB ?_ ?_); rfl) | (with_reducible refine rdbS ?_) | ((with_reducible refine rdBS ?_ ?_); rfl) | ((with_reducible refine stB ?_ ?_ ?_ ?_); rfl; rfl; exact one_all rfl) | ((with_reducible refine rdP _ rfl ?_ ?_); rfl) | ((with_reducible refine rdPS _ rfl ?_ ?_); rfl) | ((with_reducible refine stP _ rfl ?_ ?_ ?_ ?_); rfl; rfl; rfl) | (with_reducible refine And.intro ?_ ?_) | (simp only [Bool.not_true, Bool.not_false, Bool.and_self, Bool.true_and, Int.reduceBEq, Int.reduceBNe, Int.reduceLT, Int.reduceLE, decide_true, decide_false, Br_true, Br_false, Gd_tt, Gd_ft, Gd_tf, Gd_ff, beq_self_eq_true, bne_self_eq_false]) | (with_reducible refine gd_split (fun _ => ?_) (fun _ => ?_)) | (with_reducible refine br_split (fun _ => ?_) (fun _ => ?_)) | (simp only [SSd, List.getElem?_toArray, List.getElem?_cons_zero, List.getElem?_cons_succ, Nat.zero_add, Nat.add_zero, Nat.zero_mul, List.drop_succ_cons, List.drop_zero, List.take_succ_cons, List.take_zero, List.nil_append, List.cons_append, Nat.reduceAdd, List.drop_nil, List.take_nil, wrap_i64 (n - 1) (by omega)]))
    exact hk _
  refine loop (ComInv r b r1 lb z0 z1 z2 stv ov XL XO F I) (lastI r.g - r.g.commit).toNat ⟨Ext.refl _, nb, .inl ⟨rfl, by omega, rfl, ?_⟩⟩ ?_
  · rw [show r.g.commit + ((lastI r.g - r.g.commit).toNat : Int) = lastI r.g by omega]; rfl
  rintro m s I' L' ⟨hI, nb, hcase⟩
  have h2' := h2.mono hI
  have h4' := h4.imp fun _ _ h => h.mono hI
  rcases hcase with ⟨rfl, hle, hbest, rfl⟩ | ⟨XL', n, rfl, hpos, h1', hn64, hn, hbl2, rfl⟩
  · have h1' := h1.mono hI
    unfold sh123_5
    repeat' (first | (with_reducible refine drawC ?_) | (with_reducible refine drawW1 ?_) | (with_reducible refine drawW2 ?_) | (with_reducible refine keepC (by repeat (first | exact Ext.refl _ | assumption | refine Ext.trans ?_ (by assumption))) ?_) | (with_reducible refine newI (fun _ => ?_)) | ((with_reducible refine call ?_); refine (commit_spec h1'.view ?_)) | first | (with_reducible refine rdb ?_) | ((with_reducible refine st1 ?_ ?_); rfl) | ((with_reducible refine rdB ?_ ?_); rfl) | (with_reducible refine rdbS ?_) | ((with_reducible refine rdBS ?_ ?_); rfl) | ((with_reducible refine stB ?_ ?_ ?_ ?_); rfl; rfl; exact one_all rfl) | ((with_reducible refine rdP _ rfl ?_ ?_); rfl) | ((with_reducible refine rdPS _ rfl ?_ ?_); rfl) | ((with_reducible refine stP _ rfl ?_ ?_ ?_ ?_); rfl; rfl; rfl) | (with_reducible refine And.intro ?_ ?_) | (simp only [Bool.not_true, Bool.not_false, Bool.and_self, Bool.true_and, Int.reduceBEq, Int.reduceBNe, Int.reduceLT, Int.reduceLE, decide_true, decide_false, Br_true, Br_false, Gd_tt, Gd_ft, Gd_tf, Gd_ff, beq_self_eq_true, bne_self_eq_false]) | (with_reducible refine gd_split (fun _ => ?_) (fun _ => ?_)) | (with_reducible refine br_split (fun _ => ?_) (fun _ => ?_)) | (simp only [SSd, List.getElem?_toArray, List.getElem?_cons_zero, List.getElem?_cons_succ, Nat.zero_add, Nat.add_zero, Nat.zero_mul, List.drop_succ_cons, List.drop_zero, List.take_succ_cons, List.take_zero, List.nil_append, List.cons_append, Nat.reduceAdd, List.drop_nil, List.take_nil]))
    · rename_i hc
      simp at hc
      obtain ⟨m', rfl⟩ : ∃ m', m = m' + 1 := ⟨m - 1, by omega⟩
      rw [bestG] at hbest
      refine call (term_spec h1'.view hw.wf (by unfold inI64; omega) ?_)
      try simp only [SSd, List.getElem?_toArray, List.getElem?_cons_zero, List.getElem?_cons_succ, Nat.zero_add, Nat.add_zero, Nat.zero_mul, List.drop_succ_cons, List.drop_zero, List.take_succ_cons, List.take_zero, List.nil_append, List.cons_append, Nat.reduceAdd, List.drop_nil, List.take_nil]
      refine rdb ?_
      try simp only [SSd, List.getElem?_toArray, List.getElem?_cons_zero, List.getElem?_cons_succ, Nat.zero_add, Nat.add_zero, Nat.zero_mul, List.drop_succ_cons, List.drop_zero, List.take_succ_cons, List.take_zero, List.nil_append, List.cons_append, Nat.reduceAdd, List.drop_nil, List.take_nil]
      refine rdb ?_
      try simp only [SSd, List.getElem?_toArray, List.getElem?_cons_zero, List.getElem?_cons_succ, Nat.zero_add, Nat.add_zero, Nat.zero_mul, List.drop_succ_cons, List.drop_zero, List.take_succ_cons, List.take_zero, List.nil_append, List.cons_append, Nat.reduceAdd, List.drop_nil, List.take_nil]
      have next : hasQ (matF r) (r.g.commit + (m' + 1 : Nat)) = false → ∀ {I2 : Imm}, Ext I' I2 → sh123_6 ω (.bool false) (.pointer (some ⟨nb, 0, none⟩)) (fun s' => Gh fun I2 L2 => ∃ m'', m'' < m' + 1 ∧ ComInv r b r1 lb z0 z1 z2 stv ov XL XO F I m'' s' I2 L2) (fun v => Gh (K v)) I2
          ((nb, Obj.cells #[.int .i64 (r.g.commit + (m' + 1 : Nat))] 3 (0, 0)) :: (r1, Obj.cells #[.pointer (some ⟨b, 0, none⟩)] 72 (0, 0)) :: (b, Obj.cells (rcells (matF r) z0 z1 z2 (.pointer (some ⟨lb, 0, none⟩)) stv ov).toArray 131 (0, 0)) :: (XL ++ (XO ++ F))) := fun hq I2 hI2 => hnew (by unfold inI64; unfold lastI at *; omega) (fun nb' => by
          rw [hq] at hbest
          refine Gh.second (Gh.done ⟨m', by omega, hI.trans hI2, nb', .inl ⟨rfl, by omega, hbest, ?_⟩⟩)
          rw [show r.g.commit + ((m' + 1 : Nat) : Int) - 1 = r.g.commit + m' by omega])
      refine gd_split (fun ht => ?_) (fun ht => next (by simp at ht; simp [hasQ, matF]; intro h; exact absurd h ht) (Ext.refl _))
      simp at ht
      refine rdb ?_
      refine call (majority_spec (q := fun p => decide (r.g.commit + (m' + 1 : Nat) ≤ (matF r).mt p)) (Cell.own (InL.mem) rfl) h1'.view hw.wf (fun p I2 K2 hp hI2 hK => ?_) (fun I2 hI2 => ?_))
      · rw [calV_commit]
        refine cal131 ?_
        unfold sh131
        repeat' (first | (with_reducible refine drawC ?_) | (with_reducible refine drawW1 ?_) | (with_reducible refine drawW2 ?_) | (with_reducible refine keepC (by repeat (first | exact Ext.refl _ | assumption | refine Ext.trans ?_ (by assumption))) ?_) | (with_reducible refine newI (fun _ => ?_)) | first | (with_reducible refine rdb ?_) | ((with_reducible refine st1 ?_ ?_); rfl) | ((with_reducible refine rdB ?_ ?_); rfl) | (with_reducible refine rdbS ?_) | ((with_reducible refine rdBS ?_ ?_); rfl) | ((with_reducible refine stB ?_ ?_ ?_ ?_); rfl; rfl; exact one_all rfl) | ((with_reducible refine rdP _ rfl ?_ ?_); rfl) | ((with_reducible refine rdPS _ rfl ?_ ?_); rfl) | ((with_reducible refine stP _ rfl ?_ ?_ ?_ ?_); rfl; rfl; rfl) | (with_reducible refine And.intro ?_ ?_) | (simp only [Bool.not_true, Bool.not_false, Bool.and_self, Bool.true_and, Int.reduceBEq, Int.reduceBNe, Int.reduceLT, Int.reduceLE, decide_true, decide_false, Br_true, Br_false, Gd_tt, Gd_ft, Gd_tf, Gd_ff, beq_self_eq_true, bne_self_eq_false]) | (with_reducible refine gd_split (fun _ => ?_) (fun _ => ?_)) | (with_reducible refine br_split (fun _ => ?_) (fun _ => ?_)) | (simp only [SSd, List.getElem?_toArray, List.getElem?_cons_zero, List.getElem?_cons_succ, Nat.zero_add, Nat.add_zero, Nat.zero_mul, List.drop_succ_cons, List.drop_zero, List.take_succ_cons, List.take_zero, List.nil_append, List.cons_append, Nat.reduceAdd, List.drop_nil, List.take_nil]))
        simp only [ixPV_at _ (show 0 ≤ p by omega) (show p < ((6 : Nat) : Int) by omega), SSd, List.getElem?_toArray, List.getElem?_cons_zero, List.getElem?_cons_succ, Nat.zero_add, Nat.add_zero, Nat.zero_mul, List.drop_succ_cons, List.drop_zero, List.take_succ_cons, List.take_zero, List.nil_append, List.cons_append, Nat.reduceAdd, List.drop_nil, List.take_nil]
        refine rdLS (rc_mt hp) ?_
        repeat' (first | (with_reducible refine drawC ?_) | (with_reducible refine drawW1 ?_) | (with_reducible refine drawW2 ?_) | (with_reducible refine keepC (by repeat (first | exact Ext.refl _ | assumption | refine Ext.trans ?_ (by assumption))) ?_) | (with_reducible refine newI (fun _ => ?_)) | first | (with_reducible refine rdb ?_) | ((with_reducible refine st1 ?_ ?_); rfl) | ((with_reducible refine rdB ?_ ?_); rfl) | (with_reducible refine rdbS ?_) | ((with_reducible refine rdBS ?_ ?_); rfl) | ((with_reducible refine stB ?_ ?_ ?_ ?_); rfl; rfl; exact one_all rfl) | ((with_reducible refine rdP _ rfl ?_ ?_); rfl) | ((with_reducible refine rdPS _ rfl ?_ ?_); rfl) | ((with_reducible refine stP _ rfl ?_ ?_ ?_ ?_); rfl; rfl; rfl) | (with_reducible refine And.intro ?_ ?_) | (simp only [Bool.not_true, Bool.not_false, Bool.and_self, Bool.true_and, Int.reduceBEq, Int.reduceBNe, Int.reduceLT, Int.reduceLE, decide_true, decide_false, Br_true, Br_false, Gd_tt, Gd_ft, Gd_tf, Gd_ff, beq_self_eq_true, bne_self_eq_false]) | (with_reducible refine gd_split (fun _ => ?_) (fun _ => ?_)) | (with_reducible refine br_split (fun _ => ?_) (fun _ => ?_)) | (simp only [SSd, List.getElem?_toArray, List.getElem?_cons_zero, List.getElem?_cons_succ, Nat.zero_add, Nat.add_zero, Nat.zero_mul, List.drop_succ_cons, List.drop_zero, List.take_succ_cons, List.take_zero, List.nil_append, List.cons_append, Nat.reduceAdd, List.drop_nil, List.take_nil]))
        exact Gh.done hK
      refine br_split (fun hq => ?_) (fun hq => next (by simp [hasQ]; intro _; exact hq) hI2)
      have hh : hasQ (matF r) (r.g.commit + (m' + 1 : Nat)) = true := by
        simp only [hasQ, Bool.and_eq_true]; exact ⟨by simp [matF, ht], hq⟩
      rw [hh, if_pos rfl] at hbest
      unfold sh123_8
      repeat' (first | (with_reducible refine drawC ?_) | (with_reducible refine drawW1 ?_) | (with_reducible refine drawW2 ?_) | (with_reducible refine keepC (by repeat (first | exact Ext.refl _ | assumption | refine Ext.trans ?_ (by assumption))) ?_) | (with_reducible refine newI (fun _ => ?_)) | first | (with_reducible refine rdb ?_) | ((with_reducible refine st1 ?_ ?_); rfl) | ((with_reducible refine rdB ?_ ?_); rfl) | (with_reducible refine rdbS ?_) | ((with_reducible refine rdBS ?_ ?_); rfl) | ((with_reducible refine stB ?_ ?_ ?_ ?_); rfl; rfl; exact one_all rfl) | ((with_reducible refine rdP _ rfl ?_ ?_); rfl) | ((with_reducible refine rdPS _ rfl ?_ ?_); rfl) | ((with_reducible refine stP _ rfl ?_ ?_ ?_ ?_); rfl; rfl; rfl) | (with_reducible refine And.intro ?_ ?_) | (simp only [Bool.not_true, Bool.not_false, Bool.and_self, Bool.true_and, Int.reduceBEq, Int.reduceBNe, Int.reduceLT, Int.reduceLE, decide_true, decide_false, Br_true, Br_false, Gd_tt, Gd_ft, Gd_tf, Gd_ff, beq_self_eq_true, bne_self_eq_false]) | (with_reducible refine gd_split (fun _ => ?_) (fun _ => ?_)) | (with_reducible refine br_split (fun _ => ?_) (fun _ => ?_)) | (simp only [SSd, List.getElem?_toArray, List.getElem?_cons_zero, List.getElem?_cons_succ, Nat.zero_add, Nat.add_zero, Nat.zero_mul, List.drop_succ_cons, List.drop_zero, List.take_succ_cons, List.take_zero, List.nil_append, List.cons_append, Nat.reduceAdd, List.drop_nil, List.take_nil]))
      refine callG (Cal.split XL (settle_spec (h1'.mono hI2) hw.wf (fun XL' hL' => ?_)))
      refine Gh.pick nb ((r1, Obj.cells #[.pointer (some ⟨b, 0, none⟩)] 72 (0, 0)) :: (b, Obj.cells (rcells (matF r) z0 z1 z2 (.pointer (some ⟨lb, 0, none⟩)) stv ov).toArray 131 (0, 0)) :: (XL' ++ (XO ++ F))) (Gh.done ?_)
      refine hnew (by unfold inI64; unfold lastI at *; omega) (fun nb' => Gh.second (Gh.done ⟨0, by omega, hI.trans hI2, nb', .inr ⟨XL', _, rfl, by omega, ?_, ?_, ?_, ?_, rfl⟩⟩))
      · rw [← hbest]; exact hL'
      · unfold inI64; unfold lastI at *; omega
      · omega
      · omega
    · rename_i hc
      simp at hc
      obtain rfl : m = 0 := by omega
      rw [bestG] at hbest
      rw [← hbest, comF, if_neg (by omega)] at hk
      exact commit1_spec hI hw.wf h1' h2' h3 h4' hk
  · unfold sh123_5
    have hcm : (settleF (matF r) (bestF (matF r))).g.commit = max r.g.commit (bestF (matF r)) := by
      simp only [settleF, settleG]; rw [if_neg (show ¬ lastI (matF r).g < bestF (matF r) by show ¬ lastI r.g < bestF (matF r); omega)]; rfl
    repeat' (first | (with_reducible refine drawC ?_) | (with_reducible refine drawW1 ?_) | (with_reducible refine drawW2 ?_) | (with_reducible refine keepC (by repeat (first | exact Ext.refl _ | assumption | refine Ext.trans ?_ (by assumption))) ?_) | (with_reducible refine newI (fun _ => ?_)) | ((with_reducible refine call ?_); refine (commit_spec h1'.view ?_)) | first | (with_reducible refine rdb ?_) | ((with_reducible refine st1 ?_ ?_); rfl) | ((with_reducible refine rdB ?_ ?_); rfl) | (with_reducible refine rdbS ?_) | ((with_reducible refine rdBS ?_ ?_); rfl) | ((with_reducible refine stB ?_ ?_ ?_ ?_); rfl; rfl; exact one_all rfl) | ((with_reducible refine rdP _ rfl ?_ ?_); rfl) | ((with_reducible refine rdPS _ rfl ?_ ?_); rfl) | ((with_reducible refine stP _ rfl ?_ ?_ ?_ ?_); rfl; rfl; rfl) | (with_reducible refine And.intro ?_ ?_) | (simp only [Bool.not_true, Bool.not_false, Bool.and_self, Bool.true_and, Int.reduceBEq, Int.reduceBNe, Int.reduceLT, Int.reduceLE, decide_true, decide_false, Br_true, Br_false, Gd_tt, Gd_ft, Gd_tf, Gd_ff, beq_self_eq_true, bne_self_eq_false]) | (with_reducible refine gd_split (fun _ => ?_) (fun _ => ?_)) | (with_reducible refine br_split (fun _ => ?_) (fun _ => ?_)) | (simp only [SSd, List.getElem?_toArray, List.getElem?_cons_zero, List.getElem?_cons_succ, Nat.zero_add, Nat.add_zero, Nat.zero_mul, List.drop_succ_cons, List.drop_zero, List.take_succ_cons, List.take_zero, List.nil_append, List.cons_append, Nat.reduceAdd, List.drop_nil, List.take_nil]))
    · rename_i hc
      rw [hcm] at hc
      simp at hc; omega
    · rw [comF, if_pos hpos, decide_eq_true hpos] at hk
      exact commit1_spec (r := settleF (matF r) (bestF (matF r))) hI (settle_wf hw.wf) h1' h2' h3 h4' hk
end
end Go.Proofs.Ytdcpeboecmkmlaa
