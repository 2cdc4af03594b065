/-
  A node's term never goes back, and it votes once in each term: the walk.
-/
-- S2
import Derived.Test.YtdcpeboecmkmlaaKR
set_option linter.unusedSimpArgs false
set_option linter.unusedVariables false
namespace Go.Proofs.Ytdcpeboecmkmlaa
open Go.SL
set_option maxRecDepth 10000

theorem VoteOk.take {a b : RF} (h : VoteOk a b) : VoteOk a (takeF b) := h
theorem vo_tick' (r : RF) (w : Int) : VoteOk r (takeF (tickF r w)) := (vo_tick r w).take
section
variable {ω : Om} {I : Imm} {L : LH} {K : Value → M}

theorem Gh.split {A : M} (X : LH) {R : LH} [h : SplitL X L R] (hc : Gh A I (X ++ R)) : Gh A I L := Gh.perm h.perm hc
theorem raft_cell {b : Nat} {X F : LH} {r : RF} (h : RaftR I b X r) : Cell I (X ++ F) b 2 (.int .i64 r.term) ∧ Cell I (X ++ F) b 3 (.int .i64 r.vote) := by
  obtain ⟨lb, XL, XO, stv, ov, z0, z1, z2, oc, rfl, h1, h2, h3, h4⟩ := h
  exact ⟨Cell.own (List.mem_append_left _ (List.mem_cons_self ..)) rfl, Cell.own (List.mem_append_left _ (List.mem_cons_self ..)) rfl⟩

theorem after_spec {Kn : Value × Value × Value × Unit → M} {b k : Nat} {X F L' : LH} {r r' : RF} [hs : SubP (X ++ F) L'] (h : RaftR I b X r') (hv : VoteOk r r') (hk200 : k ≤ 200) (hk : Kn (.bool false, .pointer (some ⟨b, 0, none⟩), .int .i64 (k + 1), ()) I (X ++ F)) :
    sh8_4 ω (.bool false) (.pointer (some ⟨b, 0, none⟩)) (.int .i64 k) (.int .i64 r.term) (.int .i64 r.vote) Kn K I L' := by
  obtain ⟨c2, c3⟩ := raft_cell (F := F) h
  obtain ⟨h1, h2, _, _⟩ := hv
  unfold sh8_4
  refine call (Cal.to (X ++ F) (gterm_spec c2 ?_))
  refine call (gvote_spec c3 ?_)
  simp only [Pv_some, fldV_p, nilV_p, nilV_f, lenV_s, capV_s, sLen, minV_i, maxV_i, strV_s, unV_not, unV_neg, pickV_t, pickV_f, exV_t, cvIV_i, binI_add, binI_sub, binI_mul, binI_eql, binI_neq, binI_lss, binI_leq, binI_gtr, binI_geq, binI_and, binI_or, binB_eql, binB_neq, sEq, sNe, sLt, sLe, sGt, sGe, stampEq, stampNe, fldv_agg, fldv_one, binP_eql_nil, binP_neq_nil, binN_eql_nil, binN_neq_nil, binN_eql_nn, binN_neq_nn, Br_true, Br_false, Gd_tt, Gd_ft, Gd_tf, Gd_ff, cells_agg, List.getElem?_toArray, List.getElem?_cons_zero, List.getElem?_cons_succ, Nat.zero_add, Nat.add_zero, Nat.zero_mul, List.drop_succ_cons, List.drop_zero, List.take_succ_cons, List.take_zero, List.nil_append, List.cons_append, Nat.reduceAdd, List.drop_nil, List.take_nil, bld_1, bld_2, bld_3, bld_4, bld_5, bld_6, bld_7, bld_8, bld_9, bld_10, bld_11, bld_12, bld_13, bld_14, bld_15, bld_16, bld_17, bld_18, wrap_i64 ((k : Int) + 1) (by omega)]
  refine gd_split (fun _ => ?_) (fun hn => by simp at hn; omega)
  refine gd_split (fun he => ?_) (fun _ => hk)
  refine gd_split (fun hz => ?_) (fun _ => hk)
  refine br_split (fun hb => ?_) (fun _ => hk)
  simp at he hz hb
  exact absurd (h2 he hz) hb

def VInv (x : TStart) (n : Nat) (F : LH) (I2 : Imm) (mm : Nat) (s : Value × Value × Value × Unit) : M := fun I' L' =>
  Ext I2 I' ∧ ∃ (k : Nat) (b : Nat) (X : LH) (r : RF), k + mm = n ∧ s = ((.bool false, .pointer (some ⟨b, 0, none⟩), .int .i64 k, ()) : Value × Value × Value × Unit) ∧ RaftR I' b X r ∧ RWF (x.fEntries.length + 65 * k) k r ∧ r.out = [] ∧ r.group = x.fGroup ∧ r.id = x.fId ∧ k ≤ 200 ∧ L' = X ++ F

set_option maxHeartbeats 1000000 in
theorem votes_law {rz : Nat} {x : TStart} {c : List Value} {v1 : Value} {ss : List TStep} (h0 : TStartV I x c) (h1 : RL TStepV 16 I [] v1 ss) (hb0 : TStartB rz x) (hb1 : ∀ y ∈ ss, TStepB rz y) (hsl : ss.length < 4611686018427387904) (hrz : rz ≤ 140737488351232)
    (hk : ∀ I' L', Ext I I' → K (.bool true) I' L') : Cal Try.prog ω 8 #[.agg c.toArray, v1] K I L := by
  obtain ⟨g1, g2, g3, g4, g5, g6, g7, g8, g9, g10, g11, g12⟩ := id hb0
  have h0' := h0
  obtain ⟨w0, w1, w2, rfl, hm, hes, hst⟩ := h0'
  obtain ⟨am, pm, rfl⟩ := Ints.form hm
  obtain ⟨ae, pe, rfl⟩ := RL.form hes
  obtain ⟨ab, pb, rfl⟩ := Bytes.form hst
  refine cal8 ?_
  unfold sh8
  refine newI (fun s1 => ?_)
  try simp only [Pv_some, fldV_p, nilV_p, nilV_f, lenV_s, capV_s, sLen, minV_i, maxV_i, strV_s, unV_not, unV_neg, pickV_t, pickV_f, exV_t, cvIV_i, binI_add, binI_sub, binI_mul, binI_eql, binI_neq, binI_lss, binI_leq, binI_gtr, binI_geq, binI_and, binI_or, binB_eql, binB_neq, sEq, sNe, sLt, sLe, sGt, sGe, stampEq, stampNe, fldv_agg, fldv_one, binP_eql_nil, binP_neq_nil, binN_eql_nil, binN_neq_nil, binN_eql_nn, binN_neq_nn, Br_true, Br_false, Gd_tt, Gd_ft, Gd_tf, Gd_ff, cells_agg, List.getElem?_toArray, List.getElem?_cons_zero, List.getElem?_cons_succ, Nat.zero_add, Nat.add_zero, Nat.zero_mul, List.drop_succ_cons, List.drop_zero, List.take_succ_cons, List.take_zero, List.nil_append, List.cons_append, Nat.reduceAdd, List.drop_nil, List.take_nil, bld_1, bld_2, bld_3, bld_4, bld_5, bld_6, bld_7, bld_8, bld_9, bld_10, bld_11, bld_12, bld_13, bld_14, bld_15, bld_16, bld_17, bld_18]
  refine call (awake11_spec (fun I1 hI1 => ?_))
  refine rdB rfl ?_
  refine callG (both_spec (h0.mono hI1) (by omega) g7 (by omega) (fun _ I2 hI2 => ?_) (fun _ b X cc Y I2 hI2 hX hY hw => ?_))
  · refine Gh.done ?_
    repeat' (first | (with_reducible refine drawC ?_) | (with_reducible refine drawW1 ?_) | (with_reducible refine drawW2 ?_) | (with_reducible refine keepC (by repeat (first | exact Ext.refl _ | assumption | refine Ext.trans ?_ (by assumption))) ?_) | (with_reducible refine newI (fun _ => ?_)) | first | (with_reducible refine rdb ?_) | ((with_reducible refine st1 ?_ ?_); rfl) | ((with_reducible refine rdB ?_ ?_); rfl) | (with_reducible refine rdbS ?_) | ((with_reducible refine rdBS ?_ ?_); rfl) | ((with_reducible refine stB ?_ ?_ ?_ ?_); rfl; rfl; exact one_all rfl) | ((with_reducible refine rdP _ rfl ?_ ?_); rfl) | ((with_reducible refine rdPS _ rfl ?_ ?_); rfl) | ((with_reducible refine stP _ rfl ?_ ?_ ?_ ?_); rfl; rfl; rfl) | (with_reducible refine And.intro ?_ ?_) | (simp only [Bool.not_true, Bool.not_false, Bool.and_self, Bool.true_and, Int.reduceBEq, Int.reduceBNe, Int.reduceLT, Int.reduceLE, decide_true, decide_false, Br_true, Br_false, Gd_tt, Gd_ft, Gd_tf, Gd_ff, beq_self_eq_true, bne_self_eq_false]) | (with_reducible refine gd_split (fun _ => ?_) (fun _ => ?_)) | (with_reducible refine br_split (fun _ => ?_) (fun _ => ?_)) | (simp only [Pv_some, fldV_p, nilV_p, nilV_f, lenV_s, capV_s, sLen, minV_i, maxV_i, strV_s, unV_not, unV_neg, pickV_t, pickV_f, exV_t, cvIV_i, binI_add, binI_sub, binI_mul, binI_eql, binI_neq, binI_lss, binI_leq, binI_gtr, binI_geq, binI_and, binI_or, binB_eql, binB_neq, sEq, sNe, sLt, sLe, sGt, sGe, stampEq, stampNe, fldv_agg, fldv_one, binP_eql_nil, binP_neq_nil, binN_eql_nil, binN_neq_nil, binN_eql_nn, binN_neq_nn, Br_true, Br_false, Gd_tt, Gd_ft, Gd_tf, Gd_ff, cells_agg, List.getElem?_toArray, List.getElem?_cons_zero, List.getElem?_cons_succ, Nat.zero_add, Nat.add_zero, Nat.zero_mul, List.drop_succ_cons, List.drop_zero, List.take_succ_cons, List.take_zero, List.nil_append, List.cons_append, Nat.reduceAdd, List.drop_nil, List.take_nil, bld_1, bld_2, bld_3, bld_4, bld_5, bld_6, bld_7, bld_8, bld_9, bld_10, bld_11, bld_12, bld_13, bld_14, bld_15, bld_16, bld_17, bld_18]))
    exact Gh.done (hk I2 _ (hI1.trans hI2))
  refine Gh.to (X ++ ((s1, Obj.cells #[.int .i64 x.fGroup, .int .i64 x.fId, .int .i64 x.fTerm, .int .i64 x.fVote, .int .i64 x.fIndex, .int .i64 x.fAt, .int .i64 x.fCommit, .slice am x.fMembers.length pm, .slice ae x.fEntries.length pe, .slice ab x.fState.length pb] 70 (0, 0)) :: L)) (Gh.done ?_)
  repeat' (first | (with_reducible refine drawC ?_) | (with_reducible refine drawW1 ?_) | (with_reducible refine drawW2 ?_) | (with_reducible refine keepC (by repeat (first | exact Ext.refl _ | assumption | refine Ext.trans ?_ (by assumption))) ?_) | (with_reducible refine newI (fun _ => ?_)) | first | (with_reducible refine rdb ?_) | ((with_reducible refine st1 ?_ ?_); rfl) | ((with_reducible refine rdB ?_ ?_); rfl) | (with_reducible refine rdbS ?_) | ((with_reducible refine rdBS ?_ ?_); rfl) | ((with_reducible refine stB ?_ ?_ ?_ ?_); rfl; rfl; exact one_all rfl) | ((with_reducible refine rdP _ rfl ?_ ?_); rfl) | ((with_reducible refine rdPS _ rfl ?_ ?_); rfl) | ((with_reducible refine stP _ rfl ?_ ?_ ?_ ?_); rfl; rfl; rfl) | (with_reducible refine And.intro ?_ ?_) | (simp only [Bool.not_true, Bool.not_false, Bool.and_self, Bool.true_and, Int.reduceBEq, Int.reduceBNe, Int.reduceLT, Int.reduceLE, decide_true, decide_false, Br_true, Br_false, Gd_tt, Gd_ft, Gd_tf, Gd_ff, beq_self_eq_true, bne_self_eq_false]) | (with_reducible refine gd_split (fun _ => ?_) (fun _ => ?_)) | (with_reducible refine br_split (fun _ => ?_) (fun _ => ?_)) | (simp only [Pv_some, fldV_p, nilV_p, nilV_f, lenV_s, capV_s, sLen, minV_i, maxV_i, strV_s, unV_not, unV_neg, pickV_t, pickV_f, exV_t, cvIV_i, binI_add, binI_sub, binI_mul, binI_eql, binI_neq, binI_lss, binI_leq, binI_gtr, binI_geq, binI_and, binI_or, binB_eql, binB_neq, sEq, sNe, sLt, sLe, sGt, sGe, stampEq, stampNe, fldv_agg, fldv_one, binP_eql_nil, binP_neq_nil, binN_eql_nil, binN_neq_nil, binN_eql_nn, binN_neq_nn, Br_true, Br_false, Gd_tt, Gd_ft, Gd_tf, Gd_ff, cells_agg, List.getElem?_toArray, List.getElem?_cons_zero, List.getElem?_cons_succ, Nat.zero_add, Nat.add_zero, Nat.zero_mul, List.drop_succ_cons, List.drop_zero, List.take_succ_cons, List.take_zero, List.nil_append, List.cons_append, Nat.reduceAdd, List.drop_nil, List.take_nil, bld_1, bld_2, bld_3, bld_4, bld_5, bld_6, bld_7, bld_8, bld_9, bld_10, bld_11, bld_12, bld_13, bld_14, bld_15, bld_16, bld_17, bld_18]))
  have hI12 := hI1.trans hI2
  refine loop (VInv x ss.length ((s1, Obj.cells #[.int .i64 x.fGroup, .int .i64 x.fId, .int .i64 x.fTerm, .int .i64 x.fVote, .int .i64 x.fIndex, .int .i64 x.fAt, .int .i64 x.fCommit, .slice am x.fMembers.length pm, .slice ae x.fEntries.length pe, .slice ab x.fState.length pb] 70 (0, 0)) :: L) I2) ss.length ⟨Ext.refl _, 0, b, X, startF x, by omega, rfl, hX, hw, rfl, rfl, rfl, by omega, rfl⟩ ?_
  clear hX hY hw
  rintro mm s I' L' ⟨hI', k, b, X, r, hkm, rfl, hX, hw, ho, hgr, hid, hk200, rfl⟩
  unfold sh8_3
  simp only [RL.len h1, Pv_some, fldV_p, nilV_p, nilV_f, lenV_s, capV_s, sLen, minV_i, maxV_i, strV_s, unV_not, unV_neg, pickV_t, pickV_f, exV_t, cvIV_i, binI_add, binI_sub, binI_mul, binI_eql, binI_neq, binI_lss, binI_leq, binI_gtr, binI_geq, binI_and, binI_or, binB_eql, binB_neq, sEq, sNe, sLt, sLe, sGt, sGe, stampEq, stampNe, fldv_agg, fldv_one, binP_eql_nil, binP_neq_nil, binN_eql_nil, binN_neq_nil, binN_eql_nn, binN_neq_nn, Br_true, Br_false, Gd_tt, Gd_ft, Gd_tf, Gd_ff, cells_agg, List.getElem?_toArray, List.getElem?_cons_zero, List.getElem?_cons_succ, Nat.zero_add, Nat.add_zero, Nat.zero_mul, List.drop_succ_cons, List.drop_zero, List.take_succ_cons, List.take_zero, List.nil_append, List.cons_append, Nat.reduceAdd, List.drop_nil, List.take_nil, bld_1, bld_2, bld_3, bld_4, bld_5, bld_6, bld_7, bld_8, bld_9, bld_10, bld_11, bld_12, bld_13, bld_14, bld_15, bld_16, bld_17, bld_18]
  refine gd_split (fun hlt => ?_) (fun hlt => Gh.done (hk I' _ (hI12.trans hI')))
  refine br_split (fun h4 => ?_) (fun h4 => Gh.done (hk I' _ (hI12.trans hI')))
  simp at hlt h4
  obtain ⟨b2, off, cs, hix, hcl, hst1, hc⟩ := RL.ix h1 (i := k) (by omega) (by omega)
  have hbs := hb1 (geti ss (k : Int)) (by rw [geti_nat hlt]; exact List.getElem_mem hlt)
  generalize geti ss (k : Int) = y at *
  obtain ⟨d1, d2, d3, d4, d5, d6⟩ := hbs
  obtain ⟨e1, e2, e3, e4, e5, e6, e7, e8, e9, e10, e11, e12, e13⟩ := d3
  have hst1 := hst1.mono (hI12.trans hI')
  obtain ⟨u0, u1, u2, u3, u4, rfl, k0, k1, k2, k3, k4⟩ := hst1
  have hM : MsgV I' (toRM y.fM) [.int .i64 y.fM.fKind, .int .i64 y.fM.fGroup, .int .i64 y.fM.fFrom, .int .i64 y.fM.fTo, .int .i64 y.fM.fTerm, .int .i64 y.fM.fIndex, .int .i64 y.fM.fLogTerm, .int .i64 y.fM.fCommit, .bool y.fM.fOK, u0, u1, u2] := ⟨u0, u1, u2, rfl, ents_of k0, k1, k2⟩
  obtain ⟨aa0, pp0, rfl⟩ := RL.form k0
  obtain ⟨aa1, pp1, rfl⟩ := Ints.form k1
  obtain ⟨aa2, pp2, rfl⟩ := Bytes.form k2
  obtain ⟨aa3, pp3, rfl⟩ := Bytes.form k3
  obtain ⟨aa4, pp4, rfl⟩ := Ints.form k4
  simp only [hix, Pv_some, fldV_p, nilV_p, nilV_f, lenV_s, capV_s, sLen, minV_i, maxV_i, strV_s, unV_not, unV_neg, pickV_t, pickV_f, exV_t, cvIV_i, binI_add, binI_sub, binI_mul, binI_eql, binI_neq, binI_lss, binI_leq, binI_gtr, binI_geq, binI_and, binI_or, binB_eql, binB_neq, sEq, sNe, sLt, sLe, sGt, sGe, stampEq, stampNe, fldv_agg, fldv_one, binP_eql_nil, binP_neq_nil, binN_eql_nil, binN_neq_nil, binN_eql_nn, binN_neq_nn, Br_true, Br_false, Gd_tt, Gd_ft, Gd_tf, Gd_ff, cells_agg, List.getElem?_toArray, List.getElem?_cons_zero, List.getElem?_cons_succ, Nat.zero_add, Nat.add_zero, Nat.zero_mul, List.drop_succ_cons, List.drop_zero, List.take_succ_cons, List.take_zero, List.nil_append, List.cons_append, Nat.reduceAdd, List.drop_nil, List.take_nil, bld_1, bld_2, bld_3, bld_4, bld_5, bld_6, bld_7, bld_8, bld_9, bld_10, bld_11, bld_12, bld_13, bld_14, bld_15, bld_16, bld_17, bld_18]
  refine rdN hcl (hc I' _ (hI12.trans hI') (fun _ h => by cases h)) ?_
  clear hcl hc hix
  refine newI (fun y1 => ?_)
  refine stB rfl rfl (one_all rfl) ?_
  have next : ∀ (r' : RF) {b : Nat} {X' : LH} {I3 : Imm} {L' : LH}, SubP (X' ++ ((s1, Obj.cells #[.int .i64 x.fGroup, .int .i64 x.fId, .int .i64 x.fTerm, .int .i64 x.fVote, .int .i64 x.fIndex, .int .i64 x.fAt, .int .i64 x.fCommit, .slice am x.fMembers.length pm, .slice ae x.fEntries.length pe, .slice ab x.fState.length pb] 70 (0, 0)) :: L)) L' → Ext I' I3 → RaftR I3 b X' r' → RWF (x.fEntries.length + 65 * (k + 1)) (k + 1) r' → r'.out = [] → VoteOk r r' →
      sh8_4 ω (.bool false) (.pointer (some ⟨b, 0, none⟩)) (.int .i64 k) (.int .i64 r.term) (.int .i64 r.vote) (fun s' => Gh fun I2' L2 => ∃ m', m' < mm ∧ VInv x ss.length ((s1, Obj.cells #[.int .i64 x.fGroup, .int .i64 x.fId, .int .i64 x.fTerm, .int .i64 x.fVote, .int .i64 x.fIndex, .int .i64 x.fAt, .int .i64 x.fCommit, .slice am x.fMembers.length pm, .slice ae x.fEntries.length pe, .slice ab x.fState.length pb] 70 (0, 0)) :: L) I2 m' s' I2' L2) (fun v => Gh (K v)) I3 L' := by
    intro r' b X' I3 L' hs hI3 hX' hw' ho' hv
    refine after_spec (X := X') (F := (s1, Obj.cells #[.int .i64 x.fGroup, .int .i64 x.fId, .int .i64 x.fTerm, .int .i64 x.fVote, .int .i64 x.fIndex, .int .i64 x.fAt, .int .i64 x.fCommit, .slice am x.fMembers.length pm, .slice ae x.fEntries.length pe, .slice ab x.fState.length pb] 70 (0, 0)) :: L) hX' hv (by omega) (Gh.done ?_)
    exact ⟨mm - 1, by omega, hI'.trans hI3, k + 1, b, X', r', by omega, by simp, hX', hw', ho', hv.2.2.1.trans hgr, hv.2.2.2.trans hid, by omega, rfl⟩
  by_cases h5 : y.fDo = 5
  · obtain ⟨c2, c3⟩ := raft_cell (F := (s1, Obj.cells #[.int .i64 x.fGroup, .int .i64 x.fId, .int .i64 x.fTerm, .int .i64 x.fVote, .int .i64 x.fIndex, .int .i64 x.fAt, .int .i64 x.fCommit, .slice am x.fMembers.length pm, .slice ae x.fEntries.length pe, .slice ab x.fState.length pb] 70 (0, 0)) :: L) hX
    refine callG (gterm_spec (c2.mono (Ext.refl _) (fun _ h => List.mem_cons_of_mem _ h)) ?_)
    obtain ⟨lb, XL, XO, stv, ov, z0, z1, z2, oc, rfl, f1, f2, f3, f4⟩ := hX
    simp only [List.cons_append, List.append_assoc] at *
    refine Gh.split XL (LogR.freeze f1 (fun mv lv I3 hI3 fm fl => Gh.done ?_))
    refine call (gvote_spec (Cell.own (InL.mem) rfl) ?_)
    try simp only [Pv_some, fldV_p, nilV_p, nilV_f, lenV_s, capV_s, sLen, minV_i, maxV_i, strV_s, unV_not, unV_neg, pickV_t, pickV_f, exV_t, cvIV_i, binI_add, binI_sub, binI_mul, binI_eql, binI_neq, binI_lss, binI_leq, binI_gtr, binI_geq, binI_and, binI_or, binB_eql, binB_neq, sEq, sNe, sLt, sLe, sGt, sGe, stampEq, stampNe, fldv_agg, fldv_one, binP_eql_nil, binP_neq_nil, binN_eql_nil, binN_neq_nil, binN_eql_nn, binN_neq_nn, Br_true, Br_false, Gd_tt, Gd_ft, Gd_tf, Gd_ff, cells_agg, List.getElem?_toArray, List.getElem?_cons_zero, List.getElem?_cons_succ, Nat.zero_add, Nat.add_zero, Nat.zero_mul, List.drop_succ_cons, List.drop_zero, List.take_succ_cons, List.take_zero, List.nil_append, List.cons_append, Nat.reduceAdd, List.drop_nil, List.take_nil, bld_1, bld_2, bld_3, bld_4, bld_5, bld_6, bld_7, bld_8, bld_9, bld_10, bld_11, bld_12, bld_13, bld_14, bld_15, bld_16, bld_17, bld_18]
    refine rdb ?_
    try simp only [Pv_some, fldV_p, nilV_p, nilV_f, lenV_s, capV_s, sLen, minV_i, maxV_i, strV_s, unV_not, unV_neg, pickV_t, pickV_f, exV_t, cvIV_i, binI_add, binI_sub, binI_mul, binI_eql, binI_neq, binI_lss, binI_leq, binI_gtr, binI_geq, binI_and, binI_or, binB_eql, binB_neq, sEq, sNe, sLt, sLe, sGt, sGe, stampEq, stampNe, fldv_agg, fldv_one, binP_eql_nil, binP_neq_nil, binN_eql_nil, binN_neq_nil, binN_eql_nn, binN_neq_nn, Br_true, Br_false, Gd_tt, Gd_ft, Gd_tf, Gd_ff, cells_agg, List.getElem?_toArray, List.getElem?_cons_zero, List.getElem?_cons_succ, Nat.zero_add, Nat.add_zero, Nat.zero_mul, List.drop_succ_cons, List.drop_zero, List.take_succ_cons, List.take_zero, List.nil_append, List.cons_append, Nat.reduceAdd, List.drop_nil, List.take_nil, bld_1, bld_2, bld_3, bld_4, bld_5, bld_6, bld_7, bld_8, bld_9, bld_10, bld_11, bld_12, bld_13, bld_14, bld_15, bld_16, bld_17, bld_18]
    refine br_split (fun h => by simp [h5] at h) (fun _ => ?_)
    unfold sh8_8
    try simp only [Pv_some, fldV_p, nilV_p, nilV_f, lenV_s, capV_s, sLen, minV_i, maxV_i, strV_s, unV_not, unV_neg, pickV_t, pickV_f, exV_t, cvIV_i, binI_add, binI_sub, binI_mul, binI_eql, binI_neq, binI_lss, binI_leq, binI_gtr, binI_geq, binI_and, binI_or, binB_eql, binB_neq, sEq, sNe, sLt, sLe, sGt, sGe, stampEq, stampNe, fldv_agg, fldv_one, binP_eql_nil, binP_neq_nil, binN_eql_nil, binN_neq_nil, binN_eql_nn, binN_neq_nn, Br_true, Br_false, Gd_tt, Gd_ft, Gd_tf, Gd_ff, cells_agg, List.getElem?_toArray, List.getElem?_cons_zero, List.getElem?_cons_succ, Nat.zero_add, Nat.add_zero, Nat.zero_mul, List.drop_succ_cons, List.drop_zero, List.take_succ_cons, List.take_zero, List.nil_append, List.cons_append, Nat.reduceAdd, List.drop_nil, List.take_nil, bld_1, bld_2, bld_3, bld_4, bld_5, bld_6, bld_7, bld_8, bld_9, bld_10, bld_11, bld_12, bld_13, bld_14, bld_15, bld_16, bld_17, bld_18]
    refine br_split (fun h => by simp [h5] at h) (fun _ => ?_)
    refine br_split (fun h => by simp [h5] at h) (fun _ => ?_)
    refine br_split (fun h => by simp [h5] at h) (fun _ => ?_)
    refine br_split (fun h => by simp [h5] at h) (fun _ => ?_)
    refine br_split (fun _ => ?_) (fun h => by simp [h5] at h)
    refine drawC ?_
    refine rdbS ?_
    try simp only [Pv_some, fldV_p, nilV_p, nilV_f, lenV_s, capV_s, sLen, minV_i, maxV_i, strV_s, unV_not, unV_neg, pickV_t, pickV_f, exV_t, cvIV_i, binI_add, binI_sub, binI_mul, binI_eql, binI_neq, binI_lss, binI_leq, binI_gtr, binI_geq, binI_and, binI_or, binB_eql, binB_neq, sEq, sNe, sLt, sLe, sGt, sGe, stampEq, stampNe, fldv_agg, fldv_one, binP_eql_nil, binP_neq_nil, binN_eql_nil, binN_neq_nil, binN_eql_nn, binN_neq_nn, Br_true, Br_false, Gd_tt, Gd_ft, Gd_tf, Gd_ff, cells_agg, List.getElem?_toArray, List.getElem?_cons_zero, List.getElem?_cons_succ, Nat.zero_add, Nat.add_zero, Nat.zero_mul, List.drop_succ_cons, List.drop_zero, List.take_succ_cons, List.take_zero, List.nil_append, List.cons_append, Nat.reduceAdd, List.drop_nil, List.take_nil, bld_1, bld_2, bld_3, bld_4, bld_5, bld_6, bld_7, bld_8, bld_9, bld_10, bld_11, bld_12, bld_13, bld_14, bld_15, bld_16, bld_17, bld_18]
    refine rdbS ?_
    refine call (glog_spec (L0 := []) (Cell.own (InL.mem) rfl) (cells_own InL.mem) fm fl (memB_len hw.wf.mem) (fun lb' mv' aa I4 hI4 hm4 hl4 => ?_))
    refine keepC hI4 ?_
    refine call (gstate_spec (Cell.own (InL.mem) rfl) (f2.mono (hI3.trans hI4)) hw.stl (fun sv I5 hI5 hs5 => ?_))
    refine keepC (hI4.trans hI5) ?_
    have hok := hw.newOk
    have hst := hw.stl
    rw [hgr, hid] at hok
    refine call (new11_spec (g := r.g) (st := r.st) (cells_own InL.mem) (hm4.mono hI5) (LsV.to (L' := []) hl4 hI5) hw.wf hs5 (by omega) (fun hn => by rw [hok] at hn; cases hn) (fun _ b' X' I6 hI6 hX' => ?_))
    repeat' (first | (with_reducible refine drawC ?_) | (with_reducible refine drawW1 ?_) | (with_reducible refine drawW2 ?_) | (with_reducible refine keepC (by repeat (first | exact Ext.refl _ | assumption | refine Ext.trans ?_ (by assumption))) ?_) | (with_reducible refine newI (fun _ => ?_)) | first | (with_reducible refine rdb ?_) | ((with_reducible refine st1 ?_ ?_); rfl) | ((with_reducible refine rdB ?_ ?_); rfl) | (with_reducible refine rdbS ?_) | ((with_reducible refine rdBS ?_ ?_); rfl) | ((with_reducible refine stB ?_ ?_ ?_ ?_); rfl; rfl; exact one_all rfl) | ((with_reducible refine rdP _ rfl ?_ ?_); rfl) | ((with_reducible refine rdPS _ rfl ?_ ?_); rfl) | ((with_reducible refine stP _ rfl ?_ ?_ ?_ ?_); rfl; rfl; rfl) | (with_reducible refine And.intro ?_ ?_) | (simp only [Bool.not_true, Bool.not_false, Bool.and_self, Bool.true_and, Int.reduceBEq, Int.reduceBNe, Int.reduceLT, Int.reduceLE, decide_true, decide_false, Br_true, Br_false, Gd_tt, Gd_ft, Gd_tf, Gd_ff, beq_self_eq_true, bne_self_eq_false]) | (with_reducible refine gd_split (fun _ => ?_) (fun _ => ?_)) | (with_reducible refine br_split (fun _ => ?_) (fun _ => ?_)) | (simp only [Pv_some, fldV_p, nilV_p, nilV_f, lenV_s, capV_s, sLen, minV_i, maxV_i, strV_s, unV_not, unV_neg, pickV_t, pickV_f, exV_t, cvIV_i, binI_add, binI_sub, binI_mul, binI_eql, binI_neq, binI_lss, binI_leq, binI_gtr, binI_geq, binI_and, binI_or, binB_eql, binB_neq, sEq, sNe, sLt, sLe, sGt, sGe, stampEq, stampNe, fldv_agg, fldv_one, binP_eql_nil, binP_neq_nil, binN_eql_nil, binN_neq_nil, binN_eql_nn, binN_neq_nn, Br_true, Br_false, Gd_tt, Gd_ft, Gd_tf, Gd_ff, cells_agg, List.getElem?_toArray, List.getElem?_cons_zero, List.getElem?_cons_succ, Nat.zero_add, Nat.add_zero, Nat.zero_mul, List.drop_succ_cons, List.drop_zero, List.take_succ_cons, List.take_zero, List.nil_append, List.cons_append, Nat.reduceAdd, List.drop_nil, List.take_nil, bld_1, bld_2, bld_3, bld_4, bld_5, bld_6, bld_7, bld_8, bld_9, bld_10, bld_11, bld_12, bld_13, bld_14, bld_15, bld_16, bld_17, bld_18]))
    have hwn : RWF (x.fEntries.length + 65 * (k + 1)) (k + 1) (newF x.fGroup x.fId r.term r.vote r.g r.st) := newF_wf hw.wf (Nat.le_trans hw.len (by rw [Nat.mul_add]; omega)) hok
    exact next _ inferInstance (((hI3.trans hI4).trans hI5).trans hI6) hX' hwn rfl (.same rfl rfl hgr.symm hid.symm)
  obtain ⟨c2, c3⟩ := raft_cell (F := (s1, Obj.cells #[.int .i64 x.fGroup, .int .i64 x.fId, .int .i64 x.fTerm, .int .i64 x.fVote, .int .i64 x.fIndex, .int .i64 x.fAt, .int .i64 x.fCommit, .slice am x.fMembers.length pm, .slice ae x.fEntries.length pe, .slice ab x.fState.length pb] 70 (0, 0)) :: L) hX
  refine call (gterm_spec (c2.mono (Ext.refl _) (fun _ h => List.mem_cons_of_mem _ h)) ?_)
  refine call (gvote_spec (c3.mono (Ext.refl _) (fun _ h => List.mem_cons_of_mem _ h)) ?_)
  try simp only [Pv_some, fldV_p, nilV_p, nilV_f, lenV_s, capV_s, sLen, minV_i, maxV_i, strV_s, unV_not, unV_neg, pickV_t, pickV_f, exV_t, cvIV_i, binI_add, binI_sub, binI_mul, binI_eql, binI_neq, binI_lss, binI_leq, binI_gtr, binI_geq, binI_and, binI_or, binB_eql, binB_neq, sEq, sNe, sLt, sLe, sGt, sGe, stampEq, stampNe, fldv_agg, fldv_one, binP_eql_nil, binP_neq_nil, binN_eql_nil, binN_neq_nil, binN_eql_nn, binN_neq_nn, Br_true, Br_false, Gd_tt, Gd_ft, Gd_tf, Gd_ff, cells_agg, List.getElem?_toArray, List.getElem?_cons_zero, List.getElem?_cons_succ, Nat.zero_add, Nat.add_zero, Nat.zero_mul, List.drop_succ_cons, List.drop_zero, List.take_succ_cons, List.take_zero, List.nil_append, List.cons_append, Nat.reduceAdd, List.drop_nil, List.take_nil, bld_1, bld_2, bld_3, bld_4, bld_5, bld_6, bld_7, bld_8, bld_9, bld_10, bld_11, bld_12, bld_13, bld_14, bld_15, bld_16, bld_17, bld_18]
  refine rdb ?_
  try simp only [Pv_some, fldV_p, nilV_p, nilV_f, lenV_s, capV_s, sLen, minV_i, maxV_i, strV_s, unV_not, unV_neg, pickV_t, pickV_f, exV_t, cvIV_i, binI_add, binI_sub, binI_mul, binI_eql, binI_neq, binI_lss, binI_leq, binI_gtr, binI_geq, binI_and, binI_or, binB_eql, binB_neq, sEq, sNe, sLt, sLe, sGt, sGe, stampEq, stampNe, fldv_agg, fldv_one, binP_eql_nil, binP_neq_nil, binN_eql_nil, binN_neq_nil, binN_eql_nn, binN_neq_nn, Br_true, Br_false, Gd_tt, Gd_ft, Gd_tf, Gd_ff, cells_agg, List.getElem?_toArray, List.getElem?_cons_zero, List.getElem?_cons_succ, Nat.zero_add, Nat.add_zero, Nat.zero_mul, List.drop_succ_cons, List.drop_zero, List.take_succ_cons, List.take_zero, List.nil_append, List.cons_append, Nat.reduceAdd, List.drop_nil, List.take_nil, bld_1, bld_2, bld_3, bld_4, bld_5, bld_6, bld_7, bld_8, bld_9, bld_10, bld_11, bld_12, bld_13, bld_14, bld_15, bld_16, bld_17, bld_18]
  have hE : (x.fEntries.length + 65 * k + 65) * 48 ≤ 150000000000000 := by omega
  refine br_split (fun k0 => ?_) (fun k0 => ?_)
  · unfold sh8_7
    repeat' (first | (with_reducible refine drawC ?_) | (with_reducible refine drawW1 ?_) | (with_reducible refine drawW2 ?_) | (with_reducible refine keepC (by repeat (first | exact Ext.refl _ | assumption | refine Ext.trans ?_ (by assumption))) ?_) | (with_reducible refine newI (fun _ => ?_)) | first | (with_reducible refine rdb ?_) | ((with_reducible refine st1 ?_ ?_); rfl) | ((with_reducible refine rdB ?_ ?_); rfl) | (with_reducible refine rdbS ?_) | ((with_reducible refine rdBS ?_ ?_); rfl) | ((with_reducible refine stB ?_ ?_ ?_ ?_); rfl; rfl; exact one_all rfl) | ((with_reducible refine rdP _ rfl ?_ ?_); rfl) | ((with_reducible refine rdPS _ rfl ?_ ?_); rfl) | ((with_reducible refine stP _ rfl ?_ ?_ ?_ ?_); rfl; rfl; rfl) | (with_reducible refine And.intro ?_ ?_) | (simp only [Bool.not_true, Bool.not_false, Bool.and_self, Bool.true_and, Int.reduceBEq, Int.reduceBNe, Int.reduceLT, Int.reduceLE, decide_true, decide_false, Br_true, Br_false, Gd_tt, Gd_ft, Gd_tf, Gd_ff, beq_self_eq_true, bne_self_eq_false]) | (with_reducible refine gd_split (fun _ => ?_) (fun _ => ?_)) | (with_reducible refine br_split (fun _ => ?_) (fun _ => ?_)) | (simp only [Pv_some, fldV_p, nilV_p, nilV_f, lenV_s, capV_s, sLen, minV_i, maxV_i, strV_s, unV_not, unV_neg, pickV_t, pickV_f, exV_t, cvIV_i, binI_add, binI_sub, binI_mul, binI_eql, binI_neq, binI_lss, binI_leq, binI_gtr, binI_geq, binI_and, binI_or, binB_eql, binB_neq, sEq, sNe, sLt, sLe, sGt, sGe, stampEq, stampNe, fldv_agg, fldv_one, binP_eql_nil, binP_neq_nil, binN_eql_nil, binN_neq_nil, binN_eql_nn, binN_neq_nn, Br_true, Br_false, Gd_tt, Gd_ft, Gd_tf, Gd_ff, cells_agg, List.getElem?_toArray, List.getElem?_cons_zero, List.getElem?_cons_succ, Nat.zero_add, Nat.add_zero, Nat.zero_mul, List.drop_succ_cons, List.drop_zero, List.take_succ_cons, List.take_zero, List.nil_append, List.cons_append, Nat.reduceAdd, List.drop_nil, List.take_nil, bld_1, bld_2, bld_3, bld_4, bld_5, bld_6, bld_7, bld_8, bld_9, bld_10, bld_11, bld_12, bld_13, bld_14, bld_15, bld_16, bld_17, bld_18]))
    clear k0
    have hE1 : (x.fEntries.length + 65 * k + 1) * 48 ≤ 150000000000000 := Nat.le_trans (Nat.mul_le_mul_right 48 (Nat.add_le_add_left (by decide) _)) hE
    have hB1 : k ≤ 1000000 := Nat.le_trans hk200 (by decide)
    refine call (Cal.split X ?_)
    refine tick_spec hX hw hE1 hB1 ho (fun X' v I3 hI3 hv hX' => ?_)
    have q1 : RWF (x.fEntries.length + 65 * (k + 1)) (k + 1) (takeF (tickF r y.fN)) := (hw.tick (by omega) y.fN).take.weak (by omega) (by omega)
    have q2 : (takeF (tickF r y.fN)).out = [] := rfl
    have q3 : VoteOk r (takeF (tickF r y.fN)) := (vo_tick r y.fN).take
    generalize takeF (tickF r y.fN) = r' at *
    exact next r' inferInstance hI3 hX' q1 q2 q3
  unfold sh8_8
  have hE1 : (x.fEntries.length + 65 * k + 1) * 48 ≤ 150000000000000 := Nat.le_trans (Nat.mul_le_mul_right 48 (Nat.add_le_add_left (by decide) _)) hE
  have hE2 : (x.fEntries.length + 65 * k + 64) * 48 ≤ 150000000000000 := Nat.le_trans (Nat.mul_le_mul_right 48 (Nat.add_le_add_left (by decide) _)) hE
  have hB1 : k ≤ 1000000 := Nat.le_trans hk200 (by decide)
  have w1 : x.fEntries.length + 65 * k + 1 ≤ x.fEntries.length + 65 * (k + 1) := by rw [Nat.mul_add]; omega
  have w2 : x.fEntries.length + 65 * k + 64 ≤ x.fEntries.length + 65 * (k + 1) := by rw [Nat.mul_add]; omega
  have w3 : x.fEntries.length + 65 * k ≤ x.fEntries.length + 65 * (k + 1) := by rw [Nat.mul_add]; omega
  have l1 : y.fData.length ≤ 140737488355328 := by omega
  have l2 : y.fMembers.length < 4611686018427387904 := by omega
  have l3 : y.fM.fMembers.length < 4611686018427387904 := by omega
  try simp only [Pv_some, fldV_p, nilV_p, nilV_f, lenV_s, capV_s, sLen, minV_i, maxV_i, strV_s, unV_not, unV_neg, pickV_t, pickV_f, exV_t, cvIV_i, binI_add, binI_sub, binI_mul, binI_eql, binI_neq, binI_lss, binI_leq, binI_gtr, binI_geq, binI_and, binI_or, binB_eql, binB_neq, sEq, sNe, sLt, sLe, sGt, sGe, stampEq, stampNe, fldv_agg, fldv_one, binP_eql_nil, binP_neq_nil, binN_eql_nil, binN_neq_nil, binN_eql_nn, binN_neq_nn, Br_true, Br_false, Gd_tt, Gd_ft, Gd_tf, Gd_ff, cells_agg, List.getElem?_toArray, List.getElem?_cons_zero, List.getElem?_cons_succ, Nat.zero_add, Nat.add_zero, Nat.zero_mul, List.drop_succ_cons, List.drop_zero, List.take_succ_cons, List.take_zero, List.nil_append, List.cons_append, Nat.reduceAdd, List.drop_nil, List.take_nil, bld_1, bld_2, bld_3, bld_4, bld_5, bld_6, bld_7, bld_8, bld_9, bld_10, bld_11, bld_12, bld_13, bld_14, bld_15, bld_16, bld_17, bld_18]
  refine br_split (fun k1 => ?_) (fun k1 => ?_)
  · repeat' (first | (with_reducible refine drawC ?_) | (with_reducible refine drawW1 ?_) | (with_reducible refine drawW2 ?_) | (with_reducible refine keepC (by repeat (first | exact Ext.refl _ | assumption | refine Ext.trans ?_ (by assumption))) ?_) | (with_reducible refine newI (fun _ => ?_)) | first | (with_reducible refine rdb ?_) | ((with_reducible refine st1 ?_ ?_); rfl) | ((with_reducible refine rdB ?_ ?_); rfl) | (with_reducible refine rdbS ?_) | ((with_reducible refine rdBS ?_ ?_); rfl) | ((with_reducible refine stB ?_ ?_ ?_ ?_); rfl; rfl; exact one_all rfl) | ((with_reducible refine rdP _ rfl ?_ ?_); rfl) | ((with_reducible refine rdPS _ rfl ?_ ?_); rfl) | ((with_reducible refine stP _ rfl ?_ ?_ ?_ ?_); rfl; rfl; rfl) | (with_reducible refine And.intro ?_ ?_) | (simp only [Bool.not_true, Bool.not_false, Bool.and_self, Bool.true_and, Int.reduceBEq, Int.reduceBNe, Int.reduceLT, Int.reduceLE, decide_true, decide_false, Br_true, Br_false, Gd_tt, Gd_ft, Gd_tf, Gd_ff, beq_self_eq_true, bne_self_eq_false]) | (with_reducible refine gd_split (fun _ => ?_) (fun _ => ?_)) | (with_reducible refine br_split (fun _ => ?_) (fun _ => ?_)) | (simp only [Pv_some, fldV_p, nilV_p, nilV_f, lenV_s, capV_s, sLen, minV_i, maxV_i, strV_s, unV_not, unV_neg, pickV_t, pickV_f, exV_t, cvIV_i, binI_add, binI_sub, binI_mul, binI_eql, binI_neq, binI_lss, binI_leq, binI_gtr, binI_geq, binI_and, binI_or, binB_eql, binB_neq, sEq, sNe, sLt, sLe, sGt, sGe, stampEq, stampNe, fldv_agg, fldv_one, binP_eql_nil, binP_neq_nil, binN_eql_nil, binN_neq_nil, binN_eql_nn, binN_neq_nn, Br_true, Br_false, Gd_tt, Gd_ft, Gd_tf, Gd_ff, cells_agg, List.getElem?_toArray, List.getElem?_cons_zero, List.getElem?_cons_succ, Nat.zero_add, Nat.add_zero, Nat.zero_mul, List.drop_succ_cons, List.drop_zero, List.take_succ_cons, List.take_zero, List.nil_append, List.cons_append, Nat.reduceAdd, List.drop_nil, List.take_nil, bld_1, bld_2, bld_3, bld_4, bld_5, bld_6, bld_7, bld_8, bld_9, bld_10, bld_11, bld_12, bld_13, bld_14, bld_15, bld_16, bld_17, bld_18]))
    refine call (Cal.split X ?_)
    refine step_spec (m := toRM y.fM) hX hw hE2 ho hM l3 (fun X' v I3 hI3 hv hX' => ?_)
    have q1 : RWF (x.fEntries.length + 65 * (k + 1)) (k + 1) (takeF (stepF r (toRM y.fM)).2) := (hw.step hE2 _).take.weak w2 (Nat.le_succ _)
    have q3 : VoteOk r (takeF (stepF r (toRM y.fM)).2) := (vo_step r _).take
    have q2 : (takeF (stepF r (toRM y.fM)).2).out = [] := rfl
    generalize takeF (stepF r (toRM y.fM)).2 = r' at *
    exact next r' inferInstance hI3 hX' q1 q2 q3
  refine br_split (fun k2 => ?_) (fun k2 => ?_)
  · repeat' (first | (with_reducible refine drawC ?_) | (with_reducible refine drawW1 ?_) | (with_reducible refine drawW2 ?_) | (with_reducible refine keepC (by repeat (first | exact Ext.refl _ | assumption | refine Ext.trans ?_ (by assumption))) ?_) | (with_reducible refine newI (fun _ => ?_)) | first | (with_reducible refine rdb ?_) | ((with_reducible refine st1 ?_ ?_); rfl) | ((with_reducible refine rdB ?_ ?_); rfl) | (with_reducible refine rdbS ?_) | ((with_reducible refine rdBS ?_ ?_); rfl) | ((with_reducible refine stB ?_ ?_ ?_ ?_); rfl; rfl; exact one_all rfl) | ((with_reducible refine rdP _ rfl ?_ ?_); rfl) | ((with_reducible refine rdPS _ rfl ?_ ?_); rfl) | ((with_reducible refine stP _ rfl ?_ ?_ ?_ ?_); rfl; rfl; rfl) | (with_reducible refine And.intro ?_ ?_) | (simp only [Bool.not_true, Bool.not_false, Bool.and_self, Bool.true_and, Int.reduceBEq, Int.reduceBNe, Int.reduceLT, Int.reduceLE, decide_true, decide_false, Br_true, Br_false, Gd_tt, Gd_ft, Gd_tf, Gd_ff, beq_self_eq_true, bne_self_eq_false]) | (with_reducible refine gd_split (fun _ => ?_) (fun _ => ?_)) | (with_reducible refine br_split (fun _ => ?_) (fun _ => ?_)) | (simp only [Pv_some, fldV_p, nilV_p, nilV_f, lenV_s, capV_s, sLen, minV_i, maxV_i, strV_s, unV_not, unV_neg, pickV_t, pickV_f, exV_t, cvIV_i, binI_add, binI_sub, binI_mul, binI_eql, binI_neq, binI_lss, binI_leq, binI_gtr, binI_geq, binI_and, binI_or, binB_eql, binB_neq, sEq, sNe, sLt, sLe, sGt, sGe, stampEq, stampNe, fldv_agg, fldv_one, binP_eql_nil, binP_neq_nil, binN_eql_nil, binN_neq_nil, binN_eql_nn, binN_neq_nn, Br_true, Br_false, Gd_tt, Gd_ft, Gd_tf, Gd_ff, cells_agg, List.getElem?_toArray, List.getElem?_cons_zero, List.getElem?_cons_succ, Nat.zero_add, Nat.add_zero, Nat.zero_mul, List.drop_succ_cons, List.drop_zero, List.take_succ_cons, List.take_zero, List.nil_append, List.cons_append, Nat.reduceAdd, List.drop_nil, List.take_nil, bld_1, bld_2, bld_3, bld_4, bld_5, bld_6, bld_7, bld_8, bld_9, bld_10, bld_11, bld_12, bld_13, bld_14, bld_15, bld_16, bld_17, bld_18]))
    refine call (Cal.split X ?_)
    refine propose_spec (d := y.fData) hX hw hE1 ho k3 l1 (fun X' v I3 hI3 hv hX' => ?_)
    have q1 : RWF (x.fEntries.length + 65 * (k + 1)) (k + 1) (takeF (proposeF r y.fData).2.2) := (hw.propose hE1 _).take.weak w1 (Nat.le_succ _)
    have q3 : VoteOk r (takeF (proposeF r y.fData).2.2) := (vo_propose r _).take
    have q2 : (takeF (proposeF r y.fData).2.2).out = [] := rfl
    generalize takeF (proposeF r y.fData).2.2 = r' at *
    exact next r' inferInstance hI3 hX' q1 q2 q3
  refine br_split (fun k2 => ?_) (fun k2 => ?_)
  · repeat' (first | (with_reducible refine drawC ?_) | (with_reducible refine drawW1 ?_) | (with_reducible refine drawW2 ?_) | (with_reducible refine keepC (by repeat (first | exact Ext.refl _ | assumption | refine Ext.trans ?_ (by assumption))) ?_) | (with_reducible refine newI (fun _ => ?_)) | first | (with_reducible refine rdb ?_) | ((with_reducible refine st1 ?_ ?_); rfl) | ((with_reducible refine rdB ?_ ?_); rfl) | (with_reducible refine rdbS ?_) | ((with_reducible refine rdBS ?_ ?_); rfl) | ((with_reducible refine stB ?_ ?_ ?_ ?_); rfl; rfl; exact one_all rfl) | ((with_reducible refine rdP _ rfl ?_ ?_); rfl) | ((with_reducible refine rdPS _ rfl ?_ ?_); rfl) | ((with_reducible refine stP _ rfl ?_ ?_ ?_ ?_); rfl; rfl; rfl) | (with_reducible refine And.intro ?_ ?_) | (simp only [Bool.not_true, Bool.not_false, Bool.and_self, Bool.true_and, Int.reduceBEq, Int.reduceBNe, Int.reduceLT, Int.reduceLE, decide_true, decide_false, Br_true, Br_false, Gd_tt, Gd_ft, Gd_tf, Gd_ff, beq_self_eq_true, bne_self_eq_false]) | (with_reducible refine gd_split (fun _ => ?_) (fun _ => ?_)) | (with_reducible refine br_split (fun _ => ?_) (fun _ => ?_)) | (simp only [Pv_some, fldV_p, nilV_p, nilV_f, lenV_s, capV_s, sLen, minV_i, maxV_i, strV_s, unV_not, unV_neg, pickV_t, pickV_f, exV_t, cvIV_i, binI_add, binI_sub, binI_mul, binI_eql, binI_neq, binI_lss, binI_leq, binI_gtr, binI_geq, binI_and, binI_or, binB_eql, binB_neq, sEq, sNe, sLt, sLe, sGt, sGe, stampEq, stampNe, fldv_agg, fldv_one, binP_eql_nil, binP_neq_nil, binN_eql_nil, binN_neq_nil, binN_eql_nn, binN_neq_nn, Br_true, Br_false, Gd_tt, Gd_ft, Gd_tf, Gd_ff, cells_agg, List.getElem?_toArray, List.getElem?_cons_zero, List.getElem?_cons_succ, Nat.zero_add, Nat.add_zero, Nat.zero_mul, List.drop_succ_cons, List.drop_zero, List.take_succ_cons, List.take_zero, List.nil_append, List.cons_append, Nat.reduceAdd, List.drop_nil, List.take_nil, bld_1, bld_2, bld_3, bld_4, bld_5, bld_6, bld_7, bld_8, bld_9, bld_10, bld_11, bld_12, bld_13, bld_14, bld_15, bld_16, bld_17, bld_18]))
    refine call (Cal.split X ?_)
    refine change_spec (l := y.fMembers) hX hw hE1 ho k4 l2 (fun X' v I3 hI3 hv hX' => ?_)
    have q1 : RWF (x.fEntries.length + 65 * (k + 1)) (k + 1) (takeF (changeF r y.fMembers).2.2) := (hw.change hE1 _).take.weak w1 (Nat.le_succ _)
    have q3 : VoteOk r (takeF (changeF r y.fMembers).2.2) := (vo_change r _).take
    have q2 : (takeF (changeF r y.fMembers).2.2).out = [] := rfl
    generalize takeF (changeF r y.fMembers).2.2 = r' at *
    exact next r' inferInstance hI3 hX' q1 q2 q3
  refine br_split (fun k2 => ?_) (fun k2 => ?_)
  · repeat' (first | (with_reducible refine drawC ?_) | (with_reducible refine drawW1 ?_) | (with_reducible refine drawW2 ?_) | (with_reducible refine keepC (by repeat (first | exact Ext.refl _ | assumption | refine Ext.trans ?_ (by assumption))) ?_) | (with_reducible refine newI (fun _ => ?_)) | first | (with_reducible refine rdb ?_) | ((with_reducible refine st1 ?_ ?_); rfl) | ((with_reducible refine rdB ?_ ?_); rfl) | (with_reducible refine rdbS ?_) | ((with_reducible refine rdBS ?_ ?_); rfl) | ((with_reducible refine stB ?_ ?_ ?_ ?_); rfl; rfl; exact one_all rfl) | ((with_reducible refine rdP _ rfl ?_ ?_); rfl) | ((with_reducible refine rdPS _ rfl ?_ ?_); rfl) | ((with_reducible refine stP _ rfl ?_ ?_ ?_ ?_); rfl; rfl; rfl) | (with_reducible refine And.intro ?_ ?_) | (simp only [Bool.not_true, Bool.not_false, Bool.and_self, Bool.true_and, Int.reduceBEq, Int.reduceBNe, Int.reduceLT, Int.reduceLE, decide_true, decide_false, Br_true, Br_false, Gd_tt, Gd_ft, Gd_tf, Gd_ff, beq_self_eq_true, bne_self_eq_false]) | (with_reducible refine gd_split (fun _ => ?_) (fun _ => ?_)) | (with_reducible refine br_split (fun _ => ?_) (fun _ => ?_)) | (simp only [Pv_some, fldV_p, nilV_p, nilV_f, lenV_s, capV_s, sLen, minV_i, maxV_i, strV_s, unV_not, unV_neg, pickV_t, pickV_f, exV_t, cvIV_i, binI_add, binI_sub, binI_mul, binI_eql, binI_neq, binI_lss, binI_leq, binI_gtr, binI_geq, binI_and, binI_or, binB_eql, binB_neq, sEq, sNe, sLt, sLe, sGt, sGe, stampEq, stampNe, fldv_agg, fldv_one, binP_eql_nil, binP_neq_nil, binN_eql_nil, binN_neq_nil, binN_eql_nn, binN_neq_nn, Br_true, Br_false, Gd_tt, Gd_ft, Gd_tf, Gd_ff, cells_agg, List.getElem?_toArray, List.getElem?_cons_zero, List.getElem?_cons_succ, Nat.zero_add, Nat.add_zero, Nat.zero_mul, List.drop_succ_cons, List.drop_zero, List.take_succ_cons, List.take_zero, List.nil_append, List.cons_append, Nat.reduceAdd, List.drop_nil, List.take_nil, bld_1, bld_2, bld_3, bld_4, bld_5, bld_6, bld_7, bld_8, bld_9, bld_10, bld_11, bld_12, bld_13, bld_14, bld_15, bld_16, bld_17, bld_18]))
    refine call (Cal.split X ?_)
    refine compact_spec (i := y.fN) (d := y.fData) hX hw d2 k3 (by omega) (fun X' I3 hI3 hX' => ?_)
    have q1 : RWF (x.fEntries.length + 65 * (k + 1)) (k + 1) (compactF r y.fN y.fData).2 := (hw.compact _ _).weak w3 (Nat.le_succ _)
    have q3 : VoteOk r (compactF r y.fN y.fData).2 := vo_compact r _ _
    have q2 : (compactF r y.fN y.fData).2.out = [] := by
      unfold compactF; split
      · exact ho
      · simp only; split
        · exact ho
        · exact ho
    generalize (compactF r y.fN y.fData).2 = r' at *
    exact next r' inferInstance hI3 hX' q1 q2 q3
  refine br_split (fun k2 => ?_) (fun k2 => ?_)
  · exact absurd (by simpa using k2) h5
  · have q1 := hw.weak w3 (Nat.le_succ _)
    refine next r (b := b) (X' := X) ?_ (Ext.refl _) hX q1 ho (VoteOk.refl r)
    infer_instance
end
end Go.Proofs.Ytdcpeboecmkmlaa
