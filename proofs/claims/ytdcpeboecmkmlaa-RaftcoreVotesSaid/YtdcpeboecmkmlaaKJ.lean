/-
  The program's node: it wants to lead; time passes.
-/
-- S2
import Derived.Test.YtdcpeboecmkmlaaKI
set_option linter.unusedSimpArgs false
set_option linter.unusedVariables false
namespace Go.Proofs.Ytdcpeboecmkmlaa
open Go.SL
set_option maxRecDepth 10000

theorem ask_cons (r : RF) (p : Int) (l : List Int) : askF r (p :: l) = askF (if p = r.id then r else sendF r (voteM r p)) l := rfl
theorem ask_same : ∀ (l : List Int) (r : RF), (askF r l).out.length ≤ r.out.length + l.length ∧ { askF r l with out := [] } = { r with out := [] }
  | [], r => ⟨by simp [askF], rfl⟩
  | p :: l, r => by
    rw [ask_cons]
    split
    · have := ask_same l r; exact ⟨by simp only [List.length_cons]; omega, this.2⟩
    · have := ask_same l (sendF r (voteM r p))
      refine ⟨by simp only [List.length_cons, sendF, List.length_append, List.length_nil] at this ⊢; omega, this.2.trans rfl⟩
theorem ask_snoc (r : RF) (l : List Int) (p : Int) : askF r (l ++ [p]) = if p = (askF r l).id then askF r l else sendF (askF r l) (voteM (askF r l) p) := by
  unfold askF; rw [List.foldl_append]; rfl
theorem RWF.ask {E B : Nat} {r : RF} (h : RWF E B r) (l : List Int) : RWF E B (askF r l) := h.out (ask_same l r).2
theorem RWF.want0 {E B : Nat} {r : RF} (h : RWF E B r) (ht : r.term ≠ 9007199254740991) : RWF E B (want0 r) := by
  have h1 := h.trm
  have h2 := h.lst
  exact ⟨h.wf, h.len, h.grp, h.idn, by simp only [Go.Proofs.Ytdcpeboecmkmlaa.want0]; omega, .inr h.idn, by simp only [Go.Proofs.Ytdcpeboecmkmlaa.want0]; omega, h.stl, by simp [Go.Proofs.Ytdcpeboecmkmlaa.want0], h.nxb, h.mtb⟩
theorem RWF.want {E B : Nat} {r : RF} (h : RWF E B r) (hE : (E + 1) * 48 ≤ 150000000000000) : RWF (E + 1) B (wantF r) := by
  unfold wantF
  split
  · exact h.weak (by omega) (by omega)
  · rename_i ht
    split
    · exact (h.want0 ht).lead hE
    · exact ((h.want0 ht).ask _).weak (by omega) (by omega)
theorem want_out {E B : Nat} {r : RF} (h : RWF E B r) (hE : (E + 1) * 48 ≤ 150000000000000) : (wantF r).out.length ≤ r.out.length + 5 := by
  unfold wantF
  split
  · omega
  · rename_i ht
    split
    · exact lead_out (h.want0 ht) hE
    · have := (ask_same (mems r) (want0 r)).1
      have hm := memB_len h.wf.mems
      unfold mems at *
      exact Nat.le_trans this (by simp only [want0]; omega)

section
variable {ω : Om} {I : Imm} {L : LH} {K : Value → M}
theorem bldA6 : bldAV 1 #[(Value.bool false), (Value.bool false), (Value.bool false), (Value.bool false), (Value.bool false), (Value.bool false)] [] = some (.agg #[.bool false, .bool false, .bool false, .bool false, .bool false, .bool false]) := by rfl

theorem want_spec {b E B : Nat} {X F : LH} {r : RF} (h : RaftR I b X r) (hw : RWF E B r) (hE : (E + 1) * 48 ≤ 150000000000000) (hl : r.out.length ≤ 700)
    (hk : ∀ X' I', Ext I I' → RaftR I' b X' (wantF r) → K (.tuple #[]) I' (X' ++ F)) : Cal Try.prog ω 89 #[.pointer (some ⟨b, 0, none⟩)] K I (X ++ F) := by
  obtain ⟨lb, XL, XO, stv, ov, z0, z1, z2, oc, rfl, h1, h2, h3, h4⟩ := h
  have hmm := memB_mem hw.wf.mems
  have hml := memB_len hw.wf.mems
  have htr := hw.trm
  refine cal89 ?_
  unfold sh89
  simp only [List.cons_append, List.append_assoc, Pv_some, fldV_p, nilV_p, nilV_f, lenV_s, capV_s, sLen, minV_i, maxV_i, strV_s, unV_not, unV_neg, pickV_t, pickV_f, exV_t, cvIV_i, binI_add, binI_sub, binI_mul, binI_eql, binI_neq, binI_lss, binI_leq, binI_gtr, binI_geq, binI_and, binI_or, binB_eql, binB_neq, sEq, sNe, sLt, sLe, sGt, sGe, stampEq, stampNe, fldv_agg, fldv_one, binP_eql_nil, binP_neq_nil, binN_eql_nil, binN_neq_nil, binN_eql_nn, binN_neq_nn, Br_true, Br_false, Gd_tt, Gd_ft, Gd_tf, Gd_ff, cells_agg, List.getElem?_toArray, List.getElem?_cons_zero, List.getElem?_cons_succ, Nat.zero_add, Nat.add_zero, Nat.zero_mul, List.drop_succ_cons, List.drop_zero, List.take_succ_cons, List.take_zero, List.nil_append, List.cons_append, Nat.reduceAdd, List.drop_nil, List.take_nil, bld_1, bld_2, bld_3, bld_4, bld_5, bld_6, bld_7, bld_8, bld_9, bld_10, bld_11, bld_12, bld_13, bld_14, bld_15, bld_16, bld_17, bld_18]
  refine rdb ?_
  try simp only [Pv_some, fldV_p, nilV_p, nilV_f, lenV_s, capV_s, sLen, minV_i, maxV_i, strV_s, unV_not, unV_neg, pickV_t, pickV_f, exV_t, cvIV_i, binI_add, binI_sub, binI_mul, binI_eql, binI_neq, binI_lss, binI_leq, binI_gtr, binI_geq, binI_and, binI_or, binB_eql, binB_neq, sEq, sNe, sLt, sLe, sGt, sGe, stampEq, stampNe, fldv_agg, fldv_one, binP_eql_nil, binP_neq_nil, binN_eql_nil, binN_neq_nil, binN_eql_nn, binN_neq_nn, Br_true, Br_false, Gd_tt, Gd_ft, Gd_tf, Gd_ff, cells_agg, List.getElem?_toArray, List.getElem?_cons_zero, List.getElem?_cons_succ, Nat.zero_add, Nat.add_zero, Nat.zero_mul, List.drop_succ_cons, List.drop_zero, List.take_succ_cons, List.take_zero, List.nil_append, List.cons_append, Nat.reduceAdd, List.drop_nil, List.take_nil, bld_1, bld_2, bld_3, bld_4, bld_5, bld_6, bld_7, bld_8, bld_9, bld_10, bld_11, bld_12, bld_13, bld_14, bld_15, bld_16, bld_17, bld_18]
  refine br_split (fun ht => ?_) (fun ht => ?_)
  · simp at ht
    rw [wantF, if_pos ht] at hk
    exact raft_end (F := F) z0 z1 z2 (fun X' h' => hk X' I (Ext.refl I) h') h1 h2 h3 h4 rfl
  simp at ht
  rw [wantF, if_neg ht] at hk
  have hw0 := hw.want0 ht
  repeat' (first | (with_reducible refine drawC ?_) | (with_reducible refine drawW1 ?_) | (with_reducible refine drawW2 ?_) | (with_reducible refine keepC (by repeat (first | exact Ext.refl _ | assumption | refine Ext.trans ?_ (by assumption))) ?_) | (with_reducible refine newI (fun _ => ?_)) | first | (with_reducible refine rdb ?_) | ((with_reducible refine st1 ?_ ?_); rfl) | ((with_reducible refine rdB ?_ ?_); rfl) | (with_reducible refine rdbS ?_) | ((with_reducible refine rdBS ?_ ?_); rfl) | ((with_reducible refine stB ?_ ?_ ?_ ?_); rfl; rfl; exact one_all rfl) | ((with_reducible refine rdP _ rfl ?_ ?_); rfl) | ((with_reducible refine rdPS _ rfl ?_ ?_); rfl) | ((with_reducible refine stP _ rfl ?_ ?_ ?_ ?_); rfl; rfl; rfl) | (with_reducible refine And.intro ?_ ?_) | (simp only [Bool.not_true, Bool.not_false, Bool.and_self, Bool.true_and, Int.reduceBEq, Int.reduceBNe, Int.reduceLT, Int.reduceLE, decide_true, decide_false, Br_true, Br_false, Gd_tt, Gd_ft, Gd_tf, Gd_ff, beq_self_eq_true, bne_self_eq_false]) | (with_reducible refine gd_split (fun _ => ?_) (fun _ => ?_)) | (with_reducible refine br_split (fun _ => ?_) (fun _ => ?_)) | (simp only [Pv_some, fldV_p, nilV_p, nilV_f, lenV_s, capV_s, sLen, minV_i, maxV_i, strV_s, unV_not, unV_neg, pickV_t, pickV_f, exV_t, cvIV_i, binI_add, binI_sub, binI_mul, binI_eql, binI_neq, binI_lss, binI_leq, binI_gtr, binI_geq, binI_and, binI_or, binB_eql, binB_neq, sEq, sNe, sLt, sLe, sGt, sGe, stampEq, stampNe, fldv_agg, fldv_one, binP_eql_nil, binP_neq_nil, binN_eql_nil, binN_neq_nil, binN_eql_nn, binN_neq_nn, Br_true, Br_false, Gd_tt, Gd_ft, Gd_tf, Gd_ff, cells_agg, List.getElem?_toArray, List.getElem?_cons_zero, List.getElem?_cons_succ, Nat.zero_add, Nat.add_zero, Nat.zero_mul, List.drop_succ_cons, List.drop_zero, List.take_succ_cons, List.take_zero, List.nil_append, List.cons_append, Nat.reduceAdd, List.drop_nil, List.take_nil, bld_1, bld_2, bld_3, bld_4, bld_5, bld_6, bld_7, bld_8, bld_9, bld_10, bld_11, bld_12, bld_13, bld_14, bld_15, bld_16, bld_17, bld_18, wrap_i64 (r.term + 1) (by omega), bldA6]))
  simp only [ixPV_at _ (show 0 ≤ r.id by have := hw.idn; omega) (show r.id < ((6 : Nat) : Int) by have := hw.idn; omega), Pv_some, fldV_p, nilV_p, nilV_f, lenV_s, capV_s, sLen, minV_i, maxV_i, strV_s, unV_not, unV_neg, pickV_t, pickV_f, exV_t, cvIV_i, binI_add, binI_sub, binI_mul, binI_eql, binI_neq, binI_lss, binI_leq, binI_gtr, binI_geq, binI_and, binI_or, binB_eql, binB_neq, sEq, sNe, sLt, sLe, sGt, sGe, stampEq, stampNe, fldv_agg, fldv_one, binP_eql_nil, binP_neq_nil, binN_eql_nil, binN_neq_nil, binN_eql_nn, binN_neq_nn, Br_true, Br_false, Gd_tt, Gd_ft, Gd_tf, Gd_ff, cells_agg, List.getElem?_toArray, List.getElem?_cons_zero, List.getElem?_cons_succ, Nat.zero_add, Nat.add_zero, Nat.zero_mul, List.drop_succ_cons, List.drop_zero, List.take_succ_cons, List.take_zero, List.nil_append, List.cons_append, Nat.reduceAdd, List.drop_nil, List.take_nil, bld_1, bld_2, bld_3, bld_4, bld_5, bld_6, bld_7, bld_8, bld_9, bld_10, bld_11, bld_12, bld_13, bld_14, bld_15, bld_16, bld_17, bld_18]
  refine stL (l' := rcells (want0 r) false z1 z2 (.pointer (some ⟨lb, 0, none⟩)) stv ov) ?_ ?_ rfl ?_
  · have h5 := hw.idn
    rcases five hw.idn with e | e | e | e | e <;> rw [e] <;> simp [rcells, want0, e]
  · have h5 := hw.idn
    simp; omega
  refine call (raft_cal (r := want0 r) b F false z1 z2 h1 h2 h3 h4 rfl (fun X hX => ?_))
  refine elected_spec hX hw0 hE (by simp only [want0]; omega) (fun X' I1 hI1 hX' => ?_)
  refine br_split (fun he => ?_) (fun he => ?_)
  · simp only [he, if_true] at hX' hk
    exact Gh.done (hk X' I1 hI1 hX')
  simp only [he, Bool.false_eq_true, if_false] at hX' hk
  clear h1 h2 h3 h4
  have hRR := hX'
  obtain ⟨lb, XL, XO, stv, ov, z0, z1, z2, oc, rfl, h1, h2, h3, h4⟩ := hX'
  simp only [List.cons_append, List.append_assoc, Pv_some, fldV_p, nilV_p, nilV_f, lenV_s, capV_s, sLen, minV_i, maxV_i, strV_s, unV_not, unV_neg, pickV_t, pickV_f, exV_t, cvIV_i, binI_add, binI_sub, binI_mul, binI_eql, binI_neq, binI_lss, binI_leq, binI_gtr, binI_geq, binI_and, binI_or, binB_eql, binB_neq, sEq, sNe, sLt, sLe, sGt, sGe, stampEq, stampNe, fldv_agg, fldv_one, binP_eql_nil, binP_neq_nil, binN_eql_nil, binN_neq_nil, binN_eql_nn, binN_neq_nn, Br_true, Br_false, Gd_tt, Gd_ft, Gd_tf, Gd_ff, cells_agg, List.getElem?_toArray, List.getElem?_cons_zero, List.getElem?_cons_succ, Nat.zero_add, Nat.add_zero, Nat.zero_mul, List.drop_succ_cons, List.drop_zero, List.take_succ_cons, List.take_zero, List.nil_append, List.cons_append, Nat.reduceAdd, List.drop_nil, List.take_nil, bld_1, bld_2, bld_3, bld_4, bld_5, bld_6, bld_7, bld_8, bld_9, bld_10, bld_11, bld_12, bld_13, bld_14, bld_15, bld_16, bld_17, bld_18]
  refine rdb ?_
  refine call (last_spec h1.view hw0.wf ?_)
  try simp only [Pv_some, fldV_p, nilV_p, nilV_f, lenV_s, capV_s, sLen, minV_i, maxV_i, strV_s, unV_not, unV_neg, pickV_t, pickV_f, exV_t, cvIV_i, binI_add, binI_sub, binI_mul, binI_eql, binI_neq, binI_lss, binI_leq, binI_gtr, binI_geq, binI_and, binI_or, binB_eql, binB_neq, sEq, sNe, sLt, sLe, sGt, sGe, stampEq, stampNe, fldv_agg, fldv_one, binP_eql_nil, binP_neq_nil, binN_eql_nil, binN_neq_nil, binN_eql_nn, binN_neq_nn, Br_true, Br_false, Gd_tt, Gd_ft, Gd_tf, Gd_ff, cells_agg, List.getElem?_toArray, List.getElem?_cons_zero, List.getElem?_cons_succ, Nat.zero_add, Nat.add_zero, Nat.zero_mul, List.drop_succ_cons, List.drop_zero, List.take_succ_cons, List.take_zero, List.nil_append, List.cons_append, Nat.reduceAdd, List.drop_nil, List.take_nil, bld_1, bld_2, bld_3, bld_4, bld_5, bld_6, bld_7, bld_8, bld_9, bld_10, bld_11, bld_12, bld_13, bld_14, bld_15, bld_16, bld_17, bld_18]
  refine rdb ?_
  refine call (lmembers_spec h1.view hw0.wf (fun v I2 hI2 hv => ?_))
  rw [show (want0 r).g = r.g from rfl] at *
  rw [show mems r = memOf r.g.mem r.g.es from rfl] at hk
  generalize memOf r.g.mem r.g.es = l at *
  have hln := Ints.len hv
  simp only [hln, Pv_some, fldV_p, nilV_p, nilV_f, lenV_s, capV_s, sLen, minV_i, maxV_i, strV_s, unV_not, unV_neg, pickV_t, pickV_f, exV_t, cvIV_i, binI_add, binI_sub, binI_mul, binI_eql, binI_neq, binI_lss, binI_leq, binI_gtr, binI_geq, binI_and, binI_or, binB_eql, binB_neq, sEq, sNe, sLt, sLe, sGt, sGe, stampEq, stampNe, fldv_agg, fldv_one, binP_eql_nil, binP_neq_nil, binN_eql_nil, binN_neq_nil, binN_eql_nn, binN_neq_nn, Br_true, Br_false, Gd_tt, Gd_ft, Gd_tf, Gd_ff, cells_agg, List.getElem?_toArray, List.getElem?_cons_zero, List.getElem?_cons_succ, Nat.zero_add, Nat.add_zero, Nat.zero_mul, List.drop_succ_cons, List.drop_zero, List.take_succ_cons, List.take_zero, List.nil_append, List.cons_append, Nat.reduceAdd, List.drop_nil, List.take_nil, bld_1, bld_2, bld_3, bld_4, bld_5, bld_6, bld_7, bld_8, bld_9, bld_10, bld_11, bld_12, bld_13, bld_14, bld_15, bld_16, bld_17, bld_18]
  refine loop (fun m s I' L' => Ext I2 I' ∧ ∃ (k : Nat) (X' : LH), k + m = l.length ∧ s = (.int .i64 k, ()) ∧ RaftR I' b X' (askF (want0 r) (l.take k)) ∧ L' = X' ++ F) l.length ⟨Ext.refl _, 0, _, by omega, rfl, hRR.mono hI2, by simp only [List.cons_append, List.append_assoc]⟩ ?_
  clear h1 h2 h3 h4 hRR
  rintro m s I' L' ⟨hI, k, X', hkm, rfl, hR, rfl⟩
  unfold sh89_2
  try simp only [Pv_some, fldV_p, nilV_p, nilV_f, lenV_s, capV_s, sLen, minV_i, maxV_i, strV_s, unV_not, unV_neg, pickV_t, pickV_f, exV_t, cvIV_i, binI_add, binI_sub, binI_mul, binI_eql, binI_neq, binI_lss, binI_leq, binI_gtr, binI_geq, binI_and, binI_or, binB_eql, binB_neq, sEq, sNe, sLt, sLe, sGt, sGe, stampEq, stampNe, fldv_agg, fldv_one, binP_eql_nil, binP_neq_nil, binN_eql_nil, binN_neq_nil, binN_eql_nn, binN_neq_nn, Br_true, Br_false, Gd_tt, Gd_ft, Gd_tf, Gd_ff, cells_agg, List.getElem?_toArray, List.getElem?_cons_zero, List.getElem?_cons_succ, Nat.zero_add, Nat.add_zero, Nat.zero_mul, List.drop_succ_cons, List.drop_zero, List.take_succ_cons, List.take_zero, List.nil_append, List.cons_append, Nat.reduceAdd, List.drop_nil, List.take_nil, bld_1, bld_2, bld_3, bld_4, bld_5, bld_6, bld_7, bld_8, bld_9, bld_10, bld_11, bld_12, bld_13, bld_14, bld_15, bld_16, bld_17, bld_18]
  refine br_split (fun hlt => ?_) (fun hlt => ?_)
  · simp at hlt
    obtain ⟨b2, off, hix, hc2⟩ := ints_at hv (i := k) (by omega) (by omega)
    simp only [hix, Pv_some, fldV_p, nilV_p, nilV_f, lenV_s, capV_s, sLen, minV_i, maxV_i, strV_s, unV_not, unV_neg, pickV_t, pickV_f, exV_t, cvIV_i, binI_add, binI_sub, binI_mul, binI_eql, binI_neq, binI_lss, binI_leq, binI_gtr, binI_geq, binI_and, binI_or, binB_eql, binB_neq, sEq, sNe, sLt, sLe, sGt, sGe, stampEq, stampNe, fldv_agg, fldv_one, binP_eql_nil, binP_neq_nil, binN_eql_nil, binN_neq_nil, binN_eql_nn, binN_neq_nn, Br_true, Br_false, Gd_tt, Gd_ft, Gd_tf, Gd_ff, cells_agg, List.getElem?_toArray, List.getElem?_cons_zero, List.getElem?_cons_succ, Nat.zero_add, Nat.add_zero, Nat.zero_mul, List.drop_succ_cons, List.drop_zero, List.take_succ_cons, List.take_zero, List.nil_append, List.cons_append, Nat.reduceAdd, List.drop_nil, List.take_nil, bld_1, bld_2, bld_3, bld_4, bld_5, bld_6, bld_7, bld_8, bld_9, bld_10, bld_11, bld_12, bld_13, bld_14, bld_15, bld_16, bld_17, bld_18]
    refine rd1 (hc2 I' _ hI) ?_
    obtain ⟨lb, XL, XO, stv, ov, z0, z1, z2, oc, rfl, h1, h2, h3, h4⟩ := hR
    simp only [List.cons_append, List.append_assoc, Pv_some, fldV_p, nilV_p, nilV_f, lenV_s, capV_s, sLen, minV_i, maxV_i, strV_s, unV_not, unV_neg, pickV_t, pickV_f, exV_t, cvIV_i, binI_add, binI_sub, binI_mul, binI_eql, binI_neq, binI_lss, binI_leq, binI_gtr, binI_geq, binI_and, binI_or, binB_eql, binB_neq, sEq, sNe, sLt, sLe, sGt, sGe, stampEq, stampNe, fldv_agg, fldv_one, binP_eql_nil, binP_neq_nil, binN_eql_nil, binN_neq_nil, binN_eql_nn, binN_neq_nn, Br_true, Br_false, Gd_tt, Gd_ft, Gd_tf, Gd_ff, cells_agg, List.getElem?_toArray, List.getElem?_cons_zero, List.getElem?_cons_succ, Nat.zero_add, Nat.add_zero, Nat.zero_mul, List.drop_succ_cons, List.drop_zero, List.take_succ_cons, List.take_zero, List.nil_append, List.cons_append, Nat.reduceAdd, List.drop_nil, List.take_nil, bld_1, bld_2, bld_3, bld_4, bld_5, bld_6, bld_7, bld_8, bld_9, bld_10, bld_11, bld_12, bld_13, bld_14, bld_15, bld_16, bld_17, bld_18]
    refine rdb ?_
    have hs := ask_same (l.take k) (want0 r)
    have ht := take_geti hlt
    have hid := (RF.ext_out hs.2).2.1
    have hg := (RF.ext_out hs.2).1
    have hn := ask_snoc (want0 r) (l.take k) (geti l (k : Int))
    rw [← ht] at hn
    try simp only [Pv_some, fldV_p, nilV_p, nilV_f, lenV_s, capV_s, sLen, minV_i, maxV_i, strV_s, unV_not, unV_neg, pickV_t, pickV_f, exV_t, cvIV_i, binI_add, binI_sub, binI_mul, binI_eql, binI_neq, binI_lss, binI_leq, binI_gtr, binI_geq, binI_and, binI_or, binB_eql, binB_neq, sEq, sNe, sLt, sLe, sGt, sGe, stampEq, stampNe, fldv_agg, fldv_one, binP_eql_nil, binP_neq_nil, binN_eql_nil, binN_neq_nil, binN_eql_nn, binN_neq_nn, Br_true, Br_false, Gd_tt, Gd_ft, Gd_tf, Gd_ff, cells_agg, List.getElem?_toArray, List.getElem?_cons_zero, List.getElem?_cons_succ, Nat.zero_add, Nat.add_zero, Nat.zero_mul, List.drop_succ_cons, List.drop_zero, List.take_succ_cons, List.take_zero, List.nil_append, List.cons_append, Nat.reduceAdd, List.drop_nil, List.take_nil, bld_1, bld_2, bld_3, bld_4, bld_5, bld_6, bld_7, bld_8, bld_9, bld_10, bld_11, bld_12, bld_13, bld_14, bld_15, bld_16, bld_17, bld_18]
    refine br_split (fun hq => ?_) (fun hq => ?_)
    · simp at hq
      rw [if_neg hq] at hn
      try simp only [Pv_some, fldV_p, nilV_p, nilV_f, lenV_s, capV_s, sLen, minV_i, maxV_i, strV_s, unV_not, unV_neg, pickV_t, pickV_f, exV_t, cvIV_i, binI_add, binI_sub, binI_mul, binI_eql, binI_neq, binI_lss, binI_leq, binI_gtr, binI_geq, binI_and, binI_or, binB_eql, binB_neq, sEq, sNe, sLt, sLe, sGt, sGe, stampEq, stampNe, fldv_agg, fldv_one, binP_eql_nil, binP_neq_nil, binN_eql_nil, binN_neq_nil, binN_eql_nn, binN_neq_nn, Br_true, Br_false, Gd_tt, Gd_ft, Gd_tf, Gd_ff, cells_agg, List.getElem?_toArray, List.getElem?_cons_zero, List.getElem?_cons_succ, Nat.zero_add, Nat.add_zero, Nat.zero_mul, List.drop_succ_cons, List.drop_zero, List.take_succ_cons, List.take_zero, List.nil_append, List.cons_append, Nat.reduceAdd, List.drop_nil, List.take_nil, bld_1, bld_2, bld_3, bld_4, bld_5, bld_6, bld_7, bld_8, bld_9, bld_10, bld_11, bld_12, bld_13, bld_14, bld_15, bld_16, bld_17, bld_18]
      refine call (raft_cal (r := askF (want0 r) (l.take k)) b F z0 z1 z2 h1 h2 h3 h4 rfl (fun X hX => ?_))
      refine send_spec (m := voteM (askF (want0 r) (l.take k)) (geti l (k : Int))) hX ⟨_, _, _, by simp only [voteM, hg]; rfl, RL.nil _ _, SlI.nil _ _ _ _, SlI.nil _ _ _ _⟩ (by have h5 := hs.1; rw [show (want0 r).out = r.out from rfl, List.length_take] at h5; omega) (fun X' hX' => ?_)
      unfold sh89_3
      simp only [Pv_some, fldV_p, nilV_p, nilV_f, lenV_s, capV_s, sLen, minV_i, maxV_i, strV_s, unV_not, unV_neg, pickV_t, pickV_f, exV_t, cvIV_i, binI_add, binI_sub, binI_mul, binI_eql, binI_neq, binI_lss, binI_leq, binI_gtr, binI_geq, binI_and, binI_or, binB_eql, binB_neq, sEq, sNe, sLt, sLe, sGt, sGe, stampEq, stampNe, fldv_agg, fldv_one, binP_eql_nil, binP_neq_nil, binN_eql_nil, binN_neq_nil, binN_eql_nn, binN_neq_nn, Br_true, Br_false, Gd_tt, Gd_ft, Gd_tf, Gd_ff, cells_agg, List.getElem?_toArray, List.getElem?_cons_zero, List.getElem?_cons_succ, Nat.zero_add, Nat.add_zero, Nat.zero_mul, List.drop_succ_cons, List.drop_zero, List.take_succ_cons, List.take_zero, List.nil_append, List.cons_append, Nat.reduceAdd, List.drop_nil, List.take_nil, bld_1, bld_2, bld_3, bld_4, bld_5, bld_6, bld_7, bld_8, bld_9, bld_10, bld_11, bld_12, bld_13, bld_14, bld_15, bld_16, bld_17, bld_18, wrap_i64 ((k : Int) + 1) (by omega)]
      exact Gh.done ⟨m - 1, by omega, hI, k + 1, X', by omega, by simp, by rw [hn]; exact hX', rfl⟩
    · simp at hq
      rw [if_pos hq] at hn
      unfold sh89_3
      simp only [Pv_some, fldV_p, nilV_p, nilV_f, lenV_s, capV_s, sLen, minV_i, maxV_i, strV_s, unV_not, unV_neg, pickV_t, pickV_f, exV_t, cvIV_i, binI_add, binI_sub, binI_mul, binI_eql, binI_neq, binI_lss, binI_leq, binI_gtr, binI_geq, binI_and, binI_or, binB_eql, binB_neq, sEq, sNe, sLt, sLe, sGt, sGe, stampEq, stampNe, fldv_agg, fldv_one, binP_eql_nil, binP_neq_nil, binN_eql_nil, binN_neq_nil, binN_eql_nn, binN_neq_nn, Br_true, Br_false, Gd_tt, Gd_ft, Gd_tf, Gd_ff, cells_agg, List.getElem?_toArray, List.getElem?_cons_zero, List.getElem?_cons_succ, Nat.zero_add, Nat.add_zero, Nat.zero_mul, List.drop_succ_cons, List.drop_zero, List.take_succ_cons, List.take_zero, List.nil_append, List.cons_append, Nat.reduceAdd, List.drop_nil, List.take_nil, bld_1, bld_2, bld_3, bld_4, bld_5, bld_6, bld_7, bld_8, bld_9, bld_10, bld_11, bld_12, bld_13, bld_14, bld_15, bld_16, bld_17, bld_18, wrap_i64 ((k : Int) + 1) (by omega)]
      refine Gh.done ⟨m - 1, by omega, hI, k + 1, (b, Obj.cells (rcells (askF (want0 r) (l.take k)) z0 z1 z2 (.pointer (some ⟨lb, 0, none⟩)) stv ov).toArray 131 (0, 0)) :: (XL ++ XO), by omega, by simp, ?_, ?_⟩
      · rw [hn]; exact ⟨lb, XL, XO, stv, ov, z0, z1, z2, oc, rfl, h1, h2, h3, h4⟩
      · simp only [List.cons_append, List.append_assoc]
  · simp at hlt
    rw [List.take_of_length_le (by omega)] at hR
    exact Gh.done (hk X' I' ((hI1.trans hI2).trans hI) hR)
end
end Go.Proofs.Ytdcpeboecmkmlaa
