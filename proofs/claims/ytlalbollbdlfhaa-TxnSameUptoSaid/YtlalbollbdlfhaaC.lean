/-
  The ranges that a fresh table has, and copies of them.
-/
-- S2
import Derived.Test.YtlalbollbdlfhaaB
set_option linter.unusedSimpArgs false
set_option linter.unusedVariables false
namespace Go.Proofs.Ytlalbollbdlfhaa
open Go.SL
set_option maxRecDepth 10000

def wholeR : List TRange := [⟨1, ⟨[], []⟩, 1⟩]
section
variable {ω : Om} {I : Imm} {L : LH} {K : Value → M}

theorem rown_spec {x : TRange} {c : List Value} (h : TRangeV I x c) (hl : rngOk x) (hk : ∀ c' I', Ext I I' → TRangeV I' x c' → K (.agg c'.toArray) I' L) : Cal Try.prog ω 74 #[.agg c.toArray] K I L := by
  obtain ⟨v0, v1, rfl, h0, h1⟩ := h
  refine cal74 ?_
  unfold sh74
  obtain ⟨a0, p0, rfl⟩ := Bytes.form h0
  obtain ⟨a1, p1, rfl⟩ := Bytes.form h1
  repeat' (first | (with_reducible refine drawC ?_) | (with_reducible refine drawW1 ?_) | (with_reducible refine drawW2 ?_) | (with_reducible refine keepC (by repeat (first | exact Ext.refl _ | assumption | refine Ext.trans ?_ (by assumption))) ?_) | (with_reducible refine newI (fun _ => ?_)) | ((with_reducible refine call ?_); refine (rcopied_spec (x := x.fSpan) ⟨_, _, rfl, h0, h1⟩ hl (fun c' I2 hI2 hc' => ?_)); obtain ⟨_, _, _, _, rfl, w0, w1⟩ := hc'.form) | first | (with_reducible refine rdb ?_) | ((with_reducible refine st1 ?_ ?_); rfl) | ((with_reducible refine rdB ?_ ?_); rfl) | (with_reducible refine rdbS ?_) | ((with_reducible refine rdBS ?_ ?_); rfl) | ((with_reducible refine stB ?_ ?_ ?_ ?_); rfl; rfl; exact one_all rfl) | ((with_reducible refine rdP _ rfl ?_ ?_); rfl) | ((with_reducible refine rdPS _ rfl ?_ ?_); rfl) | ((with_reducible refine stP _ rfl ?_ ?_ ?_ ?_); rfl; rfl; rfl) | (with_reducible refine And.intro ?_ ?_) | (simp only [Bool.not_true, Bool.not_false, Br_true, Br_false, Gd_tt, Gd_ft, Gd_tf, Gd_ff, beq_self_eq_true, bne_self_eq_false]) | (with_reducible refine gd_split (fun _ => ?_) (fun _ => ?_)) | (with_reducible refine br_split (fun _ => ?_) (fun _ => ?_)) | (simp only [Pv_some, fldV_p, nilV_p, nilV_f, lenV_s, capV_s, sLen, minV_i, maxV_i, strV_s, unV_not, unV_neg, pickV_t, pickV_f, exV_t, cvIV_i, binI_add, binI_sub, binI_mul, binI_eql, binI_neq, binI_lss, binI_leq, binI_gtr, binI_geq, binI_and, binI_or, binB_eql, binB_neq, sEq, sNe, sLt, sLe, sGt, sGe, stampEq, stampNe, fldv_agg, fldv_one, binP_eql_nil, binP_neq_nil, binN_eql_nil, binN_neq_nil, binN_eql_nn, binN_neq_nn, Br_true, Br_false, Gd_tt, Gd_ft, Gd_tf, Gd_ff, cells_agg, List.getElem?_toArray, List.getElem?_cons_zero, List.getElem?_cons_succ, Nat.zero_add, Nat.add_zero, Nat.zero_mul, List.drop_succ_cons, List.drop_zero, List.take_succ_cons, List.take_zero, List.nil_append, List.cons_append, Nat.reduceAdd, List.drop_nil, List.take_nil, bld_1, bld_2, bld_3, bld_4, bld_5, bld_6, bld_7, bld_8, bld_9, bld_10, bld_11, bld_12, bld_13, bld_14, bld_15, bld_16, bld_17, bld_18, bld_19, bld_20, bld_21, bld_22, bld_23, bld_24, bld_25, bld_26, bld_27, bld_28]))
  exact Gh.to L (Gh.done (hk _ _ (by repeat (first | exact Ext.refl _ | assumption | refine Ext.trans ?_ (by assumption))) ⟨_, _, rfl, w0, w1⟩))
theorem rowned_spec {v : Value} {ls : List TRange} (h : Rngs I v ls) (hb : ∀ r ∈ ls, rngOk r) (hlen : ls.length * 64 ≤ 140737488355328) (hk : ∀ v' I', Ext I I' → Rngs I' v' ls → K v' I' L) : Cal Try.prog ω 62 #[v] K I L := by
  refine cal62 ?_
  have hln := RL.len h
  unfold sh62
  simp only [hln, Pv_some, fldV_p, nilV_p, nilV_f, lenV_s, capV_s, sLen, minV_i, maxV_i, strV_s, unV_not, unV_neg, pickV_t, pickV_f, exV_t, cvIV_i, binI_add, binI_sub, binI_mul, binI_eql, binI_neq, binI_lss, binI_leq, binI_gtr, binI_geq, binI_and, binI_or, binB_eql, binB_neq, sEq, sNe, sLt, sLe, sGt, sGe, stampEq, stampNe, fldv_agg, fldv_one, binP_eql_nil, binP_neq_nil, binN_eql_nil, binN_neq_nil, binN_eql_nn, binN_neq_nn, Br_true, Br_false, Gd_tt, Gd_ft, Gd_tf, Gd_ff, cells_agg, List.getElem?_toArray, List.getElem?_cons_zero, List.getElem?_cons_succ, Nat.zero_add, Nat.add_zero, Nat.zero_mul, List.drop_succ_cons, List.drop_zero, List.take_succ_cons, List.take_zero, List.nil_append, List.cons_append, Nat.reduceAdd, List.drop_nil, List.take_nil, bld_1, bld_2, bld_3, bld_4, bld_5, bld_6, bld_7, bld_8, bld_9, bld_10, bld_11, bld_12, bld_13, bld_14, bld_15, bld_16, bld_17, bld_18, bld_19, bld_20, bld_21, bld_22, bld_23, bld_24, bld_25, bld_26, bld_27, bld_28]
  refine mk_own (ln := 0) (by omega) (by omega) (by omega) (fun X w hX => ?_)
  refine loop (fun m s I' L' => Ext I I' ∧ ∃ (k : Nat) (w : Value) (X6 : LH) (cells : List Value), k + m = ls.length ∧ s = (w, .int .i64 k, ()) ∧ SlO 81 4 X6 w cells (ls.take k).length ∧ Recs (TRangeV I') 4 (ls.take k) cells ∧ L' = X6 ++ L) ls.length ⟨Ext.refl I, 0, w, X, _, by omega, rfl, by simpa [Builtin.zeroCells] using hX, rfl, rfl⟩ ?_
  rintro m s I' L' ⟨hI, k, w, X6, cells, hkm, rfl, h6, hR, rfl⟩
  unfold sh62_3
  try simp only [Pv_some, fldV_p, nilV_p, nilV_f, lenV_s, capV_s, sLen, minV_i, maxV_i, strV_s, unV_not, unV_neg, pickV_t, pickV_f, exV_t, cvIV_i, binI_add, binI_sub, binI_mul, binI_eql, binI_neq, binI_lss, binI_leq, binI_gtr, binI_geq, binI_and, binI_or, binB_eql, binB_neq, sEq, sNe, sLt, sLe, sGt, sGe, stampEq, stampNe, fldv_agg, fldv_one, binP_eql_nil, binP_neq_nil, binN_eql_nil, binN_neq_nil, binN_eql_nn, binN_neq_nn, Br_true, Br_false, Gd_tt, Gd_ft, Gd_tf, Gd_ff, cells_agg, List.getElem?_toArray, List.getElem?_cons_zero, List.getElem?_cons_succ, Nat.zero_add, Nat.add_zero, Nat.zero_mul, List.drop_succ_cons, List.drop_zero, List.take_succ_cons, List.take_zero, List.nil_append, List.cons_append, Nat.reduceAdd, List.drop_nil, List.take_nil, bld_1, bld_2, bld_3, bld_4, bld_5, bld_6, bld_7, bld_8, bld_9, bld_10, bld_11, bld_12, bld_13, bld_14, bld_15, bld_16, bld_17, bld_18, bld_19, bld_20, bld_21, bld_22, bld_23, bld_24, bld_25, bld_26, bld_27, bld_28]
  refine br_split (fun hlt => ?_) (fun hlt => ?_)
  · simp at hlt
    obtain ⟨b, off, c, hix, hcl, hr, hc⟩ := RL.ix h (i := k) (by omega) (by omega)
    obtain ⟨r0, r1, rfl, q0, q1⟩ := hr
    obtain ⟨a2, p2, rfl⟩ := Bytes.form q0
    obtain ⟨a3, p3, rfl⟩ := Bytes.form q1
    have hmem : geti ls (k : Int) ∈ ls := by rw [geti_nat hlt]; exact List.getElem_mem hlt
    simp only [hix, Pv_some, fldV_p, nilV_p, nilV_f, lenV_s, capV_s, sLen, minV_i, maxV_i, strV_s, unV_not, unV_neg, pickV_t, pickV_f, exV_t, cvIV_i, binI_add, binI_sub, binI_mul, binI_eql, binI_neq, binI_lss, binI_leq, binI_gtr, binI_geq, binI_and, binI_or, binB_eql, binB_neq, sEq, sNe, sLt, sLe, sGt, sGe, stampEq, stampNe, fldv_agg, fldv_one, binP_eql_nil, binP_neq_nil, binN_eql_nil, binN_neq_nil, binN_eql_nn, binN_neq_nn, Br_true, Br_false, Gd_tt, Gd_ft, Gd_tf, Gd_ff, cells_agg, List.getElem?_toArray, List.getElem?_cons_zero, List.getElem?_cons_succ, Nat.zero_add, Nat.add_zero, Nat.zero_mul, List.drop_succ_cons, List.drop_zero, List.take_succ_cons, List.take_zero, List.nil_append, List.cons_append, Nat.reduceAdd, List.drop_nil, List.take_nil, bld_1, bld_2, bld_3, bld_4, bld_5, bld_6, bld_7, bld_8, bld_9, bld_10, bld_11, bld_12, bld_13, bld_14, bld_15, bld_16, bld_17, bld_18, bld_19, bld_20, bld_21, bld_22, bld_23, bld_24, bld_25, bld_26, bld_27, bld_28]
    refine rdN hcl (hc I' _ hI (fun _ h => by cases h)) ?_
    refine newI (fun b1 => ?_)
    refine stB rfl rfl (one_all rfl) ?_
    refine rdB rfl ?_
    refine call (rown_spec (x := geti ls (k : Int)) ⟨_, _, rfl, q0.mono hI, q1.mono hI⟩ (hb _ hmem) (fun c' I2 hI2 hc' => ?_))
    refine rec_app (X6 := X6) rfl (by omega) h6 (hR.imp fun _ _ h => TRangeV.mono h hI2) hc' hc'.len hc'.one (by rw [List.length_take]; omega) (by rw [List.length_take]; omega) (fun X1 X6' v' cells' h6' hR' => ?_)
    simp only [Pv_some, fldV_p, nilV_p, nilV_f, lenV_s, capV_s, sLen, minV_i, maxV_i, strV_s, unV_not, unV_neg, pickV_t, pickV_f, exV_t, cvIV_i, binI_add, binI_sub, binI_mul, binI_eql, binI_neq, binI_lss, binI_leq, binI_gtr, binI_geq, binI_and, binI_or, binB_eql, binB_neq, sEq, sNe, sLt, sLe, sGt, sGe, stampEq, stampNe, fldv_agg, fldv_one, binP_eql_nil, binP_neq_nil, binN_eql_nil, binN_neq_nil, binN_eql_nn, binN_neq_nn, Br_true, Br_false, Gd_tt, Gd_ft, Gd_tf, Gd_ff, cells_agg, List.getElem?_toArray, List.getElem?_cons_zero, List.getElem?_cons_succ, Nat.zero_add, Nat.add_zero, Nat.zero_mul, List.drop_succ_cons, List.drop_zero, List.take_succ_cons, List.take_zero, List.nil_append, List.cons_append, Nat.reduceAdd, List.drop_nil, List.take_nil, bld_1, bld_2, bld_3, bld_4, bld_5, bld_6, bld_7, bld_8, bld_9, bld_10, bld_11, bld_12, bld_13, bld_14, bld_15, bld_16, bld_17, bld_18, bld_19, bld_20, bld_21, bld_22, bld_23, bld_24, bld_25, bld_26, bld_27, bld_28, wrap_i64 ((k : Int) + 1) (by omega)]
    rw [← take_geti hlt] at h6' hR'
    refine Gh.to (X6' ++ L) (Gh.done ?_)
    exact ⟨m - 1, by omega, hI.trans hI2, k + 1, v', X6', cells', by omega, by simp, h6', hR', rfl⟩
  · simp at hlt
    rw [List.take_of_length_le (by omega)] at h6 hR
    exact RL.ofO (R := TRangeV) (fun h hI => TRangeV.mono h hI) h6 hR (fun I2 hI2 h2 => Gh.done (hk w I2 (hI.trans hI2) h2))
theorem rlist_spec {b : Nat} {v : Value} {ls : List TRange} {T : Nat} (hb : (b, Obj.cells #[v] T (0, 0)) ∈ L) (h : Rngs I v ls) (hok : ∀ r ∈ ls, rngOk r) (hlen : ls.length * 64 ≤ 140737488355328) (hk : ∀ v' I', Ext I I' → Rngs I' v' ls → K v' I' L) : Cal Try.prog ω 41 #[.pointer (some ⟨b, 0, none⟩)] K I L := by
  refine cal41 ?_
  unfold sh41
  try simp only [Pv_some, fldV_p, nilV_p, nilV_f, lenV_s, capV_s, sLen, minV_i, maxV_i, strV_s, unV_not, unV_neg, pickV_t, pickV_f, exV_t, cvIV_i, binI_add, binI_sub, binI_mul, binI_eql, binI_neq, binI_lss, binI_leq, binI_gtr, binI_geq, binI_and, binI_or, binB_eql, binB_neq, sEq, sNe, sLt, sLe, sGt, sGe, stampEq, stampNe, fldv_agg, fldv_one, binP_eql_nil, binP_neq_nil, binN_eql_nil, binN_neq_nil, binN_eql_nn, binN_neq_nn, Br_true, Br_false, Gd_tt, Gd_ft, Gd_tf, Gd_ff, cells_agg, List.getElem?_toArray, List.getElem?_cons_zero, List.getElem?_cons_succ, Nat.zero_add, Nat.add_zero, Nat.zero_mul, List.drop_succ_cons, List.drop_zero, List.take_succ_cons, List.take_zero, List.nil_append, List.cons_append, Nat.reduceAdd, List.drop_nil, List.take_nil, bld_1, bld_2, bld_3, bld_4, bld_5, bld_6, bld_7, bld_8, bld_9, bld_10, bld_11, bld_12, bld_13, bld_14, bld_15, bld_16, bld_17, bld_18, bld_19, bld_20, bld_21, bld_22, bld_23, bld_24, bld_25, bld_26, bld_27, bld_28]
  refine rd1 (Cell.own hb rfl) ?_
  refine call (rowned_spec h hok hlen (fun v' I' hI' h' => ?_))
  exact Gh.done (hk v' I' hI' h')
theorem wholeOk : ∀ r ∈ wholeR, rngOk r := by
  intro r hr
  simp only [wholeR, List.mem_singleton] at hr
  subst hr
  exact ⟨by simp, by simp⟩
theorem rnew_spec (hk : ∀ b v I' T, Ext I I' → Rngs I' v wholeR → K (.pointer (some ⟨b, 0, none⟩)) I' ((b, Obj.cells #[v] T (0, 0)) :: L)) : Cal Try.prog ω 40 #[] K I L := by
  refine cal40 ?_
  unfold sh40
  try simp only [Pv_some, fldV_p, nilV_p, nilV_f, lenV_s, capV_s, sLen, minV_i, maxV_i, strV_s, unV_not, unV_neg, pickV_t, pickV_f, exV_t, cvIV_i, binI_add, binI_sub, binI_mul, binI_eql, binI_neq, binI_lss, binI_leq, binI_gtr, binI_geq, binI_and, binI_or, binB_eql, binB_neq, sEq, sNe, sLt, sLe, sGt, sGe, stampEq, stampNe, fldv_agg, fldv_one, binP_eql_nil, binP_neq_nil, binN_eql_nil, binN_neq_nil, binN_eql_nn, binN_neq_nn, Br_true, Br_false, Gd_tt, Gd_ft, Gd_tf, Gd_ff, cells_agg, List.getElem?_toArray, List.getElem?_cons_zero, List.getElem?_cons_succ, Nat.zero_add, Nat.add_zero, Nat.zero_mul, List.drop_succ_cons, List.drop_zero, List.take_succ_cons, List.take_zero, List.nil_append, List.cons_append, Nat.reduceAdd, List.drop_nil, List.take_nil, bld_1, bld_2, bld_3, bld_4, bld_5, bld_6, bld_7, bld_8, bld_9, bld_10, bld_11, bld_12, bld_13, bld_14, bld_15, bld_16, bld_17, bld_18, bld_19, bld_20, bld_21, bld_22, bld_23, bld_24, bld_25, bld_26, bld_27, bld_28]
  refine rec_one (R := TRangeV) (x := ⟨1, ⟨[], []⟩, 1⟩) rfl (by omega) ⟨_, _, rfl, SlI.nil _ _ _ _, SlI.nil _ _ _ _⟩ (fun h hI => TRangeV.mono h hI) rfl (fun u I1 hI1 h1 => ?_)
  obtain ⟨_, _, rfl⟩ := RL.form h1
  try simp only [Pv_some, fldV_p, nilV_p, nilV_f, lenV_s, capV_s, sLen, minV_i, maxV_i, strV_s, unV_not, unV_neg, pickV_t, pickV_f, exV_t, cvIV_i, binI_add, binI_sub, binI_mul, binI_eql, binI_neq, binI_lss, binI_leq, binI_gtr, binI_geq, binI_and, binI_or, binB_eql, binB_neq, sEq, sNe, sLt, sLe, sGt, sGe, stampEq, stampNe, fldv_agg, fldv_one, binP_eql_nil, binP_neq_nil, binN_eql_nil, binN_neq_nil, binN_eql_nn, binN_neq_nn, Br_true, Br_false, Gd_tt, Gd_ft, Gd_tf, Gd_ff, cells_agg, List.getElem?_toArray, List.getElem?_cons_zero, List.getElem?_cons_succ, Nat.zero_add, Nat.add_zero, Nat.zero_mul, List.drop_succ_cons, List.drop_zero, List.take_succ_cons, List.take_zero, List.nil_append, List.cons_append, Nat.reduceAdd, List.drop_nil, List.take_nil, bld_1, bld_2, bld_3, bld_4, bld_5, bld_6, bld_7, bld_8, bld_9, bld_10, bld_11, bld_12, bld_13, bld_14, bld_15, bld_16, bld_17, bld_18, bld_19, bld_20, bld_21, bld_22, bld_23, bld_24, bld_25, bld_26, bld_27, bld_28]
  refine newI (fun b => ?_)
  exact Gh.done (hk b _ I1 _ hI1 h1)
/-- the whole: one range of all keys -/
theorem whole_spec (hk : ∀ v I', Ext I I' → Rngs I' v wholeR → K v I' L) : Cal Try.prog ω 9 #[] K I L := by
  refine cal9 ?_
  unfold sh9
  try simp only [Pv_some, fldV_p, nilV_p, nilV_f, lenV_s, capV_s, sLen, minV_i, maxV_i, strV_s, unV_not, unV_neg, pickV_t, pickV_f, exV_t, cvIV_i, binI_add, binI_sub, binI_mul, binI_eql, binI_neq, binI_lss, binI_leq, binI_gtr, binI_geq, binI_and, binI_or, binB_eql, binB_neq, sEq, sNe, sLt, sLe, sGt, sGe, stampEq, stampNe, fldv_agg, fldv_one, binP_eql_nil, binP_neq_nil, binN_eql_nil, binN_neq_nil, binN_eql_nn, binN_neq_nn, Br_true, Br_false, Gd_tt, Gd_ft, Gd_tf, Gd_ff, cells_agg, List.getElem?_toArray, List.getElem?_cons_zero, List.getElem?_cons_succ, Nat.zero_add, Nat.add_zero, Nat.zero_mul, List.drop_succ_cons, List.drop_zero, List.take_succ_cons, List.take_zero, List.nil_append, List.cons_append, Nat.reduceAdd, List.drop_nil, List.take_nil, bld_1, bld_2, bld_3, bld_4, bld_5, bld_6, bld_7, bld_8, bld_9, bld_10, bld_11, bld_12, bld_13, bld_14, bld_15, bld_16, bld_17, bld_18, bld_19, bld_20, bld_21, bld_22, bld_23, bld_24, bld_25, bld_26, bld_27, bld_28]
  refine rec_one (R := TRangeV) (x := ⟨1, ⟨[], []⟩, 1⟩) rfl (by omega) ⟨_, _, rfl, SlI.nil _ _ _ _, SlI.nil _ _ _ _⟩ (fun h hI => TRangeV.mono h hI) rfl (fun u I1 hI1 h1 => ?_)
  exact Gh.done (hk _ I1 hI1 h1)
end
end Go.Proofs.Ytlalbollbdlfhaa
