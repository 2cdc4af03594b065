/-
  Messages: as cells, and which may be.
-/
-- S2
import Derived.Test.YtdcpeboecmkmlaaKA
set_option linter.unusedSimpArgs false
set_option linter.unusedVariables false
namespace Go.Proofs.Ytdcpeboecmkmlaa
open Go.SL
set_option maxRecDepth 10000

structure RM where
  kind : Int
  group : Int
  frm : Int
  to : Int
  term : Int
  index : Int
  lterm : Int
  commit : Int
  ok : Bool
  ents : List LE
  mem : List Int
  data : List UInt8
deriving Inhabited

def MsgV (I : Imm) (m : RM) (c : List Value) : Prop := ∃ ev mv dv, c = [.int .i64 m.kind, .int .i64 m.group, .int .i64 m.frm, .int .i64 m.to, .int .i64 m.term, .int .i64 m.index, .int .i64 m.lterm, .int .i64 m.commit, .bool m.ok, ev, mv, dv] ∧ Ents I ev m.ents ∧ Ints I mv m.mem ∧ Bytes I dv m.data
theorem MsgV.mono {I I' : Imm} {m : RM} {c : List Value} (h : MsgV I m c) (hI : Ext I I') : MsgV I' m c := by
  obtain ⟨ev, mv, dv, hc, h1, h2, h3⟩ := h
  exact ⟨ev, mv, dv, hc, LsV.to h1 hI, h2.mono hI, h3.mono hI⟩
theorem MsgV.form {I : Imm} {m : RM} {c : List Value} (h : MsgV I m c) : ∃ a0 p0 a1 p1 a2 p2, c = [.int .i64 m.kind, .int .i64 m.group, .int .i64 m.frm, .int .i64 m.to, .int .i64 m.term, .int .i64 m.index, .int .i64 m.lterm, .int .i64 m.commit, .bool m.ok, .slice a0 m.ents.length p0, .slice a1 m.mem.length p1, .slice a2 m.data.length p2] ∧ Ents I (.slice a0 m.ents.length p0) m.ents ∧ Ints I (.slice a1 m.mem.length p1) m.mem ∧ Bytes I (.slice a2 m.data.length p2) m.data := by
  obtain ⟨ev, mv, dv, rfl, h1, h2, h3⟩ := h
  obtain ⟨a0, p0, rfl⟩ := RL.form h1
  obtain ⟨a1, p1, rfl⟩ := Ints.form h2
  obtain ⟨a2, p2, rfl⟩ := Bytes.form h3
  exact ⟨_, _, _, _, _, _, rfl, h1, h2, h3⟩
theorem MsgV.len {I : Imm} {m : RM} {c : List Value} (h : MsgV I m c) : c.length = 12 := by obtain ⟨_, _, _, rfl, _⟩ := h; rfl
theorem MsgV.one {I : Imm} {m : RM} {c : List Value} (h : MsgV I m c) : ∀ u ∈ c, u.oneCell' = true := by
  obtain ⟨_, _, _, _, _, _, rfl, _⟩ := h.form
  exact one_all rfl

/-- the entries of a message: each may be, one behind the other, none of a later term -/
def entsAll (i t : Int) : List LE → Bool
  | [] => true
  | e :: l => entB e && (e.index == i + 1) && decide (e.term ≤ t) && entsAll (i + 1) t l
def entsB (m : RM) : Bool := decide (m.ents.length ≤ 64) && entsAll m.index m.term m.ents

section
variable {ω : Om} {I : Imm} {L : LH} {K : Value → M}

theorem sentries_spec {m : RM} {c : List Value} (hm : MsgV I m c) (hi : countB m.index = true) (hk : ∀ I', Ext I I' → K (.bool (entsB m)) I' L) : Cal Try.prog ω 129 #[.agg c.toArray] K I L := by
  obtain ⟨ev, mv, dv, rfl, hE, hM, hD⟩ := hm
  have hi2 : 0 ≤ m.index ∧ m.index ≤ 9007199254740991 := by simpa [countB] using hi
  have hln := RL.len hE
  refine cal129 ?_
  unfold sh129
  refine newI (fun b1 => ?_)
  try simp only [Pv_some, fldV_p, nilV_p, nilV_f, lenV_s, capV_s, sLen, minV_i, maxV_i, strV_s, unV_not, unV_neg, pickV_t, pickV_f, exV_t, cvIV_i, binI_add, binI_sub, binI_mul, binI_eql, binI_neq, binI_lss, binI_leq, binI_gtr, binI_geq, binI_and, binI_or, binB_eql, binB_neq, sEq, sNe, sLt, sLe, sGt, sGe, stampEq, stampNe, fldv_agg, fldv_one, binP_eql_nil, binP_neq_nil, binN_eql_nil, binN_neq_nil, binN_eql_nn, binN_neq_nn, Br_true, Br_false, Gd_tt, Gd_ft, Gd_tf, Gd_ff, cells_agg, List.getElem?_toArray, List.getElem?_cons_zero, List.getElem?_cons_succ, Nat.zero_add, Nat.add_zero, Nat.zero_mul, List.drop_succ_cons, List.drop_zero, List.take_succ_cons, List.take_zero, List.nil_append, List.cons_append, Nat.reduceAdd, List.drop_nil, List.take_nil, bld_1, bld_2, bld_3, bld_4, bld_5, bld_6, bld_7, bld_8, bld_9, bld_10, bld_11, bld_12, bld_13, bld_14, bld_15, bld_16, bld_17, bld_18]
  refine rdb ?_
  simp only [hln, Pv_some, fldV_p, nilV_p, nilV_f, lenV_s, capV_s, sLen, minV_i, maxV_i, strV_s, unV_not, unV_neg, pickV_t, pickV_f, exV_t, cvIV_i, binI_add, binI_sub, binI_mul, binI_eql, binI_neq, binI_lss, binI_leq, binI_gtr, binI_geq, binI_and, binI_or, binB_eql, binB_neq, sEq, sNe, sLt, sLe, sGt, sGe, stampEq, stampNe, fldv_agg, fldv_one, binP_eql_nil, binP_neq_nil, binN_eql_nil, binN_neq_nil, binN_eql_nn, binN_neq_nn, Br_true, Br_false, Gd_tt, Gd_ft, Gd_tf, Gd_ff, cells_agg, List.getElem?_toArray, List.getElem?_cons_zero, List.getElem?_cons_succ, Nat.zero_add, Nat.add_zero, Nat.zero_mul, List.drop_succ_cons, List.drop_zero, List.take_succ_cons, List.take_zero, List.nil_append, List.cons_append, Nat.reduceAdd, List.drop_nil, List.take_nil, bld_1, bld_2, bld_3, bld_4, bld_5, bld_6, bld_7, bld_8, bld_9, bld_10, bld_11, bld_12, bld_13, bld_14, bld_15, bld_16, bld_17, bld_18]
  refine br_split (fun h => ?_) (fun h => ?_)
  · refine Gh.to L (Gh.done (leafB (hk I (Ext.refl I)) ?_))
    simp at h; simp [entsB]; omega
  simp at h
  refine rdb ?_
  simp only [hln, Pv_some, fldV_p, nilV_p, nilV_f, lenV_s, capV_s, sLen, minV_i, maxV_i, strV_s, unV_not, unV_neg, pickV_t, pickV_f, exV_t, cvIV_i, binI_add, binI_sub, binI_mul, binI_eql, binI_neq, binI_lss, binI_leq, binI_gtr, binI_geq, binI_and, binI_or, binB_eql, binB_neq, sEq, sNe, sLt, sLe, sGt, sGe, stampEq, stampNe, fldv_agg, fldv_one, binP_eql_nil, binP_neq_nil, binN_eql_nil, binN_neq_nil, binN_eql_nn, binN_neq_nn, Br_true, Br_false, Gd_tt, Gd_ft, Gd_tf, Gd_ff, cells_agg, List.getElem?_toArray, List.getElem?_cons_zero, List.getElem?_cons_succ, Nat.zero_add, Nat.add_zero, Nat.zero_mul, List.drop_succ_cons, List.drop_zero, List.take_succ_cons, List.take_zero, List.nil_append, List.cons_append, Nat.reduceAdd, List.drop_nil, List.take_nil, bld_1, bld_2, bld_3, bld_4, bld_5, bld_6, bld_7, bld_8, bld_9, bld_10, bld_11, bld_12, bld_13, bld_14, bld_15, bld_16, bld_17, bld_18]
  refine loop (fun mm s I' L' => Ext I I' ∧ L' = (b1, Obj.cells #[.int .i64 m.kind, .int .i64 m.group, .int .i64 m.frm, .int .i64 m.to, .int .i64 m.term, .int .i64 m.index, .int .i64 m.lterm, .int .i64 m.commit, .bool m.ok, ev, mv, dv] 77 (0, 0)) :: L ∧ ∃ k : Nat, k + mm = m.ents.length ∧ s = (.bool false, .int .i64 k, ()) ∧ entsAll (m.index + k) m.term (m.ents.drop k) = entsAll m.index m.term m.ents) m.ents.length ⟨Ext.refl I, rfl, 0, by omega, rfl, by simp⟩ ?_
  rintro mm s I' L' ⟨hI, rfl, k, hkm, rfl, hg⟩
  unfold sh129_3
  try simp only [Pv_some, fldV_p, nilV_p, nilV_f, lenV_s, capV_s, sLen, minV_i, maxV_i, strV_s, unV_not, unV_neg, pickV_t, pickV_f, exV_t, cvIV_i, binI_add, binI_sub, binI_mul, binI_eql, binI_neq, binI_lss, binI_leq, binI_gtr, binI_geq, binI_and, binI_or, binB_eql, binB_neq, sEq, sNe, sLt, sLe, sGt, sGe, stampEq, stampNe, fldv_agg, fldv_one, binP_eql_nil, binP_neq_nil, binN_eql_nil, binN_neq_nil, binN_eql_nn, binN_neq_nn, Br_true, Br_false, Gd_tt, Gd_ft, Gd_tf, Gd_ff, cells_agg, List.getElem?_toArray, List.getElem?_cons_zero, List.getElem?_cons_succ, Nat.zero_add, Nat.add_zero, Nat.zero_mul, List.drop_succ_cons, List.drop_zero, List.take_succ_cons, List.take_zero, List.nil_append, List.cons_append, Nat.reduceAdd, List.drop_nil, List.take_nil, bld_1, bld_2, bld_3, bld_4, bld_5, bld_6, bld_7, bld_8, bld_9, bld_10, bld_11, bld_12, bld_13, bld_14, bld_15, bld_16, bld_17, bld_18]
  refine br_split (fun hlt => ?_) (fun hlt => ?_)
  · simp at hlt
    obtain ⟨b, off, cs, hix, hcl, ⟨ddv, rfl, hB⟩, hc⟩ := RL.ix hE (i := k) (by omega) (by omega)
    obtain ⟨_, _, rfl⟩ := Bytes.form hB
    simp only [hix, Pv_some, fldV_p, nilV_p, nilV_f, lenV_s, capV_s, sLen, minV_i, maxV_i, strV_s, unV_not, unV_neg, pickV_t, pickV_f, exV_t, cvIV_i, binI_add, binI_sub, binI_mul, binI_eql, binI_neq, binI_lss, binI_leq, binI_gtr, binI_geq, binI_and, binI_or, binB_eql, binB_neq, sEq, sNe, sLt, sLe, sGt, sGe, stampEq, stampNe, fldv_agg, fldv_one, binP_eql_nil, binP_neq_nil, binN_eql_nil, binN_neq_nil, binN_eql_nn, binN_neq_nn, Br_true, Br_false, Gd_tt, Gd_ft, Gd_tf, Gd_ff, cells_agg, List.getElem?_toArray, List.getElem?_cons_zero, List.getElem?_cons_succ, Nat.zero_add, Nat.add_zero, Nat.zero_mul, List.drop_succ_cons, List.drop_zero, List.take_succ_cons, List.take_zero, List.nil_append, List.cons_append, Nat.reduceAdd, List.drop_nil, List.take_nil, bld_1, bld_2, bld_3, bld_4, bld_5, bld_6, bld_7, bld_8, bld_9, bld_10, bld_11, bld_12, bld_13, bld_14, bld_15, bld_16, bld_17, bld_18]
    refine rdN rfl (hc I' _ hI (fun _ h => by cases h)) ?_
    refine newI (fun b2 => ?_)
    refine stB rfl rfl (one_all rfl) ?_
    refine rdB rfl ?_
    refine call (sentry_spec (e := geti m.ents (k : Int)) ⟨_, rfl, hB.mono hI⟩ (fun I2 hI2 => ?_))
    try simp only [Pv_some, fldV_p, nilV_p, nilV_f, lenV_s, capV_s, sLen, minV_i, maxV_i, strV_s, unV_not, unV_neg, pickV_t, pickV_f, exV_t, cvIV_i, binI_add, binI_sub, binI_mul, binI_eql, binI_neq, binI_lss, binI_leq, binI_gtr, binI_geq, binI_and, binI_or, binB_eql, binB_neq, sEq, sNe, sLt, sLe, sGt, sGe, stampEq, stampNe, fldv_agg, fldv_one, binP_eql_nil, binP_neq_nil, binN_eql_nil, binN_neq_nil, binN_eql_nn, binN_neq_nn, Br_true, Br_false, Gd_tt, Gd_ft, Gd_tf, Gd_ff, cells_agg, List.getElem?_toArray, List.getElem?_cons_zero, List.getElem?_cons_succ, Nat.zero_add, Nat.add_zero, Nat.zero_mul, List.drop_succ_cons, List.drop_zero, List.take_succ_cons, List.take_zero, List.nil_append, List.cons_append, Nat.reduceAdd, List.drop_nil, List.take_nil, bld_1, bld_2, bld_3, bld_4, bld_5, bld_6, bld_7, bld_8, bld_9, bld_10, bld_11, bld_12, bld_13, bld_14, bld_15, bld_16, bld_17, bld_18]
    rw [drop_geti hlt, entsAll] at hg
    have bad : (entB (geti m.ents (k : Int)) && ((geti m.ents (k : Int)).index == m.index + k + 1) && decide ((geti m.ents (k : Int)).term ≤ m.term)) = false → entsB m = false := fun hb => by
      rw [entsB, ← hg, hb]; simp
    refine gd_split (fun hn => ?_) (fun hn => ?_)
    · refine rdb ?_
      refine rdb ?_
      simp only [Pv_some, fldV_p, nilV_p, nilV_f, lenV_s, capV_s, sLen, minV_i, maxV_i, strV_s, unV_not, unV_neg, pickV_t, pickV_f, exV_t, cvIV_i, binI_add, binI_sub, binI_mul, binI_eql, binI_neq, binI_lss, binI_leq, binI_gtr, binI_geq, binI_and, binI_or, binB_eql, binB_neq, sEq, sNe, sLt, sLe, sGt, sGe, stampEq, stampNe, fldv_agg, fldv_one, binP_eql_nil, binP_neq_nil, binN_eql_nil, binN_neq_nil, binN_eql_nn, binN_neq_nn, Br_true, Br_false, Gd_tt, Gd_ft, Gd_tf, Gd_ff, cells_agg, List.getElem?_toArray, List.getElem?_cons_zero, List.getElem?_cons_succ, Nat.zero_add, Nat.add_zero, Nat.zero_mul, List.drop_succ_cons, List.drop_zero, List.take_succ_cons, List.take_zero, List.nil_append, List.cons_append, Nat.reduceAdd, List.drop_nil, List.take_nil, bld_1, bld_2, bld_3, bld_4, bld_5, bld_6, bld_7, bld_8, bld_9, bld_10, bld_11, bld_12, bld_13, bld_14, bld_15, bld_16, bld_17, bld_18, wrap_i64 (m.index + 1) (by omega), wrap_i64 (m.index + 1 + k) (by omega)]
      refine gd_split (fun hn2 => ?_) (fun hn2 => ?_)
      · refine rdb ?_
        refine rdb ?_
        try simp only [Pv_some, fldV_p, nilV_p, nilV_f, lenV_s, capV_s, sLen, minV_i, maxV_i, strV_s, unV_not, unV_neg, pickV_t, pickV_f, exV_t, cvIV_i, binI_add, binI_sub, binI_mul, binI_eql, binI_neq, binI_lss, binI_leq, binI_gtr, binI_geq, binI_and, binI_or, binB_eql, binB_neq, sEq, sNe, sLt, sLe, sGt, sGe, stampEq, stampNe, fldv_agg, fldv_one, binP_eql_nil, binP_neq_nil, binN_eql_nil, binN_neq_nil, binN_eql_nn, binN_neq_nn, Br_true, Br_false, Gd_tt, Gd_ft, Gd_tf, Gd_ff, cells_agg, List.getElem?_toArray, List.getElem?_cons_zero, List.getElem?_cons_succ, Nat.zero_add, Nat.add_zero, Nat.zero_mul, List.drop_succ_cons, List.drop_zero, List.take_succ_cons, List.take_zero, List.nil_append, List.cons_append, Nat.reduceAdd, List.drop_nil, List.take_nil, bld_1, bld_2, bld_3, bld_4, bld_5, bld_6, bld_7, bld_8, bld_9, bld_10, bld_11, bld_12, bld_13, bld_14, bld_15, bld_16, bld_17, bld_18]
        refine br_split (fun hn3 => ?_) (fun hn3 => ?_)
        · refine Gh.to L (Gh.done (leafB (hk I2 (hI.trans hI2)) (bad ?_)))
          simp at hn3; simp; omega
        · simp only [wrap_i64 ((k : Int) + 1) (by omega)]
          refine Gh.to ((b1, _) :: L) (Gh.done ⟨mm - 1, by omega, hI.trans hI2, rfl, k + 1, by omega, by simp, ?_⟩)
          simp at hn hn2 hn3
          rw [← hg, hn, hn2, decide_eq_true hn3, show m.index + ((k + 1 : Nat) : Int) = m.index + k + 1 by omega]
          simp; omega
      · refine Gh.to L (Gh.done (leafB (hk I2 (hI.trans hI2)) (bad ?_)))
        simp at hn2; simp; omega
    · refine Gh.to L (Gh.done (leafB (hk I2 (hI.trans hI2)) (bad ?_)))
      simp at hn; simp [hn]
  · simp at hlt
    rw [List.drop_of_length_le (by omega), entsAll] at hg
    refine Gh.to L (Gh.done (leafB (hk I' hI) ?_))
    rw [entsB, ← hg]; simp; omega
end
end Go.Proofs.Ytdcpeboecmkmlaa
