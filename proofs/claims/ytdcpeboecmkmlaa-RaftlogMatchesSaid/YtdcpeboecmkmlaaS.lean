/-
  A log of the program and one of the document that stand for the same one: they tell the same, and go on alike.
-/
import Derived.Test.YtdcpeboecmkmlaaR
set_option linter.unusedSimpArgs false
set_option linter.unusedVariables false
namespace Go.Proofs.Ytdcpeboecmkmlaa
open Go.SL
set_option maxRecDepth 10000

section
variable {ω : Om} {I : Imm} {L : LH} {K : Value → M}

theorem slice_all {g : LG} (hw : WF g) {n : Int} (h : (g.es.length : Int) < n) : sliceAt g (g.index + 1) n = g.es := by
  unfold sliceAt
  by_cases h0 : g.es.length = 0
  · have : g.es = [] := List.eq_nil_of_length_eq_zero h0
    rw [this]; split <;> simp
  · rw [if_pos (by unfold lastI; omega), show (g.index + 1 - g.index - 1).toNat = 0 from by omega, List.drop_zero, List.take_of_length_le (by omega)]

set_option maxHeartbeats 1000000 in
theorem same_spec {b c : Nat} {g : LG} (hV : LogV I L b g) (hQ : LogV I L c g) (hw : WF g) (hk : ∀ I', Ext I I' → K (.bool true) I' L) : Cal Try.prog ω 21 #[.pointer (some ⟨b, 0, none⟩), .pointer (some ⟨c, 0, none⟩)] K I L := by
  have hlast := hw.last
  have hwl := hw.len
  have hml := memB_len hw.mem
  obtain ⟨mv0, lv0, hm0, hl0, c0, c1, c2, c3, c4, c5⟩ := hQ.cells
  refine cal21 ?_
  unfold sh21
  refine call (start_spec hV hw (fun mv I1 hI1 hm1 => ?_))
  have hm1' := hm1
  obtain ⟨a, cap, rfl⟩ := Ints.form hm1'
  refine newI (fun b1 => ?_)
  refine stB rfl rfl (one_all rfl) ?_
  try simp only [Pv_some, fldV_p, nilV_p, nilV_f, lenV_s, capV_s, lenSV_s, minV_i, maxV_i, strV_s, unV_not, unV_neg, pickV_t, pickV_f, exV_t, cvIV_i, binI_add, binI_sub, binI_mul, binI_eql, binI_neq, binI_lss, binI_leq, binI_gtr, binI_geq, binI_and, binI_or, binB_eql, binB_neq, binS_eql, binS_neq, binP_eql_nil, binP_neq_nil, binN_eql_nil, binN_neq_nil, binN_eql_nn, binN_neq_nn, Br_true, Br_false, Gd_tt, Gd_ft, Gd_tf, Gd_ff, cells_agg, List.getElem?_toArray, List.getElem?_cons_zero, List.getElem?_cons_succ, Nat.zero_add, Nat.add_zero, Nat.zero_mul]
  refine drawC ?_
  refine rdbS ?_
  refine rdCS c2 hI1 ?_
  refine call (sameints_spec hm1 (hm0.mono hI1) (by omega) ?_)
  refine call (last_spec (LogV.to hV hI1) hw ?_)
  try simp only [Pv_some, fldV_p, nilV_p, nilV_f, lenV_s, capV_s, lenSV_s, minV_i, maxV_i, strV_s, unV_not, unV_neg, pickV_t, pickV_f, exV_t, cvIV_i, binI_add, binI_sub, binI_mul, binI_eql, binI_neq, binI_lss, binI_leq, binI_gtr, binI_geq, binI_and, binI_or, binB_eql, binB_neq, binS_eql, binS_neq, binP_eql_nil, binP_neq_nil, binN_eql_nil, binN_neq_nil, binN_eql_nn, binN_neq_nn, Br_true, Br_false, Gd_tt, Gd_ft, Gd_tf, Gd_ff, cells_agg, List.getElem?_toArray, List.getElem?_cons_zero, List.getElem?_cons_succ, Nat.zero_add, Nat.add_zero, Nat.zero_mul]
  refine call (commit_spec (LogV.to hV hI1) ?_)
  refine call (rlast_spec (LogV.to hQ hI1) hw.sz ?_)
  refine call (rlastTerm_spec (LogV.to hQ hI1) hw.sz ?_)
  refine drawC ?_
  refine rdbS ?_
  refine rdCS c0 hI1 ?_
  simp only [Pv_some, fldV_p, nilV_p, nilV_f, lenV_s, capV_s, lenSV_s, minV_i, maxV_i, strV_s, unV_not, unV_neg, pickV_t, pickV_f, exV_t, cvIV_i, binI_add, binI_sub, binI_mul, binI_eql, binI_neq, binI_lss, binI_leq, binI_gtr, binI_geq, binI_and, binI_or, binB_eql, binB_neq, binS_eql, binS_neq, binP_eql_nil, binP_neq_nil, binN_eql_nil, binN_neq_nil, binN_eql_nn, binN_neq_nn, Br_true, Br_false, Gd_tt, Gd_ft, Gd_tf, Gd_ff, cells_agg, List.getElem?_toArray, List.getElem?_cons_zero, List.getElem?_cons_succ, Nat.zero_add, Nat.add_zero, Nat.zero_mul, bne_self_eq_false]
  refine rdbS ?_
  refine rdCS c1 hI1 ?_
  simp only [Pv_some, fldV_p, nilV_p, nilV_f, lenV_s, capV_s, lenSV_s, minV_i, maxV_i, strV_s, unV_not, unV_neg, pickV_t, pickV_f, exV_t, cvIV_i, binI_add, binI_sub, binI_mul, binI_eql, binI_neq, binI_lss, binI_leq, binI_gtr, binI_geq, binI_and, binI_or, binB_eql, binB_neq, binS_eql, binS_neq, binP_eql_nil, binP_neq_nil, binN_eql_nil, binN_neq_nil, binN_eql_nn, binN_neq_nn, Br_true, Br_false, Gd_tt, Gd_ft, Gd_tf, Gd_ff, cells_agg, List.getElem?_toArray, List.getElem?_cons_zero, List.getElem?_cons_succ, Nat.zero_add, Nat.add_zero, Nat.zero_mul, bne_self_eq_false, Bool.not_true]
  refine rdCS c4 hI1 ?_
  simp only [Pv_some, fldV_p, nilV_p, nilV_f, lenV_s, capV_s, lenSV_s, minV_i, maxV_i, strV_s, unV_not, unV_neg, pickV_t, pickV_f, exV_t, cvIV_i, binI_add, binI_sub, binI_mul, binI_eql, binI_neq, binI_lss, binI_leq, binI_gtr, binI_geq, binI_and, binI_or, binB_eql, binB_neq, binS_eql, binS_neq, binP_eql_nil, binP_neq_nil, binN_eql_nil, binN_neq_nil, binN_eql_nn, binN_neq_nn, Br_true, Br_false, Gd_tt, Gd_ft, Gd_tf, Gd_ff, cells_agg, List.getElem?_toArray, List.getElem?_cons_zero, List.getElem?_cons_succ, Nat.zero_add, Nat.add_zero, Nat.zero_mul, bne_self_eq_false]
  refine drawC ?_
  refine rdbS ?_
  simp only [Pv_some, fldV_p, nilV_p, nilV_f, lenV_s, capV_s, lenSV_s, minV_i, maxV_i, strV_s, unV_not, unV_neg, pickV_t, pickV_f, exV_t, cvIV_i, binI_add, binI_sub, binI_mul, binI_eql, binI_neq, binI_lss, binI_leq, binI_gtr, binI_geq, binI_and, binI_or, binB_eql, binB_neq, binS_eql, binS_neq, binP_eql_nil, binP_neq_nil, binN_eql_nil, binN_neq_nil, binN_eql_nn, binN_neq_nn, Br_true, Br_false, Gd_tt, Gd_ft, Gd_tf, Gd_ff, cells_agg, List.getElem?_toArray, List.getElem?_cons_zero, List.getElem?_cons_succ, Nat.zero_add, Nat.add_zero, Nat.zero_mul, wrap_i64 (g.index + 1) (by omega)]
  refine rdCS c3 hI1 ?_
  simp only [RL.len hl0, Pv_some, fldV_p, nilV_p, nilV_f, lenV_s, capV_s, lenSV_s, minV_i, maxV_i, strV_s, unV_not, unV_neg, pickV_t, pickV_f, exV_t, cvIV_i, binI_add, binI_sub, binI_mul, binI_eql, binI_neq, binI_lss, binI_leq, binI_gtr, binI_geq, binI_and, binI_or, binB_eql, binB_neq, binS_eql, binS_neq, binP_eql_nil, binP_neq_nil, binN_eql_nil, binN_neq_nil, binN_eql_nn, binN_neq_nn, Br_true, Br_false, Gd_tt, Gd_ft, Gd_tf, Gd_ff, cells_agg, List.getElem?_toArray, List.getElem?_cons_zero, List.getElem?_cons_succ, Nat.zero_add, Nat.add_zero, Nat.zero_mul, wrap_i64 ((g.es.length : Int) + 1) (by omega)]
  refine call (slice_spec (LogV.to hV hI1) hw (by unfold inI64; omega) (by unfold inI64; omega) (fun v2 I2 hI2 hE2 => ?_))
  rw [slice_all hw (by omega)] at hE2
  refine rdC c3 (hI1.trans hI2) ?_
  refine call (sameents_spec (Ents.to hE2 (Ext.refl _)) (LsV.to hl0 (hI1.trans hI2)) (by omega) ?_)
  refine call (lmembers_spec (LogV.to hV (hI1.trans hI2)) hw (fun v3 I3 hI3 h3 => ?_))
  refine call (rlmembers_spec (LogV.to hQ ((hI1.trans hI2).trans hI3)) hw (fun v4 I4 hI4 h4 => ?_))
  have hmo := memB_len (memOf_ok hw.mem hw.fol)
  refine call (sameints_spec (h3.mono hI4) h4 (by omega) ?_)
  have hI : Ext I I4 := ((hI1.trans hI2).trans hI3).trans hI4
  refine call (changing_spec (LogV.to hV hI) hw ?_)
  refine call (rchanging_spec (LogV.to hQ hI) hw ?_)
  simp only [Pv_some, fldV_p, nilV_p, nilV_f, lenV_s, capV_s, lenSV_s, minV_i, maxV_i, strV_s, unV_not, unV_neg, pickV_t, pickV_f, exV_t, cvIV_i, binI_add, binI_sub, binI_mul, binI_eql, binI_neq, binI_lss, binI_leq, binI_gtr, binI_geq, binI_and, binI_or, binB_eql, binB_neq, binS_eql, binS_neq, binP_eql_nil, binP_neq_nil, binN_eql_nil, binN_neq_nil, binN_eql_nn, binN_neq_nn, Br_true, Br_false, Gd_tt, Gd_ft, Gd_tf, Gd_ff, cells_agg, List.getElem?_toArray, List.getElem?_cons_zero, List.getElem?_cons_succ, Nat.zero_add, Nat.add_zero, Nat.zero_mul, beq_self_eq_true]
  exact Gh.to L (Gh.done (hk I4 hI))

theorem awake_spec (hk : ∀ I', Ext I I' → K (.bool true) I' L) : Cal Try.prog ω 12 #[] K I L := by
  refine cal12 ?_
  unfold sh12
  refine bld_oneG rfl (by omega) rfl (fun X u hX => SlO.freeze hX (fun I1 hI1 hS => Gh.done ?_))
  have h1 : Ints I1 u [1] := by simpa [Ints, i64s, Value.cells] using hS
  refine call (new_spec h1 (fun hb => by simp [memB, risB] at hb) (fun hm b X I2 hI2 hR => ?_))
  simp only [Pv_some, fldV_p, nilV_p, nilV_f, lenV_s, capV_s, lenSV_s, minV_i, maxV_i, strV_s, unV_not, unV_neg, pickV_t, pickV_f, exV_t, cvIV_i, binI_add, binI_sub, binI_mul, binI_eql, binI_neq, binI_lss, binI_leq, binI_gtr, binI_geq, binI_and, binI_or, binB_eql, binB_neq, binS_eql, binS_neq, binP_eql_nil, binP_neq_nil, binN_eql_nil, binN_neq_nil, binN_eql_nn, binN_neq_nn, Br_true, Br_false, Gd_tt, Gd_ft, Gd_tf, Gd_ff, cells_agg, List.getElem?_toArray, List.getElem?_cons_zero, List.getElem?_cons_succ, Nat.zero_add, Nat.add_zero, Nat.zero_mul, bne_self_eq_false]
  have hw := new_wf hm
  refine call (add_spec (d := []) hR hw (SlI.nil _ _ _ _) (by simp) (by simp [newG]) (fun X3 I3 hI3 hR3 => ?_))
  have ha : addG (newG [1]) 1 1 [] = (1, 0, ⟨0, 0, [1], [⟨1, 1, 1, []⟩], 0⟩) := by kernel_rfl
  rw [ha] at hR3 ⊢
  try simp only [Pv_some, fldV_p, nilV_p, nilV_f, lenV_s, capV_s, lenSV_s, minV_i, maxV_i, strV_s, unV_not, unV_neg, pickV_t, pickV_f, exV_t, cvIV_i, binI_add, binI_sub, binI_mul, binI_eql, binI_neq, binI_lss, binI_leq, binI_gtr, binI_geq, binI_and, binI_or, binB_eql, binB_neq, binS_eql, binS_neq, binP_eql_nil, binP_neq_nil, binN_eql_nil, binN_neq_nil, binN_eql_nn, binN_neq_nn, Br_true, Br_false, Gd_tt, Gd_ft, Gd_tf, Gd_ff, cells_agg, List.getElem?_toArray, List.getElem?_cons_zero, List.getElem?_cons_succ, Nat.zero_add, Nat.add_zero, Nat.zero_mul]
  refine call (last_spec hR3.viewF (by have := add_wf (t := 1) (k := 1) (d := []) hw (by simp [newG]); rw [ha] at this; exact this) ?_)
  try simp only [Pv_some, fldV_p, nilV_p, nilV_f, lenV_s, capV_s, lenSV_s, minV_i, maxV_i, strV_s, unV_not, unV_neg, pickV_t, pickV_f, exV_t, cvIV_i, binI_add, binI_sub, binI_mul, binI_eql, binI_neq, binI_lss, binI_leq, binI_gtr, binI_geq, binI_and, binI_or, binB_eql, binB_neq, binS_eql, binS_neq, binP_eql_nil, binP_neq_nil, binN_eql_nil, binN_neq_nil, binN_eql_nn, binN_neq_nn, Br_true, Br_false, Gd_tt, Gd_ft, Gd_tf, Gd_ff, cells_agg, List.getElem?_toArray, List.getElem?_cons_zero, List.getElem?_cons_succ, Nat.zero_add, Nat.add_zero, Nat.zero_mul]
  exact Gh.to L (Gh.done (hk I3 ((hI1.trans hI2).trans hI3)))

structure Stp where
  d : Int
  a : Int
  b : Int
  c : Int
  data : List UInt8
  ents : List LE
  mem : List Int
instance : Inhabited Stp := ⟨⟨0, 0, 0, 0, [], [], []⟩⟩
/-- a step of a script; its lists have at most 'n' elements -/
def StpV (n : Nat) (I : Imm) (s : Stp) (cs : List Value) : Prop := ∃ dv ev mv, cs = [.int .i64 s.d, .int .i64 s.a, .int .i64 s.b, .int .i64 s.c, dv, ev, mv] ∧ Bytes I dv s.data ∧ Ents I ev s.ents ∧ Ints I mv s.mem ∧
  (inI64 s.a ∧ inI64 s.b ∧ inI64 s.c) ∧ s.data.length ≤ n ∧ s.ents.length * 48 ≤ n
theorem StpV.mono {n : Nat} {I I' : Imm} {s : Stp} {cs : List Value} (h : StpV n I s cs) (hI : Ext I I') : StpV n I' s cs := by
  obtain ⟨dv, ev, mv, hc, h1, h2, h3, h4⟩ := h
  exact ⟨dv, ev, mv, hc, h1.mono hI, Ents.to h2 hI, h3.mono hI, h4⟩

theorem add_len (g : LG) (t k : Int) (d : List UInt8) : (addG g t k d).2.2.es.length ≤ g.es.length + 1 := by
  unfold addG; split <;> simp
theorem settle_len (g : LG) (i : Int) : (settleG g i).2.es.length ≤ g.es.length := by
  unfold settleG; split <;> simp
theorem cut_len (g : LG) (i : Int) : (cutG g i).2.es.length ≤ g.es.length := by
  unfold cutG; split <;> simp
theorem reset_len (g : LG) (i t : Int) (m : List Int) : (resetG g i t m).2.es.length ≤ g.es.length := by
  unfold resetG; repeat' split
  all_goals simp
theorem offW_len {g : LG} : ∀ (es : List LE) (g' : LG), offW g es = some g' → g'.es.length ≤ g.es.length + es.length
  | [], g', h => by simp only [offW, Option.some.injEq] at h; rw [← h]; simp
  | e :: r, g', h => by
    simp only [offW] at h
    have fin : ∀ g'', some { g with es := g.es.take (e.index - g.index - 1).toNat ++ e :: r } = some g'' → g''.es.length ≤ g.es.length + (e :: r).length := fun g'' h => by
      simp only [Option.some.injEq] at h
      rw [← h]
      simp only [List.length_append, List.length_take, List.length_cons]
      omega
    cases he : entAt g e.index with
    | none => rw [he] at h; exact fin g' h
    | some old =>
      rw [he] at h
      simp only at h
      split at h
      · have := offW_len r g' h; simp only [List.length_cons]; omega
      · split at h
        · cases h
        · exact fin g' h
theorem off2_len (g : LG) (i : Int) (es : List LE) : (off2 g i es).2.2.2.es.length ≤ g.es.length + es.length := by
  unfold off2
  cases h : offW g es with
  | none => simp
  | some g' => exact offW_len es g' h
theorem offer_len (g : LG) (i t : Int) (es : List LE) : (offerG g i t es).2.2.2.es.length ≤ g.es.length + es.length := by
  unfold offerG
  repeat' split
  all_goals first
    | exact Nat.le_add_right _ _
    | exact off2_len ..
    | (refine Nat.le_trans (off2_len ..) ?_; simp only [List.length_drop]; omega)

end
end Go.Proofs.Ytdcpeboecmkmlaa
