import Derived.Test.YtfeonffmeajpgaaM4
set_option linter.unusedSimpArgs false
set_option linter.unusedVariables false
namespace Go.Proofs.Ytfeonffmeajpgaa
open Go.SL
set_option maxRecDepth 10000

section
variable {ω : Om} {I : Imm} {L : LH} {K : Value → M}

structure LE where
  index : Int
  term : Int
  kind : Int
  data : List UInt8
def LeV (I : Imm) (e : LE) (c : List Value) : Prop := ∃ dv, c = [.int .i64 e.index, .int .i64 e.term, .int .i64 e.kind, dv] ∧ Bytes I dv e.data
theorem LeV.mono {I I' : Imm} {e : LE} {c : List Value} (h : LeV I e c) (hI : Ext I I') : LeV I' e c := by
  obtain ⟨dv, hc, hB⟩ := h
  exact ⟨dv, hc, hB.mono hI⟩
theorem LeV.len {e : LE} {c : List Value} (h : LeV I e c) : c.length = 4 := by obtain ⟨bv, rfl, hB⟩ := h; rfl
theorem LeV.one {e : LE} {c : List Value} (h : LeV I e c) : ∀ u ∈ c, u.oneCell' = true := by
  obtain ⟨bv, rfl, hB⟩ := h
  obtain ⟨_, _, rfl⟩ := hB.form
  exact one_all rfl

def entB (e : LE) : Bool := countB e.index && countB e.term && decide (1 ≤ e.term) &&
  (if e.kind = 1 then decide (e.data.length = 0) else if e.kind = 2 then decide (e.data.length ≤ 12000) else if e.kind = 3 then memB (nums e.data) else false)

theorem rentry_spec {e : LE} {c : List Value} (he : LeV I e c) (hk : ∀ I', Ext I I' → K (.bool (entB e)) I' L) : Cal Try.prog ω 61 #[.agg c.toArray] K I L := by
  obtain ⟨dv, rfl, hB⟩ := he
  have hln := Bytes.len hB
  refine cal61 ?_
  unfold sh61
  refine newI (fun b1 => ?_)
  simp only [Pv_some, fldV_p, nilV_p, nilV_f, lenV_s, capV_s, lenSV_s, strV_s, unV_not, unV_neg, pickV_t, pickV_f, exV_t, cvIV_i, binI_add, binI_sub, binI_mul, binI_eql, binI_neq, binI_lss, binI_leq, binI_gtr, binI_geq, binI_and, binI_or, binB_eql, binB_neq, binS_eql, binS_neq, binP_eql_nil, binP_neq_nil, binN_eql_nil, binN_neq_nil, binN_eql_nn, binN_neq_nn, Br_true, Br_false, cells_agg, List.getElem?_toArray, List.getElem?_cons_zero, List.getElem?_cons_succ, Nat.zero_add, Nat.add_zero, Nat.zero_mul]
  have bad : entB e = false → sh61_1 ω (.bool false) (fun v => Gh (K v)) I ((b1, Obj.cells #[.int .i64 e.index, .int .i64 e.term, .int .i64 e.kind, dv] 78 (0, 0)) :: L) := fun hb => by
    unfold sh61_1
    rw [hb] at hk
    exact Gh.to L (Gh.done (hk I (Ext.refl I)))
  refine rdb ?_
  refine call (rcount_spec ?_)
  simp only [Pv_some, fldV_p, nilV_p, nilV_f, lenV_s, capV_s, lenSV_s, strV_s, unV_not, unV_neg, pickV_t, pickV_f, exV_t, cvIV_i, binI_add, binI_sub, binI_mul, binI_eql, binI_neq, binI_lss, binI_leq, binI_gtr, binI_geq, binI_and, binI_or, binB_eql, binB_neq, binS_eql, binS_neq, binP_eql_nil, binP_neq_nil, binN_eql_nil, binN_neq_nil, binN_eql_nn, binN_neq_nn, Br_true, Br_false, cells_agg, List.getElem?_toArray, List.getElem?_cons_zero, List.getElem?_cons_succ, Nat.zero_add, Nat.add_zero, Nat.zero_mul]
  refine rdb ?_
  refine call (rcount_spec ?_)
  simp only [Pv_some, fldV_p, nilV_p, nilV_f, lenV_s, capV_s, lenSV_s, strV_s, unV_not, unV_neg, pickV_t, pickV_f, exV_t, cvIV_i, binI_add, binI_sub, binI_mul, binI_eql, binI_neq, binI_lss, binI_leq, binI_gtr, binI_geq, binI_and, binI_or, binB_eql, binB_neq, binS_eql, binS_neq, binP_eql_nil, binP_neq_nil, binN_eql_nil, binN_neq_nil, binN_eql_nn, binN_neq_nn, Br_true, Br_false, cells_agg, List.getElem?_toArray, List.getElem?_cons_zero, List.getElem?_cons_succ, Nat.zero_add, Nat.add_zero, Nat.zero_mul]
  refine gd_split (fun h1 => ?_) (fun h1 => bad (by simp at h1; simp [entB, h1]))
  refine gd_split (fun h2 => ?_) (fun h2 => bad (by simp at h2; simp [entB, h2]))
  refine rdb ?_
  simp only [Pv_some, fldV_p, nilV_p, nilV_f, lenV_s, capV_s, lenSV_s, strV_s, unV_not, unV_neg, pickV_t, pickV_f, exV_t, cvIV_i, binI_add, binI_sub, binI_mul, binI_eql, binI_neq, binI_lss, binI_leq, binI_gtr, binI_geq, binI_and, binI_or, binB_eql, binB_neq, binS_eql, binS_neq, binP_eql_nil, binP_neq_nil, binN_eql_nil, binN_neq_nil, binN_eql_nn, binN_neq_nn, Br_true, Br_false, cells_agg, List.getElem?_toArray, List.getElem?_cons_zero, List.getElem?_cons_succ, Nat.zero_add, Nat.add_zero, Nat.zero_mul]
  by_cases h3 : e.term < 1
  · simp only [h3, decide_true, Br_true]
    exact bad (by simp [entB]; omega)
  simp only [h3, decide_false, Br_false]
  refine rdb ?_
  simp only [Pv_some, fldV_p, nilV_p, nilV_f, lenV_s, capV_s, lenSV_s, strV_s, unV_not, unV_neg, pickV_t, pickV_f, exV_t, cvIV_i, binI_add, binI_sub, binI_mul, binI_eql, binI_neq, binI_lss, binI_leq, binI_gtr, binI_geq, binI_and, binI_or, binB_eql, binB_neq, binS_eql, binS_neq, binP_eql_nil, binP_neq_nil, binN_eql_nil, binN_neq_nil, binN_eql_nn, binN_neq_nn, Br_true, Br_false, cells_agg, List.getElem?_toArray, List.getElem?_cons_zero, List.getElem?_cons_succ, Nat.zero_add, Nat.add_zero, Nat.zero_mul]
  simp at h1 h2
  have h3' : 1 ≤ e.term := by omega
  by_cases k1 : e.kind = 1
  · simp only [k1, beq_self_eq_true, Br_true]
    unfold sh61_2
    simp only [Pv_some, fldV_p, nilV_p, nilV_f, lenV_s, capV_s, lenSV_s, strV_s, unV_not, unV_neg, pickV_t, pickV_f, exV_t, cvIV_i, binI_add, binI_sub, binI_mul, binI_eql, binI_neq, binI_lss, binI_leq, binI_gtr, binI_geq, binI_and, binI_or, binB_eql, binB_neq, binS_eql, binS_neq, binP_eql_nil, binP_neq_nil, binN_eql_nil, binN_neq_nil, binN_eql_nn, binN_neq_nn, Br_true, Br_false, cells_agg, List.getElem?_toArray, List.getElem?_cons_zero, List.getElem?_cons_succ, Nat.zero_add, Nat.add_zero, Nat.zero_mul]
    refine rdb ?_
    simp only [hln, Pv_some, fldV_p, nilV_p, nilV_f, lenV_s, capV_s, lenSV_s, strV_s, unV_not, unV_neg, pickV_t, pickV_f, exV_t, cvIV_i, binI_add, binI_sub, binI_mul, binI_eql, binI_neq, binI_lss, binI_leq, binI_gtr, binI_geq, binI_and, binI_or, binB_eql, binB_neq, binS_eql, binS_neq, binP_eql_nil, binP_neq_nil, binN_eql_nil, binN_neq_nil, binN_eql_nn, binN_neq_nn, Br_true, Br_false, cells_agg, List.getElem?_toArray, List.getElem?_cons_zero, List.getElem?_cons_succ, Nat.zero_add, Nat.add_zero, Nat.zero_mul]
    rw [show entB e = ((e.data.length : Int) == 0) from by simp [entB, h1, h2, h3', k1]; cases e.data <;> simp; omega] at hk
    exact Gh.to L (Gh.done (hk I (Ext.refl I)))
  have k1' : (e.kind == 1) = false := by simpa using k1
  simp only [k1', Br_false]
  unfold sh61_3
  simp only [Pv_some, fldV_p, nilV_p, nilV_f, lenV_s, capV_s, lenSV_s, strV_s, unV_not, unV_neg, pickV_t, pickV_f, exV_t, cvIV_i, binI_add, binI_sub, binI_mul, binI_eql, binI_neq, binI_lss, binI_leq, binI_gtr, binI_geq, binI_and, binI_or, binB_eql, binB_neq, binS_eql, binS_neq, binP_eql_nil, binP_neq_nil, binN_eql_nil, binN_neq_nil, binN_eql_nn, binN_neq_nn, Br_true, Br_false, cells_agg, List.getElem?_toArray, List.getElem?_cons_zero, List.getElem?_cons_succ, Nat.zero_add, Nat.add_zero, Nat.zero_mul]
  by_cases k2 : e.kind = 2
  · simp only [k2, beq_self_eq_true, Br_true]
    refine rdb ?_
    simp only [hln, Pv_some, fldV_p, nilV_p, nilV_f, lenV_s, capV_s, lenSV_s, strV_s, unV_not, unV_neg, pickV_t, pickV_f, exV_t, cvIV_i, binI_add, binI_sub, binI_mul, binI_eql, binI_neq, binI_lss, binI_leq, binI_gtr, binI_geq, binI_and, binI_or, binB_eql, binB_neq, binS_eql, binS_neq, binP_eql_nil, binP_neq_nil, binN_eql_nil, binN_neq_nil, binN_eql_nn, binN_neq_nn, Br_true, Br_false, cells_agg, List.getElem?_toArray, List.getElem?_cons_zero, List.getElem?_cons_succ, Nat.zero_add, Nat.add_zero, Nat.zero_mul]
    rw [show entB e = decide ((e.data.length : Int) ≤ 12000) from by simp [entB, h1, h2, h3', k2]; omega] at hk
    exact Gh.to L (Gh.done (hk I (Ext.refl I)))
  have k2' : (e.kind == 2) = false := by simpa using k2
  simp only [k2', Br_false]
  by_cases k3 : e.kind = 3
  · simp only [k3, beq_self_eq_true, Br_true]
    refine rdb ?_
    refine call (memberbytes_spec hB (fun I' hI' => ?_))
    rw [show entB e = memB (nums e.data) from by simp [entB, h1, h2, h3', k3]] at hk
    exact Gh.to L (Gh.done (hk I' hI'))
  have k3' : (e.kind == 3) = false := by simpa using k3
  simp only [k3', Br_false]
  rw [show entB e = false from by simp [entB, k1, k2, k3]] at hk
  exact Gh.to L (Gh.done (hk I (Ext.refl I)))

theorem entry_spec {e : LE} {c : List Value} (he : LeV I e c) (hk : ∀ I', Ext I I' → K (.bool (entB e)) I' L) : Cal Try.prog ω 69 #[.agg c.toArray] K I L := by
  obtain ⟨dv, rfl, hB⟩ := he
  have hln := Bytes.len hB
  refine cal69 ?_
  unfold sh69
  refine newI (fun b1 => ?_)
  simp only [Pv_some, fldV_p, nilV_p, nilV_f, lenV_s, capV_s, lenSV_s, strV_s, unV_not, unV_neg, pickV_t, pickV_f, exV_t, cvIV_i, binI_add, binI_sub, binI_mul, binI_eql, binI_neq, binI_lss, binI_leq, binI_gtr, binI_geq, binI_and, binI_or, binB_eql, binB_neq, binS_eql, binS_neq, binP_eql_nil, binP_neq_nil, binN_eql_nil, binN_neq_nil, binN_eql_nn, binN_neq_nn, Br_true, Br_false, cells_agg, List.getElem?_toArray, List.getElem?_cons_zero, List.getElem?_cons_succ, Nat.zero_add, Nat.add_zero, Nat.zero_mul]
  have bad : entB e = false → sh69_1 ω (.bool false) (fun v => Gh (K v)) I ((b1, Obj.cells #[.int .i64 e.index, .int .i64 e.term, .int .i64 e.kind, dv] 78 (0, 0)) :: L) := fun hb => by
    unfold sh69_1
    rw [hb] at hk
    exact Gh.to L (Gh.done (hk I (Ext.refl I)))
  refine rdb ?_
  refine call (count_spec ?_)
  simp only [Pv_some, fldV_p, nilV_p, nilV_f, lenV_s, capV_s, lenSV_s, strV_s, unV_not, unV_neg, pickV_t, pickV_f, exV_t, cvIV_i, binI_add, binI_sub, binI_mul, binI_eql, binI_neq, binI_lss, binI_leq, binI_gtr, binI_geq, binI_and, binI_or, binB_eql, binB_neq, binS_eql, binS_neq, binP_eql_nil, binP_neq_nil, binN_eql_nil, binN_neq_nil, binN_eql_nn, binN_neq_nn, Br_true, Br_false, cells_agg, List.getElem?_toArray, List.getElem?_cons_zero, List.getElem?_cons_succ, Nat.zero_add, Nat.add_zero, Nat.zero_mul]
  refine gd_split (fun h1 => ?_) (fun h1 => bad (by simp at h1; simp [entB, h1]))
  refine rdb ?_
  refine call (count_spec ?_)
  simp only [Pv_some, fldV_p, nilV_p, nilV_f, lenV_s, capV_s, lenSV_s, strV_s, unV_not, unV_neg, pickV_t, pickV_f, exV_t, cvIV_i, binI_add, binI_sub, binI_mul, binI_eql, binI_neq, binI_lss, binI_leq, binI_gtr, binI_geq, binI_and, binI_or, binB_eql, binB_neq, binS_eql, binS_neq, binP_eql_nil, binP_neq_nil, binN_eql_nil, binN_neq_nil, binN_eql_nn, binN_neq_nn, Br_true, Br_false, cells_agg, List.getElem?_toArray, List.getElem?_cons_zero, List.getElem?_cons_succ, Nat.zero_add, Nat.add_zero, Nat.zero_mul]
  refine gd_split (fun h2 => ?_) (fun h2 => bad (by simp at h2; simp [entB, h2]))
  refine rdb ?_
  simp only [Pv_some, fldV_p, nilV_p, nilV_f, lenV_s, capV_s, lenSV_s, strV_s, unV_not, unV_neg, pickV_t, pickV_f, exV_t, cvIV_i, binI_add, binI_sub, binI_mul, binI_eql, binI_neq, binI_lss, binI_leq, binI_gtr, binI_geq, binI_and, binI_or, binB_eql, binB_neq, binS_eql, binS_neq, binP_eql_nil, binP_neq_nil, binN_eql_nil, binN_neq_nil, binN_eql_nn, binN_neq_nn, Br_true, Br_false, cells_agg, List.getElem?_toArray, List.getElem?_cons_zero, List.getElem?_cons_succ, Nat.zero_add, Nat.add_zero, Nat.zero_mul]
  by_cases h3 : e.term < 1
  · simp only [h3, decide_true, Br_true]
    exact bad (by simp [entB]; omega)
  simp only [h3, decide_false, Br_false]
  refine rdb ?_
  simp only [Pv_some, fldV_p, nilV_p, nilV_f, lenV_s, capV_s, lenSV_s, strV_s, unV_not, unV_neg, pickV_t, pickV_f, exV_t, cvIV_i, binI_add, binI_sub, binI_mul, binI_eql, binI_neq, binI_lss, binI_leq, binI_gtr, binI_geq, binI_and, binI_or, binB_eql, binB_neq, binS_eql, binS_neq, binP_eql_nil, binP_neq_nil, binN_eql_nil, binN_neq_nil, binN_eql_nn, binN_neq_nn, Br_true, Br_false, cells_agg, List.getElem?_toArray, List.getElem?_cons_zero, List.getElem?_cons_succ, Nat.zero_add, Nat.add_zero, Nat.zero_mul]
  simp at h1 h2
  have h3' : 1 ≤ e.term := by omega
  by_cases k1 : e.kind = 1
  · simp only [k1, beq_self_eq_true, Br_true]
    unfold sh69_2
    simp only [Pv_some, fldV_p, nilV_p, nilV_f, lenV_s, capV_s, lenSV_s, strV_s, unV_not, unV_neg, pickV_t, pickV_f, exV_t, cvIV_i, binI_add, binI_sub, binI_mul, binI_eql, binI_neq, binI_lss, binI_leq, binI_gtr, binI_geq, binI_and, binI_or, binB_eql, binB_neq, binS_eql, binS_neq, binP_eql_nil, binP_neq_nil, binN_eql_nil, binN_neq_nil, binN_eql_nn, binN_neq_nn, Br_true, Br_false, cells_agg, List.getElem?_toArray, List.getElem?_cons_zero, List.getElem?_cons_succ, Nat.zero_add, Nat.add_zero, Nat.zero_mul]
    refine rdb ?_
    simp only [hln, Pv_some, fldV_p, nilV_p, nilV_f, lenV_s, capV_s, lenSV_s, strV_s, unV_not, unV_neg, pickV_t, pickV_f, exV_t, cvIV_i, binI_add, binI_sub, binI_mul, binI_eql, binI_neq, binI_lss, binI_leq, binI_gtr, binI_geq, binI_and, binI_or, binB_eql, binB_neq, binS_eql, binS_neq, binP_eql_nil, binP_neq_nil, binN_eql_nil, binN_neq_nil, binN_eql_nn, binN_neq_nn, Br_true, Br_false, cells_agg, List.getElem?_toArray, List.getElem?_cons_zero, List.getElem?_cons_succ, Nat.zero_add, Nat.add_zero, Nat.zero_mul]
    rw [show entB e = ((e.data.length : Int) == 0) from by simp [entB, h1, h2, h3', k1]; cases e.data <;> simp; omega] at hk
    exact Gh.to L (Gh.done (hk I (Ext.refl I)))
  have k1' : (e.kind == 1) = false := by simpa using k1
  simp only [k1', Br_false]
  unfold sh69_3
  simp only [Pv_some, fldV_p, nilV_p, nilV_f, lenV_s, capV_s, lenSV_s, strV_s, unV_not, unV_neg, pickV_t, pickV_f, exV_t, cvIV_i, binI_add, binI_sub, binI_mul, binI_eql, binI_neq, binI_lss, binI_leq, binI_gtr, binI_geq, binI_and, binI_or, binB_eql, binB_neq, binS_eql, binS_neq, binP_eql_nil, binP_neq_nil, binN_eql_nil, binN_neq_nil, binN_eql_nn, binN_neq_nn, Br_true, Br_false, cells_agg, List.getElem?_toArray, List.getElem?_cons_zero, List.getElem?_cons_succ, Nat.zero_add, Nat.add_zero, Nat.zero_mul]
  by_cases k2 : e.kind = 2
  · simp only [k2, beq_self_eq_true, Br_true]
    refine rdb ?_
    simp only [hln, Pv_some, fldV_p, nilV_p, nilV_f, lenV_s, capV_s, lenSV_s, strV_s, unV_not, unV_neg, pickV_t, pickV_f, exV_t, cvIV_i, binI_add, binI_sub, binI_mul, binI_eql, binI_neq, binI_lss, binI_leq, binI_gtr, binI_geq, binI_and, binI_or, binB_eql, binB_neq, binS_eql, binS_neq, binP_eql_nil, binP_neq_nil, binN_eql_nil, binN_neq_nil, binN_eql_nn, binN_neq_nn, Br_true, Br_false, cells_agg, List.getElem?_toArray, List.getElem?_cons_zero, List.getElem?_cons_succ, Nat.zero_add, Nat.add_zero, Nat.zero_mul]
    rw [show entB e = decide ((e.data.length : Int) ≤ 12000) from by simp [entB, h1, h2, h3', k2]; omega] at hk
    exact Gh.to L (Gh.done (hk I (Ext.refl I)))
  have k2' : (e.kind == 2) = false := by simpa using k2
  simp only [k2', Br_false]
  by_cases k3 : e.kind = 3
  · simp only [k3, beq_self_eq_true, Br_true]
    refine rdb ?_
    simp only [hln, Pv_some, fldV_p, nilV_p, nilV_f, lenV_s, capV_s, lenSV_s, strV_s, unV_not, unV_neg, pickV_t, pickV_f, exV_t, cvIV_i, binI_add, binI_sub, binI_mul, binI_eql, binI_neq, binI_lss, binI_leq, binI_gtr, binI_geq, binI_and, binI_or, binB_eql, binB_neq, binS_eql, binS_neq, binP_eql_nil, binP_neq_nil, binN_eql_nil, binN_neq_nil, binN_eql_nn, binN_neq_nn, Br_true, Br_false, cells_agg, List.getElem?_toArray, List.getElem?_cons_zero, List.getElem?_cons_succ, Nat.zero_add, Nat.add_zero, Nat.zero_mul]
    rw [show entB e = memB (nums e.data) from by simp [entB, h1, h2, h3', k3]] at hk
    refine gd_split (fun h5 => ?_) (fun h5 => ?_)
    · simp only [decide_eq_true_eq] at h5
      refine rdb ?_
      refine call (numbers_spec hB (by omega) (fun v' I' hI' hv' => ?_))
      refine call (members_spec hv' (by rw [nums_len]; omega) ?_)
      exact Gh.to L (Gh.done (hk I' hI'))
    · simp only [ne_eq, decide_eq_true_eq] at h5
      rw [memBnums_len (by omega)] at hk
      exact Gh.to L (Gh.done (hk I (Ext.refl I)))
  have k3' : (e.kind == 3) = false := by simpa using k3
  simp only [k3', Br_false]
  rw [show entB e = false from by simp [entB, k1, k2, k3]] at hk
  exact Gh.to L (Gh.done (hk I (Ext.refl I)))

end
end Go.Proofs.Ytfeonffmeajpgaa
