import Derived.Test.YtfeonffmeajpgaaM
set_option linter.unusedSimpArgs false
set_option linter.unusedVariables false
namespace Go.Proofs.Ytfeonffmeajpgaa
open Go.SL
set_option maxRecDepth 10000

section
variable {ω : Om} {I : Imm} {L : LH} {K : Value → M}

theorem rmembers_spec {v : Value} {l : List Int} (h : Ints I v l) (hlen : l.length < 4611686018427387904) (hk : K (.bool (memB l)) I L) : Cal Try.prog ω 60 #[v] K I L := by
  refine cal60 ?_
  have hln := Ints.len h
  unfold sh60
  simp only [hln, Pv_some, fldV_p, nilV_p, nilV_f, lenV_s, capV_s, lenSV_s, strV_s, unV_not, unV_neg, pickV_t, pickV_f, exV_t, cvIV_i, binI_add, binI_sub, binI_mul, binI_eql, binI_neq, binI_lss, binI_leq, binI_gtr, binI_geq, binI_and, binI_or, binB_eql, binB_neq, binS_eql, binS_neq, binP_eql_nil, binP_neq_nil, binN_eql_nil, binN_neq_nil, binN_eql_nn, binN_neq_nn, Br_true, Br_false, cells_agg, List.getElem?_toArray, List.getElem?_cons_zero, List.getElem?_cons_succ, Nat.zero_add, Nat.add_zero, Nat.zero_mul]
  refine gd_split (fun hg1 => ?_) (fun hg1 => ?_)
  case refine_2 =>
    unfold sh60_1
    have : memB l = false := by
      simp at hg1
      simp only [memB, Bool.and_eq_false_iff, decide_eq_false_iff_not]
      left; omega
    rw [this] at hk
    exact Gh.done hk
  by_cases h5 : (5 : Int) < l.length
  · simp only [h5, decide_true, Br_true]
    unfold sh60_1
    have : memB l = false := by
      cases hm : memB l with
      | false => rfl
      | true => have := memB_len hm; omega
    rw [this] at hk
    exact Gh.done hk
  simp only [h5, decide_false, Br_false]
  refine loop (fun s I' L' => I' = I ∧ L' = L ∧ ∃ k : Nat, s = (.bool false, .int .i64 k, ()) ∧ k ≤ l.length ∧ ∀ j, j < k → goodAt l j = true)
    (fun s _ _ => match s with | (_, .int _ k, _) => ((l.length : Int) - k).toNat | _ => 0) ⟨rfl, rfl, 0, rfl, by omega, fun j hj => by omega⟩ ?_
  rintro s I' L' ⟨rfl, rfl, k, rfl, hk1, hg⟩
  unfold sh60_4
  simp only [hln, Pv_some, fldV_p, nilV_p, nilV_f, lenV_s, capV_s, lenSV_s, strV_s, unV_not, unV_neg, pickV_t, pickV_f, exV_t, cvIV_i, binI_add, binI_sub, binI_mul, binI_eql, binI_neq, binI_lss, binI_leq, binI_gtr, binI_geq, binI_and, binI_or, binB_eql, binB_neq, binS_eql, binS_neq, binP_eql_nil, binP_neq_nil, binN_eql_nil, binN_neq_nil, binN_eql_nn, binN_neq_nn, Br_true, Br_false, cells_agg, List.getElem?_toArray, List.getElem?_cons_zero, List.getElem?_cons_succ, Nat.zero_add, Nat.add_zero, Nat.zero_mul]
  by_cases hlt : k < l.length
  · have h1 : ((k : Int) < l.length) := by omega
    simp only [h1, decide_true, Br_true]
    obtain ⟨b, off, hix, hc⟩ := Ints.at h hlt
    simp only [hix, Pv_some, fldV_p, nilV_p, nilV_f, lenV_s, capV_s, lenSV_s, strV_s, unV_not, unV_neg, pickV_t, pickV_f, exV_t, cvIV_i, binI_add, binI_sub, binI_mul, binI_eql, binI_neq, binI_lss, binI_leq, binI_gtr, binI_geq, binI_and, binI_or, binB_eql, binB_neq, binS_eql, binS_neq, binP_eql_nil, binP_neq_nil, binN_eql_nil, binN_neq_nil, binN_eql_nn, binN_neq_nn, Br_true, Br_false, cells_agg, List.getElem?_toArray, List.getElem?_cons_zero, List.getElem?_cons_succ, Nat.zero_add, Nat.add_zero, Nat.zero_mul]
    refine rd1 (hc I' L' (Ext.refl I')) ?_
    refine call (rnode_spec ?_)
    refine draw (Stay I' _) (Stay.start I' _) ?_
    simp only [Pv_some, fldV_p, nilV_p, nilV_f, lenV_s, capV_s, lenSV_s, strV_s, unV_not, unV_neg, pickV_t, pickV_f, exV_t, cvIV_i, binI_add, binI_sub, binI_mul, binI_eql, binI_neq, binI_lss, binI_leq, binI_gtr, binI_geq, binI_and, binI_or, binB_eql, binB_neq, binS_eql, binS_neq, binP_eql_nil, binP_neq_nil, binN_eql_nil, binN_neq_nil, binN_eql_nn, binN_neq_nn, Br_true, Br_false, cells_agg, List.getElem?_toArray, List.getElem?_cons_zero, List.getElem?_cons_succ, Nat.zero_add, Nat.add_zero, Nat.zero_mul]
    have bad : goodAt l k = false → sh60_5 ω (.bool false) (fun v => Gh (K v)) I' L' := fun hb => by
      unfold sh60_5
      rw [memB_false hlt hb] at hk
      exact Gh.done hk
    have next : goodAt l k = true → (Gh fun I2 L2 => (I2 = I' ∧ L2 = L' ∧ ∃ k' : Nat, ((.bool false, .int .i64 ((k : Int) + 1), ()) : Value × Value × Unit) = (.bool false, .int .i64 k', ()) ∧ k' ≤ l.length ∧ ∀ j, j < k' → goodAt l j = true) ∧ ((l.length : Int) - ((k : Int) + 1)).toNat < ((l.length : Int) - k).toNat) I' L' := fun hgk => by
      refine Gh.done ⟨⟨rfl, rfl, k + 1, by simp, by omega, fun j hj => ?_⟩, by omega⟩
      rcases Nat.lt_or_eq_of_le (Nat.le_of_lt_succ hj) with h | h
      · exact hg j h
      · rw [h]; exact hgk
    refine gd_split (fun hn => ?_) (fun hn => ?_)
    · simp only [Bool.not_eq_eq_eq_not, Bool.not_false] at hn
      refine gd_split (fun h0 => ?_) (fun h0 => ?_)
      · simp only [decide_eq_true_eq] at h0
        obtain ⟨b2, off2, hix2, hc2⟩ := Ints.at (k := k - 1) h (by omega)
        rw [show (((k - 1 : Nat)) : Int) = (k : Int) - 1 from by omega] at hix2
        simp only [hix, wrap_i64 ((k : Int) - 1) (by omega), hix2, Pv_some, fldV_p, nilV_p, nilV_f, lenV_s, capV_s, lenSV_s, strV_s, unV_not, unV_neg, pickV_t, pickV_f, exV_t, cvIV_i, binI_add, binI_sub, binI_mul, binI_eql, binI_neq, binI_lss, binI_leq, binI_gtr, binI_geq, binI_and, binI_or, binB_eql, binB_neq, binS_eql, binS_neq, binP_eql_nil, binP_neq_nil, binN_eql_nil, binN_neq_nil, binN_eql_nn, binN_neq_nn, Br_true, Br_false, cells_agg, List.getElem?_toArray, List.getElem?_cons_zero, List.getElem?_cons_succ, Nat.zero_add, Nat.add_zero, Nat.zero_mul]
        refine rd1I (hc I' L' (Ext.refl I')) ?_
        refine rd1I (hc2 I' L' (Ext.refl I')) ?_
        simp only [Pv_some, fldV_p, nilV_p, nilV_f, lenV_s, capV_s, lenSV_s, strV_s, unV_not, unV_neg, pickV_t, pickV_f, exV_t, cvIV_i, binI_add, binI_sub, binI_mul, binI_eql, binI_neq, binI_lss, binI_leq, binI_gtr, binI_geq, binI_and, binI_or, binB_eql, binB_neq, binS_eql, binS_neq, binP_eql_nil, binP_neq_nil, binN_eql_nil, binN_neq_nil, binN_eql_nn, binN_neq_nn, Br_true, Br_false, cells_agg, List.getElem?_toArray, List.getElem?_cons_zero, List.getElem?_cons_succ, Nat.zero_add, Nat.add_zero, Nat.zero_mul]
        by_cases hle : l.getD k 0 ≤ l.getD (k - 1) 0
        · simp only [hle, decide_true, Br_true]
          refine bad ?_
          simp only [goodAt, hn, Bool.true_and, Bool.or_eq_false_iff, beq_eq_false_iff_ne, decide_eq_false_iff_not]
          exact ⟨by omega, by omega⟩
        · simp only [hle, decide_false, Br_false, wrap_i64 ((k : Int) + 1) (by omega)]
          refine next ?_
          simp only [goodAt, hn, Bool.true_and, Bool.or_eq_true, decide_eq_true_eq]
          right; omega
      · simp only [ne_eq, decide_eq_true_eq] at h0
        simp only [wrap_i64 ((k : Int) + 1) (by omega), Pv_some, fldV_p, nilV_p, nilV_f, lenV_s, capV_s, lenSV_s, strV_s, unV_not, unV_neg, pickV_t, pickV_f, exV_t, cvIV_i, binI_add, binI_sub, binI_mul, binI_eql, binI_neq, binI_lss, binI_leq, binI_gtr, binI_geq, binI_and, binI_or, binB_eql, binB_neq, binS_eql, binS_neq, binP_eql_nil, binP_neq_nil, binN_eql_nil, binN_neq_nil, binN_eql_nn, binN_neq_nn, Br_true, Br_false, cells_agg, List.getElem?_toArray, List.getElem?_cons_zero, List.getElem?_cons_succ, Nat.zero_add, Nat.add_zero, Nat.zero_mul]
        have : k = 0 := by omega
        subst this
        exact next (by simp only [goodAt, hn]; rfl)
    · refine bad ?_
      have hn' : nodeB (l.getD k 0) = false := by revert hn; cases nodeB (l.getD k 0) <;> simp
      simp only [goodAt, hn', Bool.false_and]
  · have h1 : ¬ ((k : Int) < l.length) := by omega
    simp only [h1, decide_false, Br_false]
    unfold sh60_3 sh60_2
    simp only [ne_eq, decide_eq_false_iff_not] at hg1
    rw [memB_true (fun j hj => hg j (by omega)), show decide (0 < l.length) = true from by simp; omega] at hk
    exact Gh.done hk

end
end Go.Proofs.Ytfeonffmeajpgaa
