import Derived.Test.YtfeonffmeajpgaaD5
set_option linter.unusedSimpArgs false
set_option linter.unusedVariables false
namespace Go.Proofs.Ytfeonffmeajpgaa
open Go.SL
set_option maxRecDepth 10000

section
variable {ω : Om} {I : Imm} {L : LH} {K : Value → M}

theorem evar_spec {b : Nat} {F : LH} {bv : Value} {bs : List UInt8} {i : Nat} {bad : Bool} (h : Bytes I bv bs) (hi : i ≤ bs.length) (hl : bs.length < 4611686018427387904)
    (hk : ∀ j, j ≤ bs.length → bs.drop j = (varG (bs.drop i, bad)).2.1 → K (.int .i64 (varG (bs.drop i, bad)).1) I ((b, erO bv j (varG (bs.drop i, bad)).2.2) :: F)) :
    Cal Try.prog ω 56 #[.pointer (some ⟨b, 0, none⟩)] K I ((b, erO bv i bad) :: F) := by
  refine cal56 ?_
  unfold sh56
  refine loop (fun st I' L' => I' = I ∧ ∃ (k n j : Nat) (bad' : Bool), st = (.int .i64 0, .int .i64 n, .int .i64 ((128 ^ k : Nat) : Int), .int .i64 k, ()) ∧ k ≤ 8 ∧ n < 128 ^ k ∧ j ≤ bs.length ∧ L' = (b, erO bv j bad') :: F ∧ vrG (8 - k) k (128 ^ k) n (bs.drop j, bad') = varG (bs.drop i, bad))
    (fun s _ _ => match s with | (_, _, _, .int _ k, _) => ((8 : Int) - k).toNat | _ => 0) ⟨rfl, 0, 0, i, bad, rfl, by omega, by simp, hi, rfl, rfl⟩ ?_
  rintro st I' L' ⟨rfl, k, n, j, bad', rfl, hk8, hn, hj, rfl, he⟩
  simp only
  (first | (with_reducible refine unfE (sh56_1.eq_1 ..) ?_) | (with_reducible refine unfE (sh56_2.eq_1 ..) ?_) | (with_reducible refine unfE (sh56_4.eq_1 ..) ?_) | (with_reducible refine unfE (sh56_5.eq_1 ..) ?_) | (with_reducible refine unfE (sh56_3.eq_1 ..) ?_) | (with_reducible refine unfE (sh56.eq_1 ..) ?_))
  simp only [Pv_some, fldV_p, nilV_p, nilV_f, lenV_s, capV_s, lenSV_s, strV_s, unV_not, unV_neg, pickV_t, pickV_f, exV_t, cvIV_i, binI_add, binI_sub, binI_mul, binI_eql, binI_neq, binI_lss, binI_leq, binI_gtr, binI_geq, binI_and, binI_or, binB_eql, binB_neq, binS_eql, binS_neq, binP_eql_nil, binP_neq_nil, binN_eql_nil, binN_neq_nil, binN_eql_nn, binN_neq_nn, Br_true, Br_false, cells_agg, List.getElem?_toArray, List.getElem?_cons_zero, List.getElem?_cons_succ, Nat.zero_add, Nat.add_zero, Nat.zero_mul]
  by_cases hlt : k = 8
  · subst hlt
    have h1 : ¬ (((8 : Nat) : Int) < 8) := by omega
    simp only [h1, decide_false, Br_false]
    unfold sh56_2 sh56_1
    simp only [Pv_some, fldV_p, nilV_p, nilV_f, lenV_s, capV_s, lenSV_s, strV_s, unV_not, unV_neg, pickV_t, pickV_f, exV_t, cvIV_i, binI_add, binI_sub, binI_mul, binI_eql, binI_neq, binI_lss, binI_leq, binI_gtr, binI_geq, binI_and, binI_or, binB_eql, binB_neq, binS_eql, binS_neq, binP_eql_nil, binP_neq_nil, binN_eql_nil, binN_neq_nil, binN_eql_nn, binN_neq_nn, Br_true, Br_false, cells_agg, List.getElem?_toArray, List.getElem?_cons_zero, List.getElem?_cons_succ, Nat.zero_add, Nat.add_zero, Nat.zero_mul]
    refine st1 rfl ?_
    simp only [Nat.sub_self, vrG] at he
    rw [← he] at hk
    exact Gh.done (hk j hj rfl)
  · have h1 : ((k : Int) < 8) := by omega
    simp only [h1, decide_true, Br_true]
    refine call (ebyte_spec h hj hl (fun j2 hj2 hd2 => ?_))
    have hb := byteG_lt (bs.drop j, bad')
    have hm : (byteG (bs.drop j, bad')).1 % 128 < 128 := Nat.mod_lt _ (by omega)
    have hp : 128 ^ k * 128 ≤ 72057594037927936 := by
      rw [← Nat.pow_succ, show (72057594037927936 : Nat) = 128 ^ 8 from rfl]
      exact Nat.pow_le_pow_right (by omega) (by omega)
    have hml : (byteG (bs.drop j, bad')).1 % 128 * 128 ^ k ≤ 127 * 128 ^ k := Nat.mul_le_mul_right _ (by omega)
    rw [show 8 - k = (7 - k) + 1 from by omega] at he
    simp only [vrG] at he
    revert he hml hm hb hd2
    generalize byteG (bs.drop j, bad') = x
    obtain ⟨x, s2, bd2⟩ := x
    intro he hd2 hb hm hml
    simp only at hd2 hb hm hml he ⊢
    simp only [binI_rem _ _ _ (show (128 : Int) ≠ 0 by omega), Pv_some, fldV_p, nilV_p, nilV_f, lenV_s, capV_s, lenSV_s, strV_s, unV_not, unV_neg, pickV_t, pickV_f, exV_t, cvIV_i, binI_add, binI_sub, binI_mul, binI_eql, binI_neq, binI_lss, binI_leq, binI_gtr, binI_geq, binI_and, binI_or, binB_eql, binB_neq, binS_eql, binS_neq, binP_eql_nil, binP_neq_nil, binN_eql_nil, binN_neq_nil, binN_eql_nn, binN_neq_nn, Br_true, Br_false, cells_agg, List.getElem?_toArray, List.getElem?_cons_zero, List.getElem?_cons_succ, Nat.zero_add, Nat.add_zero, Nat.zero_mul]
    rw [show ((x : Int).tmod 128) = ((x % 128 : Nat) : Int) from by rw [Int.tmod_eq_emod_of_nonneg (by omega)]; omega]
    rw [show ((x % 128 : Nat) : Int) * ((128 ^ k : Nat) : Int) = ((x % 128 * 128 ^ k : Nat) : Int) from by simp]
    rw [wrap_i64 ((x % 128 * 128 ^ k : Nat) : Int) (by omega)]
    rw [show (n : Int) + ((x % 128 * 128 ^ k : Nat) : Int) = ((n + x % 128 * 128 ^ k : Nat) : Int) from by simp]
    rw [wrap_i64 ((n + x % 128 * 128 ^ k : Nat) : Int) (by omega)]
    have hyl : n + x % 128 * 128 ^ k < 128 ^ k * 128 := by omega
    generalize n + x % 128 * 128 ^ k = y at *
    refine br_split (fun hx => ?_) (fun hx => ?_)
    · simp only [decide_eq_true_eq] at hx
      rw [if_pos (by omega)] at he
      rw [← he] at hk
      simp only at hk
      repeat' (first | (with_reducible refine gd_split (fun _ => ?_) (fun _ => ?_)) | (with_reducible refine br_split (fun _ => ?_) (fun _ => ?_)) | (with_reducible refine newI (fun _ => ?_)) | (with_reducible refine unfE (sh56_1.eq_1 ..) ?_) | (with_reducible refine unfE (sh56_2.eq_1 ..) ?_) | (with_reducible refine unfE (sh56_4.eq_1 ..) ?_) | (with_reducible refine unfE (sh56_5.eq_1 ..) ?_) | (with_reducible refine unfE (sh56_3.eq_1 ..) ?_) | (with_reducible refine unfE (sh56.eq_1 ..) ?_) | first | refine rdb ?_ | refine st1 rfl ?_ | refine rdB rfl ?_ | refine rdbS ?_ | refine rdBS rfl ?_ | (simp only [Pv_some, fldV_p, nilV_p, nilV_f, lenV_s, capV_s, lenSV_s, strV_s, unV_not, unV_neg, pickV_t, pickV_f, exV_t, cvIV_i, binI_add, binI_sub, binI_mul, binI_eql, binI_neq, binI_lss, binI_leq, binI_gtr, binI_geq, binI_and, binI_or, binB_eql, binB_neq, binS_eql, binS_neq, binP_eql_nil, binP_neq_nil, binN_eql_nil, binN_neq_nil, binN_eql_nn, binN_neq_nn, Br_true, Br_false, cells_agg, List.getElem?_toArray, List.getElem?_cons_zero, List.getElem?_cons_succ, Nat.zero_add, Nat.add_zero, Nat.zero_mul]))
      all_goals simp only [ne_eq, decide_eq_true_eq, decide_eq_false_iff_not, beq_iff_eq, beq_eq_false_iff_ne, Bool.not_eq_true, Bool.not_eq_false] at *
      all_goals first
        | (rw [if_pos (by simp; omega)] at hk; exact Gh.done (hk j2 hj2 hd2))
        | (rw [if_neg (by simp; omega)] at hk; exact Gh.done (hk j2 hj2 hd2))
    · simp only [decide_eq_false_iff_not] at hx
      rw [if_neg (by omega)] at he
      rw [show ((128 ^ k : Nat) : Int) * 128 = ((128 ^ (k + 1) : Nat) : Int) from by rw [Nat.pow_succ]; simp]
      rw [Nat.pow_succ] at *
      simp only [wrap_i64 ((128 ^ k * 128 : Nat) : Int) (by omega), wrap_i64 ((k : Int) + 1) (by omega), Pv_some, fldV_p, nilV_p, nilV_f, lenV_s, capV_s, lenSV_s, strV_s, unV_not, unV_neg, pickV_t, pickV_f, exV_t, cvIV_i, binI_add, binI_sub, binI_mul, binI_eql, binI_neq, binI_lss, binI_leq, binI_gtr, binI_geq, binI_and, binI_or, binB_eql, binB_neq, binS_eql, binS_neq, binP_eql_nil, binP_neq_nil, binN_eql_nil, binN_neq_nil, binN_eql_nn, binN_neq_nn, Br_true, Br_false, cells_agg, List.getElem?_toArray, List.getElem?_cons_zero, List.getElem?_cons_succ, Nat.zero_add, Nat.add_zero, Nat.zero_mul]
      refine Gh.done ⟨⟨rfl, k + 1, y, j2, bd2, ?_, by omega, ?_, hj2, rfl, ?_⟩, by omega⟩
      · simp [Nat.pow_succ]
      · rw [Nat.pow_succ]; omega
      · rw [hd2, show 8 - (k + 1) = 7 - k from by omega, Nat.pow_succ]
        exact he

end
end Go.Proofs.Ytfeonffmeajpgaa
