import Derived.Test.YtfeonffmeajpgaaD6
set_option linter.unusedSimpArgs false
set_option linter.unusedVariables false
namespace Go.Proofs.Ytfeonffmeajpgaa
open Go.SL
set_option maxRecDepth 10000

section
variable {ω : Om} {I : Imm} {L : LH} {K : Value → M}

theorem etext_spec {b : Nat} {F : LH} {bv : Value} {bs : List UInt8} {i : Nat} {bad : Bool} (h : Bytes I bv bs) (hi : i ≤ bs.length) (hl : bs.length ≤ 140737488355328)
    (hk : ∀ v' I' j, Ext I I' → j ≤ bs.length → bs.drop j = (textG (bs.drop i, bad)).2.1 → Bytes I' v' (textG (bs.drop i, bad)).1 → K v' I' ((b, erO bv j (textG (bs.drop i, bad)).2.2) :: F)) :
    Cal Try.prog ω 57 #[.pointer (some ⟨b, 0, none⟩)] K I ((b, erO bv i bad) :: F) := by
  refine cal57 ?_
  unfold sh57
  refine call (evar_spec h hi (by omega) (fun j hj hd => ?_))
  unfold textG at hk
  revert hk hd
  generalize varG (bs.drop i, bad) = x
  obtain ⟨n, rest, bd⟩ := x
  intro hk hd
  simp only at hd hk ⊢
  have hrl : rest.length = bs.length - j := by rw [← hd, List.length_drop]
  have badK : (bd || decide (rest.length < n)) = true → sh57_1 ω (.pointer (some ⟨b, 0, none⟩)) (.slice none 0 0) (fun v => Gh (K v)) I ((b, erO bv j bd) :: F) := fun hb => by
    rw [if_pos hb] at hk
    unfold sh57_1
    simp only [Pv_some, fldV_p, nilV_p, nilV_f, lenV_s, capV_s, lenSV_s, strV_s, unV_not, unV_neg, pickV_t, pickV_f, exV_t, cvIV_i, binI_add, binI_sub, binI_mul, binI_eql, binI_neq, binI_lss, binI_leq, binI_gtr, binI_geq, binI_and, binI_or, binB_eql, binB_neq, binS_eql, binS_neq, binP_eql_nil, binP_neq_nil, binN_eql_nil, binN_neq_nil, binN_eql_nn, binN_neq_nn, Br_true, Br_false, cells_agg, List.getElem?_toArray, List.getElem?_cons_zero, List.getElem?_cons_succ, Nat.zero_add, Nat.add_zero, Nat.zero_mul]
    refine st1 rfl ?_
    exact Gh.done (hk _ I j (Ext.refl I) hj hd (SlI.nil _ _ _ _))
  refine draw (Stay I [(b, erO bv j bd)]) ⟨Ext.refl I, by simp⟩ ?_
  simp only [Pv_some, fldV_p, nilV_p, nilV_f, lenV_s, capV_s, lenSV_s, strV_s, unV_not, unV_neg, pickV_t, pickV_f, exV_t, cvIV_i, binI_add, binI_sub, binI_mul, binI_eql, binI_neq, binI_lss, binI_leq, binI_gtr, binI_geq, binI_and, binI_or, binB_eql, binB_neq, binS_eql, binS_neq, binP_eql_nil, binP_neq_nil, binN_eql_nil, binN_neq_nil, binN_eql_nn, binN_neq_nn, Br_true, Br_false, cells_agg, List.getElem?_toArray, List.getElem?_cons_zero, List.getElem?_cons_succ, Nat.zero_add, Nat.add_zero, Nat.zero_mul]
  refine rdbS ?_
  refine gd_split (fun g => ?_) (fun g => badK (by simp at g; simp [g]))
  subst g
  try simp only [Pv_some, fldV_p, nilV_p, nilV_f, lenV_s, capV_s, lenSV_s, strV_s, unV_not, unV_neg, pickV_t, pickV_f, exV_t, cvIV_i, binI_add, binI_sub, binI_mul, binI_eql, binI_neq, binI_lss, binI_leq, binI_gtr, binI_geq, binI_and, binI_or, binB_eql, binB_neq, binS_eql, binS_neq, binP_eql_nil, binP_neq_nil, binN_eql_nil, binN_neq_nil, binN_eql_nn, binN_neq_nn, Br_true, Br_false, cells_agg, List.getElem?_toArray, List.getElem?_cons_zero, List.getElem?_cons_succ, Nat.zero_add, Nat.add_zero, Nat.zero_mul]
  refine rdbS ?_
  simp only [Bytes.len h, Pv_some, fldV_p, nilV_p, nilV_f, lenV_s, capV_s, lenSV_s, strV_s, unV_not, unV_neg, pickV_t, pickV_f, exV_t, cvIV_i, binI_add, binI_sub, binI_mul, binI_eql, binI_neq, binI_lss, binI_leq, binI_gtr, binI_geq, binI_and, binI_or, binB_eql, binB_neq, binS_eql, binS_neq, binP_eql_nil, binP_neq_nil, binN_eql_nil, binN_neq_nil, binN_eql_nn, binN_neq_nn, Br_true, Br_false, cells_agg, List.getElem?_toArray, List.getElem?_cons_zero, List.getElem?_cons_succ, Nat.zero_add, Nat.add_zero, Nat.zero_mul]
  refine rdbS ?_
  simp only [Pv_some, fldV_p, nilV_p, nilV_f, lenV_s, capV_s, lenSV_s, strV_s, unV_not, unV_neg, pickV_t, pickV_f, exV_t, cvIV_i, binI_add, binI_sub, binI_mul, binI_eql, binI_neq, binI_lss, binI_leq, binI_gtr, binI_geq, binI_and, binI_or, binB_eql, binB_neq, binS_eql, binS_neq, binP_eql_nil, binP_neq_nil, binN_eql_nil, binN_neq_nil, binN_eql_nn, binN_neq_nn, Br_true, Br_false, cells_agg, List.getElem?_toArray, List.getElem?_cons_zero, List.getElem?_cons_succ, Nat.zero_add, Nat.add_zero, Nat.zero_mul, wrap_i64 ((bs.length : Int) - j) (by omega)]
  refine br_split (fun g => ?_) (fun g => ?_)
  · exact badK (by simp at g; simp; omega)
  simp only [decide_eq_false_iff_not] at g
  rw [if_neg (by simp; omega)] at hk
  refine rdb ?_
  simp only [Pv_some, fldV_p, nilV_p, nilV_f, lenV_s, capV_s, lenSV_s, strV_s, unV_not, unV_neg, pickV_t, pickV_f, exV_t, cvIV_i, binI_add, binI_sub, binI_mul, binI_eql, binI_neq, binI_lss, binI_leq, binI_gtr, binI_geq, binI_and, binI_or, binB_eql, binB_neq, binS_eql, binS_neq, binP_eql_nil, binP_neq_nil, binN_eql_nil, binN_neq_nil, binN_eql_nn, binN_neq_nn, Br_true, Br_false, cells_agg, List.getElem?_toArray, List.getElem?_cons_zero, List.getElem?_cons_succ, Nat.zero_add, Nat.add_zero, Nat.zero_mul, wrap_i64 ((j : Int) + n) (by omega)]
  refine st1 rfl ?_
  refine draw (Stay I [(b, Obj.cells #[bv, .int .i64 ((j : Int) + n), .bool false] 92 (0, 0))]) ⟨Ext.refl I, by simp⟩ ?_
  refine bld_zero (fun X u hX => ?_)
  refine keepS (Ext.refl I) (by simp) ?_
  try simp only [Pv_some, fldV_p, nilV_p, nilV_f, lenV_s, capV_s, lenSV_s, strV_s, unV_not, unV_neg, pickV_t, pickV_f, exV_t, cvIV_i, binI_add, binI_sub, binI_mul, binI_eql, binI_neq, binI_lss, binI_leq, binI_gtr, binI_geq, binI_and, binI_or, binB_eql, binB_neq, binS_eql, binS_neq, binP_eql_nil, binP_neq_nil, binN_eql_nil, binN_neq_nil, binN_eql_nn, binN_neq_nn, Br_true, Br_false, cells_agg, List.getElem?_toArray, List.getElem?_cons_zero, List.getElem?_cons_succ, Nat.zero_add, Nat.add_zero, Nat.zero_mul]
  refine rdbS ?_
  try simp only [Pv_some, fldV_p, nilV_p, nilV_f, lenV_s, capV_s, lenSV_s, strV_s, unV_not, unV_neg, pickV_t, pickV_f, exV_t, cvIV_i, binI_add, binI_sub, binI_mul, binI_eql, binI_neq, binI_lss, binI_leq, binI_gtr, binI_geq, binI_and, binI_or, binB_eql, binB_neq, binS_eql, binS_neq, binP_eql_nil, binP_neq_nil, binN_eql_nil, binN_neq_nil, binN_eql_nn, binN_neq_nn, Br_true, Br_false, cells_agg, List.getElem?_toArray, List.getElem?_cons_zero, List.getElem?_cons_succ, Nat.zero_add, Nat.add_zero, Nat.zero_mul]
  refine rdbS ?_
  simp only [Pv_some, fldV_p, nilV_p, nilV_f, lenV_s, capV_s, lenSV_s, strV_s, unV_not, unV_neg, pickV_t, pickV_f, exV_t, cvIV_i, binI_add, binI_sub, binI_mul, binI_eql, binI_neq, binI_lss, binI_leq, binI_gtr, binI_geq, binI_and, binI_or, binB_eql, binB_neq, binS_eql, binS_neq, binP_eql_nil, binP_neq_nil, binN_eql_nil, binN_neq_nil, binN_eql_nn, binN_neq_nn, Br_true, Br_false, cells_agg, List.getElem?_toArray, List.getElem?_cons_zero, List.getElem?_cons_succ, Nat.zero_add, Nat.add_zero, Nat.zero_mul, wrap_i64 ((j : Int) + n - n) (by omega)]
  refine rdbS ?_
  obtain ⟨v', hs, hB⟩ := Bytes.part (lo := j) (hi := j + n) h (by omega) (by omega)
  rw [show (j : Int) + n - n = j from by omega]
  rw [show (((j + n : Nat)) : Int) = (j : Int) + n from by omega] at hs
  simp only [hs, Pv_some, fldV_p, nilV_p, nilV_f, lenV_s, capV_s, lenSV_s, strV_s, unV_not, unV_neg, pickV_t, pickV_f, exV_t, cvIV_i, binI_add, binI_sub, binI_mul, binI_eql, binI_neq, binI_lss, binI_leq, binI_gtr, binI_geq, binI_and, binI_or, binB_eql, binB_neq, binS_eql, binS_neq, binP_eql_nil, binP_neq_nil, binN_eql_nil, binN_neq_nil, binN_eql_nn, binN_neq_nn, Br_true, Br_false, cells_agg, List.getElem?_toArray, List.getElem?_cons_zero, List.getElem?_cons_succ, Nat.zero_add, Nat.add_zero, Nat.zero_mul]
  have hlen : ((bs.drop j).take (j + n - j)).length = n := by rw [List.length_take, List.length_drop]; omega
  refine app_own (X := X) rfl hX (SlI.news hB) (u8s_one _) (by omega) (by omega) (fun X2 v2 h2 => ?_)
  simp only [List.nil_append, Nat.zero_add] at h2
  refine SlO.freeze h2 (fun I2 hI2 hS2 => Gh.done ?_)
  have := hk v2 I2 (j + n) hI2 (by omega) (by rw [← hd, List.drop_drop]) (by
    rw [← hd]
    rw [show j + n - j = n from by omega] at hS2
    exact hS2)
  simp only [erO, Int.natCast_add] at this
  exact this

end
end Go.Proofs.Ytfeonffmeajpgaa
