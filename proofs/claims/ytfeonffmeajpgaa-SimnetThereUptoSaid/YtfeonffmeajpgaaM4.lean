import Derived.Test.YtfeonffmeajpgaaM3
set_option linter.unusedSimpArgs false
set_option linter.unusedVariables false
namespace Go.Proofs.Ytfeonffmeajpgaa
open Go.SL
set_option maxRecDepth 10000

section
variable {ω : Om} {I : Imm} {L : LH} {K : Value → M}

theorem cal_pre {P : Program} {f : FuncId} {args : Array Value} (h : Gh (Cal P ω f args K) I L) : Cal P ω f args K I L := fun w hs => by
  obtain ⟨I', L', h1, h2⟩ := h hs.cons
  exact h2 w (h1 ω w hs)

theorem memBnums_len {b : List UInt8} (h : 5 < b.length) : memB (nums b) = false := by
  cases hm : memB (nums b) with
  | false => rfl
  | true => have := memB_len hm; rw [nums_len] at this; omega

theorem memberbytes_spec {v : Value} {b : List UInt8} (h : Bytes I v b) (hk : ∀ I', Ext I I' → K (.bool (memB (nums b))) I' L) : Cal Try.prog ω 68 #[v] K I L := by
  refine cal68 ?_
  have hln := Bytes.len h
  unfold sh68
  simp only [hln, Pv_some, fldV_p, nilV_p, nilV_f, lenV_s, capV_s, lenSV_s, strV_s, unV_not, unV_neg, pickV_t, pickV_f, exV_t, cvIV_i, binI_add, binI_sub, binI_mul, binI_eql, binI_neq, binI_lss, binI_leq, binI_gtr, binI_geq, binI_and, binI_or, binB_eql, binB_neq, binS_eql, binS_neq, binP_eql_nil, binP_neq_nil, binN_eql_nil, binN_neq_nil, binN_eql_nn, binN_neq_nn, Br_true, Br_false, cells_agg, List.getElem?_toArray, List.getElem?_cons_zero, List.getElem?_cons_succ, Nat.zero_add, Nat.add_zero, Nat.zero_mul]
  by_cases h5 : (5 : Int) < b.length
  · simp only [h5, decide_true, Br_true]
    rw [memBnums_len (by omega)] at hk
    exact Gh.done (hk I (Ext.refl I))
  simp only [h5, decide_false, Br_false]
  refine loop (fun s I' L' => I' = I ∧ ∃ (k : Nat) (w : Value) (X6 : LH), s = (w, .int .i64 k, ()) ∧ k ≤ b.length ∧ SlO 3 1 X6 w (i64s (nums (b.take k))) (nums (b.take k)).length ∧ L' = X6 ++ L)
    (fun s _ _ => match s with | (_, .int _ k, _) => ((b.length : Int) - k).toNat | _ => 0) ⟨rfl, 0, _, [], rfl, by omega, SlO.none 3 1, rfl⟩ ?_
  rintro s I' L' ⟨rfl, k, w, X6, rfl, hk1, h6, rfl⟩
  unfold sh68_3
  simp only [hln, Pv_some, fldV_p, nilV_p, nilV_f, lenV_s, capV_s, lenSV_s, strV_s, unV_not, unV_neg, pickV_t, pickV_f, exV_t, cvIV_i, binI_add, binI_sub, binI_mul, binI_eql, binI_neq, binI_lss, binI_leq, binI_gtr, binI_geq, binI_and, binI_or, binB_eql, binB_neq, binS_eql, binS_neq, binP_eql_nil, binP_neq_nil, binN_eql_nil, binN_neq_nil, binN_eql_nn, binN_neq_nn, Br_true, Br_false, cells_agg, List.getElem?_toArray, List.getElem?_cons_zero, List.getElem?_cons_succ, Nat.zero_add, Nat.add_zero, Nat.zero_mul]
  by_cases hlt : k < b.length
  · have h1 : ((k : Int) < b.length) := by omega
    simp only [h1, decide_true, Br_true]
    obtain ⟨bb, off, hix, hc⟩ := Bytes.at h hlt
    simp only [hix, Pv_some, fldV_p, nilV_p, nilV_f, lenV_s, capV_s, lenSV_s, strV_s, unV_not, unV_neg, pickV_t, pickV_f, exV_t, cvIV_i, binI_add, binI_sub, binI_mul, binI_eql, binI_neq, binI_lss, binI_leq, binI_gtr, binI_geq, binI_and, binI_or, binB_eql, binB_neq, binS_eql, binS_neq, binP_eql_nil, binP_neq_nil, binN_eql_nil, binN_neq_nil, binN_eql_nn, binN_neq_nn, Br_true, Br_false, cells_agg, List.getElem?_toArray, List.getElem?_cons_zero, List.getElem?_cons_succ, Nat.zero_add, Nat.add_zero, Nat.zero_mul]
    refine rd1 (hc I' _ (Ext.refl I')) ?_
    have hu := (b[k]).toNat_lt
    simp only [Pv_some, fldV_p, nilV_p, nilV_f, lenV_s, capV_s, lenSV_s, strV_s, unV_not, unV_neg, pickV_t, pickV_f, exV_t, cvIV_i, binI_add, binI_sub, binI_mul, binI_eql, binI_neq, binI_lss, binI_leq, binI_gtr, binI_geq, binI_and, binI_or, binB_eql, binB_neq, binS_eql, binS_neq, binP_eql_nil, binP_neq_nil, binN_eql_nil, binN_neq_nil, binN_eql_nn, binN_neq_nn, Br_true, Br_false, cells_agg, List.getElem?_toArray, List.getElem?_cons_zero, List.getElem?_cons_succ, Nat.zero_add, Nat.add_zero, Nat.zero_mul, wrap_i64 (((b[k]).toNat : Nat) : Int) (by omega)]
    have hln2 := nums_len (b.take k)
    rw [List.length_take] at hln2
    refine nums_app (X6 := X6) h6 (by omega) (fun X1 X6' v' h6' => ?_)
    rw [← nums_snoc hlt] at h6'
    simp only [Pv_some, fldV_p, nilV_p, nilV_f, lenV_s, capV_s, lenSV_s, strV_s, unV_not, unV_neg, pickV_t, pickV_f, exV_t, cvIV_i, binI_add, binI_sub, binI_mul, binI_eql, binI_neq, binI_lss, binI_leq, binI_gtr, binI_geq, binI_and, binI_or, binB_eql, binB_neq, binS_eql, binS_neq, binP_eql_nil, binP_neq_nil, binN_eql_nil, binN_neq_nil, binN_eql_nn, binN_neq_nn, Br_true, Br_false, cells_agg, List.getElem?_toArray, List.getElem?_cons_zero, List.getElem?_cons_succ, Nat.zero_add, Nat.add_zero, Nat.zero_mul, wrap_i64 ((k : Int) + 1) (by omega)]
    refine Gh.to (X6' ++ L) (Gh.done ⟨⟨rfl, k + 1, v', X6', by simp, by omega, h6', rfl⟩, ?_⟩)
    omega
  · have h1 : ¬ ((k : Int) < b.length) := by omega
    simp only [h1, decide_false, Br_false]
    unfold sh68_2 sh68_1
    rw [List.take_of_length_le (by omega)] at h6
    refine cal_pre (SlO.freeze h6 (fun I2 hI2 hS2 => Gh.done (call (rmembers_spec (l := nums b) hS2 (by rw [nums_len]; omega) ?_))))
    exact Gh.done (hk I2 hI2)

end
end Go.Proofs.Ytfeonffmeajpgaa
