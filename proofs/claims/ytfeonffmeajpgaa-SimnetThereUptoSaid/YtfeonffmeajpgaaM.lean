import Derived.Test.YtfeonffmeajpgaaR3
set_option linter.unusedSimpArgs false
set_option linter.unusedVariables false
namespace Go.Proofs.Ytfeonffmeajpgaa
open Go.SL
set_option maxRecDepth 10000

section
variable {ω : Om} {I : Imm} {L : LH} {K : Value → M}

def countB (n : Int) : Bool := decide (0 ≤ n ∧ n ≤ 9007199254740991)
theorem count_spec {a : Int} (hk : K (.bool (countB a)) I L) : Cal Try.prog ω 64 #[.int .i64 a] K I L := by
  refine cal64 ?_
  unfold sh64
  simp only [Pv_some, fldV_p, nilV_p, nilV_f, lenV_s, capV_s, lenSV_s, strV_s, unV_not, unV_neg, pickV_t, pickV_f, exV_t, cvIV_i, binI_add, binI_sub, binI_mul, binI_eql, binI_neq, binI_lss, binI_leq, binI_gtr, binI_geq, binI_and, binI_or, binB_eql, binB_neq, binS_eql, binS_neq, binP_eql_nil, binP_neq_nil, binN_eql_nil, binN_neq_nil, binN_eql_nn, binN_neq_nn, Br_true, Br_false, cells_agg, List.getElem?_toArray, List.getElem?_cons_zero, List.getElem?_cons_succ, Nat.zero_add, Nat.add_zero, Nat.zero_mul]
  refine gd_split (fun h => ?_) (fun h => ?_)
  · simp only [decide_eq_true_eq] at h
    refine Gh.done ?_
    rwa [show decide (a ≤ 9007199254740991) = countB a from by simp [countB, h]]
  · simp only [ne_eq, decide_eq_true_eq] at h
    refine Gh.done ?_
    rwa [show false = countB a from by simp [countB, h]]
theorem rcount_spec {a : Int} (hk : K (.bool (countB a)) I L) : Cal Try.prog ω 59 #[.int .i64 a] K I L := by
  refine cal59 ?_
  unfold sh59
  simp only [Pv_some, fldV_p, nilV_p, nilV_f, lenV_s, capV_s, lenSV_s, strV_s, unV_not, unV_neg, pickV_t, pickV_f, exV_t, cvIV_i, binI_add, binI_sub, binI_mul, binI_eql, binI_neq, binI_lss, binI_leq, binI_gtr, binI_geq, binI_and, binI_or, binB_eql, binB_neq, binS_eql, binS_neq, binP_eql_nil, binP_neq_nil, binN_eql_nil, binN_neq_nil, binN_eql_nn, binN_neq_nn, Br_true, Br_false, cells_agg, List.getElem?_toArray, List.getElem?_cons_zero, List.getElem?_cons_succ, Nat.zero_add, Nat.add_zero, Nat.zero_mul]
  refine gd_split (fun h => ?_) (fun h => ?_)
  · simp only [decide_eq_true_eq] at h
    refine Gh.done ?_
    rwa [show decide (a ≤ 9007199254740991) = countB a from by simp [countB, h]]
  · simp only [ne_eq, decide_eq_true_eq] at h
    refine Gh.done ?_
    rwa [show false = countB a from by simp [countB, h]]

/-- members: nodes, rising -/
def goodAt (l : List Int) (j : Nat) : Bool := nodeB (l.getD j 0) && (j == 0 || decide (l.getD (j - 1) 0 < l.getD j 0))
def memB (l : List Int) : Bool := decide (0 < l.length) && (List.range l.length).all (goodAt l)
theorem memB_false {l : List Int} {j : Nat} (hj : j < l.length) (h : goodAt l j = false) : memB l = false := by
  simp only [memB, Bool.and_eq_false_iff]
  right
  rw [List.all_eq_false]
  exact ⟨j, List.mem_range.2 hj, by simp [h]⟩
theorem memB_true {l : List Int} (h : ∀ j, j < l.length → goodAt l j = true) : memB l = decide (0 < l.length) := by
  simp only [memB]
  rw [List.all_eq_true.2 (fun j hj => h j (List.mem_range.1 hj)), Bool.and_true]
theorem memB_len {l : List Int} (h : memB l = true) : l.length ≤ 5 := by
  simp only [memB, Bool.and_eq_true, List.all_eq_true, List.mem_range] at h
  have key : ∀ j, j < l.length → (j : Int) + 1 ≤ l.getD j 0 := by
    intro j
    induction j with
    | zero =>
      intro hj
      have := h.2 0 hj
      simp [goodAt, nodeB] at this
      simp; omega
    | succ j ih =>
      intro hj
      have h1 := ih (by omega)
      have := h.2 (j + 1) hj
      simp [goodAt] at this
      simp at h1 ⊢
      omega
  rcases Nat.eq_zero_or_pos l.length with h0 | h0
  · omega
  · have h1 := key (l.length - 1) (by omega)
    have h2 := h.2 (l.length - 1) (by omega)
    simp only [goodAt, Bool.and_eq_true, nodeB, decide_eq_true_eq] at h2
    omega

theorem Ints.len {v : Value} {l : List Int} (h : Ints I v l) : lenV v = some (.int .i64 l.length) := by
  obtain ⟨_, a, c, rfl, _⟩ := h
  rfl
theorem Ints.at {v : Value} {l : List Int} {k : Nat} (h : Ints I v l) (hk : k < l.length) : ∃ b off, ixV 1 v (.int .i64 k) = some (.pointer (some ⟨b, off, none⟩)) ∧ ∀ I' L, Ext I I' → Cell I' L b off (.int .i64 (l.getD k 0)) := by
  obtain ⟨b, off, hix, hc⟩ := SlI.ix h .i64 hk
  rw [i64s_one_at hk] at hc
  refine ⟨b, off, hix, fun I' L hI => ?_⟩
  rw [show l.getD k 0 = l[k] from by simp [List.getD, hk]]
  exact hc I' L hI 0 _ rfl

theorem members_spec {v : Value} {l : List Int} (h : Ints I v l) (hlen : l.length < 4611686018427387904) (hk : K (.bool (memB l)) I L) : Cal Try.prog ω 66 #[v] K I L := by
  refine cal66 ?_
  have hln := Ints.len h
  unfold sh66
  simp only [hln, Pv_some, fldV_p, nilV_p, nilV_f, lenV_s, capV_s, lenSV_s, strV_s, unV_not, unV_neg, pickV_t, pickV_f, exV_t, cvIV_i, binI_add, binI_sub, binI_mul, binI_eql, binI_neq, binI_lss, binI_leq, binI_gtr, binI_geq, binI_and, binI_or, binB_eql, binB_neq, binS_eql, binS_neq, binP_eql_nil, binP_neq_nil, binN_eql_nil, binN_neq_nil, binN_eql_nn, binN_neq_nn, Br_true, Br_false, cells_agg, List.getElem?_toArray, List.getElem?_cons_zero, List.getElem?_cons_succ, Nat.zero_add, Nat.add_zero, Nat.zero_mul]
  refine loop (fun s I' L' => I' = I ∧ L' = L ∧ ∃ k : Nat, s = (.bool false, .int .i64 k, ()) ∧ k ≤ l.length ∧ ∀ j, j < k → goodAt l j = true)
    (fun s _ _ => match s with | (_, .int _ k, _) => ((l.length : Int) - k).toNat | _ => 0) ⟨rfl, rfl, 0, rfl, by omega, fun j hj => by omega⟩ ?_
  rintro s I' L' ⟨rfl, rfl, k, rfl, hk1, hg⟩
  unfold sh66_3
  simp only [Pv_some, fldV_p, nilV_p, nilV_f, lenV_s, capV_s, lenSV_s, strV_s, unV_not, unV_neg, pickV_t, pickV_f, exV_t, cvIV_i, binI_add, binI_sub, binI_mul, binI_eql, binI_neq, binI_lss, binI_leq, binI_gtr, binI_geq, binI_and, binI_or, binB_eql, binB_neq, binS_eql, binS_neq, binP_eql_nil, binP_neq_nil, binN_eql_nil, binN_neq_nil, binN_eql_nn, binN_neq_nn, Br_true, Br_false, cells_agg, List.getElem?_toArray, List.getElem?_cons_zero, List.getElem?_cons_succ, Nat.zero_add, Nat.add_zero, Nat.zero_mul]
  by_cases hlt : k < l.length
  · have h1 : ((k : Int) < l.length) := by omega
    simp only [h1, decide_true, Br_true]
    obtain ⟨b, off, hix, hc⟩ := Ints.at h hlt
    simp only [hix, Pv_some, fldV_p, nilV_p, nilV_f, lenV_s, capV_s, lenSV_s, strV_s, unV_not, unV_neg, pickV_t, pickV_f, exV_t, cvIV_i, binI_add, binI_sub, binI_mul, binI_eql, binI_neq, binI_lss, binI_leq, binI_gtr, binI_geq, binI_and, binI_or, binB_eql, binB_neq, binS_eql, binS_neq, binP_eql_nil, binP_neq_nil, binN_eql_nil, binN_neq_nil, binN_eql_nn, binN_neq_nn, Br_true, Br_false, cells_agg, List.getElem?_toArray, List.getElem?_cons_zero, List.getElem?_cons_succ, Nat.zero_add, Nat.add_zero, Nat.zero_mul]
    refine rd1 (hc I' L' (Ext.refl I')) ?_
    refine call (node_spec ?_)
    simp only [Pv_some, fldV_p, nilV_p, nilV_f, lenV_s, capV_s, lenSV_s, strV_s, unV_not, unV_neg, pickV_t, pickV_f, exV_t, cvIV_i, binI_add, binI_sub, binI_mul, binI_eql, binI_neq, binI_lss, binI_leq, binI_gtr, binI_geq, binI_and, binI_or, binB_eql, binB_neq, binS_eql, binS_neq, binP_eql_nil, binP_neq_nil, binN_eql_nil, binN_neq_nil, binN_eql_nn, binN_neq_nn, Br_true, Br_false, cells_agg, List.getElem?_toArray, List.getElem?_cons_zero, List.getElem?_cons_succ, Nat.zero_add, Nat.add_zero, Nat.zero_mul]
    have bad : goodAt l k = false → sh66_4 ω (.bool false) (fun v => Gh (K v)) I' L' := fun hb => by
      unfold sh66_4
      rw [memB_false hlt hb] at hk
      exact Gh.done hk
    have next : goodAt l k = true → (Gh fun I2 L2 => (I2 = I' ∧ L2 = L' ∧ ∃ k' : Nat, ((.bool false, .int .i64 ((k : Int) + 1), ()) : Value × Value × Unit) = (.bool false, .int .i64 k', ()) ∧ k' ≤ l.length ∧ ∀ j, j < k' → goodAt l j = true) ∧ ((l.length : Int) - ((k : Int) + 1)).toNat < ((l.length : Int) - k).toNat) I' L' := fun hgk => by
      refine Gh.done ⟨⟨rfl, rfl, k + 1, by simp, by omega, fun j hj => ?_⟩, by omega⟩
      rcases Nat.lt_or_eq_of_le (Nat.le_of_lt_succ hj) with h | h
      · exact hg j h
      · rw [h]; exact hgk
    refine gd_split (fun hn => ?_) (fun hn => ?_)
    · simp only [Bool.not_eq_eq_eq_not, Bool.not_false] at hn
      refine gd_split (fun h0 => ?_) (fun h0 => ?_)
      · simp only [decide_eq_true_eq] at h0
        obtain ⟨b2, off2, hix2, hc2⟩ := Ints.at (k := k - 1) h (by omega)
        rw [show (((k - 1 : Nat)) : Int) = (k : Int) - 1 from by omega] at hix2
        simp only [wrap_i64 ((k : Int) - 1) (by omega), hix2, Pv_some, fldV_p, nilV_p, nilV_f, lenV_s, capV_s, lenSV_s, strV_s, unV_not, unV_neg, pickV_t, pickV_f, exV_t, cvIV_i, binI_add, binI_sub, binI_mul, binI_eql, binI_neq, binI_lss, binI_leq, binI_gtr, binI_geq, binI_and, binI_or, binB_eql, binB_neq, binS_eql, binS_neq, binP_eql_nil, binP_neq_nil, binN_eql_nil, binN_neq_nil, binN_eql_nn, binN_neq_nn, Br_true, Br_false, cells_agg, List.getElem?_toArray, List.getElem?_cons_zero, List.getElem?_cons_succ, Nat.zero_add, Nat.add_zero, Nat.zero_mul]
        refine rd1 (hc2 I' L' (Ext.refl I')) ?_
        simp only [Pv_some, fldV_p, nilV_p, nilV_f, lenV_s, capV_s, lenSV_s, strV_s, unV_not, unV_neg, pickV_t, pickV_f, exV_t, cvIV_i, binI_add, binI_sub, binI_mul, binI_eql, binI_neq, binI_lss, binI_leq, binI_gtr, binI_geq, binI_and, binI_or, binB_eql, binB_neq, binS_eql, binS_neq, binP_eql_nil, binP_neq_nil, binN_eql_nil, binN_neq_nil, binN_eql_nn, binN_neq_nn, Br_true, Br_false, cells_agg, List.getElem?_toArray, List.getElem?_cons_zero, List.getElem?_cons_succ, Nat.zero_add, Nat.add_zero, Nat.zero_mul]
        by_cases hle : l.getD k 0 ≤ l.getD (k - 1) 0
        · simp only [hle, decide_true, Br_true]
          refine bad ?_
          simp only [goodAt, hn, Bool.true_and, Bool.or_eq_false_iff, beq_eq_false_iff_ne, decide_eq_false_iff_not]
          exact ⟨by omega, by omega⟩
        · simp only [hle, decide_false, Br_false, wrap_i64 ((k : Int) + 1) (by omega)]
          refine next ?_
          simp only [goodAt, hn, Bool.true_and, Bool.or_eq_true, decide_eq_true_eq]
          right; omega
      · simp only [ne_eq, decide_eq_true_eq] at h0
        simp only [wrap_i64 ((k : Int) + 1) (by omega), Pv_some, fldV_p, nilV_p, nilV_f, lenV_s, capV_s, lenSV_s, strV_s, unV_not, unV_neg, pickV_t, pickV_f, exV_t, cvIV_i, binI_add, binI_sub, binI_mul, binI_eql, binI_neq, binI_lss, binI_leq, binI_gtr, binI_geq, binI_and, binI_or, binB_eql, binB_neq, binS_eql, binS_neq, binP_eql_nil, binP_neq_nil, binN_eql_nil, binN_neq_nil, binN_eql_nn, binN_neq_nn, Br_true, Br_false, cells_agg, List.getElem?_toArray, List.getElem?_cons_zero, List.getElem?_cons_succ, Nat.zero_add, Nat.add_zero, Nat.zero_mul]
        have : k = 0 := by omega
        subst this
        exact next (by simp only [goodAt, hn]; rfl)
    · refine bad ?_
      have hn' : nodeB (l.getD k 0) = false := by revert hn; cases nodeB (l.getD k 0) <;> simp
      simp only [goodAt, hn', Bool.false_and]
  · have h1 : ¬ ((k : Int) < l.length) := by omega
    simp only [h1, decide_false, Br_false]
    unfold sh66_2 sh66_1
    simp only [hln, Pv_some, fldV_p, nilV_p, nilV_f, lenV_s, capV_s, lenSV_s, strV_s, unV_not, unV_neg, pickV_t, pickV_f, exV_t, cvIV_i, binI_add, binI_sub, binI_mul, binI_eql, binI_neq, binI_lss, binI_leq, binI_gtr, binI_geq, binI_and, binI_or, binB_eql, binB_neq, binS_eql, binS_neq, binP_eql_nil, binP_neq_nil, binN_eql_nil, binN_neq_nil, binN_eql_nn, binN_neq_nn, Br_true, Br_false, cells_agg, List.getElem?_toArray, List.getElem?_cons_zero, List.getElem?_cons_succ, Nat.zero_add, Nat.add_zero, Nat.zero_mul]
    rw [memB_true (fun j hj => hg j (by omega))] at hk
    rw [show decide ((0 : Int) < l.length) = decide (0 < l.length) from by simp]
    exact Gh.done hk

end
end Go.Proofs.Ytfeonffmeajpgaa
