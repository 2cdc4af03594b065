import Derived.Test.YtfeonffmeajpgaaM7
set_option linter.unusedSimpArgs false
set_option linter.unusedVariables false
namespace Go.Proofs.Ytfeonffmeajpgaa
open Go.SL
set_option maxRecDepth 10000

section
variable {ω : Om} {I : Imm} {L : LH} {K : Value → M}

theorem bld4 (a b c d : Int) : bldAV 1 #[.int .i64 0, .int .i64 0, .int .i64 0, .int .i64 0] [(0, .int .i64 a), (1, .int .i64 b), (2, .int .i64 c), (3, .int .i64 d)] = some (.agg #[.int .i64 a, .int .i64 b, .int .i64 c, .int .i64 d]) := by rfl

theorem right_spec {m : RM} {c : List Value} (hm : MsgV I m c) (hl : m.members.length < 4611686018427387904) (hk : ∀ I', Ext I I' → K (.bool (rightB m)) I' L) : Cal Try.prog ω 41 #[.agg c.toArray] K I L := by
  have hm0 := hm
  obtain ⟨ev, mv, dv, rfl, hE, hM, hD⟩ := hm
  refine cal41 ?_
  unfold sh41
  refine newI (fun b1 => ?_)
  repeat' (first | (with_reducible refine gd_split (fun _ => ?_) (fun _ => ?_)) | (with_reducible refine br_split (fun _ => ?_) (fun _ => ?_)) | (with_reducible refine newI (fun _ => ?_)) | first | refine rdb ?_ | refine st1 rfl ?_ | refine rdB rfl ?_ | refine rdbS ?_ | refine rdBS rfl ?_ | (simp only [Pv_some, fldV_p, nilV_p, nilV_f, lenV_s, capV_s, lenSV_s, strV_s, unV_not, unV_neg, pickV_t, pickV_f, exV_t, cvIV_i, binI_add, binI_sub, binI_mul, binI_eql, binI_neq, binI_lss, binI_leq, binI_gtr, binI_geq, binI_and, binI_or, binB_eql, binB_neq, binS_eql, binS_neq, binP_eql_nil, binP_neq_nil, binN_eql_nil, binN_neq_nil, binN_eql_nn, binN_neq_nn, Br_true, Br_false, cells_agg, List.getElem?_toArray, List.getElem?_cons_zero, List.getElem?_cons_succ, Nat.zero_add, Nat.add_zero, Nat.zero_mul, bld4]))
  refine loop (fun s I' L' => I' = I ∧ L' = (b1, Obj.cells #[.int .i64 m.kind, .int .i64 m.group, .int .i64 m.frm, .int .i64 m.to, .int .i64 m.term, .int .i64 m.index, .int .i64 m.logTerm, .int .i64 m.commit, .bool m.ok, ev, mv, dv] 51 (0, 0)) :: L ∧ ∃ k : Nat, s = (.bool false, .int .i64 k, ()) ∧ k ≤ 4 ∧ (0 < k → countB m.index = true) ∧ (1 < k → countB m.logTerm = true) ∧ (2 < k → countB m.commit = true) ∧ (3 < k → countB m.term = true))
    (fun s _ _ => match s with | (_, .int _ k, _) => ((4 : Int) - k).toNat | _ => 0) ⟨rfl, rfl, 0, rfl, by omega, by omega, by omega, by omega, by omega⟩ ?_
  rintro s I' L' ⟨rfl, rfl, k, rfl, hk1, g0, g1, g2, g3⟩
  (first | (with_reducible refine unfE (sh41_2.eq_1 ..) ?_) | (with_reducible refine unfE (sh41_3.eq_1 ..) ?_) | (with_reducible refine unfE (sh41_4.eq_1 ..) ?_) | (with_reducible refine unfE (sh41_1.eq_1 ..) ?_) | (with_reducible refine unfE (sh41_5.eq_1 ..) ?_) | (with_reducible refine unfE (sh41_6.eq_1 ..) ?_) | (with_reducible refine unfE (sh41.eq_1 ..) ?_))
  simp only [Pv_some, fldV_p, nilV_p, nilV_f, lenV_s, capV_s, lenSV_s, strV_s, unV_not, unV_neg, pickV_t, pickV_f, exV_t, cvIV_i, binI_add, binI_sub, binI_mul, binI_eql, binI_neq, binI_lss, binI_leq, binI_gtr, binI_geq, binI_and, binI_or, binB_eql, binB_neq, binS_eql, binS_neq, binP_eql_nil, binP_neq_nil, binN_eql_nil, binN_neq_nil, binN_eql_nn, binN_neq_nn, Br_true, Br_false, cells_agg, List.getElem?_toArray, List.getElem?_cons_zero, List.getElem?_cons_succ, Nat.zero_add, Nat.add_zero, Nat.zero_mul]
  by_cases h4 : k = 4
  · subst h4
    have h1 : ¬ (((4 : Nat) : Int) < 4) := by omega
    simp only [h1, decide_false, Br_false]
    unfold sh41_5
    exact right1_spec hm0 hl (g0 (by omega)) (g1 (by omega)) (g2 (by omega)) (g3 (by omega)) hk
  · have h1 : ((k : Int) < 4) := by omega
    simp only [h1, decide_true, Br_true]
    have key : ∃ x, ixAV false 1 4 (.agg #[.int .i64 m.index, .int .i64 m.logTerm, .int .i64 m.commit, .int .i64 m.term]) (.int .i64 k) = some (.int .i64 x) ∧ (countB x = false → rightB m = false) ∧
        (countB x = true → (0 < k + 1 → countB m.index = true) ∧ (1 < k + 1 → countB m.logTerm = true) ∧ (2 < k + 1 → countB m.commit = true) ∧ (3 < k + 1 → countB m.term = true)) := by
      have hc : k = 0 ∨ k = 1 ∨ k = 2 ∨ k = 3 := by omega
      rcases hc with rfl | rfl | rfl | rfl
      · exact ⟨m.index, rfl, rightB_index, fun h => ⟨fun _ => h, by omega, by omega, by omega⟩⟩
      · exact ⟨m.logTerm, rfl, rightB_logTerm, fun h => ⟨fun _ => g0 (by omega), fun _ => h, by omega, by omega⟩⟩
      · exact ⟨m.commit, rfl, rightB_commit, fun h => ⟨fun _ => g0 (by omega), fun _ => g1 (by omega), fun _ => h, by omega⟩⟩
      · exact ⟨m.term, rfl, rightB_term, fun h => ⟨fun _ => g0 (by omega), fun _ => g1 (by omega), fun _ => g2 (by omega), fun _ => h⟩⟩
    obtain ⟨x, hx, hx1, hx2⟩ := key
    simp only [hx, Pv_some, fldV_p, nilV_p, nilV_f, lenV_s, capV_s, lenSV_s, strV_s, unV_not, unV_neg, pickV_t, pickV_f, exV_t, cvIV_i, binI_add, binI_sub, binI_mul, binI_eql, binI_neq, binI_lss, binI_leq, binI_gtr, binI_geq, binI_and, binI_or, binB_eql, binB_neq, binS_eql, binS_neq, binP_eql_nil, binP_neq_nil, binN_eql_nil, binN_neq_nil, binN_eql_nn, binN_neq_nn, Br_true, Br_false, cells_agg, List.getElem?_toArray, List.getElem?_cons_zero, List.getElem?_cons_succ, Nat.zero_add, Nat.add_zero, Nat.zero_mul]
    refine call (count_spec ?_)
    simp only [Pv_some, fldV_p, nilV_p, nilV_f, lenV_s, capV_s, lenSV_s, strV_s, unV_not, unV_neg, pickV_t, pickV_f, exV_t, cvIV_i, binI_add, binI_sub, binI_mul, binI_eql, binI_neq, binI_lss, binI_leq, binI_gtr, binI_geq, binI_and, binI_or, binB_eql, binB_neq, binS_eql, binS_neq, binP_eql_nil, binP_neq_nil, binN_eql_nil, binN_neq_nil, binN_eql_nn, binN_neq_nn, Br_true, Br_false, cells_agg, List.getElem?_toArray, List.getElem?_cons_zero, List.getElem?_cons_succ, Nat.zero_add, Nat.add_zero, Nat.zero_mul]
    refine br_split (fun hb => ?_) (fun hb => ?_)
    · simp only [Bool.not_eq_eq_eq_not, Bool.not_true] at hb
      exact Gh.to L (Gh.done (leafB (hk _ (Ext.refl _)) (hx1 hb)))
    · simp only [Bool.not_eq_eq_eq_not, Bool.not_false] at hb
      simp only [wrap_i64 ((k : Int) + 1) (by omega)]
      exact Gh.done ⟨⟨rfl, rfl, k + 1, by simp, by omega, hx2 hb⟩, by omega⟩

theorem rents_loop {m : RM} {c : List Value} {b1 : Nat} (hm : MsgV I m c) (hi : countB m.index = true) (h64 : m.entries.length ≤ 64) (hk : ∀ I', Ext I I' → K (.bool (entsB m)) I' L) :
    LoopM ((.bool false, .int .i64 0, ()) : Value × Value × Unit) (fun s Kn0 => sh30_7 ω (.pointer (some ⟨b1, 0, none⟩)) s.1 s.2.1 Kn0 (fun v => Gh (K v))) I ((b1, Obj.cells c.toArray 51 (0, 0)) :: L) := by
  obtain ⟨ev, mv, dv, rfl, hE, hM, hD⟩ := hm
  have hi2 : 0 ≤ m.index ∧ m.index ≤ 9007199254740991 := by simpa [countB] using hi
  have hln := hE.len
  refine loop (fun s I' L' => Ext I I' ∧ L' = (b1, Obj.cells #[.int .i64 m.kind, .int .i64 m.group, .int .i64 m.frm, .int .i64 m.to, .int .i64 m.term, .int .i64 m.index, .int .i64 m.logTerm, .int .i64 m.commit, .bool m.ok, ev, mv, dv] 51 (0, 0)) :: L ∧ ∃ k : Nat, s = (.bool false, .int .i64 k, ()) ∧ k ≤ m.entries.length ∧ ∀ j (hj : j < m.entries.length), j < k → entOk m (m.entries[j], j) = true)
    (fun s _ _ => match s with | (_, .int _ k, _) => ((m.entries.length : Int) - k).toNat | _ => 0) ⟨Ext.refl I, rfl, 0, rfl, by omega, fun j _ hj => by omega⟩ ?_
  rintro s I' L' ⟨hI, rfl, k, rfl, hk1, hg⟩
  simp only
  (first | (with_reducible refine unfE (sh30_1.eq_1 ..) ?_) | (with_reducible refine unfE (sh30_2.eq_1 ..) ?_) | (with_reducible refine unfE (sh30_4.eq_1 ..) ?_) | (with_reducible refine unfE (sh30_5.eq_1 ..) ?_) | (with_reducible refine unfE (sh30_6.eq_1 ..) ?_) | (with_reducible refine unfE (sh30_8.eq_1 ..) ?_) | (with_reducible refine unfE (sh30_7.eq_1 ..) ?_) | (with_reducible refine unfE (sh30_3.eq_1 ..) ?_) | (with_reducible refine unfE (sh30.eq_1 ..) ?_))
  simp only [Pv_some, fldV_p, nilV_p, nilV_f, lenV_s, capV_s, lenSV_s, strV_s, unV_not, unV_neg, pickV_t, pickV_f, exV_t, cvIV_i, binI_add, binI_sub, binI_mul, binI_eql, binI_neq, binI_lss, binI_leq, binI_gtr, binI_geq, binI_and, binI_or, binB_eql, binB_neq, binS_eql, binS_neq, binP_eql_nil, binP_neq_nil, binN_eql_nil, binN_neq_nil, binN_eql_nn, binN_neq_nn, Br_true, Br_false, cells_agg, List.getElem?_toArray, List.getElem?_cons_zero, List.getElem?_cons_succ, Nat.zero_add, Nat.add_zero, Nat.zero_mul]
  refine rdb ?_
  simp only [hln, Pv_some, fldV_p, nilV_p, nilV_f, lenV_s, capV_s, lenSV_s, strV_s, unV_not, unV_neg, pickV_t, pickV_f, exV_t, cvIV_i, binI_add, binI_sub, binI_mul, binI_eql, binI_neq, binI_lss, binI_leq, binI_gtr, binI_geq, binI_and, binI_or, binB_eql, binB_neq, binS_eql, binS_neq, binP_eql_nil, binP_neq_nil, binN_eql_nil, binN_neq_nil, binN_eql_nn, binN_neq_nn, Br_true, Br_false, cells_agg, List.getElem?_toArray, List.getElem?_cons_zero, List.getElem?_cons_succ, Nat.zero_add, Nat.add_zero, Nat.zero_mul]
  by_cases hlt : k < m.entries.length
  · have h1 : ((k : Int) < m.entries.length) := by omega
    simp only [h1, decide_true, Br_true]
    obtain ⟨b, off, c, hix, ⟨ddv, rfl, hB⟩, hc⟩ := (hE.mono hI).at hlt
    refine rdb ?_
    simp only [hix, Pv_some, fldV_p, nilV_p, nilV_f, lenV_s, capV_s, lenSV_s, strV_s, unV_not, unV_neg, pickV_t, pickV_f, exV_t, cvIV_i, binI_add, binI_sub, binI_mul, binI_eql, binI_neq, binI_lss, binI_leq, binI_gtr, binI_geq, binI_and, binI_or, binB_eql, binB_neq, binS_eql, binS_neq, binP_eql_nil, binP_neq_nil, binN_eql_nil, binN_neq_nil, binN_eql_nn, binN_neq_nn, Br_true, Br_false, cells_agg, List.getElem?_toArray, List.getElem?_cons_zero, List.getElem?_cons_succ, Nat.zero_add, Nat.add_zero, Nat.zero_mul]
    refine rdN rfl (hc I' _ (Ext.refl I')) ?_
    refine call (rentry_spec (e := m.entries[k]) ⟨_, rfl, hB⟩ (fun I2 hI2 => ?_))
    have bad : entOk m (m.entries[k], k) = false → entsB m = false := fun hb => by
      simp [entsB, zall_false hlt hb]
    refine draw (Stay I2 _) (Stay.start I2 _) ?_
    simp only [Pv_some, fldV_p, nilV_p, nilV_f, lenV_s, capV_s, lenSV_s, strV_s, unV_not, unV_neg, pickV_t, pickV_f, exV_t, cvIV_i, binI_add, binI_sub, binI_mul, binI_eql, binI_neq, binI_lss, binI_leq, binI_gtr, binI_geq, binI_and, binI_or, binB_eql, binB_neq, binS_eql, binS_neq, binP_eql_nil, binP_neq_nil, binN_eql_nil, binN_neq_nil, binN_eql_nn, binN_neq_nn, Br_true, Br_false, cells_agg, List.getElem?_toArray, List.getElem?_cons_zero, List.getElem?_cons_succ, Nat.zero_add, Nat.add_zero, Nat.zero_mul]
    refine gd_split (fun hn => ?_) (fun hn => ?_)
    · refine rdbS ?_
      simp only [hix, Pv_some, fldV_p, nilV_p, nilV_f, lenV_s, capV_s, lenSV_s, strV_s, unV_not, unV_neg, pickV_t, pickV_f, exV_t, cvIV_i, binI_add, binI_sub, binI_mul, binI_eql, binI_neq, binI_lss, binI_leq, binI_gtr, binI_geq, binI_and, binI_or, binB_eql, binB_neq, binS_eql, binS_neq, binP_eql_nil, binP_neq_nil, binN_eql_nil, binN_neq_nil, binN_eql_nn, binN_neq_nn, Br_true, Br_false, cells_agg, List.getElem?_toArray, List.getElem?_cons_zero, List.getElem?_cons_succ, Nat.zero_add, Nat.add_zero, Nat.zero_mul]
      refine rd1I (hc I2 _ hI2 0 _ rfl) ?_
      refine rdbS ?_
      simp only [Pv_some, fldV_p, nilV_p, nilV_f, lenV_s, capV_s, lenSV_s, strV_s, unV_not, unV_neg, pickV_t, pickV_f, exV_t, cvIV_i, binI_add, binI_sub, binI_mul, binI_eql, binI_neq, binI_lss, binI_leq, binI_gtr, binI_geq, binI_and, binI_or, binB_eql, binB_neq, binS_eql, binS_neq, binP_eql_nil, binP_neq_nil, binN_eql_nil, binN_neq_nil, binN_eql_nn, binN_neq_nn, Br_true, Br_false, cells_agg, List.getElem?_toArray, List.getElem?_cons_zero, List.getElem?_cons_succ, Nat.zero_add, Nat.add_zero, Nat.zero_mul, wrap_i64 (m.index + 1) (by omega), wrap_i64 (m.index + 1 + k) (by omega)]
      refine gd_split (fun hn2 => ?_) (fun hn2 => ?_)
      · refine rdbS ?_
        simp only [hix, Pv_some, fldV_p, nilV_p, nilV_f, lenV_s, capV_s, lenSV_s, strV_s, unV_not, unV_neg, pickV_t, pickV_f, exV_t, cvIV_i, binI_add, binI_sub, binI_mul, binI_eql, binI_neq, binI_lss, binI_leq, binI_gtr, binI_geq, binI_and, binI_or, binB_eql, binB_neq, binS_eql, binS_neq, binP_eql_nil, binP_neq_nil, binN_eql_nil, binN_neq_nil, binN_eql_nn, binN_neq_nn, Br_true, Br_false, cells_agg, List.getElem?_toArray, List.getElem?_cons_zero, List.getElem?_cons_succ, Nat.zero_add, Nat.add_zero, Nat.zero_mul]
        refine rd1I (hc I2 _ hI2 1 _ rfl) ?_
        refine rdbS ?_
        simp only [Pv_some, fldV_p, nilV_p, nilV_f, lenV_s, capV_s, lenSV_s, strV_s, unV_not, unV_neg, pickV_t, pickV_f, exV_t, cvIV_i, binI_add, binI_sub, binI_mul, binI_eql, binI_neq, binI_lss, binI_leq, binI_gtr, binI_geq, binI_and, binI_or, binB_eql, binB_neq, binS_eql, binS_neq, binP_eql_nil, binP_neq_nil, binN_eql_nil, binN_neq_nil, binN_eql_nn, binN_neq_nn, Br_true, Br_false, cells_agg, List.getElem?_toArray, List.getElem?_cons_zero, List.getElem?_cons_succ, Nat.zero_add, Nat.add_zero, Nat.zero_mul]
        refine br_split (fun hn3 => ?_) (fun hn3 => ?_)
        · unfold sh30_8
          refine Gh.to L (Gh.done (leafB (hk I2 (hI.trans hI2)) (bad ?_)))
          simp at hn3; simp [entOk]; omega
        · simp only [wrap_i64 ((k : Int) + 1) (by omega)]
          refine Gh.to ((b1, _) :: L) (Gh.done ⟨⟨hI.trans hI2, rfl, k + 1, by simp, by omega, fun j hj hjk => ?_⟩, by omega⟩)
          rcases Nat.lt_or_eq_of_le (Nat.le_of_lt_succ hjk) with h | h
          · exact hg j hj h
          · subst h
            simp at hn hn2 hn3
            simp [entOk, hn, hn2, hn3]
      · unfold sh30_8
        refine Gh.to L (Gh.done (leafB (hk I2 (hI.trans hI2)) (bad ?_)))
        simp at hn2; simp [entOk, hn2]
    · unfold sh30_8
      refine Gh.to L (Gh.done (leafB (hk I2 (hI.trans hI2)) (bad ?_)))
      simp at hn; simp [entOk, hn]
  · have h1 : ¬ ((k : Int) < m.entries.length) := by omega
    simp only [h1, decide_false, Br_false]
    unfold sh30_6 sh30_5
    refine Gh.to L (Gh.done (leafB (hk I' hI) ?_))
    simp only [entsB]
    rw [zall_true (fun j hj => hg j hj (by omega))]
    simp; omega

end
end Go.Proofs.Ytfeonffmeajpgaa
