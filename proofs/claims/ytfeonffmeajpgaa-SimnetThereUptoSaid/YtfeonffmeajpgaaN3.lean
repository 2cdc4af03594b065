import Derived.Test.YtfeonffmeajpgaaN2
set_option linter.unusedSimpArgs false
set_option linter.unusedVariables false
namespace Go.Proofs.Ytfeonffmeajpgaa
open Go.SL
set_option maxRecDepth 10000

section
variable {ω : Om} {I : Imm} {L : LH} {K : Value → M}

theorem entsL_snoc {es : List LE} {k : Nat} (h : k < es.length) : entsL (es.take (k + 1)) = entsL (es.take k) ++ (varL (es[k]).term.toNat ++ [byteOf (es[k]).kind] ++ textL (es[k]).data) := by
  have : es.take (k + 1) = es.take k ++ [es[k]] := by rw [List.take_add_one, List.getElem?_eq_getElem h]; rfl
  unfold entsL
  rw [this, List.flatMap_append]
  simp
theorem textL_len {b : List UInt8} (h : b.length < 9223372036854775808) : (textL b).length ≤ 9 + b.length := by
  have := varL_9 h
  simp only [textL, List.length_append]; omega
theorem entsL_len : ∀ {es : List LE}, (∀ e ∈ es, e.data.length ≤ 12000 ∧ e.term < 9223372036854775808) → (entsL es).length ≤ 12100 * es.length
  | [], _ => by simp [entsL]
  | e :: es, h => by
    have h1 := entsL_len (es := es) (fun y hy => h y (List.mem_cons_of_mem _ hy))
    have h0 := h e (List.mem_cons_self ..)
    have h2 := varL_9 (n := e.term.toNat) (by omega)
    have h3 := textL_len (b := e.data) (by omega)
    simp only [entsL, List.flatMap_cons, List.length_append, List.length_cons, List.length_nil] at h1 ⊢
    omega
theorem entB_data {e : LE} (h : entB e = true) : e.data.length ≤ 12000 ∧ 0 ≤ e.term ∧ e.term ≤ 9007199254740991 := by
  simp only [entB, Bool.and_eq_true, countB, decide_eq_true_eq] at h
  obtain ⟨⟨⟨_, ht⟩, _⟩, h⟩ := h
  refine ⟨?_, ht⟩
  split at h
  · simp at h; simp [h]
  · split at h
    · simp at h; omega
    · split at h
      · have := memB_len h; rw [nums_len] at this; omega
      · cases h
theorem right_ents {m : RM} (h : rightB m = true) (h3 : m.kind = 3) : m.entries.length ≤ 64 ∧ (∀ j (hj : j < m.entries.length), entB m.entries[j] = true ∧ m.entries[j].index = m.index + 1 + j ∧ m.entries[j].term ≤ m.term) := by
  simp only [rightB, h3, entsB, Bool.and_eq_true, decide_eq_true_eq] at h
  have h := h.2
  simp at h
  refine ⟨h.2.1, fun j hj => ?_⟩
  have := h.2.2 m.entries[j] j (by rw [List.mem_iff_getElem?]; exact ⟨j, by simp [hj]⟩)
  simp only [entOk, Bool.and_eq_true, beq_iff_eq, decide_eq_true_eq] at this
  exact ⟨this.1.1, this.1.2, this.2⟩
theorem right_data {m : RM} (h : rightB m = true) : (∀ e ∈ m.entries, e.data.length ≤ 12000 ∧ 0 ≤ e.term ∧ e.term ≤ 9007199254740991) ∧ m.entries.length ≤ 64 ∧ m.members.length ≤ 5 ∧ m.data.length ≤ 60000 ∧
    (0 ≤ m.index ∧ m.index ≤ 9007199254740991) ∧ (0 ≤ m.logTerm ∧ m.logTerm ≤ 9007199254740991) ∧ (0 ≤ m.commit ∧ m.commit ≤ 9007199254740991) ∧ (0 ≤ m.term ∧ m.term ≤ 9007199254740991) := by
  by_cases h3 : m.kind = 3
  · obtain ⟨h64, he⟩ := right_ents h h3
    simp only [rightB, h3, Bool.and_eq_true, decide_eq_true_eq, countB] at h
    simp at h
    refine ⟨fun e hm => ?_, h64, ?_, ?_, by omega, by omega, by omega, by omega⟩
    · obtain ⟨j, hj, rfl⟩ := List.mem_iff_getElem.1 hm
      exact entB_data (he j hj).1
    · simp [h]
    · simp [h]
  · simp only [rightB, h3, Bool.and_eq_true, decide_eq_true_eq, countB] at h
    have hr := h.2
    refine ⟨?_, ?_, ?_, ?_, by omega, by omega, by omega, by omega⟩
    all_goals split at hr
    all_goals try simp at hr
    all_goals try (simp [hr]; done)
    all_goals split at hr
    all_goals try simp at hr
    all_goals try (simp [hr]; done)
    all_goals split at hr
    all_goals try simp at hr
    all_goals try (simp [hr]; done)
    all_goals try (have := memB_len hr.1.2; omega)
    all_goals try (have := memB_len hr.2.1.2; omega)
    all_goals try (simp_all; done)
    all_goals try (simp_all; omega)

/-- the reference's loop over the entries -/
theorem rents_write {m : RM} {c : List Value} {b1 : Nat} {X F : LH} {v : Value} {bs : List UInt8} (hm : MsgV I m c) (hd : ∀ e ∈ m.entries, e.data.length ≤ 12000 ∧ 0 ≤ e.term ∧ e.term ≤ 9007199254740991) (h64 : m.entries.length ≤ 64)
    (hS : SlO 5 1 X v (u8s bs) bs.length) (hb : bs.length ≤ 1000) (hF : InL b1 F (Obj.cells c.toArray 51 (0, 0)))
    (hk : ∀ X' v', SlO 5 1 X' v' (u8s (bs ++ entsL m.entries)) (bs ++ entsL m.entries).length → Gh (K (.tuple #[v', .int .i64 0])) I (X' ++ F)) :
    LoopM ((v, .int .i64 0, ()) : Value × Value × Unit) (fun s Kn0 => sh26_4 ω (.pointer (some ⟨b1, 0, none⟩)) (.slice none 0 0) (.int .i64 0) s.1 s.2.1 Kn0 (fun v => Gh (K v))) I (X ++ F) := by
  obtain ⟨ev, mv, dv, rfl, hE, hM, hD⟩ := hm
  have hln := hE.len
  have hlen := fun k => entsL_len (es := m.entries.take k) (fun e hm => ⟨(hd e (List.mem_of_mem_take hm)).1, by have := hd e (List.mem_of_mem_take hm); omega⟩)
  refine loop (fun s I' L' => I' = I ∧ ∃ (k : Nat) (w : Value) (X6 : LH), s = (w, .int .i64 k, ()) ∧ k ≤ m.entries.length ∧ SlO 5 1 X6 w (u8s (bs ++ entsL (m.entries.take k))) (bs ++ entsL (m.entries.take k)).length ∧ L' = X6 ++ F)
    (fun s _ _ => match s with | (_, .int _ k, _) => ((m.entries.length : Int) - k).toNat | _ => 0) ⟨rfl, 0, v, X, rfl, by omega, by simpa [entsL] using hS, rfl⟩ ?_
  rintro s I' L' ⟨rfl, k, w, X6, rfl, hk1, h6, rfl⟩
  simp only
  (first | (with_reducible refine unfE (sh26_1.eq_1 ..) ?_) | (with_reducible refine unfE (sh26_2.eq_1 ..) ?_) | (with_reducible refine unfE (sh26_3.eq_1 ..) ?_) | (with_reducible refine unfE (sh26_4.eq_1 ..) ?_) | (with_reducible refine unfE (sh26_5.eq_1 ..) ?_) | (with_reducible refine unfE (sh26_6.eq_1 ..) ?_) | (with_reducible refine unfE (sh26_7.eq_1 ..) ?_) | (with_reducible refine unfE (sh26.eq_1 ..) ?_))
  simp only [Pv_some, fldV_p, nilV_p, nilV_f, lenV_s, capV_s, lenSV_s, strV_s, unV_not, unV_neg, pickV_t, pickV_f, exV_t, cvIV_i, binI_add, binI_sub, binI_mul, binI_eql, binI_neq, binI_lss, binI_leq, binI_gtr, binI_geq, binI_and, binI_or, binB_eql, binB_neq, binS_eql, binS_neq, binP_eql_nil, binP_neq_nil, binN_eql_nil, binN_neq_nil, binN_eql_nn, binN_neq_nn, Br_true, Br_false, cells_agg, List.getElem?_toArray, List.getElem?_cons_zero, List.getElem?_cons_succ, Nat.zero_add, Nat.add_zero, Nat.zero_mul]
  refine rdb ?_
  simp only [hln, Pv_some, fldV_p, nilV_p, nilV_f, lenV_s, capV_s, lenSV_s, strV_s, unV_not, unV_neg, pickV_t, pickV_f, exV_t, cvIV_i, binI_add, binI_sub, binI_mul, binI_eql, binI_neq, binI_lss, binI_leq, binI_gtr, binI_geq, binI_and, binI_or, binB_eql, binB_neq, binS_eql, binS_neq, binP_eql_nil, binP_neq_nil, binN_eql_nil, binN_neq_nil, binN_eql_nn, binN_neq_nn, Br_true, Br_false, cells_agg, List.getElem?_toArray, List.getElem?_cons_zero, List.getElem?_cons_succ, Nat.zero_add, Nat.add_zero, Nat.zero_mul]
  by_cases hlt : k < m.entries.length
  · have h1 : ((k : Int) < m.entries.length) := by omega
    simp only [h1, decide_true, Br_true]
    obtain ⟨b, off, c, hix, ⟨ddv, rfl, hB⟩, hc⟩ := hE.at hlt
    have hdk := hd m.entries[k] (List.getElem_mem hlt)
    have hl1 := hlen k
    rw [List.length_take] at hl1
    refine rdb ?_
    simp only [hix, Pv_some, fldV_p, nilV_p, nilV_f, lenV_s, capV_s, lenSV_s, strV_s, unV_not, unV_neg, pickV_t, pickV_f, exV_t, cvIV_i, binI_add, binI_sub, binI_mul, binI_eql, binI_neq, binI_lss, binI_leq, binI_gtr, binI_geq, binI_and, binI_or, binB_eql, binB_neq, binS_eql, binS_neq, binP_eql_nil, binP_neq_nil, binN_eql_nil, binN_neq_nil, binN_eql_nn, binN_neq_nn, Br_true, Br_false, cells_agg, List.getElem?_toArray, List.getElem?_cons_zero, List.getElem?_cons_succ, Nat.zero_add, Nat.add_zero, Nat.zero_mul]
    refine rd1 (hc I' _ (Ext.refl I') 1 _ rfl) ?_
    rw [show (m.entries[k]).term = ((m.entries[k].term.toNat : Nat) : Int) from by omega]
    refine call (rvar_spec h6 (by omega) (by simp; omega) (fun X2 v2 h2 => ?_))
    have h9 := varL_9 (n := m.entries[k].term.toNat) (by omega)
    refine rdb ?_
    simp only [hix, Pv_some, fldV_p, nilV_p, nilV_f, lenV_s, capV_s, lenSV_s, strV_s, unV_not, unV_neg, pickV_t, pickV_f, exV_t, cvIV_i, binI_add, binI_sub, binI_mul, binI_eql, binI_neq, binI_lss, binI_leq, binI_gtr, binI_geq, binI_and, binI_or, binB_eql, binB_neq, binS_eql, binS_neq, binP_eql_nil, binP_neq_nil, binN_eql_nil, binN_neq_nil, binN_eql_nn, binN_neq_nn, Br_true, Br_false, cells_agg, List.getElem?_toArray, List.getElem?_cons_zero, List.getElem?_cons_succ, Nat.zero_add, Nat.add_zero, Nat.zero_mul]
    refine rd1 (hc I' _ (Ext.refl I') 2 _ rfl) ?_
    simp only [Pv_some, fldV_p, nilV_p, nilV_f, lenV_s, capV_s, lenSV_s, strV_s, unV_not, unV_neg, pickV_t, pickV_f, exV_t, cvIV_i, binI_add, binI_sub, binI_mul, binI_eql, binI_neq, binI_lss, binI_leq, binI_gtr, binI_geq, binI_and, binI_or, binB_eql, binB_neq, binS_eql, binS_neq, binP_eql_nil, binP_neq_nil, binN_eql_nil, binN_neq_nil, binN_eql_nn, binN_neq_nn, Br_true, Br_false, cells_agg, List.getElem?_toArray, List.getElem?_cons_zero, List.getElem?_cons_succ, Nat.zero_add, Nat.add_zero, Nat.zero_mul, u8_wrap]
    refine b_app (X6 := X2) h2 (by simp; omega) (fun X1 X3 v3 h3 => ?_)
    refine rdb ?_
    simp only [hix, Pv_some, fldV_p, nilV_p, nilV_f, lenV_s, capV_s, lenSV_s, strV_s, unV_not, unV_neg, pickV_t, pickV_f, exV_t, cvIV_i, binI_add, binI_sub, binI_mul, binI_eql, binI_neq, binI_lss, binI_leq, binI_gtr, binI_geq, binI_and, binI_or, binB_eql, binB_neq, binS_eql, binS_neq, binP_eql_nil, binP_neq_nil, binN_eql_nil, binN_neq_nil, binN_eql_nn, binN_neq_nn, Br_true, Br_false, cells_agg, List.getElem?_toArray, List.getElem?_cons_zero, List.getElem?_cons_succ, Nat.zero_add, Nat.add_zero, Nat.zero_mul]
    refine rd1 (hc I' _ (Ext.refl I') 3 _ rfl) ?_
    refine call (rtext_spec h3 hB (by simp; omega) (fun X4 v4 h4 => ?_))
    simp only [Pv_some, fldV_p, nilV_p, nilV_f, lenV_s, capV_s, lenSV_s, strV_s, unV_not, unV_neg, pickV_t, pickV_f, exV_t, cvIV_i, binI_add, binI_sub, binI_mul, binI_eql, binI_neq, binI_lss, binI_leq, binI_gtr, binI_geq, binI_and, binI_or, binB_eql, binB_neq, binS_eql, binS_neq, binP_eql_nil, binP_neq_nil, binN_eql_nil, binN_neq_nil, binN_eql_nn, binN_neq_nn, Br_true, Br_false, cells_agg, List.getElem?_toArray, List.getElem?_cons_zero, List.getElem?_cons_succ, Nat.zero_add, Nat.add_zero, Nat.zero_mul, wrap_i64 ((k : Int) + 1) (by omega)]
    refine Gh.to (X4 ++ F) (Gh.done ⟨⟨rfl, k + 1, v4, X4, by simp, by omega, ?_, rfl⟩, by omega⟩)
    rw [entsL_snoc hlt]
    simpa [List.append_assoc] using h4
  · have h1 : ¬ ((k : Int) < m.entries.length) := by omega
    simp only [h1, decide_false, Br_false]
    unfold sh26_3 sh26_2 sh26_1
    rw [List.take_of_length_le (by omega)] at h6
    exact hk X6 w h6

/-- .. over the members -/
theorem rmems_write {m : RM} {c : List Value} {b1 : Nat} {X F : LH} {v : Value} {bs : List UInt8} (hm : MsgV I m c) (h5 : m.members.length ≤ 5) (hd : m.data.length ≤ 60000)
    (hS : SlO 5 1 X v (u8s bs) bs.length) (hb : bs.length ≤ 1000) (hF : InL b1 F (Obj.cells c.toArray 51 (0, 0)))
    (hk : ∀ X' v', SlO 5 1 X' v' (u8s (bs ++ m.members.map byteOf ++ textL m.data)) (bs ++ m.members.map byteOf ++ textL m.data).length → Gh (K (.tuple #[v', .int .i64 0])) I (X' ++ F)) :
    LoopM ((v, .int .i64 0, ()) : Value × Value × Unit) (fun s Kn0 => sh26_7 ω (.pointer (some ⟨b1, 0, none⟩)) (.slice none 0 0) (.int .i64 0) s.1 s.2.1 Kn0 (fun v => Gh (K v))) I (X ++ F) := by
  obtain ⟨ev, mv, dv, rfl, hE, hM, hD⟩ := hm
  have hln := Ints.len hM
  refine loop (fun s I' L' => I' = I ∧ ∃ (k : Nat) (w : Value) (X6 : LH), s = (w, .int .i64 k, ()) ∧ k ≤ m.members.length ∧ SlO 5 1 X6 w (u8s (bs ++ (m.members.take k).map byteOf)) (bs ++ (m.members.take k).map byteOf).length ∧ L' = X6 ++ F)
    (fun s _ _ => match s with | (_, .int _ k, _) => ((m.members.length : Int) - k).toNat | _ => 0) ⟨rfl, 0, v, X, rfl, by omega, by simpa using hS, rfl⟩ ?_
  rintro s I' L' ⟨rfl, k, w, X6, rfl, hk1, h6, rfl⟩
  simp only
  (first | (with_reducible refine unfE (sh26_1.eq_1 ..) ?_) | (with_reducible refine unfE (sh26_2.eq_1 ..) ?_) | (with_reducible refine unfE (sh26_3.eq_1 ..) ?_) | (with_reducible refine unfE (sh26_4.eq_1 ..) ?_) | (with_reducible refine unfE (sh26_5.eq_1 ..) ?_) | (with_reducible refine unfE (sh26_6.eq_1 ..) ?_) | (with_reducible refine unfE (sh26_7.eq_1 ..) ?_) | (with_reducible refine unfE (sh26.eq_1 ..) ?_))
  simp only [Pv_some, fldV_p, nilV_p, nilV_f, lenV_s, capV_s, lenSV_s, strV_s, unV_not, unV_neg, pickV_t, pickV_f, exV_t, cvIV_i, binI_add, binI_sub, binI_mul, binI_eql, binI_neq, binI_lss, binI_leq, binI_gtr, binI_geq, binI_and, binI_or, binB_eql, binB_neq, binS_eql, binS_neq, binP_eql_nil, binP_neq_nil, binN_eql_nil, binN_neq_nil, binN_eql_nn, binN_neq_nn, Br_true, Br_false, cells_agg, List.getElem?_toArray, List.getElem?_cons_zero, List.getElem?_cons_succ, Nat.zero_add, Nat.add_zero, Nat.zero_mul]
  refine rdb ?_
  simp only [hln, Pv_some, fldV_p, nilV_p, nilV_f, lenV_s, capV_s, lenSV_s, strV_s, unV_not, unV_neg, pickV_t, pickV_f, exV_t, cvIV_i, binI_add, binI_sub, binI_mul, binI_eql, binI_neq, binI_lss, binI_leq, binI_gtr, binI_geq, binI_and, binI_or, binB_eql, binB_neq, binS_eql, binS_neq, binP_eql_nil, binP_neq_nil, binN_eql_nil, binN_neq_nil, binN_eql_nn, binN_neq_nn, Br_true, Br_false, cells_agg, List.getElem?_toArray, List.getElem?_cons_zero, List.getElem?_cons_succ, Nat.zero_add, Nat.add_zero, Nat.zero_mul]
  by_cases hlt : k < m.members.length
  · have h1 : ((k : Int) < m.members.length) := by omega
    simp only [h1, decide_true, Br_true]
    obtain ⟨b, off, hix, hc⟩ := Ints.at hM hlt
    refine rdb ?_
    simp only [hix, Pv_some, fldV_p, nilV_p, nilV_f, lenV_s, capV_s, lenSV_s, strV_s, unV_not, unV_neg, pickV_t, pickV_f, exV_t, cvIV_i, binI_add, binI_sub, binI_mul, binI_eql, binI_neq, binI_lss, binI_leq, binI_gtr, binI_geq, binI_and, binI_or, binB_eql, binB_neq, binS_eql, binS_neq, binP_eql_nil, binP_neq_nil, binN_eql_nil, binN_neq_nil, binN_eql_nn, binN_neq_nn, Br_true, Br_false, cells_agg, List.getElem?_toArray, List.getElem?_cons_zero, List.getElem?_cons_succ, Nat.zero_add, Nat.add_zero, Nat.zero_mul]
    refine rd1 (hc I' _ (Ext.refl I')) ?_
    simp only [Pv_some, fldV_p, nilV_p, nilV_f, lenV_s, capV_s, lenSV_s, strV_s, unV_not, unV_neg, pickV_t, pickV_f, exV_t, cvIV_i, binI_add, binI_sub, binI_mul, binI_eql, binI_neq, binI_lss, binI_leq, binI_gtr, binI_geq, binI_and, binI_or, binB_eql, binB_neq, binS_eql, binS_neq, binP_eql_nil, binP_neq_nil, binN_eql_nil, binN_neq_nil, binN_eql_nn, binN_neq_nn, Br_true, Br_false, cells_agg, List.getElem?_toArray, List.getElem?_cons_zero, List.getElem?_cons_succ, Nat.zero_add, Nat.add_zero, Nat.zero_mul, u8_wrap]
    refine b_app (X6 := X6) h6 (by simp; omega) (fun X1 X3 v3 h3 => ?_)
    simp only [Pv_some, fldV_p, nilV_p, nilV_f, lenV_s, capV_s, lenSV_s, strV_s, unV_not, unV_neg, pickV_t, pickV_f, exV_t, cvIV_i, binI_add, binI_sub, binI_mul, binI_eql, binI_neq, binI_lss, binI_leq, binI_gtr, binI_geq, binI_and, binI_or, binB_eql, binB_neq, binS_eql, binS_neq, binP_eql_nil, binP_neq_nil, binN_eql_nil, binN_neq_nil, binN_eql_nn, binN_neq_nn, Br_true, Br_false, cells_agg, List.getElem?_toArray, List.getElem?_cons_zero, List.getElem?_cons_succ, Nat.zero_add, Nat.add_zero, Nat.zero_mul, wrap_i64 ((k : Int) + 1) (by omega)]
    refine Gh.to (X3 ++ F) (Gh.done ⟨⟨rfl, k + 1, v3, X3, by simp, by omega, ?_, rfl⟩, by omega⟩)
    have e : (m.members.take (k + 1)).map byteOf = (m.members.take k).map byteOf ++ [byteOf (m.members.getD k 0)] := by
      rw [show m.members.getD k 0 = m.members[k] from by simp [List.getD, hlt], List.take_add_one, List.getElem?_eq_getElem hlt, List.map_append]
      rfl
    rw [e, ← List.append_assoc]
    exact h3
  · have h1 : ¬ ((k : Int) < m.members.length) := by omega
    simp only [h1, decide_false, Br_false]
    unfold sh26_6 sh26_5
    rw [List.take_of_length_le (by omega)] at h6
    simp only [Pv_some, fldV_p, nilV_p, nilV_f, lenV_s, capV_s, lenSV_s, strV_s, unV_not, unV_neg, pickV_t, pickV_f, exV_t, cvIV_i, binI_add, binI_sub, binI_mul, binI_eql, binI_neq, binI_lss, binI_leq, binI_gtr, binI_geq, binI_and, binI_or, binB_eql, binB_neq, binS_eql, binS_neq, binP_eql_nil, binP_neq_nil, binN_eql_nil, binN_neq_nil, binN_eql_nn, binN_neq_nn, Br_true, Br_false, cells_agg, List.getElem?_toArray, List.getElem?_cons_zero, List.getElem?_cons_succ, Nat.zero_add, Nat.add_zero, Nat.zero_mul]
    refine rdb ?_
    refine call (rtext_spec h6 hD (by simp; omega) (fun X4 v4 h4 => ?_))
    unfold sh26_2 sh26_1
    exact hk X4 v4 h4

end
end Go.Proofs.Ytfeonffmeajpgaa
