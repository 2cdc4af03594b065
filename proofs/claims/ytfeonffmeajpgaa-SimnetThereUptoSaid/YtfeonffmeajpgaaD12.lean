import Derived.Test.YtfeonffmeajpgaaD11
set_option linter.unusedSimpArgs false
set_option linter.unusedVariables false
namespace Go.Proofs.Ytfeonffmeajpgaa
open Go.SL
set_option maxRecDepth 10000

section
variable {ω : Om} {I : Imm} {L : LH} {K : Value → M}

theorem bldR3 (a : Option Addr) (l c : Nat) : bldV #[(Value.slice none 0 0), (Value.int .i64 0), (Value.bool false)] #[(0, 1), (1, 1), (2, 1)] [(0, .slice a l c)] = some (.agg #[.slice a l c, .int .i64 0, .bool false]) := by rfl

/-- a read that is laid into the message -/
theorem eend {b1 b3 b10 j : Nat} {bv a0 : Value} {b bs : List UInt8} {m : RM} {s : RS} {x : RS} (hB : Bytes I a0 b) (hd : bs.drop j = x.1) (hx : (m, x) = (m, s)) (hme : m.entries = []) (hmm : m.members = []) (hmd : m.data = []) (hk : DecR K b (m, s) I L) :
    sh28_3 ω a0 (.pointer (some ⟨b1, 0, none⟩)) (.int .i64 0) (.pointer (some ⟨b3, 0, none⟩)) (.pointer (some ⟨b10, 0, none⟩)) (fun v => Gh (K v)) I ((b3, erO bv j x.2) :: (b10, msgO m (.slice none 0 0) (.slice none 0 0) (.slice none 0 0)) :: (b1, zO) :: L) := by
  obtain rfl : x = s := by simpa using hx
  unfold sh28_3
  refine edec_endG (m := m) (s := x) (bv := bv) (i := j) (X := []) (Ext.refl I) hB (by rw [hme]; exact EntsO.none) (by rw [hmm]; exact SlI.nil _ _ _ _) (by rw [hmd]; exact SlI.nil _ _ _ _) (by simp [hmm]) (List.mem_cons_self ..) (List.mem_cons_of_mem _ (List.mem_cons_self ..)) (List.Perm.refl _) hk

set_option maxHeartbeats 1000000 in
theorem edec_spec {a0 : Value} {b : List UInt8} (hB : Bytes I a0 b) (hlen : b.length * 8 ≤ 140737488355328) (hk : DecR K b (parseG b) I L) : Cal Try.prog ω 28 #[a0] K I L := by
  obtain ⟨aa, ac, ha⟩ := hB.form
  refine cal28 ?_
  unfold sh28
  refine newI (fun b1 => ?_)
  have hbl : bldV #[(Value.slice none 0 0), (Value.int .i64 0), (Value.bool false)] #[(0, 1), (1, 1), (2, 1)] [(0, a0)] = some (.agg #[a0, .int .i64 0, .bool false]) := by rw [ha]; exact bldR3 ..
  simp only [hbl, bldZ, Pv_some, fldV_p, nilV_p, nilV_f, lenV_s, capV_s, lenSV_s, strV_s, unV_not, unV_neg, pickV_t, pickV_f, exV_t, cvIV_i, binI_add, binI_sub, binI_mul, binI_eql, binI_neq, binI_lss, binI_leq, binI_gtr, binI_geq, binI_and, binI_or, binB_eql, binB_neq, binS_eql, binS_neq, binP_eql_nil, binP_neq_nil, binN_eql_nil, binN_neq_nil, binN_eql_nn, binN_neq_nn, Br_true, Br_false, cells_agg, List.getElem?_toArray, List.getElem?_cons_zero, List.getElem?_cons_succ, Nat.zero_add, Nat.add_zero, Nat.zero_mul]
  refine newI (fun b3 => ?_)
  refine newI (fun b10 => ?_)
  refine stB rfl rfl (one_all rfl) ?_
  have h0 : b.drop 0 = b := rfl
  have hl0 : b.length < 4611686018427387904 := by omega
  refine call (Cal.perm (List.Perm.swap ..) (ebyte_spec (i := 0) (bad := false) hB (by omega) hl0 (fun j1 q1 d1 => ?_)))
  rw [h0] at d1 ⊢
  try simp only [Pv_some, fldV_p, nilV_p, nilV_f, lenV_s, capV_s, lenSV_s, strV_s, unV_not, unV_neg, pickV_t, pickV_f, exV_t, cvIV_i, binI_add, binI_sub, binI_mul, binI_eql, binI_neq, binI_lss, binI_leq, binI_gtr, binI_geq, binI_and, binI_or, binB_eql, binB_neq, binS_eql, binS_neq, binP_eql_nil, binP_neq_nil, binN_eql_nil, binN_neq_nil, binN_eql_nn, binN_neq_nn, Br_true, Br_false, cells_agg, List.getElem?_toArray, List.getElem?_cons_zero, List.getElem?_cons_succ, Nat.zero_add, Nat.add_zero, Nat.zero_mul]
  refine st1 rfl ?_
  refine call (ebyte_spec hB q1 hl0 (fun j2 q2 d2 => ?_))
  rw [d1] at d2 ⊢
  try simp only [Pv_some, fldV_p, nilV_p, nilV_f, lenV_s, capV_s, lenSV_s, strV_s, unV_not, unV_neg, pickV_t, pickV_f, exV_t, cvIV_i, binI_add, binI_sub, binI_mul, binI_eql, binI_neq, binI_lss, binI_leq, binI_gtr, binI_geq, binI_and, binI_or, binB_eql, binB_neq, binS_eql, binS_neq, binP_eql_nil, binP_neq_nil, binN_eql_nil, binN_neq_nil, binN_eql_nn, binN_neq_nn, Br_true, Br_false, cells_agg, List.getElem?_toArray, List.getElem?_cons_zero, List.getElem?_cons_succ, Nat.zero_add, Nat.add_zero, Nat.zero_mul]
  refine st1 rfl ?_
  refine call (ebyte_spec hB q2 hl0 (fun j3 q3 d3 => ?_))
  rw [d2] at d3 ⊢
  try simp only [Pv_some, fldV_p, nilV_p, nilV_f, lenV_s, capV_s, lenSV_s, strV_s, unV_not, unV_neg, pickV_t, pickV_f, exV_t, cvIV_i, binI_add, binI_sub, binI_mul, binI_eql, binI_neq, binI_lss, binI_leq, binI_gtr, binI_geq, binI_and, binI_or, binB_eql, binB_neq, binS_eql, binS_neq, binP_eql_nil, binP_neq_nil, binN_eql_nil, binN_neq_nil, binN_eql_nn, binN_neq_nn, Br_true, Br_false, cells_agg, List.getElem?_toArray, List.getElem?_cons_zero, List.getElem?_cons_succ, Nat.zero_add, Nat.add_zero, Nat.zero_mul]
  refine st1 rfl ?_
  refine call (ebyte_spec hB q3 hl0 (fun j4 q4 d4 => ?_))
  rw [d3] at d4 ⊢
  try simp only [Pv_some, fldV_p, nilV_p, nilV_f, lenV_s, capV_s, lenSV_s, strV_s, unV_not, unV_neg, pickV_t, pickV_f, exV_t, cvIV_i, binI_add, binI_sub, binI_mul, binI_eql, binI_neq, binI_lss, binI_leq, binI_gtr, binI_geq, binI_and, binI_or, binB_eql, binB_neq, binS_eql, binS_neq, binP_eql_nil, binP_neq_nil, binN_eql_nil, binN_neq_nil, binN_eql_nn, binN_neq_nn, Br_true, Br_false, cells_agg, List.getElem?_toArray, List.getElem?_cons_zero, List.getElem?_cons_succ, Nat.zero_add, Nat.add_zero, Nat.zero_mul]
  refine st1 rfl ?_
  refine call (evar_spec hB q4 hl0 (fun j5 q5 d5 => ?_))
  rw [d4] at d5 ⊢
  try simp only [Pv_some, fldV_p, nilV_p, nilV_f, lenV_s, capV_s, lenSV_s, strV_s, unV_not, unV_neg, pickV_t, pickV_f, exV_t, cvIV_i, binI_add, binI_sub, binI_mul, binI_eql, binI_neq, binI_lss, binI_leq, binI_gtr, binI_geq, binI_and, binI_or, binB_eql, binB_neq, binS_eql, binS_neq, binP_eql_nil, binP_neq_nil, binN_eql_nil, binN_neq_nil, binN_eql_nn, binN_neq_nn, Br_true, Br_false, cells_agg, List.getElem?_toArray, List.getElem?_cons_zero, List.getElem?_cons_succ, Nat.zero_add, Nat.add_zero, Nat.zero_mul]
  refine st1 rfl ?_
  try simp only [Pv_some, fldV_p, nilV_p, nilV_f, lenV_s, capV_s, lenSV_s, strV_s, unV_not, unV_neg, pickV_t, pickV_f, exV_t, cvIV_i, binI_add, binI_sub, binI_mul, binI_eql, binI_neq, binI_lss, binI_leq, binI_gtr, binI_geq, binI_and, binI_or, binB_eql, binB_neq, binS_eql, binS_neq, binP_eql_nil, binP_neq_nil, binN_eql_nil, binN_neq_nil, binN_eql_nn, binN_neq_nn, Br_true, Br_false, cells_agg, List.getElem?_toArray, List.getElem?_cons_zero, List.getElem?_cons_succ, Nat.zero_add, Nat.add_zero, Nat.zero_mul]
  refine rdb ?_
  simp only [Pv_some, fldV_p, nilV_p, nilV_f, lenV_s, capV_s, lenSV_s, strV_s, unV_not, unV_neg, pickV_t, pickV_f, exV_t, cvIV_i, binI_add, binI_sub, binI_mul, binI_eql, binI_neq, binI_lss, binI_leq, binI_gtr, binI_geq, binI_and, binI_or, binB_eql, binB_neq, binS_eql, binS_neq, binP_eql_nil, binP_neq_nil, binN_eql_nil, binN_neq_nil, binN_eql_nn, binN_neq_nn, Br_true, Br_false, cells_agg, List.getElem?_toArray, List.getElem?_cons_zero, List.getElem?_cons_succ, Nat.zero_add, Nat.add_zero, Nat.zero_mul]
  have hp : parseG b = parseG5 (baseM (byteG (b, false)).1 (byteG (byteG (b, false)).2).1 (byteG (byteG (byteG (b, false)).2).2).1 (byteG (byteG (byteG (byteG (b, false)).2).2).2).1 (varG (byteG (byteG (byteG (byteG (b, false)).2).2).2).2).1) (varG (byteG (byteG (byteG (byteG (b, false)).2).2).2).2).2 := rfl
  rw [hp] at hk
  clear hp
  revert hk d5
  generalize (varG (byteG (byteG (byteG (byteG (b, false)).2).2).2).2).2 = s5
  generalize (varG (byteG (byteG (byteG (byteG (b, false)).2).2).2).2).1 = x4
  generalize (byteG (byteG (byteG (byteG (b, false)).2).2).2).1 = x3
  generalize (byteG (byteG (byteG (b, false)).2).2).1 = x2
  generalize (byteG (byteG (b, false)).2).1 = x1
  generalize (byteG (b, false)).1 = x0
  intro hk d5
  obtain ⟨s51, s52⟩ := s5
  simp only at d5
  subst d5
  refine br_split (fun k1 => ?_) (fun k1 => ?_)
  · simp only [beq_iff_eq] at k1
    refine call (evar_spec hB q5 hl0 (fun j6 q6 d6 => ?_))
    try simp only [Pv_some, fldV_p, nilV_p, nilV_f, lenV_s, capV_s, lenSV_s, strV_s, unV_not, unV_neg, pickV_t, pickV_f, exV_t, cvIV_i, binI_add, binI_sub, binI_mul, binI_eql, binI_neq, binI_lss, binI_leq, binI_gtr, binI_geq, binI_and, binI_or, binB_eql, binB_neq, binS_eql, binS_neq, binP_eql_nil, binP_neq_nil, binN_eql_nil, binN_neq_nil, binN_eql_nn, binN_neq_nn, Br_true, Br_false, cells_agg, List.getElem?_toArray, List.getElem?_cons_zero, List.getElem?_cons_succ, Nat.zero_add, Nat.add_zero, Nat.zero_mul]
    refine st1 rfl ?_
    refine call (evar_spec hB q6 hl0 (fun j7 q7 d7 => ?_))
    rw [d6] at d7 ⊢
    try simp only [Pv_some, fldV_p, nilV_p, nilV_f, lenV_s, capV_s, lenSV_s, strV_s, unV_not, unV_neg, pickV_t, pickV_f, exV_t, cvIV_i, binI_add, binI_sub, binI_mul, binI_eql, binI_neq, binI_lss, binI_leq, binI_gtr, binI_geq, binI_and, binI_or, binB_eql, binB_neq, binS_eql, binS_neq, binP_eql_nil, binP_neq_nil, binN_eql_nil, binN_neq_nil, binN_eql_nn, binN_neq_nn, Br_true, Br_false, cells_agg, List.getElem?_toArray, List.getElem?_cons_zero, List.getElem?_cons_succ, Nat.zero_add, Nat.add_zero, Nat.zero_mul]
    refine st1 rfl ?_
    rw [show parseG5 (baseM x0 x1 x2 x3 x4) (b.drop j5, s52) = (⟨x0, x1, x2, x3, x4, (varG (b.drop j5, s52)).1, (varG (varG (b.drop j5, s52)).2).1, 0, false, [], [], []⟩, (varG (varG (b.drop j5, s52)).2).2) from by simp [parseG5, baseM, k1]] at hk
    exact eend hB d7 rfl rfl rfl rfl hk
  simp only [beq_eq_false_iff_ne] at k1
  refine br_split (fun k2 => ?_) (fun k2 => ?_)
  · simp only [beq_iff_eq] at k2
    refine call (ebyte_spec hB q5 hl0 (fun j6 q6 d6 => ?_))
    try simp only [Pv_some, fldV_p, nilV_p, nilV_f, lenV_s, capV_s, lenSV_s, strV_s, unV_not, unV_neg, pickV_t, pickV_f, exV_t, cvIV_i, binI_add, binI_sub, binI_mul, binI_eql, binI_neq, binI_lss, binI_leq, binI_gtr, binI_geq, binI_and, binI_or, binB_eql, binB_neq, binS_eql, binS_neq, binP_eql_nil, binP_neq_nil, binN_eql_nil, binN_neq_nil, binN_eql_nn, binN_neq_nn, Br_true, Br_false, cells_agg, List.getElem?_toArray, List.getElem?_cons_zero, List.getElem?_cons_succ, Nat.zero_add, Nat.add_zero, Nat.zero_mul]
    refine st1 rfl ?_
    rw [show parseG5 (baseM x0 x1 x2 x3 x4) (b.drop j5, s52) = (⟨x0, x1, x2, x3, x4, 0, 0, 0, (((byteG (b.drop j5, s52)).1 : Int) == 1), [], [], []⟩, (byteG (b.drop j5, s52)).2) from by simp [parseG5, baseM, k2]] at hk
    exact eend hB d6 rfl rfl rfl rfl hk
  simp only [beq_eq_false_iff_ne] at k2
  refine br_split (fun k3 => ?_) (fun k3 => ?_)
  · simp only [beq_iff_eq] at k3
    refine call (evar_spec hB q5 hl0 (fun j6 q6 d6 => ?_))
    try simp only [Pv_some, fldV_p, nilV_p, nilV_f, lenV_s, capV_s, lenSV_s, strV_s, unV_not, unV_neg, pickV_t, pickV_f, exV_t, cvIV_i, binI_add, binI_sub, binI_mul, binI_eql, binI_neq, binI_lss, binI_leq, binI_gtr, binI_geq, binI_and, binI_or, binB_eql, binB_neq, binS_eql, binS_neq, binP_eql_nil, binP_neq_nil, binN_eql_nil, binN_neq_nil, binN_eql_nn, binN_neq_nn, Br_true, Br_false, cells_agg, List.getElem?_toArray, List.getElem?_cons_zero, List.getElem?_cons_succ, Nat.zero_add, Nat.add_zero, Nat.zero_mul]
    refine st1 rfl ?_
    refine call (evar_spec hB q6 hl0 (fun j7 q7 d7 => ?_))
    rw [d6] at d7 ⊢
    try simp only [Pv_some, fldV_p, nilV_p, nilV_f, lenV_s, capV_s, lenSV_s, strV_s, unV_not, unV_neg, pickV_t, pickV_f, exV_t, cvIV_i, binI_add, binI_sub, binI_mul, binI_eql, binI_neq, binI_lss, binI_leq, binI_gtr, binI_geq, binI_and, binI_or, binB_eql, binB_neq, binS_eql, binS_neq, binP_eql_nil, binP_neq_nil, binN_eql_nil, binN_neq_nil, binN_eql_nn, binN_neq_nn, Br_true, Br_false, cells_agg, List.getElem?_toArray, List.getElem?_cons_zero, List.getElem?_cons_succ, Nat.zero_add, Nat.add_zero, Nat.zero_mul]
    refine st1 rfl ?_
    refine call (evar_spec hB q7 hl0 (fun j8 q8 d8 => ?_))
    rw [d7] at d8 ⊢
    try simp only [Pv_some, fldV_p, nilV_p, nilV_f, lenV_s, capV_s, lenSV_s, strV_s, unV_not, unV_neg, pickV_t, pickV_f, exV_t, cvIV_i, binI_add, binI_sub, binI_mul, binI_eql, binI_neq, binI_lss, binI_leq, binI_gtr, binI_geq, binI_and, binI_or, binB_eql, binB_neq, binS_eql, binS_neq, binP_eql_nil, binP_neq_nil, binN_eql_nil, binN_neq_nil, binN_eql_nn, binN_neq_nn, Br_true, Br_false, cells_agg, List.getElem?_toArray, List.getElem?_cons_zero, List.getElem?_cons_succ, Nat.zero_add, Nat.add_zero, Nat.zero_mul]
    refine st1 rfl ?_
    refine call (evar_spec hB q8 hl0 (fun j9 q9 d9 => ?_))
    rw [d8] at d9 ⊢
    have hi := varG_lt (b.drop j5, s52)
    refine eents (m := ⟨x0, x1, x2, x3, x4, (varG (b.drop j5, s52)).1, (varG (varG (b.drop j5, s52)).2).1, (varG (varG (varG (b.drop j5, s52)).2).2).1, false, [], [], []⟩) (Ext.refl I) hB hB q9 (SlI.nil _ _ _ _) (SlI.nil _ _ _ _) (by simp) (by omega) ⟨by simp, by simp only; omega⟩ (varG_lt _) ?_
    have e : parseG5 (baseM x0 x1 x2 x3 x4) (b.drop j5, s52) = (⟨x0, x1, x2, x3, x4, (varG (b.drop j5, s52)).1, (varG (varG (b.drop j5, s52)).2).1, (varG (varG (varG (b.drop j5, s52)).2).2).1, false, (entsG (min (varG (varG (varG (varG (b.drop j5, s52)).2).2).2).1 65) ((varG (b.drop j5, s52)).1 + 1) (varG (varG (varG (varG (b.drop j5, s52)).2).2).2).2).1, [], []⟩, (entsG (min (varG (varG (varG (varG (b.drop j5, s52)).2).2).2).1 65) ((varG (b.drop j5, s52)).1 + 1) (varG (varG (varG (varG (b.drop j5, s52)).2).2).2).2).2) := by
      unfold parseG5
      rw [if_neg (show ¬ (baseM x0 x1 x2 x3 x4).kind = 1 from k1), if_neg (show ¬ (baseM x0 x1 x2 x3 x4).kind = 2 from k2), if_pos (show (baseM x0 x1 x2 x3 x4).kind = 3 from k3)]
      rfl
    rw [e] at hk
    rw [d9]
    exact hk
  simp only [beq_eq_false_iff_ne] at k3
  refine br_split (fun k4 => ?_) (fun k4 => ?_)
  · simp only [beq_iff_eq] at k4
    refine call (ebyte_spec hB q5 hl0 (fun j6 q6 d6 => ?_))
    try simp only [Pv_some, fldV_p, nilV_p, nilV_f, lenV_s, capV_s, lenSV_s, strV_s, unV_not, unV_neg, pickV_t, pickV_f, exV_t, cvIV_i, binI_add, binI_sub, binI_mul, binI_eql, binI_neq, binI_lss, binI_leq, binI_gtr, binI_geq, binI_and, binI_or, binB_eql, binB_neq, binS_eql, binS_neq, binP_eql_nil, binP_neq_nil, binN_eql_nil, binN_neq_nil, binN_eql_nn, binN_neq_nn, Br_true, Br_false, cells_agg, List.getElem?_toArray, List.getElem?_cons_zero, List.getElem?_cons_succ, Nat.zero_add, Nat.add_zero, Nat.zero_mul]
    refine st1 rfl ?_
    refine call (evar_spec hB q6 hl0 (fun j7 q7 d7 => ?_))
    rw [d6] at d7 ⊢
    try simp only [Pv_some, fldV_p, nilV_p, nilV_f, lenV_s, capV_s, lenSV_s, strV_s, unV_not, unV_neg, pickV_t, pickV_f, exV_t, cvIV_i, binI_add, binI_sub, binI_mul, binI_eql, binI_neq, binI_lss, binI_leq, binI_gtr, binI_geq, binI_and, binI_or, binB_eql, binB_neq, binS_eql, binS_neq, binP_eql_nil, binP_neq_nil, binN_eql_nil, binN_neq_nil, binN_eql_nn, binN_neq_nn, Br_true, Br_false, cells_agg, List.getElem?_toArray, List.getElem?_cons_zero, List.getElem?_cons_succ, Nat.zero_add, Nat.add_zero, Nat.zero_mul]
    refine st1 rfl ?_
    rw [show parseG5 (baseM x0 x1 x2 x3 x4) (b.drop j5, s52) = (⟨x0, x1, x2, x3, x4, (varG (byteG (b.drop j5, s52)).2).1, 0, 0, (((byteG (b.drop j5, s52)).1 : Int) == 1), [], [], []⟩, (varG (byteG (b.drop j5, s52)).2).2) from by simp [parseG5, baseM, k4]] at hk
    exact eend hB d7 rfl rfl rfl rfl hk
  simp only [beq_eq_false_iff_ne] at k4
  refine br_split (fun k5 => ?_) (fun k5 => ?_)
  · simp only [beq_iff_eq] at k5
    refine call (evar_spec hB q5 hl0 (fun j6 q6 d6 => ?_))
    try simp only [Pv_some, fldV_p, nilV_p, nilV_f, lenV_s, capV_s, lenSV_s, strV_s, unV_not, unV_neg, pickV_t, pickV_f, exV_t, cvIV_i, binI_add, binI_sub, binI_mul, binI_eql, binI_neq, binI_lss, binI_leq, binI_gtr, binI_geq, binI_and, binI_or, binB_eql, binB_neq, binS_eql, binS_neq, binP_eql_nil, binP_neq_nil, binN_eql_nil, binN_neq_nil, binN_eql_nn, binN_neq_nn, Br_true, Br_false, cells_agg, List.getElem?_toArray, List.getElem?_cons_zero, List.getElem?_cons_succ, Nat.zero_add, Nat.add_zero, Nat.zero_mul]
    refine st1 rfl ?_
    refine call (evar_spec hB q6 hl0 (fun j7 q7 d7 => ?_))
    rw [d6] at d7 ⊢
    try simp only [Pv_some, fldV_p, nilV_p, nilV_f, lenV_s, capV_s, lenSV_s, strV_s, unV_not, unV_neg, pickV_t, pickV_f, exV_t, cvIV_i, binI_add, binI_sub, binI_mul, binI_eql, binI_neq, binI_lss, binI_leq, binI_gtr, binI_geq, binI_and, binI_or, binB_eql, binB_neq, binS_eql, binS_neq, binP_eql_nil, binP_neq_nil, binN_eql_nil, binN_neq_nil, binN_eql_nn, binN_neq_nn, Br_true, Br_false, cells_agg, List.getElem?_toArray, List.getElem?_cons_zero, List.getElem?_cons_succ, Nat.zero_add, Nat.add_zero, Nat.zero_mul]
    refine st1 rfl ?_
    refine call (etext_spec hB q7 (by omega) (fun tv I2 j8 hI2 q8 d8 hT => ?_))
    rw [d7] at d8 hT ⊢
    have hTl : (textG (varG (varG (b.drop j5, s52)).2).2).1.length ≤ b.length := by
      have e1 := textG_len (varG (varG (b.drop j5, s52)).2).2
      have e2 := varG_len (varG (varG (b.drop j5, s52)).2).2
      have e3 := varG_len (varG (b.drop j5, s52)).2
      have e4 := varG_len (b.drop j5, s52)
      simp only [List.length_drop] at e4
      omega
    refine emems (m := ⟨x0, x1, x2, x3, x4, (varG (b.drop j5, s52)).1, (varG (varG (b.drop j5, s52)).2).1, 0, false, [], [], []⟩) hI2 (hB.mono hI2) (hB.mono hI2) q8 hT (Nat.le_trans (Nat.mul_le_mul_right 8 hTl) hlen) (by omega) rfl ?_
    rw [show parseG5 (baseM x0 x1 x2 x3 x4) (b.drop j5, s52) = (⟨x0, x1, x2, x3, x4, (varG (b.drop j5, s52)).1, (varG (varG (b.drop j5, s52)).2).1, 0, false, [], nums (textG (varG (varG (b.drop j5, s52)).2).2).1, (textG (textG (varG (varG (b.drop j5, s52)).2).2).2).1⟩, (textG (textG (varG (varG (b.drop j5, s52)).2).2).2).2) from by simp [parseG5, baseM, k5]] at hk
    rw [d8]
    exact hk
  simp only [beq_eq_false_iff_ne] at k5
  rw [show parseG5 (baseM x0 x1 x2 x3 x4) (b.drop j5, s52) = (baseM x0 x1 x2 x3 x4, (b.drop j5, s52)) from by simp [parseG5, baseM, k1, k2, k3, k4, k5]] at hk
  exact eend hB rfl rfl rfl rfl rfl hk

end
end Go.Proofs.Ytfeonffmeajpgaa
