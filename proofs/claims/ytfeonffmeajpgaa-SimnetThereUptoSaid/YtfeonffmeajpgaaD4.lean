import Derived.Test.YtfeonffmeajpgaaD3
set_option linter.unusedSimpArgs false
set_option linter.unusedVariables false
namespace Go.Proofs.Ytfeonffmeajpgaa
open Go.SL
set_option maxRecDepth 10000

section
variable {ω : Om} {I : Imm} {L : LH} {K : Value → M}

abbrev zO : Obj := Obj.cells #[.int .i64 0, .int .i64 0, .int .i64 0, .int .i64 0, .int .i64 0, .int .i64 0, .int .i64 0, .int .i64 0, .bool false, .slice none 0 0, .slice none 0 0, .slice none 0 0] 51 (0, 0)

theorem entsF_step {es : List LE} {N k : Nat} {i : Int} {s : RS} {R : List LE × RS} (hk : k < N) (he : (es ++ (entsF (N - k) (i + k) s).1, (entsF (N - k) (i + k) s).2) = R) :
    ((es ++ [⟨i + k, (countF s).1, (byteF (countF s).2).1, (textF (byteF (countF s).2).2).1⟩]) ++ (entsF (N - (k + 1)) (i + ((k + 1 : Nat) : Int)) (textF (byteF (countF s).2).2).2).1, (entsF (N - (k + 1)) (i + ((k + 1 : Nat) : Int)) (textF (byteF (countF s).2).2).2).2) = R := by
  rw [← he, show N - k = (N - (k + 1)) + 1 from by omega]
  simp only [entsF, List.append_assoc, List.singleton_append]
  rw [show i + (k : Int) + 1 = i + ((k + 1 : Nat) : Int) from by omega]

theorem dents {b1 b3 b10 n : Nat} {a0 sv mv dv : Value} {b : List UInt8} {m : RM} {s : RS} {I0 : Imm} (hI0 : Ext I0 I) (hB : Bytes I a0 b) (hsv : Bytes I sv s.1) (hM : Ints I mv m.members) (hD : Bytes I dv m.data) (hl : m.members.length < 4611686018427387904)
    (hlen : s.1.length ≤ 140737488355328) (hi : 0 ≤ m.index ∧ m.index < 72057594037927936) (hn : n < 72057594037927936)
    (hk : DecR K b ({ m with entries := (entsF (min n 65) (m.index + 1) s).1 }, (entsF (min n 65) (m.index + 1) s).2) I0 L) :
    LoopM ((.int .i64 0, ()) : Value × Unit) (fun st Kn0 => sh27_5 ω a0 (.pointer (some ⟨b1, 0, none⟩)) (.int .i64 0) (.pointer (some ⟨b3, 0, none⟩)) (.pointer (some ⟨b10, 0, none⟩)) (.int .i64 n) st.1 Kn0 (fun v => Gh (K v))) I
      ((b3, rdO sv s.2) :: (b10, msgO m (.slice none 0 0) mv dv) :: (b1, zO) :: L) := by
  refine loop (fun st I' L' => Ext I I' ∧ ∃ (k : Nat) (sv' ev : Value) (s' : RS) (X : LH) (es : List LE), st = (.int .i64 k, ()) ∧ k ≤ min n 65 ∧ es.length = k ∧ EntsO I' X ev es ∧ Bytes I' sv' s'.1 ∧ s'.1.length ≤ 140737488355328 ∧
      L' = (b3, rdO sv' s'.2) :: (b10, msgO m ev mv dv) :: (X ++ (b1, zO) :: L) ∧ (es ++ (entsF (min n 65 - k) (m.index + 1 + k) s').1, (entsF (min n 65 - k) (m.index + 1 + k) s').2) = entsF (min n 65) (m.index + 1) s)
    (fun s _ _ => match s with | (.int _ k, _) => ((100 : Int) - k).toNat | _ => 0) ⟨Ext.refl I, 0, sv, _, s, [], [], rfl, by omega, rfl, EntsO.none, hsv, hlen, rfl, by simp⟩ ?_
  rintro st I' L' ⟨hI, k, sv', ev, s', X, es, rfl, hk1, hel, hE, hB', hl', rfl, he⟩
  simp only
  (first | (with_reducible refine unfE (sh27_2.eq_1 ..) ?_) | (with_reducible refine unfE (sh27_1.eq_1 ..) ?_) | (with_reducible refine unfE (sh27_3.eq_1 ..) ?_) | (with_reducible refine unfE (sh27_4.eq_1 ..) ?_) | (with_reducible refine unfE (sh27_5.eq_1 ..) ?_) | (with_reducible refine unfE (sh27.eq_1 ..) ?_))
  simp only [Pv_some, fldV_p, nilV_p, nilV_f, lenV_s, capV_s, lenSV_s, strV_s, unV_not, unV_neg, pickV_t, pickV_f, exV_t, cvIV_i, binI_add, binI_sub, binI_mul, binI_eql, binI_neq, binI_lss, binI_leq, binI_gtr, binI_geq, binI_and, binI_or, binB_eql, binB_neq, binS_eql, binS_neq, binP_eql_nil, binP_neq_nil, binN_eql_nil, binN_neq_nil, binN_eql_nn, binN_neq_nn, Br_true, Br_false, cells_agg, List.getElem?_toArray, List.getElem?_cons_zero, List.getElem?_cons_succ, Nat.zero_add, Nat.add_zero, Nat.zero_mul]
  have fin : ¬ k < min n 65 → sh27_4 ω a0 (.pointer (some ⟨b1, 0, none⟩)) (.int .i64 0) (.pointer (some ⟨b3, 0, none⟩)) (.pointer (some ⟨b10, 0, none⟩)) (fun v => Gh (K v)) I' ((b3, rdO sv' s'.2) :: (b10, msgO m ev mv dv) :: (X ++ (b1, zO) :: L)) := fun hge => by
    unfold sh27_4 sh27_3
    rw [show min n 65 - k = 0 from by omega] at he
    simp only [entsF, List.append_nil] at he
    rw [← he] at hk
    exact dec_end (m := { m with entries := es }) (s := s') (hI0.trans hI) (hB.mono hI) hE (hM.mono hI) (hD.mono hI) hl hk
  refine gd_split (fun g1 => ?_) (fun g1 => fin (by simp only [ne_eq, decide_eq_true_eq] at g1; omega))
  simp only [decide_eq_true_eq] at g1
  refine br_split (fun g2 => ?_) (fun g2 => fin (by simp only [decide_eq_false_iff_not] at g2; omega))
  simp only [decide_eq_true_eq] at g2
  refine draw (Stay I' [(b10, msgO m ev mv dv)]) ⟨Ext.refl I', by simp⟩ ?_
  refine rdbS ?_
  try simp only [Pv_some, fldV_p, nilV_p, nilV_f, lenV_s, capV_s, lenSV_s, strV_s, unV_not, unV_neg, pickV_t, pickV_f, exV_t, cvIV_i, binI_add, binI_sub, binI_mul, binI_eql, binI_neq, binI_lss, binI_leq, binI_gtr, binI_geq, binI_and, binI_or, binB_eql, binB_neq, binS_eql, binS_neq, binP_eql_nil, binP_neq_nil, binN_eql_nil, binN_neq_nil, binN_eql_nn, binN_neq_nn, Br_true, Br_false, cells_agg, List.getElem?_toArray, List.getElem?_cons_zero, List.getElem?_cons_succ, Nat.zero_add, Nat.add_zero, Nat.zero_mul]
  refine rdbS ?_
  simp only [Pv_some, fldV_p, nilV_p, nilV_f, lenV_s, capV_s, lenSV_s, strV_s, unV_not, unV_neg, pickV_t, pickV_f, exV_t, cvIV_i, binI_add, binI_sub, binI_mul, binI_eql, binI_neq, binI_lss, binI_leq, binI_gtr, binI_geq, binI_and, binI_or, binB_eql, binB_neq, binS_eql, binS_neq, binP_eql_nil, binP_neq_nil, binN_eql_nil, binN_neq_nil, binN_eql_nn, binN_neq_nn, Br_true, Br_false, cells_agg, List.getElem?_toArray, List.getElem?_cons_zero, List.getElem?_cons_succ, Nat.zero_add, Nat.add_zero, Nat.zero_mul, wrap_i64 (m.index + 1) (by omega), wrap_i64 (m.index + 1 + k) (by omega)]
  refine call (dcount_spec hB' (fun sv2 hB2 => ?_))
  refine keepS (Ext.refl I') (by simp) ?_
  refine call (dbyte_spec hB2 (fun sv3 hB3 => ?_))
  refine keepS (Ext.refl I') (by simp) ?_
  have l1 := countF_len s'
  have l2 := byteF_len (countF s').2
  have l3 := countF_len (byteF (countF s').2).2
  have l4 := (textF_len (byteF (countF s').2).2).1
  refine call (dtext_spec hB3 (by omega) (fun tv sv4 I2 hI2 hT hB4 => ?_))
  refine keepS hI2 (by simp) ?_
  obtain ⟨ta, tc, rfl⟩ := hT.form
  simp only [bldE, Pv_some, fldV_p, nilV_p, nilV_f, lenV_s, capV_s, lenSV_s, strV_s, unV_not, unV_neg, pickV_t, pickV_f, exV_t, cvIV_i, binI_add, binI_sub, binI_mul, binI_eql, binI_neq, binI_lss, binI_leq, binI_gtr, binI_geq, binI_and, binI_or, binB_eql, binB_neq, binS_eql, binS_neq, binP_eql_nil, binP_neq_nil, binN_eql_nil, binN_neq_nil, binN_eql_nn, binN_neq_nn, Br_true, Br_false, cells_agg, List.getElem?_toArray, List.getElem?_cons_zero, List.getElem?_cons_succ, Nat.zero_add, Nat.add_zero, Nat.zero_mul]
  refine ent_appS (e := ⟨m.index + 1 + k, (countF s').1, (byteF (countF s').2).1, (textF (byteF (countF s').2).2).1⟩) (X6 := X) (hE.mono hI2) (by omega) hT hI2 (by simp) (fun X1 X6 v6 h6 => ?_)
  try simp only [Pv_some, fldV_p, nilV_p, nilV_f, lenV_s, capV_s, lenSV_s, strV_s, unV_not, unV_neg, pickV_t, pickV_f, exV_t, cvIV_i, binI_add, binI_sub, binI_mul, binI_eql, binI_neq, binI_lss, binI_leq, binI_gtr, binI_geq, binI_and, binI_or, binB_eql, binB_neq, binS_eql, binS_neq, binP_eql_nil, binP_neq_nil, binN_eql_nil, binN_neq_nil, binN_eql_nn, binN_neq_nn, Br_true, Br_false, cells_agg, List.getElem?_toArray, List.getElem?_cons_zero, List.getElem?_cons_succ, Nat.zero_add, Nat.add_zero, Nat.zero_mul]
  have ho : v6.oneCell' = true := by
    obtain ⟨cells, hS, _⟩ := h6
    exact SlO.one1 hS
  refine st1 ho ?_
  simp only [Pv_some, fldV_p, nilV_p, nilV_f, lenV_s, capV_s, lenSV_s, strV_s, unV_not, unV_neg, pickV_t, pickV_f, exV_t, cvIV_i, binI_add, binI_sub, binI_mul, binI_eql, binI_neq, binI_lss, binI_leq, binI_gtr, binI_geq, binI_and, binI_or, binB_eql, binB_neq, binS_eql, binS_neq, binP_eql_nil, binP_neq_nil, binN_eql_nil, binN_neq_nil, binN_eql_nn, binN_neq_nn, Br_true, Br_false, cells_agg, List.getElem?_toArray, List.getElem?_cons_zero, List.getElem?_cons_succ, Nat.zero_add, Nat.add_zero, Nat.zero_mul, wrap_i64 ((k : Int) + 1) (by omega)]
  refine Gh.to ((b3, rdO sv4 (textF (byteF (countF s').2).2).2.2) :: (b10, msgO m v6 mv dv) :: (X6 ++ (b1, zO) :: L)) (Gh.done ⟨⟨hI.trans hI2, k + 1, sv4, v6, (textF (byteF (countF s').2).2).2, X6, _, by simp, by omega, by simp [hel], h6, hB4, by omega, rfl, ?_⟩, by omega⟩)
  exact entsF_step (by omega) he

set_option maxHeartbeats 1000000 in
theorem dec_spec {a0 : Value} {b : List UInt8} (hB : Bytes I a0 b) (hlen : b.length * 8 ≤ 140737488355328) (hk : DecR K b (parse b) I L) : Cal Try.prog ω 27 #[a0] K I L := by
  obtain ⟨aa, ac, ha⟩ := hB.form
  have l1 := byteF_len (b, false)
  have l2 := byteF_len (byteF (b, false)).2
  have l3 := byteF_len (byteF (byteF (b, false)).2).2
  have l4 := byteF_len (byteF (byteF (byteF (b, false)).2).2).2
  have l5 := countF_len (byteF (byteF (byteF (byteF (b, false)).2).2).2).2
  refine cal27 ?_
  unfold sh27
  refine newI (fun b1 => ?_)
  have hbl : bldV #[(Value.slice none 0 0), (Value.bool false)] #[(0, 1), (1, 1)] [(0, a0)] = some (.agg #[a0, .bool false]) := by rw [ha]; exact bldRd ..
  simp only [hbl, Pv_some, fldV_p, nilV_p, nilV_f, lenV_s, capV_s, lenSV_s, strV_s, unV_not, unV_neg, pickV_t, pickV_f, exV_t, cvIV_i, binI_add, binI_sub, binI_mul, binI_eql, binI_neq, binI_lss, binI_leq, binI_gtr, binI_geq, binI_and, binI_or, binB_eql, binB_neq, binS_eql, binS_neq, binP_eql_nil, binP_neq_nil, binN_eql_nil, binN_neq_nil, binN_eql_nn, binN_neq_nn, Br_true, Br_false, cells_agg, List.getElem?_toArray, List.getElem?_cons_zero, List.getElem?_cons_succ, Nat.zero_add, Nat.add_zero, Nat.zero_mul]
  refine newI (fun b3 => ?_)
  refine call (dbyte_spec (s := (b, false)) hB (fun sv1 h1 => ?_))
  refine call (dbyte_spec h1 (fun sv2 h2 => ?_))
  refine call (dbyte_spec h2 (fun sv3 h3 => ?_))
  refine call (dbyte_spec h3 (fun sv4 h4 => ?_))
  refine call (dcount_spec h4 (fun sv5 h5 => ?_))
  simp only [bld5, Pv_some, fldV_p, nilV_p, nilV_f, lenV_s, capV_s, lenSV_s, strV_s, unV_not, unV_neg, pickV_t, pickV_f, exV_t, cvIV_i, binI_add, binI_sub, binI_mul, binI_eql, binI_neq, binI_lss, binI_leq, binI_gtr, binI_geq, binI_and, binI_or, binB_eql, binB_neq, binS_eql, binS_neq, binP_eql_nil, binP_neq_nil, binN_eql_nil, binN_neq_nil, binN_eql_nn, binN_neq_nn, Br_true, Br_false, cells_agg, List.getElem?_toArray, List.getElem?_cons_zero, List.getElem?_cons_succ, Nat.zero_add, Nat.add_zero, Nat.zero_mul]
  refine newI (fun b10 => ?_)
  refine stB rfl rfl (one_all rfl) ?_
  try simp only [Pv_some, fldV_p, nilV_p, nilV_f, lenV_s, capV_s, lenSV_s, strV_s, unV_not, unV_neg, pickV_t, pickV_f, exV_t, cvIV_i, binI_add, binI_sub, binI_mul, binI_eql, binI_neq, binI_lss, binI_leq, binI_gtr, binI_geq, binI_and, binI_or, binB_eql, binB_neq, binS_eql, binS_neq, binP_eql_nil, binP_neq_nil, binN_eql_nil, binN_neq_nil, binN_eql_nn, binN_neq_nn, Br_true, Br_false, cells_agg, List.getElem?_toArray, List.getElem?_cons_zero, List.getElem?_cons_succ, Nat.zero_add, Nat.add_zero, Nat.zero_mul]
  refine rdb ?_
  simp only [Pv_some, fldV_p, nilV_p, nilV_f, lenV_s, capV_s, lenSV_s, strV_s, unV_not, unV_neg, pickV_t, pickV_f, exV_t, cvIV_i, binI_add, binI_sub, binI_mul, binI_eql, binI_neq, binI_lss, binI_leq, binI_gtr, binI_geq, binI_and, binI_or, binB_eql, binB_neq, binS_eql, binS_neq, binP_eql_nil, binP_neq_nil, binN_eql_nil, binN_neq_nil, binN_eql_nn, binN_neq_nn, Br_true, Br_false, cells_agg, List.getElem?_toArray, List.getElem?_cons_zero, List.getElem?_cons_succ, Nat.zero_add, Nat.add_zero, Nat.zero_mul]
  have hp : parse b = parse5 (baseM (byteF (b, false)).1 (byteF (byteF (b, false)).2).1 (byteF (byteF (byteF (b, false)).2).2).1 (byteF (byteF (byteF (byteF (b, false)).2).2).2).1 (countF (byteF (byteF (byteF (byteF (b, false)).2).2).2).2).1) (countF (byteF (byteF (byteF (byteF (b, false)).2).2).2).2).2 := rfl
  rw [hp] at hk
  clear hp
  revert hk h5 l5
  generalize (countF (byteF (byteF (byteF (byteF (b, false)).2).2).2).2).2 = s5
  generalize (countF (byteF (byteF (byteF (byteF (b, false)).2).2).2).2).1 = x4
  generalize (byteF (byteF (byteF (byteF (b, false)).2).2).2).1 = x3
  generalize (byteF (byteF (byteF (b, false)).2).2).1 = x2
  generalize (byteF (byteF (b, false)).2).1 = x1
  generalize (byteF (b, false)).1 = x0
  intro hk l5 h5
  have c1 := countF_len s5
  have c2 := countF_len (countF s5).2
  have c3 := countF_len (countF (countF s5).2).2
  have c4 := countF_len (countF (countF (countF s5).2).2).2
  have mv0 : Ints I (.slice none 0 0) [] := SlI.nil _ _ _ _
  have dv0 : Bytes I (.slice none 0 0) [] := SlI.nil _ _ _ _
  refine br_split (fun k1 => ?_) (fun k1 => ?_)
  · simp only [beq_iff_eq] at k1
    refine call (Cal.perm (List.Perm.swap ..) (dcount_spec h5 (fun sv6 h6 => ?_)))
    refine call (dcount_spec h6 (fun sv7 h7 => ?_))
    try simp only [Pv_some, fldV_p, nilV_p, nilV_f, lenV_s, capV_s, lenSV_s, strV_s, unV_not, unV_neg, pickV_t, pickV_f, exV_t, cvIV_i, binI_add, binI_sub, binI_mul, binI_eql, binI_neq, binI_lss, binI_leq, binI_gtr, binI_geq, binI_and, binI_or, binB_eql, binB_neq, binS_eql, binS_neq, binP_eql_nil, binP_neq_nil, binN_eql_nil, binN_neq_nil, binN_eql_nn, binN_neq_nn, Br_true, Br_false, cells_agg, List.getElem?_toArray, List.getElem?_cons_zero, List.getElem?_cons_succ, Nat.zero_add, Nat.add_zero, Nat.zero_mul]
    refine st1 rfl ?_
    try simp only [Pv_some, fldV_p, nilV_p, nilV_f, lenV_s, capV_s, lenSV_s, strV_s, unV_not, unV_neg, pickV_t, pickV_f, exV_t, cvIV_i, binI_add, binI_sub, binI_mul, binI_eql, binI_neq, binI_lss, binI_leq, binI_gtr, binI_geq, binI_and, binI_or, binB_eql, binB_neq, binS_eql, binS_neq, binP_eql_nil, binP_neq_nil, binN_eql_nil, binN_neq_nil, binN_eql_nn, binN_neq_nn, Br_true, Br_false, cells_agg, List.getElem?_toArray, List.getElem?_cons_zero, List.getElem?_cons_succ, Nat.zero_add, Nat.add_zero, Nat.zero_mul]
    refine st1 rfl ?_
    unfold sh27_3
    rw [show parse5 (baseM x0 x1 x2 x3 x4) s5 = (⟨x0, x1, x2, x3, x4, (countF s5).1, (countF (countF s5).2).1, 0, false, [], [], []⟩, (countF (countF s5).2).2) from by simp [parse5, baseM, k1]] at hk
    exact dec_end (Ext.refl I) hB EntsO.none mv0 dv0 (by simp) hk
  simp only [beq_eq_false_iff_ne] at k1
  refine br_split (fun k2 => ?_) (fun k2 => ?_)
  · simp only [beq_iff_eq] at k2
    refine call (Cal.perm (List.Perm.swap ..) (dbyte_spec h5 (fun sv6 h6 => ?_)))
    try simp only [Pv_some, fldV_p, nilV_p, nilV_f, lenV_s, capV_s, lenSV_s, strV_s, unV_not, unV_neg, pickV_t, pickV_f, exV_t, cvIV_i, binI_add, binI_sub, binI_mul, binI_eql, binI_neq, binI_lss, binI_leq, binI_gtr, binI_geq, binI_and, binI_or, binB_eql, binB_neq, binS_eql, binS_neq, binP_eql_nil, binP_neq_nil, binN_eql_nil, binN_neq_nil, binN_eql_nn, binN_neq_nn, Br_true, Br_false, cells_agg, List.getElem?_toArray, List.getElem?_cons_zero, List.getElem?_cons_succ, Nat.zero_add, Nat.add_zero, Nat.zero_mul]
    refine st1 rfl ?_
    unfold sh27_3
    rw [show parse5 (baseM x0 x1 x2 x3 x4) s5 = (⟨x0, x1, x2, x3, x4, 0, 0, 0, (((byteF s5).1 : Int) == 1), [], [], []⟩, (byteF s5).2) from by simp [parse5, baseM, k2]] at hk
    exact dec_end (Ext.refl I) hB EntsO.none mv0 dv0 (by simp) hk
  simp only [beq_eq_false_iff_ne] at k2
  refine br_split (fun k3 => ?_) (fun k3 => ?_)
  · simp only [beq_iff_eq] at k3
    refine call (Cal.perm (List.Perm.swap ..) (dcount_spec h5 (fun sv6 h6 => ?_)))
    refine call (dcount_spec h6 (fun sv7 h7 => ?_))
    refine call (dcount_spec h7 (fun sv8 h8 => ?_))
    try simp only [Pv_some, fldV_p, nilV_p, nilV_f, lenV_s, capV_s, lenSV_s, strV_s, unV_not, unV_neg, pickV_t, pickV_f, exV_t, cvIV_i, binI_add, binI_sub, binI_mul, binI_eql, binI_neq, binI_lss, binI_leq, binI_gtr, binI_geq, binI_and, binI_or, binB_eql, binB_neq, binS_eql, binS_neq, binP_eql_nil, binP_neq_nil, binN_eql_nil, binN_neq_nil, binN_eql_nn, binN_neq_nn, Br_true, Br_false, cells_agg, List.getElem?_toArray, List.getElem?_cons_zero, List.getElem?_cons_succ, Nat.zero_add, Nat.add_zero, Nat.zero_mul]
    refine st1 rfl ?_
    try simp only [Pv_some, fldV_p, nilV_p, nilV_f, lenV_s, capV_s, lenSV_s, strV_s, unV_not, unV_neg, pickV_t, pickV_f, exV_t, cvIV_i, binI_add, binI_sub, binI_mul, binI_eql, binI_neq, binI_lss, binI_leq, binI_gtr, binI_geq, binI_and, binI_or, binB_eql, binB_neq, binS_eql, binS_neq, binP_eql_nil, binP_neq_nil, binN_eql_nil, binN_neq_nil, binN_eql_nn, binN_neq_nn, Br_true, Br_false, cells_agg, List.getElem?_toArray, List.getElem?_cons_zero, List.getElem?_cons_succ, Nat.zero_add, Nat.add_zero, Nat.zero_mul]
    refine st1 rfl ?_
    try simp only [Pv_some, fldV_p, nilV_p, nilV_f, lenV_s, capV_s, lenSV_s, strV_s, unV_not, unV_neg, pickV_t, pickV_f, exV_t, cvIV_i, binI_add, binI_sub, binI_mul, binI_eql, binI_neq, binI_lss, binI_leq, binI_gtr, binI_geq, binI_and, binI_or, binB_eql, binB_neq, binS_eql, binS_neq, binP_eql_nil, binP_neq_nil, binN_eql_nil, binN_neq_nil, binN_eql_nn, binN_neq_nn, Br_true, Br_false, cells_agg, List.getElem?_toArray, List.getElem?_cons_zero, List.getElem?_cons_succ, Nat.zero_add, Nat.add_zero, Nat.zero_mul]
    refine st1 rfl ?_
    refine call (dcount_spec h8 (fun sv9 h9 => ?_))
    have hi := countF_lt s5
    refine dents (m := ⟨x0, x1, x2, x3, x4, (countF s5).1, (countF (countF s5).2).1, (countF (countF (countF s5).2).2).1, false, [], [], []⟩) (Ext.refl I) hB h9 mv0 dv0 (by simp) (by simp only at *; omega) ⟨by simp, by simp only; omega⟩ (countF_lt _) ?_
    have e : parse5 (baseM x0 x1 x2 x3 x4) s5 = (⟨x0, x1, x2, x3, x4, (countF s5).1, (countF (countF s5).2).1, (countF (countF (countF s5).2).2).1, false, (entsF (min (countF (countF (countF (countF s5).2).2).2).1 65) ((countF s5).1 + 1) (countF (countF (countF (countF s5).2).2).2).2).1, [], []⟩, (entsF (min (countF (countF (countF (countF s5).2).2).2).1 65) ((countF s5).1 + 1) (countF (countF (countF (countF s5).2).2).2).2).2) := by
      unfold parse5
      rw [if_neg (show ¬ (baseM x0 x1 x2 x3 x4).kind = 1 from k1), if_neg (show ¬ (baseM x0 x1 x2 x3 x4).kind = 2 from k2), if_pos (show (baseM x0 x1 x2 x3 x4).kind = 3 from k3)]
      rfl
    rw [e] at hk
    exact hk
  simp only [beq_eq_false_iff_ne] at k3
  refine br_split (fun k4 => ?_) (fun k4 => ?_)
  · simp only [beq_iff_eq] at k4
    refine call (Cal.perm (List.Perm.swap ..) (dbyte_spec h5 (fun sv6 h6 => ?_)))
    try simp only [Pv_some, fldV_p, nilV_p, nilV_f, lenV_s, capV_s, lenSV_s, strV_s, unV_not, unV_neg, pickV_t, pickV_f, exV_t, cvIV_i, binI_add, binI_sub, binI_mul, binI_eql, binI_neq, binI_lss, binI_leq, binI_gtr, binI_geq, binI_and, binI_or, binB_eql, binB_neq, binS_eql, binS_neq, binP_eql_nil, binP_neq_nil, binN_eql_nil, binN_neq_nil, binN_eql_nn, binN_neq_nn, Br_true, Br_false, cells_agg, List.getElem?_toArray, List.getElem?_cons_zero, List.getElem?_cons_succ, Nat.zero_add, Nat.add_zero, Nat.zero_mul]
    refine call (dcount_spec h6 (fun sv7 h7 => ?_))
    try simp only [Pv_some, fldV_p, nilV_p, nilV_f, lenV_s, capV_s, lenSV_s, strV_s, unV_not, unV_neg, pickV_t, pickV_f, exV_t, cvIV_i, binI_add, binI_sub, binI_mul, binI_eql, binI_neq, binI_lss, binI_leq, binI_gtr, binI_geq, binI_and, binI_or, binB_eql, binB_neq, binS_eql, binS_neq, binP_eql_nil, binP_neq_nil, binN_eql_nil, binN_neq_nil, binN_eql_nn, binN_neq_nn, Br_true, Br_false, cells_agg, List.getElem?_toArray, List.getElem?_cons_zero, List.getElem?_cons_succ, Nat.zero_add, Nat.add_zero, Nat.zero_mul]
    refine st1 rfl ?_
    try simp only [Pv_some, fldV_p, nilV_p, nilV_f, lenV_s, capV_s, lenSV_s, strV_s, unV_not, unV_neg, pickV_t, pickV_f, exV_t, cvIV_i, binI_add, binI_sub, binI_mul, binI_eql, binI_neq, binI_lss, binI_leq, binI_gtr, binI_geq, binI_and, binI_or, binB_eql, binB_neq, binS_eql, binS_neq, binP_eql_nil, binP_neq_nil, binN_eql_nil, binN_neq_nil, binN_eql_nn, binN_neq_nn, Br_true, Br_false, cells_agg, List.getElem?_toArray, List.getElem?_cons_zero, List.getElem?_cons_succ, Nat.zero_add, Nat.add_zero, Nat.zero_mul]
    refine st1 rfl ?_
    unfold sh27_3
    rw [show parse5 (baseM x0 x1 x2 x3 x4) s5 = (⟨x0, x1, x2, x3, x4, (countF (byteF s5).2).1, 0, 0, (((byteF s5).1 : Int) == 1), [], [], []⟩, (countF (byteF s5).2).2) from by simp [parse5, baseM, k4]] at hk
    exact dec_end (Ext.refl I) hB EntsO.none mv0 dv0 (by simp) hk
  simp only [beq_eq_false_iff_ne] at k4
  refine br_split (fun k5 => ?_) (fun k5 => ?_)
  · simp only [beq_iff_eq] at k5
    have c5 := textF_len (countF (countF s5).2).2
    have c6 := countF_len (textF (countF (countF s5).2).2).2
    refine call (Cal.perm (List.Perm.swap ..) (dcount_spec h5 (fun sv6 h6 => ?_)))
    refine call (dcount_spec h6 (fun sv7 h7 => ?_))
    refine call (dtext_spec h7 (by simp only at *; omega) (fun tv sv8 I2 hI2 hT h8 => ?_))
    refine call (numbers_spec hT (by simp only at *; omega) (fun nv I3 hI3 hN => ?_))
    refine call (dtext_spec (h8.mono hI3) (by simp only at *; omega) (fun uv sv9 I4 hI4 hU h9 => ?_))
    obtain ⟨_, _, rfl⟩ := hN.form
    obtain ⟨_, _, rfl⟩ := hU.form
    try simp only [Pv_some, fldV_p, nilV_p, nilV_f, lenV_s, capV_s, lenSV_s, strV_s, unV_not, unV_neg, pickV_t, pickV_f, exV_t, cvIV_i, binI_add, binI_sub, binI_mul, binI_eql, binI_neq, binI_lss, binI_leq, binI_gtr, binI_geq, binI_and, binI_or, binB_eql, binB_neq, binS_eql, binS_neq, binP_eql_nil, binP_neq_nil, binN_eql_nil, binN_neq_nil, binN_eql_nn, binN_neq_nn, Br_true, Br_false, cells_agg, List.getElem?_toArray, List.getElem?_cons_zero, List.getElem?_cons_succ, Nat.zero_add, Nat.add_zero, Nat.zero_mul]
    refine st1 rfl ?_
    try simp only [Pv_some, fldV_p, nilV_p, nilV_f, lenV_s, capV_s, lenSV_s, strV_s, unV_not, unV_neg, pickV_t, pickV_f, exV_t, cvIV_i, binI_add, binI_sub, binI_mul, binI_eql, binI_neq, binI_lss, binI_leq, binI_gtr, binI_geq, binI_and, binI_or, binB_eql, binB_neq, binS_eql, binS_neq, binP_eql_nil, binP_neq_nil, binN_eql_nil, binN_neq_nil, binN_eql_nn, binN_neq_nn, Br_true, Br_false, cells_agg, List.getElem?_toArray, List.getElem?_cons_zero, List.getElem?_cons_succ, Nat.zero_add, Nat.add_zero, Nat.zero_mul]
    refine st1 rfl ?_
    try simp only [Pv_some, fldV_p, nilV_p, nilV_f, lenV_s, capV_s, lenSV_s, strV_s, unV_not, unV_neg, pickV_t, pickV_f, exV_t, cvIV_i, binI_add, binI_sub, binI_mul, binI_eql, binI_neq, binI_lss, binI_leq, binI_gtr, binI_geq, binI_and, binI_or, binB_eql, binB_neq, binS_eql, binS_neq, binP_eql_nil, binP_neq_nil, binN_eql_nil, binN_neq_nil, binN_eql_nn, binN_neq_nn, Br_true, Br_false, cells_agg, List.getElem?_toArray, List.getElem?_cons_zero, List.getElem?_cons_succ, Nat.zero_add, Nat.add_zero, Nat.zero_mul]
    refine st1 rfl ?_
    try simp only [Pv_some, fldV_p, nilV_p, nilV_f, lenV_s, capV_s, lenSV_s, strV_s, unV_not, unV_neg, pickV_t, pickV_f, exV_t, cvIV_i, binI_add, binI_sub, binI_mul, binI_eql, binI_neq, binI_lss, binI_leq, binI_gtr, binI_geq, binI_and, binI_or, binB_eql, binB_neq, binS_eql, binS_neq, binP_eql_nil, binP_neq_nil, binN_eql_nil, binN_neq_nil, binN_eql_nn, binN_neq_nn, Br_true, Br_false, cells_agg, List.getElem?_toArray, List.getElem?_cons_zero, List.getElem?_cons_succ, Nat.zero_add, Nat.add_zero, Nat.zero_mul]
    refine st1 rfl ?_
    unfold sh27_3
    rw [show parse5 (baseM x0 x1 x2 x3 x4) s5 = (⟨x0, x1, x2, x3, x4, (countF s5).1, (countF (countF s5).2).1, 0, false, [], nums (textF (countF (countF s5).2).2).1, (textF (textF (countF (countF s5).2).2).2).1⟩, (textF (textF (countF (countF s5).2).2).2).2) from by simp [parse5, baseM, k5]] at hk
    exact dec_end ((hI2.trans hI3).trans hI4) (hB.mono ((hI2.trans hI3).trans hI4)) EntsO.none (hN.mono hI4) hU (by simp only [nums_len] at *; omega) hk
  simp only [beq_eq_false_iff_ne] at k5
  unfold sh27_3
  rw [show parse5 (baseM x0 x1 x2 x3 x4) s5 = (baseM x0 x1 x2 x3 x4, s5) from by simp [parse5, baseM, k1, k2, k3, k4, k5]] at hk
  exact dec_endG (m := baseM x0 x1 x2 x3 x4) (X := []) (Ext.refl I) hB EntsO.none mv0 dv0 (by simp [baseM]) (by simp [baseM]) (List.Perm.swap ..) hk

end
end Go.Proofs.Ytfeonffmeajpgaa
