import Derived.Test.YtfeonffmeajpgaaD9
set_option linter.unusedSimpArgs false
set_option linter.unusedVariables false
namespace Go.Proofs.Ytfeonffmeajpgaa
open Go.SL
set_option maxRecDepth 10000

section
variable {ω : Om} {I : Imm} {L : LH} {K : Value → M}

theorem entsG_step {es : List LE} {N k : Nat} {i : Int} {s : RS} {R : List LE × RS} (hk : k < N) (hs : s.2 = false) (he : (es ++ (entsG (N - k) (i + k) s).1, (entsG (N - k) (i + k) s).2) = R) :
    ((es ++ [⟨i + k, (varG s).1, (byteG (varG s).2).1, (textG (byteG (varG s).2).2).1⟩]) ++ (entsG (N - (k + 1)) (i + ((k + 1 : Nat) : Int)) (textG (byteG (varG s).2).2).2).1, (entsG (N - (k + 1)) (i + ((k + 1 : Nat) : Int)) (textG (byteG (varG s).2).2).2).2) = R := by
  rw [← he, show N - k = (N - (k + 1)) + 1 from by omega]
  simp only [entsG, hs, Bool.false_eq_true, if_false, List.append_assoc, List.singleton_append]
  rw [show i + (k : Int) + 1 = i + ((k + 1 : Nat) : Int) from by omega]
theorem entsG_bad (f : Nat) (i : Int) (s : RS) (hs : s.2 = true) : entsG f i s = ([], s) := by
  cases f with
  | zero => rfl
  | succ f => simp [entsG, hs]
theorem bldE1 (a : Int) : bldV #[(Value.int .i64 0), (Value.int .i64 0), (Value.int .i64 0), (Value.slice none 0 0)] #[(0, 1), (1, 1), (2, 1), (3, 1)] [(0, .int .i64 a)] = some (.agg #[.int .i64 a, .int .i64 0, .int .i64 0, .slice none 0 0]) := by rfl

theorem eents {b1 b3 b10 n i : Nat} {a0 bv mv dv : Value} {b bs : List UInt8} {bad : Bool} {m : RM} {I0 : Imm} (hI0 : Ext I0 I) (hB : Bytes I a0 b) (hbv : Bytes I bv bs) (hi' : i ≤ bs.length) (hM : Ints I mv m.members) (hD : Bytes I dv m.data) (hl : m.members.length < 4611686018427387904)
    (hlen : bs.length ≤ 140737488355328) (hi : 0 ≤ m.index ∧ m.index < 72057594037927936) (hn : n < 72057594037927936)
    (hk : DecR K b ({ m with entries := (entsG (min n 65) (m.index + 1) (bs.drop i, bad)).1 }, (entsG (min n 65) (m.index + 1) (bs.drop i, bad)).2) I0 L) :
    LoopM ((.int .i64 0, ()) : Value × Unit) (fun st Kn0 => sh28_5 ω a0 (.pointer (some ⟨b1, 0, none⟩)) (.int .i64 0) (.pointer (some ⟨b3, 0, none⟩)) (.pointer (some ⟨b10, 0, none⟩)) (.int .i64 n) st.1 Kn0 (fun v => Gh (K v))) I
      ((b3, erO bv i bad) :: (b10, msgO m (.slice none 0 0) mv dv) :: (b1, zO) :: L) := by
  refine loop (fun st I' L' => Ext I I' ∧ ∃ (k j : Nat) (ev : Value) (bad' : Bool) (X : LH) (es : List LE), st = (.int .i64 k, ()) ∧ k ≤ min n 65 ∧ es.length = k ∧ EntsO I' X ev es ∧ j ≤ bs.length ∧
      L' = (b3, erO bv j bad') :: (b10, msgO m ev mv dv) :: (X ++ (b1, zO) :: L) ∧ (es ++ (entsG (min n 65 - k) (m.index + 1 + k) (bs.drop j, bad')).1, (entsG (min n 65 - k) (m.index + 1 + k) (bs.drop j, bad')).2) = entsG (min n 65) (m.index + 1) (bs.drop i, bad))
    (fun s _ _ => match s with | (.int _ k, _) => ((100 : Int) - k).toNat | _ => 0) ⟨Ext.refl I, 0, i, _, bad, [], [], rfl, by omega, rfl, EntsO.none, hi', rfl, by simp⟩ ?_
  rintro st I' L' ⟨hI, k, j, ev, bad', X, es, rfl, hk1, hel, hE, hj, rfl, he⟩
  simp only
  (first | (with_reducible refine unfE (sh28_2.eq_1 ..) ?_) | (with_reducible refine unfE (sh28_1.eq_1 ..) ?_) | (with_reducible refine unfE (sh28_3.eq_1 ..) ?_) | (with_reducible refine unfE (sh28_4.eq_1 ..) ?_) | (with_reducible refine unfE (sh28_5.eq_1 ..) ?_) | (with_reducible refine unfE (sh28_6.eq_1 ..) ?_) | (with_reducible refine unfE (sh28_7.eq_1 ..) ?_) | (with_reducible refine unfE (sh28_8.eq_1 ..) ?_) | (with_reducible refine unfE (sh28.eq_1 ..) ?_))
  simp only [Pv_some, fldV_p, nilV_p, nilV_f, lenV_s, capV_s, lenSV_s, strV_s, unV_not, unV_neg, pickV_t, pickV_f, exV_t, cvIV_i, binI_add, binI_sub, binI_mul, binI_eql, binI_neq, binI_lss, binI_leq, binI_gtr, binI_geq, binI_and, binI_or, binB_eql, binB_neq, binS_eql, binS_neq, binP_eql_nil, binP_neq_nil, binN_eql_nil, binN_neq_nil, binN_eql_nn, binN_neq_nn, Br_true, Br_false, cells_agg, List.getElem?_toArray, List.getElem?_cons_zero, List.getElem?_cons_succ, Nat.zero_add, Nat.add_zero, Nat.zero_mul]
  have fin : (¬ k < min n 65 ∨ bad' = true) → sh28_4 ω a0 (.pointer (some ⟨b1, 0, none⟩)) (.int .i64 0) (.pointer (some ⟨b3, 0, none⟩)) (.pointer (some ⟨b10, 0, none⟩)) (fun v => Gh (K v)) I' ((b3, erO bv j bad') :: (b10, msgO m ev mv dv) :: (X ++ (b1, zO) :: L)) := fun hge => by
    unfold sh28_4 sh28_3
    have he2 : (es, ((bs.drop j, bad') : RS)) = entsG (min n 65) (m.index + 1) (bs.drop i, bad) := by
      rw [← he]
      rcases hge with hge | hge
      · rw [show min n 65 - k = 0 from by omega]
        simp [entsG]
      · rw [entsG_bad _ _ _ hge]
        simp
    rw [← he2] at hk
    refine edec_endG (m := { m with entries := es }) (s := (bs.drop j, bad')) (bv := bv) (i := j) (X := X) (hI0.trans hI) (hB.mono hI) hE (hM.mono hI) (hD.mono hI) hl (List.mem_cons_self ..) (List.mem_cons_of_mem _ (List.mem_cons_self ..)) ?_ hk
    exact (List.Perm.cons _ (List.perm_middle (l₁ := X)).symm).trans (List.perm_middle (l₁ := X)).symm
  refine gd_split (fun g1 => ?_) (fun g1 => fin (.inl (by simp only [ne_eq, decide_eq_true_eq] at g1; omega)))
  simp only [decide_eq_true_eq] at g1
  refine gd_split (fun g2 => ?_) (fun g2 => fin (.inl (by simp only [ne_eq, decide_eq_true_eq] at g2; omega)))
  simp only [decide_eq_true_eq] at g2
  refine rdb ?_
  try simp only [Pv_some, fldV_p, nilV_p, nilV_f, lenV_s, capV_s, lenSV_s, strV_s, unV_not, unV_neg, pickV_t, pickV_f, exV_t, cvIV_i, binI_add, binI_sub, binI_mul, binI_eql, binI_neq, binI_lss, binI_leq, binI_gtr, binI_geq, binI_and, binI_or, binB_eql, binB_neq, binS_eql, binS_neq, binP_eql_nil, binP_neq_nil, binN_eql_nil, binN_neq_nil, binN_eql_nn, binN_neq_nn, Br_true, Br_false, cells_agg, List.getElem?_toArray, List.getElem?_cons_zero, List.getElem?_cons_succ, Nat.zero_add, Nat.add_zero, Nat.zero_mul]
  refine br_split (fun g3 => ?_) (fun g3 => fin (.inr (by simpa using g3)))
  simp only [Bool.not_eq_eq_eq_not, Bool.not_true] at g3
  subst g3
  refine rdb ?_
  simp only [bldE1, Pv_some, fldV_p, nilV_p, nilV_f, lenV_s, capV_s, lenSV_s, strV_s, unV_not, unV_neg, pickV_t, pickV_f, exV_t, cvIV_i, binI_add, binI_sub, binI_mul, binI_eql, binI_neq, binI_lss, binI_leq, binI_gtr, binI_geq, binI_and, binI_or, binB_eql, binB_neq, binS_eql, binS_neq, binP_eql_nil, binP_neq_nil, binN_eql_nil, binN_neq_nil, binN_eql_nn, binN_neq_nn, Br_true, Br_false, cells_agg, List.getElem?_toArray, List.getElem?_cons_zero, List.getElem?_cons_succ, Nat.zero_add, Nat.add_zero, Nat.zero_mul, wrap_i64 (m.index + 1) (by omega), wrap_i64 (m.index + 1 + k) (by omega)]
  refine newI (fun b63 => ?_)
  refine stB rfl rfl (one_all rfl) ?_
  refine call (Cal.perm (List.Perm.swap ..) (evar_spec (hbv.mono hI) hj (by omega) (fun j2 hj2 hd2 => ?_)))
  try simp only [Pv_some, fldV_p, nilV_p, nilV_f, lenV_s, capV_s, lenSV_s, strV_s, unV_not, unV_neg, pickV_t, pickV_f, exV_t, cvIV_i, binI_add, binI_sub, binI_mul, binI_eql, binI_neq, binI_lss, binI_leq, binI_gtr, binI_geq, binI_and, binI_or, binB_eql, binB_neq, binS_eql, binS_neq, binP_eql_nil, binP_neq_nil, binN_eql_nil, binN_neq_nil, binN_eql_nn, binN_neq_nn, Br_true, Br_false, cells_agg, List.getElem?_toArray, List.getElem?_cons_zero, List.getElem?_cons_succ, Nat.zero_add, Nat.add_zero, Nat.zero_mul]
  refine st1 rfl ?_
  refine call (ebyte_spec (hbv.mono hI) hj2 (by omega) (fun j3 hj3 hd3 => ?_))
  try simp only [Pv_some, fldV_p, nilV_p, nilV_f, lenV_s, capV_s, lenSV_s, strV_s, unV_not, unV_neg, pickV_t, pickV_f, exV_t, cvIV_i, binI_add, binI_sub, binI_mul, binI_eql, binI_neq, binI_lss, binI_leq, binI_gtr, binI_geq, binI_and, binI_or, binB_eql, binB_neq, binS_eql, binS_neq, binP_eql_nil, binP_neq_nil, binN_eql_nil, binN_neq_nil, binN_eql_nn, binN_neq_nn, Br_true, Br_false, cells_agg, List.getElem?_toArray, List.getElem?_cons_zero, List.getElem?_cons_succ, Nat.zero_add, Nat.add_zero, Nat.zero_mul]
  refine st1 rfl ?_
  refine call (etext_spec (hbv.mono hI) hj3 hlen (fun tv I2 j4 hI2 hj4 hd4 hT => ?_))
  try simp only [Pv_some, fldV_p, nilV_p, nilV_f, lenV_s, capV_s, lenSV_s, strV_s, unV_not, unV_neg, pickV_t, pickV_f, exV_t, cvIV_i, binI_add, binI_sub, binI_mul, binI_eql, binI_neq, binI_lss, binI_leq, binI_gtr, binI_geq, binI_and, binI_or, binB_eql, binB_neq, binS_eql, binS_neq, binP_eql_nil, binP_neq_nil, binN_eql_nil, binN_neq_nil, binN_eql_nn, binN_neq_nn, Br_true, Br_false, cells_agg, List.getElem?_toArray, List.getElem?_cons_zero, List.getElem?_cons_succ, Nat.zero_add, Nat.add_zero, Nat.zero_mul]
  refine st1 (Bytes.one1 hT) ?_
  try simp only [Pv_some, fldV_p, nilV_p, nilV_f, lenV_s, capV_s, lenSV_s, strV_s, unV_not, unV_neg, pickV_t, pickV_f, exV_t, cvIV_i, binI_add, binI_sub, binI_mul, binI_eql, binI_neq, binI_lss, binI_leq, binI_gtr, binI_geq, binI_and, binI_or, binB_eql, binB_neq, binS_eql, binS_neq, binP_eql_nil, binP_neq_nil, binN_eql_nil, binN_neq_nil, binN_eql_nn, binN_neq_nn, Br_true, Br_false, cells_agg, List.getElem?_toArray, List.getElem?_cons_zero, List.getElem?_cons_succ, Nat.zero_add, Nat.add_zero, Nat.zero_mul]
  refine rdb ?_
  refine rdB rfl ?_
  rw [hd2] at hd3 hd4 hT ⊢
  rw [hd3] at hd4 hT ⊢
  refine ent_app (e := ⟨m.index + 1 + k, (varG (bs.drop j, false)).1, (byteG (varG (bs.drop j, false)).2).1, (textG (byteG (varG (bs.drop j, false)).2).2).1⟩) (X6 := X) (hE.mono hI2) (by omega) hT (fun X1 X6 v6 h6 => ?_)
  try simp only [Pv_some, fldV_p, nilV_p, nilV_f, lenV_s, capV_s, lenSV_s, strV_s, unV_not, unV_neg, pickV_t, pickV_f, exV_t, cvIV_i, binI_add, binI_sub, binI_mul, binI_eql, binI_neq, binI_lss, binI_leq, binI_gtr, binI_geq, binI_and, binI_or, binB_eql, binB_neq, binS_eql, binS_neq, binP_eql_nil, binP_neq_nil, binN_eql_nil, binN_neq_nil, binN_eql_nn, binN_neq_nn, Br_true, Br_false, cells_agg, List.getElem?_toArray, List.getElem?_cons_zero, List.getElem?_cons_succ, Nat.zero_add, Nat.add_zero, Nat.zero_mul]
  have ho : v6.oneCell' = true := by
    obtain ⟨cells, hS, _⟩ := h6
    exact SlO.one1 hS
  refine st1 ho ?_
  simp only [Pv_some, fldV_p, nilV_p, nilV_f, lenV_s, capV_s, lenSV_s, strV_s, unV_not, unV_neg, pickV_t, pickV_f, exV_t, cvIV_i, binI_add, binI_sub, binI_mul, binI_eql, binI_neq, binI_lss, binI_leq, binI_gtr, binI_geq, binI_and, binI_or, binB_eql, binB_neq, binS_eql, binS_neq, binP_eql_nil, binP_neq_nil, binN_eql_nil, binN_neq_nil, binN_eql_nn, binN_neq_nn, Br_true, Br_false, cells_agg, List.getElem?_toArray, List.getElem?_cons_zero, List.getElem?_cons_succ, Nat.zero_add, Nat.add_zero, Nat.zero_mul, wrap_i64 ((k : Int) + 1) (by omega)]
  refine Gh.to ((b3, erO bv j4 (textG (byteG (varG (bs.drop j, false)).2).2).2.2) :: (b10, msgO m v6 mv dv) :: (X6 ++ (b1, zO) :: L)) (Gh.done ⟨⟨hI.trans hI2, k + 1, j4, v6, _, X6, _, by simp, by omega, by simp [hel], h6, hj4, rfl, ?_⟩, by omega⟩)
  rw [hd4]
  exact entsG_step (by omega) rfl he

end
end Go.Proofs.Ytfeonffmeajpgaa
