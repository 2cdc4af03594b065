import Derived.Test.YtfeonffmeajpgaaD10
set_option linter.unusedSimpArgs false
set_option linter.unusedVariables false
namespace Go.Proofs.Ytfeonffmeajpgaa
open Go.SL
set_option maxRecDepth 10000

section
variable {ω : Om} {I : Imm} {L : LH} {K : Value → M}

theorem textG_len (s : RS) : (textG s).1.length ≤ (varG s).2.1.length := by
  unfold textG
  split <;> simp [List.length_take] <;> omega

theorem byteG_len (s : RS) : (byteG s).2.1.length ≤ s.1.length := by
  unfold byteG; split
  · exact Nat.le_refl _
  · split <;> simp_all
theorem vrG_len : ∀ (f k sc acc : Nat) (s : RS), (vrG f k sc acc s).2.1.length ≤ s.1.length
  | 0, _, _, _, _ => Nat.le_refl _
  | f + 1, k, sc, acc, s => by
    simp only [vrG]
    split
    · exact byteG_len s
    · exact Nat.le_trans (vrG_len f _ _ _ _) (byteG_len s)
theorem varG_len (s : RS) : (varG s).2.1.length ≤ s.1.length := vrG_len ..

theorem emems {b1 b3 b10 i : Nat} {a0 bv lv : Value} {b bs l : List UInt8} {bad : Bool} {m : RM} {I0 : Imm} (hI0 : Ext I0 I) (hB : Bytes I a0 b) (hbv : Bytes I bv bs) (hi' : i ≤ bs.length) (hl : Bytes I lv l) (hll : l.length * 8 ≤ 140737488355328)
    (hlen : bs.length ≤ 140737488355328) (hme : m.entries = [])
    (hk : DecR K b ({ m with members := nums l, data := (textG (bs.drop i, bad)).1 }, (textG (bs.drop i, bad)).2) I0 L) :
    LoopM ((.int .i64 0, ()) : Value × Unit) (fun st Kn0 => sh28_8 ω a0 (.pointer (some ⟨b1, 0, none⟩)) (.int .i64 0) (.pointer (some ⟨b3, 0, none⟩)) (.pointer (some ⟨b10, 0, none⟩)) lv st.1 Kn0 (fun v => Gh (K v))) I
      ((b3, erO bv i bad) :: (b10, msgO m (.slice none 0 0) (.slice none 0 0) (.slice none 0 0)) :: (b1, zO) :: L) := by
  have hln := Bytes.len hl
  refine loop (fun st I' L' => I' = I ∧ ∃ (k : Nat) (w : Value) (X6 : LH), st = (.int .i64 k, ()) ∧ k ≤ l.length ∧ SlO 3 1 X6 w (i64s (nums (l.take k))) (nums (l.take k)).length ∧
      L' = (b3, erO bv i bad) :: (b10, msgO m (.slice none 0 0) w (.slice none 0 0)) :: (X6 ++ (b1, zO) :: L))
    (fun s _ _ => match s with | (.int _ k, _) => ((l.length : Int) - k).toNat | _ => 0) ⟨rfl, 0, _, [], rfl, by omega, SlO.none 3 1, rfl⟩ ?_
  rintro st I' L' ⟨rfl, k, w, X6, rfl, hk1, h6, rfl⟩
  simp only
  unfold sh28_8
  simp only [hln, Pv_some, fldV_p, nilV_p, nilV_f, lenV_s, capV_s, lenSV_s, strV_s, unV_not, unV_neg, pickV_t, pickV_f, exV_t, cvIV_i, binI_add, binI_sub, binI_mul, binI_eql, binI_neq, binI_lss, binI_leq, binI_gtr, binI_geq, binI_and, binI_or, binB_eql, binB_neq, binS_eql, binS_neq, binP_eql_nil, binP_neq_nil, binN_eql_nil, binN_neq_nil, binN_eql_nn, binN_neq_nn, Br_true, Br_false, cells_agg, List.getElem?_toArray, List.getElem?_cons_zero, List.getElem?_cons_succ, Nat.zero_add, Nat.add_zero, Nat.zero_mul]
  by_cases hlt : k < l.length
  · have h1 : ((k : Int) < l.length) := by omega
    simp only [h1, decide_true, Br_true]
    refine draw (Stay I' [(b10, msgO m (.slice none 0 0) w (.slice none 0 0))]) ⟨Ext.refl I', by simp⟩ ?_
    refine rdbS ?_
    obtain ⟨bb, off, hix, hc⟩ := Bytes.at hl hlt
    simp only [hix, Pv_some, fldV_p, nilV_p, nilV_f, lenV_s, capV_s, lenSV_s, strV_s, unV_not, unV_neg, pickV_t, pickV_f, exV_t, cvIV_i, binI_add, binI_sub, binI_mul, binI_eql, binI_neq, binI_lss, binI_leq, binI_gtr, binI_geq, binI_and, binI_or, binB_eql, binB_neq, binS_eql, binS_neq, binP_eql_nil, binP_neq_nil, binN_eql_nil, binN_neq_nil, binN_eql_nn, binN_neq_nn, Br_true, Br_false, cells_agg, List.getElem?_toArray, List.getElem?_cons_zero, List.getElem?_cons_succ, Nat.zero_add, Nat.add_zero, Nat.zero_mul]
    refine rd1I (hc I' _ (Ext.refl I')) ?_
    have hu := (l[k]).toNat_lt
    simp only [Pv_some, fldV_p, nilV_p, nilV_f, lenV_s, capV_s, lenSV_s, strV_s, unV_not, unV_neg, pickV_t, pickV_f, exV_t, cvIV_i, binI_add, binI_sub, binI_mul, binI_eql, binI_neq, binI_lss, binI_leq, binI_gtr, binI_geq, binI_and, binI_or, binB_eql, binB_neq, binS_eql, binS_neq, binP_eql_nil, binP_neq_nil, binN_eql_nil, binN_neq_nil, binN_eql_nn, binN_neq_nn, Br_true, Br_false, cells_agg, List.getElem?_toArray, List.getElem?_cons_zero, List.getElem?_cons_succ, Nat.zero_add, Nat.add_zero, Nat.zero_mul, wrap_i64 (((l[k]).toNat : Nat) : Int) (by omega)]
    have hln2 := nums_len (l.take k)
    rw [List.length_take] at hln2
    refine bld_one rfl (by omega) rfl (fun X1 u hX1 => ?_)
    refine keepS (Ext.refl I') (by simp) ?_
    refine app_own (X := X6) rfl h6 (hX1.news (fun x hx => List.mem_append_left _ hx)) (by simp [Value.cells, Value.oneCell']) (by omega) (by omega) (fun X' v' hX' => ?_)
    have h6' : SlO 3 1 X' v' (i64s (nums (l.take (k + 1)))) (nums (l.take (k + 1))).length := by
      rw [nums_snoc hlt]
      simpa [Value.cells, i64s] using hX'
    try simp only [Pv_some, fldV_p, nilV_p, nilV_f, lenV_s, capV_s, lenSV_s, strV_s, unV_not, unV_neg, pickV_t, pickV_f, exV_t, cvIV_i, binI_add, binI_sub, binI_mul, binI_eql, binI_neq, binI_lss, binI_leq, binI_gtr, binI_geq, binI_and, binI_or, binB_eql, binB_neq, binS_eql, binS_neq, binP_eql_nil, binP_neq_nil, binN_eql_nil, binN_neq_nil, binN_eql_nn, binN_neq_nn, Br_true, Br_false, cells_agg, List.getElem?_toArray, List.getElem?_cons_zero, List.getElem?_cons_succ, Nat.zero_add, Nat.add_zero, Nat.zero_mul]
    refine st1 (SlO.one1 h6') ?_
    simp only [Pv_some, fldV_p, nilV_p, nilV_f, lenV_s, capV_s, lenSV_s, strV_s, unV_not, unV_neg, pickV_t, pickV_f, exV_t, cvIV_i, binI_add, binI_sub, binI_mul, binI_eql, binI_neq, binI_lss, binI_leq, binI_gtr, binI_geq, binI_and, binI_or, binB_eql, binB_neq, binS_eql, binS_neq, binP_eql_nil, binP_neq_nil, binN_eql_nil, binN_neq_nil, binN_eql_nn, binN_neq_nn, Br_true, Br_false, cells_agg, List.getElem?_toArray, List.getElem?_cons_zero, List.getElem?_cons_succ, Nat.zero_add, Nat.add_zero, Nat.zero_mul, wrap_i64 ((k : Int) + 1) (by omega)]
    refine Gh.to ((b3, erO bv i bad) :: (b10, msgO m (.slice none 0 0) v' (.slice none 0 0)) :: (X' ++ (b1, zO) :: L)) (Gh.done ⟨⟨rfl, k + 1, v', X', by simp, by omega, h6', rfl⟩, ?_⟩)
    omega
  · have h1 : ¬ ((k : Int) < l.length) := by omega
    simp only [h1, decide_false, Br_false]
    unfold sh28_7 sh28_6
    rw [List.take_of_length_le (by omega)] at h6
    have hp : ((b3, erO bv i bad) :: (b10, msgO m (.slice none 0 0) w (.slice none 0 0)) :: (X6 ++ (b1, zO) :: L)).Perm (X6 ++ ((b3, erO bv i bad) :: (b10, msgO m (.slice none 0 0) w (.slice none 0 0)) :: (b1, zO) :: L)) :=
      (List.Perm.cons _ (List.perm_middle (l₁ := X6)).symm).trans (List.perm_middle (l₁ := X6)).symm
    refine call (cal_pre (Gh.perm hp (SlO.freeze h6 (fun I1 hI1 hS1 => Gh.done ?_))))
    refine etext_spec (hbv.mono hI1) hi' hlen (fun tv I2 j2 hI2 hj2 hd2 hT => ?_)
    try simp only [Pv_some, fldV_p, nilV_p, nilV_f, lenV_s, capV_s, lenSV_s, strV_s, unV_not, unV_neg, pickV_t, pickV_f, exV_t, cvIV_i, binI_add, binI_sub, binI_mul, binI_eql, binI_neq, binI_lss, binI_leq, binI_gtr, binI_geq, binI_and, binI_or, binB_eql, binB_neq, binS_eql, binS_neq, binP_eql_nil, binP_neq_nil, binN_eql_nil, binN_neq_nil, binN_eql_nn, binN_neq_nn, Br_true, Br_false, cells_agg, List.getElem?_toArray, List.getElem?_cons_zero, List.getElem?_cons_succ, Nat.zero_add, Nat.add_zero, Nat.zero_mul]
    refine st1 (Bytes.one1 hT) ?_
    unfold sh28_3
    have hk2 : DecR K b ({ m with members := nums l, data := (textG (bs.drop i, bad)).1 }, (bs.drop j2, (textG (bs.drop i, bad)).2.2)) I0 L := by
      rw [hd2]; exact hk
    refine edec_endG (m := { m with members := nums l, data := (textG (bs.drop i, bad)).1 }) (s := (bs.drop j2, (textG (bs.drop i, bad)).2.2)) (bv := bv) (i := j2) (X := []) ((hI0.trans hI1).trans hI2) (hB.mono (hI1.trans hI2)) ?_ (SlI.mono hS1 hI2) hT (by simp [nums_len]; omega) (List.mem_cons_self ..) (List.mem_cons_of_mem _ (List.mem_cons_self ..)) (List.Perm.refl _) hk2
    simp only [hme]
    exact EntsO.none

end
end Go.Proofs.Ytfeonffmeajpgaa
