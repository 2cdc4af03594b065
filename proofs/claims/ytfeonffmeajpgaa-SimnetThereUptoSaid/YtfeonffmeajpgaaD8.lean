import Derived.Test.YtfeonffmeajpgaaD7
set_option linter.unusedSimpArgs false
set_option linter.unusedVariables false
namespace Go.Proofs.Ytfeonffmeajpgaa
open Go.SL
set_option maxRecDepth 10000

section
variable {ω : Om} {I : Imm} {L : LH} {K : Value → M}

/-! ### The reference's Decode, plainly -/
def entsG : Nat → Int → RS → List LE × RS
  | 0, _, s => ([], s)
  | f + 1, i, s => if s.2 then ([], s) else (⟨i, (varG s).1, (byteG (varG s).2).1, (textG (byteG (varG s).2).2).1⟩ :: (entsG f (i + 1) (textG (byteG (varG s).2).2).2).1, (entsG f (i + 1) (textG (byteG (varG s).2).2).2).2)
def parseG5 (B : RM) (s : RS) : RM × RS :=
  if B.kind = 1 then ({ B with index := (varG s).1, logTerm := (varG (varG s).2).1 }, (varG (varG s).2).2)
  else if B.kind = 2 then ({ B with ok := (((byteG s).1 : Int) == 1) }, (byteG s).2)
  else if B.kind = 3 then
    ({ B with index := (varG s).1, logTerm := (varG (varG s).2).1, commit := (varG (varG (varG s).2).2).1, entries := (entsG (min (varG (varG (varG (varG s).2).2).2).1 65) ((varG s).1 + 1) (varG (varG (varG (varG s).2).2).2).2).1 },
      (entsG (min (varG (varG (varG (varG s).2).2).2).1 65) ((varG s).1 + 1) (varG (varG (varG (varG s).2).2).2).2).2)
  else if B.kind = 4 then ({ B with ok := (((byteG s).1 : Int) == 1), index := (varG (byteG s).2).1 }, (varG (byteG s).2).2)
  else if B.kind = 5 then
    ({ B with index := (varG s).1, logTerm := (varG (varG s).2).1, members := nums (textG (varG (varG s).2).2).1, data := (textG (textG (varG (varG s).2).2).2).1 }, (textG (textG (varG (varG s).2).2).2).2)
  else (B, s)
def parseG (b : List UInt8) : RM × RS :=
  let s1 := byteG (b, false)
  let s2 := byteG s1.2
  let s3 := byteG s2.2
  let s4 := byteG s3.2
  let s5 := varG s4.2
  parseG5 (baseM s1.1 s2.1 s3.1 s4.1 s5.1) s5.2

/-- the last lines of the reference's Decode -/
theorem edec_endG {b1 b3 b10 i : Nat} {X Lx : LH} {a0 bv ev mv dv : Value} {b : List UInt8} {m : RM} {s : RS} {I0 : Imm} (hI0 : Ext I0 I) (hB : Bytes I a0 b) (hE0 : EntsO I X ev m.entries) (hM : Ints I mv m.members) (hD : Bytes I dv m.data) (hl : m.members.length < 4611686018427387904)
    (hmem3 : (b3, erO bv i s.2) ∈ Lx) (hmem : (b10, msgO m ev mv dv) ∈ Lx) (hperm : Lx.Perm (X ++ ((b3, erO bv i s.2) :: (b10, msgO m ev mv dv) :: (b1, zO) :: L))) (hk : DecR K b (m, s) I0 L) :
    sh28_1 ω a0 (.pointer (some ⟨b1, 0, none⟩)) (.int .i64 0) (.pointer (some ⟨b3, 0, none⟩)) (.pointer (some ⟨b10, 0, none⟩)) (fun v => Gh (K v)) I Lx := by
  have hone : ∀ u ∈ [Value.int .i64 m.kind, .int .i64 m.group, .int .i64 m.frm, .int .i64 m.to, .int .i64 m.term, .int .i64 m.index, .int .i64 m.logTerm, .int .i64 m.commit, .bool m.ok, ev, mv, dv], u.oneCell' = true := by
    obtain ⟨q1, q2, r1⟩ := hD.form
    obtain ⟨p1, p2, r2⟩ := hM.form
    obtain ⟨cells, hS, _⟩ := hE0
    obtain ⟨o1, o2, r3⟩ := hS.form
    subst r1 r2 r3
    exact one_all rfl
  haveI : InL b10 Lx (msgO m ev mv dv) := ⟨hmem⟩
  haveI : InL b3 Lx (erO bv i s.2) := ⟨hmem3⟩
  unfold sh28_1
  simp only [Pv_some, fldV_p, nilV_p, nilV_f, lenV_s, capV_s, lenSV_s, strV_s, unV_not, unV_neg, pickV_t, pickV_f, exV_t, cvIV_i, binI_add, binI_sub, binI_mul, binI_eql, binI_neq, binI_lss, binI_leq, binI_gtr, binI_geq, binI_and, binI_or, binB_eql, binB_neq, binS_eql, binS_neq, binP_eql_nil, binP_neq_nil, binN_eql_nil, binN_neq_nil, binN_eql_nn, binN_neq_nn, Br_true, Br_false, cells_agg, List.getElem?_toArray, List.getElem?_cons_zero, List.getElem?_cons_succ, Nat.zero_add, Nat.add_zero, Nat.zero_mul]
  refine rdb ?_
  refine br_split (fun g => ?_) (fun g => ?_)
  · have hm1 : (b1, zO) ∈ Lx := hperm.mem_iff.2 (by simp)
    obtain ⟨L1, L2, rfl⟩ := List.append_of_mem hm1
    have hp : (L1 ++ L2).Perm (X ++ ((b3, erO bv i s.2) :: (b10, msgO m ev mv dv) :: L)) := by
      have e1 : (L1 ++ (b1, zO) :: L2).Perm ((b1, zO) :: (L1 ++ L2)) := List.perm_middle
      have e2 : (X ++ ((b3, erO bv i s.2) :: (b10, msgO m ev mv dv) :: (b1, zO) :: L)).Perm ((b1, zO) :: (X ++ ((b3, erO bv i s.2) :: (b10, msgO m ev mv dv) :: L))) := by
        have := List.perm_middle (a := (b1, zO)) (l₁ := X ++ [(b3, erO bv i s.2), (b10, msgO m ev mv dv)]) (l₂ := L)
        simpa using this
      exact (List.perm_cons _).1 (e1.symm.trans (hperm.trans e2))
    simp only [bldZ, Pv_some, fldV_p, nilV_p, nilV_f, lenV_s, capV_s, lenSV_s, strV_s, unV_not, unV_neg, pickV_t, pickV_f, exV_t, cvIV_i, binI_add, binI_sub, binI_mul, binI_eql, binI_neq, binI_lss, binI_leq, binI_gtr, binI_geq, binI_and, binI_or, binB_eql, binB_neq, binS_eql, binS_neq, binP_eql_nil, binP_neq_nil, binN_eql_nil, binN_neq_nil, binN_eql_nn, binN_neq_nn, Br_true, Br_false, cells_agg, List.getElem?_toArray, List.getElem?_cons_zero, List.getElem?_cons_succ, Nat.zero_add, Nat.add_zero, Nat.zero_mul]
    refine stB rfl rfl (one_all rfl) ?_
    refine rdB rfl ?_
    refine Gh.perm (List.perm_middle.trans (List.Perm.cons _ hp)) (Gh.drop (L' := L) ?_ (Gh.done (hk.2 (by simp [g]) _ I hI0 zeroM_v)))
    exact List.Sublist.cons _ (List.Sublist.trans (List.Sublist.cons _ (List.Sublist.cons _ (List.Sublist.refl L))) (List.sublist_append_right X _))
  refine rdB rfl ?_
  refine call (cal_pre (Gh.perm hperm (EntsO.freeze hE0 (fun I1 hI1 hE => Gh.done ?_))))
  have hm : MsgV I1 m [.int .i64 m.kind, .int .i64 m.group, .int .i64 m.frm, .int .i64 m.to, .int .i64 m.term, .int .i64 m.index, .int .i64 m.logTerm, .int .i64 m.commit, .bool m.ok, ev, mv, dv] := ⟨ev, mv, dv, rfl, hE, hM.mono hI1, hD.mono hI1⟩
  have hI0 := hI0.trans hI1
  have hB := hB.mono hI1
  have bad : ∀ I2, Ext I1 I2 → ¬ (s.2 = false ∧ rightB m = true ∧ encL m = b) → sh28_2 ω (.pointer (some ⟨b1, 0, none⟩)) (.int .i64 0) (fun v => Gh (K v)) I2 ((b3, erO bv i s.2) :: (b10, msgO m ev mv dv) :: (b1, zO) :: L) := by
    intro I2 hI2 hn
    unfold sh28_2
    simp only [bldZ, Pv_some, fldV_p, nilV_p, nilV_f, lenV_s, capV_s, lenSV_s, strV_s, unV_not, unV_neg, pickV_t, pickV_f, exV_t, cvIV_i, binI_add, binI_sub, binI_mul, binI_eql, binI_neq, binI_lss, binI_leq, binI_gtr, binI_geq, binI_and, binI_or, binB_eql, binB_neq, binS_eql, binS_neq, binP_eql_nil, binP_neq_nil, binN_eql_nil, binN_neq_nil, binN_eql_nn, binN_neq_nn, Br_true, Br_false, cells_agg, List.getElem?_toArray, List.getElem?_cons_zero, List.getElem?_cons_succ, Nat.zero_add, Nat.add_zero, Nat.zero_mul]
    refine stB rfl rfl (one_all rfl) ?_
    refine rdB rfl ?_
    exact Gh.to L (Gh.done (hk.2 hn _ I2 (hI0.trans hI2) zeroM_v))
  refine (renc_spec hm hl (fun hr v' I2 hI2 hB2 => ?_) (fun hr I2 hI2 => ?_))
  · simp only [Pv_some, fldV_p, nilV_p, nilV_f, lenV_s, capV_s, lenSV_s, strV_s, unV_not, unV_neg, pickV_t, pickV_f, exV_t, cvIV_i, binI_add, binI_sub, binI_mul, binI_eql, binI_neq, binI_lss, binI_leq, binI_gtr, binI_geq, binI_and, binI_or, binB_eql, binB_neq, binS_eql, binS_neq, binP_eql_nil, binP_neq_nil, binN_eql_nil, binN_neq_nil, binN_eql_nn, binN_neq_nn, Br_true, Br_false, cells_agg, List.getElem?_toArray, List.getElem?_cons_zero, List.getElem?_cons_succ, Nat.zero_add, Nat.add_zero, Nat.zero_mul, bne_self_eq_false]
    refine gd_split (fun _ => ?_) (fun h => absurd rfl h)
    refine ⟨_, Bytes.str hB2, ?_⟩
    refine ⟨_, Bytes.str (hB.mono hI2), ?_⟩
    simp only [Pv_some, fldV_p, nilV_p, nilV_f, lenV_s, capV_s, lenSV_s, strV_s, unV_not, unV_neg, pickV_t, pickV_f, exV_t, cvIV_i, binI_add, binI_sub, binI_mul, binI_eql, binI_neq, binI_lss, binI_leq, binI_gtr, binI_geq, binI_and, binI_or, binB_eql, binB_neq, binS_eql, binS_neq, binP_eql_nil, binP_neq_nil, binN_eql_nil, binN_neq_nil, binN_eql_nn, binN_neq_nn, Br_true, Br_false, cells_agg, List.getElem?_toArray, List.getElem?_cons_zero, List.getElem?_cons_succ, Nat.zero_add, Nat.add_zero, Nat.zero_mul, str_eq]
    refine br_split (fun g2 => ?_) (fun g2 => ?_)
    · exact bad I2 hI2 (by simp at g2; simp [g2])
    · simp only [Bool.not_eq_eq_eq_not, Bool.not_false, beq_iff_eq] at g2
      refine rdB rfl ?_
      refine stB rfl rfl hone ?_
      refine rdB rfl ?_
      exact Gh.to L (Gh.done (hk.1 ⟨g, hr, g2⟩ _ I2 (hI0.trans hI2) (hm.mono hI2)))
  · simp only [Pv_some, fldV_p, nilV_p, nilV_f, lenV_s, capV_s, lenSV_s, strV_s, unV_not, unV_neg, pickV_t, pickV_f, exV_t, cvIV_i, binI_add, binI_sub, binI_mul, binI_eql, binI_neq, binI_lss, binI_leq, binI_gtr, binI_geq, binI_and, binI_or, binB_eql, binB_neq, binS_eql, binS_neq, binP_eql_nil, binP_neq_nil, binN_eql_nil, binN_neq_nil, binN_eql_nn, binN_neq_nn, Br_true, Br_false, cells_agg, List.getElem?_toArray, List.getElem?_cons_zero, List.getElem?_cons_succ, Nat.zero_add, Nat.add_zero, Nat.zero_mul]
    refine gd_split (fun h => by simp at h) (fun _ => bad I2 hI2 (by simp [hr]))

end
end Go.Proofs.Ytfeonffmeajpgaa
