import Derived.Test.YtfeonffmeajpgaaD2
set_option linter.unusedSimpArgs false
set_option linter.unusedVariables false
namespace Go.Proofs.Ytfeonffmeajpgaa
open Go.SL
set_option maxRecDepth 10000

section
variable {ω : Om} {I : Imm} {L : LH} {K : Value → M}

theorem EntsO.freeze {A : M} {X F : LH} {v : Value} {es : List LE} (h : EntsO I X v es) (hk : ∀ I', Ext I I' → EntsV I' v es → Gh A I' F) : Gh A I (X ++ F) := by
  obtain ⟨cells, hS, hR⟩ := h
  exact SlO.freeze hS (fun I' hI hS' => hk I' hI ⟨cells, hS', hR.imp (fun _ _ h => h.mono hI)⟩)
theorem EntsO.none : EntsO I [] (.slice none 0 0) [] := ⟨[], SlO.none 78 4, rfl⟩

theorem ent_app {X6 L0 F : LH} [SplitL X6 L0 F] {v dv : Value} {es : List LE} {e : LE} {K : Value → M} (h6 : EntsO I X6 v es) (hl : es.length ≤ 1000) (hd : Bytes I dv e.data)
    (hk : ∀ X1 X6' v', EntsO I X6' v' (es ++ [e]) → K v' I (X6' ++ (X1 ++ F))) :
    BldS 78 4 #[.int .i64 0, .int .i64 0, .int .i64 0, .slice none 0 0] 1 [(0, .agg #[.int .i64 e.index, .int .i64 e.term, .int .i64 e.kind, dv])] (gh fun u => App 78 4 48 #[.int .i64 0, .int .i64 0, .int .i64 0, .slice none 0 0] v u (gh K)) I L0 := by
  obtain ⟨cells, hS, hR⟩ := h6
  have hone : ∀ u ∈ [Value.int .i64 e.index, .int .i64 e.term, .int .i64 e.kind, dv], u.oneCell' = true := by
    obtain ⟨_, _, rfl⟩ := hd.form
    exact one_all rfl
  refine bld_one rfl (by omega) rfl (fun X1 u hX1 => ?_)
  refine app_own (X := X6) rfl hS (hX1.news (fun x hx => List.mem_append_left _ hx)) (by simpa [Value.cells] using hone) (by omega) (by omega) (fun X' v' hX' => ?_)
  refine hk X1 X' v' ⟨_, by simpa [cells_agg] using hX', hR.append (Recs.one rfl ⟨dv, rfl, hd⟩)⟩

theorem ent_appS {I0 : Imm} {Xs X6 L0 F : LH} [SplitL X6 L0 F] {v dv : Value} {es : List LE} {e : LE} {K : Value → M} (h6 : EntsO I X6 v es) (hl : es.length ≤ 1000) (hd : Bytes I dv e.data) (hI0 : Ext I0 I) (hXs : ∀ x ∈ Xs, x ∈ L0)
    (hk : ∀ X1 X6' v', EntsO I X6' v' (es ++ [e]) → K v' I (X6' ++ (X1 ++ F))) :
    BldS 78 4 #[.int .i64 0, .int .i64 0, .int .i64 0, .slice none 0 0] 1 [(0, .agg #[.int .i64 e.index, .int .i64 e.term, .int .i64 e.kind, dv])] (gh (Keep (Stay I0 Xs) fun u => App 78 4 48 #[.int .i64 0, .int .i64 0, .int .i64 0, .slice none 0 0] v u (gh K))) I L0 := by
  obtain ⟨cells, hS, hR⟩ := h6
  have hone : ∀ u ∈ [Value.int .i64 e.index, .int .i64 e.term, .int .i64 e.kind, dv], u.oneCell' = true := by
    obtain ⟨_, _, rfl⟩ := hd.form
    exact one_all rfl
  refine bld_one rfl (by omega) rfl (fun X1 u hX1 => ?_)
  refine keepS hI0 (fun x hx => List.mem_append_right _ (hXs x hx)) ?_
  refine app_own (X := X6) rfl hS (hX1.news (fun x hx => List.mem_append_left _ hx)) (by simpa [Value.cells] using hone) (by omega) (by omega) (fun X' v' hX' => ?_)
  refine hk X1 X' v' ⟨_, by simpa [cells_agg] using hX', hR.append (Recs.one rfl ⟨dv, rfl, hd⟩)⟩

/-- the last lines of Decode -/
theorem dec_endG {b1 b3 b10 : Nat} {X Lx : LH} {a0 sv ev mv dv : Value} {b : List UInt8} {m : RM} {s : RS} {I0 : Imm} (hI0 : Ext I0 I) (hB : Bytes I a0 b) (hE0 : EntsO I X ev m.entries) (hM : Ints I mv m.members) (hD : Bytes I dv m.data) (hl : m.members.length < 4611686018427387904)
    (hmem : (b10, msgO m ev mv dv) ∈ Lx) (hperm : Lx.Perm (X ++ ((b3, rdO sv s.2) :: (b10, msgO m ev mv dv) :: (b1, Obj.cells #[.int .i64 0, .int .i64 0, .int .i64 0, .int .i64 0, .int .i64 0, .int .i64 0, .int .i64 0, .int .i64 0, .bool false, .slice none 0 0, .slice none 0 0, .slice none 0 0] 51 (0, 0)) :: L))) (hk : DecR K b (m, s) I0 L) :
    sh27_1 ω a0 (.pointer (some ⟨b1, 0, none⟩)) (.int .i64 0) (.pointer (some ⟨b3, 0, none⟩)) (.pointer (some ⟨b10, 0, none⟩)) (fun v => Gh (K v)) I Lx := by
  have hone : ∀ u ∈ [Value.int .i64 m.kind, .int .i64 m.group, .int .i64 m.frm, .int .i64 m.to, .int .i64 m.term, .int .i64 m.index, .int .i64 m.logTerm, .int .i64 m.commit, .bool m.ok, ev, mv, dv], u.oneCell' = true := by
    obtain ⟨q1, q2, r1⟩ := hD.form
    obtain ⟨p1, p2, r2⟩ := hM.form
    obtain ⟨cells, hS, _⟩ := hE0
    obtain ⟨o1, o2, r3⟩ := hS.form
    subst r1 r2 r3
    exact one_all rfl
  haveI : InL b10 Lx (msgO m ev mv dv) := ⟨hmem⟩
  unfold sh27_1
  refine rdB rfl ?_
  refine call (cal_pre (Gh.perm hperm (EntsO.freeze hE0 (fun I1 hI1 hE => Gh.done ?_))))
  have hm : MsgV I1 m [.int .i64 m.kind, .int .i64 m.group, .int .i64 m.frm, .int .i64 m.to, .int .i64 m.term, .int .i64 m.index, .int .i64 m.logTerm, .int .i64 m.commit, .bool m.ok, ev, mv, dv] := ⟨ev, mv, dv, rfl, hE, hM.mono hI1, hD.mono hI1⟩
  have hI0 := hI0.trans hI1
  have hB := hB.mono hI1
  have bad : ∀ I2, Ext I1 I2 → ¬ (s.2 = false ∧ rightB m = true ∧ encL m = b) → sh27_2 ω (.pointer (some ⟨b1, 0, none⟩)) (.int .i64 0) (fun v => Gh (K v)) I2 ((b3, rdO sv s.2) :: (b10, msgO m ev mv dv) :: (b1, Obj.cells #[.int .i64 0, .int .i64 0, .int .i64 0, .int .i64 0, .int .i64 0, .int .i64 0, .int .i64 0, .int .i64 0, .bool false, .slice none 0 0, .slice none 0 0, .slice none 0 0] 51 (0, 0)) :: L) := by
    intro I2 hI2 hn
    unfold sh27_2
    simp only [bldZ, Pv_some, fldV_p, nilV_p, nilV_f, lenV_s, capV_s, lenSV_s, strV_s, unV_not, unV_neg, pickV_t, pickV_f, exV_t, cvIV_i, binI_add, binI_sub, binI_mul, binI_eql, binI_neq, binI_lss, binI_leq, binI_gtr, binI_geq, binI_and, binI_or, binB_eql, binB_neq, binS_eql, binS_neq, binP_eql_nil, binP_neq_nil, binN_eql_nil, binN_neq_nil, binN_eql_nn, binN_neq_nn, Br_true, Br_false, cells_agg, List.getElem?_toArray, List.getElem?_cons_zero, List.getElem?_cons_succ, Nat.zero_add, Nat.add_zero, Nat.zero_mul]
    refine stB rfl rfl (one_all rfl) ?_
    refine rdB rfl ?_
    exact Gh.to L (Gh.done (hk.2 hn _ I2 (hI0.trans hI2) zeroM_v))
  refine (enc_spec hm hl (fun hr v' I2 hI2 hB2 => ?_) (fun hr I2 hI2 => ?_))
  · simp only [Pv_some, fldV_p, nilV_p, nilV_f, lenV_s, capV_s, lenSV_s, strV_s, unV_not, unV_neg, pickV_t, pickV_f, exV_t, cvIV_i, binI_add, binI_sub, binI_mul, binI_eql, binI_neq, binI_lss, binI_leq, binI_gtr, binI_geq, binI_and, binI_or, binB_eql, binB_neq, binS_eql, binS_neq, binP_eql_nil, binP_neq_nil, binN_eql_nil, binN_neq_nil, binN_eql_nn, binN_neq_nn, Br_true, Br_false, cells_agg, List.getElem?_toArray, List.getElem?_cons_zero, List.getElem?_cons_succ, Nat.zero_add, Nat.add_zero, Nat.zero_mul]
    refine rdb ?_
    refine gd_split (fun g1 => ?_) (fun g1 => bad I2 hI2 (by simp at g1; simp [g1]))
    simp only [bne_self_eq_false]
    refine gd_split (fun _ => ?_) (fun h => absurd rfl h)
    refine call (equal_spec hB2 (hB.mono hI2) ?_)
    simp only [Pv_some, fldV_p, nilV_p, nilV_f, lenV_s, capV_s, lenSV_s, strV_s, unV_not, unV_neg, pickV_t, pickV_f, exV_t, cvIV_i, binI_add, binI_sub, binI_mul, binI_eql, binI_neq, binI_lss, binI_leq, binI_gtr, binI_geq, binI_and, binI_or, binB_eql, binB_neq, binS_eql, binS_neq, binP_eql_nil, binP_neq_nil, binN_eql_nil, binN_neq_nil, binN_eql_nn, binN_neq_nn, Br_true, Br_false, cells_agg, List.getElem?_toArray, List.getElem?_cons_zero, List.getElem?_cons_succ, Nat.zero_add, Nat.add_zero, Nat.zero_mul]
    refine br_split (fun g2 => ?_) (fun g2 => ?_)
    · simp only [Bool.not_eq_eq_eq_not, Bool.not_true, decide_eq_false_iff_not] at g2
      exact bad I2 hI2 (by simp [g2])
    · simp only [Bool.not_eq_eq_eq_not, Bool.not_false, decide_eq_true_eq] at g2
      refine rdB rfl ?_
      refine stB rfl rfl hone ?_
      refine rdB rfl ?_
      exact Gh.to L (Gh.done (hk.1 ⟨g1, hr, g2⟩ _ I2 (hI0.trans hI2) (hm.mono hI2)))
  · simp only [Pv_some, fldV_p, nilV_p, nilV_f, lenV_s, capV_s, lenSV_s, strV_s, unV_not, unV_neg, pickV_t, pickV_f, exV_t, cvIV_i, binI_add, binI_sub, binI_mul, binI_eql, binI_neq, binI_lss, binI_leq, binI_gtr, binI_geq, binI_and, binI_or, binB_eql, binB_neq, binS_eql, binS_neq, binP_eql_nil, binP_neq_nil, binN_eql_nil, binN_neq_nil, binN_eql_nn, binN_neq_nn, Br_true, Br_false, cells_agg, List.getElem?_toArray, List.getElem?_cons_zero, List.getElem?_cons_succ, Nat.zero_add, Nat.add_zero, Nat.zero_mul]
    refine rdb ?_
    refine gd_split (fun g1 => ?_) (fun g1 => bad I2 hI2 (by simp [hr]))
    refine gd_split (fun h => by simp at h) (fun _ => bad I2 hI2 (by simp [hr]))


theorem dec_end {b1 b3 b10 : Nat} {X : LH} {a0 sv ev mv dv : Value} {b : List UInt8} {m : RM} {s : RS} {I0 : Imm} (hI0 : Ext I0 I) (hB : Bytes I a0 b) (hE0 : EntsO I X ev m.entries) (hM : Ints I mv m.members) (hD : Bytes I dv m.data) (hl : m.members.length < 4611686018427387904)
    (hk : DecR K b (m, s) I0 L) :
    sh27_1 ω a0 (.pointer (some ⟨b1, 0, none⟩)) (.int .i64 0) (.pointer (some ⟨b3, 0, none⟩)) (.pointer (some ⟨b10, 0, none⟩)) (fun v => Gh (K v)) I ((b3, rdO sv s.2) :: (b10, msgO m ev mv dv) :: (X ++ (b1, Obj.cells #[.int .i64 0, .int .i64 0, .int .i64 0, .int .i64 0, .int .i64 0, .int .i64 0, .int .i64 0, .int .i64 0, .bool false, .slice none 0 0, .slice none 0 0, .slice none 0 0] 51 (0, 0)) :: L)) := by
  refine dec_endG (sv := sv) (X := X) hI0 hB hE0 hM hD hl (List.mem_cons_of_mem _ (List.mem_cons_self ..)) ?_ hk
  exact (List.Perm.cons _ (List.perm_middle (l₁ := X)).symm).trans (List.perm_middle (l₁ := X)).symm

theorem entsF_len (f : Nat) (i : Int) (s : RS) : (entsF f i s).1.length = f := by
  induction f generalizing i s with
  | zero => rfl
  | succ f ih => simp [entsF, ih]

end
end Go.Proofs.Ytfeonffmeajpgaa
