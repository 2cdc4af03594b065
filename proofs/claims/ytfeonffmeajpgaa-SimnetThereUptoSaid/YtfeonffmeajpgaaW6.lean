import Derived.Test.YtfeonffmeajpgaaN5
import Derived.Test.YtfeonffmeajpgaaV
set_option linter.unusedSimpArgs false
set_option linter.unusedVariables false
namespace Go.Proofs.Ytfeonffmeajpgaa
open Go.SL
set_option maxRecDepth 10000

section
variable {ω : Om} {I : Imm} {L : LH} {K : Value → M}

theorem rdStr {v s : Value} (h : bsR v I L s) (hk : K s I L) : Rv none (bsR v) K I L := ⟨s, h, hk⟩

def m0 : RM := ⟨2, 1, 2, 1, 300, 0, 0, 0, true, [], [], []⟩
theorem m0_right : rightB m0 = true := by decide
theorem m0_enc : encL m0 = [2, 1, 2, 1, 172, 2, 1] := by
  have h : varL 300 = [172, 2] := by rw [varL_big (by omega), varL_small (by omega)]; decide
  have h2 : m0.term.toNat = 300 := by decide
  unfold encL bodyL
  rw [h2, h]
  decide
theorem m0_v : MsgV I m0 [.int .i64 2, .int .i64 1, .int .i64 2, .int .i64 1, .int .i64 300, .int .i64 0, .int .i64 0, .int .i64 0, .bool true, .slice none 0 0, .slice none 0 0, .slice none 0 0] :=
  ⟨_, _, _, rfl, ⟨[], SlI.nil _ _ _ _, rfl⟩, SlI.nil _ _ _ _, SlI.nil _ _ _ _⟩
theorem bldM : bldV #[(Value.int .i64 0), (Value.int .i64 0), (Value.int .i64 0), (Value.int .i64 0), (Value.int .i64 0), (Value.int .i64 0), (Value.int .i64 0), (Value.int .i64 0), (Value.bool false), (Value.slice none 0 0), (Value.slice none 0 0), (Value.slice none 0 0)] #[(0, 1), (1, 1), (2, 1), (3, 1), (4, 1), (5, 1), (6, 1), (7, 1), (8, 1), (9, 1), (10, 1), (11, 1)] [(0, (Value.int .i64 2)), (1, (Value.int .i64 1)), (2, (Value.int .i64 2)), (3, (Value.int .i64 1)), (4, (Value.int .i64 300)), (8, (Value.bool true))] =
    some (.agg #[.int .i64 2, .int .i64 1, .int .i64 2, .int .i64 1, .int .i64 300, .int .i64 0, .int .i64 0, .int .i64 0, .bool true, .slice none 0 0, .slice none 0 0, .slice none 0 0]) := by rfl

theorem coded_spec (hk : ∀ I', Ext I I' → K (.bool true) I' L) : Cal Try.prog ω 24 #[] K I L := by
  refine cal24 ?_
  unfold sh24
  simp only [bldM, Pv_some, fldV_p, nilV_p, nilV_f, lenV_s, capV_s, lenSV_s, strV_s, unV_not, unV_neg, pickV_t, pickV_f, exV_t, cvIV_i, binI_add, binI_sub, binI_mul, binI_eql, binI_neq, binI_lss, binI_leq, binI_gtr, binI_geq, binI_and, binI_or, binB_eql, binB_neq, binS_eql, binS_neq, binP_eql_nil, binP_neq_nil, binN_eql_nil, binN_neq_nil, binN_eql_nn, binN_neq_nn, Br_true, Br_false, cells_agg, List.getElem?_toArray, List.getElem?_cons_zero, List.getElem?_cons_succ, Nat.zero_add, Nat.add_zero, Nat.zero_mul]
  refine call (enc_spec (m := m0) m0_v (by decide) (fun _ v' I' hI' hB => ?_) (fun h => by rw [m0_right] at h; cases h))
  simp only [Pv_some, fldV_p, nilV_p, nilV_f, lenV_s, capV_s, lenSV_s, strV_s, unV_not, unV_neg, pickV_t, pickV_f, exV_t, cvIV_i, binI_add, binI_sub, binI_mul, binI_eql, binI_neq, binI_lss, binI_leq, binI_gtr, binI_geq, binI_and, binI_or, binB_eql, binB_neq, binS_eql, binS_neq, binP_eql_nil, binP_neq_nil, binN_eql_nil, binN_neq_nil, binN_eql_nn, binN_neq_nn, Br_true, Br_false, cells_agg, List.getElem?_toArray, List.getElem?_cons_zero, List.getElem?_cons_succ, Nat.zero_add, Nat.add_zero, Nat.zero_mul]
  refine gd_split (fun _ => ?_) (fun h => absurd rfl h)
  rw [m0_enc] at hB
  refine rdStr (Bytes.str hB) ?_
  simp only [Pv_some, fldV_p, nilV_p, nilV_f, lenV_s, capV_s, lenSV_s, strV_s, unV_not, unV_neg, pickV_t, pickV_f, exV_t, cvIV_i, binI_add, binI_sub, binI_mul, binI_eql, binI_neq, binI_lss, binI_leq, binI_gtr, binI_geq, binI_and, binI_or, binB_eql, binB_neq, binS_eql, binS_neq, binP_eql_nil, binP_neq_nil, binN_eql_nil, binN_neq_nil, binN_eql_nn, binN_neq_nn, Br_true, Br_false, cells_agg, List.getElem?_toArray, List.getElem?_cons_zero, List.getElem?_cons_succ, Nat.zero_add, Nat.add_zero, Nat.zero_mul, beq_self_eq_true]
  exact Gh.done (hk I' hI')

theorem writes_law {m : RM} {c : List Value} (hm : MsgV I m c) (hl : m.members.length < 4611686018427387904) (hk : ∀ I', Ext I I' → K (.bool true) I' L) : Cal Try.prog ω 6 #[.agg c.toArray] K I L := by
  have hm0 := hm
  obtain ⟨ev, mv, dv, rfl, hE, hM, hD⟩ := hm
  refine cal6 ?_
  unfold sh6
  refine newI (fun b1 => ?_)
  simp only [Pv_some, fldV_p, nilV_p, nilV_f, lenV_s, capV_s, lenSV_s, strV_s, unV_not, unV_neg, pickV_t, pickV_f, exV_t, cvIV_i, binI_add, binI_sub, binI_mul, binI_eql, binI_neq, binI_lss, binI_leq, binI_gtr, binI_geq, binI_and, binI_or, binB_eql, binB_neq, binS_eql, binS_neq, binP_eql_nil, binP_neq_nil, binN_eql_nil, binN_neq_nil, binN_eql_nn, binN_neq_nn, Br_true, Br_false, cells_agg, List.getElem?_toArray, List.getElem?_cons_zero, List.getElem?_cons_succ, Nat.zero_add, Nat.add_zero, Nat.zero_mul]
  refine call (coded_spec (fun I1 hI1 => ?_))
  refine rdB rfl ?_
  refine call (enc_spec (hm0.mono hI1) hl (fun hr v1 I2 hI2 hB1 => ?_) (fun hr I2 hI2 => ?_))
  · simp only [Pv_some, fldV_p, nilV_p, nilV_f, lenV_s, capV_s, lenSV_s, strV_s, unV_not, unV_neg, pickV_t, pickV_f, exV_t, cvIV_i, binI_add, binI_sub, binI_mul, binI_eql, binI_neq, binI_lss, binI_leq, binI_gtr, binI_geq, binI_and, binI_or, binB_eql, binB_neq, binS_eql, binS_neq, binP_eql_nil, binP_neq_nil, binN_eql_nil, binN_neq_nil, binN_eql_nn, binN_neq_nn, Br_true, Br_false, cells_agg, List.getElem?_toArray, List.getElem?_cons_zero, List.getElem?_cons_succ, Nat.zero_add, Nat.add_zero, Nat.zero_mul]
    refine rdB rfl ?_
    refine call (renc_spec (hm0.mono (hI1.trans hI2)) hl (fun _ v2 I3 hI3 hB2 => ?_) (fun h => by rw [hr] at h; cases h))
    simp only [Pv_some, fldV_p, nilV_p, nilV_f, lenV_s, capV_s, lenSV_s, strV_s, unV_not, unV_neg, pickV_t, pickV_f, exV_t, cvIV_i, binI_add, binI_sub, binI_mul, binI_eql, binI_neq, binI_lss, binI_leq, binI_gtr, binI_geq, binI_and, binI_or, binB_eql, binB_neq, binS_eql, binS_neq, binP_eql_nil, binP_neq_nil, binN_eql_nil, binN_neq_nil, binN_eql_nn, binN_neq_nn, Br_true, Br_false, cells_agg, List.getElem?_toArray, List.getElem?_cons_zero, List.getElem?_cons_succ, Nat.zero_add, Nat.add_zero, Nat.zero_mul]
    refine gd_split (fun _ => ?_) (fun h => absurd rfl h)
    refine rdStr (Bytes.str (hB1.mono hI3)) ?_
    refine rdStr (Bytes.str hB2) ?_
    simp only [Pv_some, fldV_p, nilV_p, nilV_f, lenV_s, capV_s, lenSV_s, strV_s, unV_not, unV_neg, pickV_t, pickV_f, exV_t, cvIV_i, binI_add, binI_sub, binI_mul, binI_eql, binI_neq, binI_lss, binI_leq, binI_gtr, binI_geq, binI_and, binI_or, binB_eql, binB_neq, binS_eql, binS_neq, binP_eql_nil, binP_neq_nil, binN_eql_nil, binN_neq_nil, binN_eql_nn, binN_neq_nn, Br_true, Br_false, cells_agg, List.getElem?_toArray, List.getElem?_cons_zero, List.getElem?_cons_succ, Nat.zero_add, Nat.add_zero, Nat.zero_mul, beq_self_eq_true]
    refine gd_split (fun _ => ?_) (fun h => absurd rfl h)
    exact Gh.to L (Gh.done (hk I3 ((hI1.trans hI2).trans hI3)))
  · simp only [Pv_some, fldV_p, nilV_p, nilV_f, lenV_s, capV_s, lenSV_s, strV_s, unV_not, unV_neg, pickV_t, pickV_f, exV_t, cvIV_i, binI_add, binI_sub, binI_mul, binI_eql, binI_neq, binI_lss, binI_leq, binI_gtr, binI_geq, binI_and, binI_or, binB_eql, binB_neq, binS_eql, binS_neq, binP_eql_nil, binP_neq_nil, binN_eql_nil, binN_neq_nil, binN_eql_nn, binN_neq_nn, Br_true, Br_false, cells_agg, List.getElem?_toArray, List.getElem?_cons_zero, List.getElem?_cons_succ, Nat.zero_add, Nat.add_zero, Nat.zero_mul]
    refine rdB rfl ?_
    refine call (renc_spec (hm0.mono (hI1.trans hI2)) hl (fun h => by rw [hr] at h; cases h) (fun _ I3 hI3 => ?_))
    simp only [Pv_some, fldV_p, nilV_p, nilV_f, lenV_s, capV_s, lenSV_s, strV_s, unV_not, unV_neg, pickV_t, pickV_f, exV_t, cvIV_i, binI_add, binI_sub, binI_mul, binI_eql, binI_neq, binI_lss, binI_leq, binI_gtr, binI_geq, binI_and, binI_or, binB_eql, binB_neq, binS_eql, binS_neq, binP_eql_nil, binP_neq_nil, binN_eql_nil, binN_neq_nil, binN_eql_nn, binN_neq_nn, Br_true, Br_false, cells_agg, List.getElem?_toArray, List.getElem?_cons_zero, List.getElem?_cons_succ, Nat.zero_add, Nat.add_zero, Nat.zero_mul]
    refine gd_split (fun _ => ?_) (fun h => absurd rfl h)
    refine rdStr (.inl ⟨_, _, rfl, rfl⟩) ?_
    refine rdStr (.inl ⟨_, _, rfl, rfl⟩) ?_
    simp only [Pv_some, fldV_p, nilV_p, nilV_f, lenV_s, capV_s, lenSV_s, strV_s, unV_not, unV_neg, pickV_t, pickV_f, exV_t, cvIV_i, binI_add, binI_sub, binI_mul, binI_eql, binI_neq, binI_lss, binI_leq, binI_gtr, binI_geq, binI_and, binI_or, binB_eql, binB_neq, binS_eql, binS_neq, binP_eql_nil, binP_neq_nil, binN_eql_nil, binN_neq_nil, binN_eql_nn, binN_neq_nn, Br_true, Br_false, cells_agg, List.getElem?_toArray, List.getElem?_cons_zero, List.getElem?_cons_succ, Nat.zero_add, Nat.add_zero, Nat.zero_mul, beq_self_eq_true]
    refine gd_split (fun _ => ?_) (fun h => absurd rfl h)
    exact Gh.to L (Gh.done (hk I3 ((hI1.trans hI2).trans hI3)))
end

theorem ce4 : Try.prog.cellsOf 4 = 1 := by kernel_rfl
theorem ce27 : Try.prog.cellsOf 27 = 1 := by kernel_rfl
theorem ce49 : Try.prog.cellsOf 49 = 1 := by kernel_rfl
theorem ce51 : Try.prog.cellsOf 51 = 12 := by kernel_rfl
theorem ce78 : Try.prog.cellsOf 78 = 4 := by kernel_rfl
theorem by3 : Try.prog.bytesOf 3 = 8 := by kernel_rfl

theorem le_open {rz : Nat} {W : World} {cs : List Value} (h : TrR rz Try.prog W 78 cs) : ∃ e, LeV (heapI W) e cs := by
  have hl := (tr_struct Try.underlying78 h).1
  rw [ce78] at hl
  obtain ⟨a, b, c, v, rfl⟩ : ∃ a b c v, cs = [a, b, c, v] := by
    match cs, hl with
    | [a, b, c, v], _ => exact ⟨a, b, c, v, rfl⟩
  obtain ⟨n0, e0, w0⟩ := tr_int Try.underlying3 (cs := [a]) (tr_field 0 Try.underlying78 h rfl ce3)
  obtain ⟨n1, e1, w1⟩ := tr_int Try.underlying3 (cs := [b]) (tr_field 1 Try.underlying78 h rfl ce3)
  obtain ⟨n2, e2, w2⟩ := tr_int Try.underlying3 (cs := [c]) (tr_field 2 Try.underlying78 h rfl ce3)
  obtain ⟨l, hB, hbl⟩ := tr_bytes Try.underlying28 Try.underlying5 ce5 by5 (v := v) (tr_field 3 Try.underlying78 h rfl ce28)
  simp only [List.cons.injEq, and_true] at e0 e1 e2
  subst e0 e1 e2
  exact ⟨⟨n0, n1, n2, l⟩, v, rfl, hB⟩
theorem msg_open {rz : Nat} {W : World} {cs : List Value} (h : TrR rz Try.prog W 51 cs) : ∃ m, MsgV (heapI W) m cs ∧ m.members.length * 8 ≤ rz ∧ inI64 m.kind ∧ inI64 m.group ∧ inI64 m.frm ∧ inI64 m.to := by
  have hl := (tr_struct Try.underlying51 h).1
  rw [ce51] at hl
  obtain ⟨a0, a1, a2, a3, a4, a5, a6, a7, a8, a9, a10, a11, rfl⟩ : ∃ a0 a1 a2 a3 a4 a5 a6 a7 a8 a9 a10 a11, cs = [a0, a1, a2, a3, a4, a5, a6, a7, a8, a9, a10, a11] := by
    match cs, hl with
    | [a0, a1, a2, a3, a4, a5, a6, a7, a8, a9, a10, a11], _ => exact ⟨a0, a1, a2, a3, a4, a5, a6, a7, a8, a9, a10, a11, rfl⟩
  obtain ⟨n0, e0, w0⟩ := tr_int Try.underlying3 (cs := [a0]) (tr_field 0 Try.underlying51 h rfl ce3)
  obtain ⟨n1, e1, w1⟩ := tr_int Try.underlying3 (cs := [a1]) (tr_field 1 Try.underlying51 h rfl ce3)
  obtain ⟨n2, e2, w2⟩ := tr_int Try.underlying3 (cs := [a2]) (tr_field 2 Try.underlying51 h rfl ce3)
  obtain ⟨n3, e3, w3⟩ := tr_int Try.underlying3 (cs := [a3]) (tr_field 3 Try.underlying51 h rfl ce3)
  obtain ⟨n4, e4, w4⟩ := tr_int Try.underlying3 (cs := [a4]) (tr_field 4 Try.underlying51 h rfl ce3)
  obtain ⟨n5, e5, w5⟩ := tr_int Try.underlying3 (cs := [a5]) (tr_field 5 Try.underlying51 h rfl ce3)
  obtain ⟨n6, e6, w6⟩ := tr_int Try.underlying3 (cs := [a6]) (tr_field 6 Try.underlying51 h rfl ce3)
  obtain ⟨n7, e7, w7⟩ := tr_int Try.underlying3 (cs := [a7]) (tr_field 7 Try.underlying51 h rfl ce3)
  obtain ⟨t8, e8⟩ := tr_bool Try.underlying4 (cs := [a8]) (tr_field 8 Try.underlying51 h rfl ce4)
  have h9 : TrR rz Try.prog W 49 [a9] := tr_field 9 Try.underlying51 h rfl ce49
  obtain ⟨cells, es, hS, hR, _⟩ := tr_recs (R := LeV (heapI W)) Try.underlying49 (by rw [ce78]; omega) h9 (fun c hc => le_open hc)
  obtain ⟨ml, hM, hml, _⟩ := tr_ints Try.underlying27 Try.underlying3 ce3 by3 (v := a10) (tr_field 10 Try.underlying51 h rfl ce27)
  obtain ⟨l, hB, hbl⟩ := tr_bytes Try.underlying28 Try.underlying5 ce5 by5 (v := a11) (tr_field 11 Try.underlying51 h rfl ce28)
  simp only [List.cons.injEq, and_true] at e0 e1 e2 e3 e4 e5 e6 e7 e8
  subst e0 e1 e2 e3 e4 e5 e6 e7 e8
  rw [ce78] at hS hR
  exact ⟨⟨n0, n1, n2, n3, n4, n5, n6, n7, t8, es, ml, l⟩, ⟨a9, a10, a11, rfl, ⟨cells, hS, hR⟩, hM, hB⟩, hml, wf_i64 w0, wf_i64 w1, wf_i64 w2, wf_i64 w3⟩

theorem reach8 {n : Nat} (h : n * 8 ≤ reachBytes) : n < 4611686018427387904 := by
  have : reachBytes ≤ 140737488355328 * 2 := by decide
  omega
theorem writes_walk {W : World} {base : Nat} {v0 : Value} (o0 : Value.okWide Try.prog W .any base 51 v0) (t0 : Tr Try.prog W 51 v0.cells.toList) (ω : Om) :
    Cal Try.prog ω 6 #[v0] (fun v I' _ => v = .bool true ∧ Ext (heapI W) I') (heapI W) [] := by
  obtain ⟨cs, rfl, t⟩ := top_struct Try.underlying51 o0 t0
  obtain ⟨m, hm, hml, _⟩ := msg_open t
  exact writes_law hm (reach8 hml) (fun I' hI => ⟨rfl, hI⟩)
end Go.Proofs.Ytfeonffmeajpgaa
