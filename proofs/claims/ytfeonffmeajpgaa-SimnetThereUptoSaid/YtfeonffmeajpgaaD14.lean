import Derived.Test.YtfeonffmeajpgaaD13
import Derived.Test.YtfeonffmeajpgaaR3
import Derived.Test.YtfeonffmeajpgaaW6
set_option linter.unusedSimpArgs false
set_option linter.unusedVariables false
namespace Go.Proofs.Ytfeonffmeajpgaa
open Go.SL
set_option maxRecDepth 10000

section
variable {ω : Om} {I : Imm} {L : LH} {K : Value → M}

theorem bs_I {v : Value} {l : List UInt8} {I0 : Imm} {X : LH} (h : Bytes I0 v l) (hk : K (.string ⟨l.toArray⟩) I L) : Rv (some (Stay I0 X)) (bsR v) K I L :=
  ⟨_, fun _ _ hS => Bytes.str (h.mono hS.1), hk⟩

theorem sameents_spec {va vb : Value} {es : List LE} (ha : EntsV I va es) (hb : EntsV I vb es) (hlen : es.length ≤ 1000) (hk : K (.bool true) I L) : Cal Try.prog ω 58 #[va, vb] K I L := by
  refine cal58 ?_
  unfold sh58
  simp only [EntsV.len ha, EntsV.len hb, Pv_some, fldV_p, nilV_p, nilV_f, lenV_s, capV_s, lenSV_s, strV_s, unV_not, unV_neg, pickV_t, pickV_f, exV_t, cvIV_i, binI_add, binI_sub, binI_mul, binI_eql, binI_neq, binI_lss, binI_leq, binI_gtr, binI_geq, binI_and, binI_or, binB_eql, binB_neq, binS_eql, binS_neq, binP_eql_nil, binP_neq_nil, binN_eql_nil, binN_neq_nil, binN_eql_nn, binN_neq_nn, Br_true, Br_false, cells_agg, List.getElem?_toArray, List.getElem?_cons_zero, List.getElem?_cons_succ, Nat.zero_add, Nat.add_zero, Nat.zero_mul, bne_self_eq_false]
  refine loop (fun s I' L' => I' = I ∧ L' = L ∧ ∃ k : Nat, s = (.bool false, .int .i64 k, ()) ∧ k ≤ es.length)
    (fun s _ _ => match s with | (_, .int _ k, _) => ((es.length : Int) - k).toNat | _ => 0) ⟨rfl, rfl, 0, rfl, by omega⟩ ?_
  rintro s I' L' ⟨rfl, rfl, k, rfl, hk1⟩
  unfold sh58_3
  simp only [EntsV.len ha, Pv_some, fldV_p, nilV_p, nilV_f, lenV_s, capV_s, lenSV_s, strV_s, unV_not, unV_neg, pickV_t, pickV_f, exV_t, cvIV_i, binI_add, binI_sub, binI_mul, binI_eql, binI_neq, binI_lss, binI_leq, binI_gtr, binI_geq, binI_and, binI_or, binB_eql, binB_neq, binS_eql, binS_neq, binP_eql_nil, binP_neq_nil, binN_eql_nil, binN_neq_nil, binN_eql_nn, binN_neq_nn, Br_true, Br_false, cells_agg, List.getElem?_toArray, List.getElem?_cons_zero, List.getElem?_cons_succ, Nat.zero_add, Nat.add_zero, Nat.zero_mul]
  by_cases hlt : k < es.length
  · have h1 : ((k : Int) < es.length) := by omega
    simp only [h1, decide_true, Br_true]
    refine draw (Stay I' _) (Stay.start I' _) ?_
    obtain ⟨b1, o1, c1, hix1, hv1, hc1⟩ := EntsV.at ha hlt
    obtain ⟨b2, o2, c2, hix2, hv2, hc2⟩ := EntsV.at hb hlt
    obtain ⟨d1, rfl, hd1⟩ := hv1
    obtain ⟨d2, rfl, hd2⟩ := hv2
    have z := fun j u hu => hc1 I' L' (Ext.refl I') j u hu
    have y := fun j u hu => hc2 I' L' (Ext.refl I') j u hu
    simp only [hix1, hix2, Pv_some, fldV_p, nilV_p, nilV_f, lenV_s, capV_s, lenSV_s, strV_s, unV_not, unV_neg, pickV_t, pickV_f, exV_t, cvIV_i, binI_add, binI_sub, binI_mul, binI_eql, binI_neq, binI_lss, binI_leq, binI_gtr, binI_geq, binI_and, binI_or, binB_eql, binB_neq, binS_eql, binS_neq, binP_eql_nil, binP_neq_nil, binN_eql_nil, binN_neq_nil, binN_eql_nn, binN_neq_nn, Br_true, Br_false, cells_agg, List.getElem?_toArray, List.getElem?_cons_zero, List.getElem?_cons_succ, Nat.zero_add, Nat.add_zero, Nat.zero_mul]
    refine rd1I (z 0 _ rfl) ?_
    refine rd1I (y 0 _ rfl) ?_
    simp only [Pv_some, fldV_p, nilV_p, nilV_f, lenV_s, capV_s, lenSV_s, strV_s, unV_not, unV_neg, pickV_t, pickV_f, exV_t, cvIV_i, binI_add, binI_sub, binI_mul, binI_eql, binI_neq, binI_lss, binI_leq, binI_gtr, binI_geq, binI_and, binI_or, binB_eql, binB_neq, binS_eql, binS_neq, binP_eql_nil, binP_neq_nil, binN_eql_nil, binN_neq_nil, binN_eql_nn, binN_neq_nn, Br_true, Br_false, cells_agg, List.getElem?_toArray, List.getElem?_cons_zero, List.getElem?_cons_succ, Nat.zero_add, Nat.add_zero, Nat.zero_mul, bne_self_eq_false]
    refine gd_split (fun _ => ?_) (fun h => absurd rfl h)
    refine rd1I (z 1 _ rfl) ?_
    refine rd1I (y 1 _ rfl) ?_
    simp only [Pv_some, fldV_p, nilV_p, nilV_f, lenV_s, capV_s, lenSV_s, strV_s, unV_not, unV_neg, pickV_t, pickV_f, exV_t, cvIV_i, binI_add, binI_sub, binI_mul, binI_eql, binI_neq, binI_lss, binI_leq, binI_gtr, binI_geq, binI_and, binI_or, binB_eql, binB_neq, binS_eql, binS_neq, binP_eql_nil, binP_neq_nil, binN_eql_nil, binN_neq_nil, binN_eql_nn, binN_neq_nn, Br_true, Br_false, cells_agg, List.getElem?_toArray, List.getElem?_cons_zero, List.getElem?_cons_succ, Nat.zero_add, Nat.add_zero, Nat.zero_mul, bne_self_eq_false]
    refine gd_split (fun _ => ?_) (fun h => absurd rfl h)
    refine rd1I (z 2 _ rfl) ?_
    refine rd1I (y 2 _ rfl) ?_
    simp only [Pv_some, fldV_p, nilV_p, nilV_f, lenV_s, capV_s, lenSV_s, strV_s, unV_not, unV_neg, pickV_t, pickV_f, exV_t, cvIV_i, binI_add, binI_sub, binI_mul, binI_eql, binI_neq, binI_lss, binI_leq, binI_gtr, binI_geq, binI_and, binI_or, binB_eql, binB_neq, binS_eql, binS_neq, binP_eql_nil, binP_neq_nil, binN_eql_nil, binN_neq_nil, binN_eql_nn, binN_neq_nn, Br_true, Br_false, cells_agg, List.getElem?_toArray, List.getElem?_cons_zero, List.getElem?_cons_succ, Nat.zero_add, Nat.add_zero, Nat.zero_mul, bne_self_eq_false]
    refine gd_split (fun _ => ?_) (fun h => absurd rfl h)
    refine rd1I (z 3 _ rfl) ?_
    refine bs_I hd1 ?_
    refine rd1I (y 3 _ rfl) ?_
    refine bs_I hd2 ?_
    simp only [Pv_some, fldV_p, nilV_p, nilV_f, lenV_s, capV_s, lenSV_s, strV_s, unV_not, unV_neg, pickV_t, pickV_f, exV_t, cvIV_i, binI_add, binI_sub, binI_mul, binI_eql, binI_neq, binI_lss, binI_leq, binI_gtr, binI_geq, binI_and, binI_or, binB_eql, binB_neq, binS_eql, binS_neq, binP_eql_nil, binP_neq_nil, binN_eql_nil, binN_neq_nil, binN_eql_nn, binN_neq_nn, Br_true, Br_false, cells_agg, List.getElem?_toArray, List.getElem?_cons_zero, List.getElem?_cons_succ, Nat.zero_add, Nat.add_zero, Nat.zero_mul, beq_self_eq_true, Bool.not_true, wrap_i64 ((k : Int) + 1) (by omega)]
    refine Gh.done ⟨⟨rfl, rfl, k + 1, by simp, by omega⟩, ?_⟩
    omega
  · have h1 : ¬ ((k : Int) < es.length) := by omega
    simp only [h1, decide_false, Br_false]
    unfold sh58_2 sh58_1
    exact Gh.done hk

theorem samemsg_spec {m : RM} {c d : List Value} (ha : MsgV I m c) (hb : MsgV I m d) (he : m.entries.length ≤ 1000) (hm : m.members.length ≤ 1000) (hk : K (.bool true) I L) : Cal Try.prog ω 29 #[.agg c.toArray, .agg d.toArray] K I L := by
  obtain ⟨e1, m1, d1, rfl, hE1, hM1, hD1⟩ := ha
  obtain ⟨e2, m2, d2, rfl, hE2, hM2, hD2⟩ := hb
  refine cal29 ?_
  unfold sh29
  simp only [Pv_some, fldV_p, nilV_p, nilV_f, lenV_s, capV_s, lenSV_s, strV_s, unV_not, unV_neg, pickV_t, pickV_f, exV_t, cvIV_i, binI_add, binI_sub, binI_mul, binI_eql, binI_neq, binI_lss, binI_leq, binI_gtr, binI_geq, binI_and, binI_or, binB_eql, binB_neq, binS_eql, binS_neq, binP_eql_nil, binP_neq_nil, binN_eql_nil, binN_neq_nil, binN_eql_nn, binN_neq_nn, Br_true, Br_false, cells_agg, List.getElem?_toArray, List.getElem?_cons_zero, List.getElem?_cons_succ, Nat.zero_add, Nat.add_zero, Nat.zero_mul]
  refine newI (fun ba => ?_)
  refine newI (fun bb => ?_)
  try simp only [Pv_some, fldV_p, nilV_p, nilV_f, lenV_s, capV_s, lenSV_s, strV_s, unV_not, unV_neg, pickV_t, pickV_f, exV_t, cvIV_i, binI_add, binI_sub, binI_mul, binI_eql, binI_neq, binI_lss, binI_leq, binI_gtr, binI_geq, binI_and, binI_or, binB_eql, binB_neq, binS_eql, binS_neq, binP_eql_nil, binP_neq_nil, binN_eql_nil, binN_neq_nil, binN_eql_nn, binN_neq_nn, Br_true, Br_false, cells_agg, List.getElem?_toArray, List.getElem?_cons_zero, List.getElem?_cons_succ, Nat.zero_add, Nat.add_zero, Nat.zero_mul]
  refine rdb ?_
  refine rdb ?_
  refine call (sameents_spec hE1 hE2 he ?_)
  refine rdb ?_
  refine rdb ?_
  refine call (sameints_spec hM1 hM2 hm ?_)
  refine gd_split (fun _ => ?_) (fun h => absurd rfl h)
  refine gd_split (fun _ => ?_) (fun h => absurd rfl h)
  iterate 8
    refine rdb ?_
    refine rdb ?_
    simp only [Pv_some, fldV_p, nilV_p, nilV_f, lenV_s, capV_s, lenSV_s, strV_s, unV_not, unV_neg, pickV_t, pickV_f, exV_t, cvIV_i, binI_add, binI_sub, binI_mul, binI_eql, binI_neq, binI_lss, binI_leq, binI_gtr, binI_geq, binI_and, binI_or, binB_eql, binB_neq, binS_eql, binS_neq, binP_eql_nil, binP_neq_nil, binN_eql_nil, binN_neq_nil, binN_eql_nn, binN_neq_nn, Br_true, Br_false, cells_agg, List.getElem?_toArray, List.getElem?_cons_zero, List.getElem?_cons_succ, Nat.zero_add, Nat.add_zero, Nat.zero_mul, beq_self_eq_true]
    refine gd_split (fun _ => ?_) (fun h => absurd rfl h)
  refine rdb ?_
  refine rdb ?_
  simp only [Pv_some, fldV_p, nilV_p, nilV_f, lenV_s, capV_s, lenSV_s, strV_s, unV_not, unV_neg, pickV_t, pickV_f, exV_t, cvIV_i, binI_add, binI_sub, binI_mul, binI_eql, binI_neq, binI_lss, binI_leq, binI_gtr, binI_geq, binI_and, binI_or, binB_eql, binB_neq, binS_eql, binS_neq, binP_eql_nil, binP_neq_nil, binN_eql_nil, binN_neq_nil, binN_eql_nn, binN_neq_nn, Br_true, Br_false, cells_agg, List.getElem?_toArray, List.getElem?_cons_zero, List.getElem?_cons_succ, Nat.zero_add, Nat.add_zero, Nat.zero_mul, beq_self_eq_true]
  refine gd_split (fun _ => ?_) (fun h => absurd rfl h)
  refine rdb ?_
  refine rdStr (Bytes.str hD1) ?_
  refine rdb ?_
  refine rdStr (Bytes.str hD2) ?_
  simp only [Pv_some, fldV_p, nilV_p, nilV_f, lenV_s, capV_s, lenSV_s, strV_s, unV_not, unV_neg, pickV_t, pickV_f, exV_t, cvIV_i, binI_add, binI_sub, binI_mul, binI_eql, binI_neq, binI_lss, binI_leq, binI_gtr, binI_geq, binI_and, binI_or, binB_eql, binB_neq, binS_eql, binS_neq, binP_eql_nil, binP_neq_nil, binN_eql_nil, binN_neq_nil, binN_eql_nn, binN_neq_nn, Br_true, Br_false, cells_agg, List.getElem?_toArray, List.getElem?_cons_zero, List.getElem?_cons_succ, Nat.zero_add, Nat.add_zero, Nat.zero_mul, beq_self_eq_true]
  exact Gh.to L (Gh.done hk)

theorem right_small {m : RM} (h : rightB m = true) : m.entries.length ≤ 1000 ∧ m.members.length ≤ 1000 := by
  simp only [rightB, Bool.and_eq_true] at h
  have hr := h.2
  by_cases k1 : m.kind = 1
  · simp only [k1, if_true, Bool.and_eq_true, List.isEmpty_iff] at hr
    simp [hr]
  by_cases k2 : m.kind = 2
  · simp only [k2, if_true, if_false, Bool.and_eq_true, List.isEmpty_iff, show ¬ ((2 : Int) = 1) by omega] at hr
    simp [hr]
  by_cases k3 : m.kind = 3
  · simp only [k3, if_true, if_false, Bool.and_eq_true, List.isEmpty_iff, show ¬ ((3 : Int) = 1) by omega, show ¬ ((3 : Int) = 2) by omega, entsB, decide_eq_true_eq] at hr
    simp [hr]; omega
  by_cases k4 : m.kind = 4
  · simp only [k4, if_true, if_false, Bool.and_eq_true, List.isEmpty_iff, show ¬ ((4 : Int) = 1) by omega, show ¬ ((4 : Int) = 2) by omega, show ¬ ((4 : Int) = 3) by omega] at hr
    simp [hr]
  by_cases k5 : m.kind = 5
  · simp only [k5, if_true, if_false, Bool.and_eq_true, List.isEmpty_iff, show ¬ ((5 : Int) = 1) by omega, show ¬ ((5 : Int) = 2) by omega, show ¬ ((5 : Int) = 3) by omega, show ¬ ((5 : Int) = 4) by omega] at hr
    have := memB_len hr.1.2
    simp [hr]; omega
  simp [k1, k2, k3, k4, k5] at hr

/-- what both Decode functions answer -/
theorem DecR.mk {b : List UInt8} {r : RM × RS} (hp : ∀ m, rightB m = true → encL m = b → r = (m, ([], false)))
    (h1 : ∀ m, IsMsg m b → ∀ c I', Ext I I' → MsgV I' m c → K (.tuple #[.agg c.toArray, .int .i64 0]) I' L)
    (h2 : (¬ ∃ m, IsMsg m b) → ∀ c I', Ext I I' → MsgV I' zeroM c → K (.tuple #[.agg c.toArray, .int .i64 92]) I' L) : DecR K b r I L := by
  refine ⟨fun h => h1 r.1 ⟨h.2.1, h.2.2⟩, fun h => h2 (fun hm => h ((ok_iff hp).2 hm))⟩
theorem isMsg_eq {m m' : RM} {b : List UInt8} (h : IsMsg m b) (h' : IsMsg m' b) : m = m' := by
  have e1 := parse_of h.1 h.2
  have e2 := parse_of h'.1 h'.2
  rw [e1] at e2
  exact congrArg Prod.fst e2

theorem msg_form {m : RM} {c : List Value} (h : MsgV I m c) : c.length = 12 ∧ ∀ u ∈ c, u.oneCell' = true := by
  obtain ⟨ev, mv, dv, rfl, ⟨cells, hS, _⟩, hM, hD⟩ := h
  refine ⟨rfl, ?_⟩
  obtain ⟨_, _, rfl⟩ := hM.form
  obtain ⟨_, _, rfl⟩ := hD.form
  obtain ⟨_, a, cap, rfl, _⟩ := hS
  exact one_all rfl

theorem reads_law {a0 : Value} {b : List UInt8} (hB : Bytes I a0 b) (hlen : b.length * 8 ≤ 140737488355328) (hk : ∀ I', Ext I I' → K (.bool true) I' L) : Cal Try.prog ω 7 #[a0] K I L := by
  refine cal7 ?_
  unfold sh7
  refine call (coded_spec (fun I1 hI1 => ?_))
  have fin : ∀ (m : RM) (e : Int) (c : List Value) (I2 : Imm), Ext I1 I2 → MsgV I2 m c → m.entries.length ≤ 1000 → m.members.length ≤ 1000 → 
      (∀ K' : Value → M, ∀ L', (∀ c' I', Ext I2 I' → MsgV I' m c' → K' (.tuple #[.agg c'.toArray, .int .i64 e]) I' L') → Cal Try.prog ω 28 #[a0] K' I2 L') →
      (Pv (exV (.tuple #[.agg c.toArray, .int .i64 e]) 0) fun v3 =>
      Pv (exV (.tuple #[.agg c.toArray, .int .i64 e]) 1) fun v4 =>
      New (.cells #[(Value.int .i64 0), (Value.int .i64 0), (Value.int .i64 0), (Value.int .i64 0), (Value.int .i64 0), (Value.int .i64 0), (Value.int .i64 0), (Value.int .i64 0), (Value.bool false), (Value.slice none 0 0), (Value.slice none 0 0), (Value.slice none 0 0)] 51 (0, 0)) <| gh fun got_5 =>
      Sto 12 got_5 v3 <| gh fun _ =>
      Cal Try.prog ω 28 #[a0] <| gh fun v6 =>
      Pv (exV v6 0) fun v7 =>
      Pv (exV v6 1) fun v8 =>
      New (.cells #[(Value.int .i64 0), (Value.int .i64 0), (Value.int .i64 0), (Value.int .i64 0), (Value.int .i64 0), (Value.int .i64 0), (Value.int .i64 0), (Value.int .i64 0), (Value.bool false), (Value.slice none 0 0), (Value.slice none 0 0), (Value.slice none 0 0)] 51 (0, 0)) <| gh fun want_9 =>
      Sto 12 want_9 v7 <| gh fun _ =>
      Rv none (ldNR 12 got_5) fun v10 =>
      Rv none (ldNR 12 want_9) fun v11 =>
      Cal Try.prog ω 29 #[v10, v11] <| gh fun v12 =>
      Gd (.bool true) true
        (Gd v12 true
          (Pv (binIV .eql v4 v8) fun v13 =>
          (fun v => Gh (K v)) v13)
          ((fun v => Gh (K v)) (Value.bool false)))
        ((fun v => Gh (K v)) (Value.bool false))) I2 L := by
    intro m e c I2 hI2 hm he hmm hdec
    have f1 := msg_form hm
    simp only [Pv_some, fldV_p, nilV_p, nilV_f, lenV_s, capV_s, lenSV_s, strV_s, unV_not, unV_neg, pickV_t, pickV_f, exV_t, cvIV_i, binI_add, binI_sub, binI_mul, binI_eql, binI_neq, binI_lss, binI_leq, binI_gtr, binI_geq, binI_and, binI_or, binB_eql, binB_neq, binS_eql, binS_neq, binP_eql_nil, binP_neq_nil, binN_eql_nil, binN_neq_nil, binN_eql_nn, binN_neq_nn, Br_true, Br_false, cells_agg, List.getElem?_toArray, List.getElem?_cons_zero, List.getElem?_cons_succ, Nat.zero_add, Nat.add_zero, Nat.zero_mul]
    refine newI (fun bg => ?_)
    refine stB f1.1 rfl f1.2 ?_
    refine call (hdec _ _ (fun c' I3 hI3 hm' => ?_))
    have f2 := msg_form hm'
    simp only [Pv_some, fldV_p, nilV_p, nilV_f, lenV_s, capV_s, lenSV_s, strV_s, unV_not, unV_neg, pickV_t, pickV_f, exV_t, cvIV_i, binI_add, binI_sub, binI_mul, binI_eql, binI_neq, binI_lss, binI_leq, binI_gtr, binI_geq, binI_and, binI_or, binB_eql, binB_neq, binS_eql, binS_neq, binP_eql_nil, binP_neq_nil, binN_eql_nil, binN_neq_nil, binN_eql_nn, binN_neq_nn, Br_true, Br_false, cells_agg, List.getElem?_toArray, List.getElem?_cons_zero, List.getElem?_cons_succ, Nat.zero_add, Nat.add_zero, Nat.zero_mul]
    refine newI (fun bw => ?_)
    refine stB f2.1 rfl f2.2 ?_
    refine rdB f1.1 ?_
    refine rdB f2.1 ?_
    refine call (samemsg_spec (hm.mono hI3) hm' he hmm ?_)
    refine gd_split (fun _ => ?_) (fun h => absurd rfl h)
    refine gd_split (fun _ => ?_) (fun h => absurd rfl h)
    simp only [Pv_some, fldV_p, nilV_p, nilV_f, lenV_s, capV_s, lenSV_s, strV_s, unV_not, unV_neg, pickV_t, pickV_f, exV_t, cvIV_i, binI_add, binI_sub, binI_mul, binI_eql, binI_neq, binI_lss, binI_leq, binI_gtr, binI_geq, binI_and, binI_or, binB_eql, binB_neq, binS_eql, binS_neq, binP_eql_nil, binP_neq_nil, binN_eql_nil, binN_neq_nil, binN_eql_nn, binN_neq_nn, Br_true, Br_false, cells_agg, List.getElem?_toArray, List.getElem?_cons_zero, List.getElem?_cons_succ, Nat.zero_add, Nat.add_zero, Nat.zero_mul, beq_self_eq_true]
    exact Gh.to L (Gh.done (hk I3 ((hI1.trans hI2).trans hI3)))
  refine call (dec_spec (hB.mono hI1) hlen (DecR.mk (fun m h1 h2 => parse_of h1 h2) (fun m hm c I2 hI2 hv => ?_) (fun hn c I2 hI2 hv => ?_)))
  · have := right_small hm.1
    refine fin m 0 c I2 hI2 hv this.1 this.2 (fun K' L' hK' => edec_spec (hB.mono (hI1.trans hI2)) hlen (DecR.mk (fun m h1 h2 => parseG_of h1 h2) (fun m' hm' => ?_) (fun hn => absurd ⟨m, hm⟩ hn)))
    rw [isMsg_eq hm' hm]
    exact hK'
  · exact fin zeroM 92 c I2 hI2 hv (by simp [zeroM]) (by simp [zeroM]) (fun K' L' hK' => edec_spec (hB.mono (hI1.trans hI2)) hlen (DecR.mk (fun m h1 h2 => parseG_of h1 h2) (fun m' hm' => absurd ⟨m', hm'⟩ hn) (fun _ => hK')))

theorem dec_bad {v : Value} {b : List UInt8} (hB : Bytes I v b) (hlen : b.length * 8 ≤ 140737488355328) (hn : ¬ ∃ m, IsMsg m b) (hk : ∀ c I', Ext I I' → MsgV I' zeroM c → K (.tuple #[.agg c.toArray, .int .i64 92]) I' L) : Cal Try.prog ω 27 #[v] K I L :=
  dec_spec hB hlen (DecR.mk (fun m h1 h2 => parse_of h1 h2) (fun m' hm' => absurd ⟨m', hm'⟩ hn) (fun _ => hk))

end
end Go.Proofs.Ytfeonffmeajpgaa
