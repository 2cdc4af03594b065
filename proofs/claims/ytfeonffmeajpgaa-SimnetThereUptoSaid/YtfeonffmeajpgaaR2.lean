import Derived.Test.YtfeonffmeajpgaaR
set_option linter.unusedSimpArgs false
set_option linter.unusedVariables false
namespace Go.Proofs.Ytfeonffmeajpgaa
open Go.SL
set_option maxRecDepth 10000

section
variable {ω : Om} {I : Imm} {L : LH} {K : Value → M}

set_option maxHeartbeats 400000 in
theorem rsend_spec {b : Nat} {X F : LH} {n : N} {e : E} {c : List Value} (hN : NetR 45 I b X n) (he : EnvV I e c) (h0 : 0 ≤ n.last) (h1 : n.last < 4611686018427387904)
    (hk : ∀ X' I', Ext I I' → NetR 45 I' b X' (sendN n e).2.2 → K (.tuple #[.int .i64 (sendN n e).1, .int .i64 (sendN n e).2.1]) I' (X' ++ F)) :
    Cal Try.prog ω 16 #[.pointer (some ⟨b, 0, none⟩), .agg c.toArray] K I (X ++ F) := by
  obtain ⟨bv, rfl, hB⟩ := he
  obtain ⟨a0, cap0, rfl⟩ := hB.form
  refine cal16 ?_
  have bad : okE e = false → ∀ (b1 : Nat) o, sh16_1 ω (.int .i64 0) (.int .i64 0) (fun v => Gh (K v)) I ((b1, o) :: (X ++ F)) := by
    intro hbad b1 o
    have hs : sendN n e = (0, 1, n) := by simp [sendN, hbad]
    rw [hs] at hk
    exact Gh.drop (List.sublist_cons_self ..) (Gh.done (hk X I (Ext.refl I) hN))
  unfold sh16
  refine newI (fun b1 => ?_)
  simp only [Pv_some, fldV_p, nilV_p, nilV_f, lenV_s, capV_s, lenSV_s, strV_s, unV_not, unV_neg, pickV_t, pickV_f, exV_t, cvIV_i, binI_add, binI_sub, binI_mul, binI_eql, binI_neq, binI_lss, binI_leq, binI_gtr, binI_geq, binI_and, binI_or, binB_eql, binB_neq, binS_eql, binS_neq, binP_eql_nil, binP_neq_nil, binN_eql_nil, binN_neq_nil, binN_eql_nn, binN_neq_nn, Br_true, Br_false, cells_agg, List.getElem?_toArray, List.getElem?_cons_zero, List.getElem?_cons_succ, Nat.zero_add, Nat.add_zero, Nat.zero_mul]
  refine rdb ?_
  refine call (rnode_spec ?_)
  simp only [Pv_some, fldV_p, nilV_p, nilV_f, lenV_s, capV_s, lenSV_s, strV_s, unV_not, unV_neg, pickV_t, pickV_f, exV_t, cvIV_i, binI_add, binI_sub, binI_mul, binI_eql, binI_neq, binI_lss, binI_leq, binI_gtr, binI_geq, binI_and, binI_or, binB_eql, binB_neq, binS_eql, binS_neq, binP_eql_nil, binP_neq_nil, binN_eql_nil, binN_neq_nil, binN_eql_nn, binN_neq_nn, Br_true, Br_false, cells_agg, List.getElem?_toArray, List.getElem?_cons_zero, List.getElem?_cons_succ, Nat.zero_add, Nat.add_zero, Nat.zero_mul]
  refine rdb ?_
  refine call (rnode_spec ?_)
  simp only [Pv_some, fldV_p, nilV_p, nilV_f, lenV_s, capV_s, lenSV_s, strV_s, unV_not, unV_neg, pickV_t, pickV_f, exV_t, cvIV_i, binI_add, binI_sub, binI_mul, binI_eql, binI_neq, binI_lss, binI_leq, binI_gtr, binI_geq, binI_and, binI_or, binB_eql, binB_neq, binS_eql, binS_neq, binP_eql_nil, binP_neq_nil, binN_eql_nil, binN_neq_nil, binN_eql_nn, binN_neq_nn, Br_true, Br_false, cells_agg, List.getElem?_toArray, List.getElem?_cons_zero, List.getElem?_cons_succ, Nat.zero_add, Nat.add_zero, Nat.zero_mul]
  refine gd_split (fun hf => ?_) (fun hf => bad (by simp at hf; simp [okE, hf]) _ _)
  refine gd_split (fun ht => ?_) (fun ht => bad (by simp at ht; simp [okE, ht]) _ _)
  refine rdb ?_
  simp only [Pv_some, fldV_p, nilV_p, nilV_f, lenV_s, capV_s, lenSV_s, strV_s, unV_not, unV_neg, pickV_t, pickV_f, exV_t, cvIV_i, binI_add, binI_sub, binI_mul, binI_eql, binI_neq, binI_lss, binI_leq, binI_gtr, binI_geq, binI_and, binI_or, binB_eql, binB_neq, binS_eql, binS_neq, binP_eql_nil, binP_neq_nil, binN_eql_nil, binN_neq_nil, binN_eql_nn, binN_neq_nn, Br_true, Br_false, cells_agg, List.getElem?_toArray, List.getElem?_cons_zero, List.getElem?_cons_succ, Nat.zero_add, Nat.add_zero, Nat.zero_mul]
  refine gd_split (fun hk1 => ?_) (fun hk1 => bad (by simp at hk1; simp [okE]; omega) _ _)
  refine rdb ?_
  simp only [Pv_some, fldV_p, nilV_p, nilV_f, lenV_s, capV_s, lenSV_s, strV_s, unV_not, unV_neg, pickV_t, pickV_f, exV_t, cvIV_i, binI_add, binI_sub, binI_mul, binI_eql, binI_neq, binI_lss, binI_leq, binI_gtr, binI_geq, binI_and, binI_or, binB_eql, binB_neq, binS_eql, binS_neq, binP_eql_nil, binP_neq_nil, binN_eql_nil, binN_neq_nil, binN_eql_nn, binN_neq_nn, Br_true, Br_false, cells_agg, List.getElem?_toArray, List.getElem?_cons_zero, List.getElem?_cons_succ, Nat.zero_add, Nat.add_zero, Nat.zero_mul]
  refine gd_split (fun hk2 => ?_) (fun hk2 => bad (by simp at hk2; simp [okE]; omega) _ _)
  refine rdb ?_
  simp only [Pv_some, fldV_p, nilV_p, nilV_f, lenV_s, capV_s, lenSV_s, strV_s, unV_not, unV_neg, pickV_t, pickV_f, exV_t, cvIV_i, binI_add, binI_sub, binI_mul, binI_eql, binI_neq, binI_lss, binI_leq, binI_gtr, binI_geq, binI_and, binI_or, binB_eql, binB_neq, binS_eql, binS_neq, binP_eql_nil, binP_neq_nil, binN_eql_nil, binN_neq_nil, binN_eql_nn, binN_neq_nn, Br_true, Br_false, cells_agg, List.getElem?_toArray, List.getElem?_cons_zero, List.getElem?_cons_succ, Nat.zero_add, Nat.add_zero, Nat.zero_mul]
  by_cases hb2 : (1048576 : Int) < e.body.length
  · simp only [hb2, decide_true, Br_true]; exact bad (by simp [okE]; omega) _ _
  simp only [hb2, decide_false, Br_false, Pv_some, fldV_p, nilV_p, nilV_f, lenV_s, capV_s, lenSV_s, strV_s, unV_not, unV_neg, pickV_t, pickV_f, exV_t, cvIV_i, binI_add, binI_sub, binI_mul, binI_eql, binI_neq, binI_lss, binI_leq, binI_gtr, binI_geq, binI_and, binI_or, binB_eql, binB_neq, binS_eql, binS_neq, binP_eql_nil, binP_neq_nil, binN_eql_nil, binN_neq_nil, binN_eql_nn, binN_neq_nn, Br_true, Br_false, cells_agg, List.getElem?_toArray, List.getElem?_cons_zero, List.getElem?_cons_succ, Nat.zero_add, Nat.add_zero, Nat.zero_mul]
  have hok : okE e = true := by simp at hf ht hk1 hk2; simp [okE, hf, ht]; omega
  obtain ⟨lv, XL, cells, rfl, hS, hR⟩ := id hN
  obtain ⟨a1, cap1, rfl⟩ := hS.form
  simp only [List.cons_append]
  refine rdb ?_
  simp only [Pv_some, fldV_p, nilV_p, nilV_f, lenV_s, capV_s, lenSV_s, strV_s, unV_not, unV_neg, pickV_t, pickV_f, exV_t, cvIV_i, binI_add, binI_sub, binI_mul, binI_eql, binI_neq, binI_lss, binI_leq, binI_gtr, binI_geq, binI_and, binI_or, binB_eql, binB_neq, binS_eql, binS_neq, binP_eql_nil, binP_neq_nil, binN_eql_nil, binN_neq_nil, binN_eql_nn, binN_neq_nn, Br_true, Br_false, cells_agg, List.getElem?_toArray, List.getElem?_cons_zero, List.getElem?_cons_succ, Nat.zero_add, Nat.add_zero, Nat.zero_mul]
  by_cases hful : (1000 : Int) ≤ n.es.length
  · simp only [hful, decide_true, Br_true]
    have hs : sendN n e = (0, 90, n) := by simp [sendN, hok]; omega
    rw [hs] at hk
    exact Gh.drop (List.sublist_cons_self ..) (Gh.done (hk _ I (Ext.refl I) hN))
  simp only [hful, decide_false, Br_false]
  have hs : sendN n e = (n.last + 1, 0, ⟨n.es ++ [{ e with id := n.last + 1 }], n.last + 1⟩) := by simp [sendN, hok]; omega
  rw [hs] at hk
  refine rdb ?_
  simp only [Pv_some, fldV_p, nilV_p, nilV_f, lenV_s, capV_s, lenSV_s, strV_s, unV_not, unV_neg, pickV_t, pickV_f, exV_t, cvIV_i, binI_add, binI_sub, binI_mul, binI_eql, binI_neq, binI_lss, binI_leq, binI_gtr, binI_geq, binI_and, binI_or, binB_eql, binB_neq, binS_eql, binS_neq, binP_eql_nil, binP_neq_nil, binN_eql_nil, binN_neq_nil, binN_eql_nn, binN_neq_nn, Br_true, Br_false, cells_agg, List.getElem?_toArray, List.getElem?_cons_zero, List.getElem?_cons_succ, Nat.zero_add, Nat.add_zero, Nat.zero_mul, wrap_i64 (n.last + 1) (by omega)]
  refine st1 rfl ?_
  refine rdb ?_
  refine st1 rfl ?_
  refine bld_zero (fun XB u hXB => ?_)
  refine rdb ?_
  refine app_own (X := XB) rfl hXB (SlI.news hB) (u8s_one _) (by omega) (by omega) (fun XC u2 hXC => ?_)
  obtain ⟨a2, cap2, rfl⟩ := hXC.form
  refine st1 rfl ?_
  refine draw (Stay I _) (Stay.start I _) ?_
  refine rdbS ?_
  refine rdBS rfl ?_
  refine bld_one rfl (by omega) rfl (fun X1 u hX1 => ?_)
  refine keepS (Ext.refl I) (fun x hx => List.mem_append_right _ hx) ?_
  refine app_own (X := XL) rfl hS (hX1.news (fun x hx => List.mem_append_left _ hx)) (one_all rfl) (by omega) (by omega) (fun X' v' hX' => ?_)
  obtain ⟨a3, cap3, rfl⟩ := hX'.form
  try simp only [Pv_some, fldV_p, nilV_p, nilV_f, lenV_s, capV_s, lenSV_s, strV_s, unV_not, unV_neg, pickV_t, pickV_f, exV_t, cvIV_i, binI_add, binI_sub, binI_mul, binI_eql, binI_neq, binI_lss, binI_leq, binI_gtr, binI_geq, binI_and, binI_or, binB_eql, binB_neq, binS_eql, binS_neq, binP_eql_nil, binP_neq_nil, binN_eql_nil, binN_neq_nil, binN_eql_nn, binN_neq_nn, Br_true, Br_false, cells_agg, List.getElem?_toArray, List.getElem?_cons_zero, List.getElem?_cons_succ, Nat.zero_add, Nat.add_zero, Nat.zero_mul]
  refine st1 rfl ?_
  refine rdb ?_
  refine Gh.to (XC ++ ((b, Obj.cells #[.slice a3 (n.es.length + 1) cap3, .int .i64 (n.last + 1)] 45 (0, 0)) :: (X' ++ F))) ?_
  refine SlO.freeze hXC (fun I' hI hS' => ?_)
  refine Gh.done (hk (_ :: X') I' hI ⟨_, X', _, rfl, by simpa using hX', ?_⟩)
  refine Recs.append (hR.imp fun _ _ h => h.mono hI) (Recs.one rfl ⟨_, rfl, ?_⟩)
  simpa [Bytes] using hS'

set_option maxHeartbeats 400000 in
theorem rdeliver_spec {b : Nat} {X F : LH} {n : N} {id : Int} (hN : NetR 45 I b X n) (hlen : n.es.length ≤ 1000)
    (hk : ∀ X' c, NetR 45 I b X' (delN n id).2.2 → EnvV I (delN n id).1 c → K (.tuple #[.agg c.toArray, .int .i64 (delN n id).2.1]) I (X' ++ F)) :
    Cal Try.prog ω 17 #[.pointer (some ⟨b, 0, none⟩), .int .i64 id] K I (X ++ F) := by
  refine cal17 ?_
  unfold sh17
  refine newI (fun b1 => ?_)
  refine call (Cal.split X (rplace_spec hN hlen ?_))
  cases hp : posOf n.es id with
  | none =>
    have hd : delN n id = (zeroE, 91, n) := by simp [delN, hp]
    rw [hd] at hk
    rw [show posI n.es id = -1 from by simp [posI, hp]]
    rw [show bldV #[.int .i64 0, .int .i64 0, .int .i64 0, .int .i64 0, .slice none 0 0] #[(0, 1), (1, 1), (2, 1), (3, 1), (4, 1)] [] = some (.agg #[.int .i64 0, .int .i64 0, .int .i64 0, .int .i64 0, .slice none 0 0]) from rfl]
    simp only [Pv_some, fldV_p, nilV_p, nilV_f, lenV_s, capV_s, lenSV_s, strV_s, unV_not, unV_neg, pickV_t, pickV_f, exV_t, cvIV_i, binI_add, binI_sub, binI_mul, binI_eql, binI_neq, binI_lss, binI_leq, binI_gtr, binI_geq, binI_and, binI_or, binB_eql, binB_neq, binS_eql, binS_neq, binP_eql_nil, binP_neq_nil, binN_eql_nil, binN_neq_nil, binN_eql_nn, binN_neq_nn, Br_true, Br_false, cells_agg, List.getElem?_toArray, List.getElem?_cons_zero, List.getElem?_cons_succ, Nat.zero_add, Nat.add_zero, Nat.zero_mul]
    rw [show decide ((-1 : Int) < 0) = true from rfl]
    simp only [Pv_some, fldV_p, nilV_p, nilV_f, lenV_s, capV_s, lenSV_s, strV_s, unV_not, unV_neg, pickV_t, pickV_f, exV_t, cvIV_i, binI_add, binI_sub, binI_mul, binI_eql, binI_neq, binI_lss, binI_leq, binI_gtr, binI_geq, binI_and, binI_or, binB_eql, binB_neq, binS_eql, binS_neq, binP_eql_nil, binP_neq_nil, binN_eql_nil, binN_neq_nil, binN_eql_nn, binN_neq_nn, Br_true, Br_false, cells_agg, List.getElem?_toArray, List.getElem?_cons_zero, List.getElem?_cons_succ, Nat.zero_add, Nat.add_zero, Nat.zero_mul]
    refine stB rfl rfl (one_all rfl) ?_
    refine rdB rfl ?_
    exact Gh.to (X ++ F) (Gh.done (hk X _ hN (zeroE_V I)))
  | some p =>
    obtain ⟨ep, hep, hpid⟩ := pos_some hp
    have hd : delN n id = (ep, 0, ⟨n.es.eraseIdx p, n.last⟩) := by simp [delN, hp, hep]
    rw [hd] at hk
    rw [show posI n.es id = (p : Int) from by simp [posI, hp]]
    have hpl : p < n.es.length := (List.getElem?_eq_some_iff.1 hep).1
    obtain ⟨lv, XL, cells, hX, hS, hR⟩ := _root_.id hN
    have h1 : ¬ ((p : Int) < 0) := by omega
    simp only [Pv_some, fldV_p, nilV_p, nilV_f, lenV_s, capV_s, lenSV_s, strV_s, unV_not, unV_neg, pickV_t, pickV_f, exV_t, cvIV_i, binI_add, binI_sub, binI_mul, binI_eql, binI_neq, binI_lss, binI_leq, binI_gtr, binI_geq, binI_and, binI_or, binB_eql, binB_neq, binS_eql, binS_neq, binP_eql_nil, binP_neq_nil, binN_eql_nil, binN_neq_nil, binN_eql_nn, binN_neq_nn, Br_true, Br_false, cells_agg, List.getElem?_toArray, List.getElem?_cons_zero, List.getElem?_cons_succ, Nat.zero_add, Nat.add_zero, Nat.zero_mul, h1, decide_false]
    refine rd1 (v := lv) (Cell.own (cs := #[lv, .int .i64 n.last]) (T := 45) (fr := (0, 0)) (by simp [hX]) rfl) ?_
    obtain ⟨bl, hix, hc⟩ := hS.ix .i64 hpl
    obtain ⟨hgl, hg⟩ := hR.get hep
    simp only [hix, Pv_some, fldV_p, nilV_p, nilV_f, lenV_s, capV_s, lenSV_s, strV_s, unV_not, unV_neg, pickV_t, pickV_f, exV_t, cvIV_i, binI_add, binI_sub, binI_mul, binI_eql, binI_neq, binI_lss, binI_leq, binI_gtr, binI_geq, binI_and, binI_or, binB_eql, binB_neq, binS_eql, binS_neq, binP_eql_nil, binP_neq_nil, binN_eql_nil, binN_neq_nil, binN_eql_nn, binN_neq_nn, Br_true, Br_false, cells_agg, List.getElem?_toArray, List.getElem?_cons_zero, List.getElem?_cons_succ, Nat.zero_add, Nat.add_zero, Nat.zero_mul]
    refine rdN hgl (hc I _ (fun x hx => by simp [hX, hx])) ?_
    refine newI (fun b2 => ?_)
    refine stB hgl rfl hg.one ?_
    refine call (Cal.split X (rtake_spec hN hlen hpl (fun X' hN' => ?_)))
    refine rdB hgl ?_
    refine stB hgl rfl hg.one ?_
    refine rdB hgl ?_
    exact Gh.to (X' ++ F) (Gh.done (hk X' _ hN' hg))

theorem rdrop_spec {b : Nat} {X F : LH} {n : N} {id : Int} (hN : NetR 45 I b X n) (hlen : n.es.length ≤ 1000)
    (hk : ∀ X', NetR 45 I b X' (delN n id).2.2 → K (.int .i64 (delN n id).2.1) I (X' ++ F)) : Cal Try.prog ω 18 #[.pointer (some ⟨b, 0, none⟩), .int .i64 id] K I (X ++ F) := by
  refine cal18 ?_
  unfold sh18
  refine call (rdeliver_spec hN hlen (fun X' c hN' hc => ?_))
  simp only [Pv_some, fldV_p, nilV_p, nilV_f, lenV_s, capV_s, lenSV_s, strV_s, unV_not, unV_neg, pickV_t, pickV_f, exV_t, cvIV_i, binI_add, binI_sub, binI_mul, binI_eql, binI_neq, binI_lss, binI_leq, binI_gtr, binI_geq, binI_and, binI_or, binB_eql, binB_neq, binS_eql, binS_neq, binP_eql_nil, binP_neq_nil, binN_eql_nil, binN_neq_nil, binN_eql_nn, binN_neq_nn, Br_true, Br_false, cells_agg, List.getElem?_toArray, List.getElem?_cons_zero, List.getElem?_cons_succ, Nat.zero_add, Nat.add_zero, Nat.zero_mul]
  refine newI (fun b1 => ?_)
  refine stB hc.len rfl hc.one ?_
  exact Gh.to (X' ++ F) (Gh.done (hk X' hN'))

theorem rdouble_spec {b : Nat} {X F : LH} {n : N} {id : Int} (hN : NetR 45 I b X n) (h0 : 0 ≤ n.last) (h1 : n.last < 4611686018427387904) (hlen : n.es.length ≤ 1000)
    (hk : ∀ X' I', Ext I I' → NetR 45 I' b X' (dblN n id).2.2 → K (.tuple #[.int .i64 (dblN n id).1, .int .i64 (dblN n id).2.1]) I' (X' ++ F)) : Cal Try.prog ω 19 #[.pointer (some ⟨b, 0, none⟩), .int .i64 id] K I (X ++ F) := by
  refine cal19 ?_
  unfold sh19
  refine call (rplace_spec hN hlen ?_)
  cases hp : posOf n.es id with
  | none =>
    have hd : dblN n id = (0, 91, n) := by simp [dblN, hp]
    rw [hd] at hk
    rw [show posI n.es id = -1 from by simp [posI, hp]]
    simp only [Pv_some, fldV_p, nilV_p, nilV_f, lenV_s, capV_s, lenSV_s, strV_s, unV_not, unV_neg, pickV_t, pickV_f, exV_t, cvIV_i, binI_add, binI_sub, binI_mul, binI_eql, binI_neq, binI_lss, binI_leq, binI_gtr, binI_geq, binI_and, binI_or, binB_eql, binB_neq, binS_eql, binS_neq, binP_eql_nil, binP_neq_nil, binN_eql_nil, binN_neq_nil, binN_eql_nn, binN_neq_nn, Br_true, Br_false, cells_agg, List.getElem?_toArray, List.getElem?_cons_zero, List.getElem?_cons_succ, Nat.zero_add, Nat.add_zero, Nat.zero_mul]
    rw [show decide ((-1 : Int) < 0) = true from rfl]
    simp only [Pv_some, fldV_p, nilV_p, nilV_f, lenV_s, capV_s, lenSV_s, strV_s, unV_not, unV_neg, pickV_t, pickV_f, exV_t, cvIV_i, binI_add, binI_sub, binI_mul, binI_eql, binI_neq, binI_lss, binI_leq, binI_gtr, binI_geq, binI_and, binI_or, binB_eql, binB_neq, binS_eql, binS_neq, binP_eql_nil, binP_neq_nil, binN_eql_nil, binN_neq_nil, binN_eql_nn, binN_neq_nn, Br_true, Br_false, cells_agg, List.getElem?_toArray, List.getElem?_cons_zero, List.getElem?_cons_succ, Nat.zero_add, Nat.add_zero, Nat.zero_mul]
    exact Gh.done (hk X I (Ext.refl I) hN)
  | some p =>
    obtain ⟨ep, hep, hpid⟩ := pos_some hp
    have hd : dblN n id = sendN n ep := by simp [dblN, hp, hep]
    rw [hd] at hk
    rw [show posI n.es id = (p : Int) from by simp [posI, hp]]
    have hpl : p < n.es.length := (List.getElem?_eq_some_iff.1 hep).1
    obtain ⟨lv, XL, cells, rfl, hS, hR⟩ := _root_.id hN
    have h1' : ¬ ((p : Int) < 0) := by omega
    simp only [Pv_some, fldV_p, nilV_p, nilV_f, lenV_s, capV_s, lenSV_s, strV_s, unV_not, unV_neg, pickV_t, pickV_f, exV_t, cvIV_i, binI_add, binI_sub, binI_mul, binI_eql, binI_neq, binI_lss, binI_leq, binI_gtr, binI_geq, binI_and, binI_or, binB_eql, binB_neq, binS_eql, binS_neq, binP_eql_nil, binP_neq_nil, binN_eql_nil, binN_neq_nil, binN_eql_nn, binN_neq_nn, Br_true, Br_false, cells_agg, List.getElem?_toArray, List.getElem?_cons_zero, List.getElem?_cons_succ, Nat.zero_add, Nat.add_zero, Nat.zero_mul, h1', decide_false, List.cons_append]
    refine rdb ?_
    obtain ⟨bl, hix, hc⟩ := hS.ix .i64 hpl
    obtain ⟨hgl, hg⟩ := hR.get hep
    simp only [hix, Pv_some, fldV_p, nilV_p, nilV_f, lenV_s, capV_s, lenSV_s, strV_s, unV_not, unV_neg, pickV_t, pickV_f, exV_t, cvIV_i, binI_add, binI_sub, binI_mul, binI_eql, binI_neq, binI_lss, binI_leq, binI_gtr, binI_geq, binI_and, binI_or, binB_eql, binB_neq, binS_eql, binS_neq, binP_eql_nil, binP_neq_nil, binN_eql_nil, binN_neq_nil, binN_eql_nn, binN_neq_nn, Br_true, Br_false, cells_agg, List.getElem?_toArray, List.getElem?_cons_zero, List.getElem?_cons_succ, Nat.zero_add, Nat.add_zero, Nat.zero_mul]
    refine rdN hgl (hc I _ (fun x hx => by simp [hx])) ?_
    refine call (rsend_spec (X := _ :: XL) hN hg h0 h1 (fun X' I' hI hN' => ?_))
    simp only [Pv_some, fldV_p, nilV_p, nilV_f, lenV_s, capV_s, lenSV_s, strV_s, unV_not, unV_neg, pickV_t, pickV_f, exV_t, cvIV_i, binI_add, binI_sub, binI_mul, binI_eql, binI_neq, binI_lss, binI_leq, binI_gtr, binI_geq, binI_and, binI_or, binB_eql, binB_neq, binS_eql, binS_neq, binP_eql_nil, binP_neq_nil, binN_eql_nil, binN_neq_nil, binN_eql_nn, binN_neq_nn, Br_true, Br_false, cells_agg, List.getElem?_toArray, List.getElem?_cons_zero, List.getElem?_cons_succ, Nat.zero_add, Nat.add_zero, Nat.zero_mul]
    exact Gh.done (hk X' I' hI hN')

theorem len_spec {b : Nat} {X F : LH} {n : N} (hN : NetR 61 I b X n) (hk : K (.int .i64 n.es.length) I (X ++ F)) : Cal Try.prog ω 39 #[.pointer (some ⟨b, 0, none⟩)] K I (X ++ F) := by
  obtain ⟨lv, XL, cells, rfl, hS, hR⟩ := _root_.id hN
  refine cal39 ?_
  unfold sh39
  obtain ⟨a1, cap1, rfl⟩ := hS.form
  simp only [Pv_some, fldV_p, nilV_p, nilV_f, lenV_s, capV_s, lenSV_s, strV_s, unV_not, unV_neg, pickV_t, pickV_f, exV_t, cvIV_i, binI_add, binI_sub, binI_mul, binI_eql, binI_neq, binI_lss, binI_leq, binI_gtr, binI_geq, binI_and, binI_or, binB_eql, binB_neq, binS_eql, binS_neq, binP_eql_nil, binP_neq_nil, binN_eql_nil, binN_neq_nil, binN_eql_nn, binN_neq_nn, Br_true, Br_false, cells_agg, List.getElem?_toArray, List.getElem?_cons_zero, List.getElem?_cons_succ, Nat.zero_add, Nat.add_zero, Nat.zero_mul, List.cons_append]
  refine rdb ?_
  simp only [Pv_some, fldV_p, nilV_p, nilV_f, lenV_s, capV_s, lenSV_s, strV_s, unV_not, unV_neg, pickV_t, pickV_f, exV_t, cvIV_i, binI_add, binI_sub, binI_mul, binI_eql, binI_neq, binI_lss, binI_leq, binI_gtr, binI_geq, binI_and, binI_or, binB_eql, binB_neq, binS_eql, binS_neq, binP_eql_nil, binP_neq_nil, binN_eql_nil, binN_neq_nil, binN_eql_nn, binN_neq_nn, Br_true, Br_false, cells_agg, List.getElem?_toArray, List.getElem?_cons_zero, List.getElem?_cons_succ, Nat.zero_add, Nat.add_zero, Nat.zero_mul]
  exact Gh.done hk

theorem at_out {b : Nat} {X F : LH} {n : N} {k : Int} (hN : NetR 61 I b X n) (ho : k < 0 ∨ (n.es.length : Int) ≤ k) (hk : ∀ c, EnvV I zeroE c → K (.tuple #[.agg c.toArray, .bool false]) I (X ++ F)) : Cal Try.prog ω 40 #[.pointer (some ⟨b, 0, none⟩), .int .i64 k] K I (X ++ F) := by
  refine cal40 ?_
  unfold sh40
  refine newI (fun b1 => ?_)
  have out : sh40_1 ω (.pointer (some ⟨b1, 0, none⟩)) (.bool false) (fun v => Gh (K v)) I ((b1, Obj.cells #[.int .i64 0, .int .i64 0, .int .i64 0, .int .i64 0, .slice none 0 0] 30 (0, 0)) :: (X ++ F)) := by
    unfold sh40_1
    rw [show bldV #[.int .i64 0, .int .i64 0, .int .i64 0, .int .i64 0, .slice none 0 0] #[(0, 1), (1, 1), (2, 1), (3, 1), (4, 1)] [] = some (.agg #[.int .i64 0, .int .i64 0, .int .i64 0, .int .i64 0, .slice none 0 0]) from rfl]
    simp only [Pv_some, fldV_p, nilV_p, nilV_f, lenV_s, capV_s, lenSV_s, strV_s, unV_not, unV_neg, pickV_t, pickV_f, exV_t, cvIV_i, binI_add, binI_sub, binI_mul, binI_eql, binI_neq, binI_lss, binI_leq, binI_gtr, binI_geq, binI_and, binI_or, binB_eql, binB_neq, binS_eql, binS_neq, binP_eql_nil, binP_neq_nil, binN_eql_nil, binN_neq_nil, binN_eql_nn, binN_neq_nn, Br_true, Br_false, cells_agg, List.getElem?_toArray, List.getElem?_cons_zero, List.getElem?_cons_succ, Nat.zero_add, Nat.add_zero, Nat.zero_mul]
    refine stB rfl rfl (one_all rfl) ?_
    refine rdB rfl ?_
    exact Gh.to (X ++ F) (Gh.done (hk _ (zeroE_V I)))
  simp only [Pv_some, fldV_p, nilV_p, nilV_f, lenV_s, capV_s, lenSV_s, strV_s, unV_not, unV_neg, pickV_t, pickV_f, exV_t, cvIV_i, binI_add, binI_sub, binI_mul, binI_eql, binI_neq, binI_lss, binI_leq, binI_gtr, binI_geq, binI_and, binI_or, binB_eql, binB_neq, binS_eql, binS_neq, binP_eql_nil, binP_neq_nil, binN_eql_nil, binN_neq_nil, binN_eql_nn, binN_neq_nn, Br_true, Br_false, cells_agg, List.getElem?_toArray, List.getElem?_cons_zero, List.getElem?_cons_succ, Nat.zero_add, Nat.add_zero, Nat.zero_mul]
  refine gd_split (fun h => ?_) (fun _ => out)
  simp only [decide_eq_false_iff_not] at h
  obtain ⟨lv, XL, cells, rfl, hS, hR⟩ := _root_.id hN
  obtain ⟨a1, cap1, rfl⟩ := hS.form
  simp only [List.cons_append]
  refine rdb ?_
  simp only [Pv_some, fldV_p, nilV_p, nilV_f, lenV_s, capV_s, lenSV_s, strV_s, unV_not, unV_neg, pickV_t, pickV_f, exV_t, cvIV_i, binI_add, binI_sub, binI_mul, binI_eql, binI_neq, binI_lss, binI_leq, binI_gtr, binI_geq, binI_and, binI_or, binB_eql, binB_neq, binS_eql, binS_neq, binP_eql_nil, binP_neq_nil, binN_eql_nil, binN_neq_nil, binN_eql_nn, binN_neq_nn, Br_true, Br_false, cells_agg, List.getElem?_toArray, List.getElem?_cons_zero, List.getElem?_cons_succ, Nat.zero_add, Nat.add_zero, Nat.zero_mul]
  have h2 : (n.es.length : Int) ≤ k := by omega
  simp only [h2, decide_true, Br_true]
  exact out

theorem at_in {b k : Nat} {X F : LH} {n : N} {e : E} (hN : NetR 61 I b X n) (he : n.es[k]? = some e) (hb : e.body.length ≤ 1048576) (hk : ∀ c I', Ext I I' → EnvV I' e c → K (.tuple #[.agg c.toArray, .bool true]) I' (X ++ F)) : Cal Try.prog ω 40 #[.pointer (some ⟨b, 0, none⟩), .int .i64 k] K I (X ++ F) := by
  refine cal40 ?_
  unfold sh40
  refine newI (fun b1 => ?_)
  have hkl := (List.getElem?_eq_some_iff.1 he).1
  simp only [Pv_some, fldV_p, nilV_p, nilV_f, lenV_s, capV_s, lenSV_s, strV_s, unV_not, unV_neg, pickV_t, pickV_f, exV_t, cvIV_i, binI_add, binI_sub, binI_mul, binI_eql, binI_neq, binI_lss, binI_leq, binI_gtr, binI_geq, binI_and, binI_or, binB_eql, binB_neq, binS_eql, binS_neq, binP_eql_nil, binP_neq_nil, binN_eql_nil, binN_neq_nil, binN_eql_nn, binN_neq_nn, Br_true, Br_false, cells_agg, List.getElem?_toArray, List.getElem?_cons_zero, List.getElem?_cons_succ, Nat.zero_add, Nat.add_zero, Nat.zero_mul]
  refine gd_split (fun h => ?_) (fun h => absurd (by simp) h)
  obtain ⟨lv, XL, cells, rfl, hS, hR⟩ := _root_.id hN
  obtain ⟨a1, cap1, hf⟩ := hS.form
  simp only [List.cons_append]
  refine rdb ?_
  rw [show lenV lv = some (.int .i64 n.es.length) from by rw [hf]; rfl]
  simp only [Pv_some, fldV_p, nilV_p, nilV_f, lenV_s, capV_s, lenSV_s, strV_s, unV_not, unV_neg, pickV_t, pickV_f, exV_t, cvIV_i, binI_add, binI_sub, binI_mul, binI_eql, binI_neq, binI_lss, binI_leq, binI_gtr, binI_geq, binI_and, binI_or, binB_eql, binB_neq, binS_eql, binS_neq, binP_eql_nil, binP_neq_nil, binN_eql_nil, binN_neq_nil, binN_eql_nn, binN_neq_nn, Br_true, Br_false, cells_agg, List.getElem?_toArray, List.getElem?_cons_zero, List.getElem?_cons_succ, Nat.zero_add, Nat.add_zero, Nat.zero_mul]
  have h2 : ¬ (n.es.length : Int) ≤ k := by omega
  simp only [h2, decide_false, Br_false]
  refine rdb ?_
  obtain ⟨bl, hix, hc⟩ := hS.ix .i64 hkl
  obtain ⟨hgl, hg⟩ := hR.get he
  simp only [hix, Pv_some, fldV_p, nilV_p, nilV_f, lenV_s, capV_s, lenSV_s, strV_s, unV_not, unV_neg, pickV_t, pickV_f, exV_t, cvIV_i, binI_add, binI_sub, binI_mul, binI_eql, binI_neq, binI_lss, binI_leq, binI_gtr, binI_geq, binI_and, binI_or, binB_eql, binB_neq, binS_eql, binS_neq, binP_eql_nil, binP_neq_nil, binN_eql_nil, binN_neq_nil, binN_eql_nn, binN_neq_nn, Br_true, Br_false, cells_agg, List.getElem?_toArray, List.getElem?_cons_zero, List.getElem?_cons_succ, Nat.zero_add, Nat.add_zero, Nat.zero_mul]
  refine rdN hgl (hc I _ (fun x hx => by simp [hx])) ?_
  refine call (copied_spec hg hb (fun c' I' hI he' => ?_))
  refine stB he'.len rfl he'.one ?_
  refine rdB he'.len ?_
  exact Gh.to ((b, Obj.cells #[lv, .int .i64 n.last] 61 (0, 0)) :: (XL ++ F)) (Gh.done (hk _ I' hI he'))

end
end Go.Proofs.Ytfeonffmeajpgaa
