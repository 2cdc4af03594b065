import Derived.Test.YtfeonffmeajpgaaSh
import Derived.Test.YtfeonffmeajpgaaSlData
set_option linter.unusedSimpArgs false
set_option linter.unusedVariables false
namespace Go.Proofs.Ytfeonffmeajpgaa
open Go.SL
set_option maxRecDepth 10000

structure E where
  id : Int
  frm : Int
  to : Int
  kind : Int
  body : List UInt8
def EnvV (I : Imm) (e : E) (c : List Value) : Prop := ∃ bv, c = [.int .i64 e.id, .int .i64 e.frm, .int .i64 e.to, .int .i64 e.kind, bv] ∧ Bytes I bv e.body

section
variable {ω : Om} {I : Imm} {L : LH} {K : Value → M}

def nodeB (n : Int) : Bool := decide (1 ≤ n ∧ n ≤ 5)
theorem node_spec {a : Int} (hk : K (.bool (nodeB a)) I L) : Cal Try.prog ω 31 #[.int .i64 a] K I L := by
  refine cal31 ?_
  unfold sh31
  simp only [Pv_some, fldV_p, nilV_p, nilV_f, lenV_s, capV_s, lenSV_s, strV_s, unV_not, unV_neg, pickV_t, pickV_f, exV_t, cvIV_i, binI_add, binI_sub, binI_mul, binI_eql, binI_neq, binI_lss, binI_leq, binI_gtr, binI_geq, binI_and, binI_or, binB_eql, binB_neq, binS_eql, binS_neq, binP_eql_nil, binP_neq_nil, binN_eql_nil, binN_neq_nil, binN_eql_nn, binN_neq_nn, Br_true, Br_false, cells_agg, List.getElem?_toArray, List.getElem?_cons_zero, List.getElem?_cons_succ, Nat.zero_add, Nat.add_zero, Nat.zero_mul]
  refine gd_split (fun h => ?_) (fun h => ?_)
  · simp only [decide_eq_true_eq] at h
    refine Gh.done ?_
    rwa [show decide (a ≤ 5) = nodeB a from by simp [nodeB, h]]
  · simp only [ne_eq, decide_eq_true_eq] at h
    refine Gh.done ?_
    rwa [show false = nodeB a from by simp [nodeB, h]]

theorem copied_spec {e : E} {c : List Value} (he : EnvV I e c) (hb : e.body.length ≤ 1048576) (hk : ∀ c' I', Ext I I' → EnvV I' e c' → K (.agg c'.toArray) I' L) : Cal Try.prog ω 32 #[.agg c.toArray] K I L := by
  obtain ⟨bv, rfl, hB⟩ := he
  obtain ⟨a0, cap0, rfl⟩ := hB.form
  refine cal32 ?_
  unfold sh32
  refine newI (fun b1 => newI (fun b2 => ?_))
  simp only [Pv_some, fldV_p, nilV_p, nilV_f, lenV_s, capV_s, lenSV_s, strV_s, unV_not, unV_neg, pickV_t, pickV_f, exV_t, cvIV_i, binI_add, binI_sub, binI_mul, binI_eql, binI_neq, binI_lss, binI_leq, binI_gtr, binI_geq, binI_and, binI_or, binB_eql, binB_neq, binS_eql, binS_neq, binP_eql_nil, binP_neq_nil, binN_eql_nil, binN_neq_nil, binN_eql_nn, binN_neq_nn, Br_true, Br_false, cells_agg, List.getElem?_toArray, List.getElem?_cons_zero, List.getElem?_cons_succ, Nat.zero_add, Nat.add_zero, Nat.zero_mul]
  refine draw (Stay I _) (Stay.start I _) ?_
  refine rdbS ?_
  simp only [Pv_some, fldV_p, nilV_p, nilV_f, lenV_s, capV_s, lenSV_s, strV_s, unV_not, unV_neg, pickV_t, pickV_f, exV_t, cvIV_i, binI_add, binI_sub, binI_mul, binI_eql, binI_neq, binI_lss, binI_leq, binI_gtr, binI_geq, binI_and, binI_or, binB_eql, binB_neq, binS_eql, binS_neq, binP_eql_nil, binP_neq_nil, binN_eql_nil, binN_neq_nil, binN_eql_nn, binN_neq_nn, Br_true, Br_false, cells_agg, List.getElem?_toArray, List.getElem?_cons_zero, List.getElem?_cons_succ, Nat.zero_add, Nat.add_zero, Nat.zero_mul]
  refine mk_own (ln := 0) (by omega) (by omega) (by omega) (fun X v hX => ?_)
  refine keepS (Ext.refl I) (fun x hx => List.mem_append_right _ hx) ?_
  refine rdbS ?_
  refine app_own rfl hX (SlI.news hB) (u8s_one _) (by omega) (by omega) (fun X' v' hX' => ?_)
  obtain ⟨a1, cap1, rfl⟩ := hX'.form
  refine st1 rfl ?_
  refine rdB rfl ?_
  refine stB rfl rfl (one_all rfl) ?_
  refine rdB rfl ?_
  refine SlO.freeze hX' (fun I' hI hS => ?_)
  refine Gh.drop (L' := L) (by simp) (Gh.done (hk _ I' hI ⟨_, rfl, ?_⟩))
  simpa [Bytes, Builtin.zeroCells] using hS

theorem EnvV.mono {I I' : Imm} {e : E} {c : List Value} (h : EnvV I e c) (hI : Ext I I') : EnvV I' e c := by
  obtain ⟨bv, hc, hB⟩ := h
  exact ⟨bv, hc, hB.mono hI⟩

structure N where
  es : List E
  last : Int
/-- a line in memory: the struct at block 'b', of type T, and its list -/
def NetR (T : Nat) (I : Imm) (b : Nat) (X : LH) (n : N) : Prop :=
  ∃ lv XL cells, X = (b, Obj.cells #[lv, .int .i64 n.last] T (0, 0)) :: XL ∧ SlO 30 5 XL lv cells n.es.length ∧ Recs (EnvV I) 5 n.es cells
theorem NetR.mono {T : Nat} {I I' : Imm} {b : Nat} {X : LH} {n : N} (h : NetR T I b X n) (hI : Ext I I') : NetR T I' b X n := by
  obtain ⟨lv, XL, cells, hX, hS, hR⟩ := h
  exact ⟨lv, XL, cells, hX, hS, hR.imp fun _ _ h => h.mono hI⟩

def okE (e : E) : Bool := nodeB e.frm && nodeB e.to && decide (1 ≤ e.kind) && decide (e.kind ≤ 255) && decide (e.body.length ≤ 1048576)
def sendN (n : N) (e : E) : Int × Int × N :=
  if okE e = false then (0, 1, n) else if 1000 ≤ n.es.length then (0, 90, n) else (n.last + 1, 0, ⟨n.es ++ [{ e with id := n.last + 1 }], n.last + 1⟩)

set_option maxHeartbeats 400000 in
theorem send_spec {b : Nat} {X F : LH} {n : N} {e : E} {c : List Value} (hN : NetR 61 I b X n) (he : EnvV I e c) (h0 : 0 ≤ n.last) (h1 : n.last < 4611686018427387904)
    (hk : ∀ X' I', Ext I I' → NetR 61 I' b X' (sendN n e).2.2 → K (.tuple #[.int .i64 (sendN n e).1, .int .i64 (sendN n e).2.1]) I' (X' ++ F)) :
    Cal Try.prog ω 11 #[.pointer (some ⟨b, 0, none⟩), .agg c.toArray] K I (X ++ F) := by
  obtain ⟨bv, rfl, hB⟩ := he
  obtain ⟨a0, cap0, rfl⟩ := hB.form
  refine cal11 ?_
  have bad : okE e = false → ∀ (b1 : Nat) o, Gh (K (.tuple #[.int .i64 0, .int .i64 1])) I ((b1, o) :: (X ++ F)) := by
    intro hbad b1 o
    have hs : sendN n e = (0, 1, n) := by simp [sendN, hbad]
    rw [hs] at hk
    exact Gh.drop (List.sublist_cons_self ..) (Gh.done (hk X I (Ext.refl I) hN))
  unfold sh11
  refine newI (fun b1 => ?_)
  simp only [Pv_some, fldV_p, nilV_p, nilV_f, lenV_s, capV_s, lenSV_s, strV_s, unV_not, unV_neg, pickV_t, pickV_f, exV_t, cvIV_i, binI_add, binI_sub, binI_mul, binI_eql, binI_neq, binI_lss, binI_leq, binI_gtr, binI_geq, binI_and, binI_or, binB_eql, binB_neq, binS_eql, binS_neq, binP_eql_nil, binP_neq_nil, binN_eql_nil, binN_neq_nil, binN_eql_nn, binN_neq_nn, Br_true, Br_false, cells_agg, List.getElem?_toArray, List.getElem?_cons_zero, List.getElem?_cons_succ, Nat.zero_add, Nat.add_zero, Nat.zero_mul]
  refine rdb ?_
  refine call (node_spec ?_)
  simp only [Pv_some, fldV_p, nilV_p, nilV_f, lenV_s, capV_s, lenSV_s, strV_s, unV_not, unV_neg, pickV_t, pickV_f, exV_t, cvIV_i, binI_add, binI_sub, binI_mul, binI_eql, binI_neq, binI_lss, binI_leq, binI_gtr, binI_geq, binI_and, binI_or, binB_eql, binB_neq, binS_eql, binS_neq, binP_eql_nil, binP_neq_nil, binN_eql_nil, binN_neq_nil, binN_eql_nn, binN_neq_nn, Br_true, Br_false, cells_agg, List.getElem?_toArray, List.getElem?_cons_zero, List.getElem?_cons_succ, Nat.zero_add, Nat.add_zero, Nat.zero_mul]
  cases hf : nodeB e.frm with
  | false => simp only [Bool.not_false, Br_true]; unfold sh11_1; exact bad (by simp [okE, hf]) _ _
  | true =>
  simp only [Bool.not_true, Br_false]
  refine rdb ?_
  refine call (node_spec ?_)
  simp only [Pv_some, fldV_p, nilV_p, nilV_f, lenV_s, capV_s, lenSV_s, strV_s, unV_not, unV_neg, pickV_t, pickV_f, exV_t, cvIV_i, binI_add, binI_sub, binI_mul, binI_eql, binI_neq, binI_lss, binI_leq, binI_gtr, binI_geq, binI_and, binI_or, binB_eql, binB_neq, binS_eql, binS_neq, binP_eql_nil, binP_neq_nil, binN_eql_nil, binN_neq_nil, binN_eql_nn, binN_neq_nn, Br_true, Br_false, cells_agg, List.getElem?_toArray, List.getElem?_cons_zero, List.getElem?_cons_succ, Nat.zero_add, Nat.add_zero, Nat.zero_mul]
  cases ht : nodeB e.to with
  | false => simp only [Bool.not_false, Br_true]; unfold sh11_1; exact bad (by simp [okE, ht]) _ _
  | true =>
  simp only [Bool.not_true, Br_false]
  refine rdb ?_
  simp only [Pv_some, fldV_p, nilV_p, nilV_f, lenV_s, capV_s, lenSV_s, strV_s, unV_not, unV_neg, pickV_t, pickV_f, exV_t, cvIV_i, binI_add, binI_sub, binI_mul, binI_eql, binI_neq, binI_lss, binI_leq, binI_gtr, binI_geq, binI_and, binI_or, binB_eql, binB_neq, binS_eql, binS_neq, binP_eql_nil, binP_neq_nil, binN_eql_nil, binN_neq_nil, binN_eql_nn, binN_neq_nn, Br_true, Br_false, cells_agg, List.getElem?_toArray, List.getElem?_cons_zero, List.getElem?_cons_succ, Nat.zero_add, Nat.add_zero, Nat.zero_mul]
  by_cases hk1 : e.kind < 1
  · simp only [hk1, decide_true, Br_true]; unfold sh11_1; exact bad (by simp [okE]; omega) _ _
  simp only [hk1, decide_false, Br_false]
  refine rdb ?_
  simp only [Pv_some, fldV_p, nilV_p, nilV_f, lenV_s, capV_s, lenSV_s, strV_s, unV_not, unV_neg, pickV_t, pickV_f, exV_t, cvIV_i, binI_add, binI_sub, binI_mul, binI_eql, binI_neq, binI_lss, binI_leq, binI_gtr, binI_geq, binI_and, binI_or, binB_eql, binB_neq, binS_eql, binS_neq, binP_eql_nil, binP_neq_nil, binN_eql_nil, binN_neq_nil, binN_eql_nn, binN_neq_nn, Br_true, Br_false, cells_agg, List.getElem?_toArray, List.getElem?_cons_zero, List.getElem?_cons_succ, Nat.zero_add, Nat.add_zero, Nat.zero_mul]
  by_cases hk2 : 255 < e.kind
  · simp only [hk2, decide_true, Br_true]; unfold sh11_1; exact bad (by simp [okE]; omega) _ _
  simp only [hk2, decide_false, Br_false]
  refine rdb ?_
  simp only [Pv_some, fldV_p, nilV_p, nilV_f, lenV_s, capV_s, lenSV_s, strV_s, unV_not, unV_neg, pickV_t, pickV_f, exV_t, cvIV_i, binI_add, binI_sub, binI_mul, binI_eql, binI_neq, binI_lss, binI_leq, binI_gtr, binI_geq, binI_and, binI_or, binB_eql, binB_neq, binS_eql, binS_neq, binP_eql_nil, binP_neq_nil, binN_eql_nil, binN_neq_nil, binN_eql_nn, binN_neq_nn, Br_true, Br_false, cells_agg, List.getElem?_toArray, List.getElem?_cons_zero, List.getElem?_cons_succ, Nat.zero_add, Nat.add_zero, Nat.zero_mul]
  unfold sh11_1
  by_cases hb2 : (1048576 : Int) < e.body.length
  · simp only [hb2, decide_true, Br_true]; exact bad (by simp [okE]; omega) _ _
  simp only [hb2, decide_false, Br_false, Pv_some, fldV_p, nilV_p, nilV_f, lenV_s, capV_s, lenSV_s, strV_s, unV_not, unV_neg, pickV_t, pickV_f, exV_t, cvIV_i, binI_add, binI_sub, binI_mul, binI_eql, binI_neq, binI_lss, binI_leq, binI_gtr, binI_geq, binI_and, binI_or, binB_eql, binB_neq, binS_eql, binS_neq, binP_eql_nil, binP_neq_nil, binN_eql_nil, binN_neq_nil, binN_eql_nn, binN_neq_nn, Br_true, Br_false, cells_agg, List.getElem?_toArray, List.getElem?_cons_zero, List.getElem?_cons_succ, Nat.zero_add, Nat.add_zero, Nat.zero_mul]
  have hok : okE e = true := by simp [okE, hf, ht]; omega
  obtain ⟨lv, XL, cells, rfl, hS, hR⟩ := id hN
  obtain ⟨a1, cap1, rfl⟩ := hS.form
  simp only [List.cons_append]
  refine rdb ?_
  simp only [Pv_some, fldV_p, nilV_p, nilV_f, lenV_s, capV_s, lenSV_s, strV_s, unV_not, unV_neg, pickV_t, pickV_f, exV_t, cvIV_i, binI_add, binI_sub, binI_mul, binI_eql, binI_neq, binI_lss, binI_leq, binI_gtr, binI_geq, binI_and, binI_or, binB_eql, binB_neq, binS_eql, binS_neq, binP_eql_nil, binP_neq_nil, binN_eql_nil, binN_neq_nil, binN_eql_nn, binN_neq_nn, Br_true, Br_false, cells_agg, List.getElem?_toArray, List.getElem?_cons_zero, List.getElem?_cons_succ, Nat.zero_add, Nat.add_zero, Nat.zero_mul]
  by_cases hful : (1000 : Int) ≤ n.es.length
  · simp only [hful, decide_true, Br_true]
    have hs : sendN n e = (0, 90, n) := by simp [sendN, hok]; omega
    rw [hs] at hk
    exact Gh.drop (List.sublist_cons_self ..) (Gh.done (hk _ I (Ext.refl I) hN))
  simp only [hful, decide_false, Br_false]
  have hs : sendN n e = (n.last + 1, 0, ⟨n.es ++ [{ e with id := n.last + 1 }], n.last + 1⟩) := by simp [sendN, hok]; omega
  rw [hs] at hk
  refine rdb ?_
  simp only [Pv_some, fldV_p, nilV_p, nilV_f, lenV_s, capV_s, lenSV_s, strV_s, unV_not, unV_neg, pickV_t, pickV_f, exV_t, cvIV_i, binI_add, binI_sub, binI_mul, binI_eql, binI_neq, binI_lss, binI_leq, binI_gtr, binI_geq, binI_and, binI_or, binB_eql, binB_neq, binS_eql, binS_neq, binP_eql_nil, binP_neq_nil, binN_eql_nil, binN_neq_nil, binN_eql_nn, binN_neq_nn, Br_true, Br_false, cells_agg, List.getElem?_toArray, List.getElem?_cons_zero, List.getElem?_cons_succ, Nat.zero_add, Nat.add_zero, Nat.zero_mul, wrap_i64 (n.last + 1) (by omega)]
  refine st1 rfl ?_
  refine rdb ?_
  refine st1 rfl ?_
  refine draw (Stay I _) (Stay.start I _) ?_
  refine rdbS ?_
  refine rdBS rfl ?_
  refine call (copied_spec (e := { e with id := n.last + 1 }) ⟨_, rfl, hB⟩ (by simp only; omega) (fun c' I' hI he' => ?_))
  refine keepS hI (fun x hx => hx) ?_
  refine bld_one rfl (by omega) (by obtain ⟨bv', rfl, _⟩ := he'; rfl) (fun X1 u hX1 => ?_)
  refine keepS hI (fun x hx => List.mem_append_right _ hx) ?_
  refine app_own (X := XL) rfl hS (hX1.news (fun x hx => List.mem_append_left _ hx)) ?_ (by omega) (by omega) (fun X' v' hX' => ?_)
  · obtain ⟨bv', rfl, hb'⟩ := he'
    obtain ⟨_, _, rfl⟩ := hb'.form
    exact one_all rfl
  obtain ⟨a2, cap2, rfl⟩ := hX'.form
  try simp only [Pv_some, fldV_p, nilV_p, nilV_f, lenV_s, capV_s, lenSV_s, strV_s, unV_not, unV_neg, pickV_t, pickV_f, exV_t, cvIV_i, binI_add, binI_sub, binI_mul, binI_eql, binI_neq, binI_lss, binI_leq, binI_gtr, binI_geq, binI_and, binI_or, binB_eql, binB_neq, binS_eql, binS_neq, binP_eql_nil, binP_neq_nil, binN_eql_nil, binN_neq_nil, binN_eql_nn, binN_neq_nn, Br_true, Br_false, cells_agg, List.getElem?_toArray, List.getElem?_cons_zero, List.getElem?_cons_succ, Nat.zero_add, Nat.add_zero, Nat.zero_mul]
  refine st1 rfl ?_
  refine rdb ?_
  refine Gh.to (_ :: (X' ++ F)) (Gh.done (hk (_ :: X') I' hI ⟨_, X', _, rfl, by simpa using hX', ?_⟩))
  refine Recs.append (hR.imp fun _ _ h => h.mono hI) ?_
  obtain ⟨bv', rfl, hb'⟩ := he'
  exact Recs.one rfl ⟨_, rfl, hb'⟩
end
end Go.Proofs.Ytfeonffmeajpgaa
