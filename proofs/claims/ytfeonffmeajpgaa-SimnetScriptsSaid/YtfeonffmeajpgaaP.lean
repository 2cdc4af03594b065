import Derived.Test.YtfeonffmeajpgaaR3
set_option linter.unusedSimpArgs false
set_option linter.unusedVariables false
namespace Go.Proofs.Ytfeonffmeajpgaa
open Go.SL
set_option maxRecDepth 10000

section
variable {ω : Om} {I : Imm} {L : LH} {K : Value → M}

structure Fine (n : N) (i : Nat) : Prop where
  ok : OkN n
  len : n.es.length ≤ 1000
  body : ∀ e ∈ n.es, e.body.length ≤ 1048576
  last : n.last ≤ i

theorem Fine.next {n : N} {i : Nat} (h : Fine n i) : Fine n (i + 1) := ⟨h.ok, h.len, h.body, by have := h.last; omega⟩
theorem Fine.send {n : N} {i : Nat} (h : Fine n i) (hi : i < 4611686018427387900) (e : E) : Fine (sendN n e).2.2 (i + 1) := by
  unfold sendN
  split
  · exact h.next
  · rename_i hok
    split
    · exact h.next
    · have hl := h.last
      have hle := h.len
      refine ⟨h.ok.snoc e (by omega), by simp; omega, fun x hx => ?_, by simp only; omega⟩
      rcases List.mem_append.1 hx with hx | hx
      · exact h.body x hx
      · simp only [List.mem_singleton] at hx; subst hx
        simp [okE] at hok
        exact hok.2.2.2.2
theorem Fine.del {n : N} {i : Nat} (h : Fine n i) (id : Int) : Fine (delN n id).2.2 (i + 1) := by
  unfold delN
  split
  · exact h.next
  · rename_i p hp
    have hsub : (n.es.eraseIdx p).Sublist n.es := List.eraseIdx_sublist ..
    have hl := h.last
    exact ⟨⟨h.ok.sorted.sublist hsub, fun x hx => h.ok.low x (hsub.subset hx), fun x hx => h.ok.high x (hsub.subset hx), h.ok.last0, h.ok.last1⟩, Nat.le_trans hsub.length_le h.len, fun x hx => h.body x (hsub.subset hx), by simp only; omega⟩
theorem Fine.dbl {n : N} {i : Nat} (h : Fine n i) (hi : i < 4611686018427387900) (id : Int) : Fine (dblN n id).2.2 (i + 1) := by
  unfold dblN
  split
  · exact h.next
  · exact h.send hi _

set_option maxHeartbeats 800000 in
theorem samenet_spec {b b2 : Nat} {X1 X2 F : LH} {n : N} (hN : NetR 61 I b X1 n) (hM : NetR 45 I b2 X2 n) (hlen : n.es.length ≤ 1000) (hbody : ∀ e ∈ n.es, e.body.length ≤ 1048576)
    (hk : ∀ I', Ext I I' → K (.bool true) I' (X1 ++ (X2 ++ F))) : Cal Try.prog ω 23 #[.pointer (some ⟨b, 0, none⟩), .pointer (some ⟨b2, 0, none⟩)] K I (X1 ++ (X2 ++ F)) := by
  obtain ⟨lv, XL, cells, hX2, hS, hR⟩ := _root_.id hM
  have hlv : lenV lv = some (.int .i64 n.es.length) := by obtain ⟨a, c, rfl⟩ := hS.form; rfl
  have hmem : ∀ (x : Nat × Obj), x ∈ X2 → x ∈ X1 ++ (X2 ++ F) := fun x hx => by simp [hx]
  have hb2 : (b2, Obj.cells #[lv, .int .i64 n.last] 45 (0, 0)) ∈ X2 := by rw [hX2]; simp
  refine cal23 ?_
  unfold sh23
  refine call (len_spec hN ?_)
  simp only [Pv_some, fldV_p, nilV_p, nilV_f, lenV_s, capV_s, lenSV_s, strV_s, unV_not, unV_neg, pickV_t, pickV_f, exV_t, cvIV_i, binI_add, binI_sub, binI_mul, binI_eql, binI_neq, binI_lss, binI_leq, binI_gtr, binI_geq, binI_and, binI_or, binB_eql, binB_neq, binS_eql, binS_neq, binP_eql_nil, binP_neq_nil, binN_eql_nil, binN_neq_nil, binN_eql_nn, binN_neq_nn, Br_true, Br_false, cells_agg, List.getElem?_toArray, List.getElem?_cons_zero, List.getElem?_cons_succ, Nat.zero_add, Nat.add_zero, Nat.zero_mul]
  refine rd1 (v := lv) (Cell.own (hmem _ hb2) rfl) ?_
  simp only [hlv, Pv_some, fldV_p, nilV_p, nilV_f, lenV_s, capV_s, lenSV_s, strV_s, unV_not, unV_neg, pickV_t, pickV_f, exV_t, cvIV_i, binI_add, binI_sub, binI_mul, binI_eql, binI_neq, binI_lss, binI_leq, binI_gtr, binI_geq, binI_and, binI_or, binB_eql, binB_neq, binS_eql, binS_neq, binP_eql_nil, binP_neq_nil, binN_eql_nil, binN_neq_nil, binN_eql_nn, binN_neq_nn, Br_true, Br_false, cells_agg, List.getElem?_toArray, List.getElem?_cons_zero, List.getElem?_cons_succ, Nat.zero_add, Nat.add_zero, Nat.zero_mul]
  rw [show ((n.es.length : Int) != n.es.length) = false from by simp]
  simp only [Pv_some, fldV_p, nilV_p, nilV_f, lenV_s, capV_s, lenSV_s, strV_s, unV_not, unV_neg, pickV_t, pickV_f, exV_t, cvIV_i, binI_add, binI_sub, binI_mul, binI_eql, binI_neq, binI_lss, binI_leq, binI_gtr, binI_geq, binI_and, binI_or, binB_eql, binB_neq, binS_eql, binS_neq, binP_eql_nil, binP_neq_nil, binN_eql_nil, binN_neq_nil, binN_eql_nn, binN_neq_nn, Br_true, Br_false, cells_agg, List.getElem?_toArray, List.getElem?_cons_zero, List.getElem?_cons_succ, Nat.zero_add, Nat.add_zero, Nat.zero_mul]
  refine loop (fun s I' L' => Ext I I' ∧ L' = X1 ++ (X2 ++ F) ∧ ∃ k : Int, s = (.bool false, .int .i64 k, ()) ∧ -1 ≤ k ∧ k ≤ n.es.length + 1)
    (fun s _ _ => match s with | (_, .int _ k, _) => ((n.es.length : Int) + 1 - k).toNat | _ => 0) ⟨Ext.refl I, rfl, -1, rfl, by omega, by omega⟩ ?_
  rintro s I' L' ⟨hI, rfl, k, rfl, hk1, hk2⟩
  unfold sh23_3
  simp only [Pv_some, fldV_p, nilV_p, nilV_f, lenV_s, capV_s, lenSV_s, strV_s, unV_not, unV_neg, pickV_t, pickV_f, exV_t, cvIV_i, binI_add, binI_sub, binI_mul, binI_eql, binI_neq, binI_lss, binI_leq, binI_gtr, binI_geq, binI_and, binI_or, binB_eql, binB_neq, binS_eql, binS_neq, binP_eql_nil, binP_neq_nil, binN_eql_nil, binN_neq_nil, binN_eql_nn, binN_neq_nn, Br_true, Br_false, cells_agg, List.getElem?_toArray, List.getElem?_cons_zero, List.getElem?_cons_succ, Nat.zero_add, Nat.add_zero, Nat.zero_mul]
  refine rd1 (v := lv) (Cell.own (hmem _ hb2) rfl) ?_
  simp only [hlv, Pv_some, fldV_p, nilV_p, nilV_f, lenV_s, capV_s, lenSV_s, strV_s, unV_not, unV_neg, pickV_t, pickV_f, exV_t, cvIV_i, binI_add, binI_sub, binI_mul, binI_eql, binI_neq, binI_lss, binI_leq, binI_gtr, binI_geq, binI_and, binI_or, binB_eql, binB_neq, binS_eql, binS_neq, binP_eql_nil, binP_neq_nil, binN_eql_nil, binN_neq_nil, binN_eql_nn, binN_neq_nn, Br_true, Br_false, cells_agg, List.getElem?_toArray, List.getElem?_cons_zero, List.getElem?_cons_succ, Nat.zero_add, Nat.add_zero, Nat.zero_mul]
  by_cases hle : k ≤ n.es.length
  · simp only [hle, decide_true, Br_true]
    by_cases hout : k < 0 ∨ (n.es.length : Int) ≤ k
    · refine call (at_out (hN.mono hI) hout (fun c hc => ?_))
      simp only [Pv_some, fldV_p, nilV_p, nilV_f, lenV_s, capV_s, lenSV_s, strV_s, unV_not, unV_neg, pickV_t, pickV_f, exV_t, cvIV_i, binI_add, binI_sub, binI_mul, binI_eql, binI_neq, binI_lss, binI_leq, binI_gtr, binI_geq, binI_and, binI_or, binB_eql, binB_neq, binS_eql, binS_neq, binP_eql_nil, binP_neq_nil, binN_eql_nil, binN_neq_nil, binN_eql_nn, binN_neq_nn, Br_true, Br_false, cells_agg, List.getElem?_toArray, List.getElem?_cons_zero, List.getElem?_cons_succ, Nat.zero_add, Nat.add_zero, Nat.zero_mul]
      refine newI (fun b9 => ?_)
      refine stB hc.len rfl hc.one ?_
      have nx : sh23_6 ω (.bool false) (.int .i64 k) (.bool false) (fun s' => Gh fun I2 L2 => (Ext I I2 ∧ L2 = X1 ++ (X2 ++ F) ∧ ∃ k : Int, s' = (.bool false, .int .i64 k, ()) ∧ -1 ≤ k ∧ k ≤ n.es.length + 1) ∧ (match s' with | (_, .int _ k, _) => ((n.es.length : Int) + 1 - k).toNat | _ => 0) < ((n.es.length : Int) + 1 - k).toNat) (fun v => Gh (K v)) I' ((b9, Obj.cells c.toArray 30 (0, 0)) :: (X1 ++ (X2 ++ F))) := by
        unfold sh23_6 sh23_5 sh23_4
        simp only [Pv_some, fldV_p, nilV_p, nilV_f, lenV_s, capV_s, lenSV_s, strV_s, unV_not, unV_neg, pickV_t, pickV_f, exV_t, cvIV_i, binI_add, binI_sub, binI_mul, binI_eql, binI_neq, binI_lss, binI_leq, binI_gtr, binI_geq, binI_and, binI_or, binB_eql, binB_neq, binS_eql, binS_neq, binP_eql_nil, binP_neq_nil, binN_eql_nil, binN_neq_nil, binN_eql_nn, binN_neq_nn, Br_true, Br_false, cells_agg, List.getElem?_toArray, List.getElem?_cons_zero, List.getElem?_cons_succ, Nat.zero_add, Nat.add_zero, Nat.zero_mul, wrap_i64 (k + 1) (by omega)]
        refine Gh.to (X1 ++ (X2 ++ F)) (Gh.done ⟨⟨hI, rfl, k + 1, rfl, by omega, by omega⟩, ?_⟩)
        omega
      refine gd_split (fun h => ?_) (fun _ => nx)
      simp only [decide_eq_false_iff_not] at h
      refine rd1 (v := lv) (Cell.own (List.mem_cons_of_mem _ (hmem _ hb2)) rfl) ?_
      simp only [hlv, Pv_some, fldV_p, nilV_p, nilV_f, lenV_s, capV_s, lenSV_s, strV_s, unV_not, unV_neg, pickV_t, pickV_f, exV_t, cvIV_i, binI_add, binI_sub, binI_mul, binI_eql, binI_neq, binI_lss, binI_leq, binI_gtr, binI_geq, binI_and, binI_or, binB_eql, binB_neq, binS_eql, binS_neq, binP_eql_nil, binP_neq_nil, binN_eql_nil, binN_neq_nil, binN_eql_nn, binN_neq_nn, Br_true, Br_false, cells_agg, List.getElem?_toArray, List.getElem?_cons_zero, List.getElem?_cons_succ, Nat.zero_add, Nat.add_zero, Nat.zero_mul]
      have h2 : (k == (n.es.length : Int)) = true := by simp; omega
      simp only [h2, Br_true]
      exact nx
    · obtain ⟨q, rfl⟩ : ∃ q : Nat, k = q := ⟨k.toNat, by omega⟩
      have hq : q < n.es.length := by omega
      obtain ⟨eq, heq⟩ : ∃ x, n.es[q]? = some x := ⟨_, List.getElem?_eq_getElem hq⟩
      refine call (at_in (hN.mono hI) heq (hbody eq (List.mem_of_getElem? heq)) (fun c I2 hI2 hc => ?_))
      simp only [Pv_some, fldV_p, nilV_p, nilV_f, lenV_s, capV_s, lenSV_s, strV_s, unV_not, unV_neg, pickV_t, pickV_f, exV_t, cvIV_i, binI_add, binI_sub, binI_mul, binI_eql, binI_neq, binI_lss, binI_leq, binI_gtr, binI_geq, binI_and, binI_or, binB_eql, binB_neq, binS_eql, binS_neq, binP_eql_nil, binP_neq_nil, binN_eql_nil, binN_neq_nil, binN_eql_nn, binN_neq_nn, Br_true, Br_false, cells_agg, List.getElem?_toArray, List.getElem?_cons_zero, List.getElem?_cons_succ, Nat.zero_add, Nat.add_zero, Nat.zero_mul]
      refine newI (fun b9 => ?_)
      refine stB hc.len rfl hc.one ?_
      refine gd_split (fun h => ?_) (fun h => absurd (by simp) h)
      refine rd1 (v := lv) (Cell.own (List.mem_cons_of_mem _ (hmem _ hb2)) rfl) ?_
      simp only [hlv, Pv_some, fldV_p, nilV_p, nilV_f, lenV_s, capV_s, lenSV_s, strV_s, unV_not, unV_neg, pickV_t, pickV_f, exV_t, cvIV_i, binI_add, binI_sub, binI_mul, binI_eql, binI_neq, binI_lss, binI_leq, binI_gtr, binI_geq, binI_and, binI_or, binB_eql, binB_neq, binS_eql, binS_neq, binP_eql_nil, binP_neq_nil, binN_eql_nil, binN_neq_nil, binN_eql_nn, binN_neq_nn, Br_true, Br_false, cells_agg, List.getElem?_toArray, List.getElem?_cons_zero, List.getElem?_cons_succ, Nat.zero_add, Nat.add_zero, Nat.zero_mul]
      have h2 : ((q : Int) == (n.es.length : Int)) = false := by simp; omega
      simp only [h2, Br_false]
      refine draw (Stay I2 _) (Stay.start I2 _) ?_
      refine rdBS hc.len ?_
      refine rd1I (v := lv) (Cell.own (List.mem_cons_of_mem _ (hmem _ hb2)) rfl) ?_
      obtain ⟨bl, hix, hcc⟩ := hS.ix .i64 hq
      obtain ⟨hgl, hg⟩ := hR.get heq
      simp only [hix, Pv_some, fldV_p, nilV_p, nilV_f, lenV_s, capV_s, lenSV_s, strV_s, unV_not, unV_neg, pickV_t, pickV_f, exV_t, cvIV_i, binI_add, binI_sub, binI_mul, binI_eql, binI_neq, binI_lss, binI_leq, binI_gtr, binI_geq, binI_and, binI_or, binB_eql, binB_neq, binS_eql, binS_neq, binP_eql_nil, binP_neq_nil, binN_eql_nil, binN_neq_nil, binN_eql_nn, binN_neq_nn, Br_true, Br_false, cells_agg, List.getElem?_toArray, List.getElem?_cons_zero, List.getElem?_cons_succ, Nat.zero_add, Nat.add_zero, Nat.zero_mul]
      refine rdNI hgl (hcc I2 _ (fun x hx => by simp [hX2, hx])) ?_
      refine call (same_spec hc (hg.mono (hI.trans hI2)) ?_)
      simp only [sameE_refl, Pv_some, fldV_p, nilV_p, nilV_f, lenV_s, capV_s, lenSV_s, strV_s, unV_not, unV_neg, pickV_t, pickV_f, exV_t, cvIV_i, binI_add, binI_sub, binI_mul, binI_eql, binI_neq, binI_lss, binI_leq, binI_gtr, binI_geq, binI_and, binI_or, binB_eql, binB_neq, binS_eql, binS_neq, binP_eql_nil, binP_neq_nil, binN_eql_nil, binN_neq_nil, binN_eql_nn, binN_neq_nn, Br_true, Br_false, cells_agg, List.getElem?_toArray, List.getElem?_cons_zero, List.getElem?_cons_succ, Nat.zero_add, Nat.add_zero, Nat.zero_mul, Bool.not_true]
      refine gd_split (fun _ => ?_) (fun h => absurd rfl h)
      unfold sh23_5 sh23_4
      simp only [Pv_some, fldV_p, nilV_p, nilV_f, lenV_s, capV_s, lenSV_s, strV_s, unV_not, unV_neg, pickV_t, pickV_f, exV_t, cvIV_i, binI_add, binI_sub, binI_mul, binI_eql, binI_neq, binI_lss, binI_leq, binI_gtr, binI_geq, binI_and, binI_or, binB_eql, binB_neq, binS_eql, binS_neq, binP_eql_nil, binP_neq_nil, binN_eql_nil, binN_neq_nil, binN_eql_nn, binN_neq_nn, Br_true, Br_false, cells_agg, List.getElem?_toArray, List.getElem?_cons_zero, List.getElem?_cons_succ, Nat.zero_add, Nat.add_zero, Nat.zero_mul, wrap_i64 ((q : Int) + 1) (by omega)]
      refine Gh.to (X1 ++ (X2 ++ F)) (Gh.done ⟨⟨hI.trans hI2, rfl, (q : Int) + 1, rfl, by omega, by omega⟩, ?_⟩)
      omega
  · simp only [hle, decide_false, Br_false]
    unfold sh23_2 sh23_1
    exact Gh.done (hk I' hI)

def PInv (I0 : Imm) (b b2 len : Nat) (F : LH) (s : Value × Value × Unit) (I : Imm) (L : LH) : Prop :=
  Ext I0 I ∧ ∃ (i : Nat) (n : N) (X1 X2 : LH), s = (.bool false, .int .i64 i, ()) ∧ i ≤ len ∧ NetR 61 I b X1 n ∧ NetR 45 I b2 X2 n ∧ Fine n i ∧ L = X2 ++ (X1 ++ F)
def Pμ (len : Nat) (s : Value × Value × Unit) (_ : Imm) (_ : LH) : Nat := match s with
  | (_, .int _ i, _) => ((len : Int) - i).toNat
  | _ => 0

theorem p_next {I0 : Imm} {b b2 len i : Nat} {F X1 X2 : LH} {n : N} [SubP (X2 ++ (X1 ++ F)) L] (hI : Ext I0 I) (hl : i < len) (hlen : len < 4611686018427387900) (hN : NetR 61 I b X1 n) (hM : NetR 45 I b2 X2 n) (hF : Fine n (i + 1)) :
    sh5_6 ω (.bool false) (.int .i64 i) (fun s' => Gh fun I2 L2 => PInv I0 b b2 len F s' I2 L2 ∧ Pμ len s' I2 L2 < Pμ len (.bool false, .int .i64 i, ()) I L) K I L := by
  unfold sh5_6 sh5_5 sh5_4
  simp only [Pv_some, fldV_p, nilV_p, nilV_f, lenV_s, capV_s, lenSV_s, strV_s, unV_not, unV_neg, pickV_t, pickV_f, exV_t, cvIV_i, binI_add, binI_sub, binI_mul, binI_eql, binI_neq, binI_lss, binI_leq, binI_gtr, binI_geq, binI_and, binI_or, binB_eql, binB_neq, binS_eql, binS_neq, binP_eql_nil, binP_neq_nil, binN_eql_nil, binN_neq_nil, binN_eql_nn, binN_neq_nn, Br_true, Br_false, cells_agg, List.getElem?_toArray, List.getElem?_cons_zero, List.getElem?_cons_succ, Nat.zero_add, Nat.add_zero, Nat.zero_mul, wrap_i64 ((i : Int) + 1) (by omega)]
  refine Gh.to (X2 ++ (X1 ++ F)) (Gh.done ⟨⟨hI, i + 1, n, X1, X2, by simp, by omega, hN, hM, hF, rfl⟩, ?_⟩)
  simp only [Pμ]; omega

set_option maxHeartbeats 1000000 in
theorem scripts_law {v0 : Value} {c0 : List Value} {sc : List StepD} (hS0 : SlI I 7 v0 c0 sc.length) (hR0 : Recs (StepV I) 7 sc c0) (hlen : sc.length < 4611686018427387900) (hk : ∀ I' L', Ext I I' → K (.bool true) I' L') : Cal Try.prog ω 5 #[v0] K I L := by
  refine cal5 ?_
  unfold sh5
  refine call (awake_spec (fun I0 hI0 => ?_))
  refine call (new_spec (fun b => ?_))
  simp only [Pv_some, fldV_p, nilV_p, nilV_f, lenV_s, capV_s, lenSV_s, strV_s, unV_not, unV_neg, pickV_t, pickV_f, exV_t, cvIV_i, binI_add, binI_sub, binI_mul, binI_eql, binI_neq, binI_lss, binI_leq, binI_gtr, binI_geq, binI_and, binI_or, binB_eql, binB_neq, binS_eql, binS_neq, binP_eql_nil, binP_neq_nil, binN_eql_nil, binN_neq_nil, binN_eql_nn, binN_neq_nn, Br_true, Br_false, cells_agg, List.getElem?_toArray, List.getElem?_cons_zero, List.getElem?_cons_succ, Nat.zero_add, Nat.add_zero, Nat.zero_mul]
  rw [show bldV #[.slice none 0 0, .int .i64 0] #[(0, 1), (1, 1)] [] = some (.agg #[.slice none 0 0, .int .i64 0]) from rfl]
  simp only [Pv_some, fldV_p, nilV_p, nilV_f, lenV_s, capV_s, lenSV_s, strV_s, unV_not, unV_neg, pickV_t, pickV_f, exV_t, cvIV_i, binI_add, binI_sub, binI_mul, binI_eql, binI_neq, binI_lss, binI_leq, binI_gtr, binI_geq, binI_and, binI_or, binB_eql, binB_neq, binS_eql, binS_neq, binP_eql_nil, binP_neq_nil, binN_eql_nil, binN_neq_nil, binN_eql_nn, binN_neq_nn, Br_true, Br_false, cells_agg, List.getElem?_toArray, List.getElem?_cons_zero, List.getElem?_cons_succ, Nat.zero_add, Nat.add_zero, Nat.zero_mul]
  refine newI (fun b2 => ?_)
  refine loop (PInv I b b2 sc.length L) (Pμ sc.length) ⟨hI0, 0, ⟨[], 0⟩, [(b, _)], [(b2, _)], rfl, by omega, newR 61 I0 b, newR 45 I0 b2, ⟨⟨List.Pairwise.nil, by simp, by simp, by simp, by simp⟩, by simp, by simp, by simp⟩, rfl⟩ ?_
  rintro s I1 L1 ⟨hI1, i, n, X1, X2, rfl, hl, hN, hM, hF, rfl⟩
  obtain ⟨av, capv, hform⟩ : ∃ a c, v0 = .slice a sc.length c := by obtain ⟨_, a, c, h, _⟩ := hS0; exact ⟨a, c, h⟩
  unfold sh5_3
  rw [show lenV v0 = some (.int .i64 sc.length) from by rw [hform]; rfl]
  simp only [Pv_some, fldV_p, nilV_p, nilV_f, lenV_s, capV_s, lenSV_s, strV_s, unV_not, unV_neg, pickV_t, pickV_f, exV_t, cvIV_i, binI_add, binI_sub, binI_mul, binI_eql, binI_neq, binI_lss, binI_leq, binI_gtr, binI_geq, binI_and, binI_or, binB_eql, binB_neq, binS_eql, binS_neq, binP_eql_nil, binP_neq_nil, binN_eql_nil, binN_neq_nil, binN_eql_nn, binN_neq_nn, Br_true, Br_false, cells_agg, List.getElem?_toArray, List.getElem?_cons_zero, List.getElem?_cons_succ, Nat.zero_add, Nat.add_zero, Nat.zero_mul]
  by_cases hge : sc.length ≤ i
  · have h1 : ¬ ((i : Int) < sc.length) := by omega
    simp only [h1, decide_false, Br_false]
    unfold sh5_2 sh5_1
    refine call (Cal.split X1 (samenet_spec hN hM hF.len hF.body (fun I2 hI2 => ?_)))
    refine gd_split (fun _ => ?_) (fun h => absurd rfl h)
    exact Gh.done (hk _ _ (hI1.trans hI2))
  have hlt : i < sc.length := by omega
  have h1 : ((i : Int) < sc.length) := by omega
  simp only [h1, decide_true, Br_true]
  obtain ⟨x, hx⟩ : ∃ x, sc[i]? = some x := ⟨_, List.getElem?_eq_getElem hlt⟩
  obtain ⟨hgl, hg⟩ := hR0.get hx
  obtain ⟨bb, off, hix, hc⟩ := hS0.ix .i64 hlt
  simp only [hix, Pv_some, fldV_p, nilV_p, nilV_f, lenV_s, capV_s, lenSV_s, strV_s, unV_not, unV_neg, pickV_t, pickV_f, exV_t, cvIV_i, binI_add, binI_sub, binI_mul, binI_eql, binI_neq, binI_lss, binI_leq, binI_gtr, binI_geq, binI_and, binI_or, binB_eql, binB_neq, binS_eql, binS_neq, binP_eql_nil, binP_neq_nil, binN_eql_nil, binN_neq_nil, binN_eql_nn, binN_neq_nn, Br_true, Br_false, cells_agg, List.getElem?_toArray, List.getElem?_cons_zero, List.getElem?_cons_succ, Nat.zero_add, Nat.add_zero, Nat.zero_mul]
  refine rdN hgl (hc I1 _ hI1) ?_
  obtain ⟨hid, bv, hcx, hB⟩ := hg
  rw [hcx]
  replace hB := hB.mono hI1
  refine newI (fun b1 => ?_)
  obtain ⟨ab, capb, rfl⟩ := hB.form
  refine stB rfl rfl (one_all rfl) ?_
  simp only [Pv_some, fldV_p, nilV_p, nilV_f, lenV_s, capV_s, lenSV_s, strV_s, unV_not, unV_neg, pickV_t, pickV_f, exV_t, cvIV_i, binI_add, binI_sub, binI_mul, binI_eql, binI_neq, binI_lss, binI_leq, binI_gtr, binI_geq, binI_and, binI_or, binB_eql, binB_neq, binS_eql, binS_neq, binP_eql_nil, binP_neq_nil, binN_eql_nil, binN_neq_nil, binN_eql_nn, binN_neq_nn, Br_true, Br_false, cells_agg, List.getElem?_toArray, List.getElem?_cons_zero, List.getElem?_cons_succ, Nat.zero_add, Nat.add_zero, Nat.zero_mul]
  refine rdb ?_
  simp only [Pv_some, fldV_p, nilV_p, nilV_f, lenV_s, capV_s, lenSV_s, strV_s, unV_not, unV_neg, pickV_t, pickV_f, exV_t, cvIV_i, binI_add, binI_sub, binI_mul, binI_eql, binI_neq, binI_lss, binI_leq, binI_gtr, binI_geq, binI_and, binI_or, binB_eql, binB_neq, binS_eql, binS_neq, binP_eql_nil, binP_neq_nil, binN_eql_nil, binN_neq_nil, binN_eql_nn, binN_neq_nn, Br_true, Br_false, cells_agg, List.getElem?_toArray, List.getElem?_cons_zero, List.getElem?_cons_succ, Nat.zero_add, Nat.add_zero, Nat.zero_mul]
  have hE : EnvV I1 x.e [.int .i64 x.e.id, .int .i64 x.e.frm, .int .i64 x.e.to, .int .i64 x.e.kind, .slice ab x.e.body.length capb] := ⟨_, rfl, hB⟩
  have hl0 := hF.ok.last0; have hl1 := hF.last; have hl2 := hF.ok.last1
  by_cases h0 : x.dO = 0
  · simp only [h0, beq_self_eq_true, Br_true]
    refine rdP [.int .i64 x.e.id, .int .i64 x.e.frm, .int .i64 x.e.to, .int .i64 x.e.kind, .slice ab x.e.body.length capb] rfl rfl ?_
    refine call (Cal.split X1 (send_spec hN hE hl0 (by omega) (fun X1' I2 hI2 hN2 => ?_)))
    simp only [Pv_some, fldV_p, nilV_p, nilV_f, lenV_s, capV_s, lenSV_s, strV_s, unV_not, unV_neg, pickV_t, pickV_f, exV_t, cvIV_i, binI_add, binI_sub, binI_mul, binI_eql, binI_neq, binI_lss, binI_leq, binI_gtr, binI_geq, binI_and, binI_or, binB_eql, binB_neq, binS_eql, binS_neq, binP_eql_nil, binP_neq_nil, binN_eql_nil, binN_neq_nil, binN_eql_nn, binN_neq_nn, Br_true, Br_false, cells_agg, List.getElem?_toArray, List.getElem?_cons_zero, List.getElem?_cons_succ, Nat.zero_add, Nat.add_zero, Nat.zero_mul]
    refine rdP [.int .i64 x.e.id, .int .i64 x.e.frm, .int .i64 x.e.to, .int .i64 x.e.kind, .slice ab x.e.body.length capb] rfl rfl ?_
    refine call (Cal.split X2 (rsend_spec (hM.mono hI2) (hE.mono hI2) hl0 (by omega) (fun X2' I3 hI3 hM3 => ?_)))
    simp only [Pv_some, fldV_p, nilV_p, nilV_f, lenV_s, capV_s, lenSV_s, strV_s, unV_not, unV_neg, pickV_t, pickV_f, exV_t, cvIV_i, binI_add, binI_sub, binI_mul, binI_eql, binI_neq, binI_lss, binI_leq, binI_gtr, binI_geq, binI_and, binI_or, binB_eql, binB_neq, binS_eql, binS_neq, binP_eql_nil, binP_neq_nil, binN_eql_nil, binN_neq_nil, binN_eql_nn, binN_neq_nn, Br_true, Br_false, cells_agg, List.getElem?_toArray, List.getElem?_cons_zero, List.getElem?_cons_succ, Nat.zero_add, Nat.add_zero, Nat.zero_mul]
    refine gd_split (fun _ => ?_) (fun h => absurd (by simp) h)
    rw [show ((sendN n x.e).2.1 != (sendN n x.e).2.1) = false from by simp]
    simp only [Br_false]
    exact p_next ((hI1.trans hI2).trans hI3) hlt hlen (hN2.mono hI3) hM3 (hF.send (by omega) x.e)
  have h0' : (x.dO == 0) = false := by simpa using h0
  simp only [h0', Br_false]
  by_cases h1' : x.dO = 1
  · simp only [h1', beq_self_eq_true, Br_true]
    refine rdb ?_
    refine call (Cal.split X1 (deliver_spec hN hF.ok hid hF.len (fun X1' c hN2 hc2 => ?_)))
    simp only [Pv_some, fldV_p, nilV_p, nilV_f, lenV_s, capV_s, lenSV_s, strV_s, unV_not, unV_neg, pickV_t, pickV_f, exV_t, cvIV_i, binI_add, binI_sub, binI_mul, binI_eql, binI_neq, binI_lss, binI_leq, binI_gtr, binI_geq, binI_and, binI_or, binB_eql, binB_neq, binS_eql, binS_neq, binP_eql_nil, binP_neq_nil, binN_eql_nil, binN_neq_nil, binN_eql_nn, binN_neq_nn, Br_true, Br_false, cells_agg, List.getElem?_toArray, List.getElem?_cons_zero, List.getElem?_cons_succ, Nat.zero_add, Nat.add_zero, Nat.zero_mul]
    refine newI (fun b3 => ?_)
    refine stB hc2.len rfl hc2.one ?_
    refine rdb ?_
    refine call (Cal.split X2 (rdeliver_spec hM hF.len (fun X2' c' hM2 hc3 => ?_)))
    simp only [Pv_some, fldV_p, nilV_p, nilV_f, lenV_s, capV_s, lenSV_s, strV_s, unV_not, unV_neg, pickV_t, pickV_f, exV_t, cvIV_i, binI_add, binI_sub, binI_mul, binI_eql, binI_neq, binI_lss, binI_leq, binI_gtr, binI_geq, binI_and, binI_or, binB_eql, binB_neq, binS_eql, binS_neq, binP_eql_nil, binP_neq_nil, binN_eql_nil, binN_neq_nil, binN_eql_nn, binN_neq_nn, Br_true, Br_false, cells_agg, List.getElem?_toArray, List.getElem?_cons_zero, List.getElem?_cons_succ, Nat.zero_add, Nat.add_zero, Nat.zero_mul]
    refine newI (fun b4 => ?_)
    refine stB hc3.len rfl hc3.one ?_
    refine rdB hc2.len ?_
    refine rdB hc3.len ?_
    refine call (same_spec hc2 hc3 ?_)
    simp only [sameE_refl, Pv_some, fldV_p, nilV_p, nilV_f, lenV_s, capV_s, lenSV_s, strV_s, unV_not, unV_neg, pickV_t, pickV_f, exV_t, cvIV_i, binI_add, binI_sub, binI_mul, binI_eql, binI_neq, binI_lss, binI_leq, binI_gtr, binI_geq, binI_and, binI_or, binB_eql, binB_neq, binS_eql, binS_neq, binP_eql_nil, binP_neq_nil, binN_eql_nil, binN_neq_nil, binN_eql_nn, binN_neq_nn, Br_true, Br_false, cells_agg, List.getElem?_toArray, List.getElem?_cons_zero, List.getElem?_cons_succ, Nat.zero_add, Nat.add_zero, Nat.zero_mul, Bool.not_true]
    refine gd_split (fun _ => ?_) (fun h => absurd rfl h)
    rw [show ((delN n x.id).2.1 != (delN n x.id).2.1) = false from by simp]
    simp only [Br_false]
    exact p_next hI1 hlt hlen hN2 hM2 (hF.del x.id)
  have h1'' : (x.dO == 1) = false := by simpa using h1'
  simp only [h1'', Br_false]
  by_cases h2' : x.dO = 2
  · simp only [h2', beq_self_eq_true, Br_true]
    refine rdb ?_
    refine call (Cal.split X1 (drop_spec hN hF.ok hid hF.len (fun X1' hN2 => ?_)))
    refine rdb ?_
    refine call (Cal.split X2 (rdrop_spec hM hF.len (fun X2' hM2 => ?_)))
    simp only [Pv_some, fldV_p, nilV_p, nilV_f, lenV_s, capV_s, lenSV_s, strV_s, unV_not, unV_neg, pickV_t, pickV_f, exV_t, cvIV_i, binI_add, binI_sub, binI_mul, binI_eql, binI_neq, binI_lss, binI_leq, binI_gtr, binI_geq, binI_and, binI_or, binB_eql, binB_neq, binS_eql, binS_neq, binP_eql_nil, binP_neq_nil, binN_eql_nil, binN_neq_nil, binN_eql_nn, binN_neq_nn, Br_true, Br_false, cells_agg, List.getElem?_toArray, List.getElem?_cons_zero, List.getElem?_cons_succ, Nat.zero_add, Nat.add_zero, Nat.zero_mul]
    rw [show ((delN n x.id).2.1 != (delN n x.id).2.1) = false from by simp]
    simp only [Br_false]
    exact p_next hI1 hlt hlen hN2 hM2 (hF.del x.id)
  have h2'' : (x.dO == 2) = false := by simpa using h2'
  simp only [h2'', Br_false]
  by_cases h3' : x.dO = 3
  · simp only [h3', beq_self_eq_true, Br_true]
    refine rdb ?_
    refine call (Cal.split X1 (double_spec hN hF.ok hid hF.len (fun X1' I2 hI2 hN2 => ?_)))
    simp only [Pv_some, fldV_p, nilV_p, nilV_f, lenV_s, capV_s, lenSV_s, strV_s, unV_not, unV_neg, pickV_t, pickV_f, exV_t, cvIV_i, binI_add, binI_sub, binI_mul, binI_eql, binI_neq, binI_lss, binI_leq, binI_gtr, binI_geq, binI_and, binI_or, binB_eql, binB_neq, binS_eql, binS_neq, binP_eql_nil, binP_neq_nil, binN_eql_nil, binN_neq_nil, binN_eql_nn, binN_neq_nn, Br_true, Br_false, cells_agg, List.getElem?_toArray, List.getElem?_cons_zero, List.getElem?_cons_succ, Nat.zero_add, Nat.add_zero, Nat.zero_mul]
    refine rdb ?_
    refine call (Cal.split X2 (rdouble_spec (hM.mono hI2) hl0 (by omega) hF.len (fun X2' I3 hI3 hM3 => ?_)))
    simp only [Pv_some, fldV_p, nilV_p, nilV_f, lenV_s, capV_s, lenSV_s, strV_s, unV_not, unV_neg, pickV_t, pickV_f, exV_t, cvIV_i, binI_add, binI_sub, binI_mul, binI_eql, binI_neq, binI_lss, binI_leq, binI_gtr, binI_geq, binI_and, binI_or, binB_eql, binB_neq, binS_eql, binS_neq, binP_eql_nil, binP_neq_nil, binN_eql_nil, binN_neq_nil, binN_eql_nn, binN_neq_nn, Br_true, Br_false, cells_agg, List.getElem?_toArray, List.getElem?_cons_zero, List.getElem?_cons_succ, Nat.zero_add, Nat.add_zero, Nat.zero_mul]
    refine gd_split (fun _ => ?_) (fun h => absurd (by simp) h)
    rw [show ((dblN n x.id).2.1 != (dblN n x.id).2.1) = false from by simp]
    simp only [Br_false]
    exact p_next ((hI1.trans hI2).trans hI3) hlt hlen (hN2.mono hI3) hM3 (hF.dbl (by omega) x.id)
  have h3'' : (x.dO == 3) = false := by simpa using h3'
  simp only [h3'', Br_false]
  by_cases h4' : x.dO = 4
  · simp only [h4', beq_self_eq_true, Br_true]
    refine rdb ?_
    refine call (Cal.split X1 (to_spec hN hF.len (fun va I2 hI2 hva => ?_)))
    refine rdb ?_
    refine call (Cal.split X2 (rto_spec (hM.mono hI2) hF.len (fun vb I3 hI3 hvb => ?_)))
    refine call (sameints_spec (hva.mono hI3) hvb (Nat.le_trans (toL_len ..) hF.len) ?_)
    simp only [Pv_some, fldV_p, nilV_p, nilV_f, lenV_s, capV_s, lenSV_s, strV_s, unV_not, unV_neg, pickV_t, pickV_f, exV_t, cvIV_i, binI_add, binI_sub, binI_mul, binI_eql, binI_neq, binI_lss, binI_leq, binI_gtr, binI_geq, binI_and, binI_or, binB_eql, binB_neq, binS_eql, binS_neq, binP_eql_nil, binP_neq_nil, binN_eql_nil, binN_neq_nil, binN_eql_nn, binN_neq_nn, Br_true, Br_false, cells_agg, List.getElem?_toArray, List.getElem?_cons_zero, List.getElem?_cons_succ, Nat.zero_add, Nat.add_zero, Nat.zero_mul, Bool.not_true]
    exact p_next ((hI1.trans hI2).trans hI3) hlt hlen ((hN.mono hI2).mono hI3) ((hM.mono hI2).mono hI3) hF.next
  have h4'' : (x.dO == 4) = false := by simpa using h4'
  simp only [h4'', Br_false]
  exact p_next hI1 hlt hlen hN hM hF.next


end
end Go.Proofs.Ytfeonffmeajpgaa
