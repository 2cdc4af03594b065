/-
  A transaction takes what was done.
-/
-- S2
import Derived.Test.YtlalbollbdlfhaaH
set_option linter.unusedSimpArgs false
set_option linter.unusedVariables false
namespace Go.Proofs.Ytlalbollbdlfhaa
open Go.SL
set_option maxRecDepth 10000

theorem SlW.opn {T n len : Nat} {X : LH} {v : Value} {cells : List Value} (h : SlW T n X v cells len) (h0 : 0 < len) : ∃ (b off cap : Nat) (cs : Array Value), X = [(b, Obj.cells cs T (0, 0))] ∧ v = .slice (some ⟨b, off, none⟩) len cap ∧ cells.length = len * n ∧ len ≤ cap ∧ off + len * n ≤ cs.size ∧ ∀ (j : Nat) (u : Value), cells[j]? = some u → cs[off + j]? = some u := by
  obtain ⟨hl, h⟩ := h
  rcases h with ⟨_, h1, _⟩ | ⟨b, off, cap, cs, h1, h2, h3, h4, h5⟩
  · omega
  · exact ⟨b, off, cap, cs, h1, h2, hl, h3, h4, h5⟩
/-- v[1:] -/
theorem SlW.tl {T n len : Nat} {X : LH} {v : Value} {cells : List Value} (h : SlW T n X v cells len) (h0 : 0 < len) : ∃ a c, slcV n v (some (.int .i64 1)) none none = some (.slice a (len - 1) c) ∧ SlW T n X (.slice a (len - 1) c) (cells.drop n) (len - 1) := by
  obtain ⟨b, off, cap, cs, rfl, rfl, hl, hle, hsz, hc⟩ := h.opn h0
  have hmul : len * n = (len - 1) * n + n := by rw [← Nat.succ_mul]; congr 1; omega
  refine ⟨if cap = 1 then some ⟨b, off, none⟩ else some ⟨b, off + n, none⟩, cap - 1, ?_, by rw [List.length_drop, hl, hmul]; omega, ?_⟩
  · simp only [slcV]
    rw [if_neg (by simp)]
    have e1 : bndV (some (.int .i64 1)) 0 len = some 1 := bnd_in _ 1 _ _ (by omega)
    simp only [bndV] at e1 ⊢
    simp [e1, add_none]
    split <;> first | (simp; done) | omega
  · by_cases hc1 : cap = 1
    · have hl1 : len = 1 := by omega
      subst hl1
      rw [if_pos hc1]
      refine .inr ⟨b, off, cap - 1, cs, rfl, rfl, by omega, by omega, fun j u hu => ?_⟩
      have hj := (List.getElem?_eq_some_iff.1 hu).1
      rw [List.length_drop, hl] at hj
      omega
    · rw [if_neg hc1]
      refine .inr ⟨b, off + n, cap - 1, cs, rfl, rfl, by omega, by omega, fun j u hu => ?_⟩
      rw [List.getElem?_drop] at hu
      have := hc _ u hu
      rwa [← Nat.add_assoc] at this

section
variable {ω : Om} {I : Imm} {L : LH} {K : Value → M}
theorem stAny {b off n T : Nat} {cs : Array Value} {R : LH} [hp : PickB b L (.cells cs T (0, 0)) R] (vs : List Value) (hl : vs.length = n) (hsz : off + n ≤ cs.size) (h1 : vs.all (·.oneCell') = true)
    (hk : Gh (K undef) I ((b, .cells (wr cs off vs) T (0, 0)) :: R)) : Sto n (.pointer (some ⟨b, off, none⟩)) (.agg vs.toArray) (gh K) I L := by
  have hm : (b, Obj.cells cs T (0, 0)) ∈ L := hp.perm.mem_iff.2 (List.mem_cons_self ..)
  obtain ⟨L1, L2, rfl⟩ := List.append_of_mem hm
  refine ⟨b, off, cs, T, L1, L2, rfl, by simp [Value.cells, hl], by simpa [Value.cells] using one_all h1, hsz, rfl, ?_⟩
  have hR : (L1 ++ L2).Perm R := (List.perm_cons _).1 (List.perm_middle.symm.trans hp.perm)
  exact Gh.perm (List.perm_middle.trans (List.Perm.cons _ hR)) (by simpa [Value.cells] using hk)
theorem SlW.set0 {T n len b off cap : Nat} {cells vs : List Value} {cs : Array Value} (hl : cells.length = len * n) (h0 : 0 < len) (hle : len ≤ cap) (hsz : off + len * n ≤ cs.size) (hc : ∀ (j : Nat) (u : Value), cells[j]? = some u → cs[off + j]? = some u) (hv : vs.length = n) :
    SlW T n [(b, .cells (wr cs off vs) T (0, 0))] (.slice (some ⟨b, off, none⟩) len cap) (vs ++ cells.drop n) len := by
  have hmul : len * n = (len - 1) * n + n := by rw [← Nat.succ_mul]; congr 1; omega
  refine ⟨by rw [List.length_append, List.length_drop, hl, hv]; omega, .inr ⟨b, off, cap, _, rfl, rfl, hle, by rw [wr_size]; exact hsz, fun j u hu => ?_⟩⟩
  rw [wr_get vs cs off (off + j) (by omega)]
  by_cases hj : j < n
  · rw [if_neg (by omega), if_pos (by omega)]
    rw [List.getElem?_append_left (by omega)] at hu
    rw [show off + j - off = j from by omega]
    exact hu
  · rw [if_neg (by omega), if_neg (by omega)]
    rw [List.getElem?_append_right (by omega), List.getElem?_drop] at hu
    have := hc _ u hu
    rwa [show n + (j - vs.length) = j from by omega] at this

/-- is there a key as the command's? whatever -/
theorem done1 {x y : Value} : CalV Try.prog ω (.func (Fn.func 68) #[] #[x]) #[y] K = Cal Try.prog ω 68 #[y, x] K := by
  unfold CalV
  simp only [show entersB Try.prog 68 = true from by kernel_rfl, if_true]
  rfl
theorem done1_spec {b1 : Nat} {y : TCmd} {a0 a1 a2 a3 : Option Addr} {p0 p1 p2 p3 : Nat} {v : Value} {k : List UInt8} (hb : (b1, cmdO y a0 p0 a1 p1 a2 p2 a3 p3) ∈ L) (hy : Bytes I (.slice a0 y.fKey.length p0) y.fKey) (hv : Bytes I v k) (hk : ∀ t, K (.bool t) I L) : CalV Try.prog ω (.func (Fn.func 68) #[] #[.pointer (some ⟨b1, 0, none⟩)]) #[v] K I L := by
  rw [done1]
  haveI : InL b1 L (cmdO y a0 p0 a1 p1 a2 p2 a3 p3) := ⟨hb⟩
  refine cal68 ?_
  unfold sh68
  try simp only [Pv_some, fldV_p, nilV_p, nilV_f, lenV_s, capV_s, sLen, minV_i, maxV_i, strV_s, unV_not, unV_neg, pickV_t, pickV_f, exV_t, cvIV_i, binI_add, binI_sub, binI_mul, binI_eql, binI_neq, binI_lss, binI_leq, binI_gtr, binI_geq, binI_and, binI_or, binB_eql, binB_neq, sEq, sNe, sLt, sLe, sGt, sGe, stampEq, stampNe, fldv_agg, fldv_one, binP_eql_nil, binP_neq_nil, binN_eql_nil, binN_neq_nil, binN_eql_nn, binN_neq_nn, Br_true, Br_false, Gd_tt, Gd_ft, Gd_tf, Gd_ff, cells_agg, List.getElem?_toArray, List.getElem?_cons_zero, List.getElem?_cons_succ, Nat.zero_add, Nat.add_zero, Nat.zero_mul, List.drop_succ_cons, List.drop_zero, List.take_succ_cons, List.take_zero, List.nil_append, List.cons_append, Nat.reduceAdd, List.drop_nil, List.take_nil, bld_1, bld_2, bld_3, bld_4, bld_5, bld_6, bld_7, bld_8, bld_9, bld_10, bld_11, bld_12, bld_13, bld_14, bld_15, bld_16, bld_17, bld_18, bld_19, bld_20, bld_21, bld_22, bld_23, bld_24, bld_25, bld_26, bld_27, bld_28]
  refine rdb ?_
  refine call (equal_spec hv hy ?_)
  exact Gh.done (hk _)
theorem indexK_spec {v fv : Value} {es : List (List UInt8)} (h : RL BysV 1 I L v es) (hlen : es.length < 4611686018427387904) (hf : ∀ (v : Value) (k : List UInt8) (K : Value → M), Bytes I v k → (∀ t, K (.bool t) I L) → CalV Try.prog ω fv #[v] K I L) (hk : ∀ z : Int, K (.int .i64 z) I L) : Cal Try.prog ω 75 #[v, fv] K I L := by
  refine cal75 ?_
  have hln := RL.len h
  unfold sh75
  simp only [hln, Pv_some, fldV_p, nilV_p, nilV_f, lenV_s, capV_s, sLen, minV_i, maxV_i, strV_s, unV_not, unV_neg, pickV_t, pickV_f, exV_t, cvIV_i, binI_add, binI_sub, binI_mul, binI_eql, binI_neq, binI_lss, binI_leq, binI_gtr, binI_geq, binI_and, binI_or, binB_eql, binB_neq, sEq, sNe, sLt, sLe, sGt, sGe, stampEq, stampNe, fldv_agg, fldv_one, binP_eql_nil, binP_neq_nil, binN_eql_nil, binN_neq_nil, binN_eql_nn, binN_neq_nn, Br_true, Br_false, Gd_tt, Gd_ft, Gd_tf, Gd_ff, cells_agg, List.getElem?_toArray, List.getElem?_cons_zero, List.getElem?_cons_succ, Nat.zero_add, Nat.add_zero, Nat.zero_mul, List.drop_succ_cons, List.drop_zero, List.take_succ_cons, List.take_zero, List.nil_append, List.cons_append, Nat.reduceAdd, List.drop_nil, List.take_nil, bld_1, bld_2, bld_3, bld_4, bld_5, bld_6, bld_7, bld_8, bld_9, bld_10, bld_11, bld_12, bld_13, bld_14, bld_15, bld_16, bld_17, bld_18, bld_19, bld_20, bld_21, bld_22, bld_23, bld_24, bld_25, bld_26, bld_27, bld_28]
  refine loop (fun m s I' L' => I' = I ∧ L' = L ∧ ∃ k : Nat, k + m = es.length ∧ s = (.int .i64 0, .int .i64 k, ())) es.length ⟨rfl, rfl, 0, by omega, rfl⟩ ?_
  rintro m s I' L' ⟨rfl, rfl, k, hkm, rfl⟩
  unfold sh75_3
  try simp only [Pv_some, fldV_p, nilV_p, nilV_f, lenV_s, capV_s, sLen, minV_i, maxV_i, strV_s, unV_not, unV_neg, pickV_t, pickV_f, exV_t, cvIV_i, binI_add, binI_sub, binI_mul, binI_eql, binI_neq, binI_lss, binI_leq, binI_gtr, binI_geq, binI_and, binI_or, binB_eql, binB_neq, sEq, sNe, sLt, sLe, sGt, sGe, stampEq, stampNe, fldv_agg, fldv_one, binP_eql_nil, binP_neq_nil, binN_eql_nil, binN_neq_nil, binN_eql_nn, binN_neq_nn, Br_true, Br_false, Gd_tt, Gd_ft, Gd_tf, Gd_ff, cells_agg, List.getElem?_toArray, List.getElem?_cons_zero, List.getElem?_cons_succ, Nat.zero_add, Nat.add_zero, Nat.zero_mul, List.drop_succ_cons, List.drop_zero, List.take_succ_cons, List.take_zero, List.nil_append, List.cons_append, Nat.reduceAdd, List.drop_nil, List.take_nil, bld_1, bld_2, bld_3, bld_4, bld_5, bld_6, bld_7, bld_8, bld_9, bld_10, bld_11, bld_12, bld_13, bld_14, bld_15, bld_16, bld_17, bld_18, bld_19, bld_20, bld_21, bld_22, bld_23, bld_24, bld_25, bld_26, bld_27, bld_28]
  refine br_split (fun hlt => ?_) (fun hlt => Gh.done (hk _))
  simp at hlt
  obtain ⟨b, off, c, hix, hcl, ⟨kv, rfl, hB⟩, hc⟩ := RL.ix h (i := k) (by omega) (by omega)
  have hc0 := hc I' L' (Ext.refl _) (fun _ h => h) 0 _ rfl
  simp only [Nat.add_zero] at hc0
  simp only [hix, Pv_some, fldV_p, nilV_p, nilV_f, lenV_s, capV_s, sLen, minV_i, maxV_i, strV_s, unV_not, unV_neg, pickV_t, pickV_f, exV_t, cvIV_i, binI_add, binI_sub, binI_mul, binI_eql, binI_neq, binI_lss, binI_leq, binI_gtr, binI_geq, binI_and, binI_or, binB_eql, binB_neq, sEq, sNe, sLt, sLe, sGt, sGe, stampEq, stampNe, fldv_agg, fldv_one, binP_eql_nil, binP_neq_nil, binN_eql_nil, binN_neq_nil, binN_eql_nn, binN_neq_nn, Br_true, Br_false, Gd_tt, Gd_ft, Gd_tf, Gd_ff, cells_agg, List.getElem?_toArray, List.getElem?_cons_zero, List.getElem?_cons_succ, Nat.zero_add, Nat.add_zero, Nat.zero_mul, List.drop_succ_cons, List.drop_zero, List.take_succ_cons, List.take_zero, List.nil_append, List.cons_append, Nat.reduceAdd, List.drop_nil, List.take_nil, bld_1, bld_2, bld_3, bld_4, bld_5, bld_6, bld_7, bld_8, bld_9, bld_10, bld_11, bld_12, bld_13, bld_14, bld_15, bld_16, bld_17, bld_18, bld_19, bld_20, bld_21, bld_22, bld_23, bld_24, bld_25, bld_26, bld_27, bld_28]
  refine rd1 hc0 ?_
  refine hf kv _ _ hB (fun t => Gh.done ?_)
  refine br_split (fun hp => Gh.done (hk _)) (fun hp => ?_)
  simp only [Pv_some, fldV_p, nilV_p, nilV_f, lenV_s, capV_s, sLen, minV_i, maxV_i, strV_s, unV_not, unV_neg, pickV_t, pickV_f, exV_t, cvIV_i, binI_add, binI_sub, binI_mul, binI_eql, binI_neq, binI_lss, binI_leq, binI_gtr, binI_geq, binI_and, binI_or, binB_eql, binB_neq, sEq, sNe, sLt, sLe, sGt, sGe, stampEq, stampNe, fldv_agg, fldv_one, binP_eql_nil, binP_neq_nil, binN_eql_nil, binN_neq_nil, binN_eql_nn, binN_neq_nn, Br_true, Br_false, Gd_tt, Gd_ft, Gd_tf, Gd_ff, cells_agg, List.getElem?_toArray, List.getElem?_cons_zero, List.getElem?_cons_succ, Nat.zero_add, Nat.add_zero, Nat.zero_mul, List.drop_succ_cons, List.drop_zero, List.take_succ_cons, List.take_zero, List.nil_append, List.cons_append, Nat.reduceAdd, List.drop_nil, List.take_nil, bld_1, bld_2, bld_3, bld_4, bld_5, bld_6, bld_7, bld_8, bld_9, bld_10, bld_11, bld_12, bld_13, bld_14, bld_15, bld_16, bld_17, bld_18, bld_19, bld_20, bld_21, bld_22, bld_23, bld_24, bld_25, bld_26, bld_27, bld_28, wrap_i64 ((k : Int) + 1) (by omega)]
  exact Gh.done ⟨m - 1, by omega, rfl, rfl, k + 1, by omega, by simp⟩
theorem containsK_spec {v fv : Value} {es : List (List UInt8)} (h : RL BysV 1 I L v es) (hlen : es.length < 4611686018427387904) (hf : ∀ (v : Value) (k : List UInt8) (K : Value → M), Bytes I v k → (∀ t, K (.bool t) I L) → CalV Try.prog ω fv #[v] K I L) (hk : ∀ t, K (.bool t) I L) : Cal Try.prog ω 67 #[v, fv] K I L := by
  refine cal67 ?_
  unfold sh67
  refine call (indexK_spec h hlen hf (fun z => ?_))
  try simp only [Pv_some, fldV_p, nilV_p, nilV_f, lenV_s, capV_s, sLen, minV_i, maxV_i, strV_s, unV_not, unV_neg, pickV_t, pickV_f, exV_t, cvIV_i, binI_add, binI_sub, binI_mul, binI_eql, binI_neq, binI_lss, binI_leq, binI_gtr, binI_geq, binI_and, binI_or, binB_eql, binB_neq, sEq, sNe, sLt, sLe, sGt, sGe, stampEq, stampNe, fldv_agg, fldv_one, binP_eql_nil, binP_neq_nil, binN_eql_nil, binN_neq_nil, binN_eql_nn, binN_neq_nn, Br_true, Br_false, Gd_tt, Gd_ft, Gd_tf, Gd_ff, cells_agg, List.getElem?_toArray, List.getElem?_cons_zero, List.getElem?_cons_succ, Nat.zero_add, Nat.add_zero, Nat.zero_mul, List.drop_succ_cons, List.drop_zero, List.take_succ_cons, List.take_zero, List.nil_append, List.cons_append, Nat.reduceAdd, List.drop_nil, List.take_nil, bld_1, bld_2, bld_3, bld_4, bld_5, bld_6, bld_7, bld_8, bld_9, bld_10, bld_11, bld_12, bld_13, bld_14, bld_15, bld_16, bld_17, bld_18, bld_19, bld_20, bld_21, bld_22, bld_23, bld_24, bld_25, bld_26, bld_27, bld_28]
  exact Gh.done (hk _)
end
end Go.Proofs.Ytlalbollbdlfhaa
