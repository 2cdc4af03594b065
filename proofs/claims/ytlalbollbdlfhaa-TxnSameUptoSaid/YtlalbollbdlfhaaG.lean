/-
  A transaction commits, is aborted, goes on behind an answer: it stays as it must be.
-/
-- S2
import Derived.Test.YtlalbollbdlfhaaF
set_option linter.unusedSimpArgs false
set_option linter.unusedVariables false
namespace Go.Proofs.Ytlalbollbdlfhaa
open Go.SL
set_option maxRecDepth 10000

/-- what holds at any time; 'n' bounds how often it has grown -/
structure TI (n : Nat) (x : TTxn) : Prop where
  spans : (x.fStage = 1 ∨ x.fStage = 3) → x.fSpans ≠ []
  ops : x.fStage = 2 → x.fOps ≠ []
  spanL : ∀ p ∈ x.fSpans, spanOk p
  readL : ∀ p ∈ x.fRead, spanOk p
  spanS : spanOk x.fSpan
  opL : ∀ o ∈ x.fOps, o.fKey.length ≤ 110 ∧ o.fValue.length ≤ 10000
  keyL : ∀ k ∈ x.fKeys, k.length ≤ 110
  writL : ∀ k ∈ x.fWritten, k.length ≤ 110
  whereL : spanOk x.fBlocked.fWhere
  nR : x.fRead.length ≤ n
  nW : x.fWritten.length ≤ n
  nG : x.fGot.length * 48 ≤ n * 137438953472
theorem TI.ok {n : Nat} {x : TTxn} (h : TI n x) : TxOk x := ⟨fun _ h1 => h.spans h1, fun _ h1 _ => h.ops h1, h.spanL, h.opL, h.keyL, h.whereL⟩
theorem TI.up {n m : Nat} {x : TTxn} (h : TI n x) (hm : n ≤ m) : TI m x := { h with nR := Nat.le_trans h.nR hm, nW := Nat.le_trans h.nW hm, nG := Nat.le_trans h.nG (Nat.mul_le_mul_right _ hm) }
theorem spanOk0 : spanOk default := ⟨by show 0 ≤ _; omega, by show 0 ≤ _; omega⟩
theorem TI.new (id : Int) (s : TStamp) (p : Int) : TI 0 (newF id s p) :=
  { spans := fun h => by rcases h with h | h <;> exact absurd h (by show ¬ (0 : Int) = _; omega)
    ops := fun h => absurd h (by show ¬ (0 : Int) = _; omega)
    spanL := fun p h => by cases h
    readL := fun p h => by cases h
    spanS := spanOk0
    opL := fun p h => by cases h
    keyL := fun p h => by cases h
    writL := fun p h => by cases h
    whereL := spanOk0
    nR := Nat.le_refl _
    nW := Nat.le_refl _
    nG := by show 0 * 48 ≤ _; omega }
theorem TI.readF {n : Nat} {x : TTxn} {p : TSpan} (h : TI n x) (hp : spanOk p) : TI n (readF x p) :=
  { h with
    spans := fun _ => by show [p] ≠ []; simp
    ops := fun h => absurd h (by show ¬ (1 : Int) = _; omega)
    spanL := fun q hq => by rw [List.mem_singleton.1 hq]; exact hp
    spanS := hp
    nG := by show 0 * 48 ≤ _; omega }
theorem TI.writeF {n : Nat} {x : TTxn} {ops : List TOp} (h : TI n x) (h0 : ops ≠ []) (hl : ∀ o ∈ ops, o.fKey.length ≤ 110 ∧ o.fValue.length ≤ 10000) : TI n (writeF x ops) :=
  { h with
    spans := fun h => by rcases h with h | h <;> exact absurd h (by show ¬ (2 : Int) = _; omega)
    ops := fun _ => h0
    opL := hl }
theorem TI.overF {n : Nat} {x : TTxn} (h : TI n x) : TI n (overF x) :=
  { h with
    spans := fun h => by rcases h with h | h <;> exact absurd h (by show ¬ (0 : Int) = _; omega)
    ops := fun h => absurd h (by show ¬ (0 : Int) = _; omega)
    whereL := spanOk0 }
theorem TI.undoF {n : Nat} {x : TTxn} (h : TI n x) : TI n (undoF x) := by
  unfold Go.Proofs.Ytlalbollbdlfhaa.undoF
  split
  · exact { h with
      spans := fun h => by rcases h with h | h <;> exact absurd h (by show ¬ (5 : Int) = _; omega)
      ops := fun h => absurd h (by show ¬ (5 : Int) = _; omega)
      whereL := spanOk0 }
  · exact h.overF

section
variable {ω : Om} {I : Imm} {L : LH} {K : Value → M}

theorem undo_same (x : TTxn) : (undoF x).fRead = x.fRead ∧ (undoF x).fWritten = x.fWritten ∧ (undoF x).fSpan = x.fSpan ∧ (undoF x).fSpans = x.fSpans ∧ (undoF x).fOps = x.fOps ∧ (undoF x).fKeys = x.fKeys ∧ (undoF x).fGot = x.fGot ∧ (undoF x).fRows = x.fRows ∧ (undoF x).fBlocked = default := by
  unfold undoF overF
  split <;> exact ⟨rfl, rfl, rfl, rfl, rfl, rfl, rfl, rfl, rfl⟩
theorem TxL.same {x y : TTxn} {T : LH} {v0 v1 v2 v3 v4 v5 v6 v7 v8 : Value} {Xr Xw Xs Xg : LH} {cr cw cs cg : List Value} (h : TxL I x T v0 v1 v2 v3 v4 v5 v6 v7 v8 Xr Xw Xs Xg cr cw cs cg)
    (e : y.fRead = x.fRead ∧ y.fWritten = x.fWritten ∧ y.fSpan = x.fSpan ∧ y.fSpans = x.fSpans ∧ y.fOps = x.fOps ∧ y.fKeys = x.fKeys ∧ y.fGot = x.fGot ∧ y.fRows = x.fRows) : TxL I y T v0 v1 v2 v3 v4 v5 v6 v7 v8 Xr Xw Xs Xg cr cw cs cg := by
  obtain ⟨e0, e1, e2, e3, e4, e5, e6, e7⟩ := e
  refine ⟨h.mem, ?_, ?_, ?_, ?_, ?_, ?_, ?_, ?_, ?_, ?_, ?_, ?_, ?_⟩
  · rw [e0]; exact h.read
  · rw [e0]; exact h.readR
  · rw [e1]; exact h.written
  · rw [e1]; exact h.writtenR
  · rw [e2]; exact h.sfrom
  · rw [e2]; exact h.sto
  · rw [e3]; exact h.spans
  · rw [e3]; exact h.spansR
  · rw [e4]; exact h.ops
  · rw [e5]; exact h.keys
  · rw [e6]; exact h.got
  · rw [e6]; exact h.gotR
  · rw [e7]; exact h.rows
/-- undo, of a transaction whose block stands ahead -/
theorem undo_at {b : Nat} {x : TTxn} {v0 v1 v2 v3 v4 v5 v6 v7 v8 v9 v10 : Value} {Xr Xw Xs Xg F R : LH} {cr cw cs cg : List Value} {n : Nat} (hL : TxL I x (Xr ++ (Xw ++ (Xs ++ Xg))) v0 v1 v2 v3 v4 v5 v6 v7 v8 Xr Xw Xs Xg cr cw cs cg) (hT : TI n x) [hp : PickB b L (txCells x v0 v1 v2 v3 v4 v5 v6 v7 v8 v9 v10) R] [hs : SubP (Xr ++ (Xw ++ (Xs ++ (Xg ++ F)))) R]
    (hk : ∀ X' x', TxR I b X' x' → TI n x' → K (.tuple #[]) I (X' ++ F)) : Cal Try.prog ω 38 #[.pointer (some ⟨b, 0, none⟩)] K I L := by
  refine Cal.pick b ?_
  refine tundo_spec ?_ |> Cal.gh
  obtain ⟨e0, e1, e2, e3, e4, e5, e6, e7, e8⟩ := undo_same x
  refine Gh.pick b (Xr ++ (Xw ++ (Xs ++ (Xg ++ F)))) (Gh.done ?_)
  exact TxL.close (x := undoF x) (hL.same ⟨e0, e1, e2, e3, e4, e5, e6, e7⟩) (by rw [e8]; exact nilB _) (by rw [e8]; exact nilB _) (fun X' hX' => hk X' _ hX' hT.undoF)
theorem over_at {b : Nat} {x : TTxn} {v0 v1 v2 v3 v4 v5 v6 v7 v8 v9 v10 : Value} {Xr Xw Xs Xg F R : LH} {cr cw cs cg : List Value} {n : Nat} (hL : TxL I x (Xr ++ (Xw ++ (Xs ++ Xg))) v0 v1 v2 v3 v4 v5 v6 v7 v8 Xr Xw Xs Xg cr cw cs cg) (hT : TI n x) [hp : PickB b L (txCells x v0 v1 v2 v3 v4 v5 v6 v7 v8 v9 v10) R] [hs : SubP (Xr ++ (Xw ++ (Xs ++ (Xg ++ F)))) R]
    (hk : ∀ X' x', TxR I b X' x' → TI n x' → K (.tuple #[]) I (X' ++ F)) : Cal Try.prog ω 35 #[.pointer (some ⟨b, 0, none⟩)] K I L := by
  refine Cal.pick b ?_
  refine tover_spec ?_ |> Cal.gh
  refine Gh.pick b (Xr ++ (Xw ++ (Xs ++ (Xg ++ F)))) (Gh.done ?_)
  exact TxL.close (x := overF x) (hL.same ⟨rfl, rfl, rfl, rfl, rfl, rfl, rfl, rfl⟩) (nilB _) (nilB _) (fun X' hX' => hk X' _ hX' hT.overF)

theorem tabort_spec {b n : Nat} {X F : LH} {x : TTxn} (h : TxR I b X x) (hT : TI n x)
    (hk : ∀ e X' x', TxR I b X' x' → TI n x' → K (.int .i64 e) I (X' ++ F)) :
    Cal Try.prog ω 14 #[.pointer (some ⟨b, 0, none⟩)] K I (X ++ F) := by
  have hk0 := fun e => hk e X x h hT
  obtain ⟨v0, v1, v2, v3, v4, v5, v6, v7, v8, v9, v10, T, rfl, ⟨Xr, Xw, Xs, Xg, cr, cw, cs, cg, hL⟩, h9, h10⟩ := h
  obtain rfl := hL.mem
  simp only [List.cons_append, List.append_assoc] at hk0 ⊢
  refine cal14 ?_
  unfold sh14
  repeat' (first | (with_reducible refine drawC ?_) | (with_reducible refine drawW1 ?_) | (with_reducible refine drawW2 ?_) | (with_reducible refine keepC (by repeat (first | exact Ext.refl _ | assumption | refine Ext.trans ?_ (by assumption))) ?_) | (with_reducible refine newI (fun _ => ?_)) | ((with_reducible refine call ?_); refine (undo_at (F := F) hL hT (fun X' x' h1 h2 => ?_))) | first | (with_reducible refine rdb ?_) | ((with_reducible refine st1 ?_ ?_); rfl) | ((with_reducible refine rdB ?_ ?_); rfl) | (with_reducible refine rdbS ?_) | ((with_reducible refine rdBS ?_ ?_); rfl) | ((with_reducible refine stB ?_ ?_ ?_ ?_); rfl; rfl; exact one_all rfl) | ((with_reducible refine rdP _ rfl ?_ ?_); rfl) | ((with_reducible refine rdPS _ rfl ?_ ?_); rfl) | ((with_reducible refine stP _ rfl ?_ ?_ ?_ ?_); rfl; rfl; rfl) | (with_reducible refine And.intro ?_ ?_) | (simp only [Bool.not_true, Bool.not_false, Bool.and_self, Bool.true_and, Br_true, Br_false, Gd_tt, Gd_ft, Gd_tf, Gd_ff, beq_self_eq_true, bne_self_eq_false]) | (with_reducible refine gd_split (fun _ => ?_) (fun _ => ?_)) | (with_reducible refine br_split (fun _ => ?_) (fun _ => ?_)) | (simp only [Pv_some, fldV_p, nilV_p, nilV_f, lenV_s, capV_s, sLen, minV_i, maxV_i, strV_s, unV_not, unV_neg, pickV_t, pickV_f, exV_t, cvIV_i, binI_add, binI_sub, binI_mul, binI_eql, binI_neq, binI_lss, binI_leq, binI_gtr, binI_geq, binI_and, binI_or, binB_eql, binB_neq, sEq, sNe, sLt, sLe, sGt, sGe, stampEq, stampNe, fldv_agg, fldv_one, binP_eql_nil, binP_neq_nil, binN_eql_nil, binN_neq_nil, binN_eql_nn, binN_neq_nn, Br_true, Br_false, Gd_tt, Gd_ft, Gd_tf, Gd_ff, cells_agg, List.getElem?_toArray, List.getElem?_cons_zero, List.getElem?_cons_succ, Nat.zero_add, Nat.add_zero, Nat.zero_mul, List.drop_succ_cons, List.drop_zero, List.take_succ_cons, List.take_zero, List.nil_append, List.cons_append, Nat.reduceAdd, List.drop_nil, List.take_nil, bld_1, bld_2, bld_3, bld_4, bld_5, bld_6, bld_7, bld_8, bld_9, bld_10, bld_11, bld_12, bld_13, bld_14, bld_15, bld_16, bld_17, bld_18, bld_19, bld_20, bld_21, bld_22, bld_23, bld_24, bld_25, bld_26, bld_27, bld_28]))
  all_goals first
    | exact Gh.done (hk0 _)
    | exact Gh.done (hk _ _ _ (by assumption) (by assumption))
    | (trace_state; sorry)

theorem cloneS_spec {v : Value} {es : List TSpan} (h : RL TSpanV 2 I L v es) (hl : es.length * 48 ≤ 140737488355328) (hk : ∀ X a c cells, SlO 40 2 X (.slice a es.length c) cells es.length → Recs (TSpanV I) 2 es cells → K (.slice a es.length c) I (X ++ L)) : Cal Try.prog ω 37 #[v] K I L := by
  refine cal37 ?_
  unfold sh37
  obtain ⟨a, cap, rfl⟩ := RL.form h
  cases a with
  | none =>
    try simp only [Pv_some, fldV_p, nilV_p, nilV_f, lenV_s, capV_s, sLen, minV_i, maxV_i, strV_s, unV_not, unV_neg, pickV_t, pickV_f, exV_t, cvIV_i, binI_add, binI_sub, binI_mul, binI_eql, binI_neq, binI_lss, binI_leq, binI_gtr, binI_geq, binI_and, binI_or, binB_eql, binB_neq, sEq, sNe, sLt, sLe, sGt, sGe, stampEq, stampNe, fldv_agg, fldv_one, binP_eql_nil, binP_neq_nil, binN_eql_nil, binN_neq_nil, binN_eql_nn, binN_neq_nn, Br_true, Br_false, Gd_tt, Gd_ft, Gd_tf, Gd_ff, cells_agg, List.getElem?_toArray, List.getElem?_cons_zero, List.getElem?_cons_succ, Nat.zero_add, Nat.add_zero, Nat.zero_mul, List.drop_succ_cons, List.drop_zero, List.take_succ_cons, List.take_zero, List.nil_append, List.cons_append, Nat.reduceAdd, List.drop_nil, List.take_nil, bld_1, bld_2, bld_3, bld_4, bld_5, bld_6, bld_7, bld_8, bld_9, bld_10, bld_11, bld_12, bld_13, bld_14, bld_15, bld_16, bld_17, bld_18, bld_19, bld_20, bld_21, bld_22, bld_23, bld_24, bld_25, bld_26, bld_27, bld_28]
    obtain ⟨a1, c1, cells, e, _, hn, hR⟩ := h
    have hl0 : es.length = 0 := by
      rcases hn with ⟨a, c, e, h0, _⟩ | ⟨b, off, c, e, _⟩ | ⟨s, e, _⟩
      · exact h0
      · cases e
      · cases e
    have : es = [] := List.eq_nil_of_length_eq_zero hl0
    subst this
    exact Gh.done (hk [] _ _ [] (SlO.none _ _) rfl)
  | some a =>
    try simp only [Pv_some, fldV_p, nilV_p, nilV_f, lenV_s, capV_s, sLen, minV_i, maxV_i, strV_s, unV_not, unV_neg, pickV_t, pickV_f, exV_t, cvIV_i, binI_add, binI_sub, binI_mul, binI_eql, binI_neq, binI_lss, binI_leq, binI_gtr, binI_geq, binI_and, binI_or, binB_eql, binB_neq, sEq, sNe, sLt, sLe, sGt, sGe, stampEq, stampNe, fldv_agg, fldv_one, binP_eql_nil, binP_neq_nil, binN_eql_nil, binN_neq_nil, binN_eql_nn, binN_neq_nn, Br_true, Br_false, Gd_tt, Gd_ft, Gd_tf, Gd_ff, cells_agg, List.getElem?_toArray, List.getElem?_cons_zero, List.getElem?_cons_succ, Nat.zero_add, Nat.add_zero, Nat.zero_mul, List.drop_succ_cons, List.drop_zero, List.take_succ_cons, List.take_zero, List.nil_append, List.cons_append, Nat.reduceAdd, List.drop_nil, List.take_nil, bld_1, bld_2, bld_3, bld_4, bld_5, bld_6, bld_7, bld_8, bld_9, bld_10, bld_11, bld_12, bld_13, bld_14, bld_15, bld_16, bld_17, bld_18, bld_19, bld_20, bld_21, bld_22, bld_23, bld_24, bld_25, bld_26, bld_27, bld_28]
    refine bld_zero (fun X u hX => ?_)
    refine copy_app (R := TSpanV) (X := X) rfl (RL.mono (fun _ _ h => h) h (Ext.refl _) (fun _ h => List.mem_append_right _ h)) (fun h => h.one) hX hl (by omega) (fun X' v' cells' h6 hR => ?_)
    obtain ⟨a', c', rfl⟩ := h6.form
    exact Gh.done (Gh.done (hk X' _ _ cells' h6 hR))
theorem cloneK_spec {v : Value} {es : List (List UInt8)} (h : RL BysV 1 I L v es) (hl : es.length * 24 ≤ 140737488355328) (hk : ∀ a c I', Ext I I' → RL BysV 1 I' [] (.slice a es.length c) es → K (.slice a es.length c) I' L) : Cal Try.prog ω 65 #[v] K I L := by
  refine cal65 ?_
  unfold sh65
  obtain ⟨a, cap, rfl⟩ := RL.form h
  cases a with
  | none =>
    try simp only [Pv_some, fldV_p, nilV_p, nilV_f, lenV_s, capV_s, sLen, minV_i, maxV_i, strV_s, unV_not, unV_neg, pickV_t, pickV_f, exV_t, cvIV_i, binI_add, binI_sub, binI_mul, binI_eql, binI_neq, binI_lss, binI_leq, binI_gtr, binI_geq, binI_and, binI_or, binB_eql, binB_neq, sEq, sNe, sLt, sLe, sGt, sGe, stampEq, stampNe, fldv_agg, fldv_one, binP_eql_nil, binP_neq_nil, binN_eql_nil, binN_neq_nil, binN_eql_nn, binN_neq_nn, Br_true, Br_false, Gd_tt, Gd_ft, Gd_tf, Gd_ff, cells_agg, List.getElem?_toArray, List.getElem?_cons_zero, List.getElem?_cons_succ, Nat.zero_add, Nat.add_zero, Nat.zero_mul, List.drop_succ_cons, List.drop_zero, List.take_succ_cons, List.take_zero, List.nil_append, List.cons_append, Nat.reduceAdd, List.drop_nil, List.take_nil, bld_1, bld_2, bld_3, bld_4, bld_5, bld_6, bld_7, bld_8, bld_9, bld_10, bld_11, bld_12, bld_13, bld_14, bld_15, bld_16, bld_17, bld_18, bld_19, bld_20, bld_21, bld_22, bld_23, bld_24, bld_25, bld_26, bld_27, bld_28]
    obtain ⟨a1, c1, cells, e, _, hn, hR⟩ := h
    have hl0 : es.length = 0 := by
      rcases hn with ⟨a, c, e, h0, _⟩ | ⟨b, off, c, e, _⟩ | ⟨s, e, _⟩
      · exact h0
      · cases e
      · cases e
    have : es = [] := List.eq_nil_of_length_eq_zero hl0
    subst this
    exact Gh.done (hk _ _ I (Ext.refl _) (RL.nil _ _))
  | some a =>
    try simp only [Pv_some, fldV_p, nilV_p, nilV_f, lenV_s, capV_s, sLen, minV_i, maxV_i, strV_s, unV_not, unV_neg, pickV_t, pickV_f, exV_t, cvIV_i, binI_add, binI_sub, binI_mul, binI_eql, binI_neq, binI_lss, binI_leq, binI_gtr, binI_geq, binI_and, binI_or, binB_eql, binB_neq, sEq, sNe, sLt, sLe, sGt, sGe, stampEq, stampNe, fldv_agg, fldv_one, binP_eql_nil, binP_neq_nil, binN_eql_nil, binN_neq_nil, binN_eql_nn, binN_neq_nn, Br_true, Br_false, Gd_tt, Gd_ft, Gd_tf, Gd_ff, cells_agg, List.getElem?_toArray, List.getElem?_cons_zero, List.getElem?_cons_succ, Nat.zero_add, Nat.add_zero, Nat.zero_mul, List.drop_succ_cons, List.drop_zero, List.take_succ_cons, List.take_zero, List.nil_append, List.cons_append, Nat.reduceAdd, List.drop_nil, List.take_nil, bld_1, bld_2, bld_3, bld_4, bld_5, bld_6, bld_7, bld_8, bld_9, bld_10, bld_11, bld_12, bld_13, bld_14, bld_15, bld_16, bld_17, bld_18, bld_19, bld_20, bld_21, bld_22, bld_23, bld_24, bld_25, bld_26, bld_27, bld_28]
    refine bld_zero (fun X u hX => ?_)
    refine copy_app (R := BysV) (X := X) rfl (RL.mono (fun _ _ h => h) h (Ext.refl _) (fun _ h => List.mem_append_right _ h)) (fun h => h.one) hX hl (by omega) (fun X' v' cells' h6 hR => ?_)
    obtain ⟨a', c', rfl⟩ := h6.form
    refine RL.ofO (R := BysV) (fun h hI => h.mono hI) h6 hR (fun I2 hI2 h2 => Gh.done (Gh.done (hk _ _ I2 hI2 h2)))

theorem tcommit_spec {b n : Nat} {X F : LH} {x : TTxn} (h : TxR I b X x) (hT : TI n x) (hn : n ≤ 1000)
    (hk : ∀ e X' I' x', Ext I I' → TxR I' b X' x' → TI n x' → K (.int .i64 e) I' (X' ++ F)) :
    Cal Try.prog ω 13 #[.pointer (some ⟨b, 0, none⟩)] K I (X ++ F) := by
  have hk0 := fun e => hk e X I x (Ext.refl _) h hT
  obtain ⟨v0, v1, v2, v3, v4, v5, v6, v7, v8, v9, v10, T, rfl, ⟨Xr, Xw, Xs, Xg, cr, cw, cs, cg, hL⟩, h9, h10⟩ := h
  obtain rfl := hL.mem
  have hnR := hT.nR
  have hW := hL.view (L := (b, txCells x v0 v1 v2 v3 v4 v5 v6 v7 v8 v9 v10) :: (Xr ++ (Xw ++ (Xs ++ (Xg ++ F))))) h9 h10 (List.mem_cons_self ..) (fun y hy => by
    simp only [List.mem_append] at hy
    simp only [List.mem_cons, List.mem_append]
    rcases hy with hy | hy | hy | hy <;> simp [hy])
  simp only [List.cons_append, List.append_assoc] at hk0 ⊢
  refine cal13 ?_
  unfold sh13
  try simp only [Pv_some, fldV_p, nilV_p, nilV_f, lenV_s, capV_s, sLen, minV_i, maxV_i, strV_s, unV_not, unV_neg, pickV_t, pickV_f, exV_t, cvIV_i, binI_add, binI_sub, binI_mul, binI_eql, binI_neq, binI_lss, binI_leq, binI_gtr, binI_geq, binI_and, binI_or, binB_eql, binB_neq, sEq, sNe, sLt, sLe, sGt, sGe, stampEq, stampNe, fldv_agg, fldv_one, binP_eql_nil, binP_neq_nil, binN_eql_nil, binN_neq_nil, binN_eql_nn, binN_neq_nn, Br_true, Br_false, Gd_tt, Gd_ft, Gd_tf, Gd_ff, cells_agg, List.getElem?_toArray, List.getElem?_cons_zero, List.getElem?_cons_succ, Nat.zero_add, Nat.add_zero, Nat.zero_mul, List.drop_succ_cons, List.drop_zero, List.take_succ_cons, List.take_zero, List.nil_append, List.cons_append, Nat.reduceAdd, List.drop_nil, List.take_nil, bld_1, bld_2, bld_3, bld_4, bld_5, bld_6, bld_7, bld_8, bld_9, bld_10, bld_11, bld_12, bld_13, bld_14, bld_15, bld_16, bld_17, bld_18, bld_19, bld_20, bld_21, bld_22, bld_23, bld_24, bld_25, bld_26, bld_27, bld_28]
  refine rdb ?_
  try simp only [Pv_some, fldV_p, nilV_p, nilV_f, lenV_s, capV_s, sLen, minV_i, maxV_i, strV_s, unV_not, unV_neg, pickV_t, pickV_f, exV_t, cvIV_i, binI_add, binI_sub, binI_mul, binI_eql, binI_neq, binI_lss, binI_leq, binI_gtr, binI_geq, binI_and, binI_or, binB_eql, binB_neq, sEq, sNe, sLt, sLe, sGt, sGe, stampEq, stampNe, fldv_agg, fldv_one, binP_eql_nil, binP_neq_nil, binN_eql_nil, binN_neq_nil, binN_eql_nn, binN_neq_nn, Br_true, Br_false, Gd_tt, Gd_ft, Gd_tf, Gd_ff, cells_agg, List.getElem?_toArray, List.getElem?_cons_zero, List.getElem?_cons_succ, Nat.zero_add, Nat.add_zero, Nat.zero_mul, List.drop_succ_cons, List.drop_zero, List.take_succ_cons, List.take_zero, List.nil_append, List.cons_append, Nat.reduceAdd, List.drop_nil, List.take_nil, bld_1, bld_2, bld_3, bld_4, bld_5, bld_6, bld_7, bld_8, bld_9, bld_10, bld_11, bld_12, bld_13, bld_14, bld_15, bld_16, bld_17, bld_18, bld_19, bld_20, bld_21, bld_22, bld_23, bld_24, bld_25, bld_26, bld_27, bld_28]
  refine br_split (fun e0 => Gh.done (hk0 _)) (fun e0 => ?_)
  refine rdb ?_
  try simp only [Pv_some, fldV_p, nilV_p, nilV_f, lenV_s, capV_s, sLen, minV_i, maxV_i, strV_s, unV_not, unV_neg, pickV_t, pickV_f, exV_t, cvIV_i, binI_add, binI_sub, binI_mul, binI_eql, binI_neq, binI_lss, binI_leq, binI_gtr, binI_geq, binI_and, binI_or, binB_eql, binB_neq, sEq, sNe, sLt, sLe, sGt, sGe, stampEq, stampNe, fldv_agg, fldv_one, binP_eql_nil, binP_neq_nil, binN_eql_nil, binN_neq_nil, binN_eql_nn, binN_neq_nn, Br_true, Br_false, Gd_tt, Gd_ft, Gd_tf, Gd_ff, cells_agg, List.getElem?_toArray, List.getElem?_cons_zero, List.getElem?_cons_succ, Nat.zero_add, Nat.add_zero, Nat.zero_mul, List.drop_succ_cons, List.drop_zero, List.take_succ_cons, List.take_zero, List.nil_append, List.cons_append, Nat.reduceAdd, List.drop_nil, List.take_nil, bld_1, bld_2, bld_3, bld_4, bld_5, bld_6, bld_7, bld_8, bld_9, bld_10, bld_11, bld_12, bld_13, bld_14, bld_15, bld_16, bld_17, bld_18, bld_19, bld_20, bld_21, bld_22, bld_23, bld_24, bld_25, bld_26, bld_27, bld_28]
  refine br_split (fun e1 => ?_) (fun e1 => ?_)
  · refine call (over_at (F := F) hL hT (fun X' x' h1 h2 => ?_))
    exact Gh.done (hk _ _ _ _ (Ext.refl _) h1 h2)
  unfold txCells at *
  have fin : ∀ I', Ext I I' → Gh (K (.int .i64 0)) I' ((b, txCells { x with fState := 2, fStage := 4 } v0 v1 v2 v3 v4 v5 v6 v7 v8 v9 v10) :: (Xr ++ (Xw ++ (Xs ++ (Xg ++ F))))) := fun I' hI' =>
    Gh.done (TxL.close (x := { x with fState := 2, fStage := 4 }) ((hL.mono hI').same ⟨rfl, rfl, rfl, rfl, rfl, rfl, rfl, rfl⟩) (h9.mono hI') (h10.mono hI') (fun X' hX' => hk _ X' I' _ hI' hX' { hT with
      spans := fun h => by rcases h with h | h <;> exact absurd h (by show ¬ (4 : Int) = _; omega)
      ops := fun h => absurd h (by show ¬ (4 : Int) = _; omega) }))
  repeat' (first | (with_reducible refine drawC ?_) | (with_reducible refine drawW1 ?_) | (with_reducible refine drawW2 ?_) | (with_reducible refine keepC (by repeat (first | exact Ext.refl _ | assumption | refine Ext.trans ?_ (by assumption))) ?_) | (with_reducible refine newI (fun _ => ?_)) | ((with_reducible refine call ?_); refine (hcompare_spec (x := x.fEnd) (y := x.fAt) (fun I2 hI2 => ?_))) | first | (with_reducible refine rdb ?_) | ((with_reducible refine st1 ?_ ?_); rfl) | ((with_reducible refine rdB ?_ ?_); rfl) | (with_reducible refine rdbS ?_) | ((with_reducible refine rdBS ?_ ?_); rfl) | ((with_reducible refine stB ?_ ?_ ?_ ?_); rfl; rfl; exact one_all rfl) | ((with_reducible refine rdP _ rfl ?_ ?_); rfl) | ((with_reducible refine rdPS _ rfl ?_ ?_); rfl) | ((with_reducible refine stP _ rfl ?_ ?_ ?_ ?_); rfl; rfl; rfl) | (with_reducible refine And.intro ?_ ?_) | (simp only [Bool.not_true, Bool.not_false, Bool.and_self, Bool.true_and, Br_true, Br_false, Gd_tt, Gd_ft, Gd_tf, Gd_ff, beq_self_eq_true, bne_self_eq_false]) | (with_reducible refine gd_split (fun _ => ?_) (fun _ => ?_)) | (with_reducible refine br_split (fun _ => ?_) (fun _ => ?_)) | (simp only [Pv_some, fldV_p, nilV_p, nilV_f, lenV_s, capV_s, sLen, minV_i, maxV_i, strV_s, unV_not, unV_neg, pickV_t, pickV_f, exV_t, cvIV_i, binI_add, binI_sub, binI_mul, binI_eql, binI_neq, binI_lss, binI_leq, binI_gtr, binI_geq, binI_and, binI_or, binB_eql, binB_neq, sEq, sNe, sLt, sLe, sGt, sGe, stampEq, stampNe, fldv_agg, fldv_one, binP_eql_nil, binP_neq_nil, binN_eql_nil, binN_neq_nil, binN_eql_nn, binN_neq_nn, Br_true, Br_false, Gd_tt, Gd_ft, Gd_tf, Gd_ff, cells_agg, List.getElem?_toArray, List.getElem?_cons_zero, List.getElem?_cons_succ, Nat.zero_add, Nat.add_zero, Nat.zero_mul, List.drop_succ_cons, List.drop_zero, List.take_succ_cons, List.take_zero, List.nil_append, List.cons_append, Nat.reduceAdd, List.drop_nil, List.take_nil, bld_1, bld_2, bld_3, bld_4, bld_5, bld_6, bld_7, bld_8, bld_9, bld_10, bld_11, bld_12, bld_13, bld_14, bld_15, bld_16, bld_17, bld_18, bld_19, bld_20, bld_21, bld_22, bld_23, bld_24, bld_25, bld_26, bld_27, bld_28, RL.len hW.read]))
  all_goals first
    | exact fin _ (by repeat (first | exact Ext.refl _ | assumption | refine Ext.trans ?_ (by assumption)))
    | skip
  rename_i h1
  simp at h1
  unfold sh13_2
  repeat' (first | (with_reducible refine drawC ?_) | (with_reducible refine drawW1 ?_) | (with_reducible refine drawW2 ?_) | (with_reducible refine keepC (by repeat (first | exact Ext.refl _ | assumption | refine Ext.trans ?_ (by assumption))) ?_) | (with_reducible refine newI (fun _ => ?_)) | ((with_reducible refine call ?_); refine (cloneS_spec (rl_own (R := TSpanV) hL.read (hL.readR.imp fun _ _ h => h.mono hI2) (fun y hy => by simp [hy])) (by omega) (fun X5 a5 c5 cells5 h6 hR => ?_))) | first | (with_reducible refine rdb ?_) | ((with_reducible refine st1 ?_ ?_); rfl) | ((with_reducible refine rdB ?_ ?_); rfl) | (with_reducible refine rdbS ?_) | ((with_reducible refine rdBS ?_ ?_); rfl) | ((with_reducible refine stB ?_ ?_ ?_ ?_); rfl; rfl; exact one_all rfl) | ((with_reducible refine rdP _ rfl ?_ ?_); rfl) | ((with_reducible refine rdPS _ rfl ?_ ?_); rfl) | ((with_reducible refine stP _ rfl ?_ ?_ ?_ ?_); rfl; rfl; rfl) | (with_reducible refine And.intro ?_ ?_) | (simp only [Bool.not_true, Bool.not_false, Bool.and_self, Bool.true_and, Br_true, Br_false, Gd_tt, Gd_ft, Gd_tf, Gd_ff, beq_self_eq_true, bne_self_eq_false]) | (with_reducible refine gd_split (fun _ => ?_) (fun _ => ?_)) | (with_reducible refine br_split (fun _ => ?_) (fun _ => ?_)) | (simp only [Pv_some, fldV_p, nilV_p, nilV_f, lenV_s, capV_s, sLen, minV_i, maxV_i, strV_s, unV_not, unV_neg, pickV_t, pickV_f, exV_t, cvIV_i, binI_add, binI_sub, binI_mul, binI_eql, binI_neq, binI_lss, binI_leq, binI_gtr, binI_geq, binI_and, binI_or, binB_eql, binB_neq, sEq, sNe, sLt, sLe, sGt, sGe, stampEq, stampNe, fldv_agg, fldv_one, binP_eql_nil, binP_neq_nil, binN_eql_nil, binN_neq_nil, binN_eql_nn, binN_neq_nn, Br_true, Br_false, Gd_tt, Gd_ft, Gd_tf, Gd_ff, cells_agg, List.getElem?_toArray, List.getElem?_cons_zero, List.getElem?_cons_succ, Nat.zero_add, Nat.add_zero, Nat.zero_mul, List.drop_succ_cons, List.drop_zero, List.take_succ_cons, List.take_zero, List.nil_append, List.cons_append, Nat.reduceAdd, List.drop_nil, List.take_nil, bld_1, bld_2, bld_3, bld_4, bld_5, bld_6, bld_7, bld_8, bld_9, bld_10, bld_11, bld_12, bld_13, bld_14, bld_15, bld_16, bld_17, bld_18, bld_19, bld_20, bld_21, bld_22, bld_23, bld_24, bld_25, bld_26, bld_27, bld_28]))
  refine Gh.pick b (Xr ++ (Xw ++ (X5 ++ (Xg ++ F)))) (Gh.done ?_)
  exact TxL.close (x := { x with fState := 2, fStage := 3, fSpans := x.fRead }) (Xs := X5) { (hL.mono hI2).same (y := { x with fState := 2, fStage := 3 }) ⟨rfl, rfl, rfl, rfl, rfl, rfl, rfl, rfl⟩ with
    mem := rfl
    spans := SlO.toW h6
    spansR := hR } (h9.mono hI2) (h10.mono hI2) (fun X' hX' => hk _ X' _ _ hI2 hX' { hT with
      spans := fun _ => by show x.fRead ≠ []; intro e; simp [e] at h1
      ops := fun h => absurd h (by show ¬ (3 : Int) = _; omega)
      spanL := hT.readL })

/-- the answer that goes with a transaction's command -/
theorem TResV.form {I : Imm} {r : TRes} {c : List Value} (h : TResV I r c) : ∃ a0 p0 a1 p1, c = [.int .i64 r.fCode, .bool r.fGot.fFound, .slice a0 r.fGot.fValue.length p0, .int .i64 r.fGot.fAt.fWall, .int .i64 r.fGot.fAt.fLogic, .int .i64 r.fGot.fBy, .slice a1 r.fRows.length p1, .int .i64 r.fAt.fWall, .int .i64 r.fAt.fLogic, .int .i64 r.fBy, .int .i64 r.fState] ∧
    Bytes I (.slice a0 r.fGot.fValue.length p0) r.fGot.fValue ∧ RL TKVV 2 I [] (.slice a1 r.fRows.length p1) r.fRows := by
  obtain ⟨v0, v1, rfl, h0, h1⟩ := h
  obtain ⟨a0, p0, rfl⟩ := Bytes.form h0
  obtain ⟨a1, p1, rfl⟩ := RL.form h1
  exact ⟨a0, p0, a1, p1, rfl, h0, h1⟩

theorem unblock_spec {b n : Nat} {X F : LH} {x : TTxn} {y : TCmd} {yc : List Value} {r : TRes} {rc : List Value} (h : TxR I b X x) (hT : TI n x) (hy : TCmdV I y yc) (hr : TResV I r rc)
    (hk : ∀ X' x', TxR I b X' x' → TI n x' → K (.tuple #[]) I (X' ++ F)) :
    Cal Try.prog ω 43 #[.pointer (some ⟨b, 0, none⟩), .agg yc.toArray, .agg rc.toArray] K I (X ++ F) := by
  obtain ⟨_, _, _, _, _, _, _, _, rfl, y0, y1, y2, y3⟩ := hy.form
  obtain ⟨_, _, _, _, rfl, r0, r1⟩ := hr.form
  obtain ⟨v0, v1, v2, v3, v4, v5, v6, v7, v8, v9, v10, T, rfl, ⟨Xr, Xw, Xs, Xg, cr, cw, cs, cg, hL⟩, h9, h10⟩ := h
  obtain rfl := hL.mem
  simp only [List.cons_append, List.append_assoc]
  refine cal43 ?_
  unfold sh43
  repeat' (first | (with_reducible refine drawC ?_) | (with_reducible refine drawW1 ?_) | (with_reducible refine drawW2 ?_) | (with_reducible refine keepC (by repeat (first | exact Ext.refl _ | assumption | refine Ext.trans ?_ (by assumption))) ?_) | (with_reducible refine newI (fun _ => ?_)) | ((with_reducible refine call ?_); refine (undo_at (F := F) hL hT (fun X' x' h1 h2 => ?_))) | first | (with_reducible refine rdb ?_) | ((with_reducible refine st1 ?_ ?_); rfl) | ((with_reducible refine rdB ?_ ?_); rfl) | (with_reducible refine rdbS ?_) | ((with_reducible refine rdBS ?_ ?_); rfl) | ((with_reducible refine stB ?_ ?_ ?_ ?_); rfl; rfl; exact one_all rfl) | ((with_reducible refine rdP _ rfl ?_ ?_); rfl) | ((with_reducible refine rdPS _ rfl ?_ ?_); rfl) | ((with_reducible refine stP _ rfl ?_ ?_ ?_ ?_); rfl; rfl; rfl) | (with_reducible refine unfE (sh43_2.eq_1 ..) ?_) | (with_reducible refine unfE (sh43.eq_1 ..) ?_) | (with_reducible refine And.intro ?_ ?_) | (simp only [Bool.not_true, Bool.not_false, Bool.and_self, Bool.true_and, Br_true, Br_false, Gd_tt, Gd_ft, Gd_tf, Gd_ff, beq_self_eq_true, bne_self_eq_false]) | (with_reducible refine gd_split (fun _ => ?_) (fun _ => ?_)) | (with_reducible refine br_split (fun _ => ?_) (fun _ => ?_)) | (simp only [Pv_some, fldV_p, nilV_p, nilV_f, lenV_s, capV_s, sLen, minV_i, maxV_i, strV_s, unV_not, unV_neg, pickV_t, pickV_f, exV_t, cvIV_i, binI_add, binI_sub, binI_mul, binI_eql, binI_neq, binI_lss, binI_leq, binI_gtr, binI_geq, binI_and, binI_or, binB_eql, binB_neq, sEq, sNe, sLt, sLe, sGt, sGe, stampEq, stampNe, fldv_agg, fldv_one, binP_eql_nil, binP_neq_nil, binN_eql_nil, binN_neq_nil, binN_eql_nn, binN_neq_nn, Br_true, Br_false, Gd_tt, Gd_ft, Gd_tf, Gd_ff, cells_agg, List.getElem?_toArray, List.getElem?_cons_zero, List.getElem?_cons_succ, Nat.zero_add, Nat.add_zero, Nat.zero_mul, List.drop_succ_cons, List.drop_zero, List.take_succ_cons, List.take_zero, List.nil_append, List.cons_append, Nat.reduceAdd, List.drop_nil, List.take_nil, bld_1, bld_2, bld_3, bld_4, bld_5, bld_6, bld_7, bld_8, bld_9, bld_10, bld_11, bld_12, bld_13, bld_14, bld_15, bld_16, bld_17, bld_18, bld_19, bld_20, bld_21, bld_22, bld_23, bld_24, bld_25, bld_26, bld_27, bld_28]))
  all_goals first
    | exact Gh.done (hk _ _ (by assumption) (by assumption))
    | (refine Gh.pick b (Xr ++ (Xw ++ (Xs ++ (Xg ++ F)))) (Gh.done ?_)
       first
        | exact TxL.close (x := { x with fBlocked := default }) (hL.same ⟨rfl, rfl, rfl, rfl, rfl, rfl, rfl, rfl⟩) (nilB _) (nilB _) (fun X' hX' => hk X' _ hX' { hT with whereL := spanOk0 })
        | exact TxL.close (x := { x with fBlocked := { x.fBlocked with fTold := IntKind.i64.wrap (x.fBlocked.fTold + 1) } }) (hL.same ⟨rfl, rfl, rfl, rfl, rfl, rfl, rfl, rfl⟩) h9 h10 (fun X' hX' => hk X' _ hX' { hT with })
        | exact TxL.close (x := { x with fBlocked := { x.fBlocked with fEnded := r.fState, fAt := r.fAt } }) (hL.same ⟨rfl, rfl, rfl, rfl, rfl, rfl, rfl, rfl⟩) h9 h10 (fun X' hX' => hk X' _ hX' { hT with }))

/-- t.keys = t.keys[1:] -/
theorem RL.tl {α : Type} {R : Imm → α → List Value → Prop} {I : Imm} {L : LH} {n : Nat} {v : Value} {xs : List α} (h : RL R n I L v xs) (h0 : xs ≠ []) :
    ∃ a c, slcV n v (some (.int .i64 1)) none none = some (.slice a (xs.drop 1).length c) ∧ RL R n I L (.slice a (xs.drop 1).length c) (xs.drop 1) := by
  have hp := List.length_pos_iff.2 h0
  obtain ⟨v', hs, hl⟩ := RL.part h (lo := 1) (hi := xs.length) (by omega) (Nat.le_refl _) (some (.int .i64 1)) none (bnd_in _ 1 _ _ (by omega)) (fun _ _ => rfl)
  rw [List.take_of_length_le (by simp)] at hl
  have hl' := hl
  obtain ⟨a, c, rfl⟩ := RL.form hl'
  exact ⟨a, c, hs, hl⟩

theorem cleaned_spec {b n : Nat} {X F : LH} {x : TTxn} {y : TCmd} {yc : List Value} {r : TRes} {rc : List Value} (h : TxR I b X x) (hT : TI n x) (hn : n ≤ 1000) (hy : TCmdV I y yc) (hr : TResV I r rc)
    (hst : x.fStage = 5 ∨ x.fStage = 6) (hkey : y.fKind ≠ 6 → y.fKind ≠ 8 → x.fKeys ≠ [])
    (hk : ∀ X' I' x', Ext I I' → TxR I' b X' x' → TI n x' → K (.tuple #[]) I' (X' ++ F)) :
    Cal Try.prog ω 44 #[.pointer (some ⟨b, 0, none⟩), .agg yc.toArray, .agg rc.toArray] K I (X ++ F) := by
  have hR0 := h
  obtain ⟨_, _, _, _, _, _, _, _, rfl, y0, y1, y2, y3⟩ := hy.form
  obtain ⟨_, _, _, _, rfl, r0, r1⟩ := hr.form
  obtain ⟨v0, v1, v2, v3, v4, v5, v6, v7, v8, v9, v10, T, rfl, ⟨Xr, Xw, Xs, Xg, cr, cw, cs, cg, hL⟩, h9, h10⟩ := h
  obtain rfl := hL.mem
  have hnW := hT.nW
  have hk0 := hk _ I x (Ext.refl _) hR0 hT
  simp only [List.cons_append, List.append_assoc] at hk0 ⊢
  refine cal44 ?_
  unfold sh44
  refine newI (fun b1 => newI (fun b2 => ?_))
  try simp only [Pv_some, fldV_p, nilV_p, nilV_f, lenV_s, capV_s, sLen, minV_i, maxV_i, strV_s, unV_not, unV_neg, pickV_t, pickV_f, exV_t, cvIV_i, binI_add, binI_sub, binI_mul, binI_eql, binI_neq, binI_lss, binI_leq, binI_gtr, binI_geq, binI_and, binI_or, binB_eql, binB_neq, sEq, sNe, sLt, sLe, sGt, sGe, stampEq, stampNe, fldv_agg, fldv_one, binP_eql_nil, binP_neq_nil, binN_eql_nil, binN_neq_nil, binN_eql_nn, binN_neq_nn, Br_true, Br_false, Gd_tt, Gd_ft, Gd_tf, Gd_ff, cells_agg, List.getElem?_toArray, List.getElem?_cons_zero, List.getElem?_cons_succ, Nat.zero_add, Nat.add_zero, Nat.zero_mul, List.drop_succ_cons, List.drop_zero, List.take_succ_cons, List.take_zero, List.nil_append, List.cons_append, Nat.reduceAdd, List.drop_nil, List.take_nil, bld_1, bld_2, bld_3, bld_4, bld_5, bld_6, bld_7, bld_8, bld_9, bld_10, bld_11, bld_12, bld_13, bld_14, bld_15, bld_16, bld_17, bld_18, bld_19, bld_20, bld_21, bld_22, bld_23, bld_24, bld_25, bld_26, bld_27, bld_28]
  refine rdb ?_
  try simp only [Pv_some, fldV_p, nilV_p, nilV_f, lenV_s, capV_s, sLen, minV_i, maxV_i, strV_s, unV_not, unV_neg, pickV_t, pickV_f, exV_t, cvIV_i, binI_add, binI_sub, binI_mul, binI_eql, binI_neq, binI_lss, binI_leq, binI_gtr, binI_geq, binI_and, binI_or, binB_eql, binB_neq, sEq, sNe, sLt, sLe, sGt, sGe, stampEq, stampNe, fldv_agg, fldv_one, binP_eql_nil, binP_neq_nil, binN_eql_nil, binN_neq_nil, binN_eql_nn, binN_neq_nn, Br_true, Br_false, Gd_tt, Gd_ft, Gd_tf, Gd_ff, cells_agg, List.getElem?_toArray, List.getElem?_cons_zero, List.getElem?_cons_succ, Nat.zero_add, Nat.add_zero, Nat.zero_mul, List.drop_succ_cons, List.drop_zero, List.take_succ_cons, List.take_zero, List.nil_append, List.cons_append, Nat.reduceAdd, List.drop_nil, List.take_nil, bld_1, bld_2, bld_3, bld_4, bld_5, bld_6, bld_7, bld_8, bld_9, bld_10, bld_11, bld_12, bld_13, bld_14, bld_15, bld_16, bld_17, bld_18, bld_19, bld_20, bld_21, bld_22, bld_23, bld_24, bld_25, bld_26, bld_27, bld_28]
  refine br_split (fun e1 => ?_) (fun e1 => ?_)
  · repeat' (first | (with_reducible refine drawC ?_) | (with_reducible refine drawW1 ?_) | (with_reducible refine drawW2 ?_) | (with_reducible refine keepC (by repeat (first | exact Ext.refl _ | assumption | refine Ext.trans ?_ (by assumption))) ?_) | (with_reducible refine newI (fun _ => ?_)) | ((with_reducible refine call ?_); refine (cloneK_spec (rl_own (R := BysV) hL.written hL.writtenR (fun y hy => by simp [hy])) (by omega) (fun a5 c5 I2 hI2 h5 => ?_))) | first | (with_reducible refine rdb ?_) | ((with_reducible refine st1 ?_ ?_); rfl) | ((with_reducible refine rdB ?_ ?_); rfl) | (with_reducible refine rdbS ?_) | ((with_reducible refine rdBS ?_ ?_); rfl) | ((with_reducible refine stB ?_ ?_ ?_ ?_); rfl; rfl; exact one_all rfl) | ((with_reducible refine rdP _ rfl ?_ ?_); rfl) | ((with_reducible refine rdPS _ rfl ?_ ?_); rfl) | ((with_reducible refine stP _ rfl ?_ ?_ ?_ ?_); rfl; rfl; rfl) | (with_reducible refine And.intro ?_ ?_) | (simp only [Bool.not_true, Bool.not_false, Bool.and_self, Bool.true_and, Br_true, Br_false, Gd_tt, Gd_ft, Gd_tf, Gd_ff, beq_self_eq_true, bne_self_eq_false]) | (with_reducible refine gd_split (fun _ => ?_) (fun _ => ?_)) | (with_reducible refine br_split (fun _ => ?_) (fun _ => ?_)) | (simp only [Pv_some, fldV_p, nilV_p, nilV_f, lenV_s, capV_s, sLen, minV_i, maxV_i, strV_s, unV_not, unV_neg, pickV_t, pickV_f, exV_t, cvIV_i, binI_add, binI_sub, binI_mul, binI_eql, binI_neq, binI_lss, binI_leq, binI_gtr, binI_geq, binI_and, binI_or, binB_eql, binB_neq, sEq, sNe, sLt, sLe, sGt, sGe, stampEq, stampNe, fldv_agg, fldv_one, binP_eql_nil, binP_neq_nil, binN_eql_nil, binN_neq_nil, binN_eql_nn, binN_neq_nn, Br_true, Br_false, Gd_tt, Gd_ft, Gd_tf, Gd_ff, cells_agg, List.getElem?_toArray, List.getElem?_cons_zero, List.getElem?_cons_succ, Nat.zero_add, Nat.add_zero, Nat.zero_mul, List.drop_succ_cons, List.drop_zero, List.take_succ_cons, List.take_zero, List.nil_append, List.cons_append, Nat.reduceAdd, List.drop_nil, List.take_nil, bld_1, bld_2, bld_3, bld_4, bld_5, bld_6, bld_7, bld_8, bld_9, bld_10, bld_11, bld_12, bld_13, bld_14, bld_15, bld_16, bld_17, bld_18, bld_19, bld_20, bld_21, bld_22, bld_23, bld_24, bld_25, bld_26, bld_27, bld_28]))
    refine Gh.pick b (Xr ++ (Xw ++ (Xs ++ (Xg ++ F)))) (Gh.done ?_)
    exact TxL.close (x := { x with fStage := 6, fKeys := x.fWritten }) { (hL.mono hI2).same (y := { x with fStage := 6 }) ⟨rfl, rfl, rfl, rfl, rfl, rfl, rfl, rfl⟩ with
      mem := rfl
      keys := h5 } (h9.mono hI2) (h10.mono hI2) (fun X' hX' => hk X' _ _ hI2 hX' { hT with
      spans := fun h => by rcases h with h | h <;> exact absurd h (by show ¬ (6 : Int) = _; omega)
      ops := fun h => absurd h (by show ¬ (6 : Int) = _; omega)
      keyL := hT.writL })
  refine rdb ?_
  try simp only [Pv_some, fldV_p, nilV_p, nilV_f, lenV_s, capV_s, sLen, minV_i, maxV_i, strV_s, unV_not, unV_neg, pickV_t, pickV_f, exV_t, cvIV_i, binI_add, binI_sub, binI_mul, binI_eql, binI_neq, binI_lss, binI_leq, binI_gtr, binI_geq, binI_and, binI_or, binB_eql, binB_neq, sEq, sNe, sLt, sLe, sGt, sGe, stampEq, stampNe, fldv_agg, fldv_one, binP_eql_nil, binP_neq_nil, binN_eql_nil, binN_neq_nil, binN_eql_nn, binN_neq_nn, Br_true, Br_false, Gd_tt, Gd_ft, Gd_tf, Gd_ff, cells_agg, List.getElem?_toArray, List.getElem?_cons_zero, List.getElem?_cons_succ, Nat.zero_add, Nat.add_zero, Nat.zero_mul, List.drop_succ_cons, List.drop_zero, List.take_succ_cons, List.take_zero, List.nil_append, List.cons_append, Nat.reduceAdd, List.drop_nil, List.take_nil, bld_1, bld_2, bld_3, bld_4, bld_5, bld_6, bld_7, bld_8, bld_9, bld_10, bld_11, bld_12, bld_13, bld_14, bld_15, bld_16, bld_17, bld_18, bld_19, bld_20, bld_21, bld_22, bld_23, bld_24, bld_25, bld_26, bld_27, bld_28]
  simp at e1
  refine br_split (fun e2 => ?_) (fun e2 => ?_)
  · refine call (over_at (F := F) hL hT (fun X' x' h1 h2 => ?_))
    exact Gh.done (hk _ I _ (Ext.refl _) h1 h2)
  simp at e2
  refine rdb ?_
  try simp only [Pv_some, fldV_p, nilV_p, nilV_f, lenV_s, capV_s, sLen, minV_i, maxV_i, strV_s, unV_not, unV_neg, pickV_t, pickV_f, exV_t, cvIV_i, binI_add, binI_sub, binI_mul, binI_eql, binI_neq, binI_lss, binI_leq, binI_gtr, binI_geq, binI_and, binI_or, binB_eql, binB_neq, sEq, sNe, sLt, sLe, sGt, sGe, stampEq, stampNe, fldv_agg, fldv_one, binP_eql_nil, binP_neq_nil, binN_eql_nil, binN_neq_nil, binN_eql_nn, binN_neq_nn, Br_true, Br_false, Gd_tt, Gd_ft, Gd_tf, Gd_ff, cells_agg, List.getElem?_toArray, List.getElem?_cons_zero, List.getElem?_cons_succ, Nat.zero_add, Nat.add_zero, Nat.zero_mul, List.drop_succ_cons, List.drop_zero, List.take_succ_cons, List.take_zero, List.nil_append, List.cons_append, Nat.reduceAdd, List.drop_nil, List.take_nil, bld_1, bld_2, bld_3, bld_4, bld_5, bld_6, bld_7, bld_8, bld_9, bld_10, bld_11, bld_12, bld_13, bld_14, bld_15, bld_16, bld_17, bld_18, bld_19, bld_20, bld_21, bld_22, bld_23, bld_24, bld_25, bld_26, bld_27, bld_28]
  refine br_split (fun e3 => ?_) (fun e3 => ?_)
  · obtain ⟨a5, c5, hs5, h5⟩ := RL.tl hL.keys (hkey e1 e2)
    repeat' (first | (with_reducible refine drawC ?_) | (with_reducible refine drawW1 ?_) | (with_reducible refine drawW2 ?_) | (with_reducible refine keepC (by repeat (first | exact Ext.refl _ | assumption | refine Ext.trans ?_ (by assumption))) ?_) | (with_reducible refine newI (fun _ => ?_)) | first | (with_reducible refine rdb ?_) | ((with_reducible refine st1 ?_ ?_); rfl) | ((with_reducible refine rdB ?_ ?_); rfl) | (with_reducible refine rdbS ?_) | ((with_reducible refine rdBS ?_ ?_); rfl) | ((with_reducible refine stB ?_ ?_ ?_ ?_); rfl; rfl; exact one_all rfl) | ((with_reducible refine rdP _ rfl ?_ ?_); rfl) | ((with_reducible refine rdPS _ rfl ?_ ?_); rfl) | ((with_reducible refine stP _ rfl ?_ ?_ ?_ ?_); rfl; rfl; rfl) | (with_reducible refine And.intro ?_ ?_) | (simp only [Bool.not_true, Bool.not_false, Bool.and_self, Bool.true_and, Br_true, Br_false, Gd_tt, Gd_ft, Gd_tf, Gd_ff, beq_self_eq_true, bne_self_eq_false]) | (with_reducible refine gd_split (fun _ => ?_) (fun _ => ?_)) | (with_reducible refine br_split (fun _ => ?_) (fun _ => ?_)) | (simp only [Pv_some, fldV_p, nilV_p, nilV_f, lenV_s, capV_s, sLen, minV_i, maxV_i, strV_s, unV_not, unV_neg, pickV_t, pickV_f, exV_t, cvIV_i, binI_add, binI_sub, binI_mul, binI_eql, binI_neq, binI_lss, binI_leq, binI_gtr, binI_geq, binI_and, binI_or, binB_eql, binB_neq, sEq, sNe, sLt, sLe, sGt, sGe, stampEq, stampNe, fldv_agg, fldv_one, binP_eql_nil, binP_neq_nil, binN_eql_nil, binN_neq_nil, binN_eql_nn, binN_neq_nn, Br_true, Br_false, Gd_tt, Gd_ft, Gd_tf, Gd_ff, cells_agg, List.getElem?_toArray, List.getElem?_cons_zero, List.getElem?_cons_succ, Nat.zero_add, Nat.add_zero, Nat.zero_mul, List.drop_succ_cons, List.drop_zero, List.take_succ_cons, List.take_zero, List.nil_append, List.cons_append, Nat.reduceAdd, List.drop_nil, List.take_nil, bld_1, bld_2, bld_3, bld_4, bld_5, bld_6, bld_7, bld_8, bld_9, bld_10, bld_11, bld_12, bld_13, bld_14, bld_15, bld_16, bld_17, bld_18, bld_19, bld_20, bld_21, bld_22, bld_23, bld_24, bld_25, bld_26, bld_27, bld_28, hs5]))
    refine Gh.pick b (Xr ++ (Xw ++ (Xs ++ (Xg ++ F)))) (Gh.done ?_)
    exact TxL.close (x := { x with fKeys := x.fKeys.drop 1 }) { hL.same (y := { x with }) ⟨rfl, rfl, rfl, rfl, rfl, rfl, rfl, rfl⟩ with
      mem := rfl
      keys := h5 } h9 h10 (fun X' hX' => hk X' _ _ (Ext.refl _) hX' { hT with keyL := fun k hk => hT.keyL k (List.mem_of_mem_drop hk) })
  · exact Gh.pick b (Xr ++ (Xw ++ (Xs ++ (Xg ++ F)))) (Gh.done hk0)
end
end Go.Proofs.Ytlalbollbdlfhaa
