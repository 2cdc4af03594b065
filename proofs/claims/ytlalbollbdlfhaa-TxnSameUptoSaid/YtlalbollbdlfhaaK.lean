/-
  A transaction takes what was done: all of it.
-/
-- S2
import Derived.Test.YtlalbollbdlfhaaJ
set_option linter.unusedSimpArgs false
set_option linter.unusedVariables false
namespace Go.Proofs.Ytlalbollbdlfhaa
open Go.SL
set_option maxRecDepth 10000

section
variable {ω : Om} {I : Imm} {L : LH} {K : Value → M}

theorem done3_spec {b b1 b2 n : Nat} {o1 o2 : Obj} {x : TTxn} {v0 v1 v2 v3 v4 v5 v6 v7 v8 v9 v10 : Value} {Xr Xw Xs Xg F A B R : LH} {cr cw cs cg : List Value} (hL : TxL I x (Xr ++ (Xw ++ (Xs ++ Xg))) v0 v1 v2 v3 v4 v5 v6 v7 v8 Xr Xw Xs Xg cr cw cs cg) (h9 : Bytes I v9 x.fBlocked.fWhere.fFrom) (h10 : Bytes I v10 x.fBlocked.fWhere.fTo) (hT : TI n x) (hops : x.fOps ≠ []) (hst : x.fStage = 2)
    (hk : ∀ X' x', TxR I b X' x' → TI n x' → K (.tuple #[]) I (X' ++ F)) [hs : SubP (Xr ++ (Xw ++ (Xs ++ (Xg ++ F)))) (A ++ (B ++ ((b2, o2) :: (b1, o1) :: R)))] :
    sh45_3 ω (.pointer (some ⟨b, 0, none⟩)) (fun v => Gh (K v)) I (A ++ (B ++ ((b2, o2) :: (b1, o1) :: (b, txCells x v0 v1 v2 v3 v4 v5 v6 v7 v8 v9 v10) :: R))) := by
  unfold txCells
  unfold sh45_3
  obtain ⟨a5, c5, hs5, h5⟩ := RL.tl hL.ops hops
  repeat' (first | (with_reducible refine drawC ?_) | (with_reducible refine drawW1 ?_) | (with_reducible refine drawW2 ?_) | (with_reducible refine keepC (by repeat (first | exact Ext.refl _ | assumption | refine Ext.trans ?_ (by assumption))) ?_) | (with_reducible refine newI (fun _ => ?_)) | first | (with_reducible refine rdb ?_) | ((with_reducible refine st1 ?_ ?_); rfl) | ((with_reducible refine rdB ?_ ?_); rfl) | (with_reducible refine rdbS ?_) | ((with_reducible refine rdBS ?_ ?_); rfl) | ((with_reducible refine stB ?_ ?_ ?_ ?_); rfl; rfl; exact one_all rfl) | ((with_reducible refine rdP _ rfl ?_ ?_); rfl) | ((with_reducible refine rdPS _ rfl ?_ ?_); rfl) | ((with_reducible refine stP _ rfl ?_ ?_ ?_ ?_); rfl; rfl; rfl) | (with_reducible refine And.intro ?_ ?_) | (simp only [Bool.not_true, Bool.not_false, Bool.and_self, Bool.true_and, Br_true, Br_false, Gd_tt, Gd_ft, Gd_tf, Gd_ff, beq_self_eq_true, bne_self_eq_false]) | (with_reducible refine gd_split (fun _ => ?_) (fun _ => ?_)) | (with_reducible refine br_split (fun _ => ?_) (fun _ => ?_)) | (simp only [Pv_some, fldV_p, nilV_p, nilV_f, lenV_s, capV_s, sLen, minV_i, maxV_i, strV_s, unV_not, unV_neg, pickV_t, pickV_f, exV_t, cvIV_i, binI_add, binI_sub, binI_mul, binI_eql, binI_neq, binI_lss, binI_leq, binI_gtr, binI_geq, binI_and, binI_or, binB_eql, binB_neq, sEq, sNe, sLt, sLe, sGt, sGe, stampEq, stampNe, fldv_agg, fldv_one, binP_eql_nil, binP_neq_nil, binN_eql_nil, binN_neq_nil, binN_eql_nn, binN_neq_nn, Br_true, Br_false, Gd_tt, Gd_ft, Gd_tf, Gd_ff, cells_agg, List.getElem?_toArray, List.getElem?_cons_zero, List.getElem?_cons_succ, Nat.zero_add, Nat.add_zero, Nat.zero_mul, List.drop_succ_cons, List.drop_zero, List.take_succ_cons, List.take_zero, List.nil_append, List.cons_append, Nat.reduceAdd, List.drop_nil, List.take_nil, bld_1, bld_2, bld_3, bld_4, bld_5, bld_6, bld_7, bld_8, bld_9, bld_10, bld_11, bld_12, bld_13, bld_14, bld_15, bld_16, bld_17, bld_18, bld_19, bld_20, bld_21, bld_22, bld_23, bld_24, bld_25, bld_26, bld_27, bld_28, hs5]))
  · rename_i e
    refine Gh.pick b (Xr ++ (Xw ++ (Xs ++ (Xg ++ F)))) (Gh.done ?_)
    exact TxL.close (x := { x with fOps := x.fOps.drop 1, fState := 1, fStage := 0 }) { hL.same (y := { x with }) ⟨rfl, rfl, rfl, rfl, rfl, rfl, rfl, rfl⟩ with
      mem := rfl
      ops := h5 } h9 h10 (fun X' hX' => hk X' _ hX' { hT with
        spans := fun h => by rcases h with h | h <;> exact absurd h (by show ¬ (0 : Int) = _; omega)
        ops := fun h => absurd h (by show ¬ (0 : Int) = _; omega)
        opL := fun k hk => hT.opL k (List.mem_of_mem_drop hk) })
  · rename_i e
    simp at e
    refine Gh.pick b (Xr ++ (Xw ++ (Xs ++ (Xg ++ F)))) (Gh.done ?_)
    exact TxL.close (x := { x with fOps := x.fOps.drop 1 }) { hL.same (y := { x with }) ⟨rfl, rfl, rfl, rfl, rfl, rfl, rfl, rfl⟩ with
      mem := rfl
      ops := h5 } h9 h10 (fun X' hX' => hk X' _ hX' { hT with
        ops := fun _ => by
          show x.fOps.drop 1 ≠ []
          intro e'
          have := congrArg List.length e'
          simp at this
          omega
        opL := fun k hk => hT.opL k (List.mem_of_mem_drop hk) })

theorem done2_spec {b b1 b2 n : Nat} {o2 : Obj} {y : TCmd} {ya0 ya1 ya2 ya3 : Option Addr} {yp0 yp1 yp2 yp3 : Nat} {x : TTxn} {v0 v1 v2 v3 v4 v5 v6 v7 v8 v9 v10 : Value} {Xr Xw Xs Xg F : LH} {cr cw cs cg : List Value} (hL : TxL I x (Xr ++ (Xw ++ (Xs ++ Xg))) v0 v1 v2 v3 v4 v5 v6 v7 v8 Xr Xw Xs Xg cr cw cs cg) (h9 : Bytes I v9 x.fBlocked.fWhere.fFrom) (h10 : Bytes I v10 x.fBlocked.fWhere.fTo) (hT : TI n x) (hn : n ≤ 900) (hops : x.fOps ≠ []) (hst : x.fStage = 2)
    (y0 : Bytes I (.slice ya0 y.fKey.length yp0) y.fKey) (hyl : y.fKey.length ≤ 110)
    (hk : ∀ X' I' x', Ext I I' → TxR I' b X' x' → TI (n + 1) x' → K (.tuple #[]) I' (X' ++ F)) :
    sh45_2 ω (.pointer (some ⟨b, 0, none⟩)) (.pointer (some ⟨b1, 0, none⟩)) (fun v => Gh (K v)) I ((b2, o2) :: (b1, cmdO y ya0 yp0 ya1 yp1 ya2 yp2 ya3 yp3) :: (b, txCells x v0 v1 v2 v3 v4 v5 v6 v7 v8 v9 v10) :: (Xr ++ (Xw ++ (Xs ++ (Xg ++ F))))) := by
  have hnW := hT.nW
  unfold txCells
  unfold sh45_2
  try simp only [Pv_some, fldV_p, nilV_p, nilV_f, lenV_s, capV_s, sLen, minV_i, maxV_i, strV_s, unV_not, unV_neg, pickV_t, pickV_f, exV_t, cvIV_i, binI_add, binI_sub, binI_mul, binI_eql, binI_neq, binI_lss, binI_leq, binI_gtr, binI_geq, binI_and, binI_or, binB_eql, binB_neq, sEq, sNe, sLt, sLe, sGt, sGe, stampEq, stampNe, fldv_agg, fldv_one, binP_eql_nil, binP_neq_nil, binN_eql_nil, binN_neq_nil, binN_eql_nn, binN_neq_nn, Br_true, Br_false, Gd_tt, Gd_ft, Gd_tf, Gd_ff, cells_agg, List.getElem?_toArray, List.getElem?_cons_zero, List.getElem?_cons_succ, Nat.zero_add, Nat.add_zero, Nat.zero_mul, List.drop_succ_cons, List.drop_zero, List.take_succ_cons, List.take_zero, List.nil_append, List.cons_append, Nat.reduceAdd, List.drop_nil, List.take_nil, bld_1, bld_2, bld_3, bld_4, bld_5, bld_6, bld_7, bld_8, bld_9, bld_10, bld_11, bld_12, bld_13, bld_14, bld_15, bld_16, bld_17, bld_18, bld_19, bld_20, bld_21, bld_22, bld_23, bld_24, bld_25, bld_26, bld_27, bld_28]
  refine rdb ?_
  refine call (containsK_spec (rl_own (R := BysV) hL.written hL.writtenR (fun y hy => by simp [hy])) (by omega) (fun v k K hv hk => done1_spec (List.mem_cons_of_mem _ (List.mem_cons_self ..)) y0 hv hk) (fun t => ?_))
  try simp only [Pv_some, fldV_p, nilV_p, nilV_f, lenV_s, capV_s, sLen, minV_i, maxV_i, strV_s, unV_not, unV_neg, pickV_t, pickV_f, exV_t, cvIV_i, binI_add, binI_sub, binI_mul, binI_eql, binI_neq, binI_lss, binI_leq, binI_gtr, binI_geq, binI_and, binI_or, binB_eql, binB_neq, sEq, sNe, sLt, sLe, sGt, sGe, stampEq, stampNe, fldv_agg, fldv_one, binP_eql_nil, binP_neq_nil, binN_eql_nil, binN_neq_nil, binN_eql_nn, binN_neq_nn, Br_true, Br_false, Gd_tt, Gd_ft, Gd_tf, Gd_ff, cells_agg, List.getElem?_toArray, List.getElem?_cons_zero, List.getElem?_cons_succ, Nat.zero_add, Nat.add_zero, Nat.zero_mul, List.drop_succ_cons, List.drop_zero, List.take_succ_cons, List.take_zero, List.nil_append, List.cons_append, Nat.reduceAdd, List.drop_nil, List.take_nil, bld_1, bld_2, bld_3, bld_4, bld_5, bld_6, bld_7, bld_8, bld_9, bld_10, bld_11, bld_12, bld_13, bld_14, bld_15, bld_16, bld_17, bld_18, bld_19, bld_20, bld_21, bld_22, bld_23, bld_24, bld_25, bld_26, bld_27, bld_28]
  refine br_split (fun e0 => ?_) (fun e0 => ?_)
  · repeat' (first | (with_reducible refine drawC ?_) | (with_reducible refine drawW1 ?_) | (with_reducible refine drawW2 ?_) | (with_reducible refine keepC (by repeat (first | exact Ext.refl _ | assumption | refine Ext.trans ?_ (by assumption))) ?_) | (with_reducible refine newI (fun _ => ?_)) | ((with_reducible refine call ?_); refine (cloneB_spec (y0.mono (by repeat (first | exact Ext.refl _ | assumption | refine Ext.trans ?_ (by assumption)))) (by omega) (fun _ _ I2 hI2 hB => ?_))) | first | (with_reducible refine rdb ?_) | ((with_reducible refine st1 ?_ ?_); rfl) | ((with_reducible refine rdB ?_ ?_); rfl) | (with_reducible refine rdbS ?_) | ((with_reducible refine rdBS ?_ ?_); rfl) | ((with_reducible refine stB ?_ ?_ ?_ ?_); rfl; rfl; exact one_all rfl) | ((with_reducible refine rdP _ rfl ?_ ?_); rfl) | ((with_reducible refine rdPS _ rfl ?_ ?_); rfl) | ((with_reducible refine stP _ rfl ?_ ?_ ?_ ?_); rfl; rfl; rfl) | (with_reducible refine And.intro ?_ ?_) | (simp only [Bool.not_true, Bool.not_false, Bool.and_self, Bool.true_and, Br_true, Br_false, Gd_tt, Gd_ft, Gd_tf, Gd_ff, beq_self_eq_true, bne_self_eq_false]) | (with_reducible refine gd_split (fun _ => ?_) (fun _ => ?_)) | (with_reducible refine br_split (fun _ => ?_) (fun _ => ?_)) | (simp only [Pv_some, fldV_p, nilV_p, nilV_f, lenV_s, capV_s, sLen, minV_i, maxV_i, strV_s, unV_not, unV_neg, pickV_t, pickV_f, exV_t, cvIV_i, binI_add, binI_sub, binI_mul, binI_eql, binI_neq, binI_lss, binI_leq, binI_gtr, binI_geq, binI_and, binI_or, binB_eql, binB_neq, sEq, sNe, sLt, sLe, sGt, sGe, stampEq, stampNe, fldv_agg, fldv_one, binP_eql_nil, binP_neq_nil, binN_eql_nil, binN_neq_nil, binN_eql_nn, binN_neq_nn, Br_true, Br_false, Gd_tt, Gd_ft, Gd_tf, Gd_ff, cells_agg, List.getElem?_toArray, List.getElem?_cons_zero, List.getElem?_cons_succ, Nat.zero_add, Nat.add_zero, Nat.zero_mul, List.drop_succ_cons, List.drop_zero, List.take_succ_cons, List.take_zero, List.nil_append, List.cons_append, Nat.reduceAdd, List.drop_nil, List.take_nil, bld_1, bld_2, bld_3, bld_4, bld_5, bld_6, bld_7, bld_8, bld_9, bld_10, bld_11, bld_12, bld_13, bld_14, bld_15, bld_16, bld_17, bld_18, bld_19, bld_20, bld_21, bld_22, bld_23, bld_24, bld_25, bld_26, bld_27, bld_28]))
    refine rec_app1K (R := BysV) (X6 := Xw) (x := y.fKey) (by repeat (first | exact Ext.refl _ | assumption | refine Ext.trans ?_ (by assumption))) (fun y hy => hy) rfl hL.written (hL.writtenR.imp fun _ _ h => h.mono (by repeat (first | exact Ext.refl _ | assumption | refine Ext.trans ?_ (by assumption)))) ⟨_, rfl, hB⟩ rfl (by omega) (by omega) (fun X1 X6' a' c' cells' h6' hR' => ?_)
    try simp only [Pv_some, fldV_p, nilV_p, nilV_f, lenV_s, capV_s, sLen, minV_i, maxV_i, strV_s, unV_not, unV_neg, pickV_t, pickV_f, exV_t, cvIV_i, binI_add, binI_sub, binI_mul, binI_eql, binI_neq, binI_lss, binI_leq, binI_gtr, binI_geq, binI_and, binI_or, binB_eql, binB_neq, sEq, sNe, sLt, sLe, sGt, sGe, stampEq, stampNe, fldv_agg, fldv_one, binP_eql_nil, binP_neq_nil, binN_eql_nil, binN_neq_nil, binN_eql_nn, binN_neq_nn, Br_true, Br_false, Gd_tt, Gd_ft, Gd_tf, Gd_ff, cells_agg, List.getElem?_toArray, List.getElem?_cons_zero, List.getElem?_cons_succ, Nat.zero_add, Nat.add_zero, Nat.zero_mul, List.drop_succ_cons, List.drop_zero, List.take_succ_cons, List.take_zero, List.nil_append, List.cons_append, Nat.reduceAdd, List.drop_nil, List.take_nil, bld_1, bld_2, bld_3, bld_4, bld_5, bld_6, bld_7, bld_8, bld_9, bld_10, bld_11, bld_12, bld_13, bld_14, bld_15, bld_16, bld_17, bld_18, bld_19, bld_20, bld_21, bld_22, bld_23, bld_24, bld_25, bld_26, bld_27, bld_28]
    refine st1 rfl ?_
    have hM : TxL I2 { x with fWritten := x.fWritten ++ [y.fKey] } (Xr ++ (X6' ++ (Xs ++ Xg))) v0 _ v2 v3 v4 v5 v6 v7 v8 Xr X6' Xs Xg cr cells' cs cg := { (hL.mono hI2).same (y := { x with }) ⟨rfl, rfl, rfl, rfl, rfl, rfl, rfl, rfl⟩ with
      mem := rfl
      written := h6'
      writtenR := hR' }
    have hT' : TI (n + 1) { x with fWritten := x.fWritten ++ [y.fKey] } := { hT.up (Nat.le_succ n) with
      writL := fun k hk => by
        rcases List.mem_append.1 hk with hk | hk
        · exact hT.writL k hk
        · rw [List.mem_singleton.1 hk]; exact hyl
      nW := by show (x.fWritten ++ [y.fKey]).length ≤ _; simp; omega }
    exact done3_spec (A := X6') (B := X1) (x := { x with fWritten := x.fWritten ++ [y.fKey] }) hM (h9.mono hI2) (h10.mono hI2) hT' hops hst (fun X' x' h1 h2 => hk X' I2 x' hI2 h1 h2)
  · exact done3_spec (A := []) (B := []) hL h9 h10 (hT.up (Nat.le_succ n)) hops hst (fun X' x' h1 h2 => hk X' I x' (Ext.refl _) h1 h2)

theorem done_spec {b n : Nat} {X F : LH} {x : TTxn} {y : TCmd} {yc : List Value} {r : TRes} {rc : List Value} (h : TxR I b X x) (hT : TI n x) (hn : n ≤ 800) (hy : TCmdV I y yc) (hr : TResV I r rc)
    (hys : spanOk y.fSpan) (hrs : rowsOk r.fRows) (h3 : y.fKind = 3 → x.fStage = 2 ∧ y.fKey.length ≤ 110) (h4 : y.fKind = 4 → x.fStage = 3)
    (hk : ∀ X' I' x', Ext I I' → TxR I' b X' x' → TI (n + 2) x' → K (.tuple #[]) I' (X' ++ F)) :
    Cal Try.prog ω 45 #[.pointer (some ⟨b, 0, none⟩), .agg yc.toArray, .agg rc.toArray] K I (X ++ F) := by
  have hR0 := h
  have hk0 := hk X I x (Ext.refl _) hR0 (hT.up (by omega))
  obtain ⟨ya0, yp0, ya1, yp1, ya2, yp2, ya3, yp3, rfl, y0, y1, y2, y3⟩ := hy.form
  obtain ⟨ra0, rp0, ra1, rp1, rfl, r0, r1⟩ := hr.form
  obtain ⟨v0, v1, v2, v3, v4, v5, v6, v7, v8, v9, v10, T, rfl, ⟨Xr, Xw, Xs, Xg, cr, cw, cs, cg, hL⟩, h9, h10⟩ := h
  obtain rfl := hL.mem
  have hnW := hT.nW
  refine cal45 ?_
  unfold sh45
  refine newI (fun b1 => newI (fun b2 => ?_))
  try simp only [Pv_some, fldV_p, nilV_p, nilV_f, lenV_s, capV_s, sLen, minV_i, maxV_i, strV_s, unV_not, unV_neg, pickV_t, pickV_f, exV_t, cvIV_i, binI_add, binI_sub, binI_mul, binI_eql, binI_neq, binI_lss, binI_leq, binI_gtr, binI_geq, binI_and, binI_or, binB_eql, binB_neq, sEq, sNe, sLt, sLe, sGt, sGe, stampEq, stampNe, fldv_agg, fldv_one, binP_eql_nil, binP_neq_nil, binN_eql_nil, binN_neq_nil, binN_eql_nn, binN_neq_nn, Br_true, Br_false, Gd_tt, Gd_ft, Gd_tf, Gd_ff, cells_agg, List.getElem?_toArray, List.getElem?_cons_zero, List.getElem?_cons_succ, Nat.zero_add, Nat.add_zero, Nat.zero_mul, List.drop_succ_cons, List.drop_zero, List.take_succ_cons, List.take_zero, List.nil_append, List.cons_append, Nat.reduceAdd, List.drop_nil, List.take_nil, bld_1, bld_2, bld_3, bld_4, bld_5, bld_6, bld_7, bld_8, bld_9, bld_10, bld_11, bld_12, bld_13, bld_14, bld_15, bld_16, bld_17, bld_18, bld_19, bld_20, bld_21, bld_22, bld_23, bld_24, bld_25, bld_26, bld_27, bld_28]
  refine rdb ?_
  try simp only [Pv_some, fldV_p, nilV_p, nilV_f, lenV_s, capV_s, sLen, minV_i, maxV_i, strV_s, unV_not, unV_neg, pickV_t, pickV_f, exV_t, cvIV_i, binI_add, binI_sub, binI_mul, binI_eql, binI_neq, binI_lss, binI_leq, binI_gtr, binI_geq, binI_and, binI_or, binB_eql, binB_neq, sEq, sNe, sLt, sLe, sGt, sGe, stampEq, stampNe, fldv_agg, fldv_one, binP_eql_nil, binP_neq_nil, binN_eql_nil, binN_neq_nil, binN_eql_nn, binN_neq_nn, Br_true, Br_false, Gd_tt, Gd_ft, Gd_tf, Gd_ff, cells_agg, List.getElem?_toArray, List.getElem?_cons_zero, List.getElem?_cons_succ, Nat.zero_add, Nat.add_zero, Nat.zero_mul, List.drop_succ_cons, List.drop_zero, List.take_succ_cons, List.take_zero, List.nil_append, List.cons_append, Nat.reduceAdd, List.drop_nil, List.take_nil, bld_1, bld_2, bld_3, bld_4, bld_5, bld_6, bld_7, bld_8, bld_9, bld_10, bld_11, bld_12, bld_13, bld_14, bld_15, bld_16, bld_17, bld_18, bld_19, bld_20, bld_21, bld_22, bld_23, bld_24, bld_25, bld_26, bld_27, bld_28]
  refine br_split (fun e2 => ?_) (fun e2 => ?_)
  · refine rdB rfl ?_
    refine rdB rfl ?_
    refine call (Cal.drop (L' := ((b, txCells x v0 v1 v2 v3 v4 v5 v6 v7 v8 v9 v10) :: (Xr ++ (Xw ++ (Xs ++ Xg)))) ++ F) ((List.sublist_cons_self ..).trans (List.sublist_cons_self ..)) ?_)
    refine scanned_spec hR0 hT (by omega) hy hr hys hrs (fun X' I' x' hI' h1 h2 => ?_)
    exact Gh.done (hk X' I' x' hI' h1 h2)
  simp only [List.cons_append, List.append_assoc] at hk0 ⊢
  unfold txCells at *
  refine br_split (fun e5 => ?_) (fun e5 => ?_)
  · repeat' (first | (with_reducible refine drawC ?_) | (with_reducible refine drawW1 ?_) | (with_reducible refine drawW2 ?_) | (with_reducible refine keepC (by repeat (first | exact Ext.refl _ | assumption | refine Ext.trans ?_ (by assumption))) ?_) | (with_reducible refine newI (fun _ => ?_)) | first | (with_reducible refine rdb ?_) | ((with_reducible refine st1 ?_ ?_); rfl) | ((with_reducible refine rdB ?_ ?_); rfl) | (with_reducible refine rdbS ?_) | ((with_reducible refine rdBS ?_ ?_); rfl) | ((with_reducible refine stB ?_ ?_ ?_ ?_); rfl; rfl; exact one_all rfl) | ((with_reducible refine rdP _ rfl ?_ ?_); rfl) | ((with_reducible refine rdPS _ rfl ?_ ?_); rfl) | ((with_reducible refine stP _ rfl ?_ ?_ ?_ ?_); rfl; rfl; rfl) | (with_reducible refine And.intro ?_ ?_) | (simp only [Bool.not_true, Bool.not_false, Bool.and_self, Bool.true_and, Br_true, Br_false, Gd_tt, Gd_ft, Gd_tf, Gd_ff, beq_self_eq_true, bne_self_eq_false]) | (with_reducible refine gd_split (fun _ => ?_) (fun _ => ?_)) | (with_reducible refine br_split (fun _ => ?_) (fun _ => ?_)) | (simp only [Pv_some, fldV_p, nilV_p, nilV_f, lenV_s, capV_s, sLen, minV_i, maxV_i, strV_s, unV_not, unV_neg, pickV_t, pickV_f, exV_t, cvIV_i, binI_add, binI_sub, binI_mul, binI_eql, binI_neq, binI_lss, binI_leq, binI_gtr, binI_geq, binI_and, binI_or, binB_eql, binB_neq, sEq, sNe, sLt, sLe, sGt, sGe, stampEq, stampNe, fldv_agg, fldv_one, binP_eql_nil, binP_neq_nil, binN_eql_nil, binN_neq_nil, binN_eql_nn, binN_neq_nn, Br_true, Br_false, Gd_tt, Gd_ft, Gd_tf, Gd_ff, cells_agg, List.getElem?_toArray, List.getElem?_cons_zero, List.getElem?_cons_succ, Nat.zero_add, Nat.add_zero, Nat.zero_mul, List.drop_succ_cons, List.drop_zero, List.take_succ_cons, List.take_zero, List.nil_append, List.cons_append, Nat.reduceAdd, List.drop_nil, List.take_nil, bld_1, bld_2, bld_3, bld_4, bld_5, bld_6, bld_7, bld_8, bld_9, bld_10, bld_11, bld_12, bld_13, bld_14, bld_15, bld_16, bld_17, bld_18, bld_19, bld_20, bld_21, bld_22, bld_23, bld_24, bld_25, bld_26, bld_27, bld_28]))
    refine Gh.pick b (Xr ++ (Xw ++ (Xs ++ (Xg ++ F)))) (Gh.done ?_)
    exact TxL.close (x := { x with fSeq := IntKind.i64.wrap (x.fSeq + 1), fBegun := true }) (hL.same ⟨rfl, rfl, rfl, rfl, rfl, rfl, rfl, rfl⟩) h9 h10 (fun X' hX' => hk X' _ _ (Ext.refl _) hX' { hT.up (by omega) with })
  refine br_split (fun e3 => ?_) (fun e3 => ?_)
  · simp at e3
    obtain ⟨hst, hyl⟩ := h3 e3
    have fin : ∀ (I2 : Imm) (t : TStamp), Ext I I2 → sh45_2 ω (.pointer (some ⟨b, 0, none⟩)) (.pointer (some ⟨b1, 0, none⟩)) (fun v => Gh (K v)) I2 ((b2, resO r ra0 rp0 ra1 rp1) :: (b1, cmdO y ya0 yp0 ya1 yp1 ya2 yp2 ya3 yp3) :: (b, txCells { x with fSeq := IntKind.i64.wrap (x.fSeq + 1), fEnd := t } v0 v1 v2 v3 v4 v5 v6 v7 v8 v9 v10) :: (Xr ++ (Xw ++ (Xs ++ (Xg ++ F))))) := fun I2 t hI2 =>
      done2_spec (x := { x with fSeq := IntKind.i64.wrap (x.fSeq + 1), fEnd := t }) ((hL.mono hI2).same ⟨rfl, rfl, rfl, rfl, rfl, rfl, rfl, rfl⟩) (h9.mono hI2) (h10.mono hI2) { hT with } (by omega) (hT.ops hst) hst (y0.mono hI2) hyl (fun X' I3 x' hI3 h1 h2 => hk X' I3 x' (hI2.trans hI3) h1 (h2.up (by omega)))
    repeat' (first | (with_reducible refine drawC ?_) | (with_reducible refine drawW1 ?_) | (with_reducible refine drawW2 ?_) | (with_reducible refine keepC (by repeat (first | exact Ext.refl _ | assumption | refine Ext.trans ?_ (by assumption))) ?_) | (with_reducible refine newI (fun _ => ?_)) | ((with_reducible refine call ?_); refine (hcompare_spec (x := r.fAt) (y := x.fEnd) (fun I2 hI2 => ?_))) | first | (with_reducible refine rdb ?_) | ((with_reducible refine st1 ?_ ?_); rfl) | ((with_reducible refine rdB ?_ ?_); rfl) | (with_reducible refine rdbS ?_) | ((with_reducible refine rdBS ?_ ?_); rfl) | ((with_reducible refine stB ?_ ?_ ?_ ?_); rfl; rfl; exact one_all rfl) | ((with_reducible refine rdP _ rfl ?_ ?_); rfl) | ((with_reducible refine rdPS _ rfl ?_ ?_); rfl) | ((with_reducible refine stP _ rfl ?_ ?_ ?_ ?_); rfl; rfl; rfl) | (with_reducible refine And.intro ?_ ?_) | (simp only [Bool.not_true, Bool.not_false, Bool.and_self, Bool.true_and, Br_true, Br_false, Gd_tt, Gd_ft, Gd_tf, Gd_ff, beq_self_eq_true, bne_self_eq_false]) | (with_reducible refine gd_split (fun _ => ?_) (fun _ => ?_)) | (with_reducible refine br_split (fun _ => ?_) (fun _ => ?_)) | (simp only [Pv_some, fldV_p, nilV_p, nilV_f, lenV_s, capV_s, sLen, minV_i, maxV_i, strV_s, unV_not, unV_neg, pickV_t, pickV_f, exV_t, cvIV_i, binI_add, binI_sub, binI_mul, binI_eql, binI_neq, binI_lss, binI_leq, binI_gtr, binI_geq, binI_and, binI_or, binB_eql, binB_neq, sEq, sNe, sLt, sLe, sGt, sGe, stampEq, stampNe, fldv_agg, fldv_one, binP_eql_nil, binP_neq_nil, binN_eql_nil, binN_neq_nil, binN_eql_nn, binN_neq_nn, Br_true, Br_false, Gd_tt, Gd_ft, Gd_tf, Gd_ff, cells_agg, List.getElem?_toArray, List.getElem?_cons_zero, List.getElem?_cons_succ, Nat.zero_add, Nat.add_zero, Nat.zero_mul, List.drop_succ_cons, List.drop_zero, List.take_succ_cons, List.take_zero, List.nil_append, List.cons_append, Nat.reduceAdd, List.drop_nil, List.take_nil, bld_1, bld_2, bld_3, bld_4, bld_5, bld_6, bld_7, bld_8, bld_9, bld_10, bld_11, bld_12, bld_13, bld_14, bld_15, bld_16, bld_17, bld_18, bld_19, bld_20, bld_21, bld_22, bld_23, bld_24, bld_25, bld_26, bld_27, bld_28]))
    · exact fin _ r.fAt (by assumption)
    · exact fin _ x.fEnd (by assumption)
  refine br_split (fun e4 => ?_) (fun e4 => ?_)
  · simp at e4
    have hst := h4 e4
    have hsp := hT.spans (.inr hst)
    have hlen := List.length_pos_iff.2 hsp
    obtain ⟨bs, off, cap, arr, hXs, rfl, hcl, hle, hsz, hcc⟩ := hL.spans.opn hlen
    subst hXs
    have hg := Recs.get hL.spansR (i := 0) (x := geti x.fSpans 0) (by simp [geti, List.getD, hlen])
    obtain ⟨hg1, g0v, g1v, hg2, gB0, gB1⟩ := hg
    simp only [Nat.zero_mul, List.drop_zero] at hg1 hg2
    obtain ⟨ga0, gp0, rfl⟩ := Bytes.form gB0
    obtain ⟨ga1, gp1, rfl⟩ := Bytes.form gB1
    have hcell : cs[1]? = some (.slice ga1 (geti x.fSpans 0).fTo.length gp1) := by
      have := congrArg (fun l => l[1]?) hg2
      simpa [List.getElem?_take] using this
    have hpo : spanOk (geti x.fSpans 0) := hT.spanL _ (by
      have := geti_nat hlen
      simp only [Int.natCast_zero] at this
      rw [this]; exact List.getElem_mem _)
    try simp only [Pv_some, fldV_p, nilV_p, nilV_f, lenV_s, capV_s, sLen, minV_i, maxV_i, strV_s, unV_not, unV_neg, pickV_t, pickV_f, exV_t, cvIV_i, binI_add, binI_sub, binI_mul, binI_eql, binI_neq, binI_lss, binI_leq, binI_gtr, binI_geq, binI_and, binI_or, binB_eql, binB_neq, sEq, sNe, sLt, sLe, sGt, sGe, stampEq, stampNe, fldv_agg, fldv_one, binP_eql_nil, binP_neq_nil, binN_eql_nil, binN_neq_nil, binN_eql_nn, binN_neq_nn, Br_true, Br_false, Gd_tt, Gd_ft, Gd_tf, Gd_ff, cells_agg, List.getElem?_toArray, List.getElem?_cons_zero, List.getElem?_cons_succ, Nat.zero_add, Nat.add_zero, Nat.zero_mul, List.drop_succ_cons, List.drop_zero, List.take_succ_cons, List.take_zero, List.nil_append, List.cons_append, Nat.reduceAdd, List.drop_nil, List.take_nil, bld_1, bld_2, bld_3, bld_4, bld_5, bld_6, bld_7, bld_8, bld_9, bld_10, bld_11, bld_12, bld_13, bld_14, bld_15, bld_16, bld_17, bld_18, bld_19, bld_20, bld_21, bld_22, bld_23, bld_24, bld_25, bld_26, bld_27, bld_28]
    refine rdb ?_
    try simp only [Pv_some, fldV_p, nilV_p, nilV_f, lenV_s, capV_s, sLen, minV_i, maxV_i, strV_s, unV_not, unV_neg, pickV_t, pickV_f, exV_t, cvIV_i, binI_add, binI_sub, binI_mul, binI_eql, binI_neq, binI_lss, binI_leq, binI_gtr, binI_geq, binI_and, binI_or, binB_eql, binB_neq, sEq, sNe, sLt, sLe, sGt, sGe, stampEq, stampNe, fldv_agg, fldv_one, binP_eql_nil, binP_neq_nil, binN_eql_nil, binN_neq_nil, binN_eql_nn, binN_neq_nn, Br_true, Br_false, Gd_tt, Gd_ft, Gd_tf, Gd_ff, cells_agg, List.getElem?_toArray, List.getElem?_cons_zero, List.getElem?_cons_succ, Nat.zero_add, Nat.add_zero, Nat.zero_mul, List.drop_succ_cons, List.drop_zero, List.take_succ_cons, List.take_zero, List.nil_append, List.cons_append, Nat.reduceAdd, List.drop_nil, List.take_nil, bld_1, bld_2, bld_3, bld_4, bld_5, bld_6, bld_7, bld_8, bld_9, bld_10, bld_11, bld_12, bld_13, bld_14, bld_15, bld_16, bld_17, bld_18, bld_19, bld_20, bld_21, bld_22, bld_23, bld_24, bld_25, bld_26, bld_27, bld_28]
    refine st1 rfl ?_
    try simp only [Pv_some, fldV_p, nilV_p, nilV_f, lenV_s, capV_s, sLen, minV_i, maxV_i, strV_s, unV_not, unV_neg, pickV_t, pickV_f, exV_t, cvIV_i, binI_add, binI_sub, binI_mul, binI_eql, binI_neq, binI_lss, binI_leq, binI_gtr, binI_geq, binI_and, binI_or, binB_eql, binB_neq, sEq, sNe, sLt, sLe, sGt, sGe, stampEq, stampNe, fldv_agg, fldv_one, binP_eql_nil, binP_neq_nil, binN_eql_nil, binN_neq_nil, binN_eql_nn, binN_neq_nn, Br_true, Br_false, Gd_tt, Gd_ft, Gd_tf, Gd_ff, cells_agg, List.getElem?_toArray, List.getElem?_cons_zero, List.getElem?_cons_succ, Nat.zero_add, Nat.add_zero, Nat.zero_mul, List.drop_succ_cons, List.drop_zero, List.take_succ_cons, List.take_zero, List.nil_append, List.cons_append, Nat.reduceAdd, List.drop_nil, List.take_nil, bld_1, bld_2, bld_3, bld_4, bld_5, bld_6, bld_7, bld_8, bld_9, bld_10, bld_11, bld_12, bld_13, bld_14, bld_15, bld_16, bld_17, bld_18, bld_19, bld_20, bld_21, bld_22, bld_23, bld_24, bld_25, bld_26, bld_27, bld_28]
    refine rdb ?_
    have hix : ixV 2 (.slice (some ⟨bs, off, none⟩) x.fSpans.length cap) (.int .i64 0) = some (.pointer (some ⟨bs, off, none⟩)) := by
      have := ixV_int bs off 2 .i64 x.fSpans.length cap 0 (by omega) (by omega)
      simpa using this
    simp only [hix, Pv_some, fldV_p, nilV_p, nilV_f, lenV_s, capV_s, sLen, minV_i, maxV_i, strV_s, unV_not, unV_neg, pickV_t, pickV_f, exV_t, cvIV_i, binI_add, binI_sub, binI_mul, binI_eql, binI_neq, binI_lss, binI_leq, binI_gtr, binI_geq, binI_and, binI_or, binB_eql, binB_neq, sEq, sNe, sLt, sLe, sGt, sGe, stampEq, stampNe, fldv_agg, fldv_one, binP_eql_nil, binP_neq_nil, binN_eql_nil, binN_neq_nil, binN_eql_nn, binN_neq_nn, Br_true, Br_false, Gd_tt, Gd_ft, Gd_tf, Gd_ff, cells_agg, List.getElem?_toArray, List.getElem?_cons_zero, List.getElem?_cons_succ, Nat.zero_add, Nat.add_zero, Nat.zero_mul, List.drop_succ_cons, List.drop_zero, List.take_succ_cons, List.take_zero, List.nil_append, List.cons_append, Nat.reduceAdd, List.drop_nil, List.take_nil, bld_1, bld_2, bld_3, bld_4, bld_5, bld_6, bld_7, bld_8, bld_9, bld_10, bld_11, bld_12, bld_13, bld_14, bld_15, bld_16, bld_17, bld_18, bld_19, bld_20, bld_21, bld_22, bld_23, bld_24, bld_25, bld_26, bld_27, bld_28]
    have hc1 : ∀ L, (bs, Obj.cells arr 40 (0, 0)) ∈ L → Cell I L bs (off + 1) (.slice ga1 (geti x.fSpans 0).fTo.length gp1) := fun L hm => Cell.own hm (hcc 1 _ hcell)
    refine drawC ?_
    refine rdbS ?_
    try simp only [Pv_some, fldV_p, nilV_p, nilV_f, lenV_s, capV_s, sLen, minV_i, maxV_i, strV_s, unV_not, unV_neg, pickV_t, pickV_f, exV_t, cvIV_i, binI_add, binI_sub, binI_mul, binI_eql, binI_neq, binI_lss, binI_leq, binI_gtr, binI_geq, binI_and, binI_or, binB_eql, binB_neq, sEq, sNe, sLt, sLe, sGt, sGe, stampEq, stampNe, fldv_agg, fldv_one, binP_eql_nil, binP_neq_nil, binN_eql_nil, binN_neq_nil, binN_eql_nn, binN_neq_nn, Br_true, Br_false, Gd_tt, Gd_ft, Gd_tf, Gd_ff, cells_agg, List.getElem?_toArray, List.getElem?_cons_zero, List.getElem?_cons_succ, Nat.zero_add, Nat.add_zero, Nat.zero_mul, List.drop_succ_cons, List.drop_zero, List.take_succ_cons, List.take_zero, List.nil_append, List.cons_append, Nat.reduceAdd, List.drop_nil, List.take_nil, bld_1, bld_2, bld_3, bld_4, bld_5, bld_6, bld_7, bld_8, bld_9, bld_10, bld_11, bld_12, bld_13, bld_14, bld_15, bld_16, bld_17, bld_18, bld_19, bld_20, bld_21, bld_22, bld_23, bld_24, bld_25, bld_26, bld_27, bld_28]
    refine rd1I (hc1 _ (by simp)) ?_
    refine call (ahead_spec y3 gB1 (fun t => ?_))
    refine br_split (fun e0 => ?_) (fun e0 => ?_)
    · refine drawC ?_
      try simp only [Pv_some, fldV_p, nilV_p, nilV_f, lenV_s, capV_s, sLen, minV_i, maxV_i, strV_s, unV_not, unV_neg, pickV_t, pickV_f, exV_t, cvIV_i, binI_add, binI_sub, binI_mul, binI_eql, binI_neq, binI_lss, binI_leq, binI_gtr, binI_geq, binI_and, binI_or, binB_eql, binB_neq, sEq, sNe, sLt, sLe, sGt, sGe, stampEq, stampNe, fldv_agg, fldv_one, binP_eql_nil, binP_neq_nil, binN_eql_nil, binN_neq_nil, binN_eql_nn, binN_neq_nn, Br_true, Br_false, Gd_tt, Gd_ft, Gd_tf, Gd_ff, cells_agg, List.getElem?_toArray, List.getElem?_cons_zero, List.getElem?_cons_succ, Nat.zero_add, Nat.add_zero, Nat.zero_mul, List.drop_succ_cons, List.drop_zero, List.take_succ_cons, List.take_zero, List.nil_append, List.cons_append, Nat.reduceAdd, List.drop_nil, List.take_nil, bld_1, bld_2, bld_3, bld_4, bld_5, bld_6, bld_7, bld_8, bld_9, bld_10, bld_11, bld_12, bld_13, bld_14, bld_15, bld_16, bld_17, bld_18, bld_19, bld_20, bld_21, bld_22, bld_23, bld_24, bld_25, bld_26, bld_27, bld_28]
      refine rdbS ?_
      refine call (cloneB_spec y3 (by have := hys.2; omega) (fun a5 c5 I2 hI2 hB5 => ?_))
      refine keepS hI2 (fun y hy => hy) ?_
      try simp only [Pv_some, fldV_p, nilV_p, nilV_f, lenV_s, capV_s, sLen, minV_i, maxV_i, strV_s, unV_not, unV_neg, pickV_t, pickV_f, exV_t, cvIV_i, binI_add, binI_sub, binI_mul, binI_eql, binI_neq, binI_lss, binI_leq, binI_gtr, binI_geq, binI_and, binI_or, binB_eql, binB_neq, sEq, sNe, sLt, sLe, sGt, sGe, stampEq, stampNe, fldv_agg, fldv_one, binP_eql_nil, binP_neq_nil, binN_eql_nil, binN_neq_nil, binN_eql_nn, binN_neq_nn, Br_true, Br_false, Gd_tt, Gd_ft, Gd_tf, Gd_ff, cells_agg, List.getElem?_toArray, List.getElem?_cons_zero, List.getElem?_cons_succ, Nat.zero_add, Nat.add_zero, Nat.zero_mul, List.drop_succ_cons, List.drop_zero, List.take_succ_cons, List.take_zero, List.nil_append, List.cons_append, Nat.reduceAdd, List.drop_nil, List.take_nil, bld_1, bld_2, bld_3, bld_4, bld_5, bld_6, bld_7, bld_8, bld_9, bld_10, bld_11, bld_12, bld_13, bld_14, bld_15, bld_16, bld_17, bld_18, bld_19, bld_20, bld_21, bld_22, bld_23, bld_24, bld_25, bld_26, bld_27, bld_28]
      refine rd1I (hc1 _ (by simp)) ?_
      try simp only [Pv_some, fldV_p, nilV_p, nilV_f, lenV_s, capV_s, sLen, minV_i, maxV_i, strV_s, unV_not, unV_neg, pickV_t, pickV_f, exV_t, cvIV_i, binI_add, binI_sub, binI_mul, binI_eql, binI_neq, binI_lss, binI_leq, binI_gtr, binI_geq, binI_and, binI_or, binB_eql, binB_neq, sEq, sNe, sLt, sLe, sGt, sGe, stampEq, stampNe, fldv_agg, fldv_one, binP_eql_nil, binP_neq_nil, binN_eql_nil, binN_neq_nil, binN_eql_nn, binN_neq_nn, Br_true, Br_false, Gd_tt, Gd_ft, Gd_tf, Gd_ff, cells_agg, List.getElem?_toArray, List.getElem?_cons_zero, List.getElem?_cons_succ, Nat.zero_add, Nat.add_zero, Nat.zero_mul, List.drop_succ_cons, List.drop_zero, List.take_succ_cons, List.take_zero, List.nil_append, List.cons_append, Nat.reduceAdd, List.drop_nil, List.take_nil, bld_1, bld_2, bld_3, bld_4, bld_5, bld_6, bld_7, bld_8, bld_9, bld_10, bld_11, bld_12, bld_13, bld_14, bld_15, bld_16, bld_17, bld_18, bld_19, bld_20, bld_21, bld_22, bld_23, bld_24, bld_25, bld_26, bld_27, bld_28]
      refine stAny (b := bs) [.slice a5 y.fSpan.fTo.length c5, .slice ga1 (geti x.fSpans 0).fTo.length gp1] rfl (by omega) rfl ?_
      have hset := SlW.set0 (b := bs) (T := 40) (vs := [.slice a5 y.fSpan.fTo.length c5, .slice ga1 (geti x.fSpans 0).fTo.length gp1]) hcl hlen hle hsz hcc rfl
      refine Gh.pick b (Xr ++ (Xw ++ ((bs, .cells (wr arr off [.slice a5 y.fSpan.fTo.length c5, .slice ga1 (geti x.fSpans 0).fTo.length gp1]) 40 (0, 0)) :: (Xg ++ F)))) (Gh.done (Gh.done ?_))
      have hl' : (⟨y.fSpan.fTo, (geti x.fSpans 0).fTo⟩ :: x.fSpans.drop 1 : List TSpan).length = x.fSpans.length := by simp; omega
      exact TxL.close (x := { x with fSeq := IntKind.i64.wrap (x.fSeq + 1), fSpans := ⟨y.fSpan.fTo, (geti x.fSpans 0).fTo⟩ :: x.fSpans.drop 1 }) (Xs := [(bs, .cells (wr arr off [.slice a5 y.fSpan.fTo.length c5, .slice ga1 (geti x.fSpans 0).fTo.length gp1]) 40 (0, 0))]) { (hL.mono hI2).same (y := { x with }) ⟨rfl, rfl, rfl, rfl, rfl, rfl, rfl, rfl⟩ with
        mem := rfl
        spans := by rw [hl']; exact hset
        spansR := ⟨rfl, ⟨_, _, rfl, hB5, gB1.mono hI2⟩, by simpa using (Recs.drop 1 (hL.mono hI2).spansR)⟩ } (h9.mono hI2) (h10.mono hI2) (fun X' hX' => hk X' _ _ hI2 hX' { hT.up (Nat.le_add_right n 2) with
          spans := fun _ => by show _ :: _ ≠ []; simp
          spanL := fun p hp => by
            rcases List.mem_cons.1 hp with rfl | hp
            · exact ⟨hys.2, hpo.2⟩
            · exact hT.spanL p (List.mem_of_mem_drop hp) })
    · obtain ⟨a5, c5, hs5, h5⟩ := hL.spans.tl hlen
      have hd : (x.fSpans.drop 1).length = x.fSpans.length - 1 := List.length_drop
      repeat' (first | (with_reducible refine drawC ?_) | (with_reducible refine drawW1 ?_) | (with_reducible refine drawW2 ?_) | (with_reducible refine keepC (by repeat (first | exact Ext.refl _ | assumption | refine Ext.trans ?_ (by assumption))) ?_) | (with_reducible refine newI (fun _ => ?_)) | first | (with_reducible refine rdb ?_) | ((with_reducible refine st1 ?_ ?_); rfl) | ((with_reducible refine rdB ?_ ?_); rfl) | (with_reducible refine rdbS ?_) | ((with_reducible refine rdBS ?_ ?_); rfl) | ((with_reducible refine stB ?_ ?_ ?_ ?_); rfl; rfl; exact one_all rfl) | ((with_reducible refine rdP _ rfl ?_ ?_); rfl) | ((with_reducible refine rdPS _ rfl ?_ ?_); rfl) | ((with_reducible refine stP _ rfl ?_ ?_ ?_ ?_); rfl; rfl; rfl) | (with_reducible refine And.intro ?_ ?_) | (simp only [Bool.not_true, Bool.not_false, Bool.and_self, Bool.true_and, Br_true, Br_false, Gd_tt, Gd_ft, Gd_tf, Gd_ff, beq_self_eq_true, bne_self_eq_false]) | (with_reducible refine gd_split (fun _ => ?_) (fun _ => ?_)) | (with_reducible refine br_split (fun _ => ?_) (fun _ => ?_)) | (simp only [Pv_some, fldV_p, nilV_p, nilV_f, lenV_s, capV_s, sLen, minV_i, maxV_i, strV_s, unV_not, unV_neg, pickV_t, pickV_f, exV_t, cvIV_i, binI_add, binI_sub, binI_mul, binI_eql, binI_neq, binI_lss, binI_leq, binI_gtr, binI_geq, binI_and, binI_or, binB_eql, binB_neq, sEq, sNe, sLt, sLe, sGt, sGe, stampEq, stampNe, fldv_agg, fldv_one, binP_eql_nil, binP_neq_nil, binN_eql_nil, binN_neq_nil, binN_eql_nn, binN_neq_nn, Br_true, Br_false, Gd_tt, Gd_ft, Gd_tf, Gd_ff, cells_agg, List.getElem?_toArray, List.getElem?_cons_zero, List.getElem?_cons_succ, Nat.zero_add, Nat.add_zero, Nat.zero_mul, List.drop_succ_cons, List.drop_zero, List.take_succ_cons, List.take_zero, List.nil_append, List.cons_append, Nat.reduceAdd, List.drop_nil, List.take_nil, bld_1, bld_2, bld_3, bld_4, bld_5, bld_6, bld_7, bld_8, bld_9, bld_10, bld_11, bld_12, bld_13, bld_14, bld_15, bld_16, bld_17, bld_18, bld_19, bld_20, bld_21, bld_22, bld_23, bld_24, bld_25, bld_26, bld_27, bld_28, hs5]))
      · rename_i e
        refine Gh.pick b (Xr ++ (Xw ++ ((bs, .cells arr 40 (0, 0)) :: (Xg ++ F)))) (Gh.done ?_)
        exact TxL.close (x := { x with fSeq := IntKind.i64.wrap (x.fSeq + 1), fSpans := x.fSpans.drop 1, fAt := x.fEnd, fStage := 4 }) (Xs := [(bs, .cells arr 40 (0, 0))]) { hL.same (y := { x with }) ⟨rfl, rfl, rfl, rfl, rfl, rfl, rfl, rfl⟩ with
          mem := rfl
          spans := by rw [hd]; exact h5
          spansR := by simpa using (Recs.drop 1 hL.spansR) } h9 h10 (fun X' hX' => hk X' _ _ (Ext.refl _) hX' { hT.up (Nat.le_add_right n 2) with
            spans := fun h => by rcases h with h | h <;> exact absurd h (by show ¬ (4 : Int) = _; omega)
            ops := fun h => absurd h (by show ¬ (4 : Int) = _; omega)
            spanL := fun p hp => hT.spanL p (List.mem_of_mem_drop hp) })
      · rename_i e
        simp at e
        refine Gh.pick b (Xr ++ (Xw ++ ((bs, .cells arr 40 (0, 0)) :: (Xg ++ F)))) (Gh.done ?_)
        exact TxL.close (x := { x with fSeq := IntKind.i64.wrap (x.fSeq + 1), fSpans := x.fSpans.drop 1 }) (Xs := [(bs, .cells arr 40 (0, 0))]) { hL.same (y := { x with }) ⟨rfl, rfl, rfl, rfl, rfl, rfl, rfl, rfl⟩ with
          mem := rfl
          spans := by rw [hd]; exact h5
          spansR := by simpa using (Recs.drop 1 hL.spansR) } h9 h10 (fun X' hX' => hk X' _ _ (Ext.refl _) hX' { hT.up (Nat.le_add_right n 2) with
            spans := fun _ => by
              show x.fSpans.drop 1 ≠ []
              intro e'
              rw [e'] at hd
              simp at hd
              omega
            spanL := fun p hp => hT.spanL p (List.mem_of_mem_drop hp) })
  refine br_split (fun e6 => ?_) (fun e6 => ?_)
  · repeat' (first | (with_reducible refine drawC ?_) | (with_reducible refine drawW1 ?_) | (with_reducible refine drawW2 ?_) | (with_reducible refine keepC (by repeat (first | exact Ext.refl _ | assumption | refine Ext.trans ?_ (by assumption))) ?_) | (with_reducible refine newI (fun _ => ?_)) | ((with_reducible refine call ?_); refine (cloneK_spec (rl_own (R := BysV) hL.written hL.writtenR (fun y hy => by simp [hy])) (by omega) (fun a5 c5 I2 hI2 h5 => ?_))) | first | (with_reducible refine rdb ?_) | ((with_reducible refine st1 ?_ ?_); rfl) | ((with_reducible refine rdB ?_ ?_); rfl) | (with_reducible refine rdbS ?_) | ((with_reducible refine rdBS ?_ ?_); rfl) | ((with_reducible refine stB ?_ ?_ ?_ ?_); rfl; rfl; exact one_all rfl) | ((with_reducible refine rdP _ rfl ?_ ?_); rfl) | ((with_reducible refine rdPS _ rfl ?_ ?_); rfl) | ((with_reducible refine stP _ rfl ?_ ?_ ?_ ?_); rfl; rfl; rfl) | (with_reducible refine And.intro ?_ ?_) | (simp only [Bool.not_true, Bool.not_false, Bool.and_self, Bool.true_and, Br_true, Br_false, Gd_tt, Gd_ft, Gd_tf, Gd_ff, beq_self_eq_true, bne_self_eq_false]) | (with_reducible refine gd_split (fun _ => ?_) (fun _ => ?_)) | (with_reducible refine br_split (fun _ => ?_) (fun _ => ?_)) | (simp only [Pv_some, fldV_p, nilV_p, nilV_f, lenV_s, capV_s, sLen, minV_i, maxV_i, strV_s, unV_not, unV_neg, pickV_t, pickV_f, exV_t, cvIV_i, binI_add, binI_sub, binI_mul, binI_eql, binI_neq, binI_lss, binI_leq, binI_gtr, binI_geq, binI_and, binI_or, binB_eql, binB_neq, sEq, sNe, sLt, sLe, sGt, sGe, stampEq, stampNe, fldv_agg, fldv_one, binP_eql_nil, binP_neq_nil, binN_eql_nil, binN_neq_nil, binN_eql_nn, binN_neq_nn, Br_true, Br_false, Gd_tt, Gd_ft, Gd_tf, Gd_ff, cells_agg, List.getElem?_toArray, List.getElem?_cons_zero, List.getElem?_cons_succ, Nat.zero_add, Nat.add_zero, Nat.zero_mul, List.drop_succ_cons, List.drop_zero, List.take_succ_cons, List.take_zero, List.nil_append, List.cons_append, Nat.reduceAdd, List.drop_nil, List.take_nil, bld_1, bld_2, bld_3, bld_4, bld_5, bld_6, bld_7, bld_8, bld_9, bld_10, bld_11, bld_12, bld_13, bld_14, bld_15, bld_16, bld_17, bld_18, bld_19, bld_20, bld_21, bld_22, bld_23, bld_24, bld_25, bld_26, bld_27, bld_28]))
    refine Gh.pick b (Xr ++ (Xw ++ (Xs ++ (Xg ++ F)))) (Gh.done ?_)
    exact TxL.close (x := { x with fStage := 6, fState := 3, fKeys := x.fWritten }) { (hL.mono hI2).same (y := { x with }) ⟨rfl, rfl, rfl, rfl, rfl, rfl, rfl, rfl⟩ with
      mem := rfl
      keys := h5 } (h9.mono hI2) (h10.mono hI2) (fun X' hX' => hk X' _ _ hI2 hX' { hT.up (Nat.le_add_right n 2) with
      spans := fun h => by rcases h with h | h <;> exact absurd h (by show ¬ (6 : Int) = _; omega)
      ops := fun h => absurd h (by show ¬ (6 : Int) = _; omega)
      keyL := hT.writL })
  · repeat' (first | (with_reducible refine drawC ?_) | (with_reducible refine drawW1 ?_) | (with_reducible refine drawW2 ?_) | (with_reducible refine keepC (by repeat (first | exact Ext.refl _ | assumption | refine Ext.trans ?_ (by assumption))) ?_) | (with_reducible refine newI (fun _ => ?_)) | first | (with_reducible refine rdb ?_) | ((with_reducible refine st1 ?_ ?_); rfl) | ((with_reducible refine rdB ?_ ?_); rfl) | (with_reducible refine rdbS ?_) | ((with_reducible refine rdBS ?_ ?_); rfl) | ((with_reducible refine stB ?_ ?_ ?_ ?_); rfl; rfl; exact one_all rfl) | ((with_reducible refine rdP _ rfl ?_ ?_); rfl) | ((with_reducible refine rdPS _ rfl ?_ ?_); rfl) | ((with_reducible refine stP _ rfl ?_ ?_ ?_ ?_); rfl; rfl; rfl) | (with_reducible refine And.intro ?_ ?_) | (simp only [Bool.not_true, Bool.not_false, Bool.and_self, Bool.true_and, Br_true, Br_false, Gd_tt, Gd_ft, Gd_tf, Gd_ff, beq_self_eq_true, bne_self_eq_false]) | (with_reducible refine gd_split (fun _ => ?_) (fun _ => ?_)) | (with_reducible refine br_split (fun _ => ?_) (fun _ => ?_)) | (simp only [Pv_some, fldV_p, nilV_p, nilV_f, lenV_s, capV_s, sLen, minV_i, maxV_i, strV_s, unV_not, unV_neg, pickV_t, pickV_f, exV_t, cvIV_i, binI_add, binI_sub, binI_mul, binI_eql, binI_neq, binI_lss, binI_leq, binI_gtr, binI_geq, binI_and, binI_or, binB_eql, binB_neq, sEq, sNe, sLt, sLe, sGt, sGe, stampEq, stampNe, fldv_agg, fldv_one, binP_eql_nil, binP_neq_nil, binN_eql_nil, binN_neq_nil, binN_eql_nn, binN_neq_nn, Br_true, Br_false, Gd_tt, Gd_ft, Gd_tf, Gd_ff, cells_agg, List.getElem?_toArray, List.getElem?_cons_zero, List.getElem?_cons_succ, Nat.zero_add, Nat.add_zero, Nat.zero_mul, List.drop_succ_cons, List.drop_zero, List.take_succ_cons, List.take_zero, List.nil_append, List.cons_append, Nat.reduceAdd, List.drop_nil, List.take_nil, bld_1, bld_2, bld_3, bld_4, bld_5, bld_6, bld_7, bld_8, bld_9, bld_10, bld_11, bld_12, bld_13, bld_14, bld_15, bld_16, bld_17, bld_18, bld_19, bld_20, bld_21, bld_22, bld_23, bld_24, bld_25, bld_26, bld_27, bld_28]))
    exact Gh.pick b (Xr ++ (Xw ++ (Xs ++ (Xg ++ F)))) (Gh.done hk0)
end
end Go.Proofs.Ytlalbollbdlfhaa
