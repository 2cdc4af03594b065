/-
  A transaction takes rows, and what else was done.
-/
-- S2
import Derived.Test.YtlalbollbdlfhaaG
set_option linter.unusedSimpArgs false
set_option linter.unusedVariables false
namespace Go.Proofs.Ytlalbollbdlfhaa
open Go.SL
set_option maxRecDepth 10000

section
variable {ω : Om} {I : Imm} {L : LH} {K : Value → M}

theorem ahead_spec {v w : Value} {a b : List UInt8} (hv : Bytes I v a) (hw : Bytes I w b) (hk : ∀ t, K (.bool t) I L) : Cal Try.prog ω 69 #[v, w] K I L := by
  refine cal69 ?_
  unfold sh69
  simp only [Bytes.len hv, Bytes.len hw, Pv_some, fldV_p, nilV_p, nilV_f, lenV_s, capV_s, sLen, minV_i, maxV_i, strV_s, unV_not, unV_neg, pickV_t, pickV_f, exV_t, cvIV_i, binI_add, binI_sub, binI_mul, binI_eql, binI_neq, binI_lss, binI_leq, binI_gtr, binI_geq, binI_and, binI_or, binB_eql, binB_neq, sEq, sNe, sLt, sLe, sGt, sGe, stampEq, stampNe, fldv_agg, fldv_one, binP_eql_nil, binP_neq_nil, binN_eql_nil, binN_neq_nil, binN_eql_nn, binN_neq_nn, Br_true, Br_false, Gd_tt, Gd_ft, Gd_tf, Gd_ff, cells_agg, List.getElem?_toArray, List.getElem?_cons_zero, List.getElem?_cons_succ, Nat.zero_add, Nat.add_zero, Nat.zero_mul, List.drop_succ_cons, List.drop_zero, List.take_succ_cons, List.take_zero, List.nil_append, List.cons_append, Nat.reduceAdd, List.drop_nil, List.take_nil, bld_1, bld_2, bld_3, bld_4, bld_5, bld_6, bld_7, bld_8, bld_9, bld_10, bld_11, bld_12, bld_13, bld_14, bld_15, bld_16, bld_17, bld_18, bld_19, bld_20, bld_21, bld_22, bld_23, bld_24, bld_25, bld_26, bld_27, bld_28]
  refine gd_split (fun _ => ?_) (fun _ => Gh.done (hk _))
  refine gd_split (fun _ => ?_) (fun _ => Gh.done (hk _))
  refine call (compare_spec hv hw ?_)
  try simp only [Pv_some, fldV_p, nilV_p, nilV_f, lenV_s, capV_s, sLen, minV_i, maxV_i, strV_s, unV_not, unV_neg, pickV_t, pickV_f, exV_t, cvIV_i, binI_add, binI_sub, binI_mul, binI_eql, binI_neq, binI_lss, binI_leq, binI_gtr, binI_geq, binI_and, binI_or, binB_eql, binB_neq, sEq, sNe, sLt, sLe, sGt, sGe, stampEq, stampNe, fldv_agg, fldv_one, binP_eql_nil, binP_neq_nil, binN_eql_nil, binN_neq_nil, binN_eql_nn, binN_neq_nn, Br_true, Br_false, Gd_tt, Gd_ft, Gd_tf, Gd_ff, cells_agg, List.getElem?_toArray, List.getElem?_cons_zero, List.getElem?_cons_succ, Nat.zero_add, Nat.add_zero, Nat.zero_mul, List.drop_succ_cons, List.drop_zero, List.take_succ_cons, List.take_zero, List.nil_append, List.cons_append, Nat.reduceAdd, List.drop_nil, List.take_nil, bld_1, bld_2, bld_3, bld_4, bld_5, bld_6, bld_7, bld_8, bld_9, bld_10, bld_11, bld_12, bld_13, bld_14, bld_15, bld_16, bld_17, bld_18, bld_19, bld_20, bld_21, bld_22, bld_23, bld_24, bld_25, bld_26, bld_27, bld_28]
  exact Gh.done (hk _)

/-- rows that were got -/
def rowsOk (rs : List TKV) : Prop := rs.length * 48 ≤ 137438953472 ∧ ∀ r ∈ rs, r.fKey.length ≤ 137438953472 ∧ r.fValue.length ≤ 137438953472

theorem scanned2_spec {b b1 b2 n : Nat} {o1 o2 : Obj} {x : TTxn} {v0 v1 v2 v3 v4 v5 v6 v7 v8 v9 v10 nv : Value} {Xr Xw Xs Xg F : LH} {cr cw cs cg : List Value} {nl : List UInt8} (hL : TxL I x (Xr ++ (Xw ++ (Xs ++ Xg))) v0 v1 v2 v3 v4 v5 v6 v7 v8 Xr Xw Xs Xg cr cw cs cg) (h9 : Bytes I v9 x.fBlocked.fWhere.fFrom) (h10 : Bytes I v10 x.fBlocked.fWhere.fTo) (hT : TI n x) (hn : n ≤ 1000) (hnv : Bytes I nv nl) (hnl : nl.length ≤ 140737488355327)
    (hk : ∀ X' I' x', Ext I I' → TxR I' b X' x' → TI (n + 1) x' → K (.tuple #[]) I' (X' ++ F)) :
    sh66_2 ω (.pointer (some ⟨b, 0, none⟩)) nv (fun v => Gh (K v)) I ((b2, o2) :: (b1, o1) :: (b, txCells x v0 v1 v2 v3 v4 v5 v6 v7 v8 v9 v10) :: (Xr ++ (Xw ++ (Xs ++ (Xg ++ F))))) := by
  unfold txCells
  unfold sh66_2
  have q2 := hL.sfrom
  have q3 := hL.sto
  obtain ⟨a2, p2, rfl⟩ := Bytes.form q2
  obtain ⟨a3, p3, rfl⟩ := Bytes.form q3
  obtain ⟨an, pn, rfl⟩ := Bytes.form hnv
  have hnR := hT.nR
  obtain ⟨a7, c7, hv7⟩ := hL.got.form
  subst hv7
  try simp only [Pv_some, fldV_p, nilV_p, nilV_f, lenV_s, capV_s, sLen, minV_i, maxV_i, strV_s, unV_not, unV_neg, pickV_t, pickV_f, exV_t, cvIV_i, binI_add, binI_sub, binI_mul, binI_eql, binI_neq, binI_lss, binI_leq, binI_gtr, binI_geq, binI_and, binI_or, binB_eql, binB_neq, sEq, sNe, sLt, sLe, sGt, sGe, stampEq, stampNe, fldv_agg, fldv_one, binP_eql_nil, binP_neq_nil, binN_eql_nil, binN_neq_nil, binN_eql_nn, binN_neq_nn, Br_true, Br_false, Gd_tt, Gd_ft, Gd_tf, Gd_ff, cells_agg, List.getElem?_toArray, List.getElem?_cons_zero, List.getElem?_cons_succ, Nat.zero_add, Nat.add_zero, Nat.zero_mul, List.drop_succ_cons, List.drop_zero, List.take_succ_cons, List.take_zero, List.nil_append, List.cons_append, Nat.reduceAdd, List.drop_nil, List.take_nil, bld_1, bld_2, bld_3, bld_4, bld_5, bld_6, bld_7, bld_8, bld_9, bld_10, bld_11, bld_12, bld_13, bld_14, bld_15, bld_16, bld_17, bld_18, bld_19, bld_20, bld_21, bld_22, bld_23, bld_24, bld_25, bld_26, bld_27, bld_28]
  refine rdb ?_
  refine call (ahead_spec hnv q3 (fun t => ?_))
  refine br_split (fun e0 => ?_) (fun e0 => ?_)
  · repeat' (first | (with_reducible refine drawC ?_) | (with_reducible refine drawW1 ?_) | (with_reducible refine drawW2 ?_) | (with_reducible refine keepC (by repeat (first | exact Ext.refl _ | assumption | refine Ext.trans ?_ (by assumption))) ?_) | (with_reducible refine newI (fun _ => ?_)) | ((refine bld_one rfl (by omega) rfl (fun X5 _ hX => ?_)); obtain ⟨_, _, rfl⟩ := hX.form) | first | (with_reducible refine rdb ?_) | ((with_reducible refine st1 ?_ ?_); rfl) | ((with_reducible refine rdB ?_ ?_); rfl) | (with_reducible refine rdbS ?_) | ((with_reducible refine rdBS ?_ ?_); rfl) | ((with_reducible refine stB ?_ ?_ ?_ ?_); rfl; rfl; exact one_all rfl) | ((with_reducible refine rdP _ rfl ?_ ?_); rfl) | ((with_reducible refine rdPS _ rfl ?_ ?_); rfl) | ((with_reducible refine stP _ rfl ?_ ?_ ?_ ?_); rfl; rfl; rfl) | (with_reducible refine And.intro ?_ ?_) | (simp only [Bool.not_true, Bool.not_false, Bool.and_self, Bool.true_and, Br_true, Br_false, Gd_tt, Gd_ft, Gd_tf, Gd_ff, beq_self_eq_true, bne_self_eq_false]) | (with_reducible refine gd_split (fun _ => ?_) (fun _ => ?_)) | (with_reducible refine br_split (fun _ => ?_) (fun _ => ?_)) | (simp only [Pv_some, fldV_p, nilV_p, nilV_f, lenV_s, capV_s, sLen, minV_i, maxV_i, strV_s, unV_not, unV_neg, pickV_t, pickV_f, exV_t, cvIV_i, binI_add, binI_sub, binI_mul, binI_eql, binI_neq, binI_lss, binI_leq, binI_gtr, binI_geq, binI_and, binI_or, binB_eql, binB_neq, sEq, sNe, sLt, sLe, sGt, sGe, stampEq, stampNe, fldv_agg, fldv_one, binP_eql_nil, binP_neq_nil, binN_eql_nil, binN_neq_nil, binN_eql_nn, binN_neq_nn, Br_true, Br_false, Gd_tt, Gd_ft, Gd_tf, Gd_ff, cells_agg, List.getElem?_toArray, List.getElem?_cons_zero, List.getElem?_cons_succ, Nat.zero_add, Nat.add_zero, Nat.zero_mul, List.drop_succ_cons, List.drop_zero, List.take_succ_cons, List.take_zero, List.nil_append, List.cons_append, Nat.reduceAdd, List.drop_nil, List.take_nil, bld_1, bld_2, bld_3, bld_4, bld_5, bld_6, bld_7, bld_8, bld_9, bld_10, bld_11, bld_12, bld_13, bld_14, bld_15, bld_16, bld_17, bld_18, bld_19, bld_20, bld_21, bld_22, bld_23, bld_24, bld_25, bld_26, bld_27, bld_28]))
    refine Gh.pick b (Xr ++ (Xw ++ (X5 ++ (Xg ++ F)))) (Gh.done ?_)
    exact TxL.close (x := { x with fSpans := [⟨nl, x.fSpan.fTo⟩] }) (Xs := X5) { hL.same (y := { x with }) ⟨rfl, rfl, rfl, rfl, rfl, rfl, rfl, rfl⟩ with
      mem := rfl
      spans := SlO.toW hX
      spansR := Recs.one rfl ⟨_, _, rfl, hnv, q3⟩ } h9 h10 (fun X' hX' => hk X' _ _ (Ext.refl _) hX' { hT.up (Nat.le_succ n) with
        spans := fun _ => by show [_] ≠ []; simp
        spanL := fun p hp => by rw [List.mem_singleton.1 hp]; exact ⟨hnl, hT.spanS.2⟩ })
  · refine drawC ?_
    repeat' (first | (with_reducible refine drawC ?_) | (with_reducible refine drawW1 ?_) | (with_reducible refine drawW2 ?_) | (with_reducible refine keepC (by repeat (first | exact Ext.refl _ | assumption | refine Ext.trans ?_ (by assumption))) ?_) | (with_reducible refine newI (fun _ => ?_)) | (refine rec_appK (R := TSpanV) (X6 := Xr) (x := x.fSpan) (by repeat (first | exact Ext.refl _ | assumption | refine Ext.trans ?_ (by assumption))) (fun y hy => hy) rfl (by omega) hL.read hL.readR ⟨_, _, rfl, q2, q3⟩ rfl (one_all rfl) (by omega) (by omega) (fun X1 X6' a' c' cells' h6' hR' => ?_)) | first | (with_reducible refine rdb ?_) | ((with_reducible refine st1 ?_ ?_); rfl) | ((with_reducible refine rdB ?_ ?_); rfl) | (with_reducible refine rdbS ?_) | ((with_reducible refine rdBS ?_ ?_); rfl) | ((with_reducible refine stB ?_ ?_ ?_ ?_); rfl; rfl; exact one_all rfl) | ((with_reducible refine rdP _ rfl ?_ ?_); rfl) | ((with_reducible refine rdPS _ rfl ?_ ?_); rfl) | ((with_reducible refine stP _ rfl ?_ ?_ ?_ ?_); rfl; rfl; rfl) | (with_reducible refine And.intro ?_ ?_) | (simp only [Bool.not_true, Bool.not_false, Bool.and_self, Bool.true_and, Br_true, Br_false, Gd_tt, Gd_ft, Gd_tf, Gd_ff, beq_self_eq_true, bne_self_eq_false]) | (with_reducible refine gd_split (fun _ => ?_) (fun _ => ?_)) | (with_reducible refine br_split (fun _ => ?_) (fun _ => ?_)) | (simp only [Pv_some, fldV_p, nilV_p, nilV_f, lenV_s, capV_s, sLen, minV_i, maxV_i, strV_s, unV_not, unV_neg, pickV_t, pickV_f, exV_t, cvIV_i, binI_add, binI_sub, binI_mul, binI_eql, binI_neq, binI_lss, binI_leq, binI_gtr, binI_geq, binI_and, binI_or, binB_eql, binB_neq, sEq, sNe, sLt, sLe, sGt, sGe, stampEq, stampNe, fldv_agg, fldv_one, binP_eql_nil, binP_neq_nil, binN_eql_nil, binN_neq_nil, binN_eql_nn, binN_neq_nn, Br_true, Br_false, Gd_tt, Gd_ft, Gd_tf, Gd_ff, cells_agg, List.getElem?_toArray, List.getElem?_cons_zero, List.getElem?_cons_succ, Nat.zero_add, Nat.add_zero, Nat.zero_mul, List.drop_succ_cons, List.drop_zero, List.take_succ_cons, List.take_zero, List.nil_append, List.cons_append, Nat.reduceAdd, List.drop_nil, List.take_nil, bld_1, bld_2, bld_3, bld_4, bld_5, bld_6, bld_7, bld_8, bld_9, bld_10, bld_11, bld_12, bld_13, bld_14, bld_15, bld_16, bld_17, bld_18, bld_19, bld_20, bld_21, bld_22, bld_23, bld_24, bld_25, bld_26, bld_27, bld_28]))
    refine Gh.pick b (Xg ++ (X6' ++ (Xw ++ (Xs ++ F)))) ?_
    refine Gh.perm (List.perm_middle (l₁ := Xg) (l₂ := X6' ++ (Xw ++ (Xs ++ F))) (a := (b, _))).symm ?_
    refine RL.ofO (R := TKVV) (fun h hI => h.mono hI) hL.got hL.gotR (fun I2 hI2 h2 => Gh.done ?_)
    exact TxL.close (x := { x with fRead := x.fRead ++ [x.fSpan], fRows := x.fGot, fGot := [], fState := 1, fStage := 0 }) (Xr := X6') (Xg := []) (cg := []) { (hL.mono hI2).same (y := { x with }) ⟨rfl, rfl, rfl, rfl, rfl, rfl, rfl, rfl⟩ with
      mem := by simp
      read := h6'
      readR := hR'.imp fun _ _ h => h.mono hI2
      rows := h2
      got := SlO.none _ _
      gotR := rfl } (h9.mono hI2) (h10.mono hI2) (fun X' hX' => hk X' _ _ hI2 hX' { hT.up (Nat.le_succ n) with
        spans := fun h => by rcases h with h | h <;> exact absurd h (by show ¬ (0 : Int) = _; omega)
        ops := fun h => absurd h (by show ¬ (0 : Int) = _; omega)
        readL := fun p hp => by
          rcases List.mem_append.1 hp with hp | hp
          · exact hT.readL p hp
          · rw [List.mem_singleton.1 hp]; exact hT.spanS
        nR := by show (x.fRead ++ [x.fSpan]).length ≤ _; simp; omega
        nG := by show 0 * 48 ≤ _; omega })

abbrev cmdO (y : TCmd) (a0 : Option Addr) (p0 : Nat) (a1 : Option Addr) (p1 : Nat) (a2 : Option Addr) (p2 : Nat) (a3 : Option Addr) (p3 : Nat) : Obj := .cells #[.int .i64 y.fKind, .int .i64 y.fTxn, .int .i64 y.fSeq, .int .i64 y.fAt.fWall, .int .i64 y.fAt.fLogic, .int .i64 y.fTo.fWall, .int .i64 y.fTo.fLogic, .int .i64 y.fBy, .bool y.fYes, .bool y.fDel, .slice a0 y.fKey.length p0, .slice a1 y.fValue.length p1, .slice a2 y.fSpan.fFrom.length p2, .slice a3 y.fSpan.fTo.length p3, .int .i64 y.fMost] 48 (0, 0)
abbrev resO (r : TRes) (a0 : Option Addr) (p0 : Nat) (a1 : Option Addr) (p1 : Nat) : Obj := .cells #[.int .i64 r.fCode, .bool r.fGot.fFound, .slice a0 r.fGot.fValue.length p0, .int .i64 r.fGot.fAt.fWall, .int .i64 r.fGot.fAt.fLogic, .int .i64 r.fGot.fBy, .slice a1 r.fRows.length p1, .int .i64 r.fAt.fWall, .int .i64 r.fAt.fLogic, .int .i64 r.fBy, .int .i64 r.fState] 46 (0, 0)
theorem scanned_spec {b n : Nat} {X F : LH} {x : TTxn} {y : TCmd} {yc : List Value} {r : TRes} {rc : List Value} (h : TxR I b X x) (hT : TI n x) (hn : n ≤ 900) (hy : TCmdV I y yc) (hr : TResV I r rc)
    (hys : spanOk y.fSpan) (hrs : rowsOk r.fRows)
    (hk : ∀ X' I' x', Ext I I' → TxR I' b X' x' → TI (n + 2) x' → K (.tuple #[]) I' (X' ++ F)) :
    Cal Try.prog ω 66 #[.pointer (some ⟨b, 0, none⟩), .agg yc.toArray, .agg rc.toArray] K I (X ++ F) := by
  obtain ⟨ya0, yp0, ya1, yp1, ya2, yp2, ya3, yp3, rfl, y0, y1, y2, y3⟩ := hy.form
  obtain ⟨ra0, rp0, ra1, rp1, rfl, r0, r1⟩ := hr.form
  obtain ⟨v0, v1, v2, v3, v4, v5, v6, v7, v8, v9, v10, T, rfl, ⟨Xr, Xw, Xs, Xg, cr, cw, cs, cg, hL⟩, h9, h10⟩ := h
  obtain rfl := hL.mem
  simp only [List.cons_append, List.append_assoc]
  refine cal66 ?_
  unfold sh66
  refine newI (fun b1 => newI (fun b2 => ?_))
  try simp only [Pv_some, fldV_p, nilV_p, nilV_f, lenV_s, capV_s, sLen, minV_i, maxV_i, strV_s, unV_not, unV_neg, pickV_t, pickV_f, exV_t, cvIV_i, binI_add, binI_sub, binI_mul, binI_eql, binI_neq, binI_lss, binI_leq, binI_gtr, binI_geq, binI_and, binI_or, binB_eql, binB_neq, sEq, sNe, sLt, sLe, sGt, sGe, stampEq, stampNe, fldv_agg, fldv_one, binP_eql_nil, binP_neq_nil, binN_eql_nil, binN_neq_nil, binN_eql_nn, binN_neq_nn, Br_true, Br_false, Gd_tt, Gd_ft, Gd_tf, Gd_ff, cells_agg, List.getElem?_toArray, List.getElem?_cons_zero, List.getElem?_cons_succ, Nat.zero_add, Nat.add_zero, Nat.zero_mul, List.drop_succ_cons, List.drop_zero, List.take_succ_cons, List.take_zero, List.nil_append, List.cons_append, Nat.reduceAdd, List.drop_nil, List.take_nil, bld_1, bld_2, bld_3, bld_4, bld_5, bld_6, bld_7, bld_8, bld_9, bld_10, bld_11, bld_12, bld_13, bld_14, bld_15, bld_16, bld_17, bld_18, bld_19, bld_20, bld_21, bld_22, bld_23, bld_24, bld_25, bld_26, bld_27, bld_28]
  refine rdb ?_
  try simp only [Pv_some, fldV_p, nilV_p, nilV_f, lenV_s, capV_s, sLen, minV_i, maxV_i, strV_s, unV_not, unV_neg, pickV_t, pickV_f, exV_t, cvIV_i, binI_add, binI_sub, binI_mul, binI_eql, binI_neq, binI_lss, binI_leq, binI_gtr, binI_geq, binI_and, binI_or, binB_eql, binB_neq, sEq, sNe, sLt, sLe, sGt, sGe, stampEq, stampNe, fldv_agg, fldv_one, binP_eql_nil, binP_neq_nil, binN_eql_nil, binN_neq_nil, binN_eql_nn, binN_neq_nn, Br_true, Br_false, Gd_tt, Gd_ft, Gd_tf, Gd_ff, cells_agg, List.getElem?_toArray, List.getElem?_cons_zero, List.getElem?_cons_succ, Nat.zero_add, Nat.add_zero, Nat.zero_mul, List.drop_succ_cons, List.drop_zero, List.take_succ_cons, List.take_zero, List.nil_append, List.cons_append, Nat.reduceAdd, List.drop_nil, List.take_nil, bld_1, bld_2, bld_3, bld_4, bld_5, bld_6, bld_7, bld_8, bld_9, bld_10, bld_11, bld_12, bld_13, bld_14, bld_15, bld_16, bld_17, bld_18, bld_19, bld_20, bld_21, bld_22, bld_23, bld_24, bld_25, bld_26, bld_27, bld_28]
  obtain ⟨hrl, hrk⟩ := hrs
  have hnG := hT.nG
  refine loop (fun m s I' L' => Ext I I' ∧ ∃ (k : Nat) (w : Value) (X6 : LH) (cells : List Value), k + m = r.fRows.length ∧ s = (.int .i64 k, ()) ∧ SlO 95 2 X6 w cells (x.fGot ++ r.fRows.take k).length ∧ Recs (TKVV I') 2 (x.fGot ++ r.fRows.take k) cells ∧
      L' = (b2, resO r ra0 rp0 ra1 rp1) :: (b1, cmdO y ya0 yp0 ya1 yp1 ya2 yp2 ya3 yp3) :: (b, txCells x v0 v1 v2 v3 v4 v5 v6 w v8 v9 v10) :: (Xr ++ (Xw ++ (Xs ++ (X6 ++ F))))) r.fRows.length
      ⟨Ext.refl _, 0, v7, Xg, cg, by omega, rfl, by simpa using hL.got, by simpa using hL.gotR, rfl⟩ ?_
  rintro m s I' L' ⟨hI', k, w, X6, cells, hkm, rfl, h6, hR, rfl⟩
  unfold sh66_4
  try simp only [Pv_some, fldV_p, nilV_p, nilV_f, lenV_s, capV_s, sLen, minV_i, maxV_i, strV_s, unV_not, unV_neg, pickV_t, pickV_f, exV_t, cvIV_i, binI_add, binI_sub, binI_mul, binI_eql, binI_neq, binI_lss, binI_leq, binI_gtr, binI_geq, binI_and, binI_or, binB_eql, binB_neq, sEq, sNe, sLt, sLe, sGt, sGe, stampEq, stampNe, fldv_agg, fldv_one, binP_eql_nil, binP_neq_nil, binN_eql_nil, binN_neq_nil, binN_eql_nn, binN_neq_nn, Br_true, Br_false, Gd_tt, Gd_ft, Gd_tf, Gd_ff, cells_agg, List.getElem?_toArray, List.getElem?_cons_zero, List.getElem?_cons_succ, Nat.zero_add, Nat.add_zero, Nat.zero_mul, List.drop_succ_cons, List.drop_zero, List.take_succ_cons, List.take_zero, List.nil_append, List.cons_append, Nat.reduceAdd, List.drop_nil, List.take_nil, bld_1, bld_2, bld_3, bld_4, bld_5, bld_6, bld_7, bld_8, bld_9, bld_10, bld_11, bld_12, bld_13, bld_14, bld_15, bld_16, bld_17, bld_18, bld_19, bld_20, bld_21, bld_22, bld_23, bld_24, bld_25, bld_26, bld_27, bld_28]
  refine br_split (fun hlt => ?_) (fun hlt => ?_)
  · simp at hlt
    obtain ⟨bk, off, c, hix, hcl, ⟨q0v, q1v, rfl, q0, q1⟩, hc⟩ := RL.ix r1 (i := k) (by omega) (by omega)
    obtain ⟨a2, p2, rfl⟩ := Bytes.form q0
    obtain ⟨a3, p3, rfl⟩ := Bytes.form q1
    obtain ⟨hl0, hl1⟩ := hrk (geti r.fRows (k : Int)) (by rw [geti_nat hlt]; exact List.getElem_mem hlt)
    have hgl : (x.fGot ++ r.fRows.take k).length = x.fGot.length + k := by rw [List.length_append, List.length_take]; omega
    simp only [hix, Pv_some, fldV_p, nilV_p, nilV_f, lenV_s, capV_s, sLen, minV_i, maxV_i, strV_s, unV_not, unV_neg, pickV_t, pickV_f, exV_t, cvIV_i, binI_add, binI_sub, binI_mul, binI_eql, binI_neq, binI_lss, binI_leq, binI_gtr, binI_geq, binI_and, binI_or, binB_eql, binB_neq, sEq, sNe, sLt, sLe, sGt, sGe, stampEq, stampNe, fldv_agg, fldv_one, binP_eql_nil, binP_neq_nil, binN_eql_nil, binN_neq_nil, binN_eql_nn, binN_neq_nn, Br_true, Br_false, Gd_tt, Gd_ft, Gd_tf, Gd_ff, cells_agg, List.getElem?_toArray, List.getElem?_cons_zero, List.getElem?_cons_succ, Nat.zero_add, Nat.add_zero, Nat.zero_mul, List.drop_succ_cons, List.drop_zero, List.take_succ_cons, List.take_zero, List.nil_append, List.cons_append, Nat.reduceAdd, List.drop_nil, List.take_nil, bld_1, bld_2, bld_3, bld_4, bld_5, bld_6, bld_7, bld_8, bld_9, bld_10, bld_11, bld_12, bld_13, bld_14, bld_15, bld_16, bld_17, bld_18, bld_19, bld_20, bld_21, bld_22, bld_23, bld_24, bld_25, bld_26, bld_27, bld_28]
    refine rdN hcl (hc I' _ hI' (fun _ h => by cases h)) ?_
    refine newI (fun b3 => ?_)
    refine stB rfl rfl (one_all rfl) ?_
    repeat' (first | (with_reducible refine drawC ?_) | (with_reducible refine drawW1 ?_) | (with_reducible refine drawW2 ?_) | (with_reducible refine keepC (by repeat (first | exact Ext.refl _ | assumption | refine Ext.trans ?_ (by assumption))) ?_) | (with_reducible refine newI (fun _ => ?_)) | ((with_reducible refine call ?_); refine (cloneB_spec (by first | exact q0.mono (by repeat (first | exact Ext.refl _ | assumption | refine Ext.trans ?_ (by assumption))) | exact q1.mono (by repeat (first | exact Ext.refl _ | assumption | refine Ext.trans ?_ (by assumption)))) (by omega) (fun _ _ I2 hI2 hB => ?_))) | first | (with_reducible refine rdb ?_) | ((with_reducible refine st1 ?_ ?_); rfl) | ((with_reducible refine rdB ?_ ?_); rfl) | (with_reducible refine rdbS ?_) | ((with_reducible refine rdBS ?_ ?_); rfl) | ((with_reducible refine stB ?_ ?_ ?_ ?_); rfl; rfl; exact one_all rfl) | ((with_reducible refine rdP _ rfl ?_ ?_); rfl) | ((with_reducible refine rdPS _ rfl ?_ ?_); rfl) | ((with_reducible refine stP _ rfl ?_ ?_ ?_ ?_); rfl; rfl; rfl) | (with_reducible refine And.intro ?_ ?_) | (simp only [Bool.not_true, Bool.not_false, Bool.and_self, Bool.true_and, Br_true, Br_false, Gd_tt, Gd_ft, Gd_tf, Gd_ff, beq_self_eq_true, bne_self_eq_false]) | (with_reducible refine gd_split (fun _ => ?_) (fun _ => ?_)) | (with_reducible refine br_split (fun _ => ?_) (fun _ => ?_)) | (simp only [Pv_some, fldV_p, nilV_p, nilV_f, lenV_s, capV_s, sLen, minV_i, maxV_i, strV_s, unV_not, unV_neg, pickV_t, pickV_f, exV_t, cvIV_i, binI_add, binI_sub, binI_mul, binI_eql, binI_neq, binI_lss, binI_leq, binI_gtr, binI_geq, binI_and, binI_or, binB_eql, binB_neq, sEq, sNe, sLt, sLe, sGt, sGe, stampEq, stampNe, fldv_agg, fldv_one, binP_eql_nil, binP_neq_nil, binN_eql_nil, binN_neq_nil, binN_eql_nn, binN_neq_nn, Br_true, Br_false, Gd_tt, Gd_ft, Gd_tf, Gd_ff, cells_agg, List.getElem?_toArray, List.getElem?_cons_zero, List.getElem?_cons_succ, Nat.zero_add, Nat.add_zero, Nat.zero_mul, List.drop_succ_cons, List.drop_zero, List.take_succ_cons, List.take_zero, List.nil_append, List.cons_append, Nat.reduceAdd, List.drop_nil, List.take_nil, bld_1, bld_2, bld_3, bld_4, bld_5, bld_6, bld_7, bld_8, bld_9, bld_10, bld_11, bld_12, bld_13, bld_14, bld_15, bld_16, bld_17, bld_18, bld_19, bld_20, bld_21, bld_22, bld_23, bld_24, bld_25, bld_26, bld_27, bld_28]))
    rename_i hB1 _ _
    refine rec_appK (R := TKVV) (X6 := X6) (x := geti r.fRows (k : Int)) (by repeat (first | exact Ext.refl _ | assumption | refine Ext.trans ?_ (by assumption))) (fun y hy => hy) rfl (by omega) h6 (hR.imp fun _ _ h => h.mono (by repeat (first | exact Ext.refl _ | assumption | refine Ext.trans ?_ (by assumption)))) ⟨_, _, rfl, hB1.mono hI2, hB⟩ rfl (one_all rfl) (by rw [hgl]; omega) (by rw [hgl]; omega) (fun X1 X6' a' c' cells' h6' hR' => ?_)
    refine st1 rfl ?_
    simp only [Pv_some, fldV_p, nilV_p, nilV_f, lenV_s, capV_s, sLen, minV_i, maxV_i, strV_s, unV_not, unV_neg, pickV_t, pickV_f, exV_t, cvIV_i, binI_add, binI_sub, binI_mul, binI_eql, binI_neq, binI_lss, binI_leq, binI_gtr, binI_geq, binI_and, binI_or, binB_eql, binB_neq, sEq, sNe, sLt, sLe, sGt, sGe, stampEq, stampNe, fldv_agg, fldv_one, binP_eql_nil, binP_neq_nil, binN_eql_nil, binN_neq_nil, binN_eql_nn, binN_neq_nn, Br_true, Br_false, Gd_tt, Gd_ft, Gd_tf, Gd_ff, cells_agg, List.getElem?_toArray, List.getElem?_cons_zero, List.getElem?_cons_succ, Nat.zero_add, Nat.add_zero, Nat.zero_mul, List.drop_succ_cons, List.drop_zero, List.take_succ_cons, List.take_zero, List.nil_append, List.cons_append, Nat.reduceAdd, List.drop_nil, List.take_nil, bld_1, bld_2, bld_3, bld_4, bld_5, bld_6, bld_7, bld_8, bld_9, bld_10, bld_11, bld_12, bld_13, bld_14, bld_15, bld_16, bld_17, bld_18, bld_19, bld_20, bld_21, bld_22, bld_23, bld_24, bld_25, bld_26, bld_27, bld_28, wrap_i64 ((k : Int) + 1) (by omega)]
    have e : (x.fGot ++ r.fRows.take k) ++ [geti r.fRows (k : Int)] = x.fGot ++ r.fRows.take (k + 1) := by rw [take_geti hlt, List.append_assoc]
    rw [e] at h6' hR' ⊢
    refine Gh.to ((b2, resO r ra0 rp0 ra1 rp1) :: (b1, cmdO y ya0 yp0 ya1 yp1 ya2 yp2 ya3 yp3) :: (b, txCells x v0 v1 v2 v3 v4 v5 v6 (.slice a' (x.fGot ++ r.fRows.take (k + 1)).length c') v8 v9 v10) :: (Xr ++ (Xw ++ (Xs ++ (X6' ++ F))))) (Gh.done ?_)
    exact ⟨m - 1, by omega, (by repeat (first | exact Ext.refl _ | assumption | refine Ext.trans ?_ (by assumption))), k + 1, _, X6', cells', by omega, by simp, h6', hR', rfl⟩
  · simp at hlt
    rw [List.take_of_length_le (by omega)] at h6 hR
    have hM : TxL I' { x with fGot := x.fGot ++ r.fRows } (Xr ++ (Xw ++ (Xs ++ X6))) v0 v1 v2 v3 v4 v5 v6 w v8 Xr Xw Xs X6 cr cw cs cells := { (hL.mono hI').same (y := { x with }) ⟨rfl, rfl, rfl, rfl, rfl, rfl, rfl, rfl⟩ with
      mem := rfl
      got := h6
      gotR := hR }
    have hT' : TI (n + 1) { x with fGot := x.fGot ++ r.fRows } := { hT.up (Nat.le_succ n) with
      nG := by show (x.fGot ++ r.fRows).length * 48 ≤ _; rw [List.length_append]; omega }
    have fin : ∀ (nv : Value) (nl : List UInt8) (I2 : Imm), Ext I' I2 → Bytes I2 nv nl → nl.length ≤ 140737488355327 → sh66_2 ω (.pointer (some ⟨b, 0, none⟩)) nv (fun v => Gh (K v)) I2 ((b2, resO r ra0 rp0 ra1 rp1) :: (b1, cmdO y ya0 yp0 ya1 yp1 ya2 yp2 ya3 yp3) :: (b, txCells x v0 v1 v2 v3 v4 v5 v6 w v8 v9 v10) :: (Xr ++ (Xw ++ (Xs ++ (X6 ++ F))))) := fun nv nl I2 hI2 hnv hnl =>
      scanned2_spec (x := { x with fGot := x.fGot ++ r.fRows }) (hM.mono hI2) (h9.mono (hI'.trans hI2)) (h10.mono (hI'.trans hI2)) hT' (by omega) hnv hnl (fun X' I3 x' hI3 h1 h2 => hk X' I3 x' ((hI'.trans hI2).trans hI3) h1 h2)
    unfold sh66_1
    try simp only [Pv_some, fldV_p, nilV_p, nilV_f, lenV_s, capV_s, sLen, minV_i, maxV_i, strV_s, unV_not, unV_neg, pickV_t, pickV_f, exV_t, cvIV_i, binI_add, binI_sub, binI_mul, binI_eql, binI_neq, binI_lss, binI_leq, binI_gtr, binI_geq, binI_and, binI_or, binB_eql, binB_neq, sEq, sNe, sLt, sLe, sGt, sGe, stampEq, stampNe, fldv_agg, fldv_one, binP_eql_nil, binP_neq_nil, binN_eql_nil, binN_neq_nil, binN_eql_nn, binN_neq_nn, Br_true, Br_false, Gd_tt, Gd_ft, Gd_tf, Gd_ff, cells_agg, List.getElem?_toArray, List.getElem?_cons_zero, List.getElem?_cons_succ, Nat.zero_add, Nat.add_zero, Nat.zero_mul, List.drop_succ_cons, List.drop_zero, List.take_succ_cons, List.take_zero, List.nil_append, List.cons_append, Nat.reduceAdd, List.drop_nil, List.take_nil, bld_1, bld_2, bld_3, bld_4, bld_5, bld_6, bld_7, bld_8, bld_9, bld_10, bld_11, bld_12, bld_13, bld_14, bld_15, bld_16, bld_17, bld_18, bld_19, bld_20, bld_21, bld_22, bld_23, bld_24, bld_25, bld_26, bld_27, bld_28]
    refine rdb ?_
    refine call (cloneB_spec (y3.mono hI') (by have := hys.2; omega) (fun a5 c5 I2 hI2 hB5 => ?_))
    try simp only [Pv_some, fldV_p, nilV_p, nilV_f, lenV_s, capV_s, sLen, minV_i, maxV_i, strV_s, unV_not, unV_neg, pickV_t, pickV_f, exV_t, cvIV_i, binI_add, binI_sub, binI_mul, binI_eql, binI_neq, binI_lss, binI_leq, binI_gtr, binI_geq, binI_and, binI_or, binB_eql, binB_neq, sEq, sNe, sLt, sLe, sGt, sGe, stampEq, stampNe, fldv_agg, fldv_one, binP_eql_nil, binP_neq_nil, binN_eql_nil, binN_neq_nil, binN_eql_nn, binN_neq_nn, Br_true, Br_false, Gd_tt, Gd_ft, Gd_tf, Gd_ff, cells_agg, List.getElem?_toArray, List.getElem?_cons_zero, List.getElem?_cons_succ, Nat.zero_add, Nat.add_zero, Nat.zero_mul, List.drop_succ_cons, List.drop_zero, List.take_succ_cons, List.take_zero, List.nil_append, List.cons_append, Nat.reduceAdd, List.drop_nil, List.take_nil, bld_1, bld_2, bld_3, bld_4, bld_5, bld_6, bld_7, bld_8, bld_9, bld_10, bld_11, bld_12, bld_13, bld_14, bld_15, bld_16, bld_17, bld_18, bld_19, bld_20, bld_21, bld_22, bld_23, bld_24, bld_25, bld_26, bld_27, bld_28]
    refine rdb ?_
    try simp only [Pv_some, fldV_p, nilV_p, nilV_f, lenV_s, capV_s, sLen, minV_i, maxV_i, strV_s, unV_not, unV_neg, pickV_t, pickV_f, exV_t, cvIV_i, binI_add, binI_sub, binI_mul, binI_eql, binI_neq, binI_lss, binI_leq, binI_gtr, binI_geq, binI_and, binI_or, binB_eql, binB_neq, sEq, sNe, sLt, sLe, sGt, sGe, stampEq, stampNe, fldv_agg, fldv_one, binP_eql_nil, binP_neq_nil, binN_eql_nil, binN_neq_nil, binN_eql_nn, binN_neq_nn, Br_true, Br_false, Gd_tt, Gd_ft, Gd_tf, Gd_ff, cells_agg, List.getElem?_toArray, List.getElem?_cons_zero, List.getElem?_cons_succ, Nat.zero_add, Nat.add_zero, Nat.zero_mul, List.drop_succ_cons, List.drop_zero, List.take_succ_cons, List.take_zero, List.nil_append, List.cons_append, Nat.reduceAdd, List.drop_nil, List.take_nil, bld_1, bld_2, bld_3, bld_4, bld_5, bld_6, bld_7, bld_8, bld_9, bld_10, bld_11, bld_12, bld_13, bld_14, bld_15, bld_16, bld_17, bld_18, bld_19, bld_20, bld_21, bld_22, bld_23, bld_24, bld_25, bld_26, bld_27, bld_28]
    refine br_split (fun e90 => ?_) (fun e90 => fin _ _ I2 hI2 hB5 hys.2)
    simp at e90
    refine rdb ?_
    obtain ⟨bk, off, c, hix, hcl, ⟨q0v, q1v, rfl, q0, q1⟩, hc⟩ := RL.ix r1 (i := 89) (by omega) (by omega)
    obtain ⟨hl0, hl1⟩ := hrk (geti r.fRows 89) (by
      have hlt : 89 < r.fRows.length := by omega
      have := geti_nat hlt
      rw [show ((89 : Nat) : Int) = 89 from rfl] at this
      rw [this]; exact List.getElem_mem hlt)
    have hc0 := hc I2 ((b2, resO r ra0 rp0 ra1 rp1) :: (b1, cmdO y ya0 yp0 ya1 yp1 ya2 yp2 ya3 yp3) :: (b, txCells x v0 v1 v2 v3 v4 v5 v6 w v8 v9 v10) :: (Xr ++ (Xw ++ (Xs ++ (X6 ++ F))))) (hI'.trans hI2) (fun _ h => by cases h) 0 _ rfl
    simp only [Nat.add_zero] at hc0
    simp only [e90, show IntKind.i64.wrap ((90 : Int) - 1) = 89 from rfl, hix, Pv_some, fldV_p, nilV_p, nilV_f, lenV_s, capV_s, sLen, minV_i, maxV_i, strV_s, unV_not, unV_neg, pickV_t, pickV_f, exV_t, cvIV_i, binI_add, binI_sub, binI_mul, binI_eql, binI_neq, binI_lss, binI_leq, binI_gtr, binI_geq, binI_and, binI_or, binB_eql, binB_neq, sEq, sNe, sLt, sLe, sGt, sGe, stampEq, stampNe, fldv_agg, fldv_one, binP_eql_nil, binP_neq_nil, binN_eql_nil, binN_neq_nil, binN_eql_nn, binN_neq_nn, Br_true, Br_false, Gd_tt, Gd_ft, Gd_tf, Gd_ff, cells_agg, List.getElem?_toArray, List.getElem?_cons_zero, List.getElem?_cons_succ, Nat.zero_add, Nat.add_zero, Nat.zero_mul, List.drop_succ_cons, List.drop_zero, List.take_succ_cons, List.take_zero, List.nil_append, List.cons_append, Nat.reduceAdd, List.drop_nil, List.take_nil, bld_1, bld_2, bld_3, bld_4, bld_5, bld_6, bld_7, bld_8, bld_9, bld_10, bld_11, bld_12, bld_13, bld_14, bld_15, bld_16, bld_17, bld_18, bld_19, bld_20, bld_21, bld_22, bld_23, bld_24, bld_25, bld_26, bld_27, bld_28]
    refine rd1 hc0 ?_
    refine call (cloneO_spec (q0.mono (hI'.trans hI2)) (by omega) (fun X7 _ _ hX7 => ?_))
    refine zero_app (X := X7) hX7 (by omega) (fun _ _ I3 hI3 hB7 => ?_)
    exact fin _ _ I3 (hI2.trans hI3) hB7 (by simp; omega)
end
end Go.Proofs.Ytlalbollbdlfhaa
