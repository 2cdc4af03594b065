/-
  A transaction and its own memory; what lets it read, write, commit, abort.
-/
-- S2
import Derived.Test.YtlalbollbdlfhaaD
set_option linter.unusedSimpArgs false
set_option linter.unusedVariables false
namespace Go.Proofs.Ytlalbollbdlfhaa
open Go.SL
set_option maxRecDepth 10000

/-- an owned slice that may begin inside of its block -/
def SlW (T n : Nat) (X : LH) (v : Value) (cells : List Value) (len : Nat) : Prop :=
  cells.length = len * n ∧ ((X = [] ∧ len = 0 ∧ ∃ a c, v = .slice a 0 c) ∨
    (∃ (b off cap : Nat) (cs : Array Value), X = [(b, Obj.cells cs T (0, 0))] ∧ v = .slice (some ⟨b, off, none⟩) len cap ∧ len ≤ cap ∧ off + len * n ≤ cs.size ∧ ∀ (j : Nat) (u : Value), cells[j]? = some u → cs[off + j]? = some u))
theorem SlO.toW {T n len : Nat} {X : LH} {v : Value} {cells : List Value} (h : SlO T n X v cells len) : SlW T n X v cells len := by
  obtain ⟨hl, h⟩ := h
  refine ⟨hl, ?_⟩
  rcases h with ⟨h1, h2, a, h3⟩ | ⟨b, cap, cs, h1, h2, h3, h4, h5⟩
  · subst h2
    exact .inl ⟨h1, rfl, a, 0, h3⟩
  · exact .inr ⟨b, 0, cap, cs, h1, h2, h4, by rw [h3, Nat.zero_add]; exact Nat.mul_le_mul_right n h4, fun j u hu => by rw [Nat.zero_add]; exact h5 j u hu⟩
theorem SlW.news {I : Imm} {T n len : Nat} {X F : LH} {v : Value} {cells : List Value} (h : SlW T n X v cells len) (hF : ∀ x ∈ X, x ∈ F) : News n v I F len cells ∧ ∃ a cap, v = .slice a len cap ∧ len ≤ cap := by
  obtain ⟨hl, h⟩ := h
  rcases h with ⟨rfl, rfl, a, c, rfl⟩ | ⟨b, off, cap, cs, rfl, rfl, hle, hsz, hc⟩
  · exact ⟨.inl ⟨a, c, rfl, rfl, List.eq_nil_of_length_eq_zero (by simpa using hl)⟩, a, c, rfl, Nat.zero_le _⟩
  · exact ⟨.inr (.inl ⟨b, off, cap, rfl, hl, fun j u hu => Cell.own (hF _ (List.mem_singleton.2 rfl)) (hc j u hu)⟩), _, cap, rfl, hle⟩

/-- a transaction's lists and their memory 'T' -/
structure TxL (I : Imm) (x : TTxn) (T : LH) (v0 v1 v2 v3 v4 v5 v6 v7 v8 : Value) (Xr Xw Xs Xg : LH) (cr cw cs cg : List Value) : Prop where
  mem : T = Xr ++ (Xw ++ (Xs ++ Xg))
  read : SlO 40 2 Xr v0 cr x.fRead.length
  readR : Recs (TSpanV I) 2 x.fRead cr
  written : SlO 38 1 Xw v1 cw x.fWritten.length
  writtenR : Recs (BysV I) 1 x.fWritten cw
  sfrom : Bytes I v2 x.fSpan.fFrom
  sto : Bytes I v3 x.fSpan.fTo
  spans : SlW 40 2 Xs v4 cs x.fSpans.length
  spansR : Recs (TSpanV I) 2 x.fSpans cs
  ops : RL TOpV 3 I [] v5 x.fOps
  keys : RL BysV 1 I [] v6 x.fKeys
  got : SlO 95 2 Xg v7 cg x.fGot.length
  gotR : Recs (TKVV I) 2 x.fGot cg
  rows : RL TKVV 2 I [] v8 x.fRows
def TxM (I : Imm) (x : TTxn) (T : LH) (v0 v1 v2 v3 v4 v5 v6 v7 v8 : Value) : Prop := ∃ Xr Xw Xs Xg cr cw cs cg, TxL I x T v0 v1 v2 v3 v4 v5 v6 v7 v8 Xr Xw Xs Xg cr cw cs cg
def TxR (I : Imm) (b : Nat) (X : LH) (x : TTxn) : Prop := ∃ v0 v1 v2 v3 v4 v5 v6 v7 v8 v9 v10 T, X = (b, txCells x v0 v1 v2 v3 v4 v5 v6 v7 v8 v9 v10) :: T ∧ TxM I x T v0 v1 v2 v3 v4 v5 v6 v7 v8 ∧ Bytes I v9 x.fBlocked.fWhere.fFrom ∧ Bytes I v10 x.fBlocked.fWhere.fTo

theorem TxL.mono {I I' : Imm} {x : TTxn} {T : LH} {v0 v1 v2 v3 v4 v5 v6 v7 v8 : Value} {Xr Xw Xs Xg : LH} {cr cw cs cg : List Value} (h : TxL I x T v0 v1 v2 v3 v4 v5 v6 v7 v8 Xr Xw Xs Xg cr cw cs cg) (hI : Ext I I') : TxL I' x T v0 v1 v2 v3 v4 v5 v6 v7 v8 Xr Xw Xs Xg cr cw cs cg :=
  { h with
    readR := h.readR.imp fun _ _ h => h.mono hI
    writtenR := h.writtenR.imp fun _ _ h => h.mono hI
    sfrom := h.sfrom.mono hI
    sto := h.sto.mono hI
    spansR := h.spansR.imp fun _ _ h => h.mono hI
    ops := RL.mono (fun _ _ h => h.mono hI) h.ops hI (fun _ h => h)
    keys := RL.mono (fun _ _ h => h.mono hI) h.keys hI (fun _ h => h)
    gotR := h.gotR.imp fun _ _ h => h.mono hI
    rows := RL.mono (fun _ _ h => h.mono hI) h.rows hI (fun _ h => h) }
theorem TxM.mono {I I' : Imm} {x : TTxn} {T : LH} {v0 v1 v2 v3 v4 v5 v6 v7 v8 : Value} (h : TxM I x T v0 v1 v2 v3 v4 v5 v6 v7 v8) (hI : Ext I I') : TxM I' x T v0 v1 v2 v3 v4 v5 v6 v7 v8 := by
  obtain ⟨Xr, Xw, Xs, Xg, cr, cw, cs, cg, h⟩ := h
  exact ⟨Xr, Xw, Xs, Xg, cr, cw, cs, cg, h.mono hI⟩
theorem TxR.mono {I I' : Imm} {b : Nat} {X : LH} {x : TTxn} (h : TxR I b X x) (hI : Ext I I') : TxR I' b X x := by
  obtain ⟨v0, v1, v2, v3, v4, v5, v6, v7, v8, v9, v10, T, hX, h1, h2, h3⟩ := h
  exact ⟨v0, v1, v2, v3, v4, v5, v6, v7, v8, v9, v10, T, hX, h1.mono hI, h2.mono hI, h3.mono hI⟩
theorem rl_own {α : Type} {R : Imm → α → List Value → Prop} {I : Imm} {L : LH} {Ty n : Nat} {Y : LH} {v : Value} {c : List Value} {xs : List α} (h1 : SlO Ty n Y v c xs.length) (h2 : Recs (R I) n xs c) (h3 : ∀ y ∈ Y, y ∈ L) : RL R n I L v xs := by
  have hn := h1.news (I := I) h3
  obtain ⟨_, h1⟩ := h1
  rcases h1 with ⟨_, h0, a, rfl⟩ | ⟨b, cap, cs, _, rfl, _, hle, _⟩
  · rw [h0] at hn
    exact ⟨a, 0, c, by rw [h0], by omega, by rw [h0]; exact hn, h2⟩
  · exact ⟨_, cap, c, rfl, hle, hn, h2⟩
theorem TxL.view {I : Imm} {L : LH} {b : Nat} {x : TTxn} {T : LH} {v0 v1 v2 v3 v4 v5 v6 v7 v8 v9 v10 : Value} {Xr Xw Xs Xg : LH} {cr cw cs cg : List Value} (h : TxL I x T v0 v1 v2 v3 v4 v5 v6 v7 v8 Xr Xw Xs Xg cr cw cs cg) (h9 : Bytes I v9 x.fBlocked.fWhere.fFrom) (h10 : Bytes I v10 x.fBlocked.fWhere.fTo)
    (hm : (b, txCells x v0 v1 v2 v3 v4 v5 v6 v7 v8 v9 v10) ∈ L) (hT : ∀ y ∈ T, y ∈ L) : TxW I L b x v0 v1 v2 v3 v4 v5 v6 v7 v8 v9 v10 := by
  have e := h.mem
  subst e
  have sl : ∀ {α : Type} {R : Imm → α → List Value → Prop} {Ty n : Nat} {Y : LH} {v : Value} {c : List Value} {xs : List α}, SlO Ty n Y v c xs.length → Recs (R I) n xs c → (∀ y ∈ Y, y ∈ L) → RL R n I L v xs := fun {α R Ty n Y v c xs} h1 h2 h3 => by
    have hn := h1.news (I := I) h3
    obtain ⟨_, h1⟩ := h1
    rcases h1 with ⟨_, h0, a, rfl⟩ | ⟨b, cap, cs, _, rfl, _, hle, _⟩
    · rw [h0] at hn
      exact ⟨a, 0, c, by rw [h0], by omega, by rw [h0]; exact hn, h2⟩
    · exact ⟨_, cap, c, rfl, hle, hn, h2⟩
  refine ⟨hm, sl h.read h.readR (fun y hy => hT y (by simp [hy])), sl h.written h.writtenR (fun y hy => hT y (by simp [hy])), h.sfrom, h.sto, ?_, RL.mono (fun _ _ h => h) h.ops (Ext.refl _) (fun _ h => by cases h), RL.mono (fun _ _ h => h) h.keys (Ext.refl _) (fun _ h => by cases h),
    sl h.got h.gotR (fun y hy => hT y (by simp [hy])), RL.mono (fun _ _ h => h) h.rows (Ext.refl _) (fun _ h => by cases h), h9, h10⟩
  obtain ⟨hn, a, cap, rfl, hle⟩ := h.spans.news (I := I) (F := L) (fun y hy => hT y (by simp [hy]))
  exact ⟨a, cap, cs, rfl, hle, hn, h.spansR⟩
theorem TxR.view {I : Imm} {L : LH} {b : Nat} {X : LH} {x : TTxn} (h : TxR I b X x) (hs : ∀ y ∈ X, y ∈ L) : TxV I L b x := by
  obtain ⟨v0, v1, v2, v3, v4, v5, v6, v7, v8, v9, v10, T, rfl, ⟨Xr, Xw, Xs, Xg, cr, cw, cs, cg, h1⟩, h2, h3⟩ := h
  exact ⟨_, _, _, _, _, _, _, _, _, _, _, h1.view h2 h3 (hs _ (List.mem_cons_self ..)) (fun y hy => hs y (List.mem_cons_of_mem _ hy))⟩
theorem TxR.viewF {I : Imm} {b : Nat} {X F : LH} {x : TTxn} (h : TxR I b X x) : TxV I (X ++ F) b x := h.view (fun y hy => List.mem_append_left _ hy)

def overF (x : TTxn) : TTxn := { x with fState := 5, fStage := 0, fBlocked := default }
def undoF (x : TTxn) : TTxn := if x.fBegun then { x with fState := 4, fStage := 5, fBlocked := default } else overF x

section
variable {ω : Om} {I : Imm} {L : LH} {K : Value → M}
theorem Cal.splitB {P : Program} {f : FuncId} {args : Array Value} (x : Nat × Obj) {R : LH} [h : SplitB x L R] (hc : Cal P ω f args K I (x :: R)) : Cal P ω f args K I L := fun w hs => hc w (hs.perm h.perm)

theorem tover_spec {b : Nat} {x : TTxn} {v0 v1 v2 v3 v4 v5 v6 v7 v8 v9 v10 : Value} (hk : K (.tuple #[]) I ((b, txCells (overF x) v0 v1 v2 v3 v4 v5 v6 v7 v8 (.slice none 0 0) (.slice none 0 0)) :: L)) :
    Cal Try.prog ω 35 #[.pointer (some ⟨b, 0, none⟩)] K I ((b, txCells x v0 v1 v2 v3 v4 v5 v6 v7 v8 v9 v10) :: L) := by
  refine cal35 ?_
  unfold sh35
  unfold txCells
  repeat' (first | (with_reducible refine drawC ?_) | (with_reducible refine drawW1 ?_) | (with_reducible refine drawW2 ?_) | (with_reducible refine keepC (by repeat (first | exact Ext.refl _ | assumption | refine Ext.trans ?_ (by assumption))) ?_) | (with_reducible refine newI (fun _ => ?_)) | first | (with_reducible refine rdb ?_) | ((with_reducible refine st1 ?_ ?_); rfl) | ((with_reducible refine rdB ?_ ?_); rfl) | (with_reducible refine rdbS ?_) | ((with_reducible refine rdBS ?_ ?_); rfl) | ((with_reducible refine stB ?_ ?_ ?_ ?_); rfl; rfl; exact one_all rfl) | ((with_reducible refine rdP _ rfl ?_ ?_); rfl) | ((with_reducible refine rdPS _ rfl ?_ ?_); rfl) | ((with_reducible refine stP _ rfl ?_ ?_ ?_ ?_); rfl; rfl; rfl) | (with_reducible refine And.intro ?_ ?_) | (simp only [Bool.not_true, Bool.not_false, Br_true, Br_false, Gd_tt, Gd_ft, Gd_tf, Gd_ff, beq_self_eq_true, bne_self_eq_false]) | (with_reducible refine gd_split (fun _ => ?_) (fun _ => ?_)) | (with_reducible refine br_split (fun _ => ?_) (fun _ => ?_)) | (simp only [Pv_some, fldV_p, nilV_p, nilV_f, lenV_s, capV_s, sLen, minV_i, maxV_i, strV_s, unV_not, unV_neg, pickV_t, pickV_f, exV_t, cvIV_i, binI_add, binI_sub, binI_mul, binI_eql, binI_neq, binI_lss, binI_leq, binI_gtr, binI_geq, binI_and, binI_or, binB_eql, binB_neq, sEq, sNe, sLt, sLe, sGt, sGe, stampEq, stampNe, fldv_agg, fldv_one, binP_eql_nil, binP_neq_nil, binN_eql_nil, binN_neq_nil, binN_eql_nn, binN_neq_nn, Br_true, Br_false, Gd_tt, Gd_ft, Gd_tf, Gd_ff, cells_agg, List.getElem?_toArray, List.getElem?_cons_zero, List.getElem?_cons_succ, Nat.zero_add, Nat.add_zero, Nat.zero_mul, List.drop_succ_cons, List.drop_zero, List.take_succ_cons, List.take_zero, List.nil_append, List.cons_append, Nat.reduceAdd, List.drop_nil, List.take_nil, bld_1, bld_2, bld_3, bld_4, bld_5, bld_6, bld_7, bld_8, bld_9, bld_10, bld_11, bld_12, bld_13, bld_14, bld_15, bld_16, bld_17, bld_18, bld_19, bld_20, bld_21, bld_22, bld_23, bld_24, bld_25, bld_26, bld_27, bld_28]))
  exact Gh.done hk
theorem tundo_spec {b : Nat} {x : TTxn} {v0 v1 v2 v3 v4 v5 v6 v7 v8 v9 v10 : Value} (hk : K (.tuple #[]) I ((b, txCells (undoF x) v0 v1 v2 v3 v4 v5 v6 v7 v8 (.slice none 0 0) (.slice none 0 0)) :: L)) :
    Cal Try.prog ω 38 #[.pointer (some ⟨b, 0, none⟩)] K I ((b, txCells x v0 v1 v2 v3 v4 v5 v6 v7 v8 v9 v10) :: L) := by
  refine cal38 ?_
  unfold sh38
  unfold txCells
  repeat' (first | (with_reducible refine drawC ?_) | (with_reducible refine drawW1 ?_) | (with_reducible refine drawW2 ?_) | (with_reducible refine keepC (by repeat (first | exact Ext.refl _ | assumption | refine Ext.trans ?_ (by assumption))) ?_) | (with_reducible refine newI (fun _ => ?_)) | first | (with_reducible refine rdb ?_) | ((with_reducible refine st1 ?_ ?_); rfl) | ((with_reducible refine rdB ?_ ?_); rfl) | (with_reducible refine rdbS ?_) | ((with_reducible refine rdBS ?_ ?_); rfl) | ((with_reducible refine stB ?_ ?_ ?_ ?_); rfl; rfl; exact one_all rfl) | ((with_reducible refine rdP _ rfl ?_ ?_); rfl) | ((with_reducible refine rdPS _ rfl ?_ ?_); rfl) | ((with_reducible refine stP _ rfl ?_ ?_ ?_ ?_); rfl; rfl; rfl) | (with_reducible refine And.intro ?_ ?_) | (simp only [Bool.not_true, Bool.not_false, Br_true, Br_false, Gd_tt, Gd_ft, Gd_tf, Gd_ff, beq_self_eq_true, bne_self_eq_false]) | (with_reducible refine gd_split (fun _ => ?_) (fun _ => ?_)) | (with_reducible refine br_split (fun _ => ?_) (fun _ => ?_)) | (simp only [Pv_some, fldV_p, nilV_p, nilV_f, lenV_s, capV_s, sLen, minV_i, maxV_i, strV_s, unV_not, unV_neg, pickV_t, pickV_f, exV_t, cvIV_i, binI_add, binI_sub, binI_mul, binI_eql, binI_neq, binI_lss, binI_leq, binI_gtr, binI_geq, binI_and, binI_or, binB_eql, binB_neq, sEq, sNe, sLt, sLe, sGt, sGe, stampEq, stampNe, fldv_agg, fldv_one, binP_eql_nil, binP_neq_nil, binN_eql_nil, binN_neq_nil, binN_eql_nn, binN_neq_nn, Br_true, Br_false, Gd_tt, Gd_ft, Gd_tf, Gd_ff, cells_agg, List.getElem?_toArray, List.getElem?_cons_zero, List.getElem?_cons_succ, Nat.zero_add, Nat.add_zero, Nat.zero_mul, List.drop_succ_cons, List.drop_zero, List.take_succ_cons, List.take_zero, List.nil_append, List.cons_append, Nat.reduceAdd, List.drop_nil, List.take_nil, bld_1, bld_2, bld_3, bld_4, bld_5, bld_6, bld_7, bld_8, bld_9, bld_10, bld_11, bld_12, bld_13, bld_14, bld_15, bld_16, bld_17, bld_18, bld_19, bld_20, bld_21, bld_22, bld_23, bld_24, bld_25, bld_26, bld_27, bld_28]))
  · rename_i h
    simp at h
    rw [undoF, if_neg (by simp [h])] at hk
    refine call (tover_spec (x := { x with fState := 4, fStage := 5, fBlocked := default }) ?_)
    exact Gh.done hk
  · rename_i h
    simp at h
    rw [undoF, if_pos h] at hk
    exact Gh.done hk
end
end Go.Proofs.Ytlalbollbdlfhaa
