/-
  The program's node in memory; what its small functions do.
-/
-- S2
import Derived.Test.YtdcpeboecmkmlaaKE
set_option linter.unusedSimpArgs false
set_option linter.unusedVariables false
namespace Go.Proofs.Ytdcpeboecmkmlaa
open Go.SL
set_option maxRecDepth 10000

/-- the 28 cells of a node -/
abbrev rcells (r : RF) (z0 : Bool) (z1 z2 : Int) (lv stv ov : Value) : List Value :=
  [.int .i64 r.group, .int .i64 r.id, .int .i64 r.term, .int .i64 r.vote, lv, stv, .int .i64 r.role, .int .i64 r.leader, .int .i64 r.elapsed,
   .bool z0, .bool (r.vt 1), .bool (r.vt 2), .bool (r.vt 3), .bool (r.vt 4), .bool (r.vt 5),
   .int .i64 z1, .int .i64 z2, .int .i64 (r.nx 1), .int .i64 (r.mt 1), .int .i64 (r.nx 2), .int .i64 (r.mt 2), .int .i64 (r.nx 3), .int .i64 (r.mt 3), .int .i64 (r.nx 4), .int .i64 (r.mt 4), .int .i64 (r.nx 5), .int .i64 (r.mt 5), ov]
abbrev Msgs (I : Imm) (L : LH) (v : Value) (l : List RM) : Prop := RL MsgV 12 I L v l
def pt (b : Nat) : Value := .pointer (some ⟨b, 0, none⟩)
def RaftR (I : Imm) (b : Nat) (X : LH) (r : RF) : Prop :=
  ∃ lb XL XO stv ov z0 z1 z2 oc, X = (b, Obj.cells (rcells r z0 z1 z2 (.pointer (some ⟨lb, 0, none⟩)) stv ov).toArray 131 (0, 0)) :: (XL ++ XO) ∧
    LogR I lb XL r.g ∧ Bytes I stv r.st ∧ SlO 77 12 XO ov oc r.out.length ∧ Recs (MsgV I) 12 r.out oc
theorem RaftR.mono {I I' : Imm} {b : Nat} {X : LH} {r : RF} (h : RaftR I b X r) (hI : Ext I I') : RaftR I' b X r := by
  obtain ⟨lb, XL, XO, stv, ov, z0, z1, z2, oc, hX, h1, h2, h3, h4⟩ := h
  exact ⟨lb, XL, XO, stv, ov, z0, z1, z2, oc, hX, h1.mono hI, h2.mono hI, h3, h4.imp fun _ _ h => h.mono hI⟩

theorem five {p : Int} (h : 1 ≤ p ∧ p ≤ 5) : p = 1 ∨ p = 2 ∨ p = 3 ∨ p = 4 ∨ p = 5 := by omega
section
variable {r : RF} {z0 : Bool} {z1 z2 : Int} {lv stv ov : Value}
theorem rc_vt {p : Int} (h : 1 ≤ p ∧ p ≤ 5) : (rcells r z0 z1 z2 lv stv ov)[9 + p.toNat * 1]? = some (.bool (r.vt p)) := by
  rcases five h with rfl | rfl | rfl | rfl | rfl <;> rfl
theorem rc_nx {p : Int} (h : 1 ≤ p ∧ p ≤ 5) : (rcells r z0 z1 z2 lv stv ov)[15 + p.toNat * 2]? = some (.int .i64 (r.nx p)) := by
  rcases five h with rfl | rfl | rfl | rfl | rfl <;> rfl
theorem rc_mt {p : Int} (h : 1 ≤ p ∧ p ≤ 5) : (rcells r z0 z1 z2 lv stv ov)[15 + p.toNat * 2 + 1]? = some (.int .i64 (r.mt p)) := by
  rcases five h with rfl | rfl | rfl | rfl | rfl <;> rfl
theorem rc_svt {p : Int} {t : Bool} (h : 1 ≤ p ∧ p ≤ 5) : (rcells r z0 z1 z2 lv stv ov).set (9 + p.toNat * 1) (.bool t) = rcells { r with vt := updI r.vt p t } z0 z1 z2 lv stv ov := by
  rcases five h with rfl | rfl | rfl | rfl | rfl <;> rfl
theorem rc_snx {p : Int} {t : Int} (h : 1 ≤ p ∧ p ≤ 5) : (rcells r z0 z1 z2 lv stv ov).set (15 + p.toNat * 2) (.int .i64 t) = rcells { r with nx := updI r.nx p t } z0 z1 z2 lv stv ov := by
  rcases five h with rfl | rfl | rfl | rfl | rfl <;> rfl
theorem rc_smt {p : Int} {t : Int} (h : 1 ≤ p ∧ p ≤ 5) : (rcells r z0 z1 z2 lv stv ov).set (15 + p.toNat * 2 + 1) (.int .i64 t) = rcells { r with mt := updI r.mt p t } z0 z1 z2 lv stv ov := by
  rcases five h with rfl | rfl | rfl | rfl | rfl <;> rfl
theorem rc_len : (rcells r z0 z1 z2 lv stv ov).length = 28 := rfl
end

theorem cells_ptr (a : Option Addr) : Value.cells (.pointer a) = #[.pointer a] := rfl
theorem ixPV_at {b off n len : Nat} {i : Int} (k : IntKind) (h0 : 0 ≤ i) (h1 : i < len) : ixPV n len (.pointer (some ⟨b, off, none⟩)) (.int k i) = some (.pointer (some ⟨b, off + i.toNat * n, none⟩)) := by
  simp only [ixPV]; rw [if_pos ⟨h0, h1⟩]

section
variable {ω : Om} {I : Imm} {L : LH} {K : Value → M}

/-- one cell of a block, wherever it is -/
theorem stL {b off T : Nat} {l l' : List Value} {v : Value} {L' : LH} [h : InL b L (.cells l.toArray T (0, 0))] (hs : l.set off v = l') (ho : off < l.length) [u : UpL b L (.cells l.toArray T (0, 0)) (.cells l'.toArray T (0, 0)) L'] (hv : v.oneCell' = true) (hk : K undef I L') :
    Sto 1 (.pointer (some ⟨b, off, none⟩)) v (gh K) I L := by
  obtain ⟨L1, L2, rfl, rfl⟩ := u.up
  have hc : v.cells = #[v] := by cases v <;> first | rfl | simp [Value.oneCell'] at hv
  refine ⟨b, off, l.toArray, T, L1, L2, rfl, by simp [hc], by simp [hc]; exact hv, by simp; omega, rfl, ?_⟩
  rw [hc, wr_one l l' off v hs]
  exact Gh.done hk
theorem rdL {b off T : Nat} {l : List Value} {v : Value} {fr : Nat × Nat} [h : InL b L (.cells l.toArray T fr)] (hv : l[off]? = some v) (hk : K v I L) : Rv none (ld1R (.pointer (some ⟨b, off, none⟩))) K I L :=
  rd1 (Cell.own h.mem (by simpa using hv)) hk
theorem rdLS {b off T : Nat} {l : List Value} {v : Value} {fr : Nat × Nat} {I0 : Imm} {X : LH} [h : InL b X (.cells l.toArray T fr)] (hv : l[off]? = some v) (hk : K v I L) : Rv (some (Stay I0 X)) (ld1R (.pointer (some ⟨b, off, none⟩))) K I L :=
  rd1S (fun I' L' hS => Cell.own (hS.2 _ h.mem) (by simpa using hv)) hk

theorem raft_fin {b lb : Nat} {XL XO F : LH} {v stv ov : Value} {oc : List Value} {r : RF} {cs : Array Value} (z0 : Bool) (z1 z2 : Int) (hk : ∀ X', RaftR I b X' r → K v I (X' ++ F)) (h1 : LogR I lb XL r.g) (h2 : Bytes I stv r.st)
    (h3 : SlO 77 12 XO ov oc r.out.length) (h4 : Recs (MsgV I) 12 r.out oc) (hc : cs = (rcells r z0 z1 z2 (.pointer (some ⟨lb, 0, none⟩)) stv ov).toArray) : K v I ((b, Obj.cells cs 131 (0, 0)) :: (XL ++ (XO ++ F))) := by
  subst hc
  have := hk ((b, Obj.cells (rcells r z0 z1 z2 (.pointer (some ⟨lb, 0, none⟩)) stv ov).toArray 131 (0, 0)) :: (XL ++ XO)) ⟨lb, XL, XO, stv, ov, z0, z1, z2, oc, rfl, h1, h2, h3, h4⟩
  simpa only [List.cons_append, List.append_assoc] using this

theorem raft_end {b lb : Nat} {XL XO F R : LH} {v stv ov : Value} {oc : List Value} {r : RF} {cs : Array Value} [hp : PickB b L (Obj.cells cs 131 (0, 0)) R] [hs : SubP (XL ++ (XO ++ F)) R] (z0 : Bool) (z1 z2 : Int) (hk : ∀ X', RaftR I b X' r → K v I (X' ++ F)) (h1 : LogR I lb XL r.g) (h2 : Bytes I stv r.st)
    (h3 : SlO 77 12 XO ov oc r.out.length) (h4 : Recs (MsgV I) 12 r.out oc) (hc : cs = (rcells r z0 z1 z2 (.pointer (some ⟨lb, 0, none⟩)) stv ov).toArray) : Gh (K v) I L :=
  Gh.pick b (XL ++ (XO ++ F)) (Gh.done (raft_fin z0 z1 z2 hk h1 h2 h3 h4 hc))
/-- a call on a node -/
theorem raft_cal {f : FuncId} {args : Array Value} {lb : Nat} {XL XO R : LH} (b : Nat) (F : LH) {stv ov : Value} {oc : List Value} {r : RF} {cs : Array Value} [hp : PickB b L (Obj.cells cs 131 (0, 0)) R] [hs : SubP (XL ++ (XO ++ F)) R] (z0 : Bool) (z1 z2 : Int) (h1 : LogR I lb XL r.g) (h2 : Bytes I stv r.st)
    (h3 : SlO 77 12 XO ov oc r.out.length) (h4 : Recs (MsgV I) 12 r.out oc) (hc : cs = (rcells r z0 z1 z2 (.pointer (some ⟨lb, 0, none⟩)) stv ov).toArray)
    (h : ∀ X, RaftR I b X r → Cal Try.prog ω f args K I (X ++ F)) : Cal Try.prog ω f args K I L := by
  refine Cal.pick b ?_
  subst hc
  have := h ((b, Obj.cells (rcells r z0 z1 z2 (.pointer (some ⟨lb, 0, none⟩)) stv ov).toArray 131 (0, 0)) :: (XL ++ XO)) ⟨lb, XL, XO, stv, ov, z0, z1, z2, oc, rfl, h1, h2, h3, h4⟩
  obtain ⟨R', hR⟩ := hs.sub
  refine Cal.perm (List.Perm.cons _ hR) ?_
  refine Cal.drop (L' := (b, Obj.cells (rcells r z0 z1 z2 (.pointer (some ⟨lb, 0, none⟩)) stv ov).toArray 131 (0, 0)) :: (XL ++ (XO ++ F))) (List.Sublist.cons_cons _ (List.sublist_append_left _ _)) ?_
  simpa only [List.cons_append, List.append_assoc] using this

theorem send_spec {b : Nat} {X F : LH} {r : RF} {m : RM} {c : List Value} (h : RaftR I b X r) (hm : MsgV I m c) (hl : r.out.length ≤ 1000)
    (hk : ∀ X', RaftR I b X' (sendF r m) → K (.tuple #[]) I (X' ++ F)) : Cal Try.prog ω 114 #[.pointer (some ⟨b, 0, none⟩), .agg c.toArray] K I (X ++ F) := by
  obtain ⟨lb, XL, XO, stv, ov, z0, z1, z2, oc, rfl, h1, h2, h3, h4⟩ := h
  obtain ⟨a0, p0, a1, p1, a2, p2, rfl, hE, hM, hD⟩ := hm.form
  refine cal114 ?_
  unfold sh114
  simp only [List.cons_append, List.append_assoc]
  repeat' (first | (with_reducible refine drawC ?_) | (with_reducible refine drawW1 ?_) | (with_reducible refine drawW2 ?_) | (with_reducible refine keepC (by repeat (first | exact Ext.refl _ | assumption | refine Ext.trans ?_ (by assumption))) ?_) | (with_reducible refine newI (fun _ => ?_)) | first | (with_reducible refine rdb ?_) | ((with_reducible refine st1 ?_ ?_); rfl) | ((with_reducible refine rdB ?_ ?_); rfl) | (with_reducible refine rdbS ?_) | ((with_reducible refine rdBS ?_ ?_); rfl) | ((with_reducible refine stB ?_ ?_ ?_ ?_); rfl; rfl; exact one_all rfl) | ((with_reducible refine rdP _ rfl ?_ ?_); rfl) | ((with_reducible refine rdPS _ rfl ?_ ?_); rfl) | ((with_reducible refine stP _ rfl ?_ ?_ ?_ ?_); rfl; rfl; rfl) | (with_reducible refine And.intro ?_ ?_) | (simp only [Bool.not_true, Bool.not_false, Bool.and_self, Bool.true_and, Int.reduceBEq, Int.reduceBNe, Int.reduceLT, Int.reduceLE, decide_true, decide_false, Br_true, Br_false, Gd_tt, Gd_ft, Gd_tf, Gd_ff, beq_self_eq_true, bne_self_eq_false]) | (with_reducible refine gd_split (fun _ => ?_) (fun _ => ?_)) | (with_reducible refine br_split (fun _ => ?_) (fun _ => ?_)) | (simp only [Pv_some, fldV_p, nilV_p, nilV_f, lenV_s, capV_s, sLen, minV_i, maxV_i, strV_s, unV_not, unV_neg, pickV_t, pickV_f, exV_t, cvIV_i, binI_add, binI_sub, binI_mul, binI_eql, binI_neq, binI_lss, binI_leq, binI_gtr, binI_geq, binI_and, binI_or, binB_eql, binB_neq, sEq, sNe, sLt, sLe, sGt, sGe, stampEq, stampNe, fldv_agg, fldv_one, binP_eql_nil, binP_neq_nil, binN_eql_nil, binN_neq_nil, binN_eql_nn, binN_neq_nn, Br_true, Br_false, Gd_tt, Gd_ft, Gd_tf, Gd_ff, cells_agg, List.getElem?_toArray, List.getElem?_cons_zero, List.getElem?_cons_succ, Nat.zero_add, Nat.add_zero, Nat.zero_mul, List.drop_succ_cons, List.drop_zero, List.take_succ_cons, List.take_zero, List.nil_append, List.cons_append, Nat.reduceAdd, List.drop_nil, List.take_nil, bld_1, bld_2, bld_3, bld_4, bld_5, bld_6, bld_7, bld_8, bld_9, bld_10, bld_11, bld_12, bld_13, bld_14, bld_15, bld_16, bld_17, bld_18]))
  refine rec_appK (x := { m with group := r.group, frm := r.id, term := r.term }) (X6 := XO) (Ext.refl I) (fun y hy => hy) rfl (by omega) h3 h4 ⟨_, _, _, rfl, hE, hM, hD⟩ rfl (one_all rfl) (by omega) (by omega) (fun X1 X6' a' c' cells' h6 hR => ?_)
  repeat' (first | (with_reducible refine drawC ?_) | (with_reducible refine drawW1 ?_) | (with_reducible refine drawW2 ?_) | (with_reducible refine keepC (by repeat (first | exact Ext.refl _ | assumption | refine Ext.trans ?_ (by assumption))) ?_) | (with_reducible refine newI (fun _ => ?_)) | first | (with_reducible refine rdb ?_) | ((with_reducible refine st1 ?_ ?_); rfl) | ((with_reducible refine rdB ?_ ?_); rfl) | (with_reducible refine rdbS ?_) | ((with_reducible refine rdBS ?_ ?_); rfl) | ((with_reducible refine stB ?_ ?_ ?_ ?_); rfl; rfl; exact one_all rfl) | ((with_reducible refine rdP _ rfl ?_ ?_); rfl) | ((with_reducible refine rdPS _ rfl ?_ ?_); rfl) | ((with_reducible refine stP _ rfl ?_ ?_ ?_ ?_); rfl; rfl; rfl) | (with_reducible refine And.intro ?_ ?_) | (simp only [Bool.not_true, Bool.not_false, Bool.and_self, Bool.true_and, Int.reduceBEq, Int.reduceBNe, Int.reduceLT, Int.reduceLE, decide_true, decide_false, Br_true, Br_false, Gd_tt, Gd_ft, Gd_tf, Gd_ff, beq_self_eq_true, bne_self_eq_false]) | (with_reducible refine gd_split (fun _ => ?_) (fun _ => ?_)) | (with_reducible refine br_split (fun _ => ?_) (fun _ => ?_)) | (simp only [Pv_some, fldV_p, nilV_p, nilV_f, lenV_s, capV_s, sLen, minV_i, maxV_i, strV_s, unV_not, unV_neg, pickV_t, pickV_f, exV_t, cvIV_i, binI_add, binI_sub, binI_mul, binI_eql, binI_neq, binI_lss, binI_leq, binI_gtr, binI_geq, binI_and, binI_or, binB_eql, binB_neq, sEq, sNe, sLt, sLe, sGt, sGe, stampEq, stampNe, fldv_agg, fldv_one, binP_eql_nil, binP_neq_nil, binN_eql_nil, binN_neq_nil, binN_eql_nn, binN_neq_nn, Br_true, Br_false, Gd_tt, Gd_ft, Gd_tf, Gd_ff, cells_agg, List.getElem?_toArray, List.getElem?_cons_zero, List.getElem?_cons_succ, Nat.zero_add, Nat.add_zero, Nat.zero_mul, List.drop_succ_cons, List.drop_zero, List.take_succ_cons, List.take_zero, List.nil_append, List.cons_append, Nat.reduceAdd, List.drop_nil, List.take_nil, bld_1, bld_2, bld_3, bld_4, bld_5, bld_6, bld_7, bld_8, bld_9, bld_10, bld_11, bld_12, bld_13, bld_14, bld_15, bld_16, bld_17, bld_18]))
  exact raft_end (F := F) z0 z1 z2 hk h1 h2 h6 hR rfl

theorem take_spec {b : Nat} {X F : LH} {r : RF} (h : RaftR I b X r) (hk : ∀ X' v I', Ext I I' → Msgs I' [] v r.out → RaftR I' b X' (takeF r) → K v I' (X' ++ F)) :
    Cal Try.prog ω 87 #[.pointer (some ⟨b, 0, none⟩)] K I (X ++ F) := by
  obtain ⟨lb, XL, XO, stv, ov, z0, z1, z2, oc, rfl, h1, h2, h3, h4⟩ := h
  simp only [List.cons_append, List.append_assoc]
  refine Cal.split XO (cal_pre (RL.ofO (R := MsgV) MsgV.mono h3 h4 (fun I1 hI1 hL => Gh.done ?_)))
  refine cal87 ?_
  unfold sh87
  refine rdb ?_
  have clip : ∀ {K : Value → M} {L : LH}, (∀ a, Msgs I1 [] (.slice a r.out.length r.out.length) r.out → K (.slice a r.out.length r.out.length) I1 L) → Cal Try.prog ω 112 #[ov] K I1 L := by
    intro K L hk
    refine cal112 ?_
    unfold sh112
    simp only [RL.len hL, Pv_some, fldV_p, nilV_p, nilV_f, lenV_s, capV_s, sLen, minV_i, maxV_i, strV_s, unV_not, unV_neg, pickV_t, pickV_f, exV_t, cvIV_i, binI_add, binI_sub, binI_mul, binI_eql, binI_neq, binI_lss, binI_leq, binI_gtr, binI_geq, binI_and, binI_or, binB_eql, binB_neq, sEq, sNe, sLt, sLe, sGt, sGe, stampEq, stampNe, fldv_agg, fldv_one, binP_eql_nil, binP_neq_nil, binN_eql_nil, binN_neq_nil, binN_eql_nn, binN_neq_nn, Br_true, Br_false, Gd_tt, Gd_ft, Gd_tf, Gd_ff, cells_agg, List.getElem?_toArray, List.getElem?_cons_zero, List.getElem?_cons_succ, Nat.zero_add, Nat.add_zero, Nat.zero_mul, List.drop_succ_cons, List.drop_zero, List.take_succ_cons, List.take_zero, List.nil_append, List.cons_append, Nat.reduceAdd, List.drop_nil, List.take_nil, bld_1, bld_2, bld_3, bld_4, bld_5, bld_6, bld_7, bld_8, bld_9, bld_10, bld_11, bld_12, bld_13, bld_14, bld_15, bld_16, bld_17, bld_18]
    obtain ⟨a, hs, hl⟩ := RL.clip hL (Nat.le_refl _)
    rw [List.take_of_length_le (Nat.le_refl _)] at hl
    simp only [hs, Pv_some, fldV_p, nilV_p, nilV_f, lenV_s, capV_s, sLen, minV_i, maxV_i, strV_s, unV_not, unV_neg, pickV_t, pickV_f, exV_t, cvIV_i, binI_add, binI_sub, binI_mul, binI_eql, binI_neq, binI_lss, binI_leq, binI_gtr, binI_geq, binI_and, binI_or, binB_eql, binB_neq, sEq, sNe, sLt, sLe, sGt, sGe, stampEq, stampNe, fldv_agg, fldv_one, binP_eql_nil, binP_neq_nil, binN_eql_nil, binN_neq_nil, binN_eql_nn, binN_neq_nn, Br_true, Br_false, Gd_tt, Gd_ft, Gd_tf, Gd_ff, cells_agg, List.getElem?_toArray, List.getElem?_cons_zero, List.getElem?_cons_succ, Nat.zero_add, Nat.add_zero, Nat.zero_mul, List.drop_succ_cons, List.drop_zero, List.take_succ_cons, List.take_zero, List.nil_append, List.cons_append, Nat.reduceAdd, List.drop_nil, List.take_nil, bld_1, bld_2, bld_3, bld_4, bld_5, bld_6, bld_7, bld_8, bld_9, bld_10, bld_11, bld_12, bld_13, bld_14, bld_15, bld_16, bld_17, bld_18]
    exact Gh.done (hk a hl)
  refine call (clip (fun a ha => ?_))
  repeat' (first | (with_reducible refine drawC ?_) | (with_reducible refine drawW1 ?_) | (with_reducible refine drawW2 ?_) | (with_reducible refine keepC (by repeat (first | exact Ext.refl _ | assumption | refine Ext.trans ?_ (by assumption))) ?_) | (with_reducible refine newI (fun _ => ?_)) | first | (with_reducible refine rdb ?_) | ((with_reducible refine st1 ?_ ?_); rfl) | ((with_reducible refine rdB ?_ ?_); rfl) | (with_reducible refine rdbS ?_) | ((with_reducible refine rdBS ?_ ?_); rfl) | ((with_reducible refine stB ?_ ?_ ?_ ?_); rfl; rfl; exact one_all rfl) | ((with_reducible refine rdP _ rfl ?_ ?_); rfl) | ((with_reducible refine rdPS _ rfl ?_ ?_); rfl) | ((with_reducible refine stP _ rfl ?_ ?_ ?_ ?_); rfl; rfl; rfl) | (with_reducible refine And.intro ?_ ?_) | (simp only [Bool.not_true, Bool.not_false, Bool.and_self, Bool.true_and, Int.reduceBEq, Int.reduceBNe, Int.reduceLT, Int.reduceLE, decide_true, decide_false, Br_true, Br_false, Gd_tt, Gd_ft, Gd_tf, Gd_ff, beq_self_eq_true, bne_self_eq_false]) | (with_reducible refine gd_split (fun _ => ?_) (fun _ => ?_)) | (with_reducible refine br_split (fun _ => ?_) (fun _ => ?_)) | (simp only [Pv_some, fldV_p, nilV_p, nilV_f, lenV_s, capV_s, sLen, minV_i, maxV_i, strV_s, unV_not, unV_neg, pickV_t, pickV_f, exV_t, cvIV_i, binI_add, binI_sub, binI_mul, binI_eql, binI_neq, binI_lss, binI_leq, binI_gtr, binI_geq, binI_and, binI_or, binB_eql, binB_neq, sEq, sNe, sLt, sLe, sGt, sGe, stampEq, stampNe, fldv_agg, fldv_one, binP_eql_nil, binP_neq_nil, binN_eql_nil, binN_neq_nil, binN_eql_nn, binN_neq_nn, Br_true, Br_false, Gd_tt, Gd_ft, Gd_tf, Gd_ff, cells_agg, List.getElem?_toArray, List.getElem?_cons_zero, List.getElem?_cons_succ, Nat.zero_add, Nat.add_zero, Nat.zero_mul, List.drop_succ_cons, List.drop_zero, List.take_succ_cons, List.take_zero, List.nil_append, List.cons_append, Nat.reduceAdd, List.drop_nil, List.take_nil, bld_1, bld_2, bld_3, bld_4, bld_5, bld_6, bld_7, bld_8, bld_9, bld_10, bld_11, bld_12, bld_13, bld_14, bld_15, bld_16, bld_17, bld_18]))
  exact Gh.done (raft_fin (XO := []) (r := takeF r) z0 z1 z2 (fun X' h' => hk X' _ I1 hI1 ha h') (h1.mono hI1) (h2.mono hI1) (SlO.none _ _) rfl rfl)

theorem follow_spec11 {b : Nat} {X F : LH} {r : RF} {t : Int} (h : RaftR I b X r) (hk : ∀ X', RaftR I b X' (followF r t) → K (.tuple #[]) I (X' ++ F)) :
    Cal Try.prog ω 91 #[.pointer (some ⟨b, 0, none⟩), .int .i64 t] K I (X ++ F) := by
  obtain ⟨lb, XL, XO, stv, ov, z0, z1, z2, oc, rfl, h1, h2, h3, h4⟩ := h
  refine cal91 ?_
  unfold sh91
  simp only [List.cons_append, List.append_assoc]
  repeat' (first | (with_reducible refine drawC ?_) | (with_reducible refine drawW1 ?_) | (with_reducible refine drawW2 ?_) | (with_reducible refine keepC (by repeat (first | exact Ext.refl _ | assumption | refine Ext.trans ?_ (by assumption))) ?_) | (with_reducible refine newI (fun _ => ?_)) | first | (with_reducible refine rdb ?_) | ((with_reducible refine st1 ?_ ?_); rfl) | ((with_reducible refine rdB ?_ ?_); rfl) | (with_reducible refine rdbS ?_) | ((with_reducible refine rdBS ?_ ?_); rfl) | ((with_reducible refine stB ?_ ?_ ?_ ?_); rfl; rfl; exact one_all rfl) | ((with_reducible refine rdP _ rfl ?_ ?_); rfl) | ((with_reducible refine rdPS _ rfl ?_ ?_); rfl) | ((with_reducible refine stP _ rfl ?_ ?_ ?_ ?_); rfl; rfl; rfl) | (with_reducible refine unfE (sh91_1.eq_1 ..) ?_) | (with_reducible refine unfE (sh91.eq_1 ..) ?_) | (with_reducible refine And.intro ?_ ?_) | (simp only [Bool.not_true, Bool.not_false, Bool.and_self, Bool.true_and, Int.reduceBEq, Int.reduceBNe, Int.reduceLT, Int.reduceLE, decide_true, decide_false, Br_true, Br_false, Gd_tt, Gd_ft, Gd_tf, Gd_ff, beq_self_eq_true, bne_self_eq_false]) | (with_reducible refine gd_split (fun _ => ?_) (fun _ => ?_)) | (with_reducible refine br_split (fun _ => ?_) (fun _ => ?_)) | (simp only [Pv_some, fldV_p, nilV_p, nilV_f, lenV_s, capV_s, sLen, minV_i, maxV_i, strV_s, unV_not, unV_neg, pickV_t, pickV_f, exV_t, cvIV_i, binI_add, binI_sub, binI_mul, binI_eql, binI_neq, binI_lss, binI_leq, binI_gtr, binI_geq, binI_and, binI_or, binB_eql, binB_neq, sEq, sNe, sLt, sLe, sGt, sGe, stampEq, stampNe, fldv_agg, fldv_one, binP_eql_nil, binP_neq_nil, binN_eql_nil, binN_neq_nil, binN_eql_nn, binN_neq_nn, Br_true, Br_false, Gd_tt, Gd_ft, Gd_tf, Gd_ff, cells_agg, List.getElem?_toArray, List.getElem?_cons_zero, List.getElem?_cons_succ, Nat.zero_add, Nat.add_zero, Nat.zero_mul, List.drop_succ_cons, List.drop_zero, List.take_succ_cons, List.take_zero, List.nil_append, List.cons_append, Nat.reduceAdd, List.drop_nil, List.take_nil, bld_1, bld_2, bld_3, bld_4, bld_5, bld_6, bld_7, bld_8, bld_9, bld_10, bld_11, bld_12, bld_13, bld_14, bld_15, bld_16, bld_17, bld_18]))
  all_goals (
    refine Gh.done (raft_fin z0 z1 z2 hk h1 h2 h3 h4 ?_)
    simp_all [followF]
    try omega)
end
end Go.Proofs.Ytdcpeboecmkmlaa
