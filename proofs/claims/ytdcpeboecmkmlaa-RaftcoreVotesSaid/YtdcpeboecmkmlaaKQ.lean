/-
  The document's node in memory; a new one.
-/
-- S2
import Derived.Test.YtdcpeboecmkmlaaKT
set_option linter.unusedSimpArgs false
set_option linter.unusedVariables false
namespace Go.Proofs.Ytdcpeboecmkmlaa
open Go.SL
set_option maxRecDepth 10000

abbrev qcells (r : RF) (z0 : Bool) (z1 z2 : Int) (lv stv ov : Value) : List Value :=
  [.int .i64 r.group, .int .i64 r.id, .int .i64 r.term, .int .i64 r.vote, lv, stv, .int .i64 r.role, .int .i64 r.leader, .int .i64 r.elapsed,
   .bool z0, .bool (r.vt 1), .bool (r.vt 2), .bool (r.vt 3), .bool (r.vt 4), .bool (r.vt 5),
   .int .i64 z1, .int .i64 (r.nx 1), .int .i64 (r.nx 2), .int .i64 (r.nx 3), .int .i64 (r.nx 4), .int .i64 (r.nx 5),
   .int .i64 z2, .int .i64 (r.mt 1), .int .i64 (r.mt 2), .int .i64 (r.mt 3), .int .i64 (r.mt 4), .int .i64 (r.mt 5), ov]
def RaftQ (I : Imm) (b : Nat) (X : LH) (r : RF) : Prop :=
  ∃ lb XL XO stv ov z0 z1 z2 oc, X = (b, Obj.cells (qcells r z0 z1 z2 (.pointer (some ⟨lb, 0, none⟩)) stv ov).toArray 147 (0, 0)) :: (XL ++ XO) ∧
    LogQ I lb XL r.g ∧ Bytes I stv r.st ∧ SlO 77 12 XO ov oc r.out.length ∧ Recs (MsgV I) 12 r.out oc
theorem RaftQ.mono {I I' : Imm} {b : Nat} {X : LH} {r : RF} (h : RaftQ I b X r) (hI : Ext I I') : RaftQ I' b X r := by
  obtain ⟨lb, XL, XO, stv, ov, z0, z1, z2, oc, hX, h1, h2, h3, h4⟩ := h
  exact ⟨lb, XL, XO, stv, ov, z0, z1, z2, oc, hX, h1.mono hI, h2.mono hI, h3, h4.imp fun _ _ h => h.mono hI⟩
section
variable {ω : Om} {I : Imm} {L : LH} {K : Value → M}

instance (priority := 2000) subNilL (L' L : LH) [h : SubP L' L] : SubP ([] ++ L') L := ⟨by simpa using h.sub⟩
theorem raftq_fin {b lb : Nat} {XL XO F : LH} {v stv ov : Value} {oc : List Value} {r : RF} {cs : Array Value} (z0 : Bool) (z1 z2 : Int) (hk : ∀ X', RaftQ I b X' r → K v I (X' ++ F)) (h1 : LogQ I lb XL r.g) (h2 : Bytes I stv r.st)
    (h3 : SlO 77 12 XO ov oc r.out.length) (h4 : Recs (MsgV I) 12 r.out oc) (hc : cs = (qcells r z0 z1 z2 (.pointer (some ⟨lb, 0, none⟩)) stv ov).toArray) : K v I ((b, Obj.cells cs 147 (0, 0)) :: (XL ++ (XO ++ F))) := by
  subst hc
  have := hk ((b, Obj.cells (qcells r z0 z1 z2 (.pointer (some ⟨lb, 0, none⟩)) stv ov).toArray 147 (0, 0)) :: (XL ++ XO)) ⟨lb, XL, XO, stv, ov, z0, z1, z2, oc, rfl, h1, h2, h3, h4⟩
  simpa only [List.cons_append, List.append_assoc] using this
theorem raftq_end {b lb : Nat} {XL XO F R : LH} {v stv ov : Value} {oc : List Value} {r : RF} {cs : Array Value} [hp : PickB b L (Obj.cells cs 147 (0, 0)) R] [hs : SubP (XL ++ (XO ++ F)) R] (z0 : Bool) (z1 z2 : Int) (hk : ∀ X', RaftQ I b X' r → K v I (X' ++ F)) (h1 : LogQ I lb XL r.g) (h2 : Bytes I stv r.st)
    (h3 : SlO 77 12 XO ov oc r.out.length) (h4 : Recs (MsgV I) 12 r.out oc) (hc : cs = (qcells r z0 z1 z2 (.pointer (some ⟨lb, 0, none⟩)) stv ov).toArray) : Gh (K v) I L :=
  Gh.pick b (XL ++ (XO ++ F)) (Gh.done (raftq_fin z0 z1 z2 hk h1 h2 h3 h4 hc))
/-- a call on a node -/
theorem raftq_cal {f : FuncId} {args : Array Value} {lb : Nat} {XL XO R : LH} (b : Nat) (F : LH) {stv ov : Value} {oc : List Value} {r : RF} {cs : Array Value} [hp : PickB b L (Obj.cells cs 147 (0, 0)) R] [hs : SubP (XL ++ (XO ++ F)) R] (z0 : Bool) (z1 z2 : Int) (h1 : LogQ I lb XL r.g) (h2 : Bytes I stv r.st)
    (h3 : SlO 77 12 XO ov oc r.out.length) (h4 : Recs (MsgV I) 12 r.out oc) (hc : cs = (qcells r z0 z1 z2 (.pointer (some ⟨lb, 0, none⟩)) stv ov).toArray)
    (h : ∀ X, RaftQ I b X r → Cal Try.prog ω f args K I (X ++ F)) : Cal Try.prog ω f args K I L := by
  refine Cal.pick b ?_
  subst hc
  have := h ((b, Obj.cells (qcells r z0 z1 z2 (.pointer (some ⟨lb, 0, none⟩)) stv ov).toArray 147 (0, 0)) :: (XL ++ XO)) ⟨lb, XL, XO, stv, ov, z0, z1, z2, oc, rfl, h1, h2, h3, h4⟩
  obtain ⟨R', hR⟩ := hs.sub
  refine Cal.perm (List.Perm.cons _ hR) ?_
  refine Cal.drop (L' := (b, Obj.cells (qcells r z0 z1 z2 (.pointer (some ⟨lb, 0, none⟩)) stv ov).toArray 147 (0, 0)) :: (XL ++ (XO ++ F))) (List.Sublist.cons_cons _ (List.sublist_append_left _ _)) ?_
  simpa only [List.cons_append, List.append_assoc] using this

/-- append([]byte{}, b...) -/
theorem copyB {v : Value} {l : List UInt8} {K : Value → M} (h : Bytes I v l) (hl : l.length ≤ 150000000000000) (hk : ∀ a c I', Ext I I' → Bytes I' (.slice a l.length c) l → Gh (K (.slice a l.length c)) I' L) :
    BldS 5 1 #[(Value.int .u8 0)] 0 [] (gh fun u => App 5 1 1 #[(Value.int .u8 0)] u v (gh K)) I L := by
  refine bld_zero (fun X u hX => ?_)
  refine app_ownG rfl hX (SlI.news h) (u8s_one _) (by omega) (by omega) (fun X' v' hX' => ?_)
  obtain ⟨a, c, rfl⟩ := hX'.form
  refine SlO.freeze hX' (fun I' hI hS => ?_)
  have hS' : Bytes I' (.slice a (0 + l.length) c) l := by simpa [Bytes] using hS
  rw [Nat.zero_add] at hS' ⊢
  exact hk a c I' hI hS'

theorem rnew11_spec {lb : Nat} {X F : LH} {g : LG} {sv : Value} {group id term vote : Int} {st : List UInt8} (h : LogQ I lb X g) (hw : WF g) (hs : Bytes I sv st) (hsl : st.length < 4611686018427387904)
    (hk0 : newOk group id term vote g st = false → K (.tuple #[.pointer none, .int .i64 1]) I (X ++ F))
    (hk1 : newOk group id term vote g st = true → ∀ b Y I', Ext I I' → RaftQ I' b Y (newF group id term vote g st) → K (.tuple #[.pointer (some ⟨b, 0, none⟩), .int .i64 0]) I' (Y ++ (X ++ F))) :
    Cal Try.prog ω 85 #[.int .i64 group, .int .i64 id, .int .i64 term, .int .i64 vote, .pointer (some ⟨lb, 0, none⟩), sv] K I (X ++ F) := by
  have hln := Bytes.len hs
  have hlen := hw.len
  refine cal85 ?_
  unfold sh85
  refine call (rnode_spec ?_)
  refine call (rcount_spec ?_)
  refine call (rnode_spec ?_)
  refine call (rlastTerm_spec h.viewF hw.sz ?_)
  repeat' (first | (with_reducible refine drawC ?_) | (with_reducible refine drawW1 ?_) | (with_reducible refine drawW2 ?_) | (with_reducible refine keepC (by repeat (first | exact Ext.refl _ | assumption | refine Ext.trans ?_ (by assumption))) ?_) | (with_reducible refine newI (fun _ => ?_)) | ((with_reducible refine call ?_); refine (rcopy_spec h hlen (fun b' Y I1 hI1 hY => ?_))) | first | (with_reducible refine rdb ?_) | ((with_reducible refine st1 ?_ ?_); rfl) | ((with_reducible refine rdB ?_ ?_); rfl) | (with_reducible refine rdbS ?_) | ((with_reducible refine rdBS ?_ ?_); rfl) | ((with_reducible refine stB ?_ ?_ ?_ ?_); rfl; rfl; exact one_all rfl) | ((with_reducible refine rdP _ rfl ?_ ?_); rfl) | ((with_reducible refine rdPS _ rfl ?_ ?_); rfl) | ((with_reducible refine stP _ rfl ?_ ?_ ?_ ?_); rfl; rfl; rfl) | (with_reducible refine And.intro ?_ ?_) | (simp only [Bool.not_true, Bool.not_false, Bool.and_self, Bool.true_and, Int.reduceBEq, Int.reduceBNe, Int.reduceLT, Int.reduceLE, decide_true, decide_false, Br_true, Br_false, Gd_tt, Gd_ft, Gd_tf, Gd_ff, beq_self_eq_true, bne_self_eq_false]) | (with_reducible refine gd_split (fun _ => ?_) (fun _ => ?_)) | (with_reducible refine br_split (fun _ => ?_) (fun _ => ?_)) | (simp only [Pv_some, fldV_p, nilV_p, nilV_f, lenV_s, capV_s, sLen, minV_i, maxV_i, strV_s, unV_not, unV_neg, pickV_t, pickV_f, exV_t, cvIV_i, binI_add, binI_sub, binI_mul, binI_eql, binI_neq, binI_lss, binI_leq, binI_gtr, binI_geq, binI_and, binI_or, binB_eql, binB_neq, sEq, sNe, sLt, sLe, sGt, sGe, stampEq, stampNe, fldv_agg, fldv_one, binP_eql_nil, binP_neq_nil, binN_eql_nil, binN_neq_nil, binN_eql_nn, binN_neq_nn, Br_true, Br_false, Gd_tt, Gd_ft, Gd_tf, Gd_ff, cells_agg, List.getElem?_toArray, List.getElem?_cons_zero, List.getElem?_cons_succ, Nat.zero_add, Nat.add_zero, Nat.zero_mul, List.drop_succ_cons, List.drop_zero, List.take_succ_cons, List.take_zero, List.nil_append, List.cons_append, Nat.reduceAdd, List.drop_nil, List.take_nil, bld_1, bld_2, bld_3, bld_4, bld_5, bld_6, bld_7, bld_8, bld_9, bld_10, bld_11, bld_12, bld_13, bld_14, bld_15, bld_16, bld_17, bld_18, hln]))
  all_goals first
    | (refine Gh.done (hk0 ?_); clear hk0 hk1 h hs hw; rw [Bool.eq_false_iff]; simp_all [newOk]; done)
    | (refine Gh.done (hk0 ?_); clear hk0 hk1 h hs hw; rw [Bool.eq_false_iff]; simp_all [newOk]; omega)
    | skip
  all_goals (
    have hok : newOk group id term vote g st = true := by
      clear hk0 hk1 h hs hw
      simp_all [newOk]
      try omega
    have hst : st.length ≤ 60000 := by simp only [newOk, Bool.and_eq_true, decide_eq_true_eq] at hok; exact hok.2)
  all_goals (
    refine copyB (hs.mono hI1) (by omega) (fun a c I2 hI2 hst' => Gh.done ?_)
    repeat' (first | (with_reducible refine drawC ?_) | (with_reducible refine drawW1 ?_) | (with_reducible refine drawW2 ?_) | (with_reducible refine keepC (by repeat (first | exact Ext.refl _ | assumption | refine Ext.trans ?_ (by assumption))) ?_) | (with_reducible refine newI (fun _ => ?_)) | first | (with_reducible refine rdb ?_) | ((with_reducible refine st1 ?_ ?_); rfl) | ((with_reducible refine rdB ?_ ?_); rfl) | (with_reducible refine rdbS ?_) | ((with_reducible refine rdBS ?_ ?_); rfl) | ((with_reducible refine stB ?_ ?_ ?_ ?_); rfl; rfl; exact one_all rfl) | ((with_reducible refine rdP _ rfl ?_ ?_); rfl) | ((with_reducible refine rdPS _ rfl ?_ ?_); rfl) | ((with_reducible refine stP _ rfl ?_ ?_ ?_ ?_); rfl; rfl; rfl) | (with_reducible refine And.intro ?_ ?_) | (simp only [Bool.not_true, Bool.not_false, Bool.and_self, Bool.true_and, Int.reduceBEq, Int.reduceBNe, Int.reduceLT, Int.reduceLE, decide_true, decide_false, Br_true, Br_false, Gd_tt, Gd_ft, Gd_tf, Gd_ff, beq_self_eq_true, bne_self_eq_false]) | (with_reducible refine gd_split (fun _ => ?_) (fun _ => ?_)) | (with_reducible refine br_split (fun _ => ?_) (fun _ => ?_)) | (simp only [Pv_some, fldV_p, nilV_p, nilV_f, lenV_s, capV_s, sLen, minV_i, maxV_i, strV_s, unV_not, unV_neg, pickV_t, pickV_f, exV_t, cvIV_i, binI_add, binI_sub, binI_mul, binI_eql, binI_neq, binI_lss, binI_leq, binI_gtr, binI_geq, binI_and, binI_or, binB_eql, binB_neq, sEq, sNe, sLt, sLe, sGt, sGe, stampEq, stampNe, fldv_agg, fldv_one, binP_eql_nil, binP_neq_nil, binN_eql_nil, binN_neq_nil, binN_eql_nn, binN_neq_nn, Br_true, Br_false, Gd_tt, Gd_ft, Gd_tf, Gd_ff, cells_agg, List.getElem?_toArray, List.getElem?_cons_zero, List.getElem?_cons_succ, Nat.zero_add, Nat.add_zero, Nat.zero_mul, List.drop_succ_cons, List.drop_zero, List.take_succ_cons, List.take_zero, List.nil_append, List.cons_append, Nat.reduceAdd, List.drop_nil, List.take_nil, bld_1, bld_2, bld_3, bld_4, bld_5, bld_6, bld_7, bld_8, bld_9, bld_10, bld_11, bld_12, bld_13, bld_14, bld_15, bld_16, bld_17, bld_18]))
    have hY2 := hY.mono hI2
    exact raftq_end (XL := Y) (XO := []) (F := X ++ F) (oc := []) (r := newF group id term vote g st) false 0 0 (fun X' h' => hk1 hok _ X' I2 (hI1.trans hI2) h') hY2 hst' (SlO.none _ _) rfl rfl)
end
end Go.Proofs.Ytdcpeboecmkmlaa
