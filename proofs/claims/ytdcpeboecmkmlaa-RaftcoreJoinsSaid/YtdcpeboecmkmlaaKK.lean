/-
  The program's node: messages.
-/
-- S3
import Derived.Test.YtdcpeboecmkmlaaKI
set_option linter.unusedSimpArgs false
set_option linter.unusedVariables false
namespace Go.Proofs.Ytdcpeboecmkmlaa
open Go.SL
set_option maxRecDepth 10000

theorem updI_same {α : Type} (f : Int → α) (p : Int) (v : α) : updI f p v p = v := by simp [updI]
section
variable {ω : Om} {I : Imm} {L : LH} {K : Value → M}

theorem refuse_spec {b : Nat} {X F : LH} {r : RF} {m : RM} {c : List Value} (h : RaftR I b X r) (hm : MsgV I m c) (hl : r.out.length ≤ 1000)
    (hk : ∀ X', RaftR I b X' (refuseF r m) → K (.tuple #[]) I (X' ++ F)) : Cal Try.prog ω 92 #[.pointer (some ⟨b, 0, none⟩), .agg c.toArray] K I (X ++ F) := by
  obtain ⟨a0, p0, a1, p1, a2, p2, rfl, hE, hM, hD⟩ := hm.form
  refine cal92 ?_
  unfold sh92
  have done : ∀ (m1 : Nat) (o : Obj), RaftR I b X (refuseF r m) → Gh (K (.tuple #[])) I ((m1, o) :: (X ++ F)) := fun m1 o hX => Gh.to (X ++ F) (Gh.done (hk X hX))
  repeat' (first | (with_reducible refine drawC ?_) | (with_reducible refine drawW1 ?_) | (with_reducible refine drawW2 ?_) | (with_reducible refine keepC (by repeat (first | exact Ext.refl _ | assumption | refine Ext.trans ?_ (by assumption))) ?_) | (with_reducible refine newI (fun _ => ?_)) | first | (with_reducible refine rdb ?_) | ((with_reducible refine st1 ?_ ?_); rfl) | ((with_reducible refine rdB ?_ ?_); rfl) | (with_reducible refine rdbS ?_) | ((with_reducible refine rdBS ?_ ?_); rfl) | ((with_reducible refine stB ?_ ?_ ?_ ?_); rfl; rfl; exact one_all rfl) | ((with_reducible refine rdP _ rfl ?_ ?_); rfl) | ((with_reducible refine rdPS _ rfl ?_ ?_); rfl) | ((with_reducible refine stP _ rfl ?_ ?_ ?_ ?_); rfl; rfl; rfl) | (with_reducible refine unfE (sh92_2.eq_1 ..) ?_) | (with_reducible refine unfE (sh92.eq_1 ..) ?_) | (with_reducible refine And.intro ?_ ?_) | (simp only [Bool.not_true, Bool.not_false, Bool.and_self, Bool.true_and, Int.reduceBEq, Int.reduceBNe, Int.reduceLT, Int.reduceLE, decide_true, decide_false, Br_true, Br_false, Gd_tt, Gd_ft, Gd_tf, Gd_ff, beq_self_eq_true, bne_self_eq_false]) | (with_reducible refine gd_split (fun _ => ?_) (fun _ => ?_)) | (with_reducible refine br_split (fun _ => ?_) (fun _ => ?_)) | (simp only [SSd, List.getElem?_toArray, List.getElem?_cons_zero, List.getElem?_cons_succ, Nat.zero_add, Nat.add_zero, Nat.zero_mul, List.drop_succ_cons, List.drop_zero, List.take_succ_cons, List.take_zero, List.nil_append, List.cons_append, Nat.reduceAdd, List.drop_nil, List.take_nil]))
  all_goals first
    | (refine call (Cal.to (X ++ F) (send_spec (m := votedM m false) h ⟨_, _, _, rfl, RL.nil _ _, SlI.nil _ _ _ _, SlI.nil _ _ _ _⟩ hl (fun X' hX' => Gh.done (hk X' ?_))))
       rw [refuseF, if_pos (by simp_all)]; exact hX')
    | (refine call (Cal.to (X ++ F) (send_spec (m := doneM m false 0) h ⟨_, _, _, rfl, RL.nil _ _, SlI.nil _ _ _ _, SlI.nil _ _ _ _⟩ hl (fun X' hX' => Gh.done (hk X' ?_))))
       rw [refuseF, if_neg (by simp_all), if_pos (by simp_all)]; exact hX')
    | (refine done _ _ ?_
       rw [refuseF, if_neg (by simp_all), if_neg (by simp_all)]; exact h)

theorem asked_spec {b : Nat} {X F : LH} {r : RF} {m : RM} {c : List Value} (h : RaftR I b X r) (hw : WF r.g) (hm : MsgV I m c) (hl : r.out.length ≤ 1000)
    (hk : ∀ X', RaftR I b X' (askedF r m) → K (.tuple #[]) I (X' ++ F)) : Cal Try.prog ω 93 #[.pointer (some ⟨b, 0, none⟩), .agg c.toArray] K I (X ++ F) := by
  obtain ⟨lb, XL, XO, stv, ov, z0, z1, z2, oc, rfl, h1, h2, h3, h4⟩ := h
  obtain ⟨a0, p0, a1, p1, a2, p2, rfl, hE, hM, hD⟩ := hm.form
  refine cal93 ?_
  unfold sh93
  simp only [List.cons_append, List.append_assoc]
  have fin : ∀ (m1 : Nat) (r' : RF) (yes : Bool), grantB r m = yes → r'.g = r.g → r'.st = r.st → r'.out = r.out → sendF r' (votedM m yes) = askedF r m →
      sh93_1 ω (.pointer (some ⟨b, 0, none⟩)) (.pointer (some ⟨m1, 0, none⟩)) (.bool yes) (fun v => Gh (K v)) I ((m1, Obj.cells #[.int .i64 m.kind, .int .i64 m.group, .int .i64 m.frm, .int .i64 m.to, .int .i64 m.term, .int .i64 m.index, .int .i64 m.lterm, .int .i64 m.commit, .bool m.ok, .slice a0 m.ents.length p0, .slice a1 m.mem.length p1, .slice a2 m.data.length p2] 77 (0, 0)) ::
        (b, Obj.cells (rcells r' z0 z1 z2 (.pointer (some ⟨lb, 0, none⟩)) stv ov).toArray 131 (0, 0)) :: (XL ++ (XO ++ F))) := by
    intro m1 r' yes hy e1 e2 e3 e4
    unfold sh93_1
    repeat' (first | (with_reducible refine drawC ?_) | (with_reducible refine drawW1 ?_) | (with_reducible refine drawW2 ?_) | (with_reducible refine keepC (by repeat (first | exact Ext.refl _ | assumption | refine Ext.trans ?_ (by assumption))) ?_) | (with_reducible refine newI (fun _ => ?_)) | first | (with_reducible refine rdb ?_) | ((with_reducible refine st1 ?_ ?_); rfl) | ((with_reducible refine rdB ?_ ?_); rfl) | (with_reducible refine rdbS ?_) | ((with_reducible refine rdBS ?_ ?_); rfl) | ((with_reducible refine stB ?_ ?_ ?_ ?_); rfl; rfl; exact one_all rfl) | ((with_reducible refine rdP _ rfl ?_ ?_); rfl) | ((with_reducible refine rdPS _ rfl ?_ ?_); rfl) | ((with_reducible refine stP _ rfl ?_ ?_ ?_ ?_); rfl; rfl; rfl) | (with_reducible refine And.intro ?_ ?_) | (simp only [Bool.not_true, Bool.not_false, Bool.and_self, Bool.true_and, Int.reduceBEq, Int.reduceBNe, Int.reduceLT, Int.reduceLE, decide_true, decide_false, Br_true, Br_false, Gd_tt, Gd_ft, Gd_tf, Gd_ff, beq_self_eq_true, bne_self_eq_false]) | (with_reducible refine gd_split (fun _ => ?_) (fun _ => ?_)) | (with_reducible refine br_split (fun _ => ?_) (fun _ => ?_)) | (simp only [SSd, List.getElem?_toArray, List.getElem?_cons_zero, List.getElem?_cons_succ, Nat.zero_add, Nat.add_zero, Nat.zero_mul, List.drop_succ_cons, List.drop_zero, List.take_succ_cons, List.take_zero, List.nil_append, List.cons_append, Nat.reduceAdd, List.drop_nil, List.take_nil]))
    refine call (raft_cal (r := r') b F z0 z1 z2 (by rw [e1]; exact h1) (by rw [e2]; exact h2) (by rw [e3]; exact h3) (by rw [e3]; exact h4) rfl (fun X hX => ?_))
    refine send_spec (m := votedM m yes) hX ⟨_, _, _, rfl, RL.nil _ _, SlI.nil _ _ _ _, SlI.nil _ _ _ _⟩ (by rw [e3]; exact hl) (fun X' hX' => Gh.done (hk X' ?_))
    rw [← e4]; exact hX'
  have fin2 : ∀ (m1 : Nat), grantB r m = true →
      sh93_2 ω (.pointer (some ⟨b, 0, none⟩)) (.pointer (some ⟨m1, 0, none⟩)) (.bool true) (fun v => Gh (K v)) I ((m1, Obj.cells #[.int .i64 m.kind, .int .i64 m.group, .int .i64 m.frm, .int .i64 m.to, .int .i64 m.term, .int .i64 m.index, .int .i64 m.lterm, .int .i64 m.commit, .bool m.ok, .slice a0 m.ents.length p0, .slice a1 m.mem.length p1, .slice a2 m.data.length p2] 77 (0, 0)) ::
        (b, Obj.cells (rcells r z0 z1 z2 (.pointer (some ⟨lb, 0, none⟩)) stv ov).toArray 131 (0, 0)) :: (XL ++ (XO ++ F))) := by
    intro m1 hy
    unfold sh93_2
    repeat' (first | (with_reducible refine drawC ?_) | (with_reducible refine drawW1 ?_) | (with_reducible refine drawW2 ?_) | (with_reducible refine keepC (by repeat (first | exact Ext.refl _ | assumption | refine Ext.trans ?_ (by assumption))) ?_) | (with_reducible refine newI (fun _ => ?_)) | first | (with_reducible refine rdb ?_) | ((with_reducible refine st1 ?_ ?_); rfl) | ((with_reducible refine rdB ?_ ?_); rfl) | (with_reducible refine rdbS ?_) | ((with_reducible refine rdBS ?_ ?_); rfl) | ((with_reducible refine stB ?_ ?_ ?_ ?_); rfl; rfl; exact one_all rfl) | ((with_reducible refine rdP _ rfl ?_ ?_); rfl) | ((with_reducible refine rdPS _ rfl ?_ ?_); rfl) | ((with_reducible refine stP _ rfl ?_ ?_ ?_ ?_); rfl; rfl; rfl) | (with_reducible refine And.intro ?_ ?_) | (simp only [Bool.not_true, Bool.not_false, Bool.and_self, Bool.true_and, Int.reduceBEq, Int.reduceBNe, Int.reduceLT, Int.reduceLE, decide_true, decide_false, Br_true, Br_false, Gd_tt, Gd_ft, Gd_tf, Gd_ff, beq_self_eq_true, bne_self_eq_false]) | (with_reducible refine gd_split (fun _ => ?_) (fun _ => ?_)) | (with_reducible refine br_split (fun _ => ?_) (fun _ => ?_)) | (simp only [SSd, List.getElem?_toArray, List.getElem?_cons_zero, List.getElem?_cons_succ, Nat.zero_add, Nat.add_zero, Nat.zero_mul, List.drop_succ_cons, List.drop_zero, List.take_succ_cons, List.take_zero, List.nil_append, List.cons_append, Nat.reduceAdd, List.drop_nil, List.take_nil]))
    exact fin _ { r with vote := m.frm, elapsed := 0 } true hy rfl rfl rfl (by rw [askedF, hy]; rfl)
  have fin1 : ∀ (m1 : Nat), grantB r m = false →
      sh93_1 ω (.pointer (some ⟨b, 0, none⟩)) (.pointer (some ⟨m1, 0, none⟩)) (.bool false) (fun v => Gh (K v)) I ((m1, Obj.cells #[.int .i64 m.kind, .int .i64 m.group, .int .i64 m.frm, .int .i64 m.to, .int .i64 m.term, .int .i64 m.index, .int .i64 m.lterm, .int .i64 m.commit, .bool m.ok, .slice a0 m.ents.length p0, .slice a1 m.mem.length p1, .slice a2 m.data.length p2] 77 (0, 0)) ::
        (b, Obj.cells (rcells r z0 z1 z2 (.pointer (some ⟨lb, 0, none⟩)) stv ov).toArray 131 (0, 0)) :: (XL ++ (XO ++ F))) :=
    fun m1 hy => fin _ r false hy rfl rfl rfl (by rw [askedF, hy]; rfl)
  repeat' (first | (with_reducible refine drawC ?_) | (with_reducible refine drawW1 ?_) | (with_reducible refine drawW2 ?_) | (with_reducible refine keepC (by repeat (first | exact Ext.refl _ | assumption | refine Ext.trans ?_ (by assumption))) ?_) | (with_reducible refine newI (fun _ => ?_)) | ((with_reducible refine call ?_); refine (newer_spec h1.view hw ?_)) | first | (with_reducible refine rdb ?_) | ((with_reducible refine st1 ?_ ?_); rfl) | ((with_reducible refine rdB ?_ ?_); rfl) | (with_reducible refine rdbS ?_) | ((with_reducible refine rdBS ?_ ?_); rfl) | ((with_reducible refine stB ?_ ?_ ?_ ?_); rfl; rfl; exact one_all rfl) | ((with_reducible refine rdP _ rfl ?_ ?_); rfl) | ((with_reducible refine rdPS _ rfl ?_ ?_); rfl) | ((with_reducible refine stP _ rfl ?_ ?_ ?_ ?_); rfl; rfl; rfl) | (with_reducible refine And.intro ?_ ?_) | (simp only [Bool.not_true, Bool.not_false, Bool.and_self, Bool.true_and, Int.reduceBEq, Int.reduceBNe, Int.reduceLT, Int.reduceLE, decide_true, decide_false, Br_true, Br_false, Gd_tt, Gd_ft, Gd_tf, Gd_ff, beq_self_eq_true, bne_self_eq_false]) | (with_reducible refine gd_split (fun _ => ?_) (fun _ => ?_)) | (with_reducible refine br_split (fun _ => ?_) (fun _ => ?_)) | (simp only [SSd, List.getElem?_toArray, List.getElem?_cons_zero, List.getElem?_cons_succ, Nat.zero_add, Nat.add_zero, Nat.zero_mul, List.drop_succ_cons, List.drop_zero, List.take_succ_cons, List.take_zero, List.nil_append, List.cons_append, Nat.reduceAdd, List.drop_nil, List.take_nil]))
  all_goals first
    | (rename_i hn; rw [hn]; exact fin2 _ (by clear fin fin1 fin2 hk hE hM hD h1 h2 h3 h4 hm; simp_all [grantB]))
    | (rename_i hn; rw [hn]; exact fin1 _ (by clear fin fin1 fin2 hk hE hM hD h1 h2 h3 h4 hm; simp_all [grantB]))
    | exact fin1 _ (by clear fin fin1 fin2 hk hE hM hD h1 h2 h3 h4 hm; simp_all [grantB])

theorem hear_spec {b : Nat} {X F : LH} {r : RF} {p : Int} (h : RaftR I b X r) (hk0 : r.role = 3 → K (.bool false) I (X ++ F)) (hk1 : r.role ≠ 3 → ∀ X', RaftR I b X' (hearF r p) → K (.bool true) I (X' ++ F)) :
    Cal Try.prog ω 124 #[.pointer (some ⟨b, 0, none⟩), .int .i64 p] K I (X ++ F) := by
  obtain ⟨lb, XL, XO, stv, ov, z0, z1, z2, oc, rfl, h1, h2, h3, h4⟩ := h
  simp only [List.cons_append, List.append_assoc] at *
  refine cal124 ?_
  unfold sh124
  repeat' (first | (with_reducible refine drawC ?_) | (with_reducible refine drawW1 ?_) | (with_reducible refine drawW2 ?_) | (with_reducible refine keepC (by repeat (first | exact Ext.refl _ | assumption | refine Ext.trans ?_ (by assumption))) ?_) | (with_reducible refine newI (fun _ => ?_)) | first | (with_reducible refine rdb ?_) | ((with_reducible refine st1 ?_ ?_); rfl) | ((with_reducible refine rdB ?_ ?_); rfl) | (with_reducible refine rdbS ?_) | ((with_reducible refine rdBS ?_ ?_); rfl) | ((with_reducible refine stB ?_ ?_ ?_ ?_); rfl; rfl; exact one_all rfl) | ((with_reducible refine rdP _ rfl ?_ ?_); rfl) | ((with_reducible refine rdPS _ rfl ?_ ?_); rfl) | ((with_reducible refine stP _ rfl ?_ ?_ ?_ ?_); rfl; rfl; rfl) | (with_reducible refine And.intro ?_ ?_) | (simp only [Bool.not_true, Bool.not_false, Bool.and_self, Bool.true_and, Int.reduceBEq, Int.reduceBNe, Int.reduceLT, Int.reduceLE, decide_true, decide_false, Br_true, Br_false, Gd_tt, Gd_ft, Gd_tf, Gd_ff, beq_self_eq_true, bne_self_eq_false]) | (with_reducible refine gd_split (fun _ => ?_) (fun _ => ?_)) | (with_reducible refine br_split (fun _ => ?_) (fun _ => ?_)) | (simp only [SSd, List.getElem?_toArray, List.getElem?_cons_zero, List.getElem?_cons_succ, Nat.zero_add, Nat.add_zero, Nat.zero_mul, List.drop_succ_cons, List.drop_zero, List.take_succ_cons, List.take_zero, List.nil_append, List.cons_append, Nat.reduceAdd, List.drop_nil, List.take_nil]))
  · exact Gh.done (hk0 (by simp_all))
  · exact raft_end (r := hearF r p) (F := F) z0 z1 z2 (fun X' h' => hk1 (by simp_all) X' h') h1 h2 h3 h4 rfl
end
end Go.Proofs.Ytdcpeboecmkmlaa

namespace Go.Proofs.Ytdcpeboecmkmlaa
open Go.SL
set_option maxRecDepth 10000

abbrev mcells (m : RM) (ev mv dv : Value) : List Value := [.int .i64 m.kind, .int .i64 m.group, .int .i64 m.frm, .int .i64 m.to, .int .i64 m.term, .int .i64 m.index, .int .i64 m.lterm, .int .i64 m.commit, .bool m.ok, ev, mv, dv]
section
variable {ω : Om} {I : Imm} {L : LH} {K : Value → M}

theorem append_spec {b E B : Nat} {X F : LH} {r : RF} {m : RM} {c : List Value} (h : RaftR I b X r) (hw : RWF E B r) (hE : (E + 64) * 48 ≤ 150000000000000) (hm : MsgV I m c) (hr : RB m) (hl : r.out.length ≤ 1000)
    (hk : ∀ X' I', Ext I I' → RaftR I' b X' (if r.role = 3 then r else appendF r m) → K (.tuple #[]) I' (X' ++ F)) : Cal Try.prog ω 95 #[.pointer (some ⟨b, 0, none⟩), .agg c.toArray] K I (X ++ F) := by
  obtain ⟨a0, p0, a1, p1, a2, p2, rfl, hEn, hM, hD⟩ := hm.form
  refine cal95 ?_
  unfold sh95
  refine newI (fun m1 => ?_)
  try simp only [SSd, List.getElem?_toArray, List.getElem?_cons_zero, List.getElem?_cons_succ, Nat.zero_add, Nat.add_zero, Nat.zero_mul, List.drop_succ_cons, List.drop_zero, List.take_succ_cons, List.take_zero, List.nil_append, List.cons_append, Nat.reduceAdd, List.drop_nil, List.take_nil]
  refine rdb ?_
  have hlen := hw.len
  have hnum := hr.num
  have hidx := hr.idx
  refine call (Cal.split X (hear_spec (F := (m1, Obj.cells (mcells m (.slice a0 m.ents.length p0) (.slice a1 m.mem.length p1) (.slice a2 m.data.length p2)).toArray 77 (0, 0)) :: F) h (fun h3 => ?_) (fun hn3 X' hX' => ?_)))
  · try simp only [SSd, List.getElem?_toArray, List.getElem?_cons_zero, List.getElem?_cons_succ, Nat.zero_add, Nat.add_zero, Nat.zero_mul, List.drop_succ_cons, List.drop_zero, List.take_succ_cons, List.take_zero, List.nil_append, List.cons_append, Nat.reduceAdd, List.drop_nil, List.take_nil]
    rw [if_pos h3] at hk
    exact Gh.to (X ++ F) (Gh.done (hk X I (Ext.refl I) h))
  rw [if_neg hn3] at hk
  try simp only [SSd, List.getElem?_toArray, List.getElem?_cons_zero, List.getElem?_cons_succ, Nat.zero_add, Nat.add_zero, Nat.zero_mul, List.drop_succ_cons, List.drop_zero, List.take_succ_cons, List.take_zero, List.nil_append, List.cons_append, Nat.reduceAdd, List.drop_nil, List.take_nil]
  obtain ⟨lb, XL, XO, stv, ov, z0, z1, z2, oc, rfl, h1, h2, h3, h4⟩ := hX'
  simp only [List.cons_append, List.append_assoc]
  repeat' (first | (with_reducible refine drawC ?_) | (with_reducible refine drawW1 ?_) | (with_reducible refine drawW2 ?_) | (with_reducible refine keepC (by repeat (first | exact Ext.refl _ | assumption | refine Ext.trans ?_ (by assumption))) ?_) | (with_reducible refine newI (fun _ => ?_)) | first | (with_reducible refine rdb ?_) | ((with_reducible refine st1 ?_ ?_); rfl) | ((with_reducible refine rdB ?_ ?_); rfl) | (with_reducible refine rdbS ?_) | ((with_reducible refine rdBS ?_ ?_); rfl) | ((with_reducible refine stB ?_ ?_ ?_ ?_); rfl; rfl; exact one_all rfl) | ((with_reducible refine rdP _ rfl ?_ ?_); rfl) | ((with_reducible refine rdPS _ rfl ?_ ?_); rfl) | ((with_reducible refine stP _ rfl ?_ ?_ ?_ ?_); rfl; rfl; rfl) | (with_reducible refine And.intro ?_ ?_) | (simp only [Bool.not_true, Bool.not_false, Bool.and_self, Bool.true_and, Int.reduceBEq, Int.reduceBNe, Int.reduceLT, Int.reduceLE, decide_true, decide_false, Br_true, Br_false, Gd_tt, Gd_ft, Gd_tf, Gd_ff, beq_self_eq_true, bne_self_eq_false]) | (with_reducible refine gd_split (fun _ => ?_) (fun _ => ?_)) | (with_reducible refine br_split (fun _ => ?_) (fun _ => ?_)) | (simp only [SSd, List.getElem?_toArray, List.getElem?_cons_zero, List.getElem?_cons_succ, Nat.zero_add, Nat.add_zero, Nat.zero_mul, List.drop_succ_cons, List.drop_zero, List.take_succ_cons, List.take_zero, List.nil_append, List.cons_append, Nat.reduceAdd, List.drop_nil, List.take_nil]))
  have hg : (hearF r m.frm).g = r.g := rfl
  rw [hg] at h1
  refine callG (Cal.split XL (offer_spec h1 hw.wf hEn (by unfold inI64; omega) (by omega) (fun XL' I1 hI1 hL' => ?_)))
  generalize ho : offerG r.g m.index m.lterm m.ents = o at *
  have e : appendF r m = if o.2.2.1 ≠ 0 then { hearF r m.frm with g := o.2.2.2 } else sendF (if o.2.1 then settleF { hearF r m.frm with g := o.2.2.2 } (min m.commit o.1) else { hearF r m.frm with g := o.2.2.2 }) (doneM m o.2.1 o.1) := by
    rw [← ho]; rfl
  rw [e] at hk
  have hwo : WF o.2.2.2 := by rw [← ho]; exact offer_wf hw.wf (by omega)
  have h2' := h2.mono hI1
  have h4' := h4.imp fun _ _ h => h.mono hI1
  refine Gh.pick m1 ((b, Obj.cells (rcells (hearF r m.frm) z0 z1 z2 (.pointer (some ⟨lb, 0, none⟩)) stv ov).toArray 131 (0, 0)) :: (XL' ++ (XO ++ F))) (Gh.done ?_)
  try simp only [SSd, List.getElem?_toArray, List.getElem?_cons_zero, List.getElem?_cons_succ, Nat.zero_add, Nat.add_zero, Nat.zero_mul, List.drop_succ_cons, List.drop_zero, List.take_succ_cons, List.take_zero, List.nil_append, List.cons_append, Nat.reduceAdd, List.drop_nil, List.take_nil]
  refine br_split (fun he => ?_) (fun he => ?_)
  · simp at he
    rw [if_pos he] at hk
    exact raft_end (r := { hearF r m.frm with g := o.2.2.2 }) (F := F) z0 z1 z2 (fun X' h' => hk X' I1 hI1 h') hL' h2' h3 h4' rfl
  simp at he
  rw [if_neg (by simp [he])] at hk
  have fin : ∀ (XL : LH) (r' : RF) (I2 : Imm), Ext I1 I2 → LogR I2 lb XL r'.g → r'.st = r.st → r'.out = r.out → rcells r' z0 z1 z2 (.pointer (some ⟨lb, 0, none⟩)) stv ov = rcells (hearF r m.frm) z0 z1 z2 (.pointer (some ⟨lb, 0, none⟩)) stv ov →
      (∀ X' I', Ext I I' → RaftR I' b X' (sendF r' (doneM m o.2.1 o.1)) → K (.tuple #[]) I' (X' ++ F)) →
      sh95_1 ω (.pointer (some ⟨b, 0, none⟩)) (.pointer (some ⟨m1, 0, none⟩)) (.int .i64 o.1) (.bool o.2.1) (fun v => Gh (K v)) I2 ((m1, Obj.cells (mcells m (.slice a0 m.ents.length p0) (.slice a1 m.mem.length p1) (.slice a2 m.data.length p2)).toArray 77 (0, 0)) ::
        (b, Obj.cells (rcells (hearF r m.frm) z0 z1 z2 (.pointer (some ⟨lb, 0, none⟩)) stv ov).toArray 131 (0, 0)) :: (XL ++ (XO ++ F))) := by
    intro XL r' I2 hI2 hL e2 e3 e4 hk
    unfold sh95_1
    repeat' (first | (with_reducible refine drawC ?_) | (with_reducible refine drawW1 ?_) | (with_reducible refine drawW2 ?_) | (with_reducible refine keepC (by repeat (first | exact Ext.refl _ | assumption | refine Ext.trans ?_ (by assumption))) ?_) | (with_reducible refine newI (fun _ => ?_)) | first | (with_reducible refine rdb ?_) | ((with_reducible refine st1 ?_ ?_); rfl) | ((with_reducible refine rdB ?_ ?_); rfl) | (with_reducible refine rdbS ?_) | ((with_reducible refine rdBS ?_ ?_); rfl) | ((with_reducible refine stB ?_ ?_ ?_ ?_); rfl; rfl; exact one_all rfl) | ((with_reducible refine rdP _ rfl ?_ ?_); rfl) | ((with_reducible refine rdPS _ rfl ?_ ?_); rfl) | ((with_reducible refine stP _ rfl ?_ ?_ ?_ ?_); rfl; rfl; rfl) | (with_reducible refine And.intro ?_ ?_) | (simp only [Bool.not_true, Bool.not_false, Bool.and_self, Bool.true_and, Int.reduceBEq, Int.reduceBNe, Int.reduceLT, Int.reduceLE, decide_true, decide_false, Br_true, Br_false, Gd_tt, Gd_ft, Gd_tf, Gd_ff, beq_self_eq_true, bne_self_eq_false]) | (with_reducible refine gd_split (fun _ => ?_) (fun _ => ?_)) | (with_reducible refine br_split (fun _ => ?_) (fun _ => ?_)) | (simp only [SSd, List.getElem?_toArray, List.getElem?_cons_zero, List.getElem?_cons_succ, Nat.zero_add, Nat.add_zero, Nat.zero_mul, List.drop_succ_cons, List.drop_zero, List.take_succ_cons, List.take_zero, List.nil_append, List.cons_append, Nat.reduceAdd, List.drop_nil, List.take_nil]))
    refine call (raft_cal (r := r') b F z0 z1 z2 hL (by rw [e2]; exact h2'.mono hI2) (by rw [e3]; exact h3) (by rw [e3]; exact h4'.imp fun _ _ h => h.mono hI2) (by rw [e4]) (fun X hX => ?_))
    refine send_spec (m := doneM m o.2.1 o.1) hX ⟨_, _, _, rfl, RL.nil _ _, SlI.nil _ _ _ _, SlI.nil _ _ _ _⟩ (by rw [e3]; exact hl) (fun X' hX' => Gh.done (hk X' I2 (hI1.trans hI2) hX'))
  refine br_split (fun hk2 => ?_) (fun hk2 => ?_)
  · rw [if_pos hk2] at hk
    repeat' (first | (with_reducible refine drawC ?_) | (with_reducible refine drawW1 ?_) | (with_reducible refine drawW2 ?_) | (with_reducible refine keepC (by repeat (first | exact Ext.refl _ | assumption | refine Ext.trans ?_ (by assumption))) ?_) | (with_reducible refine newI (fun _ => ?_)) | first | (with_reducible refine rdb ?_) | ((with_reducible refine st1 ?_ ?_); rfl) | ((with_reducible refine rdB ?_ ?_); rfl) | (with_reducible refine rdbS ?_) | ((with_reducible refine rdBS ?_ ?_); rfl) | ((with_reducible refine stB ?_ ?_ ?_ ?_); rfl; rfl; exact one_all rfl) | ((with_reducible refine rdP _ rfl ?_ ?_); rfl) | ((with_reducible refine rdPS _ rfl ?_ ?_); rfl) | ((with_reducible refine stP _ rfl ?_ ?_ ?_ ?_); rfl; rfl; rfl) | (with_reducible refine And.intro ?_ ?_) | (simp only [Bool.not_true, Bool.not_false, Bool.and_self, Bool.true_and, Int.reduceBEq, Int.reduceBNe, Int.reduceLT, Int.reduceLE, decide_true, decide_false, Br_true, Br_false, Gd_tt, Gd_ft, Gd_tf, Gd_ff, beq_self_eq_true, bne_self_eq_false]) | (with_reducible refine gd_split (fun _ => ?_) (fun _ => ?_)) | (with_reducible refine br_split (fun _ => ?_) (fun _ => ?_)) | (simp only [SSd, List.getElem?_toArray, List.getElem?_cons_zero, List.getElem?_cons_succ, Nat.zero_add, Nat.add_zero, Nat.zero_mul, List.drop_succ_cons, List.drop_zero, List.take_succ_cons, List.take_zero, List.nil_append, List.cons_append, Nat.reduceAdd, List.drop_nil, List.take_nil]))
    rw [show (if o.fst < m.commit then o.fst else m.commit) = min m.commit o.1 by split <;> omega]
    refine callG (Cal.split XL' (settle_spec hL' hwo (fun XL2 hL2 => ?_)))
    refine Gh.pick m1 ((b, Obj.cells (rcells (hearF r m.frm) z0 z1 z2 (.pointer (some ⟨lb, 0, none⟩)) stv ov).toArray 131 (0, 0)) :: (XL2 ++ (XO ++ F))) (Gh.done ?_)
    exact fin XL2 (settleF { hearF r m.frm with g := o.2.2.2 } (min m.commit o.1)) I1 (Ext.refl _) hL2 rfl rfl rfl hk
  · rw [if_neg (by simp [hk2])] at hk
    exact fin XL' { hearF r m.frm with g := o.2.2.2 } I1 (Ext.refl _) hL' rfl rfl rfl hk

theorem install_spec {b E B : Nat} {X F : LH} {r : RF} {m : RM} {c : List Value} (h : RaftR I b X r) (hw : RWF E B r) (hm : MsgV I m c) (hr : RB m) (hl : r.out.length ≤ 1000)
    (hk : ∀ X' I', Ext I I' → RaftR I' b X' (if r.role = 3 then r else installF r m) → K (.tuple #[]) I' (X' ++ F)) : Cal Try.prog ω 96 #[.pointer (some ⟨b, 0, none⟩), .agg c.toArray] K I (X ++ F) := by
  obtain ⟨a0, p0, a1, p1, a2, p2, rfl, hEn, hM, hD⟩ := hm.form
  refine cal96 ?_
  unfold sh96
  refine newI (fun m1 => ?_)
  try simp only [SSd, List.getElem?_toArray, List.getElem?_cons_zero, List.getElem?_cons_succ, Nat.zero_add, Nat.add_zero, Nat.zero_mul, List.drop_succ_cons, List.drop_zero, List.take_succ_cons, List.take_zero, List.nil_append, List.cons_append, Nat.reduceAdd, List.drop_nil, List.take_nil]
  refine rdb ?_
  have hidx := hr.idx
  have hdat := hr.dat
  refine callG (Cal.split X (hear_spec (F := (m1, Obj.cells (mcells m (.slice a0 m.ents.length p0) (.slice a1 m.mem.length p1) (.slice a2 m.data.length p2)).toArray 77 (0, 0)) :: F) h (fun h3 => ?_) (fun hn3 X' hX' => ?_)))
  · refine Gh.done ?_
    try simp only [SSd, List.getElem?_toArray, List.getElem?_cons_zero, List.getElem?_cons_succ, Nat.zero_add, Nat.add_zero, Nat.zero_mul, List.drop_succ_cons, List.drop_zero, List.take_succ_cons, List.take_zero, List.nil_append, List.cons_append, Nat.reduceAdd, List.drop_nil, List.take_nil]
    rw [if_pos h3] at hk
    exact Gh.to (X ++ F) (Gh.done (hk X I (Ext.refl I) h))
  rw [if_neg hn3] at hk
  try simp only [SSd, List.getElem?_toArray, List.getElem?_cons_zero, List.getElem?_cons_succ, Nat.zero_add, Nat.add_zero, Nat.zero_mul, List.drop_succ_cons, List.drop_zero, List.take_succ_cons, List.take_zero, List.nil_append, List.cons_append, Nat.reduceAdd, List.drop_nil, List.take_nil]
  obtain ⟨lb, XL, XO, stv, ov, z0, z1, z2, oc, rfl, h1, h2, h3, h4⟩ := hX'
  simp only [List.cons_append, List.append_assoc]
  refine Gh.pick m1 ((b, Obj.cells (rcells (hearF r m.frm) z0 z1 z2 (.pointer (some ⟨lb, 0, none⟩)) stv ov).toArray 131 (0, 0)) :: (XL ++ (XO ++ F))) (Gh.done ?_)
  try simp only [SSd, List.getElem?_toArray, List.getElem?_cons_zero, List.getElem?_cons_succ, Nat.zero_add, Nat.add_zero, Nat.zero_mul, List.drop_succ_cons, List.drop_zero, List.take_succ_cons, List.take_zero, List.nil_append, List.cons_append, Nat.reduceAdd, List.drop_nil, List.take_nil]
  refine rdb ?_
  refine call (commit_spec h1.view ?_)
  have hg : (hearF r m.frm).g = r.g := rfl
  rw [hg] at h1 ⊢
  -- the last lines
  have fin : ∀ (XL L0 : LH) (r' : RF) (I2 : Imm) (i : Int) (stv : Value) (F1 : LH), Ext I I2 → LogR I2 lb XL r'.g → Bytes I2 stv r'.st → r'.out = r.out → (∀ X' I', Ext I I' → RaftR I' b X' (sendF r' (doneM m true i)) → K (.tuple #[]) I' (X' ++ F)) →
      sh96_1 ω (.pointer (some ⟨b, 0, none⟩)) (.pointer (some ⟨m1, 0, none⟩)) (.int .i64 i) (fun v => Gh (K v)) I2 ((m1, Obj.cells (mcells m (.slice a0 m.ents.length p0) (.slice a1 m.mem.length p1) (.slice a2 m.data.length p2)).toArray 77 (0, 0)) ::
        (b, Obj.cells (rcells r' z0 z1 z2 (.pointer (some ⟨lb, 0, none⟩)) stv ov).toArray 131 (0, 0)) :: (XL ++ (XO ++ F))) := by
    intro XL L0 r' I2 i stv F1 hI2 hL hst e3 hk
    unfold sh96_1
    repeat' (first | (with_reducible refine drawC ?_) | (with_reducible refine drawW1 ?_) | (with_reducible refine drawW2 ?_) | (with_reducible refine keepC (by repeat (first | exact Ext.refl _ | assumption | refine Ext.trans ?_ (by assumption))) ?_) | (with_reducible refine newI (fun _ => ?_)) | first | (with_reducible refine rdb ?_) | ((with_reducible refine st1 ?_ ?_); rfl) | ((with_reducible refine rdB ?_ ?_); rfl) | (with_reducible refine rdbS ?_) | ((with_reducible refine rdBS ?_ ?_); rfl) | ((with_reducible refine stB ?_ ?_ ?_ ?_); rfl; rfl; exact one_all rfl) | ((with_reducible refine rdP _ rfl ?_ ?_); rfl) | ((with_reducible refine rdPS _ rfl ?_ ?_); rfl) | ((with_reducible refine stP _ rfl ?_ ?_ ?_ ?_); rfl; rfl; rfl) | (with_reducible refine And.intro ?_ ?_) | (simp only [Bool.not_true, Bool.not_false, Bool.and_self, Bool.true_and, Int.reduceBEq, Int.reduceBNe, Int.reduceLT, Int.reduceLE, decide_true, decide_false, Br_true, Br_false, Gd_tt, Gd_ft, Gd_tf, Gd_ff, beq_self_eq_true, bne_self_eq_false]) | (with_reducible refine gd_split (fun _ => ?_) (fun _ => ?_)) | (with_reducible refine br_split (fun _ => ?_) (fun _ => ?_)) | (simp only [SSd, List.getElem?_toArray, List.getElem?_cons_zero, List.getElem?_cons_succ, Nat.zero_add, Nat.add_zero, Nat.zero_mul, List.drop_succ_cons, List.drop_zero, List.take_succ_cons, List.take_zero, List.nil_append, List.cons_append, Nat.reduceAdd, List.drop_nil, List.take_nil]))
    refine call (raft_cal (r := r') b F z0 z1 z2 hL hst (by rw [e3]; exact h3) (by rw [e3]; exact h4.imp fun _ _ h => h.mono hI2) rfl (fun X hX => ?_))
    refine send_spec (m := doneM m true i) hX ⟨_, _, _, rfl, RL.nil _ _, SlI.nil _ _ _ _, SlI.nil _ _ _ _⟩ (by rw [e3]; exact hl) (fun X' hX' => Gh.done (hk X' I2 hI2 hX'))
  try simp only [SSd, List.getElem?_toArray, List.getElem?_cons_zero, List.getElem?_cons_succ, Nat.zero_add, Nat.add_zero, Nat.zero_mul, List.drop_succ_cons, List.drop_zero, List.take_succ_cons, List.take_zero, List.nil_append, List.cons_append, Nat.reduceAdd, List.drop_nil, List.take_nil]
  refine rdb ?_
  try simp only [SSd, List.getElem?_toArray, List.getElem?_cons_zero, List.getElem?_cons_succ, Nat.zero_add, Nat.add_zero, Nat.zero_mul, List.drop_succ_cons, List.drop_zero, List.take_succ_cons, List.take_zero, List.nil_append, List.cons_append, Nat.reduceAdd, List.drop_nil, List.take_nil]
  refine br_split (fun hc => ?_) (fun hc => ?_)
  · simp at hc
    repeat' (first | (with_reducible refine drawC ?_) | (with_reducible refine drawW1 ?_) | (with_reducible refine drawW2 ?_) | (with_reducible refine keepC (by repeat (first | exact Ext.refl _ | assumption | refine Ext.trans ?_ (by assumption))) ?_) | (with_reducible refine newI (fun _ => ?_)) | first | (with_reducible refine rdb ?_) | ((with_reducible refine st1 ?_ ?_); rfl) | ((with_reducible refine rdB ?_ ?_); rfl) | (with_reducible refine rdbS ?_) | ((with_reducible refine rdBS ?_ ?_); rfl) | ((with_reducible refine stB ?_ ?_ ?_ ?_); rfl; rfl; exact one_all rfl) | ((with_reducible refine rdP _ rfl ?_ ?_); rfl) | ((with_reducible refine rdPS _ rfl ?_ ?_); rfl) | ((with_reducible refine stP _ rfl ?_ ?_ ?_ ?_); rfl; rfl; rfl) | (with_reducible refine And.intro ?_ ?_) | (simp only [Bool.not_true, Bool.not_false, Bool.and_self, Bool.true_and, Int.reduceBEq, Int.reduceBNe, Int.reduceLT, Int.reduceLE, decide_true, decide_false, Br_true, Br_false, Gd_tt, Gd_ft, Gd_tf, Gd_ff, beq_self_eq_true, bne_self_eq_false]) | (with_reducible refine gd_split (fun _ => ?_) (fun _ => ?_)) | (with_reducible refine br_split (fun _ => ?_) (fun _ => ?_)) | (simp only [SSd, List.getElem?_toArray, List.getElem?_cons_zero, List.getElem?_cons_succ, Nat.zero_add, Nat.add_zero, Nat.zero_mul, List.drop_succ_cons, List.drop_zero, List.take_succ_cons, List.take_zero, List.nil_append, List.cons_append, Nat.reduceAdd, List.drop_nil, List.take_nil]))
    generalize ho : resetG r.g m.index m.lterm m.mem = o at *
    have e : installF r m = if o.1 ≠ 0 then hearF r m.frm else sendF { hearF r m.frm with g := o.2, st := m.data } (doneM m true m.index) := by
      rw [← ho, installF, if_neg (show ¬ m.index ≤ (hearF r m.frm).g.commit by show ¬ m.index ≤ r.g.commit; omega)]; rfl
    rw [e] at hk
    refine callG (Cal.split XL (reset_spec h1 hw.wf hM (by unfold inI64; omega) (fun XL' I1 hI1 hL' => ?_)))
    rw [ho] at hL' ⊢
    refine Gh.pick m1 ((b, Obj.cells (rcells (hearF r m.frm) z0 z1 z2 (.pointer (some ⟨lb, 0, none⟩)) stv ov).toArray 131 (0, 0)) :: (XL' ++ (XO ++ F))) (Gh.done ?_)
    try simp only [SSd, List.getElem?_toArray, List.getElem?_cons_zero, List.getElem?_cons_succ, Nat.zero_add, Nat.add_zero, Nat.zero_mul, List.drop_succ_cons, List.drop_zero, List.take_succ_cons, List.take_zero, List.nil_append, List.cons_append, Nat.reduceAdd, List.drop_nil, List.take_nil]
    refine br_split (fun he => ?_) (fun he => ?_)
    · simp at he
      rw [if_pos he] at hk
      have hno : o.2 = r.g := by
        rw [← ho] at he ⊢
        unfold resetG at he ⊢
        split
        · rfl
        · split
          · rfl
          · simp_all
      rw [hno] at hL'
      exact raft_end (r := hearF r m.frm) (F := F) z0 z1 z2 (fun X' h' => hk X' I1 hI1 h') hL' (h2.mono hI1) h3 (h4.imp fun _ _ h => h.mono hI1) rfl
    · simp at he
      rw [if_neg (by simp [he])] at hk
      repeat' (first | (with_reducible refine drawC ?_) | (with_reducible refine drawW1 ?_) | (with_reducible refine drawW2 ?_) | (with_reducible refine keepC (by repeat (first | exact Ext.refl _ | assumption | refine Ext.trans ?_ (by assumption))) ?_) | (with_reducible refine newI (fun _ => ?_)) | first | (with_reducible refine rdb ?_) | ((with_reducible refine st1 ?_ ?_); rfl) | ((with_reducible refine rdB ?_ ?_); rfl) | (with_reducible refine rdbS ?_) | ((with_reducible refine rdBS ?_ ?_); rfl) | ((with_reducible refine stB ?_ ?_ ?_ ?_); rfl; rfl; exact one_all rfl) | ((with_reducible refine rdP _ rfl ?_ ?_); rfl) | ((with_reducible refine rdPS _ rfl ?_ ?_); rfl) | ((with_reducible refine stP _ rfl ?_ ?_ ?_ ?_); rfl; rfl; rfl) | (with_reducible refine And.intro ?_ ?_) | (simp only [Bool.not_true, Bool.not_false, Bool.and_self, Bool.true_and, Int.reduceBEq, Int.reduceBNe, Int.reduceLT, Int.reduceLE, decide_true, decide_false, Br_true, Br_false, Gd_tt, Gd_ft, Gd_tf, Gd_ff, beq_self_eq_true, bne_self_eq_false]) | (with_reducible refine gd_split (fun _ => ?_) (fun _ => ?_)) | (with_reducible refine br_split (fun _ => ?_) (fun _ => ?_)) | (simp only [SSd, List.getElem?_toArray, List.getElem?_cons_zero, List.getElem?_cons_succ, Nat.zero_add, Nat.add_zero, Nat.zero_mul, List.drop_succ_cons, List.drop_zero, List.take_succ_cons, List.take_zero, List.nil_append, List.cons_append, Nat.reduceAdd, List.drop_nil, List.take_nil]))
      refine call (cloneB_spec (hD.mono hI1) (by omega) (fun v I2 hI2 hv => ?_))
      obtain ⟨av, pv, rfl⟩ := Bytes.form hv
      repeat' (first | (with_reducible refine drawC ?_) | (with_reducible refine drawW1 ?_) | (with_reducible refine drawW2 ?_) | (with_reducible refine keepC (by repeat (first | exact Ext.refl _ | assumption | refine Ext.trans ?_ (by assumption))) ?_) | (with_reducible refine newI (fun _ => ?_)) | first | (with_reducible refine rdb ?_) | ((with_reducible refine st1 ?_ ?_); rfl) | ((with_reducible refine rdB ?_ ?_); rfl) | (with_reducible refine rdbS ?_) | ((with_reducible refine rdBS ?_ ?_); rfl) | ((with_reducible refine stB ?_ ?_ ?_ ?_); rfl; rfl; exact one_all rfl) | ((with_reducible refine rdP _ rfl ?_ ?_); rfl) | ((with_reducible refine rdPS _ rfl ?_ ?_); rfl) | ((with_reducible refine stP _ rfl ?_ ?_ ?_ ?_); rfl; rfl; rfl) | (with_reducible refine And.intro ?_ ?_) | (simp only [Bool.not_true, Bool.not_false, Bool.and_self, Bool.true_and, Int.reduceBEq, Int.reduceBNe, Int.reduceLT, Int.reduceLE, decide_true, decide_false, Br_true, Br_false, Gd_tt, Gd_ft, Gd_tf, Gd_ff, beq_self_eq_true, bne_self_eq_false]) | (with_reducible refine gd_split (fun _ => ?_) (fun _ => ?_)) | (with_reducible refine br_split (fun _ => ?_) (fun _ => ?_)) | (simp only [SSd, List.getElem?_toArray, List.getElem?_cons_zero, List.getElem?_cons_succ, Nat.zero_add, Nat.add_zero, Nat.zero_mul, List.drop_succ_cons, List.drop_zero, List.take_succ_cons, List.take_zero, List.nil_append, List.cons_append, Nat.reduceAdd, List.drop_nil, List.take_nil]))
      exact fin XL' [] { hearF r m.frm with g := o.2, st := m.data } I2 m.index _ [] (hI1.trans hI2) (hL'.mono hI2) hv rfl hk
  · simp at hc
    rw [installF, if_pos (show m.index ≤ (hearF r m.frm).g.commit from hc)] at hk
    exact fin XL [] (hearF r m.frm) I r.g.commit stv [] (Ext.refl I) h1 h2 rfl hk

theorem appended_spec {b E B : Nat} {X F : LH} {r : RF} {m : RM} {c : List Value} (h : RaftR I b X r) (hw : RWF E B r) (hm : MsgV I m c) (hr : RB m) (hl : r.out.length ≤ 900)
    (hk : ∀ X' I', Ext I I' → RaftR I' b X' (if r.role = 3 then appendedF r m else r) → K (.tuple #[]) I' (X' ++ F)) : Cal Try.prog ω 97 #[.pointer (some ⟨b, 0, none⟩), .agg c.toArray] K I (X ++ F) := by
  have hX := h
  obtain ⟨lb, XL, XO, stv, ov, z0, z1, z2, oc, rfl, h1, h2, h3, h4⟩ := h
  obtain ⟨a0, p0, a1, p1, a2, p2, rfl, hEn, hM, hD⟩ := hm.form
  have hidx := hr.idx
  have hfr := hr.frm
  have hlast := hw.wf.last
  have hnx := hw.nxb m.frm
  have hmt := hw.mtb m.frm
  refine cal97 ?_
  unfold sh97
  simp only [List.cons_append, List.append_assoc]
  refine newI (fun m1 => ?_)
  try simp only [SSd, List.getElem?_toArray, List.getElem?_cons_zero, List.getElem?_cons_succ, Nat.zero_add, Nat.add_zero, Nat.zero_mul, List.drop_succ_cons, List.drop_zero, List.take_succ_cons, List.take_zero, List.nil_append, List.cons_append, Nat.reduceAdd, List.drop_nil, List.take_nil]
  refine rdb ?_
  refine call (last_spec h1.view hw.wf ?_)
  repeat' (first | (with_reducible refine drawC ?_) | (with_reducible refine drawW1 ?_) | (with_reducible refine drawW2 ?_) | (with_reducible refine keepC (by repeat (first | exact Ext.refl _ | assumption | refine Ext.trans ?_ (by assumption))) ?_) | (with_reducible refine newI (fun _ => ?_)) | first | (with_reducible refine rdb ?_) | ((with_reducible refine st1 ?_ ?_); rfl) | ((with_reducible refine rdB ?_ ?_); rfl) | (with_reducible refine rdbS ?_) | ((with_reducible refine rdBS ?_ ?_); rfl) | ((with_reducible refine stB ?_ ?_ ?_ ?_); rfl; rfl; exact one_all rfl) | ((with_reducible refine rdP _ rfl ?_ ?_); rfl) | ((with_reducible refine rdPS _ rfl ?_ ?_); rfl) | ((with_reducible refine stP _ rfl ?_ ?_ ?_ ?_); rfl; rfl; rfl) | (with_reducible refine And.intro ?_ ?_) | (simp only [Bool.not_true, Bool.not_false, Bool.and_self, Bool.true_and, Int.reduceBEq, Int.reduceBNe, Int.reduceLT, Int.reduceLE, decide_true, decide_false, Br_true, Br_false, Gd_tt, Gd_ft, Gd_tf, Gd_ff, beq_self_eq_true, bne_self_eq_false]) | (with_reducible refine gd_split (fun _ => ?_) (fun _ => ?_)) | (with_reducible refine br_split (fun _ => ?_) (fun _ => ?_)) | (simp only [SSd, List.getElem?_toArray, List.getElem?_cons_zero, List.getElem?_cons_succ, Nat.zero_add, Nat.add_zero, Nat.zero_mul, List.drop_succ_cons, List.drop_zero, List.take_succ_cons, List.take_zero, List.nil_append, List.cons_append, Nat.reduceAdd, List.drop_nil, List.take_nil]))
  simp only [ixPV_at _ (show 0 ≤ m.frm by omega) (show m.frm < ((6 : Nat) : Int) by omega), SSd, List.getElem?_toArray, List.getElem?_cons_zero, List.getElem?_cons_succ, Nat.zero_add, Nat.add_zero, Nat.zero_mul, List.drop_succ_cons, List.drop_zero, List.take_succ_cons, List.take_zero, List.nil_append, List.cons_append, Nat.reduceAdd, List.drop_nil, List.take_nil]
  refine rdb ?_
  try simp only [SSd, List.getElem?_toArray, List.getElem?_cons_zero, List.getElem?_cons_succ, Nat.zero_add, Nat.add_zero, Nat.zero_mul, List.drop_succ_cons, List.drop_zero, List.take_succ_cons, List.take_zero, List.nil_append, List.cons_append, Nat.reduceAdd, List.drop_nil, List.take_nil]
  refine br_split (fun h3' => ?_) (fun h3' => ?_)
  · simp at h3'
    rw [if_neg h3'] at hk
    exact raft_end (r := r) (F := F) z0 z1 z2 (fun X' h' => hk X' I (Ext.refl I) h') h1 h2 h3 h4 rfl
  simp at h3'
  rw [if_pos h3'] at hk
  refine rdb ?_
  try simp only [SSd, List.getElem?_toArray, List.getElem?_cons_zero, List.getElem?_cons_succ, Nat.zero_add, Nat.add_zero, Nat.zero_mul, List.drop_succ_cons, List.drop_zero, List.take_succ_cons, List.take_zero, List.nil_append, List.cons_append, Nat.reduceAdd, List.drop_nil, List.take_nil]
  refine br_split (fun hok => ?_) (fun hok => ?_)
  · have hok : m.ok = false := by simpa using hok
    repeat' (first | (with_reducible refine drawC ?_) | (with_reducible refine drawW1 ?_) | (with_reducible refine drawW2 ?_) | (with_reducible refine keepC (by repeat (first | exact Ext.refl _ | assumption | refine Ext.trans ?_ (by assumption))) ?_) | (with_reducible refine newI (fun _ => ?_)) | first | (with_reducible refine rdb ?_) | ((with_reducible refine st1 ?_ ?_); rfl) | ((with_reducible refine rdB ?_ ?_); rfl) | (with_reducible refine rdbS ?_) | ((with_reducible refine rdBS ?_ ?_); rfl) | ((with_reducible refine stB ?_ ?_ ?_ ?_); rfl; rfl; exact one_all rfl) | ((with_reducible refine rdP _ rfl ?_ ?_); rfl) | ((with_reducible refine rdPS _ rfl ?_ ?_); rfl) | ((with_reducible refine stP _ rfl ?_ ?_ ?_ ?_); rfl; rfl; rfl) | (with_reducible refine And.intro ?_ ?_) | (simp only [Bool.not_true, Bool.not_false, Bool.and_self, Bool.true_and, Int.reduceBEq, Int.reduceBNe, Int.reduceLT, Int.reduceLE, decide_true, decide_false, Br_true, Br_false, Gd_tt, Gd_ft, Gd_tf, Gd_ff, beq_self_eq_true, bne_self_eq_false]) | (with_reducible refine gd_split (fun _ => ?_) (fun _ => ?_)) | (with_reducible refine br_split (fun _ => ?_) (fun _ => ?_)) | (simp only [SSd, List.getElem?_toArray, List.getElem?_cons_zero, List.getElem?_cons_succ, Nat.zero_add, Nat.add_zero, Nat.zero_mul, List.drop_succ_cons, List.drop_zero, List.take_succ_cons, List.take_zero, List.nil_append, List.cons_append, Nat.reduceAdd, List.drop_nil, List.take_nil, wrap_i64 (m.index + 1) (by omega)]))
    refine rdLS (rc_nx hfr) ?_
    try simp only [SSd, List.getElem?_toArray, List.getElem?_cons_zero, List.getElem?_cons_succ, Nat.zero_add, Nat.add_zero, Nat.zero_mul, List.drop_succ_cons, List.drop_zero, List.take_succ_cons, List.take_zero, List.nil_append, List.cons_append, Nat.reduceAdd, List.drop_nil, List.take_nil]
    refine br_split (fun hlt => ?_) (fun hlt => ?_)
    · simp at hlt
      rw [appendedF, if_pos hok, if_pos hlt] at hk
      repeat' (first | (with_reducible refine drawC ?_) | (with_reducible refine drawW1 ?_) | (with_reducible refine drawW2 ?_) | (with_reducible refine keepC (by repeat (first | exact Ext.refl _ | assumption | refine Ext.trans ?_ (by assumption))) ?_) | (with_reducible refine newI (fun _ => ?_)) | first | (with_reducible refine rdb ?_) | ((with_reducible refine st1 ?_ ?_); rfl) | ((with_reducible refine rdB ?_ ?_); rfl) | (with_reducible refine rdbS ?_) | ((with_reducible refine rdBS ?_ ?_); rfl) | ((with_reducible refine stB ?_ ?_ ?_ ?_); rfl; rfl; exact one_all rfl) | ((with_reducible refine rdP _ rfl ?_ ?_); rfl) | ((with_reducible refine rdPS _ rfl ?_ ?_); rfl) | ((with_reducible refine stP _ rfl ?_ ?_ ?_ ?_); rfl; rfl; rfl) | (with_reducible refine And.intro ?_ ?_) | (simp only [Bool.not_true, Bool.not_false, Bool.and_self, Bool.true_and, Int.reduceBEq, Int.reduceBNe, Int.reduceLT, Int.reduceLE, decide_true, decide_false, Br_true, Br_false, Gd_tt, Gd_ft, Gd_tf, Gd_ff, beq_self_eq_true, bne_self_eq_false]) | (with_reducible refine gd_split (fun _ => ?_) (fun _ => ?_)) | (with_reducible refine br_split (fun _ => ?_) (fun _ => ?_)) | (simp only [SSd, List.getElem?_toArray, List.getElem?_cons_zero, List.getElem?_cons_succ, Nat.zero_add, Nat.add_zero, Nat.zero_mul, List.drop_succ_cons, List.drop_zero, List.take_succ_cons, List.take_zero, List.nil_append, List.cons_append, Nat.reduceAdd, List.drop_nil, List.take_nil]))
      refine rdLS (rc_mt hfr) ?_
      try simp only [SSd, List.getElem?_toArray, List.getElem?_cons_zero, List.getElem?_cons_succ, Nat.zero_add, Nat.add_zero, Nat.zero_mul, List.drop_succ_cons, List.drop_zero, List.take_succ_cons, List.take_zero, List.nil_append, List.cons_append, Nat.reduceAdd, List.drop_nil, List.take_nil]
      rw [show (if r.mt m.frm > m.index then r.mt m.frm else m.index) = max m.index (r.mt m.frm) by split <;> omega, wrap_i64 (max m.index (r.mt m.frm) + 1) (by omega)]
      refine stL (rc_snx hfr) (by rw [rc_len]; omega) rfl ?_
      repeat' (first | (with_reducible refine drawC ?_) | (with_reducible refine drawW1 ?_) | (with_reducible refine drawW2 ?_) | (with_reducible refine keepC (by repeat (first | exact Ext.refl _ | assumption | refine Ext.trans ?_ (by assumption))) ?_) | (with_reducible refine newI (fun _ => ?_)) | first | (with_reducible refine rdb ?_) | ((with_reducible refine st1 ?_ ?_); rfl) | ((with_reducible refine rdB ?_ ?_); rfl) | (with_reducible refine rdbS ?_) | ((with_reducible refine rdBS ?_ ?_); rfl) | ((with_reducible refine stB ?_ ?_ ?_ ?_); rfl; rfl; exact one_all rfl) | ((with_reducible refine rdP _ rfl ?_ ?_); rfl) | ((with_reducible refine rdPS _ rfl ?_ ?_); rfl) | ((with_reducible refine stP _ rfl ?_ ?_ ?_ ?_); rfl; rfl; rfl) | (with_reducible refine And.intro ?_ ?_) | (simp only [Bool.not_true, Bool.not_false, Bool.and_self, Bool.true_and, Int.reduceBEq, Int.reduceBNe, Int.reduceLT, Int.reduceLE, decide_true, decide_false, Br_true, Br_false, Gd_tt, Gd_ft, Gd_tf, Gd_ff, beq_self_eq_true, bne_self_eq_false]) | (with_reducible refine gd_split (fun _ => ?_) (fun _ => ?_)) | (with_reducible refine br_split (fun _ => ?_) (fun _ => ?_)) | (simp only [SSd, List.getElem?_toArray, List.getElem?_cons_zero, List.getElem?_cons_succ, Nat.zero_add, Nat.add_zero, Nat.zero_mul, List.drop_succ_cons, List.drop_zero, List.take_succ_cons, List.take_zero, List.nil_append, List.cons_append, Nat.reduceAdd, List.drop_nil, List.take_nil]))
      have hw' : RWF E B { r with nx := updI r.nx m.frm (max m.index (r.mt m.frm) + 1) } := ⟨hw.wf, hw.len, hw.grp, hw.idn, hw.trm, hw.vot, hw.lst, hw.stl, hw.ela, fun p => by simp only [updI]; split <;> first | omega | exact hw.nxb p, hw.mtb⟩
      refine call (raft_cal (r := { r with nx := updI r.nx m.frm (max m.index (r.mt m.frm) + 1) }) b F z0 z1 z2 h1 h2 h3 h4 rfl (fun X hX => ?_))
      exact sendTo_spec hX hw' hfr (by simp only; omega) (fun X' I1 hI1 hX' => Gh.done (hk X' I1 hI1 hX'))
    · simp at hlt
      rw [appendedF, if_pos hok, if_neg (by omega)] at hk
      exact raft_end (r := r) (F := F) z0 z1 z2 (fun X' h' => hk X' I (Ext.refl I) h') h1 h2 h3 h4 rfl
  have hok : ¬ m.ok = false := by simpa using hok
  refine rdb ?_
  try simp only [SSd, List.getElem?_toArray, List.getElem?_cons_zero, List.getElem?_cons_succ, Nat.zero_add, Nat.add_zero, Nat.zero_mul, List.drop_succ_cons, List.drop_zero, List.take_succ_cons, List.take_zero, List.nil_append, List.cons_append, Nat.reduceAdd, List.drop_nil, List.take_nil]
  refine br_split (fun hle => ?_) (fun hle => ?_)
  · simp at hle
    rw [appendedF, if_neg hok, if_neg (by omega)] at hk
    repeat' (first | (with_reducible refine drawC ?_) | (with_reducible refine drawW1 ?_) | (with_reducible refine drawW2 ?_) | (with_reducible refine keepC (by repeat (first | exact Ext.refl _ | assumption | refine Ext.trans ?_ (by assumption))) ?_) | (with_reducible refine newI (fun _ => ?_)) | first | (with_reducible refine rdb ?_) | ((with_reducible refine st1 ?_ ?_); rfl) | ((with_reducible refine rdB ?_ ?_); rfl) | (with_reducible refine rdbS ?_) | ((with_reducible refine rdBS ?_ ?_); rfl) | ((with_reducible refine stB ?_ ?_ ?_ ?_); rfl; rfl; exact one_all rfl) | ((with_reducible refine rdP _ rfl ?_ ?_); rfl) | ((with_reducible refine rdPS _ rfl ?_ ?_); rfl) | ((with_reducible refine stP _ rfl ?_ ?_ ?_ ?_); rfl; rfl; rfl) | (with_reducible refine And.intro ?_ ?_) | (simp only [Bool.not_true, Bool.not_false, Bool.and_self, Bool.true_and, Int.reduceBEq, Int.reduceBNe, Int.reduceLT, Int.reduceLE, decide_true, decide_false, Br_true, Br_false, Gd_tt, Gd_ft, Gd_tf, Gd_ff, beq_self_eq_true, bne_self_eq_false]) | (with_reducible refine gd_split (fun _ => ?_) (fun _ => ?_)) | (with_reducible refine br_split (fun _ => ?_) (fun _ => ?_)) | (simp only [SSd, List.getElem?_toArray, List.getElem?_cons_zero, List.getElem?_cons_succ, Nat.zero_add, Nat.add_zero, Nat.zero_mul, List.drop_succ_cons, List.drop_zero, List.take_succ_cons, List.take_zero, List.nil_append, List.cons_append, Nat.reduceAdd, List.drop_nil, List.take_nil]))
    refine rdLS (rc_mt hfr) ?_
    repeat' (first | (with_reducible refine drawC ?_) | (with_reducible refine drawW1 ?_) | (with_reducible refine drawW2 ?_) | (with_reducible refine keepC (by repeat (first | exact Ext.refl _ | assumption | refine Ext.trans ?_ (by assumption))) ?_) | (with_reducible refine newI (fun _ => ?_)) | first | (with_reducible refine rdb ?_) | ((with_reducible refine st1 ?_ ?_); rfl) | ((with_reducible refine rdB ?_ ?_); rfl) | (with_reducible refine rdbS ?_) | ((with_reducible refine rdBS ?_ ?_); rfl) | ((with_reducible refine stB ?_ ?_ ?_ ?_); rfl; rfl; exact one_all rfl) | ((with_reducible refine rdP _ rfl ?_ ?_); rfl) | ((with_reducible refine rdPS _ rfl ?_ ?_); rfl) | ((with_reducible refine stP _ rfl ?_ ?_ ?_ ?_); rfl; rfl; rfl) | (with_reducible refine And.intro ?_ ?_) | (simp only [Bool.not_true, Bool.not_false, Bool.and_self, Bool.true_and, Int.reduceBEq, Int.reduceBNe, Int.reduceLT, Int.reduceLE, decide_true, decide_false, Br_true, Br_false, Gd_tt, Gd_ft, Gd_tf, Gd_ff, beq_self_eq_true, bne_self_eq_false]) | (with_reducible refine gd_split (fun _ => ?_) (fun _ => ?_)) | (with_reducible refine br_split (fun _ => ?_) (fun _ => ?_)) | (simp only [SSd, List.getElem?_toArray, List.getElem?_cons_zero, List.getElem?_cons_succ, Nat.zero_add, Nat.add_zero, Nat.zero_mul, List.drop_succ_cons, List.drop_zero, List.take_succ_cons, List.take_zero, List.nil_append, List.cons_append, Nat.reduceAdd, List.drop_nil, List.take_nil]))
    rw [show (if m.index > r.mt m.frm then m.index else r.mt m.frm) = max (r.mt m.frm) m.index by split <;> omega]
    refine stL (rc_smt hfr) (by rw [rc_len]; omega) rfl ?_
    try simp only [SSd, List.getElem?_toArray, List.getElem?_cons_zero, List.getElem?_cons_succ, Nat.zero_add, Nat.add_zero, Nat.zero_mul, List.drop_succ_cons, List.drop_zero, List.take_succ_cons, List.take_zero, List.nil_append, List.cons_append, Nat.reduceAdd, List.drop_nil, List.take_nil]
    refine rdL (rc_mt hfr) ?_
    simp only [updI_same, SSd, List.getElem?_toArray, List.getElem?_cons_zero, List.getElem?_cons_succ, Nat.zero_add, Nat.add_zero, Nat.zero_mul, List.drop_succ_cons, List.drop_zero, List.take_succ_cons, List.take_zero, List.nil_append, List.cons_append, Nat.reduceAdd, List.drop_nil, List.take_nil, wrap_i64 (max (r.mt m.frm) m.index + 1) (by omega)]
    refine stL (rc_snx hfr) (by rw [rc_len]; omega) rfl ?_
    simp only at hk
    generalize hr1 : ({ r with mt := updI r.mt m.frm (max (r.mt m.frm) m.index), nx := updI r.nx m.frm (max (r.mt m.frm) m.index + 1) } : RF) = r1 at *
    have hg : r1.g = r.g := by rw [← hr1]
    have hst : r1.st = r.st := by rw [← hr1]
    have hou : r1.out = r.out := by rw [← hr1]
    have hw' : RWF E B r1 := by
      rw [← hr1]
      exact ⟨hw.wf, hw.len, hw.grp, hw.idn, hw.trm, hw.vot, hw.lst, hw.stl, hw.ela, fun p => by simp only [updI]; split <;> first | omega | exact hw.nxb p, fun p => by simp only [updI]; split <;> first | omega | exact hw.mtb p⟩
    refine call (raft_cal (r := r1) b ((m1, Obj.cells (mcells m (.slice a0 m.ents.length p0) (.slice a1 m.mem.length p1) (.slice a2 m.data.length p2)).toArray 77 (0, 0)) :: F) z0 z1 z2 (by rw [hg]; exact h1) (by rw [hst]; exact h2) (by rw [hou]; exact h3) (by rw [hou]; exact h4) rfl (fun X hX => ?_))
    refine commit_specR hX hw' (fun X' I1 hI1 hX' => ?_)
    have hwc := hw'.commit
    have hoc := commit_out r1
    generalize commitF r1 = cc at *
    refine br_split (fun hc => ?_) (fun hc => ?_)
    · rw [hc, if_pos rfl] at hk
      exact call (sendAll_spec hX' hwc (by rw [hoc, hou]; omega) (fun X2 I2 hI2 hX2 => Gh.to (X2 ++ F) (Gh.done (hk X2 I2 (hI1.trans hI2) hX2))))
    rw [hc, if_neg (by simp)] at hk
    clear h1 h2 h3 h4 hX
    have hXc := hX'
    obtain ⟨lb, XL, XO, stv, ov, z0, z1, z2, oc, rfl, h1, h2, h3, h4⟩ := hX'
    simp only [List.cons_append, List.append_assoc, SSd, List.getElem?_toArray, List.getElem?_cons_zero, List.getElem?_cons_succ, Nat.zero_add, Nat.add_zero, Nat.zero_mul, List.drop_succ_cons, List.drop_zero, List.take_succ_cons, List.take_zero, List.nil_append, List.cons_append, Nat.reduceAdd, List.drop_nil, List.take_nil]
    refine rdb ?_
    try simp only [SSd, List.getElem?_toArray, List.getElem?_cons_zero, List.getElem?_cons_succ, Nat.zero_add, Nat.add_zero, Nat.zero_mul, List.drop_succ_cons, List.drop_zero, List.take_succ_cons, List.take_zero, List.nil_append, List.cons_append, Nat.reduceAdd, List.drop_nil, List.take_nil]
    refine gd_split (fun hro => ?_) (fun hro => ?_)
    · simp at hro
      try simp only [SSd, List.getElem?_toArray, List.getElem?_cons_zero, List.getElem?_cons_succ, Nat.zero_add, Nat.add_zero, Nat.zero_mul, List.drop_succ_cons, List.drop_zero, List.take_succ_cons, List.take_zero, List.nil_append, List.cons_append, Nat.reduceAdd, List.drop_nil, List.take_nil]
      refine rdL (rc_nx hfr) ?_
      try simp only [SSd, List.getElem?_toArray, List.getElem?_cons_zero, List.getElem?_cons_succ, Nat.zero_add, Nat.add_zero, Nat.zero_mul, List.drop_succ_cons, List.drop_zero, List.take_succ_cons, List.take_zero, List.nil_append, List.cons_append, Nat.reduceAdd, List.drop_nil, List.take_nil]
      refine br_split (fun hn => ?_) (fun hn => ?_)
      · simp at hn
        rw [if_pos ⟨hro, hn⟩] at hk
        unfold sh97_2
        repeat' (first | (with_reducible refine drawC ?_) | (with_reducible refine drawW1 ?_) | (with_reducible refine drawW2 ?_) | (with_reducible refine keepC (by repeat (first | exact Ext.refl _ | assumption | refine Ext.trans ?_ (by assumption))) ?_) | (with_reducible refine newI (fun _ => ?_)) | first | (with_reducible refine rdb ?_) | ((with_reducible refine st1 ?_ ?_); rfl) | ((with_reducible refine rdB ?_ ?_); rfl) | (with_reducible refine rdbS ?_) | ((with_reducible refine rdBS ?_ ?_); rfl) | ((with_reducible refine stB ?_ ?_ ?_ ?_); rfl; rfl; exact one_all rfl) | ((with_reducible refine rdP _ rfl ?_ ?_); rfl) | ((with_reducible refine rdPS _ rfl ?_ ?_); rfl) | ((with_reducible refine stP _ rfl ?_ ?_ ?_ ?_); rfl; rfl; rfl) | (with_reducible refine And.intro ?_ ?_) | (simp only [Bool.not_true, Bool.not_false, Bool.and_self, Bool.true_and, Int.reduceBEq, Int.reduceBNe, Int.reduceLT, Int.reduceLE, decide_true, decide_false, Br_true, Br_false, Gd_tt, Gd_ft, Gd_tf, Gd_ff, beq_self_eq_true, bne_self_eq_false]) | (with_reducible refine gd_split (fun _ => ?_) (fun _ => ?_)) | (with_reducible refine br_split (fun _ => ?_) (fun _ => ?_)) | (simp only [SSd, List.getElem?_toArray, List.getElem?_cons_zero, List.getElem?_cons_succ, Nat.zero_add, Nat.add_zero, Nat.zero_mul, List.drop_succ_cons, List.drop_zero, List.take_succ_cons, List.take_zero, List.nil_append, List.cons_append, Nat.reduceAdd, List.drop_nil, List.take_nil]))
        refine call (raft_cal (r := cc.2) b F z0 z1 z2 h1 h2 h3 h4 rfl (fun X hX => ?_))
        exact sendTo_spec hX hwc hfr (by rw [hoc, hou]; omega) (fun X' I2 hI2 hX' => Gh.done (hk X' I2 (hI1.trans hI2) hX'))
      · simp at hn
        rw [if_neg (by omega)] at hk
        exact raft_end (r := cc.2) (F := F) z0 z1 z2 (fun X' h' => hk X' I1 hI1 h') h1 h2 h3 h4 rfl
    · have hro : ¬ cc.2.role = 3 := by simpa using hro
      rw [if_neg (fun h => hro h.1)] at hk
      exact raft_end (r := cc.2) (F := F) z0 z1 z2 (fun X' h' => hk X' I1 hI1 h') h1 h2 h3 h4 rfl
  · simp at hle
    rw [appendedF, if_neg hok, if_pos (by omega)] at hk
    exact raft_end (r := r) (F := F) z0 z1 z2 (fun X' h' => hk X' I (Ext.refl I) h') h1 h2 h3 h4 rfl
end
end Go.Proofs.Ytdcpeboecmkmlaa
