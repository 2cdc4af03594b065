/-
  The document's node: which messages may be.
-/
-- S3
import Derived.Test.YtdcpeboecmkmlaaGreatNC
set_option linter.unusedSimpArgs false
set_option linter.unusedVariables false
namespace Go.Proofs.YtdcpeboecmkmlaaGreat
open Go.SL
set_option maxRecDepth 10000

section
variable {ω : Om} {I : Imm} {L : LH} {K : Value → M}

/-- the entries of an append -/
theorem qright7_spec {b : Nat} {m : RM} {ev mv dv : Value} (hE : Ents I ev m.ents) (h64 : m.ents.length ≤ 64) (hi : countB m.index = true) (hk : ∀ I', Ext I I' → K (.bool (entsAll m.index m.term m.ents)) I' L) :
    LoopM ((.bool false, .int .i64 0, ()) : Value × Value × Unit) (fun s Kn0 => sh45_7 ω (.pointer (some ⟨b, 0, none⟩)) s.1 s.2.1 Kn0 (fun v => Gh (K v))) I ((b, Obj.cells (mcells m ev mv dv).toArray 34 (0, 0)) :: L) := by
  have hi2 : 0 ≤ m.index ∧ m.index ≤ 9007199254740991 := by simpa [countB] using hi
  have hln := RL.len hE
  refine loop (fun mm s I' L' => Ext I I' ∧ L' = (b, Obj.cells (mcells m ev mv dv).toArray 34 (0, 0)) :: L ∧ ∃ k : Nat, k + mm = m.ents.length ∧ s = (.bool false, .int .i64 k, ()) ∧ entsAll (m.index + k) m.term (m.ents.drop k) = entsAll m.index m.term m.ents) m.ents.length ⟨Ext.refl _, rfl, 0, by omega, rfl, by simp⟩ ?_
  rintro mm s I' L' ⟨hI, rfl, k, hkm, rfl, hg⟩
  unfold sh45_7
  try simp only [SSd, List.getElem?_toArray, List.getElem?_cons_zero, List.getElem?_cons_succ, Nat.zero_add, Nat.add_zero, Nat.zero_mul, List.drop_succ_cons, List.drop_zero, List.take_succ_cons, List.take_zero, List.nil_append, List.cons_append, Nat.reduceAdd, List.drop_nil, List.take_nil]
  refine rdb ?_
  simp only [hln, SSd, List.getElem?_toArray, List.getElem?_cons_zero, List.getElem?_cons_succ, Nat.zero_add, Nat.add_zero, Nat.zero_mul, List.drop_succ_cons, List.drop_zero, List.take_succ_cons, List.take_zero, List.nil_append, List.cons_append, Nat.reduceAdd, List.drop_nil, List.take_nil]
  refine br_split (fun hlt => ?_) (fun hlt => ?_)
  · simp at hlt
    obtain ⟨b2, off, cs, hix, hcl, ⟨ddv, rfl, hB⟩, hc⟩ := RL.ix hE (i := k) (by omega) (by omega)
    refine rdb ?_
    simp only [hix, SSd, List.getElem?_toArray, List.getElem?_cons_zero, List.getElem?_cons_succ, Nat.zero_add, Nat.add_zero, Nat.zero_mul, List.drop_succ_cons, List.drop_zero, List.take_succ_cons, List.take_zero, List.nil_append, List.cons_append, Nat.reduceAdd, List.drop_nil, List.take_nil]
    refine rdN rfl (hc I' _ hI (fun _ h => by cases h)) ?_
    refine call (rentry_spec (e := geti m.ents (k : Int)) ⟨_, rfl, hB.mono hI⟩ (fun I2 hI2 => ?_))
    rw [drop_geti hlt, entsAll] at hg
    have hc2 := hc I2 ((b, Obj.cells (mcells m ev mv dv).toArray 34 (0, 0)) :: L) (hI.trans hI2) (fun _ h => by cases h)
    have c0 := hc2 0 _ rfl
    have c1 := hc2 1 _ rfl
    simp only [Nat.add_zero] at c0
    have bad : (entB (geti m.ents (k : Int)) && ((geti m.ents (k : Int)).index == m.index + k + 1) && decide ((geti m.ents (k : Int)).term ≤ m.term)) = false → entsAll m.index m.term m.ents = false := fun hb => by
      rw [← hg, hb]; simp
    refine drawC ?_
    try simp only [SSd, List.getElem?_toArray, List.getElem?_cons_zero, List.getElem?_cons_succ, Nat.zero_add, Nat.add_zero, Nat.zero_mul, List.drop_succ_cons, List.drop_zero, List.take_succ_cons, List.take_zero, List.nil_append, List.cons_append, Nat.reduceAdd, List.drop_nil, List.take_nil]
    refine gd_split (fun hn => ?_) (fun hn => ?_)
    · refine rdbS ?_
      simp only [hix, SSd, List.getElem?_toArray, List.getElem?_cons_zero, List.getElem?_cons_succ, Nat.zero_add, Nat.add_zero, Nat.zero_mul, List.drop_succ_cons, List.drop_zero, List.take_succ_cons, List.take_zero, List.nil_append, List.cons_append, Nat.reduceAdd, List.drop_nil, List.take_nil]
      refine rd1I c0 ?_
      try simp only [SSd, List.getElem?_toArray, List.getElem?_cons_zero, List.getElem?_cons_succ, Nat.zero_add, Nat.add_zero, Nat.zero_mul, List.drop_succ_cons, List.drop_zero, List.take_succ_cons, List.take_zero, List.nil_append, List.cons_append, Nat.reduceAdd, List.drop_nil, List.take_nil]
      refine rdbS ?_
      simp only [SSd, List.getElem?_toArray, List.getElem?_cons_zero, List.getElem?_cons_succ, Nat.zero_add, Nat.add_zero, Nat.zero_mul, List.drop_succ_cons, List.drop_zero, List.take_succ_cons, List.take_zero, List.nil_append, List.cons_append, Nat.reduceAdd, List.drop_nil, List.take_nil, wrap_i64 (m.index + 1) (by omega), wrap_i64 (m.index + 1 + k) (by omega)]
      refine gd_split (fun hn2 => ?_) (fun hn2 => ?_)
      · refine rdbS ?_
        simp only [hix, SSd, List.getElem?_toArray, List.getElem?_cons_zero, List.getElem?_cons_succ, Nat.zero_add, Nat.add_zero, Nat.zero_mul, List.drop_succ_cons, List.drop_zero, List.take_succ_cons, List.take_zero, List.nil_append, List.cons_append, Nat.reduceAdd, List.drop_nil, List.take_nil]
        refine rd1I c1 ?_
        try simp only [SSd, List.getElem?_toArray, List.getElem?_cons_zero, List.getElem?_cons_succ, Nat.zero_add, Nat.add_zero, Nat.zero_mul, List.drop_succ_cons, List.drop_zero, List.take_succ_cons, List.take_zero, List.nil_append, List.cons_append, Nat.reduceAdd, List.drop_nil, List.take_nil]
        refine rdbS ?_
        try simp only [SSd, List.getElem?_toArray, List.getElem?_cons_zero, List.getElem?_cons_succ, Nat.zero_add, Nat.add_zero, Nat.zero_mul, List.drop_succ_cons, List.drop_zero, List.take_succ_cons, List.take_zero, List.nil_append, List.cons_append, Nat.reduceAdd, List.drop_nil, List.take_nil]
        refine br_split (fun hn3 => ?_) (fun hn3 => ?_)
        · refine Gh.to L (Gh.done (leafB (hk I2 (hI.trans hI2)) (bad ?_)))
          simp at hn3; simp; omega
        · simp only [wrap_i64 ((k : Int) + 1) (by omega)]
          refine Gh.done ⟨mm - 1, by omega, hI.trans hI2, rfl, k + 1, by omega, by simp, ?_⟩
          simp at hn hn2 hn3
          rw [← hg, hn, hn2, decide_eq_true hn3, show m.index + ((k + 1 : Nat) : Int) = m.index + k + 1 by omega]
          simp; omega
      · refine Gh.to L (Gh.done (leafB (hk I2 (hI.trans hI2)) (bad ?_)))
        simp at hn2; simp; omega
    · refine Gh.to L (Gh.done (leafB (hk I2 (hI.trans hI2)) (bad ?_)))
      simp at hn; simp [hn]
  · simp at hlt
    rw [List.drop_of_length_le (by omega), entsAll] at hg
    refine Gh.to L (Gh.done (leafB (hk I' hI) ?_))
    rw [← hg]

theorem qright2_spec {b : Nat} {m : RM} {nb : Bool} {ev mv dv : Value} (hnb : nb = (((m.mem.length : Int) == 0) && ((m.data.length : Int) == 0))) (h1 : m.kind = 1) (hk : K (.bool (kindB m (placeB m) (bareB m))) I L) :
    sh45_2 ω (.pointer (some ⟨b, 0, none⟩)) (.bool false) (.bool ((m.ents.length : Int) == 0)) (.bool nb) (fun v => Gh (K v)) I ((b, Obj.cells (mcells m ev mv dv).toArray 34 (0, 0)) :: L) := by
  unfold sh45_2
  repeat' (first | (with_reducible refine drawC ?_) | (with_reducible refine drawW1 ?_) | (with_reducible refine drawW2 ?_) | (with_reducible refine keepC (by repeat (first | exact Ext.refl _ | assumption | refine Ext.trans ?_ (by assumption))) ?_) | (with_reducible refine newI (fun _ => ?_)) | first | (with_reducible refine rdb ?_) | ((with_reducible refine st1 ?_ ?_); rfl) | ((with_reducible refine rdB ?_ ?_); rfl) | (with_reducible refine rdbS ?_) | ((with_reducible refine rdBS ?_ ?_); rfl) | ((with_reducible refine stB ?_ ?_ ?_ ?_); rfl; rfl; exact one_all rfl) | ((with_reducible refine rdP _ rfl ?_ ?_); rfl) | ((with_reducible refine rdPS _ rfl ?_ ?_); rfl) | ((with_reducible refine stP _ rfl ?_ ?_ ?_ ?_); rfl; rfl; rfl) | (with_reducible refine And.intro ?_ ?_) | (simp only [Bool.not_true, Bool.not_false, Bool.and_self, Bool.true_and, Int.reduceBEq, Int.reduceBNe, Int.reduceLT, Int.reduceLE, decide_true, decide_false, Br_true, Br_false, Gd_tt, Gd_ft, Gd_tf, Gd_ff, beq_self_eq_true, bne_self_eq_false]) | (with_reducible refine gd_split (fun _ => ?_) (fun _ => ?_)) | (with_reducible refine br_split (fun _ => ?_) (fun _ => ?_)) | (simp only [SSd, List.getElem?_toArray, List.getElem?_cons_zero, List.getElem?_cons_succ, Nat.zero_add, Nat.add_zero, Nat.zero_mul, List.drop_succ_cons, List.drop_zero, List.take_succ_cons, List.take_zero, List.nil_append, List.cons_append, Nat.reduceAdd, List.drop_nil, List.take_nil]))
  all_goals refine Gh.to L (Gh.done (leafB hk ?_))
  all_goals (clear hk; subst hnb; simp_all [kindB, bareB])

set_option maxHeartbeats 1000000 in
theorem qright3_spec {b : Nat} {m : RM} {nb pl : Bool} {a0 a1 a2 : Option Addr} {p0 p1 p2 : Nat} (hE : Ents I (.slice a0 m.ents.length p0) m.ents) (hM : Ints I (.slice a1 m.mem.length p1) m.mem) (hi : countB m.index = true)
    (hpl : pl = placeB m) (hnb : nb = (((m.mem.length : Int) == 0) && ((m.data.length : Int) == 0))) (h1 : m.kind ≠ 1) (hk : ∀ I', Ext I I' → K (.bool (kindB m (placeB m) (bareB m))) I' L) :
    sh45_3 ω (.pointer (some ⟨b, 0, none⟩)) (.bool false) (.bool pl) (.bool ((m.ents.length : Int) == 0)) (.bool nb) (.int .i64 m.kind) (fun v => Gh (K v)) I
      ((b, Obj.cells (mcells m (.slice a0 m.ents.length p0) (.slice a1 m.mem.length p1) (.slice a2 m.data.length p2)).toArray 34 (0, 0)) :: L) := by
  unfold sh45_3
  repeat' (first | (with_reducible refine drawC ?_) | (with_reducible refine drawW1 ?_) | (with_reducible refine drawW2 ?_) | (with_reducible refine keepC (by repeat (first | exact Ext.refl _ | assumption | refine Ext.trans ?_ (by assumption))) ?_) | (with_reducible refine newI (fun _ => ?_)) | ((with_reducible refine call ?_); refine (rmembers_spec hM ?_)) | first | (with_reducible refine rdb ?_) | ((with_reducible refine st1 ?_ ?_); rfl) | ((with_reducible refine rdB ?_ ?_); rfl) | (with_reducible refine rdbS ?_) | ((with_reducible refine rdBS ?_ ?_); rfl) | ((with_reducible refine stB ?_ ?_ ?_ ?_); rfl; rfl; exact one_all rfl) | ((with_reducible refine rdP _ rfl ?_ ?_); rfl) | ((with_reducible refine rdPS _ rfl ?_ ?_); rfl) | ((with_reducible refine stP _ rfl ?_ ?_ ?_ ?_); rfl; rfl; rfl) | (with_reducible refine And.intro ?_ ?_) | (simp only [Bool.not_true, Bool.not_false, Bool.and_self, Bool.true_and, Int.reduceBEq, Int.reduceBNe, Int.reduceLT, Int.reduceLE, decide_true, decide_false, Br_true, Br_false, Gd_tt, Gd_ft, Gd_tf, Gd_ff, beq_self_eq_true, bne_self_eq_false]) | (with_reducible refine gd_split (fun _ => ?_) (fun _ => ?_)) | (with_reducible refine br_split (fun _ => ?_) (fun _ => ?_)) | (simp only [SSd, List.getElem?_toArray, List.getElem?_cons_zero, List.getElem?_cons_succ, Nat.zero_add, Nat.add_zero, Nat.zero_mul, List.drop_succ_cons, List.drop_zero, List.take_succ_cons, List.take_zero, List.nil_append, List.cons_append, Nat.reduceAdd, List.drop_nil, List.take_nil]))
  all_goals first
    | (refine Gh.to L (Gh.done (leafB (hk I (Ext.refl I)) ?_))
       clear hk; subst hnb hpl; simp_all [kindB, bareB, placeB, entsB]; done)
    | (refine Gh.to L (Gh.done (leafB (hk I (Ext.refl I)) ?_))
       clear hk; subst hnb hpl; simp_all [kindB, bareB, placeB, entsB]; omega)
    | skip
  refine qright7_spec hE (by clear hk; simp_all; omega) hi (fun I' hI' => leafB (hk I' hI') ?_)
  clear hk
  subst hnb hpl
  have h64 : m.ents.length ≤ 64 := by simp_all; omega
  simp_all [kindB, bareB, placeB, entsB]

set_option maxHeartbeats 1000000 in
theorem qright_spec {m : RM} {c : List Value} (hm : MsgV I m c) (hk : ∀ I', Ext I I' → K (.bool (rightB m)) I' L) : Cal Tryz.prog ω 45 #[.agg c.toArray] K I L := by
  obtain ⟨a0, p0, a1, p1, a2, p2, rfl, hE, hM, hD⟩ := hm.form
  refine cal45 ?_
  unfold sh45
  repeat' (first | (with_reducible refine drawC ?_) | (with_reducible refine drawW1 ?_) | (with_reducible refine drawW2 ?_) | (with_reducible refine keepC (by repeat (first | exact Ext.refl _ | assumption | refine Ext.trans ?_ (by assumption))) ?_) | (with_reducible refine newI (fun _ => ?_)) | ((with_reducible refine call ?_); refine (rcount_spec ?_)) | ((with_reducible refine call ?_); refine (rnode_spec ?_)) | first | (with_reducible refine rdb ?_) | ((with_reducible refine st1 ?_ ?_); rfl) | ((with_reducible refine rdB ?_ ?_); rfl) | (with_reducible refine rdbS ?_) | ((with_reducible refine rdBS ?_ ?_); rfl) | ((with_reducible refine stB ?_ ?_ ?_ ?_); rfl; rfl; exact one_all rfl) | ((with_reducible refine rdP _ rfl ?_ ?_); rfl) | ((with_reducible refine rdPS _ rfl ?_ ?_); rfl) | ((with_reducible refine stP _ rfl ?_ ?_ ?_ ?_); rfl; rfl; rfl) | (with_reducible refine And.intro ?_ ?_) | (simp only [Bool.not_true, Bool.not_false, Bool.and_self, Bool.true_and, Int.reduceBEq, Int.reduceBNe, Int.reduceLT, Int.reduceLE, decide_true, decide_false, Br_true, Br_false, Gd_tt, Gd_ft, Gd_tf, Gd_ff, beq_self_eq_true, bne_self_eq_false]) | (with_reducible refine gd_split (fun _ => ?_) (fun _ => ?_)) | (with_reducible refine br_split (fun _ => ?_) (fun _ => ?_)) | (simp only [SSd, List.getElem?_toArray, List.getElem?_cons_zero, List.getElem?_cons_succ, Nat.zero_add, Nat.add_zero, Nat.zero_mul, List.drop_succ_cons, List.drop_zero, List.take_succ_cons, List.take_zero, List.nil_append, List.cons_append, Nat.reduceAdd, List.drop_nil, List.take_nil]))
  all_goals first
    | (refine Gh.to L (Gh.done (leafB (hk I (Ext.refl I)) ?_))
       clear hk hE hM hD hm; rw [Bool.eq_false_iff]; simp_all [rightB]; done)
    | (refine Gh.to L (Gh.done (leafB (hk I (Ext.refl I)) ?_))
       clear hk hE hM hD hm; rw [Bool.eq_false_iff]; simp_all [rightB] <;> (first | omega | (intros; omega) | (exfalso; omega)))
    | skip
  all_goals (
    have hrr : rightB m = kindB m (placeB m) (bareB m) := by
      clear hk hE hM hD hm
      simp_all [rightB] <;> (first | omega | (intros; omega) | (exfalso; omega))
    rw [hrr] at hk)
  all_goals first
    | exact qright2_spec (by clear hk hE hM hD hm hrr; simp_all) (by clear hk hE hM hD hm hrr; simp_all) (hk I (Ext.refl I))
    | exact qright3_spec hE hM (by clear hk hE hM hD hm hrr; simp_all) (by clear hk hE hM hD hm hrr; simp_all [placeB]) (by clear hk hE hM hD hm hrr; simp_all) (by clear hk hE hM hD hm hrr; simp_all) hk
end
end Go.Proofs.YtdcpeboecmkmlaaGreat

namespace Go.Proofs.YtdcpeboecmkmlaaGreat
open Go.SL
set_option maxRecDepth 10000

section
variable {ω : Om} {I : Imm} {L : LH} {K : Value → M}

theorem qstep2_spec {b m1 E B : Nat} {X F : LH} {r : RF} {m : RM} {a0 a1 a2 : Option Addr} {p0 p1 p2 : Nat} {I0 : Imm} (hI0 : Ext I0 I) (h : RaftQ I b X r) (hw : RWF E B r) (hE : (E + 64) * 48 ≤ 150000000000000) (ho : r.out = [])
    (hm : MsgV I m (mcells m (.slice a0 m.ents.length p0) (.slice a1 m.mem.length p1) (.slice a2 m.data.length p2))) (hr : RB m)
    (hk : ∀ X' I', Ext I0 I' → RaftQ I' b X' (if m.term < r.term then refuseF r m else handleF r m) → K (.int .i64 0) I' (X' ++ F)) :
    sh9_2 ω (.pointer (some ⟨b, 0, none⟩)) (.pointer (some ⟨m1, 0, none⟩)) (.int .i64 0) (fun v => Gh (K v)) I
      ((m1, Obj.cells (mcells m (.slice a0 m.ents.length p0) (.slice a1 m.mem.length p1) (.slice a2 m.data.length p2)).toArray 34 (0, 0)) :: (X ++ F)) := by
  have hX := h
  obtain ⟨lb, XL, XO, stv, ov, z0, z1, z2, oc, rfl, h1, h2, h3, h4⟩ := h
  have hol : r.out.length = 0 := by rw [ho]; rfl
  unfold sh9_2
  simp only [List.cons_append, List.append_assoc]
  have back : ∀ {K : Value → M} {f : FuncId} {args : Array Value}, (∀ X, RaftQ I b X r → Cal Tryz.prog ω f args K I (X ++ ((m1, Obj.cells (mcells m (.slice a0 m.ents.length p0) (.slice a1 m.mem.length p1) (.slice a2 m.data.length p2)).toArray 34 (0, 0)) :: F))) →
      Cal Tryz.prog ω f args K I ((m1, Obj.cells (mcells m (.slice a0 m.ents.length p0) (.slice a1 m.mem.length p1) (.slice a2 m.data.length p2)).toArray 34 (0, 0)) :: (b, Obj.cells (qcells r z0 z1 z2 (.pointer (some ⟨lb, 0, none⟩)) stv ov).toArray 63 (0, 0)) :: (XL ++ (XO ++ F))) :=
    fun hc => raftq_cal (r := r) b _ z0 z1 z2 h1 h2 h3 h4 rfl hc
  have same : (∀ X' I', Ext I0 I' → RaftQ I' b X' r → K (.int .i64 0) I' (X' ++ F)) → Gh (K (.int .i64 0)) I ((m1, Obj.cells (mcells m (.slice a0 m.ents.length p0) (.slice a1 m.mem.length p1) (.slice a2 m.data.length p2)).toArray 34 (0, 0)) :: (b, Obj.cells (qcells r z0 z1 z2 (.pointer (some ⟨lb, 0, none⟩)) stv ov).toArray 63 (0, 0)) :: (XL ++ (XO ++ F))) :=
    fun hk => raftq_end (r := r) (F := F) z0 z1 z2 (fun X' h' => hk X' I hI0 h') h1 h2 h3 h4 rfl
  -- a message that is sent last
  have snd : ∀ (mm : RM), sendF r mm = (if m.term < r.term then refuseF r m else handleF r m) → ∀ c, MsgV I mm c → Cal Tryz.prog ω 47 #[.pointer (some ⟨b, 0, none⟩), .agg c.toArray] (gh fun _ => Gh (K (.int .i64 0))) I ((m1, Obj.cells (mcells m (.slice a0 m.ents.length p0) (.slice a1 m.mem.length p1) (.slice a2 m.data.length p2)).toArray 34 (0, 0)) :: (b, Obj.cells (qcells r z0 z1 z2 (.pointer (some ⟨lb, 0, none⟩)) stv ov).toArray 63 (0, 0)) :: (XL ++ (XO ++ F))) := by
    intro mm e c hc
    refine call (back (fun X hX => qsend_spec hX hc (by omega) (fun X' hX' => ?_)))
    rw [e] at hX'
    exact Gh.to (X' ++ F) (Gh.done (hk X' I hI0 hX'))
  have ask8 : ∀ (r' : RF) (yes : Bool), grantB r m = yes → r'.g = r.g → r'.st = r.st → r'.out = r.out → sendF r' (votedM m yes) = (if m.term < r.term then refuseF r m else handleF r m) →
      sh9_8 ω (.pointer (some ⟨b, 0, none⟩)) (.pointer (some ⟨m1, 0, none⟩)) (.int .i64 0) (.bool yes) (fun v => Gh (K v)) I ((m1, Obj.cells (mcells m (.slice a0 m.ents.length p0) (.slice a1 m.mem.length p1) (.slice a2 m.data.length p2)).toArray 34 (0, 0)) ::
        (b, Obj.cells (qcells r' z0 z1 z2 (.pointer (some ⟨lb, 0, none⟩)) stv ov).toArray 63 (0, 0)) :: (XL ++ (XO ++ F))) := by
    intro r' yes hy e1 e2 e3 e4
    unfold sh9_8
    repeat' (first | (with_reducible refine drawC ?_) | (with_reducible refine drawW1 ?_) | (with_reducible refine drawW2 ?_) | (with_reducible refine keepC (by repeat (first | exact Ext.refl _ | assumption | refine Ext.trans ?_ (by assumption))) ?_) | (with_reducible refine newI (fun _ => ?_)) | first | (with_reducible refine rdb ?_) | ((with_reducible refine st1 ?_ ?_); rfl) | ((with_reducible refine rdB ?_ ?_); rfl) | (with_reducible refine rdbS ?_) | ((with_reducible refine rdBS ?_ ?_); rfl) | ((with_reducible refine stB ?_ ?_ ?_ ?_); rfl; rfl; exact one_all rfl) | ((with_reducible refine rdP _ rfl ?_ ?_); rfl) | ((with_reducible refine rdPS _ rfl ?_ ?_); rfl) | ((with_reducible refine stP _ rfl ?_ ?_ ?_ ?_); rfl; rfl; rfl) | (with_reducible refine And.intro ?_ ?_) | (simp only [Bool.not_true, Bool.not_false, Bool.and_self, Bool.true_and, Int.reduceBEq, Int.reduceBNe, Int.reduceLT, Int.reduceLE, decide_true, decide_false, Br_true, Br_false, Gd_tt, Gd_ft, Gd_tf, Gd_ff, beq_self_eq_true, bne_self_eq_false]) | (with_reducible refine gd_split (fun _ => ?_) (fun _ => ?_)) | (with_reducible refine br_split (fun _ => ?_) (fun _ => ?_)) | (simp only [SSd, List.getElem?_toArray, List.getElem?_cons_zero, List.getElem?_cons_succ, Nat.zero_add, Nat.add_zero, Nat.zero_mul, List.drop_succ_cons, List.drop_zero, List.take_succ_cons, List.take_zero, List.nil_append, List.cons_append, Nat.reduceAdd, List.drop_nil, List.take_nil]))
    refine call (raftq_cal (r := r') b F z0 z1 z2 (by rw [e1]; exact h1) (by rw [e2]; exact h2) (by rw [e3]; exact h3) (by rw [e3]; exact h4) rfl (fun X hX => ?_))
    refine qsend_spec (m := votedM m yes) hX ⟨_, _, _, rfl, RL.nil _ _, SlI.nil _ _ _ _, SlI.nil _ _ _ _⟩ (by rw [e3]; omega) (fun X' hX' => Gh.done (hk X' I hI0 ?_))
    rw [← e4]; exact hX'
  have ask9 : handleF r m = askedF r m → ¬ m.term < r.term → grantB r m = true →
      sh9_9 ω (.pointer (some ⟨b, 0, none⟩)) (.pointer (some ⟨m1, 0, none⟩)) (.int .i64 0) (.bool true) (fun v => Gh (K v)) I ((m1, Obj.cells (mcells m (.slice a0 m.ents.length p0) (.slice a1 m.mem.length p1) (.slice a2 m.data.length p2)).toArray 34 (0, 0)) ::
        (b, Obj.cells (qcells r z0 z1 z2 (.pointer (some ⟨lb, 0, none⟩)) stv ov).toArray 63 (0, 0)) :: (XL ++ (XO ++ F))) := by
    intro hh hlt hy
    unfold sh9_9
    repeat' (first | (with_reducible refine drawC ?_) | (with_reducible refine drawW1 ?_) | (with_reducible refine drawW2 ?_) | (with_reducible refine keepC (by repeat (first | exact Ext.refl _ | assumption | refine Ext.trans ?_ (by assumption))) ?_) | (with_reducible refine newI (fun _ => ?_)) | first | (with_reducible refine rdb ?_) | ((with_reducible refine st1 ?_ ?_); rfl) | ((with_reducible refine rdB ?_ ?_); rfl) | (with_reducible refine rdbS ?_) | ((with_reducible refine rdBS ?_ ?_); rfl) | ((with_reducible refine stB ?_ ?_ ?_ ?_); rfl; rfl; exact one_all rfl) | ((with_reducible refine rdP _ rfl ?_ ?_); rfl) | ((with_reducible refine rdPS _ rfl ?_ ?_); rfl) | ((with_reducible refine stP _ rfl ?_ ?_ ?_ ?_); rfl; rfl; rfl) | (with_reducible refine And.intro ?_ ?_) | (simp only [Bool.not_true, Bool.not_false, Bool.and_self, Bool.true_and, Int.reduceBEq, Int.reduceBNe, Int.reduceLT, Int.reduceLE, decide_true, decide_false, Br_true, Br_false, Gd_tt, Gd_ft, Gd_tf, Gd_ff, beq_self_eq_true, bne_self_eq_false]) | (with_reducible refine gd_split (fun _ => ?_) (fun _ => ?_)) | (with_reducible refine br_split (fun _ => ?_) (fun _ => ?_)) | (simp only [SSd, List.getElem?_toArray, List.getElem?_cons_zero, List.getElem?_cons_succ, Nat.zero_add, Nat.add_zero, Nat.zero_mul, List.drop_succ_cons, List.drop_zero, List.take_succ_cons, List.take_zero, List.nil_append, List.cons_append, Nat.reduceAdd, List.drop_nil, List.take_nil]))
    exact ask8 { r with vote := m.frm, elapsed := 0 } true hy rfl rfl rfl (by rw [if_neg hlt, hh, askedF, hy]; rfl)
  have ask7 : handleF r m = askedF r m → ¬ m.term < r.term → grantB r m = false →
      sh9_8 ω (.pointer (some ⟨b, 0, none⟩)) (.pointer (some ⟨m1, 0, none⟩)) (.int .i64 0) (.bool false) (fun v => Gh (K v)) I ((m1, Obj.cells (mcells m (.slice a0 m.ents.length p0) (.slice a1 m.mem.length p1) (.slice a2 m.data.length p2)).toArray 34 (0, 0)) ::
        (b, Obj.cells (qcells r z0 z1 z2 (.pointer (some ⟨lb, 0, none⟩)) stv ov).toArray 63 (0, 0)) :: (XL ++ (XO ++ F))) :=
    fun hh hlt hy => ask8 r false hy rfl rfl rfl (by rw [if_neg hlt, hh, askedF, hy]; rfl)
  repeat' (first | (with_reducible refine drawC ?_) | (with_reducible refine drawW1 ?_) | (with_reducible refine drawW2 ?_) | (with_reducible refine keepC (by repeat (first | exact Ext.refl _ | assumption | refine Ext.trans ?_ (by assumption))) ?_) | (with_reducible refine newI (fun _ => ?_)) | ((with_reducible refine call ?_); refine (rnewer_spec h1.view hw.wf ?_)) | first | (with_reducible refine rdb ?_) | ((with_reducible refine st1 ?_ ?_); rfl) | ((with_reducible refine rdB ?_ ?_); rfl) | (with_reducible refine rdbS ?_) | ((with_reducible refine rdBS ?_ ?_); rfl) | ((with_reducible refine stB ?_ ?_ ?_ ?_); rfl; rfl; exact one_all rfl) | ((with_reducible refine rdP _ rfl ?_ ?_); rfl) | ((with_reducible refine rdPS _ rfl ?_ ?_); rfl) | ((with_reducible refine stP _ rfl ?_ ?_ ?_ ?_); rfl; rfl; rfl) | (with_reducible refine unfE (sh9_5.eq_1 ..) ?_) | (with_reducible refine And.intro ?_ ?_) | (simp only [Bool.not_true, Bool.not_false, Bool.and_self, Bool.true_and, Int.reduceBEq, Int.reduceBNe, Int.reduceLT, Int.reduceLE, decide_true, decide_false, Br_true, Br_false, Gd_tt, Gd_ft, Gd_tf, Gd_ff, beq_self_eq_true, bne_self_eq_false]) | (with_reducible refine gd_split (fun _ => ?_) (fun _ => ?_)) | (with_reducible refine br_split (fun _ => ?_) (fun _ => ?_)) | (simp only [SSd, List.getElem?_toArray, List.getElem?_cons_zero, List.getElem?_cons_succ, Nat.zero_add, Nat.add_zero, Nat.zero_mul, List.drop_succ_cons, List.drop_zero, List.take_succ_cons, List.take_zero, List.nil_append, List.cons_append, Nat.reduceAdd, List.drop_nil, List.take_nil]))
  · exact snd (votedM m false) (by clear hk back same snd ask8 ask9 ask7 h1 h2 h3 h4 hm hX; simp_all [refuseF]) _ ⟨_, _, _, rfl, RL.nil _ _, SlI.nil _ _ _ _, SlI.nil _ _ _ _⟩
  · exact snd (doneM m false 0) (by clear hk back same snd ask8 ask9 ask7 h1 h2 h3 h4 hm hX; simp_all [refuseF]) _ ⟨_, _, _, rfl, RL.nil _ _, SlI.nil _ _ _ _, SlI.nil _ _ _ _⟩
  · exfalso; clear hk back same snd ask8 ask9 ask7 h1 h2 h3 h4 hm hX; simp_all
  · exact snd (doneM m false 0) (by clear hk back same snd ask8 ask9 ask7 h1 h2 h3 h4 hm hX; simp_all [refuseF]) _ ⟨_, _, _, rfl, RL.nil _ _, SlI.nil _ _ _ _, SlI.nil _ _ _ _⟩
  · refine same (fun X' I' hI' hX' => hk X' I' hI' ?_)
    rw [show (if m.term < r.term then refuseF r m else handleF r m) = r by clear hk back same snd ask8 ask9 ask7 h1 h2 h3 h4 hm hX; simp_all [refuseF]]; exact hX'
  all_goals (
    have hlt' : ¬ m.term < r.term := by clear hk back same snd ask8 ask9 ask7 h1 h2 h3 h4 hm hX; simp_all)
  · rename_i hv
    rw [hv]
    exact ask9 (by clear hk back same snd ask8 ask9 ask7 h1 h2 h3 h4 hm hX; simp_all [handleF]) hlt' (by clear hk back same snd ask8 ask9 ask7 h1 h2 h3 h4 hm hX; simp_all [grantB])
  · rename_i hv
    rw [hv]
    exact ask7 (by clear hk back same snd ask8 ask9 ask7 h1 h2 h3 h4 hm hX; simp_all [handleF]) hlt' (by clear hk back same snd ask8 ask9 ask7 h1 h2 h3 h4 hm hX; simp_all [grantB])
  · exact ask9 (by clear hk back same snd ask8 ask9 ask7 h1 h2 h3 h4 hm hX; simp_all [handleF]) hlt' (by clear hk back same snd ask8 ask9 ask7 h1 h2 h3 h4 hm hX; simp_all [grantB])
  · exact ask7 (by clear hk back same snd ask8 ask9 ask7 h1 h2 h3 h4 hm hX; simp_all [handleF]) hlt' (by clear hk back same snd ask8 ask9 ask7 h1 h2 h3 h4 hm hX; simp_all [grantB])
  · rw [if_neg hlt', show handleF r m = (if electedF { r with vt := updI r.vt m.frm true } then leadF { r with vt := updI r.vt m.frm true } else { r with vt := updI r.vt m.frm true }) by clear hk back same snd ask8 ask9 ask7 h1 h2 h3 h4 hm hX; simp_all [handleF, grantedF]] at hk
    have hw' : RWF E B { r with vt := updI r.vt m.frm true } := ⟨hw.wf, hw.len, hw.grp, hw.idn, hw.trm, hw.vot, hw.lst, hw.stl, hw.ela, hw.nxb, hw.mtb⟩
    unfold sh9_10
    repeat' (first | (with_reducible refine drawC ?_) | (with_reducible refine drawW1 ?_) | (with_reducible refine drawW2 ?_) | (with_reducible refine keepC (by repeat (first | exact Ext.refl _ | assumption | refine Ext.trans ?_ (by assumption))) ?_) | (with_reducible refine newI (fun _ => ?_)) | first | (with_reducible refine rdb ?_) | ((with_reducible refine st1 ?_ ?_); rfl) | ((with_reducible refine rdB ?_ ?_); rfl) | (with_reducible refine rdbS ?_) | ((with_reducible refine rdBS ?_ ?_); rfl) | ((with_reducible refine stB ?_ ?_ ?_ ?_); rfl; rfl; exact one_all rfl) | ((with_reducible refine rdP _ rfl ?_ ?_); rfl) | ((with_reducible refine rdPS _ rfl ?_ ?_); rfl) | ((with_reducible refine stP _ rfl ?_ ?_ ?_ ?_); rfl; rfl; rfl) | (with_reducible refine And.intro ?_ ?_) | (simp only [Bool.not_true, Bool.not_false, Bool.and_self, Bool.true_and, Int.reduceBEq, Int.reduceBNe, Int.reduceLT, Int.reduceLE, decide_true, decide_false, Br_true, Br_false, Gd_tt, Gd_ft, Gd_tf, Gd_ff, beq_self_eq_true, bne_self_eq_false]) | (with_reducible refine gd_split (fun _ => ?_) (fun _ => ?_)) | (with_reducible refine br_split (fun _ => ?_) (fun _ => ?_)) | (simp only [SSd, List.getElem?_toArray, List.getElem?_cons_zero, List.getElem?_cons_succ, Nat.zero_add, Nat.add_zero, Nat.zero_mul, List.drop_succ_cons, List.drop_zero, List.take_succ_cons, List.take_zero, List.nil_append, List.cons_append, Nat.reduceAdd, List.drop_nil, List.take_nil]))
    simp only [ixPV_at _ (show 0 ≤ m.frm by have := hr.frm; omega) (show m.frm < ((6 : Nat) : Int) by have := hr.frm; omega), SSd, List.getElem?_toArray, List.getElem?_cons_zero, List.getElem?_cons_succ, Nat.zero_add, Nat.add_zero, Nat.zero_mul, List.drop_succ_cons, List.drop_zero, List.take_succ_cons, List.take_zero, List.nil_append, List.cons_append, Nat.reduceAdd, List.drop_nil, List.take_nil]
    refine stL (qc_svt hr.frm) (by rw [qc_len]; have := hr.frm; omega) rfl ?_
    refine call (raftq_cal (r := { r with vt := updI r.vt m.frm true }) b ((m1, Obj.cells (mcells m (.slice a0 m.ents.length p0) (.slice a1 m.mem.length p1) (.slice a2 m.data.length p2)).toArray 34 (0, 0)) :: F) z0 z1 z2 h1 h2 h3 h4 rfl (fun X hX => ?_))
    refine qelected_spec hX hw'.wf (fun I1 hI1 hX1 => ?_)
    refine br_split (fun he => ?_) (fun he => ?_)
    · rw [he, if_pos rfl] at hk
      exact call (qlead_spec hX1 hw' (by omega) (by simp only; omega) (fun X' I2 hI2 hX' => Gh.to (X' ++ F) (Gh.done (hk X' I2 ((hI0.trans hI1).trans hI2) hX'))))
    · rw [he, if_neg (by simp)] at hk
      exact Gh.to (X ++ F) (Gh.done (hk X I1 (hI0.trans hI1) hX1))
  all_goals rw [if_neg hlt'] at hk
  · exact same (fun X' I' hI' hX' => hk X' I' hI' (by rw [show handleF r m = r by clear hk back same snd ask8 ask9 ask7 h1 h2 h3 h4 hm hX; simp_all [handleF, grantedF]]; exact hX'))
  · exact same (fun X' I' hI' hX' => hk X' I' hI' (by rw [show handleF r m = r by clear hk back same snd ask8 ask9 ask7 h1 h2 h3 h4 hm hX; simp_all [handleF, grantedF]]; exact hX'))
  · rw [show handleF r m = appendF r m by clear hk back same snd ask8 ask9 ask7 h1 h2 h3 h4 hm hX; simp_all [handleF]] at hk
    exact call (back (fun X hX => qappend_spec hX hw hE hm hr (by omega) (fun X' I1 hI1 hX' => Gh.to (X' ++ F) (Gh.done (hk X' I1 (hI0.trans hI1) hX')))))
  · exact same (fun X' I' hI' hX' => hk X' I' hI' (by rw [show handleF r m = r by clear hk back same snd ask8 ask9 ask7 h1 h2 h3 h4 hm hX; simp_all [handleF]]; exact hX'))
  · rw [show handleF r m = installF r m by clear hk back same snd ask8 ask9 ask7 h1 h2 h3 h4 hm hX; simp_all [handleF]] at hk
    exact call (back (fun X hX => qsnap_spec hX hw hm hr (by omega) (fun X' I1 hI1 hX' => Gh.to (X' ++ F) (Gh.done (hk X' I1 (hI0.trans hI1) hX')))))
  · exact same (fun X' I' hI' hX' => hk X' I' hI' (by rw [show handleF r m = r by clear hk back same snd ask8 ask9 ask7 h1 h2 h3 h4 hm hX; simp_all [handleF]]; exact hX'))
  · rw [show handleF r m = appendedF r m by clear hk back same snd ask8 ask9 ask7 h1 h2 h3 h4 hm hX; simp_all [handleF]] at hk
    exact call (back (fun X hX => qappended_spec hX hw hm hr (by omega) (fun X' I1 hI1 hX' => Gh.to (X' ++ F) (Gh.done (hk X' I1 (hI0.trans hI1) hX')))))
  · exact same (fun X' I' hI' hX' => hk X' I' hI' (by rw [show handleF r m = r by clear hk back same snd ask8 ask9 ask7 h1 h2 h3 h4 hm hX; simp_all [handleF]]; exact hX'))
  · exact same (fun X' I' hI' hX' => hk X' I' hI' (by rw [show handleF r m = r by clear hk back same snd ask8 ask9 ask7 h1 h2 h3 h4 hm hX; simp_all [handleF]]; exact hX'))

theorem qstep2_spec' {b m1 E B : Nat} {X F : LH} {r : RF} {m : RM} {a0 a1 a2 : Option Addr} {p0 p1 p2 : Nat} {I0 : Imm} (hI0 : Ext I0 I) (h : RaftQ I b X r) (hw : RWF E B r) (hE : (E + 64) * 48 ≤ 150000000000000) (ho : r.out = [])
    (hm : MsgV I m (mcells m (.slice a0 m.ents.length p0) (.slice a1 m.mem.length p1) (.slice a2 m.data.length p2))) (hr : RB m)
    (hk : ∀ X' I', Ext I0 I' → RaftQ I' b X' (if m.term < r.term then refuseF r m else handleF r m) → K (.int .i64 0) I' (X' ++ F)) :
    Gh (sh9_2 ω (.pointer (some ⟨b, 0, none⟩)) (.pointer (some ⟨m1, 0, none⟩)) (.int .i64 0) (fun v => Gh (K v))) I (X ++ ((m1, Obj.cells (mcells m (.slice a0 m.ents.length p0) (.slice a1 m.mem.length p1) (.slice a2 m.data.length p2)).toArray 34 (0, 0)) :: F)) :=
  Gh.perm List.perm_middle (Gh.done (qstep2_spec hI0 h hw hE ho hm hr hk))

theorem qstep_spec {b E B : Nat} {X F : LH} {r : RF} {m : RM} {c : List Value} (h : RaftQ I b X r) (hw : RWF E B r) (hE : (E + 64) * 48 ≤ 150000000000000) (ho : r.out = []) (hm : MsgV I m c)
    (hk : ∀ X' I', Ext I I' → RaftQ I' b X' (stepF r m).2 → K (.int .i64 (stepF r m).1) I' (X' ++ F)) :
    Cal Tryz.prog ω 9 #[.pointer (some ⟨b, 0, none⟩), .agg c.toArray] K I (X ++ F) := by
  have hm0 := hm
  have hX := h
  obtain ⟨lb, XL, XO, stv, ov, z0, z1, z2, oc, rfl, h1, h2, h3, h4⟩ := h
  obtain ⟨a0, p0, a1, p1, a2, p2, rfl, hEn, hM, hD⟩ := hm.form
  refine cal9 ?_
  unfold sh9
  simp only [List.cons_append, List.append_assoc] at hk ⊢
  refine newI (fun m1 => ?_)
  refine rdB rfl ?_
  have bad : stepF r m = (1, r) → ∀ I', Ext I I' → Gh (K (.int .i64 1)) I' ((m1, Obj.cells (mcells m (.slice a0 m.ents.length p0) (.slice a1 m.mem.length p1) (.slice a2 m.data.length p2)).toArray 34 (0, 0)) :: (b, Obj.cells (qcells r z0 z1 z2 (.pointer (some ⟨lb, 0, none⟩)) stv ov).toArray 63 (0, 0)) :: (XL ++ (XO ++ F))) := fun hs I' hI' => by
    rw [hs] at hk
    exact raftq_end (r := r) (F := F) z0 z1 z2 (fun X' h' => hk X' I' hI' h') (h1.mono hI') (h2.mono hI') h3 (h4.imp fun _ _ h => h.mono hI') rfl
  refine call (qright_spec hm0 (fun I1 hI1 => ?_))
  cases hr : rightB m with
  | false =>
    repeat' (first | (with_reducible refine drawC ?_) | (with_reducible refine drawW1 ?_) | (with_reducible refine drawW2 ?_) | (with_reducible refine keepC (by repeat (first | exact Ext.refl _ | assumption | refine Ext.trans ?_ (by assumption))) ?_) | (with_reducible refine newI (fun _ => ?_)) | first | (with_reducible refine rdb ?_) | ((with_reducible refine st1 ?_ ?_); rfl) | ((with_reducible refine rdB ?_ ?_); rfl) | (with_reducible refine rdbS ?_) | ((with_reducible refine rdBS ?_ ?_); rfl) | ((with_reducible refine stB ?_ ?_ ?_ ?_); rfl; rfl; exact one_all rfl) | ((with_reducible refine rdP _ rfl ?_ ?_); rfl) | ((with_reducible refine rdPS _ rfl ?_ ?_); rfl) | ((with_reducible refine stP _ rfl ?_ ?_ ?_ ?_); rfl; rfl; rfl) | (with_reducible refine And.intro ?_ ?_) | (simp only [Bool.not_true, Bool.not_false, Bool.and_self, Bool.true_and, Int.reduceBEq, Int.reduceBNe, Int.reduceLT, Int.reduceLE, decide_true, decide_false, Br_true, Br_false, Gd_tt, Gd_ft, Gd_tf, Gd_ff, beq_self_eq_true, bne_self_eq_false]) | (with_reducible refine gd_split (fun _ => ?_) (fun _ => ?_)) | (with_reducible refine br_split (fun _ => ?_) (fun _ => ?_)) | (simp only [SSd, List.getElem?_toArray, List.getElem?_cons_zero, List.getElem?_cons_succ, Nat.zero_add, Nat.add_zero, Nat.zero_mul, List.drop_succ_cons, List.drop_zero, List.take_succ_cons, List.take_zero, List.nil_append, List.cons_append, Nat.reduceAdd, List.drop_nil, List.take_nil]))
    exact bad (by rw [stepF, if_pos (.inl hr)]) I1 hI1
  | true =>
    have hR := right_data hr
    have hb2 : (m.group ≠ r.group ∨ m.to ≠ r.id) → stepF r m = (1, r) := fun hne => by rw [stepF, if_pos (.inr hne)]
    repeat' (first | (with_reducible refine drawC ?_) | (with_reducible refine drawW1 ?_) | (with_reducible refine drawW2 ?_) | (with_reducible refine keepC (by repeat (first | exact Ext.refl _ | assumption | refine Ext.trans ?_ (by assumption))) ?_) | (with_reducible refine newI (fun _ => ?_)) | first | (with_reducible refine rdb ?_) | ((with_reducible refine st1 ?_ ?_); rfl) | ((with_reducible refine rdB ?_ ?_); rfl) | (with_reducible refine rdbS ?_) | ((with_reducible refine rdBS ?_ ?_); rfl) | ((with_reducible refine stB ?_ ?_ ?_ ?_); rfl; rfl; exact one_all rfl) | ((with_reducible refine rdP _ rfl ?_ ?_); rfl) | ((with_reducible refine rdPS _ rfl ?_ ?_); rfl) | ((with_reducible refine stP _ rfl ?_ ?_ ?_ ?_); rfl; rfl; rfl) | (with_reducible refine And.intro ?_ ?_) | (simp only [Bool.not_true, Bool.not_false, Bool.and_self, Bool.true_and, Int.reduceBEq, Int.reduceBNe, Int.reduceLT, Int.reduceLE, decide_true, decide_false, Br_true, Br_false, Gd_tt, Gd_ft, Gd_tf, Gd_ff, beq_self_eq_true, bne_self_eq_false]) | (with_reducible refine gd_split (fun _ => ?_) (fun _ => ?_)) | (with_reducible refine br_split (fun _ => ?_) (fun _ => ?_)) | (simp only [SSd, List.getElem?_toArray, List.getElem?_cons_zero, List.getElem?_cons_succ, Nat.zero_add, Nat.add_zero, Nat.zero_mul, List.drop_succ_cons, List.drop_zero, List.take_succ_cons, List.take_zero, List.nil_append, List.cons_append, Nat.reduceAdd, List.drop_nil, List.take_nil]))
    all_goals first
      | (refine bad (hb2 ?_) I1 hI1; clear bad hb2 hk hX h1 h2 h3 h4 hm hm0; simp_all; done)
      | skip
    · have hg : m.group = r.group ∧ m.to = r.id := by clear bad hb2 hk hX h1 h2 h3 h4 hm hm0; simp_all
      have hup : r.term < m.term := by clear bad hb2 hk hX h1 h2 h3 h4 hm hm0; simp_all
      rw [show stepF r m = (0, if m.term < (followF r m.term).term then refuseF (followF r m.term) m else handleF (followF r m.term) m) by
        rw [stepF, if_neg (by simp [hr, hg.1, hg.2]), if_neg (by omega), upF, if_pos hup, if_neg (by simp only [followF]; rw [if_pos hup]; omega)]] at hk
      unfold sh9_11
      repeat' (first | (with_reducible refine drawC ?_) | (with_reducible refine drawW1 ?_) | (with_reducible refine drawW2 ?_) | (with_reducible refine keepC (by repeat (first | exact Ext.refl _ | assumption | refine Ext.trans ?_ (by assumption))) ?_) | (with_reducible refine newI (fun _ => ?_)) | first | (with_reducible refine rdb ?_) | ((with_reducible refine st1 ?_ ?_); rfl) | ((with_reducible refine rdB ?_ ?_); rfl) | (with_reducible refine rdbS ?_) | ((with_reducible refine rdBS ?_ ?_); rfl) | ((with_reducible refine stB ?_ ?_ ?_ ?_); rfl; rfl; exact one_all rfl) | ((with_reducible refine rdP _ rfl ?_ ?_); rfl) | ((with_reducible refine rdPS _ rfl ?_ ?_); rfl) | ((with_reducible refine stP _ rfl ?_ ?_ ?_ ?_); rfl; rfl; rfl) | (with_reducible refine And.intro ?_ ?_) | (simp only [Bool.not_true, Bool.not_false, Bool.and_self, Bool.true_and, Int.reduceBEq, Int.reduceBNe, Int.reduceLT, Int.reduceLE, decide_true, decide_false, Br_true, Br_false, Gd_tt, Gd_ft, Gd_tf, Gd_ff, beq_self_eq_true, bne_self_eq_false]) | (with_reducible refine gd_split (fun _ => ?_) (fun _ => ?_)) | (with_reducible refine br_split (fun _ => ?_) (fun _ => ?_)) | (simp only [SSd, List.getElem?_toArray, List.getElem?_cons_zero, List.getElem?_cons_succ, Nat.zero_add, Nat.add_zero, Nat.zero_mul, List.drop_succ_cons, List.drop_zero, List.take_succ_cons, List.take_zero, List.nil_append, List.cons_append, Nat.reduceAdd, List.drop_nil, List.take_nil]))
      refine callG (raftq_cal (r := r) b ((m1, Obj.cells (mcells m (.slice a0 m.ents.length p0) (.slice a1 m.mem.length p1) (.slice a2 m.data.length p2)).toArray 34 (0, 0)) :: F) z0 z1 z2 (h1.mono hI1) (h2.mono hI1) h3 (h4.imp fun _ _ h => h.mono hI1) rfl (fun X hX => ?_))
      refine qfollow_spec hX (fun X' hX' => ?_)
      refine qstep2_spec' hI1 hX' (hw.follow (by have := hR.trm; omega)) hE ho (hm.mono hI1) hR hk
    · have hg : m.group = r.group ∧ m.to = r.id := by clear bad hb2 hk hX h1 h2 h3 h4 hm hm0; simp_all
      have hup : ¬ r.term < m.term := by clear bad hb2 hk hX h1 h2 h3 h4 hm hm0; simp_all
      rw [show stepF r m = (0, if m.term < r.term then refuseF r m else handleF r m) by
        rw [stepF, if_neg (by simp [hr, hg.1, hg.2]), upF, if_neg hup]; split <;> rfl] at hk
      have := qstep2_spec (m1 := m1) (ω := ω) (F := F) hI1 (hX.mono hI1) hw hE ho (hm.mono hI1) hR hk
      simpa only [List.cons_append, List.append_assoc] using this

theorem qcompact_spec {b E B : Nat} {X F : LH} {r : RF} {i : Int} {dv : Value} {d : List UInt8} (h : RaftQ I b X r) (hw : RWF E B r) (hi : inI64 i) (hd : Bytes I dv d) (hdl : d.length < 4611686018427387904)
    (hk : ∀ X' I', Ext I I' → RaftQ I' b X' (compactF r i d).2 → K (.int .i64 (compactF r i d).1) I' (X' ++ F)) :
    Cal Tryz.prog ω 15 #[.pointer (some ⟨b, 0, none⟩), .int .i64 i, dv] K I (X ++ F) := by
  obtain ⟨lb, XL, XO, stv, ov, z0, z1, z2, oc, rfl, h1, h2, h3, h4⟩ := h
  have hln := Bytes.len hd
  refine cal15 ?_
  unfold sh15
  simp only [List.cons_append, List.append_assoc, hln, SSd, List.getElem?_toArray, List.getElem?_cons_zero, List.getElem?_cons_succ, Nat.zero_add, Nat.add_zero, Nat.zero_mul, List.drop_succ_cons, List.drop_zero, List.take_succ_cons, List.take_zero, List.nil_append, List.cons_append, Nat.reduceAdd, List.drop_nil, List.take_nil]
  refine br_split (fun hs => ?_) (fun hs => ?_)
  · have hs : 60000 < d.length := by simp at hs; omega
    rw [compactF, if_pos hs] at hk
    exact raftq_end (r := r) (F := F) z0 z1 z2 (fun X' h' => hk X' I (Ext.refl I) h') h1 h2 h3 h4 rfl
  have hs : ¬ 60000 < d.length := by simp at hs; omega
  rw [compactF, if_neg hs] at hk
  refine rdb ?_
  refine callG (Cal.split XL (rcut_spec h1 hw.wf hi (fun XL' I1 hI1 hL' => ?_)))
  have hgg : (cutG r.g i).1 ≠ 0 → (cutG r.g i).2 = r.g := fun h => by
    unfold cutG at h ⊢; split
    · rfl
    · rename_i hh; rw [if_neg hh] at h; exact absurd rfl h
  generalize cutG r.g i = a at *
  have h2' := h2.mono hI1
  have h4' := h4.imp fun _ _ h => h.mono hI1
  refine Gh.pick b (XL' ++ (XO ++ F)) (Gh.done ?_)
  try simp only [SSd, List.getElem?_toArray, List.getElem?_cons_zero, List.getElem?_cons_succ, Nat.zero_add, Nat.add_zero, Nat.zero_mul, List.drop_succ_cons, List.drop_zero, List.take_succ_cons, List.take_zero, List.nil_append, List.cons_append, Nat.reduceAdd, List.drop_nil, List.take_nil]
  refine br_split (fun he => ?_) (fun he => ?_)
  · have he : a.1 ≠ 0 := by simpa using he
    simp only [if_pos he] at hk
    rw [hgg he] at hL'
    exact raftq_end (r := r) (F := F) z0 z1 z2 (fun X' h' => hk X' I1 hI1 h') hL' h2' h3 h4' rfl
  · have he : ¬ a.1 ≠ 0 := by simpa using he
    simp only [if_neg he] at hk
    refine copyB (hd.mono hI1) (by omega) (fun av pv I2 hI2 hv => Gh.done ?_)
    repeat' (first | (with_reducible refine drawC ?_) | (with_reducible refine drawW1 ?_) | (with_reducible refine drawW2 ?_) | (with_reducible refine keepC (by repeat (first | exact Ext.refl _ | assumption | refine Ext.trans ?_ (by assumption))) ?_) | (with_reducible refine newI (fun _ => ?_)) | first | (with_reducible refine rdb ?_) | ((with_reducible refine st1 ?_ ?_); rfl) | ((with_reducible refine rdB ?_ ?_); rfl) | (with_reducible refine rdbS ?_) | ((with_reducible refine rdBS ?_ ?_); rfl) | ((with_reducible refine stB ?_ ?_ ?_ ?_); rfl; rfl; exact one_all rfl) | ((with_reducible refine rdP _ rfl ?_ ?_); rfl) | ((with_reducible refine rdPS _ rfl ?_ ?_); rfl) | ((with_reducible refine stP _ rfl ?_ ?_ ?_ ?_); rfl; rfl; rfl) | (with_reducible refine And.intro ?_ ?_) | (simp only [Bool.not_true, Bool.not_false, Bool.and_self, Bool.true_and, Int.reduceBEq, Int.reduceBNe, Int.reduceLT, Int.reduceLE, decide_true, decide_false, Br_true, Br_false, Gd_tt, Gd_ft, Gd_tf, Gd_ff, beq_self_eq_true, bne_self_eq_false]) | (with_reducible refine gd_split (fun _ => ?_) (fun _ => ?_)) | (with_reducible refine br_split (fun _ => ?_) (fun _ => ?_)) | (simp only [SSd, List.getElem?_toArray, List.getElem?_cons_zero, List.getElem?_cons_succ, Nat.zero_add, Nat.add_zero, Nat.zero_mul, List.drop_succ_cons, List.drop_zero, List.take_succ_cons, List.take_zero, List.nil_append, List.cons_append, Nat.reduceAdd, List.drop_nil, List.take_nil]))
    exact raftq_end (r := { r with g := a.2, st := d }) (F := F) z0 z1 z2 (fun X' h' => hk X' I2 (hI1.trans hI2) h') (hL'.mono hI2) hv h3 (h4'.imp fun _ _ h => h.mono hI2) rfl
end
end Go.Proofs.YtdcpeboecmkmlaaGreat
