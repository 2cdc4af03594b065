/-
  Lemmas, part 7: laid together by a program.
-/
import Derived.Test.YtmmfcgbfbcamcaaGreatDoorP6
-- S3
set_option linter.unusedSimpArgs false
set_option linter.unusedVariables false
namespace Go.Proofs.YtmmfcgbfbcamcaaGreatDoor
open Go.SL
set_option maxRecDepth 10000
def MchR (I : Imm) (b : Nat) (X : LH) (m : Mch) : Prop := ∃ s V SX, X.Perm (mL b s V m SX) ∧ MF I V m ∧ SpR I s SX m.sp m.nt
theorem MchR.mono {I I' : Imm} {b : Nat} {X : LH} {m : Mch} (h : MchR I b X m) (hI : Ext I I') : MchR I' b X m := by
  obtain ⟨s, V, SX, h1, h2, h3⟩ := h
  exact ⟨s, V, SX, h1, h2.mono hI, h3.mono hI⟩
def PostK (K : Value → M) (b : Nat) (F : LH) (I : Imm) (r : TRes) (m' : Mch) : Prop := ∀ I' X' cells, Ext I I' → MchR I' b X' m' → TResV I' r cells → K (.agg cells.toArray) I' (X' ++ F)
theorem PostK.go {K : Value → M} {b s : Nat} {V : MV} {SX F : LH} {I I' : Imm} {r : TRes} {m : Mch} {cells : List Value} (h : PostK K b F I r m) (hI : Ext I I') (hF : MF I' V m) (hS : SpR I' s SX m.sp m.nt) (hr : TResV I' r cells) : K (.agg cells.toArray) I' (mL b s V m (SX ++ F)) :=
  h I' (mL b s V m SX) cells hI ⟨s, V, SX, List.Perm.refl _, hF, hS⟩ hr
theorem vers_le : ∀ {rows : List Row} {n : Nat}, versN rows ≤ n → ∀ r ∈ rows, r.vs.length ≤ n
  | x :: rows, n, h, r, hr => by
    have e : versN (x :: rows) = x.vs.length + versN rows := by simp [versN]
    rcases List.mem_cons.1 hr with rfl | hr
    · omega
    · exact vers_le (rows := rows) (n := n) (by omega) r hr
theorem markF_sp (m : Mch) (k : List UInt8) (a : TStamp) (n : Int) : (markF m k a n).sp = m.sp ∧ (markF m k a n).nt = m.nt := by
  unfold markF room; split <;> exact ⟨rfl, rfl⟩
theorem seeF_sp (m : Mch) (c : TCmd) (e : Int) (a : TStamp) : (seeF m c e a).sp = m.sp ∧ (seeF m c e a).nt = m.nt := by
  unfold seeF; split <;> exact ⟨rfl, rfl⟩
theorem sq_le {N : Nat} (h : N ≤ 10000) : N * N ≤ 100000000 := Nat.mul_le_mul h h
section
variable {ω : Om} {I : Imm} {L : LH} {K : Value → M} {b s N : Nat} {V : MV} {m : Mch} {SX F : LH} {c : TCmd} {cc : List Value}
theorem getc_spec (hM : MOk m N) (hN : N ≤ 10000) (hS : fullB m c.fKey = true → SortS) (hF : MF I V m) (hSp : SpR I s SX m.sp m.nt) (hc : TCmdV I c cc) (hk : PostK K b F I (getM m c).1 (getM m c).2) :
    Cal Tryz.prog ω 94 #[pt b, .agg cc.toArray] K I (mL b s V m (SX ++ F)) := by
  have h1 := hM.vers
  have h2 := sq_le hN
  have h3 := hM.rows
  have hvs : ∀ r ∈ m.sp.rows, r.vs.length ≤ 1000000000 := vers_le (by omega)
  obtain ⟨w0, w1, w2, w3, rfl, g0, g1, g2, g3⟩ := hc
  refine cal94 ?_
  unfold sh94
  refine newI (fun b1 => newI (fun b2 => ?_))
  repeat' (first | (with_reducible refine drawC ?_) | (with_reducible refine drawW1 ?_) | (with_reducible refine drawW2 ?_) | (with_reducible refine keepC (by repeat (first | exact Ext.refl _ | assumption | refine Ext.trans ?_ (by assumption))) ?_) | (with_reducible refine newI (fun _ => ?_)) | ((with_reducible refine call ?_); refine (pholds_spec (p := m.span) ⟨_, _, rfl, hF.f0, hF.f1⟩ g0 ?_)) | ((with_reducible refine call ?_); refine (failed_spec ?_)) | (((with_reducible refine call ?_); refine (get_spec (sp := m.sp) (k := c.fKey) (m := c.fAt) (txn := c.fTxn) (hSp.view (fun x hx => by simp [hx])) hM.sp.rise hvs g0 (fun I1 u1 hI1 hB1 => ?_))); obtain ⟨ua, uc, rfl⟩ := Bytes.form hB1) | ((with_reducible refine call ?_); refine (calM b V (mark_spec hS (hF.mono hI1) hM.marks (g0.mono hI1) (fun V1 hF1 => ?_)))) | first | (with_reducible refine rdb ?_) | ((with_reducible refine st1 ?_ ?_); rfl) | ((with_reducible refine rdB ?_ ?_); rfl) | (with_reducible refine rdbS ?_) | ((with_reducible refine rdBS ?_ ?_); rfl) | ((with_reducible refine stB ?_ ?_ ?_ ?_); rfl; rfl; exact one_all rfl) | ((with_reducible refine rdP _ rfl ?_ ?_); rfl) | ((with_reducible refine rdPS _ rfl ?_ ?_); rfl) | ((with_reducible refine stP _ rfl ?_ ?_ ?_ ?_); rfl; rfl; rfl) | (with_reducible refine unfE (sh94_1.eq_1 ..) ?_) | (with_reducible refine unfE (sh94.eq_1 ..) ?_) | (with_reducible refine And.intro ?_ ?_) | (simp only [Bool.not_true, Bool.not_false, Bool.and_self, Bool.true_and, Int.reduceBEq, Int.reduceBNe, Int.reduceLT, Int.reduceLE, decide_true, decide_false, Br_true, Br_false, Gd_tt, Gd_ft, Gd_tf, Gd_ff, beq_self_eq_true, bne_self_eq_false]) | (with_reducible refine gd_split (fun _ => ?_) (fun _ => ?_)) | (with_reducible refine br_split (fun _ => ?_) (fun _ => ?_)) | (simp only [SSd, Nat.reduceAdd]))
  · have e : getM m c = (failR 141, m) := by unfold getM; rw [if_pos (by first | (simp_all; done) | (simp_all; omega) | omega)]
    rw [e] at hk
    exact Gh.to (mL b s V m (SX ++ F)) (Gh.done (hk.go (Ext.refl _) hF hSp (rv_V ..)))
  all_goals first
    | (have e : getM m c = (⟨(getF m.sp c.fKey c.fAt c.fTxn).2, gotN, [], z0, (getF m.sp c.fKey c.fAt c.fTxn).1.fBy, 0⟩, m) := by unfold getM; rw [if_neg (by first | (simp_all; done) | (simp_all; omega) | omega), if_pos (by first | (simp_all; done) | (simp_all; omega) | omega)]
       rw [e] at hk
       exact Gh.to (mL b s V m (SX ++ F)) (Gh.done (hk.go hI1 (hF.mono hI1) (hSp.mono hI1) (rv_V ..))))
    | (have e : getM m c = (⟨0, (getF m.sp c.fKey c.fAt c.fTxn).1, [], z0, 0, 0⟩, markF m c.fKey c.fAt c.fTxn) := by unfold getM; rw [if_neg (by first | (simp_all; done) | (simp_all; omega) | omega), if_neg (by first | (simp_all; done) | (simp_all; omega) | omega)]
       rw [e] at hk
       exact Gh.to (mL b s V1 (markF m c.fKey c.fAt c.fTxn) (SX ++ F)) (Gh.done (hk.go hI1 hF1 (by rw [(markF_sp ..).1, (markF_sp ..).2]; exact hSp.mono hI1) ⟨_, _, rfl, hB1, RL.nil none 0⟩)))
theorem scanc_spec (hM : MOk m N) (hN : N ≤ 10000) (hF : MF I V m) (hSp : SpR I s SX m.sp m.nt) (hc : TCmdV I c cc) (hk : PostK K b F I (scanM m c).1 (scanM m c).2) :
    Cal Tryz.prog ω 95 #[pt b, .agg cc.toArray] K I (mL b s V m (SX ++ F)) := by
  have h1 := hM.vers
  have h2 := sq_le hN
  have h3 := hM.rows
  have hvs : ∀ r ∈ m.sp.rows, r.vs.length ≤ 1000000000 := vers_le (by omega)
  obtain ⟨w0, w1, w2, w3, rfl, g0, g1, g2, g3⟩ := hc
  refine cal95 ?_
  unfold sh95
  refine newI (fun b1 => newI (fun b2 => ?_))
  repeat' (first | (with_reducible refine drawC ?_) | (with_reducible refine drawW1 ?_) | (with_reducible refine drawW2 ?_) | (with_reducible refine keepC (by repeat (first | exact Ext.refl _ | assumption | refine Ext.trans ?_ (by assumption))) ?_) | (with_reducible refine newI (fun _ => ?_)) | ((with_reducible refine call ?_); refine (calM b V (ours_spec hF (p := c.fSpan) ⟨_, _, rfl, g2, g3⟩ ?_))) | ((with_reducible refine call ?_); refine (failed_spec ?_)) | (((with_reducible refine call ?_); refine (scan_spec (sp := m.sp) (p := c.fSpan) (m := c.fAt) (txn := c.fTxn) (most := c.fMost) (hSp.view (fun x hx => by simp [hx])) hM.sp.rise (by omega) hvs ⟨_, _, rfl, g2, g3⟩ (fun I1 u1 hI1 hB1 => ?_))); obtain ⟨ua, uc, rfl⟩ := RL.form hB1) | ((with_reducible refine call ?_); refine (mread_spec (k := m.low) (a := c.fAt) (n := c.fTxn) ?_)) | first | (with_reducible refine rdb ?_) | ((with_reducible refine st1 ?_ ?_); rfl) | ((with_reducible refine rdB ?_ ?_); rfl) | (with_reducible refine rdbS ?_) | ((with_reducible refine rdBS ?_ ?_); rfl) | ((with_reducible refine stB ?_ ?_ ?_ ?_); rfl; rfl; exact one_all rfl) | ((with_reducible refine rdP _ rfl ?_ ?_); rfl) | ((with_reducible refine rdPS _ rfl ?_ ?_); rfl) | ((with_reducible refine stP _ rfl ?_ ?_ ?_ ?_); rfl; rfl; rfl) | (with_reducible refine unfE (sh95.eq_1 ..) ?_) | (with_reducible refine And.intro ?_ ?_) | (simp only [Bool.not_true, Bool.not_false, Bool.and_self, Bool.true_and, Int.reduceBEq, Int.reduceBNe, Int.reduceLT, Int.reduceLE, decide_true, decide_false, Br_true, Br_false, Gd_tt, Gd_ft, Gd_tf, Gd_ff, beq_self_eq_true, bne_self_eq_false]) | (with_reducible refine gd_split (fun _ => ?_) (fun _ => ?_)) | (with_reducible refine br_split (fun _ => ?_) (fun _ => ?_)) | (simp only [SSd, Nat.reduceAdd]))
  · have e : scanM m c = (failR 141, m) := by unfold scanM; rw [if_pos (by first | (simp_all; done) | (simp_all; omega) | omega)]
    rw [e] at hk
    exact Gh.to (mL b s V m (SX ++ F)) (Gh.done (hk.go (Ext.refl _) hF hSp (rv_V ..)))
  · have e : scanM m c = (⟨(scanF m.sp c.fSpan c.fAt c.fTxn c.fMost).2.2, gotN, [], z0, (scanF m.sp c.fSpan c.fAt c.fTxn c.fMost).2.1, 0⟩, m) := by unfold scanM; rw [if_neg (by first | (simp_all; done) | (simp_all; omega) | omega), if_pos (by first | (simp_all; done) | (simp_all; omega) | omega)]
    rw [e] at hk
    exact Gh.to (mL b s V m (SX ++ F)) (Gh.done (hk.go hI1 (hF.mono hI1) (hSp.mono hI1) (rv_V ..)))
  · have e : scanM m c = (⟨0, gotN, (scanF m.sp c.fSpan c.fAt c.fTxn c.fMost).1, z0, 0, 0⟩, { m with low := readK m.low c.fAt c.fTxn }) := by unfold scanM; rw [if_neg (by first | (simp_all; done) | (simp_all; omega) | omega), if_neg (by first | (simp_all; done) | (simp_all; omega) | omega)]
    rw [e] at hk
    exact Gh.to (mL b s V { m with low := readK m.low c.fAt c.fTxn } (SX ++ F)) (Gh.done (hk.go hI1 { hF.mono hI1 with } (hSp.mono hI1) ⟨_, _, rfl, SlI.nil I1 1 none 0, hB1⟩))
theorem collectc_spec (hM : MOk m N) (hN : N ≤ 10000) (hF : MF I V m) (hSp : SpR I s SX m.sp m.nt) (hc : TCmdV I c cc) (hk : PostK K b F I (colM m c).1 (colM m c).2) :
    Cal Tryz.prog ω 103 #[pt b, .agg cc.toArray] K I (mL b s V m (SX ++ F)) := by
  have h1 := hM.vers
  have h2 := sq_le hN
  have h3 := hM.rows
  obtain ⟨w0, w1, w2, w3, rfl, g0, g1, g2, g3⟩ := hc
  refine cal103 ?_
  unfold sh103
  refine newI (fun b1 => newI (fun b2 => ?_))
  repeat' (first | (with_reducible refine drawC ?_) | (with_reducible refine drawW1 ?_) | (with_reducible refine drawW2 ?_) | (with_reducible refine keepC (by repeat (first | exact Ext.refl _ | assumption | refine Ext.trans ?_ (by assumption))) ?_) | (with_reducible refine newI (fun _ => ?_)) | ((with_reducible refine call ?_); refine (failed_spec ?_)) | ((with_reducible refine call ?_); refine (Cal.split SX (collect_spec (below := c.fAt) hSp hM.sp (by omega) (by omega) (fun X1 I1 hI1 hS1 => ?_)))) | first | (with_reducible refine rdb ?_) | ((with_reducible refine st1 ?_ ?_); rfl) | ((with_reducible refine rdB ?_ ?_); rfl) | (with_reducible refine rdbS ?_) | ((with_reducible refine rdBS ?_ ?_); rfl) | ((with_reducible refine stB ?_ ?_ ?_ ?_); rfl; rfl; exact one_all rfl) | ((with_reducible refine rdP _ rfl ?_ ?_); rfl) | ((with_reducible refine rdPS _ rfl ?_ ?_); rfl) | ((with_reducible refine stP _ rfl ?_ ?_ ?_ ?_); rfl; rfl; rfl) | (with_reducible refine unfE (sh103.eq_1 ..) ?_) | (with_reducible refine And.intro ?_ ?_) | (simp only [Bool.not_true, Bool.not_false, Bool.and_self, Bool.true_and, Int.reduceBEq, Int.reduceBNe, Int.reduceLT, Int.reduceLE, decide_true, decide_false, Br_true, Br_false, Gd_tt, Gd_ft, Gd_tf, Gd_ff, beq_self_eq_true, bne_self_eq_false]) | (with_reducible refine gd_split (fun _ => ?_) (fun _ => ?_)) | (with_reducible refine br_split (fun _ => ?_) (fun _ => ?_)) | (simp only [SSd, Nat.reduceAdd]))
  exact Gh.to (mL b s V { m with sp := colS m.sp c.fAt, nt := colN m.sp c.fAt m.nt } (X1 ++ F)) (Gh.done (hk.go hI1 { hF.mono hI1 with } hS1 (rv_V ..)))
abbrev lowM (m : Mch) (c : TCmd) : Mch := { m with low := readK m.low c.fTo c.fTxn }
theorem refM_again {r : TRes} (h0 : oursB m.span c.fSpan = true) (e : againF m c = some r) : refM m c = (r, m) := by unfold refM; rw [if_neg (by simp [h0]), e]
theorem refresh_spec (hM : MOk m N) (hN : N ≤ 10000) (hF : MF I V m) (hSp : SpR I s SX m.sp m.nt) (hc : TCmdV I c cc) (hk : PostK K b F I (refM m c).1 (refM m c).2) :
    Cal Tryz.prog ω 97 #[pt b, .agg cc.toArray] K I (mL b s V m (SX ++ F)) := by
  have h1 := hM.vers
  have h2 := sq_le hN
  have h3 := hM.rows
  have hvs : ∀ r ∈ m.sp.rows, r.vs.length ≤ 1000000000 := vers_le (by omega)
  have hc' := hc
  obtain ⟨w0, w1, w2, w3, rfl, g0, g1, g2, g3⟩ := hc
  have hcm := scmp_neg c.fTo c.fAt
  have hF0 : MF I V (lowM m c) := { hF with }
  refine cal97 ?_
  unfold sh97
  refine newI (fun b1 => newI (fun b2 => ?_))
  repeat' (first | (with_reducible refine drawC ?_) | (with_reducible refine drawW1 ?_) | (with_reducible refine drawW2 ?_) | (with_reducible refine keepC (by repeat (first | exact Ext.refl _ | assumption | refine Ext.trans ?_ (by assumption))) ?_) | (with_reducible refine newI (fun _ => ?_)) | ((with_reducible refine call ?_); refine (calM b V (ours_spec hF (p := c.fSpan) ⟨_, _, rfl, g2, g3⟩ ?_))) | ((with_reducible refine call ?_); refine (failed_spec ?_)) | ((with_reducible refine call ?_); refine (calM b V (again_spec hF hc' (fun e a ha => ?_) (fun ha => ?_)))) | ((with_reducible refine call ?_); refine (hcompare_spec (x := c.fTo) (y := c.fAt) ?_)) | ((with_reducible refine call ?_); refine (changed_spec (sp := m.sp) (p := c.fSpan) (fr := c.fAt) (to := c.fTo) (txn := c.fTxn) (hSp.view (fun x hx => by simp [hx])) hM.sp.rise (by omega) hvs ⟨_, _, rfl, g2, g3⟩ ?_)) | ((with_reducible refine call ?_); refine (mread_spec (k := m.low) (a := c.fTo) (n := c.fTxn) ?_)) | ((with_reducible refine call ?_); refine (calM b V (see_spec (m := lowM m c) (e := 0) (a := z0) (n := 0) (s' := 0) hF0 hM.seen hM.seenL hc' (fun V2 hF2 => ?_)))) | first | (with_reducible refine rdb ?_) | ((with_reducible refine st1 ?_ ?_); rfl) | ((with_reducible refine rdB ?_ ?_); rfl) | (with_reducible refine rdbS ?_) | ((with_reducible refine rdBS ?_ ?_); rfl) | ((with_reducible refine stB ?_ ?_ ?_ ?_); rfl; rfl; exact one_all rfl) | ((with_reducible refine rdP _ rfl ?_ ?_); rfl) | ((with_reducible refine rdPS _ rfl ?_ ?_); rfl) | ((with_reducible refine stP _ rfl ?_ ?_ ?_ ?_); rfl; rfl; rfl) | (with_reducible refine unfE (sh97.eq_1 ..) ?_) | (with_reducible refine And.intro ?_ ?_) | (simp only [Bool.not_true, Bool.not_false, Bool.and_self, Bool.true_and, Int.reduceBEq, Int.reduceBNe, Int.reduceLT, Int.reduceLE, decide_true, decide_false, Br_true, Br_false, Gd_tt, Gd_ft, Gd_tf, Gd_ff, beq_self_eq_true, bne_self_eq_false]) | (with_reducible refine gd_split (fun _ => ?_) (fun _ => ?_)) | (with_reducible refine br_split (fun _ => ?_) (fun _ => ?_)) | (simp only [SSd, Nat.reduceAdd]))
  · have e : refM m c = (failR 141, m) := by unfold refM; rw [if_pos (by first | (simp_all; done) | (simp_all; omega) | omega)]
    rw [e] at hk
    exact Gh.to (mL b s V m (SX ++ F)) (Gh.done (hk.go (Ext.refl _) hF hSp (rv_V ..)))
  · rename_i ho _
    rw [refM_again (by first | (simp_all; done) | (simp_all; omega) | omega) ha] at hk
    exact Gh.to (mL b s V m (SX ++ F)) (Gh.done (hk.go (Ext.refl _) hF hSp (rv_V ..)))
  · rename_i ho _ e1
    have e : refM m c = (failR 1, m) := by unfold refM; rw [if_neg (by first | (simp_all; done) | (simp_all; omega) | omega), ha]; simp only; rw [if_pos (by rw [← hcm]; exact e1)]
    rw [e] at hk
    exact Gh.to (mL b s V m (SX ++ F)) (Gh.done (hk.go (Ext.refl _) hF hSp (rv_V ..)))
  · rename_i ho _ e1 e2
    have e : refM m c = (failR (chF m.sp c.fSpan c.fAt c.fTo c.fTxn).2, m) := by unfold refM; rw [if_neg (by first | (simp_all; done) | (simp_all; omega) | omega), ha]; simp only; rw [if_neg (by rw [← hcm, e1]; simp), if_pos (by simpa using e2)]
    rw [e] at hk
    exact Gh.to (mL b s V m (SX ++ F)) (Gh.done (hk.go (Ext.refl _) hF hSp (rv_V ..)))
  · rename_i ho _ e1 e2 e3
    have e : refM m c = (failR 144, m) := by unfold refM; rw [if_neg (by first | (simp_all; done) | (simp_all; omega) | omega), ha]; simp only; rw [if_neg (by rw [← hcm, e1]; simp), if_neg (by simpa using e2), if_pos e3]
    rw [e] at hk
    exact Gh.to (mL b s V m (SX ++ F)) (Gh.done (hk.go (Ext.refl _) hF hSp (rv_V ..)))
  · rename_i ho _ e1 e2 e3
    have e : refM m c = (okR, seeF (lowM m c) c 0 z0) := by unfold refM; rw [if_neg (by first | (simp_all; done) | (simp_all; omega) | omega), ha]; simp only; rw [if_neg (by rw [← hcm, e1]; simp), if_neg (by simpa using e2), if_neg (by rw [e3]; simp)]
    rw [e] at hk
    exact Gh.to (mL b s V2 (seeF (lowM m c) c 0 z0) (SX ++ F)) (Gh.done (hk.go (Ext.refl _) hF2 (by rw [(seeF_sp ..).1, (seeF_sp ..).2]; exact hSp) (rv_V ..)))
theorem putM_again {r : TRes} (h0 : inB m.span c.fKey = true) (e : againF m c = some r) : putM m c = (r, m) := by unfold putM; rw [if_neg (by simp [h0]), e]
theorem putM_l1 (h0 : inB m.span c.fKey = true) (e : againF m c = none) (h : (lift1 m c).2 ≠ 0) : putM m c = (failR (lift1 m c).2, m) := by unfold putM; rw [if_neg (by simp [h0]), e]; simp only; rw [if_pos h]
theorem putM_low {W : TStamp} (h0 : inB m.span c.fKey = true) (e : againF m c = none) (h : lift1 m c = (W, 0)) (h2 : (liftK m.low W c.fTxn).2 ≠ 0) : putM m c = (failR (liftK m.low W c.fTxn).2, m) := by
  unfold putM; rw [if_neg (by simp [h0]), e]; simp only; rw [h, if_neg (by simp), if_pos h2]
abbrev putMm (m : Mch) (c : TCmd) (W : TStamp) : Mch := { m with sp := putS m.sp (putIn c (liftK m.low W c.fTxn).1), nt := putN m.sp (putIn c (liftK m.low W c.fTxn).1) m.nt }
theorem putM_fin {W : TStamp} (h0 : inB m.span c.fKey = true) (e : againF m c = none) (h : lift1 m c = (W, 0)) (h2 : (liftK m.low W c.fTxn).2 = 0) : putM m c =
    (⟨(putA m.sp (putIn c (liftK m.low W c.fTxn).1)).2.2, gotN, [], (putA m.sp (putIn c (liftK m.low W c.fTxn).1)).1, (putA m.sp (putIn c (liftK m.low W c.fTxn).1)).2.1, 0⟩,
      if (putA m.sp (putIn c (liftK m.low W c.fTxn).1)).2.2 = 0 then seeF (putMm m c W) c (putA m.sp (putIn c (liftK m.low W c.fTxn).1)).2.2 (putA m.sp (putIn c (liftK m.low W c.fTxn).1)).1 else putMm m c W) := by
  unfold putM; rw [if_neg (by simp [h0]), e]; simp only; rw [h, if_neg (by simp), if_neg (by simp [h2])]
  congr 1
  split
  · rename_i h3; rw [h3]
  · rfl
theorem drawX (SX : LH) {R : LH} [h : SplitL SX L R] {B : M → M} (hB : B (Stay I R) I L) : Draw B I L := draw _ ⟨Ext.refl I, fun x hx => h.perm.mem_iff.2 (List.mem_append_right _ hx)⟩ hB
theorem put1_spec {p8 : Value} {W : TStamp} {bk bw bo b2 b1 : Nat} {ok oo : Obj} {w0 w1 w2 w3 : Value} (hM : MOk m N) (hN : N ≤ 10000) (hF : MF I V m) (hSp : SpR I s SX m.sp m.nt) (g0 : Bytes I w0 c.fKey) (g1 : Bytes I w1 c.fValue) (g2 : Bytes I w2 c.fSpan.fFrom) (g3 : Bytes I w3 c.fSpan.fTo)
    (hi : inB m.span c.fKey = true) (ha : againF m c = none) (hW : lift1 m c = (W, 0)) (hk : PostK K b F I (putM m c).1 (putM m c).2) :
    sh96_1 ω (pt b) (pt b1) (pt b2) (pt bw) p8 (fun v => Gh (K v)) I ((bk, ok) :: (bw, .cells #[.int .i64 W.fWall, .int .i64 W.fLogic] 41 (0, 0)) :: (bo, oo) :: mL b s V m
      ((b2, .cells #[.int .i64 0, .bool false, .slice none 0 0, .int .i64 0, .int .i64 0, .int .i64 0, .slice none 0 0, .int .i64 0, .int .i64 0, .int .i64 0, .int .i64 0] 52 (0, 0)) ::
      (b1, .cells #[.int .i64 c.fKind, .int .i64 c.fTxn, .int .i64 c.fSeq, .int .i64 c.fAt.fWall, .int .i64 c.fAt.fLogic, .int .i64 c.fTo.fWall, .int .i64 c.fTo.fLogic, .int .i64 c.fBy, .bool c.fYes, .bool c.fDel, w0, w1, w2, w3, .int .i64 c.fMost] 56 (0, 0)) :: (SX ++ F))) := by
  have h1 := hM.vers
  have h2 := sq_le hN
  have h3 := hM.rows
  have hvs : ∀ r ∈ m.sp.rows, r.vs.length ≤ 100000000 := vers_le (by omega)
  have hF0 : ∀ W I', Ext I I' → MF I' V (putMm m c W) := fun W I' hI => { hF.mono hI with }
  have hc' : TCmdV I c _ := ⟨w0, w1, w2, w3, rfl, g0, g1, g2, g3⟩
  obtain ⟨wa0, wc0, rfl⟩ := Bytes.form g0
  obtain ⟨wa1, wc1, rfl⟩ := Bytes.form g1
  repeat' (first | (with_reducible refine drawX SX ?_) | (with_reducible refine drawW1 ?_) | (with_reducible refine drawW2 ?_) | (with_reducible refine keepC (by repeat (first | exact Ext.refl _ | assumption | refine Ext.trans ?_ (by assumption))) ?_) | (with_reducible refine newI (fun _ => ?_)) | ((with_reducible refine call ?_); refine (failed_spec ?_)) | ((with_reducible refine call ?_); refine (mlift_spec (k := m.low) (w := W) (n := c.fTxn) ?_)) | ((with_reducible refine call ?_); refine (Cal.split SX (put_spec (x := putIn c (liftK m.low W c.fTxn).1) hSp hM.sp (by omega) hvs ⟨_, _, rfl, g0, g1⟩ (fun X1 I1 hI1 hS1 => ?_)))) | ((with_reducible refine call ?_); refine (calM b V (see_spec (m := putMm m c W) (e := (putA m.sp (putIn c (liftK m.low W c.fTxn).1)).2.2) (a := (putA m.sp (putIn c (liftK m.low W c.fTxn).1)).1) (n := (putA m.sp (putIn c (liftK m.low W c.fTxn).1)).2.1) (s' := 0) (hF0 W I1 hI1) hM.seen hM.seenL (hc'.mono hI1) (fun V2 hF2 => ?_)))) | first | (with_reducible refine rdb ?_) | ((with_reducible refine st1 ?_ ?_); rfl) | ((with_reducible refine rdB ?_ ?_); rfl) | (with_reducible refine rdbS ?_) | ((with_reducible refine rdBS ?_ ?_); rfl) | ((with_reducible refine stB ?_ ?_ ?_ ?_); rfl; rfl; exact one_all rfl) | ((with_reducible refine rdP _ rfl ?_ ?_); rfl) | ((with_reducible refine rdPS _ rfl ?_ ?_); rfl) | ((with_reducible refine stP _ rfl ?_ ?_ ?_ ?_); rfl; rfl; rfl) | (with_reducible refine unfE (sh96_3.eq_1 ..) ?_) | (with_reducible refine unfE (sh96_2.eq_1 ..) ?_) | (with_reducible refine unfE (sh96_1.eq_1 ..) ?_) | (with_reducible refine unfE (sh96.eq_1 ..) ?_) | (with_reducible refine And.intro ?_ ?_) | (simp only [Bool.not_true, Bool.not_false, Bool.and_self, Bool.true_and, Int.reduceBEq, Int.reduceBNe, Int.reduceLT, Int.reduceLE, decide_true, decide_false, Br_true, Br_false, Gd_tt, Gd_ft, Gd_tf, Gd_ff, beq_self_eq_true, bne_self_eq_false]) | (with_reducible refine gd_split (fun _ => ?_) (fun _ => ?_)) | (with_reducible refine br_split (fun _ => ?_) (fun _ => ?_)) | (simp only [SSd, Nat.reduceAdd]))
  all_goals first
    | (rw [putM_low hi ha hW (by first | (simp_all; done) | (simp_all; omega) | omega)] at hk
       exact Gh.to (mL b s V m (SX ++ F)) (Gh.done (hk.go (Ext.refl _) hF hSp (rv_V ..))))
    | (rw [putM_fin hi ha hW (by first | (simp_all; done) | (simp_all; omega) | omega), if_pos (by first | (simp_all; done) | (simp_all; omega) | omega)] at hk
       exact Gh.to (mL b s V2 (seeF (putMm m c W) c (putA m.sp (putIn c (liftK m.low W c.fTxn).1)).2.2 (putA m.sp (putIn c (liftK m.low W c.fTxn).1)).1) (X1 ++ F)) (Gh.done (hk.go hI1 hF2 (by rw [(seeF_sp ..).1, (seeF_sp ..).2]; exact hS1) (rv_V ..))))
    | (rw [putM_fin hi ha hW (by first | (simp_all; done) | (simp_all; omega) | omega), if_neg (by first | (simp_all; done) | (simp_all; omega) | omega)] at hk
       exact Gh.to (mL b s V (putMm m c W) (X1 ++ F)) (Gh.done (hk.go hI1 (hF0 W I1 hI1) hS1 (rv_V ..))))
    | trace_state
theorem putc_spec (hM : MOk m N) (hN : N ≤ 10000) (hF : MF I V m) (hSp : SpR I s SX m.sp m.nt) (hc : TCmdV I c cc) (hk : PostK K b F I (putM m c).1 (putM m c).2) :
    Cal Tryz.prog ω 96 #[pt b, .agg cc.toArray] K I (mL b s V m (SX ++ F)) := by
  have hc' := hc
  obtain ⟨w0, w1, w2, w3, rfl, g0, g1, g2, g3⟩ := hc
  refine cal96 ?_
  unfold sh96
  refine newI (fun b1 => newI (fun b2 => ?_))
  have hl : encM mv m.marks c.fKey = (lkA m.marks c.fKey).map mv := rfl
  have hl1 : lift1 m c = match lkA m.marks c.fKey with | some k => liftK k c.fAt c.fTxn | none => (c.fAt, 0) := rfl
  rcases hx : lkA m.marks c.fKey with _ | x
  all_goals rw [hx] at hl hl1
  all_goals simp only [Option.map_none, Option.map_some] at hl hl1
  · repeat' (first | (with_reducible refine drawC ?_) | (with_reducible refine drawW1 ?_) | (with_reducible refine drawW2 ?_) | (with_reducible refine keepC (by repeat (first | exact Ext.refl _ | assumption | refine Ext.trans ?_ (by assumption))) ?_) | (with_reducible refine newI (fun _ => ?_)) | (with_reducible refine put1_spec (W := c.fAt) hM hN hF hSp g0 g1 g2 g3 ?_ ha hl1 hk) | ((with_reducible refine call ?_); refine (pholds_spec (p := m.span) ⟨_, _, rfl, hF.f0, hF.f1⟩ g0 ?_)) | ((with_reducible refine call ?_); refine (failed_spec ?_)) | ((with_reducible refine call ?_); refine (calM b V (again_spec hF hc' (fun e a ha => ?_) (fun ha => ?_)))) | (with_reducible refine bs_I g0 (Ext.refl _) ?_) | ((with_reducible refine lkTS hF.mks ?_); simp only [hl, lkV, if_true, if_false, Bool.false_eq_true]) | first | (with_reducible refine rdb ?_) | ((with_reducible refine st1 ?_ ?_); rfl) | ((with_reducible refine rdB ?_ ?_); rfl) | (with_reducible refine rdbS ?_) | ((with_reducible refine rdBS ?_ ?_); rfl) | ((with_reducible refine stB ?_ ?_ ?_ ?_); rfl; rfl; exact one_all rfl) | ((with_reducible refine rdP _ rfl ?_ ?_); rfl) | ((with_reducible refine rdPS _ rfl ?_ ?_); rfl) | ((with_reducible refine stP _ rfl ?_ ?_ ?_ ?_); rfl; rfl; rfl) | (with_reducible refine unfE (sh96_3.eq_1 ..) ?_) | (with_reducible refine unfE (sh96_2.eq_1 ..) ?_) | (with_reducible refine unfE (sh96_1.eq_1 ..) ?_) | (with_reducible refine unfE (sh96.eq_1 ..) ?_) | (with_reducible refine And.intro ?_ ?_) | (simp only [Bool.not_true, Bool.not_false, Bool.and_self, Bool.true_and, Int.reduceBEq, Int.reduceBNe, Int.reduceLT, Int.reduceLE, decide_true, decide_false, Br_true, Br_false, Gd_tt, Gd_ft, Gd_tf, Gd_ff, beq_self_eq_true, bne_self_eq_false]) | (with_reducible refine gd_split (fun _ => ?_) (fun _ => ?_)) | (with_reducible refine br_split (fun _ => ?_) (fun _ => ?_)) | (simp only [SSd, Nat.reduceAdd]))
    · have e1 : putM m c = (failR 141, m) := by unfold putM; rw [if_pos (by first | (simp_all; done) | (simp_all; omega) | omega)]
      rw [e1] at hk
      exact Gh.to (mL b s V m (SX ++ F)) (Gh.done (hk.go (Ext.refl _) hF hSp (rv_V ..)))
    · rw [putM_again (by first | (simp_all; done) | (simp_all; omega) | omega) ha] at hk
      exact Gh.to (mL b s V m (SX ++ F)) (Gh.done (hk.go (Ext.refl _) hF hSp (rv_V ..)))
    · rename_i hi _ _ _; simpa using hi
  · have hl2 : (liftK x c.fAt c.fTxn).2 = 0 → lift1 m c = ((liftK x c.fAt c.fTxn).1, 0) := fun h => by rw [hl1, ← h]
    repeat' (first | (with_reducible refine drawC ?_) | (with_reducible refine drawW1 ?_) | (with_reducible refine drawW2 ?_) | (with_reducible refine keepC (by repeat (first | exact Ext.refl _ | assumption | refine Ext.trans ?_ (by assumption))) ?_) | (with_reducible refine newI (fun _ => ?_)) | (with_reducible refine put1_spec (W := (liftK x c.fAt c.fTxn).1) hM hN hF hSp g0 g1 g2 g3 ?_ ha ?_ hk) | ((with_reducible refine call ?_); refine (pholds_spec (p := m.span) ⟨_, _, rfl, hF.f0, hF.f1⟩ g0 ?_)) | ((with_reducible refine call ?_); refine (failed_spec ?_)) | ((with_reducible refine call ?_); refine (calM b V (again_spec hF hc' (fun e a ha => ?_) (fun ha => ?_)))) | (with_reducible refine bs_I g0 (Ext.refl _) ?_) | ((with_reducible refine lkTS hF.mks ?_); simp only [hl, lkV, if_true, if_false, Bool.false_eq_true]) | ((with_reducible refine call ?_); refine (mlift_spec (k := x) (w := c.fAt) (n := c.fTxn) ?_)) | first | (with_reducible refine rdb ?_) | ((with_reducible refine st1 ?_ ?_); rfl) | ((with_reducible refine rdB ?_ ?_); rfl) | (with_reducible refine rdbS ?_) | ((with_reducible refine rdBS ?_ ?_); rfl) | ((with_reducible refine stB ?_ ?_ ?_ ?_); rfl; rfl; exact one_all rfl) | ((with_reducible refine rdP _ rfl ?_ ?_); rfl) | ((with_reducible refine rdPS _ rfl ?_ ?_); rfl) | ((with_reducible refine stP _ rfl ?_ ?_ ?_ ?_); rfl; rfl; rfl) | (with_reducible refine unfE (sh96_3.eq_1 ..) ?_) | (with_reducible refine unfE (sh96_2.eq_1 ..) ?_) | (with_reducible refine unfE (sh96_1.eq_1 ..) ?_) | (with_reducible refine unfE (sh96.eq_1 ..) ?_) | (with_reducible refine And.intro ?_ ?_) | (simp only [Bool.not_true, Bool.not_false, Bool.and_self, Bool.true_and, Int.reduceBEq, Int.reduceBNe, Int.reduceLT, Int.reduceLE, decide_true, decide_false, Br_true, Br_false, Gd_tt, Gd_ft, Gd_tf, Gd_ff, beq_self_eq_true, bne_self_eq_false]) | (with_reducible refine gd_split (fun _ => ?_) (fun _ => ?_)) | (with_reducible refine br_split (fun _ => ?_) (fun _ => ?_)) | (simp only [SSd, Nat.reduceAdd]))
    · have e1 : putM m c = (failR 141, m) := by unfold putM; rw [if_pos (by first | (simp_all; done) | (simp_all; omega) | omega)]
      rw [e1] at hk
      exact Gh.to (mL b s V m (SX ++ F)) (Gh.done (hk.go (Ext.refl _) hF hSp (rv_V ..)))
    · rw [putM_again (by first | (simp_all; done) | (simp_all; omega) | omega) ha] at hk
      exact Gh.to (mL b s V m (SX ++ F)) (Gh.done (hk.go (Ext.refl _) hF hSp (rv_V ..)))
    · rename_i hi _ _ _ hn
      rw [putM_l1 (by simpa using hi) ha (by rw [hl1]; simpa using hn), hl1] at hk
      exact Gh.to (mL b s V m (SX ++ F)) (Gh.done (hk.go (Ext.refl _) hF hSp (rv_V ..)))
    · rename_i hi _ _ _ hn; simpa using hi
    · rename_i hi _ _ _ hn; exact hl2 (by simpa using hn)
theorem resL_step {x : TIntent} {l : List TIntent} {sp : Sp} {nt : Nts} (h : ¬ (x.fTxn ≠ c.fTxn ∨ inB c.fSpan x.fKey = false)) (h2 : (resA sp x.fKey c.fTxn c.fYes c.fAt).2 = 0) :
    resL c (x :: l) sp nt = resL c l (resS sp x.fKey c.fTxn c.fYes c.fAt) (resN sp x.fKey c.fTxn c.fYes c.fAt nt) := by
  show (if x.fTxn ≠ c.fTxn ∨ inB c.fSpan x.fKey = false then _ else _) = _
  rw [if_neg h, if_neg (by simp [h2])]
theorem resL_skip {x : TIntent} {l : List TIntent} {sp : Sp} {nt : Nts} (h : x.fTxn ≠ c.fTxn ∨ inB c.fSpan x.fKey = false) : resL c (x :: l) sp nt = resL c l sp nt := if_pos h
theorem resL_bad {x : TIntent} {l : List TIntent} {sp : Sp} {nt : Nts} (h : ¬ (x.fTxn ≠ c.fTxn ∨ inB c.fSpan x.fKey = false)) (h2 : (resA sp x.fKey c.fTxn c.fYes c.fAt).2 ≠ 0) :
    resL c (x :: l) sp nt = ((resA sp x.fKey c.fTxn c.fYes c.fAt).2, resS sp x.fKey c.fTxn c.fYes c.fAt, resN sp x.fKey c.fTxn c.fYes c.fAt nt) := by
  show (if x.fTxn ≠ c.fTxn ∨ inB c.fSpan x.fKey = false then _ else _) = _
  rw [if_neg h, if_pos h2]
abbrev resMm (m : Mch) (sp : Sp) (nt : Nts) : Mch := { m with sp := sp, nt := nt }
abbrev resO : Obj := .cells #[.int .i64 0, .bool false, .slice none 0 0, .int .i64 0, .int .i64 0, .int .i64 0, .slice none 0 0, .int .i64 0, .int .i64 0, .int .i64 0, .int .i64 0] 52 (0, 0)
abbrev cmdO (c : TCmd) (w0 w1 w2 w3 : Value) : Obj := .cells #[.int .i64 c.fKind, .int .i64 c.fTxn, .int .i64 c.fSeq, .int .i64 c.fAt.fWall, .int .i64 c.fAt.fLogic, .int .i64 c.fTo.fWall, .int .i64 c.fTo.fLogic, .int .i64 c.fBy, .bool c.fYes, .bool c.fDel, w0, w1, w2, w3, .int .i64 c.fMost] 56 (0, 0)
theorem resolvec_spec (hM : MOk m N) (hN : N ≤ 5000) (hF : MF I V m) (hSp : SpR I s SX m.sp m.nt) (hc : TCmdV I c cc) (hk : PostK K b F I (resM m c).1 (resM m c).2) :
    Cal Tryz.prog ω 102 #[pt b, .agg cc.toArray] K I (mL b s V m (SX ++ F)) := by
  have h1 := hM.vers
  have h2 : N * N ≤ 25000000 := Nat.mul_le_mul hN hN
  have h3 := hM.rows
  obtain ⟨w0, w1, w2, w3, rfl, g0, g1, g2, g3⟩ := hc
  refine cal102 ?_
  unfold sh102
  refine newI (fun b1 => newI (fun b2 => ?_))
  try simp only [SSd, Nat.reduceAdd]
  refine rdP _ rfl rfl ?_
  refine call (calM b V (ours_spec hF (p := c.fSpan) ⟨_, _, rfl, g2, g3⟩ ?_))
  try simp only [SSd, Nat.reduceAdd]
  refine br_split (fun e => ?_) (fun e => ?_)
  · have e1 : resM m c = (failR 141, m) := by unfold resM; rw [if_pos (by first | (simp_all; done) | (simp_all; omega) | omega)]
    rw [e1] at hk
    repeat' (first | (with_reducible refine drawC ?_) | (with_reducible refine drawW1 ?_) | (with_reducible refine drawW2 ?_) | (with_reducible refine keepC (by repeat (first | exact Ext.refl _ | assumption | refine Ext.trans ?_ (by assumption))) ?_) | (with_reducible refine newI (fun _ => ?_)) | ((with_reducible refine call ?_); refine (failed_spec ?_)) | first | (with_reducible refine rdb ?_) | ((with_reducible refine st1 ?_ ?_); rfl) | ((with_reducible refine rdB ?_ ?_); rfl) | (with_reducible refine rdbS ?_) | ((with_reducible refine rdBS ?_ ?_); rfl) | ((with_reducible refine stB ?_ ?_ ?_ ?_); rfl; rfl; exact one_all rfl) | ((with_reducible refine rdP _ rfl ?_ ?_); rfl) | ((with_reducible refine rdPS _ rfl ?_ ?_); rfl) | ((with_reducible refine stP _ rfl ?_ ?_ ?_ ?_); rfl; rfl; rfl) | (with_reducible refine unfE (sh102_3.eq_1 ..) ?_) | (with_reducible refine unfE (sh102_4.eq_1 ..) ?_) | (with_reducible refine unfE (sh102_6.eq_1 ..) ?_) | (with_reducible refine unfE (sh102_1.eq_1 ..) ?_) | (with_reducible refine unfE (sh102.eq_1 ..) ?_) | (with_reducible refine And.intro ?_ ?_) | (simp only [Bool.not_true, Bool.not_false, Bool.and_self, Bool.true_and, Int.reduceBEq, Int.reduceBNe, Int.reduceLT, Int.reduceLE, decide_true, decide_false, Br_true, Br_false, Gd_tt, Gd_ft, Gd_tf, Gd_ff, beq_self_eq_true, bne_self_eq_false]) | (with_reducible refine gd_split (fun _ => ?_) (fun _ => ?_)) | (with_reducible refine br_split (fun _ => ?_) (fun _ => ?_)) | (simp only [SSd, Nat.reduceAdd]))
    exact Gh.to (mL b s V m (SX ++ F)) (Gh.done (hk.go (Ext.refl _) hF hSp (rv_V ..)))
  have ho : oursB m.span c.fSpan = true := by simpa using e
  have e1 : resM m c = (failR (resL c (intsOf m.sp.rows) m.sp m.nt).1, resMm m (resL c (intsOf m.sp.rows) m.sp m.nt).2.1 (resL c (intsOf m.sp.rows) m.sp m.nt).2.2) := by unfold resM; rw [if_neg (by simp [ho])]
  rw [e1] at hk
  try simp only [SSd, Nat.reduceAdd]
  refine rdb ?_
  refine call (intents_spec (sp := m.sp) (hSp.view (fun x hx => by simp [hx])) hM.sp.rise (by omega) (fun I1 iv hI1 hIv => ?_))
  have hil := ints_le m.sp.rows
  generalize intsOf m.sp.rows = its at *
  simp only [RL.len hIv, SSd, Nat.reduceAdd]
  refine loop (fun n' (s' : Value × Unit) I' L' => ∃ (i : Nat) (sp' : Sp) (nt' : Nts) (X' : LH), n' + i = its.length ∧ s' = (.int .i64 i, ()) ∧ Ext I1 I' ∧ SpR I' s X' sp' nt' ∧ SpOk sp' ∧ sp'.rows.length ≤ m.sp.rows.length ∧ versN sp'.rows ≤ versN m.sp.rows + i ∧
    resL c its m.sp m.nt = resL c (its.drop i) sp' nt' ∧ L' = mL b s V m ((b2, resO) ::
      (b1, cmdO c w0 w1 w2 w3) :: (X' ++ F)))
    its.length ⟨0, m.sp, m.nt, SX, rfl, rfl, Ext.refl _, hSp.mono hI1, hM.sp, Nat.le_refl _, Nat.le_refl _, rfl, rfl⟩ ?_
  rintro n' s' I' L' ⟨i, sp', nt', X', hn, rfl, hI', hS', hok, hrl, hvl, hre, rfl⟩
  unfold sh102_1
  try simp only [SSd, Nat.reduceAdd]
  refine br_split (fun e2 => ?_) (fun e2 => ?_)
  · have hi : i < its.length := by simpa using e2
    obtain ⟨bx, off, cx, hix, hcl, hcx, hcc⟩ := RL.ix hIv (i := (i : Int)) (by omega) (by omega)
    rw [geti_nat hi] at hcx
    have hdrop : its.drop i = its[i] :: its.drop (i + 1) := List.drop_eq_getElem_cons hi
    generalize its[i] = x at *
    obtain ⟨x0, x1, rfl, k0, k1⟩ := hcx
    obtain ⟨xa0, xc0, rfl⟩ := Bytes.form k0
    obtain ⟨xa1, xc1, rfl⟩ := Bytes.form k1
    have w64 : IntKind.i64.wrap ((i : Int) + 1) = ((i + 1 : Nat) : Int) := by rw [wrap_i64 _ (by omega)]; rfl
    simp only [hix, SSd, Nat.reduceAdd]
    refine rdN hcl (hcc I' _ hI' (fun x hx => by cases hx)) ?_
    repeat' (first | (with_reducible refine drawX X' ?_) | (with_reducible refine drawW1 ?_) | (with_reducible refine drawW2 ?_) | (with_reducible refine keepC (by repeat (first | exact Ext.refl _ | assumption | refine Ext.trans ?_ (by assumption))) ?_) | (with_reducible refine newI (fun _ => ?_)) | ((with_reducible refine call ?_); refine (pholds_spec (p := c.fSpan) ⟨_, _, rfl, (g2.mono hI1).mono hI', (g3.mono hI1).mono hI'⟩ (k0.mono hI') ?_)) | ((with_reducible refine call ?_); refine (failed_spec ?_)) | ((with_reducible refine call ?_); refine (Cal.split X' (resolve_spec (k := x.fKey) (txn := c.fTxn) (yes := c.fYes) (a := c.fAt) hS' hok (by omega) (vers_le (by omega)) (k0.mono hI') (fun X2 I2 hI2 hS2 => ?_)))) | first | (with_reducible refine rdb ?_) | ((with_reducible refine st1 ?_ ?_); rfl) | ((with_reducible refine rdB ?_ ?_); rfl) | (with_reducible refine rdbS ?_) | ((with_reducible refine rdBS ?_ ?_); rfl) | ((with_reducible refine stB ?_ ?_ ?_ ?_); rfl; rfl; exact one_all rfl) | ((with_reducible refine rdP _ rfl ?_ ?_); rfl) | ((with_reducible refine rdPS _ rfl ?_ ?_); rfl) | ((with_reducible refine stP _ rfl ?_ ?_ ?_ ?_); rfl; rfl; rfl) | (with_reducible refine unfE (sh102_3.eq_1 ..) ?_) | (with_reducible refine unfE (sh102_4.eq_1 ..) ?_) | (with_reducible refine unfE (sh102_6.eq_1 ..) ?_) | (with_reducible refine unfE (sh102_1.eq_1 ..) ?_) | (with_reducible refine unfE (sh102.eq_1 ..) ?_) | (with_reducible refine And.intro ?_ ?_) | (simp only [Bool.not_true, Bool.not_false, Bool.and_self, Bool.true_and, Int.reduceBEq, Int.reduceBNe, Int.reduceLT, Int.reduceLE, decide_true, decide_false, Br_true, Br_false, Gd_tt, Gd_ft, Gd_tf, Gd_ff, beq_self_eq_true, bne_self_eq_false]) | (with_reducible refine gd_split (fun _ => ?_) (fun _ => ?_)) | (with_reducible refine br_split (fun _ => ?_) (fun _ => ?_)) | (simp only [SSd, Nat.reduceAdd]))
    · rename_i q1 q2
      rw [w64]
      refine Gh.to (mL b s V m ((b2, resO) :: (b1, cmdO c w0 w1 w2 w3) :: (X' ++ F))) (Gh.done ⟨n' - 1, by omega, i + 1, sp', nt', X', by omega, rfl, hI', hS', hok, hrl, by omega, ?_, rfl⟩)
      rw [hre, hdrop, resL_skip (.inr (by first | (simp_all; done) | (simp_all; omega) | omega))]
    · rename_i q1 q2 q3
      have hq : ¬ (x.fTxn ≠ c.fTxn ∨ inB c.fSpan x.fKey = false) := by simp at q1 q2; simp [q1, q2]
      rw [hre, hdrop, resL_bad hq (by simpa using q3)] at hk
      exact Gh.to (mL b s V (resMm m (resS sp' x.fKey c.fTxn c.fYes c.fAt) (resN sp' x.fKey c.fTxn c.fYes c.fAt nt')) (X2 ++ F)) (Gh.done (hk.go (hI1.trans (hI'.trans hI2)) { hF.mono (hI1.trans (hI'.trans hI2)) with } hS2 (rv_V ..)))
    · rename_i q1 q2 q3
      have hq : ¬ (x.fTxn ≠ c.fTxn ∨ inB c.fSpan x.fKey = false) := by simp at q1 q2; simp [q1, q2]
      have hlen := res_len (k := x.fKey) (txn := c.fTxn) (yes := c.fYes) (a := c.fAt) hok
      rw [w64]
      refine Gh.to (mL b s V m ((b2, resO) :: (b1, cmdO c w0 w1 w2 w3) :: (X2 ++ F))) (Gh.done ⟨n' - 1, by omega, i + 1, _, _, X2, by omega, rfl, hI'.trans hI2, hS2, hok.res, by omega, by omega, ?_, rfl⟩)
      rw [hre, hdrop, resL_step hq (by simpa using q3)]
    · rename_i q1
      rw [w64]
      refine Gh.to (mL b s V m ((b2, resO) :: (b1, cmdO c w0 w1 w2 w3) :: (X' ++ F))) (Gh.done ⟨n' - 1, by omega, i + 1, sp', nt', X', by omega, rfl, hI', hS', hok, hrl, by omega, ?_, rfl⟩)
      rw [hre, hdrop, resL_skip (.inl (by simpa using q1))]
  · have hi : i = its.length := by simp at e2; omega
    rw [hre, hi, List.drop_length] at hk
    repeat' (first | (with_reducible refine drawC ?_) | (with_reducible refine drawW1 ?_) | (with_reducible refine drawW2 ?_) | (with_reducible refine keepC (by repeat (first | exact Ext.refl _ | assumption | refine Ext.trans ?_ (by assumption))) ?_) | (with_reducible refine newI (fun _ => ?_)) | first | (with_reducible refine rdb ?_) | ((with_reducible refine st1 ?_ ?_); rfl) | ((with_reducible refine rdB ?_ ?_); rfl) | (with_reducible refine rdbS ?_) | ((with_reducible refine rdBS ?_ ?_); rfl) | ((with_reducible refine stB ?_ ?_ ?_ ?_); rfl; rfl; exact one_all rfl) | ((with_reducible refine rdP _ rfl ?_ ?_); rfl) | ((with_reducible refine rdPS _ rfl ?_ ?_); rfl) | ((with_reducible refine stP _ rfl ?_ ?_ ?_ ?_); rfl; rfl; rfl) | (with_reducible refine unfE (sh102_3.eq_1 ..) ?_) | (with_reducible refine unfE (sh102_4.eq_1 ..) ?_) | (with_reducible refine unfE (sh102_6.eq_1 ..) ?_) | (with_reducible refine unfE (sh102_1.eq_1 ..) ?_) | (with_reducible refine unfE (sh102.eq_1 ..) ?_) | (with_reducible refine And.intro ?_ ?_) | (simp only [Bool.not_true, Bool.not_false, Bool.and_self, Bool.true_and, Int.reduceBEq, Int.reduceBNe, Int.reduceLT, Int.reduceLE, decide_true, decide_false, Br_true, Br_false, Gd_tt, Gd_ft, Gd_tf, Gd_ff, beq_self_eq_true, bne_self_eq_false]) | (with_reducible refine gd_split (fun _ => ?_) (fun _ => ?_)) | (with_reducible refine br_split (fun _ => ?_) (fun _ => ?_)) | (simp only [SSd, Nat.reduceAdd]))
    exact Gh.to (mL b s V (resMm m sp' nt') (X' ++ F)) (Gh.done (hk.go (hI1.trans hI') { hF.mono (hI1.trans hI') with } hS' (rv_V ..)))
end
end Go.Proofs.YtmmfcgbfbcamcaaGreatDoor
-- S3
set_option linter.unusedSimpArgs false
set_option linter.unusedVariables false
namespace Go.Proofs.YtmmfcgbfbcamcaaGreatDoor
open Go.SL
set_option maxRecDepth 10000
def emptyC (c : TCmd) : Bool := c.fSeq == 0 && (c.fBy == 0 && (c.fMost == 0 && ((c.fTo.fWall == 0 && c.fTo.fLogic == 0) && (!c.fYes && (!c.fDel && (c.fKey.length == 0 && (c.fValue.length == 0 && (c.fSpan.fFrom.length == 0 && c.fSpan.fTo.length == 0))))))))
theorem len0 {a b c d : Nat} (ha : a ≤ 140737488355328) (hb : b ≤ 140737488355328) (hc : c ≤ 140737488355328) (hd : d ≤ 140737488355328) :
    IntKind.i64.wrap (IntKind.i64.wrap (IntKind.i64.wrap (IntKind.i64.wrap ((a : Int)) + b) + c) + d) = (a : Int) + b + c + d := by
  rw [wrap_i64 (a : Int) (by omega), wrap_i64 ((a : Int) + b) (by omega), wrap_i64 ((a : Int) + b + c) (by omega), wrap_i64 ((a : Int) + b + c + d) (by omega)]
structure Lens (c : TCmd) : Prop where
  k : c.fKey.length ≤ 140737488355328
  v : c.fValue.length ≤ 140737488355328
  f : c.fSpan.fFrom.length ≤ 140737488355328
  t : c.fSpan.fTo.length ≤ 140737488355328
section
variable {ω : Om} {I : Imm} {L : LH} {K : Value → M}
theorem empty_spec {c : TCmd} {cc : List Value} (hc : TCmdV I c cc) (hL : Lens c) (hk : K (.bool (emptyC c)) I L) : Cal Tryz.prog ω 92 #[.agg cc.toArray] K I L := by
  obtain ⟨w0, w1, w2, w3, rfl, g0, g1, g2, g3⟩ := hc
  have hl := len0 hL.k hL.v hL.f hL.t
  refine cal92 ?_
  unfold sh92
  by_cases hz : c.fSeq = 0 ∧ c.fBy = 0 ∧ c.fMost = 0
  · obtain ⟨z1, z2, z3⟩ := hz
    have hl2 : IntKind.i64.wrap (IntKind.i64.wrap (IntKind.i64.wrap (IntKind.i64.wrap (IntKind.i64.wrap (IntKind.i64.wrap ((0 : Int) + 0) + 0) + c.fKey.length) + c.fValue.length) + c.fSpan.fFrom.length) + c.fSpan.fTo.length) = (c.fKey.length : Int) + c.fValue.length + c.fSpan.fFrom.length + c.fSpan.fTo.length := by
      rw [show IntKind.i64.wrap ((0 : Int) + 0) = 0 from rfl, show IntKind.i64.wrap ((0 : Int) + 0) = 0 from rfl, Int.zero_add, hl]
    have he : emptyC c = (((c.fKey.length : Int) + c.fValue.length + c.fSpan.fFrom.length + c.fSpan.fTo.length == 0) && ((c.fTo.fWall == 0 && c.fTo.fLogic == 0) && (!c.fYes && !c.fDel))) := by
      unfold emptyC
      rw [z1, z2, z3, Bool.eq_iff_iff]
      have e4 : ((c.fKey.length : Int) + c.fValue.length + c.fSpan.fFrom.length + c.fSpan.fTo.length = 0) ↔ (c.fKey.length = 0 ∧ c.fValue.length = 0 ∧ c.fSpan.fFrom.length = 0 ∧ c.fSpan.fTo.length = 0) := by omega
      simp only [Bool.and_eq_true, beq_iff_eq, Bool.not_eq_true', beq_self_eq_true, true_and, e4]
      constructor
      · rintro ⟨a1, a2, a3, a4, a5, a6, a7⟩; exact ⟨⟨a4, a5, a6, a7⟩, a1, a2, a3⟩
      · rintro ⟨⟨a4, a5, a6, a7⟩, a1, a2, a3⟩; exact ⟨a1, a2, a3, a4, a5, a6, a7⟩
    rw [he] at hk
    repeat' (first | (with_reducible refine drawC ?_) | (with_reducible refine drawW1 ?_) | (with_reducible refine drawW2 ?_) | (with_reducible refine keepC (by repeat (first | exact Ext.refl _ | assumption | refine Ext.trans ?_ (by assumption))) ?_) | (with_reducible refine newI (fun _ => ?_)) | first | (with_reducible refine rdb ?_) | ((with_reducible refine st1 ?_ ?_); rfl) | ((with_reducible refine rdB ?_ ?_); rfl) | (with_reducible refine rdbS ?_) | ((with_reducible refine rdBS ?_ ?_); rfl) | ((with_reducible refine stB ?_ ?_ ?_ ?_); rfl; rfl; exact one_all rfl) | ((with_reducible refine rdP _ rfl ?_ ?_); rfl) | ((with_reducible refine rdPS _ rfl ?_ ?_); rfl) | ((with_reducible refine stP _ rfl ?_ ?_ ?_ ?_); rfl; rfl; rfl) | (with_reducible refine unfE (sh92.eq_1 ..) ?_) | (with_reducible refine And.intro ?_ ?_) | (simp only [Bool.not_true, Bool.not_false, Bool.and_self, Bool.true_and, Int.reduceBEq, Int.reduceBNe, Int.reduceLT, Int.reduceLE, decide_true, decide_false, Br_true, Br_false, Gd_tt, Gd_ft, Gd_tf, Gd_ff, beq_self_eq_true, bne_self_eq_false]) | (with_reducible refine gd_split (fun _ => ?_) (fun _ => ?_)) | (with_reducible refine br_split (fun _ => ?_) (fun _ => ?_)) | (simp only [SSd, Nat.reduceAdd, z1, z2, z3, hl2, Bytes.len g0, Bytes.len g1, Bytes.len g2, Bytes.len g3]))
    all_goals (refine Gh.to L (Gh.done (leafB hk ?_)); simp_all)
  · have he : emptyC c = false := by
      unfold emptyC
      rw [Bool.eq_false_iff]
      intro h
      simp only [Bool.and_eq_true, beq_iff_eq] at h
      exact hz ⟨h.1, h.2.1, h.2.2.1⟩
    rw [he] at hk
    repeat' (first | (with_reducible refine drawC ?_) | (with_reducible refine drawW1 ?_) | (with_reducible refine drawW2 ?_) | (with_reducible refine keepC (by repeat (first | exact Ext.refl _ | assumption | refine Ext.trans ?_ (by assumption))) ?_) | (with_reducible refine newI (fun _ => ?_)) | first | (with_reducible refine rdb ?_) | ((with_reducible refine st1 ?_ ?_); rfl) | ((with_reducible refine rdB ?_ ?_); rfl) | (with_reducible refine rdbS ?_) | ((with_reducible refine rdBS ?_ ?_); rfl) | ((with_reducible refine stB ?_ ?_ ?_ ?_); rfl; rfl; exact one_all rfl) | ((with_reducible refine rdP _ rfl ?_ ?_); rfl) | ((with_reducible refine rdPS _ rfl ?_ ?_); rfl) | ((with_reducible refine stP _ rfl ?_ ?_ ?_ ?_); rfl; rfl; rfl) | (with_reducible refine unfE (sh92.eq_1 ..) ?_) | (with_reducible refine And.intro ?_ ?_) | (simp only [Bool.not_true, Bool.not_false, Bool.and_self, Bool.true_and, Int.reduceBEq, Int.reduceBNe, Int.reduceLT, Int.reduceLE, decide_true, decide_false, Br_true, Br_false, Gd_tt, Gd_ft, Gd_tf, Gd_ff, beq_self_eq_true, bne_self_eq_false]) | (with_reducible refine gd_split (fun _ => ?_) (fun _ => ?_)) | (with_reducible refine br_split (fun _ => ?_) (fun _ => ?_)) | (simp only [SSd, Nat.reduceAdd, Bytes.len g0, Bytes.len g1, Bytes.len g2, Bytes.len g3]))
    all_goals (refine Gh.to L (Gh.done (leafB hk ?_)); simp_all)
theorem bnil (I : Imm) : Bytes I (.slice none 0 0) [] := SlI.nil I 1 none 0
theorem emptyX {k t s aw al tw tl b mo : Int} {y d : Bool} {w0 w1 w2 w3 : Value} {key value fr to : List UInt8} (g0 : Bytes I w0 key) (g1 : Bytes I w1 value) (g2 : Bytes I w2 fr) (g3 : Bytes I w3 to)
    (l0 : key.length ≤ 140737488355328) (l1 : value.length ≤ 140737488355328) (l2 : fr.length ≤ 140737488355328) (l3 : to.length ≤ 140737488355328)
    (hk : K (.bool (emptyC ⟨k, t, s, ⟨aw, al⟩, ⟨tw, tl⟩, b, y, d, key, value, ⟨fr, to⟩, mo⟩)) I L) :
    Cal Tryz.prog ω 92 #[.agg #[.int .i64 k, .int .i64 t, .int .i64 s, .int .i64 aw, .int .i64 al, .int .i64 tw, .int .i64 tl, .int .i64 b, .bool y, .bool d, w0, w1, w2, w3, .int .i64 mo]] K I L :=
  empty_spec (c := ⟨k, t, s, ⟨aw, al⟩, ⟨tw, tl⟩, b, y, d, key, value, ⟨fr, to⟩, mo⟩) ⟨w0, w1, w2, w3, rfl, g0, g1, g2, g3⟩ ⟨l0, l1, l2, l3⟩ hk
set_option maxHeartbeats 2000000 in
theorem right_kind {rd : Bool} {c : TCmd} {w0 w1 w2 w3 : Value} {b1 b2 : Nat} (g0 : Bytes I w0 c.fKey) (g1 : Bytes I w1 c.fValue) (g2 : Bytes I w2 c.fSpan.fFrom) (g3 : Bytes I w3 c.fSpan.fTo) (hL : Lens c) (hrd : readerB c.fTxn = rd)
    (hk : K (.bool (kindOk c)) I L) :
    Br (.bool (c.fKind == 1))
      (sh33_2 ω (pt b1) (.bool false) (.bool rd) (.bool (txnB c.fTxn)) (pt b2) (fun v => Gh (K v)))
      (sh33_5 ω (pt b1) (.bool false) (.bool rd) (.bool (txnB c.fTxn)) (pt b2) (.int .i64 c.fKind) (fun v => Gh (K v))) I
      ((b2, .cells #[.int .i64 0, .int .i64 0, .int .i64 c.fSeq, .int .i64 0, .int .i64 0, .int .i64 c.fTo.fWall, .int .i64 c.fTo.fLogic, .int .i64 c.fBy, .bool c.fYes, .bool c.fDel, w0, w1, w2, w3, .int .i64 c.fMost] 56 (0, 0)) :: (b1, cmdO c w0 w1 w2 w3) :: L) := by
  subst hrd
  have h12 : c.fKind = 1 ∨ c.fKind = 2 ∨ c.fKind = 3 ∨ c.fKind = 4 ∨ c.fKind = 5 ∨ c.fKind = 6 ∨ c.fKind = 7 ∨ c.fKind = 8 ∨ c.fKind = 9 ∨ c.fKind = 10 ∨ c.fKind = 11 ∨ (c.fKind < 1 ∨ 11 < c.fKind) := by omega
  rcases h12 with hK | hK | hK | hK | hK | hK | hK | hK | hK | hK | hK | hK
  rotate_right
  · have n1 : c.fKind ≠ 1 := by omega
    have n2 : c.fKind ≠ 2 := by omega
    have n3 : c.fKind ≠ 3 := by omega
    have n4 : c.fKind ≠ 4 := by omega
    have n5 : c.fKind ≠ 5 := by omega
    have n6 : c.fKind ≠ 6 := by omega
    have n7 : c.fKind ≠ 7 := by omega
    have n8 : c.fKind ≠ 8 := by omega
    have n9 : c.fKind ≠ 9 := by omega
    have n10 : c.fKind ≠ 10 := by omega
    have n11 : c.fKind ≠ 11 := by omega
    have hz : kindOk c = false := by unfold kindOk; simp [n1, n2, n3, n4, n5, n6, n7, n8, n9, n10, n11]
    have beq : ∀ n : Int, c.fKind ≠ n → (c.fKind == n) = false := fun n h => by simpa using h
    repeat' (first | (with_reducible refine drawC ?_) | (with_reducible refine drawW1 ?_) | (with_reducible refine drawW2 ?_) | (with_reducible refine keepC (by repeat (first | exact Ext.refl _ | assumption | refine Ext.trans ?_ (by assumption))) ?_) | (with_reducible refine newI (fun _ => ?_)) | first | (with_reducible refine rdb ?_) | ((with_reducible refine st1 ?_ ?_); rfl) | ((with_reducible refine rdB ?_ ?_); rfl) | (with_reducible refine rdbS ?_) | ((with_reducible refine rdBS ?_ ?_); rfl) | ((with_reducible refine stB ?_ ?_ ?_ ?_); rfl; rfl; exact one_all rfl) | ((with_reducible refine rdP _ rfl ?_ ?_); rfl) | ((with_reducible refine rdPS _ rfl ?_ ?_); rfl) | ((with_reducible refine stP _ rfl ?_ ?_ ?_ ?_); rfl; rfl; rfl) | (with_reducible refine unfE (sh33_4.eq_1 ..) ?_) | (with_reducible refine unfE (sh33_2.eq_1 ..) ?_) | (with_reducible refine unfE (sh33_5.eq_1 ..) ?_) | (with_reducible refine unfE (sh33.eq_1 ..) ?_) | (with_reducible refine And.intro ?_ ?_) | (simp only [Bool.not_true, Bool.not_false, Bool.and_self, Bool.true_and, Int.reduceBEq, Int.reduceBNe, Int.reduceLT, Int.reduceLE, decide_true, decide_false, Br_true, Br_false, Gd_tt, Gd_ft, Gd_tf, Gd_ff, beq_self_eq_true, bne_self_eq_false]) | (with_reducible refine gd_split (fun _ => ?_) (fun _ => ?_)) | (with_reducible refine br_split (fun _ => ?_) (fun _ => ?_)) | (simp only [SSd, Nat.reduceAdd, beq _ n1, beq _ n2, beq _ n3, beq _ n4, beq _ n5, beq _ n6, beq _ n7, beq _ n8, beq _ n9, beq _ n10, beq _ n11]))
    all_goals (rw [hz] at hk; first | exact Gh.to L (Gh.done hk) | (rename_i q1 q2; simp [n1] at q1))
  all_goals repeat' (first | (with_reducible refine drawC ?_) | (with_reducible refine drawW1 ?_) | (with_reducible refine drawW2 ?_) | (with_reducible refine keepC (by repeat (first | exact Ext.refl _ | assumption | refine Ext.trans ?_ (by assumption))) ?_) | (with_reducible refine newI (fun _ => ?_)) | ((with_reducible refine call ?_); refine (pkey_spec g0 ?_)) | ((with_reducible refine call ?_); refine (ptxn_spec ?_)) | ((with_reducible refine call ?_); refine (emptyX (by first | exact g0 | exact bnil I) (by first | exact g1 | exact bnil I) (by first | exact g2 | exact bnil I) (by first | exact g3 | exact bnil I) (by first | exact hL.k | exact Nat.zero_le _) (by first | exact hL.v | exact Nat.zero_le _) (by first | exact hL.f | exact Nat.zero_le _) (by first | exact hL.t | exact Nat.zero_le _) ?_)) | first | (with_reducible refine rdb ?_) | ((with_reducible refine st1 ?_ ?_); rfl) | ((with_reducible refine rdB ?_ ?_); rfl) | (with_reducible refine rdbS ?_) | ((with_reducible refine rdBS ?_ ?_); rfl) | ((with_reducible refine stB ?_ ?_ ?_ ?_); rfl; rfl; exact one_all rfl) | ((with_reducible refine rdP _ rfl ?_ ?_); rfl) | ((with_reducible refine rdPS _ rfl ?_ ?_); rfl) | ((with_reducible refine stP _ rfl ?_ ?_ ?_ ?_); rfl; rfl; rfl) | (with_reducible refine unfE (sh33_4.eq_1 ..) ?_) | (with_reducible refine unfE (sh33_2.eq_1 ..) ?_) | (with_reducible refine unfE (sh33_5.eq_1 ..) ?_) | (with_reducible refine unfE (sh33.eq_1 ..) ?_) | (with_reducible refine And.intro ?_ ?_) | (simp only [Bool.not_true, Bool.not_false, Bool.and_self, Bool.true_and, Int.reduceBEq, Int.reduceBNe, Int.reduceLT, Int.reduceLE, decide_true, decide_false, Br_true, Br_false, Gd_tt, Gd_ft, Gd_tf, Gd_ff, beq_self_eq_true, bne_self_eq_false]) | (with_reducible refine gd_split (fun _ => ?_) (fun _ => ?_)) | (with_reducible refine br_split (fun _ => ?_) (fun _ => ?_)) | (simp only [SSd, Nat.reduceAdd, hK, Bytes.len g1]))
  all_goals (refine Gh.to L (Gh.done (leafB hk ?_)); simp_all [kindOk, emptyC, noVal, noSpan, noText, noTo, noAt])
  all_goals first | done | ac_rfl | (intros; omega) | (have hv : c.fValue.length ≤ 10000 := by omega
                                                       simp only [hv, decide_true, Bool.true_and]; ac_rfl) | trace_state
theorem right_spec {c : TCmd} {cc : List Value} (hc : TCmdV I c cc) (hL : Lens c) (hk : K (.bool (rightP c)) I L) : Cal Tryz.prog ω 33 #[.agg cc.toArray] K I L := by
  obtain ⟨w0, w1, w2, w3, rfl, g0, g1, g2, g3⟩ := hc
  obtain ⟨y0, z0', rfl⟩ := Bytes.form g0
  obtain ⟨y1, z1, rfl⟩ := Bytes.form g1
  obtain ⟨y2, z2, rfl⟩ := Bytes.form g2
  obtain ⟨y3, z3, rfl⟩ := Bytes.form g3
  have hr : rightB c.fAt = true → rightB c.fTo = true → spanOk c.fSpan = true → ¬ c.fSeq < 0 → ¬ c.fSeq > 9007199254740991 → K (.bool (kindOk c)) I L := by
    intro h1 h2 h3 h4 h5
    have : rightP c = kindOk c := by unfold rightP; simp [h1, h2, h3, show 0 ≤ c.fSeq ∧ c.fSeq ≤ 9007199254740991 by omega]
    rwa [this] at hk
  have h0 : c.fTxn = 0 → readerB c.fTxn = true := fun h => by simp [readerB, h]
  have h00 : c.fTxn ≠ 0 → readerB c.fTxn = txnB c.fTxn := fun h => by simp [readerB, h]
  refine cal33 ?_
  unfold sh33
  refine newI (fun b1 => ?_)
  try simp only [SSd, Nat.reduceAdd]
  refine rdP [.int .i64 c.fAt.fWall, .int .i64 c.fAt.fLogic] rfl rfl ?_
  refine call (hright_spec (x := c.fAt) ?_)
  try simp only [SSd, Nat.reduceAdd]
  refine gd_split (fun e1 => ?_) (fun e1 => ?_)
  rotate_left
  · exact Gh.to L (Gh.done (leafB hk (by simp_all [rightP])))
  try simp only [SSd, Nat.reduceAdd]
  refine rdP [.int .i64 c.fTo.fWall, .int .i64 c.fTo.fLogic] rfl rfl ?_
  refine call (hright_spec (x := c.fTo) ?_)
  try simp only [SSd, Nat.reduceAdd]
  refine gd_split (fun e2 => ?_) (fun e2 => ?_)
  rotate_left
  · exact Gh.to L (Gh.done (leafB hk (by simp_all [rightP])))
  try simp only [SSd, Nat.reduceAdd]
  refine rdP _ rfl rfl ?_
  try simp only [SSd, Nat.reduceAdd]
  refine call (pspan_spec (p := c.fSpan) ⟨_, _, rfl, g2, g3⟩ ?_)
  try simp only [SSd, Nat.reduceAdd]
  refine gd_split (fun e3 => ?_) (fun e3 => ?_)
  rotate_left
  · exact Gh.to L (Gh.done (leafB hk (by simp_all [rightP])))
  try simp only [SSd, Nat.reduceAdd]
  refine rdb ?_
  try simp only [SSd, Nat.reduceAdd]
  refine gd_split (fun e4 => ?_) (fun e4 => ?_)
  rotate_left
  · exact Gh.to L (Gh.done (leafB hk (by simp_all [rightP]; intros; omega)))
  try simp only [SSd, Nat.reduceAdd]
  refine rdb ?_
  try simp only [SSd, Nat.reduceAdd]
  refine br_split (fun e5 => ?_) (fun e5 => ?_)
  · exact Gh.to L (Gh.done (leafB hk (by simp_all [rightP]; intros; omega)))
  have hk' := hr (by simpa using e1) (by simpa using e2) (by simpa using e3) (by simpa using e4) (by simpa using e5)
  clear hk hr
  try simp only [SSd, Nat.reduceAdd]
  refine rdb ?_
  try simp only [SSd, Nat.reduceAdd]
  refine gd_split (fun e6 => ?_) (fun e6 => ?_)
  · refine rdb ?_
    refine call (ptxn_spec ?_)
    repeat' (first | (with_reducible refine drawC ?_) | (with_reducible refine drawW1 ?_) | (with_reducible refine drawW2 ?_) | (with_reducible refine keepC (by repeat (first | exact Ext.refl _ | assumption | refine Ext.trans ?_ (by assumption))) ?_) | (with_reducible refine newI (fun _ => ?_)) | (with_reducible refine right_kind g0 g1 g2 g3 hL ?_ ?_) | ((with_reducible refine call ?_); refine (ptxn_spec ?_)) | first | (with_reducible refine rdb ?_) | ((with_reducible refine st1 ?_ ?_); rfl) | ((with_reducible refine rdB ?_ ?_); rfl) | (with_reducible refine rdbS ?_) | ((with_reducible refine rdBS ?_ ?_); rfl) | ((with_reducible refine stB ?_ ?_ ?_ ?_); rfl; rfl; exact one_all rfl) | ((with_reducible refine rdP _ rfl ?_ ?_); rfl) | ((with_reducible refine rdPS _ rfl ?_ ?_); rfl) | ((with_reducible refine stP _ rfl ?_ ?_ ?_ ?_); rfl; rfl; rfl) | (with_reducible refine unfE (sh33_4.eq_1 ..) ?_) | (with_reducible refine unfE (sh33_2.eq_1 ..) ?_) | (with_reducible refine unfE (sh33_5.eq_1 ..) ?_) | (with_reducible refine unfE (sh33.eq_1 ..) ?_) | (with_reducible refine And.intro ?_ ?_) | (simp only [Bool.not_true, Bool.not_false, Bool.and_self, Bool.true_and, Int.reduceBEq, Int.reduceBNe, Int.reduceLT, Int.reduceLE, decide_true, decide_false, Br_true, Br_false, Gd_tt, Gd_ft, Gd_tf, Gd_ff, beq_self_eq_true, bne_self_eq_false]) | (with_reducible refine gd_split (fun _ => ?_) (fun _ => ?_)) | (with_reducible refine br_split (fun _ => ?_) (fun _ => ?_)) | (simp only [SSd, Nat.reduceAdd]))
    all_goals first | exact hk' | exact h00 (by simpa using e6)
  · repeat' (first | (with_reducible refine drawC ?_) | (with_reducible refine drawW1 ?_) | (with_reducible refine drawW2 ?_) | (with_reducible refine keepC (by repeat (first | exact Ext.refl _ | assumption | refine Ext.trans ?_ (by assumption))) ?_) | (with_reducible refine newI (fun _ => ?_)) | (with_reducible refine right_kind g0 g1 g2 g3 hL ?_ ?_) | ((with_reducible refine call ?_); refine (ptxn_spec ?_)) | first | (with_reducible refine rdb ?_) | ((with_reducible refine st1 ?_ ?_); rfl) | ((with_reducible refine rdB ?_ ?_); rfl) | (with_reducible refine rdbS ?_) | ((with_reducible refine rdBS ?_ ?_); rfl) | ((with_reducible refine stB ?_ ?_ ?_ ?_); rfl; rfl; exact one_all rfl) | ((with_reducible refine rdP _ rfl ?_ ?_); rfl) | ((with_reducible refine rdPS _ rfl ?_ ?_); rfl) | ((with_reducible refine stP _ rfl ?_ ?_ ?_ ?_); rfl; rfl; rfl) | (with_reducible refine unfE (sh33_4.eq_1 ..) ?_) | (with_reducible refine unfE (sh33_2.eq_1 ..) ?_) | (with_reducible refine unfE (sh33_5.eq_1 ..) ?_) | (with_reducible refine unfE (sh33.eq_1 ..) ?_) | (with_reducible refine And.intro ?_ ?_) | (simp only [Bool.not_true, Bool.not_false, Bool.and_self, Bool.true_and, Int.reduceBEq, Int.reduceBNe, Int.reduceLT, Int.reduceLE, decide_true, decide_false, Br_true, Br_false, Gd_tt, Gd_ft, Gd_tf, Gd_ff, beq_self_eq_true, bne_self_eq_false]) | (with_reducible refine gd_split (fun _ => ?_) (fun _ => ?_)) | (with_reducible refine br_split (fun _ => ?_) (fun _ => ?_)) | (simp only [SSd, Nat.reduceAdd]))
    all_goals first | exact hk' | exact h0 (by simpa using e6)
abbrev mchN (p : TSpan) (sp : Sp) (nt : Nts) : Mch := ⟨p, sp, nt, [], mk0, [], [], 0, []⟩
theorem made_spec {p : TSpan} {pc : List Value} {s : Nat} (sp : Sp) (nt : Nts) (hp : TSpanV I p pc) (h1 : p.fFrom.length ≤ 140737488355328) (h2 : p.fTo.length ≤ 140737488355328)
    (hk : ∀ b V I', Ext I I' → MF I' V (mchN p sp nt) → K (pt b) I' (mL b s V (mchN p sp nt) L)) :
    Cal Tryz.prog ω 31 #[.agg pc.toArray, pt s] K I L := by
  obtain ⟨v0, v1, rfl, g0, g1⟩ := hp
  refine cal31 ?_
  unfold sh31
  refine newI (fun b1 => ?_)
  repeat' (first | (with_reducible refine drawC ?_) | (with_reducible refine drawW1 ?_) | (with_reducible refine drawW2 ?_) | (with_reducible refine keepC (by repeat (first | exact Ext.refl _ | assumption | refine Ext.trans ?_ (by assumption))) ?_) | (with_reducible refine newI (fun _ => ?_)) | ((with_reducible refine call ?_); refine (cloneB_spec g0 h1 (fun a0 c0 I1 hI1 hB1 => ?_))) | ((with_reducible refine call ?_); refine (cloneB_spec (g1.mono hI1) h2 (fun a1 c1 I2 hI2 hB2 => ?_))) | first | (with_reducible refine rdb ?_) | ((with_reducible refine st1 ?_ ?_); rfl) | ((with_reducible refine rdB ?_ ?_); rfl) | (with_reducible refine rdbS ?_) | ((with_reducible refine rdBS ?_ ?_); rfl) | ((with_reducible refine stB ?_ ?_ ?_ ?_); rfl; rfl; exact one_all rfl) | ((with_reducible refine rdP _ rfl ?_ ?_); rfl) | ((with_reducible refine rdPS _ rfl ?_ ?_); rfl) | ((with_reducible refine stP _ rfl ?_ ?_ ?_ ?_); rfl; rfl; rfl) | (with_reducible refine unfE (sh31.eq_1 ..) ?_) | (with_reducible refine And.intro ?_ ?_) | (simp only [Bool.not_true, Bool.not_false, Bool.and_self, Bool.true_and, Int.reduceBEq, Int.reduceBNe, Int.reduceLT, Int.reduceLE, decide_true, decide_false, Br_true, Br_false, Gd_tt, Gd_ft, Gd_tf, Gd_ff, beq_self_eq_true, bne_self_eq_false]) | (with_reducible refine gd_split (fun _ => ?_) (fun _ => ?_)) | (with_reducible refine br_split (fun _ => ?_) (fun _ => ?_)) | (simp only [SSd, Nat.reduceAdd]))
  refine newm (fun m1 => Gh.done (newm (fun m2 => Gh.done (newm (fun m3 => Gh.done ?_)))))
  try simp only [SSd, Nat.reduceAdd]
  refine newI (fun b => ?_)
  refine Gh.to (mL b s ⟨m1, m2, m3, .slice a0 p.fFrom.length c0, .slice a1 p.fTo.length c1, .slice none 0 0, #[], 0, #[], 0, #[], 0⟩ (mchN p sp nt) L) (Gh.done (hk b _ I2 (hI1.trans hI2) ⟨hB1.mono hI2, hB2, MapS.empty, MapSi.empty, MapSi.empty, bnil I2⟩))
theorem newR_spec {p : TSpan} {pc : List Value} (hp : TSpanV I p pc) (h0 : spanOk p = false → K (.tuple #[.pointer none, .int .i64 1]) I L)
    (hk : spanOk p = true → ∀ b X I', Ext I I' → MchR I' b X (mch0 p) → K (.tuple #[pt b, .int .i64 0]) I' (X ++ L)) : Cal Tryz.prog ω 11 #[.agg pc.toArray] K I L := by
  have hp' := hp
  obtain ⟨v0, v1, rfl, g0, g1⟩ := hp
  refine cal11 ?_
  unfold sh11
  refine newI (fun b1 => ?_)
  refine rdB rfl ?_
  refine call (pspan_spec (p := p) hp' ?_)
  try simp only [SSd, Nat.reduceAdd]
  refine br_split (fun e => ?_) (fun e => ?_)
  · exact Gh.to L (Gh.done (h0 (by simpa using e)))
  · have he : spanOk p = true := by simpa using e
    have hl : p.fFrom.length ≤ 111 ∧ p.fTo.length ≤ 111 := by
      simp only [spanOk, Bool.and_eq_true, decide_eq_true_eq] at he
      exact he.1
    refine drawC ?_
    refine rdBS rfl ?_
    refine callG (new_spec (fun bs SX hS => Gh.done ?_))
    refine keepC (Ext.refl _) ?_
    refine call (made_spec sp0 nt0 (p := p) hp' (by omega) (by omega) (fun b V I' hI hF => ?_))
    try simp only [SSd, Nat.reduceAdd]
    exact Gh.to (mL b bs V (mchN p sp0 nt0) (SX ++ L)) (Gh.done (hk he b (mL b bs V (mchN p sp0 nt0) SX) I' hI ⟨bs, V, SX, List.Perm.refl _, hF, hS.mono hI⟩))
end
end Go.Proofs.YtmmfcgbfbcamcaaGreatDoor
-- S3
set_option linter.unusedSimpArgs false
set_option linter.unusedVariables false
namespace Go.Proofs.YtmmfcgbfbcamcaaGreatDoor
open Go.SL
set_option maxRecDepth 10000
def Doing (I : Imm) (v : Value) (f : FuncId) : Prop := ∃ q, v = .func (.func 147) #[] #[pt q] ∧ I q = some (.cells #[.func (.func f) #[] #[]] 181 (0, 0))
theorem Doing.mono {I I' : Imm} {v : Value} {f : FuncId} (h : Doing I v f) (hI : Ext I I') : Doing I' v f := by
  obtain ⟨q, h1, h2⟩ := h
  exact ⟨q, h1, hI _ _ h2⟩
abbrev cloV (q : Nat) : Value := .func (.func 147) #[] #[pt q]
theorem bldA12 (q1 q2 q3 q4 q5 q6 q7 q8 q9 q10 : Nat) : bldAV 1 #[Value.nilFunc, Value.nilFunc, Value.nilFunc, Value.nilFunc, Value.nilFunc, Value.nilFunc, Value.nilFunc, Value.nilFunc, Value.nilFunc, Value.nilFunc, Value.nilFunc, Value.nilFunc] [(1, cloV q1), (2, cloV q2), (3, cloV q3), (4, cloV q4), (5, cloV q5), (6, cloV q6), (7, cloV q7), (8, cloV q8), (9, cloV q9), (10, cloV q10), (11, .func (.func 104) #[] #[])] = some (.agg #[.nilFunc, cloV q1, cloV q2, cloV q3, cloV q4, cloV q5, cloV q6, cloV q7, cloV q8, cloV q9, cloV q10, .func (.func 104) #[] #[]]) := by kernel_rfl
section
variable {ω : Om} {I : Imm} {L : LH} {K : Value → M}
theorem alone_spec {f : FuncId} (hk : ∀ q I', Ext I I' → I' q = some (.cells #[.func (.func f) #[] #[]] 181 (0, 0)) → K (cloV q) I' L) : Cal Tryz.prog ω 93 #[.func (.func f) #[] #[]] K I L := by
  refine cal93 ?_
  unfold sh93
  refine newI (fun q => ?_)
  refine Gh.freeze fun hI => Gh.done (hk _ _ hI (by simp [Imm.put, Value.cells]))
theorem doings_spec (hk : ∀ I' v1 v2 v3 v4 v5 v6 v7 v8 v9 v10, Ext I I' → Doing I' v1 94 → Doing I' v2 95 → Doing I' v3 96 → Doing I' v4 97 → Doing I' v5 98 →
      Doing I' v6 99 → Doing I' v7 100 → Doing I' v8 101 → Doing I' v9 102 → Doing I' v10 103 →
      K (.agg #[.nilFunc, v1, v2, v3, v4, v5, v6, v7, v8, v9, v10, .func (.func 104) #[] #[]]) I' L) :
    Cal Tryz.prog ω 35 #[] K I L := by
  refine cal35 ?_
  unfold sh35
  refine newI (fun b => ?_)
  refine call (alone_spec (fun q1 I1 hI1 g1 => ?_))
  refine call (alone_spec (fun q2 I2 hI2 g2 => ?_))
  refine call (alone_spec (fun q3 I3 hI3 g3 => ?_))
  refine call (alone_spec (fun q4 I4 hI4 g4 => ?_))
  refine call (alone_spec (fun q5 I5 hI5 g5 => ?_))
  refine call (alone_spec (fun q6 I6 hI6 g6 => ?_))
  refine call (alone_spec (fun q7 I7 hI7 g7 => ?_))
  refine call (alone_spec (fun q8 I8 hI8 g8 => ?_))
  refine call (alone_spec (fun q9 I9 hI9 g9 => ?_))
  refine call (alone_spec (fun q10 I10 hI10 g10 => ?_))
  have t9 := hI10
  have t8 := hI9.trans t9
  have t7 := hI8.trans t8
  have t6 := hI7.trans t7
  have t5 := hI6.trans t6
  have t4 := hI5.trans t5
  have t3 := hI4.trans t4
  have t2 := hI3.trans t3
  have t1 := hI2.trans t2
  have hk' := hk I10 (cloV q1) (cloV q2) (cloV q3) (cloV q4) (cloV q5) (cloV q6) (cloV q7) (cloV q8) (cloV q9) (cloV q10) (hI1.trans t1) ⟨q1, rfl, t1 _ _ g1⟩ ⟨q2, rfl, t2 _ _ g2⟩ ⟨q3, rfl, t3 _ _ g3⟩ ⟨q4, rfl, t4 _ _ g4⟩ ⟨q5, rfl, t5 _ _ g5⟩ ⟨q6, rfl, t6 _ _ g6⟩ ⟨q7, rfl, t7 _ _ g7⟩ ⟨q8, rfl, t8 _ _ g8⟩ ⟨q9, rfl, t9 _ _ g9⟩ ⟨q10, rfl, g10⟩
  clear t1 t2 t3 t4 t5 t6 t7 t8 t9 hk
  rw [bldA12]
  simp only [Pv_some]
  refine stB rfl rfl (one_all rfl) ?_
  refine rdB rfl ?_
  exact Gh.to L (Gh.done hk')
theorem calV_fn {P : Program} {f : FuncId} {args : Array Value} (he : entersB P f = true) (h : Cal P ω f args K I L) : CalV P ω (.func (.func f) #[] #[]) args K I L := by
  unfold CalV
  simp only
  rw [if_pos he]; simpa using h
theorem calV_clo {P : Program} {f : FuncId} {args cap : Array Value} (he : entersB P f = true) (h : Cal P ω f (args ++ cap) K I L) : CalV P ω (.func (.func f) #[] cap) args K I L := by
  unfold CalV
  simp only
  rw [if_pos he]; simpa using h
def Meth (ω : Om) (f : FuncId) (I : Imm) (m : Mch) (c : TCmd) (r : TRes) (m' : Mch) : Prop :=
  ∀ (K : Value → M) (b s : Nat) (V : MV) (SX F : LH) (cc : List Value), TCmdV I c cc → MF I V m → SpR I s SX m.sp m.nt → PostK K b F I r m' → Cal Tryz.prog ω f #[pt b, .agg cc.toArray] K I (mL b s V m (SX ++ F))
theorem tres_form {I : Imm} {r : TRes} {cells : List Value} (h : TResV I r cells) : cells.length = 11 := by
  obtain ⟨v0, v1, rfl, _⟩ := h; rfl
theorem doing_spec {b : Nat} {X F : LH} {m m' : Mch} {r : TRes} {c : TCmd} {cc : List Value} {v : Value} {f : FuncId} (hD : Doing I v f) (he : entersB Tryz.prog f = true) (hc : TCmdV I c cc) (hM : MchR I b X m) (hf : Meth ω f I m c r m')
    (hk : ∀ I' X' cells, Ext I I' → MchR I' b X' m' → TResV I' r cells → K (.tuple #[.agg cells.toArray, .pointer none]) I' (X' ++ F)) (hL : L.Perm (X ++ F)) : CalV Tryz.prog ω v #[pt b, .agg cc.toArray] K I L := by
  obtain ⟨q, rfl, hq⟩ := hD
  obtain ⟨s, V, SX, hp, hF, hS⟩ := hM
  refine calV_clo (show entersB Tryz.prog 147 = true by kernel_rfl) ?_
  have hc' := hc
  obtain ⟨w0, w1, w2, w3, rfl, g0, g1, g2, g3⟩ := hc
  refine cal147 ?_
  unfold sh147
  refine newI (fun b1 => newI (fun b2 => ?_))
  refine rd1 (Cell.imm hq rfl) ?_
  refine rdB rfl ?_
  refine calV_fn he ?_
  refine callG (Cal.perm (L' := mL b s V m (SX ++ ((b2, resO) :: (b1, cmdO c w0 w1 w2 w3) :: F))) (ms_perm (by simp only [ms_cons, ms_eq hL, ms_app, ms_eq hp]; ((try simp only [ms_cons, ms_app, ms_nil, ms_nil']); (try ac_rfl)))) ?_)
  refine hf _ b s V SX _ _ hc' hF hS (fun I' X' cells hI hM' hr => ?_)
  have hr1 := hr.one
  have hrl := tres_form hr
  refine Gh.done ?_
  obtain ⟨x0, x1, rfl, _, _⟩ := id hr
  refine stB rfl rfl hr1 ?_
  refine rdB rfl ?_
  exact Gh.to (X' ++ F) (Gh.done (hk I' X' _ hI hM' hr))
def plainR (r : TRes) : Prop := r.fGot = gotN ∧ r.fRows = []
theorem plainR.V {r : TRes} (h : plainR r) (I : Imm) : TResV I r [.int .i64 r.fCode, .bool false, .slice none 0 0, .int .i64 0, .int .i64 0, .int .i64 0, .slice none 0 0, .int .i64 r.fAt.fWall, .int .i64 r.fAt.fLogic, .int .i64 r.fBy, .int .i64 r.fState] := by
  obtain ⟨e, g, l, a, n, s⟩ := r
  obtain ⟨h1, h2⟩ := h
  simp only at h1 h2
  subst h1 h2
  exact rv_V I e a n s
theorem again_plain {m : Mch} {c : TCmd} {r : TRes} (h : againF m c = some r) : plainR r := by
  unfold againF at h
  split at h
  · split at h
    · cases h; exact ⟨rfl, rfl⟩
    · split at h
      · cases h; exact ⟨rfl, rfl⟩
      · cases h
  · split at h
    · cases h; exact ⟨rfl, rfl⟩
    · cases h
theorem begM_plain {m : Mch} {c : TCmd} : plainR (begM m c).1 ∧ (begM m c).2.sp = m.sp ∧ (begM m c).2.nt = m.nt := by
  unfold begM
  split
  · rename_i r h; exact ⟨again_plain h, rfl, rfl⟩
  · split
    · exact ⟨⟨rfl, rfl⟩, rfl, rfl⟩
    · rename_i m1 h
      have h2 := recF_seen h
      split
      · exact ⟨⟨rfl, rfl⟩, h2.2.2.2.1, h2.2.2.2.2.2.2.1⟩
      · refine ⟨⟨rfl, rfl⟩, ?_, ?_⟩
        · show (seeF m1 c 0 z0).sp = _; rw [(seeF_sp ..).1]; exact h2.2.2.2.1
        · show (seeF m1 c 0 z0).nt = _; rw [(seeF_sp ..).2]; exact h2.2.2.2.2.2.2.1
theorem endM_plain {m : Mch} {c : TCmd} : plainR (endM m c).1 ∧ (endM m c).2.sp = m.sp ∧ (endM m c).2.nt = m.nt := by
  unfold endM
  split
  · exact ⟨⟨rfl, rfl⟩, rfl, rfl⟩
  · rename_i m1 h
    have h2 := recF_seen h
    refine ⟨⟨rfl, rfl⟩, ?_, ?_⟩ <;> (show _ = _; simp only; unfold endOf; split)
    · exact h2.2.2.2.1
    · exact h2.2.2.2.1
    · exact h2.2.2.2.2.2.2.1
    · exact h2.2.2.2.2.2.2.1
theorem pushM_plain {m : Mch} {c : TCmd} : plainR (pushM m c).1 ∧ (pushM m c).2.sp = m.sp ∧ (pushM m c).2.nt = m.nt := by
  unfold pushM
  split
  · exact ⟨⟨rfl, rfl⟩, rfl, rfl⟩
  · rename_i m1 h
    have h2 := recF_seen h
    refine ⟨⟨rfl, rfl⟩, ?_, ?_⟩ <;> (show _ = _; simp only; unfold pushOf; split)
    · exact h2.2.2.2.1
    · exact h2.2.2.2.1
    · exact h2.2.2.2.2.2.2.1
    · exact h2.2.2.2.2.2.2.1
theorem forM_plain {m : Mch} {c : TCmd} : plainR (forM m c).1 ∧ (forM m c).2.sp = m.sp ∧ (forM m c).2.nt = m.nt := by
  unfold forM
  split
  · exact ⟨⟨rfl, rfl⟩, rfl, rfl⟩
  · exact ⟨⟨rfl, rfl⟩, rfl, rfl⟩
theorem PostK.plain {b s : Nat} {V' : MV} {SX F : LH} {m : Mch} {x : TRes × Mch} (h : PostK K b F I x.1 x.2) (hp : plainR x.1 ∧ x.2.sp = m.sp ∧ x.2.nt = m.nt) (hS : SpR I s SX m.sp m.nt) (hF : MF I V' x.2) : K (rvR x.1) I (mL b s V' x.2 (SX ++ F)) :=
  PostK.go h (Ext.refl _) hF (by rw [hp.2.1, hp.2.2]; exact hS) (hp.1.V I)
end
end Go.Proofs.YtmmfcgbfbcamcaaGreatDoor
-- S3
set_option linter.unusedSimpArgs false
set_option linter.unusedVariables false
namespace Go.Proofs.YtmmfcgbfbcamcaaGreatDoor
open Go.SL
set_option maxRecDepth 10000
def PostA (K : Value → M) (b : Nat) (F : LH) (I : Imm) (x : TRes × Mch × Option Mch) : Prop := ∀ I' X' cells, Ext I I' → MchR I' b X' x.2.1 → TResV I' x.1 cells →
  (x.2.2 = none → K (.tuple #[.agg cells.toArray, .pointer none]) I' (X' ++ F)) ∧ (∀ m2 b2 X2, x.2.2 = some m2 → MchR I' b2 X2 m2 → K (.tuple #[.agg cells.toArray, pt b2]) I' (X' ++ (X2 ++ F)))
def SplitC : Prop := ∀ (ω : Om) (I : Imm) (K : Value → M) (b N : Nat) (X F : LH) (m : Mch) (c : TCmd) (cc : List Value), MOk m N → N ≤ 5000 → MchR I b X m → TCmdV I c cc → keyOk c.fKey = true → PostA K b F I (splitM m c) → Cal Tryz.prog ω 104 #[pt b, .agg cc.toArray] K I (X ++ F)
section
variable {ω : Om} {I : Imm} {L : LH} {K : Value → M}
theorem PostA.plain {b : Nat} {F : LH} {x : TRes × Mch} (h : PostA K b F I (noSplit x)) {I' : Imm} {X' : LH} {cells : List Value} (hI : Ext I I') (hM : MchR I' b X' x.2) (hr : TResV I' x.1 cells) : K (.tuple #[.agg cells.toArray, .pointer none]) I' (X' ++ F) := (h I' X' cells hI hM hr).1 rfl
theorem kindIx {v1 v2 v3 v4 v5 v6 v7 v8 v9 v10 v11 : Value} (k : Nat) (v : Value) (h : [Value.nilFunc, v1, v2, v3, v4, v5, v6, v7, v8, v9, v10, v11][k]? = some v) :
    ixAV false 1 12 (.agg #[.nilFunc, v1, v2, v3, v4, v5, v6, v7, v8, v9, v10, v11]) (.int .i64 (k : Int)) = some v := by
  have hk : k < 12 := by have := (List.getElem?_eq_some_iff.1 h).1; simpa using this
  unfold ixAV
  simp only
  rw [if_pos ⟨by omega, by omega⟩]
  unfold fldvV
  simpa using h
theorem apply_spec {b N : Nat} {X F : LH} {m : Mch} {c : TCmd} {cc : List Value} (hM : MOk m N) (hN : N ≤ 5000) (hX : MchR I b X m) (hc : TCmdV I c cc) (hL : Lens c) (hS : fullB m c.fKey = true → SortS) (hsp : c.fKind = 11 → SplitC)
    (hk : PostA K b F I (applyM m c)) : Cal Tryz.prog ω 12 #[pt b, .agg cc.toArray] K I (X ++ F) := by
  have hc' := hc
  have hN2 : N ≤ 10000 := by omega
  obtain ⟨w0, w1, w2, w3, rfl, g0, g1, g2, g3⟩ := hc
  refine cal12 ?_
  unfold sh12
  refine newI (fun b1 => newI (fun b2 => ?_))
  refine rdB rfl ?_
  refine call (right_spec hc' hL ?_)
  try simp only [SSd, Nat.reduceAdd]
  refine br_split (fun e => ?_) (fun e => ?_)
  · have hr : rightP c = false := by simpa using e
    have ea : applyM m c = (failR 140, m, none) := by unfold applyM; rw [if_pos hr]
    rw [ea] at hk
    repeat' (first | (with_reducible refine drawC ?_) | (with_reducible refine drawW1 ?_) | (with_reducible refine drawW2 ?_) | (with_reducible refine keepC (by repeat (first | exact Ext.refl _ | assumption | refine Ext.trans ?_ (by assumption))) ?_) | (with_reducible refine newI (fun _ => ?_)) | ((with_reducible refine call ?_); refine (failed_spec ?_)) | first | (with_reducible refine rdb ?_) | ((with_reducible refine st1 ?_ ?_); rfl) | ((with_reducible refine rdB ?_ ?_); rfl) | (with_reducible refine rdbS ?_) | ((with_reducible refine rdBS ?_ ?_); rfl) | ((with_reducible refine stB ?_ ?_ ?_ ?_); rfl; rfl; exact one_all rfl) | ((with_reducible refine rdP _ rfl ?_ ?_); rfl) | ((with_reducible refine rdPS _ rfl ?_ ?_); rfl) | ((with_reducible refine stP _ rfl ?_ ?_ ?_ ?_); rfl; rfl; rfl) | (with_reducible refine unfE (sh12.eq_1 ..) ?_) | (with_reducible refine And.intro ?_ ?_) | (simp only [Bool.not_true, Bool.not_false, Bool.and_self, Bool.true_and, Int.reduceBEq, Int.reduceBNe, Int.reduceLT, Int.reduceLE, decide_true, decide_false, Br_true, Br_false, Gd_tt, Gd_ft, Gd_tf, Gd_ff, beq_self_eq_true, bne_self_eq_false]) | (with_reducible refine gd_split (fun _ => ?_) (fun _ => ?_)) | (with_reducible refine br_split (fun _ => ?_) (fun _ => ?_)) | (simp only [SSd, Nat.reduceAdd]))
    exact Gh.to (X ++ F) (Gh.done ((hk I X _ (Ext.refl _) hX (rv_V ..)).1 rfl))
  have hr : rightP c = true := by simpa using e
  have ho := rightP_ok hr
  have hkk : kindOk c = true := by
    simp only [rightP, Bool.and_eq_true] at hr; exact hr.2
  have ea : applyM m c = doM m c := by unfold applyM; rw [if_neg (by simp [hr])]
  rw [ea] at hk
  refine drawX X ?_
  refine call (doings_spec (fun I1 v1 v2 v3 v4 v5 v6 v7 v8 v9 v10 hI1 h1 h2 h3 h4 h5 h6 h7 h8 h9 h10 => ?_))
  refine keepC hI1 ?_
  try simp only [SSd, Nat.reduceAdd]
  refine rdbS ?_
  have fin : ∀ (v : Value) (f : FuncId) (x : TRes × Mch), Doing I1 v f → entersB Tryz.prog f = true → Meth ω f I1 m c x.1 x.2 → doM m c = noSplit x →
      (Rv (some (Stay I ((b2, resO) :: (b1, cmdO c w0 w1 w2 w3) :: F))) (ldNR 15 (pt b1)) fun v12 => CalV Tryz.prog ω v #[pt b, v12] (gh fun v13 => Pv (exV v13 0) fun v14 => Pv (exV v13 1) fun v15 => Sto 11 (pt b2) v14 (gh fun _ => Rv none (ldNR 11 (pt b2)) fun v16 => Gh (K (.tuple #[v16, v15]))))) I1
        ((b2, resO) :: (b1, cmdO c w0 w1 w2 w3) :: (X ++ F)) := by
    intro v f x hD he hf hx
    rw [hx] at hk
    refine rdBS rfl ?_
    refine doing_spec (X := X) (F := (b2, resO) :: (b1, cmdO c w0 w1 w2 w3) :: F) hD he (hc'.mono hI1) (hX.mono hI1) hf (fun I' X' cells hI hM' hrr => ?_) (ms_perm (by ((try simp only [ms_cons, ms_app, ms_nil, ms_nil']); (try ac_rfl))))
    have hr1 := hrr.one
    refine Gh.done ?_
    try simp only [SSd, Nat.reduceAdd]
    obtain ⟨x0, x1, rfl, _, _⟩ := id hrr
    refine stB rfl rfl hr1 ?_
    refine rdB rfl ?_
    exact Gh.to (X' ++ F) (Gh.done (hk.plain (hI1.trans hI) hM' hrr))
  have hkd := ho.kind
  have hT : maxB c.fTxn = true := maxB_iff.2 ho.txn
  have h12 : c.fKind = (1 : Nat) ∨ c.fKind = (2 : Nat) ∨ c.fKind = (3 : Nat) ∨ c.fKind = (4 : Nat) ∨ c.fKind = (5 : Nat) ∨ c.fKind = (6 : Nat) ∨ c.fKind = (7 : Nat) ∨ c.fKind = (8 : Nat) ∨ c.fKind = (9 : Nat) ∨ c.fKind = (10 : Nat) ∨ c.fKind = (11 : Nat) := by omega
  rcases h12 with hK | hK | hK | hK | hK | hK | hK | hK | hK | hK | hK
  · have hix := kindIx (v1 := v1) (v2 := v2) (v3 := v3) (v4 := v4) (v5 := v5) (v6 := v6) (v7 := v7) (v8 := v8) (v9 := v9) (v10 := v10) (v11 := .func (.func 104) #[] #[]) 1 v1 rfl
    rw [← hK] at hix
    rw [hix, Pv_some]
    exact fin v1 _ (getM m c) h1 (by kernel_rfl) (fun K b s V SX F cc hc hF hSp hk => getc_spec hM hN2 hS hF hSp hc hk) (by unfold doM; simp [hK])
  · have hix := kindIx (v1 := v1) (v2 := v2) (v3 := v3) (v4 := v4) (v5 := v5) (v6 := v6) (v7 := v7) (v8 := v8) (v9 := v9) (v10 := v10) (v11 := .func (.func 104) #[] #[]) 2 v2 rfl
    rw [← hK] at hix
    rw [hix, Pv_some]
    exact fin v2 _ (scanM m c) h2 (by kernel_rfl) (fun K b s V SX F cc hc hF hSp hk => scanc_spec hM hN2 hF hSp hc hk) (by unfold doM; simp [hK])
  · have hix := kindIx (v1 := v1) (v2 := v2) (v3 := v3) (v4 := v4) (v5 := v5) (v6 := v6) (v7 := v7) (v8 := v8) (v9 := v9) (v10 := v10) (v11 := .func (.func 104) #[] #[]) 3 v3 rfl
    rw [← hK] at hix
    rw [hix, Pv_some]
    exact fin v3 _ (putM m c) h3 (by kernel_rfl) (fun K b s V SX F cc hc hF hSp hk => putc_spec hM hN2 hF hSp hc hk) (by unfold doM; simp [hK])
  · have hix := kindIx (v1 := v1) (v2 := v2) (v3 := v3) (v4 := v4) (v5 := v5) (v6 := v6) (v7 := v7) (v8 := v8) (v9 := v9) (v10 := v10) (v11 := .func (.func 104) #[] #[]) 4 v4 rfl
    rw [← hK] at hix
    rw [hix, Pv_some]
    exact fin v4 _ (refM m c) h4 (by kernel_rfl) (fun K b s V SX F cc hc hF hSp hk => refresh_spec hM hN2 hF hSp hc hk) (by unfold doM; simp [hK])
  · have hix := kindIx (v1 := v1) (v2 := v2) (v3 := v3) (v4 := v4) (v5 := v5) (v6 := v6) (v7 := v7) (v8 := v8) (v9 := v9) (v10 := v10) (v11 := .func (.func 104) #[] #[]) 5 v5 rfl
    rw [← hK] at hix
    rw [hix, Pv_some]
    exact fin v5 _ (begM m c) h5 (by kernel_rfl) (fun K b s V SX F cc hc hF hSp hk => begin_spec hF hM.recs hM.seen hM.seenL hc (fun r m' hx V' hF' => by have := PostK.plain (x := (r, m')) (by rw [hx] at hk; exact hk) (by rw [← hx]; exact begM_plain) hSp hF'; exact this)) (by unfold doM; simp [hK])
  · have hix := kindIx (v1 := v1) (v2 := v2) (v3 := v3) (v4 := v4) (v5 := v5) (v6 := v6) (v7 := v7) (v8 := v8) (v9 := v9) (v10 := v10) (v11 := .func (.func 104) #[] #[]) 6 v6 rfl
    rw [← hK] at hix
    rw [hix, Pv_some]
    exact fin v6 _ (endM m c) h6 (by kernel_rfl) (fun K b s V SX F cc hc hF hSp hk => end_spec hF hM.recs hc (fun r m' hx V' hF' => by have := PostK.plain (x := (r, m')) (by rw [hx] at hk; exact hk) (by rw [← hx]; exact endM_plain) hSp hF'; exact this)) (by unfold doM; simp [hK])
  · have hix := kindIx (v1 := v1) (v2 := v2) (v3 := v3) (v4 := v4) (v5 := v5) (v6 := v6) (v7 := v7) (v8 := v8) (v9 := v9) (v10 := v10) (v11 := .func (.func 104) #[] #[]) 7 v7 rfl
    rw [← hK] at hix
    rw [hix, Pv_some]
    exact fin v7 _ (pushM m c) h7 (by kernel_rfl) (fun K b s V SX F cc hc hF hSp hk => push_spec' hF hM.recs hc (fun r m' hx V' hF' => by have := PostK.plain (x := (r, m')) (by rw [hx] at hk; exact hk) (by rw [← hx]; exact pushM_plain) hSp hF'; exact this)) (by unfold doM; simp [hK])
  · have hix := kindIx (v1 := v1) (v2 := v2) (v3 := v3) (v4 := v4) (v5 := v5) (v6 := v6) (v7 := v7) (v8 := v8) (v9 := v9) (v10 := v10) (v11 := .func (.func 104) #[] #[]) 8 v8 rfl
    rw [← hK] at hix
    rw [hix, Pv_some]
    exact fin v8 _ (forM m c) h8 (by kernel_rfl) (fun K b s V SX F cc hc hF hSp hk => forget_spec hF hc (fun r m' hx V' hF' => by have := PostK.plain (x := (r, m')) (by rw [hx] at hk; exact hk) (by rw [← hx]; exact forM_plain) hSp hF'; exact this)) (by unfold doM; simp [hK])
  · have hix := kindIx (v1 := v1) (v2 := v2) (v3 := v3) (v4 := v4) (v5 := v5) (v6 := v6) (v7 := v7) (v8 := v8) (v9 := v9) (v10 := v10) (v11 := .func (.func 104) #[] #[]) 9 v9 rfl
    rw [← hK] at hix
    rw [hix, Pv_some]
    exact fin v9 _ (resM m c) h9 (by kernel_rfl) (fun K b s V SX F cc hc hF hSp hk => resolvec_spec hM hN hF hSp hc hk) (by unfold doM; simp [hK])
  · have hix := kindIx (v1 := v1) (v2 := v2) (v3 := v3) (v4 := v4) (v5 := v5) (v6 := v6) (v7 := v7) (v8 := v8) (v9 := v9) (v10 := v10) (v11 := .func (.func 104) #[] #[]) 10 v10 rfl
    rw [← hK] at hix
    rw [hix, Pv_some]
    exact fin v10 _ (colM m c) h10 (by kernel_rfl) (fun K b s V SX F cc hc hF hSp hk => collectc_spec hM hN2 hF hSp hc hk) (by unfold doM; simp [hK])
  · have hix := kindIx (v1 := v1) (v2 := v2) (v3 := v3) (v4 := v4) (v5 := v5) (v6 := v6) (v7 := v7) (v8 := v8) (v9 := v9) (v10 := v10) (v11 := .func (.func 104) #[] #[]) 11 _ rfl
    rw [← hK] at hix
    rw [hix, Pv_some]
    have hx : doM m c = splitM m c := by unfold doM; simp [hK]
    rw [hx] at hk
    refine rdBS rfl ?_
    refine calV_fn (by kernel_rfl) ?_
    refine callG (Cal.split X ?_)
    refine hsp hK ω _ _ b N X _ m c _ hM hN (hX.mono hI1) (hc'.mono hI1) (kindOk_11 hkk (.inl hK)) (fun I' X' cells hI hM' hrr => ?_)
    have hr1 := hrr.one
    obtain ⟨k1, k2⟩ := hk I' X' cells (hI1.trans hI) hM' hrr
    obtain ⟨x0, x1, rfl, _, _⟩ := id hrr
    refine ⟨fun hn => ?_, fun m2 b3 X2 hm hX2 => ?_⟩
    · refine Gh.done ?_
      try simp only [SSd, Nat.reduceAdd]
      refine stB rfl rfl hr1 ?_
      refine rdB rfl ?_
      exact Gh.to (X' ++ F) (Gh.done (k1 hn))
    · refine Gh.done ?_
      try simp only [SSd, Nat.reduceAdd]
      refine stB rfl rfl hr1 ?_
      refine rdB rfl ?_
      exact Gh.to (X' ++ (X2 ++ F)) (Gh.done (k2 m2 b3 X2 hm hX2))
end
end Go.Proofs.YtmmfcgbfbcamcaaGreatDoor
-- S3
set_option linter.unusedSimpArgs false
set_option linter.unusedVariables false
namespace Go.Proofs.YtmmfcgbfbcamcaaGreatDoor
open Go.SL
set_option maxRecDepth 10000
def nB (n : Int) : List UInt8 := varL n.toNat
def numsI (l : List Int) : List UInt8 := l.flatMap nB
def txtB (b : List UInt8) : List UInt8 := varL b.length ++ b
def stmB (s : TStamp) : List UInt8 := nB s.fWall ++ nB s.fLogic
def bitB (t : Bool) : List UInt8 := nB (if t = true then 1 else 0)
theorem nB_9 {n : Int} (h : maxI n) : (nB n).length ≤ 9 := varL_9 (n := n.toNat) (by have := h.2; have := h.1; omega)
theorem numsI_len : ∀ {l : List Int}, (∀ n ∈ l, maxI n) → (numsI l).length ≤ 9 * l.length
  | [], _ => by simp [numsI]
  | n :: l, h => by
    have h1 := nB_9 (h n (List.mem_cons_self ..))
    have h2 := numsI_len (l := l) (fun m hm => h m (List.mem_cons_of_mem _ hm))
    simp only [numsI, List.flatMap_cons, List.length_append, List.length_cons] at h2 ⊢
    omega
theorem txtB_len {b : List UInt8} (h : b.length ≤ 9007199254740991) : (txtB b).length ≤ 9 + b.length := by
  have := varL_9 (n := b.length) (by omega)
  simp only [txtB, List.length_append]; omega
theorem stmB_len {s : TStamp} (h : rightB s = true) : (stmB s).length ≤ 18 := by
  have h := rightB_max h
  have h1 := nB_9 h.1
  have h2 := nB_9 h.2
  simp only [stmB, List.length_append]; omega
theorem bit_max (t : Bool) : maxI (if t = true then 1 else 0) := by cases t <;> simp [maxI]
theorem bitB_len (t : Bool) : (bitB t).length ≤ 9 := nB_9 (bit_max t)
def encB (c : TCmd) : List UInt8 := nB c.fKind ++ (nB c.fTxn ++ (nB c.fSeq ++ (nB c.fBy ++ (nB c.fMost ++ (stmB c.fAt ++ (stmB c.fTo ++ (bitB c.fYes ++ (bitB c.fDel ++ (txtB c.fKey ++ (txtB c.fValue ++ (txtB c.fSpan.fFrom ++ txtB c.fSpan.fTo)))))))))))
theorem encB_len {c : TCmd} (h : rightP c = true) : (encB c).length ≤ 12000 := by
  have h := rightP_ok h
  have hs := h.span
  simp only [spanOk, Bool.and_eq_true, decide_eq_true_eq] at hs
  have e1 := nB_9 (n := c.fKind) ⟨by have := h.kind.1; omega, by have := h.kind.2; omega⟩
  have e2 := nB_9 h.txn
  have e3 := nB_9 h.seq
  have e4 := nB_9 h.by'
  have e5 := nB_9 (n := c.fMost) ⟨h.most.1, by have := h.most.2; omega⟩
  have e6 := stmB_len h.at'
  have e7 := stmB_len h.to
  have e8 := bitB_len c.fYes
  have e9 := bitB_len c.fDel
  have e10 := txtB_len (b := c.fKey) (by have := h.key; omega)
  have e11 := txtB_len (b := c.fValue) (by have := h.value; omega)
  have e12 := txtB_len (b := c.fSpan.fFrom) (by omega)
  have e13 := txtB_len (b := c.fSpan.fTo) (by omega)
  have := h.key
  have := h.value
  simp only [encB, List.length_append]
  omega
/-! ### What a reader may find -/
structure NumP (b : List UInt8) (bad : Bool) (n : Int) (b' : List UInt8) (bad' : Bool) : Prop where
  max : maxI n
  len : b'.length ≤ b.length
  get : ∀ (m : Int) (rest : List UInt8), maxI m → b = nB m ++ rest → n = m ∧ b' = rest ∧ bad' = bad
structure StP (b : List UInt8) (bad : Bool) (s : TStamp) (b' : List UInt8) (bad' : Bool) : Prop where
  max : maxI s.fWall ∧ maxI s.fLogic
  len : b'.length ≤ b.length
  get : ∀ (x : TStamp) (rest : List UInt8), rightB x = true → b = stmB x ++ rest → s = x ∧ b' = rest ∧ bad' = bad
structure TxP (b : List UInt8) (bad : Bool) (t : List UInt8) (b' : List UInt8) (bad' : Bool) : Prop where
  tlen : t.length ≤ b.length
  len : b'.length ≤ b.length
  get : ∀ (x rest : List UInt8), x.length ≤ 9007199254740991 → b = txtB x ++ rest → t = x ∧ b' = rest ∧ bad' = bad
structure BitP (b : List UInt8) (bad : Bool) (t : Bool) (b' : List UInt8) (bad' : Bool) : Prop where
  len : b'.length ≤ b.length
  get : ∀ (x : Bool) (rest : List UInt8), b = bitB x ++ rest → t = x ∧ b' = rest ∧ bad' = bad
structure SpnP (b : List UInt8) (bad : Bool) (p : TSpan) (b' : List UInt8) (bad' : Bool) : Prop where
  tlen : p.fFrom.length ≤ b.length ∧ p.fTo.length ≤ b.length
  len : b'.length ≤ b.length
  get : ∀ (x : TSpan) (rest : List UInt8), x.fFrom.length ≤ 9007199254740991 → x.fTo.length ≤ 9007199254740991 → b = txtB x.fFrom ++ (txtB x.fTo ++ rest) → p = x ∧ b' = rest ∧ bad' = bad
end Go.Proofs.YtmmfcgbfbcamcaaGreatDoor
-- S3
set_option linter.unusedSimpArgs false
set_option linter.unusedVariables false
namespace Go.Proofs.YtmmfcgbfbcamcaaGreatDoor
open Go.SL
set_option maxRecDepth 10000
section
variable {ω : Om} {I : Imm} {L : LH} {K : Value → M}
theorem ints_fresh {A : M} {F : LH} {bv T : Nat} {ns : List Int} (hk : ∀ I', Ext I I' → Ints I' (.slice (some ⟨bv, 0, none⟩) ns.length ns.length) ns → Gh A I' F) : Gh A I ((bv, .cells (i64s ns).toArray T (0, 0)) :: F) :=
  Gh.freeze fun hext => hk _ hext ⟨by simp [i64s], _, _, rfl, Nat.le_refl _, fun _ => ⟨bv, 0, (i64s ns).toArray, T, (0, 0), rfl, by simp [Imm.put], fun j u hu => by simpa using hu⟩⟩
theorem bldI1 {F : LH} {a : Int} (hk : ∀ u I', Ext I I' → Ints I' u [a] → K u I' F) : BldS 3 1 #[.int .i64 0] 1 [(0, .int .i64 a)] (gh K) I F :=
  ⟨#[.int .i64 a], by kernel_rfl, fun bb => ints_fresh (ns := [a]) fun I' hI hU => Gh.done (hk _ I' hI hU)⟩
theorem bldI2 {F : LH} {a b : Int} (hk : ∀ u I', Ext I I' → Ints I' u [a, b] → K u I' F) : BldS 3 1 #[.int .i64 0] 2 [(0, .int .i64 a), (1, .int .i64 b)] (gh K) I F :=
  ⟨#[.int .i64 a, .int .i64 b], by kernel_rfl, fun bb => ints_fresh (ns := [a, b]) fun I' hI hU => Gh.done (hk _ I' hI hU)⟩
theorem bldI5 {F : LH} {a b c d e : Int} (hk : ∀ u I', Ext I I' → Ints I' u [a, b, c, d, e] → K u I' F) : BldS 3 1 #[.int .i64 0] 5 [(0, .int .i64 a), (1, .int .i64 b), (2, .int .i64 c), (3, .int .i64 d), (4, .int .i64 e)] (gh K) I F :=
  ⟨#[.int .i64 a, .int .i64 b, .int .i64 c, .int .i64 d, .int .i64 e], by kernel_rfl, fun bb => ints_fresh (ns := [a, b, c, d, e]) fun I' hI hU => Gh.done (hk _ I' hI hU)⟩
abbrev wrO (v : Value) : Obj := .cells #[v] 141 (0, 0)
theorem numsI_take {ns : List Int} {i : Nat} (hi : i < ns.length) : numsI (ns.take (i + 1)) = numsI (ns.take i) ++ nB ns[i] := by
  unfold numsI; rw [take_snoc hi, List.flatMap_append]; simp
theorem nums_spec {w : Nat} {v u : Value} {Y F : LH} {l : List UInt8} {ns : List Int} (hO : OB Y v l) (hU : Ints I u ns) (hns : ∀ n ∈ ns, maxI n) (hl : l.length + 9 * ns.length ≤ 1000000000000)
    (hk : ∀ Y' v' I', Ext I I' → OB Y' v' (l ++ numsI ns) → K (.tuple #[]) I' ((w, wrO v') :: (Y' ++ F))) : Cal Tryz.prog ω 61 #[pt w, u] K I ((w, wrO v) :: (Y ++ F)) := by
  refine cal61 ?_
  unfold sh61
  simp only [Ints.len hU, SSd, Nat.reduceAdd]
  refine loop (fun n (s : Value × Unit) I' L' => ∃ (i : Nat) (Y' : LH) (v' : Value), n + i = ns.length ∧ s = (.int .i64 i, ()) ∧ Ext I I' ∧ OB Y' v' (l ++ numsI (ns.take i)) ∧ L' = (w, wrO v') :: (Y' ++ F)) ns.length ⟨0, Y, v, rfl, rfl, Ext.refl _, by simpa [numsI] using hO, rfl⟩ ?_
  rintro n s I' L' ⟨i, Y', v', hn, rfl, hI, hO', rfl⟩
  unfold sh61_1
  try simp only [SSd, Nat.reduceAdd]
  refine br_split (fun e => ?_) (fun e => ?_)
  · have hi : i < ns.length := by simpa using e
    obtain ⟨bb, off, hix, hc⟩ := ints_at (hU.mono hI) (i := (i : Int)) (by omega) (by omega)
    rw [geti_nat hi] at hc
    have hm := hns _ (List.getElem_mem hi)
    have hnext := numsI_take hi
    have hlen : (l ++ numsI (ns.take i)).length ≤ l.length + 9 * i := by
      have h1 := numsI_len (l := ns.take i) (fun n hn => hns n (List.mem_of_mem_take hn))
      rw [List.length_take] at h1
      rw [List.length_append]; omega
    have h9 := nB_9 hm
    simp only [hix, SSd, Nat.reduceAdd]
    refine rd1 (hc _ _ (Ext.refl _)) ?_
    refine drawC ?_
    try simp only [SSd, Nat.reduceAdd]
    refine rdbS ?_
    try simp only [SSd, Nat.reduceAdd]
    obtain ⟨nn, hnn⟩ : ∃ nn : Nat, ns[i] = (nn : Int) := ⟨ns[i].toNat, by have := hm.1; omega⟩
    have hnb : nB ns[i] = varL nn := by unfold nB; rw [hnn]; rfl
    have hnx : nn ≤ 9007199254740991 := by have := hm.2; omega
    rw [hnb] at hnext h9
    rw [hnn, wrap_u64 _ (by omega) (by omega)]
    refine call (number_spec (by omega) (fun x I2 hI2 hB => ?_))
    refine keepC hI2 ?_
    refine ob_app (X6 := Y') (y := varL nn) hO' (SlI.news hB) (by omega) (fun Y2 v2 hO2 => ?_)
    obtain ⟨va, vc, rfl⟩ := hO2.form
    try simp only [SSd, Nat.reduceAdd]
    refine st1 rfl ?_
    rw [wrap_i64 _ (by omega)]
    refine Gh.to ((w, wrO (.slice va (l ++ numsI (ns.take i) ++ varL nn).length vc)) :: (Y2 ++ F)) (Gh.done ⟨n - 1, by omega, i + 1, Y2, _, by omega, rfl, hI.trans hI2, ?_, rfl⟩)
    rw [hnext, ← List.append_assoc]; exact hO2
  · have hi : i = ns.length := by
      have : ¬ i < ns.length := by simpa using e
      omega
    rw [hi, List.take_length] at hO'
    exact Gh.done (hk Y' v' I' hI hO')
theorem wstamp_spec {w : Nat} {v : Value} {Y F : LH} {l : List UInt8} {x : TStamp} (hO : OB Y v l) (hx : rightB x = true) (hl : l.length ≤ 100000000000)
    (hk : ∀ Y' v' I', Ext I I' → OB Y' v' (l ++ stmB x) → K (.tuple #[]) I' ((w, wrO v') :: (Y' ++ F))) : Cal Tryz.prog ω 62 #[pt w, sv x] K I ((w, wrO v) :: (Y ++ F)) := by
  have hm := rightB_max hx
  refine cal62 ?_
  unfold sh62
  refine newI (fun b1 => ?_)
  try simp only [SSd, Nat.reduceAdd]
  refine rdb ?_
  try simp only [SSd, Nat.reduceAdd]
  refine rdb ?_
  refine bldI2 (fun u I1 hI1 hU => ?_)
  refine call (Cal.to ((w, wrO v) :: (Y ++ F)) (nums_spec hO hU (by simp [hm.1, hm.2]) (by simp; omega) (fun Y' v' I' hI hO' => ?_)))
  refine Gh.done (hk Y' v' I' (hI1.trans hI) ?_)
  simpa [numsI, stmB] using hO'
theorem wtruth_spec {w : Nat} {v : Value} {Y F : LH} {l : List UInt8} {t : Bool} (hO : OB Y v l) (hl : l.length ≤ 100000000000)
    (hk : ∀ Y' v' I', Ext I I' → OB Y' v' (l ++ bitB t) → K (.tuple #[]) I' ((w, wrO v') :: (Y' ++ F))) : Cal Tryz.prog ω 63 #[pt w, .bool t] K I ((w, wrO v) :: (Y ++ F)) := by
  refine cal63 ?_
  unfold sh63
  have hm := bit_max t
  cases t with
  | true =>
    try simp only [SSd, Nat.reduceAdd]
    refine bldI1 (fun u I1 hI1 hU => ?_)
    refine call (nums_spec hO hU (by simpa using hm) (by simp; omega) (fun Y' v' I' hI hO' => ?_))
    refine Gh.done (hk Y' v' I' (hI1.trans hI) ?_)
    simpa [numsI, bitB] using hO'
  | false =>
    try simp only [SSd, Nat.reduceAdd]
    refine bldI1 (fun u I1 hI1 hU => ?_)
    refine call (nums_spec hO hU (by simpa using hm) (by simp; omega) (fun Y' v' I' hI hO' => ?_))
    refine Gh.done (hk Y' v' I' (hI1.trans hI) ?_)
    simpa [numsI, bitB] using hO'
theorem wtext_spec {w : Nat} {v t : Value} {Y F : LH} {l x : List UInt8} (hO : OB Y v l) (hB : Bytes I t x) (hl : l.length ≤ 100000000000) (hx : x.length ≤ 10000000000)
    (hk : ∀ Y' v' I', Ext I I' → OB Y' v' (l ++ txtB x) → K (.tuple #[]) I' ((w, wrO v') :: (Y' ++ F))) : Cal Tryz.prog ω 64 #[pt w, t] K I ((w, wrO v) :: (Y ++ F)) := by
  refine cal64 ?_
  unfold sh64
  simp only [Bytes.len hB, SSd, Nat.reduceAdd]
  have h9 := nB_9 (n := (x.length : Int)) ⟨by omega, by omega⟩
  refine bldI1 (fun u I1 hI1 hU => ?_)
  refine call (nums_spec hO hU (by simp only [List.mem_singleton]; rintro n rfl; exact ⟨by omega, by omega⟩) (by simp; omega) (fun Y1 v1 I2 hI2 hO1 => ?_))
  have e1 : numsI [(x.length : Int)] = varL x.length := by simp [numsI, nB]
  rw [e1] at hO1
  have e2 : nB (x.length : Int) = varL x.length := by simp [nB]
  rw [e2] at h9
  try simp only [SSd, Nat.reduceAdd]
  refine rdb ?_
  refine ob_app (X6 := Y1) (y := x) hO1 (SlI.news (hB.mono (hI1.trans hI2))) (by rw [List.length_append]; omega) (fun Y2 v2 hO2 => ?_)
  obtain ⟨va, vc, rfl⟩ := hO2.form
  try simp only [SSd, Nat.reduceAdd]
  refine st1 rfl ?_
  refine Gh.to ((w, wrO (.slice va (l ++ varL x.length ++ x).length vc)) :: (Y2 ++ F)) (Gh.done (hk Y2 _ I2 (hI1.trans hI2) ?_))
  rw [txtB, ← List.append_assoc]; exact hO2
theorem wspan_spec {w : Nat} {v : Value} {Y F : LH} {l : List UInt8} {p : TSpan} {pc : List Value} (hO : OB Y v l) (hp : TSpanV I p pc) (hl : l.length ≤ 90000000000) (hx : p.fFrom.length ≤ 1000000000) (hy : p.fTo.length ≤ 1000000000)
    (hk : ∀ Y' v' I', Ext I I' → OB Y' v' (l ++ (txtB p.fFrom ++ txtB p.fTo)) → K (.tuple #[]) I' ((w, wrO v') :: (Y' ++ F))) : Cal Tryz.prog ω 65 #[pt w, .agg pc.toArray] K I ((w, wrO v) :: (Y ++ F)) := by
  obtain ⟨v0, v1, rfl, g0, g1⟩ := hp
  refine cal65 ?_
  unfold sh65
  refine newI (fun b1 => ?_)
  try simp only [SSd, Nat.reduceAdd]
  refine rdb ?_
  have h9 := txtB_len (b := p.fFrom) (by omega)
  refine call (Cal.perm (L' := (w, wrO v) :: (Y ++ ((b1, .cells #[v0, v1] 31 (0, 0)) :: F))) (ms_perm (by ((try simp only [ms_cons, ms_app, ms_nil, ms_nil']); (try ac_rfl)))) (wtext_spec hO g0 (by omega) (by omega) (fun Y1 v1' I1 hI1 hO1 => ?_)))
  try simp only [SSd, Nat.reduceAdd]
  refine rdb ?_
  refine call (wtext_spec hO1 (g1.mono hI1) (by rw [List.length_append]; omega) (by omega) (fun Y2 v2 I2 hI2 hO2 => ?_))
  refine Gh.to ((w, wrO v2) :: (Y2 ++ F)) (Gh.done (hk Y2 v2 I2 (hI1.trans hI2) ?_))
  rw [← List.append_assoc]; exact hO2
theorem encode_spec {c : TCmd} {cc : List Value} (hc : TCmdV I c cc) (hL : Lens c) (h0 : rightP c = false → K (.tuple #[.slice none 0 0, .int .i64 140]) I L)
    (hk : rightP c = true → ∀ u I', Ext I I' → Bytes I' u (encB c) → K (.tuple #[u, .int .i64 0]) I' L) : Cal Tryz.prog ω 19 #[.agg cc.toArray] K I L := by
  have hc' := hc
  obtain ⟨w0, w1, w2, w3, rfl, g0, g1, g2, g3⟩ := hc
  refine cal19 ?_
  unfold sh19
  refine newI (fun b1 => ?_)
  refine rdB rfl ?_
  refine call (right_spec hc' hL ?_)
  try simp only [SSd, Nat.reduceAdd]
  refine br_split (fun e => ?_) (fun e => ?_)
  · exact Gh.to L (Gh.done (h0 (by simpa using e)))
  have hr : rightP c = true := by simpa using e
  have ho := rightP_ok hr
  have hs := ho.span
  simp only [spanOk, Bool.and_eq_true, decide_eq_true_eq] at hs
  have hkd := ho.kind
  have hmo := ho.most
  have hky := ho.key
  have hva := ho.value
  have mk : maxI c.fKind := ⟨by omega, by omega⟩
  have mm : maxI c.fMost := ⟨hmo.1, by omega⟩
  have n1 := numsI_len (l := [c.fKind, c.fTxn, c.fSeq, c.fBy, c.fMost]) (by simp [mk, mm, ho.txn, ho.seq, ho.by'])
  have n2 := stmB_len ho.at'
  have n3 := stmB_len ho.to
  have n4 := bitB_len c.fYes
  have n5 := bitB_len c.fDel
  have n6 := txtB_len (b := c.fKey) (by omega)
  have n7 := txtB_len (b := c.fValue) (by omega)
  simp only [List.length_cons, List.length_nil] at n1
  refine newI (fun w => ?_)
  try simp only [SSd, Nat.reduceAdd]
  refine rdb ?_
  try simp only [SSd, Nat.reduceAdd]
  refine rdb ?_
  try simp only [SSd, Nat.reduceAdd]
  refine rdb ?_
  try simp only [SSd, Nat.reduceAdd]
  refine rdb ?_
  try simp only [SSd, Nat.reduceAdd]
  refine rdb ?_
  refine bldI5 (fun u1 J1 hJ1 hU1 => ?_)
  refine call (nums_spec (Y := []) (l := []) (SlO.none _ 1) hU1 (by simp [mk, mm, ho.txn, ho.seq, ho.by']) (by simp) (fun Y1 x1 I1 hI1 hO1 => ?_))
  rw [List.nil_append] at hO1
  try simp only [SSd, Nat.reduceAdd]
  refine rdP _ rfl rfl ?_
  refine call (wstamp_spec (x := c.fAt) hO1 ho.at' (by omega) (fun Y2 x2 I2 hI2 hO2 => ?_))
  try simp only [SSd, Nat.reduceAdd]
  refine rdP _ rfl rfl ?_
  refine call (wstamp_spec (x := c.fTo) hO2 ho.to (by simp only [List.length_append]; omega) (fun Y3 x3 I3 hI3 hO3 => ?_))
  try simp only [SSd, Nat.reduceAdd]
  refine rdb ?_
  refine call (wtruth_spec hO3 (by simp only [List.length_append]; omega) (fun Y4 x4 I4 hI4 hO4 => ?_))
  try simp only [SSd, Nat.reduceAdd]
  refine rdb ?_
  refine call (wtruth_spec hO4 (by simp only [List.length_append]; omega) (fun Y5 x5 I5 hI5 hO5 => ?_))
  have t5 := hJ1.trans (hI1.trans (hI2.trans (hI3.trans (hI4.trans hI5))))
  try simp only [SSd, Nat.reduceAdd]
  refine rdb ?_
  refine call (wtext_spec hO5 (g0.mono t5) (by simp only [List.length_append]; omega) (by omega) (fun Y6 x6 I6 hI6 hO6 => ?_))
  try simp only [SSd, Nat.reduceAdd]
  refine rdb ?_
  refine call (wtext_spec hO6 (g1.mono (t5.trans hI6)) (by simp only [List.length_append]; omega) (by omega) (fun Y7 x7 I7 hI7 hO7 => ?_))
  have t7 := t5.trans (hI6.trans hI7)
  try simp only [SSd, Nat.reduceAdd]
  refine rdP _ rfl rfl ?_
  refine call (wspan_spec (p := c.fSpan) hO7 ⟨_, _, rfl, g2.mono t7, g3.mono t7⟩ (by simp only [List.length_append]; omega) (by omega) (by omega) (fun Y8 x8 I8 hI8 hO8 => ?_))
  try simp only [SSd, Nat.reduceAdd]
  refine rdb ?_
  refine Gh.to (Y8 ++ L) (OB.freeze hO8 (fun I9 hI9 hB9 => Gh.done ?_))
  refine hk hr x8 I9 (t7.trans (hI8.trans hI9)) ?_
  have e9 : encB c = numsI [c.fKind, c.fTxn, c.fSeq, c.fBy, c.fMost] ++ stmB c.fAt ++ stmB c.fTo ++ bitB c.fYes ++ bitB c.fDel ++ txtB c.fKey ++ txtB c.fValue ++ (txtB c.fSpan.fFrom ++ txtB c.fSpan.fTo) := by
    simp [encB, numsI]
  rw [e9]; exact hB9
end
end Go.Proofs.YtmmfcgbfbcamcaaGreatDoor
-- S3
set_option linter.unusedSimpArgs false
set_option linter.unusedVariables false
namespace Go.Proofs.YtmmfcgbfbcamcaaGreatDoor
open Go.SL
set_option maxRecDepth 10000
section
variable {ω : Om} {I : Imm} {L : LH} {K : Value → M}
theorem or_addU {n y i : Nat} (h : n < 2 ^ i) (hs : n + y * 2 ^ i < 9223372036854775808) : bitsV .or .u64 (n : Int) ((y * 2 ^ i : Nat) : Int) = ((n + y * 2 ^ i : Nat) : Int) := by
  have e : ((BitVec.ofInt 64 (n : Int)) ||| (BitVec.ofInt 64 ((y * 2 ^ i : Nat) : Int))).toNat = n + y * 2 ^ i := by
    rw [BitVec.toNat_or]
    have e1 : (BitVec.ofInt 64 (n : Int)).toNat = n := by rw [BitVec.toNat_ofInt]; omega
    have e2 : (BitVec.ofInt 64 ((y * 2 ^ i : Nat) : Int)).toNat = y * 2 ^ i := by
      rw [BitVec.toNat_ofInt]
      generalize y * 2 ^ i = z at *
      omega
    rw [e1, e2, Nat.or_comm, Nat.mul_comm, ← Nat.two_pow_add_eq_or_of_lt h]
    exact Nat.add_comm _ _
  show IntKind.u64.wrap ((BitVec.ofInt 64 (n : Int)) ||| (BitVec.ofInt 64 ((y * 2 ^ i : Nat) : Int))).toNat = _
  rw [e]
  exact wrap_u64 _ (by omega) (by omega)
theorem and_u8 : ∀ x : Fin 256, bitsV .and .u8 ((x.val : Nat) : Int) 127 = ((x.val % 128 : Nat) : Int) := by decide
theorem pow128 (i : Nat) : (128 : Nat) ^ i = 2 ^ (7 * i) := by rw [show (128 : Nat) = 2 ^ 7 from rfl, ← Nat.pow_mul]
theorem shl7 {y i : Nat} (hi : i ≤ 7) (hy : y * 128 ^ i < 9223372036854775808) : binIV .shl (.int .u64 (y : Int)) (.int .i64 (7 * (i : Int))) = some (.int .u64 ((y * 2 ^ (7 * i) : Nat) : Int)) := by
  have h := binI_shl (a := (y : Int)) (c := 7 * (i : Int)) .u64 .i64 (by omega)
  have e1 : (min (7 * (i : Int)).toNat IntKind.u64.bits) = 7 * i := by
    show min _ 64 = _
    omega
  rw [pow128] at hy
  rw [e1, wrap_u64 _ (by
    have : (0 : Int) ≤ 2 ^ (7 * i) := Int.le_of_lt (Int.pow_pos (by decide))
    exact Int.mul_nonneg (Int.natCast_nonneg y) this) (by
    have : ((y * 2 ^ (7 * i) : Nat) : Int) < 18446744073709551616 := by omega
    rw [Int.natCast_mul, Int.natCast_pow] at this
    exact this)] at h
  rw [h]
  congr 2
theorem byte_at {l : List UInt8} {c : UInt8} {d r : List UInt8} (h : l = d ++ c :: r) (hd : d.length < l.length) : l[d.length] = c := by
  subst h; simp
theorem taken_spec {v : Value} {n : Nat} {rest : List UInt8} (h : Bytes I v (varL n ++ rest)) (hn : n ≤ 9007199254740991) (hk : K (.tuple #[.int .u64 n, .int .i64 (varL n).length, .int .i64 0]) I L) : Cal Tryz.prog ω 124 #[v] K I L := by
  refine cal124 ?_
  unfold sh124
  refine loop (fun q t I' L' => I' = I ∧ L' = L ∧ ∃ (i m acc : Nat) (d : List UInt8), q + i = 8 ∧ t = (.int .u64 0, .int .i64 0, .int .i64 0, .int .u64 acc, .int .i64 i, ()) ∧ varL n = d ++ varL m ∧ d.length = i ∧ n = acc + m * 128 ^ i ∧ acc < 128 ^ i ∧ (0 < i → m ≠ 0)) 8 ⟨rfl, rfl, 0, n, 0, [], rfl, rfl, rfl, rfl, by simp, by simp, by omega⟩ ?_
  rintro q t I' L' ⟨rfl, rfl, i, m, acc, d, hqi, rfl, he, hd, hnn, hacc, hm0⟩
  have hi7 : i ≤ 7 := by
    by_cases h8 : i = 8
    · subst h8
      have hm := hm0 (by omega)
      have : 1 * 128 ^ 8 ≤ m * 128 ^ 8 := Nat.mul_le_mul_right _ (by omega)
      omega
    · omega
  have hmn : m * 128 ^ i ≤ 9007199254740991 := by omega
  have hmm : m ≤ 9007199254740991 := Nat.le_trans (Nat.le_mul_of_pos_right _ (Nat.pow_pos (by decide))) hmn
  obtain ⟨c, r, hc, hcs⟩ : ∃ c r, varL m = c :: r ∧ ((m < 128 ∧ c = UInt8.ofNat m ∧ r = []) ∨ (¬ m < 128 ∧ c = UInt8.ofNat (m % 128 + 128) ∧ r = varL (m / 128))) := by
    by_cases h1 : m < 128
    · exact ⟨_, _, varL_small h1, .inl ⟨h1, rfl, rfl⟩⟩
    · exact ⟨_, _, varL_big h1, .inr ⟨h1, rfl, rfl⟩⟩
  have hl : varL n ++ rest = d ++ c :: (r ++ rest) := by rw [he, hc]; simp
  have hlen : d.length < (varL n ++ rest).length := by rw [hl]; simp
  unfold sh124_1
  obtain ⟨b, off, hix, hcell⟩ := Bytes.at (k := i) h (by omega)
  have hbyte : (varL n ++ rest)[i]'(by omega) = c := by
    have := byte_at hl hlen
    simpa [hd] using this
  rw [hbyte] at hcell
  have hne : ((i : Int) == ((varL n ++ rest).length : Int)) = false := by
    simp only [beq_eq_false_iff_ne, ne_eq]; omega
  try simp only [SSd, Nat.reduceAdd]
  refine br_split (fun e => ?_) (fun e => absurd e (by simp; omega))
  simp only [Bytes.len h, hne, hix, SSd, Nat.reduceAdd]
  refine rd1 (hcell _ _ (Ext.refl _)) ?_
  have hand := and_u8 ⟨c.toNat, c.toNat_lt⟩
  simp only at hand
  have hct := c.toNat_lt
  have hcm : c.toNat % 128 = m % 128 := by
    rcases hcs with ⟨h1, rfl, _⟩ | ⟨h1, rfl, _⟩ <;> simp <;> omega
  have hle : m % 128 * 128 ^ i ≤ m * 128 ^ i := Nat.mul_le_mul_right _ (Nat.mod_le _ _)
  have w7 : IntKind.i64.wrap (7 * (i : Int)) = 7 * (i : Int) := wrap_i64 _ (by omega)
  have wu : IntKind.u64.wrap ((m % 128 : Nat) : Int) = ((m % 128 : Nat) : Int) := wrap_u64 _ (by omega) (by omega)
  have hor := or_addU (n := acc) (y := m % 128) (i := 7 * i) (by rw [← pow128]; exact hacc) (by rw [← pow128]; omega)
  simp only [hand, hcm, w7, wu, shl7 hi7 (show m % 128 * 128 ^ i < 9223372036854775808 by omega), hor, SSd, Nat.reduceAdd]
  rw [← pow128]
  generalize hP : 128 ^ i = P at *
  refine br_split (fun e2 => ?_) (fun e2 => ?_)
  · obtain ⟨h1, h2, h3⟩ : ¬ m < 128 ∧ c = UInt8.ofNat (m % 128 + 128) ∧ r = varL (m / 128) := by
      rcases hcs with ⟨h1, h2, _⟩ | h
      · subst h2; simp at e2; omega
      · exact h
    rw [wrap_i64 _ (by omega)]
    have hpow : 128 ^ (i + 1) = P * 128 := by rw [Nat.pow_succ, hP]
    have hsplit : m * P = m % 128 * P + m / 128 * (P * 128) := by
      conv => lhs; rw [← Nat.mod_add_div m 128]
      rw [Nat.add_mul, Nat.mul_comm P 128, ← Nat.mul_assoc, Nat.mul_comm (m / 128) 128]
    refine Gh.done ⟨q - 1, by omega, rfl, rfl, i + 1, m / 128, acc + m % 128 * P, d ++ [c], by omega, rfl, ?_, by simp [hd], ?_, ?_, fun _ => by omega⟩
    · rw [he, hc, h3]; simp
    · rw [hpow]; omega
    · have : m % 128 * P ≤ 127 * P := Nat.mul_le_mul_right _ (by omega)
      rw [hpow]; omega
  · obtain ⟨h1, h2, h3⟩ : m < 128 ∧ c = UInt8.ofNat m ∧ r = [] := by
      rcases hcs with h | ⟨h1, h2, _⟩
      · exact h
      · subst h2; simp at e2; omega
    have hcn : c.toNat = m := by subst h2; simp; omega
    have hmm2 : m % 128 = m := Nat.mod_eq_of_lt h1
    have hL : (varL n).length = i + 1 := by rw [he, hc, h3]; simp [hd]
    rw [hmm2, ← hnn, hcn]
    have fin : sh124_3 ω (.int .u64 0) (.int .i64 0) (.int .i64 0) (.int .u64 n) (.int .i64 i) (.int .u8 m) (.bool false) (fun v => Gh (K v)) I' L' := by
      unfold sh124_3
      have h9 : ((i : Int) == 9) = false := by simp; omega
      simp only [h9, SSd, Nat.reduceAdd]
      unfold sh124_2
      try simp only [SSd, Nat.reduceAdd]
      rw [wrap_i64 _ (by omega)]
      rw [hL] at hk
      exact Gh.done hk
    refine gd_split (fun e3 => ?_) (fun e3 => fin)
    have hmz : ((m : Int) == 0) = false := by
      have := hm0 (by simp at e3; omega)
      simp; omega
    simp only [hmz, SSd, Nat.reduceAdd]
    exact fin
theorem uwrap_range (n : Int) : 0 ≤ IntKind.u64.wrap n ∧ IntKind.u64.wrap n < 18446744073709551616 := by
  unfold IntKind.wrap
  simp only [IntKind.signed, Bool.false_and, Bool.false_eq_true, if_false]
  exact ⟨Int.emod_nonneg _ (by decide), Int.emod_lt_of_pos _ (by decide)⟩
theorem or_range (a b : Int) : 0 ≤ bitsV .or .u64 a b ∧ bitsV .or .u64 a b < 18446744073709551616 := uwrap_range _
theorem takeg_spec {v : Value} {l : List UInt8} (h : Bytes I v l) (hl : l.length ≤ 140737488355328)
    (hk : ∀ (n : Int) (size : Nat) (e : Int), 0 ≤ n → n < 18446744073709551616 → (e = 0 → size ≤ l.length) → K (.tuple #[.int .u64 n, .int .i64 size, .int .i64 e]) I L) : Cal Tryz.prog ω 124 #[v] K I L := by
  refine cal124 ?_
  unfold sh124
  refine loop (fun q (t : Value × Value × Value × Value × Value × Unit) I' L' => I' = I ∧ L' = L ∧ ∃ (i : Nat) (acc : Int), q + i = 10 ∧ t = (.int .u64 0, .int .i64 0, .int .i64 0, .int .u64 acc, .int .i64 i, ()) ∧ i ≤ l.length) 10 ⟨rfl, rfl, 0, 0, rfl, rfl, Nat.zero_le _⟩ ?_
  rintro q t I' L' ⟨rfl, rfl, i, acc, hqi, rfl, hil⟩
  unfold sh124_1
  simp only [Bytes.len h, SSd, Nat.reduceAdd]
  refine br_split (fun e => ?_) (fun e => ?_)
  · have hi : i < 10 := by
      have : (i : Int) < 10 := by simpa using e
      omega
    refine br_split (fun e2 => ?_) (fun e2 => ?_)
    · exact Gh.done (hk 0 0 10 (by omega) (by omega) (by omega))
    · have hlt : i < l.length := by simp at e2; omega
      obtain ⟨b, off, hix, hcell⟩ := Bytes.at (k := i) h hlt
      simp only [hix, SSd, Nat.reduceAdd]
      refine rd1 (hcell _ _ (Ext.refl _)) ?_
      generalize l[i] = c at *
      have hand := and_u8 ⟨c.toNat, c.toNat_lt⟩
      simp only at hand
      have w7 : IntKind.i64.wrap (7 * (i : Int)) = 7 * (i : Int) := wrap_i64 _ (by omega)
      have wi : IntKind.i64.wrap ((i : Int) + 1) = ((i + 1 : Nat) : Int) := by rw [wrap_i64 _ (by omega)]; rfl
      simp only [hand, w7, binI_shl (a := IntKind.u64.wrap ((c.toNat % 128 : Nat) : Int)) (c := 7 * (i : Int)) .u64 .i64 (by omega), SSd, Nat.reduceAdd]
      have hr := or_range acc (IntKind.u64.wrap (IntKind.u64.wrap ((c.toNat % 128 : Nat) : Int) * 2 ^ (min (7 * (i : Int)).toNat IntKind.u64.bits)))
      generalize bitsV .or .u64 acc (IntKind.u64.wrap (IntKind.u64.wrap ((c.toNat % 128 : Nat) : Int) * 2 ^ (min (7 * (i : Int)).toNat IntKind.u64.bits))) = acc2 at *
      have f2 : ∀ t : Bool, sh124_2 ω (.int .u64 0) (.int .i64 0) (.int .i64 0) (.int .u64 acc2) (.int .i64 i) (.bool t) (fun v => Gh (K v)) I' L' := by
        intro t
        unfold sh124_2
        try simp only [SSd, Nat.reduceAdd]
        refine br_split (fun _ => ?_) (fun _ => ?_)
        · exact Gh.done (hk 0 0 11 (by omega) (by omega) (by omega))
        · rw [wi]
          exact Gh.done (hk acc2 (i + 1) 0 hr.1 hr.2 (fun _ => hlt))
      have f3 : ∀ t : Bool, sh124_3 ω (.int .u64 0) (.int .i64 0) (.int .i64 0) (.int .u64 acc2) (.int .i64 i) (.int .u8 c.toNat) (.bool t) (fun v => Gh (K v)) I' L' := by
        intro t
        unfold sh124_3
        try simp only [SSd, Nat.reduceAdd]
        refine gd_split (fun _ => f2 _) (fun _ => f2 _)
      refine br_split (fun e3 => ?_) (fun e3 => ?_)
      · rw [wi]
        exact Gh.done ⟨q - 1, by omega, rfl, rfl, i + 1, acc2, by omega, rfl, hlt⟩
      · refine gd_split (fun e4 => ?_) (fun e4 => f3 _)
        refine br_split (fun e5 => ?_) (fun e5 => ?_)
        · rw [e5]; exact f2 true
        · rw [e5]; exact f3 false
  · exact Gh.done (hk 0 0 11 (by omega) (by omega) (by omega))
theorem varL_inj : ∀ (k m n : Nat) (r s : List UInt8), m < 128 ^ k → n < 128 ^ k → varL m ++ r = varL n ++ s → m = n ∧ r = s
  | 0, m, n, r, s, hm, hn, h => by
    have h0 : m = 0 := by omega
    have h1 : n = 0 := by omega
    subst h0 h1
    simpa using h
  | k + 1, m, n, r, s, hm, hn, h => by
    have b1 : ∀ x : Nat, x < 128 → (UInt8.ofNat x).toNat = x := fun x hx => by simp; omega
    have b2 : ∀ x : Nat, (UInt8.ofNat (x % 128 + 128)).toNat = x % 128 + 128 := fun x => by simp; omega
    by_cases h1 : m < 128 <;> by_cases h2 : n < 128
    · rw [varL_small h1, varL_small h2] at h
      simp only [List.cons_append, List.nil_append, List.cons.injEq] at h
      have := congrArg UInt8.toNat h.1
      rw [b1 m h1, b1 n h2] at this
      exact ⟨this, h.2⟩
    · rw [varL_small h1, varL_big h2] at h
      simp only [List.cons_append, List.nil_append, List.cons.injEq] at h
      have := congrArg UInt8.toNat h.1
      rw [b1 m h1, b2 n] at this; omega
    · rw [varL_big h1, varL_small h2] at h
      simp only [List.cons_append, List.nil_append, List.cons.injEq] at h
      have := congrArg UInt8.toNat h.1
      rw [b1 n h2, b2 m] at this; omega
    · rw [varL_big h1, varL_big h2] at h
      simp only [List.cons_append, List.cons.injEq] at h
      have := congrArg UInt8.toNat h.1
      rw [b2 m, b2 n] at this
      have hp : 128 ^ (k + 1) = 128 * 128 ^ k := by rw [Nat.pow_succ, Nat.mul_comm]
      have ih := varL_inj k (m / 128) (n / 128) r s (by omega) (by omega) h.2
      exact ⟨by omega, ih.2⟩
theorem nB_inj {m n : Int} {r s : List UInt8} (hm : maxI m) (hn : maxI n) (h : nB m ++ r = nB n ++ s) : m = n ∧ r = s := by
  have := varL_inj 9 m.toNat n.toNat r s (by have := hm.2; have := hm.1; omega) (by have := hn.2; have := hn.1; omega) h
  have h1 := hm.1
  have h2 := hn.1
  exact ⟨by omega, this.2⟩
abbrev rdO (v : Value) (bad : Bool) : Obj := .cells #[v, .bool bad] 152 (0, 0)
theorem rnum_spec {r : Nat} {v : Value} {b : List UInt8} {bad : Bool} {F : LH} (hB : Bytes I v b) (hl : b.length ≤ 140737488355328)
    (hk : ∀ n v' b' bad', Bytes I v' b' → NumP b bad n b' bad' → K (.int .i64 n) I ((r, rdO v' bad') :: F)) : Cal Tryz.prog ω 71 #[pt r] K I ((r, rdO v bad) :: F) := by
  obtain ⟨va, vc, rfl⟩ := Bytes.form hB
  refine cal71 ?_
  unfold sh71
  try simp only [SSd, Nat.reduceAdd]
  refine rdb ?_
  by_cases hx : ∃ (m : Int) (rest : List UInt8), maxI m ∧ b = nB m ++ rest
  · obtain ⟨m, rest, hm, hb⟩ := hx
    have hmn : m = ((m.toNat : Nat) : Int) := by have := hm.1; omega
    have hm2 : m.toNat ≤ 9007199254740991 := by have := hm.2; omega
    have hB2 : Bytes I (.slice va b.length vc) (varL m.toNat ++ rest) := by rw [show varL m.toNat ++ rest = b from hb.symm]; exact hB
    obtain ⟨v', hs, hB'⟩ := Bytes.drop (n := (varL m.toNat).length) hB2 (by simp)
    rw [List.drop_left] at hB'
    obtain ⟨va', vc', rfl⟩ := Bytes.form hB'
    have hP : NumP b bad m rest bad := ⟨hm, by rw [hb]; simp, fun m' rest' hm' h' => by
      obtain ⟨h1, h2⟩ := nB_inj hm hm' (by rw [← hb]; exact h')
      exact ⟨h1, h2, rfl⟩⟩
    have hgt : decide ((9007199254740991 : Int) < ((m.toNat : Nat) : Int)) = false := by simp; omega
    refine call (taken_spec hB2 hm2 ?_)
    simp only [hgt, bne_self_eq_false, SSd, Nat.reduceAdd]
    refine rdb ?_
    simp only [hs, SSd, Nat.reduceAdd]
    refine st1 rfl ?_
    try simp only [SSd, Nat.reduceAdd]
    rw [wrap_i64 _ (by omega), ← hmn]
    exact Gh.done (hk m _ rest bad hB' hP)
  · have bd : sh71_1 ω (pt r) (.int .i64 0) (fun v => Gh (K v)) I ((r, rdO (.slice va b.length vc) bad) :: F) := by
      repeat' (first | (with_reducible refine drawC ?_) | (with_reducible refine drawW1 ?_) | (with_reducible refine drawW2 ?_) | (with_reducible refine keepC (by repeat (first | exact Ext.refl _ | assumption | refine Ext.trans ?_ (by assumption))) ?_) | (with_reducible refine newI (fun _ => ?_)) | first | (with_reducible refine rdb ?_) | ((with_reducible refine st1 ?_ ?_); rfl) | ((with_reducible refine rdB ?_ ?_); rfl) | (with_reducible refine rdbS ?_) | ((with_reducible refine rdBS ?_ ?_); rfl) | ((with_reducible refine stB ?_ ?_ ?_ ?_); rfl; rfl; exact one_all rfl) | ((with_reducible refine rdP _ rfl ?_ ?_); rfl) | ((with_reducible refine rdPS _ rfl ?_ ?_); rfl) | ((with_reducible refine stP _ rfl ?_ ?_ ?_ ?_); rfl; rfl; rfl) | (with_reducible refine unfE (sh71_1.eq_1 ..) ?_) | (with_reducible refine unfE (sh71.eq_1 ..) ?_) | (with_reducible refine And.intro ?_ ?_) | (simp only [Bool.not_true, Bool.not_false, Bool.and_self, Bool.true_and, Int.reduceBEq, Int.reduceBNe, Int.reduceLT, Int.reduceLE, decide_true, decide_false, Br_true, Br_false, Gd_tt, Gd_ft, Gd_tf, Gd_ff, beq_self_eq_true, bne_self_eq_false]) | (with_reducible refine gd_split (fun _ => ?_) (fun _ => ?_)) | (with_reducible refine br_split (fun _ => ?_) (fun _ => ?_)) | (simp only [SSd, Nat.reduceAdd]))
      exact Gh.done (hk 0 _ [] true (bnil I) ⟨⟨by omega, by omega⟩, Nat.zero_le _, fun m rest hm h => absurd ⟨m, rest, hm, h⟩ hx⟩)
    refine call (takeg_spec hB hl (fun n size e hn0 hn1 hsz => ?_))
    try simp only [SSd, Nat.reduceAdd]
    refine gd_split (fun e1 => ?_) (fun e1 => bd)
    have he : e = 0 := by simpa using e1
    refine br_split (fun e2 => bd) (fun e2 => ?_)
    have hn : n ≤ 9007199254740991 := by simpa using e2
    obtain ⟨v', hs, hB'⟩ := Bytes.drop (n := size) hB (hsz he)
    obtain ⟨va', vc', rfl⟩ := Bytes.form hB'
    refine rdb ?_
    simp only [hs, SSd, Nat.reduceAdd]
    refine st1 rfl ?_
    try simp only [SSd, Nat.reduceAdd]
    rw [wrap_i64 _ (by omega)]
    exact Gh.done (hk n _ _ bad hB' ⟨⟨hn0, hn⟩, by simp, fun m rest hm h => absurd ⟨m, rest, hm, h⟩ hx⟩)
theorem rstamp_spec {r : Nat} {v : Value} {b : List UInt8} {bad : Bool} {F : LH} (hB : Bytes I v b) (hl : b.length ≤ 140737488355328)
    (hk : ∀ s v' b' bad', Bytes I v' b' → StP b bad s b' bad' → K (sv s) I ((r, rdO v' bad') :: F)) : Cal Tryz.prog ω 72 #[pt r] K I ((r, rdO v bad) :: F) := by
  refine cal72 ?_
  unfold sh72
  refine newI (fun b1 => ?_)
  refine call (Cal.pick r (rnum_spec hB hl (fun n1 x1 c1 d1 hB1 hP1 => ?_)))
  refine call (rnum_spec hB1 (by have := hP1.len; omega) (fun n2 x2 c2 d2 hB2 hP2 => ?_))
  have hP : ∀ d', (rightB ⟨n1, n2⟩ = true → d' = d2) → StP b bad ⟨n1, n2⟩ c2 d' := fun d' hd => ⟨⟨hP1.max, hP2.max⟩, Nat.le_trans hP2.len hP1.len, fun x rest hx hb => by
    have hm := rightB_max hx
    obtain ⟨e1, e2, e3⟩ := hP1.get x.fWall (nB x.fLogic ++ rest) hm.1 (by rw [hb]; simp [stmB])
    obtain ⟨e4, e5, e6⟩ := hP2.get x.fLogic rest hm.2 e2
    subst e1 e4
    exact ⟨rfl, e5, by rw [hd hx, e6, e3]⟩⟩
  try simp only [SSd, Nat.reduceAdd]
  refine newI (fun b2 => ?_)
  refine stB rfl rfl (one_all rfl) ?_
  refine rdB rfl ?_
  refine call (hright_spec (x := ⟨n1, n2⟩) ?_)
  repeat' (first | (with_reducible refine drawC ?_) | (with_reducible refine drawW1 ?_) | (with_reducible refine drawW2 ?_) | (with_reducible refine keepC (by repeat (first | exact Ext.refl _ | assumption | refine Ext.trans ?_ (by assumption))) ?_) | (with_reducible refine newI (fun _ => ?_)) | first | (with_reducible refine rdb ?_) | ((with_reducible refine st1 ?_ ?_); rfl) | ((with_reducible refine rdB ?_ ?_); rfl) | (with_reducible refine rdbS ?_) | ((with_reducible refine rdBS ?_ ?_); rfl) | ((with_reducible refine stB ?_ ?_ ?_ ?_); rfl; rfl; exact one_all rfl) | ((with_reducible refine rdP _ rfl ?_ ?_); rfl) | ((with_reducible refine rdPS _ rfl ?_ ?_); rfl) | ((with_reducible refine stP _ rfl ?_ ?_ ?_ ?_); rfl; rfl; rfl) | (with_reducible refine unfE (sh72_1.eq_1 ..) ?_) | (with_reducible refine unfE (sh72.eq_1 ..) ?_) | (with_reducible refine And.intro ?_ ?_) | (simp only [Bool.not_true, Bool.not_false, Bool.and_self, Bool.true_and, Int.reduceBEq, Int.reduceBNe, Int.reduceLT, Int.reduceLE, decide_true, decide_false, Br_true, Br_false, Gd_tt, Gd_ft, Gd_tf, Gd_ff, beq_self_eq_true, bne_self_eq_false]) | (with_reducible refine gd_split (fun _ => ?_) (fun _ => ?_)) | (with_reducible refine br_split (fun _ => ?_) (fun _ => ?_)) | (simp only [SSd, Nat.reduceAdd]))
  · rename_i e
    exact Gh.to ((r, rdO x2 true) :: F) (Gh.done (hk ⟨n1, n2⟩ _ _ _ hB2 (hP true (fun h => by rw [h] at e; cases e))))
  · exact Gh.to ((r, rdO x2 d2) :: F) (Gh.done (hk ⟨n1, n2⟩ _ _ _ hB2 (hP d2 (fun _ => rfl))))
theorem rtruth_spec {r : Nat} {v : Value} {b : List UInt8} {bad : Bool} {F : LH} (hB : Bytes I v b) (hl : b.length ≤ 140737488355328)
    (hk : ∀ t v' b' bad', Bytes I v' b' → BitP b bad t b' bad' → K (.bool t) I ((r, rdO v' bad') :: F)) : Cal Tryz.prog ω 73 #[pt r] K I ((r, rdO v bad) :: F) := by
  refine cal73 ?_
  unfold sh73
  refine call (rnum_spec hB hl (fun n1 x1 c1 d1 hB1 hP1 => ?_))
  have hP : ∀ d', ((n1 = 0 ∨ n1 = 1) → d' = d1) → BitP b bad (n1 == 1) c1 d' := fun d' hd => ⟨hP1.len, fun x rest hb => by
    obtain ⟨e1, e2, e3⟩ := hP1.get _ rest (bit_max x) hb
    cases x with
    | true => simp at e1; subst e1; exact ⟨rfl, e2, by rw [hd (.inr rfl), e3]⟩
    | false => simp at e1; subst e1; exact ⟨rfl, e2, by rw [hd (.inl rfl), e3]⟩⟩
  have h1 := hP1.max
  repeat' (first | (with_reducible refine drawC ?_) | (with_reducible refine drawW1 ?_) | (with_reducible refine drawW2 ?_) | (with_reducible refine keepC (by repeat (first | exact Ext.refl _ | assumption | refine Ext.trans ?_ (by assumption))) ?_) | (with_reducible refine newI (fun _ => ?_)) | first | (with_reducible refine rdb ?_) | ((with_reducible refine st1 ?_ ?_); rfl) | ((with_reducible refine rdB ?_ ?_); rfl) | (with_reducible refine rdbS ?_) | ((with_reducible refine rdBS ?_ ?_); rfl) | ((with_reducible refine stB ?_ ?_ ?_ ?_); rfl; rfl; exact one_all rfl) | ((with_reducible refine rdP _ rfl ?_ ?_); rfl) | ((with_reducible refine rdPS _ rfl ?_ ?_); rfl) | ((with_reducible refine stP _ rfl ?_ ?_ ?_ ?_); rfl; rfl; rfl) | (with_reducible refine unfE (sh73.eq_1 ..) ?_) | (with_reducible refine And.intro ?_ ?_) | (simp only [Bool.not_true, Bool.not_false, Bool.and_self, Bool.true_and, Int.reduceBEq, Int.reduceBNe, Int.reduceLT, Int.reduceLE, decide_true, decide_false, Br_true, Br_false, Gd_tt, Gd_ft, Gd_tf, Gd_ff, beq_self_eq_true, bne_self_eq_false]) | (with_reducible refine gd_split (fun _ => ?_) (fun _ => ?_)) | (with_reducible refine br_split (fun _ => ?_) (fun _ => ?_)) | (simp only [SSd, Nat.reduceAdd]))
  · rename_i e
    exact Gh.done (hk (n1 == 1) _ _ _ hB1 (hP _ (fun h => by rw [e]; simp; omega)))
  · rename_i e
    have hd : d1 = true := by simpa using e
    exact Gh.done (hk (n1 == 1) _ _ _ hB1 (hP true (fun h => hd.symm)))
theorem rtext_spec {r : Nat} {v : Value} {b : List UInt8} {bad : Bool} {F : LH} (hB : Bytes I v b) (hl : b.length ≤ 140737488355328)
    (hk : ∀ t u v' b' bad' I', Ext I I' → Bytes I' u t → Bytes I' v' b' → TxP b bad t b' bad' → K u I' ((r, rdO v' bad') :: F)) : Cal Tryz.prog ω 74 #[pt r] K I ((r, rdO v bad) :: F) := by
  refine cal74 ?_
  unfold sh74
  refine call (rnum_spec hB hl (fun n1 x1 c1 d1 hB1 hP1 => ?_))
  have h1 := hP1.max
  have hc1 := hP1.len
  obtain ⟨va, vc, rfl⟩ := Bytes.form hB1
  try simp only [SSd, Nat.reduceAdd]
  refine rdb ?_
  try simp only [SSd, Nat.reduceAdd]
  refine br_split (fun e => ?_) (fun e => ?_)
  · have hgt : (c1.length : Int) < n1 := by simpa using e
    repeat' (first | (with_reducible refine drawC ?_) | (with_reducible refine drawW1 ?_) | (with_reducible refine drawW2 ?_) | (with_reducible refine keepC (by repeat (first | exact Ext.refl _ | assumption | refine Ext.trans ?_ (by assumption))) ?_) | (with_reducible refine newI (fun _ => ?_)) | first | (with_reducible refine rdb ?_) | ((with_reducible refine st1 ?_ ?_); rfl) | ((with_reducible refine rdB ?_ ?_); rfl) | (with_reducible refine rdbS ?_) | ((with_reducible refine rdBS ?_ ?_); rfl) | ((with_reducible refine stB ?_ ?_ ?_ ?_); rfl; rfl; exact one_all rfl) | ((with_reducible refine rdP _ rfl ?_ ?_); rfl) | ((with_reducible refine rdPS _ rfl ?_ ?_); rfl) | ((with_reducible refine stP _ rfl ?_ ?_ ?_ ?_); rfl; rfl; rfl) | (with_reducible refine unfE (sh74.eq_1 ..) ?_) | (with_reducible refine And.intro ?_ ?_) | (simp only [Bool.not_true, Bool.not_false, Bool.and_self, Bool.true_and, Int.reduceBEq, Int.reduceBNe, Int.reduceLT, Int.reduceLE, decide_true, decide_false, Br_true, Br_false, Gd_tt, Gd_ft, Gd_tf, Gd_ff, beq_self_eq_true, bne_self_eq_false]) | (with_reducible refine gd_split (fun _ => ?_) (fun _ => ?_)) | (with_reducible refine br_split (fun _ => ?_) (fun _ => ?_)) | (simp only [SSd, Nat.reduceAdd]))
    refine Gh.done (hk [] _ _ [] true I (Ext.refl _) (bnil I) (bnil I) ⟨Nat.zero_le _, Nat.zero_le _, fun x rest hx hb => ?_⟩)
    obtain ⟨e1, e2, e3⟩ := hP1.get (x.length : Int) (x ++ rest) ⟨by omega, by omega⟩ (by rw [hb]; simp [txtB, nB])
    rw [e1, e2, List.length_append] at hgt; omega
  · have hle : n1 ≤ (c1.length : Int) := by simpa using e
    obtain ⟨n, rfl⟩ : ∃ n : Nat, n1 = n := ⟨n1.toNat, by have := h1.1; omega⟩
    have hn : n ≤ c1.length := by omega
    obtain ⟨u1, hs1, hT⟩ := Bytes.take hB1 hn
    obtain ⟨u2, hs2, hD⟩ := Bytes.drop hB1 hn
    obtain ⟨ua, uc, rfl⟩ := Bytes.form hD
    refine rdb ?_
    simp only [hs1, SSd, Nat.reduceAdd]
    haveI : SplitL [] ((r, rdO (.slice va c1.length vc) d1) :: F) ((r, rdO (.slice va c1.length vc) d1) :: F) := ⟨List.Perm.refl _⟩
    refine ob_appG (X6 := []) (l := []) (y := c1.take n) (SlO.none _ 1) (SlI.news hT) (by simp; omega) (fun Y w hO => ?_)
    rw [List.nil_append] at hO
    refine OB.freeze hO (fun I2 hI2 hB2 => Gh.done ?_)
    try simp only [SSd, Nat.reduceAdd]
    refine rdb ?_
    simp only [hs2, SSd, Nat.reduceAdd]
    refine st1 rfl ?_
    refine Gh.done (hk (c1.take n) w _ (c1.drop n) d1 I2 hI2 hB2 (hD.mono hI2) ⟨by simp; omega, by simp; omega, fun x rest hx hb => ?_⟩)
    obtain ⟨e1, e2, e3⟩ := hP1.get (x.length : Int) (x ++ rest) ⟨by omega, by omega⟩ (by rw [hb]; simp [txtB, nB])
    have e4 : n = x.length := by omega
    rw [e2, e4]
    exact ⟨by simp, by simp, e3⟩
theorem rspan_spec {r : Nat} {v : Value} {b : List UInt8} {bad : Bool} {F : LH} (hB : Bytes I v b) (hl : b.length ≤ 140737488355328)
    (hk : ∀ p v' b' bad' I' pc, Ext I I' → TSpanV I' p pc → Bytes I' v' b' → SpnP b bad p b' bad' → K (.agg pc.toArray) I' ((r, rdO v' bad') :: F)) : Cal Tryz.prog ω 75 #[pt r] K I ((r, rdO v bad) :: F) := by
  refine cal75 ?_
  unfold sh75
  refine newI (fun b1 => ?_)
  refine call (Cal.pick r (rtext_spec hB hl (fun t1 u1 x1 c1 d1 I1 hI1 hT1 hB1 hP1 => ?_)))
  refine call (rtext_spec hB1 (by have := hP1.len; omega) (fun t2 u2 x2 c2 d2 I2 hI2 hT2 hB2 hP2 => ?_))
  have l1 := hP1.len
  have l2 := hP2.len
  have l3 := hP1.tlen
  have l4 := hP2.tlen
  obtain ⟨ua, uc, rfl⟩ := Bytes.form hT1
  obtain ⟨wa, wc, rfl⟩ := Bytes.form hT2
  try simp only [SSd, Nat.reduceAdd]
  refine Go.SL.stB rfl rfl (one_all rfl) ?_
  refine rdB rfl ?_
  refine Gh.to ((r, rdO x2 d2) :: F) (Gh.done (hk ⟨t1, t2⟩ _ c2 d2 I2 _ (hI1.trans hI2) ⟨_, _, rfl, hT1.mono hI2, hT2⟩ hB2 ⟨⟨by simp only; omega, by simp only; omega⟩, by omega, fun x rest h1 h2 hb => ?_⟩))
  obtain ⟨e1, e2, e3⟩ := hP1.get x.fFrom _ h1 hb
  obtain ⟨e4, e5, e6⟩ := hP2.get x.fTo rest h2 e2
  subst e1 e4
  exact ⟨rfl, e5, by rw [e6, e3]⟩
theorem rwhole_spec {r : Nat} {v : Value} {b : List UInt8} {bad : Bool} {F : LH} (hB : Bytes I v b) (hk : K (.bool (!bad && b.length == 0)) I ((r, rdO v bad) :: F)) : Cal Tryz.prog ω 76 #[pt r] K I ((r, rdO v bad) :: F) := by
  refine cal76 ?_
  unfold sh76
  repeat' (first | (with_reducible refine drawC ?_) | (with_reducible refine drawW1 ?_) | (with_reducible refine drawW2 ?_) | (with_reducible refine keepC (by repeat (first | exact Ext.refl _ | assumption | refine Ext.trans ?_ (by assumption))) ?_) | (with_reducible refine newI (fun _ => ?_)) | first | (with_reducible refine rdb ?_) | ((with_reducible refine st1 ?_ ?_); rfl) | ((with_reducible refine rdB ?_ ?_); rfl) | (with_reducible refine rdbS ?_) | ((with_reducible refine rdBS ?_ ?_); rfl) | ((with_reducible refine stB ?_ ?_ ?_ ?_); rfl; rfl; exact one_all rfl) | ((with_reducible refine rdP _ rfl ?_ ?_); rfl) | ((with_reducible refine rdPS _ rfl ?_ ?_); rfl) | ((with_reducible refine stP _ rfl ?_ ?_ ?_ ?_); rfl; rfl; rfl) | (with_reducible refine unfE (sh76.eq_1 ..) ?_) | (with_reducible refine And.intro ?_ ?_) | (simp only [Bool.not_true, Bool.not_false, Bool.and_self, Bool.true_and, Int.reduceBEq, Int.reduceBNe, Int.reduceLT, Int.reduceLE, decide_true, decide_false, Br_true, Br_false, Gd_tt, Gd_ft, Gd_tf, Gd_ff, beq_self_eq_true, bne_self_eq_false]) | (with_reducible refine gd_split (fun _ => ?_) (fun _ => ?_)) | (with_reducible refine br_split (fun _ => ?_) (fun _ => ?_)) | (simp only [SSd, Nat.reduceAdd, Bytes.len hB]))
  all_goals (refine Gh.done (leafB hk ?_); simp_all)
  all_goals (rw [Bool.eq_iff_iff]; simp)
abbrev cmdZ : Value := .agg #[.int .i64 0, .int .i64 0, .int .i64 0, .int .i64 0, .int .i64 0, .int .i64 0, .int .i64 0, .int .i64 0, .bool false, .bool false, .slice none 0 0, .slice none 0 0, .slice none 0 0, .slice none 0 0, .int .i64 0]
theorem decode_spec {v : Value} {b : List UInt8} (hB : Bytes I v b) (hl : b.length ≤ 140737488355328)
    (hk1 : ∀ c cells I', Ext I I' → TCmdV I' c cells → rightP c = true → encB c = b → K (.tuple #[.agg cells.toArray, .int .i64 0]) I' L)
    (hk2 : ∀ I', Ext I I' → (∀ c, rightP c = true → encB c ≠ b) → K (.tuple #[cmdZ, .int .i64 140]) I' L) : Cal Tryz.prog ω 21 #[v] K I L := by
  obtain ⟨va, vc, rfl⟩ := Bytes.form hB
  refine cal21 ?_
  unfold sh21
  refine newI (fun b0 => ?_)
  try simp only [SSd, Nat.reduceAdd]
  refine newI (fun r => ?_)
  refine call (rnum_spec hB hl (fun k x1 c1 d1 B1 P1 => ?_))
  have l1 := P1.len
  refine call (rnum_spec B1 (by omega) (fun tx x2 c2 d2 B2 P2 => ?_))
  have l2 := P2.len
  refine call (rnum_spec B2 (by omega) (fun sq x3 c3 d3 B3 P3 => ?_))
  have l3 := P3.len
  refine call (rnum_spec B3 (by omega) (fun by' x4 c4 d4 B4 P4 => ?_))
  have l4 := P4.len
  refine call (rnum_spec B4 (by omega) (fun mo x5 c5 d5 B5 P5 => ?_))
  have l5 := P5.len
  try simp only [SSd, Nat.reduceAdd]
  refine newI (fun q => ?_)
  refine Go.SL.stB rfl rfl (one_all rfl) ?_
  refine call (Cal.pick r (rstamp_spec B5 (by omega) (fun at' x6 c6 d6 B6 P6 => ?_)))
  have l6 := P6.len
  refine call (rstamp_spec B6 (by omega) (fun to' x7 c7 d7 B7 P7 => ?_))
  have l7 := P7.len
  try simp only [SSd, Nat.reduceAdd]
  refine stP _ rfl rfl rfl rfl ?_
  try simp only [SSd, Nat.reduceAdd]
  refine stP _ rfl rfl rfl rfl ?_
  refine call (rtruth_spec B7 (by omega) (fun ys x8 c8 d8 B8 P8 => ?_))
  have l8 := P8.len
  refine call (rtruth_spec B8 (by omega) (fun dl x9 c9 d9 B9 P9 => ?_))
  have l9 := P9.len
  try simp only [SSd, Nat.reduceAdd]
  refine st1 rfl ?_
  try simp only [SSd, Nat.reduceAdd]
  refine st1 rfl ?_
  refine call (rtext_spec B9 (by omega) (fun ky u10 x10 c10 d10 I1 hI1 T10 B10 P10 => ?_))
  have l10 := P10.len
  have m10 := P10.tlen
  refine call (rtext_spec B10 (by omega) (fun vl u11 x11 c11 d11 I2 hI2 T11 B11 P11 => ?_))
  have l11 := P11.len
  have m11 := P11.tlen
  refine call (rspan_spec B11 (by omega) (fun sp x12 c12 d12 I3 pc hI3 T12 B12 P12 => ?_))
  have l12 := P12.len
  have m12 := P12.tlen
  obtain ⟨w0, w1, rfl, g0, g1⟩ := T12
  obtain ⟨a10, k10, rfl⟩ := Bytes.form T10
  obtain ⟨a11, k11, rfl⟩ := Bytes.form T11
  obtain ⟨a12, k12, rfl⟩ := Bytes.form g0
  obtain ⟨a13, k13, rfl⟩ := Bytes.form g1
  try simp only [SSd, Nat.reduceAdd]
  refine st1 rfl ?_
  try simp only [SSd, Nat.reduceAdd]
  refine st1 rfl ?_
  try simp only [SSd, Nat.reduceAdd]
  refine stP _ rfl rfl rfl rfl ?_
  try simp only [SSd, Nat.reduceAdd]
  refine rdB rfl ?_
  have hinv : ∀ c', rightP c' = true → encB c' = b → c' = ⟨k, tx, sq, at', to', by', ys, dl, ky, vl, sp, mo⟩ ∧ d12 = false ∧ c12 = [] := by
    intro c' hr hb
    have ho := rightP_ok hr
    have hs := ho.span
    simp only [spanOk, Bool.and_eq_true, decide_eq_true_eq] at hs
    have hkd := ho.kind
    have hmo := ho.most
    have hky := ho.key
    have hva := ho.value
    have hb' : b = encB c' ++ [] := by rw [hb, List.append_nil]
    simp only [encB, List.append_assoc] at hb'
    obtain ⟨e1, f1, g1⟩ := P1.get _ _ ⟨by omega, by omega⟩ hb'
    obtain ⟨e2, f2, g2⟩ := P2.get _ _ ho.txn f1
    obtain ⟨e3, f3, g3⟩ := P3.get _ _ ho.seq f2
    obtain ⟨e4, f4, g4⟩ := P4.get _ _ ho.by' f3
    obtain ⟨e5, f5, g5⟩ := P5.get _ _ ⟨hmo.1, by omega⟩ f4
    obtain ⟨e6, f6, g6⟩ := P6.get _ _ ho.at' f5
    obtain ⟨e7, f7, g7⟩ := P7.get _ _ ho.to f6
    obtain ⟨e8, f8, g8⟩ := P8.get _ _ f7
    obtain ⟨e9, f9, g9⟩ := P9.get _ _ f8
    obtain ⟨e10, f10, g10⟩ := P10.get _ _ (by omega) f9
    obtain ⟨e11, f11, g11⟩ := P11.get _ _ (by omega) f10
    obtain ⟨e12, f12, g12⟩ := P12.get c'.fSpan [] (by omega) (by omega) f11
    refine ⟨?_, by rw [g12, g11, g10, g9, g8, g7, g6, g5, g4, g3, g2, g1], f12⟩
    subst e1 e2 e3 e4 e5 e6 e7 e8 e9 e10 e11 e12
    rfl
  have hT12 := hI2.trans hI3
  have hT : TCmdV I3 (⟨k, tx, sq, at', to', by', ys, dl, ky, vl, sp, mo⟩ : TCmd) [.int .i64 k, .int .i64 tx, .int .i64 sq, .int .i64 at'.fWall, .int .i64 at'.fLogic, .int .i64 to'.fWall, .int .i64 to'.fLogic, .int .i64 by', .bool ys, .bool dl, .slice a10 ky.length k10, .slice a11 vl.length k11, .slice a12 sp.fFrom.length k12, .slice a13 sp.fTo.length k13, .int .i64 mo] := ⟨_, _, _, _, rfl, T10.mono hT12, T11.mono hI3, g0, g1⟩
  have hI03 := hI1.trans hT12
  generalize hcc : (⟨k, tx, sq, at', to', by', ys, dl, ky, vl, sp, mo⟩ : TCmd) = cm at *
  have hLn : Lens cm := by subst hcc; exact ⟨by simp only; omega, by simp only; omega, by simp only; omega, by simp only; omega⟩
  have bad : ∀ I', Ext I3 I' → (rightP cm = false ∨ (!d12 && c12.length == 0) = false ∨ encB cm ≠ b) → K (.tuple #[cmdZ, .int .i64 140]) I' L := by
    intro I' hI' h
    refine hk2 I' (hI03.trans hI') (fun c' h1 h2 => ?_)
    obtain ⟨e1, e2, e3⟩ := hinv c' h1 h2
    subst e1
    rcases h with h | h | h
    · rw [h] at h1; cases h1
    · rw [e2, e3] at h; simp at h
    · exact h h2
  refine call (encode_spec hT hLn (fun hr => ?_) (fun hr u I4 hI4 hU => ?_))
  · repeat' (first | (with_reducible refine drawC ?_) | (with_reducible refine drawW1 ?_) | (with_reducible refine drawW2 ?_) | (with_reducible refine keepC (by repeat (first | exact Ext.refl _ | assumption | refine Ext.trans ?_ (by assumption))) ?_) | (with_reducible refine newI (fun _ => ?_)) | ((with_reducible refine call ?_); refine (Cal.pick r (rwhole_spec B12 ?_))) | first | (with_reducible refine rdb ?_) | ((with_reducible refine st1 ?_ ?_); rfl) | ((with_reducible refine rdB ?_ ?_); rfl) | (with_reducible refine rdbS ?_) | ((with_reducible refine rdBS ?_ ?_); rfl) | ((with_reducible refine stB ?_ ?_ ?_ ?_); rfl; rfl; exact one_all rfl) | ((with_reducible refine rdP _ rfl ?_ ?_); rfl) | ((with_reducible refine rdPS _ rfl ?_ ?_); rfl) | ((with_reducible refine stP _ rfl ?_ ?_ ?_ ?_); rfl; rfl; rfl) | (with_reducible refine unfE (sh21_1.eq_1 ..) ?_) | (with_reducible refine unfE (sh21.eq_1 ..) ?_) | (with_reducible refine And.intro ?_ ?_) | (simp only [Bool.not_true, Bool.not_false, Bool.and_self, Bool.true_and, Int.reduceBEq, Int.reduceBNe, Int.reduceLT, Int.reduceLE, decide_true, decide_false, Br_true, Br_false, Gd_tt, Gd_ft, Gd_tf, Gd_ff, beq_self_eq_true, bne_self_eq_false]) | (with_reducible refine gd_split (fun _ => ?_) (fun _ => ?_)) | (with_reducible refine br_split (fun _ => ?_) (fun _ => ?_)) | (simp only [SSd, Nat.reduceAdd]))
    all_goals exact Gh.to L (Gh.done (bad I3 (Ext.refl _) (.inl hr)))
  · repeat' (first | (with_reducible refine drawC ?_) | (with_reducible refine drawW1 ?_) | (with_reducible refine drawW2 ?_) | (with_reducible refine keepC (by repeat (first | exact Ext.refl _ | assumption | refine Ext.trans ?_ (by assumption))) ?_) | (with_reducible refine newI (fun _ => ?_)) | ((with_reducible refine call ?_); refine (Cal.pick r (rwhole_spec (B12.mono hI4) ?_))) | ((with_reducible refine call ?_); refine (equal_spec hU ((((hB.mono hI1).mono hI2).mono hI3).mono hI4) ?_)) | first | (with_reducible refine rdb ?_) | ((with_reducible refine st1 ?_ ?_); rfl) | ((with_reducible refine rdB ?_ ?_); rfl) | (with_reducible refine rdbS ?_) | ((with_reducible refine rdBS ?_ ?_); rfl) | ((with_reducible refine stB ?_ ?_ ?_ ?_); rfl; rfl; exact one_all rfl) | ((with_reducible refine rdP _ rfl ?_ ?_); rfl) | ((with_reducible refine rdPS _ rfl ?_ ?_); rfl) | ((with_reducible refine stP _ rfl ?_ ?_ ?_ ?_); rfl; rfl; rfl) | (with_reducible refine unfE (sh21_1.eq_1 ..) ?_) | (with_reducible refine unfE (sh21.eq_1 ..) ?_) | (with_reducible refine And.intro ?_ ?_) | (simp only [Bool.not_true, Bool.not_false, Bool.and_self, Bool.true_and, Int.reduceBEq, Int.reduceBNe, Int.reduceLT, Int.reduceLE, decide_true, decide_false, Br_true, Br_false, Gd_tt, Gd_ft, Gd_tf, Gd_ff, beq_self_eq_true, bne_self_eq_false]) | (with_reducible refine gd_split (fun _ => ?_) (fun _ => ?_)) | (with_reducible refine br_split (fun _ => ?_) (fun _ => ?_)) | (simp only [SSd, Nat.reduceAdd]))
    · rename_i e
      exact Gh.to L (Gh.done (bad I4 hI4 (.inr (.inr (by simpa using e)))))
    · rename_i e
      exact Gh.to L (Gh.done (hk1 cm _ I4 (hI03.trans hI4) (hT.mono hI4) hr (by simpa using e)))
    · rename_i e
      exact Gh.to L (Gh.done (bad I4 hI4 (.inr (.inl (by simpa using e)))))
end
end Go.Proofs.YtmmfcgbfbcamcaaGreatDoor
-- S3
set_option linter.unusedSimpArgs false
set_option linter.unusedVariables false
namespace Go.Proofs.YtmmfcgbfbcamcaaGreatDoor
open Go.SL
set_option maxRecDepth 10000
def cmdP : TCmd := ⟨3, 1, 1, z0, z0, 0, false, false, [97], [120], ⟨[], []⟩, 0⟩
def cmdG : TCmd := ⟨1, 1, 0, z0, z0, 0, false, false, [97], [], ⟨[], []⟩, 0⟩
def sp00 : TSpan := ⟨[], []⟩
theorem cmdP_r : rightP cmdP = true := by decide
theorem cmdG_r : rightP cmdG = true := by decide
theorem doM3 {m : Mch} {c : TCmd} (h : rightP c = true) (hk : c.fKind = 3) : applyM m c = noSplit (putM m c) := by
  unfold applyM; rw [if_neg (by simp [h])]; unfold doM; simp [hk]
theorem doM1 {m : Mch} {c : TCmd} (h : rightP c = true) (hk : c.fKind = 1) : applyM m c = noSplit (getM m c) := by
  unfold applyM; rw [if_neg (by simp [h])]; unfold doM; simp [hk]
theorem awakeP : (putM (mch0 sp00) cmdP).1.fCode = 0 := by decide
theorem awakeM : (putM (mch0 sp00) cmdP).2.marks = [] := by decide
theorem awakeG : (getM (putM (mch0 sp00) cmdP).2 cmdG).1.fCode = 0 ∧ (getM (putM (mch0 sp00) cmdP).2 cmdG).1.fGot.fValue = [120] := by decide
section
variable {ω : Om} {I : Imm} {L : LH} {K : Value → M}
theorem lit1 {c : UInt8} (hk : ∀ u I', Ext I I' → Bytes I' u [c] → K u I' L) : BldS 5 1 #[.int .u8 0] 1 [(0, .int .u8 c.toNat)] (gh fun v => MrkS v (gh K)) I L := by
  refine bld_oneG rfl (by omega) rfl (fun X u hX => Gh.done ?_)
  have hX' : OB X u [c] := by unfold OB; simpa [Value.cells, u8s] using hX
  by_cases h0 : X = []
  · subst h0
    exfalso
    obtain ⟨_, h⟩ := hX'
    rcases h with ⟨_, h, _⟩ | ⟨b, cap, cs, h, _⟩
    · simp at h
    · cases h
  · exact mrk_own hX' h0 (fun I' hI hS => hk u I' hI hS)
theorem awake_spec (hk : ∀ I', Ext I I' → K (.bool true) I' L) : Cal Tryz.prog ω 10 #[] K I L := by
  refine cal10 ?_
  unfold sh10
  try simp only [SSd, Nat.reduceAdd]
  refine call (newR_spec (p := sp00) ⟨_, _, rfl, bnil I, bnil I⟩ (fun h => by cases h) (fun _ b X I1 hI1 hX => ?_))
  try simp only [SSd, Nat.reduceAdd]
  refine lit1 (c := 97) (fun u1 I2 hI2 hB2 => ?_)
  refine lit1 (c := 120) (fun u2 I3 hI3 hB3 => ?_)
  obtain ⟨a1, k1, rfl⟩ := Bytes.form hB2
  obtain ⟨a2, k2, rfl⟩ := Bytes.form hB3
  try simp only [SSd, Nat.reduceAdd]
  have e1 := doM3 (m := mch0 sp00) cmdP_r rfl
  have hM0 := mch0_ok (p := sp00) (by decide)
  have hM1 := applyM_ok (c := cmdP) hM0
  rw [e1] at hM1
  refine call (apply_spec (c := cmdP) hM0 (by omega) (hX.mono (hI2.trans hI3)) ⟨_, _, _, _, rfl, hB2.mono hI3, hB3, bnil I3, bnil I3⟩ ⟨by decide, by decide, by decide, by decide⟩ (fun h => by cases h) (fun h => by cases h) (fun I4 X1 cells hI4 hX1 hr => ?_))
  rw [e1] at hX1 hr ⊢
  refine ⟨fun _ => ?_, fun m2 b2 X2 h => by cases h⟩
  replace hX1 : MchR I4 b X1 (putM (mch0 sp00) cmdP).2 := hX1
  replace hr : TResV I4 (putM (mch0 sp00) cmdP).1 cells := hr
  replace hM1 : MOk (putM (mch0 sp00) cmdP).2 (0 + 1) := hM1.2.1
  have hP := awakeP
  have hPm := awakeM
  have hG := awakeG
  generalize (putM (mch0 sp00) cmdP).1 = r1 at *
  generalize (putM (mch0 sp00) cmdP).2 = m1 at *
  have hr1 := hr.one
  obtain ⟨y0, y1, rfl, t0, t1⟩ := id hr
  try simp only [SSd, Nat.reduceAdd]
  refine newI (fun q1 => ?_)
  refine stB rfl rfl hr1 ?_
  refine lit1 (c := 97) (fun u3 I5 hI5 hB5 => ?_)
  obtain ⟨a3, k3, rfl⟩ := Bytes.form hB5
  try simp only [SSd, Nat.reduceAdd]
  have e2 := doM1 (m := m1) cmdG_r rfl
  have hfl : fullB m1 cmdG.fKey = false := by unfold fullB; rw [hPm]; rfl
  refine call (Cal.split X1 (apply_spec (c := cmdG) hM1 (by omega) (hX1.mono hI5) ⟨_, _, _, _, rfl, hB5, bnil I5, bnil I5, bnil I5⟩ ⟨by decide, by decide, by decide, by decide⟩ (fun h => by rw [hfl] at h; cases h) (fun h => by cases h) (fun I6 X2 cells2 hI6 hX2 hr2 => ?_)))
  rw [e2] at hX2 hr2 ⊢
  refine ⟨fun _ => ?_, fun m2 b2 X2 h => by cases h⟩
  replace hr2 : TResV I6 (getM m1 cmdG).1 cells2 := hr2
  generalize (getM m1 cmdG).1 = r2 at *
  have hr3 := hr2.one
  obtain ⟨z1, z2, rfl, s0, s1⟩ := id hr2
  try simp only [SSd, Nat.reduceAdd]
  refine newI (fun q2 => ?_)
  refine stB rfl rfl hr3 ?_
  have hI06 := hI1.trans (hI2.trans (hI3.trans (hI4.trans (hI5.trans hI6))))
  rw [hG.2] at s0
  repeat' (first | (with_reducible refine drawC ?_) | (with_reducible refine drawW1 ?_) | (with_reducible refine drawW2 ?_) | (with_reducible refine keepC (by repeat (first | exact Ext.refl _ | assumption | refine Ext.trans ?_ (by assumption))) ?_) | (with_reducible refine newI (fun _ => ?_)) | (with_reducible refine bs_N s0 (Ext.refl _) ?_) | first | (with_reducible refine rdb ?_) | ((with_reducible refine st1 ?_ ?_); rfl) | ((with_reducible refine rdB ?_ ?_); rfl) | (with_reducible refine rdbS ?_) | ((with_reducible refine rdBS ?_ ?_); rfl) | ((with_reducible refine stB ?_ ?_ ?_ ?_); rfl; rfl; exact one_all rfl) | ((with_reducible refine rdP _ rfl ?_ ?_); rfl) | ((with_reducible refine rdPS _ rfl ?_ ?_); rfl) | ((with_reducible refine stP _ rfl ?_ ?_ ?_ ?_); rfl; rfl; rfl) | (with_reducible refine unfE (sh10.eq_1 ..) ?_) | (with_reducible refine And.intro ?_ ?_) | (simp only [Bool.not_true, Bool.not_false, Bool.and_self, Bool.true_and, Int.reduceBEq, Int.reduceBNe, Int.reduceLT, Int.reduceLE, decide_true, decide_false, Br_true, Br_false, Gd_tt, Gd_ft, Gd_tf, Gd_ff, beq_self_eq_true, bne_self_eq_false]) | (with_reducible refine gd_split (fun _ => ?_) (fun _ => ?_)) | (with_reducible refine br_split (fun _ => ?_) (fun _ => ?_)) | (simp only [SSd, Nat.reduceAdd, hP, hG.1]))
  exact Gh.to L (Gh.done (hk I6 hI06))
theorem samecmd_spec {c : TCmd} {ca cb : List Value} (h : TCmdV I c ca) (h' : TCmdV I c cb) (hk : K (.bool true) I L) : Cal Tryz.prog ω 22 #[.agg ca.toArray, .agg cb.toArray] K I L := by
  obtain ⟨w0, w1, w2, w3, rfl, g0, g1, g2, g3⟩ := h
  obtain ⟨x0, x1, x2, x3, rfl, f0, f1, f2, f3⟩ := h'
  refine cal22 ?_
  unfold sh22
  repeat' (first | (with_reducible refine drawC ?_) | (with_reducible refine drawW1 ?_) | (with_reducible refine drawW2 ?_) | (with_reducible refine keepC (by repeat (first | exact Ext.refl _ | assumption | refine Ext.trans ?_ (by assumption))) ?_) | (with_reducible refine newI (fun _ => ?_)) | (with_reducible refine bs_N g0 (Ext.refl _) ?_) | (with_reducible refine bs_N g1 (Ext.refl _) ?_) | (with_reducible refine bs_N g2 (Ext.refl _) ?_) | (with_reducible refine bs_N g3 (Ext.refl _) ?_) | (with_reducible refine bs_N f0 (Ext.refl _) ?_) | (with_reducible refine bs_N f1 (Ext.refl _) ?_) | (with_reducible refine bs_N f2 (Ext.refl _) ?_) | (with_reducible refine bs_N f3 (Ext.refl _) ?_) | first | (with_reducible refine rdb ?_) | ((with_reducible refine st1 ?_ ?_); rfl) | ((with_reducible refine rdB ?_ ?_); rfl) | (with_reducible refine rdbS ?_) | ((with_reducible refine rdBS ?_ ?_); rfl) | ((with_reducible refine stB ?_ ?_ ?_ ?_); rfl; rfl; exact one_all rfl) | ((with_reducible refine rdP _ rfl ?_ ?_); rfl) | ((with_reducible refine rdPS _ rfl ?_ ?_); rfl) | ((with_reducible refine stP _ rfl ?_ ?_ ?_ ?_); rfl; rfl; rfl) | (with_reducible refine unfE (sh22.eq_1 ..) ?_) | (with_reducible refine And.intro ?_ ?_) | (simp only [Bool.not_true, Bool.not_false, Bool.and_self, Bool.true_and, Int.reduceBEq, Int.reduceBNe, Int.reduceLT, Int.reduceLE, decide_true, decide_false, Br_true, Br_false, Gd_tt, Gd_ft, Gd_tf, Gd_ff, beq_self_eq_true, bne_self_eq_false]) | (with_reducible refine gd_split (fun _ => ?_) (fun _ => ?_)) | (with_reducible refine br_split (fun _ => ?_) (fun _ => ?_)) | (simp only [SSd, Nat.reduceAdd, beq_self_eq_true, Bool.and_self]))
  exact Gh.to L (Gh.done hk)
end
end Go.Proofs.YtmmfcgbfbcamcaaGreatDoor
-- S3
set_option linter.unusedSimpArgs false
set_option linter.unusedVariables false
namespace Go.Proofs.YtmmfcgbfbcamcaaGreatDoor
open Go.SL
set_option maxRecDepth 10000
def bareB (c : TCmd) (key span by' yes to most seq : Bool) : Bool := (!key || noText c) && ((!span || noSpan c) && ((!by' || c.fBy == 0) && ((!yes || !c.fYes) && ((!to || noTo c) && ((!most || c.fMost == 0) && (!seq || c.fSeq == 0))))))
theorem leafK {K : Value → M} {I : Imm} {L : LH} {b b' : Bool} (h : K (.bool b) I L) (e : b = b') : K (.bool b') I L := e ▸ h
section
variable {ω : Om} {I : Imm} {L : LH} {K : Value → M}
theorem len_pos {l : List UInt8} : decide ((0 : Int) < (l.length : Int)) = !(l.length == 0) := by
  cases l with
  | nil => rfl
  | cons x l => rw [Bool.eq_iff_iff]; simp
theorem bare_a {c : TCmd} {cc : List Value} (hc : TCmdV I c cc) (hk : K (.bool (bareB c false true true true true true true)) I L) : Cal Tryz.prog ω 70 #[.agg cc.toArray, .bool false, .bool true, .bool true, .bool true, .bool true, .bool true, .bool true] K I L := by
  obtain ⟨w0, w1, w2, w3, rfl, g0, g1, g2, g3⟩ := hc
  refine cal70 ?_
  unfold sh70
  repeat' (first | (with_reducible refine drawC ?_) | (with_reducible refine drawW1 ?_) | (with_reducible refine drawW2 ?_) | (with_reducible refine keepC (by repeat (first | exact Ext.refl _ | assumption | refine Ext.trans ?_ (by assumption))) ?_) | (with_reducible refine newI (fun _ => ?_)) | first | (with_reducible refine rdb ?_) | ((with_reducible refine st1 ?_ ?_); rfl) | ((with_reducible refine rdB ?_ ?_); rfl) | (with_reducible refine rdbS ?_) | ((with_reducible refine rdBS ?_ ?_); rfl) | ((with_reducible refine stB ?_ ?_ ?_ ?_); rfl; rfl; exact one_all rfl) | ((with_reducible refine rdP _ rfl ?_ ?_); rfl) | ((with_reducible refine rdPS _ rfl ?_ ?_); rfl) | ((with_reducible refine stP _ rfl ?_ ?_ ?_ ?_); rfl; rfl; rfl) | (with_reducible refine unfE (sh70.eq_1 ..) ?_) | (with_reducible refine And.intro ?_ ?_) | (simp only [Bool.not_true, Bool.not_false, Bool.and_self, Bool.true_and, Int.reduceBEq, Int.reduceBNe, Int.reduceLT, Int.reduceLE, decide_true, decide_false, Br_true, Br_false, Gd_tt, Gd_ft, Gd_tf, Gd_ff, beq_self_eq_true, bne_self_eq_false]) | (with_reducible refine gd_split (fun _ => ?_) (fun _ => ?_)) | (with_reducible refine br_split (fun _ => ?_) (fun _ => ?_)) | (simp only [SSd, Nat.reduceAdd, Bytes.len g0, Bytes.len g1, Bytes.len g2, Bytes.len g3, len_pos]))
  all_goals (refine Gh.to L (Gh.done (leafK hk ?_)); simp_all [bareB, noText, noSpan, noTo])
theorem bare_b {c : TCmd} {cc : List Value} (hc : TCmdV I c cc) (hk : K (.bool (bareB c true false true true true false true)) I L) : Cal Tryz.prog ω 70 #[.agg cc.toArray, .bool true, .bool false, .bool true, .bool true, .bool true, .bool false, .bool true] K I L := by
  obtain ⟨w0, w1, w2, w3, rfl, g0, g1, g2, g3⟩ := hc
  refine cal70 ?_
  unfold sh70
  repeat' (first | (with_reducible refine drawC ?_) | (with_reducible refine drawW1 ?_) | (with_reducible refine drawW2 ?_) | (with_reducible refine keepC (by repeat (first | exact Ext.refl _ | assumption | refine Ext.trans ?_ (by assumption))) ?_) | (with_reducible refine newI (fun _ => ?_)) | first | (with_reducible refine rdb ?_) | ((with_reducible refine st1 ?_ ?_); rfl) | ((with_reducible refine rdB ?_ ?_); rfl) | (with_reducible refine rdbS ?_) | ((with_reducible refine rdBS ?_ ?_); rfl) | ((with_reducible refine stB ?_ ?_ ?_ ?_); rfl; rfl; exact one_all rfl) | ((with_reducible refine rdP _ rfl ?_ ?_); rfl) | ((with_reducible refine rdPS _ rfl ?_ ?_); rfl) | ((with_reducible refine stP _ rfl ?_ ?_ ?_ ?_); rfl; rfl; rfl) | (with_reducible refine unfE (sh70.eq_1 ..) ?_) | (with_reducible refine And.intro ?_ ?_) | (simp only [Bool.not_true, Bool.not_false, Bool.and_self, Bool.true_and, Int.reduceBEq, Int.reduceBNe, Int.reduceLT, Int.reduceLE, decide_true, decide_false, Br_true, Br_false, Gd_tt, Gd_ft, Gd_tf, Gd_ff, beq_self_eq_true, bne_self_eq_false]) | (with_reducible refine gd_split (fun _ => ?_) (fun _ => ?_)) | (with_reducible refine br_split (fun _ => ?_) (fun _ => ?_)) | (simp only [SSd, Nat.reduceAdd, Bytes.len g0, Bytes.len g1, Bytes.len g2, Bytes.len g3, len_pos]))
  all_goals (refine Gh.to L (Gh.done (leafK hk ?_)); simp_all [bareB, noText, noSpan, noTo])
theorem bare_c {c : TCmd} {cc : List Value} (hc : TCmdV I c cc) (hk : K (.bool (bareB c false true true true true true false)) I L) : Cal Tryz.prog ω 70 #[.agg cc.toArray, .bool false, .bool true, .bool true, .bool true, .bool true, .bool true, .bool false] K I L := by
  obtain ⟨w0, w1, w2, w3, rfl, g0, g1, g2, g3⟩ := hc
  refine cal70 ?_
  unfold sh70
  repeat' (first | (with_reducible refine drawC ?_) | (with_reducible refine drawW1 ?_) | (with_reducible refine drawW2 ?_) | (with_reducible refine keepC (by repeat (first | exact Ext.refl _ | assumption | refine Ext.trans ?_ (by assumption))) ?_) | (with_reducible refine newI (fun _ => ?_)) | first | (with_reducible refine rdb ?_) | ((with_reducible refine st1 ?_ ?_); rfl) | ((with_reducible refine rdB ?_ ?_); rfl) | (with_reducible refine rdbS ?_) | ((with_reducible refine rdBS ?_ ?_); rfl) | ((with_reducible refine stB ?_ ?_ ?_ ?_); rfl; rfl; exact one_all rfl) | ((with_reducible refine rdP _ rfl ?_ ?_); rfl) | ((with_reducible refine rdPS _ rfl ?_ ?_); rfl) | ((with_reducible refine stP _ rfl ?_ ?_ ?_ ?_); rfl; rfl; rfl) | (with_reducible refine unfE (sh70.eq_1 ..) ?_) | (with_reducible refine And.intro ?_ ?_) | (simp only [Bool.not_true, Bool.not_false, Bool.and_self, Bool.true_and, Int.reduceBEq, Int.reduceBNe, Int.reduceLT, Int.reduceLE, decide_true, decide_false, Br_true, Br_false, Gd_tt, Gd_ft, Gd_tf, Gd_ff, beq_self_eq_true, bne_self_eq_false]) | (with_reducible refine gd_split (fun _ => ?_) (fun _ => ?_)) | (with_reducible refine br_split (fun _ => ?_) (fun _ => ?_)) | (simp only [SSd, Nat.reduceAdd, Bytes.len g0, Bytes.len g1, Bytes.len g2, Bytes.len g3, len_pos]))
  all_goals (refine Gh.to L (Gh.done (leafK hk ?_)); simp_all [bareB, noText, noSpan, noTo])
theorem bare_d {c : TCmd} {cc : List Value} (hc : TCmdV I c cc) (hk : K (.bool (bareB c true false true true false true false)) I L) : Cal Tryz.prog ω 70 #[.agg cc.toArray, .bool true, .bool false, .bool true, .bool true, .bool false, .bool true, .bool false] K I L := by
  obtain ⟨w0, w1, w2, w3, rfl, g0, g1, g2, g3⟩ := hc
  refine cal70 ?_
  unfold sh70
  repeat' (first | (with_reducible refine drawC ?_) | (with_reducible refine drawW1 ?_) | (with_reducible refine drawW2 ?_) | (with_reducible refine keepC (by repeat (first | exact Ext.refl _ | assumption | refine Ext.trans ?_ (by assumption))) ?_) | (with_reducible refine newI (fun _ => ?_)) | first | (with_reducible refine rdb ?_) | ((with_reducible refine st1 ?_ ?_); rfl) | ((with_reducible refine rdB ?_ ?_); rfl) | (with_reducible refine rdbS ?_) | ((with_reducible refine rdBS ?_ ?_); rfl) | ((with_reducible refine stB ?_ ?_ ?_ ?_); rfl; rfl; exact one_all rfl) | ((with_reducible refine rdP _ rfl ?_ ?_); rfl) | ((with_reducible refine rdPS _ rfl ?_ ?_); rfl) | ((with_reducible refine stP _ rfl ?_ ?_ ?_ ?_); rfl; rfl; rfl) | (with_reducible refine unfE (sh70.eq_1 ..) ?_) | (with_reducible refine And.intro ?_ ?_) | (simp only [Bool.not_true, Bool.not_false, Bool.and_self, Bool.true_and, Int.reduceBEq, Int.reduceBNe, Int.reduceLT, Int.reduceLE, decide_true, decide_false, Br_true, Br_false, Gd_tt, Gd_ft, Gd_tf, Gd_ff, beq_self_eq_true, bne_self_eq_false]) | (with_reducible refine gd_split (fun _ => ?_) (fun _ => ?_)) | (with_reducible refine br_split (fun _ => ?_) (fun _ => ?_)) | (simp only [SSd, Nat.reduceAdd, Bytes.len g0, Bytes.len g1, Bytes.len g2, Bytes.len g3, len_pos]))
  all_goals (refine Gh.to L (Gh.done (leafK hk ?_)); simp_all [bareB, noText, noSpan, noTo])
theorem bare_e {c : TCmd} {cc : List Value} (hc : TCmdV I c cc) (hk : K (.bool (bareB c true true true true true true false)) I L) : Cal Tryz.prog ω 70 #[.agg cc.toArray, .bool true, .bool true, .bool true, .bool true, .bool true, .bool true, .bool false] K I L := by
  obtain ⟨w0, w1, w2, w3, rfl, g0, g1, g2, g3⟩ := hc
  refine cal70 ?_
  unfold sh70
  repeat' (first | (with_reducible refine drawC ?_) | (with_reducible refine drawW1 ?_) | (with_reducible refine drawW2 ?_) | (with_reducible refine keepC (by repeat (first | exact Ext.refl _ | assumption | refine Ext.trans ?_ (by assumption))) ?_) | (with_reducible refine newI (fun _ => ?_)) | first | (with_reducible refine rdb ?_) | ((with_reducible refine st1 ?_ ?_); rfl) | ((with_reducible refine rdB ?_ ?_); rfl) | (with_reducible refine rdbS ?_) | ((with_reducible refine rdBS ?_ ?_); rfl) | ((with_reducible refine stB ?_ ?_ ?_ ?_); rfl; rfl; exact one_all rfl) | ((with_reducible refine rdP _ rfl ?_ ?_); rfl) | ((with_reducible refine rdPS _ rfl ?_ ?_); rfl) | ((with_reducible refine stP _ rfl ?_ ?_ ?_ ?_); rfl; rfl; rfl) | (with_reducible refine unfE (sh70.eq_1 ..) ?_) | (with_reducible refine And.intro ?_ ?_) | (simp only [Bool.not_true, Bool.not_false, Bool.and_self, Bool.true_and, Int.reduceBEq, Int.reduceBNe, Int.reduceLT, Int.reduceLE, decide_true, decide_false, Br_true, Br_false, Gd_tt, Gd_ft, Gd_tf, Gd_ff, beq_self_eq_true, bne_self_eq_false]) | (with_reducible refine gd_split (fun _ => ?_) (fun _ => ?_)) | (with_reducible refine br_split (fun _ => ?_) (fun _ => ?_)) | (simp only [SSd, Nat.reduceAdd, Bytes.len g0, Bytes.len g1, Bytes.len g2, Bytes.len g3, len_pos]))
  all_goals (refine Gh.to L (Gh.done (leafK hk ?_)); simp_all [bareB, noText, noSpan, noTo])
theorem bare_f {c : TCmd} {cc : List Value} (hc : TCmdV I c cc) (hk : K (.bool (bareB c true true true false true true true)) I L) : Cal Tryz.prog ω 70 #[.agg cc.toArray, .bool true, .bool true, .bool true, .bool false, .bool true, .bool true, .bool true] K I L := by
  obtain ⟨w0, w1, w2, w3, rfl, g0, g1, g2, g3⟩ := hc
  refine cal70 ?_
  unfold sh70
  repeat' (first | (with_reducible refine drawC ?_) | (with_reducible refine drawW1 ?_) | (with_reducible refine drawW2 ?_) | (with_reducible refine keepC (by repeat (first | exact Ext.refl _ | assumption | refine Ext.trans ?_ (by assumption))) ?_) | (with_reducible refine newI (fun _ => ?_)) | first | (with_reducible refine rdb ?_) | ((with_reducible refine st1 ?_ ?_); rfl) | ((with_reducible refine rdB ?_ ?_); rfl) | (with_reducible refine rdbS ?_) | ((with_reducible refine rdBS ?_ ?_); rfl) | ((with_reducible refine stB ?_ ?_ ?_ ?_); rfl; rfl; exact one_all rfl) | ((with_reducible refine rdP _ rfl ?_ ?_); rfl) | ((with_reducible refine rdPS _ rfl ?_ ?_); rfl) | ((with_reducible refine stP _ rfl ?_ ?_ ?_ ?_); rfl; rfl; rfl) | (with_reducible refine unfE (sh70.eq_1 ..) ?_) | (with_reducible refine And.intro ?_ ?_) | (simp only [Bool.not_true, Bool.not_false, Bool.and_self, Bool.true_and, Int.reduceBEq, Int.reduceBNe, Int.reduceLT, Int.reduceLE, decide_true, decide_false, Br_true, Br_false, Gd_tt, Gd_ft, Gd_tf, Gd_ff, beq_self_eq_true, bne_self_eq_false]) | (with_reducible refine gd_split (fun _ => ?_) (fun _ => ?_)) | (with_reducible refine br_split (fun _ => ?_) (fun _ => ?_)) | (simp only [SSd, Nat.reduceAdd, Bytes.len g0, Bytes.len g1, Bytes.len g2, Bytes.len g3, len_pos]))
  all_goals (refine Gh.to L (Gh.done (leafK hk ?_)); simp_all [bareB, noText, noSpan, noTo])
theorem bare_g {c : TCmd} {cc : List Value} (hc : TCmdV I c cc) (hk : K (.bool (bareB c true true false true true true true)) I L) : Cal Tryz.prog ω 70 #[.agg cc.toArray, .bool true, .bool true, .bool false, .bool true, .bool true, .bool true, .bool true] K I L := by
  obtain ⟨w0, w1, w2, w3, rfl, g0, g1, g2, g3⟩ := hc
  refine cal70 ?_
  unfold sh70
  repeat' (first | (with_reducible refine drawC ?_) | (with_reducible refine drawW1 ?_) | (with_reducible refine drawW2 ?_) | (with_reducible refine keepC (by repeat (first | exact Ext.refl _ | assumption | refine Ext.trans ?_ (by assumption))) ?_) | (with_reducible refine newI (fun _ => ?_)) | first | (with_reducible refine rdb ?_) | ((with_reducible refine st1 ?_ ?_); rfl) | ((with_reducible refine rdB ?_ ?_); rfl) | (with_reducible refine rdbS ?_) | ((with_reducible refine rdBS ?_ ?_); rfl) | ((with_reducible refine stB ?_ ?_ ?_ ?_); rfl; rfl; exact one_all rfl) | ((with_reducible refine rdP _ rfl ?_ ?_); rfl) | ((with_reducible refine rdPS _ rfl ?_ ?_); rfl) | ((with_reducible refine stP _ rfl ?_ ?_ ?_ ?_); rfl; rfl; rfl) | (with_reducible refine unfE (sh70.eq_1 ..) ?_) | (with_reducible refine And.intro ?_ ?_) | (simp only [Bool.not_true, Bool.not_false, Bool.and_self, Bool.true_and, Int.reduceBEq, Int.reduceBNe, Int.reduceLT, Int.reduceLE, decide_true, decide_false, Br_true, Br_false, Gd_tt, Gd_ft, Gd_tf, Gd_ff, beq_self_eq_true, bne_self_eq_false]) | (with_reducible refine gd_split (fun _ => ?_) (fun _ => ?_)) | (with_reducible refine br_split (fun _ => ?_) (fun _ => ?_)) | (simp only [SSd, Nat.reduceAdd, Bytes.len g0, Bytes.len g1, Bytes.len g2, Bytes.len g3, len_pos]))
  all_goals (refine Gh.to L (Gh.done (leafK hk ?_)); simp_all [bareB, noText, noSpan, noTo])
theorem bare_h {c : TCmd} {cc : List Value} (hc : TCmdV I c cc) (hk : K (.bool (bareB c true true true true true true true)) I L) : Cal Tryz.prog ω 70 #[.agg cc.toArray, .bool true, .bool true, .bool true, .bool true, .bool true, .bool true, .bool true] K I L := by
  obtain ⟨w0, w1, w2, w3, rfl, g0, g1, g2, g3⟩ := hc
  refine cal70 ?_
  unfold sh70
  repeat' (first | (with_reducible refine drawC ?_) | (with_reducible refine drawW1 ?_) | (with_reducible refine drawW2 ?_) | (with_reducible refine keepC (by repeat (first | exact Ext.refl _ | assumption | refine Ext.trans ?_ (by assumption))) ?_) | (with_reducible refine newI (fun _ => ?_)) | first | (with_reducible refine rdb ?_) | ((with_reducible refine st1 ?_ ?_); rfl) | ((with_reducible refine rdB ?_ ?_); rfl) | (with_reducible refine rdbS ?_) | ((with_reducible refine rdBS ?_ ?_); rfl) | ((with_reducible refine stB ?_ ?_ ?_ ?_); rfl; rfl; exact one_all rfl) | ((with_reducible refine rdP _ rfl ?_ ?_); rfl) | ((with_reducible refine rdPS _ rfl ?_ ?_); rfl) | ((with_reducible refine stP _ rfl ?_ ?_ ?_ ?_); rfl; rfl; rfl) | (with_reducible refine unfE (sh70.eq_1 ..) ?_) | (with_reducible refine And.intro ?_ ?_) | (simp only [Bool.not_true, Bool.not_false, Bool.and_self, Bool.true_and, Int.reduceBEq, Int.reduceBNe, Int.reduceLT, Int.reduceLE, decide_true, decide_false, Br_true, Br_false, Gd_tt, Gd_ft, Gd_tf, Gd_ff, beq_self_eq_true, bne_self_eq_false]) | (with_reducible refine gd_split (fun _ => ?_) (fun _ => ?_)) | (with_reducible refine br_split (fun _ => ?_) (fun _ => ?_)) | (simp only [SSd, Nat.reduceAdd, Bytes.len g0, Bytes.len g1, Bytes.len g2, Bytes.len g3, len_pos]))
  all_goals (refine Gh.to L (Gh.done (leafK hk ?_)); simp_all [bareB, noText, noSpan, noTo])
theorem bare_i {c : TCmd} {cc : List Value} (hc : TCmdV I c cc) (hk : K (.bool (bareB c true false true false true true true)) I L) : Cal Tryz.prog ω 70 #[.agg cc.toArray, .bool true, .bool false, .bool true, .bool false, .bool true, .bool true, .bool true] K I L := by
  obtain ⟨w0, w1, w2, w3, rfl, g0, g1, g2, g3⟩ := hc
  refine cal70 ?_
  unfold sh70
  repeat' (first | (with_reducible refine drawC ?_) | (with_reducible refine drawW1 ?_) | (with_reducible refine drawW2 ?_) | (with_reducible refine keepC (by repeat (first | exact Ext.refl _ | assumption | refine Ext.trans ?_ (by assumption))) ?_) | (with_reducible refine newI (fun _ => ?_)) | first | (with_reducible refine rdb ?_) | ((with_reducible refine st1 ?_ ?_); rfl) | ((with_reducible refine rdB ?_ ?_); rfl) | (with_reducible refine rdbS ?_) | ((with_reducible refine rdBS ?_ ?_); rfl) | ((with_reducible refine stB ?_ ?_ ?_ ?_); rfl; rfl; exact one_all rfl) | ((with_reducible refine rdP _ rfl ?_ ?_); rfl) | ((with_reducible refine rdPS _ rfl ?_ ?_); rfl) | ((with_reducible refine stP _ rfl ?_ ?_ ?_ ?_); rfl; rfl; rfl) | (with_reducible refine unfE (sh70.eq_1 ..) ?_) | (with_reducible refine And.intro ?_ ?_) | (simp only [Bool.not_true, Bool.not_false, Bool.and_self, Bool.true_and, Int.reduceBEq, Int.reduceBNe, Int.reduceLT, Int.reduceLE, decide_true, decide_false, Br_true, Br_false, Gd_tt, Gd_ft, Gd_tf, Gd_ff, beq_self_eq_true, bne_self_eq_false]) | (with_reducible refine gd_split (fun _ => ?_) (fun _ => ?_)) | (with_reducible refine br_split (fun _ => ?_) (fun _ => ?_)) | (simp only [SSd, Nat.reduceAdd, Bytes.len g0, Bytes.len g1, Bytes.len g2, Bytes.len g3, len_pos]))
  all_goals (refine Gh.to L (Gh.done (leafK hk ?_)); simp_all [bareB, noText, noSpan, noTo])
theorem bare_j {c : TCmd} {cc : List Value} (hc : TCmdV I c cc) (hk : K (.bool (bareB c false true false true true true true)) I L) : Cal Tryz.prog ω 70 #[.agg cc.toArray, .bool false, .bool true, .bool false, .bool true, .bool true, .bool true, .bool true] K I L := by
  obtain ⟨w0, w1, w2, w3, rfl, g0, g1, g2, g3⟩ := hc
  refine cal70 ?_
  unfold sh70
  repeat' (first | (with_reducible refine drawC ?_) | (with_reducible refine drawW1 ?_) | (with_reducible refine drawW2 ?_) | (with_reducible refine keepC (by repeat (first | exact Ext.refl _ | assumption | refine Ext.trans ?_ (by assumption))) ?_) | (with_reducible refine newI (fun _ => ?_)) | first | (with_reducible refine rdb ?_) | ((with_reducible refine st1 ?_ ?_); rfl) | ((with_reducible refine rdB ?_ ?_); rfl) | (with_reducible refine rdbS ?_) | ((with_reducible refine rdBS ?_ ?_); rfl) | ((with_reducible refine stB ?_ ?_ ?_ ?_); rfl; rfl; exact one_all rfl) | ((with_reducible refine rdP _ rfl ?_ ?_); rfl) | ((with_reducible refine rdPS _ rfl ?_ ?_); rfl) | ((with_reducible refine stP _ rfl ?_ ?_ ?_ ?_); rfl; rfl; rfl) | (with_reducible refine unfE (sh70.eq_1 ..) ?_) | (with_reducible refine And.intro ?_ ?_) | (simp only [Bool.not_true, Bool.not_false, Bool.and_self, Bool.true_and, Int.reduceBEq, Int.reduceBNe, Int.reduceLT, Int.reduceLE, decide_true, decide_false, Br_true, Br_false, Gd_tt, Gd_ft, Gd_tf, Gd_ff, beq_self_eq_true, bne_self_eq_false]) | (with_reducible refine gd_split (fun _ => ?_) (fun _ => ?_)) | (with_reducible refine br_split (fun _ => ?_) (fun _ => ?_)) | (simp only [SSd, Nat.reduceAdd, Bytes.len g0, Bytes.len g1, Bytes.len g2, Bytes.len g3, len_pos]))
  all_goals (refine Gh.to L (Gh.done (leafK hk ?_)); simp_all [bareB, noText, noSpan, noTo])
theorem rcount_spec {a : Int} (hk : K (.bool (decide (0 ≤ a ∧ a ≤ 9007199254740991))) I L) : Cal Tryz.prog ω 69 #[.int .i64 a] K I L := by
  refine cal69 ?_
  unfold sh69
  repeat' (first | (with_reducible refine drawC ?_) | (with_reducible refine drawW1 ?_) | (with_reducible refine drawW2 ?_) | (with_reducible refine keepC (by repeat (first | exact Ext.refl _ | assumption | refine Ext.trans ?_ (by assumption))) ?_) | (with_reducible refine newI (fun _ => ?_)) | first | (with_reducible refine rdb ?_) | ((with_reducible refine st1 ?_ ?_); rfl) | ((with_reducible refine rdB ?_ ?_); rfl) | (with_reducible refine rdbS ?_) | ((with_reducible refine rdBS ?_ ?_); rfl) | ((with_reducible refine stB ?_ ?_ ?_ ?_); rfl; rfl; exact one_all rfl) | ((with_reducible refine rdP _ rfl ?_ ?_); rfl) | ((with_reducible refine rdPS _ rfl ?_ ?_); rfl) | ((with_reducible refine stP _ rfl ?_ ?_ ?_ ?_); rfl; rfl; rfl) | (with_reducible refine unfE (sh69.eq_1 ..) ?_) | (with_reducible refine And.intro ?_ ?_) | (simp only [Bool.not_true, Bool.not_false, Bool.and_self, Bool.true_and, Int.reduceBEq, Int.reduceBNe, Int.reduceLT, Int.reduceLE, decide_true, decide_false, Br_true, Br_false, Gd_tt, Gd_ft, Gd_tf, Gd_ff, beq_self_eq_true, bne_self_eq_false]) | (with_reducible refine gd_split (fun _ => ?_) (fun _ => ?_)) | (with_reducible refine br_split (fun _ => ?_) (fun _ => ?_)) | (simp only [SSd, Nat.reduceAdd]))
  all_goals (refine Gh.done (leafB hk ?_); simp_all <;> omega)
theorem rtxn14_spec {a : Int} (hk : K (.bool (txnB a)) I L) : Cal Tryz.prog ω 67 #[.int .i64 a] K I L := by
  refine cal67 ?_
  unfold sh67
  exact call (ristxn_spec (Gh.done hk))
theorem rspan14_spec {p : TSpan} {c : List Value} (hp : TSpanV I p c) (hk : K (.bool (spanOk p)) I L) : Cal Tryz.prog ω 45 #[.agg c.toArray] K I L := by
  obtain ⟨v0, v1, rfl, h0, h1⟩ := hp
  refine cal45 ?_
  unfold sh45
  have hb : blt p.fFrom p.fTo = !(blt p.fTo p.fFrom || p.fTo == p.fFrom) := by
    rw [Bool.eq_iff_iff]
    simp only [Bool.not_eq_true', Bool.or_eq_false_iff, beq_eq_false_iff_ne, ne_eq]
    constructor
    · intro h; exact ⟨blt_asymm h, fun e => by rw [e, blt_irrefl] at h; cases h⟩
    · rintro ⟨h2, h3⟩
      cases h4 : blt p.fFrom p.fTo with
      | true => rfl
      | false => exact absurd (blt_total _ _ h2 h4) h3
  repeat' (first | (with_reducible refine drawC ?_) | (with_reducible refine drawW1 ?_) | (with_reducible refine drawW2 ?_) | (with_reducible refine keepC (by repeat (first | exact Ext.refl _ | assumption | refine Ext.trans ?_ (by assumption))) ?_) | (with_reducible refine newI (fun _ => ?_)) | (with_reducible refine bs_N h0 (Ext.refl _) ?_) | (with_reducible refine bs_N h1 (Ext.refl _) ?_) | first | (with_reducible refine rdb ?_) | ((with_reducible refine st1 ?_ ?_); rfl) | ((with_reducible refine rdB ?_ ?_); rfl) | (with_reducible refine rdbS ?_) | ((with_reducible refine rdBS ?_ ?_); rfl) | ((with_reducible refine stB ?_ ?_ ?_ ?_); rfl; rfl; exact one_all rfl) | ((with_reducible refine rdP _ rfl ?_ ?_); rfl) | ((with_reducible refine rdPS _ rfl ?_ ?_); rfl) | ((with_reducible refine stP _ rfl ?_ ?_ ?_ ?_); rfl; rfl; rfl) | (with_reducible refine unfE (sh45.eq_1 ..) ?_) | (with_reducible refine And.intro ?_ ?_) | (simp only [Bool.not_true, Bool.not_false, Bool.and_self, Bool.true_and, Int.reduceBEq, Int.reduceBNe, Int.reduceLT, Int.reduceLE, decide_true, decide_false, Br_true, Br_false, Gd_tt, Gd_ft, Gd_tf, Gd_ff, beq_self_eq_true, bne_self_eq_false]) | (with_reducible refine gd_split (fun _ => ?_) (fun _ => ?_)) | (with_reducible refine br_split (fun _ => ?_) (fun _ => ?_)) | (simp only [SSd, Nat.reduceAdd, Bytes.len h0, Bytes.len h1]))
  all_goals (refine Gh.to L (Gh.done (leafB hk ?_)); simp only [spanOk, hb]; rw [Bool.eq_iff_iff]; simp_all)
  all_goals first | done | (intros; omega) | (intros; exact ⟨by omega, by omega⟩)
set_option maxHeartbeats 4000000 in
theorem rright_kind {c : TCmd} {w0 w1 w2 w3 : Value} {b1 : Nat} (g0 : Bytes I w0 c.fKey) (g1 : Bytes I w1 c.fValue) (g2 : Bytes I w2 c.fSpan.fFrom) (g3 : Bytes I w3 c.fSpan.fTo) (hsq : 0 ≤ c.fSeq ∧ c.fSeq ≤ 9007199254740991)
    {nn : Bool} (hn : nn = (c.fTxn == 0 && noAt c)) (hk : K (.bool (kindOk c)) I L) :
    Br (.bool (c.fKind == 1))
      (sh20_2 ω (pt b1) (.bool false) (.bool (txnB c.fTxn)) (.bool (keyOk c.fKey)) (fun v => Gh (K v)))
      (sh20_3 ω (pt b1) (.bool false) (.bool (txnB c.fTxn)) (.bool (keyOk c.fKey)) (.bool true) (.bool nn) (.int .i64 c.fKind) (fun v => Gh (K v))) I
      ((b1, cmdO c w0 w1 w2 w3) :: L) := by
  have hc : TCmdV I c _ := ⟨w0, w1, w2, w3, rfl, g0, g1, g2, g3⟩
  have h12 : c.fKind = 1 ∨ c.fKind = 2 ∨ c.fKind = 3 ∨ c.fKind = 4 ∨ c.fKind = 5 ∨ c.fKind = 6 ∨ c.fKind = 7 ∨ c.fKind = 8 ∨ c.fKind = 9 ∨ c.fKind = 10 ∨ c.fKind = 11 ∨ (c.fKind < 1 ∨ 11 < c.fKind) := by omega
  rcases h12 with hK | hK | hK | hK | hK | hK | hK | hK | hK | hK | hK | hK
  rotate_right
  · have n1 : c.fKind ≠ 1 := by omega
    have n2 : c.fKind ≠ 2 := by omega
    have n3 : c.fKind ≠ 3 := by omega
    have n4 : c.fKind ≠ 4 := by omega
    have n5 : c.fKind ≠ 5 := by omega
    have n6 : c.fKind ≠ 6 := by omega
    have n7 : c.fKind ≠ 7 := by omega
    have n8 : c.fKind ≠ 8 := by omega
    have n9 : c.fKind ≠ 9 := by omega
    have n10 : c.fKind ≠ 10 := by omega
    have n11 : c.fKind ≠ 11 := by omega
    have hz : kindOk c = false := by unfold kindOk; simp [n1, n2, n3, n4, n5, n6, n7, n8, n9, n10, n11]
    have beq : ∀ n : Int, c.fKind ≠ n → (c.fKind == n) = false := fun n h => by simpa using h
    rw [beq _ n1]
    repeat' (first | (with_reducible refine drawC ?_) | (with_reducible refine drawW1 ?_) | (with_reducible refine drawW2 ?_) | (with_reducible refine keepC (by repeat (first | exact Ext.refl _ | assumption | refine Ext.trans ?_ (by assumption))) ?_) | (with_reducible refine newI (fun _ => ?_)) | first | (with_reducible refine rdb ?_) | ((with_reducible refine st1 ?_ ?_); rfl) | ((with_reducible refine rdB ?_ ?_); rfl) | (with_reducible refine rdbS ?_) | ((with_reducible refine rdBS ?_ ?_); rfl) | ((with_reducible refine stB ?_ ?_ ?_ ?_); rfl; rfl; exact one_all rfl) | ((with_reducible refine rdP _ rfl ?_ ?_); rfl) | ((with_reducible refine rdPS _ rfl ?_ ?_); rfl) | ((with_reducible refine stP _ rfl ?_ ?_ ?_ ?_); rfl; rfl; rfl) | (with_reducible refine unfE (sh20_2.eq_1 ..) ?_) | (with_reducible refine unfE (sh20_3.eq_1 ..) ?_) | (with_reducible refine unfE (sh20.eq_1 ..) ?_) | (with_reducible refine And.intro ?_ ?_) | (simp only [Bool.not_true, Bool.not_false, Bool.and_self, Bool.true_and, Int.reduceBEq, Int.reduceBNe, Int.reduceLT, Int.reduceLE, decide_true, decide_false, Br_true, Br_false, Gd_tt, Gd_ft, Gd_tf, Gd_ff, beq_self_eq_true, bne_self_eq_false]) | (with_reducible refine gd_split (fun _ => ?_) (fun _ => ?_)) | (with_reducible refine br_split (fun _ => ?_) (fun _ => ?_)) | (simp only [SSd, Nat.reduceAdd, beq _ n1, beq _ n2, beq _ n3, beq _ n4, beq _ n5, beq _ n6, beq _ n7, beq _ n8, beq _ n9, beq _ n10, beq _ n11]))
    all_goals (rw [hz] at hk; exact Gh.to L (Gh.done hk))
  all_goals have beq : ∀ n : Int, (c.fKind == n) = (_ == n) := fun n => by rw [hK]
  all_goals rw [beq 1]
  all_goals repeat' (first | (with_reducible refine drawC ?_) | (with_reducible refine drawW1 ?_) | (with_reducible refine drawW2 ?_) | (with_reducible refine keepC (by repeat (first | exact Ext.refl _ | assumption | refine Ext.trans ?_ (by assumption))) ?_) | (with_reducible refine newI (fun _ => ?_)) | ((with_reducible refine call ?_); refine (rtxn14_spec ?_)) | ((with_reducible refine call ?_); with_reducible refine bare_a hc ?_) | ((with_reducible refine call ?_); with_reducible refine bare_b hc ?_) | ((with_reducible refine call ?_); with_reducible refine bare_c hc ?_) | ((with_reducible refine call ?_); with_reducible refine bare_d hc ?_) | ((with_reducible refine call ?_); with_reducible refine bare_e hc ?_) | ((with_reducible refine call ?_); with_reducible refine bare_f hc ?_) | ((with_reducible refine call ?_); with_reducible refine bare_g hc ?_) | ((with_reducible refine call ?_); with_reducible refine bare_h hc ?_) | ((with_reducible refine call ?_); with_reducible refine bare_i hc ?_) | ((with_reducible refine call ?_); with_reducible refine bare_j hc ?_) | first | (with_reducible refine rdb ?_) | ((with_reducible refine st1 ?_ ?_); rfl) | ((with_reducible refine rdB ?_ ?_); rfl) | (with_reducible refine rdbS ?_) | ((with_reducible refine rdBS ?_ ?_); rfl) | ((with_reducible refine stB ?_ ?_ ?_ ?_); rfl; rfl; exact one_all rfl) | ((with_reducible refine rdP _ rfl ?_ ?_); rfl) | ((with_reducible refine rdPS _ rfl ?_ ?_); rfl) | ((with_reducible refine stP _ rfl ?_ ?_ ?_ ?_); rfl; rfl; rfl) | (with_reducible refine unfE (sh20_2.eq_1 ..) ?_) | (with_reducible refine unfE (sh20_3.eq_1 ..) ?_) | (with_reducible refine unfE (sh20.eq_1 ..) ?_) | (with_reducible refine And.intro ?_ ?_) | (simp only [Bool.not_true, Bool.not_false, Bool.and_self, Bool.true_and, Int.reduceBEq, Int.reduceBNe, Int.reduceLT, Int.reduceLE, decide_true, decide_false, Br_true, Br_false, Gd_tt, Gd_ft, Gd_tf, Gd_ff, beq_self_eq_true, bne_self_eq_false]) | (with_reducible refine gd_split (fun _ => ?_) (fun _ => ?_)) | (with_reducible refine br_split (fun _ => ?_) (fun _ => ?_)) | (simp only [SSd, Nat.reduceAdd, beq, Bytes.len g1]))
  all_goals clear beq
  all_goals (refine Gh.to L (Gh.done (leafK hk ?_)); simp_all [kindOk, bareB, noVal, noSpan, noText, noTo, noAt, readerB])
  all_goals first | done | (intros; omega) | (rw [Bool.eq_iff_iff]; simp; omega)
end
end Go.Proofs.YtmmfcgbfbcamcaaGreatDoor
-- S3
set_option linter.unusedSimpArgs false
set_option linter.unusedVariables false
namespace Go.Proofs.YtmmfcgbfbcamcaaGreatDoor
open Go.SL
set_option maxRecDepth 10000
theorem stmB_inj {a b : TStamp} {r s : List UInt8} (ha : rightB a = true) (hb : rightB b = true) (h : stmB a ++ r = stmB b ++ s) : a = b ∧ r = s := by
  have h1 := rightB_max ha
  have h2 := rightB_max hb
  simp only [stmB, List.append_assoc] at h
  obtain ⟨e1, h3⟩ := nB_inj h1.1 h2.1 h
  obtain ⟨e2, h4⟩ := nB_inj h1.2 h2.2 h3
  refine ⟨?_, h4⟩
  obtain ⟨aw, al⟩ := a
  obtain ⟨bw, bl⟩ := b
  simp only at e1 e2
  rw [e1, e2]
theorem bitB_inj {a b : Bool} {r s : List UInt8} (h : bitB a ++ r = bitB b ++ s) : a = b ∧ r = s := by
  obtain ⟨e1, h⟩ := nB_inj (bit_max a) (bit_max b) h
  refine ⟨?_, h⟩
  cases a <;> cases b <;> simp at e1 <;> rfl
theorem txtB_inj {a b : List UInt8} {r s : List UInt8} (ha : a.length ≤ 9007199254740991) (hb : b.length ≤ 9007199254740991) (h : txtB a ++ r = txtB b ++ s) : a = b ∧ r = s := by
  simp only [txtB, List.append_assoc] at h
  obtain ⟨e1, h⟩ := varL_inj 9 a.length b.length _ _ (by omega) (by omega) h
  exact List.append_inj h e1
theorem encB_inj {c d : TCmd} (hc : rightP c = true) (hd : rightP d = true) (h : encB c = encB d) : c = d := by
  have oc := rightP_ok hc
  have od := rightP_ok hd
  have sc := oc.span
  have sd := od.span
  simp only [spanOk, Bool.and_eq_true, decide_eq_true_eq] at sc sd
  have k1 := oc.kind
  have k2 := od.kind
  have m1 := oc.most
  have m2 := od.most
  have y1 := oc.key
  have y2 := od.key
  have v1 := oc.value
  have v2 := od.value
  unfold encB at h
  obtain ⟨e1, h⟩ := nB_inj ⟨by omega, by omega⟩ ⟨by omega, by omega⟩ h
  obtain ⟨e2, h⟩ := nB_inj oc.txn od.txn h
  obtain ⟨e3, h⟩ := nB_inj oc.seq od.seq h
  obtain ⟨e4, h⟩ := nB_inj oc.by' od.by' h
  obtain ⟨e5, h⟩ := nB_inj ⟨m1.1, by omega⟩ ⟨m2.1, by omega⟩ h
  obtain ⟨e6, h⟩ := stmB_inj oc.at' od.at' h
  obtain ⟨e7, h⟩ := stmB_inj oc.to od.to h
  obtain ⟨e8, h⟩ := bitB_inj h
  obtain ⟨e9, h⟩ := bitB_inj h
  obtain ⟨e10, h⟩ := txtB_inj (by omega) (by omega) h
  obtain ⟨e11, h⟩ := txtB_inj (by omega) (by omega) h
  obtain ⟨e12, h⟩ := txtB_inj (by omega) (by omega) h
  obtain ⟨e13, h⟩ := txtB_inj (a := c.fSpan.fTo) (b := d.fSpan.fTo) (r := []) (s := []) (by omega) (by omega) (by simpa using h)
  obtain ⟨a1, a2, a3, a4, a5, a6, a7, a8, a9, a10, ⟨a11, a12⟩, a13⟩ := c
  obtain ⟨b1, b2, b3, b4, b5, b6, b7, b8, b9, b10, ⟨b11, b12⟩, b13⟩ := d
  simp only at e1 e2 e3 e4 e5 e6 e7 e8 e9 e10 e11 e12 e13
  subst e1 e2 e3 e4 e5 e6 e7 e8 e9 e10 e11 e12 e13
  rfl
section
variable {ω : Om} {I : Imm} {L : LH} {K : Value → M}
set_option maxHeartbeats 4000000 in
theorem rright_kindF {c : TCmd} {w0 w1 w2 w3 : Value} {b1 : Nat} (g0 : Bytes I w0 c.fKey) (g1 : Bytes I w1 c.fValue) (g2 : Bytes I w2 c.fSpan.fFrom) (g3 : Bytes I w3 c.fSpan.fTo) (hsq : ¬ c.fSeq = 0)
    {nn : Bool} (hn : nn = (c.fTxn == 0 && noAt c)) (hk : K (.bool false) I L) :
    Br (.bool (c.fKind == 1))
      (sh20_2 ω (pt b1) (.bool false) (.bool (txnB c.fTxn)) (.bool (keyOk c.fKey)) (fun v => Gh (K v)))
      (sh20_3 ω (pt b1) (.bool false) (.bool (txnB c.fTxn)) (.bool (keyOk c.fKey)) (.bool false) (.bool nn) (.int .i64 c.fKind) (fun v => Gh (K v))) I
      ((b1, cmdO c w0 w1 w2 w3) :: L) := by
  have hc : TCmdV I c _ := ⟨w0, w1, w2, w3, rfl, g0, g1, g2, g3⟩
  have h12 : c.fKind = 1 ∨ c.fKind = 2 ∨ c.fKind = 3 ∨ c.fKind = 4 ∨ c.fKind = 5 ∨ c.fKind = 6 ∨ c.fKind = 7 ∨ c.fKind = 8 ∨ c.fKind = 9 ∨ c.fKind = 10 ∨ c.fKind = 11 ∨ (c.fKind < 1 ∨ 11 < c.fKind) := by omega
  rcases h12 with hK | hK | hK | hK | hK | hK | hK | hK | hK | hK | hK | hK
  rotate_right
  · have n1 : c.fKind ≠ 1 := by omega
    have n2 : c.fKind ≠ 2 := by omega
    have n3 : c.fKind ≠ 3 := by omega
    have n4 : c.fKind ≠ 4 := by omega
    have n5 : c.fKind ≠ 5 := by omega
    have n6 : c.fKind ≠ 6 := by omega
    have n7 : c.fKind ≠ 7 := by omega
    have n8 : c.fKind ≠ 8 := by omega
    have n9 : c.fKind ≠ 9 := by omega
    have n10 : c.fKind ≠ 10 := by omega
    have n11 : c.fKind ≠ 11 := by omega
    have beq : ∀ n : Int, c.fKind ≠ n → (c.fKind == n) = false := fun n h => by simpa using h
    rw [beq _ n1]
    repeat' (first | (with_reducible refine drawC ?_) | (with_reducible refine drawW1 ?_) | (with_reducible refine drawW2 ?_) | (with_reducible refine keepC (by repeat (first | exact Ext.refl _ | assumption | refine Ext.trans ?_ (by assumption))) ?_) | (with_reducible refine newI (fun _ => ?_)) | first | (with_reducible refine rdb ?_) | ((with_reducible refine st1 ?_ ?_); rfl) | ((with_reducible refine rdB ?_ ?_); rfl) | (with_reducible refine rdbS ?_) | ((with_reducible refine rdBS ?_ ?_); rfl) | ((with_reducible refine stB ?_ ?_ ?_ ?_); rfl; rfl; exact one_all rfl) | ((with_reducible refine rdP _ rfl ?_ ?_); rfl) | ((with_reducible refine rdPS _ rfl ?_ ?_); rfl) | ((with_reducible refine stP _ rfl ?_ ?_ ?_ ?_); rfl; rfl; rfl) | (with_reducible refine unfE (sh20_2.eq_1 ..) ?_) | (with_reducible refine unfE (sh20_3.eq_1 ..) ?_) | (with_reducible refine unfE (sh20.eq_1 ..) ?_) | (with_reducible refine And.intro ?_ ?_) | (simp only [Bool.not_true, Bool.not_false, Bool.and_self, Bool.true_and, Int.reduceBEq, Int.reduceBNe, Int.reduceLT, Int.reduceLE, decide_true, decide_false, Br_true, Br_false, Gd_tt, Gd_ft, Gd_tf, Gd_ff, beq_self_eq_true, bne_self_eq_false]) | (with_reducible refine gd_split (fun _ => ?_) (fun _ => ?_)) | (with_reducible refine br_split (fun _ => ?_) (fun _ => ?_)) | (simp only [SSd, Nat.reduceAdd, beq _ n1, beq _ n2, beq _ n3, beq _ n4, beq _ n5, beq _ n6, beq _ n7, beq _ n8, beq _ n9, beq _ n10, beq _ n11]))
    all_goals exact Gh.to L (Gh.done hk)
  all_goals have beq : ∀ n : Int, (c.fKind == n) = (_ == n) := fun n => by rw [hK]
  all_goals rw [beq 1]
  all_goals repeat' (first | (with_reducible refine drawC ?_) | (with_reducible refine drawW1 ?_) | (with_reducible refine drawW2 ?_) | (with_reducible refine keepC (by repeat (first | exact Ext.refl _ | assumption | refine Ext.trans ?_ (by assumption))) ?_) | (with_reducible refine newI (fun _ => ?_)) | ((with_reducible refine call ?_); refine (rtxn14_spec ?_)) | ((with_reducible refine call ?_); with_reducible refine bare_a hc ?_) | ((with_reducible refine call ?_); with_reducible refine bare_b hc ?_) | ((with_reducible refine call ?_); with_reducible refine bare_c hc ?_) | ((with_reducible refine call ?_); with_reducible refine bare_d hc ?_) | ((with_reducible refine call ?_); with_reducible refine bare_e hc ?_) | ((with_reducible refine call ?_); with_reducible refine bare_f hc ?_) | ((with_reducible refine call ?_); with_reducible refine bare_g hc ?_) | ((with_reducible refine call ?_); with_reducible refine bare_h hc ?_) | ((with_reducible refine call ?_); with_reducible refine bare_i hc ?_) | ((with_reducible refine call ?_); with_reducible refine bare_j hc ?_) | first | (with_reducible refine rdb ?_) | ((with_reducible refine st1 ?_ ?_); rfl) | ((with_reducible refine rdB ?_ ?_); rfl) | (with_reducible refine rdbS ?_) | ((with_reducible refine rdBS ?_ ?_); rfl) | ((with_reducible refine stB ?_ ?_ ?_ ?_); rfl; rfl; exact one_all rfl) | ((with_reducible refine rdP _ rfl ?_ ?_); rfl) | ((with_reducible refine rdPS _ rfl ?_ ?_); rfl) | ((with_reducible refine stP _ rfl ?_ ?_ ?_ ?_); rfl; rfl; rfl) | (with_reducible refine unfE (sh20_2.eq_1 ..) ?_) | (with_reducible refine unfE (sh20_3.eq_1 ..) ?_) | (with_reducible refine unfE (sh20.eq_1 ..) ?_) | (with_reducible refine And.intro ?_ ?_) | (simp only [Bool.not_true, Bool.not_false, Bool.and_self, Bool.true_and, Int.reduceBEq, Int.reduceBNe, Int.reduceLT, Int.reduceLE, decide_true, decide_false, Br_true, Br_false, Gd_tt, Gd_ft, Gd_tf, Gd_ff, beq_self_eq_true, bne_self_eq_false]) | (with_reducible refine gd_split (fun _ => ?_) (fun _ => ?_)) | (with_reducible refine br_split (fun _ => ?_) (fun _ => ?_)) | (simp only [SSd, Nat.reduceAdd, beq, Bytes.len g1]))
  all_goals clear beq
  all_goals (refine Gh.to L (Gh.done (leafK hk ?_)); simp_all [bareB, noVal, noSpan, noText, noTo, noAt, readerB])
  all_goals first | done | (intros; omega) | (rw [Bool.eq_iff_iff]; simp; omega)
theorem rright14_spec {c : TCmd} {cc : List Value} (hc : TCmdV I c cc) (hk : K (.bool (rightP c)) I L) : Cal Tryz.prog ω 20 #[.agg cc.toArray] K I L := by
  obtain ⟨w0, w1, w2, w3, rfl, g0, g1, g2, g3⟩ := hc
  obtain ⟨y0, z0', rfl⟩ := Bytes.form g0
  obtain ⟨y1, z1, rfl⟩ := Bytes.form g1
  obtain ⟨y2, z2, rfl⟩ := Bytes.form g2
  obtain ⟨y3, z3, rfl⟩ := Bytes.form g3
  refine cal20 ?_
  unfold sh20
  refine newI (fun b1 => ?_)
  try simp only [SSd, Nat.reduceAdd]
  refine rdP [.int .i64 c.fAt.fWall, .int .i64 c.fAt.fLogic] rfl rfl ?_
  refine call (rright_spec (x := c.fAt) ?_)
  try simp only [SSd, Nat.reduceAdd]
  refine rdP [.int .i64 c.fTo.fWall, .int .i64 c.fTo.fLogic] rfl rfl ?_
  refine call (rright_spec (x := c.fTo) ?_)
  try simp only [SSd, Nat.reduceAdd]
  refine rdb ?_
  refine call (rtxn14_spec ?_)
  try simp only [SSd, Nat.reduceAdd]
  refine rdb ?_
  refine call (riskey_spec g0 ?_)
  try simp only [SSd, Nat.reduceAdd]
  refine rdP _ rfl rfl ?_
  refine call (rspan14_spec (p := c.fSpan) ⟨_, _, rfl, g2, g3⟩ ?_)
  try simp only [SSd, Nat.reduceAdd]
  refine rdb ?_
  refine call (rcount_spec ?_)
  try simp only [SSd, Nat.reduceAdd]
  refine gd_split (fun e1 => ?_) (fun e1 => ?_)
  rotate_left
  · exact Gh.to L (Gh.done (leafB hk (by simp_all [rightP])))
  try simp only [SSd, Nat.reduceAdd]
  refine gd_split (fun e2 => ?_) (fun e2 => ?_)
  rotate_left
  · exact Gh.to L (Gh.done (leafB hk (by simp_all [rightP])))
  try simp only [SSd, Nat.reduceAdd]
  refine br_split (fun e3 => ?_) (fun e3 => ?_)
  · exact Gh.to L (Gh.done (leafB hk (by simp_all [rightP])))
  have e1' : rightB c.fAt = true := by simpa using e1
  have e2' : rightB c.fTo = true := by simpa using e2
  have e3' : spanOk c.fSpan = true := by simpa using e3
  have hz : rightP c = (decide (0 ≤ c.fSeq ∧ c.fSeq ≤ 9007199254740991) && kindOk c) := by unfold rightP; rw [e1', e2', e3']; rfl
  rw [hz] at hk
  have fin : ∀ nn : Bool, nn = (c.fTxn == 0 && noAt c) → Br (.bool (c.fKind == 1))
      (sh20_2 ω (pt b1) (.bool false) (.bool (txnB c.fTxn)) (.bool (keyOk c.fKey)) (fun v => Gh (K v)))
      (sh20_3 ω (pt b1) (.bool false) (.bool (txnB c.fTxn)) (.bool (keyOk c.fKey)) (.bool (decide (0 ≤ c.fSeq ∧ c.fSeq ≤ 9007199254740991))) (.bool nn) (.int .i64 c.fKind) (fun v => Gh (K v))) I
      ((b1, cmdO c (.slice y0 c.fKey.length z0') (.slice y1 c.fValue.length z1) (.slice y2 c.fSpan.fFrom.length z2) (.slice y3 c.fSpan.fTo.length z3)) :: L) := by
    intro nn hn
    by_cases hs : 0 ≤ c.fSeq ∧ c.fSeq ≤ 9007199254740991
    · rw [decide_eq_true hs] at hk ⊢
      exact rright_kind g0 g1 g2 g3 hs hn hk
    · rw [decide_eq_false hs] at hk ⊢
      exact rright_kindF g0 g1 g2 g3 (by omega) hn hk
  refine rdb ?_
  try simp only [SSd, Nat.reduceAdd]
  refine gd_split (fun e4 => ?_) (fun e4 => ?_)
  · try simp only [SSd, Nat.reduceAdd]
    refine rdP [.int .i64 c.fAt.fWall, .int .i64 c.fAt.fLogic] rfl rfl ?_
    try simp only [SSd, Nat.reduceAdd]
    refine rdb ?_
    try simp only [SSd, Nat.reduceAdd]
    exact fin _ (by unfold noAt; rw [e4, Bool.true_and])
  · try simp only [SSd, Nat.reduceAdd]
    refine rdb ?_
    try simp only [SSd, Nat.reduceAdd]
    exact fin _ (by have : (c.fTxn == 0) = false := by simpa using e4
                    rw [this, Bool.false_and])
theorem writes_walk {c : TCmd} {cc : List Value} (hc : TCmdV I c cc) (hL : Lens c) (hk : ∀ I', Ext I I' → K (.bool true) I' L) : Cal Tryz.prog ω 5 #[.agg cc.toArray] K I L := by
  have hc' := hc
  obtain ⟨w0, w1, w2, w3, rfl, g0, g1, g2, g3⟩ := hc
  refine cal5 ?_
  unfold sh5
  refine newI (fun b1 => ?_)
  refine call (awake_spec (fun I1 hI1 => ?_))
  refine rdB rfl ?_
  refine call (encode_spec (hc'.mono hI1) hL (fun hr => ?_) (fun hr u I2 hI2 hU => ?_))
  · try simp only [SSd, Nat.reduceAdd]
    refine rdB rfl ?_
    refine call (rright14_spec (hc'.mono hI1) ?_)
    simp only [hr, Bool.not_false, beq_self_eq_true, SSd, Nat.reduceAdd]
    exact Gh.to L (Gh.done (hk I1 hI1))
  · have hl := encB_len hr
    try simp only [SSd, Nat.reduceAdd]
    refine rdB rfl ?_
    refine call (rright14_spec (hc'.mono (hI1.trans hI2)) ?_)
    simp only [hr, Bool.not_true, SSd, Nat.reduceAdd]
    refine call (decode_spec hU (by omega) (fun d cells I3 hI3 hD hr' he => ?_) (fun I3 hI3 hno => absurd rfl (hno c hr)))
    obtain rfl := encB_inj hr' hr he
    have hdo := hD.one
    obtain ⟨x0, x1, x2, x3, rfl, f0, f1, f2, f3⟩ := id hD
    try simp only [SSd, Nat.reduceAdd]
    refine newI (fun b2 => ?_)
    refine stB rfl rfl hdo ?_
    refine rdB rfl ?_
    refine rdB rfl ?_
    refine call (samecmd_spec (hc'.mono (hI1.trans (hI2.trans hI3))) hD ?_)
    have hlt : decide (((encB d).length : Int) ≤ 12000) = true := by simp; omega
    repeat' (first | (with_reducible refine drawC ?_) | (with_reducible refine drawW1 ?_) | (with_reducible refine drawW2 ?_) | (with_reducible refine keepC (by repeat (first | exact Ext.refl _ | assumption | refine Ext.trans ?_ (by assumption))) ?_) | (with_reducible refine newI (fun _ => ?_)) | first | (with_reducible refine rdb ?_) | ((with_reducible refine st1 ?_ ?_); rfl) | ((with_reducible refine rdB ?_ ?_); rfl) | (with_reducible refine rdbS ?_) | ((with_reducible refine rdBS ?_ ?_); rfl) | ((with_reducible refine stB ?_ ?_ ?_ ?_); rfl; rfl; exact one_all rfl) | ((with_reducible refine rdP _ rfl ?_ ?_); rfl) | ((with_reducible refine rdPS _ rfl ?_ ?_); rfl) | ((with_reducible refine stP _ rfl ?_ ?_ ?_ ?_); rfl; rfl; rfl) | (with_reducible refine unfE (sh5.eq_1 ..) ?_) | (with_reducible refine And.intro ?_ ?_) | (simp only [Bool.not_true, Bool.not_false, Bool.and_self, Bool.true_and, Int.reduceBEq, Int.reduceBNe, Int.reduceLT, Int.reduceLE, decide_true, decide_false, Br_true, Br_false, Gd_tt, Gd_ft, Gd_tf, Gd_ff, beq_self_eq_true, bne_self_eq_false]) | (with_reducible refine gd_split (fun _ => ?_) (fun _ => ?_)) | (with_reducible refine br_split (fun _ => ?_) (fun _ => ?_)) | (simp only [SSd, Nat.reduceAdd, Bytes.len hU, hlt, beq_self_eq_true]))
    exact Gh.to L (Gh.done (hk I3 (hI1.trans (hI2.trans hI3))))
end
theorem lens_of {c : TCmd} (h : TCmdB reachBytes c) : Lens c := by
  have e : reachBytes = 140737488351232 := by rfl
  obtain ⟨_, _, _, _, _, _, h1, h2, ⟨h3, h4⟩, _⟩ := h
  exact ⟨by omega, by omega, by omega, by omega⟩
theorem writes_walk2 {W : World} {base : Nat} {v0 : Value} (o0 : Value.okWide Tryz.prog W .any base 56 v0) (t0 : Tr Tryz.prog W 56 v0.cells.toList) (ω : Om) :
    Cal Tryz.prog ω 5 #[v0] (fun v I' _ => v = .bool true ∧ Ext (heapI W) I') (heapI W) [] := by
  obtain ⟨cs, rfl, t⟩ := top_struct Tryz.underlying56 o0 t0
  obtain ⟨c, hB, hV⟩ := TCmd_open t
  exact writes_walk hV (lens_of hB) (fun I' hI => ⟨rfl, hI⟩)
end Go.Proofs.YtmmfcgbfbcamcaaGreatDoor
