/-
  Answers compared; a step played both ways.
-/
-- S3
import Derived.Test.YtmnnnoinfhiilaaDoorRA
set_option linter.unusedSimpArgs false
set_option linter.unusedVariables false
namespace Go.Proofs.YtmnnnoinfhiilaaDoor
open Go.SL
set_option maxRecDepth 10000
section
variable {ω : Om} {I : Imm} {L : LH} {K : Value → M}
theorem samegot_spec {g h : TGot} {v w : Value} (hv : Bytes I v g.fValue) (hw : Bytes I w h.fValue) (hk : ∀ t : Bool, (g = h → t = true) → K (.bool t) I L) : Cal Tryd.prog ω 18 #[gvV g v, gvV h w] K I L := by
  obtain ⟨va, vc, rfl⟩ := Bytes.form hv
  obtain ⟨wa, wc, rfl⟩ := Bytes.form hw
  refine cal18 ?_
  unfold sh18
  repeat' (first | (with_reducible refine drawC ?_) | (with_reducible refine drawW1 ?_) | (with_reducible refine drawW2 ?_) | (with_reducible refine keepC (by repeat (first | exact Ext.refl _ | assumption | refine Ext.trans ?_ (by assumption))) ?_) | (with_reducible refine newI (fun _ => ?_)) | (refine bs_N hv (Ext.refl _) ?_) | (refine bs_N hw (Ext.refl _) ?_) | first | (with_reducible refine rdb ?_) | ((with_reducible refine st1 ?_ ?_); rfl) | ((with_reducible refine rdB ?_ ?_); rfl) | (with_reducible refine rdbS ?_) | ((with_reducible refine rdBS ?_ ?_); rfl) | ((with_reducible refine stB ?_ ?_ ?_ ?_); rfl; rfl; exact one_all rfl) | ((with_reducible refine rdP _ rfl ?_ ?_); rfl) | ((with_reducible refine rdPS _ rfl ?_ ?_); rfl) | ((with_reducible refine stP _ rfl ?_ ?_ ?_ ?_); rfl; rfl; rfl) | (with_reducible refine unfE (sh18.eq_1 ..) ?_) | (with_reducible refine And.intro ?_ ?_) | (simp only [Bool.not_true, Bool.not_false, Bool.and_self, Bool.true_and, Int.reduceBEq, Int.reduceBNe, Int.reduceLT, Int.reduceLE, decide_true, decide_false, Br_true, Br_false, Gd_tt, Gd_ft, Gd_tf, Gd_ff, beq_self_eq_true, bne_self_eq_false]) | (with_reducible refine gd_split (fun _ => ?_) (fun _ => ?_)) | (with_reducible refine br_split (fun _ => ?_) (fun _ => ?_)) | (simp only [SSd, Nat.reduceAdd, sEq]))
  all_goals (refine Gh.to L (Gh.done (hk _ ?_)); rintro rfl; simp_all)
theorem samerows_spec {L0 : LH} [LSub L0 L] {a b : List TKV} {v w : Value} (ha : RL TKVV 2 I L0 v a) (hb : RL TKVV 2 I L0 w b) (hl : a.length ≤ 1000000000) (hk : ∀ t : Bool, (a = b → t = true) → K (.bool t) I L) : Cal Tryd.prog ω 14 #[v, w] K I L := by
  refine cal14 ?_
  unfold sh14
  simp only [RL.len ha, RL.len hb, SSd, Nat.reduceAdd]
  refine br_split (fun e => ?_) (fun e => ?_)
  · exact Gh.done (hk false (fun h => by rw [h] at e; simp at e))
  have hlen : a.length = b.length := by simp at e; omega
  refine loop (fun n s I' L' => I' = I ∧ L' = L ∧ ∃ i : Nat, n + i = a.length ∧ s = (.bool false, .int .i64 i, ())) a.length ⟨rfl, rfl, 0, rfl, rfl⟩ ?_
  rintro n s I' L' ⟨rfl, rfl, i, hni, rfl⟩
  unfold sh14_1
  simp only [RL.len ha, SSd, Nat.reduceAdd]
  refine br_split (fun e2 => ?_) (fun e2 => Gh.done (hk true (fun _ => rfl)))
  have hi : i < a.length := by simpa using e2
  obtain ⟨q, off, c, hix, hcl, hc, hcc⟩ := RL.ix ha (i := (i : Int)) (by omega) (by omega)
  obtain ⟨q2, off2, c2, hix2, hcl2, hc2, hcc2⟩ := RL.ix hb (i := (i : Int)) (by omega) (by omega)
  rw [geti_nat hi] at hc
  rw [geti_nat (by omega)] at hc2
  have hne : a[i] ≠ b[i] → a ≠ b := fun h e => h (by subst e; rfl)
  generalize a[i] = x at *
  generalize b[i] = y at *
  obtain ⟨w0, w1, rfl, g0, g1⟩ := hc
  obtain ⟨u0, u1, rfl, f0, f1⟩ := hc2
  have hcv := hcc I' L0 (Ext.refl _) (fun _ h => h)
  have hcu := hcc2 I' L0 (Ext.refl _) (fun _ h => h)
  refine drawC ?_
  simp only [hix, SSd, Nat.reduceAdd]
  refine rdCS (hcv 0 _ rfl) (Ext.refl _) ?_
  refine bs_I g0 (Ext.refl _) ?_
  simp only [hix2, SSd, Nat.reduceAdd]
  refine rdCS (hcu 0 _ rfl) (Ext.refl _) ?_
  refine bs_I f0 (Ext.refl _) ?_
  simp only [sNe, SSd, Nat.reduceAdd]
  refine gd_split (fun e3 => ?_) (fun e3 => Gh.done (hk false (fun h => absurd h (hne (fun e => by subst e; simp at e3)))))
  try simp only [SSd, Nat.reduceAdd]
  refine rdCS (hcv 1 _ rfl) (Ext.refl _) ?_
  refine bs_I g1 (Ext.refl _) ?_
  try simp only [SSd, Nat.reduceAdd]
  refine rdCS (hcu 1 _ rfl) (Ext.refl _) ?_
  refine bs_I f1 (Ext.refl _) ?_
  simp only [sNe, SSd, Nat.reduceAdd]
  refine br_split (fun e4 => Gh.done (hk false (fun h => absurd h (hne (fun e => by subst e; simp at e4))))) (fun e4 => ?_)
  try simp only [SSd, Nat.reduceAdd]
  rw [wrap_i64 _ (by omega)]
  exact Gh.done ⟨n - 1, by omega, rfl, rfl, i + 1, by omega, rfl⟩
/-! ### Both spaces -/
def stepS (sp : Sp) (x : TStep) : Sp := if x.fDo = 0 then putS sp x.fX else if x.fDo = 1 then resS sp x.fX.fKey x.fX.fTxn x.fYes x.fX.fAt else if x.fDo = 5 then colS sp x.fX.fAt else sp
def stepN (sp : Sp) (x : TStep) (nt : Nts) : Nts := if x.fDo = 0 then putN sp x.fX nt else if x.fDo = 1 then resN sp x.fX.fKey x.fX.fTxn x.fYes x.fX.fAt nt else if x.fDo = 5 then colN sp x.fX.fAt nt else nt
theorem SpOk.step {sp : Sp} (h : SpOk sp) (x : TStep) : SpOk (stepS sp x) := by
  unfold stepS
  split
  · exact h.put
  · split
    · exact h.res
    · split
      · exact h.col
      · exact h
theorem step_len {sp : Sp} (h : SpOk sp) (x : TStep) : (stepS sp x).rows.length ≤ sp.rows.length + 1 ∧ versN (stepS sp x).rows ≤ versN sp.rows + 1 := by
  unfold stepS
  split
  · have := put_len (x := x.fX) h; omega
  · split
    · have := res_len (k := x.fX.fKey) (txn := x.fX.fTxn) (yes := x.fYes) (a := x.fX.fAt) h; omega
    · split
      · have := col_len (sp := sp) (b := x.fX.fAt); omega
      · omega
theorem vs_le {rows : List Row} {n : Nat} (h : versN rows ≤ n) : ∀ r ∈ rows, r.vs.length ≤ n := fun r hr => by
  have h1 : versN [r] ≤ versN rows := versN_sub (List.singleton_sublist.2 hr)
  simp [versN] at h1 h ⊢; omega
def Both (I : Imm) (b br : Nat) (L : LH) (sp : Sp) (nt : Nts) (F : LH) : Prop := ∃ X vV vI, L.Perm (X ++ ((br, refO vV vI sp.floor) :: F)) ∧ SpR I b X sp nt ∧ RL TVersionV 5 I [] vV (versOf sp.rows) ∧ RL TIntentV 6 I [] vI (intsOf sp.rows)
theorem RL.monoI {α : Type} {R : Imm → α → List Value → Prop} {n : Nat} {I I' : Imm} {v : Value} {xs : List α} (hR : ∀ x c, R I x c → R I' x c) (h : RL R n I [] v xs) (hI : Ext I I') : RL R n I' [] v xs := h.mono hR hI (fun _ h => h)
theorem Both.mono {I' : Imm} {b br : Nat} {sp : Sp} {nt : Nts} {F : LH} (h : Both I b br L sp nt F) (hI : Ext I I') : Both I' b br L sp nt F := by
  obtain ⟨X, vV, vI, h1, h2, h3, h4⟩ := h
  exact ⟨X, vV, vI, h1, h2.mono hI, RL.monoI (fun x c h => h.mono hI) h3 hI, RL.monoI (fun x c h => h.mono hI) h4 hI⟩
theorem play_spec {b br : Nat} {sp : Sp} {nt : Nts} {F : LH} {x : TStep} {c : List Value} (h : Both I b br L sp nt F) (hok : SpOk sp) (hlen : sp.rows.length ≤ 100000000) (hn : versN sp.rows ≤ 100000000) (hx : TStepV I x c)
    (hk : ∀ I' L', Ext I I' → Both I' b br L' (stepS sp x) (stepN sp x nt) F → K (.bool true) I' L') : Cal Tryd.prog ω 15 #[pt b, pt br, .agg c.toArray] K I L := by
  obtain ⟨X, vV, vI, hp, hS, h3, h4⟩ := h
  have hs := hok.rise
  have hvs := vs_le hn
  have hvs9 : ∀ r ∈ sp.rows, r.vs.length ≤ 1000000000 := fun r hr => Nat.le_trans (hvs r hr) (by decide)
  obtain ⟨w0, w1, w2, w3, rfl, g0, g1, g2, g3⟩ := hx
  obtain ⟨a0, c0, rfl⟩ := Bytes.form g0
  obtain ⟨a1, c1, rfl⟩ := Bytes.form g1
  obtain ⟨a2, c2, rfl⟩ := Bytes.form g2
  obtain ⟨a3, c3, rfl⟩ := Bytes.form g3
  have keep : ∀ {I' : Imm} (hI : Ext I I') (L' : LH) [SubP (X ++ ((br, refO vV vI sp.floor) :: F)) L'], stepS sp x = sp → stepN sp x nt = nt → Gh (K (.bool true)) I' L' := fun hI L' _ e1 e2 =>
    Gh.to (X ++ ((br, refO vV vI sp.floor) :: F)) (Gh.done (hk _ _ hI (by rw [e1, e2]; exact ⟨X, vV, vI, List.Perm.refl _, hS.mono hI, RL.monoI (fun x c h => h.mono hI) h3 hI, RL.monoI (fun x c h => h.mono hI) h4 hI⟩)))
  refine Cal.perm hp ?_
  refine cal15 ?_
  unfold sh15
  refine newI (fun bx => ?_)
  try simp only [SSd, Nat.reduceAdd]
  refine rdb ?_
  try simp only [SSd, Nat.reduceAdd]
  have hxI : ∀ {I' : Imm}, Ext I I' → TIntentV I' x.fX (itV (.slice a0 x.fX.fKey.length c0) (.slice a1 x.fX.fValue.length c1) x.fX) := fun hI => ⟨_, _, rfl, g0.mono hI, g1.mono hI⟩
  have hxP : ∀ {I' : Imm}, Ext I I' → TSpanV I' x.fP [.slice a2 x.fP.fFrom.length c2, .slice a3 x.fP.fTo.length c3] := fun hI => ⟨_, _, rfl, g2.mono hI, g3.mono hI⟩
  refine br_split (fun e => ?_) (fun e => ?_)
  · have e0 : x.fDo = 0 := by simpa using e
    have es : stepS sp x = putS sp x.fX := by unfold stepS; rw [if_pos e0]
    have en : stepN sp x nt = putN sp x.fX nt := by unfold stepN; rw [if_pos e0]
    rw [es, en] at hk
    try simp only [SSd, Nat.reduceAdd]
    refine rdP (itV (.slice a0 x.fX.fKey.length c0) (.slice a1 x.fX.fValue.length c1) x.fX) rfl rfl ?_
    refine call (Cal.split X ?_)
    refine put_spec hS hok hlen hvs (hxI (Ext.refl _)) (fun X' I' hI' h' => ?_)
    try simp only [SSd, Nat.reduceAdd]
    refine newI (fun b2 => ?_)
    refine stB rfl rfl (one_all rfl) ?_
    try simp only [SSd, Nat.reduceAdd]
    refine rdP (itV (.slice a0 x.fX.fKey.length c0) (.slice a1 x.fX.fValue.length c1) x.fX) rfl rfl ?_
    refine call (Cal.pick br ?_)
    refine rput_spec (RL.monoI (fun x c h => h.mono hI') h3 hI') (RL.monoI (fun x c h => h.mono hI') h4 hI') hok hlen hn (hxI hI') (fun I2 vI2 hI2 h2 => ?_)
    try simp only [SSd, Nat.reduceAdd]
    refine newI (fun b3 => ?_)
    refine stB rfl rfl (one_all rfl) ?_
    refine rdB rfl ?_
    refine rdB rfl ?_
    simp only [beq_self_eq_true, Bool.and_self, SSd, Nat.reduceAdd]
    refine Gh.to (X' ++ ((br, refO vV vI2 sp.floor) :: F)) (Gh.done (hk I2 _ (hI'.trans hI2) ⟨X', vV, vI2, ?_, h'.mono hI2, ?_, h2⟩))
    · have ef : (putS sp x.fX).floor = sp.floor := by unfold putS; split <;> rfl
      rw [ef]
    · have ev : versOf (putS sp x.fX).rows = versOf sp.rows := by
        unfold putS
        split
        · rfl
        · obtain ⟨rows, fl⟩ := sp
          rcases place x.fX.fKey hs with ⟨A, r, B, e, hkr, hm⟩ | ⟨A, B, e, hm⟩
          · simp only at e; subst e
            simp only [setIt_mid hkr hm, versOf_app, versOf_cons, hkr]
          · simp only at e; subst e
            simp only [setIt_gap hm, versOf_app, versOf_cons]
            simp
      rw [ev]
      exact RL.monoI (fun x c h => h.mono (hI'.trans hI2)) h3 (hI'.trans hI2)
  have n0 : x.fDo ≠ 0 := by simpa using e
  try simp only [SSd, Nat.reduceAdd]
  refine br_split (fun e => ?_) (fun e => ?_)
  · have e0 : x.fDo = 1 := by simpa using e
    have es : stepS sp x = resS sp x.fX.fKey x.fX.fTxn x.fYes x.fX.fAt := by unfold stepS; rw [if_neg n0, if_pos e0]
    have en : stepN sp x nt = resN sp x.fX.fKey x.fX.fTxn x.fYes x.fX.fAt nt := by unfold stepN; rw [if_neg n0, if_pos e0]
    rw [es, en] at hk
    try simp only [SSd, Nat.reduceAdd]
    refine rdb ?_
    try simp only [SSd, Nat.reduceAdd]
    refine rdb ?_
    try simp only [SSd, Nat.reduceAdd]
    refine rdb ?_
    try simp only [SSd, Nat.reduceAdd]
    refine rdP [.int .i64 x.fX.fAt.fWall, .int .i64 x.fX.fAt.fLogic] rfl rfl ?_
    refine call (Cal.split X ?_)
    refine resolve_spec hS hok hlen hvs g0 (fun X' I' hI' h' => ?_)
    try simp only [SSd, Nat.reduceAdd]
    refine rdb ?_
    try simp only [SSd, Nat.reduceAdd]
    refine rdb ?_
    try simp only [SSd, Nat.reduceAdd]
    refine rdb ?_
    try simp only [SSd, Nat.reduceAdd]
    refine rdP [.int .i64 x.fX.fAt.fWall, .int .i64 x.fX.fAt.fLogic] rfl rfl ?_
    refine call (Cal.pick br ?_)
    refine rresolve_spec (RL.monoI (fun x c h => h.mono hI') h3 hI') (RL.monoI (fun x c h => h.mono hI') h4 hI') hok hlen hn (g0.mono hI') (fun I2 vV2 vI2 hI2 h2 h2' => ?_)
    simp only [beq_self_eq_true, SSd, Nat.reduceAdd]
    refine Gh.to (X' ++ ((br, refO vV2 vI2 sp.floor) :: F)) (Gh.done (hk I2 _ (hI'.trans hI2) ⟨X', vV2, vI2, ?_, h'.mono hI2, h2, h2'⟩))
    have ef : (resS sp x.fX.fKey x.fX.fTxn x.fYes x.fX.fAt).floor = sp.floor := by unfold resS; split <;> rfl
    rw [ef]
  have n1 : x.fDo ≠ 1 := by simpa using e
  try simp only [SSd, Nat.reduceAdd]
  refine br_split (fun e => ?_) (fun e => ?_)
  · have e0 : x.fDo = 2 := by simpa using e
    have es : stepS sp x = sp := by unfold stepS; rw [if_neg n0, if_neg n1, if_neg (by rw [e0]; decide)]
    have en : stepN sp x nt = nt := by unfold stepN; rw [if_neg n0, if_neg n1, if_neg (by rw [e0]; decide)]
    try simp only [SSd, Nat.reduceAdd]
    refine rdb ?_
    try simp only [SSd, Nat.reduceAdd]
    refine rdP [.int .i64 x.fX.fAt.fWall, .int .i64 x.fX.fAt.fLogic] rfl rfl ?_
    try simp only [SSd, Nat.reduceAdd]
    refine rdb ?_
    refine call (get_spec (hS.view (fun y hy => by simp [hy])) hs hvs9 g0 (fun I' u0 hI' hu0 => ?_))
    obtain ⟨ua, uc, rfl⟩ := Bytes.form hu0
    try simp only [SSd, Nat.reduceAdd]
    refine newI (fun b2 => ?_)
    refine stB rfl rfl (one_all rfl) ?_
    try simp only [SSd, Nat.reduceAdd]
    refine rdb ?_
    try simp only [SSd, Nat.reduceAdd]
    refine rdP [.int .i64 x.fX.fAt.fWall, .int .i64 x.fX.fAt.fLogic] rfl rfl ?_
    try simp only [SSd, Nat.reduceAdd]
    refine rdb ?_
    refine call (rget_spec (L0 := (br, refO vV vI sp.floor) :: F) (refF (List.mem_cons_self ..) (RL.monoI (fun x c h => h.mono hI') h3 hI') (RL.monoI (fun x c h => h.mono hI') h4 hI')) hok (g0.mono hI') hlen hn (fun v0 hv0 => ?_))
    obtain ⟨va, vc, rfl⟩ := Bytes.form hv0
    try simp only [SSd, Nat.reduceAdd]
    refine newI (fun b3 => ?_)
    refine stB rfl rfl (one_all rfl) ?_
    refine rdB rfl ?_
    refine rdB rfl ?_
    refine call (samegot_spec hu0 hv0 (fun t ht => ?_))
    rw [ht rfl]
    simp only [beq_self_eq_true, SSd, Nat.reduceAdd]
    exact keep hI' _ es en
  have n2 : x.fDo ≠ 2 := by simpa using e
  try simp only [SSd, Nat.reduceAdd]
  refine br_split (fun e => ?_) (fun e => ?_)
  · have e0 : x.fDo = 3 := by simpa using e
    have es : stepS sp x = sp := by unfold stepS; rw [if_neg n0, if_neg n1, if_neg (by rw [e0]; decide)]
    have en : stepN sp x nt = nt := by unfold stepN; rw [if_neg n0, if_neg n1, if_neg (by rw [e0]; decide)]
    try simp only [SSd, Nat.reduceAdd]
    refine rdP [.slice a2 x.fP.fFrom.length c2, .slice a3 x.fP.fTo.length c3] rfl rfl ?_
    try simp only [SSd, Nat.reduceAdd]
    refine rdP [.int .i64 x.fX.fAt.fWall, .int .i64 x.fX.fAt.fLogic] rfl rfl ?_
    try simp only [SSd, Nat.reduceAdd]
    refine rdb ?_
    try simp only [SSd, Nat.reduceAdd]
    refine rdb ?_
    refine call (scan_spec (p := x.fP) (hS.view (fun y hy => by simp [hy])) hs (by omega) hvs9 (hxP (Ext.refl _)) (fun I' u hI' hu => ?_))
    try simp only [SSd, Nat.reduceAdd]
    refine rdP [.slice a2 x.fP.fFrom.length c2, .slice a3 x.fP.fTo.length c3] rfl rfl ?_
    try simp only [SSd, Nat.reduceAdd]
    refine rdP [.int .i64 x.fX.fAt.fWall, .int .i64 x.fX.fAt.fLogic] rfl rfl ?_
    try simp only [SSd, Nat.reduceAdd]
    refine rdb ?_
    try simp only [SSd, Nat.reduceAdd]
    refine rdb ?_
    refine call (rscan_spec (p := x.fP) (L0 := (br, refO vV vI sp.floor) :: F) (refF (List.mem_cons_self ..) (RL.monoI (fun x c h => h.mono hI') h3 hI') (RL.monoI (fun x c h => h.mono hI') h4 hI')) hok hlen hn (hxP hI') (fun I2 v hI2 hv => ?_))
    try simp only [SSd, Nat.reduceAdd]
    have hsl : (scanF sp x.fP x.fX.fAt x.fX.fTxn x.fN).1.length ≤ 1000000000 := by
      have : ∀ (rows : List Row) (acc : List TKV), (scanL x.fX.fAt x.fX.fTxn x.fN rows acc).1.length ≤ acc.length + rows.length := by
        intro rows
        induction rows with
        | nil => intro acc; simp [scanL]
        | cons r rs ih =>
          intro acc
          have hp : (push r (seen r x.fX.fAt x.fX.fTxn).1 acc).length ≤ acc.length + 1 := by unfold push; split <;> simp
          simp only [scanL]
          split
          · simp
          · split
            · simp only [List.length_cons]; omega
            · have := ih (push r (seen r x.fX.fAt x.fX.fTxn).1 acc)
              simp only [List.length_cons]; omega
      unfold scanF
      split
      · simp
      · split
        · simp
        · have h1 := this (inR x.fP sp.rows) []
          have h2 := List.length_filter_le (fun r : Row => inB x.fP r.key) sp.rows
          simp [inR] at h1 h2 ⊢; omega
    refine call (samerows_spec (L0 := []) (RL.monoI (fun x c h => h.mono hI2) hu hI2) hv hsl (fun t ht => ?_))
    rw [ht rfl]
    simp only [beq_self_eq_true, SSd, Nat.reduceAdd]
    exact keep (hI'.trans hI2) _ es en
  have n3 : x.fDo ≠ 3 := by simpa using e
  try simp only [SSd, Nat.reduceAdd]
  refine br_split (fun e => ?_) (fun e => ?_)
  · have e0 : x.fDo = 4 := by simpa using e
    have es : stepS sp x = sp := by unfold stepS; rw [if_neg n0, if_neg n1, if_neg (by rw [e0]; decide)]
    have en : stepN sp x nt = nt := by unfold stepN; rw [if_neg n0, if_neg n1, if_neg (by rw [e0]; decide)]
    try simp only [SSd, Nat.reduceAdd]
    refine rdP [.slice a2 x.fP.fFrom.length c2, .slice a3 x.fP.fTo.length c3] rfl rfl ?_
    try simp only [SSd, Nat.reduceAdd]
    refine rdP [.int .i64 x.fX.fAt.fWall, .int .i64 x.fX.fAt.fLogic] rfl rfl ?_
    try simp only [SSd, Nat.reduceAdd]
    refine rdP [.int .i64 x.fTo.fWall, .int .i64 x.fTo.fLogic] rfl rfl ?_
    try simp only [SSd, Nat.reduceAdd]
    refine rdb ?_
    refine call (changed_spec (p := x.fP) (hS.view (fun y hy => by simp [hy])) hs (by omega) hvs9 (hxP (Ext.refl _)) ?_)
    try simp only [SSd, Nat.reduceAdd]
    refine rdP [.slice a2 x.fP.fFrom.length c2, .slice a3 x.fP.fTo.length c3] rfl rfl ?_
    try simp only [SSd, Nat.reduceAdd]
    refine rdP [.int .i64 x.fX.fAt.fWall, .int .i64 x.fX.fAt.fLogic] rfl rfl ?_
    try simp only [SSd, Nat.reduceAdd]
    refine rdP [.int .i64 x.fTo.fWall, .int .i64 x.fTo.fLogic] rfl rfl ?_
    try simp only [SSd, Nat.reduceAdd]
    refine rdb ?_
    refine call (rchanged_spec (p := x.fP) (L0 := (br, refO vV vI sp.floor) :: F) (refF (List.mem_cons_self ..) h3 h4) hok hlen hn (hxP (Ext.refl _)) ?_)
    simp only [beq_self_eq_true, SSd, Nat.reduceAdd]
    exact keep (Ext.refl _) _ es en
  have n4 : x.fDo ≠ 4 := by simpa using e
  try simp only [SSd, Nat.reduceAdd]
  refine br_split (fun e => ?_) (fun e => ?_)
  · have e0 : x.fDo = 5 := by simpa using e
    have es : stepS sp x = colS sp x.fX.fAt := by unfold stepS; rw [if_neg n0, if_neg n1, if_pos e0]
    have en : stepN sp x nt = colN sp x.fX.fAt nt := by unfold stepN; rw [if_neg n0, if_neg n1, if_pos e0]
    rw [es, en] at hk
    try simp only [SSd, Nat.reduceAdd]
    refine rdP [.int .i64 x.fX.fAt.fWall, .int .i64 x.fX.fAt.fLogic] rfl rfl ?_
    refine call (Cal.split X ?_)
    refine collect_spec hS hok hlen hn (fun X' I' hI' h' => ?_)
    try simp only [SSd, Nat.reduceAdd]
    refine rdP [.int .i64 x.fX.fAt.fWall, .int .i64 x.fX.fAt.fLogic] rfl rfl ?_
    refine call (Cal.pick br ?_)
    refine rcollect_spec (RL.monoI (fun x c h => h.mono hI') h3 hI') (RL.monoI (fun x c h => h.mono hI') h4 hI') hok hn (fun I2 vV2 hI2 h2 h2' => ?_)
    simp only [beq_self_eq_true, SSd, Nat.reduceAdd]
    exact Gh.to (X' ++ ((br, refO vV2 vI (colS sp x.fX.fAt).floor) :: F)) (Gh.done (hk I2 _ (hI'.trans hI2) ⟨X', vV2, vI, List.Perm.refl _, h'.mono hI2, h2, h2'⟩))
  have n5 : x.fDo ≠ 5 := by simpa using e
  have es : stepS sp x = sp := by unfold stepS; rw [if_neg n0, if_neg n1, if_neg n5]
  have en : stepN sp x nt = nt := by unfold stepN; rw [if_neg n0, if_neg n1, if_neg n5]
  exact keep (Ext.refl _) _ es en
end
end Go.Proofs.YtmnnnoinfhiilaaDoor
