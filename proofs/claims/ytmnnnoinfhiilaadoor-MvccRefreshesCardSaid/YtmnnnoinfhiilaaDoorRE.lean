/-
  The laws of what stays and of what has not changed: the walks.
-/
-- S3
import Derived.Test.YtmnnnoinfhiilaaDoorRD
set_option linter.unusedSimpArgs false
set_option linter.unusedVariables false
namespace Go.Proofs.YtmnnnoinfhiilaaDoor
open Go.SL
set_option maxRecDepth 10000
section
variable {ω : Om} {I : Imm} {L : LH} {K : Value → M}
theorem Both.view {b br : Nat} {sp : Sp} {nt : Nts} {F L' : LH} (h : Both I b br L sp nt F) (hL : ∀ x ∈ L, x ∈ L') : View I L' b sp := by
  obtain ⟨X, vV, vI, hp, hS, _, _⟩ := h
  exact hS.view (fun x hx => hL x (hp.mem_iff.2 (List.mem_append_left _ hx)))
theorem Both.mem {b br : Nat} {sp : Sp} {nt : Nts} {F : LH} (h : Both I b br L sp nt F) : ∀ x ∈ F, x ∈ L := fun x hx => by
  obtain ⟨X, vV, vI, hp, _⟩ := h
  exact hp.mem_iff.2 (by simp [hx])
theorem Both.more {b br : Nat} {sp : Sp} {nt : Nts} {F : LH} (h : Both I b br L sp nt F) (x : Nat × Obj) : Both I b br (x :: L) sp nt (x :: F) := by
  obtain ⟨X, vV, vI, hp, h2⟩ := h
  exact ⟨X, vV, vI, ms_perm (by rw [ms_cons, ms_eq hp]; ((try simp only [ms_cons, ms_app, ms_nil, ms_nil']); (try ac_rfl))), h2⟩
theorem Both.less {b br : Nat} {sp : Sp} {nt : Nts} {F : LH} {x : Nat × Obj} (h : Both I b br L sp nt (x :: F)) : ∃ L', L.Perm (x :: L') ∧ Both I b br L' sp nt F := by
  obtain ⟨X, vV, vI, hp, h2⟩ := h
  exact ⟨X ++ (br, refO vV vI sp.floor) :: F, ms_perm (by rw [ms_eq hp]; ((try simp only [ms_cons, ms_app, ms_nil, ms_nil']); (try ac_rfl))), X, vV, vI, List.Perm.refl _, h2⟩
theorem scan_len {sp : Sp} {p : TSpan} {m : TStamp} {txn most : Int} : (scanF sp p m txn most).1.length ≤ sp.rows.length := by
  have : ∀ (rows : List Row) (acc : List TKV), (scanL m txn most rows acc).1.length ≤ acc.length + rows.length := by
    intro rows
    induction rows with
    | nil => intro acc; simp [scanL]
    | cons r rs ih =>
      intro acc
      have hp : (push r (seen r m txn).1 acc).length ≤ acc.length + 1 := by unfold push; split <;> simp
      simp only [scanL]
      split
      · simp
      · split
        · simp only [List.length_cons]; omega
        · have := ih (push r (seen r m txn).1 acc)
          simp only [List.length_cons]; omega
  unfold scanF
  split
  · simp
  · split
    · simp
    · have h1 := this (inR p sp.rows) []
      have h2 := List.length_filter_le (fun r : Row => inB p r.key) sp.rows
      simp [inR] at h1 h2 ⊢; omega
abbrev stepC (w0 w1 w2 w3 : Value) (x : TStep) : List Value := [.int .i64 x.fDo, .int .i64 x.fN, w0, .int .i64 x.fX.fTxn, .int .i64 x.fX.fAt.fWall, .int .i64 x.fX.fAt.fLogic, .bool x.fX.fDel, w1, .bool x.fYes, w2, w3, .int .i64 x.fTo.fWall, .int .i64 x.fTo.fLogic]
abbrev stepO (w0 w1 w2 w3 : Value) (x : TStep) : Obj := .cells (stepC w0 w1 w2 w3 x).toArray 52 (0, 0)
theorem stepAt {b1 : Nat} {w0 w1 w2 w3 : Value} {x : TStep} (h : (b1, stepO w0 w1 w2 w3 x) ∈ L) : Cells I L b1 0 (stepC w0 w1 w2 w3 x) := own_cells (l := stepC w0 w1 w2 w3 x) h 13
structure At (I0 : Imm) (F : LH) (b br : Nat) (most : Nat) (I' : Imm) (L' : LH) (sp : Sp) (nt : Nts) : Prop where
  ext : Ext I0 I'
  both : Both I' b br L' sp nt F
  ok : SpOk sp
  rows : sp.rows.length ≤ most
  vers : versN sp.rows ≤ most
theorem refreshes_law {v : Value} {ss : List TStep} {x : TStep} {c : List Value} (h : RL TStepV 13 I [] v ss) (hl : ss.length ≤ 9000000000000000000) (hx : TStepV I x c) (hk : ∀ I' L', Ext I I' → K (.bool true) I' L') : Cal Tryd.prog ω 5 #[v, .agg c.toArray] K I L := by
  have hx0 := hx
  obtain ⟨w0, w1, w2, w3, rfl, g0, g1, g2, g3⟩ := hx
  refine cal5 ?_
  unfold sh5
  refine newI (fun b1 => ?_)
  refine call (awake_spec (fun I1 hI1 => ?_))
  refine call (new_spec (fun b X hS => ?_))
  simp only [Bool.not_true, SSd, Nat.reduceAdd]
  refine newI (fun br => ?_)
  refine loop (fun n s I' L' => ∃ (i : Nat) (sp : Sp) (nt : Nts), n + i = ss.length ∧ s = (.bool false, .int .i64 i, ()) ∧ At I ((b1, stepO w0 w1 w2 w3 x) :: L) b br i I' L' sp nt ∧ i ≤ 150) ss.length ⟨0, sp0, nt0, rfl, rfl, ⟨hI1, both_new hS, sp0_ok, Nat.le_refl _, Nat.le_refl _⟩, by omega⟩ ?_
  rintro n s I' L' ⟨i, sp, nt, hni, rfl, hA, hi3⟩
  obtain ⟨hI, hB, hok, hr, hv⟩ := hA
  have hm1 := hB.mem _ (List.mem_cons_self ..)
  have hc1 : Cells I' L' b1 0 (stepC w0 w1 w2 w3 x) := stepAt hm1
  have hat : Cells I' L' b1 4 [.int .i64 x.fX.fAt.fWall, .int .i64 x.fX.fAt.fLogic] := by simpa using hc1.sub (k := 4) (m := 2)
  have hto : Cells I' L' b1 11 [.int .i64 x.fTo.fWall, .int .i64 x.fTo.fLogic] := by simpa using hc1.sub (k := 11) (m := 2)
  have hsp : Cells I' L' b1 9 [w2, w3] := by simpa using hc1.sub (k := 9) (m := 2)
  have hP : ∀ {I2 : Imm}, Ext I I2 → TSpanV I2 x.fP [w2, w3] := fun hI => ⟨_, _, rfl, g2.mono hI, g3.mono hI⟩
  have hvs9 : ∀ r ∈ sp.rows, r.vs.length ≤ 1000000000 := fun r hr => Nat.le_trans (vs_le hv r hr) (by omega)
  have five : sh5_5 ω (pt b1) (.bool false) (pt b) (fun v => Gh (K v)) I' L' := by
    unfold sh5_5
    try simp only [SSd, Nat.reduceAdd]
    refine rdNC hat (Ext.refl _) rfl ?_
    refine rdNC hto (Ext.refl _) rfl ?_
    refine call (rcompare_spec (x := x.fX.fAt) (y := x.fTo) ?_)
    try simp only [SSd, Nat.reduceAdd]
    refine rdNC hsp (Ext.refl _) rfl ?_
    refine rdNC hat (Ext.refl _) rfl ?_
    refine rdNC hto (Ext.refl _) rfl ?_
    refine rdC (hc1 3 _ rfl) (Ext.refl _) ?_
    refine call (changed_spec (p := x.fP) (hB.view (fun _ h => h)) hok.rise (by omega) hvs9 (hP hI) ?_)
    try simp only [SSd, Nat.reduceAdd]
    refine gd_split (fun e => ?_) (fun e => Gh.done (hk _ _ hI))
    have he : (chF sp x.fP x.fX.fAt x.fTo x.fX.fTxn).2 = 0 := by simpa using e
    refine gd_split (fun e2 => ?_) (fun e2 => Gh.done (hk _ _ hI))
    have hab := scmp_bhd x.fX.fAt x.fTo
    try simp only [SSd, Nat.reduceAdd]
    refine br_split (fun e3 => Gh.done (hk _ _ hI)) (fun e3 => ?_)
    have hab' : bhd x.fX.fAt x.fTo = false := by rw [← hab]; simpa using e3
    obtain ⟨f1, f2, f3⟩ := fresh hok (p := x.fP) (txn := x.fX.fTxn) (by omega) hab' (Prod.ext e2 he)
    try simp only [SSd, Nat.reduceAdd]
    refine rdNC hsp (Ext.refl _) rfl ?_
    refine rdNC hat (Ext.refl _) rfl ?_
    refine rdC (hc1 3 _ rfl) (Ext.refl _) ?_
    refine call (scan_spec (p := x.fP) (hB.view (fun _ h => h)) hok.rise (by omega) hvs9 (hP hI) (fun I2 u hI2 hu => ?_))
    rw [f1]
    try simp only [SSd, Nat.reduceAdd]
    refine rdNC hsp hI2 rfl ?_
    refine rdNC hto hI2 rfl ?_
    refine rdC (hc1 3 _ rfl) hI2 ?_
    refine call (scan_spec (p := x.fP) ((hB.view (fun _ h => h)).mono hI2 (fun _ h => h)) hok.rise (by omega) hvs9 (hP (hI.trans hI2)) (fun I3 u3 hI3 hu3 => ?_))
    rw [f2]
    try simp only [SSd, Nat.reduceAdd]
    have hsl := scan_len (sp := sp) (p := x.fP) (m := x.fX.fAt) (txn := x.fX.fTxn) (most := 1000)
    refine call (samerows_spec (L0 := []) (RL.monoI (fun x c h => h.mono hI3) hu hI3) hu3 (by omega) (fun t ht => ?_))
    rw [ht f3]
    simp only [beq_self_eq_true, SSd, Nat.reduceAdd]
    exact Gh.done (hk _ _ (hI.trans (hI2.trans hI3)))
  unfold sh5_2
  simp only [RL.len h, SSd, Nat.reduceAdd]
  refine gd_split (fun e => ?_) (fun e => five)
  have hi : i < ss.length := by simpa using e
  try simp only [SSd, Nat.reduceAdd]
  refine br_split (fun e2 => ?_) (fun e2 => five)
  have hi2 : i < 150 := by simp at e2; omega
  obtain ⟨q, off, c, hix, hcl, hc, hcc⟩ := RL.ix h (i := (i : Int)) (by omega) (by omega)
  simp only [hix, SSd, Nat.reduceAdd]
  refine rdNC (hcc I' [] hI (fun _ h => h)) (Ext.refl _) hcl ?_
  obtain ⟨s1, s2⟩ := step_len hok (geti ss (i : Int))
  refine call (play_spec hB hok (by omega) (by omega) (hc.mono hI) (fun I2 L2 hI2 hB2 => ?_))
  simp only [Bool.not_true, SSd, Nat.reduceAdd]
  rw [wrap_i64 _ (by omega)]
  exact Gh.done ⟨n - 1, by omega, i + 1, _, _, by omega, rfl, ⟨hI.trans hI2, hB2, hok.step _, by omega, by omega⟩, by omega⟩
end
end Go.Proofs.YtmnnnoinfhiilaaDoor
