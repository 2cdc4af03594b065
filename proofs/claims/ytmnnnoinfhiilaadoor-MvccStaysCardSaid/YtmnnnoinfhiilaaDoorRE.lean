/-
  The laws of what stays and of what has not changed: the walks.
-/
-- S3
import Derived.Test.YtmnnnoinfhiilaaDoorRD
set_option linter.unusedSimpArgs false
set_option linter.unusedVariables false
namespace Go.Proofs.YtmnnnoinfhiilaaDoor
open Go.SL
set_option maxRecDepth 10000
section
variable {ω : Om} {I : Imm} {L : LH} {K : Value → M}
theorem Both.view {b br : Nat} {sp : Sp} {nt : Nts} {F L' : LH} (h : Both I b br L sp nt F) (hL : ∀ x ∈ L, x ∈ L') : View I L' b sp := by
  obtain ⟨X, vV, vI, hp, hS, _, _⟩ := h
  exact hS.view (fun x hx => hL x (hp.mem_iff.2 (List.mem_append_left _ hx)))
theorem Both.mem {b br : Nat} {sp : Sp} {nt : Nts} {F : LH} (h : Both I b br L sp nt F) : ∀ x ∈ F, x ∈ L := fun x hx => by
  obtain ⟨X, vV, vI, hp, _⟩ := h
  exact hp.mem_iff.2 (by simp [hx])
theorem Both.more {b br : Nat} {sp : Sp} {nt : Nts} {F : LH} (h : Both I b br L sp nt F) (x : Nat × Obj) : Both I b br (x :: L) sp nt (x :: F) := by
  obtain ⟨X, vV, vI, hp, h2⟩ := h
  exact ⟨X, vV, vI, ms_perm (by rw [ms_cons, ms_eq hp]; ((try simp only [ms_cons, ms_app, ms_nil, ms_nil']); (try ac_rfl))), h2⟩
theorem Both.less {b br : Nat} {sp : Sp} {nt : Nts} {F : LH} {x : Nat × Obj} (h : Both I b br L sp nt (x :: F)) : ∃ L', L.Perm (x :: L') ∧ Both I b br L' sp nt F := by
  obtain ⟨X, vV, vI, hp, h2⟩ := h
  exact ⟨X ++ (br, refO vV vI sp.floor) :: F, ms_perm (by rw [ms_eq hp]; ((try simp only [ms_cons, ms_app, ms_nil, ms_nil']); (try ac_rfl))), X, vV, vI, List.Perm.refl _, h2⟩
theorem scan_len {sp : Sp} {p : TSpan} {m : TStamp} {txn most : Int} : (scanF sp p m txn most).1.length ≤ sp.rows.length := by
  have : ∀ (rows : List Row) (acc : List TKV), (scanL m txn most rows acc).1.length ≤ acc.length + rows.length := by
    intro rows
    induction rows with
    | nil => intro acc; simp [scanL]
    | cons r rs ih =>
      intro acc
      have hp : (push r (seen r m txn).1 acc).length ≤ acc.length + 1 := by unfold push; split <;> simp
      simp only [scanL]
      split
      · simp
      · split
        · simp only [List.length_cons]; omega
        · have := ih (push r (seen r m txn).1 acc)
          simp only [List.length_cons]; omega
  unfold scanF
  split
  · simp
  · split
    · simp
    · have h1 := this (inR p sp.rows) []
      have h2 := List.length_filter_le (fun r : Row => inB p r.key) sp.rows
      simp [inR] at h1 h2 ⊢; omega
abbrev stepC (w0 w1 w2 w3 : Value) (x : TStep) : List Value := [.int .i64 x.fDo, .int .i64 x.fN, w0, .int .i64 x.fX.fTxn, .int .i64 x.fX.fAt.fWall, .int .i64 x.fX.fAt.fLogic, .bool x.fX.fDel, w1, .bool x.fYes, w2, w3, .int .i64 x.fTo.fWall, .int .i64 x.fTo.fLogic]
abbrev stepO (w0 w1 w2 w3 : Value) (x : TStep) : Obj := .cells (stepC w0 w1 w2 w3 x).toArray 52 (0, 0)
theorem stepAt {b1 : Nat} {w0 w1 w2 w3 : Value} {x : TStep} (h : (b1, stepO w0 w1 w2 w3 x) ∈ L) : Cells I L b1 0 (stepC w0 w1 w2 w3 x) := own_cells (l := stepC w0 w1 w2 w3 x) h 13
structure At (I0 : Imm) (F : LH) (b br : Nat) (most : Nat) (I' : Imm) (L' : LH) (sp : Sp) (nt : Nts) : Prop where
  ext : Ext I0 I'
  both : Both I' b br L' sp nt F
  ok : SpOk sp
  rows : sp.rows.length ≤ most
  vers : versN sp.rows ≤ most
abbrev gotC (v0 : Value) (g : TGot) : Obj := .cells #[.bool g.fFound, v0, .int .i64 g.fAt.fWall, .int .i64 g.fAt.fLogic, .int .i64 g.fBy] 60 (0, 0)
theorem stays_end {b br b1 bm bg : Nat} {w0 w1 w2 w3 u1 ul : Value} {x : TStep} {sp sp' : Sp} {nt : Nts} {F : LH} {p6 : Value} (hB : Both I b br L sp' nt ((bg, gotC u1 (getF sp x.fX.fKey x.fX.fAt 0).1) :: (bm, stO x.fX.fAt) :: (b1, stepO w0 w1 w2 w3 x) :: F)) (hok : SpOk sp) (hok' : SpOk sp') (hr : sp.rows.length ≤ 200) (hr' : sp'.rows.length ≤ 200) (hv' : versN sp'.rows ≤ 200)
    (g0 : Bytes I w0 x.fX.fKey) (g2 : Bytes I w2 x.fP.fFrom) (g3 : Bytes I w3 x.fP.fTo) (hu1 : Bytes I u1 (getF sp x.fX.fKey x.fX.fAt 0).1.fValue) (hul : RL TKVV 2 I [] ul (scanF sp x.fP x.fX.fAt 0 1000).1)
    (hst : bhd sp.floor x.fX.fAt = false → ∀ q, curG sp'.rows q x.fX.fAt = curG sp.rows q x.fX.fAt) (hk : ∀ I', Ext I I' → K (.bool true) I' L) :
    sh4_11 ω (pt b1) p6 (pt b) (pt bm) (pt bg) (.int .i64 (getF sp x.fX.fKey x.fX.fAt 0).2) ul (.int .i64 (scanF sp x.fP x.fX.fAt 0 1000).2.2) (fun v => Gh (K v)) I L := by
  have hc1 : Cells I L b1 0 (stepC w0 w1 w2 w3 x) := stepAt (hB.mem _ (by simp))
  have hsp : Cells I L b1 9 [w2, w3] := by simpa using hc1.sub (k := 9) (m := 2)
  have hm : Cells I L bm 0 [.int .i64 x.fX.fAt.fWall, .int .i64 x.fX.fAt.fLogic] := own_cells (l := [.int .i64 x.fX.fAt.fWall, .int .i64 x.fX.fAt.fLogic]) (T := 34) (fr := (0, 0)) (hB.mem _ (by simp)) 2
  have hg : Cells I L bg 0 [.bool (getF sp x.fX.fKey x.fX.fAt 0).1.fFound, u1, .int .i64 (getF sp x.fX.fKey x.fX.fAt 0).1.fAt.fWall, .int .i64 (getF sp x.fX.fKey x.fX.fAt 0).1.fAt.fLogic, .int .i64 (getF sp x.fX.fKey x.fX.fAt 0).1.fBy] := own_cells (l := [.bool (getF sp x.fX.fKey x.fX.fAt 0).1.fFound, u1, .int .i64 (getF sp x.fX.fKey x.fX.fAt 0).1.fAt.fWall, .int .i64 (getF sp x.fX.fKey x.fX.fAt 0).1.fAt.fLogic, .int .i64 (getF sp x.fX.fKey x.fX.fAt 0).1.fBy]) (T := 60) (fr := (0, 0)) (hB.mem _ (by simp)) 5
  have hvs9 : ∀ r ∈ sp'.rows, r.vs.length ≤ 1000000000 := fun r hr => Nat.le_trans (vs_le hv' r hr) (by omega)
  unfold sh4_11
  try simp only [SSd, Nat.reduceAdd]
  refine rdC (hc1 2 _ rfl) (Ext.refl _) ?_
  refine rdNC hm (Ext.refl _) rfl ?_
  refine call (get_spec (m := x.fX.fAt) (hB.view (fun _ h => h)) hok'.rise hvs9 g0 (fun I2 h0 hI2 hh0 => ?_))
  obtain ⟨ha, hc, rfl⟩ := Bytes.form hh0
  try simp only [SSd, Nat.reduceAdd]
  refine newI (fun bh => ?_)
  refine stB rfl rfl (one_all rfl) ?_
  try simp only [SSd, Nat.reduceAdd]
  refine rdNC hsp hI2 rfl ?_
  refine rdNC hm hI2 rfl ?_
  refine call (scan_spec (p := x.fP) ((hB.view (fun _ h => h)).mono hI2 (fun y hy => by simp [hy])) hok'.rise (by omega) hvs9 ⟨_, _, rfl, g2.mono hI2, g3.mono hI2⟩ (fun I3 u hI3 hu => ?_))
  try simp only [SSd, Nat.reduceAdd]
  refine rdNC hg (hI2.trans hI3) rfl ?_
  refine rdB rfl ?_
  refine call (samegot_spec (hu1.mono (hI2.trans hI3)) (hh0.mono hI3) (fun t1 ht1 => ?_))
  have hsl := scan_len (sp := sp) (p := x.fP) (m := x.fX.fAt) (txn := 0) (most := 1000)
  refine call (samerows_spec (L0 := []) (RL.monoI (fun x c h => h.mono (hI2.trans hI3)) hul (hI2.trans hI3)) hu (by omega) (fun t2 ht2 => ?_))
  have fin : Gh (K (.bool true)) I3 ((bh, gotC (.slice ha (getF sp' x.fX.fKey x.fX.fAt 0).1.fValue.length hc) (getF sp' x.fX.fKey x.fX.fAt 0).1) :: L) := Gh.to L (Gh.done (hk I3 (hI2.trans hI3)))
  have q1 : (getF sp x.fX.fKey x.fX.fAt 0).2 = 0 → (getF sp' x.fX.fKey x.fX.fAt 0).2 = 0 → t1 = true := by
    intro e1 e2
    obtain ⟨c1, c2⟩ := get0 e1
    obtain ⟨d1, _⟩ := get0 e2
    exact ht1 (by rw [c1, d1, hst c2])
  have q2 : (scanF sp x.fP x.fX.fAt 0 1000).2.2 = 0 → (scanF sp' x.fP x.fX.fAt 0 1000).2.2 = 0 → t2 = true := by
    intro e1 e2
    obtain ⟨_, _, c2⟩ := scan0 (by omega) e1
    exact ht2 (scan_same hok hok' (by omega) (by omega) e1 e2 (hst c2))
  have two : (Pv (binIV .neq (.int .i64 (scanF sp x.fP x.fX.fAt 0 1000).2.2) (.int .i64 0)) fun v104 => Gd v104 false (Pv (binIV .neq (.int .i64 (scanF sp' x.fP x.fX.fAt 0 1000).2.2) (.int .i64 0)) fun v105 => Gd v105 false (Gh (K (.bool t2))) (Gh (K (.bool true)))) (Gh (K (.bool true)))) I3 ((bh, gotC (.slice ha (getF sp' x.fX.fKey x.fX.fAt 0).1.fValue.length hc) (getF sp' x.fX.fKey x.fX.fAt 0).1) :: L) := by
    try simp only [SSd, Nat.reduceAdd]
    refine gd_split (fun e => ?_) (fun e => fin)
    have e1 : (scanF sp x.fP x.fX.fAt 0 1000).2.2 = 0 := by simpa using e
    try simp only [SSd, Nat.reduceAdd]
    refine gd_split (fun e' => ?_) (fun e' => fin)
    have e2 : (scanF sp' x.fP x.fX.fAt 0 1000).2.2 = 0 := by simpa using e'
    rw [q2 e1 e2]; exact fin
  simp only [SSd, Nat.reduceAdd] at two ⊢
  refine gd_split (fun e => ?_) (fun e => two)
  have e1 : (getF sp x.fX.fKey x.fX.fAt 0).2 = 0 := by simpa using e
  try simp only [SSd, Nat.reduceAdd]
  refine gd_split (fun e' => ?_) (fun e' => two)
  have e2 : (getF sp' x.fX.fKey x.fX.fAt 0).2 = 0 := by simpa using e'
  rw [q1 e1 e2]
  try simp only [SSd, Nat.reduceAdd]
  exact two
theorem stays_law {v v' : Value} {ss ss' : List TStep} {x : TStep} {c : List Value} (h : RL TStepV 13 I [] v ss) (h' : RL TStepV 13 I [] v' ss') (hl : ss.length ≤ 9000000000000000000) (hl' : ss'.length ≤ 9000000000000000000) (hx : TStepV I x c) (hk : ∀ I' L', Ext I I' → K (.bool true) I' L') : Cal Tryd.prog ω 4 #[v, v', .agg c.toArray] K I L := by
  have hx0 := hx
  obtain ⟨w0, w1, w2, w3, rfl, g0, g1, g2, g3⟩ := hx
  refine cal4 ?_
  unfold sh4
  refine newI (fun b1 => ?_)
  refine call (awake_spec (fun I1 hI1 => ?_))
  refine call (new_spec (fun b X hS => ?_))
  simp only [Bool.not_true, SSd, Nat.reduceAdd]
  refine newI (fun br => ?_)
  refine loop (fun n s I' L' => ∃ (i : Nat) (sp : Sp) (nt : Nts), n + i = ss.length ∧ s = (.bool false, .int .i64 i, ()) ∧ At I ((b1, stepO w0 w1 w2 w3 x) :: L) b br i I' L' sp nt ∧ i ≤ 100) ss.length ⟨0, sp0, nt0, rfl, rfl, ⟨hI1, both_new hS, sp0_ok, Nat.le_refl _, Nat.le_refl _⟩, by omega⟩ ?_
  rintro n s I' L' ⟨i, sp, nt, hni, rfl, hA, hi3⟩
  obtain ⟨hI, hB, hok, hr, hv⟩ := hA
  have hc1 : Cells I' L' b1 0 (stepC w0 w1 w2 w3 x) := stepAt (hB.mem _ (List.mem_cons_self ..))
  have hat : Cells I' L' b1 4 [.int .i64 x.fX.fAt.fWall, .int .i64 x.fX.fAt.fLogic] := by simpa using hc1.sub (k := 4) (m := 2)
  have hsp : Cells I' L' b1 9 [w2, w3] := by simpa using hc1.sub (k := 9) (m := 2)
  have hvs9 : ∀ r ∈ sp.rows, r.vs.length ≤ 1000000000 := fun r hr => Nat.le_trans (vs_le hv r hr) (by omega)
  have five : sh4_5 ω v' (pt b1) (.bool false) (pt b) (pt br) (fun v => Gh (K v)) I' L' := by
    unfold sh4_5
    try simp only [SSd, Nat.reduceAdd]
    refine rdNC hat (Ext.refl _) rfl ?_
    refine newI (fun bm => ?_)
    refine stB rfl rfl (one_all rfl) ?_
    try simp only [SSd, Nat.reduceAdd]
    refine rdC (hc1 2 _ rfl) (Ext.refl _) ?_
    refine rdB rfl ?_
    refine call (get_spec (m := x.fX.fAt) (hB.view (fun y hy => by simp [hy])) hok.rise hvs9 (g0.mono hI) (fun I2 u1 hI2 hu1 => ?_))
    obtain ⟨ua, uc, rfl⟩ := Bytes.form hu1
    try simp only [SSd, Nat.reduceAdd]
    refine newI (fun bg => ?_)
    refine stB rfl rfl (one_all rfl) ?_
    try simp only [SSd, Nat.reduceAdd]
    refine rdNC hsp hI2 rfl ?_
    refine rdB rfl ?_
    refine call (scan_spec (p := x.fP) ((hB.view (fun y hy => by simp [hy])).mono hI2 (fun _ h => h)) hok.rise (by omega) hvs9 ⟨_, _, rfl, g2.mono (hI.trans hI2), g3.mono (hI.trans hI2)⟩ (fun I3 ul hI3 hul => ?_))
    try simp only [SSd, Nat.reduceAdd]
    have hB3 := ((hB.mono (hI2.trans hI3)).more (bm, stO x.fX.fAt)).more (bg, gotC (.slice ua (getF sp x.fX.fKey x.fX.fAt 0).1.fValue.length uc) (getF sp x.fX.fKey x.fX.fAt 0).1)
    refine loop (fun n s I4 L4 => ∃ (j : Nat) (sp' : Sp) (nt' : Nts), n + j = ss'.length ∧ s = (.bool false, .int .i64 j, ()) ∧ Ext I3 I4 ∧ At I ((bg, gotC (.slice ua (getF sp x.fX.fKey x.fX.fAt 0).1.fValue.length uc) (getF sp x.fX.fKey x.fX.fAt 0).1) :: (bm, stO x.fX.fAt) :: (b1, stepO w0 w1 w2 w3 x) :: L) b br (100 + j) I4 L4 sp' nt' ∧ j ≤ 100 ∧
      (bhd sp.floor x.fX.fAt = false → bhd sp'.floor x.fX.fAt = false ∧ ∀ q, curG sp'.rows q x.fX.fAt = curG sp.rows q x.fX.fAt)) ss'.length ⟨0, sp, nt, rfl, rfl, Ext.refl _, ⟨hI.trans (hI2.trans hI3), hB3, hok, by omega, by omega⟩, by omega, fun hf => ⟨hf, fun _ => rfl⟩⟩ ?_
    rintro n2 s2 I4 L4 ⟨j, sp', nt', hnj, rfl, hI4, ⟨hI04, hB4, hok', hr', hv'⟩, hj3, hst⟩
    have eleven := fun (p6 : Value) => stays_end (ω := ω) (p6 := p6) (K := K) hB4 hok hok' (by omega) (by omega) (by omega) (g0.mono hI04) (g2.mono hI04) (g3.mono hI04) (hu1.mono (hI3.trans hI4)) (RL.monoI (fun x c h => h.mono hI4) hul hI4) (fun hf => (hst hf).2) (fun I5 hI5 => hk _ _ (hI04.trans hI5))
    have hm4 : Cells I4 L4 bm 0 [.int .i64 x.fX.fAt.fWall, .int .i64 x.fX.fAt.fLogic] := own_cells (l := [.int .i64 x.fX.fAt.fWall, .int .i64 x.fX.fAt.fLogic]) (T := 34) (fr := (0, 0)) (hB4.mem _ (by simp)) 2
    unfold sh4_6
    simp only [RL.len h', SSd, Nat.reduceAdd]
    refine gd_split (fun e => ?_) (fun e => eleven _)
    have hj : j < ss'.length := by simpa using e
    try simp only [SSd, Nat.reduceAdd]
    refine br_split (fun e2 => ?_) (fun e2 => eleven _)
    have hj2 : j < 100 := by simp at e2; omega
    obtain ⟨q, off, cc, hix, hcl, hc, hcc⟩ := RL.ix h' (i := (j : Int)) (by omega) (by omega)
    simp only [hix, SSd, Nat.reduceAdd]
    refine rdNC (hcc I4 [] hI04 (fun _ h => h)) (Ext.refl _) hcl ?_
    generalize geti ss' (j : Int) = y at *
    have hcy := hc
    obtain ⟨y0, y1, y2, y3, rfl, k0, k1, k2, k3⟩ := hc
    obtain ⟨a0, d0, rfl⟩ := Bytes.form k0
    obtain ⟨a1, d1, rfl⟩ := Bytes.form k1
    obtain ⟨a2, d2, rfl⟩ := Bytes.form k2
    obtain ⟨a3, d3, rfl⟩ := Bytes.form k3
    refine newI (fun by' => ?_)
    refine stB rfl rfl (one_all rfl) ?_
    obtain ⟨s1, s2⟩ := step_len hok' y
    -- left out
    have skip : skipB x.fX.fAt y = true → ∀ {I5 : Imm} {L5 : LH}, Ext I4 I5 → L5.Perm ([(by', stepO (.slice a0 y.fX.fKey.length d0) (.slice a1 y.fX.fValue.length d1) (.slice a2 y.fP.fFrom.length d2) (.slice a3 y.fP.fTo.length d3) y)] ++ L4) → sh4_8 ω (.bool false) (.int .i64 j) (fun s' => Gh fun I2 L2 => ∃ m', m' < n2 ∧ ∃ (j : Nat) (sp' : Sp) (nt' : Nts), m' + j = ss'.length ∧ s' = (.bool false, .int .i64 j, ()) ∧ Ext I3 I2 ∧ At I ((bg, gotC (.slice ua (getF sp x.fX.fKey x.fX.fAt 0).1.fValue.length uc) (getF sp x.fX.fKey x.fX.fAt 0).1) :: (bm, stO x.fX.fAt) :: (b1, stepO w0 w1 w2 w3 x) :: L) b br (100 + j) I2 L2 sp' nt' ∧ j ≤ 100 ∧
      (bhd sp.floor x.fX.fAt = false → bhd sp'.floor x.fX.fAt = false ∧ ∀ q, curG sp'.rows q x.fX.fAt = curG sp.rows q x.fX.fAt)) (fun v => Gh (K v)) I5 L5 := by
      intro hs I5 L5 hI5 hp
      unfold sh4_8
      try simp only [SSd, Nat.reduceAdd]
      rw [wrap_i64 _ (by omega)]
      refine Gh.perm hp (Gh.drop (List.sublist_append_right ..) (Gh.done ⟨n2 - 1, by omega, j + 1, sp', nt', by omega, rfl, hI4.trans hI5, ⟨hI04.trans hI5, hB4.mono hI5, hok', by omega, by omega⟩, by omega, hst⟩))
    have done : skipB x.fX.fAt y = false → ∀ {I5 : Imm} {L5 : LH}, Ext I4 I5 → Both I5 b br L5 (stepS sp' y) (stepN sp' y nt') ((by', stepO (.slice a0 y.fX.fKey.length d0) (.slice a1 y.fX.fValue.length d1) (.slice a2 y.fP.fFrom.length d2) (.slice a3 y.fP.fTo.length d3) y) :: (bg, gotC (.slice ua (getF sp x.fX.fKey x.fX.fAt 0).1.fValue.length uc) (getF sp x.fX.fKey x.fX.fAt 0).1) :: (bm, stO x.fX.fAt) :: (b1, stepO w0 w1 w2 w3 x) :: L) → sh4_8 ω (.bool false) (.int .i64 j) (fun s' => Gh fun I2 L2 => ∃ m', m' < n2 ∧ ∃ (j : Nat) (sp' : Sp) (nt' : Nts), m' + j = ss'.length ∧ s' = (.bool false, .int .i64 j, ()) ∧ Ext I3 I2 ∧ At I ((bg, gotC (.slice ua (getF sp x.fX.fKey x.fX.fAt 0).1.fValue.length uc) (getF sp x.fX.fKey x.fX.fAt 0).1) :: (bm, stO x.fX.fAt) :: (b1, stepO w0 w1 w2 w3 x) :: L) b br (100 + j) I2 L2 sp' nt' ∧ j ≤ 100 ∧
      (bhd sp.floor x.fX.fAt = false → bhd sp'.floor x.fX.fAt = false ∧ ∀ q, curG sp'.rows q x.fX.fAt = curG sp.rows q x.fX.fAt)) (fun v => Gh (K v)) I5 L5 := by
      intro hs I5 L5 hI5 hB5
      obtain ⟨L6, hp, hB6⟩ := hB5.less
      unfold sh4_8
      try simp only [SSd, Nat.reduceAdd]
      rw [wrap_i64 _ (by omega)]
      refine Gh.perm hp ?_
      refine Gh.drop (List.sublist_cons_self ..) ?_
      refine (Gh.done ⟨n2 - 1, by omega, j + 1, stepS sp' y, stepN sp' y nt', by omega, rfl, hI4.trans hI5, ⟨hI04.trans hI5, hB6, hok'.step _, by omega, by omega⟩, by omega, fun hf => ?_⟩)
      obtain ⟨t1, t2⟩ := hst hf
      obtain ⟨t3, t4⟩ := stays hok' hs t1
      exact ⟨t3, fun q => (t4 q).trans (t2 q)⟩
    have hpl := fun (K' : Value → M) => play_spec (ω := ω) (K := K') (hB4.more (by', stepO (.slice a0 y.fX.fKey.length d0) (.slice a1 y.fX.fValue.length d1) (.slice a2 y.fP.fFrom.length d2) (.slice a3 y.fP.fTo.length d3) y)) hok' (by omega) (by omega) (hcy.mono hI04)
    generalize hZ : sh4_8 ω _ _ _ _ = Z
    rw [hZ] at skip done
    have hy : Cells I4 ((by', stepO (.slice a0 y.fX.fKey.length d0) (.slice a1 y.fX.fValue.length d1) (.slice a2 y.fP.fFrom.length d2) (.slice a3 y.fP.fTo.length d3) y) :: L4) by' 0 (stepC (.slice a0 y.fX.fKey.length d0) (.slice a1 y.fX.fValue.length d1) (.slice a2 y.fP.fFrom.length d2) (.slice a3 y.fP.fTo.length d3) y) := stepAt (List.mem_cons_self ..)
    have hyat : Cells I4 ((by', stepO (.slice a0 y.fX.fKey.length d0) (.slice a1 y.fX.fValue.length d1) (.slice a2 y.fP.fFrom.length d2) (.slice a3 y.fP.fTo.length d3) y) :: L4) by' 4 [.int .i64 y.fX.fAt.fWall, .int .i64 y.fX.fAt.fLogic] := by simpa using hy.sub (k := 4) (m := 2)
    have go : skipB x.fX.fAt y = false → (Rv none (ldNR 13 (pt by')) (fun v57 => Cal Tryd.prog ω 15 #[pt b, pt br, v57] (gh fun v58 => Pv (unV .not v58) fun v59 => Br v59 (Gh (K (.bool false))) Z))) I4 ((by', stepO (.slice a0 y.fX.fKey.length d0) (.slice a1 y.fX.fValue.length d1) (.slice a2 y.fP.fFrom.length d2) (.slice a3 y.fP.fTo.length d3) y) :: L4) := by
      intro hs
      refine rdNC hy (Ext.refl _) rfl ?_
      refine call (hpl _ (fun I5 L5 hI5 hB5 => ?_))
      simp only [Bool.not_true, SSd, Nat.reduceAdd]
      exact done hs hI5 hB5
    have skip' := fun (hs : skipB x.fX.fAt y = true) => skip hs (Ext.refl _) (List.Perm.refl _)
    simp only [SSd, Nat.reduceAdd] at go ⊢
    refine rdNC hyat (Ext.refl _) rfl ?_
    refine rdNC hm4 (Ext.refl _) rfl ?_
    refine call (rcompare_spec (x := y.fX.fAt) (y := x.fX.fAt) ?_)
    have hcm := scmp_bhd y.fX.fAt x.fX.fAt
    try simp only [SSd, Nat.reduceAdd]
    refine rdC (hy 0 _ rfl) (Ext.refl _) ?_
    have inner : (y.fDo = 1 → (y.fYes && !bhd y.fX.fAt x.fX.fAt) = false) → (Rv none (ld1R (pt by')) fun v53 => Pv (binIV .eql v53 (.int .i64 5)) fun v54 => Gd v54 true (Br (.bool (decide (0 < scmp y.fX.fAt x.fX.fAt))) Z (Rv none (ldNR 13 (pt by')) (fun v57 => Cal Tryd.prog ω 15 #[pt b, pt br, v57] (gh fun v58 => Pv (unV .not v58) fun v59 => Br v59 (Gh (K (.bool false))) Z)))) (Rv none (ldNR 13 (pt by')) (fun v57 => Cal Tryd.prog ω 15 #[pt b, pt br, v57] (gh fun v58 => Pv (unV .not v58) fun v59 => Br v59 (Gh (K (.bool false))) Z)))) I4 ((by', stepO (.slice a0 y.fX.fKey.length d0) (.slice a1 y.fX.fValue.length d1) (.slice a2 y.fP.fFrom.length d2) (.slice a3 y.fP.fTo.length d3) y) :: L4) := by
      intro hn
      refine rdC (hy 0 _ rfl) (Ext.refl _) ?_
      try simp only [SSd, Nat.reduceAdd]
      refine gd_split (fun e => ?_) (fun e => go ?_)
      · have e5 : y.fDo = 5 := by simpa using e
        refine br_split (fun e6 => skip' ?_) (fun e6 => go ?_)
        · have : bhd y.fX.fAt x.fX.fAt = true := by rw [← hcm]; exact e6
          simp [skipB, e5, this]
        · have : bhd y.fX.fAt x.fX.fAt = false := by rw [← hcm]; exact e6
          simp [skipB, e5, this]
      · have e5 : ¬ y.fDo = 5 := by simpa using e
        unfold skipB
        by_cases h1 : y.fDo = 1
        · simp [hn h1, e5]
        · simp [h1, e5]
    simp only [SSd, Nat.reduceAdd] at inner ⊢
    refine gd_split (fun e => ?_) (fun e => inner (fun h1 => absurd h1 (by simpa using e)))
    have e1 : y.fDo = 1 := by simpa using e
    refine rdC (hy 8 _ rfl) (Ext.refl _) ?_
    refine gd_split (fun e2 => ?_) (fun e2 => inner (fun _ => by simp at e2; simp [e2]))
    refine gd_split (fun e3 => inner (fun _ => ?_)) (fun e3 => skip' ?_)
    · have : bhd y.fX.fAt x.fX.fAt = true := by rw [← hcm]; simpa using e3
      simp [this]
    · have : bhd y.fX.fAt x.fX.fAt = false := by rw [← hcm]; simpa using e3
      simp [skipB, e1, e2, this]
  unfold sh4_2
  simp only [RL.len h, SSd, Nat.reduceAdd]
  refine gd_split (fun e => ?_) (fun e => five)
  have hi : i < ss.length := by simpa using e
  try simp only [SSd, Nat.reduceAdd]
  refine br_split (fun e2 => ?_) (fun e2 => five)
  have hi2 : i < 100 := by simp at e2; omega
  obtain ⟨q, off, cc, hix, hcl, hc, hcc⟩ := RL.ix h (i := (i : Int)) (by omega) (by omega)
  simp only [hix, SSd, Nat.reduceAdd]
  refine rdNC (hcc I' [] hI (fun _ h => h)) (Ext.refl _) hcl ?_
  obtain ⟨s1, s2⟩ := step_len hok (geti ss (i : Int))
  refine call (play_spec hB hok (by omega) (by omega) (hc.mono hI) (fun I2 L2 hI2 hB2 => ?_))
  simp only [Bool.not_true, SSd, Nat.reduceAdd]
  rw [wrap_i64 _ (by omega)]
  exact Gh.done ⟨n - 1, by omega, i + 1, _, _, by omega, rfl, ⟨hI.trans hI2, hB2, hok.step _, by omega, by omega⟩, by omega⟩
end
end Go.Proofs.YtmnnnoinfhiilaaDoor
