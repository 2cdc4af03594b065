/-
  Lemmas, part 7: laid together by a program.
-/
import Derived.Test.YtmmfcgbfbcamcaaGreatDoorP6
import Derived.Shelf.SlMaps.Clone
import Derived.Test.YtmmfcgbfbcamcaaGreatDoorP4
import Derived.Shelf.SlSortCmp.NoneTotal
import Derived.Shelf.Sort.Plain
import Derived.Shelf.Slices.In.SortNone
import Derived.Test.YtmmfcgbfbcamcaaGreatDoorProg
import Derived.Shelf.Lays
import Derived.Shelf.SlLaysW
-- S3
set_option linter.unusedSimpArgs false
set_option linter.unusedVariables false
namespace Go.Proofs.YtmmfcgbfbcamcaaGreatDoor
open Go.SL
set_option maxRecDepth 10000
def Doing (I : Imm) (v : Value) (f : FuncId) : Prop := ∃ q, v = .func (.func 147) #[] #[pt q] ∧ I q = some (.cells #[.func (.func f) #[] #[]] 181 (0, 0))
theorem Doing.mono {I I' : Imm} {v : Value} {f : FuncId} (h : Doing I v f) (hI : Ext I I') : Doing I' v f := by
  obtain ⟨q, h1, h2⟩ := h
  exact ⟨q, h1, hI _ _ h2⟩
abbrev cloV (q : Nat) : Value := .func (.func 147) #[] #[pt q]
theorem bldA12 (q1 q2 q3 q4 q5 q6 q7 q8 q9 q10 : Nat) : bldAV 1 #[Value.nilFunc, Value.nilFunc, Value.nilFunc, Value.nilFunc, Value.nilFunc, Value.nilFunc, Value.nilFunc, Value.nilFunc, Value.nilFunc, Value.nilFunc, Value.nilFunc, Value.nilFunc] [(1, cloV q1), (2, cloV q2), (3, cloV q3), (4, cloV q4), (5, cloV q5), (6, cloV q6), (7, cloV q7), (8, cloV q8), (9, cloV q9), (10, cloV q10), (11, .func (.func 104) #[] #[])] = some (.agg #[.nilFunc, cloV q1, cloV q2, cloV q3, cloV q4, cloV q5, cloV q6, cloV q7, cloV q8, cloV q9, cloV q10, .func (.func 104) #[] #[]]) := by kernel_rfl
section
variable {ω : Om} {I : Imm} {L : LH} {K : Value → M}
theorem alone_spec {f : FuncId} (hk : ∀ q I', Ext I I' → I' q = some (.cells #[.func (.func f) #[] #[]] 181 (0, 0)) → K (cloV q) I' L) : Cal Tryz.prog ω 93 #[.func (.func f) #[] #[]] K I L := by
  refine cal93 ?_
  unfold sh93
  refine newI (fun q => ?_)
  refine Gh.freeze fun hI => Gh.done (hk _ _ hI (by simp [Imm.put, Value.cells]))
theorem doings_spec (hk : ∀ I' v1 v2 v3 v4 v5 v6 v7 v8 v9 v10, Ext I I' → Doing I' v1 94 → Doing I' v2 95 → Doing I' v3 96 → Doing I' v4 97 → Doing I' v5 98 →
      Doing I' v6 99 → Doing I' v7 100 → Doing I' v8 101 → Doing I' v9 102 → Doing I' v10 103 →
      K (.agg #[.nilFunc, v1, v2, v3, v4, v5, v6, v7, v8, v9, v10, .func (.func 104) #[] #[]]) I' L) :
    Cal Tryz.prog ω 35 #[] K I L := by
  refine cal35 ?_
  unfold sh35
  refine newI (fun b => ?_)
  refine call (alone_spec (fun q1 I1 hI1 g1 => ?_))
  refine call (alone_spec (fun q2 I2 hI2 g2 => ?_))
  refine call (alone_spec (fun q3 I3 hI3 g3 => ?_))
  refine call (alone_spec (fun q4 I4 hI4 g4 => ?_))
  refine call (alone_spec (fun q5 I5 hI5 g5 => ?_))
  refine call (alone_spec (fun q6 I6 hI6 g6 => ?_))
  refine call (alone_spec (fun q7 I7 hI7 g7 => ?_))
  refine call (alone_spec (fun q8 I8 hI8 g8 => ?_))
  refine call (alone_spec (fun q9 I9 hI9 g9 => ?_))
  refine call (alone_spec (fun q10 I10 hI10 g10 => ?_))
  have t9 := hI10
  have t8 := hI9.trans t9
  have t7 := hI8.trans t8
  have t6 := hI7.trans t7
  have t5 := hI6.trans t6
  have t4 := hI5.trans t5
  have t3 := hI4.trans t4
  have t2 := hI3.trans t3
  have t1 := hI2.trans t2
  have hk' := hk I10 (cloV q1) (cloV q2) (cloV q3) (cloV q4) (cloV q5) (cloV q6) (cloV q7) (cloV q8) (cloV q9) (cloV q10) (hI1.trans t1) ⟨q1, rfl, t1 _ _ g1⟩ ⟨q2, rfl, t2 _ _ g2⟩ ⟨q3, rfl, t3 _ _ g3⟩ ⟨q4, rfl, t4 _ _ g4⟩ ⟨q5, rfl, t5 _ _ g5⟩ ⟨q6, rfl, t6 _ _ g6⟩ ⟨q7, rfl, t7 _ _ g7⟩ ⟨q8, rfl, t8 _ _ g8⟩ ⟨q9, rfl, t9 _ _ g9⟩ ⟨q10, rfl, g10⟩
  clear t1 t2 t3 t4 t5 t6 t7 t8 t9 hk
  rw [bldA12]
  simp only [Pv_some]
  refine stB rfl rfl (one_all rfl) ?_
  refine rdB rfl ?_
  exact Gh.to L (Gh.done hk')
theorem calV_fn {P : Program} {f : FuncId} {args : Array Value} (he : entersB P f = true) (h : Cal P ω f args K I L) : CalV P ω (.func (.func f) #[] #[]) args K I L := by
  unfold CalV
  simp only
  rw [if_pos he]; simpa using h
theorem calV_clo {P : Program} {f : FuncId} {args cap : Array Value} (he : entersB P f = true) (h : Cal P ω f (args ++ cap) K I L) : CalV P ω (.func (.func f) #[] cap) args K I L := by
  unfold CalV
  simp only
  rw [if_pos he]; simpa using h
def Meth (ω : Om) (f : FuncId) (I : Imm) (m : Mch) (c : TCmd) (r : TRes) (m' : Mch) : Prop :=
  ∀ (K : Value → M) (b s : Nat) (V : MV) (SX F : LH) (cc : List Value), TCmdV I c cc → MF I V m → SpR I s SX m.sp m.nt → PostK K b F I r m' → Cal Tryz.prog ω f #[pt b, .agg cc.toArray] K I (mL b s V m (SX ++ F))
theorem tres_form {I : Imm} {r : TRes} {cells : List Value} (h : TResV I r cells) : cells.length = 11 := by
  obtain ⟨v0, v1, rfl, _⟩ := h; rfl
theorem doing_spec {b : Nat} {X F : LH} {m m' : Mch} {r : TRes} {c : TCmd} {cc : List Value} {v : Value} {f : FuncId} (hD : Doing I v f) (he : entersB Tryz.prog f = true) (hc : TCmdV I c cc) (hM : MchR I b X m) (hf : Meth ω f I m c r m')
    (hk : ∀ I' X' cells, Ext I I' → MchR I' b X' m' → TResV I' r cells → K (.tuple #[.agg cells.toArray, .pointer none]) I' (X' ++ F)) (hL : L.Perm (X ++ F)) : CalV Tryz.prog ω v #[pt b, .agg cc.toArray] K I L := by
  obtain ⟨q, rfl, hq⟩ := hD
  obtain ⟨s, V, SX, hp, hF, hS⟩ := hM
  refine calV_clo (show entersB Tryz.prog 147 = true by kernel_rfl) ?_
  have hc' := hc
  obtain ⟨w0, w1, w2, w3, rfl, g0, g1, g2, g3⟩ := hc
  refine cal147 ?_
  unfold sh147
  refine newI (fun b1 => newI (fun b2 => ?_))
  refine rd1 (Cell.imm hq rfl) ?_
  refine rdB rfl ?_
  refine calV_fn he ?_
  refine callG (Cal.perm (L' := mL b s V m (SX ++ ((b2, resO) :: (b1, cmdO c w0 w1 w2 w3) :: F))) (ms_perm (by simp only [ms_cons, ms_eq hL, ms_app, ms_eq hp]; ((try simp only [ms_cons, ms_app, ms_nil, ms_nil']); (try ac_rfl)))) ?_)
  refine hf _ b s V SX _ _ hc' hF hS (fun I' X' cells hI hM' hr => ?_)
  have hr1 := hr.one
  have hrl := tres_form hr
  refine Gh.done ?_
  obtain ⟨x0, x1, rfl, _, _⟩ := id hr
  refine stB rfl rfl hr1 ?_
  refine rdB rfl ?_
  exact Gh.to (X' ++ F) (Gh.done (hk I' X' _ hI hM' hr))
def plainR (r : TRes) : Prop := r.fGot = gotN ∧ r.fRows = []
theorem plainR.V {r : TRes} (h : plainR r) (I : Imm) : TResV I r [.int .i64 r.fCode, .bool false, .slice none 0 0, .int .i64 0, .int .i64 0, .int .i64 0, .slice none 0 0, .int .i64 r.fAt.fWall, .int .i64 r.fAt.fLogic, .int .i64 r.fBy, .int .i64 r.fState] := by
  obtain ⟨e, g, l, a, n, s⟩ := r
  obtain ⟨h1, h2⟩ := h
  simp only at h1 h2
  subst h1 h2
  exact rv_V I e a n s
theorem again_plain {m : Mch} {c : TCmd} {r : TRes} (h : againF m c = some r) : plainR r := by
  unfold againF at h
  split at h
  · split at h
    · cases h; exact ⟨rfl, rfl⟩
    · split at h
      · cases h; exact ⟨rfl, rfl⟩
      · cases h
  · split at h
    · cases h; exact ⟨rfl, rfl⟩
    · cases h
theorem begM_plain {m : Mch} {c : TCmd} : plainR (begM m c).1 ∧ (begM m c).2.sp = m.sp ∧ (begM m c).2.nt = m.nt := by
  unfold begM
  split
  · rename_i r h; exact ⟨again_plain h, rfl, rfl⟩
  · split
    · exact ⟨⟨rfl, rfl⟩, rfl, rfl⟩
    · rename_i m1 h
      have h2 := recF_seen h
      split
      · exact ⟨⟨rfl, rfl⟩, h2.2.2.2.1, h2.2.2.2.2.2.2.1⟩
      · refine ⟨⟨rfl, rfl⟩, ?_, ?_⟩
        · show (seeF m1 c 0 z0).sp = _; rw [(seeF_sp ..).1]; exact h2.2.2.2.1
        · show (seeF m1 c 0 z0).nt = _; rw [(seeF_sp ..).2]; exact h2.2.2.2.2.2.2.1
theorem endM_plain {m : Mch} {c : TCmd} : plainR (endM m c).1 ∧ (endM m c).2.sp = m.sp ∧ (endM m c).2.nt = m.nt := by
  unfold endM
  split
  · exact ⟨⟨rfl, rfl⟩, rfl, rfl⟩
  · rename_i m1 h
    have h2 := recF_seen h
    refine ⟨⟨rfl, rfl⟩, ?_, ?_⟩ <;> (show _ = _; simp only; unfold endOf; split)
    · exact h2.2.2.2.1
    · exact h2.2.2.2.1
    · exact h2.2.2.2.2.2.2.1
    · exact h2.2.2.2.2.2.2.1
theorem pushM_plain {m : Mch} {c : TCmd} : plainR (pushM m c).1 ∧ (pushM m c).2.sp = m.sp ∧ (pushM m c).2.nt = m.nt := by
  unfold pushM
  split
  · exact ⟨⟨rfl, rfl⟩, rfl, rfl⟩
  · rename_i m1 h
    have h2 := recF_seen h
    refine ⟨⟨rfl, rfl⟩, ?_, ?_⟩ <;> (show _ = _; simp only; unfold pushOf; split)
    · exact h2.2.2.2.1
    · exact h2.2.2.2.1
    · exact h2.2.2.2.2.2.2.1
    · exact h2.2.2.2.2.2.2.1
theorem forM_plain {m : Mch} {c : TCmd} : plainR (forM m c).1 ∧ (forM m c).2.sp = m.sp ∧ (forM m c).2.nt = m.nt := by
  unfold forM
  split
  · exact ⟨⟨rfl, rfl⟩, rfl, rfl⟩
  · exact ⟨⟨rfl, rfl⟩, rfl, rfl⟩
theorem PostK.plain {b s : Nat} {V' : MV} {SX F : LH} {m : Mch} {x : TRes × Mch} (h : PostK K b F I x.1 x.2) (hp : plainR x.1 ∧ x.2.sp = m.sp ∧ x.2.nt = m.nt) (hS : SpR I s SX m.sp m.nt) (hF : MF I V' x.2) : K (rvR x.1) I (mL b s V' x.2 (SX ++ F)) :=
  PostK.go h (Ext.refl _) hF (by rw [hp.2.1, hp.2.2]; exact hS) (hp.1.V I)
end
end Go.Proofs.YtmmfcgbfbcamcaaGreatDoor
-- S3
set_option linter.unusedSimpArgs false
set_option linter.unusedVariables false
namespace Go.Proofs.YtmmfcgbfbcamcaaGreatDoor
open Go.SL
set_option maxRecDepth 10000
def PostA (K : Value → M) (b : Nat) (F : LH) (I : Imm) (x : TRes × Mch × Option Mch) : Prop := ∀ I' X' cells, Ext I I' → MchR I' b X' x.2.1 → TResV I' x.1 cells →
  (x.2.2 = none → K (.tuple #[.agg cells.toArray, .pointer none]) I' (X' ++ F)) ∧ (∀ m2 b2 X2, x.2.2 = some m2 → MchR I' b2 X2 m2 → K (.tuple #[.agg cells.toArray, pt b2]) I' (X' ++ (X2 ++ F)))
def SplitC : Prop := ∀ (ω : Om) (I : Imm) (K : Value → M) (b N : Nat) (X F : LH) (m : Mch) (c : TCmd) (cc : List Value), MOk m N → N ≤ 5000 → MchR I b X m → TCmdV I c cc → keyOk c.fKey = true → PostA K b F I (splitM m c) → Cal Tryz.prog ω 104 #[pt b, .agg cc.toArray] K I (X ++ F)
section
variable {ω : Om} {I : Imm} {L : LH} {K : Value → M}
theorem PostA.plain {b : Nat} {F : LH} {x : TRes × Mch} (h : PostA K b F I (noSplit x)) {I' : Imm} {X' : LH} {cells : List Value} (hI : Ext I I') (hM : MchR I' b X' x.2) (hr : TResV I' x.1 cells) : K (.tuple #[.agg cells.toArray, .pointer none]) I' (X' ++ F) := (h I' X' cells hI hM hr).1 rfl
theorem kindIx {v1 v2 v3 v4 v5 v6 v7 v8 v9 v10 v11 : Value} (k : Nat) (v : Value) (h : [Value.nilFunc, v1, v2, v3, v4, v5, v6, v7, v8, v9, v10, v11][k]? = some v) :
    ixAV false 1 12 (.agg #[.nilFunc, v1, v2, v3, v4, v5, v6, v7, v8, v9, v10, v11]) (.int .i64 (k : Int)) = some v := by
  have hk : k < 12 := by have := (List.getElem?_eq_some_iff.1 h).1; simpa using this
  unfold ixAV
  simp only
  rw [if_pos ⟨by omega, by omega⟩]
  unfold fldvV
  simpa using h
theorem apply_spec {b N : Nat} {X F : LH} {m : Mch} {c : TCmd} {cc : List Value} (hM : MOk m N) (hN : N ≤ 5000) (hX : MchR I b X m) (hc : TCmdV I c cc) (hL : Lens c) (hS : fullB m c.fKey = true → SortS) (hsp : c.fKind = 11 → SplitC)
    (hk : PostA K b F I (applyM m c)) : Cal Tryz.prog ω 12 #[pt b, .agg cc.toArray] K I (X ++ F) := by
  have hc' := hc
  have hN2 : N ≤ 10000 := by omega
  obtain ⟨w0, w1, w2, w3, rfl, g0, g1, g2, g3⟩ := hc
  refine cal12 ?_
  unfold sh12
  refine newI (fun b1 => newI (fun b2 => ?_))
  refine rdB rfl ?_
  refine call (right_spec hc' hL ?_)
  try simp only [SSd, Nat.reduceAdd]
  refine br_split (fun e => ?_) (fun e => ?_)
  · have hr : rightP c = false := by simpa using e
    have ea : applyM m c = (failR 140, m, none) := by unfold applyM; rw [if_pos hr]
    rw [ea] at hk
    repeat' (first | (with_reducible refine drawC ?_) | (with_reducible refine drawW1 ?_) | (with_reducible refine drawW2 ?_) | (with_reducible refine keepC (by repeat (first | exact Ext.refl _ | assumption | refine Ext.trans ?_ (by assumption))) ?_) | (with_reducible refine newI (fun _ => ?_)) | ((with_reducible refine call ?_); refine (failed_spec ?_)) | first | (with_reducible refine rdb ?_) | ((with_reducible refine st1 ?_ ?_); rfl) | ((with_reducible refine rdB ?_ ?_); rfl) | (with_reducible refine rdbS ?_) | ((with_reducible refine rdBS ?_ ?_); rfl) | ((with_reducible refine stB ?_ ?_ ?_ ?_); rfl; rfl; exact one_all rfl) | ((with_reducible refine rdP _ rfl ?_ ?_); rfl) | ((with_reducible refine rdPS _ rfl ?_ ?_); rfl) | ((with_reducible refine stP _ rfl ?_ ?_ ?_ ?_); rfl; rfl; rfl) | (with_reducible refine unfE (sh12.eq_1 ..) ?_) | (with_reducible refine And.intro ?_ ?_) | (simp only [Bool.not_true, Bool.not_false, Bool.and_self, Bool.true_and, Int.reduceBEq, Int.reduceBNe, Int.reduceLT, Int.reduceLE, decide_true, decide_false, Br_true, Br_false, Gd_tt, Gd_ft, Gd_tf, Gd_ff, beq_self_eq_true, bne_self_eq_false]) | (with_reducible refine gd_split (fun _ => ?_) (fun _ => ?_)) | (with_reducible refine br_split (fun _ => ?_) (fun _ => ?_)) | (simp only [SSd, Nat.reduceAdd]))
    exact Gh.to (X ++ F) (Gh.done ((hk I X _ (Ext.refl _) hX (rv_V ..)).1 rfl))
  have hr : rightP c = true := by simpa using e
  have ho := rightP_ok hr
  have hkk : kindOk c = true := by
    simp only [rightP, Bool.and_eq_true] at hr; exact hr.2
  have ea : applyM m c = doM m c := by unfold applyM; rw [if_neg (by simp [hr])]
  rw [ea] at hk
  refine drawX X ?_
  refine call (doings_spec (fun I1 v1 v2 v3 v4 v5 v6 v7 v8 v9 v10 hI1 h1 h2 h3 h4 h5 h6 h7 h8 h9 h10 => ?_))
  refine keepC hI1 ?_
  try simp only [SSd, Nat.reduceAdd]
  refine rdbS ?_
  have fin : ∀ (v : Value) (f : FuncId) (x : TRes × Mch), Doing I1 v f → entersB Tryz.prog f = true → Meth ω f I1 m c x.1 x.2 → doM m c = noSplit x →
      (Rv (some (Stay I ((b2, resO) :: (b1, cmdO c w0 w1 w2 w3) :: F))) (ldNR 15 (pt b1)) fun v12 => CalV Tryz.prog ω v #[pt b, v12] (gh fun v13 => Pv (exV v13 0) fun v14 => Pv (exV v13 1) fun v15 => Sto 11 (pt b2) v14 (gh fun _ => Rv none (ldNR 11 (pt b2)) fun v16 => Gh (K (.tuple #[v16, v15]))))) I1
        ((b2, resO) :: (b1, cmdO c w0 w1 w2 w3) :: (X ++ F)) := by
    intro v f x hD he hf hx
    rw [hx] at hk
    refine rdBS rfl ?_
    refine doing_spec (X := X) (F := (b2, resO) :: (b1, cmdO c w0 w1 w2 w3) :: F) hD he (hc'.mono hI1) (hX.mono hI1) hf (fun I' X' cells hI hM' hrr => ?_) (ms_perm (by ((try simp only [ms_cons, ms_app, ms_nil, ms_nil']); (try ac_rfl))))
    have hr1 := hrr.one
    refine Gh.done ?_
    try simp only [SSd, Nat.reduceAdd]
    obtain ⟨x0, x1, rfl, _, _⟩ := id hrr
    refine stB rfl rfl hr1 ?_
    refine rdB rfl ?_
    exact Gh.to (X' ++ F) (Gh.done (hk.plain (hI1.trans hI) hM' hrr))
  have hkd := ho.kind
  have hT : maxB c.fTxn = true := maxB_iff.2 ho.txn
  have h12 : c.fKind = (1 : Nat) ∨ c.fKind = (2 : Nat) ∨ c.fKind = (3 : Nat) ∨ c.fKind = (4 : Nat) ∨ c.fKind = (5 : Nat) ∨ c.fKind = (6 : Nat) ∨ c.fKind = (7 : Nat) ∨ c.fKind = (8 : Nat) ∨ c.fKind = (9 : Nat) ∨ c.fKind = (10 : Nat) ∨ c.fKind = (11 : Nat) := by omega
  rcases h12 with hK | hK | hK | hK | hK | hK | hK | hK | hK | hK | hK
  · have hix := kindIx (v1 := v1) (v2 := v2) (v3 := v3) (v4 := v4) (v5 := v5) (v6 := v6) (v7 := v7) (v8 := v8) (v9 := v9) (v10 := v10) (v11 := .func (.func 104) #[] #[]) 1 v1 rfl
    rw [← hK] at hix
    rw [hix, Pv_some]
    exact fin v1 _ (getM m c) h1 (by kernel_rfl) (fun K b s V SX F cc hc hF hSp hk => getc_spec hM hN2 hS hF hSp hc hk) (by unfold doM; simp [hK])
  · have hix := kindIx (v1 := v1) (v2 := v2) (v3 := v3) (v4 := v4) (v5 := v5) (v6 := v6) (v7 := v7) (v8 := v8) (v9 := v9) (v10 := v10) (v11 := .func (.func 104) #[] #[]) 2 v2 rfl
    rw [← hK] at hix
    rw [hix, Pv_some]
    exact fin v2 _ (scanM m c) h2 (by kernel_rfl) (fun K b s V SX F cc hc hF hSp hk => scanc_spec hM hN2 hF hSp hc hk) (by unfold doM; simp [hK])
  · have hix := kindIx (v1 := v1) (v2 := v2) (v3 := v3) (v4 := v4) (v5 := v5) (v6 := v6) (v7 := v7) (v8 := v8) (v9 := v9) (v10 := v10) (v11 := .func (.func 104) #[] #[]) 3 v3 rfl
    rw [← hK] at hix
    rw [hix, Pv_some]
    exact fin v3 _ (putM m c) h3 (by kernel_rfl) (fun K b s V SX F cc hc hF hSp hk => putc_spec hM hN2 hF hSp hc hk) (by unfold doM; simp [hK])
  · have hix := kindIx (v1 := v1) (v2 := v2) (v3 := v3) (v4 := v4) (v5 := v5) (v6 := v6) (v7 := v7) (v8 := v8) (v9 := v9) (v10 := v10) (v11 := .func (.func 104) #[] #[]) 4 v4 rfl
    rw [← hK] at hix
    rw [hix, Pv_some]
    exact fin v4 _ (refM m c) h4 (by kernel_rfl) (fun K b s V SX F cc hc hF hSp hk => refresh_spec hM hN2 hF hSp hc hk) (by unfold doM; simp [hK])
  · have hix := kindIx (v1 := v1) (v2 := v2) (v3 := v3) (v4 := v4) (v5 := v5) (v6 := v6) (v7 := v7) (v8 := v8) (v9 := v9) (v10 := v10) (v11 := .func (.func 104) #[] #[]) 5 v5 rfl
    rw [← hK] at hix
    rw [hix, Pv_some]
    exact fin v5 _ (begM m c) h5 (by kernel_rfl) (fun K b s V SX F cc hc hF hSp hk => begin_spec hF hM.recs hM.seen hM.seenL hc (fun r m' hx V' hF' => by have := PostK.plain (x := (r, m')) (by rw [hx] at hk; exact hk) (by rw [← hx]; exact begM_plain) hSp hF'; exact this)) (by unfold doM; simp [hK])
  · have hix := kindIx (v1 := v1) (v2 := v2) (v3 := v3) (v4 := v4) (v5 := v5) (v6 := v6) (v7 := v7) (v8 := v8) (v9 := v9) (v10 := v10) (v11 := .func (.func 104) #[] #[]) 6 v6 rfl
    rw [← hK] at hix
    rw [hix, Pv_some]
    exact fin v6 _ (endM m c) h6 (by kernel_rfl) (fun K b s V SX F cc hc hF hSp hk => end_spec hF hM.recs hc (fun r m' hx V' hF' => by have := PostK.plain (x := (r, m')) (by rw [hx] at hk; exact hk) (by rw [← hx]; exact endM_plain) hSp hF'; exact this)) (by unfold doM; simp [hK])
  · have hix := kindIx (v1 := v1) (v2 := v2) (v3 := v3) (v4 := v4) (v5 := v5) (v6 := v6) (v7 := v7) (v8 := v8) (v9 := v9) (v10 := v10) (v11 := .func (.func 104) #[] #[]) 7 v7 rfl
    rw [← hK] at hix
    rw [hix, Pv_some]
    exact fin v7 _ (pushM m c) h7 (by kernel_rfl) (fun K b s V SX F cc hc hF hSp hk => push_spec' hF hM.recs hc (fun r m' hx V' hF' => by have := PostK.plain (x := (r, m')) (by rw [hx] at hk; exact hk) (by rw [← hx]; exact pushM_plain) hSp hF'; exact this)) (by unfold doM; simp [hK])
  · have hix := kindIx (v1 := v1) (v2 := v2) (v3 := v3) (v4 := v4) (v5 := v5) (v6 := v6) (v7 := v7) (v8 := v8) (v9 := v9) (v10 := v10) (v11 := .func (.func 104) #[] #[]) 8 v8 rfl
    rw [← hK] at hix
    rw [hix, Pv_some]
    exact fin v8 _ (forM m c) h8 (by kernel_rfl) (fun K b s V SX F cc hc hF hSp hk => forget_spec hF hc (fun r m' hx V' hF' => by have := PostK.plain (x := (r, m')) (by rw [hx] at hk; exact hk) (by rw [← hx]; exact forM_plain) hSp hF'; exact this)) (by unfold doM; simp [hK])
  · have hix := kindIx (v1 := v1) (v2 := v2) (v3 := v3) (v4 := v4) (v5 := v5) (v6 := v6) (v7 := v7) (v8 := v8) (v9 := v9) (v10 := v10) (v11 := .func (.func 104) #[] #[]) 9 v9 rfl
    rw [← hK] at hix
    rw [hix, Pv_some]
    exact fin v9 _ (resM m c) h9 (by kernel_rfl) (fun K b s V SX F cc hc hF hSp hk => resolvec_spec hM hN hF hSp hc hk) (by unfold doM; simp [hK])
  · have hix := kindIx (v1 := v1) (v2 := v2) (v3 := v3) (v4 := v4) (v5 := v5) (v6 := v6) (v7 := v7) (v8 := v8) (v9 := v9) (v10 := v10) (v11 := .func (.func 104) #[] #[]) 10 v10 rfl
    rw [← hK] at hix
    rw [hix, Pv_some]
    exact fin v10 _ (colM m c) h10 (by kernel_rfl) (fun K b s V SX F cc hc hF hSp hk => collectc_spec hM hN2 hF hSp hc hk) (by unfold doM; simp [hK])
  · have hix := kindIx (v1 := v1) (v2 := v2) (v3 := v3) (v4 := v4) (v5 := v5) (v6 := v6) (v7 := v7) (v8 := v8) (v9 := v9) (v10 := v10) (v11 := .func (.func 104) #[] #[]) 11 _ rfl
    rw [← hK] at hix
    rw [hix, Pv_some]
    have hx : doM m c = splitM m c := by unfold doM; simp [hK]
    rw [hx] at hk
    refine rdBS rfl ?_
    refine calV_fn (by kernel_rfl) ?_
    refine callG (Cal.split X ?_)
    refine hsp hK ω _ _ b N X _ m c _ hM hN (hX.mono hI1) (hc'.mono hI1) (kindOk_11 hkk (.inl hK)) (fun I' X' cells hI hM' hrr => ?_)
    have hr1 := hrr.one
    obtain ⟨k1, k2⟩ := hk I' X' cells (hI1.trans hI) hM' hrr
    obtain ⟨x0, x1, rfl, _, _⟩ := id hrr
    refine ⟨fun hn => ?_, fun m2 b3 X2 hm hX2 => ?_⟩
    · refine Gh.done ?_
      try simp only [SSd, Nat.reduceAdd]
      refine stB rfl rfl hr1 ?_
      refine rdB rfl ?_
      exact Gh.to (X' ++ F) (Gh.done (k1 hn))
    · refine Gh.done ?_
      try simp only [SSd, Nat.reduceAdd]
      refine stB rfl rfl hr1 ?_
      refine rdB rfl ?_
      exact Gh.to (X' ++ (X2 ++ F)) (Gh.done (k2 m2 b3 X2 hm hX2))
end
end Go.Proofs.YtmmfcgbfbcamcaaGreatDoor
-- S3
set_option linter.unusedSimpArgs false
set_option linter.unusedVariables false
namespace Go.Proofs.YtmmfcgbfbcamcaaGreatDoor
open Go.SL
set_option maxRecDepth 10000
def nB (n : Int) : List UInt8 := varL n.toNat
def numsI (l : List Int) : List UInt8 := l.flatMap nB
def txtB (b : List UInt8) : List UInt8 := varL b.length ++ b
def stmB (s : TStamp) : List UInt8 := nB s.fWall ++ nB s.fLogic
def bitB (t : Bool) : List UInt8 := nB (if t = true then 1 else 0)
theorem nB_9 {n : Int} (h : maxI n) : (nB n).length ≤ 9 := varL_9 (n := n.toNat) (by have := h.2; have := h.1; omega)
theorem numsI_len : ∀ {l : List Int}, (∀ n ∈ l, maxI n) → (numsI l).length ≤ 9 * l.length
  | [], _ => by simp [numsI]
  | n :: l, h => by
    have h1 := nB_9 (h n (List.mem_cons_self ..))
    have h2 := numsI_len (l := l) (fun m hm => h m (List.mem_cons_of_mem _ hm))
    simp only [numsI, List.flatMap_cons, List.length_append, List.length_cons] at h2 ⊢
    omega
theorem txtB_len {b : List UInt8} (h : b.length ≤ 9007199254740991) : (txtB b).length ≤ 9 + b.length := by
  have := varL_9 (n := b.length) (by omega)
  simp only [txtB, List.length_append]; omega
theorem stmB_len {s : TStamp} (h : rightB s = true) : (stmB s).length ≤ 18 := by
  have h := rightB_max h
  have h1 := nB_9 h.1
  have h2 := nB_9 h.2
  simp only [stmB, List.length_append]; omega
theorem bit_max (t : Bool) : maxI (if t = true then 1 else 0) := by cases t <;> simp [maxI]
theorem bitB_len (t : Bool) : (bitB t).length ≤ 9 := nB_9 (bit_max t)
/-! ### What a reader may find -/
structure NumP (b : List UInt8) (bad : Bool) (n : Int) (b' : List UInt8) (bad' : Bool) : Prop where
  max : maxI n
  len : b'.length ≤ b.length
  get : ∀ (m : Int) (rest : List UInt8), maxI m → b = nB m ++ rest → n = m ∧ b' = rest ∧ bad' = bad
structure StP (b : List UInt8) (bad : Bool) (s : TStamp) (b' : List UInt8) (bad' : Bool) : Prop where
  max : maxI s.fWall ∧ maxI s.fLogic
  len : b'.length ≤ b.length
  get : ∀ (x : TStamp) (rest : List UInt8), rightB x = true → b = stmB x ++ rest → s = x ∧ b' = rest ∧ bad' = bad
structure TxP (b : List UInt8) (bad : Bool) (t : List UInt8) (b' : List UInt8) (bad' : Bool) : Prop where
  tlen : t.length ≤ b.length
  len : b'.length ≤ b.length
  get : ∀ (x rest : List UInt8), x.length ≤ 9007199254740991 → b = txtB x ++ rest → t = x ∧ b' = rest ∧ bad' = bad
structure BitP (b : List UInt8) (bad : Bool) (t : Bool) (b' : List UInt8) (bad' : Bool) : Prop where
  len : b'.length ≤ b.length
  get : ∀ (x : Bool) (rest : List UInt8), b = bitB x ++ rest → t = x ∧ b' = rest ∧ bad' = bad
end Go.Proofs.YtmmfcgbfbcamcaaGreatDoor
-- S3
set_option linter.unusedSimpArgs false
set_option linter.unusedVariables false
namespace Go.Proofs.YtmmfcgbfbcamcaaGreatDoor
open Go.SL
set_option maxRecDepth 10000
section
variable {ω : Om} {I : Imm} {L : LH} {K : Value → M}
theorem ints_fresh {A : M} {F : LH} {bv T : Nat} {ns : List Int} (hk : ∀ I', Ext I I' → Ints I' (.slice (some ⟨bv, 0, none⟩) ns.length ns.length) ns → Gh A I' F) : Gh A I ((bv, .cells (i64s ns).toArray T (0, 0)) :: F) :=
  Gh.freeze fun hext => hk _ hext ⟨by simp [i64s], _, _, rfl, Nat.le_refl _, fun _ => ⟨bv, 0, (i64s ns).toArray, T, (0, 0), rfl, by simp [Imm.put], fun j u hu => by simpa using hu⟩⟩
theorem bldI1 {F : LH} {a : Int} (hk : ∀ u I', Ext I I' → Ints I' u [a] → K u I' F) : BldS 3 1 #[.int .i64 0] 1 [(0, .int .i64 a)] (gh K) I F :=
  ⟨#[.int .i64 a], by kernel_rfl, fun bb => ints_fresh (ns := [a]) fun I' hI hU => Gh.done (hk _ I' hI hU)⟩
theorem bldI2 {F : LH} {a b : Int} (hk : ∀ u I', Ext I I' → Ints I' u [a, b] → K u I' F) : BldS 3 1 #[.int .i64 0] 2 [(0, .int .i64 a), (1, .int .i64 b)] (gh K) I F :=
  ⟨#[.int .i64 a, .int .i64 b], by kernel_rfl, fun bb => ints_fresh (ns := [a, b]) fun I' hI hU => Gh.done (hk _ I' hI hU)⟩
theorem bldI4 {F : LH} {a b c d : Int} (hk : ∀ u I', Ext I I' → Ints I' u [a, b, c, d] → K u I' F) : BldS 3 1 #[.int .i64 0] 4 [(0, .int .i64 a), (1, .int .i64 b), (2, .int .i64 c), (3, .int .i64 d)] (gh K) I F :=
  ⟨#[.int .i64 a, .int .i64 b, .int .i64 c, .int .i64 d], by kernel_rfl, fun bb => ints_fresh (ns := [a, b, c, d]) fun I' hI hU => Gh.done (hk _ I' hI hU)⟩
abbrev wrO (v : Value) : Obj := .cells #[v] 141 (0, 0)
theorem numsI_take {ns : List Int} {i : Nat} (hi : i < ns.length) : numsI (ns.take (i + 1)) = numsI (ns.take i) ++ nB ns[i] := by
  unfold numsI; rw [take_snoc hi, List.flatMap_append]; simp
theorem nums_spec {w : Nat} {v u : Value} {Y F : LH} {l : List UInt8} {ns : List Int} (hO : OB Y v l) (hU : Ints I u ns) (hns : ∀ n ∈ ns, maxI n) (hl : l.length + 9 * ns.length ≤ 1000000000000)
    (hk : ∀ Y' v' I', Ext I I' → OB Y' v' (l ++ numsI ns) → K (.tuple #[]) I' ((w, wrO v') :: (Y' ++ F))) : Cal Tryz.prog ω 61 #[pt w, u] K I ((w, wrO v) :: (Y ++ F)) := by
  refine cal61 ?_
  unfold sh61
  simp only [Ints.len hU, SSd, Nat.reduceAdd]
  refine loop (fun n (s : Value × Unit) I' L' => ∃ (i : Nat) (Y' : LH) (v' : Value), n + i = ns.length ∧ s = (.int .i64 i, ()) ∧ Ext I I' ∧ OB Y' v' (l ++ numsI (ns.take i)) ∧ L' = (w, wrO v') :: (Y' ++ F)) ns.length ⟨0, Y, v, rfl, rfl, Ext.refl _, by simpa [numsI] using hO, rfl⟩ ?_
  rintro n s I' L' ⟨i, Y', v', hn, rfl, hI, hO', rfl⟩
  unfold sh61_1
  try simp only [SSd, Nat.reduceAdd]
  refine br_split (fun e => ?_) (fun e => ?_)
  · have hi : i < ns.length := by simpa using e
    obtain ⟨bb, off, hix, hc⟩ := ints_at (hU.mono hI) (i := (i : Int)) (by omega) (by omega)
    rw [geti_nat hi] at hc
    have hm := hns _ (List.getElem_mem hi)
    have hnext := numsI_take hi
    have hlen : (l ++ numsI (ns.take i)).length ≤ l.length + 9 * i := by
      have h1 := numsI_len (l := ns.take i) (fun n hn => hns n (List.mem_of_mem_take hn))
      rw [List.length_take] at h1
      rw [List.length_append]; omega
    have h9 := nB_9 hm
    simp only [hix, SSd, Nat.reduceAdd]
    refine rd1 (hc _ _ (Ext.refl _)) ?_
    refine drawC ?_
    try simp only [SSd, Nat.reduceAdd]
    refine rdbS ?_
    try simp only [SSd, Nat.reduceAdd]
    obtain ⟨nn, hnn⟩ : ∃ nn : Nat, ns[i] = (nn : Int) := ⟨ns[i].toNat, by have := hm.1; omega⟩
    have hnb : nB ns[i] = varL nn := by unfold nB; rw [hnn]; rfl
    have hnx : nn ≤ 9007199254740991 := by have := hm.2; omega
    rw [hnb] at hnext h9
    rw [hnn, wrap_u64 _ (by omega) (by omega)]
    refine call (number_spec (by omega) (fun x I2 hI2 hB => ?_))
    refine keepC hI2 ?_
    refine ob_app (X6 := Y') (y := varL nn) hO' (SlI.news hB) (by omega) (fun Y2 v2 hO2 => ?_)
    obtain ⟨va, vc, rfl⟩ := hO2.form
    try simp only [SSd, Nat.reduceAdd]
    refine st1 rfl ?_
    rw [wrap_i64 _ (by omega)]
    refine Gh.to ((w, wrO (.slice va (l ++ numsI (ns.take i) ++ varL nn).length vc)) :: (Y2 ++ F)) (Gh.done ⟨n - 1, by omega, i + 1, Y2, _, by omega, rfl, hI.trans hI2, ?_, rfl⟩)
    rw [hnext, ← List.append_assoc]; exact hO2
  · have hi : i = ns.length := by
      have : ¬ i < ns.length := by simpa using e
      omega
    rw [hi, List.take_length] at hO'
    exact Gh.done (hk Y' v' I' hI hO')
theorem wstamp_spec {w : Nat} {v : Value} {Y F : LH} {l : List UInt8} {x : TStamp} (hO : OB Y v l) (hx : rightB x = true) (hl : l.length ≤ 100000000000)
    (hk : ∀ Y' v' I', Ext I I' → OB Y' v' (l ++ stmB x) → K (.tuple #[]) I' ((w, wrO v') :: (Y' ++ F))) : Cal Tryz.prog ω 62 #[pt w, sv x] K I ((w, wrO v) :: (Y ++ F)) := by
  have hm := rightB_max hx
  refine cal62 ?_
  unfold sh62
  refine newI (fun b1 => ?_)
  try simp only [SSd, Nat.reduceAdd]
  refine rdb ?_
  try simp only [SSd, Nat.reduceAdd]
  refine rdb ?_
  refine bldI2 (fun u I1 hI1 hU => ?_)
  refine call (Cal.to ((w, wrO v) :: (Y ++ F)) (nums_spec hO hU (by simp [hm.1, hm.2]) (by simp; omega) (fun Y' v' I' hI hO' => ?_)))
  refine Gh.done (hk Y' v' I' (hI1.trans hI) ?_)
  simpa [numsI, stmB] using hO'
theorem wtruth_spec {w : Nat} {v : Value} {Y F : LH} {l : List UInt8} {t : Bool} (hO : OB Y v l) (hl : l.length ≤ 100000000000)
    (hk : ∀ Y' v' I', Ext I I' → OB Y' v' (l ++ bitB t) → K (.tuple #[]) I' ((w, wrO v') :: (Y' ++ F))) : Cal Tryz.prog ω 63 #[pt w, .bool t] K I ((w, wrO v) :: (Y ++ F)) := by
  refine cal63 ?_
  unfold sh63
  have hm := bit_max t
  cases t with
  | true =>
    try simp only [SSd, Nat.reduceAdd]
    refine bldI1 (fun u I1 hI1 hU => ?_)
    refine call (nums_spec hO hU (by simpa using hm) (by simp; omega) (fun Y' v' I' hI hO' => ?_))
    refine Gh.done (hk Y' v' I' (hI1.trans hI) ?_)
    simpa [numsI, bitB] using hO'
  | false =>
    try simp only [SSd, Nat.reduceAdd]
    refine bldI1 (fun u I1 hI1 hU => ?_)
    refine call (nums_spec hO hU (by simpa using hm) (by simp; omega) (fun Y' v' I' hI hO' => ?_))
    refine Gh.done (hk Y' v' I' (hI1.trans hI) ?_)
    simpa [numsI, bitB] using hO'
theorem wtext_spec {w : Nat} {v t : Value} {Y F : LH} {l x : List UInt8} (hO : OB Y v l) (hB : Bytes I t x) (hl : l.length ≤ 100000000000) (hx : x.length ≤ 10000000000)
    (hk : ∀ Y' v' I', Ext I I' → OB Y' v' (l ++ txtB x) → K (.tuple #[]) I' ((w, wrO v') :: (Y' ++ F))) : Cal Tryz.prog ω 64 #[pt w, t] K I ((w, wrO v) :: (Y ++ F)) := by
  refine cal64 ?_
  unfold sh64
  simp only [Bytes.len hB, SSd, Nat.reduceAdd]
  have h9 := nB_9 (n := (x.length : Int)) ⟨by omega, by omega⟩
  refine bldI1 (fun u I1 hI1 hU => ?_)
  refine call (nums_spec hO hU (by simp only [List.mem_singleton]; rintro n rfl; exact ⟨by omega, by omega⟩) (by simp; omega) (fun Y1 v1 I2 hI2 hO1 => ?_))
  have e1 : numsI [(x.length : Int)] = varL x.length := by simp [numsI, nB]
  rw [e1] at hO1
  have e2 : nB (x.length : Int) = varL x.length := by simp [nB]
  rw [e2] at h9
  try simp only [SSd, Nat.reduceAdd]
  refine rdb ?_
  refine ob_app (X6 := Y1) (y := x) hO1 (SlI.news (hB.mono (hI1.trans hI2))) (by rw [List.length_append]; omega) (fun Y2 v2 hO2 => ?_)
  obtain ⟨va, vc, rfl⟩ := hO2.form
  try simp only [SSd, Nat.reduceAdd]
  refine st1 rfl ?_
  refine Gh.to ((w, wrO (.slice va (l ++ varL x.length ++ x).length vc)) :: (Y2 ++ F)) (Gh.done (hk Y2 _ I2 (hI1.trans hI2) ?_))
  rw [txtB, ← List.append_assoc]; exact hO2
end
end Go.Proofs.YtmmfcgbfbcamcaaGreatDoor
-- S3
set_option linter.unusedSimpArgs false
set_option linter.unusedVariables false
namespace Go.Proofs.YtmmfcgbfbcamcaaGreatDoor
open Go.SL
set_option maxRecDepth 10000
section
variable {ω : Om} {I : Imm} {L : LH} {K : Value → M}
theorem or_addU {n y i : Nat} (h : n < 2 ^ i) (hs : n + y * 2 ^ i < 9223372036854775808) : bitsV .or .u64 (n : Int) ((y * 2 ^ i : Nat) : Int) = ((n + y * 2 ^ i : Nat) : Int) := by
  have e : ((BitVec.ofInt 64 (n : Int)) ||| (BitVec.ofInt 64 ((y * 2 ^ i : Nat) : Int))).toNat = n + y * 2 ^ i := by
    rw [BitVec.toNat_or]
    have e1 : (BitVec.ofInt 64 (n : Int)).toNat = n := by rw [BitVec.toNat_ofInt]; omega
    have e2 : (BitVec.ofInt 64 ((y * 2 ^ i : Nat) : Int)).toNat = y * 2 ^ i := by
      rw [BitVec.toNat_ofInt]
      generalize y * 2 ^ i = z at *
      omega
    rw [e1, e2, Nat.or_comm, Nat.mul_comm, ← Nat.two_pow_add_eq_or_of_lt h]
    exact Nat.add_comm _ _
  show IntKind.u64.wrap ((BitVec.ofInt 64 (n : Int)) ||| (BitVec.ofInt 64 ((y * 2 ^ i : Nat) : Int))).toNat = _
  rw [e]
  exact wrap_u64 _ (by omega) (by omega)
theorem and_u8 : ∀ x : Fin 256, bitsV .and .u8 ((x.val : Nat) : Int) 127 = ((x.val % 128 : Nat) : Int) := by decide
theorem pow128 (i : Nat) : (128 : Nat) ^ i = 2 ^ (7 * i) := by rw [show (128 : Nat) = 2 ^ 7 from rfl, ← Nat.pow_mul]
theorem shl7 {y i : Nat} (hi : i ≤ 7) (hy : y * 128 ^ i < 9223372036854775808) : binIV .shl (.int .u64 (y : Int)) (.int .i64 (7 * (i : Int))) = some (.int .u64 ((y * 2 ^ (7 * i) : Nat) : Int)) := by
  have h := binI_shl (a := (y : Int)) (c := 7 * (i : Int)) .u64 .i64 (by omega)
  have e1 : (min (7 * (i : Int)).toNat IntKind.u64.bits) = 7 * i := by
    show min _ 64 = _
    omega
  rw [pow128] at hy
  rw [e1, wrap_u64 _ (by
    have : (0 : Int) ≤ 2 ^ (7 * i) := Int.le_of_lt (Int.pow_pos (by decide))
    exact Int.mul_nonneg (Int.natCast_nonneg y) this) (by
    have : ((y * 2 ^ (7 * i) : Nat) : Int) < 18446744073709551616 := by omega
    rw [Int.natCast_mul, Int.natCast_pow] at this
    exact this)] at h
  rw [h]
  congr 2
theorem byte_at {l : List UInt8} {c : UInt8} {d r : List UInt8} (h : l = d ++ c :: r) (hd : d.length < l.length) : l[d.length] = c := by
  subst h; simp
theorem taken_spec {v : Value} {n : Nat} {rest : List UInt8} (h : Bytes I v (varL n ++ rest)) (hn : n ≤ 9007199254740991) (hk : K (.tuple #[.int .u64 n, .int .i64 (varL n).length, .int .i64 0]) I L) : Cal Tryz.prog ω 124 #[v] K I L := by
  refine cal124 ?_
  unfold sh124
  refine loop (fun q t I' L' => I' = I ∧ L' = L ∧ ∃ (i m acc : Nat) (d : List UInt8), q + i = 8 ∧ t = (.int .u64 0, .int .i64 0, .int .i64 0, .int .u64 acc, .int .i64 i, ()) ∧ varL n = d ++ varL m ∧ d.length = i ∧ n = acc + m * 128 ^ i ∧ acc < 128 ^ i ∧ (0 < i → m ≠ 0)) 8 ⟨rfl, rfl, 0, n, 0, [], rfl, rfl, rfl, rfl, by simp, by simp, by omega⟩ ?_
  rintro q t I' L' ⟨rfl, rfl, i, m, acc, d, hqi, rfl, he, hd, hnn, hacc, hm0⟩
  have hi7 : i ≤ 7 := by
    by_cases h8 : i = 8
    · subst h8
      have hm := hm0 (by omega)
      have : 1 * 128 ^ 8 ≤ m * 128 ^ 8 := Nat.mul_le_mul_right _ (by omega)
      omega
    · omega
  have hmn : m * 128 ^ i ≤ 9007199254740991 := by omega
  have hmm : m ≤ 9007199254740991 := Nat.le_trans (Nat.le_mul_of_pos_right _ (Nat.pow_pos (by decide))) hmn
  obtain ⟨c, r, hc, hcs⟩ : ∃ c r, varL m = c :: r ∧ ((m < 128 ∧ c = UInt8.ofNat m ∧ r = []) ∨ (¬ m < 128 ∧ c = UInt8.ofNat (m % 128 + 128) ∧ r = varL (m / 128))) := by
    by_cases h1 : m < 128
    · exact ⟨_, _, varL_small h1, .inl ⟨h1, rfl, rfl⟩⟩
    · exact ⟨_, _, varL_big h1, .inr ⟨h1, rfl, rfl⟩⟩
  have hl : varL n ++ rest = d ++ c :: (r ++ rest) := by rw [he, hc]; simp
  have hlen : d.length < (varL n ++ rest).length := by rw [hl]; simp
  unfold sh124_1
  obtain ⟨b, off, hix, hcell⟩ := Bytes.at (k := i) h (by omega)
  have hbyte : (varL n ++ rest)[i]'(by omega) = c := by
    have := byte_at hl hlen
    simpa [hd] using this
  rw [hbyte] at hcell
  have hne : ((i : Int) == ((varL n ++ rest).length : Int)) = false := by
    simp only [beq_eq_false_iff_ne, ne_eq]; omega
  try simp only [SSd, Nat.reduceAdd]
  refine br_split (fun e => ?_) (fun e => absurd e (by simp; omega))
  simp only [Bytes.len h, hne, hix, SSd, Nat.reduceAdd]
  refine rd1 (hcell _ _ (Ext.refl _)) ?_
  have hand := and_u8 ⟨c.toNat, c.toNat_lt⟩
  simp only at hand
  have hct := c.toNat_lt
  have hcm : c.toNat % 128 = m % 128 := by
    rcases hcs with ⟨h1, rfl, _⟩ | ⟨h1, rfl, _⟩ <;> simp <;> omega
  have hle : m % 128 * 128 ^ i ≤ m * 128 ^ i := Nat.mul_le_mul_right _ (Nat.mod_le _ _)
  have w7 : IntKind.i64.wrap (7 * (i : Int)) = 7 * (i : Int) := wrap_i64 _ (by omega)
  have wu : IntKind.u64.wrap ((m % 128 : Nat) : Int) = ((m % 128 : Nat) : Int) := wrap_u64 _ (by omega) (by omega)
  have hor := or_addU (n := acc) (y := m % 128) (i := 7 * i) (by rw [← pow128]; exact hacc) (by rw [← pow128]; omega)
  simp only [hand, hcm, w7, wu, shl7 hi7 (show m % 128 * 128 ^ i < 9223372036854775808 by omega), hor, SSd, Nat.reduceAdd]
  rw [← pow128]
  generalize hP : 128 ^ i = P at *
  refine br_split (fun e2 => ?_) (fun e2 => ?_)
  · obtain ⟨h1, h2, h3⟩ : ¬ m < 128 ∧ c = UInt8.ofNat (m % 128 + 128) ∧ r = varL (m / 128) := by
      rcases hcs with ⟨h1, h2, _⟩ | h
      · subst h2; simp at e2; omega
      · exact h
    rw [wrap_i64 _ (by omega)]
    have hpow : 128 ^ (i + 1) = P * 128 := by rw [Nat.pow_succ, hP]
    have hsplit : m * P = m % 128 * P + m / 128 * (P * 128) := by
      conv => lhs; rw [← Nat.mod_add_div m 128]
      rw [Nat.add_mul, Nat.mul_comm P 128, ← Nat.mul_assoc, Nat.mul_comm (m / 128) 128]
    refine Gh.done ⟨q - 1, by omega, rfl, rfl, i + 1, m / 128, acc + m % 128 * P, d ++ [c], by omega, rfl, ?_, by simp [hd], ?_, ?_, fun _ => by omega⟩
    · rw [he, hc, h3]; simp
    · rw [hpow]; omega
    · have : m % 128 * P ≤ 127 * P := Nat.mul_le_mul_right _ (by omega)
      rw [hpow]; omega
  · obtain ⟨h1, h2, h3⟩ : m < 128 ∧ c = UInt8.ofNat m ∧ r = [] := by
      rcases hcs with h | ⟨h1, h2, _⟩
      · exact h
      · subst h2; simp at e2; omega
    have hcn : c.toNat = m := by subst h2; simp; omega
    have hmm2 : m % 128 = m := Nat.mod_eq_of_lt h1
    have hL : (varL n).length = i + 1 := by rw [he, hc, h3]; simp [hd]
    rw [hmm2, ← hnn, hcn]
    have fin : sh124_3 ω (.int .u64 0) (.int .i64 0) (.int .i64 0) (.int .u64 n) (.int .i64 i) (.int .u8 m) (.bool false) (fun v => Gh (K v)) I' L' := by
      unfold sh124_3
      have h9 : ((i : Int) == 9) = false := by simp; omega
      simp only [h9, SSd, Nat.reduceAdd]
      unfold sh124_2
      try simp only [SSd, Nat.reduceAdd]
      rw [wrap_i64 _ (by omega)]
      rw [hL] at hk
      exact Gh.done hk
    refine gd_split (fun e3 => ?_) (fun e3 => fin)
    have hmz : ((m : Int) == 0) = false := by
      have := hm0 (by simp at e3; omega)
      simp; omega
    simp only [hmz, SSd, Nat.reduceAdd]
    exact fin
theorem uwrap_range (n : Int) : 0 ≤ IntKind.u64.wrap n ∧ IntKind.u64.wrap n < 18446744073709551616 := by
  unfold IntKind.wrap
  simp only [IntKind.signed, Bool.false_and, Bool.false_eq_true, if_false]
  exact ⟨Int.emod_nonneg _ (by decide), Int.emod_lt_of_pos _ (by decide)⟩
theorem or_range (a b : Int) : 0 ≤ bitsV .or .u64 a b ∧ bitsV .or .u64 a b < 18446744073709551616 := uwrap_range _
theorem takeg_spec {v : Value} {l : List UInt8} (h : Bytes I v l) (hl : l.length ≤ 140737488355328)
    (hk : ∀ (n : Int) (size : Nat) (e : Int), 0 ≤ n → n < 18446744073709551616 → (e = 0 → size ≤ l.length) → K (.tuple #[.int .u64 n, .int .i64 size, .int .i64 e]) I L) : Cal Tryz.prog ω 124 #[v] K I L := by
  refine cal124 ?_
  unfold sh124
  refine loop (fun q (t : Value × Value × Value × Value × Value × Unit) I' L' => I' = I ∧ L' = L ∧ ∃ (i : Nat) (acc : Int), q + i = 10 ∧ t = (.int .u64 0, .int .i64 0, .int .i64 0, .int .u64 acc, .int .i64 i, ()) ∧ i ≤ l.length) 10 ⟨rfl, rfl, 0, 0, rfl, rfl, Nat.zero_le _⟩ ?_
  rintro q t I' L' ⟨rfl, rfl, i, acc, hqi, rfl, hil⟩
  unfold sh124_1
  simp only [Bytes.len h, SSd, Nat.reduceAdd]
  refine br_split (fun e => ?_) (fun e => ?_)
  · have hi : i < 10 := by
      have : (i : Int) < 10 := by simpa using e
      omega
    refine br_split (fun e2 => ?_) (fun e2 => ?_)
    · exact Gh.done (hk 0 0 10 (by omega) (by omega) (by omega))
    · have hlt : i < l.length := by simp at e2; omega
      obtain ⟨b, off, hix, hcell⟩ := Bytes.at (k := i) h hlt
      simp only [hix, SSd, Nat.reduceAdd]
      refine rd1 (hcell _ _ (Ext.refl _)) ?_
      generalize l[i] = c at *
      have hand := and_u8 ⟨c.toNat, c.toNat_lt⟩
      simp only at hand
      have w7 : IntKind.i64.wrap (7 * (i : Int)) = 7 * (i : Int) := wrap_i64 _ (by omega)
      have wi : IntKind.i64.wrap ((i : Int) + 1) = ((i + 1 : Nat) : Int) := by rw [wrap_i64 _ (by omega)]; rfl
      simp only [hand, w7, binI_shl (a := IntKind.u64.wrap ((c.toNat % 128 : Nat) : Int)) (c := 7 * (i : Int)) .u64 .i64 (by omega), SSd, Nat.reduceAdd]
      have hr := or_range acc (IntKind.u64.wrap (IntKind.u64.wrap ((c.toNat % 128 : Nat) : Int) * 2 ^ (min (7 * (i : Int)).toNat IntKind.u64.bits)))
      generalize bitsV .or .u64 acc (IntKind.u64.wrap (IntKind.u64.wrap ((c.toNat % 128 : Nat) : Int) * 2 ^ (min (7 * (i : Int)).toNat IntKind.u64.bits))) = acc2 at *
      have f2 : ∀ t : Bool, sh124_2 ω (.int .u64 0) (.int .i64 0) (.int .i64 0) (.int .u64 acc2) (.int .i64 i) (.bool t) (fun v => Gh (K v)) I' L' := by
        intro t
        unfold sh124_2
        try simp only [SSd, Nat.reduceAdd]
        refine br_split (fun _ => ?_) (fun _ => ?_)
        · exact Gh.done (hk 0 0 11 (by omega) (by omega) (by omega))
        · rw [wi]
          exact Gh.done (hk acc2 (i + 1) 0 hr.1 hr.2 (fun _ => hlt))
      have f3 : ∀ t : Bool, sh124_3 ω (.int .u64 0) (.int .i64 0) (.int .i64 0) (.int .u64 acc2) (.int .i64 i) (.int .u8 c.toNat) (.bool t) (fun v => Gh (K v)) I' L' := by
        intro t
        unfold sh124_3
        try simp only [SSd, Nat.reduceAdd]
        refine gd_split (fun _ => f2 _) (fun _ => f2 _)
      refine br_split (fun e3 => ?_) (fun e3 => ?_)
      · rw [wi]
        exact Gh.done ⟨q - 1, by omega, rfl, rfl, i + 1, acc2, by omega, rfl, hlt⟩
      · refine gd_split (fun e4 => ?_) (fun e4 => f3 _)
        refine br_split (fun e5 => ?_) (fun e5 => ?_)
        · rw [e5]; exact f2 true
        · rw [e5]; exact f3 false
  · exact Gh.done (hk 0 0 11 (by omega) (by omega) (by omega))
theorem varL_inj : ∀ (k m n : Nat) (r s : List UInt8), m < 128 ^ k → n < 128 ^ k → varL m ++ r = varL n ++ s → m = n ∧ r = s
  | 0, m, n, r, s, hm, hn, h => by
    have h0 : m = 0 := by omega
    have h1 : n = 0 := by omega
    subst h0 h1
    simpa using h
  | k + 1, m, n, r, s, hm, hn, h => by
    have b1 : ∀ x : Nat, x < 128 → (UInt8.ofNat x).toNat = x := fun x hx => by simp; omega
    have b2 : ∀ x : Nat, (UInt8.ofNat (x % 128 + 128)).toNat = x % 128 + 128 := fun x => by simp; omega
    by_cases h1 : m < 128 <;> by_cases h2 : n < 128
    · rw [varL_small h1, varL_small h2] at h
      simp only [List.cons_append, List.nil_append, List.cons.injEq] at h
      have := congrArg UInt8.toNat h.1
      rw [b1 m h1, b1 n h2] at this
      exact ⟨this, h.2⟩
    · rw [varL_small h1, varL_big h2] at h
      simp only [List.cons_append, List.nil_append, List.cons.injEq] at h
      have := congrArg UInt8.toNat h.1
      rw [b1 m h1, b2 n] at this; omega
    · rw [varL_big h1, varL_small h2] at h
      simp only [List.cons_append, List.nil_append, List.cons.injEq] at h
      have := congrArg UInt8.toNat h.1
      rw [b1 n h2, b2 m] at this; omega
    · rw [varL_big h1, varL_big h2] at h
      simp only [List.cons_append, List.cons.injEq] at h
      have := congrArg UInt8.toNat h.1
      rw [b2 m, b2 n] at this
      have hp : 128 ^ (k + 1) = 128 * 128 ^ k := by rw [Nat.pow_succ, Nat.mul_comm]
      have ih := varL_inj k (m / 128) (n / 128) r s (by omega) (by omega) h.2
      exact ⟨by omega, ih.2⟩
theorem nB_inj {m n : Int} {r s : List UInt8} (hm : maxI m) (hn : maxI n) (h : nB m ++ r = nB n ++ s) : m = n ∧ r = s := by
  have := varL_inj 9 m.toNat n.toNat r s (by have := hm.2; have := hm.1; omega) (by have := hn.2; have := hn.1; omega) h
  have h1 := hm.1
  have h2 := hn.1
  exact ⟨by omega, this.2⟩
abbrev rdO (v : Value) (bad : Bool) : Obj := .cells #[v, .bool bad] 152 (0, 0)
theorem rnum_spec {r : Nat} {v : Value} {b : List UInt8} {bad : Bool} {F : LH} (hB : Bytes I v b) (hl : b.length ≤ 140737488355328)
    (hk : ∀ n v' b' bad', Bytes I v' b' → NumP b bad n b' bad' → K (.int .i64 n) I ((r, rdO v' bad') :: F)) : Cal Tryz.prog ω 71 #[pt r] K I ((r, rdO v bad) :: F) := by
  obtain ⟨va, vc, rfl⟩ := Bytes.form hB
  refine cal71 ?_
  unfold sh71
  try simp only [SSd, Nat.reduceAdd]
  refine rdb ?_
  by_cases hx : ∃ (m : Int) (rest : List UInt8), maxI m ∧ b = nB m ++ rest
  · obtain ⟨m, rest, hm, hb⟩ := hx
    have hmn : m = ((m.toNat : Nat) : Int) := by have := hm.1; omega
    have hm2 : m.toNat ≤ 9007199254740991 := by have := hm.2; omega
    have hB2 : Bytes I (.slice va b.length vc) (varL m.toNat ++ rest) := by rw [show varL m.toNat ++ rest = b from hb.symm]; exact hB
    obtain ⟨v', hs, hB'⟩ := Bytes.drop (n := (varL m.toNat).length) hB2 (by simp)
    rw [List.drop_left] at hB'
    obtain ⟨va', vc', rfl⟩ := Bytes.form hB'
    have hP : NumP b bad m rest bad := ⟨hm, by rw [hb]; simp, fun m' rest' hm' h' => by
      obtain ⟨h1, h2⟩ := nB_inj hm hm' (by rw [← hb]; exact h')
      exact ⟨h1, h2, rfl⟩⟩
    have hgt : decide ((9007199254740991 : Int) < ((m.toNat : Nat) : Int)) = false := by simp; omega
    refine call (taken_spec hB2 hm2 ?_)
    simp only [hgt, bne_self_eq_false, SSd, Nat.reduceAdd]
    refine rdb ?_
    simp only [hs, SSd, Nat.reduceAdd]
    refine st1 rfl ?_
    try simp only [SSd, Nat.reduceAdd]
    rw [wrap_i64 _ (by omega), ← hmn]
    exact Gh.done (hk m _ rest bad hB' hP)
  · have bd : sh71_1 ω (pt r) (.int .i64 0) (fun v => Gh (K v)) I ((r, rdO (.slice va b.length vc) bad) :: F) := by
      repeat' (first | (with_reducible refine drawC ?_) | (with_reducible refine drawW1 ?_) | (with_reducible refine drawW2 ?_) | (with_reducible refine keepC (by repeat (first | exact Ext.refl _ | assumption | refine Ext.trans ?_ (by assumption))) ?_) | (with_reducible refine newI (fun _ => ?_)) | first | (with_reducible refine rdb ?_) | ((with_reducible refine st1 ?_ ?_); rfl) | ((with_reducible refine rdB ?_ ?_); rfl) | (with_reducible refine rdbS ?_) | ((with_reducible refine rdBS ?_ ?_); rfl) | ((with_reducible refine stB ?_ ?_ ?_ ?_); rfl; rfl; exact one_all rfl) | ((with_reducible refine rdP _ rfl ?_ ?_); rfl) | ((with_reducible refine rdPS _ rfl ?_ ?_); rfl) | ((with_reducible refine stP _ rfl ?_ ?_ ?_ ?_); rfl; rfl; rfl) | (with_reducible refine unfE (sh71_1.eq_1 ..) ?_) | (with_reducible refine unfE (sh71.eq_1 ..) ?_) | (with_reducible refine And.intro ?_ ?_) | (simp only [Bool.not_true, Bool.not_false, Bool.and_self, Bool.true_and, Int.reduceBEq, Int.reduceBNe, Int.reduceLT, Int.reduceLE, decide_true, decide_false, Br_true, Br_false, Gd_tt, Gd_ft, Gd_tf, Gd_ff, beq_self_eq_true, bne_self_eq_false]) | (with_reducible refine gd_split (fun _ => ?_) (fun _ => ?_)) | (with_reducible refine br_split (fun _ => ?_) (fun _ => ?_)) | (simp only [SSd, Nat.reduceAdd]))
      exact Gh.done (hk 0 _ [] true (bnil I) ⟨⟨by omega, by omega⟩, Nat.zero_le _, fun m rest hm h => absurd ⟨m, rest, hm, h⟩ hx⟩)
    refine call (takeg_spec hB hl (fun n size e hn0 hn1 hsz => ?_))
    try simp only [SSd, Nat.reduceAdd]
    refine gd_split (fun e1 => ?_) (fun e1 => bd)
    have he : e = 0 := by simpa using e1
    refine br_split (fun e2 => bd) (fun e2 => ?_)
    have hn : n ≤ 9007199254740991 := by simpa using e2
    obtain ⟨v', hs, hB'⟩ := Bytes.drop (n := size) hB (hsz he)
    obtain ⟨va', vc', rfl⟩ := Bytes.form hB'
    refine rdb ?_
    simp only [hs, SSd, Nat.reduceAdd]
    refine st1 rfl ?_
    try simp only [SSd, Nat.reduceAdd]
    rw [wrap_i64 _ (by omega)]
    exact Gh.done (hk n _ _ bad hB' ⟨⟨hn0, hn⟩, by simp, fun m rest hm h => absurd ⟨m, rest, hm, h⟩ hx⟩)
theorem rstamp_spec {r : Nat} {v : Value} {b : List UInt8} {bad : Bool} {F : LH} (hB : Bytes I v b) (hl : b.length ≤ 140737488355328)
    (hk : ∀ s v' b' bad', Bytes I v' b' → StP b bad s b' bad' → K (sv s) I ((r, rdO v' bad') :: F)) : Cal Tryz.prog ω 72 #[pt r] K I ((r, rdO v bad) :: F) := by
  refine cal72 ?_
  unfold sh72
  refine newI (fun b1 => ?_)
  refine call (Cal.pick r (rnum_spec hB hl (fun n1 x1 c1 d1 hB1 hP1 => ?_)))
  refine call (rnum_spec hB1 (by have := hP1.len; omega) (fun n2 x2 c2 d2 hB2 hP2 => ?_))
  have hP : ∀ d', (rightB ⟨n1, n2⟩ = true → d' = d2) → StP b bad ⟨n1, n2⟩ c2 d' := fun d' hd => ⟨⟨hP1.max, hP2.max⟩, Nat.le_trans hP2.len hP1.len, fun x rest hx hb => by
    have hm := rightB_max hx
    obtain ⟨e1, e2, e3⟩ := hP1.get x.fWall (nB x.fLogic ++ rest) hm.1 (by rw [hb]; simp [stmB])
    obtain ⟨e4, e5, e6⟩ := hP2.get x.fLogic rest hm.2 e2
    subst e1 e4
    exact ⟨rfl, e5, by rw [hd hx, e6, e3]⟩⟩
  try simp only [SSd, Nat.reduceAdd]
  refine newI (fun b2 => ?_)
  refine stB rfl rfl (one_all rfl) ?_
  refine rdB rfl ?_
  refine call (hright_spec (x := ⟨n1, n2⟩) ?_)
  repeat' (first | (with_reducible refine drawC ?_) | (with_reducible refine drawW1 ?_) | (with_reducible refine drawW2 ?_) | (with_reducible refine keepC (by repeat (first | exact Ext.refl _ | assumption | refine Ext.trans ?_ (by assumption))) ?_) | (with_reducible refine newI (fun _ => ?_)) | first | (with_reducible refine rdb ?_) | ((with_reducible refine st1 ?_ ?_); rfl) | ((with_reducible refine rdB ?_ ?_); rfl) | (with_reducible refine rdbS ?_) | ((with_reducible refine rdBS ?_ ?_); rfl) | ((with_reducible refine stB ?_ ?_ ?_ ?_); rfl; rfl; exact one_all rfl) | ((with_reducible refine rdP _ rfl ?_ ?_); rfl) | ((with_reducible refine rdPS _ rfl ?_ ?_); rfl) | ((with_reducible refine stP _ rfl ?_ ?_ ?_ ?_); rfl; rfl; rfl) | (with_reducible refine unfE (sh72_1.eq_1 ..) ?_) | (with_reducible refine unfE (sh72.eq_1 ..) ?_) | (with_reducible refine And.intro ?_ ?_) | (simp only [Bool.not_true, Bool.not_false, Bool.and_self, Bool.true_and, Int.reduceBEq, Int.reduceBNe, Int.reduceLT, Int.reduceLE, decide_true, decide_false, Br_true, Br_false, Gd_tt, Gd_ft, Gd_tf, Gd_ff, beq_self_eq_true, bne_self_eq_false]) | (with_reducible refine gd_split (fun _ => ?_) (fun _ => ?_)) | (with_reducible refine br_split (fun _ => ?_) (fun _ => ?_)) | (simp only [SSd, Nat.reduceAdd]))
  · rename_i e
    exact Gh.to ((r, rdO x2 true) :: F) (Gh.done (hk ⟨n1, n2⟩ _ _ _ hB2 (hP true (fun h => by rw [h] at e; cases e))))
  · exact Gh.to ((r, rdO x2 d2) :: F) (Gh.done (hk ⟨n1, n2⟩ _ _ _ hB2 (hP d2 (fun _ => rfl))))
theorem rtruth_spec {r : Nat} {v : Value} {b : List UInt8} {bad : Bool} {F : LH} (hB : Bytes I v b) (hl : b.length ≤ 140737488355328)
    (hk : ∀ t v' b' bad', Bytes I v' b' → BitP b bad t b' bad' → K (.bool t) I ((r, rdO v' bad') :: F)) : Cal Tryz.prog ω 73 #[pt r] K I ((r, rdO v bad) :: F) := by
  refine cal73 ?_
  unfold sh73
  refine call (rnum_spec hB hl (fun n1 x1 c1 d1 hB1 hP1 => ?_))
  have hP : ∀ d', ((n1 = 0 ∨ n1 = 1) → d' = d1) → BitP b bad (n1 == 1) c1 d' := fun d' hd => ⟨hP1.len, fun x rest hb => by
    obtain ⟨e1, e2, e3⟩ := hP1.get _ rest (bit_max x) hb
    cases x with
    | true => simp at e1; subst e1; exact ⟨rfl, e2, by rw [hd (.inr rfl), e3]⟩
    | false => simp at e1; subst e1; exact ⟨rfl, e2, by rw [hd (.inl rfl), e3]⟩⟩
  have h1 := hP1.max
  repeat' (first | (with_reducible refine drawC ?_) | (with_reducible refine drawW1 ?_) | (with_reducible refine drawW2 ?_) | (with_reducible refine keepC (by repeat (first | exact Ext.refl _ | assumption | refine Ext.trans ?_ (by assumption))) ?_) | (with_reducible refine newI (fun _ => ?_)) | first | (with_reducible refine rdb ?_) | ((with_reducible refine st1 ?_ ?_); rfl) | ((with_reducible refine rdB ?_ ?_); rfl) | (with_reducible refine rdbS ?_) | ((with_reducible refine rdBS ?_ ?_); rfl) | ((with_reducible refine stB ?_ ?_ ?_ ?_); rfl; rfl; exact one_all rfl) | ((with_reducible refine rdP _ rfl ?_ ?_); rfl) | ((with_reducible refine rdPS _ rfl ?_ ?_); rfl) | ((with_reducible refine stP _ rfl ?_ ?_ ?_ ?_); rfl; rfl; rfl) | (with_reducible refine unfE (sh73.eq_1 ..) ?_) | (with_reducible refine And.intro ?_ ?_) | (simp only [Bool.not_true, Bool.not_false, Bool.and_self, Bool.true_and, Int.reduceBEq, Int.reduceBNe, Int.reduceLT, Int.reduceLE, decide_true, decide_false, Br_true, Br_false, Gd_tt, Gd_ft, Gd_tf, Gd_ff, beq_self_eq_true, bne_self_eq_false]) | (with_reducible refine gd_split (fun _ => ?_) (fun _ => ?_)) | (with_reducible refine br_split (fun _ => ?_) (fun _ => ?_)) | (simp only [SSd, Nat.reduceAdd]))
  · rename_i e
    exact Gh.done (hk (n1 == 1) _ _ _ hB1 (hP _ (fun h => by rw [e]; simp; omega)))
  · rename_i e
    have hd : d1 = true := by simpa using e
    exact Gh.done (hk (n1 == 1) _ _ _ hB1 (hP true (fun h => hd.symm)))
theorem rtext_spec {r : Nat} {v : Value} {b : List UInt8} {bad : Bool} {F : LH} (hB : Bytes I v b) (hl : b.length ≤ 140737488355328)
    (hk : ∀ t u v' b' bad' I', Ext I I' → Bytes I' u t → Bytes I' v' b' → TxP b bad t b' bad' → K u I' ((r, rdO v' bad') :: F)) : Cal Tryz.prog ω 74 #[pt r] K I ((r, rdO v bad) :: F) := by
  refine cal74 ?_
  unfold sh74
  refine call (rnum_spec hB hl (fun n1 x1 c1 d1 hB1 hP1 => ?_))
  have h1 := hP1.max
  have hc1 := hP1.len
  obtain ⟨va, vc, rfl⟩ := Bytes.form hB1
  try simp only [SSd, Nat.reduceAdd]
  refine rdb ?_
  try simp only [SSd, Nat.reduceAdd]
  refine br_split (fun e => ?_) (fun e => ?_)
  · have hgt : (c1.length : Int) < n1 := by simpa using e
    repeat' (first | (with_reducible refine drawC ?_) | (with_reducible refine drawW1 ?_) | (with_reducible refine drawW2 ?_) | (with_reducible refine keepC (by repeat (first | exact Ext.refl _ | assumption | refine Ext.trans ?_ (by assumption))) ?_) | (with_reducible refine newI (fun _ => ?_)) | first | (with_reducible refine rdb ?_) | ((with_reducible refine st1 ?_ ?_); rfl) | ((with_reducible refine rdB ?_ ?_); rfl) | (with_reducible refine rdbS ?_) | ((with_reducible refine rdBS ?_ ?_); rfl) | ((with_reducible refine stB ?_ ?_ ?_ ?_); rfl; rfl; exact one_all rfl) | ((with_reducible refine rdP _ rfl ?_ ?_); rfl) | ((with_reducible refine rdPS _ rfl ?_ ?_); rfl) | ((with_reducible refine stP _ rfl ?_ ?_ ?_ ?_); rfl; rfl; rfl) | (with_reducible refine unfE (sh74.eq_1 ..) ?_) | (with_reducible refine And.intro ?_ ?_) | (simp only [Bool.not_true, Bool.not_false, Bool.and_self, Bool.true_and, Int.reduceBEq, Int.reduceBNe, Int.reduceLT, Int.reduceLE, decide_true, decide_false, Br_true, Br_false, Gd_tt, Gd_ft, Gd_tf, Gd_ff, beq_self_eq_true, bne_self_eq_false]) | (with_reducible refine gd_split (fun _ => ?_) (fun _ => ?_)) | (with_reducible refine br_split (fun _ => ?_) (fun _ => ?_)) | (simp only [SSd, Nat.reduceAdd]))
    refine Gh.done (hk [] _ _ [] true I (Ext.refl _) (bnil I) (bnil I) ⟨Nat.zero_le _, Nat.zero_le _, fun x rest hx hb => ?_⟩)
    obtain ⟨e1, e2, e3⟩ := hP1.get (x.length : Int) (x ++ rest) ⟨by omega, by omega⟩ (by rw [hb]; simp [txtB, nB])
    rw [e1, e2, List.length_append] at hgt; omega
  · have hle : n1 ≤ (c1.length : Int) := by simpa using e
    obtain ⟨n, rfl⟩ : ∃ n : Nat, n1 = n := ⟨n1.toNat, by have := h1.1; omega⟩
    have hn : n ≤ c1.length := by omega
    obtain ⟨u1, hs1, hT⟩ := Bytes.take hB1 hn
    obtain ⟨u2, hs2, hD⟩ := Bytes.drop hB1 hn
    obtain ⟨ua, uc, rfl⟩ := Bytes.form hD
    refine rdb ?_
    simp only [hs1, SSd, Nat.reduceAdd]
    haveI : SplitL [] ((r, rdO (.slice va c1.length vc) d1) :: F) ((r, rdO (.slice va c1.length vc) d1) :: F) := ⟨List.Perm.refl _⟩
    refine ob_appG (X6 := []) (l := []) (y := c1.take n) (SlO.none _ 1) (SlI.news hT) (by simp; omega) (fun Y w hO => ?_)
    rw [List.nil_append] at hO
    refine OB.freeze hO (fun I2 hI2 hB2 => Gh.done ?_)
    try simp only [SSd, Nat.reduceAdd]
    refine rdb ?_
    simp only [hs2, SSd, Nat.reduceAdd]
    refine st1 rfl ?_
    refine Gh.done (hk (c1.take n) w _ (c1.drop n) d1 I2 hI2 hB2 (hD.mono hI2) ⟨by simp; omega, by simp; omega, fun x rest hx hb => ?_⟩)
    obtain ⟨e1, e2, e3⟩ := hP1.get (x.length : Int) (x ++ rest) ⟨by omega, by omega⟩ (by rw [hb]; simp [txtB, nB])
    have e4 : n = x.length := by omega
    rw [e2, e4]
    exact ⟨by simp, by simp, e3⟩
theorem rwhole_spec {r : Nat} {v : Value} {b : List UInt8} {bad : Bool} {F : LH} (hB : Bytes I v b) (hk : K (.bool (!bad && b.length == 0)) I ((r, rdO v bad) :: F)) : Cal Tryz.prog ω 76 #[pt r] K I ((r, rdO v bad) :: F) := by
  refine cal76 ?_
  unfold sh76
  repeat' (first | (with_reducible refine drawC ?_) | (with_reducible refine drawW1 ?_) | (with_reducible refine drawW2 ?_) | (with_reducible refine keepC (by repeat (first | exact Ext.refl _ | assumption | refine Ext.trans ?_ (by assumption))) ?_) | (with_reducible refine newI (fun _ => ?_)) | first | (with_reducible refine rdb ?_) | ((with_reducible refine st1 ?_ ?_); rfl) | ((with_reducible refine rdB ?_ ?_); rfl) | (with_reducible refine rdbS ?_) | ((with_reducible refine rdBS ?_ ?_); rfl) | ((with_reducible refine stB ?_ ?_ ?_ ?_); rfl; rfl; exact one_all rfl) | ((with_reducible refine rdP _ rfl ?_ ?_); rfl) | ((with_reducible refine rdPS _ rfl ?_ ?_); rfl) | ((with_reducible refine stP _ rfl ?_ ?_ ?_ ?_); rfl; rfl; rfl) | (with_reducible refine unfE (sh76.eq_1 ..) ?_) | (with_reducible refine And.intro ?_ ?_) | (simp only [Bool.not_true, Bool.not_false, Bool.and_self, Bool.true_and, Int.reduceBEq, Int.reduceBNe, Int.reduceLT, Int.reduceLE, decide_true, decide_false, Br_true, Br_false, Gd_tt, Gd_ft, Gd_tf, Gd_ff, beq_self_eq_true, bne_self_eq_false]) | (with_reducible refine gd_split (fun _ => ?_) (fun _ => ?_)) | (with_reducible refine br_split (fun _ => ?_) (fun _ => ?_)) | (simp only [SSd, Nat.reduceAdd, Bytes.len hB]))
  all_goals (refine Gh.done (leafB hk ?_); simp_all)
  all_goals (rw [Bool.eq_iff_iff]; simp)
end
end Go.Proofs.YtmmfcgbfbcamcaaGreatDoor
-- S3
set_option linter.unusedSimpArgs false
set_option linter.unusedVariables false
namespace Go.Proofs.YtmmfcgbfbcamcaaGreatDoor
open Go.SL
set_option maxRecDepth 10000
def cmdP : TCmd := ⟨3, 1, 1, z0, z0, 0, false, false, [97], [120], ⟨[], []⟩, 0⟩
def cmdG : TCmd := ⟨1, 1, 0, z0, z0, 0, false, false, [97], [], ⟨[], []⟩, 0⟩
def sp00 : TSpan := ⟨[], []⟩
theorem cmdP_r : rightP cmdP = true := by decide
theorem cmdG_r : rightP cmdG = true := by decide
theorem doM3 {m : Mch} {c : TCmd} (h : rightP c = true) (hk : c.fKind = 3) : applyM m c = noSplit (putM m c) := by
  unfold applyM; rw [if_neg (by simp [h])]; unfold doM; simp [hk]
theorem doM1 {m : Mch} {c : TCmd} (h : rightP c = true) (hk : c.fKind = 1) : applyM m c = noSplit (getM m c) := by
  unfold applyM; rw [if_neg (by simp [h])]; unfold doM; simp [hk]
theorem awakeP : (putM (mch0 sp00) cmdP).1.fCode = 0 := by decide
theorem awakeM : (putM (mch0 sp00) cmdP).2.marks = [] := by decide
theorem awakeG : (getM (putM (mch0 sp00) cmdP).2 cmdG).1.fCode = 0 ∧ (getM (putM (mch0 sp00) cmdP).2 cmdG).1.fGot.fValue = [120] := by decide
section
variable {ω : Om} {I : Imm} {L : LH} {K : Value → M}
theorem lit1 {c : UInt8} (hk : ∀ u I', Ext I I' → Bytes I' u [c] → K u I' L) : BldS 5 1 #[.int .u8 0] 1 [(0, .int .u8 c.toNat)] (gh fun v => MrkS v (gh K)) I L := by
  refine bld_oneG rfl (by omega) rfl (fun X u hX => Gh.done ?_)
  have hX' : OB X u [c] := by unfold OB; simpa [Value.cells, u8s] using hX
  by_cases h0 : X = []
  · subst h0
    exfalso
    obtain ⟨_, h⟩ := hX'
    rcases h with ⟨_, h, _⟩ | ⟨b, cap, cs, h, _⟩
    · simp at h
    · cases h
  · exact mrk_own hX' h0 (fun I' hI hS => hk u I' hI hS)
theorem awake_spec (hk : ∀ I', Ext I I' → K (.bool true) I' L) : Cal Tryz.prog ω 10 #[] K I L := by
  refine cal10 ?_
  unfold sh10
  try simp only [SSd, Nat.reduceAdd]
  refine call (newR_spec (p := sp00) ⟨_, _, rfl, bnil I, bnil I⟩ (fun h => by cases h) (fun _ b X I1 hI1 hX => ?_))
  try simp only [SSd, Nat.reduceAdd]
  refine lit1 (c := 97) (fun u1 I2 hI2 hB2 => ?_)
  refine lit1 (c := 120) (fun u2 I3 hI3 hB3 => ?_)
  obtain ⟨a1, k1, rfl⟩ := Bytes.form hB2
  obtain ⟨a2, k2, rfl⟩ := Bytes.form hB3
  try simp only [SSd, Nat.reduceAdd]
  have e1 := doM3 (m := mch0 sp00) cmdP_r rfl
  have hM0 := mch0_ok (p := sp00) (by decide)
  have hM1 := applyM_ok (c := cmdP) hM0
  rw [e1] at hM1
  refine call (apply_spec (c := cmdP) hM0 (by omega) (hX.mono (hI2.trans hI3)) ⟨_, _, _, _, rfl, hB2.mono hI3, hB3, bnil I3, bnil I3⟩ ⟨by decide, by decide, by decide, by decide⟩ (fun h => by cases h) (fun h => by cases h) (fun I4 X1 cells hI4 hX1 hr => ?_))
  rw [e1] at hX1 hr ⊢
  refine ⟨fun _ => ?_, fun m2 b2 X2 h => by cases h⟩
  replace hX1 : MchR I4 b X1 (putM (mch0 sp00) cmdP).2 := hX1
  replace hr : TResV I4 (putM (mch0 sp00) cmdP).1 cells := hr
  replace hM1 : MOk (putM (mch0 sp00) cmdP).2 (0 + 1) := hM1.2.1
  have hP := awakeP
  have hPm := awakeM
  have hG := awakeG
  generalize (putM (mch0 sp00) cmdP).1 = r1 at *
  generalize (putM (mch0 sp00) cmdP).2 = m1 at *
  have hr1 := hr.one
  obtain ⟨y0, y1, rfl, t0, t1⟩ := id hr
  try simp only [SSd, Nat.reduceAdd]
  refine newI (fun q1 => ?_)
  refine stB rfl rfl hr1 ?_
  refine lit1 (c := 97) (fun u3 I5 hI5 hB5 => ?_)
  obtain ⟨a3, k3, rfl⟩ := Bytes.form hB5
  try simp only [SSd, Nat.reduceAdd]
  have e2 := doM1 (m := m1) cmdG_r rfl
  have hfl : fullB m1 cmdG.fKey = false := by unfold fullB; rw [hPm]; rfl
  refine call (Cal.split X1 (apply_spec (c := cmdG) hM1 (by omega) (hX1.mono hI5) ⟨_, _, _, _, rfl, hB5, bnil I5, bnil I5, bnil I5⟩ ⟨by decide, by decide, by decide, by decide⟩ (fun h => by rw [hfl] at h; cases h) (fun h => by cases h) (fun I6 X2 cells2 hI6 hX2 hr2 => ?_)))
  rw [e2] at hX2 hr2 ⊢
  refine ⟨fun _ => ?_, fun m2 b2 X2 h => by cases h⟩
  replace hr2 : TResV I6 (getM m1 cmdG).1 cells2 := hr2
  generalize (getM m1 cmdG).1 = r2 at *
  have hr3 := hr2.one
  obtain ⟨z1, z2, rfl, s0, s1⟩ := id hr2
  try simp only [SSd, Nat.reduceAdd]
  refine newI (fun q2 => ?_)
  refine stB rfl rfl hr3 ?_
  have hI06 := hI1.trans (hI2.trans (hI3.trans (hI4.trans (hI5.trans hI6))))
  rw [hG.2] at s0
  repeat' (first | (with_reducible refine drawC ?_) | (with_reducible refine drawW1 ?_) | (with_reducible refine drawW2 ?_) | (with_reducible refine keepC (by repeat (first | exact Ext.refl _ | assumption | refine Ext.trans ?_ (by assumption))) ?_) | (with_reducible refine newI (fun _ => ?_)) | (with_reducible refine bs_N s0 (Ext.refl _) ?_) | first | (with_reducible refine rdb ?_) | ((with_reducible refine st1 ?_ ?_); rfl) | ((with_reducible refine rdB ?_ ?_); rfl) | (with_reducible refine rdbS ?_) | ((with_reducible refine rdBS ?_ ?_); rfl) | ((with_reducible refine stB ?_ ?_ ?_ ?_); rfl; rfl; exact one_all rfl) | ((with_reducible refine rdP _ rfl ?_ ?_); rfl) | ((with_reducible refine rdPS _ rfl ?_ ?_); rfl) | ((with_reducible refine stP _ rfl ?_ ?_ ?_ ?_); rfl; rfl; rfl) | (with_reducible refine unfE (sh10.eq_1 ..) ?_) | (with_reducible refine And.intro ?_ ?_) | (simp only [Bool.not_true, Bool.not_false, Bool.and_self, Bool.true_and, Int.reduceBEq, Int.reduceBNe, Int.reduceLT, Int.reduceLE, decide_true, decide_false, Br_true, Br_false, Gd_tt, Gd_ft, Gd_tf, Gd_ff, beq_self_eq_true, bne_self_eq_false]) | (with_reducible refine gd_split (fun _ => ?_) (fun _ => ?_)) | (with_reducible refine br_split (fun _ => ?_) (fun _ => ?_)) | (simp only [SSd, Nat.reduceAdd, hP, hG.1]))
  exact Gh.to L (Gh.done (hk I6 hI06))
end
end Go.Proofs.YtmmfcgbfbcamcaaGreatDoor
-- S3
set_option linter.unusedSimpArgs false
set_option linter.unusedVariables false
namespace Go.Proofs.YtmmfcgbfbcamcaaGreatDoor
open Go.SL
set_option maxRecDepth 10000
section
variable {ω : Om} {I : Imm} {L : LH} {K : Value → M}
end
end Go.Proofs.YtmmfcgbfbcamcaaGreatDoor
-- S3
set_option linter.unusedSimpArgs false
set_option linter.unusedVariables false
namespace Go.Proofs.YtmmfcgbfbcamcaaGreatDoor
open Go.SL
set_option maxRecDepth 10000
theorem stmB_inj {a b : TStamp} {r s : List UInt8} (ha : rightB a = true) (hb : rightB b = true) (h : stmB a ++ r = stmB b ++ s) : a = b ∧ r = s := by
  have h1 := rightB_max ha
  have h2 := rightB_max hb
  simp only [stmB, List.append_assoc] at h
  obtain ⟨e1, h3⟩ := nB_inj h1.1 h2.1 h
  obtain ⟨e2, h4⟩ := nB_inj h1.2 h2.2 h3
  refine ⟨?_, h4⟩
  obtain ⟨aw, al⟩ := a
  obtain ⟨bw, bl⟩ := b
  simp only at e1 e2
  rw [e1, e2]
theorem bitB_inj {a b : Bool} {r s : List UInt8} (h : bitB a ++ r = bitB b ++ s) : a = b ∧ r = s := by
  obtain ⟨e1, h⟩ := nB_inj (bit_max a) (bit_max b) h
  refine ⟨?_, h⟩
  cases a <;> cases b <;> simp at e1 <;> rfl
theorem txtB_inj {a b : List UInt8} {r s : List UInt8} (ha : a.length ≤ 9007199254740991) (hb : b.length ≤ 9007199254740991) (h : txtB a ++ r = txtB b ++ s) : a = b ∧ r = s := by
  simp only [txtB, List.append_assoc] at h
  obtain ⟨e1, h⟩ := varL_inj 9 a.length b.length _ _ (by omega) (by omega) h
  exact List.append_inj h e1
section
variable {ω : Om} {I : Imm} {L : LH} {K : Value → M}
end
theorem lens_of {c : TCmd} (h : TCmdB reachBytes c) : Lens c := by
  have e : reachBytes = 140737488351232 := by rfl
  obtain ⟨_, _, _, _, _, _, h1, h2, ⟨h3, h4⟩, _⟩ := h
  exact ⟨by omega, by omega, by omega, by omega⟩
end Go.Proofs.YtmmfcgbfbcamcaaGreatDoor
-- S3
set_option linter.unusedSimpArgs false
set_option linter.unusedVariables false
namespace Go.Proofs.YtmmfcgbfbcamcaaGreatDoor
open Go.SL
set_option maxRecDepth 10000
section
variable {ω : Om} {I : Imm} {L : LH} {K : Value → M}
theorem cnt_spec {a : Int} (hk : K (.bool (maxB a)) I L) : Cal Tryz.prog ω 125 #[.int .i64 a] K I L := by
  refine cal125 ?_
  unfold sh125
  repeat' (first | (with_reducible refine drawC ?_) | (with_reducible refine drawW1 ?_) | (with_reducible refine drawW2 ?_) | (with_reducible refine keepC (by repeat (first | exact Ext.refl _ | assumption | refine Ext.trans ?_ (by assumption))) ?_) | (with_reducible refine newI (fun _ => ?_)) | first | (with_reducible refine rdb ?_) | ((with_reducible refine st1 ?_ ?_); rfl) | ((with_reducible refine rdB ?_ ?_); rfl) | (with_reducible refine rdbS ?_) | ((with_reducible refine rdBS ?_ ?_); rfl) | ((with_reducible refine stB ?_ ?_ ?_ ?_); rfl; rfl; exact one_all rfl) | ((with_reducible refine rdP _ rfl ?_ ?_); rfl) | ((with_reducible refine rdPS _ rfl ?_ ?_); rfl) | ((with_reducible refine stP _ rfl ?_ ?_ ?_ ?_); rfl; rfl; rfl) | (with_reducible refine unfE (sh125.eq_1 ..) ?_) | (with_reducible refine And.intro ?_ ?_) | (simp only [Bool.not_true, Bool.not_false, Bool.and_self, Bool.true_and, Int.reduceBEq, Int.reduceBNe, Int.reduceLT, Int.reduceLE, decide_true, decide_false, Br_true, Br_false, Gd_tt, Gd_ft, Gd_tf, Gd_ff, beq_self_eq_true, bne_self_eq_false]) | (with_reducible refine gd_split (fun _ => ?_) (fun _ => ?_)) | (with_reducible refine br_split (fun _ => ?_) (fun _ => ?_)) | (simp only [SSd, Nat.reduceAdd]))
  all_goals (refine Gh.done (leafB hk ?_); simp_all [maxB] <;> omega)
abbrev resC (r : TRes) (v0 v1 : Value) : List Value := [.int .i64 r.fCode, .bool r.fGot.fFound, v0, .int .i64 r.fGot.fAt.fWall, .int .i64 r.fGot.fAt.fLogic, .int .i64 r.fGot.fBy, v1, .int .i64 r.fAt.fWall, .int .i64 r.fAt.fLogic, .int .i64 r.fBy, .int .i64 r.fState]
def ansQ (r : TRes) : Bool := decide (0 ≤ r.fCode ∧ r.fCode ≤ 999) && decide (0 ≤ r.fState ∧ r.fState ≤ 3) && maxB r.fBy && maxB r.fGot.fBy && rightB r.fAt && rightB r.fGot.fAt && decide (r.fGot.fValue.length ≤ 10000) && decide (r.fRows.length ≤ 90)
theorem ansP_Q (r : TRes) : ansP r = (r.fRows.all rowB && ansQ r) := by
  unfold ansP ansQ
  simp only [Bool.and_assoc]
theorem answer_spec {r : TRes} {cc : List Value} (hc : TResV I r cc) (hl : r.fRows.length ≤ 1000000000) (hk : K (.bool (ansP r)) I L) : Cal Tryz.prog ω 78 #[.agg cc.toArray] K I L := by
  obtain ⟨v0, v1, rfl, g0, g1⟩ := hc
  rw [ansP_Q] at hk
  refine cal78 ?_
  unfold sh78
  refine newI (fun b1 => ?_)
  try simp only [SSd, Nat.reduceAdd]
  refine rdb ?_
  simp only [RL.len g1, SSd, Nat.reduceAdd]
  refine loop (fun n (s : Value × Value × Unit) I' L' => I' = I ∧ L' = (b1, .cells (resC r v0 v1).toArray 52 (0, 0)) :: L ∧ ∃ i : Nat, n + i = r.fRows.length ∧ s = (.bool false, .int .i64 i, ()) ∧ ∀ x ∈ r.fRows.take i, rowB x = true) r.fRows.length ⟨rfl, rfl, 0, rfl, rfl, by simp⟩ ?_
  rintro n s I' L' ⟨rfl, rfl, i, hn, rfl, hi⟩
  unfold sh78_1
  try simp only [SSd, Nat.reduceAdd]
  refine br_split (fun e => ?_) (fun e => ?_)
  · have hlt : i < r.fRows.length := by simpa using e
    obtain ⟨bx, off, cx, hix, hcl, hcx, hcc⟩ := RL.ix g1 (i := (i : Int)) (by omega) (by omega)
    rw [geti_nat hlt] at hcx
    have hmem : r.fRows[i] ∈ r.fRows := List.getElem_mem hlt
    have hsn := take_snoc hlt
    generalize r.fRows[i] = x at *
    obtain ⟨x0, x1, rfl, k0, k1⟩ := hcx
    obtain ⟨a0, c0, rfl⟩ := Bytes.form k0
    obtain ⟨a1, c1, rfl⟩ := Bytes.form k1
    have bad : rowB x = false → K (.bool false) I' L := by
      intro h
      have h0 : r.fRows.all rowB = false := by
        rw [List.all_eq_false]; exact ⟨x, hmem, by simp [h]⟩
      rw [h0] at hk; exact hk
    simp only [hix, SSd, Nat.reduceAdd]
    refine rdN hcl (hcc I' _ (Ext.refl _) (fun x hx => by cases hx)) ?_
    have w64 : IntKind.i64.wrap ((i : Int) + 1) = ((i + 1 : Nat) : Int) := by rw [wrap_i64 _ (by omega)]; rfl
    repeat' (first | (with_reducible refine drawC ?_) | (with_reducible refine drawW1 ?_) | (with_reducible refine drawW2 ?_) | (with_reducible refine keepC (by repeat (first | exact Ext.refl _ | assumption | refine Ext.trans ?_ (by assumption))) ?_) | (with_reducible refine newI (fun _ => ?_)) | ((with_reducible refine call ?_); refine (pkey_spec k0 ?_)) | first | (with_reducible refine rdb ?_) | ((with_reducible refine st1 ?_ ?_); rfl) | ((with_reducible refine rdB ?_ ?_); rfl) | (with_reducible refine rdbS ?_) | ((with_reducible refine rdBS ?_ ?_); rfl) | ((with_reducible refine stB ?_ ?_ ?_ ?_); rfl; rfl; exact one_all rfl) | ((with_reducible refine rdP _ rfl ?_ ?_); rfl) | ((with_reducible refine rdPS _ rfl ?_ ?_); rfl) | ((with_reducible refine stP _ rfl ?_ ?_ ?_ ?_); rfl; rfl; rfl) | (with_reducible refine unfE (sh78_4.eq_1 ..) ?_) | (with_reducible refine unfE (sh78_1.eq_1 ..) ?_) | (with_reducible refine unfE (sh78.eq_1 ..) ?_) | (with_reducible refine And.intro ?_ ?_) | (simp only [Bool.not_true, Bool.not_false, Bool.and_self, Bool.true_and, Int.reduceBEq, Int.reduceBNe, Int.reduceLT, Int.reduceLE, decide_true, decide_false, Br_true, Br_false, Gd_tt, Gd_ft, Gd_tf, Gd_ff, beq_self_eq_true, bne_self_eq_false]) | (with_reducible refine gd_split (fun _ => ?_) (fun _ => ?_)) | (with_reducible refine br_split (fun _ => ?_) (fun _ => ?_)) | (simp only [SSd, Nat.reduceAdd]))
    · rename_i e1 e2
      exact Gh.to L (Gh.done (bad (by unfold rowB; simp at e2; rw [Bool.and_eq_false_iff]; right; simp; omega)))
    · rename_i e1 e2
      rw [w64]
      refine Gh.to ((b1, .cells (resC r v0 v1).toArray 52 (0, 0)) :: L) (Gh.done ⟨n - 1, by omega, rfl, rfl, i + 1, by omega, rfl, fun y hy => ?_⟩)
      rw [hsn] at hy
      rcases List.mem_append.1 hy with hy | hy
      · exact hi y hy
      · simp only [List.mem_singleton] at hy
        subst hy
        unfold rowB; simp at e1 e2; rw [e1]; simp; omega
    · rename_i e1
      exact Gh.to L (Gh.done (bad (by unfold rowB; simp at e1; rw [e1, Bool.false_and])))
  · have hi2 : i = r.fRows.length := by simp at e; omega
    rw [hi2, List.take_length] at hi
    have h0 : r.fRows.all rowB = true := List.all_eq_true.2 hi
    rw [h0, Bool.true_and] at hk
    repeat' (first | (with_reducible refine drawC ?_) | (with_reducible refine drawW1 ?_) | (with_reducible refine drawW2 ?_) | (with_reducible refine keepC (by repeat (first | exact Ext.refl _ | assumption | refine Ext.trans ?_ (by assumption))) ?_) | (with_reducible refine newI (fun _ => ?_)) | ((with_reducible refine call ?_); with_reducible refine hright_spec (x := r.fAt) ?_) | ((with_reducible refine call ?_); with_reducible refine hright_spec (x := r.fGot.fAt) ?_) | (with_reducible refine calV_fn (by kernel_rfl) ?_) | ((with_reducible refine call ?_); with_reducible refine cnt_spec ?_) | first | (with_reducible refine rdb ?_) | ((with_reducible refine st1 ?_ ?_); rfl) | ((with_reducible refine rdB ?_ ?_); rfl) | (with_reducible refine rdbS ?_) | ((with_reducible refine rdBS ?_ ?_); rfl) | ((with_reducible refine stB ?_ ?_ ?_ ?_); rfl; rfl; exact one_all rfl) | ((with_reducible refine rdP _ rfl ?_ ?_); rfl) | ((with_reducible refine rdPS _ rfl ?_ ?_); rfl) | ((with_reducible refine stP _ rfl ?_ ?_ ?_ ?_); rfl; rfl; rfl) | (with_reducible refine unfE (sh78_4.eq_1 ..) ?_) | (with_reducible refine unfE (sh78_1.eq_1 ..) ?_) | (with_reducible refine unfE (sh78.eq_1 ..) ?_) | (with_reducible refine And.intro ?_ ?_) | (simp only [Bool.not_true, Bool.not_false, Bool.and_self, Bool.true_and, Int.reduceBEq, Int.reduceBNe, Int.reduceLT, Int.reduceLE, decide_true, decide_false, Br_true, Br_false, Gd_tt, Gd_ft, Gd_tf, Gd_ff, beq_self_eq_true, bne_self_eq_false]) | (with_reducible refine gd_split (fun _ => ?_) (fun _ => ?_)) | (with_reducible refine br_split (fun _ => ?_) (fun _ => ?_)) | (simp only [SSd, Nat.reduceAdd, Bytes.len g0, RL.len g1]))
    all_goals (clear hi h0; refine Gh.to L (Gh.done (leafB hk ?_)); simp_all [ansQ])
    all_goals first | done | (intros; omega) | (rw [Bool.eq_iff_iff]; simp; done) | (rw [Bool.eq_iff_iff]; simp; omega) | trace_state
def rowE (x : TKV) : List UInt8 := txtB x.fKey ++ txtB x.fValue
def encR (r : TRes) : List UInt8 := nB r.fCode ++ (nB r.fState ++ (nB r.fBy ++ (nB r.fGot.fBy ++ (stmB r.fAt ++ (stmB r.fGot.fAt ++ (bitB r.fGot.fFound ++ (txtB r.fGot.fValue ++ (nB r.fRows.length ++ r.fRows.flatMap rowE))))))))
structure AnsOk (r : TRes) : Prop where
  rows : ∀ x ∈ r.fRows, 1 ≤ x.fKey.length ∧ x.fKey.length ≤ 110 ∧ x.fValue.length ≤ 10000
  code : 0 ≤ r.fCode ∧ r.fCode ≤ 999
  state : 0 ≤ r.fState ∧ r.fState ≤ 3
  by' : maxI r.fBy
  gby : maxI r.fGot.fBy
  at' : rightB r.fAt = true
  gat : rightB r.fGot.fAt = true
  val : r.fGot.fValue.length ≤ 10000
  len : r.fRows.length ≤ 90
theorem ansP_ok {r : TRes} (h : ansP r = true) : AnsOk r := by
  simp only [ansP, Bool.and_eq_true, List.all_eq_true, decide_eq_true_eq] at h
  obtain ⟨⟨⟨⟨⟨⟨⟨⟨h1, h2⟩, h3⟩, h4⟩, h5⟩, h6⟩, h7⟩, h8⟩, h9⟩ := h
  refine ⟨fun x hx => ?_, h2, h3, maxB_iff.1 h4, maxB_iff.1 h5, h6, h7, h8, h9⟩
  have := h1 x hx
  simp only [rowB, keyOk, Bool.and_eq_true, decide_eq_true_eq] at this
  omega
theorem rowE_len {x : TKV} (h1 : x.fKey.length ≤ 110) (h2 : x.fValue.length ≤ 10000) : (rowE x).length ≤ 10200 := by
  have := txtB_len (b := x.fKey) (by omega)
  have := txtB_len (b := x.fValue) (by omega)
  simp only [rowE, List.length_append]; omega
theorem rowsE_len : ∀ {l : List TKV}, (∀ x ∈ l, x.fKey.length ≤ 110 ∧ x.fValue.length ≤ 10000) → (l.flatMap rowE).length ≤ 10200 * l.length
  | [], _ => by simp
  | x :: l, h => by
    have h1 := rowE_len (h x (List.mem_cons_self ..)).1 (h x (List.mem_cons_self ..)).2
    have h2 := rowsE_len (l := l) (fun y hy => h y (List.mem_cons_of_mem _ hy))
    simp only [List.flatMap_cons, List.length_append, List.length_cons]; omega
theorem ansb_spec {r : TRes} {cc : List Value} (hc : TResV I r cc) (hl : r.fRows.length ≤ 1000000000) (h0 : ansP r = false → K (.tuple #[.slice none 0 0, .int .i64 140]) I L)
    (hk : ansP r = true → ∀ u I', Ext I I' → Bytes I' u (encR r) → K (.tuple #[u, .int .i64 0]) I' L) : Cal Tryz.prog ω 23 #[.agg cc.toArray] K I L := by
  have hc' := hc
  obtain ⟨v0, v1, rfl, g0, g1⟩ := hc
  refine cal23 ?_
  unfold sh23
  refine newI (fun b1 => ?_)
  refine rdB rfl ?_
  refine call (answer_spec hc' hl ?_)
  try simp only [SSd, Nat.reduceAdd]
  refine br_split (fun e => ?_) (fun e => ?_)
  · exact Gh.to L (Gh.done (h0 (by simpa using e)))
  have hr : ansP r = true := by simpa using e
  have ho := ansP_ok hr
  have hcd := ho.code
  have hst := ho.state
  have hvl := ho.val
  have hln := ho.len
  have mk : maxI r.fCode := ⟨by omega, by omega⟩
  have ms : maxI r.fState := ⟨by omega, by omega⟩
  have n1 := numsI_len (l := [r.fCode, r.fState, r.fBy, r.fGot.fBy]) (by simp [mk, ms, ho.by', ho.gby])
  have n2 := stmB_len ho.at'
  have n3 := stmB_len ho.gat
  have n4 := bitB_len r.fGot.fFound
  have n6 := txtB_len (b := r.fGot.fValue) (by omega)
  have mn : maxI (r.fRows.length : Int) := ⟨by omega, by omega⟩
  have n7 := numsI_len (l := [(r.fRows.length : Int)]) (by simp [mn])
  simp only [List.length_cons, List.length_nil] at n1 n7
  refine newI (fun w => ?_)
  try simp only [SSd, Nat.reduceAdd]
  refine rdb ?_
  try simp only [SSd, Nat.reduceAdd]
  refine rdb ?_
  try simp only [SSd, Nat.reduceAdd]
  refine rdb ?_
  try simp only [SSd, Nat.reduceAdd]
  refine rdb ?_
  refine bldI4 (fun u1 J1 hJ1 hU1 => ?_)
  refine call (nums_spec (Y := []) (l := []) (SlO.none _ 1) hU1 (by simp [mk, ms, ho.by', ho.gby]) (by simp) (fun Y1 x1 I1 hI1 hO1 => ?_))
  rw [List.nil_append] at hO1
  try simp only [SSd, Nat.reduceAdd]
  refine rdP _ rfl rfl ?_
  refine call (wstamp_spec (x := r.fAt) hO1 ho.at' (by omega) (fun Y2 x2 I2 hI2 hO2 => ?_))
  try simp only [SSd, Nat.reduceAdd]
  refine rdP _ rfl rfl ?_
  refine call (wstamp_spec (x := r.fGot.fAt) hO2 ho.gat (by simp only [List.length_append]; omega) (fun Y3 x3 I3 hI3 hO3 => ?_))
  try simp only [SSd, Nat.reduceAdd]
  refine rdb ?_
  refine call (wtruth_spec hO3 (by simp only [List.length_append]; omega) (fun Y4 x4 I4 hI4 hO4 => ?_))
  have t4 := hJ1.trans (hI1.trans (hI2.trans (hI3.trans hI4)))
  try simp only [SSd, Nat.reduceAdd]
  refine rdb ?_
  refine call (wtext_spec hO4 (g0.mono t4) (by simp only [List.length_append]; omega) (by omega) (fun Y5 x5 I5 hI5 hO5 => ?_))
  try simp only [SSd, Nat.reduceAdd]
  refine rdb ?_
  simp only [RL.len g1, SSd, Nat.reduceAdd]
  refine bldI1 (fun u6 J6 hJ6 hU6 => ?_)
  refine call (nums_spec hO5 hU6 (by simp [mn]) (by simp only [List.length_append, List.length_singleton]; omega) (fun Y6 x6 I6 hI6 hO6 => ?_))
  have t6 := t4.trans (hI5.trans (hJ6.trans hI6))
  try simp only [SSd, Nat.reduceAdd]
  refine rdb ?_
  simp only [RL.len g1, SSd, Nat.reduceAdd]
  have hpre : (numsI [r.fCode, r.fState, r.fBy, r.fGot.fBy] ++ stmB r.fAt ++ stmB r.fGot.fAt ++ bitB r.fGot.fFound ++ txtB r.fGot.fValue ++ numsI [(r.fRows.length : Int)]).length ≤ 20000 := by
    simp only [List.length_append]; omega
  have hall : encR r = (numsI [r.fCode, r.fState, r.fBy, r.fGot.fBy] ++ stmB r.fAt ++ stmB r.fGot.fAt ++ bitB r.fGot.fFound ++ txtB r.fGot.fValue ++ numsI [(r.fRows.length : Int)]) ++ r.fRows.flatMap rowE := by
    simp [encR, numsI]
  rw [hall] at hk
  generalize (numsI [r.fCode, r.fState, r.fBy, r.fGot.fBy] ++ stmB r.fAt ++ stmB r.fGot.fAt ++ bitB r.fGot.fFound ++ txtB r.fGot.fValue ++ numsI [(r.fRows.length : Int)]) = pre at *
  refine loop (fun n (s : Value × Unit) I' L' => ∃ (i : Nat) (Y' : LH) (x' : Value), n + i = r.fRows.length ∧ s = (.int .i64 i, ()) ∧ Ext I6 I' ∧ OB Y' x' (pre ++ (r.fRows.take i).flatMap rowE) ∧ L' = (w, wrO x') :: (Y' ++ ((b1, .cells (resC r v0 v1).toArray 52 (0, 0)) :: L))) r.fRows.length ⟨0, Y6, x6, rfl, rfl, Ext.refl _, by simpa using hO6, rfl⟩ ?_
  rintro n s I' L' ⟨i, Y', x', hn, rfl, hI', hO', rfl⟩
  unfold sh23_1
  try simp only [SSd, Nat.reduceAdd]
  refine br_split (fun e => ?_) (fun e => ?_)
  · have hlt : i < r.fRows.length := by simpa using e
    obtain ⟨bx, off, cx, hix, hcl, hcx, hcc⟩ := RL.ix g1 (i := (i : Int)) (by omega) (by omega)
    rw [geti_nat hlt] at hcx
    have hmem := ho.rows _ (List.getElem_mem hlt)
    have hsn := take_snoc hlt
    have hlen : (pre ++ (r.fRows.take i).flatMap rowE).length ≤ 2000000 := by
      have := rowsE_len (l := r.fRows.take i) (fun x hx => by have := ho.rows x (List.mem_of_mem_take hx); omega)
      rw [List.length_take] at this
      rw [List.length_append]; omega
    generalize r.fRows[i] = x at *
    obtain ⟨y0, y1, rfl, k0, k1⟩ := hcx
    obtain ⟨a0, c0, rfl⟩ := Bytes.form k0
    obtain ⟨a1, c1, rfl⟩ := Bytes.form k1
    have n8 := txtB_len (b := x.fKey) (by omega)
    simp only [hix, SSd, Nat.reduceAdd]
    refine rdN hcl (hcc I' _ (t6.trans hI') (fun x hx => by cases hx)) ?_
    refine newI (fun bq => ?_)
    refine stB rfl rfl (one_all rfl) ?_
    try simp only [SSd, Nat.reduceAdd]
    refine rdb ?_
    refine call (Cal.perm (L' := (w, wrO x') :: (Y' ++ ((bq, .cells #[.slice a0 x.fKey.length c0, .slice a1 x.fValue.length c1] 113 (0, 0)) :: (b1, .cells (resC r v0 v1).toArray 52 (0, 0)) :: L))) (ms_perm (by ((try simp only [ms_cons, ms_app, ms_nil, ms_nil']); (try ac_rfl)))) (wtext_spec hO' (k0.mono (t6.trans hI')) (by omega) (by omega) (fun Y8 x8 I8 hI8 hO8 => ?_)))
    try simp only [SSd, Nat.reduceAdd]
    refine rdb ?_
    refine call (wtext_spec hO8 (k1.mono ((t6.trans hI').trans hI8)) (by rw [List.length_append]; omega) (by omega) (fun Y9 x9 I9 hI9 hO9 => ?_))
    try simp only [SSd, Nat.reduceAdd]
    rw [wrap_i64 _ (by omega)]
    refine Gh.to ((w, wrO x9) :: (Y9 ++ ((b1, .cells (resC r v0 v1).toArray 52 (0, 0)) :: L))) (Gh.done ⟨n - 1, by omega, i + 1, Y9, x9, by omega, rfl, hI'.trans (hI8.trans hI9), ?_, rfl⟩)
    have e9 : pre ++ (r.fRows.take (i + 1)).flatMap rowE = pre ++ (r.fRows.take i).flatMap rowE ++ txtB x.fKey ++ txtB x.fValue := by
      rw [hsn, List.flatMap_append]; simp [rowE]
    rw [e9]; exact hO9
  · have hi2 : i = r.fRows.length := by simp at e; omega
    rw [hi2, List.take_length] at hO'
    unfold sh23_3
    try simp only [SSd, Nat.reduceAdd]
    refine rdb ?_
    refine Gh.to (Y' ++ L) (OB.freeze hO' (fun I9 hI9 hB9 => Gh.done ?_))
    exact hk hr x' I9 (t6.trans (hI'.trans hI9)) hB9
end
end Go.Proofs.YtmmfcgbfbcamcaaGreatDoor
-- S3
set_option linter.unusedSimpArgs false
set_option linter.unusedVariables false
namespace Go.Proofs.YtmmfcgbfbcamcaaGreatDoor
open Go.SL
set_option maxRecDepth 10000
section
variable {ω : Om} {I : Imm} {L : LH} {K : Value → M}
abbrev resZc : List Value := [.int .i64 0, .bool false, .slice none 0 0, .int .i64 0, .int .i64 0, .int .i64 0, .slice none 0 0, .int .i64 0, .int .i64 0, .int .i64 0, .int .i64 0]
abbrev resZ : Value := .agg resZc.toArray
theorem readz_spec {vin : Value} {b : List UInt8} (hB : Bytes I vin b) {x : TRes} {a0 a6 : _} {c0 c6 : Nat} {X6 : LH} {cells : List Value} {vr : Value} {bad : Bool} {rest : List UInt8} {b1 r q : Nat}
    (g0 : Bytes I (.slice a0 x.fGot.fValue.length c0) x.fGot.fValue) (hO : SlO 113 2 X6 (.slice a6 x.fRows.length c6) cells x.fRows.length) (hR : Recs (TKVV I) 2 x.fRows cells) (hr : Bytes I vr rest) (hlen : x.fRows.length ≤ 1000)
    (hinv : ∀ r', ansP r' = true → encR r' = b → r' = x ∧ bad = false ∧ rest = [])
    (hk1 : ∀ c cc I', Ext I I' → TResV I' c cc → ansP c = true → encR c = b → K (.tuple #[.agg cc.toArray, .int .i64 0]) I' L)
    (hk2 : ∀ I', Ext I I' → (∀ c, ansP c = true → encR c ≠ b) → K (.tuple #[resZ, .int .i64 140]) I' L) :
    sh24_3 ω vin (pt b1) (.int .i64 0) (pt r) (pt q) (fun v => Gh (K v)) I ((r, rdO vr bad) :: (q, .cells (resC x (.slice a0 x.fGot.fValue.length c0) (.slice a6 x.fRows.length c6)).toArray 52 (0, 0)) :: (X6 ++ ((b1, .cells resZc.toArray 52 (0, 0)) :: L))) := by
  obtain ⟨va, vc, rfl⟩ := Bytes.form hB
  unfold sh24_3
  refine rdB rfl ?_
  have bad' : ∀ I', Ext I I' → (ansP x = false ∨ (!bad && rest.length == 0) = false ∨ encR x ≠ b) → K (.tuple #[resZ, .int .i64 140]) I' L := by
    intro I' hI' h
    refine hk2 I' hI' (fun c' h1 h2 => ?_)
    obtain ⟨e1, e2, e3⟩ := hinv c' h1 h2
    subst e1
    rcases h with h | h | h
    · rw [h] at h1; cases h1
    · rw [e2, e3] at h; simp at h
    · exact h h2
  refine call (cal_pre (Gh.perm (L' := X6 ++ ((q, .cells (resC x (.slice a0 x.fGot.fValue.length c0) (.slice a6 x.fRows.length c6)).toArray 52 (0, 0)) :: (r, rdO vr bad) :: (b1, .cells resZc.toArray 52 (0, 0)) :: L)) (ms_perm (by ((try simp only [ms_cons, ms_app, ms_nil, ms_nil']); (try ac_rfl)))) (RL.ofO (R := TKVV) (fun h hI => TKVV.mono h hI) hO hR (fun I2 hI2 hRL => Gh.done ?_))))
  have hT : TResV I2 x (resC x (.slice a0 x.fGot.fValue.length c0) (.slice a6 x.fRows.length c6)) := ⟨_, _, rfl, g0.mono hI2, hRL⟩
  refine ansb_spec hT (by omega) (fun ha => ?_) (fun ha u I4 hI4 hU => ?_)
  · repeat' (first | (with_reducible refine drawC ?_) | (with_reducible refine drawW1 ?_) | (with_reducible refine drawW2 ?_) | (with_reducible refine keepC (by repeat (first | exact Ext.refl _ | assumption | refine Ext.trans ?_ (by assumption))) ?_) | (with_reducible refine newI (fun _ => ?_)) | ((with_reducible refine call ?_); refine (Cal.pick r (rwhole_spec (hr.mono hI2) ?_))) | first | (with_reducible refine rdb ?_) | ((with_reducible refine st1 ?_ ?_); rfl) | ((with_reducible refine rdB ?_ ?_); rfl) | (with_reducible refine rdbS ?_) | ((with_reducible refine rdBS ?_ ?_); rfl) | ((with_reducible refine stB ?_ ?_ ?_ ?_); rfl; rfl; exact one_all rfl) | ((with_reducible refine rdP _ rfl ?_ ?_); rfl) | ((with_reducible refine rdPS _ rfl ?_ ?_); rfl) | ((with_reducible refine stP _ rfl ?_ ?_ ?_ ?_); rfl; rfl; rfl) | (with_reducible refine unfE (sh24_4.eq_1 ..) ?_) | (with_reducible refine unfE (sh24_3.eq_1 ..) ?_) | (with_reducible refine unfE (sh24_1.eq_1 ..) ?_) | (with_reducible refine unfE (sh24.eq_1 ..) ?_) | (with_reducible refine And.intro ?_ ?_) | (simp only [Bool.not_true, Bool.not_false, Bool.and_self, Bool.true_and, Int.reduceBEq, Int.reduceBNe, Int.reduceLT, Int.reduceLE, decide_true, decide_false, Br_true, Br_false, Gd_tt, Gd_ft, Gd_tf, Gd_ff, beq_self_eq_true, bne_self_eq_false]) | (with_reducible refine gd_split (fun _ => ?_) (fun _ => ?_)) | (with_reducible refine br_split (fun _ => ?_) (fun _ => ?_)) | (simp only [SSd, Nat.reduceAdd]))
    all_goals exact Gh.to L (Gh.done (bad' I2 hI2 (.inl ha)))
  · repeat' (first | (with_reducible refine drawC ?_) | (with_reducible refine drawW1 ?_) | (with_reducible refine drawW2 ?_) | (with_reducible refine keepC (by repeat (first | exact Ext.refl _ | assumption | refine Ext.trans ?_ (by assumption))) ?_) | (with_reducible refine newI (fun _ => ?_)) | ((with_reducible refine call ?_); refine (Cal.pick r (rwhole_spec ((hr.mono hI2).mono hI4) ?_))) | ((with_reducible refine call ?_); refine (equal_spec hU ((hB.mono hI2).mono hI4) ?_)) | first | (with_reducible refine rdb ?_) | ((with_reducible refine st1 ?_ ?_); rfl) | ((with_reducible refine rdB ?_ ?_); rfl) | (with_reducible refine rdbS ?_) | ((with_reducible refine rdBS ?_ ?_); rfl) | ((with_reducible refine stB ?_ ?_ ?_ ?_); rfl; rfl; exact one_all rfl) | ((with_reducible refine rdP _ rfl ?_ ?_); rfl) | ((with_reducible refine rdPS _ rfl ?_ ?_); rfl) | ((with_reducible refine stP _ rfl ?_ ?_ ?_ ?_); rfl; rfl; rfl) | (with_reducible refine unfE (sh24_4.eq_1 ..) ?_) | (with_reducible refine unfE (sh24_3.eq_1 ..) ?_) | (with_reducible refine unfE (sh24_1.eq_1 ..) ?_) | (with_reducible refine unfE (sh24.eq_1 ..) ?_) | (with_reducible refine And.intro ?_ ?_) | (simp only [Bool.not_true, Bool.not_false, Bool.and_self, Bool.true_and, Int.reduceBEq, Int.reduceBNe, Int.reduceLT, Int.reduceLE, decide_true, decide_false, Br_true, Br_false, Gd_tt, Gd_ft, Gd_tf, Gd_ff, beq_self_eq_true, bne_self_eq_false]) | (with_reducible refine gd_split (fun _ => ?_) (fun _ => ?_)) | (with_reducible refine br_split (fun _ => ?_) (fun _ => ?_)) | (simp only [SSd, Nat.reduceAdd]))
    · rename_i e
      exact Gh.to L (Gh.done (bad' I4 (hI2.trans hI4) (.inr (.inr (by simpa using e)))))
    · rename_i e
      exact Gh.to L (Gh.done (hk1 x _ I4 (hI2.trans hI4) (hT.mono hI4) ha (by simpa using e)))
    · rename_i e
      exact Gh.to L (Gh.done (bad' I4 (hI2.trans hI4) (.inr (.inl (by simpa using e)))))
theorem read_spec {v : Value} {b : List UInt8} (hB : Bytes I v b) (hl : b.length ≤ 140737488355328)
    (hk1 : ∀ c cc I', Ext I I' → TResV I' c cc → ansP c = true → encR c = b → K (.tuple #[.agg cc.toArray, .int .i64 0]) I' L)
    (hk2 : ∀ I', Ext I I' → (∀ c, ansP c = true → encR c ≠ b) → K (.tuple #[resZ, .int .i64 140]) I' L) : Cal Tryz.prog ω 24 #[v] K I L := by
  obtain ⟨va, vc, rfl⟩ := Bytes.form hB
  refine cal24 ?_
  unfold sh24
  refine newI (fun b0 => ?_)
  try simp only [SSd, Nat.reduceAdd]
  refine newI (fun r => ?_)
  refine call (rnum_spec hB hl (fun co x1 c1 d1 B1 P1 => ?_))
  have l1 := P1.len
  refine call (rnum_spec B1 (by omega) (fun st x2 c2 d2 B2 P2 => ?_))
  have l2 := P2.len
  refine call (rnum_spec B2 (by omega) (fun by' x3 c3 d3 B3 P3 => ?_))
  have l3 := P3.len
  try simp only [SSd, Nat.reduceAdd]
  refine newI (fun q => ?_)
  refine Go.SL.stB rfl rfl (one_all rfl) ?_
  refine call (Cal.pick r (rnum_spec B3 (by omega) (fun gb x4 c4 d4 B4 P4 => ?_)))
  have l4 := P4.len
  try simp only [SSd, Nat.reduceAdd]
  refine st1 rfl ?_
  refine call (Cal.pick r (rstamp_spec B4 (by omega) (fun at' x5 c5 d5 B5 P5 => ?_)))
  have l5 := P5.len
  refine call (rstamp_spec B5 (by omega) (fun ga x6 c6 d6 B6 P6 => ?_))
  have l6 := P6.len
  try simp only [SSd, Nat.reduceAdd]
  refine stP _ rfl rfl rfl rfl ?_
  try simp only [SSd, Nat.reduceAdd]
  refine stP _ rfl rfl rfl rfl ?_
  refine call (rtruth_spec B6 (by omega) (fun fo x7 c7 d7 B7 P7 => ?_))
  have l7 := P7.len
  refine call (rtext_spec B7 (by omega) (fun vl u8 x8 c8 d8 I1 hI1 T8 B8 P8 => ?_))
  have l8 := P8.len
  have m8 := P8.tlen
  obtain ⟨a8, k8, rfl⟩ := Bytes.form T8
  try simp only [SSd, Nat.reduceAdd]
  refine st1 rfl ?_
  try simp only [SSd, Nat.reduceAdd]
  refine st1 rfl ?_
  refine call (rnum_spec B8 (by omega) (fun n0 x9 c9 d9 B9 P9 => ?_))
  have l9 := P9.len
  have hinv : ∀ r', ansP r' = true → encR r' = b → r' = ⟨co, ⟨fo, vl, ga, gb⟩, r'.fRows, at', by', st⟩ ∧ n0 = r'.fRows.length ∧ d9 = false ∧ c9 = r'.fRows.flatMap rowE := by
    intro r' hr hb
    have ho := ansP_ok hr
    have hcd := ho.code
    have hst := ho.state
    have hvl := ho.val
    have hln := ho.len
    have hb' := hb.symm
    simp only [encR] at hb'
    obtain ⟨e1, f1, g1⟩ := P1.get _ _ ⟨by omega, by omega⟩ hb'
    obtain ⟨e2, f2, g2⟩ := P2.get _ _ ⟨by omega, by omega⟩ f1
    obtain ⟨e3, f3, g3⟩ := P3.get _ _ ho.by' f2
    obtain ⟨e4, f4, g4⟩ := P4.get _ _ ho.gby f3
    obtain ⟨e5, f5, g5⟩ := P5.get _ _ ho.at' f4
    obtain ⟨e6, f6, g6⟩ := P6.get _ _ ho.gat f5
    obtain ⟨e7, f7, g7⟩ := P7.get _ _ f6
    obtain ⟨e8, f8, g8⟩ := P8.get _ _ (by omega) f7
    obtain ⟨e9, f9, g9⟩ := P9.get _ _ ⟨by omega, by omega⟩ f8
    refine ⟨?_, e9, by rw [g9, g8, g7, g6, g5, g4, g3, g2, g1], f9⟩
    subst e1 e2 e3 e4 e5 e6 e7 e8
    rfl
  have hn0 := P9.max
  generalize hG : (⟨fo, vl, ga, gb⟩ : TGot) = G at *
  have hv : vl = G.fValue := by rw [← hG]
  refine loop (fun n (s : Value × Unit) I' L' => ∃ (m : Int) (acc : List TKV) (X6 : LH) (cells6 : List Value) (a6 : _) (c6 : Nat) (vr : Value) (rest : List UInt8) (bad : Bool), n = m.toNat ∧ s = (.int .i64 m, ()) ∧ Ext I1 I' ∧ maxI m ∧ SlO 113 2 X6 (.slice a6 acc.length c6) cells6 acc.length ∧ Recs (TKVV I') 2 acc cells6 ∧ acc.length ≤ 91 ∧ Bytes I' vr rest ∧ rest.length ≤ b.length ∧
    (∀ r', ansP r' = true → encR r' = b → ∃ rs, r' = ⟨co, G, acc ++ rs, at', by', st⟩ ∧ m = rs.length ∧ bad = false ∧ rest = rs.flatMap rowE) ∧
    L' = (r, rdO vr bad) :: (q, .cells (resC ⟨co, G, acc, at', by', st⟩ (.slice a8 vl.length k8) (.slice a6 acc.length c6)).toArray 52 (0, 0)) :: (X6 ++ ((b0, .cells resZc.toArray 52 (0, 0)) :: L))) n0.toNat ⟨n0, [], [], [], none, 0, x9, c9, d9, rfl, rfl, Ext.refl _, hn0, SlO.none _ _, ?_, by simp, B9, by omega, ?_, ?_⟩ ?_
  · rfl
  · intro r' h1 h2
    obtain ⟨e1, e2, e3, e4⟩ := hinv r' h1 h2
    exact ⟨r'.fRows, e1, e2, e3, e4⟩
  · subst hG; rfl
  rintro n s I' L' ⟨m, acc, X6, cells6, a6, c6, vr, rest, bad, hn, rfl, hI', hm, hO, hR, hacc, hr, hrl, hinv', rfl⟩
  have fin : (m ≤ 0 ∨ 90 < acc.length ∨ bad = true) → sh24_3 ω (.slice va b.length vc) (pt b0) (.int .i64 0) (pt r) (pt q) (fun v => Gh (K v)) I' ((r, rdO vr bad) :: (q, .cells (resC ⟨co, G, acc, at', by', st⟩ (.slice a8 vl.length k8) (.slice a6 acc.length c6)).toArray 52 (0, 0)) :: (X6 ++ ((b0, .cells resZc.toArray 52 (0, 0)) :: L))) := by
    intro hx
    have t := hI1.trans hI'
    subst hv
    refine readz_spec (x := ⟨co, G, acc, at', by', st⟩) (hB.mono t) (T8.mono hI') hO hR hr (by simp only; omega) (fun r' h1 h2 => ?_) (fun c cc I2 hI2 hT ha he => hk1 c cc I2 (t.trans hI2) hT ha he) (fun I2 hI2 h => hk2 I2 (t.trans hI2) h)
    obtain ⟨rs, e1, e2, e3, e4⟩ := hinv' r' h1 h2
    have h90 := (ansP_ok h1).len
    rw [e1, List.length_append] at h90
    have h0 : rs = [] := by
      rcases hx with hx | hx | hx
      · exact List.length_eq_zero_iff.1 (by omega)
      · omega
      · rw [e3] at hx; cases hx
    subst h0
    exact ⟨by rw [e1, List.append_nil], e3, e4⟩
  unfold sh24_1
  try simp only [SSd, Nat.reduceAdd]
  refine gd_split (fun e1 => ?_) (fun e1 => fin (.inl (by simpa using e1)))
  try simp only [SSd, Nat.reduceAdd]
  refine rdb ?_
  try simp only [SSd, Nat.reduceAdd]
  refine gd_split (fun e2 => ?_) (fun e2 => fin (.inr (.inl (by simp at e2; omega))))
  try simp only [SSd, Nat.reduceAdd]
  refine rdb ?_
  try simp only [SSd, Nat.reduceAdd]
  refine br_split (fun e3 => ?_) (fun e3 => fin (.inr (.inr (by simpa using e3))))
  have hm0 : 0 < m := by simpa using e1
  have ha90 : acc.length ≤ 90 := by simp at e2; omega
  obtain ⟨hm1, hm2⟩ := hm
  refine drawD r ?_
  try simp only [SSd, Nat.reduceAdd]
  refine rdbS ?_
  refine call (Cal.pick r (rtext_spec hr (by omega) (fun ky u1 y1 w1 z1 J1 hJ1 T1 R1 Q1 => ?_)))
  have q1 := Q1.len
  refine keepS hJ1 (fun y hy => List.mem_cons_of_mem _ hy) ?_
  refine call (rtext_spec R1 (by omega) (fun va2 u2 y2 w2 z2 J2 hJ2 T2 R2 Q2 => ?_))
  have q2 := Q2.len
  refine keepS (hJ1.trans hJ2) (fun y hy => List.mem_cons_of_mem _ hy) ?_
  have n1 := Q1.tlen
  have n2 := Q2.tlen
  have T1' := T1.mono hJ2
  obtain ⟨ua, uc, rfl⟩ := Bytes.form T1
  obtain ⟨ub, ud, rfl⟩ := Bytes.form T2
  try simp only [SSd, Nat.reduceAdd]
  refine rec_appK (R := TKVV) (X6 := X6) (x := (⟨ky, va2⟩ : TKV)) (hJ1.trans hJ2) (fun y hy => List.mem_cons_of_mem _ hy) rfl (by omega) hO (hR.imp fun _ _ h => h.mono (hJ1.trans hJ2)) ⟨_, _, rfl, T1', T2⟩ rfl (one_all rfl) (by omega) (by omega) (fun X1 X7 a7 c7 cells7 h7 hR7 => ?_)
  try simp only [SSd, Nat.reduceAdd]
  refine st1 rfl ?_
  try simp only [SSd, Nat.reduceAdd]
  rw [wrap_i64 _ (by omega)]
  refine Gh.to ((r, rdO y2 z2) :: (q, .cells (resC ⟨co, G, acc ++ [⟨ky, va2⟩], at', by', st⟩ (.slice a8 vl.length k8) (.slice a7 (acc ++ [(⟨ky, va2⟩ : TKV)]).length c7)).toArray 52 (0, 0)) :: (X7 ++ ((b0, .cells resZc.toArray 52 (0, 0)) :: L))) (Gh.done ⟨n - 1, by omega, m - 1, acc ++ [⟨ky, va2⟩], X7, cells7, a7, c7, y2, w2, z2, by omega, rfl, hI'.trans (hJ1.trans hJ2), ⟨by omega, by omega⟩, h7, hR7, by simp; omega, R2, by omega, fun r' h1 h2 => ?_, rfl⟩)
  obtain ⟨rs, f1, f2, f3, f4⟩ := hinv' r' h1 h2
  cases rs with
  | nil => simp at f2; omega
  | cons y rs =>
    have hy := (ansP_ok h1).rows y (by rw [f1]; simp)
    simp only [List.flatMap_cons, rowE, List.append_assoc] at f4
    obtain ⟨k1, k2, k3⟩ := Q1.get _ _ (by omega) f4
    obtain ⟨k4, k5, k6⟩ := Q2.get _ _ (by omega) k2
    refine ⟨rs, ?_, by simp at f2; omega, by rw [k6, k3, f3], k5⟩
    rw [f1, k1, k4, List.append_assoc]; rfl
end
end Go.Proofs.YtmmfcgbfbcamcaaGreatDoor
-- S3
set_option linter.unusedSimpArgs false
set_option linter.unusedVariables false
namespace Go.Proofs.YtmmfcgbfbcamcaaGreatDoor
open Go.SL
set_option maxRecDepth 10000
section
variable {ω : Om} {I : Imm} {L : LH} {K : Value → M}
end
end Go.Proofs.YtmmfcgbfbcamcaaGreatDoor
-- S3
set_option linter.unusedSimpArgs false
set_option linter.unusedVariables false
namespace Go.Proofs.YtmmfcgbfbcamcaaGreatDoor
open Go.SL
set_option maxRecDepth 10000
section
variable {ω : Om} {I : Imm} {L L0 : LH} {K : Value → M} {b r clock : Nat} {es : Array MapEntry} {m : Key → Option Value} {vis : List MapEntry}
theorem fndS_at {k : Key} {e : MapEntry} : ∀ {l : List MapEntry} {i : Nat}, (l.map eKey).Nodup → e ∈ l → eKey e = k → (fnd k l i).map (·.2) = some e.val
  | x :: l, i, hn, he, hk => by
    simp only [List.map_cons, List.nodup_cons] at hn
    simp only [fnd]
    rcases List.mem_cons.1 he with rfl | he
    · rw [if_pos hk]; rfl
    · rw [if_neg (fun e2 => hn.1 (List.mem_map.2 ⟨e, he, by rw [hk, e2]⟩))]
      exact fndS_at hn.2 he hk
theorem mapS_mem (h : MapS es clock m) {e : MapEntry} (he : e ∈ es.toList) : m (eKey e) = some e.val := by
  rw [h.val]; exact fndS_at h.nod he rfl
theorem mapS_ex (h : MapS es clock m) {k : Key} {v : Value} (hv : m k = some v) : ∃ e ∈ es.toList, eKey e = k ∧ e.val = v := by
  rw [h.val] at hv
  cases hf : fnd k es.toList 0 with
  | none => rw [hf] at hv; cases hv
  | some p =>
    obtain ⟨i, u⟩ := p
    rw [hf] at hv
    obtain ⟨n, e, _, h2, h3, h4⟩ := fnd_some hf
    refine ⟨e, List.mem_of_getElem? h2, h3, ?_⟩
    rw [h4]; simpa using hv
theorem mapS_key (h : MapS es clock m) {e : MapEntry} (he : e ∈ es.toList) : e.key = kstr (eKey e) := by
  obtain ⟨s, hs⟩ := h.str e he
  unfold eKey kstr
  rw [hs]
theorem nxtD (h : MapS es clock m) (ha : MapAt I L0 r es clock) (hend : (∀ e ∈ es.toList, e.born ∈ vis.map (·.born)) → K (.tuple #[.bool false]) I ((b, iterO r clock vis) :: L0))
    (hstep : ∀ e, e ∈ es.toList → e.born ∉ vis.map (·.born) → K (.tuple #[.bool true, e.key, e.val]) I ((b, iterO r clock (vis ++ [e])) :: L0)) : NxtM (.pointer (some ⟨b, 0, .none⟩)) K I ((b, iterO r clock vis) :: L0) := by
  refine ⟨b, [], L0, rfl, .inr ⟨r, clock, (vis.map (·.born)).toArray, clock, es, clock, rfl, MapAt.skip ha, ?_, fun hh => hend ?_, fun e he hs => ?_⟩⟩
  · intro hc
    simp only [Bool.and_eq_true, Bool.not_eq_true', Array.isEmpty_iff, Array.all_eq_true', decide_eq_true_eq] at hc
    cases hl : es.toList with
    | nil =>
      have : es = #[] := by cases es; simpa using hl
      have h2 := hc.1.2
      rw [this] at h2
      simp at h2
    | cons e l =>
      have he : e ∈ es.toList := by rw [hl]; exact List.mem_cons_self ..
      have h1 := h.brn e he
      have h2 := hc.2 e (by simpa using he)
      omega
  · intro e he
    cases hc : (vis.map (·.born)).toArray.contains e.born with
    | false => have := hh e (by simpa using he) hc; have := h.brn e he; omega
    | true => simpa using hc
  · have hne : e.born ∉ vis.map (·.born) := by simpa using hs
    have := hstep e (by simpa using he) hne
    simpa [iterO] using this
theorem filter_less {α : Type} {p q : α → Bool} {a : α} : ∀ {l : List α}, a ∈ l → p a = true → q a = false → (∀ x ∈ l, q x = true → p x = true) → (l.filter q).length < (l.filter p).length
  | x :: l, ha, hp, hq, h => by
    have hle : (l.filter q).length ≤ (l.filter p).length := by
      rw [← List.countP_eq_length_filter, ← List.countP_eq_length_filter]
      exact List.countP_mono_left fun y hy hh => h y (List.mem_cons_of_mem _ hy) hh
    rcases List.mem_cons.1 ha with rfl | ha
    · simp only [List.filter_cons, hp, hq, if_true, Bool.false_eq_true, if_false, List.length_cons]; omega
    · have ih := filter_less ha hp hq fun y hy hh => h y (List.mem_cons_of_mem _ hy) hh
      have h0 := h x (List.mem_cons_self ..)
      simp only [List.filter_cons]
      cases hx : q x with
      | true => simp only [h0 hx, if_true, List.length_cons]; omega
      | false => cases hy : p x <;> simp only [if_true, Bool.false_eq_true, if_false, List.length_cons] <;> omega
theorem delS (h : MapS es clock m) (k : Key) : ∃ es', delE k es clock = .map es' clock ∧ MapS es' clock (updM m k none) ∧ es'.toList.Sublist es.toList ∧ (∀ e ∈ es'.toList, eKey e ≠ k) ∧ (∀ e ∈ es.toList, eKey e ≠ k → e ∈ es'.toList) := by
  obtain ⟨es', h1, h2⟩ := h.del k
  have hs : es'.toList.Sublist es.toList := by
    unfold delE at h1
    cases hf : fnd k es.toList 0 with
    | none => rw [hf] at h1; simp only [Obj.map.injEq] at h1; rw [h1.1]; exact List.Sublist.refl _
    | some p =>
      obtain ⟨i, v⟩ := p
      rw [hf] at h1
      simp only [Obj.map.injEq] at h1
      rw [← h1.1, Array.toList_eraseIdxIfInBounds]
      exact List.eraseIdx_sublist _ _
  refine ⟨es', h1, h2, hs, fun e he hk => ?_, fun e he hk => ?_⟩
  · have := mapS_mem h2 he
    unfold updM at this
    rw [if_pos hk] at this; cases this
  · have h3 : updM m k none (eKey e) = some e.val := by unfold updM; rw [if_neg hk]; exact mapS_mem h he
    obtain ⟨e', he', hk', _⟩ := mapS_ex h2 h3
    rw [← map_inj h.nod (hs.subset he') he hk']; exact he'
theorem delMk_spec {fv : Value} {F : LH} {r c : Nat} {es : Array MapEntry} {l : AL Key TMk} {del : Key × TMk → Bool} (h : MapS es c (encM mv l)) (hs : SrtA blt l)
    (hf : ∀ (q : Key × TMk) (Y : LH) (K' : Value → M), q ∈ l → K' (.bool (del q)) I (Y ++ F) → CalV Tryz.prog ω fv #[kstr q.1, mv q.2] K' I (Y ++ F))
    (hk : ∀ es', MapS es' c (encM mv (l.filter fun q => !del q)) → K (.tuple #[]) I ((r, .map es' c) :: F)) :
    Cal Tryz.prog ω 164 #[.map (some r), fv] K I ((r, .map es c) :: F) := by
  refine cal164 ?_
  unfold sh164
  have hsk : ∀ e ∈ es.toList, ∃ x, lkA l (eKey e) = some x ∧ e.val = mv x := by
    intro e he
    have := mapS_mem h he
    unfold encM at this
    cases hx : lkA l (eKey e) with
    | none => rw [hx] at this; cases this
    | some x => rw [hx] at this; exact ⟨x, rfl, (Option.some.inj this).symm⟩
  let dl : MapEntry → Bool := fun e => match lkA l (eKey e) with
    | some x => del (eKey e, x)
    | none => false
  have hdl : ∀ e x, lkA l (eKey e) = some x → dl e = del (eKey e, x) := by intro e x hx; show (match lkA l (eKey e) with | some x => del (eKey e, x) | none => false) = _; rw [hx]
  generalize dl = dl at hdl
  refine rngI (.inl (List.mem_cons_self ..)) (fun it => ?_)
  refine Gh.done ?_
  refine loop (fun n s I' L' => I' = I ∧ ∃ (es1 : Array MapEntry) (m1 : Key → Option Value) (vis : List MapEntry), n = (es1.toList.filter fun e => !(vis.map (·.born)).contains e.born).length ∧ MapS es1 c m1 ∧ (∀ e ∈ es1.toList, e ∈ es.toList) ∧ (∀ e ∈ es1.toList, e.born ∈ vis.map (·.born) → dl e = false) ∧ (∀ e ∈ es.toList, e ∈ es1.toList ∨ dl e = true) ∧
    L' = (it, iterO r c vis) :: (r, .map es1 c) :: F) _ ⟨rfl, es, _, [], rfl, h, fun e he => he, fun e he hv => (by cases hv), fun e he => .inl he, rfl⟩ ?_
  rintro n s I' L' ⟨rfl, es1, m1, vis, rfl, h1, hsub, hvis, hall, rfl⟩
  unfold sh164_1
  refine nxtD h1 (.inl (List.mem_cons_self ..)) (fun hv => Gh.done ?_) (fun e he hne => Gh.done ?_)
  · try simp only [SSd, Nat.reduceAdd]
    refine Gh.to ((r, .map es1 c) :: F) (Gh.done (hk es1 ?_))
    have hm : m1 = encM mv (l.filter fun q => !del q) := by
      funext k
      cases hx : lkA l k with
      | none =>
        have h2 : lkA (l.filter fun q => !del q) k = none := lkA_none.2 fun q hq => lkA_none.1 hx q (List.mem_filter.1 hq).1
        unfold encM; rw [h2]
        cases h3 : m1 k with
        | none => rfl
        | some v =>
          obtain ⟨e, he, hk, _⟩ := mapS_ex h1 h3
          obtain ⟨x, hx2, _⟩ := hsk e (hsub e he)
          rw [hk, hx] at hx2; cases hx2
      | some x =>
        obtain ⟨e, he, hke, hve⟩ := mapS_ex (v := mv x) h (by unfold encM; rw [hx]; rfl)
        have hd := hdl e x (by rw [hke]; exact hx)
        rw [hke] at hd
        cases hb : del (k, x) with
        | true =>
          have h2 : lkA (l.filter fun q => !del q) k = none := lkA_none.2 fun q hq => by
            intro hqk
            obtain ⟨hq1, hq2⟩ := List.mem_filter.1 hq
            obtain ⟨q1, q2⟩ := q
            simp only at hqk
            subst hqk
            have := lkA_of bltO hs hq1
            rw [hx] at this
            rw [← Option.some.inj this, hb] at hq2
            simp at hq2
          unfold encM; rw [h2]
          cases h3 : m1 k with
          | none => rfl
          | some v =>
            obtain ⟨e1, he1, hk1, _⟩ := mapS_ex h1 h3
            have h4 := hvis e1 he1 (hv e1 he1)
            have h5 := hdl e1 x (by rw [hk1]; exact hx)
            rw [hk1, hb, h4] at h5; cases h5
        | false =>
          rw [hb] at hd
          rcases hall e he with h2 | h2
          · have h3 := mapS_mem h1 h2
            rw [hke, hve] at h3
            have h4 : lkA (l.filter fun q => !del q) k = some x := lkA_of bltO (List.Pairwise.sublist List.filter_sublist hs) (List.mem_filter.2 ⟨lkA_mem hx, by simp [hb]⟩)
            unfold encM; rw [h3, h4]; rfl
          · rw [hd] at h2; cases h2
    rw [hm] at h1; exact h1
  · have he0 := hsub e he
    obtain ⟨x, hx, hev⟩ := hsk e he0
    have hek := mapS_key h1 he
    try simp only [SSd, Nat.reduceAdd]
    refine ⟨_, entI h1 (.inl (List.mem_cons_self ..)) he, ?_⟩
    rw [hek, hev]
    try simp only [SSd, Nat.reduceAdd]
    refine newI (fun kb => ?_)
    refine stB rfl rfl (one_all rfl) ?_
    refine rdB rfl ?_
    have hd := hdl e x hx
    have hvm : ∀ e2 : MapEntry, e2.born ∈ (vis ++ [e]).map (·.born) → e2.born ∈ vis.map (·.born) ∨ e2.born = e.born := by
      intro e2 h2
      rw [List.map_append, List.mem_append] at h2
      rcases h2 with h2 | h2
      · exact .inl h2
      · right; simpa using h2
    refine CalV.mono (hf (eKey e, x) ((kb, .cells #[.int .i64 x.fAt.fWall, .int .i64 x.fAt.fLogic, .int .i64 x.fBy] 159 (0, 0)) :: (it, iterO r c (vis ++ [e])) :: [(r, .map es1 c)]) (fun v I2 L2 => v = .bool (del (eKey e, x)) ∧ I2 = I' ∧ L2 = (kb, .cells #[.int .i64 x.fAt.fWall, .int .i64 x.fAt.fLogic, .int .i64 x.fBy] 159 (0, 0)) :: (it, iterO r c (vis ++ [e])) :: (r, .map es1 c) :: F) (lkA_mem hx) ⟨rfl, rfl, rfl⟩) ?_
    rintro v I2 L2 ⟨rfl, rfl, rfl⟩
    refine Gh.done ?_
    cases hb : del (eKey e, x) with
    | true =>
      try simp only [SSd, Nat.reduceAdd]
      obtain ⟨es2, d1, d2, d3, d4, d5⟩ := delS h1 (eKey e)
      refine delm h1 d1 (Gh.done ?_)
      refine Gh.to ((it, iterO r c (vis ++ [e])) :: (r, .map es2 c) :: F) (Gh.done ⟨_, ?_, rfl, es2, _, vis ++ [e], rfl, d2, fun e2 h2 => hsub e2 (d3.subset h2), fun e2 h2 hv => ?_, fun e2 h2 => ?_, rfl⟩)
      · refine Nat.lt_of_le_of_lt (d3.filter _).length_le (filter_less he (by simpa using hne) (by simp) fun e2 h2 hq => ?_)
        simp at hq ⊢
        exact hq.1
      · rcases hvm e2 hv with h3 | h3
        · exact hvis e2 (d3.subset h2) h3
        · exact absurd (by rw [map_inj h1.bnd (d3.subset h2) he h3]) (d4 e2 h2)
      · rcases hall e2 h2 with h3 | h3
        · by_cases h4 : eKey e2 = eKey e
          · right; rw [map_inj h.nod h2 he0 h4, hd, hb]
          · exact .inl (d5 e2 h3 h4)
        · exact .inr h3
    | false =>
      try simp only [SSd, Nat.reduceAdd]
      refine Gh.to ((it, iterO r c (vis ++ [e])) :: (r, .map es1 c) :: F) (Gh.done ⟨_, ?_, rfl, es1, _, vis ++ [e], rfl, h1, hsub, fun e2 h2 hv => ?_, hall, rfl⟩)
      · refine filter_less he (by simpa using hne) (by simp) fun e2 h2 hq => ?_
        simp at hq ⊢
        exact hq.1
      · rcases hvm e2 hv with h3 | h3
        · exact hvis e2 h2 h3
        · rw [map_inj h1.bnd h2 he h3, hd, hb]
end
end Go.Proofs.YtmmfcgbfbcamcaaGreatDoor
set_option linter.unusedSimpArgs false
set_option linter.unusedVariables false
namespace Go.Proofs.YtmmfcgbfbcamcaaGreatDoor
open Go.SL
set_option maxRecDepth 10000
theorem clone_cal {P : Program} {ρ : Go.Shelf.Ren} (Lay : Go.Proofs.SlLaysW.n5 P ρ) {ω : Om} {I : Imm} {L : LH} {K : Value → M} {b clock : Nat} {es : Array MapEntry} (hin : (b, Obj.map es clock) ∈ L)
    (hk : ∀ b', K (.map (some b')) I ((b', .map es clock) :: L)) : Cal P ω (ρ.f 5) #[.map (some b)] K I L := by
  intro w hs
  refine (Go.Proofs.AnyW.maps_Clone Lay b es clock w (hs.own b _ hin)).mono ?_
  rintro e w' ⟨rfl, rfl⟩
  exact ⟨_, I, _, rfl, hs.push _, hk _⟩
end Go.Proofs.YtmmfcgbfbcamcaaGreatDoor
set_option linter.unusedSimpArgs false
set_option linter.unusedVariables false
set_option linter.unusedSectionVars false
namespace Go.SL
open Go.Proofs
theorem Cal.le {P : Program} {ω : Om} {g : Nat} {args : Array Value} {I : Imm} {L : LH} {w : World} {Q : Value → Prop} (hs : St ω w I L) (hI : ∀ b o, w.heap[b]? = some o → I b = some o) (hd : ω.dr = w.drawn)
    (h : Cal P ω g args (fun v I2 _ => Q v ∧ Ext I I2) I L) : Calls P g args w fun e w' => (∃ v, e = .returned v ∧ Q v) ∧ ∃ q os', w' = Sort.grow (w.drewN q) os' := by
  refine (h w hs).mono ?_
  rintro e w' ⟨v, I', L', rfl, hs', hv, hI'⟩
  refine ⟨⟨v, rfl, hv⟩, w'.drawn - w.drawn, w'.heap.extract w.heap.size w'.heap.size, ?_⟩
  have hdr := hs'.dr
  rw [hd] at hdr
  have hblk : ∀ k, k < w.heap.size → w'.heap[k]? = w.heap[k]? := by
    intro k hk
    have h1 : w.heap[k]? = some w.heap[k] := Array.getElem?_eq_getElem hk
    rw [h1]
    exact hs'.imm k _ (hI' k _ (hI k _ h1))
  have hsz : w.heap.size ≤ w'.heap.size := by
    rcases Nat.eq_zero_or_pos w.heap.size with h0 | h0
    · omega
    · have := hblk (w.heap.size - 1) (by omega)
      rw [Array.getElem?_eq_getElem (by omega : w.heap.size - 1 < w.heap.size)] at this
      have := (Array.getElem?_eq_some_iff.1 this).1
      omega
  have h1 : w'.heap = w.heap ++ w'.heap.extract w.heap.size w'.heap.size := by
    apply Array.ext_getElem?
    intro i
    by_cases hi : i < w.heap.size
    · rw [Array.getElem?_append_left hi, hblk i hi]
    · rw [Array.getElem?_append_right (by omega), Array.getElem?_extract]
      by_cases h2 : i < w'.heap.size
      · rw [if_pos (by omega)]; congr 1; omega
      · rw [if_neg (by omega)]; exact Array.getElem?_eq_none (by omega)
  obtain ⟨hp, tp, dr, os, ou⟩ := w'
  have e1 := hs'.tape; have e2 := hs'.os; have e3 := hs'.out
  have f1 := hs.tape; have f2 := hs.os; have f3 := hs.out
  simp only at *
  unfold Sort.grow World.drewN
  simp only [World.mk.injEq]
  refine ⟨h1, by rw [e1, f1], by omega, by rw [e2, f2], by rw [e3, f3]⟩
theorem St.row {ω : Om} {w w' : World} {I : Imm} {F : LH} {b : Nat} {o o' : Obj} (h : St ω w I ((b, o) :: F)) (hk : ∀ j, j < w.heap.size → j ≠ b → w'.heap[j]? = w.heap[j]?) (hb : w'.heap[b]? = some o')
    (h1 : w'.tape = w.tape) (h2 : w'.os = w.os) (h3 : w'.output = w.output) (h4 : w.drawn ≤ w'.drawn) : St ω w' I ((b, o') :: F) := by
  have hnd := h.nodup
  simp only [List.map_cons, List.nodup_cons] at hnd
  refine ⟨fun j u hj => ?_, fun j u hj => ?_, by simpa using hnd, fun j u hj => ?_, h1.trans h.tape, h2.trans h.os, h3.trans h.out, Nat.le_trans h.dr h4⟩
  · rw [hk j (h.ltI hj) (fun e => by subst e; have := h.apart j o (List.mem_cons_self ..); rw [this] at hj; cases hj)]
    exact h.imm j u hj
  · rcases List.mem_cons.1 hj with e | hj
    · simp only [Prod.mk.injEq] at e; obtain ⟨rfl, rfl⟩ := e; exact hb
    · have hj0 := hj
      have hj' : (j, u) ∈ (b, o) :: F := List.mem_cons_of_mem _ hj
      rw [hk j (h.lt hj') (fun e => by subst e; exact hnd.1 (List.mem_map.2 ⟨(j, u), hj0, rfl⟩))]
      exact h.own j u hj'
  · rcases List.mem_cons.1 hj with e | hj
    · simp only [Prod.mk.injEq] at e; obtain ⟨rfl, rfl⟩ := e; exact h.apart j o (List.mem_cons_self ..)
    · exact h.apart j u (List.mem_cons_of_mem _ hj)
/-! ### a row of records -/
section
variable {β : Type} {R : Imm → β → List Value → Prop} {I : Imm} {k : Nat}
end
end Go.SL
set_option linter.unusedSimpArgs false
set_option linter.unusedVariables false
set_option linter.unusedSectionVars false
namespace Go.SL
open Go.Proofs
theorem sort1_cal {P : Program} {f : FuncId} {α : Type} [Inhabited α] {enc : α → Value} {le : α → α → Bool}
    (htr : ∀ a b c, le a b = true → le b c = true → le a c = true) (htot : ∀ a b, (le a b || le b a) = true)
    (none : ∀ (p : Option Addr) (cap : Nat) (w : World), Calls P f #[.slice p 0 cap] w fun e w' => e = .returned (.tuple #[]) ∧ w' = w)
    (sort : ∀ (blk off cap : Nat) (zs : List α) (w : World), Sort.Holds enc w blk off zs.toArray → blk < w.heap.size → zs.length < 4611686018427387904 →
      Calls P f #[.slice (some ⟨blk, off, Option.none⟩) zs.length cap] w fun e w' => e = .returned (.tuple #[]) ∧ ∃ n os, w' = Sort.grow (Sort.putRow enc (Sort.ahead w n) blk off (zs.mergeSort le).toArray) os)
    {ω : Om} {I : Imm} {T : Nat} {X F : LH} {v : Value} {zs : List α} (hO : SlO T 1 X v (zs.map enc) zs.length) (hsz : zs.length < 4611686018427387904) {K : Value → M}
    (hk : ∀ (X' : LH) (ys : List α), ys.Perm zs → ys.Pairwise (fun a b => le a b = true) → SlO T 1 X' v (ys.map enc) ys.length → K (.tuple #[]) I (X' ++ F)) : Cal P ω f #[v] K I (X ++ F) := by
  intro w hs
  have nil : zs.length = 0 → ∀ a c, v = .slice a 0 c → Calls P f #[v] w (Ret ω K) := by
    intro h0 a c hv
    rw [hv]
    refine (none a _ w).mono ?_
    rintro e w' ⟨rfl, rfl⟩
    exact ⟨_, I, X ++ F, rfl, hs, hk X zs (List.Perm.refl _) (by rw [List.eq_nil_of_length_eq_zero h0]; exact List.Pairwise.nil) hO⟩
  obtain ⟨hcl, ho⟩ := hO
  rcases ho with ⟨rfl, h0, a, rfl⟩ | ⟨b, cap, cs, rfl, rfl, hcs, hle, hc⟩
  · exact nil h0 a 0 rfl
  by_cases h0 : zs.length = 0
  · exact nil h0 (some ⟨b, 0, Option.none⟩) cap (by rw [h0])
  have hb : w.heap[b]? = some (.cells cs T (0, 0)) := hs.own b _ (List.mem_cons_self ..)
  have hlt := (Array.getElem?_eq_some_iff.1 hb).1
  have hH : Sort.Holds enc w b 0 zs.toArray := by
    intro j hj
    have hj' : j < zs.length := by simpa using hj
    refine ⟨?_, by simp [World.frozen?, hb]⟩
    have h3 := hc j (enc zs[j]) (by simp [hj'])
    simp only [World.cell?, hb, Nat.zero_add, Option.isSome_none, Bool.false_eq_true, if_false]
    rw [h3, getElem!_pos zs.toArray j hj]
    simp
  refine (sort b 0 cap zs w hH hlt hsz).mono ?_
  rintro e w' ⟨rfl, n, os, rfl⟩
  have hperm := List.mergeSort_perm zs le
  have hsrt := List.pairwise_mergeSort htr htot zs
  generalize zs.mergeSort le = ys at *
  have hyl : ys.length = zs.length := hperm.length_eq
  have hst : St ω (Sort.grow (Sort.putRow enc (Sort.ahead w n) b 0 ys.toArray) os) I ((b, .cells (Sort.putCells enc 0 ys.toArray cs) T (0, 0)) :: F) := by
    refine St.row (o := .cells cs T (0, 0)) hs (fun j hj hne => ?_) ?_ rfl rfl rfl (Nat.le_add_right _ _)
    · show ((Sort.mapBlock (Sort.ahead w n) b (Sort.putCells enc 0 ys.toArray)).heap ++ os)[j]? = _
      rw [Array.getElem?_append_left (by simp [Sort.mapBlock, Sort.ahead]; exact hj)]
      simp only [Sort.mapBlock, Sort.ahead, Array.getElem?_modify]
      rw [if_neg (Ne.symm hne)]
    · show ((Sort.mapBlock (Sort.ahead w n) b (Sort.putCells enc 0 ys.toArray)).heap ++ os)[b]? = _
      rw [Array.getElem?_append_left (by simp [Sort.mapBlock, Sort.ahead]; exact hlt)]
      simp only [Sort.mapBlock, Sort.ahead, Array.getElem?_modify, if_true, hb, Option.map_some]
      rfl
  refine ⟨_, I, _, rfl, hst, hk [(b, _)] ys hperm hsrt ⟨by simp, .inr ⟨b, cap, _, rfl, by rw [hyl], by simp [Sort.putCells, hcs], by omega, ?_⟩⟩⟩
  intro j u hu
  have hj : j < ys.length := by have := (List.getElem?_eq_some_iff.1 hu).1; simpa using this
  have hlt2 : j < cs.size := by rw [hcs]; omega
  simp only [Sort.putCells, Array.getElem?_mapIdx, Array.getElem?_eq_getElem hlt2, Option.map_some, Nat.zero_le, true_and, Nat.zero_add, List.size_toArray, hj, if_true, Nat.sub_zero]
  rw [getElem!_pos ys.toArray j (by simpa using hj)]
  simpa [hj] using hu
theorem lt_blt : ∀ a b : List UInt8, a < b ↔ blt a b = true
  | [], [] => by simp [blt, Op.bytesLess]
  | [], b :: bs => by simp [blt, Op.bytesLess]
  | a :: p, [] => by simp [blt, Op.bytesLess]
  | a :: p, b :: q => by
    have ih := lt_blt p q
    rw [List.cons_lt_cons_iff]
    show _ ↔ (decide (a < b) || (a == b && blt p q)) = true
    simp [ih]
theorem le_blt (a b : List UInt8) : a ≤ b ↔ blt b a = false := by
  rw [← List.not_lt, lt_blt]; simp
theorem sortS_cal {P : Program} {ρ : Go.Shelf.Ren} (Lay : Go.Proofs.Lays.n190 P ρ) {ω : Om} {I : Imm} {T : Nat} {X F : LH} {v : Value} {zs : List (List UInt8)} (hO : SlO T 1 X v (zs.map kstr) zs.length) (hsz : zs.length < 4611686018427387904) {K : Value → M}
    (hk : ∀ (X' : LH) (ys : List (List UInt8)), ys.Perm zs → ys.Pairwise (fun a b => blt b a = false) → SlO T 1 X' v (ys.map kstr) ys.length → K (.tuple #[]) I (X' ++ F)) : Cal P ω (ρ.f 190) #[v] K I (X ++ F) :=
  sort1_cal (enc := kstr) (le := fun x y : List UInt8 => decide (x ≤ y)) (fun a b c h1 h2 => by simp only [decide_eq_true_eq] at *; exact List.le_trans h1 h2) (fun a b => by simp only [Bool.or_eq_true, decide_eq_true_eq]; exact List.le_total a b) (fun p cap w => Go.Proofs.Any.slices_Sort_string_none Lay p cap w) (fun blk off cap zs w h1 h2 h3 => Go.Proofs.Any.slices_Sort_string Lay blk off cap zs w h1 h2 h3) hO hsz
    (fun X' ys h1 h2 h3 => hk X' ys h1 (h2.imp fun h => by simpa [le_blt] using h) h3)
end Go.SL
namespace Go.Proofs
open Go.Shelf
def Tryz.lay163_ren : Go.Shelf.Ren := ⟨fun | 5 => 163 | 7 => 225 | n => n, fun | 23 => 161 | 25 => 3 | 3 => 209 | 4 => 4 | 20 => 20 | n => n, fun | n => n⟩
theorem Tryz.lay163 : Go.Proofs.SlLaysW.n5 Tryz.prog Tryz.lay163_ren := {
  mixed := by kernel_rfl
  f5 := ⟨Tryz.f163.name, by decide, Tryz.func163.trans (congrArg some (by kernel_rfl))⟩
  f7 := Tryz.func225.trans (congrArg some (by kernel_rfl))
  t4 := Tryz.underlying4
  a4 := Tryz.isAgg4
  z4 := Tryz.sizeOf4
  v4 := Tryz.zeroValue4
  t20 := Tryz.underlying20
  a20 := Tryz.isAgg20
  z20 := Tryz.sizeOf20
  v20 := Tryz.zeroValue20
  t23 := Tryz.underlying161
  a23 := Tryz.isAgg161
  z23 := Tryz.sizeOf161
  v23 := Tryz.zeroValue161 }
def Tryz.lay180_ren : Go.Shelf.Ren := ⟨fun | 190 => 180 | 125 => 138 | 258 => 231 | 128 => 202 | 129 => 203 | 302 => 248 | 303 => 249 | 304 => 250 | 305 => 251 | 306 => 252 | 307 => 253 | 308 => 210 | 309 => 254 | 310 => 255 | 333 => 270 | 329 => 238 | 330 => 239 | 334 => 271 | 335 => 272 | 336 => 244 | 344 => 279 | n => n, fun | 31 => 177 | 9 => 9 | 3 => 3 | 46 => 219 | 0 => 0 | 51 => 275 | 53 => 196 | 4 => 4 | 183 => 269 | 182 => 268 | 131 => 221 | 5 => 5 | 218 => 310 | 222 => 314 | 228 => 332 | 229 => 333 | n => n, fun | n => n⟩
theorem Tryz.lay180 : Go.Proofs.Lays.n190 Tryz.prog Tryz.lay180_ren := {
  mixed := by kernel_rfl
  f125 := Tryz.func138.trans (congrArg some (by kernel_rfl))
  f128 := Tryz.func202.trans (congrArg some (by kernel_rfl))
  f129 := Tryz.func203.trans (congrArg some (by kernel_rfl))
  f190 := Tryz.func180.trans (congrArg some (by kernel_rfl))
  f258 := Tryz.func231.trans (congrArg some (by kernel_rfl))
  f302 := Tryz.func248.trans (congrArg some (by kernel_rfl))
  f303 := Tryz.func249.trans (congrArg some (by kernel_rfl))
  f304 := Tryz.func250.trans (congrArg some (by kernel_rfl))
  f305 := Tryz.func251.trans (congrArg some (by kernel_rfl))
  f306 := Tryz.func252.trans (congrArg some (by kernel_rfl))
  f307 := Tryz.func253.trans (congrArg some (by kernel_rfl))
  f308 := Tryz.func210.trans (congrArg some (by kernel_rfl))
  f309 := Tryz.func254.trans (congrArg some (by kernel_rfl))
  f310 := Tryz.func255.trans (congrArg some (by kernel_rfl))
  f329 := Tryz.func238.trans (congrArg some (by kernel_rfl))
  f330 := Tryz.func239.trans (congrArg some (by kernel_rfl))
  f333 := Tryz.func270.trans (congrArg some (by kernel_rfl))
  f334 := Tryz.func271.trans (congrArg some (by kernel_rfl))
  f335 := Tryz.func272.trans (congrArg some (by kernel_rfl))
  f336 := Tryz.func244.trans (congrArg some (by kernel_rfl))
  f344 := Tryz.func279.trans (congrArg some (by kernel_rfl))
  t0 := Tryz.underlying0
  a0 := Tryz.isAgg0
  z0 := Tryz.sizeOf0
  v0 := Tryz.zeroValue0
  t3 := Tryz.underlying3
  a3 := Tryz.isAgg3
  z3 := Tryz.sizeOf3
  v3 := Tryz.zeroValue3
  t4 := Tryz.underlying4
  a4 := Tryz.isAgg4
  z4 := Tryz.sizeOf4
  v4 := Tryz.zeroValue4
  t5 := Tryz.underlying5
  a5 := Tryz.isAgg5
  z5 := Tryz.sizeOf5
  v5 := Tryz.zeroValue5
  t9 := Tryz.underlying9
  a9 := Tryz.isAgg9
  z9 := Tryz.sizeOf9
  v9 := Tryz.zeroValue9
  t31 := Tryz.underlying177
  a31 := Tryz.isAgg177
  z31 := Tryz.sizeOf177
  v31 := Tryz.zeroValue177
  t46 := Tryz.underlying219
  a46 := Tryz.isAgg219
  z46 := Tryz.sizeOf219
  v46 := Tryz.zeroValue219
  t51 := Tryz.underlying275
  a51 := Tryz.isAgg275
  z51 := Tryz.sizeOf275
  v51 := Tryz.zeroValue275
  t53 := Tryz.underlying196
  a53 := Tryz.isAgg196
  z53 := Tryz.sizeOf196
  v53 := Tryz.zeroValue196
  t131 := Tryz.underlying221
  a131 := Tryz.isAgg221
  z131 := Tryz.sizeOf221
  v131 := Tryz.zeroValue221
  t182 := Tryz.underlying268
  a182 := Tryz.isAgg268
  z182 := Tryz.sizeOf268
  v182 := Tryz.zeroValue268
  t183 := Tryz.underlying269
  a183 := Tryz.isAgg269
  z183 := Tryz.sizeOf269
  v183 := Tryz.zeroValue269
  t218 := Tryz.underlying310
  a218 := Tryz.isAgg310
  z218 := Tryz.sizeOf310
  v218 := Tryz.zeroValue310
  t222 := Tryz.underlying314
  a222 := Tryz.isAgg314
  z222 := Tryz.sizeOf314
  v222 := Tryz.zeroValue314
  t228 := Tryz.underlying332
  a228 := Tryz.isAgg332
  z228 := Tryz.sizeOf332
  v228 := Tryz.zeroValue332
  t229 := Tryz.underlying333
  a229 := Tryz.isAgg333
  z229 := Tryz.sizeOf333
  v229 := Tryz.zeroValue333 }
end Go.Proofs
-- S3
set_option linter.unusedSimpArgs false
set_option linter.unusedVariables false
namespace Go.Proofs.YtmmfcgbfbcamcaaGreatDoor
open Go.SL
set_option maxRecDepth 10000
theorem sortS : SortS := fun ω I K T X F v zs hO hl hk => sortS_cal Go.Proofs.Tryz.lay180 hO (by omega) hk
theorem cloneSeen_spec {ω : Om} {I : Imm} {L : LH} {K : Value → M} {b clock : Nat} {es : Array MapEntry} (hin : (b, Obj.map es clock) ∈ L)
    (hk : ∀ b', K (.map (some b')) I ((b', .map es clock) :: L)) : Cal Tryz.prog ω 163 #[.map (some b)] K I L := clone_cal Go.Proofs.Tryz.lay163 hin hk
end Go.Proofs.YtmmfcgbfbcamcaaGreatDoor
-- S3
set_option linter.unusedSimpArgs false
set_option linter.unusedVariables false
namespace Go.Proofs.YtmmfcgbfbcamcaaGreatDoor
open Go.SL
set_option maxRecDepth 10000
section
variable {ω : Om} {I : Imm} {L : LH} {K : Value → M}
theorem NoteR.head {b m ch : Nat} {kv : Value} {fl : TStamp} {X : LH} {nt : Nts} (h : NoteR I b m ch kv fl X nt) : Cells I X b 0 [.map (some m), kv, .int .i64 fl.fWall, .int .i64 fl.fLogic] := by
  obtain ⟨NX, hp, _⟩ := h
  exact own_cells (l := [.map (some m), kv, .int .i64 fl.fWall, .int .i64 fl.fLogic, .map (some ch)]) (T := 179) (fr := (0, 0)) (hp.mem_iff.2 (List.mem_cons_self ..)) 4
theorem noteVersion0 {b m ch : Nat} {kv : Value} {fl : TStamp} {X F : LH} {nt : Nts} {k : List UInt8} {v : TVer} (hN : NoteR I b m ch kv fl X nt) (hr : rightB v.fAt = true) (hl : k.length ≤ 1000000000) (hvl : v.fValue.length ≤ 1000000000)
    (hk : ∀ X' I', Ext I I' → NoteR I' b m ch kv fl X' (updN nt (vkey k v) (false, verText v)) → K (.tuple #[]) I' (X' ++ F)) :
    Cal Tryz.prog ω 189 #[pt b, sstr k, vv v] K I (X ++ F) := by
  refine cal189 ?_
  unfold sh189
  refine newI (fun q => ?_)
  refine drawC ?_
  refine rdBS rfl ?_
  refine callG (vkey_spec hr hl (fun X1 u I1 hI1 hX => ?_))
  refine OB.freeze hX (fun I2 hI2 hB => Gh.done ?_)
  refine keepS (hI1.trans hI2) (fun x hx => hx) ?_
  refine rdBS rfl ?_
  refine callG (text_spec hvl (fun X3 u3 hX3 => ?_))
  refine OB.freeze hX3 (fun I3 hI3 hB3 => Gh.done ?_)
  refine call (Cal.to (X ++ F) ?_)
  refine note0 (hN.mono (hI1.trans (hI2.trans hI3))) (hB.mono hI3) hB3 (fun X' h' => ?_)
  exact Gh.done (hk X' I3 (hI1.trans (hI2.trans hI3)) h')
theorem noteFloor0 {b m ch : Nat} {kv : Value} {fl : TStamp} {X F : LH} {nt : Nts} (hN : NoteR I b m ch kv fl X nt) (hr : rightB fl = true)
    (hk : ∀ X' I', Ext I I' → NoteR I' b m ch kv fl X' (updN nt [102] (false, stF fl)) → K (.tuple #[]) I' (X' ++ F)) :
    Cal Tryz.prog ω 131 #[pt b] K I (X ++ F) := by
  have hh := hN.head
  refine cal131 ?_
  unfold sh131
  try simp only [SSd, Nat.reduceAdd]
  refine rdN (vs := [.int .i64 fl.fWall, .int .i64 fl.fLogic]) rfl (fun j u hu => ?_) ?_
  · match j, hu with
    | 0, hu => exact (hh 2 u (by simpa using hu)).mono (Ext.refl _) (fun x hx => List.mem_append_left _ hx)
    | 1, hu => exact (hh 3 u (by simpa using hu)).mono (Ext.refl _) (fun x hx => List.mem_append_left _ hx)
  refine callG (hbytes_spec (x := fl) hr (fun X1 u hX => ?_))
  refine OB.freeze hX (fun I2 hI2 hB => Gh.done ?_)
  try simp only [SSd, Nat.reduceAdd]
  refine by1 (c := 102) (fun X1 u1 h1 => OB.freeze h1 (fun I3 hI3 hB3 => Gh.done ?_))
  refine call (note0 (hN.mono (hI2.trans hI3)) hB3 (hB.mono hI3) (fun X' h' => ?_))
  exact Gh.done (hk X' I3 (hI2.trans hI3) h')
theorem noteIntent0 {b m ch p clock : Nat} {kv : Value} {es : Array MapEntry} {mm : Key → Option Value} {fl : TStamp} {X F : LH} {nt : Nts} {k : List UInt8} {r : Row} (hN : NoteR I b m ch kv fl X nt) (hA : MapAt I F m es clock) (hM : MapS es clock mm) (hpk : mm k = some (pt p)) (hCV : CellV I F p r)
    (ht : 0 ≤ r.it.txn ∧ r.it.txn < 9223372036854775808) (hri : r.it.txn ≠ 0 → rightB r.it.ver.fAt = true) (hl : k.length ≤ 1000000000) (hvl : r.it.ver.fValue.length ≤ 1000000000)
    (hk : ∀ X' I', Ext I I' → NoteR I' b m ch kv fl X' (updN nt (105 :: k) (itText r.it)) → K (.tuple #[]) I' (X' ++ F)) :
    Cal Tryz.prog ω 190 #[pt b, sstr k] K I (X ++ F) := by
  have hh := hN.head
  obtain ⟨sl, hC, hVs⟩ := hCV.mono (Ext.refl I) (show ∀ x ∈ F, x ∈ X ++ F from fun x hx => List.mem_append_right _ hx)
  obtain ⟨c0, c1, c14, c3, c4, c5, _⟩ := itC hC
  refine cal190 ?_
  unfold sh190
  refine by1 (c := 105) (fun X1 u1 h1 => Gh.done ?_)
  refine ob_appG (y := k) h1 (.inr (.inr ⟨_, rfl, rfl, by simp [ByteArray.size], by simp [u8s]⟩)) (by simp; omega) (fun X2 u2 h2 => ?_)
  refine OB.freeze h2 (fun I2 hI2 hB2 => Gh.done ?_)
  try simp only [SSd, Nat.reduceAdd]
  refine rdC (L0 := X ++ F) ((hh 0 _ rfl).mono (Ext.refl _) (fun x hx => List.mem_append_left _ hx)) hI2 ?_
  refine ⟨_, lk_at (MapAt.mono hA hI2 (fun x hx => by simp [hx])) hM, ?_⟩
  simp only [hpk, lkV]
  simp only [Bool.false_eq_true, if_false, SSd, Nat.reduceAdd]
  refine rdC c5 hI2 ?_
  try simp only [SSd, Nat.reduceAdd]
  refine br_split (fun e => ?_) (fun e => ?_)
  · simp at e
    refine call (Cal.to (X ++ F) ?_)
    refine note0 (hN.mono hI2) hB2 (show Bytes I2 _ [] from SlI.nil I2 1 none 0) (fun X' h' => ?_)
    refine Gh.done (hk X' I2 hI2 ?_)
    unfold itText; rw [if_pos e]; exact h'
  · simp at e
    refine rdNC c1 hI2 rfl ?_
    have hs9 : (stF r.it.ver.fAt).length = 9 := rfl
    have hv9 := varL_9 (n := r.it.txn.toNat) (by omega)
    refine callG (hbytes_spec (hri e) (fun X3 u3 h3 => Gh.done ?_))
    try simp only [SSd, Nat.reduceAdd]
    refine rdC c5 hI2 ?_
    try simp only [SSd, Nat.reduceAdd]
    rw [wrap_u64 _ ht.1 (by omega), show r.it.txn = ((r.it.txn.toNat : Nat) : Int) by omega]
    refine call (number_spec (by omega) (fun u4 I4 hI4 hB4 => ?_))
    refine ob_appG (y := varL r.it.txn.toNat) h3 (SlI.news hB4) (by omega) (fun X5 u5 h5 => Gh.done ?_)
    refine rdNC c14 (hI2.trans hI4) rfl ?_
    refine call (text_spec hvl (fun X6 u6 h6 => ?_))
    have hvt : (verText r.it.ver).length ≤ 1000000001 := by unfold verText; split <;> simp; omega
    refine ob_appG (X6 := X5) (y := verText r.it.ver) h5 (h6.news (fun x hx => by simp [hx])) (by rw [List.length_append]; omega) (fun X7 u7 h7 => ?_)
    refine OB.freeze h7 (fun I7 hI7 hB7 => Gh.done ?_)
    refine call (Cal.to (X ++ F) ?_)
    refine note0 (hN.mono (hI2.trans (hI4.trans hI7))) (hB2.mono (hI4.trans hI7)) hB7 (fun X' h' => ?_)
    refine Gh.done (hk X' I7 (hI2.trans (hI4.trans hI7)) ?_)
    unfold itText; rw [if_neg e]; exact h'
theorem verN_take {g : Bool} {k : List UInt8} {l : List TVer} {i : Nat} (hi : i < l.length) (nt : Nts) : verN g k (l.take (i + 1)) nt = updN (verN g k (l.take i) nt) (vkey k l[i]) (verG g l[i]) := by
  unfold verN; rw [take_snoc hi, List.foldl_append]; rfl
theorem noteAll0 {b m ch p clock : Nat} {kv : Value} {es : Array MapEntry} {mm : Key → Option Value} {fl : TStamp} {X F : LH} {nt : Nts} {r : Row} {g : Bool} (hN : NoteR I b m ch kv fl X nt) (hA : g = false → MapAt I F m es clock ∧ MapS es clock mm ∧ mm r.key = some (pt p)) (hCV : CellV I F p r)
    (hr : RowOk r) (hvs : r.vs.length ≤ 1000000000)
    (hk : ∀ X' I', Ext I I' → NoteR I' b m ch kv fl X' (noteA g r nt) → K (.tuple #[]) I' (X' ++ F)) :
    Cal Tryz.prog ω 132 #[pt b, sstr r.key, pt p, .bool g] K I (X ++ F) := by
  obtain ⟨sl, hC, hVs⟩ := hCV
  obtain ⟨c0, c1, c14, c3, c4, c5, _⟩ := itC hC
  have hkl := hr.keyL
  refine cal132 ?_
  unfold sh132
  try simp only [SSd, Nat.reduceAdd]
  refine rdC c0 (Ext.refl _) ?_
  simp only [RL.len hVs, SSd, Nat.reduceAdd]
  refine loop (fun n s I' L' => ∃ (i : Nat) (X' : LH), n + i = r.vs.length ∧ s = (.int .i64 i, ()) ∧ Ext I I' ∧ NoteR I' b m ch kv fl X' (verN g r.key (r.vs.take i) nt) ∧ L' = X' ++ F) r.vs.length ⟨0, X, rfl, rfl, Ext.refl _, hN, rfl⟩ ?_
  rintro n s I' L' ⟨i, X', hn, rfl, hI, hN', rfl⟩
  unfold sh132_1
  try simp only [SSd, Nat.reduceAdd]
  refine br_split (fun e => ?_) (fun e => ?_)
  · have hi : i < r.vs.length := by simpa using e
    obtain ⟨bx, off, c, hix, hcl, hc, hcc⟩ := RL.ix hVs (i := (i : Int)) (by omega) (by omega)
    have hget : geti r.vs (i : Int) = r.vs[i] := geti_nat hi
    rw [hget] at hc
    have hce : c = _ := hc
    have hv := hr.vs r.vs[i] (List.getElem_mem hi)
    have hvlen : r.vs[i].fValue.length ≤ 1000000000 := by have := hv.len; omega
    have hnext := verN_take (g := g) (k := r.key) hi nt
    simp only [hix, SSd, Nat.reduceAdd]
    refine rdN hcl (hcc I' (X' ++ F) hI (fun x hx => List.mem_append_right _ hx)) ?_
    subst hce
    refine newI (fun q => ?_)
    refine stB rfl rfl (one_all rfl) ?_
    cases g with
    | true =>
      try simp only [SSd, Nat.reduceAdd]
      refine rdB rfl ?_
      refine call (Cal.to (X' ++ F) (noteGone0 (v := r.vs[i]) hN' hv.right (by omega) (fun X2 I2 hI2 hN2 => ?_)))
      unfold sh132_3
      try simp only [SSd, Nat.reduceAdd]
      rw [wrap_i64 _ (by omega)]
      exact (Gh.done ⟨n - 1, by omega, i + 1, X2, by omega, rfl, hI.trans hI2, by rw [hnext]; exact hN2, rfl⟩)
    | false =>
      try simp only [SSd, Nat.reduceAdd]
      refine rdB rfl ?_
      refine call (Cal.to (X' ++ F) (noteVersion0 (v := r.vs[i]) hN' hv.right (by omega) hvlen (fun X2 I2 hI2 hN2 => ?_)))
      unfold sh132_3
      try simp only [SSd, Nat.reduceAdd]
      rw [wrap_i64 _ (by omega)]
      exact (Gh.done ⟨n - 1, by omega, i + 1, X2, by omega, rfl, hI.trans hI2, by rw [hnext]; exact hN2, rfl⟩)
  · have hi : i = r.vs.length := by
      have : ¬ i < r.vs.length := by simpa using e
      omega
    rw [hi, List.take_length] at hN'
    unfold sh132_5
    try simp only [SSd, Nat.reduceAdd]
    refine rdC c5 hI ?_
    try simp only [SSd, Nat.reduceAdd]
    refine br_split (fun e2 => ?_) (fun e2 => ?_)
    · simp at e2
      refine Gh.done (hk X' I' hI ?_)
      unfold noteA; rw [if_pos e2]; exact hN'
    · simp at e2
      cases g with
      | true =>
        try simp only [SSd, Nat.reduceAdd]
        refine by1 (c := 105) (fun X1 u1 h1 => Gh.done ?_)
        refine ob_appG (y := r.key) h1 (.inr (.inr ⟨_, rfl, rfl, by simp [ByteArray.size], by simp [u8s]⟩)) (by simp; omega) (fun X2 u2 h2 => ?_)
        refine OB.freeze h2 (fun I2 hI2 hB2 => Gh.done ?_)
        refine call (Cal.to (X' ++ F) (note0 (hN'.mono hI2) hB2 (show Bytes I2 _ [] from SlI.nil I2 1 none 0) (fun X3 h3 => ?_)))
        refine (Gh.done (hk X3 I2 (hI.trans hI2) ?_))
        unfold noteA; rw [if_neg e2]; exact h3
      | false =>
        obtain ⟨hA1, hA2, hA3⟩ := hA rfl
        have hit : r.it.txn ≠ 0 → rightB r.it.ver.fAt = true ∧ r.it.ver.fValue.length ≤ 10000 := fun h0 => by
          rcases hr.it with h | ⟨_, h⟩
          · rw [h] at h0; exact absurd rfl h0
          · exact ⟨h.right, h.len⟩
        have hvl : r.it.ver.fValue.length ≤ 1000000000 := by have := (hit e2).2; omega
        have htx := hr.txn
        try simp only [SSd, Nat.reduceAdd]
        refine call (noteIntent0 hN' (MapAt.mono hA1 hI (fun x hx => hx)) hA2 hA3 (CellV.mono ⟨sl, hC, hVs⟩ hI (fun x hx => hx)) (by omega) (fun h0 => (hit h0).1) (by omega) hvl (fun X2 I2 hI2 hN2 => ?_))
        refine (Gh.done (hk X2 I2 (hI.trans hI2) ?_))
        unfold noteA; rw [if_neg e2]; exact hN2
end
theorem low_take {k : List UInt8} {rows : List Row} {i : Nat} (h1 : ∀ x ∈ (keysOf rows).take i, blt x k = true) (h2 : ∀ x ∈ (keysOf rows).drop i, blt x k = false) : lowR k rows = rows.take i ∧ highR k rows = rows.drop i := by
  have g1 : ∀ r ∈ rows.take i, blt r.key k = true := fun r hr => h1 _ (by unfold keysOf; rw [← List.map_take]; exact List.mem_map_of_mem hr)
  have g2 : ∀ r ∈ rows.drop i, blt r.key k = false := fun r hr => h2 _ (by unfold keysOf; rw [← List.map_drop]; exact List.mem_map_of_mem hr)
  unfold lowR highR
  constructor
  · conv => lhs; rw [← List.take_append_drop i rows]
    rw [List.filter_append, List.filter_eq_self.2 g1, List.filter_eq_nil_iff.2 (fun r hr => by simp [g2 r hr]), List.append_nil]
  · conv => lhs; rw [← List.take_append_drop i rows]
    rw [List.filter_append, List.filter_eq_nil_iff.2 (fun r hr => by simp [g1 r hr]), List.filter_eq_self.2 (fun r hr => by simp [g2 r hr]), List.nil_append]
theorem RowsR.nil {X : LH} {ps : List Nat} (h : RowsR X ps []) : X = [] ∧ ps = [] := by
  cases ps with
  | nil => exact ⟨h, rfl⟩
  | cons p ps => exact absurd h (by simp [RowsR])
theorem cellV_own {L Y : LH} {p : Nat} {sl : Value} {r : Row} (hp : (p, cellO sl r.it) ∈ L) (hv : VsO Y sl r.vs) (hY : ∀ x ∈ Y, x ∈ L) {I : Imm} : CellV I L p r := ⟨sl, own_cells hp 6, hv.rl hY⟩
section
variable {ω : Om} {I : Imm} {L : LH} {K : Value → M}
theorem split_spec {b : Nat} {v1 : Value} {k : List UInt8} {X F : LH} {sp : Sp} {nt : Nts} (hS : SpR I b X sp nt) (hok : SpOk sp) (hlen : sp.rows.length ≤ 100000000) (hvs : ∀ r ∈ sp.rows, r.vs.length ≤ 1000000000) (hB : Bytes I v1 k)
    (hno : keyOk k = false → K (.tuple #[.pointer none, .int .i64 1]) I (X ++ F))
    (hk : ∀ I' bt X' Xt, keyOk k = true → Ext I I' → SpR I' b X' (splL k sp) (noteAs true (highR k sp.rows) nt) → SpR I' bt Xt (splR k sp) (noteAs false (highR k sp.rows) (floorN sp.floor)) → K (.tuple #[pt bt, .int .i64 0]) I' (X' ++ (Xt ++ F))) :
    Cal Tryz.prog ω 88 #[pt b, v1] K I (X ++ F) := by
  obtain ⟨rows, fl⟩ := sp
  refine cal88 ?_
  unfold sh88
  refine call (iskey_spec hB ?_)
  try simp only [SSd, Nat.reduceAdd]
  cases hko : keyOk k with
  | false =>
    simp only [Bool.not_false, SSd, Nat.reduceAdd]
    exact Gh.done (hno hko)
  | true =>
  simp only [Bool.not_true, SSd, Nat.reduceAdd]
  refine callG (new_spec (fun bt X0 hS0 => ?_))
  obtain ⟨ps, m, ch, kv, es, clock, KX, RX, NX, hp, hF⟩ := hS
  obtain ⟨ps0, mt, cht, kvt, est, clockt, KX0, RX0, NX0, hp0, hF0⟩ := hS0
  obtain ⟨rfl, rfl⟩ := RowsR.nil hF0.rows
  have hmap0 : MapS est clockt (cellsM [] []) := hF0.map
  have hfl0 : sp0.floor = z0 := rfl
  rw [hfl0] at hp0
  simp only at hp hlen hvs ⊢
  refine Gh.perm (L' := (b, spO m kv fl ch) :: (bt, spO mt kvt z0 cht) :: ((m, .map es clock) :: (mt, .map est clockt) :: (NX ++ (NX0 ++ (KX ++ (KX0 ++ (RX ++ F))))))) (ms_perm (by simp only [ms_app, ms_cons, ms_eq hp, ms_eq hp0]; ((try simp only [ms_cons, ms_app, ms_nil, ms_nil']); (try ac_rfl)))) (Gh.done ?_)
  try simp only [SSd, Nat.reduceAdd]
  refine rdP [.int .i64 fl.fWall, .int .i64 fl.fLogic] rfl rfl ?_
  refine stP [.map (some mt), kvt, .int .i64 fl.fWall, .int .i64 fl.fLogic, .map (some cht)] rfl rfl rfl rfl ?_
  refine rdP [.int .i64 fl.fWall, .int .i64 fl.fLogic] rfl rfl ?_
  have hs := hok.rise
  have hkl : (keysOf rows).length = rows.length := by simp [keysOf]
  have main : ∀ I1 NX1 cht1, Ext I I1 → NtR I1 cht1 NX1 (floorN fl) →
      sh88_1 ω (pt b) v1 (.pointer none) (.int .i64 0) (pt bt) (fun v => Gh (K v)) I1 ((b, spO m kv fl ch) :: (bt, spO mt kvt fl cht1) :: ((m, .map es clock) :: (mt, .map est clockt) :: (NX ++ (NX1 ++ (KX ++ (KX0 ++ (RX ++ F))))))) := by
    intro I1 NX1 cht1 hI1 hN1
    unfold sh88_1
    refine drawC ?_
    try simp only [SSd, Nat.reduceAdd]
    refine rdbS ?_
    refine bs_I hB hI1 ?_
    refine call (bsearch_spec (StrO.rl hF.keys (fun x hx => by simp [hx])) (by simp only; omega) hs (fun i hi hlo hhi => ?_))
    obtain ⟨eA, eD⟩ := low_take hlo hhi
    simp only [hkl] at hi
    try simp only [SSd, Nat.reduceAdd]
    refine rdb ?_
    obtain ⟨va, hsl, hV1⟩ := RL.part (StrO.rl (I := I1) (L := (b, spO m kv fl ch) :: (bt, spO mt kvt fl cht1) :: ((m, .map es clock) :: (mt, .map est clockt) :: (NX ++ (NX1 ++ (KX ++ (KX0 ++ (RX ++ F))))))) hF.keys (fun x hx => by simp [hx])) (lo := i) (hi := (keysOf rows).length) (by omega) (Nat.le_refl _) (some (.int .i64 i)) none (bnd_in _ _ _ _ (by omega)) (fun _ _ => rfl)
    have eR : ((keysOf rows).drop i).take ((keysOf rows).length - i) = keysOf (highR k rows) := by
      rw [eD, List.take_of_length_le (by simp)]; unfold keysOf; rw [List.map_drop]
    rw [eR] at hV1
    have hDl : (keysOf (highR k rows)).length ≤ 100000000 := by rw [eD]; simp [keysOf]; omega
    have hAl : (keysOf (lowR k rows)).length ≤ 100000000 := by rw [eA]; simp [keysOf]; omega
    simp only [hsl, SSd, Nat.reduceAdd]
    refine callG (clone_spec hV1 (by omega) (fun XR kvR hKR => ?_))
    obtain ⟨aR, cR, rfl⟩ := hKR.form
    refine Gh.perm (L' := (b, spO m kv fl ch) :: (bt, spO mt kvt fl cht1) :: ((m, .map es clock) :: (mt, .map est clockt) :: (NX ++ (NX1 ++ (KX ++ (KX0 ++ (RX ++ (XR ++ F)))))))) (ms_perm (by ((try simp only [ms_cons, ms_app, ms_nil, ms_nil']); (try ac_rfl)))) (Gh.done ?_)
    try simp only [SSd, Nat.reduceAdd]
    refine st1 rfl ?_
    refine rdb ?_
    obtain ⟨va2, hsl2, hV2⟩ := RL.part (StrO.rl (I := I1) (L := (b, spO m kv fl ch) :: (bt, spO mt (.slice aR (keysOf (highR k rows)).length cR) fl cht1) :: ((m, .map es clock) :: (mt, .map est clockt) :: (NX ++ (NX1 ++ (KX ++ (KX0 ++ (RX ++ (XR ++ F)))))))) hF.keys (fun x hx => by simp [hx])) (lo := 0) (hi := i) (by omega) (by simp only [hkl]; exact hi) none (some (.int .i64 i)) rfl (fun cap hcap => bnd_in _ _ _ _ (by simp only [hkl] at hcap; omega))
    have eL : ((keysOf rows).drop 0).take (i - 0) = keysOf (lowR k rows) := by
      rw [eA]; simp [keysOf, List.map_take]
    rw [eL] at hV2
    simp only [hsl2, SSd, Nat.reduceAdd]
    refine callG (clone_spec hV2 (by omega) (fun XL kvL hKL => ?_))
    obtain ⟨aL, cL, rfl⟩ := hKL.form
    refine Gh.perm (L' := (m, .map es clock) :: (mt, .map est clockt) :: (b, spO m kv fl ch) :: (NX ++ ((bt, spO mt (.slice aR (keysOf (highR k rows)).length cR) fl cht1) :: (NX1 ++ (XL ++ (XR ++ (RX ++ ([] ++ (KX ++ (KX0 ++ F)))))))))) (ms_perm (by ((try simp only [ms_cons, ms_app, ms_nil, ms_nil']); (try ac_rfl)))) (Gh.done ?_)
    try simp only [SSd, Nat.reduceAdd]
    refine st1 rfl ?_
    refine rdb ?_
    try simp only [SSd, Nat.reduceAdd]
    have hrows : rows = lowR k rows ++ highR k rows := low_high hs
    generalize eA2 : lowR k rows = A at *
    generalize eD2 : highR k rows = D at *
    clear hsl hsl2 hV1 hV2 hlo hhi eR eL va va2 eA eD
    subst hrows
    obtain ⟨P, Q, rfl, hPl, hQl⟩ := split_ps2 hF.rows.len
    have hkD : (keysOf D).length = D.length := by simp [keysOf]
    have hDl2 : D.length ≤ 100000000 := by omega
    refine loop (fun n s I' L' => ∃ (j : Nat) (Xs Xt RXs RXt : LH) (es' est' : Array MapEntry) (clock' clockt' ch' cht' : Nat), n + j = D.length ∧ s = (.int .i64 j, ()) ∧ Ext I I' ∧ NoteR I' b m ch' (.slice aL (keysOf A).length cL) fl Xs (noteAs true (D.take j) nt) ∧ NoteR I' bt mt cht' (.slice aR (keysOf D).length cR) fl Xt (noteAs false (D.take j) (floorN fl)) ∧
      MapS es' clock' (cellsM (P ++ Q.drop j) (A ++ D.drop j)) ∧ MapS est' clockt' (cellsM (Q.take j) (D.take j)) ∧ RowsR RXs (P ++ Q.drop j) (A ++ D.drop j) ∧ RowsR RXt (Q.take j) (D.take j) ∧ L' = (m, .map es' clock') :: (mt, .map est' clockt') :: (Xs ++ (Xt ++ (XL ++ (XR ++ (RXs ++ (RXt ++ (KX ++ (KX0 ++ F))))))))) D.length
      ⟨0, (b, spO m (.slice aL (keysOf A).length cL) fl ch) :: NX, (bt, spO mt (.slice aR (keysOf D).length cR) fl cht1) :: NX1, RX, [], es, est, clock, clockt, ch, cht1, rfl, rfl, hI1, ⟨NX, List.Perm.refl _, hF.nts.mono hI1⟩, ⟨NX1, List.Perm.refl _, hN1⟩, hF.map, hmap0, hF.rows, rfl, rfl⟩ ?_
    rintro n s I' L' ⟨j, Xs, Xt, RXs, RXt, es', est', clock', clockt', ch', cht', hn, rfl, hI, hNs, hNt, hMs, hMt, hRs, hRt, rfl⟩
    unfold sh88_2
    try simp only [SSd, Nat.reduceAdd]
    refine br_split (fun e => ?_) (fun e => ?_)
    · have hj : j < D.length := by simp only [hkD] at e; simpa using e
      have hjQ : j < Q.length := by omega
      have eD : D.drop j = D[j] :: D.drop (j + 1) := List.drop_eq_getElem_cons hj
      have eQ : Q.drop j = Q[j] :: Q.drop (j + 1) := List.drop_eq_getElem_cons hjQ
      obtain ⟨bx, off, c, hix, hcl, hc, hcc⟩ := RL.ix (StrO.rl (I := I') (L := (m, .map es' clock') :: (mt, .map est' clockt') :: (Xs ++ (Xt ++ (XL ++ (XR ++ (RXs ++ (RXt ++ (KX ++ (KX0 ++ F))))))))) hKR (fun x hx => by simp [hx])) (i := (j : Int)) (by omega) (by omega)
      have hce : c = [sstr D[j].key] := by
        have h1 : c = [sstr (geti (keysOf D) (j : Int))] := by simpa [StrV] using hc
        rw [h1, geti_nat (by omega)]; simp [keysOf]
      subst hce
      have hmid : Mid (A ++ D.take j) D[j].key (D.drop (j + 1)) := by
        refine SrtK.mid ?_
        have e2 : (A ++ D.take j) ++ D[j] :: D.drop (j + 1) = A ++ D := by rw [List.append_assoc, ← split_at hj]
        rw [e2]; exact hs
      have hrm : D[j] ∈ A ++ D := List.mem_append_right _ (List.getElem_mem hj)
      have hrok := hok.rows _ hrm
      have hrvs := hvs _ hrm
      have hl1 : (Q.take j).length = (D.take j).length := by simp; omega
      have eD1 : D.take (j + 1) = D.take j ++ [D[j]] := take_snoc hj
      have eQ1 : Q.take (j + 1) = Q.take j ++ [Q[j]] := take_snoc hjQ
      rw [eD, eQ] at hMs hRs
      generalize er : D[j] = r at *
      generalize eD2' : D.drop (j + 1) = D2 at *
      generalize ep : Q[j] = p at *
      generalize eQ2' : Q.drop (j + 1) = Q2 at *
      generalize eD1' : D.take j = D1 at *
      generalize eQ1' : Q.take j = Q1 at *
      have hmA : Mid A r.key D2 := ⟨fun x hx => hmid.lt x (List.mem_append_left _ hx), hmid.gt⟩
      have hm1 : Mid D1 r.key [] := ⟨fun x hx => hmid.lt x (List.mem_append_right _ hx), fun x hx => by cases hx⟩
      simp only [hix, SSd, Nat.reduceAdd]
      refine rd1 (hcc I' _ (Ext.refl _) (fun x h => h) 0 _ rfl) ?_
      try simp only [SSd, Nat.reduceAdd]
      refine rdC (L0 := Xs) (hNs.head 0 _ rfl) (Ext.refl _) ?_
      refine lkm hMs ?_
      simp only [cellsM_mid hPl hmA rfl, lkV, Bool.false_eq_true, if_false]
      refine rdC (L0 := Xs) (hNs.head 0 _ rfl) (Ext.refl _) ?_
      obtain ⟨es2, he2, hMs2⟩ := hMs.del r.key
      rw [← cellsM_del hPl hmA rfl] at hMs2
      refine delm hMs he2 (Gh.done ?_)
      try simp only [SSd, Nat.reduceAdd]
      refine rdC (L0 := Xt) (hNt.head 0 _ rfl) (Ext.refl _) ?_
      obtain ⟨est2, ct2, he3, hMt2⟩ := hMt.put r.key (pt p)
      have eM : cellsM (Q1 ++ [p]) (D1 ++ [r]) = updM (cellsM Q1 D1) r.key (some (pt p)) := by
        have := cellsM_ins (P := Q1) (Q := []) (A := D1) (B := []) (p := p) (r := r) hl1 hm1 rfl
        simpa using this
      rw [← eM] at hMt2
      refine putm hMt he3 ?_
      obtain ⟨sl, Y, Z, hq, hv, hRs2⟩ := RowsR.pick hPl hRs
      refine Gh.perm (L' := Xs ++ ((m, .map es2 clock') :: (mt, .map est2 ct2) :: (p, cellO sl r.it) :: (Y ++ (Z ++ (Xt ++ (XL ++ (XR ++ (RXt ++ (KX ++ (KX0 ++ F)))))))))) (ms_perm (by simp only [ms_app, ms_cons, ms_eq hq]; ((try simp only [ms_cons, ms_app, ms_nil, ms_nil']); (try ac_rfl)))) (Gh.done ?_)
      refine callG (noteAll0 (g := true) (es := #[]) (clock := 0) (mm := fun _ => none) hNs (fun h => by cases h) (cellV_own (sl := sl) (Y := Y) (by simp) hv (fun x hx => by simp [hx])) hrok hrvs (fun Xs2 I2 hI2 hNs2 => ?_))
      refine Gh.perm (L' := Xt ++ ((m, .map es2 clock') :: (mt, .map est2 ct2) :: (p, cellO sl r.it) :: (Y ++ (Z ++ (Xs2 ++ (XL ++ (XR ++ (RXt ++ (KX ++ (KX0 ++ F)))))))))) (ms_perm (by ((try simp only [ms_cons, ms_app, ms_nil, ms_nil']); (try ac_rfl)))) (Gh.done ?_)
      refine callG (noteAll0 (g := false) (m := mt) (hNt.mono hI2) (fun _ => ⟨.inl (by simp), hMt2, cellsM_mid (Q := []) (B := []) hl1 hm1 rfl⟩) (cellV_own (sl := sl) (Y := Y) (by simp) hv (fun x hx => by simp [hx])) hrok hrvs (fun Xt2 I3 hI3 hNt2 => ?_))
      refine Gh.perm (L' := (m, .map es2 clock') :: (mt, .map est2 ct2) :: (Xs2 ++ (Xt2 ++ (XL ++ (XR ++ (Z ++ (((p, cellO sl r.it) :: (Y ++ RXt)) ++ (KX ++ (KX0 ++ F))))))))) (ms_perm (by ((try simp only [ms_cons, ms_app, ms_nil, ms_nil']); (try ac_rfl)))) (Gh.done ?_)
      try simp only [SSd, Nat.reduceAdd]
      rw [wrap_i64 _ (by omega)]
      have hNt2' : NoteR I3 bt mt cht' (.slice aR (keysOf D).length cR) fl Xt2 (noteAs false (D1 ++ [r]) (floorN fl)) := by
        unfold noteAs at hNt2 ⊢; rw [List.foldl_append]; exact hNt2
      have hNs2' : NoteR I3 b m ch' (.slice aL (keysOf A).length cL) fl Xs2 (noteAs true (D1 ++ [r]) nt) := by
        have := hNs2.mono hI3
        unfold noteAs at this ⊢; rw [List.foldl_append]; exact this
      refine Gh.done ⟨n - 1, by omega, j + 1, Xs2, Xt2, Z, (p, cellO sl r.it) :: (Y ++ RXt), es2, est2, clock', ct2, ch', cht', by omega, rfl, hI.trans (hI2.trans hI3), ?_, ?_, ?_, ?_, ?_, ?_, rfl⟩
      · rw [eD1]; exact hNs2'
      · rw [eD1]; exact hNt2'
      · rw [eQ2', eD2']; exact hMs2
      · rw [eQ1, eD1]; exact hMt2
      · rw [eQ2', eD2']; exact hRs2
      · rw [eQ1, eD1]
        exact RowsR.put (Q := []) (B := []) hl1 (List.Perm.refl _) hv (by simpa using hRt)
    · have hj : j = D.length := by
        have : ¬ j < D.length := by simp only [hkD] at e; simpa using e
        omega
      rw [hj, List.take_length] at hNs hNt hMt hRt
      rw [hj, List.drop_length, List.append_nil] at hMs hRs
      have eQ0 : Q.drop D.length = [] := by rw [← hQl]; exact List.drop_length
      have eQ1 : Q.take D.length = Q := by rw [← hQl]; exact List.take_length
      rw [eQ0, List.append_nil] at hMs hRs
      rw [eQ1] at hMt hRt
      obtain ⟨NXs, hqs, hNs⟩ := hNs
      obtain ⟨NXt, hqt, hNt⟩ := hNt
      refine Gh.perm (L' := ((b, spO m (.slice aL (keysOf A).length cL) fl ch') :: (m, .map es' clock') :: (XL ++ (RXs ++ NXs))) ++ (((bt, spO mt (.slice aR (keysOf D).length cR) fl cht') :: (mt, .map est' clockt') :: (XR ++ (RXt ++ NXt))) ++ (KX ++ (KX0 ++ F)))) (ms_perm (by simp only [ms_app, ms_cons, ms_eq hqs, ms_eq hqt]; ((try simp only [ms_cons, ms_app, ms_nil, ms_nil']); (try ac_rfl)))) ?_
      refine Gh.to (((b, spO m (.slice aL (keysOf A).length cL) fl ch') :: (m, .map es' clock') :: (XL ++ (RXs ++ NXs))) ++ (((bt, spO mt (.slice aR (keysOf D).length cR) fl cht') :: (mt, .map est' clockt') :: (XR ++ (RXt ++ NXt))) ++ F)) ?_
      refine Gh.done (hk I' bt _ _ hko hI ?_ ?_)
      · exact ⟨P, m, ch', _, es', clock', XL, RXs, NXs, List.Perm.refl _, by rw [show (splL k ⟨A ++ D, fl⟩) = ⟨A, fl⟩ from by unfold splL; simp only [eA2]]; exact ⟨hMs, hKL, hRs, hNs⟩⟩
      · exact ⟨Q, mt, cht', _, est', clockt', XR, RXt, NXt, List.Perm.refl _, by rw [show (splR k ⟨A ++ D, fl⟩) = ⟨D, fl⟩ from by unfold splR; simp only [eD2]]; exact ⟨hMt, hKR, hRt, hNt⟩⟩
  obtain ⟨fw, fg⟩ := fl
  simp only [stampNe, SSd, Nat.reduceAdd]
  refine br_split (fun e => ?_) (fun e => ?_)
  · have hne : (⟨fw, fg⟩ : TStamp) ≠ z0 := fun h => by
      simp only [TStamp.mk.injEq] at h
      simp [h.1, h.2] at e
    have hfn : floorN ⟨fw, fg⟩ = updN nt0 [102] (false, stF ⟨fw, fg⟩) := by unfold floorN; rw [if_neg hne]
    refine callG (Cal.perm (L' := ((bt, spO mt kvt ⟨fw, fg⟩ cht) :: NX0) ++ ((b, spO m kv ⟨fw, fg⟩ ch) :: (m, .map es clock) :: (mt, .map est clockt) :: (NX ++ (KX ++ (KX0 ++ (RX ++ F)))))) (ms_perm (by ((try simp only [ms_cons, ms_app, ms_nil, ms_nil']); (try ac_rfl)))) (noteFloor0 (m := mt) ⟨NX0, List.Perm.refl _, hF0.nts⟩ hok.floor (fun X' I' hI' hN' => ?_)))
    obtain ⟨NX1, hq1, hNt1⟩ := hN'
    refine Gh.perm (L' := (b, spO m kv ⟨fw, fg⟩ ch) :: (bt, spO mt kvt ⟨fw, fg⟩ cht) :: ((m, .map es clock) :: (mt, .map est clockt) :: (NX ++ (NX1 ++ (KX ++ (KX0 ++ (RX ++ F))))))) (ms_perm (by simp only [ms_app, ms_cons, ms_eq hq1]; ((try simp only [ms_cons, ms_app, ms_nil, ms_nil']); (try ac_rfl)))) (Gh.done ?_)
    exact main I' NX1 cht hI' (by rw [hfn]; exact hNt1)
  · have he : (⟨fw, fg⟩ : TStamp) = z0 := by
      have : fw = 0 ∧ fg = 0 := by simpa using e
      rw [this.1, this.2]
    have hfn : floorN ⟨fw, fg⟩ = nt0 := by unfold floorN; rw [if_pos he]
    exact main I NX0 cht (Ext.refl _) (by rw [hfn]; exact hF0.nts)
end
end Go.Proofs.YtmmfcgbfbcamcaaGreatDoor
-- S3
set_option linter.unusedSimpArgs false
set_option linter.unusedVariables false
namespace Go.Proofs.YtmmfcgbfbcamcaaGreatDoor
open Go.SL
set_option maxRecDepth 10000
theorem lkA_filk {κ β : Type} [DecidableEq κ] {p : κ → Bool} : ∀ (l : AL κ β) (k : κ), lkA (l.filter fun q => p q.1) k = if p k = true then lkA l k else none
  | [], k => by simp [lkA_nil]
  | q :: l, k => by
    have ih := lkA_filk (p := p) l k
    rw [List.filter_cons]
    by_cases e : q.1 = k
    · subst e
      cases hp : p q.1 with
      | true => simp only [if_true, lkA_cons]
      | false =>
        simp only [Bool.false_eq_true, if_false]
        rw [ih, hp]; rfl
    · cases hp : p q.1 with
      | true => simp only [if_true, lkA_cons, e, if_false, ih]
      | false => simp only [Bool.false_eq_true, if_false, ih, lkA_cons, e]
section
variable {ω : Om} {I : Imm} {L : LH} {K : Value → M} {b s N : Nat} {V : MV} {m : Mch} {SX F : LH} {c : TCmd} {cc : List Value}
theorem splitc_spec (hM : MOk m N) (hN : N ≤ 5000) (hF : MF I V m) (hSp : SpR I s SX m.sp m.nt) (hc : TCmdV I c cc) (hky : keyOk c.fKey = true) (hk : PostA K b F I (splitM m c)) :
    Cal Tryz.prog ω 104 #[pt b, .agg cc.toArray] K I (mL b s V m (SX ++ F)) := by
  have h1 := hM.vers
  have h2 := sq_le (show N ≤ 10000 by omega)
  have h3 := hM.rows
  have hvs : ∀ r ∈ m.sp.rows, r.vs.length ≤ 1000000000 := vers_le (by omega)
  obtain ⟨w0, w1, w2, w3, rfl, g0, g1, g2, g3⟩ := hc
  have hkl : c.fKey.length ≤ 140737488355328 := by simp only [keyOk, Bool.and_eq_true, decide_eq_true_eq] at hky; omega
  have hto : m.span.fTo.length ≤ 140737488355328 := by have := hM.span; simp only [spanOk, Bool.and_eq_true, decide_eq_true_eq] at this; omega
  obtain ⟨aK, cK, rfl⟩ := Bytes.form g0
  obtain ⟨aT, cT, hT⟩ := Bytes.form hF.f1
  refine cal104 ?_
  unfold sh104
  refine newI (fun b1 => newI (fun b2 => ?_))
  repeat' (first | (with_reducible refine drawC ?_) | (with_reducible refine drawW1 ?_) | (with_reducible refine drawW2 ?_) | (with_reducible refine keepC (by repeat (first | exact Ext.refl _ | assumption | refine Ext.trans ?_ (by assumption))) ?_) | (with_reducible refine newI (fun _ => ?_)) | ((with_reducible refine call ?_); refine (pholds_spec (p := m.span) ⟨_, _, rfl, hF.f0, hF.f1⟩ g0 ?_)) | ((with_reducible refine call ?_); refine (failed_spec ?_)) | ((with_reducible refine call ?_); refine (equal_spec g0 hF.f0 ?_)) | ((with_reducible refine call ?_); refine (Cal.split SX (split_spec hSp hM.sp (by omega) hvs g0 (fun h => by rw [hky] at h; cases h) (fun I1 bt X1 Xt _ hI1 hS1 hSt => ?_)))) | ((with_reducible refine call ?_); refine (made_spec (p := ⟨c.fKey, m.span.fTo⟩) (pc := [.slice aK c.fKey.length cK, .slice aT m.span.fTo.length cT]) (splR c.fKey m.sp) (noteAs false (highR c.fKey m.sp.rows) (floorN m.sp.floor)) ⟨_, _, rfl, g0.mono hI1, by rw [← hT]; exact hF.f1.mono hI1⟩ hkl hto (fun bm Vm I2 hI2 hF2 => ?_))) | ((with_reducible refine call ?_); refine (cloneSeen_spec (es := V.e3) (clock := V.c3) (by simp) (fun nb => ?_))) | first | (with_reducible refine rdb ?_) | ((with_reducible refine st1 ?_ ?_); rfl) | ((with_reducible refine rdB ?_ ?_); rfl) | (with_reducible refine rdbS ?_) | ((with_reducible refine rdBS ?_ ?_); rfl) | ((with_reducible refine stB ?_ ?_ ?_ ?_); rfl; rfl; exact one_all rfl) | ((with_reducible refine rdP _ rfl ?_ ?_); rfl) | ((with_reducible refine rdPS _ rfl ?_ ?_); rfl) | ((with_reducible refine stP _ rfl ?_ ?_ ?_ ?_); rfl; rfl; rfl) | (with_reducible refine unfE (sh104_1.eq_1 ..) ?_) | (with_reducible refine unfE (sh104_2.eq_1 ..) ?_) | (with_reducible refine unfE (sh104_4.eq_1 ..) ?_) | (with_reducible refine unfE (sh104_7.eq_1 ..) ?_) | (with_reducible refine unfE (sh104_3.eq_1 ..) ?_) | (with_reducible refine unfE (sh104.eq_1 ..) ?_) | (with_reducible refine And.intro ?_ ?_) | (simp only [Bool.not_true, Bool.not_false, Bool.and_self, Bool.true_and, Int.reduceBEq, Int.reduceBNe, Int.reduceLT, Int.reduceLE, decide_true, decide_false, Br_true, Br_false, Gd_tt, Gd_ft, Gd_tf, Gd_ff, beq_self_eq_true, bne_self_eq_false]) | (with_reducible refine gd_split (fun _ => ?_) (fun _ => ?_)) | (with_reducible refine br_split (fun _ => ?_) (fun _ => ?_)) | (simp only [SSd, Nat.reduceAdd, hT]))
  · have e : splitM m c = noSplit (failR 141, m) := by unfold splitM noSplit; rw [if_pos (by first | (simp_all; done) | (simp_all; omega) | omega)]
    rw [e] at hk
    exact Gh.to (mL b s V m (SX ++ F)) (Gh.done (hk.plain (Ext.refl _) ⟨s, V, SX, List.Perm.refl _, hF, hSp⟩ (rv_V ..)))
  · refine rngI (es := V.e1) (clock := V.c1) (.inl (by simp)) (fun it => Gh.done ?_)
    refine loop (fun n s' I' L' => I' = I2 ∧ ∃ (vis : List MapEntry) (e : Array MapEntry) (c' : Nat) (lst : AL Key TMk), It V.e1 vis ∧ n + vis.length = V.e1.toList.length ∧ MapS e c' (encM mv lst) ∧ SrtA blt lst ∧ (∀ k, lkA lst k = if k ∈ vis.map eKey ∧ blt k c.fKey = false then lkA m.marks k else none) ∧
      L' = (it, iterO V.km V.c1 vis) :: (nb, .map V.e3 V.c3) :: (bm, mchO Vm.v0 Vm.v1 bt Vm.km m.low Vm.rc nb m.oldest Vm.kv) :: (Vm.km, .map e c') :: (Vm.rc, .map Vm.e2 Vm.c2) :: (Vm.sn, .map Vm.e3 Vm.c3) :: (X1 ++ (Xt ++ (b2, resO) ::
        (b1, .cells #[.int .i64 c.fKind, .int .i64 c.fTxn, .int .i64 c.fSeq, .int .i64 c.fAt.fWall, .int .i64 c.fAt.fLogic, .int .i64 c.fTo.fWall, .int .i64 c.fTo.fLogic, .int .i64 c.fBy, .bool c.fYes, .bool c.fDel, .slice aK c.fKey.length cK, w1, w2, w3, .int .i64 c.fMost] 56 (0, 0)) ::
        (b, mchO V.v0 (.slice aT m.span.fTo.length cT) s V.km m.low V.rc V.sn m.oldest V.kv) :: (V.km, .map V.e1 V.c1) :: (V.rc, .map V.e2 V.c2) :: (V.sn, .map V.e3 V.c3) :: F))) V.e1.toList.length ⟨rfl, [], Vm.e1, Vm.c1, [], It.none _, rfl, hF2.mks, List.Pairwise.nil, fun k => by simp [lkA_nil], rfl⟩ ?_
    rintro n s' I' L' ⟨rfl, vis, e, c', lst, hi, hn, hM1, hS1', hlk, rfl⟩
    unfold sh104_3
    refine nxtI hF.mks (.inl (by simp)) hi (fun hp => Gh.done ?_) (fun x hx hi' => Gh.done ?_)
    · try simp only [SSd, Nat.reduceAdd]
      have hfin : lst = m.marks.filter fun q => !blt q.1 c.fKey := by
        refine SrtA.ext bltO hS1' (List.Pairwise.sublist List.filter_sublist hM.marks) (fun k => ?_)
        rw [hlk k, lkA_filk (p := fun k => !blt k c.fKey)]
        cases hb : blt k c.fKey with
        | true => simp
        | false =>
          by_cases hkv : k ∈ vis.map eKey
          · simp [hkv]
          · rw [if_neg (fun h => hkv h.1)]
            cases hq : lkA m.marks k with
            | none => simp
            | some y =>
              obtain ⟨e0, he0, hke, _⟩ := mapS_ex (v := mv y) hF.mks (by unfold encM; rw [hq]; rfl)
              exact absurd (List.mem_map.2 ⟨e0, hp.mem_iff.2 he0, hke⟩) hkv
      subst hfin
      unfold sh104_7
      try simp only [SSd, Nat.reduceAdd]
      refine rdb ?_
      refine call (Cal.pick V.km (delMk_spec (l := m.marks) (del := fun q => !blt q.1 c.fKey) hF.mks hM.marks (fun q Y K' hq hK' => ?_) (fun es' hM3 => ?_)))
      · refine calV_clo (by kernel_rfl) ?_
        refine show Cal _ _ _ #[kstr q.1, mv q.2, pt b1] _ _ _ from cal165 ?_
        simp only [kstr]
        unfold sh165
        repeat' (first | (with_reducible refine drawC ?_) | (with_reducible refine drawW1 ?_) | (with_reducible refine drawW2 ?_) | (with_reducible refine keepC (by repeat (first | exact Ext.refl _ | assumption | refine Ext.trans ?_ (by assumption))) ?_) | (with_reducible refine newI (fun _ => ?_)) | (with_reducible refine bs_N (g0.mono (hI1.trans hI2)) (Ext.refl _) ?_) | first | (with_reducible refine rdb ?_) | ((with_reducible refine st1 ?_ ?_); rfl) | ((with_reducible refine rdB ?_ ?_); rfl) | (with_reducible refine rdbS ?_) | ((with_reducible refine rdBS ?_ ?_); rfl) | ((with_reducible refine stB ?_ ?_ ?_ ?_); rfl; rfl; exact one_all rfl) | ((with_reducible refine rdP _ rfl ?_ ?_); rfl) | ((with_reducible refine rdPS _ rfl ?_ ?_); rfl) | ((with_reducible refine stP _ rfl ?_ ?_ ?_ ?_); rfl; rfl; rfl) | (with_reducible refine unfE (sh165.eq_1 ..) ?_) | (with_reducible refine And.intro ?_ ?_) | (simp only [Bool.not_true, Bool.not_false, Bool.and_self, Bool.true_and, Int.reduceBEq, Int.reduceBNe, Int.reduceLT, Int.reduceLE, decide_true, decide_false, Br_true, Br_false, Gd_tt, Gd_ft, Gd_tf, Gd_ff, beq_self_eq_true, bne_self_eq_false]) | (with_reducible refine gd_split (fun _ => ?_) (fun _ => ?_)) | (with_reducible refine br_split (fun _ => ?_) (fun _ => ?_)) | (simp only [SSd, Nat.reduceAdd]))
        exact Gh.to (Y ++ _) (Gh.done hK')
      · have hM3' : MapS es' V.c1 (encM mv (m.marks.filter fun q => blt q.1 c.fKey)) := by simpa only [Bool.not_not] using hM3
        try simp only [SSd, Nat.reduceAdd]
        refine rdb ?_
        refine call (cloneB_spec (g0.mono (hI1.trans hI2)) hkl (fun a9 c9 I9 hI9 hB9 => ?_))
        have t9 := hI1.trans (hI2.trans hI9)
        try simp only [SSd, Nat.reduceAdd]
        refine st1 rfl ?_
        try simp only [SSd, Nat.reduceAdd]
        refine stB rfl rfl (one_all rfl) ?_
        refine rdB rfl ?_
        have e9 : splitM m c = (okR, { m with span := ⟨m.span.fFrom, c.fKey⟩, sp := splL c.fKey m.sp, nt := noteAs true (highR c.fKey m.sp.rows) m.nt, marks := m.marks.filter fun q => blt q.1 c.fKey },
            some ⟨⟨c.fKey, m.span.fTo⟩, splR c.fKey m.sp, noteAs false (highR c.fKey m.sp.rows) (floorN m.sp.floor), m.marks.filter fun q => !blt q.1 c.fKey, m.low, [], m.seen, m.oldest, []⟩) := by
          unfold splitM; rw [if_neg (by rintro (h | h) <;> simp_all)]
        rw [e9] at hk
        have hFa : MF I9 { V with v1 := .slice a9 c.fKey.length c9, e1 := es' } { m with span := ⟨m.span.fFrom, c.fKey⟩, sp := splL c.fKey m.sp, nt := noteAs true (highR c.fKey m.sp.rows) m.nt, marks := m.marks.filter fun q => blt q.1 c.fKey } :=
          { hF.mono t9 with f1 := hB9, mks := hM3' }
        have hFb : MF I9 { Vm with e1 := e, c1 := c', sn := nb, e3 := V.e3, c3 := V.c3 } ⟨⟨c.fKey, m.span.fTo⟩, splR c.fKey m.sp, noteAs false (highR c.fKey m.sp.rows) (floorN m.sp.floor), m.marks.filter fun q => !blt q.1 c.fKey, m.low, [], m.seen, m.oldest, []⟩ :=
          ⟨hF2.f0.mono hI9, hF2.f1.mono hI9, hM1, hF2.rcs, hF.sns, hF2.kpt.mono hI9⟩
        have h9 := (hk I9 (mL b s { V with v1 := .slice a9 c.fKey.length c9, e1 := es' } { m with span := ⟨m.span.fFrom, c.fKey⟩, sp := splL c.fKey m.sp, nt := noteAs true (highR c.fKey m.sp.rows) m.nt, marks := m.marks.filter fun q => blt q.1 c.fKey } X1) _ t9 ⟨s, _, X1, List.Perm.refl _, hFa, hS1.mono (hI2.trans hI9)⟩ (rv_V ..)).2 _ bm
          (mL bm bt { Vm with e1 := e, c1 := c', sn := nb, e3 := V.e3, c3 := V.c3 } ⟨⟨c.fKey, m.span.fTo⟩, splR c.fKey m.sp, noteAs false (highR c.fKey m.sp.rows) (floorN m.sp.floor), m.marks.filter fun q => !blt q.1 c.fKey, m.low, [], m.seen, m.oldest, []⟩ Xt) rfl ⟨bt, _, Xt, List.Perm.refl _, hFb, hSt.mono (hI2.trans hI9)⟩
        refine Gh.to (mL b s { V with v1 := .slice a9 c.fKey.length c9, e1 := es' } { m with span := ⟨m.span.fFrom, c.fKey⟩, sp := splL c.fKey m.sp, nt := noteAs true (highR c.fKey m.sp.rows) m.nt, marks := m.marks.filter fun q => blt q.1 c.fKey } (X1 ++ mL bm bt { Vm with e1 := e, c1 := c', sn := nb, e3 := V.e3, c3 := V.c3 } ⟨⟨c.fKey, m.span.fTo⟩, splR c.fKey m.sp, noteAs false (highR c.fKey m.sp.rows) (floorN m.sp.floor), m.marks.filter fun q => !blt q.1 c.fKey, m.low, [], m.seen, m.oldest, []⟩ (Xt ++ F))) (Gh.done h9)
    · have hek := mapS_key hF.mks hx
      obtain ⟨y, hy, hev⟩ : ∃ y, lkA m.marks (eKey x) = some y ∧ x.val = mv y := by
        have := mapS_mem hF.mks hx
        unfold encM at this
        cases hq : lkA m.marks (eKey x) with
        | none => rw [hq] at this; cases this
        | some y => rw [hq] at this; exact ⟨y, rfl, (Option.some.inj this).symm⟩
      try simp only [SSd, Nat.reduceAdd]
      refine ⟨_, entI hF.mks (.inl (by simp)) hx, ?_⟩
      rw [hek, hev]
      simp only [kstr]
      repeat' (first | (with_reducible refine drawC ?_) | (with_reducible refine drawW1 ?_) | (with_reducible refine drawW2 ?_) | (with_reducible refine keepC (by repeat (first | exact Ext.refl _ | assumption | refine Ext.trans ?_ (by assumption))) ?_) | (with_reducible refine newI (fun _ => ?_)) | (with_reducible refine bs_N (g0.mono (hI1.trans hI2)) (Ext.refl _) ?_) | ((with_reducible refine putAs (x := y) hM1 rfl (fun e2 c2 hM2 => ?_))) | first | (with_reducible refine rdb ?_) | ((with_reducible refine st1 ?_ ?_); rfl) | ((with_reducible refine rdB ?_ ?_); rfl) | (with_reducible refine rdbS ?_) | ((with_reducible refine rdBS ?_ ?_); rfl) | ((with_reducible refine stB ?_ ?_ ?_ ?_); rfl; rfl; exact one_all rfl) | ((with_reducible refine rdP _ rfl ?_ ?_); rfl) | ((with_reducible refine rdPS _ rfl ?_ ?_); rfl) | ((with_reducible refine stP _ rfl ?_ ?_ ?_ ?_); rfl; rfl; rfl) | (with_reducible refine unfE (sh104_1.eq_1 ..) ?_) | (with_reducible refine unfE (sh104_2.eq_1 ..) ?_) | (with_reducible refine unfE (sh104_4.eq_1 ..) ?_) | (with_reducible refine unfE (sh104_7.eq_1 ..) ?_) | (with_reducible refine unfE (sh104_3.eq_1 ..) ?_) | (with_reducible refine unfE (sh104.eq_1 ..) ?_) | (with_reducible refine And.intro ?_ ?_) | (simp only [Bool.not_true, Bool.not_false, Bool.and_self, Bool.true_and, Int.reduceBEq, Int.reduceBNe, Int.reduceLT, Int.reduceLE, decide_true, decide_false, Br_true, Br_false, Gd_tt, Gd_ft, Gd_tf, Gd_ff, beq_self_eq_true, bne_self_eq_false]) | (with_reducible refine gd_split (fun _ => ?_) (fun _ => ?_)) | (with_reducible refine br_split (fun _ => ?_) (fun _ => ?_)) | (simp only [SSd, Nat.reduceAdd]))
      all_goals have hlen : vis.length + 1 ≤ V.e1.toList.length := (by have := ents_subK (nodup_of_map hi'.nod) hi'.sub; simpa using this)
      · rename_i _ ec
        have ec' : blt (eKey x) c.fKey = false := by simpa using ec
        refine Gh.drop (List.sublist_cons_self _ _) (Gh.done (Gh.done ⟨n - 1, by omega, rfl, vis ++ [x], e2, c2, insA blt (eKey x) y lst, hi', by rw [List.length_append, List.length_singleton]; omega, hM2, hS1'.ins bltO, fun k => ?_, rfl⟩))
        rw [lkA_ins, hlk k, List.map_append, List.map_cons, List.map_nil]
        by_cases hk1 : k = eKey x
        · subst hk1; simp [ec', hy]
        · rw [if_neg hk1]; simp [hk1]
      · rename_i ec
        have ec' : blt (eKey x) c.fKey = true := by simpa using ec
        refine Gh.drop (List.sublist_cons_self _ _) (Gh.done ⟨n - 1, by omega, rfl, vis ++ [x], e, c', lst, hi', by rw [List.length_append, List.length_singleton]; omega, hM1, hS1', fun k => ?_, rfl⟩)
        rw [hlk k, List.map_append, List.map_cons, List.map_nil]
        by_cases hk1 : k = eKey x
        · subst hk1; simp [ec']
        · simp [hk1]
  · have e : splitM m c = noSplit (failR 141, m) := by unfold splitM noSplit; rw [if_pos (by first | (simp_all; done) | (simp_all; omega) | omega)]
    rw [e] at hk
    exact Gh.to (mL b s V m (SX ++ F)) (Gh.done (hk.plain (Ext.refl _) ⟨s, V, SX, List.Perm.refl _, hF, hSp⟩ (rv_V ..)))
theorem splitC : SplitC := fun ω I K b N X F m c cc hM hN hX hc hky hk => by
  obtain ⟨s, V, SX, hp, hF, hSp⟩ := hX
  refine Cal.perm (L' := mL b s V m (SX ++ F)) (ms_perm (by simp only [ms_app, ms_eq hp]; ((try simp only [ms_cons, ms_app, ms_nil, ms_nil']); (try ac_rfl)))) (splitc_spec hM hN hF hSp hc hky hk)
end
end Go.Proofs.YtmmfcgbfbcamcaaGreatDoor
-- S3
set_option linter.unusedSimpArgs false
set_option linter.unusedVariables false
namespace Go.Proofs.YtmmfcgbfbcamcaaGreatDoor
open Go.SL
set_option maxRecDepth 10000
theorem rows_inj : ∀ {l m : List TKV}, (∀ x ∈ l, x.fKey.length ≤ 110 ∧ x.fValue.length ≤ 10000) → (∀ x ∈ m, x.fKey.length ≤ 110 ∧ x.fValue.length ≤ 10000) → l.length = m.length → l.flatMap rowE = m.flatMap rowE → l = m
  | [], [], _, _, _, _ => rfl
  | x :: l, y :: m, hl, hm, hn, h => by
    have h1 := hl x (List.mem_cons_self ..)
    have h2 := hm y (List.mem_cons_self ..)
    simp only [List.flatMap_cons, rowE, List.append_assoc] at h
    obtain ⟨e1, h⟩ := txtB_inj (by omega) (by omega) h
    obtain ⟨e2, h⟩ := txtB_inj (by omega) (by omega) h
    have e3 := rows_inj (l := l) (m := m) (fun z hz => hl z (List.mem_cons_of_mem _ hz)) (fun z hz => hm z (List.mem_cons_of_mem _ hz)) (by simpa using hn) h
    cases x; cases y; simp_all
theorem encR_inj {r q : TRes} (hr : ansP r = true) (hq : ansP q = true) (h : encR r = encR q) : r = q := by
  have a := ansP_ok hr
  have b := ansP_ok hq
  have a1 := a.code
  have a2 := a.state
  have a3 := a.val
  have a4 := a.len
  have b1 := b.code
  have b2 := b.state
  have b3 := b.val
  have b4 := b.len
  simp only [encR] at h
  obtain ⟨e1, h⟩ := nB_inj ⟨by omega, by omega⟩ ⟨by omega, by omega⟩ h
  obtain ⟨e2, h⟩ := nB_inj ⟨by omega, by omega⟩ ⟨by omega, by omega⟩ h
  obtain ⟨e3, h⟩ := nB_inj a.by' b.by' h
  obtain ⟨e4, h⟩ := nB_inj a.gby b.gby h
  obtain ⟨e5, h⟩ := stmB_inj a.at' b.at' h
  obtain ⟨e6, h⟩ := stmB_inj a.gat b.gat h
  obtain ⟨e7, h⟩ := bitB_inj h
  obtain ⟨e8, h⟩ := txtB_inj (by omega) (by omega) h
  obtain ⟨e9, h⟩ := nB_inj ⟨by omega, by omega⟩ ⟨by omega, by omega⟩ h
  have e10 := rows_inj (fun x hx => by have := a.rows x hx; omega) (fun x hx => by have := b.rows x hx; omega) (by omega) h
  obtain ⟨r1, ⟨r2, r3, r4, r5⟩, r6, r7, r8, r9⟩ := r
  obtain ⟨q1, ⟨q2, q3, q4, q5⟩, q6, q7, q8, q9⟩ := q
  simp only at e1 e2 e3 e4 e5 e6 e7 e8 e10
  subst e1 e2 e3 e4 e5 e6 e7 e8 e10
  rfl
theorem encR_len {r : TRes} (h : ansP r = true) : (encR r).length ≤ 2000000 := by
  have ho := ansP_ok h
  have hcd := ho.code
  have hst := ho.state
  have hvl := ho.val
  have hln := ho.len
  have e1 := nB_9 (n := r.fCode) ⟨by omega, by omega⟩
  have e2 := nB_9 (n := r.fState) ⟨by omega, by omega⟩
  have e3 := nB_9 ho.by'
  have e4 := nB_9 ho.gby
  have e5 := stmB_len ho.at'
  have e6 := stmB_len ho.gat
  have e7 := bitB_len r.fGot.fFound
  have e8 := txtB_len (b := r.fGot.fValue) (by omega)
  have e9 := nB_9 (n := (r.fRows.length : Int)) ⟨by omega, by omega⟩
  have e10 := rowsE_len (l := r.fRows) (fun x hx => by have := ho.rows x hx; omega)
  simp only [encR, List.length_append]
  omega
section
variable {ω : Om} {I : Imm} {L : LH} {K : Value → M}
theorem samegot14_spec {g : TGot} {v w : Value} (hv : Bytes I v g.fValue) (hw : Bytes I w g.fValue) (hk : K (.bool true) I L) : Cal Tryz.prog ω 54 #[gvV g v, gvV g w] K I L := by
  obtain ⟨va, vc, rfl⟩ := Bytes.form hv
  obtain ⟨wa, wc, rfl⟩ := Bytes.form hw
  refine cal54 ?_
  unfold sh54
  repeat' (first | (with_reducible refine drawC ?_) | (with_reducible refine drawW1 ?_) | (with_reducible refine drawW2 ?_) | (with_reducible refine keepC (by repeat (first | exact Ext.refl _ | assumption | refine Ext.trans ?_ (by assumption))) ?_) | (with_reducible refine newI (fun _ => ?_)) | (with_reducible refine bs_N hv (Ext.refl _) ?_) | (with_reducible refine bs_N hw (Ext.refl _) ?_) | first | (with_reducible refine rdb ?_) | ((with_reducible refine st1 ?_ ?_); rfl) | ((with_reducible refine rdB ?_ ?_); rfl) | (with_reducible refine rdbS ?_) | ((with_reducible refine rdBS ?_ ?_); rfl) | ((with_reducible refine stB ?_ ?_ ?_ ?_); rfl; rfl; exact one_all rfl) | ((with_reducible refine rdP _ rfl ?_ ?_); rfl) | ((with_reducible refine rdPS _ rfl ?_ ?_); rfl) | ((with_reducible refine stP _ rfl ?_ ?_ ?_ ?_); rfl; rfl; rfl) | (with_reducible refine unfE (sh54.eq_1 ..) ?_) | (with_reducible refine And.intro ?_ ?_) | (simp only [Bool.not_true, Bool.not_false, Bool.and_self, Bool.true_and, Int.reduceBEq, Int.reduceBNe, Int.reduceLT, Int.reduceLE, decide_true, decide_false, Br_true, Br_false, Gd_tt, Gd_ft, Gd_tf, Gd_ff, beq_self_eq_true, bne_self_eq_false]) | (with_reducible refine gd_split (fun _ => ?_) (fun _ => ?_)) | (with_reducible refine br_split (fun _ => ?_) (fun _ => ?_)) | (simp only [SSd, Nat.reduceAdd, sEq, beq_self_eq_true, Bool.and_self]))
  all_goals exact Gh.to L (Gh.done hk)
theorem samerows14_spec {L0 : LH} [LSub L0 L] {a : List TKV} {v w : Value} (ha : RL TKVV 2 I L0 v a) (hb : RL TKVV 2 I L0 w a) (hl : a.length ≤ 1000000000) (hk : K (.bool true) I L) : Cal Tryz.prog ω 55 #[v, w] K I L := by
  refine cal55 ?_
  unfold sh55
  simp only [RL.len ha, RL.len hb, SSd, Nat.reduceAdd]
  refine br_split (fun e => ?_) (fun e => ?_)
  · simp at e
  refine loop (fun n s I' L' => I' = I ∧ L' = L ∧ ∃ i : Nat, n + i = a.length ∧ s = (.bool false, .int .i64 i, ())) a.length ⟨rfl, rfl, 0, rfl, rfl⟩ ?_
  rintro n s I' L' ⟨rfl, rfl, i, hni, rfl⟩
  unfold sh55_1
  simp only [RL.len ha, SSd, Nat.reduceAdd]
  refine br_split (fun e2 => ?_) (fun e2 => Gh.done hk)
  have hi : i < a.length := by simpa using e2
  obtain ⟨q, off, c, hix, hcl, hc, hcc⟩ := RL.ix ha (i := (i : Int)) (by omega) (by omega)
  obtain ⟨q2, off2, c2, hix2, hcl2, hc2, hcc2⟩ := RL.ix hb (i := (i : Int)) (by omega) (by omega)
  rw [geti_nat hi] at hc hc2
  generalize a[i] = x at *
  obtain ⟨w0, w1, rfl, g0, g1⟩ := hc
  obtain ⟨u0, u1, rfl, f0, f1⟩ := hc2
  have hcv := hcc I' L0 (Ext.refl _) (fun _ h => h)
  have hcu := hcc2 I' L0 (Ext.refl _) (fun _ h => h)
  refine drawC ?_
  simp only [hix, SSd, Nat.reduceAdd]
  refine rdCS (hcv 0 _ rfl) (Ext.refl _) ?_
  refine bs_I g0 (Ext.refl _) ?_
  simp only [hix2, SSd, Nat.reduceAdd]
  refine rdCS (hcu 0 _ rfl) (Ext.refl _) ?_
  refine bs_I f0 (Ext.refl _) ?_
  simp only [sNe, SSd, Nat.reduceAdd]
  refine gd_split (fun e3 => ?_) (fun e3 => ?_)
  rotate_left
  · simp at e3
  try simp only [SSd, Nat.reduceAdd]
  refine rdCS (hcv 1 _ rfl) (Ext.refl _) ?_
  refine bs_I g1 (Ext.refl _) ?_
  try simp only [SSd, Nat.reduceAdd]
  refine rdCS (hcu 1 _ rfl) (Ext.refl _) ?_
  refine bs_I f1 (Ext.refl _) ?_
  simp only [sNe, SSd, Nat.reduceAdd]
  refine br_split (fun e4 => ?_) (fun e4 => ?_)
  · simp at e4
  try simp only [SSd, Nat.reduceAdd]
  rw [wrap_i64 _ (by omega)]
  exact Gh.done ⟨n - 1, by omega, rfl, rfl, i + 1, by omega, rfl⟩
theorem sameres14_spec {r : TRes} {ca cb : List Value} (h : TResV I r ca) (h' : TResV I r cb) (hl : r.fRows.length ≤ 1000000000) (hk : K (.bool true) I L) : Cal Tryz.prog ω 17 #[.agg ca.toArray, .agg cb.toArray] K I L := by
  obtain ⟨v0, v1, rfl, g0, g1⟩ := h
  obtain ⟨w0, w1, rfl, f0, f1⟩ := h'
  obtain ⟨a0, c0, rfl⟩ := Bytes.form g0
  obtain ⟨a1, c1, rfl⟩ := Bytes.form f0
  obtain ⟨a2, c2, rfl⟩ := RL.form g1
  obtain ⟨a3, c3, rfl⟩ := RL.form f1
  refine cal17 ?_
  unfold sh17
  repeat' (first | (with_reducible refine drawC ?_) | (with_reducible refine drawW1 ?_) | (with_reducible refine drawW2 ?_) | (with_reducible refine keepC (by repeat (first | exact Ext.refl _ | assumption | refine Ext.trans ?_ (by assumption))) ?_) | (with_reducible refine newI (fun _ => ?_)) | ((with_reducible refine call ?_); with_reducible refine samegot14_spec (g := r.fGot) g0 f0 ?_) | ((with_reducible refine call ?_); with_reducible refine samerows14_spec g1 f1 hl ?_) | first | (with_reducible refine rdb ?_) | ((with_reducible refine st1 ?_ ?_); rfl) | ((with_reducible refine rdB ?_ ?_); rfl) | (with_reducible refine rdbS ?_) | ((with_reducible refine rdBS ?_ ?_); rfl) | ((with_reducible refine stB ?_ ?_ ?_ ?_); rfl; rfl; exact one_all rfl) | ((with_reducible refine rdP _ rfl ?_ ?_); rfl) | ((with_reducible refine rdPS _ rfl ?_ ?_); rfl) | ((with_reducible refine stP _ rfl ?_ ?_ ?_ ?_); rfl; rfl; rfl) | (with_reducible refine unfE (sh17.eq_1 ..) ?_) | (with_reducible refine And.intro ?_ ?_) | (simp only [Bool.not_true, Bool.not_false, Bool.and_self, Bool.true_and, Int.reduceBEq, Int.reduceBNe, Int.reduceLT, Int.reduceLE, decide_true, decide_false, Br_true, Br_false, Gd_tt, Gd_ft, Gd_tf, Gd_ff, beq_self_eq_true, bne_self_eq_false]) | (with_reducible refine gd_split (fun _ => ?_) (fun _ => ?_)) | (with_reducible refine br_split (fun _ => ?_) (fun _ => ?_)) | (simp only [SSd, Nat.reduceAdd, beq_self_eq_true, Bool.and_self]))
  all_goals exact Gh.to L (Gh.done hk)
theorem answers_law {v : Value} {cs : List TCmd} (h : RL TCmdV 15 I [] v cs) (hL : ∀ c ∈ cs, Lens c) (hl : cs.length ≤ 9000000000000000000) (hk : ∀ I' L', Ext I I' → K (.bool true) I' L') : Cal Tryz.prog ω 6 #[v] K I L := by
  refine cal6 ?_
  unfold sh6
  refine call (awake_spec (fun I1 hI1 => ?_))
  try simp only [SSd, Nat.reduceAdd]
  refine call (newR_spec (p := sp00) ⟨_, _, rfl, bnil I1, bnil I1⟩ (fun h => by cases h) (fun _ b X I2 hI2 hX => ?_))
  simp only [Bool.not_true, bne_self_eq_false, SSd, Nat.reduceAdd]
  refine loop (fun n (s : Value × Value × Unit) I' L' => Ext I I' ∧ ∃ (i : Nat) (m : Mch) (X : LH), n + i = cs.length ∧ s = (.bool false, .int .i64 i, ()) ∧ MchR I' b X m ∧ MOk m i ∧ i ≤ 100 ∧ L' = X ++ L) cs.length ⟨hI1.trans hI2, 0, mch0 sp00, X, rfl, rfl, hX, mch0_ok (p := sp00) (by decide), by omega, rfl⟩ ?_
  rintro n s I' L' ⟨hI, i, m, X, hni, rfl, hX, hM, hi1, rfl⟩
  unfold sh6_2
  simp only [RL.len h, SSd, Nat.reduceAdd]
  refine gd_split (fun e => ?_) (fun e => Gh.done (hk I' _ hI))
  have hi : i < cs.length := by simpa using e
  try simp only [SSd, Nat.reduceAdd]
  refine br_split (fun e2 => ?_) (fun e2 => Gh.done (hk I' _ hI))
  have hi2 : i < 100 := by simp at e2; omega
  obtain ⟨q, off, c, hix, hcl, hc, hcc⟩ := RL.ix h (i := (i : Int)) (by omega) (by omega)
  have hmem : geti cs (i : Int) ∈ cs := by rw [geti_nat hi]; exact List.getElem_mem hi
  generalize geti cs (i : Int) = x at *
  have hok := applyM_ok (c := x) hM
  simp only [hix, SSd, Nat.reduceAdd]
  refine rdNC (hcc I' [] hI (fun _ h => h)) (Ext.refl _) hcl ?_
  obtain ⟨hok1, hok2, _⟩ := hok
  have hao := ansP_ok hok1
  have hln := hao.len
  have hel := encR_len hok1
  refine call (apply_spec hM (by omega) hX (hc.mono hI) (hL x hmem) (fun _ => sortS) (fun _ => splitC) (fun I3 X' cells hI3 hX3 hr => ?_))
  generalize (applyM m x).1 = r at *
  generalize (applyM m x).2.1 = m1 at *
  generalize (applyM m x).2.2 = o1 at *
  have hr1 := hr.one
  obtain ⟨z1, z2, rfl, _, _⟩ := id hr
  refine ⟨fun _ => ?_, fun m2 b2 X2 _ _ => ?_⟩
  all_goals
    try simp only [SSd, Nat.reduceAdd]
    refine newI (fun q1 => ?_)
    refine stB rfl rfl hr1 ?_
    refine rdB rfl ?_
    refine call (ansb_spec hr (by omega) (fun h => by rw [hok1] at h; cases h) (fun _ u I4 hI4 hU => ?_))
    try simp only [SSd, Nat.reduceAdd]
    refine call (read_spec hU (by omega) (fun c cc I5 hI5 hT ha' he => ?_) (fun I5 hI5 hno => absurd rfl (hno r hok1)))
    obtain rfl := encR_inj ha' hok1 he
    have hT1 := hT.one
    obtain ⟨y1, y2, rfl, _, _⟩ := id hT
    try simp only [SSd, Nat.reduceAdd]
    refine newI (fun q2 => ?_)
    refine stB rfl rfl hT1 ?_
    refine rdB rfl ?_
    refine rdB rfl ?_
    refine call (sameres14_spec (hr.mono (hI4.trans hI5)) hT (by omega) ?_)
    simp only [bne_self_eq_false, Bool.not_true, SSd, Nat.reduceAdd]
    rw [wrap_i64 _ (by omega)]
    exact Gh.to (X' ++ L) (Gh.done ⟨n - 1, by omega, hI.trans (hI3.trans (hI4.trans hI5)), i + 1, m1, X', by omega, rfl, hX3.mono (hI4.trans hI5), hok2, by omega, rfl⟩)
end
theorem tr_cmds14 {W : World} {v : Value} (h : TrR reachBytes Tryz.prog W 60 [v]) : ∃ cs : List TCmd, RL TCmdV 15 (heapI W) [] v cs ∧ (∀ c ∈ cs, Lens c) ∧ cs.length ≤ 900000000000 := by
  obtain ⟨cells, xs, hS, hRR, hlen⟩ := tr_recs (R := fun x c => TCmdB reachBytes x ∧ TCmdV (heapI W) x c) Tryz.underlying60 (by rw [ceTCmd]; omega) h (fun c hc => TCmd_open hc)
  rw [ceTCmd] at hS hRR
  rw [byTCmd] at hlen
  have e : reachBytes = 140737488351232 := by rfl
  exact ⟨xs, RL.ofI hS (hRR.imp fun _ _ h => h.2), fun c hc => lens_of (recs_all (fun _ _ h => h.1) hRR c hc), by omega⟩
theorem answers_walk2 {W : World} {base : Nat} {v0 : Value} (o0 : Value.okWide Tryz.prog W .any base 60 v0) (t0 : Tr Tryz.prog W 60 v0.cells.toList) (ω : Om) :
    Cal Tryz.prog ω 6 #[v0] (fun v I' _ => v = .bool true ∧ Ext (heapI W) I') (heapI W) [] := by
  obtain ⟨cs, h1, h2, h3⟩ := tr_cmds14 (top_slice Tryz.underlying60 o0 t0)
  exact answers_law h1 h2 (by omega) (fun I' _ hI => ⟨rfl, hI⟩)
end Go.Proofs.YtmmfcgbfbcamcaaGreatDoor
