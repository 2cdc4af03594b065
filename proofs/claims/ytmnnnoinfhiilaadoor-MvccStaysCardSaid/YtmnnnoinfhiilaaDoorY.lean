/-
  The document's space is written: an intent is set, put.
-/
-- S3
import Derived.Test.YtmnnnoinfhiilaaDoorX
set_option linter.unusedSimpArgs false
set_option linter.unusedVariables false
namespace Go.Proofs.YtmnnnoinfhiilaaDoor
open Go.SL
set_option maxRecDepth 10000
section
variable {ω : Om} {I : Imm} {L : LH} {K : Value → M}
theorem rec_appG {α : Type} {R : Imm → α → List Value → Prop} {T n bytes : Nat} {z : Array Value} {X6 L0 F : LH} {v : Value} {xs : List α} {x : α} {c cells : List Value} [SplitL X6 L0 F] (hz : z.size = n) (hn : 0 < n) (h6 : SlO T n X6 v cells xs.length) (hR : Recs (R I) n xs cells) (hx : R I x c) (hcl : c.length = n) (h1 : ∀ u ∈ c, u.oneCell' = true) (hb : (xs.length + 1) * bytes ≤ 150000000000000) (hl : xs.length + 1 ≤ 150000000000000)
    (hk : ∀ X1 X6' v' cells', SlO T n X6' v' cells' (xs ++ [x]).length → Recs (R I) n (xs ++ [x]) cells' → Gh (K v') I (X6' ++ (X1 ++ F))) :
    BldS T n z 1 [(0, .agg c.toArray)] (gh fun u => App T n bytes z v u (gh K)) I L0 := by
  refine bld_one hz hn (by simpa [Value.cells] using hcl) (fun X1 u hX1 => ?_)
  refine app_ownG (X := X6) hz h6 (hX1.news (fun x hx => List.mem_append_left _ hx)) (fun u hu => h1 u (by simpa [Value.cells] using hu)) hb hl (fun X' v' hX' => ?_)
  exact hk X1 X' v' _ (by simpa [Value.cells] using hX') (Recs.append hR (Recs.one (by simpa [Value.cells] using hcl) (by simpa [Value.cells] using hx)))
abbrev refO (vV vI : Value) (fl : TStamp) : Obj := .cells #[vV, vI, .int .i64 fl.fWall, .int .i64 fl.fLogic] 57 (0, 0)
theorem refF {b : Nat} {vV vI : Value} {V : List TVersion} {Is : List TIntent} {fl : TStamp} (hm : (b, refO vV vI fl) ∈ L) (h1 : RL TVersionV 5 I [] vV V) (h2 : RL TIntentV 6 I [] vI Is) : RefF I L b vV vI V Is fl :=
  ⟨own_cells (l := [vV, vI, .int .i64 fl.fWall, .int .i64 fl.fLogic]) hm 4, h1, h2⟩
abbrev intO (v0 v1 : Value) (x : TIntent) : Obj := .cells #[v0, .int .i64 x.fTxn, .int .i64 x.fAt.fWall, .int .i64 x.fAt.fLogic, .bool x.fDel, v1] 39 (0, 0)
theorem set3_spec {b b1 i : Nat} {vV vI v0 v1 v : Value} {V : List TVersion} {Is : List TIntent} {fl : TStamp} {x : TIntent} {d : Bool} {acc : List TIntent} {cells : List Value} {XO F : LH} {Kn0 : (Value × Value × Value × Unit) → M} (hV : RL TVersionV 5 I [] vV V) (hI : RL TIntentV 6 I [] vI Is) (h0 : Bytes I v0 x.fKey) (hi : i < Is.length) (hil : Is.length ≤ 400000000)
    (hO : SlO 39 6 XO v cells acc.length) (hR : Recs (TIntentV I) 6 acc cells) (hal : acc.length ≤ 800000000)
    (hk : ∀ XO' v' cells', SlO 39 6 XO' v' cells' (acc ++ (if Is[i].fKey ≠ x.fKey then [Is[i]] else [])).length → Recs (TIntentV I) 6 (acc ++ (if Is[i].fKey ≠ x.fKey then [Is[i]] else [])) cells' → Gh (Kn0 (v', .bool d, .int .i64 ((i : Int) + 1), ())) I ((b1, intO v0 v1 x) :: (b, refO vV vI fl) :: (XO' ++ F))) :
    sh63_3 ω (pt b) (pt b1) v (.bool d) (.int .i64 i) (fun s => Gh (Kn0 s)) (fun v => Gh (K v)) I ((b1, intO v0 v1 x) :: (b, refO vV vI fl) :: (XO ++ F)) := by
  obtain ⟨q, off, c, hix, hcl, hc, hcc⟩ := RL.ix hI (i := (i : Int)) (by omega) (by omega)
  rw [geti_nat hi] at hc
  generalize Is[i] = y at *
  obtain ⟨w0, w1, rfl, g0, g1⟩ := hc
  have hcv := hcc I [] (Ext.refl _) (fun _ h => h)
  unfold sh63_3
  refine drawC ?_
  try simp only [SSd, Nat.reduceAdd]
  refine rdbS ?_
  simp only [hix, SSd, Nat.reduceAdd]
  refine rdCS (hcv 0 _ rfl) (Ext.refl _) ?_
  refine bs_I g0 (Ext.refl _) ?_
  try simp only [SSd, Nat.reduceAdd]
  refine rdbS ?_
  refine bs_I h0 (Ext.refl _) ?_
  simp only [sNe, SSd, Nat.reduceAdd]
  refine br_split (fun e => ?_) (fun e => ?_)
  · have e' : y.fKey ≠ x.fKey := by simpa using e
    rw [if_pos e'] at hk
    refine rdb ?_
    simp only [hix, SSd, Nat.reduceAdd]
    refine rdNC hcv (Ext.refl _) rfl ?_
    refine rec_app (R := TIntentV) (X6 := XO) (x := y) rfl (by omega) hO hR ⟨w0, w1, rfl, g0, g1⟩ rfl (by
      obtain ⟨_, _, rfl⟩ := Bytes.form g0
      obtain ⟨_, _, rfl⟩ := Bytes.form g1
      exact one_all rfl) (by omega) (by omega) (fun X1 X6 v6 cells6 h6 hR6 => ?_)
    unfold sh63_5
    try simp only [SSd, Nat.reduceAdd]
    rw [wrap_i64 _ (by omega)]
    exact Gh.to ((b1, intO v0 v1 x) :: (b, refO vV vI fl) :: (X6 ++ F)) (hk X6 v6 cells6 h6 hR6)
  · have e' : ¬ y.fKey ≠ x.fKey := by simpa using e
    rw [if_neg e', List.append_nil] at hk
    unfold sh63_5
    try simp only [SSd, Nat.reduceAdd]
    rw [wrap_i64 _ (by omega)]
    exact hk XO v cells hO hR
theorem setint_spec {b : Nat} {vV vI v0 v1 : Value} {V : List TVersion} {Is : List TIntent} {fl : TStamp} {x : TIntent} {F : LH} (hV : RL TVersionV 5 I [] vV V) (hI : RL TIntentV 6 I [] vI Is) (h0 : Bytes I v0 x.fKey) (h1 : Bytes I v1 x.fValue) (hil : Is.length ≤ 400000000)
    (hk : ∀ I' vI', Ext I I' → RL TIntentV 6 I' [] vI' (setL x false Is) → K (.tuple #[]) I' ((b, refO vV vI' fl) :: F)) :
    Cal Tryd.prog ω 63 #[pt b, .agg (itV v0 v1 x).toArray] K I ((b, refO vV vI fl) :: F) := by
  have hx : TIntentV I x (itV v0 v1 x) := ⟨v0, v1, rfl, h0, h1⟩
  have hx1 : ∀ u ∈ itV v0 v1 x, u.oneCell' = true := by
    obtain ⟨_, _, rfl⟩ := Bytes.form h0
    obtain ⟨_, _, rfl⟩ := Bytes.form h1
    exact one_all rfl
  refine cal63 ?_
  unfold sh63
  refine newI (fun b1 => ?_)
  refine loop (fun n s I' L' => I' = I ∧ ∃ (i : Nat) (d : Bool) (XO : LH) (v : Value) (acc : List TIntent) (cells : List Value), n + i = Is.length ∧ s = (v, .bool d, .int .i64 i, ()) ∧ L' = (b1, intO v0 v1 x) :: (b, refO vV vI fl) :: (XO ++ F) ∧ SlO 39 6 XO v cells acc.length ∧ Recs (TIntentV I) 6 acc cells ∧ acc.length ≤ 2 * i ∧
      acc ++ setL x d (Is.drop i) = setL x false Is) Is.length ⟨rfl, 0, false, [], _, [], [], rfl, rfl, rfl, SlO.none _ _, rfl, by simp, rfl⟩ ?_
  rintro n s I' L' ⟨rfl, i, d, XO, v, acc, cells, hni, rfl, rfl, hO, hR, hal, hA⟩
  unfold sh63_1
  try simp only [SSd, Nat.reduceAdd]
  refine rdb ?_
  simp only [RL.len hI, SSd, Nat.reduceAdd]
  have end8 : ∀ (XO : LH) (v : Value) (cells : List Value) (acc : List TIntent), SlO 39 6 XO v cells acc.length → Recs (TIntentV I') 6 acc cells → acc = setL x false Is → sh63_8 ω (pt b) v (fun v => Gh (K v)) I' ((b1, intO v0 v1 x) :: (b, refO vV vI fl) :: (XO ++ F)) := by
    intro XO v cells acc hO hR he
    subst he
    obtain ⟨oa, oc, rfl⟩ := hO.form
    unfold sh63_8
    try simp only [SSd, Nat.reduceAdd]
    refine st1 rfl ?_
    refine Gh.to (XO ++ ((b, refO vV (.slice oa (setL x false Is).length oc) fl) :: F)) (SlO.freeze hO (fun I3 hI3 hSl => Gh.done ?_))
    exact hk I3 _ hI3 (RL.ofI hSl (hR.imp fun x c h => h.mono hI3))
  refine br_split (fun e => ?_) (fun e => ?_)
  · have hi : i < Is.length := by simpa using e
    have hd : Is.drop i = Is[i] :: Is.drop (i + 1) := List.drop_eq_getElem_cons hi
    rw [hd, setL] at hA
    obtain ⟨q, off, c, hix, hcl, hc, hcc⟩ := RL.ix hI (i := (i : Int)) (by omega) (by omega)
    rw [geti_nat hi] at hc
    have three : ∀ (XO : LH) (v : Value) (cells : List Value) (acc : List TIntent) (d : Bool), SlO 39 6 XO v cells acc.length → Recs (TIntentV I') 6 acc cells → acc.length ≤ 2 * i + 1 → acc ++ ((if Is[i].fKey ≠ x.fKey then [Is[i]] else []) ++ setL x d (Is.drop (i + 1))) = setL x false Is →
        sh63_3 ω (pt b) (pt b1) v (.bool d) (.int .i64 i) (fun s' => Gh fun I2 L2 => ∃ m', m' < n ∧ I2 = I' ∧ ∃ (i : Nat) (d : Bool) (XO : LH) (v : Value) (acc : List TIntent) (cells : List Value), m' + i = Is.length ∧ s' = (v, .bool d, .int .i64 i, ()) ∧ L2 = (b1, intO v0 v1 x) :: (b, refO vV vI fl) :: (XO ++ F) ∧ SlO 39 6 XO v cells acc.length ∧ Recs (TIntentV I') 6 acc cells ∧ acc.length ≤ 2 * i ∧
      acc ++ setL x d (Is.drop i) = setL x false Is) (fun v => Gh (K v)) I' ((b1, intO v0 v1 x) :: (b, refO vV vI fl) :: (XO ++ F)) := by
      intro XO v cells acc d hO hR hal hA
      refine set3_spec hV hI h0 hi hil hO hR (by omega) (fun XO' v' cells' hO' hR' => Gh.done ⟨n - 1, by omega, rfl, i + 1, d, XO', v', _, cells', by omega, rfl, rfl, hO', hR', ?_, by rw [List.append_assoc]; exact hA⟩)
      rw [List.length_append]
      split <;> simp <;> omega
    generalize Is[i] = y at *
    obtain ⟨w0, w1, rfl, g0, g1⟩ := hc
    have hcv := hcc I' [] (Ext.refl _) (fun _ h => h)
    refine drawC ?_
    try simp only [SSd, Nat.reduceAdd]
    cases d with
    | true =>
      simp only [Bool.not_true, Bool.false_and, Bool.true_or] at hA
      rw [if_neg (by simp)] at hA
      simp only [Bool.not_true, SSd, Nat.reduceAdd]
      exact three XO v cells acc true hO hR (by omega) hA
    | false =>
      simp only [Bool.not_false, SSd, Nat.reduceAdd]
      refine rdbS ?_
      simp only [hix, SSd, Nat.reduceAdd]
      refine rdCS (hcv 0 _ rfl) (Ext.refl _) ?_
      refine bs_I g0 (Ext.refl _) ?_
      try simp only [SSd, Nat.reduceAdd]
      refine rdbS ?_
      refine bs_I h0 (Ext.refl _) ?_
      simp only [sGe, SSd, Nat.reduceAdd]
      refine br_split (fun e2 => ?_) (fun e2 => ?_)
      · rw [e2] at hA
        simp only [Bool.not_false, Bool.and_self, Bool.or_true, if_true] at hA
        unfold sh63_2
        refine rdB rfl ?_
        refine rec_appG (R := TIntentV) (X6 := XO) (x := x) rfl (by omega) hO hR hx rfl hx1 (by omega) (by omega) (fun X1 X6 v6 cells6 h6 hR6 => ?_)
        refine Gh.to ((b1, intO v0 v1 x) :: (b, refO vV vI fl) :: (X6 ++ F)) (Gh.done (three X6 v6 cells6 _ true h6 hR6 (by simp; omega) ?_))
        rw [List.append_assoc]; exact hA
      · rw [e2] at hA
        simp only [Bool.not_false, Bool.and_false, Bool.or_false] at hA
        rw [if_neg (by simp)] at hA
        exact three XO v cells acc false hO hR (by omega) hA
  · have hi : i = Is.length := by simp at e; omega
    subst hi
    rw [List.drop_length, setL] at hA
    unfold sh63_7
    try simp only [SSd, Nat.reduceAdd]
    cases d with
    | true =>
      simp only [Bool.not_true, SSd, Nat.reduceAdd]
      exact end8 XO v cells acc hO hR (by simpa using hA)
    | false =>
      simp only [Bool.not_false, SSd, Nat.reduceAdd]
      refine rdB rfl ?_
      refine rec_appG (R := TIntentV) (X6 := XO) (x := x) rfl (by omega) hO hR hx rfl hx1 (by omega) (by omega) (fun X1 X6 v6 cells6 h6 hR6 => ?_)
      exact Gh.to ((b1, intO v0 v1 x) :: (b, refO vV vI fl) :: (X6 ++ F)) (Gh.done (end8 X6 v6 cells6 _ h6 hR6 (by simpa using hA)))
def xAt (x : TIntent) (a : TStamp) : TIntent := ⟨x.fKey, x.fTxn, a, x.fDel, x.fValue⟩
abbrev rpL (b b1 b2 : Nat) (vV vI v0 v1 : Value) (x : TIntent) (a fl : TStamp) (F : LH) : LH := (b2, .cells #[.int .i64 0, .int .i64 0] 34 (0, 0)) :: (b1, intO v0 v1 (xAt x a)) :: (b, refO vV vI fl) :: F
theorem rput_spec {b : Nat} {vV vI : Value} {x : TIntent} {c : List Value} {F : LH} {sp : Sp} (h1 : RL TVersionV 5 I [] vV (versOf sp.rows)) (h2 : RL TIntentV 6 I [] vI (intsOf sp.rows)) (hok : SpOk sp) (hlen : sp.rows.length ≤ 100000000) (hn : versN sp.rows ≤ 100000000) (hx : TIntentV I x c)
    (hk : ∀ I' vI', Ext I I' → RL TIntentV 6 I' [] vI' (intsOf (putS sp x).rows) → K (.tuple #[sv (putA sp x).1, .int .i64 (putA sp x).2.1, .int .i64 (putA sp x).2.2]) I' ((b, refO vV vI' sp.floor) :: F)) :
    Cal Tryd.prog ω 34 #[pt b, .agg c.toArray] K I ((b, refO vV vI sp.floor) :: F) := by
  obtain ⟨v0, v1, rfl, g0, g1⟩ := hx
  have hs := hok.rise
  have hVl : (versOf sp.rows).length ≤ 100000000 := by rw [versN_len]; exact hn
  have hIl : (intsOf sp.rows).length ≤ 100000000 := by
    have := List.length_filter_le (fun r : Row => r.it.txn != 0) sp.rows
    simp [intsOf]; omega
  have hR : ∀ {L' : LH}, (b, refO vV vI sp.floor) ∈ L' → RefF I L' b vV vI (versOf sp.rows) (intsOf sp.rows) sp.floor := fun hm => refF hm h1 h2
  obtain ⟨ka, kc, rfl⟩ := Bytes.form g0
  obtain ⟨va, vc, rfl⟩ := Bytes.form g1
  have err : ∀ by' e, putA sp x = (z0, by', e) → e ≠ 0 → K (.tuple #[sv z0, .int .i64 by', .int .i64 e]) I ((b, refO vV vI sp.floor) :: F) := by
    intro by' e ha he
    have e2 : putS sp x = sp := by unfold putS; rw [ha]; exact if_pos he
    rw [e2] at hk
    have hk' := hk I vI (Ext.refl _) h2
    rw [ha] at hk'
    exact hk'
  refine cal34 ?_
  unfold sh34
  refine newI (fun b1 => newI (fun b2 => ?_))
  have bad : ∀ hb : putBad x, sh34_1 ω (pt b2) (.int .i64 0) (.int .i64 0) (fun v => Gh (K v)) I (rpL b b1 b2 vV vI (.slice ka x.fKey.length kc) (.slice va x.fValue.length vc) x x.fAt sp.floor F) := by
    intro hb
    have hk' := err 0 1 (by unfold putA; rw [if_pos hb]) (by decide)
    unfold sh34_1
    repeat' (first | (with_reducible refine drawC ?_) | (with_reducible refine drawW1 ?_) | (with_reducible refine drawW2 ?_) | (with_reducible refine keepC (by repeat (first | exact Ext.refl _ | assumption | refine Ext.trans ?_ (by assumption))) ?_) | (with_reducible refine newI (fun _ => ?_)) | first | (with_reducible refine rdb ?_) | ((with_reducible refine st1 ?_ ?_); rfl) | ((with_reducible refine rdB ?_ ?_); rfl) | (with_reducible refine rdbS ?_) | ((with_reducible refine rdBS ?_ ?_); rfl) | ((with_reducible refine stB ?_ ?_ ?_ ?_); rfl; rfl; exact one_all rfl) | ((with_reducible refine rdP _ rfl ?_ ?_); rfl) | ((with_reducible refine rdPS _ rfl ?_ ?_); rfl) | ((with_reducible refine stP _ rfl ?_ ?_ ?_ ?_); rfl; rfl; rfl) | (with_reducible refine unfE (sh34_1.eq_1 ..) ?_) | (with_reducible refine unfE (sh34_2.eq_1 ..) ?_) | (with_reducible refine unfE (sh34_8.eq_1 ..) ?_) | (with_reducible refine unfE (sh34_7.eq_1 ..) ?_) | (with_reducible refine unfE (sh34_6.eq_1 ..) ?_) | (with_reducible refine unfE (sh34_5.eq_1 ..) ?_) | (with_reducible refine unfE (sh34_4.eq_1 ..) ?_) | (with_reducible refine unfE (sh34_3.eq_1 ..) ?_) | (with_reducible refine unfE (sh34.eq_1 ..) ?_) | (with_reducible refine And.intro ?_ ?_) | (simp only [Bool.not_true, Bool.not_false, Bool.and_self, Bool.true_and, Int.reduceBEq, Int.reduceBNe, Int.reduceLT, Int.reduceLE, decide_true, decide_false, Br_true, Br_false, Gd_tt, Gd_ft, Gd_tf, Gd_ff, beq_self_eq_true, bne_self_eq_false]) | (with_reducible refine gd_split (fun _ => ?_) (fun _ => ?_)) | (with_reducible refine br_split (fun _ => ?_) (fun _ => ?_)) | (simp only [SSd, Nat.reduceAdd]))
    exact Gh.to ((b, refO vV vI sp.floor) :: F) (Gh.done hk')
  have main : ∀ (hb : ¬ putBad x), (Pv (fldV 0 (pt b1)) fun v27 => Rv none (ld1R v27) fun v28 => Cal Tryd.prog ω 59 #[pt b, v28] <| gh fun v29 => Pv (exV v29 0) fun v30 => Pv (exV v29 1) fun v31 => New (.cells #[.slice none 0 0, .int .i64 0, .int .i64 0, .int .i64 0, .bool false, .slice none 0 0] 39 (0, 0)) <| gh fun own => Sto 6 own v30 <| gh fun _ =>
      Gd v31 true (Pv (fldV 1 own) fun v33 => Rv none (ld1R v33) fun v34 => Pv (fldV 1 (pt b1)) fun v35 => Rv none (ld1R v35) fun v36 => Pv (binIV .neq v34 v36) fun v37 => Br v37 (sh34_2 ω (pt b2) (.int .i64 0) (.int .i64 0) own (fun v => Gh (K v)))
        (Draw fun S => Pv (nilV (pt b)) fun v42 => Pv (fldV 2 v42) fun v43 => Rv (some S) (ldNR 2 v43) fun v44 => Pv (fldV 2 (pt b1)) fun v45 => Rv (some S) (ldNR 2 v45) fun v46 => Cal Tryd.prog ω 60 #[v44, v46] <| gh fun v47 => Br v47 (sh34_3 ω (pt b) (pt b1) (pt b2) (.int .i64 0) (.int .i64 0) own v31 (fun v => Gh (K v))) (sh34_4 ω (pt b) (pt b1) (pt b2) (.int .i64 0) (.int .i64 0) own v31 (fun v => Gh (K v)))))
        (Draw fun S => Pv (nilV (pt b)) fun v88 => Pv (fldV 2 v88) fun v89 => Rv (some S) (ldNR 2 v89) fun v90 => Pv (fldV 2 (pt b1)) fun v91 => Rv (some S) (ldNR 2 v91) fun v92 => Cal Tryd.prog ω 60 #[v90, v92] <| gh fun v93 => Br v93 (sh34_3 ω (pt b) (pt b1) (pt b2) (.int .i64 0) (.int .i64 0) own v31 (fun v => Gh (K v))) (sh34_4 ω (pt b) (pt b1) (pt b2) (.int .i64 0) (.int .i64 0) own v31 (fun v => Gh (K v))))) I
      (rpL b b1 b2 vV vI (.slice ka x.fKey.length kc) (.slice va x.fValue.length vc) x x.fAt sp.floor F) := by
    intro hb
    have hb' := hb
    unfold putBad at hb'
    simp only [not_or, not_and, Bool.not_eq_false, Nat.not_lt, Decidable.not_not] at hb'
    have hA : putA sp x = if (itAt sp.rows x.fKey).txn ≠ 0 ∧ (itAt sp.rows x.fKey).txn ≠ x.fTxn then (z0, (itAt sp.rows x.fKey).txn, 130) else
        if (pastL (putAt sp x) (vsAt sp.rows x.fKey).getLast?).2 ≠ 0 then (z0, 0, (pastL (putAt sp x) (vsAt sp.rows x.fKey).getLast?).2) else ((pastL (putAt sp x) (vsAt sp.rows x.fKey).getLast?).1, 0, 0) := by
      unfold putA; rw [if_neg hb]
    have eight : ∀ (a : TStamp) (Z : LH), putA sp x = (a, 0, 0) → sh34_8 ω (pt b) (pt b1) (pt b2) (.int .i64 0) (.int .i64 0) (fun v => Gh (K v)) I (Z ++ rpL b b1 b2 vV vI (.slice ka x.fKey.length kc) (.slice va x.fValue.length vc) x a sp.floor F) := by
      intro a Z ha
      have e2 : putS sp x = ⟨setIt x.fKey (putIt x a) sp.rows, sp.floor⟩ := by unfold putS; rw [ha]; rfl
      rw [e2, ha] at hk
      have hset := setL_rows (it := putIt x a) (k := x.fKey) hs (txnB_ne hb'.2.1)
      unfold sh34_8
      refine rdB rfl ?_
      refine call (Cal.perm (L' := (b, refO vV vI sp.floor) :: (Z ++ ((b2, .cells #[.int .i64 0, .int .i64 0] 34 (0, 0)) :: (b1, intO (.slice ka x.fKey.length kc) (.slice va x.fValue.length vc) (xAt x a)) :: F))) (ms_perm (by ((try simp only [ms_cons, ms_app, ms_nil, ms_nil']); (try ac_rfl)))) ?_)
      refine setint_spec (x := xAt x a) h1 h2 g0 g1 (by omega) (fun I' vI' hI' h' => ?_)
      try simp only [SSd, Nat.reduceAdd]
      refine rdP [.int .i64 a.fWall, .int .i64 a.fLogic] rfl rfl ?_
      refine stB rfl rfl (one_all rfl) ?_
      refine rdB rfl ?_
      refine Gh.to ((b, refO vV vI' sp.floor) :: F) (Gh.done (hk I' vI' hI' ?_))
      rw [← hset]; exact h'
    try simp only [SSd, Nat.reduceAdd]
    refine rdb ?_
    refine call (rintent_spec (L0 := (b, refO vV vI sp.floor) :: F) (hR (List.mem_cons_self ..)) g0 (by omega) (fun o0 o1 ho0 ho1 => ?_))
    rw [ints_find hs x.fKey] at ho0 ho1 ⊢
    obtain ⟨oa, oc, rfl⟩ := Bytes.form ho0
    obtain ⟨pa, pc, rfl⟩ := Bytes.form ho1
    try simp only [SSd, Nat.reduceAdd]
    refine newI (fun b3 => ?_)
    refine stB rfl rfl (one_all rfl) ?_
    generalize hown : (itOpt sp.rows x.fKey).getD noInt = own at *
    have hz3 : ∀ a, (b3, Obj.cells (itV (.slice oa own.fKey.length oc) (.slice pa own.fValue.length pc) own).toArray 39 (0, 0)) :: rpL b b1 b2 vV vI (.slice ka x.fKey.length kc) (.slice va x.fValue.length vc) x a sp.floor F = [(b3, Obj.cells (itV (.slice oa own.fKey.length oc) (.slice pa own.fValue.length pc) own).toArray 39 (0, 0))] ++ rpL b b1 b2 vV vI (.slice ka x.fKey.length kc) (.slice va x.fValue.length vc) x a sp.floor F := fun _ => rfl
    -- behind the last version
    have six : ∀ a, a = putAt sp x → ¬ ((itAt sp.rows x.fKey).txn ≠ 0 ∧ (itAt sp.rows x.fKey).txn ≠ x.fTxn) → sh34_6 ω (pt b) (pt b1) (pt b2) (.int .i64 0) (.int .i64 0) (fun v => Gh (K v)) I ((b3, Obj.cells (itV (.slice oa own.fKey.length oc) (.slice pa own.fValue.length pc) own).toArray 39 (0, 0)) :: rpL b b1 b2 vV vI (.slice ka x.fKey.length kc) (.slice va x.fValue.length vc) x a sp.floor F) := by
      intro a ha hno
      rw [if_neg hno, ← ha] at hA
      unfold sh34_6
      try simp only [SSd, Nat.reduceAdd]
      refine rdb ?_
      refine call (rlast_spec (L0 := (b, refO vV vI sp.floor) :: F) (hR (List.mem_cons_self ..)) g0 (by omega) (fun u0 u1 hu0 hu1 => ?_))
      rw [vers_last hs x.fKey topS, last_opt hok x.fKey] at hu0 hu1 ⊢
      obtain ⟨ua, uc, rfl⟩ := Bytes.form hu0
      obtain ⟨wa, wc, rfl⟩ := Bytes.form hu1
      try simp only [SSd, Nat.reduceAdd]
      refine newI (fun b4 => ?_)
      refine stB rfl rfl (one_all rfl) ?_
      try simp only [SSd, Nat.reduceAdd]
      refine rdP [.int .i64 a.fWall, .int .i64 a.fLogic] rfl rfl ?_
      try simp only [SSd, Nat.reduceAdd]
      cases hl : (vsAt sp.rows x.fKey).getLast? with
      | none =>
        rw [hl] at hA
        simp only [Option.map_none, Option.getD_none, Option.isSome_none]
        refine rdP [.int .i64 0, .int .i64 0] rfl rfl ?_
        refine call (rbehind_spec (x := a) (y := ⟨0, 0⟩) ?_)
        try simp only [SSd, Nat.reduceAdd]
        exact eight a (_ :: [_]) hA
      | some v =>
        rw [hl] at hA
        simp only [Option.map_some, Option.getD_some, Option.isSome_some, verF]
        refine rdP [.int .i64 v.fAt.fWall, .int .i64 v.fAt.fLogic] rfl rfl ?_
        refine call (rbehind_spec (x := a) (y := v.fAt) ?_)
        try simp only [SSd, Nat.reduceAdd]
        refine br_split (fun e => ?_) (fun e => ?_)
        · have e' : ¬ bhd a v.fAt = true := by simpa using e
          have ep : pastL a (some v) = nextF v.fAt := if_neg e'
          rw [ep] at hA
          unfold sh34_7
          try simp only [SSd, Nat.reduceAdd]
          refine rdP [.int .i64 v.fAt.fWall, .int .i64 v.fAt.fLogic] rfl rfl ?_
          refine call (rnext_spec (x := v.fAt) ?_)
          try simp only [SSd, Nat.reduceAdd]
          refine newI (fun b5 => ?_)
          refine stB rfl rfl (one_all rfl) ?_
          try simp only [SSd, Nat.reduceAdd]
          refine br_split (fun e2 => ?_) (fun e2 => ?_)
          · have e2' : (nextF v.fAt).2 ≠ 0 := by simpa using e2
            rw [if_pos e2'] at hA
            have hk' := err _ _ hA e2'
            repeat' (first | (with_reducible refine drawC ?_) | (with_reducible refine drawW1 ?_) | (with_reducible refine drawW2 ?_) | (with_reducible refine keepC (by repeat (first | exact Ext.refl _ | assumption | refine Ext.trans ?_ (by assumption))) ?_) | (with_reducible refine newI (fun _ => ?_)) | first | (with_reducible refine rdb ?_) | ((with_reducible refine st1 ?_ ?_); rfl) | ((with_reducible refine rdB ?_ ?_); rfl) | (with_reducible refine rdbS ?_) | ((with_reducible refine rdBS ?_ ?_); rfl) | ((with_reducible refine stB ?_ ?_ ?_ ?_); rfl; rfl; exact one_all rfl) | ((with_reducible refine rdP _ rfl ?_ ?_); rfl) | ((with_reducible refine rdPS _ rfl ?_ ?_); rfl) | ((with_reducible refine stP _ rfl ?_ ?_ ?_ ?_); rfl; rfl; rfl) | (with_reducible refine unfE (sh34_1.eq_1 ..) ?_) | (with_reducible refine unfE (sh34_2.eq_1 ..) ?_) | (with_reducible refine unfE (sh34_8.eq_1 ..) ?_) | (with_reducible refine unfE (sh34_7.eq_1 ..) ?_) | (with_reducible refine unfE (sh34_6.eq_1 ..) ?_) | (with_reducible refine unfE (sh34_5.eq_1 ..) ?_) | (with_reducible refine unfE (sh34_4.eq_1 ..) ?_) | (with_reducible refine unfE (sh34_3.eq_1 ..) ?_) | (with_reducible refine unfE (sh34.eq_1 ..) ?_) | (with_reducible refine And.intro ?_ ?_) | (simp only [Bool.not_true, Bool.not_false, Bool.and_self, Bool.true_and, Int.reduceBEq, Int.reduceBNe, Int.reduceLT, Int.reduceLE, decide_true, decide_false, Br_true, Br_false, Gd_tt, Gd_ft, Gd_tf, Gd_ff, beq_self_eq_true, bne_self_eq_false]) | (with_reducible refine gd_split (fun _ => ?_) (fun _ => ?_)) | (with_reducible refine br_split (fun _ => ?_) (fun _ => ?_)) | (simp only [SSd, Nat.reduceAdd]))
            exact Gh.to ((b, refO vV vI sp.floor) :: F) (Gh.done hk')
          · have e2' : ¬ (nextF v.fAt).2 ≠ 0 := by simpa using e2
            rw [if_neg e2'] at hA
            refine rdB rfl ?_
            try simp only [SSd, Nat.reduceAdd]
            refine stP _ rfl rfl rfl rfl ?_
            exact eight (nextF v.fAt).1 (_ :: _ :: [_]) hA
        · have e' : bhd a v.fAt = true := by simpa using e
          have ep : pastL a (some v) = (a, 0) := if_pos e'
          rw [ep] at hA
          exact eight a (_ :: [_]) hA
    have hcase : ((itOpt sp.rows x.fKey).isSome = false ∧ (itAt sp.rows x.fKey).txn = 0) ∨ ((itOpt sp.rows x.fKey).isSome = true ∧ (itAt sp.rows x.fKey).txn ≠ 0 ∧ own.fTxn = (itAt sp.rows x.fKey).txn ∧ own.fAt = (itAt sp.rows x.fKey).ver.fAt) := by
      subst hown
      unfold itOpt itAt
      cases hr : rowOf sp.rows x.fKey with
      | none => exact .inl ⟨rfl, rfl⟩
      | some r =>
        simp only
        by_cases h0 : r.it.txn = 0
        · rw [if_pos h0]; exact .inl ⟨rfl, h0⟩
        · rw [if_neg h0]; exact .inr ⟨rfl, h0, rfl, rfl⟩
    have four : ∀ a0, a0 = (if bhd sp.floor x.fAt = true then sp.floor else x.fAt) → ¬ ((itAt sp.rows x.fKey).txn ≠ 0 ∧ (itAt sp.rows x.fKey).txn ≠ x.fTxn) → sh34_4 ω (pt b) (pt b1) (pt b2) (.int .i64 0) (.int .i64 0) (pt b3) (.bool (itOpt sp.rows x.fKey).isSome) (fun v => Gh (K v)) I ((b3, Obj.cells (itV (.slice oa own.fKey.length oc) (.slice pa own.fValue.length pc) own).toArray 39 (0, 0)) :: rpL b b1 b2 vV vI (.slice ka x.fKey.length kc) (.slice va x.fValue.length vc) x a0 sp.floor F) := by
      intro a0 ha hno
      have hat : putAt sp x = if (itAt sp.rows x.fKey).txn ≠ 0 ∧ bhd (itAt sp.rows x.fKey).ver.fAt a0 = true then (itAt sp.rows x.fKey).ver.fAt else a0 := by unfold putAt; rw [ha]
      unfold sh34_4
      try simp only [SSd, Nat.reduceAdd]
      refine rdP [.int .i64 own.fAt.fWall, .int .i64 own.fAt.fLogic] rfl rfl ?_
      try simp only [SSd, Nat.reduceAdd]
      refine rdP [.int .i64 a0.fWall, .int .i64 a0.fLogic] rfl rfl ?_
      refine call (rbehind_spec (x := own.fAt) (y := a0) ?_)
      rcases hcase with ⟨hc1, hc2⟩ | ⟨hc1, hc2, hc3, hc4⟩
      · rw [hc1]
        try simp only [SSd, Nat.reduceAdd]
        rw [if_neg (fun h => h.1 hc2)] at hat
        exact six a0 hat.symm hno
      · rw [hc1, hc4]
        try simp only [SSd, Nat.reduceAdd]
        refine br_split (fun e => ?_) (fun e => ?_)
        · rw [if_pos ⟨hc2, e⟩] at hat
          unfold sh34_5
          try simp only [SSd, Nat.reduceAdd]
          refine rdP [.int .i64 own.fAt.fWall, .int .i64 own.fAt.fLogic] rfl rfl ?_
          try simp only [SSd, Nat.reduceAdd]
          refine stP _ rfl rfl rfl rfl ?_
          exact six own.fAt (by rw [hat, hc4]) hno
        · rw [if_neg (fun h => by rw [h.2] at e; cases e)] at hat
          exact six a0 hat.symm hno
    have three : ∀ (hno : ¬ ((itAt sp.rows x.fKey).txn ≠ 0 ∧ (itAt sp.rows x.fKey).txn ≠ x.fTxn)), (Draw fun S => Pv (nilV (pt b)) fun v42 => Pv (fldV 2 v42) fun v43 => Rv (some S) (ldNR 2 v43) fun v44 => Pv (fldV 2 (pt b1)) fun v45 => Rv (some S) (ldNR 2 v45) fun v46 => Cal Tryd.prog ω 60 #[v44, v46] <| gh fun v47 =>
        Br v47 (sh34_3 ω (pt b) (pt b1) (pt b2) (.int .i64 0) (.int .i64 0) (pt b3) (.bool (itOpt sp.rows x.fKey).isSome) (fun v => Gh (K v))) (sh34_4 ω (pt b) (pt b1) (pt b2) (.int .i64 0) (.int .i64 0) (pt b3) (.bool (itOpt sp.rows x.fKey).isSome) (fun v => Gh (K v)))) I ((b3, Obj.cells (itV (.slice oa own.fKey.length oc) (.slice pa own.fValue.length pc) own).toArray 39 (0, 0)) :: rpL b b1 b2 vV vI (.slice ka x.fKey.length kc) (.slice va x.fValue.length vc) x x.fAt sp.floor F) := by
      intro hno
      refine drawC ?_
      try simp only [SSd, Nat.reduceAdd]
      refine rdPS [.int .i64 sp.floor.fWall, .int .i64 sp.floor.fLogic] rfl rfl ?_
      try simp only [SSd, Nat.reduceAdd]
      refine rdPS [.int .i64 x.fAt.fWall, .int .i64 x.fAt.fLogic] rfl rfl ?_
      refine call (rbehind_spec (x := sp.floor) (y := x.fAt) ?_)
      refine br_split (fun e => ?_) (fun e => ?_)
      · unfold sh34_3
        try simp only [SSd, Nat.reduceAdd]
        refine rdP [.int .i64 sp.floor.fWall, .int .i64 sp.floor.fLogic] rfl rfl ?_
        try simp only [SSd, Nat.reduceAdd]
        refine stP _ rfl rfl rfl rfl ?_
        exact four sp.floor (by rw [if_pos e]) hno
      · exact four x.fAt (by rw [if_neg (by rw [e]; simp)]) hno
    rcases hcase with ⟨hc1, hc2⟩ | ⟨hc1, hc2, hc3, hc4⟩
    · have th := three (fun h => h.1 hc2)
      rw [hc1] at th ⊢
      simp only [SSd, Nat.reduceAdd] at th ⊢
      exact th
    · rw [hc1]
      try simp only [SSd, Nat.reduceAdd]
      refine rdb ?_
      try simp only [SSd, Nat.reduceAdd]
      refine rdb ?_
      try simp only [SSd, Nat.reduceAdd]
      refine br_split (fun e => ?_) (fun e => ?_)
      · have e' : own.fTxn ≠ x.fTxn := by simpa [xAt] using e
        rw [if_pos ⟨hc2, by rw [← hc3]; exact e'⟩, ← hc3] at hA
        have hk' := err _ _ hA (by decide)
        unfold sh34_2
        refine drawW1 ?_
        try simp only [SSd, Nat.reduceAdd]
        refine rdbS ?_
        refine stB rfl rfl (one_all rfl) ?_
        refine keepC (Ext.refl _) ?_
        refine rdB rfl ?_
        exact Gh.to ((b, refO vV vI sp.floor) :: F) (Gh.done hk')
      · have e' : own.fTxn = x.fTxn := by simpa [xAt] using e
        have th := three (fun h => h.2 (by rw [← hc3]; exact e'))
        rw [hc1] at th
        simp only [SSd, Nat.reduceAdd] at th
        exact th
  try simp only [SSd, Nat.reduceAdd]
  refine rdb ?_
  refine call (riskey_spec g0 ?_)
  try simp only [SSd, Nat.reduceAdd]
  refine rdb ?_
  refine call (ristxn_spec ?_)
  try simp only [SSd, Nat.reduceAdd]
  refine rdP [.int .i64 x.fAt.fWall, .int .i64 x.fAt.fLogic] rfl rfl ?_
  refine call (rright_spec (x := x.fAt) ?_)
  try simp only [SSd, Nat.reduceAdd]
  refine gd_split (fun e => ?_) (fun e => bad (.inl (by simpa using e)))
  have k1 : keyOk x.fKey = true := by simpa using e
  try simp only [SSd, Nat.reduceAdd]
  refine gd_split (fun e => ?_) (fun e => bad (.inr (.inl (by simpa using e))))
  have k2 : txnB x.fTxn = true := by simpa using e
  try simp only [SSd, Nat.reduceAdd]
  refine gd_split (fun e => ?_) (fun e => bad (.inr (.inr (.inl (by simpa using e)))))
  have k3 : rightB x.fAt = true := by simpa using e
  try simp only [SSd, Nat.reduceAdd]
  refine rdb ?_
  try simp only [SSd, Nat.reduceAdd]
  refine gd_split (fun e => ?_) (fun e => bad (.inr (.inr (.inr (.inl (by simp at e; omega))))))
  have k4 : x.fValue.length ≤ 10000 := by simp at e; omega
  try simp only [SSd, Nat.reduceAdd]
  refine rdb ?_
  have tail : ∀ (hd : ¬ (x.fDel = true ∧ x.fValue ≠ [])), ¬ putBad x := by
    intro hd
    unfold putBad
    rintro (h | h | h | h | h)
    · rw [k1] at h; cases h
    · rw [k2] at h; cases h
    · rw [k3] at h; cases h
    · omega
    · exact hd h
  refine gd_split (fun e => ?_) (fun e => main (tail (fun h => e h.1)))
  try simp only [SSd, Nat.reduceAdd]
  refine rdb ?_
  try simp only [SSd, Nat.reduceAdd]
  refine br_split (fun e2 => ?_) (fun e2 => ?_)
  · exact bad (.inr (.inr (.inr (.inr ⟨e, fun h => by rw [h] at e2; simp at e2⟩))))
  · have hm := main (tail (fun h => by simp at e2; exact h.2 e2))
    simp only [SSd, Nat.reduceAdd] at hm
    exact hm
end
end Go.Proofs.YtmnnnoinfhiilaaDoor
