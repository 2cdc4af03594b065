/-
  The document's space is written: an intent is resolved.
-/
-- S3
import Derived.Test.YtmnnnoinfhiilaaDoorY
set_option linter.unusedSimpArgs false
set_option linter.unusedVariables false
namespace Go.Proofs.YtmnnnoinfhiilaaDoor
open Go.SL
set_option maxRecDepth 10000
section
variable {ω : Om} {I : Imm} {L : LH} {K : Value → M}
theorem gt_blt (a b : List UInt8) : (!(blt a b || a == b)) = blt b a := by
  cases h : blt b a with
  | true =>
    have h1 := blt_asymm h
    have h2 := blt_ne' h
    rw [h1]; simpa using h2
  | false =>
    cases h2 : blt a b with
    | true => rfl
    | false => rw [blt_total a b h2 h]; simp
abbrev rrL (b bat b3 : Nat) (vV vI o0 o1 : Value) (own : TIntent) (a fl : TStamp) (Z F : LH) : LH := Z ++ ((b3, intO o0 o1 own) :: (bat, stO a) :: (b, refO vV vI fl) :: F)
theorem rr12_spec {b bat b3 i : Nat} {vV vI o0 o1 v : Value} {own : TIntent} {a fl : TStamp} {Z XO F : LH} {V acc : List TVersion} {cells : List Value} {d : Bool} {Kn1 : (Value × Value × Value × Unit) → M} (hV : RL TVersionV 5 I [] vV V) (hi : i < V.length) (hVl : V.length ≤ 400000000)
    (hO : SlO 123 5 XO v cells acc.length) (hR : Recs (TVersionV I) 5 acc cells) (hal : acc.length ≤ 800000000)
    (hk : ∀ XO' v' cells', SlO 123 5 XO' v' cells' (acc ++ [V[i]]).length → Recs (TVersionV I) 5 (acc ++ [V[i]]) cells' → Gh (Kn1 (v', .bool d, .int .i64 ((i : Int) + 1), ())) I (rrL b bat b3 vV vI o0 o1 own a fl Z (XO' ++ F))) :
    sh35_12 ω (pt b) v (.bool d) (.int .i64 i) (fun s => Gh (Kn1 s)) (fun v => Gh (K v)) I (rrL b bat b3 vV vI o0 o1 own a fl Z (XO ++ F)) := by
  obtain ⟨q, off, c, hix, hcl, hc, hcc⟩ := RL.ix hV (i := (i : Int)) (by omega) (by omega)
  rw [geti_nat hi] at hc
  generalize V[i] = y at *
  obtain ⟨w0, w1, rfl, g0, g1⟩ := hc
  have hcv := hcc I [] (Ext.refl _) (fun _ h => h)
  unfold sh35_12
  try simp only [SSd, Nat.reduceAdd]
  refine rdb ?_
  simp only [hix, SSd, Nat.reduceAdd]
  refine rdNC hcv (Ext.refl _) rfl ?_
  refine rec_app (R := TVersionV) (X6 := XO) (x := y) rfl (by omega) hO hR ⟨w0, w1, rfl, g0, g1⟩ rfl (by
    obtain ⟨_, _, rfl⟩ := Bytes.form g0
    obtain ⟨_, _, rfl⟩ := Bytes.form g1
    exact one_all rfl) (by omega) (by omega) (fun X1 X6 v6 cells6 h6 hR6 => ?_)
  try simp only [SSd, Nat.reduceAdd]
  rw [wrap_i64 _ (by omega)]
  exact Gh.to (rrL b bat b3 vV vI o0 o1 own a fl Z (X6 ++ F)) (hk X6 v6 cells6 h6 hR6)
theorem rrV_spec {b bat b3 : Nat} {vV vI a1 o0 o1 p10 p11 : Value} {own : TIntent} {a fl : TStamp} {Z F : LH} {V : List TVersion} {k : List UInt8} (hV : RL TVersionV 5 I [] vV V) (hVl : V.length ≤ 400000000) (hB : Bytes I a1 k) (h1 : Bytes I o1 own.fValue)
    (hk : ∀ I' vV', Ext I I' → RL TVersionV 5 I' [] vV' (insL ⟨k, a, own.fDel, own.fValue⟩ false V) → K (.tuple #[.bool true, .int .i64 0]) I' ((b, refO vV' vI fl) :: F)) :
    (LoopM ((.slice none 0 0, .bool false, .int .i64 0, ()) : Value × Value × Value × Unit) fun s Kn1 => sh35_10 ω (pt b) a1 (pt bat) p10 p11 (pt b3) s.1 s.2.1 s.2.2.1 Kn1 (fun v => Gh (K v))) I (rrL b bat b3 vV vI o0 o1 own a fl Z F) := by
  obtain ⟨ka, kc, rfl⟩ := Bytes.form hB
  obtain ⟨va, vc, rfl⟩ := Bytes.form h1
  generalize hnv : (⟨k, a, own.fDel, own.fValue⟩ : TVersion) = nv at *
  have hnk : nv.fKey = k := by rw [← hnv]
  have hrec : ∀ {I' : Imm}, Ext I I' → TVersionV I' nv [.slice ka k.length kc, .int .i64 a.fWall, .int .i64 a.fLogic, .bool own.fDel, .slice va own.fValue.length vc] := fun hI => by
    rw [← hnv]; exact ⟨_, _, rfl, hB.mono hI, h1.mono hI⟩
  refine loop (fun n s I' L' => I' = I ∧ ∃ (i : Nat) (d : Bool) (XO : LH) (v : Value) (acc : List TVersion) (cells : List Value), n + i = V.length ∧ s = (v, .bool d, .int .i64 i, ()) ∧ L' = rrL b bat b3 vV vI o0 (.slice va own.fValue.length vc) own a fl Z (XO ++ F) ∧ SlO 123 5 XO v cells acc.length ∧ Recs (TVersionV I) 5 acc cells ∧ acc.length ≤ 2 * i ∧
      acc ++ insL nv d (V.drop i) = insL nv false V) V.length ⟨rfl, 0, false, [], _, [], [], rfl, rfl, rfl, SlO.none _ _, rfl, by simp, rfl⟩ ?_
  rintro n s I' L' ⟨rfl, i, d, XO, v, acc, cells, hni, rfl, rfl, hO, hR, hal, hA⟩
  unfold sh35_10
  try simp only [SSd, Nat.reduceAdd]
  refine rdb ?_
  simp only [RL.len hV, SSd, Nat.reduceAdd]
  have end8 : ∀ (XO : LH) (v : Value) (cells : List Value) (acc : List TVersion), SlO 123 5 XO v cells acc.length → Recs (TVersionV I') 5 acc cells → acc = insL nv false V → sh35_15 ω (pt b) p10 p11 v (fun v => Gh (K v)) I' (rrL b bat b3 vV vI o0 (.slice va own.fValue.length vc) own a fl Z (XO ++ F)) := by
    intro XO v cells acc hO hR he
    subst he
    obtain ⟨oa, oc, rfl⟩ := hO.form
    unfold sh35_15
    try simp only [SSd, Nat.reduceAdd]
    refine st1 rfl ?_
    refine Gh.to (XO ++ ((b, refO (.slice oa (insL nv false V).length oc) vI fl) :: F)) (SlO.freeze hO (fun I3 hI3 hSl => Gh.done ?_))
    exact hk I3 _ hI3 (RL.ofI hSl (hR.imp fun x c h => h.mono hI3))
  refine br_split (fun e => ?_) (fun e => ?_)
  · have hi : i < V.length := by simpa using e
    have hd : V.drop i = V[i] :: V.drop (i + 1) := List.drop_eq_getElem_cons hi
    rw [hd, insL, hnk] at hA
    obtain ⟨q, off, c, hix, hcl, hc, hcc⟩ := RL.ix hV (i := (i : Int)) (by omega) (by omega)
    rw [geti_nat hi] at hc
    have three : ∀ (XO : LH) (v : Value) (cells : List Value) (acc : List TVersion) (d : Bool), SlO 123 5 XO v cells acc.length → Recs (TVersionV I') 5 acc cells → acc.length ≤ 2 * i + 1 → acc ++ (V[i] :: insL nv d (V.drop (i + 1))) = insL nv false V →
        sh35_12 ω (pt b) v (.bool d) (.int .i64 i) (fun s' => Gh fun I2 L2 => ∃ m', m' < n ∧ I2 = I' ∧ ∃ (i : Nat) (d : Bool) (XO : LH) (v : Value) (acc : List TVersion) (cells : List Value), m' + i = V.length ∧ s' = (v, .bool d, .int .i64 i, ()) ∧ L2 = rrL b bat b3 vV vI o0 (.slice va own.fValue.length vc) own a fl Z (XO ++ F) ∧ SlO 123 5 XO v cells acc.length ∧ Recs (TVersionV I') 5 acc cells ∧ acc.length ≤ 2 * i ∧
      acc ++ insL nv d (V.drop i) = insL nv false V) (fun v => Gh (K v)) I' (rrL b bat b3 vV vI o0 (.slice va own.fValue.length vc) own a fl Z (XO ++ F)) := by
      intro XO v cells acc d hO hR hal hA
      refine rr12_spec hV hi hVl hO hR (by omega) (fun XO' v' cells' hO' hR' => Gh.done ⟨n - 1, by omega, rfl, i + 1, d, XO', v', _, cells', by omega, rfl, rfl, hO', hR', ?_, by rw [List.append_assoc]; exact hA⟩)
      rw [List.length_append]
      simp; omega
    generalize V[i] = y at *
    obtain ⟨w0, w1, rfl, g0, g1⟩ := hc
    have hcv := hcc I' [] (Ext.refl _) (fun _ h => h)
    refine drawC ?_
    try simp only [SSd, Nat.reduceAdd]
    cases d with
    | true =>
      simp only [Bool.not_true, Bool.false_and, Bool.true_or] at hA
      rw [if_neg (by simp)] at hA
      simp only [Bool.not_true, SSd, Nat.reduceAdd]
      exact three XO v cells acc true hO hR (by omega) hA
    | false =>
      simp only [Bool.not_false, SSd, Nat.reduceAdd]
      refine rdbS ?_
      simp only [hix, SSd, Nat.reduceAdd]
      refine rdCS (hcv 0 _ rfl) (Ext.refl _) ?_
      refine bs_I g0 (Ext.refl _) ?_
      refine bs_I hB (Ext.refl _) ?_
      simp only [sGt, gt_blt, SSd, Nat.reduceAdd]
      refine br_split (fun e2 => ?_) (fun e2 => ?_)
      · rw [e2] at hA
        simp only [Bool.not_false, Bool.and_self, Bool.or_true, if_true] at hA
        unfold sh35_11
        refine rdB rfl ?_
        try simp only [SSd, Nat.reduceAdd]
        refine rdb ?_
        try simp only [SSd, Nat.reduceAdd]
        refine rdb ?_
        try simp only [SSd, Nat.reduceAdd]
        refine rec_appG (R := TVersionV) (X6 := XO) (x := nv) rfl (by omega) hO hR (hrec (Ext.refl _)) rfl (one_all rfl) (by omega) (by omega) (fun X1 X6 v6 cells6 h6 hR6 => ?_)
        refine Gh.to (rrL b bat b3 vV vI o0 (.slice va own.fValue.length vc) own a fl Z (X6 ++ F)) (Gh.done (three X6 v6 cells6 _ true h6 hR6 (by simp; omega) ?_))
        rw [List.append_assoc]; exact hA
      · rw [e2] at hA
        simp only [Bool.not_false, Bool.and_false, Bool.or_false] at hA
        rw [if_neg (by simp)] at hA
        exact three XO v cells acc false hO hR (by omega) hA
  · have hi : i = V.length := by simp at e; omega
    subst hi
    rw [List.drop_length, insL] at hA
    unfold sh35_14
    try simp only [SSd, Nat.reduceAdd]
    cases d with
    | true =>
      simp only [Bool.not_true, SSd, Nat.reduceAdd]
      exact end8 XO v cells acc hO hR (by simpa using hA)
    | false =>
      simp only [Bool.not_false, SSd, Nat.reduceAdd]
      refine rdB rfl ?_
      try simp only [SSd, Nat.reduceAdd]
      refine rdb ?_
      try simp only [SSd, Nat.reduceAdd]
      refine rdb ?_
      try simp only [SSd, Nat.reduceAdd]
      refine rec_appG (R := TVersionV) (X6 := XO) (x := nv) rfl (by omega) hO hR (hrec (Ext.refl _)) rfl (one_all rfl) (by omega) (by omega) (fun X1 X6 v6 cells6 h6 hR6 => ?_)
      exact Gh.to (rrL b bat b3 vV vI o0 (.slice va own.fValue.length vc) own a fl Z (X6 ++ F)) (Gh.done (end8 X6 v6 cells6 _ h6 hR6 (by simpa using hA)))
theorem rrI_spec {b bat b3 : Nat} {vV vI a1 o0 o1 p10 p11 : Value} {own : TIntent} {a fl : TStamp} {yes : Bool} {Z F : LH} {V : List TVersion} {Is : List TIntent} {k : List UInt8} (hV : RL TVersionV 5 I [] vV V) (hI : RL TIntentV 6 I [] vI Is) (hVl : V.length ≤ 400000000) (hIl : Is.length ≤ 400000000) (hB : Bytes I a1 k) (h1 : Bytes I o1 own.fValue)
    (hk : ∀ I' vV' vI', Ext I I' → RL TVersionV 5 I' [] vV' (if yes = true then insL ⟨k, a, own.fDel, own.fValue⟩ false V else V) → RL TIntentV 6 I' [] vI' (Is.filter fun x => x.fKey != k) → K (.tuple #[.bool true, .int .i64 0]) I' ((b, refO vV' vI' fl) :: F)) :
    (LoopM ((.slice none 0 0, .int .i64 0, ()) : Value × Value × Unit) fun s Kn0 => sh35_4 ω (pt b) a1 (.bool yes) (pt bat) p10 p11 (pt b3) s.1 s.2.1 Kn0 (fun v => Gh (K v))) I (rrL b bat b3 vV vI o0 o1 own a fl Z F) := by
  refine loop (fun n s I' L' => I' = I ∧ ∃ (i : Nat) (XO : LH) (v : Value) (cells : List Value), n + i = Is.length ∧ s = (v, .int .i64 i, ()) ∧ L' = rrL b bat b3 vV vI o0 o1 own a fl Z (XO ++ F) ∧ SlO 39 6 XO v cells ((Is.take i).filter fun x => x.fKey != k).length ∧ Recs (TIntentV I) 6 ((Is.take i).filter fun x => x.fKey != k) cells) Is.length ⟨rfl, 0, [], _, [], rfl, rfl, rfl, SlO.none _ _, rfl⟩ ?_
  rintro n s I' L' ⟨rfl, i, XO, v, cells, hni, rfl, rfl, hO, hR⟩
  unfold sh35_4
  try simp only [SSd, Nat.reduceAdd]
  refine rdb ?_
  simp only [RL.len hI, SSd, Nat.reduceAdd]
  refine br_split (fun e => ?_) (fun e => ?_)
  · have hi : i < Is.length := by simpa using e
    obtain ⟨q, off, c, hix, hcl, hc, hcc⟩ := RL.ix hI (i := (i : Int)) (by omega) (by omega)
    rw [geti_nat hi] at hc
    have hfl : ((Is.take i).filter fun x => x.fKey != k).length ≤ i := by
      have := List.length_filter_le (fun x : TIntent => x.fKey != k) (Is.take i)
      rw [List.length_take] at this; omega
    have hsucc : (Is.take (i + 1)).filter (fun x => x.fKey != k) = (Is.take i).filter (fun x => x.fKey != k) ++ (if (Is[i].fKey != k) = true then [Is[i]] else []) := by
      rw [take_snoc hi, List.filter_append, List.filter_cons]
      rfl
    generalize Is[i] = y at *
    obtain ⟨w0, w1, rfl, g0, g1⟩ := hc
    have hcv := hcc I' [] (Ext.refl _) (fun _ h => h)
    refine drawC ?_
    try simp only [SSd, Nat.reduceAdd]
    refine rdbS ?_
    simp only [hix, SSd, Nat.reduceAdd]
    refine rdCS (hcv 0 _ rfl) (Ext.refl _) ?_
    refine bs_I g0 (Ext.refl _) ?_
    refine bs_I hB (Ext.refl _) ?_
    simp only [sNe, SSd, Nat.reduceAdd]
    refine br_split (fun e2 => ?_) (fun e2 => ?_)
    · rw [if_pos (by simpa using e2)] at hsucc
      unfold sh35_5
      try simp only [SSd, Nat.reduceAdd]
      refine rdb ?_
      simp only [hix, SSd, Nat.reduceAdd]
      refine rdNC hcv (Ext.refl _) rfl ?_
      refine rec_app (R := TIntentV) (X6 := XO) (x := y) rfl (by omega) hO hR ⟨w0, w1, rfl, g0, g1⟩ rfl (by
        obtain ⟨_, _, rfl⟩ := Bytes.form g0
        obtain ⟨_, _, rfl⟩ := Bytes.form g1
        exact one_all rfl) (by omega) (by omega) (fun X1 X6 v6 cells6 h6 hR6 => ?_)
      unfold sh35_7
      try simp only [SSd, Nat.reduceAdd]
      rw [wrap_i64 _ (by omega)]
      rw [← hsucc] at h6 hR6
      exact Gh.to (rrL b bat b3 vV vI o0 o1 own a fl Z (X6 ++ F)) (Gh.done ⟨n - 1, by omega, rfl, i + 1, X6, v6, cells6, by omega, rfl, rfl, h6, hR6⟩)
    · rw [if_neg (by simpa using e2), List.append_nil] at hsucc
      unfold sh35_7
      try simp only [SSd, Nat.reduceAdd]
      rw [wrap_i64 _ (by omega)]
      rw [← hsucc] at hO hR
      exact Gh.done ⟨n - 1, by omega, rfl, i + 1, XO, v, cells, by omega, rfl, rfl, hO, hR⟩
  · have hi : i = Is.length := by simp at e; omega
    subst hi
    rw [List.take_length] at hO hR
    obtain ⟨oa, oc, rfl⟩ := hO.form
    unfold sh35_9
    try simp only [SSd, Nat.reduceAdd]
    refine st1G rfl ?_
    refine Gh.perm (L' := XO ++ rrL b bat b3 vV (.slice oa (Is.filter fun x => x.fKey != k).length oc) o0 o1 own a fl Z F) (ms_perm (by ((try simp only [ms_cons, ms_app, ms_nil, ms_nil']); (try ac_rfl)))) (SlO.freeze hO (fun I3 hI3 hSl => Gh.done ?_))
    have hIn : RL TIntentV 6 I3 [] (.slice oa (Is.filter fun x => x.fKey != k).length oc) (Is.filter fun x => x.fKey != k) := RL.ofI hSl (hR.imp fun x c h => h.mono hI3)
    have hV3 : RL TVersionV 5 I3 [] vV V := hV.mono (fun x c h => h.mono hI3) hI3 (fun _ h => h)
    cases yes with
    | false =>
      simp only [Bool.not_false, SSd, Nat.reduceAdd]
      exact Gh.to ((b, refO vV (.slice oa (Is.filter fun x => x.fKey != k).length oc) fl) :: F) (Gh.done (hk I3 vV _ hI3 hV3 hIn))
    | true =>
      simp only [Bool.not_true, SSd, Nat.reduceAdd]
      exact rrV_spec hV3 hVl (hB.mono hI3) (h1.mono hI3) (fun I4 vV' hI4 h4 => hk I4 vV' _ (hI3.trans hI4) h4 (hIn.mono (fun x c h => h.mono hI4) hI4 (fun _ h => h)))
theorem rr16 : @sh35_16 = @sh35_4 := rfl
theorem rr20 : @sh35_20 = @sh35_4 := rfl
theorem rresolve_spec {b : Nat} {vV vI a1 : Value} {k : List UInt8} {txn : Int} {yes : Bool} {a : TStamp} {F : LH} {sp : Sp} (h1 : RL TVersionV 5 I [] vV (versOf sp.rows)) (h2 : RL TIntentV 6 I [] vI (intsOf sp.rows)) (hok : SpOk sp) (hlen : sp.rows.length ≤ 100000000) (hn : versN sp.rows ≤ 100000000) (hB : Bytes I a1 k)
    (hk : ∀ I' vV' vI', Ext I I' → RL TVersionV 5 I' [] vV' (versOf (resS sp k txn yes a).rows) → RL TIntentV 6 I' [] vI' (intsOf (resS sp k txn yes a).rows) → K (.tuple #[.bool (resA sp k txn yes a).1, .int .i64 (resA sp k txn yes a).2]) I' ((b, refO vV' vI' sp.floor) :: F)) :
    Cal Tryd.prog ω 35 #[pt b, a1, .int .i64 txn, .bool yes, sv a] K I ((b, refO vV vI sp.floor) :: F) := by
  have hs := hok.rise
  have hVl : (versOf sp.rows).length ≤ 100000000 := by rw [versN_len]; exact hn
  have hIl : (intsOf sp.rows).length ≤ 100000000 := by
    have := List.length_filter_le (fun r : Row => r.it.txn != 0) sp.rows
    simp [intsOf]; omega
  have hR : ∀ {L' : LH}, (b, refO vV vI sp.floor) ∈ L' → RefF I L' b vV vI (versOf sp.rows) (intsOf sp.rows) sp.floor := fun hm => refF hm h1 h2
  have same : ∀ x, resA sp k txn yes a = (false, x) → K (.tuple #[.bool false, .int .i64 x]) I ((b, refO vV vI sp.floor) :: F) := by
    intro x e
    have e2 : resS sp k txn yes a = sp := by unfold resS; rw [e]; rfl
    rw [e2] at hk
    have hk' := hk I vV vI (Ext.refl _) h1 h2
    rw [e] at hk'
    exact hk'
  by_cases hbad : keyOk k = false ∨ txnB txn = false ∨ (yes = true ∧ rightB a = false)
  · have hk' := same 1 (by unfold resA; rw [if_pos hbad])
    refine cal35 ?_
    unfold sh35
    refine newI (fun bat => ?_)
    refine call (riskey_spec hB ?_)
    refine call (ristxn_spec ?_)
    refine rdB rfl ?_
    refine call (rright_spec (x := a) ?_)
    try simp only [SSd, Nat.reduceAdd]
    refine gd_split (fun e => ?_) (fun e => Gh.to ((b, refO vV vI sp.floor) :: F) (Gh.done hk'))
    try simp only [SSd, Nat.reduceAdd]
    refine gd_split (fun e2 => ?_) (fun e2 => Gh.to ((b, refO vV vI sp.floor) :: F) (Gh.done hk'))
    have hy : yes = true ∧ rightB a = false := by
      rcases hbad with h | h | h
      · rw [h] at e; simp at e
      · rw [h] at e2; simp at e2
      · exact h
    simp only [hy.1, hy.2, Bool.not_false, SSd, Nat.reduceAdd]
    exact Gh.to ((b, refO vV vI sp.floor) :: F) (Gh.done hk')
  have hA : resA sp k txn yes a = if (itAt sp.rows k).txn ≠ txn then (false, 0) else if yes = true ∧ (bhd (itAt sp.rows k).ver.fAt a = true ∨ earlyB a (vsAt sp.rows k).getLast? = true) then (false, 1) else (true, 0) := by unfold resA; rw [if_neg hbad]
  simp only [not_or, Bool.not_eq_false, not_and] at hbad
  obtain ⟨k1, k2, k3⟩ := hbad
  have kt := txnB_ne k2
  -- what is left to do
  have work : ∀ (bat : Nat), (Cal Tryd.prog ω 59 #[pt b, a1] <| gh fun v9 => Pv (exV v9 0) fun v10 => Pv (exV v9 1) fun v11 => New (.cells #[.slice none 0 0, .int .i64 0, .int .i64 0, .int .i64 0, .bool false, .slice none 0 0] 39 (0, 0)) <| gh fun x12 => Sto 6 x12 v10 <| gh fun _ => Pv (unV .not v11) fun v13 => Gd v13 false
      (Pv (fldV 1 x12) fun v14 => Rv none (ld1R v14) fun v15 => Pv (binIV .neq v15 (.int .i64 txn)) fun v16 => Br v16 (Gh (K (.tuple #[.bool false, .int .i64 0])))
        (Pv (fldV 2 x12) fun v17 => Rv none (ldNR 2 v17) fun v18 => Rv none (ldNR 2 (pt bat)) fun v19 => Cal Tryd.prog ω 60 #[v18, v19] <| gh fun v20 => Cal Tryd.prog ω 61 #[pt b, a1] <| gh fun v21 => Pv (exV v21 0) fun v22 => Pv (exV v21 1) fun v23 => New (.cells #[.slice none 0 0, .int .i64 0, .int .i64 0, .bool false, .slice none 0 0] 123 (0, 0)) <| gh fun v24 => Sto 5 v24 v22 <| gh fun _ =>
          Rv none (ldNR 2 (pt bat)) fun v25 => Pv (fldV 1 v24) fun v26 => Rv none (ldNR 2 v26) fun v27 => Cal Tryd.prog ω 60 #[v25, v27] <| gh fun v28 => Gd (.bool yes) true
            (Gd v20 false (Gd v23 true (Pv (unV .not v28) fun v29 => Br v29 (Gh (K (.tuple #[.bool false, .int .i64 1]))) (LoopM ((.slice none 0 0, .int .i64 0, ()) : Value × Value × Unit) fun s Kn0 => sh35_4 ω (pt b) a1 (.bool yes) (pt bat) (.bool false) (.int .i64 0) x12 s.1 s.2.1 Kn0 (fun v => Gh (K v))))
              (LoopM ((.slice none 0 0, .int .i64 0, ()) : Value × Value × Unit) fun s Kn0 => sh35_4 ω (pt b) a1 (.bool yes) (pt bat) (.bool false) (.int .i64 0) x12 s.1 s.2.1 Kn0 (fun v => Gh (K v))))
              (Gh (K (.tuple #[.bool false, .int .i64 1]))))
            (LoopM ((.slice none 0 0, .int .i64 0, ()) : Value × Value × Unit) fun s Kn0 => sh35_4 ω (pt b) a1 (.bool yes) (pt bat) (.bool false) (.int .i64 0) x12 s.1 s.2.1 Kn0 (fun v => Gh (K v)))))
      (Gh (K (.tuple #[.bool false, .int .i64 0])))) I ((bat, stO a) :: (b, refO vV vI sp.floor) :: F) := by
    intro bat
    refine call (rintent_spec (L0 := (b, refO vV vI sp.floor) :: F) (hR (List.mem_cons_self ..)) hB (by omega) (fun o0 o1 ho0 ho1 => ?_))
    rw [ints_find hs k] at ho0 ho1 ⊢
    obtain ⟨oa, oc, rfl⟩ := Bytes.form ho0
    obtain ⟨pa, pc, rfl⟩ := Bytes.form ho1
    try simp only [SSd, Nat.reduceAdd]
    refine newI (fun b3 => ?_)
    refine stB rfl rfl (one_all rfl) ?_
    have gone : ∀ {x : Int} {L' : LH} [SubP ((b, refO vV vI sp.floor) :: F) L'], resA sp k txn yes a = (false, x) → Gh (K (.tuple #[.bool false, .int .i64 x])) I L' := fun h => Gh.to ((b, refO vV vI sp.floor) :: F) (Gh.done (same _ h))
    cases ho : itOpt sp.rows k with
    | none =>
      have h0 : (itAt sp.rows k).txn = 0 := by
        unfold itOpt at ho
        unfold itAt
        cases hr : rowOf sp.rows k with
        | none => rfl
        | some r =>
          rw [hr] at ho
          simp only at ho ⊢
          by_cases h0 : r.it.txn = 0
          · exact h0
          · rw [if_neg h0] at ho; cases ho
      rw [if_pos (by rw [h0]; exact fun h => kt h.symm)] at hA
      simp only [Option.isSome_none, Bool.not_false, SSd, Nat.reduceAdd]
      exact gone hA
    | some own =>
      have hr : ∃ r, rowOf sp.rows k = some r ∧ own = itF r ∧ r.it.txn ≠ 0 := by
        unfold itOpt at ho
        cases hr : rowOf sp.rows k with
        | none => rw [hr] at ho; cases ho
        | some r =>
          rw [hr] at ho
          simp only at ho
          by_cases h0 : r.it.txn = 0
          · rw [if_pos h0] at ho; cases ho
          · rw [if_neg h0] at ho; exact ⟨r, rfl, (Option.some.inj ho).symm, h0⟩
      obtain ⟨r, hr, rfl, h0⟩ := hr
      have eit : itAt sp.rows k = r.it := by unfold itAt; rw [hr]
      have evs : vsAt sp.rows k = r.vs := by unfold vsAt; rw [hr]
      rw [eit, evs] at hA
      rw [ho] at ho1
      simp only [Option.isSome_some, Option.getD_some, Bool.not_true, SSd, Nat.reduceAdd]
      refine rdb ?_
      try simp only [SSd, Nat.reduceAdd]
      refine br_split (fun e => ?_) (fun e => ?_)
      · have e' : r.it.txn ≠ txn := by simpa [itF] using e
        rw [if_pos e'] at hA
        exact gone hA
      have e' : ¬ r.it.txn ≠ txn := by simpa [itF] using e
      rw [if_neg e'] at hA
      try simp only [SSd, Nat.reduceAdd]
      refine rdP [.int .i64 r.it.ver.fAt.fWall, .int .i64 r.it.ver.fAt.fLogic] rfl rfl ?_
      refine rdB rfl ?_
      refine call (rbehind_spec (x := r.it.ver.fAt) (y := a) ?_)
      refine call (rlast_spec (L0 := (b, refO vV vI sp.floor) :: F) (hR (List.mem_cons_self ..)) hB (by omega) (fun u0 u1 hu0 hu1 => ?_))
      rw [vers_last hs k topS, last_opt hok k, evs] at hu0 hu1 ⊢
      obtain ⟨ua, uc, rfl⟩ := Bytes.form hu0
      obtain ⟨wa, wc, rfl⟩ := Bytes.form hu1
      try simp only [SSd, Nat.reduceAdd]
      refine newI (fun b4 => ?_)
      refine stB rfl rfl (one_all rfl) ?_
      refine rdB rfl ?_
      try simp only [SSd, Nat.reduceAdd]
      have fin : resA sp k txn yes a = (true, 0) → ∀ Z : LH, (LoopM ((.slice none 0 0, .int .i64 0, ()) : Value × Value × Unit) fun s Kn0 => sh35_4 ω (pt b) a1 (.bool yes) (pt bat) (.bool false) (.int .i64 0) (.pointer (some ⟨b3, 0, none⟩)) s.1 s.2.1 Kn0 (fun v => Gh (K v))) I (rrL b bat b3 vV vI (.slice oa ((itOpt sp.rows k).getD noInt).fKey.length oc) (.slice pa (itF r).fValue.length pc) (itF r) a sp.floor Z F) := by
        intro hA' Z
        have hsp : resS sp k txn yes a = ⟨tidyR (updR k (resR yes a) sp.rows), sp.floor⟩ := by unfold resS; rw [hA']; rfl
        rw [hA', hsp] at hk
        obtain ⟨A, B, e0, hkr, hm⟩ := rowOf_split hs hr
        refine rrI_spec h1 h2 (by omega) (by omega) hB ho1 (fun I' vV' vI' hI' g1 g2 => hk I' vV' vI' hI' ?_ ?_)
        · simp only [e0] at g1 ⊢
          cases yes with
          | true => rw [res_vers hm hkr]; exact g1
          | false => rw [res_vers0 hm hkr]; exact g1
        · simp only [e0] at g2 ⊢
          rw [res_ints hm hkr]; exact g2
      rw [ho] at fin
      cases hl : r.vs.getLast? with
      | none =>
        simp only [Option.map_none, Option.getD_none, Option.isSome_none]
        refine rdP [.int .i64 0, .int .i64 0] rfl rfl ?_
        refine call (rbehind_spec (x := a) (y := ⟨0, 0⟩) ?_)
        rw [hl] at hA
        cases hy : yes with
        | false =>
          rw [hy] at fin hA
          try simp only [SSd, Nat.reduceAdd]
          exact fin (by rw [hA]; rfl) [_]
        | true =>
          rw [hy] at fin hA
          try simp only [SSd, Nat.reduceAdd]
          cases hb : bhd r.it.ver.fAt a with
          | true =>
            rw [if_pos ⟨rfl, .inl hb⟩] at hA
            try simp only [SSd, Nat.reduceAdd]
            rw [← hy] at hA
            exact gone hA
          | false =>
            try simp only [SSd, Nat.reduceAdd]
            exact fin (by rw [hA, hb]; rfl) [_]
      | some v =>
        simp only [Option.map_some, Option.getD_some, Option.isSome_some, verF]
        refine rdP [.int .i64 v.fAt.fWall, .int .i64 v.fAt.fLogic] rfl rfl ?_
        refine call (rbehind_spec (x := a) (y := v.fAt) ?_)
        rw [hl] at hA
        cases hy : yes with
        | false =>
          rw [hy] at fin hA
          try simp only [SSd, Nat.reduceAdd]
          exact fin (by rw [hA]; rfl) [_]
        | true =>
          rw [hy] at fin hA
          try simp only [SSd, Nat.reduceAdd]
          cases hb : bhd r.it.ver.fAt a with
          | true =>
            rw [if_pos ⟨rfl, .inl hb⟩] at hA
            try simp only [SSd, Nat.reduceAdd]
            rw [← hy] at hA
            exact gone hA
          | false =>
            try simp only [SSd, Nat.reduceAdd]
            cases hb2 : bhd a v.fAt with
            | true =>
              simp only [Bool.not_true, SSd, Nat.reduceAdd]
              exact fin (by rw [hA, hb]; simp [earlyB, hb2]) [_]
            | false =>
              rw [if_pos ⟨rfl, .inr (by simp [earlyB, hb2])⟩] at hA
              simp only [Bool.not_false, SSd, Nat.reduceAdd]
              rw [← hy] at hA
              exact gone hA
  refine cal35 ?_
  unfold sh35
  refine newI (fun bat => ?_)
  refine call (riskey_spec hB ?_)
  refine call (ristxn_spec ?_)
  refine rdB rfl ?_
  refine call (rright_spec (x := a) ?_)
  have w := work bat
  cases yes with
  | true =>
    simp only [k1, k2, k3 rfl, Bool.not_true, SSd, Nat.reduceAdd] at w ⊢
    rw [rr16]
    exact w
  | false =>
    simp only [k1, k2, Bool.not_true, SSd, Nat.reduceAdd] at w ⊢
    rw [rr20]
    exact w
/-! ### Collecting -/
theorem rc3_spec {b bb b3 i : Nat} {vV vI v w0 w1 : Value} {fl below : TStamp} {XO F : LH} {V : List TVersion} {cells : List Value} {Kn0 : (Value × Value × Unit) → M} (hV : RL TVersionV 5 I [] vV V) (hi : i < V.length) (hVl : V.length ≤ 400000000)
    (hO : SlO 123 5 XO v cells ((V.take i).filter (keepV V fl)).length) (hR : Recs (TVersionV I) 5 ((V.take i).filter (keepV V fl)) cells)
    (hk : ∀ XO' v' cells', SlO 123 5 XO' v' cells' ((V.take (i + 1)).filter (keepV V fl)).length → Recs (TVersionV I) 5 ((V.take (i + 1)).filter (keepV V fl)) cells' → Gh (Kn0 (v', .int .i64 ((i : Int) + 1), ())) I ((bb, stO below) :: (b, refO vV vI fl) :: (XO' ++ F))) :
    sh40_3 ω (pt b) v (.int .i64 i) (pt b3) (.bool (lastV V V[i].fKey fl).isSome) (fun s => Gh (Kn0 s)) (fun v => Gh (K v)) I ((b3, .cells (veV w0 w1 ((lastV V V[i].fKey fl).getD noVer)).toArray 123 (0, 0)) :: (bb, stO below) :: (b, refO vV vI fl) :: (XO ++ F)) := by
  obtain ⟨q, off, c, hix, hcl, hc, hcc⟩ := RL.ix hV (i := (i : Int)) (by omega) (by omega)
  rw [geti_nat hi] at hc
  have hfl : ((V.take i).filter (keepV V fl)).length ≤ i := by
    have := List.length_filter_le (keepV V fl) (V.take i)
    rw [List.length_take] at this; omega
  have hsucc : (V.take (i + 1)).filter (keepV V fl) = (V.take i).filter (keepV V fl) ++ (if keepV V fl V[i] = true then [V[i]] else []) := by
    rw [take_snoc hi, List.filter_append, List.filter_cons]
    rfl
  have hkp : keepV V fl V[i] = match lastV V V[i].fKey fl with
    | none => true
    | some k => !(bhd k.fAt V[i].fAt || (k.fAt.fWall == V[i].fAt.fWall && k.fAt.fLogic == V[i].fAt.fLogic) && k.fDel) := rfl
  generalize V[i] = y at *
  obtain ⟨u0, u1, rfl, g0, g1⟩ := hc
  have hcv := hcc I [] (Ext.refl _) (fun _ h => h)
  have hst : Cells I [] q (off + 1) [.int .i64 y.fAt.fWall, .int .i64 y.fAt.fLogic] := by simpa using hcv.sub (k := 1) (m := 2)
  have skip : ∀ (h : keepV V fl y = false), sh40_5 ω v (.int .i64 i) (fun s => Gh (Kn0 s)) (fun v => Gh (K v)) I ((b3, .cells (veV w0 w1 ((lastV V y.fKey fl).getD noVer)).toArray 123 (0, 0)) :: (bb, stO below) :: (b, refO vV vI fl) :: (XO ++ F)) := by
    intro h
    rw [if_neg (by rw [h]; simp), List.append_nil] at hsucc
    rw [hsucc] at hk
    unfold sh40_5
    try simp only [SSd, Nat.reduceAdd]
    rw [wrap_i64 _ (by omega)]
    exact Gh.to ((bb, stO below) :: (b, refO vV vI fl) :: (XO ++ F)) (hk XO v cells hO hR)
  have take : ∀ (h : keepV V fl y = true), (Pv (nilV (pt b)) fun v39 => Pv (fldV 0 v39) fun v40 => Rv none (ld1R v40) fun v41 => Pv (ixV 5 v41 (.int .i64 i)) fun v42 => Rv none (ldNR 5 v42) fun v43 => BldS 123 5 #[.slice none 0 0, .int .i64 0, .int .i64 0, .bool false, .slice none 0 0] 1 [(0, v43)] <| gh fun v44 =>
      App 123 5 72 #[.slice none 0 0, .int .i64 0, .int .i64 0, .bool false, .slice none 0 0] v v44 <| gh fun v45 => sh40_5 ω v45 (.int .i64 i) (fun s => Gh (Kn0 s)) (fun v => Gh (K v))) I ((b3, .cells (veV w0 w1 ((lastV V y.fKey fl).getD noVer)).toArray 123 (0, 0)) :: (bb, stO below) :: (b, refO vV vI fl) :: (XO ++ F)) := by
    intro h
    rw [if_pos h] at hsucc
    rw [hsucc] at hk
    try simp only [SSd, Nat.reduceAdd]
    refine rdb ?_
    simp only [hix, SSd, Nat.reduceAdd]
    refine rdNC hcv (Ext.refl _) rfl ?_
    refine rec_app (R := TVersionV) (X6 := XO) (x := y) rfl (by omega) hO hR ⟨u0, u1, rfl, g0, g1⟩ rfl (by
      obtain ⟨_, _, rfl⟩ := Bytes.form g0
      obtain ⟨_, _, rfl⟩ := Bytes.form g1
      exact one_all rfl) (by omega) (by omega) (fun X1 X6 v6 cells6 h6 hR6 => ?_)
    unfold sh40_5
    try simp only [SSd, Nat.reduceAdd]
    rw [wrap_i64 _ (by omega)]
    exact Gh.to ((bb, stO below) :: (b, refO vV vI fl) :: (X6 ++ F)) (hk X6 v6 cells6 h6 hR6)
  unfold sh40_3
  generalize hlv : lastV V y.fKey fl = lv at *
  refine drawC ?_
  try simp only [SSd, Nat.reduceAdd]
  refine rdPS [.int .i64 (lv.getD noVer).fAt.fWall, .int .i64 (lv.getD noVer).fAt.fLogic] rfl rfl ?_
  try simp only [SSd, Nat.reduceAdd]
  refine rdbS ?_
  simp only [hix, SSd, Nat.reduceAdd]
  refine rdNCS hst (Ext.refl _) rfl ?_
  refine call (rbehind_spec (x := (lv.getD noVer).fAt) (y := y.fAt) ?_)
  refine drawC ?_
  try simp only [SSd, Nat.reduceAdd]
  refine rdPS [.int .i64 (lv.getD noVer).fAt.fWall, .int .i64 (lv.getD noVer).fAt.fLogic] rfl rfl ?_
  try simp only [SSd, Nat.reduceAdd]
  refine rdbS ?_
  simp only [hix, SSd, Nat.reduceAdd]
  refine rdNCS hst (Ext.refl _) rfl ?_
  try simp only [SSd, Nat.reduceAdd]
  cases lv with
  | none =>
    have t := take hkp
    simp only [Option.isSome_none, SSd, Nat.reduceAdd] at t ⊢
    exact t
  | some kk =>
    simp only at hkp
    simp only [Option.isSome_some, Option.getD_some, SSd, Nat.reduceAdd] at skip take ⊢
    refine gd_split (fun c1 => ?_) (fun c1 => skip (by rw [hkp]; have : bhd kk.fAt y.fAt = true := by simpa using c1
                                                       rw [this]; rfl))
    refine gd_split (fun c2 => ?_) (fun c2 => take (by rw [hkp, c1, Bool.eq_false_iff.2 c2]; rfl))
    refine rdb ?_
    refine br_split (fun c3 => skip (by rw [hkp, c1, c2, c3]; rfl)) (fun c3 => take (by rw [hkp, c1, c2, c3]; rfl))
theorem rc1_spec {b bb : Nat} {vV vI : Value} {fl below : TStamp} {F : LH} {V : List TVersion} {Is : List TIntent} (hV : RL TVersionV 5 I [] vV V) (hI : RL TIntentV 6 I [] vI Is) (hVl : V.length ≤ 400000000)
    (hk : ∀ I' vV', Ext I I' → RL TVersionV 5 I' [] vV' (V.filter (keepV V fl)) → K (.tuple #[.int .i64 ((V.length : Int) - (V.filter (keepV V fl)).length), .int .i64 0]) I' ((b, refO vV' vI fl) :: F)) :
    sh40_1 ω (pt b) (.int .i64 0) (.int .i64 0) (fun v => Gh (K v)) I ((bb, stO below) :: (b, refO vV vI fl) :: F) := by
  unfold sh40_1
  refine loop (fun n s I' L' => I' = I ∧ ∃ (i : Nat) (XO : LH) (v : Value) (cells : List Value), n + i = V.length ∧ s = (v, .int .i64 i, ()) ∧ L' = (bb, stO below) :: (b, refO vV vI fl) :: (XO ++ F) ∧ SlO 123 5 XO v cells ((V.take i).filter (keepV V fl)).length ∧ Recs (TVersionV I) 5 ((V.take i).filter (keepV V fl)) cells) V.length ⟨rfl, 0, [], _, [], rfl, rfl, rfl, SlO.none _ _, rfl⟩ ?_
  rintro n s I' L' ⟨rfl, i, XO, v, cells, hni, rfl, rfl, hO, hR⟩
  unfold sh40_2
  try simp only [SSd, Nat.reduceAdd]
  refine rdb ?_
  simp only [RL.len hV, SSd, Nat.reduceAdd]
  refine br_split (fun e => ?_) (fun e => ?_)
  · have hi : i < V.length := by simpa using e
    obtain ⟨q, off, c, hix, hcl, hc, hcc⟩ := RL.ix hV (i := (i : Int)) (by omega) (by omega)
    rw [geti_nat hi] at hc
    obtain ⟨u0, u1, rfl, g0, g1⟩ := hc
    have hcv := hcc I' [] (Ext.refl _) (fun _ h => h)
    refine drawC ?_
    try simp only [SSd, Nat.reduceAdd]
    refine rdbS ?_
    simp only [hix, SSd, Nat.reduceAdd]
    refine rdCS (hcv 0 _ rfl) (Ext.refl _) ?_
    try simp only [SSd, Nat.reduceAdd]
    refine rdPS [.int .i64 fl.fWall, .int .i64 fl.fLogic] rfl rfl ?_
    refine And.intro ?_ ?_
    · refine call (rversion_spec (L0 := (b, refO vV vI fl) :: F) (m := fl) (refF (List.mem_cons_self ..) hV hI) g0 (by omega) (fun w0 w1 hw0 hw1 => ?_))
      obtain ⟨wa, wc, rfl⟩ := Bytes.form hw0
      obtain ⟨xa, xc, rfl⟩ := Bytes.form hw1
      try simp only [SSd, Nat.reduceAdd]
      refine newI (fun b3 => keepC (Ext.refl _) ?_)
      refine stB rfl rfl (one_all rfl) ?_
      exact rc3_spec hV hi hVl hO hR (fun XO' v' cells' h1 h2 => Gh.done ⟨n - 1, by omega, rfl, i + 1, XO', v', cells', by omega, rfl, rfl, h1, h2⟩)
    · refine newI (fun b3 => keepC (Ext.refl _) ?_)
      refine call (rversion_spec (L0 := (b, refO vV vI fl) :: F) (m := fl) (refF (List.mem_cons_self ..) hV hI) g0 (by omega) (fun w0 w1 hw0 hw1 => ?_))
      obtain ⟨wa, wc, rfl⟩ := Bytes.form hw0
      obtain ⟨xa, xc, rfl⟩ := Bytes.form hw1
      try simp only [SSd, Nat.reduceAdd]
      refine stB rfl rfl (one_all rfl) ?_
      exact rc3_spec hV hi hVl hO hR (fun XO' v' cells' h1 h2 => Gh.done ⟨n - 1, by omega, rfl, i + 1, XO', v', cells', by omega, rfl, rfl, h1, h2⟩)
  · have hi : i = V.length := by simp at e; omega
    subst hi
    rw [List.take_length] at hO hR
    have hfl := List.length_filter_le (keepV V fl) V
    obtain ⟨oa, oc, rfl⟩ := hO.form
    unfold sh40_7
    try simp only [SSd, Nat.reduceAdd]
    refine rdb ?_
    simp only [RL.len hV, SSd, Nat.reduceAdd]
    rw [wrap_i64 _ (by omega)]
    refine st1 rfl ?_
    refine Gh.to (XO ++ ((b, refO (.slice oa (V.filter (keepV V fl)).length oc) vI fl) :: F)) (SlO.freeze hO (fun I3 hI3 hSl => Gh.done ?_))
    exact hk I3 _ hI3 (RL.ofI hSl (hR.imp fun x c h => h.mono hI3))
theorem rcollect_spec {b : Nat} {vV vI : Value} {below : TStamp} {F : LH} {sp : Sp} (h1 : RL TVersionV 5 I [] vV (versOf sp.rows)) (h2 : RL TIntentV 6 I [] vI (intsOf sp.rows)) (hok : SpOk sp) (hn : versN sp.rows ≤ 100000000)
    (hk : ∀ I' vV', Ext I I' → RL TVersionV 5 I' [] vV' (versOf (colS sp below).rows) → RL TIntentV 6 I' [] vI (intsOf (colS sp below).rows) → K (.tuple #[.int .i64 (colA sp below).1, .int .i64 (colA sp below).2]) I' ((b, refO vV' vI (colS sp below).floor) :: F)) :
    Cal Tryd.prog ω 40 #[pt b, sv below] K I ((b, refO vV vI sp.floor) :: F) := by
  have hVl : (versOf sp.rows).length ≤ 100000000 := by rw [versN_len]; exact hn
  refine cal40 ?_
  unfold sh40
  refine newI (fun bb => ?_)
  refine rdB rfl ?_
  refine call (rright_spec (x := below) ?_)
  by_cases hr : rightB below = false
  · have e1 : colS sp below = sp := by unfold colS; rw [if_pos hr]
    have e3 : colA sp below = (0, 1) := by unfold colA; rw [if_pos hr]
    rw [e1, e3] at hk
    simp only [hr, Bool.not_false, SSd, Nat.reduceAdd]
    exact Gh.to ((b, refO vV vI sp.floor) :: F) (Gh.done (hk I vV (Ext.refl _) h1 h2))
  have e1 : colS sp below = ⟨tidyR (sp.rows.map (colR (colFl sp below))), colFl sp below⟩ := by unfold colS; rw [if_neg hr]
  have hcv := col_vers hok.rise (colFl sp below)
  have e3 : colA sp below = (((versOf sp.rows).length : Int) - ((versOf sp.rows).filter (keepV (versOf sp.rows) (colFl sp below))).length, 0) := by
    unfold colA
    rw [if_neg hr, e1, ← hcv, versN_len, versN_len]
  rw [e1, e3] at hk
  simp only [hcv, col_ints] at hk
  have hr' : rightB below = true := by simpa using hr
  simp only [hr', Bool.not_true, SSd, Nat.reduceAdd]
  refine drawC ?_
  refine rdBS rfl ?_
  try simp only [SSd, Nat.reduceAdd]
  refine rdPS [.int .i64 sp.floor.fWall, .int .i64 sp.floor.fLogic] rfl rfl ?_
  refine call (rbehind_spec (x := below) (y := sp.floor) ?_)
  have fin : ∀ fl, fl = colFl sp below → sh40_1 ω (pt b) (.int .i64 0) (.int .i64 0) (fun v => Gh (K v)) I ((bb, stO below) :: (b, refO vV vI fl) :: F) := by
    intro fl hf
    subst hf
    exact rc1_spec h1 h2 (by omega) (fun I' vV' hI' h' => hk I' vV' hI' h' (h2.mono (fun x c h => h.mono hI') hI' (fun _ h => h)))
  refine br_split (fun e => ?_) (fun e => ?_)
  · refine rdB rfl ?_
    try simp only [SSd, Nat.reduceAdd]
    refine stP _ rfl rfl rfl rfl ?_
    exact fin below (by unfold colFl; rw [if_pos e])
  · exact fin sp.floor (by unfold colFl; rw [if_neg (by rw [e]; simp)])
end
end Go.Proofs.YtmnnnoinfhiilaaDoor
