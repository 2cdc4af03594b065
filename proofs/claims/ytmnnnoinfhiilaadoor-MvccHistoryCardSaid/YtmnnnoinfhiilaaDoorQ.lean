/-
  A space is written: an intent is put.
-/
-- S3
import Derived.Test.YtmnnnoinfhiilaaDoorO
set_option linter.unusedSimpArgs false
set_option linter.unusedVariables false
namespace Go.Proofs.YtmnnnoinfhiilaaDoor
open Go.SL
set_option maxRecDepth 10000
section
variable {ω : Om} {I : Imm} {L : LH} {K : Value → M}
abbrev stO (a : TStamp) : Obj := .cells #[.int .i64 a.fWall, .int .i64 a.fLogic] 34 (0, 0)
abbrev putL (b1 b2 bat : Nat) (v0 v1 : Value) (x : TIntent) (a : TStamp) (R : LH) : LH :=
  (bat, stO a) :: (b2, .cells #[.int .i64 0, .int .i64 0] 34 (0, 0)) :: (b1, .cells #[v0, .int .i64 x.fTxn, .int .i64 x.fAt.fWall, .int .i64 x.fAt.fLogic, .bool x.fDel, v1] 39 (0, 0)) :: R
def putIt (x : TIntent) (a : TStamp) : Itn := ⟨⟨a, x.fDel, x.fValue⟩, x.fTxn⟩
theorem keys_swap {A B : List Row} {r r' : Row} (h : r'.key = r.key) : keysOf (A ++ r' :: B) = keysOf (A ++ r :: B) := by simp [keysOf, h]
theorem Mid.srt {A B : List Row} {k : List UInt8} {r : Row} (hm : Mid A k B) (hs : SrtK (keysOf (A ++ B))) (h : r.key = k) : SrtK (keysOf (A ++ r :: B)) := by
  subst h
  exact SrtK.join (SrtK.sub hs (List.sublist_append_left ..)) (SrtK.sub hs (List.sublist_append_right ..)) hm
theorem put8_spec {b b1 b2 bat : Nat} {v0 v1 : Value} {x : TIntent} {a : TStamp} {X F : LH} {sp : Sp} {nt : Nts} (hS : SpR I b X sp nt) (hs : SrtK (keysOf sp.rows)) (hlen : sp.rows.length ≤ 100000000)
    (h0 : Bytes I v0 x.fKey) (h1 : Bytes I v1 x.fValue) (ha : rightB a = true) (ht : txnB x.fTxn = true) (hkl : x.fKey.length ≤ 1000) (hvl : x.fValue.length ≤ 10000)
    (hk : ∀ X' I', Ext I I' → SpR I' b X' ⟨setIt x.fKey (putIt x a) sp.rows, sp.floor⟩ (updN nt (105 :: x.fKey) (itText (putIt x a))) → K (.tuple #[sv a, .int .i64 0, .int .i64 0]) I' (X' ++ F)) :
    sh10_8 ω (pt b) (pt b1) (pt b2) (.int .i64 0) (.int .i64 0) (pt bat) (fun v => Gh (K v)) I (putL b1 b2 bat v0 v1 x a (X ++ F)) := by
  have htx : 1 ≤ x.fTxn ∧ x.fTxn ≤ 9007199254740991 := by simpa [txnB] using ht
  unfold sh10_8
  try simp only [SSd, Nat.reduceAdd]
  refine rdb ?_
  refine bs_N h0 (Ext.refl _) ?_
  refine callG (Cal.perm (L' := X ++ putL b1 b2 bat v0 v1 x a F) (ms_perm (by ((try simp only [ms_cons, ms_app, ms_nil, ms_nil']); (try ac_rfl)))) ?_)
  have main : ∀ (A B : List Row) (vs : List TVer) (ps : List Nat) (p : Nat) (sl : Value) (Y R : LH) (o : Itn), Mid A x.fKey B → VsO Y sl vs → SpX I b ps R A x.fKey B sp.floor nt p → setIt x.fKey (putIt x a) sp.rows = A ++ ⟨x.fKey, vs, putIt x a⟩ :: B → SrtK (keysOf (A ++ ⟨x.fKey, vs, putIt x a⟩ :: B)) →
      (Rv none (ldNR 2 (pt bat)) fun v115 => Pv (fldV 4 (pt b1)) fun v116 => Rv none (ld1R v116) fun v117 => Pv (fldV 5 (pt b1)) fun v118 => Rv none (ld1R v118) fun v119 => Rv none (bsR v119) fun v120 =>
        Pv (bldV #[.int .i64 0, .int .i64 0, .bool false, .string (ByteArray.mk #[])] #[(0, 2), (2, 1), (3, 1)] [(0, v115), (1, v117), (2, v120)]) fun v121 => Pv (fldV 1 (pt b1)) fun v122 => Rv none (ld1R v122) fun v123 =>
        Pv (bldV #[.int .i64 0, .int .i64 0, .bool false, .string (ByteArray.mk #[]), .int .i64 0] #[(0, 4), (4, 1)] [(0, v121), (1, v123)]) fun v124 => Pv (nilV (pt p)) fun v125 => Pv (fldV 1 v125) fun v126 => Sto 5 v126 v124 <| gh fun _ =>
        Pv (fldV 0 (pt b1)) fun v127 => Rv none (ld1R v127) fun v128 => Rv none (bsR v128) fun v129 => Cal Tryd.prog ω 27 #[pt b, v129] <| gh fun _ => Rv none (ldNR 2 (pt bat)) fun v131 => Sto 2 (pt b2) v131 <| gh fun _ => Rv none (ldNR 2 (pt b2)) fun v132 => Gh (K (.tuple #[v132, .int .i64 0, .int .i64 0]))) I
        ((p, cellO sl o) :: (Y ++ (R ++ putL b1 b2 bat v0 v1 x a F))) := by
    intro A B vs ps p sl Y R o hm hv hX hset hsrt
    refine rdB rfl ?_
    try simp only [SSd, Nat.reduceAdd]
    refine rdb ?_
    try simp only [SSd, Nat.reduceAdd]
    refine rdb ?_
    refine bs_N h1 (Ext.refl _) ?_
    try simp only [SSd, Nat.reduceAdd]
    refine rdb ?_
    try simp only [SSd, Nat.reduceAdd]
    refine stP _ rfl rfl rfl rfl ?_
    try simp only [SSd, Nat.reduceAdd]
    refine rdb ?_
    refine bs_N h0 (Ext.refl _) ?_
    have hS' := hX.close ⟨x.fKey, vs, putIt x a⟩ sl Y ((p, cellO sl (putIt x a)) :: (Y ++ R)) rfl hv (List.Perm.refl _)
    refine call (Cal.perm (L' := ((p, cellO sl (putIt x a)) :: (Y ++ R)) ++ putL b1 b2 bat v0 v1 x a F) (ms_perm (by ((try simp only [ms_cons, ms_app, ms_nil, ms_nil']); (try ac_rfl)))) ?_)
    refine noteIntent_spec hS' hsrt (rowOf_mid hm rfl) (by simp [putIt]; omega) (fun _ => ha) (by omega) (by simp only [putIt]; omega) (fun X' I' hI' h' => ?_)
    refine rdB rfl ?_
    refine stB rfl rfl (one_all rfl) ?_
    refine rdB rfl ?_
    rw [← hset] at h'
    exact Gh.to (X' ++ F) (Gh.done (hk X' I' hI' ⟨ps, h'⟩))
  refine cell_spec hS hs hlen (fun ps A r B p sl Y R e hkr hm hp hv hX => ?_) (fun ps A B p X' R e hm hp hX => ?_)
  · refine Gh.perm (L' := (p, cellO sl r.it) :: (Y ++ (R ++ putL b1 b2 bat v0 v1 x a F))) (ms_perm (by rw [ms_app, ms_eq hp]; ((try simp only [ms_cons, ms_app, ms_nil, ms_nil']); (try ac_rfl)))) (Gh.done ?_)
    exact main A B r.vs ps p sl Y R r.it hm hv hX (by rw [e]; exact setIt_mid hkr hm) (by rw [keys_swap (r := r) hkr.symm, ← e]; exact hs)
  · refine Gh.perm (L' := (p, cellO (.slice none 0 0) noIt) :: ([] ++ (R ++ putL b1 b2 bat v0 v1 x a F))) (ms_perm (by rw [ms_app, ms_eq hp]; ((try simp only [ms_cons, ms_app, ms_nil, ms_nil']); (try ac_rfl)))) (Gh.done ?_)
    exact main A B [] ps p _ [] R noIt hm (SlO.none _ _) hX (by rw [e]; exact setIt_gap hm) (Mid.srt hm (e ▸ hs) rfl)
theorem stBG {L' : LH} {b n T : Nat} {l vs : List Value} [h : InL b L (.cells l.toArray T (0, 0))] [u : UpL b L (.cells l.toArray T (0, 0)) (.cells vs.toArray T (0, 0)) L'] (hl : vs.length = n) (hl' : l.length = n) (h1 : ∀ u ∈ vs, u.oneCell' = true) (hk : Gh (K undef) I L') :
    Sto n (.pointer (some ⟨b, 0, none⟩)) (.agg vs.toArray) (gh K) I L := by
  obtain ⟨L1, L2, rfl, rfl⟩ := u.up
  refine ⟨b, 0, l.toArray, T, L1, L2, rfl, by simp [Value.cells, hl], by simpa [Value.cells] using h1, by simp [hl'], rfl, ?_⟩
  simp only [Value.cells]
  rw [wr_all vs l 0 (by omega)]
  have e : List.take 0 l ++ vs = vs := rfl
  rw [e]
  exact hk
def putN (sp : Sp) (x : TIntent) (nt : Nts) : Nts := if (putA sp x).2.2 ≠ 0 then nt else updN nt (105 :: x.fKey) (itText (putIt x (putA sp x).1))
theorem last_ix {α : Type} [Inhabited α] {l : List α} {v : α} (h : l.getLast? = some v) : 0 < l.length ∧ geti l ((l.length - 1 : Nat) : Int) = v := by
  obtain ⟨ys, rfl⟩ := List.getLast?_eq_some_iff.1 h
  refine ⟨by simp, ?_⟩
  rw [geti_nat (by simp)]
  simp
theorem put_spec {b : Nat} {x : TIntent} {c : List Value} {X F : LH} {sp : Sp} {nt : Nts} (hS : SpR I b X sp nt) (hok : SpOk sp) (hlen : sp.rows.length ≤ 100000000) (hvs : ∀ r ∈ sp.rows, r.vs.length ≤ 100000000) (hx : TIntentV I x c)
    (hk : ∀ X' I', Ext I I' → SpR I' b X' (putS sp x) (putN sp x nt) → K (.tuple #[sv (putA sp x).1, .int .i64 (putA sp x).2.1, .int .i64 (putA sp x).2.2]) I' (X' ++ F)) :
    Cal Tryd.prog ω 10 #[pt b, .agg c.toArray] K I (X ++ F) := by
  obtain ⟨v0, v1, rfl, h0, h1⟩ := hx
  have hs := hok.rise
  obtain ⟨m, kv, es, clock, ps, hV⟩ := hS.view (L := X ++ F) (fun y hy => List.mem_append_left _ hy)
  have hc2 : Cells I (X ++ F) b 2 [.int .i64 sp.floor.fWall, .int .i64 sp.floor.fLogic] := by simpa using hV.head.sub (k := 2) (m := 2)
  refine cal10 ?_
  unfold sh10
  refine newI (fun b1 => newI (fun b2 => ?_))
  -- refused
  have bad : ∀ hb : putBad x, sh10_1 ω (pt b2) (.int .i64 0) (.int .i64 0) (fun v => Gh (K v)) I ((b2, .cells #[.int .i64 0, .int .i64 0] 34 (0, 0)) :: (b1, .cells #[v0, .int .i64 x.fTxn, .int .i64 x.fAt.fWall, .int .i64 x.fAt.fLogic, .bool x.fDel, v1] 39 (0, 0)) :: (X ++ F)) := by
    intro hb
    have e : putA sp x = (z0, 0, 1) := by unfold putA; rw [if_pos hb]
    have e2 : putS sp x = sp := by unfold putS; rw [e]; rfl
    have e3 : putN sp x nt = nt := by unfold putN; rw [e]; rfl
    rw [e2, e3] at hk
    have hk' := hk X I (Ext.refl _) hS
    rw [e] at hk'
    unfold sh10_1
    repeat' (first | (with_reducible refine drawC ?_) | (with_reducible refine drawW1 ?_) | (with_reducible refine drawW2 ?_) | (with_reducible refine keepC (by repeat (first | exact Ext.refl _ | assumption | refine Ext.trans ?_ (by assumption))) ?_) | (with_reducible refine newI (fun _ => ?_)) | first | (with_reducible refine rdb ?_) | ((with_reducible refine st1 ?_ ?_); rfl) | ((with_reducible refine rdB ?_ ?_); rfl) | (with_reducible refine rdbS ?_) | ((with_reducible refine rdBS ?_ ?_); rfl) | ((with_reducible refine stB ?_ ?_ ?_ ?_); rfl; rfl; exact one_all rfl) | ((with_reducible refine rdP _ rfl ?_ ?_); rfl) | ((with_reducible refine rdPS _ rfl ?_ ?_); rfl) | ((with_reducible refine stP _ rfl ?_ ?_ ?_ ?_); rfl; rfl; rfl) | (with_reducible refine unfE (sh10_1.eq_1 ..) ?_) | (with_reducible refine unfE (sh10_4.eq_1 ..) ?_) | (with_reducible refine unfE (sh10_8.eq_1 ..) ?_) | (with_reducible refine unfE (sh10_7.eq_1 ..) ?_) | (with_reducible refine unfE (sh10_6.eq_1 ..) ?_) | (with_reducible refine unfE (sh10_5.eq_1 ..) ?_) | (with_reducible refine unfE (sh10_3.eq_1 ..) ?_) | (with_reducible refine unfE (sh10_2.eq_1 ..) ?_) | (with_reducible refine unfE (sh10.eq_1 ..) ?_) | (with_reducible refine And.intro ?_ ?_) | (simp only [Bool.not_true, Bool.not_false, Bool.and_self, Bool.true_and, Int.reduceBEq, Int.reduceBNe, Int.reduceLT, Int.reduceLE, decide_true, decide_false, Br_true, Br_false, Gd_tt, Gd_ft, Gd_tf, Gd_ff, beq_self_eq_true, bne_self_eq_false]) | (with_reducible refine gd_split (fun _ => ?_) (fun _ => ?_)) | (with_reducible refine br_split (fun _ => ?_) (fun _ => ?_)) | (simp only [SSd, Nat.reduceAdd]))
    exact Gh.to (X ++ F) (Gh.done hk')
  -- taken on
  have main : ∀ (bat : Nat) (hb : ¬ putBad x), sh10_3 ω (pt b) (pt b1) (pt b2) (.int .i64 0) (.int .i64 0) (pt bat) (fun v => Gh (K v)) I (putL b1 b2 bat v0 v1 x (if bhd sp.floor x.fAt = true then sp.floor else x.fAt) (X ++ F)) := by
    intro bat hb
    have hb' := hb
    unfold putBad at hb'
    simp only [not_or, not_and, Bool.not_eq_false, Nat.not_lt, Decidable.not_not] at hb'
    have hkey : 1 ≤ x.fKey.length ∧ x.fKey.length ≤ 110 := by simpa [keyOk] using hb'.1
    -- done
    have fin : ∀ a, putA sp x = (a, 0, 0) → sh10_8 ω (pt b) (pt b1) (pt b2) (.int .i64 0) (.int .i64 0) (pt bat) (fun v => Gh (K v)) I (putL b1 b2 bat v0 v1 x a (X ++ F)) := by
      intro a ha
      have g := putA_ok hok (show (putA sp x).2.2 = 0 by rw [ha])
      have e2 : putS sp x = ⟨setIt x.fKey (putIt x a) sp.rows, sp.floor⟩ := by unfold putS; rw [ha]; rfl
      have e3 : putN sp x nt = updN nt (105 :: x.fKey) (itText (putIt x a)) := by unfold putN; rw [ha]; rfl
      rw [ha] at hk g
      rw [e2, e3] at hk
      exact put8_spec hS hs hlen h0 h1 g.2.1 hb'.2.1 (by omega) hb'.2.2.2.1 hk
    have err : ∀ by' e, putA sp x = (z0, by', e) → e ≠ 0 → K (.tuple #[sv z0, .int .i64 by', .int .i64 e]) I (X ++ F) := by
      intro by' e ha he
      have e2 : putS sp x = sp := by unfold putS; rw [ha]; exact if_pos he
      have e3 : putN sp x nt = nt := by unfold putN; rw [ha]; exact if_pos he
      rw [e2, e3] at hk
      have hk' := hk X I (Ext.refl _) hS
      rw [ha] at hk'
      exact hk'
    unfold sh10_3
    refine drawC ?_
    try simp only [SSd, Nat.reduceAdd]
    refine rdCS (hV.head 0 _ rfl) (Ext.refl _) ?_
    refine rdbS ?_
    refine bs_I h0 (Ext.refl _) ?_
    refine ⟨_, fun I' L' hS => lk_at (MapAt.mono hV.at' hS.1 (fun x hx => hS.2 _ (by simp [hx]))) hV.map, ?_⟩
    have hA : putA sp x = if (itAt sp.rows x.fKey).txn ≠ 0 ∧ (itAt sp.rows x.fKey).txn ≠ x.fTxn then (z0, (itAt sp.rows x.fKey).txn, 130) else
        if (pastL (putAt sp x) (vsAt sp.rows x.fKey).getLast?).2 ≠ 0 then (z0, 0, (pastL (putAt sp x) (vsAt sp.rows x.fKey).getLast?).2) else ((pastL (putAt sp x) (vsAt sp.rows x.fKey).getLast?).1, 0, 0) := by
      unfold putA; rw [if_neg hb]
    obtain ⟨g1, g2⟩ | ⟨r, q, g1, g2, g3, g4⟩ := hV.look hs x.fKey
    · have en : binPV .neq (.pointer none) (.pointer none) = some (.bool false) := rfl
      simp only [g2, lkV, Bool.false_eq_true, if_false, en, SSd, Nat.reduceAdd]
      refine fin _ ?_
      have ei : itAt sp.rows x.fKey = noIt := by unfold itAt; rw [g1]
      have ev : vsAt sp.rows x.fKey = [] := by unfold vsAt; rw [g1]
      rw [hA, ei, ev]
      simp [noIt, pastL, putAt, ei]
    · have ei : itAt sp.rows x.fKey = r.it := by unfold itAt; rw [g1]
      have ev : vsAt sp.rows x.fKey = r.vs := by unfold vsAt; rw [g1]
      rw [ei, ev] at hA
      have hat : putAt sp x = if r.it.txn ≠ 0 ∧ bhd r.it.ver.fAt (if bhd sp.floor x.fAt = true then sp.floor else x.fAt) = true then r.it.ver.fAt else (if bhd sp.floor x.fAt = true then sp.floor else x.fAt) := by
        unfold putAt; rw [ei]
      obtain ⟨sl, hC, hVs⟩ := g3
      obtain ⟨c0, c1, c14, c3, c4, c5, c15⟩ := itC hC
      have hvl := hvs r (rowOf_mem g1)
      simp only [g2, lkV, Bool.false_eq_true, if_false, SSd, Nat.reduceAdd]
      generalize (if bhd sp.floor x.fAt = true then sp.floor else x.fAt) = a0 at hat ⊢
      -- behind the last version
      have six : ∀ a, a = putAt sp x → ¬ (r.it.txn ≠ 0 ∧ r.it.txn ≠ x.fTxn) → sh10_6 ω (pt b) (pt b1) (pt b2) (.int .i64 0) (.int .i64 0) (pt bat) (pt q) (fun v => Gh (K v)) I (putL b1 b2 bat v0 v1 x a (X ++ F)) := by
        intro a ha hno
        rw [if_neg hno, ← ha] at hA
        unfold sh10_6
        try simp only [SSd, Nat.reduceAdd]
        refine rdC c0 (Ext.refl _) ?_
        simp only [RL.len hVs, SSd, Nat.reduceAdd]
        refine drawC ?_
        cases hl : r.vs.getLast? with
        | none =>
          have hv0 : r.vs = [] := List.getLast?_eq_none_iff.1 hl
          have eg : decide ((0 : Int) < ((r.vs.length : Nat) : Int)) = false := by rw [hv0]; rfl
          simp only [eg, SSd, Nat.reduceAdd]
          rw [hl] at hA
          exact fin a (by rw [hA]; rfl)
        | some v =>
          obtain ⟨hv0, hlx⟩ := last_ix hl
          have eg : decide ((0 : Int) < ((r.vs.length : Nat) : Int)) = true := by simpa using hv0
          simp only [eg, SSd, Nat.reduceAdd]
          refine rdBS rfl ?_
          refine rdCS c0 (Ext.refl _) ?_
          rw [wrap_i64 _ (by omega)]
          have el : ((r.vs.length : Nat) : Int) - 1 = ((r.vs.length - 1 : Nat) : Int) := by omega
          rw [el]
          obtain ⟨qq, off, cc, hix, hl4, hcc, hcr⟩ := RL.ix hVs (i := ((r.vs.length - 1 : Nat) : Int)) (by omega) (by omega)
          obtain rfl : cc = verC _ := hcc
          rw [hlx] at hcr
          obtain ⟨w1, w2, w3⟩ := verAt (hcr I (X ++ F) (Ext.refl _) (fun _ h => h))
          simp only [hix, SSd, Nat.reduceAdd]
          refine rdNCS w1 (Ext.refl _) rfl ?_
          refine call (behind_spec (x := a) (y := v.fAt) ?_)
          try simp only [SSd, Nat.reduceAdd]
          rw [hl] at hA
          refine br_split (fun e => ?_) (fun e => ?_)
          · have e' : ¬ bhd a v.fAt = true := by simpa using e
            have ep : pastL a (some v) = nextF v.fAt := if_neg e'
            rw [ep] at hA
            unfold sh10_7
            try simp only [SSd, Nat.reduceAdd]
            refine rdC c0 (Ext.refl _) ?_
            rw [wrap_i64 _ (by omega), el]
            simp only [hix, SSd, Nat.reduceAdd]
            refine rdNC w1 (Ext.refl _) rfl ?_
            refine call (hnext_spec (x := v.fAt) ?_)
            try simp only [SSd, Nat.reduceAdd]
            refine newI (fun bn => ?_)
            refine stB rfl rfl (one_all rfl) ?_
            try simp only [SSd, Nat.reduceAdd]
            refine br_split (fun e2 => ?_) (fun e2 => ?_)
            · have e2' : (nextF v.fAt).2 ≠ 0 := by simpa using e2
              rw [if_pos e2'] at hA
              have hk' := err _ _ hA e2'
              repeat' (first | (with_reducible refine drawC ?_) | (with_reducible refine drawW1 ?_) | (with_reducible refine drawW2 ?_) | (with_reducible refine keepC (by repeat (first | exact Ext.refl _ | assumption | refine Ext.trans ?_ (by assumption))) ?_) | (with_reducible refine newI (fun _ => ?_)) | first | (with_reducible refine rdb ?_) | ((with_reducible refine st1 ?_ ?_); rfl) | ((with_reducible refine rdB ?_ ?_); rfl) | (with_reducible refine rdbS ?_) | ((with_reducible refine rdBS ?_ ?_); rfl) | ((with_reducible refine stB ?_ ?_ ?_ ?_); rfl; rfl; exact one_all rfl) | ((with_reducible refine rdP _ rfl ?_ ?_); rfl) | ((with_reducible refine rdPS _ rfl ?_ ?_); rfl) | ((with_reducible refine stP _ rfl ?_ ?_ ?_ ?_); rfl; rfl; rfl) | (with_reducible refine unfE (sh10_1.eq_1 ..) ?_) | (with_reducible refine unfE (sh10_4.eq_1 ..) ?_) | (with_reducible refine unfE (sh10_8.eq_1 ..) ?_) | (with_reducible refine unfE (sh10_7.eq_1 ..) ?_) | (with_reducible refine unfE (sh10_6.eq_1 ..) ?_) | (with_reducible refine unfE (sh10_5.eq_1 ..) ?_) | (with_reducible refine unfE (sh10_3.eq_1 ..) ?_) | (with_reducible refine unfE (sh10_2.eq_1 ..) ?_) | (with_reducible refine unfE (sh10.eq_1 ..) ?_) | (with_reducible refine And.intro ?_ ?_) | (simp only [Bool.not_true, Bool.not_false, Bool.and_self, Bool.true_and, Int.reduceBEq, Int.reduceBNe, Int.reduceLT, Int.reduceLE, decide_true, decide_false, Br_true, Br_false, Gd_tt, Gd_ft, Gd_tf, Gd_ff, beq_self_eq_true, bne_self_eq_false]) | (with_reducible refine gd_split (fun _ => ?_) (fun _ => ?_)) | (with_reducible refine br_split (fun _ => ?_) (fun _ => ?_)) | (simp only [SSd, Nat.reduceAdd]))
              exact Gh.to (X ++ F) (Gh.done hk')
            · have e2' : ¬ (nextF v.fAt).2 ≠ 0 := by simpa using e2
              rw [if_neg e2'] at hA
              refine rdB rfl ?_
              refine stBG rfl rfl (one_all rfl) ?_
              exact Gh.to (putL b1 b2 bat v0 v1 x (nextF v.fAt).1 (X ++ F)) (Gh.done (fin _ hA))
          · have e' : bhd a v.fAt = true := by simpa using e
            have ep : pastL a (some v) = (a, 0) := if_pos e'
            rw [ep] at hA
            exact fin a hA
      refine drawC ?_
      try simp only [SSd, Nat.reduceAdd]
      refine rdCS c5 (Ext.refl _) ?_
      try simp only [SSd, Nat.reduceAdd]
      have rest : ∀ (hno : ¬ (r.it.txn ≠ 0 ∧ r.it.txn ≠ x.fTxn)), (Draw fun S => Pv (nilV (pt q)) fun v64 => Pv (fldV 1 v64) fun v65 => Pv (fldV 4 v65) fun v66 => Rv (some S) (ld1R v66) fun v67 => Pv (binIV .neq v67 (.int .i64 0)) fun v68 => Gd v68 true
          (Pv (nilV (pt q)) fun v69 => Pv (fldV 1 v69) fun v70 => Pv (fldV 0 v70) fun v71 => Pv (fldV 0 v71) fun v72 => Rv (some S) (ldNR 2 v72) fun v73 => Rv (some S) (ldNR 2 (pt bat)) fun v74 => Cal Tryd.prog ω 24 #[v73, v74] <| gh fun v75 =>
            Br v75 (sh10_5 ω (pt b) (pt b1) (pt b2) (.int .i64 0) (.int .i64 0) (pt bat) (pt q) (fun v => Gh (K v))) (sh10_6 ω (pt b) (pt b1) (pt b2) (.int .i64 0) (.int .i64 0) (pt bat) (pt q) (fun v => Gh (K v))))
          (sh10_6 ω (pt b) (pt b1) (pt b2) (.int .i64 0) (.int .i64 0) (pt bat) (pt q) (fun v => Gh (K v)))) I (putL b1 b2 bat v0 v1 x a0 (X ++ F)) := by
        intro hno
        refine drawC ?_
        try simp only [SSd, Nat.reduceAdd]
        refine rdCS c5 (Ext.refl _) ?_
        try simp only [SSd, Nat.reduceAdd]
        refine gd_split (fun e => ?_) (fun e => ?_)
        · have e' : r.it.txn ≠ 0 := by simpa using e
          refine rdNCS c1 (Ext.refl _) rfl ?_
          refine rdBS rfl ?_
          refine call (behind_spec (x := r.it.ver.fAt) (y := a0) ?_)
          refine br_split (fun e2 => ?_) (fun e2 => ?_)
          · rw [if_pos ⟨e', e2⟩] at hat
            unfold sh10_5
            try simp only [SSd, Nat.reduceAdd]
            refine rdNC c1 (Ext.refl _) rfl ?_
            refine stB rfl rfl (one_all rfl) ?_
            exact six _ hat.symm hno
          · rw [if_neg (fun h => by rw [h.2] at e2; cases e2)] at hat
            exact six _ hat.symm hno
        · have e' : ¬ r.it.txn ≠ 0 := by simpa using e
          rw [if_neg (fun h => e' h.1)] at hat
          exact six _ hat.symm hno
      refine gd_split (fun e => ?_) (fun e => ?_)
      · have e' : r.it.txn ≠ 0 := by simpa using e
        refine rdCS c5 (Ext.refl _) ?_
        refine rdbS ?_
        try simp only [SSd, Nat.reduceAdd]
        refine br_split (fun e2 => ?_) (fun e2 => ?_)
        · have e2' : r.it.txn ≠ x.fTxn := by simpa using e2
          rw [if_pos ⟨e', e2'⟩] at hA
          have hk' := err _ _ hA (by simp)
          unfold sh10_4
          refine drawW1 ?_
          try simp only [SSd, Nat.reduceAdd]
          refine rdCS c5 (Ext.refl _) ?_
          refine stB rfl rfl (one_all rfl) ?_
          refine keepC (Ext.refl _) ?_
          refine rdB rfl ?_
          exact Gh.to (X ++ F) (Gh.done hk')
        · exact rest (fun h => h.2 (by simpa using e2))
      · exact rest (fun h => by simp at e; exact h.1 e)
  try simp only [SSd, Nat.reduceAdd]
  refine rdb ?_
  refine call (iskey_spec h0 ?_)
  try simp only [SSd, Nat.reduceAdd]
  refine gd_split (fun e => ?_) (fun e => bad (.inl (by simpa using e)))
  have k1 : keyOk x.fKey = true := by simpa using e
  try simp only [SSd, Nat.reduceAdd]
  refine rdb ?_
  refine call (istxn_spec ?_)
  try simp only [SSd, Nat.reduceAdd]
  refine gd_split (fun e => ?_) (fun e => bad (.inr (.inl (by simpa using e))))
  have k2 : txnB x.fTxn = true := by simpa using e
  try simp only [SSd, Nat.reduceAdd]
  refine rdP [.int .i64 x.fAt.fWall, .int .i64 x.fAt.fLogic] rfl rfl ?_
  refine call (hright_spec (x := x.fAt) ?_)
  try simp only [SSd, Nat.reduceAdd]
  refine gd_split (fun e => ?_) (fun e => bad (.inr (.inr (.inl (by simpa using e)))))
  have k3 : rightB x.fAt = true := by simpa using e
  try simp only [SSd, Nat.reduceAdd]
  refine rdb ?_
  simp only [Bytes.len h1, SSd, Nat.reduceAdd]
  refine gd_split (fun e => ?_) (fun e => bad (.inr (.inr (.inr (.inl (by simp at e; omega))))))
  have k4 : x.fValue.length ≤ 10000 := by simp at e; omega
  try simp only [SSd, Nat.reduceAdd]
  refine rdb ?_
  have tail : ∀ (hd : ¬ (x.fDel = true ∧ x.fValue ≠ [])), (Pv (fldV 2 (pt b1)) fun v27 => Rv none (ldNR 2 v27) fun v28 => New (.cells #[.int .i64 0, .int .i64 0] 34 (0, 0)) <| gh fun at_29 => Sto 2 at_29 v28 <| gh fun _ =>
      Draw fun S => Pv (nilV (pt b)) fun v30 => Pv (fldV 2 v30) fun v31 => Rv (some S) (ldNR 2 v31) fun v32 => Rv (some S) (ldNR 2 at_29) fun v33 => Cal Tryd.prog ω 24 #[v32, v33] <| gh fun v34 =>
        Br v34 (sh10_2 ω (pt b) (pt b1) (pt b2) (.int .i64 0) (.int .i64 0) at_29 (fun v => Gh (K v))) (sh10_3 ω (pt b) (pt b1) (pt b2) (.int .i64 0) (.int .i64 0) at_29 (fun v => Gh (K v)))) I
      ((b2, .cells #[.int .i64 0, .int .i64 0] 34 (0, 0)) :: (b1, .cells #[v0, .int .i64 x.fTxn, .int .i64 x.fAt.fWall, .int .i64 x.fAt.fLogic, .bool x.fDel, v1] 39 (0, 0)) :: (X ++ F)) := by
    intro hd
    have hb : ¬ putBad x := by
      unfold putBad
      rintro (h | h | h | h | h)
      · rw [k1] at h; cases h
      · rw [k2] at h; cases h
      · rw [k3] at h; cases h
      · omega
      · exact hd h
    try simp only [SSd, Nat.reduceAdd]
    refine rdP [.int .i64 x.fAt.fWall, .int .i64 x.fAt.fLogic] rfl rfl ?_
    refine newI (fun bat => ?_)
    have hm := main bat hb
    refine stB rfl rfl (one_all rfl) ?_
    refine drawC ?_
    try simp only [SSd, Nat.reduceAdd]
    refine rdNCS hc2 (Ext.refl _) rfl ?_
    refine rdBS rfl ?_
    refine call (behind_spec (x := sp.floor) (y := x.fAt) ?_)
    refine br_split (fun e2 => ?_) (fun e2 => ?_)
    · rw [if_pos e2] at hm
      unfold sh10_2
      try simp only [SSd, Nat.reduceAdd]
      refine rdNC hc2 (Ext.refl _) rfl ?_
      refine stB rfl rfl (one_all rfl) ?_
      exact hm
    · rw [if_neg (by rw [e2]; simp)] at hm
      exact hm
  refine gd_split (fun e => ?_) (fun e => tail (fun h => e h.1))
  try simp only [SSd, Nat.reduceAdd]
  refine rdb ?_
  simp only [Bytes.len h1, SSd, Nat.reduceAdd]
  refine br_split (fun e2 => ?_) (fun e2 => ?_)
  · exact bad (.inr (.inr (.inr (.inr ⟨e, fun h => by rw [h] at e2; simp at e2⟩))))
  · exact tail (fun h => by simp at e2; exact h.2 e2)
end
end Go.Proofs.YtmnnnoinfhiilaaDoor
