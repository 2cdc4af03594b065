/-
  A space is written: an intent is resolved.
-/
-- S3
import Derived.Test.YtmnnnoinfhiilaaDoorQ
set_option linter.unusedSimpArgs false
set_option linter.unusedVariables false
namespace Go.Proofs.YtmnnnoinfhiilaaDoor
open Go.SL
set_option maxRecDepth 10000
section
variable {ω : Om} {I : Imm} {L : LH} {K : Value → M}
abbrev verO (v : TVer) : Obj := .cells #[.int .i64 v.fAt.fWall, .int .i64 v.fAt.fLogic, .bool v.fDel, sstr v.fValue] 80 (0, 0)
def resV' (a : TStamp) (r : Row) : TVer := ⟨a, r.it.ver.fDel, r.it.ver.fValue⟩
def resNr (k : List UInt8) (yes : Bool) (a : TStamp) (r : Row) (nt : Nts) : Nts := if yes = true then updN (updN nt (105 :: k) (true, [])) (vkey k (resV' a r)) (false, verText (resV' a r)) else updN nt (105 :: k) (true, [])
def resN (sp : Sp) (k : List UInt8) (txn : Int) (yes : Bool) (a : TStamp) (nt : Nts) : Nts := if (resA sp k txn yes a).1 = true then (match rowOf sp.rows k with
  | some r => resNr k yes a r nt
  | none => nt) else nt
theorem versC_append (a b : List TVer) : versC (a ++ b) = versC a ++ versC b := by simp [versC]
theorem res5_spec {b : Nat} {a1 : Value} {k : List UInt8} {X F : LH} {A B : List Row} {r : Row} {fl : TStamp} {nt : Nts} {p10 p11 : Value} [hsub : SubP (X ++ F) L] (h1 : Bytes I a1 k) (hS : SpR I b X ⟨A ++ r :: B, fl⟩ nt) (hm : Mid A k B) (hkr : r.key = k) (hs : SrtK (keysOf (A ++ r :: B))) (hlen : (A ++ r :: B).length ≤ 100000000)
    (hk : ∀ X', SpR I b X' ⟨if emptyB r = true then A ++ B else A ++ r :: B, fl⟩ nt → K (.tuple #[.bool true, .int .i64 0]) I (X' ++ F)) : sh11_5 ω (pt b) a1 p10 p11 (fun v => Gh (K v)) I L := by
  unfold sh11_5
  refine bs_N h1 (Ext.refl _) ?_
  refine call (Cal.to (X ++ F) ?_)
  exact tidy_spec hS hm hkr hs hlen (fun X' h' => Gh.done (hk X' h'))
theorem resolve_spec {b : Nat} {a1 : Value} {k : List UInt8} {txn : Int} {yes : Bool} {a : TStamp} {X F : LH} {sp : Sp} {nt : Nts} (hS : SpR I b X sp nt) (hok : SpOk sp) (hlen : sp.rows.length ≤ 100000000) (hvs : ∀ r ∈ sp.rows, r.vs.length ≤ 100000000) (h1 : Bytes I a1 k)
    (hk : ∀ X' I', Ext I I' → SpR I' b X' (resS sp k txn yes a) (resN sp k txn yes a nt) → K (.tuple #[.bool (resA sp k txn yes a).1, .int .i64 (resA sp k txn yes a).2]) I' (X' ++ F)) :
    Cal Tryd.prog ω 11 #[pt b, a1, .int .i64 txn, .bool yes, sv a] K I (X ++ F) := by
  have hs := hok.rise
  have same : ∀ x, resA sp k txn yes a = (false, x) → K (.tuple #[.bool false, .int .i64 x]) I (X ++ F) := by
    intro x e
    have e2 : resS sp k txn yes a = sp := by unfold resS; rw [e]; rfl
    have e3 : resN sp k txn yes a nt = nt := by unfold resN; rw [e]; rfl
    rw [e2, e3] at hk
    have hk' := hk X I (Ext.refl _) hS
    rw [e] at hk'
    exact hk'
  by_cases hbad : keyOk k = false ∨ txnB txn = false ∨ (yes = true ∧ rightB a = false)
  · have hk' := same 1 (by unfold resA; rw [if_pos hbad])
    refine cal11 ?_
    unfold sh11
    refine newI (fun bat => ?_)
    refine call (iskey_spec h1 ?_)
    try simp only [SSd, Nat.reduceAdd]
    refine gd_split (fun e => ?_) (fun e => Gh.to (X ++ F) (Gh.done hk'))
    refine call (istxn_spec ?_)
    try simp only [SSd, Nat.reduceAdd]
    refine gd_split (fun e2 => ?_) (fun e2 => Gh.to (X ++ F) (Gh.done hk'))
    have hy : yes = true ∧ rightB a = false := by
      rcases hbad with h | h | h
      · rw [h] at e; simp at e
      · rw [h] at e2; simp at e2
      · exact h
    simp only [hy.1, SSd, Nat.reduceAdd]
    refine rdB rfl ?_
    refine call (hright_spec (x := a) ?_)
    simp only [hy.2, Bool.not_false, SSd, Nat.reduceAdd]
    exact Gh.to (X ++ F) (Gh.done hk')
  have hA : resA sp k txn yes a = if (itAt sp.rows k).txn ≠ txn then (false, 0) else if yes = true ∧ (bhd (itAt sp.rows k).ver.fAt a = true ∨ earlyB a (vsAt sp.rows k).getLast? = true) then (false, 1) else (true, 0) := by unfold resA; rw [if_neg hbad]
  simp only [not_or, Bool.not_eq_false, not_and] at hbad
  obtain ⟨k1, k2, k3⟩ := hbad
  have kl : 1 ≤ k.length ∧ k.length ≤ 110 := by simpa [keyOk] using k1
  have kt := txnB_ne k2
  obtain ⟨rows, fl⟩ := sp
  rcases place k hs with ⟨A, r, B, e, hkr, hm⟩ | ⟨A, B, e, hm⟩
  rotate_left
  · simp only at e; subst e
    rw [itAt_gap hm, if_pos (show noIt.txn ≠ txn from fun h => kt h.symm)] at hA
    have hk' := same 0 hA
    obtain ⟨m, kv, es, clock, ps, hV⟩ := hS.view (L := X ++ F) (fun y hy => List.mem_append_left _ hy)
    have hn : cellsM ps (A ++ B) k = none := cellsM_gap hm.notin
    cases yes
    · refine cal11 ?_
      unfold sh11
      refine newI (fun bat => ?_)
      refine call (iskey_spec h1 ?_)
      simp only [k1, Bool.not_true, SSd, Nat.reduceAdd]
      refine call (istxn_spec ?_)
      simp only [k2, Bool.not_true, SSd, Nat.reduceAdd]
      refine drawC ?_
      try simp only [SSd, Nat.reduceAdd]
      refine rdCS (hV.head 0 _ rfl) (Ext.refl _) ?_
      refine bs_I h1 (Ext.refl _) ?_
      refine ⟨_, fun I' L' hS => lk_at (MapAt.mono hV.at' hS.1 (fun x hx => hS.2 _ (by simp [hx]))) hV.map, ?_⟩
      have en : binPV .eql (.pointer none) (.pointer none) = some (.bool true) := rfl
      simp only [hn, lkV, Bool.false_eq_true, if_false, en, SSd, Nat.reduceAdd]
      exact Gh.to (X ++ F) (Gh.done hk')
    · refine cal11 ?_
      unfold sh11
      refine newI (fun bat => ?_)
      refine call (iskey_spec h1 ?_)
      simp only [k1, Bool.not_true, SSd, Nat.reduceAdd]
      refine call (istxn_spec ?_)
      simp only [k2, Bool.not_true, SSd, Nat.reduceAdd]
      refine rdB rfl ?_
      refine call (hright_spec (x := a) ?_)
      simp only [k3 rfl, Bool.not_true, SSd, Nat.reduceAdd]
      refine drawC ?_
      try simp only [SSd, Nat.reduceAdd]
      refine rdCS (hV.head 0 _ rfl) (Ext.refl _) ?_
      refine bs_I h1 (Ext.refl _) ?_
      refine ⟨_, fun I' L' hS => lk_at (MapAt.mono hV.at' hS.1 (fun x hx => hS.2 _ (by simp [hx]))) hV.map, ?_⟩
      have en : binPV .eql (.pointer none) (.pointer none) = some (.bool true) := rfl
      simp only [hn, lkV, Bool.false_eq_true, if_false, en, SSd, Nat.reduceAdd]
      exact Gh.to (X ++ F) (Gh.done hk')
  · simp only at e; subst e
    rw [itAt_mid hm hkr, vsAt_mid hm hkr] at hA
    obtain ⟨p1, p2, p3⟩ := hok.part
    obtain ⟨ps, hS⟩ := hS
    obtain ⟨p, sl, Y, R, hps, hp, hv, hX, g4⟩ := hS.open' hm hkr
    obtain ⟨m, kv, es, clock, hV, hcp⟩ := g4 ((p, cellO sl r.it) :: (Y ++ (R ++ F))) (fun x hx => by
      have := hp.mem_iff.1 hx
      simp only [List.mem_cons, List.mem_append] at this ⊢
      rcases this with h | h | h
      · exact .inl h
      · exact .inr (.inl h)
      · exact .inr (.inr (.inl h)))
    have hs1 : SrtK (keysOf (A ++ ⟨k, r.vs, noIt⟩ :: B)) := by rw [keys_swap (r := r) hkr.symm]; exact hs
    have hlen1 : (A ++ (⟨k, r.vs, noIt⟩ : Row) :: B).length ≤ 100000000 := by simpa using hlen
    refine Cal.perm (L' := (p, cellO sl r.it) :: (Y ++ (R ++ F))) (ms_perm (by rw [ms_app, ms_eq hp]; ((try simp only [ms_cons, ms_app, ms_nil, ms_nil']); (try ac_rfl)))) ?_
    have back : ∀ (bat : Nat) {v : Value}, K v I (X ++ F) → Gh (K v) I ((bat, stO a) :: (p, cellO sl r.it) :: (Y ++ (R ++ F))) := fun bat v h => Gh.to ((p, cellO sl r.it) :: (Y ++ (R ++ F))) (Gh.perm (L' := X ++ F) (ms_perm (by rw [ms_app, ms_eq hp]; ((try simp only [ms_cons, ms_app, ms_nil, ms_nil']); (try ac_rfl)))) (Gh.done h))
    have back2 : ∀ (bv bat : Nat) {v : Value}, K v I (X ++ F) → Gh (K v) I ((bv, verO r.it.ver) :: (bat, stO a) :: (p, cellO sl r.it) :: (Y ++ (R ++ F))) := fun bv bat v h => Gh.to ((p, cellO sl r.it) :: (Y ++ (R ++ F))) (Gh.perm (L' := X ++ F) (ms_perm (by rw [ms_app, ms_eq hp]; ((try simp only [ms_cons, ms_app, ms_nil, ms_nil']); (try ac_rfl)))) (Gh.done h))
    cases yes
    · refine cal11 ?_
      unfold sh11
      refine newI (fun bat => ?_)
      refine call (iskey_spec h1 ?_)
      simp only [k1, Bool.not_true, SSd, Nat.reduceAdd]
      refine call (istxn_spec ?_)
      simp only [k2, Bool.not_true, SSd, Nat.reduceAdd]
      refine drawC ?_
      try simp only [SSd, Nat.reduceAdd]
      refine rdCS (hV.head 0 _ rfl) (Ext.refl _) ?_
      refine bs_I h1 (Ext.refl _) ?_
      refine ⟨_, fun I' L' hS => lk_at (MapAt.mono hV.at' hS.1 (fun x hx => hS.2 _ (by simp [hx]))) hV.map, ?_⟩
      simp only [hcp, lkV, Bool.false_eq_true, if_false, SSd, Nat.reduceAdd]
      refine rdb ?_
      try simp only [SSd, Nat.reduceAdd]
      refine br_split (fun e => ?_) (fun e => ?_)
      · have e' : r.it.txn ≠ txn := by simpa using e
        rw [if_pos e'] at hA
        exact back _ (same 0 hA)
      have e' : ¬ r.it.txn ≠ txn := by simpa using e
      rw [if_neg e'] at hA
      try simp only [SSd, Nat.reduceAdd]
      refine rdP [.int .i64 r.it.ver.fAt.fWall, .int .i64 r.it.ver.fAt.fLogic, .bool r.it.ver.fDel, sstr r.it.ver.fValue] rfl rfl ?_
      refine newI (fun bv => ?_)
      refine stB rfl rfl (one_all rfl) ?_
      try simp only [SSd, Nat.reduceAdd]
      refine rdb ?_
      obtain ⟨sa, sc, rfl⟩ := hv.form
      try simp only [SSd, Nat.reduceAdd]
      refine drawC ?_
      try simp only [SSd, Nat.reduceAdd]
      refine ⟨⟨Ext.refl _, fun _ h => h⟩, ?_⟩
      have hA' : resA ⟨A ++ r :: B, fl⟩ k txn false a = (true, 0) := by rw [hA]; rfl
      try simp only [SSd, Nat.reduceAdd]
      refine stP _ rfl rfl rfl rfl ?_
      refine bs_N h1 (Ext.refl _) ?_
      have hS' := hX.close ⟨k, r.vs, noIt⟩ _ Y ((p, cellO (.slice sa r.vs.length sc) noIt) :: (Y ++ R)) rfl hv (List.Perm.refl _)
      refine call (Cal.perm (L' := ((p, cellO (.slice sa r.vs.length sc) noIt) :: (Y ++ R)) ++ ((bv, verO r.it.ver) :: (bat, stO a) :: F)) (ms_perm (by ((try simp only [ms_cons, ms_app, ms_nil, ms_nil']); (try ac_rfl)))) ?_)
      refine noteIntent_spec hS' hs1 (rowOf_mid hm rfl) (by simp [noIt]) (fun h => absurd rfl h) (by omega) (by simp [noIt]) (fun X' I' hI' h' => ?_)
      refine res5_spec (X := X') (F := F) (h1.mono hI') ⟨_, h'⟩ hm rfl hs1 hlen1 (fun X2 h2 => ?_)
      have hk' := hk X2 I' hI'
      rw [hA'] at hk'
      refine hk' ?_
      have e2 : resS ⟨A ++ r :: B, fl⟩ k txn false a = ⟨if emptyB ⟨k, r.vs, noIt⟩ = true then A ++ B else A ++ ⟨k, r.vs, noIt⟩ :: B, fl⟩ := by
        unfold resS; rw [hA']
        simp only [if_true]
        rw [updR_mid hm hkr, tidyR_mid (fun x hx => (p1 x hx).some) (fun x hx => (p3 x hx).some)]
        simp [resR, hkr]
      have e3 : resN ⟨A ++ r :: B, fl⟩ k txn false a nt = updN nt (105 :: k) (true, []) := by
        unfold resN; rw [hA']
        simp only [if_true]
        rw [rowOf_mid hm hkr]
        rfl
      rw [e2, e3]
      exact h2
    · refine cal11 ?_
      unfold sh11
      refine newI (fun bat => ?_)
      refine call (iskey_spec h1 ?_)
      simp only [k1, Bool.not_true, SSd, Nat.reduceAdd]
      refine call (istxn_spec ?_)
      simp only [k2, Bool.not_true, SSd, Nat.reduceAdd]
      refine rdB rfl ?_
      refine call (hright_spec (x := a) ?_)
      simp only [k3 rfl, Bool.not_true, SSd, Nat.reduceAdd]
      refine drawC ?_
      try simp only [SSd, Nat.reduceAdd]
      refine rdCS (hV.head 0 _ rfl) (Ext.refl _) ?_
      refine bs_I h1 (Ext.refl _) ?_
      refine ⟨_, fun I' L' hS => lk_at (MapAt.mono hV.at' hS.1 (fun x hx => hS.2 _ (by simp [hx]))) hV.map, ?_⟩
      simp only [hcp, lkV, Bool.false_eq_true, if_false, SSd, Nat.reduceAdd]
      refine rdb ?_
      try simp only [SSd, Nat.reduceAdd]
      refine br_split (fun e => ?_) (fun e => ?_)
      · have e' : r.it.txn ≠ txn := by simpa using e
        rw [if_pos e'] at hA
        exact back _ (same 0 hA)
      have e' : ¬ r.it.txn ≠ txn := by simpa using e
      rw [if_neg e'] at hA
      try simp only [SSd, Nat.reduceAdd]
      refine rdP [.int .i64 r.it.ver.fAt.fWall, .int .i64 r.it.ver.fAt.fLogic, .bool r.it.ver.fDel, sstr r.it.ver.fValue] rfl rfl ?_
      refine newI (fun bv => ?_)
      refine stB rfl rfl (one_all rfl) ?_
      try simp only [SSd, Nat.reduceAdd]
      refine rdb ?_
      obtain ⟨sa, sc, rfl⟩ := hv.form
      try simp only [SSd, Nat.reduceAdd]
      refine drawC ?_
      try simp only [SSd, Nat.reduceAdd]
      refine rdPS [.int .i64 r.it.ver.fAt.fWall, .int .i64 r.it.ver.fAt.fLogic] rfl rfl ?_
      refine rdBS rfl ?_
      refine call (behind_spec (x := r.it.ver.fAt) (y := a) ?_)
      refine keepC (Ext.refl _) ?_
      refine gd_split (fun e2 => ?_) (fun e2 => ?_)
      rotate_left
      · have e2' : bhd r.it.ver.fAt a = true := by simpa using e2
        rw [if_pos ⟨rfl, .inl e2'⟩] at hA
        exact back2 _ _ (same 1 hA)
      have tail : ∀ hA' : resA ⟨A ++ r :: B, fl⟩ k txn true a = (true, 0), (Pv (bldV #[.int .i64 0, .int .i64 0, .bool false, .string (ByteArray.mk #[]), .int .i64 0] #[(0, 4), (4, 1)] []) fun v44 => Pv (nilV (pt p)) fun v45 => Pv (fldV 1 v45) fun v46 => Sto 5 v46 v44 <| gh fun _ => Rv none (bsR a1) fun v47 =>
          Cal Tryd.prog ω 27 #[pt b, v47] <| gh fun v48 => Br (.bool true) (sh11_4 ω (pt b) a1 (pt bat) (.bool false) (.int .i64 0) (pt p) (pt bv) (fun v => Gh (K v))) (sh11_5 ω (pt b) a1 (.bool false) (.int .i64 0) (fun v => Gh (K v)))) I
          ((bv, verO r.it.ver) :: (bat, stO a) :: (p, cellO (.slice sa r.vs.length sc) r.it) :: (Y ++ (R ++ F))) := by
        intro hA'
        try simp only [SSd, Nat.reduceAdd]
        refine stP _ rfl rfl rfl rfl ?_
        refine bs_N h1 (Ext.refl _) ?_
        have hS' := hX.close ⟨k, r.vs, noIt⟩ _ Y ((p, cellO (.slice sa r.vs.length sc) noIt) :: (Y ++ R)) rfl hv (List.Perm.refl _)
        refine callG (Cal.perm (L' := ((p, cellO (.slice sa r.vs.length sc) noIt) :: (Y ++ R)) ++ ((bv, verO r.it.ver) :: (bat, stO a) :: F)) (ms_perm (by ((try simp only [ms_cons, ms_app, ms_nil, ms_nil']); (try ac_rfl)))) ?_)
        refine noteIntent_spec hS' hs1 (rowOf_mid hm rfl) (by simp [noIt]) (fun h => absurd rfl h) (by omega) (by simp [noIt]) (fun X' I' hI' h' => ?_)
        obtain ⟨p', sl', Y', R', hps', gp, gv, gX, g4'⟩ := h'.open' hm rfl
        obtain rfl : p' = p := by rw [hps] at hps'; exact (Option.some.inj hps').symm
        refine Gh.perm (L' := (p', cellO sl' noIt) :: (Y' ++ (R' ++ ((bv, verO r.it.ver) :: (bat, stO a) :: F)))) (ms_perm (by rw [ms_app, ms_eq gp]; ((try simp only [ms_cons, ms_app, ms_nil, ms_nil']); (try ac_rfl)))) (Gh.done ?_)
        obtain ⟨sa2, sc2, rfl⟩ := gv.form
        try simp only [SSd, Nat.reduceAdd]
        unfold sh11_4
        try simp only [SSd, Nat.reduceAdd]
        refine rdB rfl ?_
        refine stP _ rfl rfl rfl rfl ?_
        refine drawC ?_
        try simp only [SSd, Nat.reduceAdd]
        refine rdbS ?_
        refine rdBS rfl ?_
        refine bld_one rfl (by omega) rfl (fun X1 u hX1 => ?_)
        refine keepC (Ext.refl _) ?_
        have hvl : r.vs.length ≤ 100000000 := hvs r (by simp)
        refine app_own (X := Y') (news := verC (resV' a r)) rfl gv (hX1.news (fun x hx => List.mem_append_left _ hx)) (one_all rfl) (by simp only; omega) (by simp only; omega) (fun Y2 sl2 hY2 => ?_)
        obtain ⟨sa3, sc3, rfl⟩ := hY2.form
        try simp only [SSd, Nat.reduceAdd]
        refine st1 rfl ?_
        refine bs_N (h1.mono hI') (Ext.refl _) ?_
        refine rdB rfl ?_
        have hv2 : VsO Y2 (.slice sa3 (r.vs.length + 1) sc3) (r.vs ++ [resV' a r]) := by
          unfold VsO
          rw [versC_append, List.length_append]
          exact hY2
        have hS2 := gX.close ⟨k, r.vs ++ [resV' a r], noIt⟩ _ Y2 ((p', cellO (.slice sa3 (r.vs.length + 1) sc3) noIt) :: (Y2 ++ R')) rfl hv2 (List.Perm.refl _)
        have hvalL : r.it.ver.fValue.length ≤ 10000 := by
          rcases p2.it with h | ⟨_, h⟩
          · rw [h]; simp [noIt]
          · exact h.len
        refine call (Cal.perm (L' := ((p', cellO (.slice sa3 (r.vs.length + 1) sc3) noIt) :: (Y2 ++ R')) ++ ((bv, verO (resV' a r)) :: (bat, stO a) :: (X1 ++ F))) (ms_perm (by ((try simp only [ms_cons, ms_app, ms_nil, ms_nil']); (try ac_rfl)))) ?_)
        refine noteVersion_spec (v := resV' a r) hS2 (k3 rfl) (by omega) (by simp only [resV']; omega) (fun X2 I2 hI2 h2 => ?_)
        have hs2 : SrtK (keysOf (A ++ ⟨k, r.vs ++ [resV' a r], noIt⟩ :: B)) := by rw [keys_swap (r := r) hkr.symm]; exact hs
        refine res5_spec (X := X2) (F := F) (h1.mono (hI'.trans hI2)) ⟨_, h2⟩ hm rfl hs2 (by simpa using hlen) (fun X3 h3 => ?_)
        have hk' := hk X3 I2 (hI'.trans hI2)
        rw [hA'] at hk'
        refine hk' ?_
        have e2 : resS ⟨A ++ r :: B, fl⟩ k txn true a = ⟨if emptyB ⟨k, r.vs ++ [resV' a r], noIt⟩ = true then A ++ B else A ++ ⟨k, r.vs ++ [resV' a r], noIt⟩ :: B, fl⟩ := by
          unfold resS; rw [hA']
          simp only [if_true]
          rw [updR_mid hm hkr, tidyR_mid (fun x hx => (p1 x hx).some) (fun x hx => (p3 x hx).some)]
          rw [show resR true a r = ⟨k, r.vs ++ [resV' a r], noIt⟩ from by simp [resR, hkr, resV']]
        have e3 : resN ⟨A ++ r :: B, fl⟩ k txn true a nt = updN (updN nt (105 :: k) (true, [])) (vkey k (resV' a r)) (false, verText (resV' a r)) := by
          unfold resN; rw [hA']
          simp only [if_true]
          rw [rowOf_mid hm hkr]
          rfl
        rw [e2, e3]
        exact h3
      cases hl : r.vs.getLast? with
      | none =>
        have hv0 : r.vs = [] := List.getLast?_eq_none_iff.1 hl
        have eg : decide ((0 : Int) < ((r.vs.length : Nat) : Int)) = false := by rw [hv0]; rfl
        have hA' : resA ⟨A ++ r :: B, fl⟩ k txn true a = (true, 0) := by
          rw [hA, hl, if_neg]
          rintro ⟨_, h | h⟩
          · rw [h] at e2; cases e2
          · cases h
        have htail := tail hA'
        simp only [SSd, Nat.reduceAdd] at htail
        simp only [eg, SSd, Nat.reduceAdd]
        exact htail
      | some v =>
        obtain ⟨hv0, hlx⟩ := last_ix hl
        have eg : decide ((0 : Int) < ((r.vs.length : Nat) : Int)) = true := by simpa using hv0
        simp only [eg, SSd, Nat.reduceAdd]
        refine rdBS rfl ?_
        refine rdbS ?_
        have hvl : r.vs.length ≤ 100000000 := hvs r (by simp)
        rw [wrap_i64 _ (by omega)]
        have el : ((r.vs.length : Nat) : Int) - 1 = ((r.vs.length - 1 : Nat) : Int) := by omega
        rw [el]
        obtain ⟨qq, off, cc, hix, hl4, hcc, hcr⟩ := RL.ix (VsO.rl (I := I) (L := Y) hv (fun _ h => h)) (i := ((r.vs.length - 1 : Nat) : Int)) (by omega) (by omega)
        obtain rfl : cc = verC _ := hcc
        rw [hlx] at hcr
        obtain ⟨w1, w2, w3⟩ := verAt (hcr I Y (Ext.refl _) (fun _ h => h))
        simp only [hix, SSd, Nat.reduceAdd]
        refine rdNS (vs := [.int .i64 v.fAt.fWall, .int .i64 v.fAt.fLogic]) rfl (fun I' L' hS => w1.mono hS.1 (fun x hx => hS.2 _ (by simp [hx]))) ?_
        refine call (behind_spec (x := a) (y := v.fAt) ?_)
        try simp only [SSd, Nat.reduceAdd]
        refine br_split (fun e3 => ?_) (fun e3 => ?_)
        · have e3' : earlyB a r.vs.getLast? = true := by rw [hl]; simpa [earlyB] using e3
          rw [if_pos ⟨rfl, .inr e3'⟩] at hA
          exact back2 _ _ (same 1 hA)
        · have hA' : resA ⟨A ++ r :: B, fl⟩ k txn true a = (true, 0) := by
            rw [hA, hl, if_neg]
            rintro ⟨_, h | h⟩
            · rw [h] at e2; cases e2
            · simp only [earlyB] at h; rw [h] at e3; cases e3
          have htail := tail hA'
          simp only [SSd, Nat.reduceAdd] at htail
          exact htail
end
end Go.Proofs.YtmnnnoinfhiilaaDoor
