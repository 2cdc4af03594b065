/-
  The document's space is read: a span, what has changed.
-/
-- S3
import Derived.Test.YtmnnnoinfhiilaaDoorW
set_option linter.unusedSimpArgs false
set_option linter.unusedVariables false
namespace Go.Proofs.YtmnnnoinfhiilaaDoor
open Go.SL
set_option maxRecDepth 10000
section
variable {ω : Om} {I : Imm} {L : LH} {K : Value → M}
theorem inR_cons (p : TSpan) (r : Row) (rs : List Row) : inR p (r :: rs) = if inB p r.key = true then r :: inR p rs else inR p rs := by
  unfold inR; rw [List.filter_cons]
theorem rowOf_at {rows : List Row} (hs : SrtK (keysOf rows)) {i : Nat} (hi : i < rows.length) : rowOf rows rows[i].key = some rows[i] := by
  have e := split_at hi
  generalize rows[i] = r at e ⊢
  have hm : Mid (rows.take i) r.key (rows.drop (i + 1)) := SrtK.mid (e ▸ hs)
  conv => lhs; rw [e]
  exact rowOf_mid hm rfl
def scanR (m : TStamp) (txn most : Int) (rows : List Row) (acc : List TKV) : List TKV × Int × Int := if (acc.length : Int) = most then (acc, 0, 0) else scanL m txn most rows acc
theorem scanR_cons {m : TStamp} {txn most : Int} {r : Row} {rs : List Row} {acc : List TKV} (h : ¬ (acc.length : Int) = most) :
    scanR m txn most (r :: rs) acc = if (seen r m txn).2 ≠ 0 then ([], (seen r m txn).1.fBy, (seen r m txn).2) else scanR m txn most rs (push r (seen r m txn).1 acc) := by
  unfold scanR; rw [if_neg h]; rfl
abbrev rscL (b1 b2 : Nat) (v0 v1 : Value) (m : TStamp) (R : LH) : LH := (b2, .cells #[.int .i64 m.fWall, .int .i64 m.fLogic] 34 (0, 0)) :: (b1, .cells #[v0, v1] 47 (0, 0)) :: R
theorem rscan_spec {L0 : LH} [LSub L0 L] {b : Nat} {vV vI : Value} {sp : Sp} {p : TSpan} {pc : List Value} {m : TStamp} {txn most : Int} (hR : RefF I L0 b vV vI (versOf sp.rows) (intsOf sp.rows) sp.floor) (hok : SpOk sp) (hlen : sp.rows.length ≤ 100000000) (hn : versN sp.rows ≤ 100000000) (hp : TSpanV I p pc)
    (hk : ∀ I' v, Ext I I' → RL TKVV 2 I' [] v (scanF sp p m txn most).1 → K (.tuple #[v, .int .i64 (scanF sp p m txn most).2.1, .int .i64 (scanF sp p m txn most).2.2]) I' L) :
    Cal Tryd.prog ω 37 #[pt b, .agg pc.toArray, sv m, .int .i64 txn, .int .i64 most] K I L := by
  obtain ⟨v0, v1, rfl, hb0, hb1⟩ := hp
  have hs := hok.rise
  have hz : ∀ I', Bytes I' (.slice none 0 0) [] := fun I' => SlI.nil I' 1 none 0
  have bad : ∀ (b1 b2 : Nat), ((rightB m && readerB txn) = false ∨ most < 1) → Gh (K (.tuple #[.slice none 0 0, .int .i64 0, .int .i64 1])) I (rscL b1 b2 v0 v1 m L) := by
    intro b1 b2 hb
    have eg : scanF sp p m txn most = ([], 0, 1) := by unfold scanF; rw [if_pos hb]
    rw [eg] at hk
    exact Gh.to L (Gh.done (hk I _ (Ext.refl _) (RL.nil _ _)))
  refine cal37 ?_
  unfold sh37
  refine newI (fun b1 => newI (fun b2 => ?_))
  refine rdB rfl ?_
  refine call (rright_spec (x := m) ?_)
  refine call (rreader_spec ?_)
  try simp only [SSd, Nat.reduceAdd]
  refine gd_split (fun e => ?_) (fun e => bad _ _ (.inl (by have : rightB m = false := by simpa using e
                                                            rw [this]; rfl)))
  have k2 : rightB m = true := by simpa using e
  try simp only [SSd, Nat.reduceAdd]
  refine gd_split (fun e => ?_) (fun e => bad _ _ (.inl (by have : readerB txn = false := by simpa using e
                                                            rw [this]; simp)))
  have k3 : readerB txn = true := by simpa using e
  try simp only [SSd, Nat.reduceAdd]
  refine br_split (fun e => bad _ _ (.inr (by simpa using e))) (fun e => ?_)
  have k4 : ¬ most < 1 := by simpa using e
  have hf : ¬ ((rightB m && readerB txn) = false ∨ most < 1) := by rw [k2, k3]; simpa using k4
  have hc2 : Cells I L0 b 2 [.int .i64 sp.floor.fWall, .int .i64 sp.floor.fLogic] := by simpa using hR.head.sub (k := 2) (m := 2)
  refine drawC ?_
  try simp only [SSd, Nat.reduceAdd]
  refine rdNCS hc2 (Ext.refl _) rfl ?_
  refine rdBS rfl ?_
  refine call (rbehind_spec (x := sp.floor) (y := m) ?_)
  refine br_split (fun e2 => ?_) (fun e2 => ?_)
  · have eg : scanF sp p m txn most = ([], 0, 131) := by unfold scanF; rw [if_neg hf, if_pos e2]
    rw [eg] at hk
    exact Gh.to L (Gh.done (hk I _ (Ext.refl _) (RL.nil _ _)))
  have eg : scanF sp p m txn most = scanL m txn most (inR p sp.rows) [] := by unfold scanF; rw [if_neg hf, if_neg (by rw [e2]; simp)]
  rw [eg] at hk
  have hIl : (intsOf sp.rows).length ≤ 100000000 := by
    have := List.length_filter_le (fun r : Row => r.it.txn != 0) sp.rows
    simp [intsOf]; omega
  refine call (rkeys_spec (L0 := L0) hR (by rw [versN_len]; omega) (by omega) (fun XK kv hK => ?_))
  have hmk := mrgK_rows (out := []) hs (fun r hr => (hok.rows r hr).some) (fun l h => by simp at h)
  unfold vKeys iKeys at hmk
  rw [List.length_map, List.length_map, List.nil_append] at hmk
  rw [hmk] at hK
  have hkl : (keysOf sp.rows).length = sp.rows.length := by simp [keysOf]
  have h0 : scanR m txn most (inR p sp.rows) [] = scanL m txn most (inR p sp.rows) [] := by unfold scanR; rw [if_neg (by simp; omega)]
  refine loop (fun n s I' L' => Ext I I' ∧ ∃ (i : Nat) (XO : LH) (vo : Value) (acc : List TKV) (cells : List Value), n + i = sp.rows.length ∧ s = (.slice none 0 0, .int .i64 0, .int .i64 0, vo, .int .i64 i, ()) ∧ L' = XK ++ rscL b1 b2 v0 v1 m (XO ++ L) ∧
      SlO 92 2 XO vo cells acc.length ∧ Recs (TKVV I') 2 acc cells ∧ acc.length ≤ i ∧ (acc.length : Int) ≤ most ∧ scanR m txn most (inR p (sp.rows.drop i)) acc = scanL m txn most (inR p sp.rows) []) sp.rows.length
    ⟨Ext.refl _, 0, [], _, [], [], rfl, rfl, rfl, SlO.none _ _, rfl, by simp, by simp; omega, by simpa using h0⟩ ?_
  rintro n s I' L' ⟨hI, i, XO, vo, acc, cells, hni, rfl, rfl, hO, hRc, hai, hmost, hsc⟩
  have hR' := hR.mono (L' := L0) hI (fun _ h => h)
  obtain ⟨oa, oc, rfl⟩ := hO.form
  obtain ⟨ka, kc, rfl⟩ := hK.form
  have fin : scanL m txn most (inR p sp.rows) [] = (acc, 0, 0) → Gh (K (.tuple #[.slice oa acc.length oc, .int .i64 0, .int .i64 0])) I' (XK ++ rscL b1 b2 v0 v1 m (XO ++ L)) := by
    intro he
    rw [he] at hk
    refine Gh.to (XO ++ L) (SlO.freeze hO (fun I3 hI3 hSl => Gh.done ?_))
    exact hk I3 _ (hI.trans hI3) (RL.ofI hSl (hRc.imp fun x c h => h.mono hI3))
  unfold sh37_3
  try simp only [SSd, Nat.reduceAdd]
  refine gd_split (fun e3 => ?_) (fun e3 => ?_)
  rotate_left
  · have hil : ¬ i < sp.rows.length := by simpa [hkl] using e3
    refine fin ?_
    rw [← hsc, List.drop_eq_nil_of_le (by omega)]
    unfold scanR
    split <;> rfl
  have hil : i < sp.rows.length := by simpa [hkl] using e3
  try simp only [SSd, Nat.reduceAdd]
  refine br_split (fun e4 => ?_) (fun e4 => ?_)
  rotate_left
  · have hm' : (acc.length : Int) = most := by simp at e4; omega
    refine fin ?_
    rw [← hsc]; unfold scanR; rw [if_pos hm']
  have hlt : ¬ (acc.length : Int) = most := by simp at e4; omega
  have hrow := rowOf_at hs hil
  have hdrop : sp.rows.drop i = sp.rows[i] :: sp.rows.drop (i + 1) := List.drop_eq_getElem_cons hil
  have hkg : geti (keysOf sp.rows) (i : Int) = sp.rows[i].key := by rw [geti_nat (by omega)]; simp [keysOf]
  rw [hdrop] at hsc
  generalize sp.rows[i] = r at *
  obtain ⟨q, off, c, hix, hcl, hc, hcc⟩ := RL.ix (StrO.rl (I := I') (L := XK) hK (fun _ h => h)) (i := (i : Int)) (by omega) (by omega)
  obtain rfl : c = _ := hc
  rw [hkg] at hcc
  simp only [hix, SSd, Nat.reduceAdd]
  refine rdC (hcc I' XK (Ext.refl _) (fun _ h => h) 0 _ rfl) (Ext.refl _) ?_
  refine cvsb (fun ku I3 hI3 hKB => Gh.done ?_)
  obtain ⟨ga, gc, rfl⟩ := Bytes.form hKB
  refine rdB rfl ?_
  refine call (rin_spec (p := p) ⟨v0, v1, rfl, hb0.mono (hI.trans hI3), hb1.mono (hI.trans hI3)⟩ hKB ?_)
  try simp only [SSd, Nat.reduceAdd]
  have next : ∀ (I4 : Imm) (XO4 : LH) (v4 : Value) (acc4 : List TKV) (cells4 : List Value) (L4 : LH), Ext I' I4 → SubP (XK ++ rscL b1 b2 v0 v1 m (XO4 ++ L)) L4 → SlO 92 2 XO4 v4 cells4 acc4.length → Recs (TKVV I4) 2 acc4 cells4 → acc4.length ≤ i + 1 → (acc4.length : Int) ≤ most → scanR m txn most (inR p (sp.rows.drop (i + 1))) acc4 = scanL m txn most (inR p sp.rows) [] →
      sh37_5 ω (.slice none 0 0) (.int .i64 0) (.int .i64 0) v4 (.int .i64 i) (fun s' => Gh fun I2 L2 => ∃ m', m' < n ∧ Ext I I2 ∧ ∃ (i : Nat) (XO : LH) (vo : Value) (acc : List TKV) (cells : List Value), m' + i = sp.rows.length ∧ s' = (.slice none 0 0, .int .i64 0, .int .i64 0, vo, .int .i64 i, ()) ∧ L2 = XK ++ rscL b1 b2 v0 v1 m (XO ++ L) ∧
      SlO 92 2 XO vo cells acc.length ∧ Recs (TKVV I2) 2 acc cells ∧ acc.length ≤ i ∧ (acc.length : Int) ≤ most ∧ scanR m txn most (inR p (sp.rows.drop i)) acc = scanL m txn most (inR p sp.rows) []) (fun v => Gh (K v)) I4 L4 := by
    intro I4 XO4 v4 acc4 cells4 L4 hI4 hsub hO4 hR4 ha4 hm4 hs4
    unfold sh37_5
    try simp only [SSd, Nat.reduceAdd]
    rw [wrap_i64 _ (by omega)]
    exact Gh.to (XK ++ rscL b1 b2 v0 v1 m (XO4 ++ L)) (Gh.done ⟨n - 1, by omega, hI.trans hI4, i + 1, XO4, v4, acc4, cells4, by omega, rfl, rfl, hO4, hR4, ha4, hm4, hs4⟩)
  rw [inR_cons] at hsc
  refine br_split (fun e5 => ?_) (fun e5 => ?_)
  · have hin : inB p r.key = false := by simpa using e5
    rw [if_neg (by rw [hin]; simp)] at hsc
    exact next I3 XO _ acc cells _ hI3 inferInstance hO (hRc.imp fun x c h => h.mono hI3) (by omega) hmost hsc
  have hin : inB p r.key = true := by simpa using e5
  rw [if_pos hin, scanR_cons hlt] at hsc
  refine rdB rfl ?_
  have hg : getR sp.rows r.key m txn = seen r m txn := by unfold getR; rw [hrow]
  refine call (rread_spec (L0 := L0) (hR'.mono hI3 (fun _ h => h)) hok hKB hlen hn (fun w0 hw0 => ?_))
  rw [hg] at hw0 ⊢
  obtain ⟨wa, wc, rfl⟩ := Bytes.form hw0
  try simp only [SSd, Nat.reduceAdd]
  refine newI (fun b3 => ?_)
  refine stB rfl rfl (one_all rfl) ?_
  try simp only [SSd, Nat.reduceAdd]
  refine br_split (fun e6 => ?_) (fun e6 => ?_)
  · have e6' : (seen r m txn).2 ≠ 0 := by simpa using e6
    rw [if_pos e6'] at hsc
    rw [← hsc] at hk
    unfold sh37_6
    refine drawC ?_
    try simp only [SSd, Nat.reduceAdd]
    refine rdbS ?_
    exact Gh.to L (Gh.done (hk I3 _ (hI.trans hI3) (RL.nil _ _)))
  have e6' : ¬ (seen r m txn).2 ≠ 0 := by simpa using e6
  rw [if_neg e6'] at hsc
  try simp only [SSd, Nat.reduceAdd]
  refine rdb ?_
  refine br_split (fun e7 => ?_) (fun e7 => ?_)
  · have hpush : push r (seen r m txn).1 acc = acc ++ [⟨r.key, (seen r m txn).1.fValue⟩] := by unfold push; rw [if_pos e7]
    rw [hpush] at hsc
    unfold sh37_7
    try simp only [SSd, Nat.reduceAdd]
    refine rdb ?_
    try simp only [SSd, Nat.reduceAdd]
    refine rec_app (R := TKVV) (X6 := XO) (x := ⟨r.key, (seen r m txn).1.fValue⟩) rfl (by omega) hO (hRc.imp fun x c h => h.mono hI3) ⟨_, _, rfl, hKB, hw0⟩ rfl (one_all rfl) (by omega) (by omega) (fun X1 X6 v6 cells6 h6 hR6 => ?_)
    refine next I3 X6 v6 _ cells6 _ hI3 inferInstance h6 hR6 (by simp; omega) (by simp; omega) hsc
  · have hpush : push r (seen r m txn).1 acc = acc := by unfold push; rw [if_neg (by rw [e7]; simp)]
    rw [hpush] at hsc
    exact next I3 XO _ acc cells _ hI3 inferInstance hO (hRc.imp fun x c h => h.mono hI3) (by omega) hmost hsc
/-! ### What has changed -/
theorem lateB_any {a b : TStamp} {vs : List TVer} (h : vs.Pairwise fun x y => bhd y.fAt x.fAt = true) : lateB a b vs = vs.any fun v => bhd v.fAt a && !bhd v.fAt b := by
  rw [Bool.eq_iff_iff, List.any_eq_true]
  unfold lateB
  constructor
  · intro hl
    cases hu : upTo vs b with
    | none => rw [hu] at hl; cases hl
    | some v =>
      rw [hu] at hl
      have h1 : bhd v.fAt b = false := by
        unfold upTo at hu
        simpa using List.find?_some hu
      exact ⟨v, upTo_mem hu, by simp only at hl; rw [hl, h1]; rfl⟩
  · rintro ⟨v, hv, hc⟩
    simp only [Bool.and_eq_true, Bool.not_eq_true'] at hc
    cases hu : upTo vs b with
    | none =>
      unfold upTo at hu
      have := List.find?_eq_none.1 hu v (List.mem_reverse.2 hv)
      rw [hc.2] at this; simp at this
    | some u =>
      simp only
      unfold upTo at hu
      obtain ⟨h1, A, B, he, hA⟩ := List.find?_eq_some_iff_append.1 hu
      have e : vs = B.reverse ++ u :: A.reverse := by
        have := congrArg List.reverse he
        simpa using this
      rw [e] at hv h
      rcases List.mem_append.1 hv with hv | hv
      · exact bhd_trans ((List.pairwise_append.1 h).2.2 v hv u (List.mem_cons_self ..)) hc.1
      · rcases List.mem_cons.1 hv with rfl | hv
        · exact hc.1
        · have := hA v (List.mem_reverse.1 hv)
          rw [hc.2] at this; simp at this
def chV (p : TSpan) (a b : TStamp) (v : TVersion) : Bool := inB p v.fKey && (bhd v.fAt a && !bhd v.fAt b)
def chI (p : TSpan) (b : TStamp) (txn : Int) (x : TIntent) : Bool := inB p x.fKey && ((x.fTxn != txn) && !bhd x.fAt b)
theorem ch_any {p : TSpan} {a b : TStamp} {txn : Int} : ∀ {rows : List Row}, (∀ r ∈ rows, RowOk r) → ((versOf rows).any (chV p a b) || (intsOf rows).any (chI p b txn)) = (inR p rows).any (chR a b txn)
  | [], _ => rfl
  | r :: rs, h => by
    have ih := ch_any (p := p) (a := a) (b := b) (txn := txn) (rows := rs) (fun x hx => h x (List.mem_cons_of_mem _ hx))
    have hr := h r (List.mem_cons_self ..)
    rw [versOf_cons, intsOf_cons, inR_cons, List.any_append, List.any_append]
    have e1 : (r.vs.map (verF r.key)).any (chV p a b) = (inB p r.key && lateB a b r.vs) := by
      rw [lateB_any hr.rise, List.any_map]
      have ef : (chV p a b ∘ verF r.key) = fun x => inB p r.key && (bhd x.fAt a && !bhd x.fAt b) := rfl
      rw [ef]
      cases inB p r.key <;> simp
    have e2 : ((if r.it.txn = 0 then [] else [itF r]).any (chI p b txn)) = (inB p r.key && (r.it.txn != 0 && (r.it.txn != txn) && !bhd r.it.ver.fAt b)) := by
      by_cases h0 : r.it.txn = 0
      · rw [if_pos h0, h0]; simp
      · rw [if_neg h0]
        have h0' : (r.it.txn != 0) = true := by simpa using h0
        show (chI p b txn (itF r) || false) = _
        simp only [chI, itF, h0', Bool.true_and, Bool.or_false]
    rw [e1, e2]
    cases hb : inB p r.key with
    | false => simp only [Bool.false_and, Bool.false_or]; rw [if_neg (by simp)]; exact ih
    | true =>
      rw [if_pos rfl, List.any_cons, ← ih]
      unfold chR
      generalize (versOf rs).any (chV p a b) = w1
      generalize (intsOf rs).any (chI p b txn) = w2
      generalize lateB a b r.vs = w3
      generalize (r.it.txn != 0 && r.it.txn != txn && !bhd r.it.ver.fAt b) = w4
      cases w1 <;> cases w2 <;> cases w3 <;> cases w4 <;> rfl
abbrev rchL (b1 b2 b3 : Nat) (v0 v1 : Value) (fr to : TStamp) (R : LH) : LH := (b3, .cells #[.int .i64 to.fWall, .int .i64 to.fLogic] 34 (0, 0)) :: (b2, .cells #[.int .i64 fr.fWall, .int .i64 fr.fLogic] 34 (0, 0)) :: (b1, .cells #[v0, v1] 47 (0, 0)) :: R
theorem any_take {α : Type} {f : α → Bool} {l : List α} {i : Nat} (hi : i < l.length) : (l.take (i + 1)).any f = ((l.take i).any f || f l[i]) := by
  rw [take_snoc hi, List.any_append]; simp
theorem any_at {α : Type} {f : α → Bool} {l : List α} {i : Nat} (hi : i < l.length) (h : f l[i] = true) : l.any f = true := List.any_eq_true.2 ⟨_, List.getElem_mem hi, h⟩
theorem rchanged_spec {L0 : LH} [LSub L0 L] {b : Nat} {vV vI : Value} {sp : Sp} {p : TSpan} {pc : List Value} {fr to : TStamp} {txn : Int} (hR : RefF I L0 b vV vI (versOf sp.rows) (intsOf sp.rows) sp.floor) (hok : SpOk sp) (hlen : sp.rows.length ≤ 100000000) (hn : versN sp.rows ≤ 100000000) (hp : TSpanV I p pc)
    (hk : K (.tuple #[.bool (chF sp p fr to txn).1, .int .i64 (chF sp p fr to txn).2]) I L) :
    Cal Tryd.prog ω 38 #[pt b, .agg pc.toArray, sv fr, sv to, .int .i64 txn] K I L := by
  obtain ⟨v0, v1, rfl, hb0, hb1⟩ := hp
  have hp : TSpanV I p [v0, v1] := ⟨v0, v1, rfl, hb0, hb1⟩
  have bad : ∀ (b1 b2 b3 : Nat), ((rightB fr && readerB txn) = false ∨ rightB to = false) → Gh (K (.tuple #[.bool false, .int .i64 1])) I (rchL b1 b2 b3 v0 v1 fr to L) := by
    intro b1 b2 b3 hb
    have eg : chF sp p fr to txn = (false, 1) := by unfold chF; rw [if_pos hb]
    rw [eg] at hk
    exact Gh.to L (Gh.done hk)
  have hch := ch_any (p := p) (a := fr) (b := to) (txn := txn) hok.rows
  have hVl : (versOf sp.rows).length ≤ 100000000 := by rw [versN_len]; exact hn
  have hIl : (intsOf sp.rows).length ≤ 100000000 := by
    have := List.length_filter_le (fun r : Row => r.it.txn != 0) sp.rows
    simp [intsOf]; omega
  refine cal38 ?_
  unfold sh38
  refine newI (fun b1 => newI (fun b2 => newI (fun b3 => ?_)))
  refine rdB rfl ?_
  refine call (rright_spec (x := fr) ?_)
  refine rdB rfl ?_
  refine call (rright_spec (x := to) ?_)
  refine call (rreader_spec ?_)
  try simp only [SSd, Nat.reduceAdd]
  refine gd_split (fun e => ?_) (fun e => bad _ _ _ (.inl (by have : rightB fr = false := by simpa using e
                                                              rw [this]; rfl)))
  have k1 : rightB fr = true := by simpa using e
  try simp only [SSd, Nat.reduceAdd]
  refine gd_split (fun e => ?_) (fun e => bad _ _ _ (.inr (by simpa using e)))
  have k2 : rightB to = true := by simpa using e
  try simp only [SSd, Nat.reduceAdd]
  refine br_split (fun e => bad _ _ _ (.inl (by have : readerB txn = false := by simpa using e
                                                rw [this]; simp))) (fun e => ?_)
  have k3 : readerB txn = true := by simpa using e
  have hf : ¬ ((rightB fr && readerB txn) = false ∨ rightB to = false) := by rw [k1, k2, k3]; simp
  have hc2 : Cells I L0 b 2 [.int .i64 sp.floor.fWall, .int .i64 sp.floor.fLogic] := by simpa using hR.head.sub (k := 2) (m := 2)
  refine drawC ?_
  try simp only [SSd, Nat.reduceAdd]
  refine rdNCS hc2 (Ext.refl _) rfl ?_
  refine rdBS rfl ?_
  refine call (rbehind_spec (x := sp.floor) (y := fr) ?_)
  refine br_split (fun e2 => ?_) (fun e2 => ?_)
  · have eg : chF sp p fr to txn = (false, 131) := by unfold chF; rw [if_neg hf, if_pos e2]
    rw [eg] at hk
    exact Gh.to L (Gh.done hk)
  have eg : chF sp p fr to txn = ((inR p sp.rows).any (chR fr to txn), 0) := by unfold chF; rw [if_neg hf, if_neg (by rw [e2]; simp)]
  rw [eg, ← hch] at hk
  have hR1 := hR.vers
  have hR2 := hR.ints
  generalize versOf sp.rows = V at *
  generalize intsOf sp.rows = Is at *
  refine loop (fun n s I' L' => I' = I ∧ ∃ i : Nat, n + i = V.length ∧ s = (.bool false, .int .i64 0, .int .i64 i, ()) ∧ L' = rchL b1 b2 b3 v0 v1 fr to L ∧ (V.take i).any (chV p fr to) = false) V.length ⟨rfl, 0, rfl, rfl, rfl, by simp⟩ ?_
  rintro n s I' L' ⟨rfl, i, hni, rfl, rfl, hA⟩
  unfold sh38_3
  try simp only [SSd, Nat.reduceAdd]
  refine rdC (hR.head 0 _ rfl) (Ext.refl _) ?_
  simp only [RL.len hR1, SSd, Nat.reduceAdd]
  refine br_split (fun e3 => ?_) (fun e3 => ?_)
  · have hil : i < V.length := by simpa using e3
    have hat := any_take (f := chV p fr to) hil
    rw [hA, Bool.false_or] at hat
    obtain ⟨q, off, c, hix, hcl, hc, hcc⟩ := RL.ix hR1 (i := (i : Int)) (by omega) (by omega)
    rw [geti_nat hil] at hc
    have hanyV : chV p fr to V[i] = true → V.any (chV p fr to) = true := any_at hil
    generalize V[i] = v at *
    obtain ⟨w0, w1, rfl, h0, h1⟩ := hc
    have hcv := hcc I' [] (Ext.refl _) (fun _ h => h)
    have hst : Cells I' [] q (off + 1) [.int .i64 v.fAt.fWall, .int .i64 v.fAt.fLogic] := by simpa using hcv.sub (k := 1) (m := 2)
    have next : ∀ (hno : chV p fr to v = false), Gh (fun I2 L2 => ∃ m', m' < n ∧ I2 = I' ∧ ∃ j : Nat, m' + j = V.length ∧ ((Value.bool false, Value.int .i64 0, Value.int .i64 ((i : Int) + 1), ()) : Value × Value × Value × Unit) = (.bool false, .int .i64 0, .int .i64 j, ()) ∧ L2 = rchL b1 b2 b3 v0 v1 fr to L ∧ (V.take j).any (chV p fr to) = false) I' (rchL b1 b2 b3 v0 v1 fr to L) :=
      fun hno => Gh.done ⟨n - 1, by omega, rfl, i + 1, by omega, rfl, rfl, by rw [hat, hno]⟩
    refine drawC ?_
    refine rdBS rfl ?_
    try simp only [SSd, Nat.reduceAdd]
    refine rdCS (hR.head 0 _ rfl) (Ext.refl _) ?_
    simp only [hix, SSd, Nat.reduceAdd]
    refine rdCS (hcv 0 _ rfl) (Ext.refl _) ?_
    refine call (rin_spec hp h0 ?_)
    refine drawC ?_
    try simp only [SSd, Nat.reduceAdd]
    refine rdCS (hR.head 0 _ rfl) (Ext.refl _) ?_
    simp only [hix, SSd, Nat.reduceAdd]
    refine rdNCS hst (Ext.refl _) rfl ?_
    refine rdBS rfl ?_
    refine call (rbehind_spec (x := v.fAt) (y := fr) ?_)
    refine drawC ?_
    try simp only [SSd, Nat.reduceAdd]
    refine rdCS (hR.head 0 _ rfl) (Ext.refl _) ?_
    simp only [hix, SSd, Nat.reduceAdd]
    refine rdNCS hst (Ext.refl _) rfl ?_
    refine rdBS rfl ?_
    refine call (rbehind_spec (x := v.fAt) (y := to) ?_)
    simp only [wrap_i64 ((i : Int) + 1) (by omega), SSd, Nat.reduceAdd]
    refine gd_split (fun c1 => ?_) (fun c1 => next (by unfold chV; rw [Bool.eq_false_iff.2 c1]; rfl))
    refine gd_split (fun c2 => ?_) (fun c2 => next (by unfold chV; rw [Bool.eq_false_iff.2 c2]; simp))
    refine br_split (fun c3 => ?_) (fun c3 => next (by unfold chV; rw [c3]; simp))
    have hy := hanyV (by unfold chV; rw [c1, c2, c3]; rfl)
    rw [hy, Bool.true_or] at hk
    exact Gh.to L (Gh.done hk)
  have hiV : i = V.length := by simp at e3; omega
  subst hiV
  rw [List.take_length] at hA
  rw [hA, Bool.false_or] at hk
  unfold sh38_6
  refine loop (fun n s I2 L' => I2 = I' ∧ ∃ i : Nat, n + i = Is.length ∧ s = (.bool false, .int .i64 0, .int .i64 i, ()) ∧ L' = rchL b1 b2 b3 v0 v1 fr to L ∧ (Is.take i).any (chI p to txn) = false) Is.length ⟨rfl, 0, rfl, rfl, rfl, by simp⟩ ?_
  rintro n2 s2 I2 L2 ⟨rfl, i, hni2, rfl, rfl, hA2⟩
  unfold sh38_7
  try simp only [SSd, Nat.reduceAdd]
  refine rdC (hR.head 1 _ rfl) (Ext.refl _) ?_
  simp only [RL.len hR2, SSd, Nat.reduceAdd]
  refine br_split (fun e4 => ?_) (fun e4 => ?_)
  · have hil : i < Is.length := by simpa using e4
    have hat := any_take (f := chI p to txn) hil
    rw [hA2, Bool.false_or] at hat
    obtain ⟨q, off, c, hix, hcl, hc, hcc⟩ := RL.ix hR2 (i := (i : Int)) (by omega) (by omega)
    rw [geti_nat hil] at hc
    have hanyI : chI p to txn Is[i] = true → Is.any (chI p to txn) = true := any_at hil
    generalize Is[i] = v at *
    obtain ⟨w0, w1, rfl, h0, h1⟩ := hc
    have hcv := hcc I2 [] (Ext.refl _) (fun _ h => h)
    have hst : Cells I2 [] q (off + 2) [.int .i64 v.fAt.fWall, .int .i64 v.fAt.fLogic] := by simpa using hcv.sub (k := 2) (m := 2)
    have next : ∀ (hno : chI p to txn v = false), Gh (fun I3 L3 => ∃ m', m' < n2 ∧ I3 = I2 ∧ ∃ j : Nat, m' + j = Is.length ∧ ((Value.bool false, Value.int .i64 0, Value.int .i64 ((i : Int) + 1), ()) : Value × Value × Value × Unit) = (.bool false, .int .i64 0, .int .i64 j, ()) ∧ L3 = rchL b1 b2 b3 v0 v1 fr to L ∧ (Is.take j).any (chI p to txn) = false) I2 (rchL b1 b2 b3 v0 v1 fr to L) :=
      fun hno => Gh.done ⟨n2 - 1, by omega, rfl, i + 1, by omega, rfl, rfl, by rw [hat, hno]⟩
    refine drawC ?_
    refine rdBS rfl ?_
    try simp only [SSd, Nat.reduceAdd]
    refine rdCS (hR.head 1 _ rfl) (Ext.refl _) ?_
    simp only [hix, SSd, Nat.reduceAdd]
    refine rdCS (hcv 0 _ rfl) (Ext.refl _) ?_
    refine call (rin_spec hp h0 ?_)
    refine drawC ?_
    try simp only [SSd, Nat.reduceAdd]
    refine rdCS (hR.head 1 _ rfl) (Ext.refl _) ?_
    simp only [hix, SSd, Nat.reduceAdd]
    refine rdNCS hst (Ext.refl _) rfl ?_
    refine rdBS rfl ?_
    refine call (rbehind_spec (x := v.fAt) (y := to) ?_)
    simp only [wrap_i64 ((i : Int) + 1) (by omega), SSd, Nat.reduceAdd]
    refine gd_split (fun c1 => ?_) (fun c1 => next (by unfold chI; rw [Bool.eq_false_iff.2 c1]; rfl))
    try simp only [SSd, Nat.reduceAdd]
    refine rdC (hR.head 1 _ rfl) (Ext.refl _) ?_
    simp only [hix, SSd, Nat.reduceAdd]
    refine rdC (hcv 1 _ rfl) (Ext.refl _) ?_
    try simp only [SSd, Nat.reduceAdd]
    refine gd_split (fun c2 => ?_) (fun c2 => next (by unfold chI; rw [Bool.eq_false_iff.2 c2]; simp))
    try simp only [SSd, Nat.reduceAdd]
    refine br_split (fun c3 => ?_) (fun c3 => next (by unfold chI; rw [c3]; simp))
    have hy := hanyI (by unfold chI; rw [c1, c2, c3]; rfl)
    rw [hy] at hk
    exact Gh.to L (Gh.done hk)
  have hiI : i = Is.length := by simp at e4; omega
  subst hiI
  rw [List.take_length] at hA2
  rw [hA2] at hk
  exact Gh.to L (Gh.done hk)
end
end Go.Proofs.YtmnnnoinfhiilaaDoor
