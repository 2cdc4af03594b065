/-
  Lemmas, part 6: laid together by a program.
-/
import Derived.Test.YtmmfcgbfbcamcaaGreatDoorP5
-- S3
set_option linter.unusedSimpArgs false
set_option linter.unusedVariables false
namespace Go.Proofs.YtmmfcgbfbcamcaaGreatDoor
open Go.SL
set_option maxRecDepth 10000
def colI (fl : TStamp) (rows : List Row) (i : Nat) : List Row := tidyR ((rows.take i).map (colR fl)) ++ rows.drop i
def goneR (fl : TStamp) (r : Row) : Nat := r.vs.length - (colR fl r).vs.length
def goneC (fl : TStamp) (rows : List Row) : Nat := (rows.map (goneR fl)).sum
def noteR1 (fl : TStamp) (nt : Nts) (r : Row) : Nts := match upTo r.vs fl with
  | none => nt
  | some k => goneN r.key (r.vs.filter (oldB k)) nt
def noteC (fl : TStamp) (rows : List Row) (nt : Nts) : Nts := rows.foldl (noteR1 fl) nt
def colN (sp : Sp) (b : TStamp) (nt : Nts) : Nts := if rightB b = false then nt else noteC (colFl sp b) sp.rows (if bhd b sp.floor = true then updN nt [102] (false, stF b) else nt)
theorem colI_srt {fl : TStamp} {rows : List Row} (hs : SrtK (keysOf rows)) (i : Nat) : SrtK (keysOf (colI fl rows i)) := by
  have h : (keysOf (colI fl rows i)).Sublist (keysOf rows) := by
    unfold colI
    conv => rhs; rw [← List.take_append_drop i rows]
    simp only [keysOf, List.map_append]
    refine List.Sublist.append ?_ (List.Sublist.refl _)
    have e : (rows.take i).map (·.key) = ((rows.take i).map (colR fl)).map (·.key) := by rw [List.map_map]; exact List.map_congr_left fun x _ => (colR_key fl x).symm
    rw [e]
    exact List.Sublist.map _ List.filter_sublist
  exact List.Pairwise.sublist h hs
theorem colI_at {fl : TStamp} {rows : List Row} {i : Nat} (hi : i < rows.length) : colI fl rows i = tidyR ((rows.take i).map (colR fl)) ++ rows[i] :: rows.drop (i + 1) := by
  unfold colI; rw [List.drop_eq_getElem_cons hi]
theorem colI_succ {fl : TStamp} {rows : List Row} {i : Nat} (hi : i < rows.length) : colI fl rows (i + 1) = if emptyB (colR fl rows[i]) = true then tidyR ((rows.take i).map (colR fl)) ++ rows.drop (i + 1) else tidyR ((rows.take i).map (colR fl)) ++ colR fl rows[i] :: rows.drop (i + 1) := by
  unfold colI
  rw [take_snoc hi, List.map_append]
  unfold tidyR
  rw [List.filter_append]
  by_cases h : emptyB (colR fl rows[i]) = true <;> simp [h]
theorem goneR_le (fl : TStamp) (r : Row) : goneR fl r + (colR fl r).vs.length = r.vs.length := by
  have := (colR_sub fl r).length_le
  unfold goneR; omega
theorem filter_sum {α : Type} (f : α → Bool) : ∀ l : List α, (l.filter f).length + (l.filter fun x => !f x).length = l.length
  | [] => rfl
  | x :: l => by
    have := filter_sum f l
    by_cases h : f x = true <;> simp [h] <;> omega
theorem goneR_some {fl : TStamp} {r : Row} {k : TVer} (h : upTo r.vs fl = some k) : goneR fl r = (r.vs.filter (oldB k)).length := by
  have e : (colR fl r).vs = r.vs.filter fun v => !oldB k v := by unfold colR; rw [h]
  have := filter_sum (oldB k) r.vs
  unfold goneR
  rw [e]; omega
theorem goneR_none {fl : TStamp} {r : Row} (h : upTo r.vs fl = none) : goneR fl r = 0 := by
  have e : (colR fl r).vs = r.vs := by unfold colR; rw [h]
  unfold goneR
  rw [e]; omega
theorem versN_tidy (rows : List Row) : versN (tidyR rows) = versN rows := by
  induction rows with
  | nil => rfl
  | cons r rs ih =>
    unfold tidyR versN at *
    rw [List.filter_cons]
    by_cases h : emptyB r = true
    · have hv : r.vs = [] := by
        simp [emptyB] at h; exact h.1
      simp [h, hv]; exact ih
    · simp [h]; exact ih
theorem versN_gone (fl : TStamp) (rows : List Row) : versN (rows.map (colR fl)) + goneC fl rows = versN rows := by
  induction rows with
  | nil => rfl
  | cons r rs ih =>
    have := goneR_le fl r
    simp [versN, goneC] at ih ⊢; omega
theorem goneC_take {fl : TStamp} {rows : List Row} {i : Nat} (hi : i < rows.length) : goneC fl (rows.take (i + 1)) = goneC fl (rows.take i) + goneR fl rows[i] := by
  unfold goneC; rw [take_snoc hi, List.map_append, List.sum_append]; simp only [List.map_cons, List.map_nil, List.sum_cons, List.sum_nil, Nat.add_zero]
theorem noteC_take {fl : TStamp} {rows : List Row} {i : Nat} (hi : i < rows.length) (nt : Nts) : noteC fl (rows.take (i + 1)) nt = noteR1 fl (noteC fl (rows.take i) nt) rows[i] := by
  unfold noteC; rw [take_snoc hi, List.foldl_append]; rfl
section
variable {ω : Om} {I : Imm} {L : LH} {K : Value → M}
theorem col5_spec {b bl bd bg bb bs bk p : Nat} {kp : TVer} {g i : Nat} {k : List UInt8} {A B : List Row} {r : Row} {fl below : TStamp} {nt : Nts} {ps : List Nat} {sl : Value} {Y XN R XC F : LH} {m ch : Nat} {kv : Value} {Kn0 : (Value × Unit) → M}
    (hm : Mid A k B) (hkr : r.key = k) (hs : SrtK (keysOf (A ++ r :: B))) (hlen : (A ++ r :: B).length ≤ 100000000) (hvs : ∀ v ∈ r.vs, rightB v.fAt = true) (hg : g + r.vs.length ≤ 1000000000) (hkl : k.length ≤ 1000) (hi : i < 1000000000)
    (hv : VsO Y sl r.vs) (hN : NoteR I b m ch kv fl XN nt)
    (hclose : ∀ I' r' sl' Y' XN' X' nt', Ext I I' → r'.key = k → VsO Y' sl' r'.vs → NoteR I' b m ch kv fl XN' nt' → X'.Perm ((p, cellO sl' r'.it) :: (Y' ++ (XN' ++ R))) → SpP I' b ps X' ⟨A ++ r' :: B, fl⟩ nt')
    (hL : L.Perm ((p, cellO sl r.it) :: (Y ++ (cloL bl bd bg bs bk b kp g k XN ++ ((bb, stO below) :: (R ++ (XC ++ F)))))))
    (hk : ∀ I' X', Ext I I' → SpR I' b X' ⟨if emptyB ⟨k, r.vs.filter (fun v => !oldB kp v), r.it⟩ = true then A ++ B else A ++ ⟨k, r.vs.filter (fun v => !oldB kp v), r.it⟩ :: B, fl⟩ (goneN k (r.vs.filter (oldB kp)) nt) →
      Gh (Kn0 (.int .i64 ((i : Int) + 1), ())) I' ((bg, .cells #[.int .i64 ((g + (r.vs.filter (oldB kp)).length : Nat) : Int)] 3 (0, 0)) :: (bb, stO below) :: (bs, .cells #[pt b] 99 (0, 0)) :: (XC ++ (X' ++ F)))) :
    sh162_5 ω (pt bs) (pt bg) (pt bk) (pt p) (pt bl) (pt bd) (.int .i64 i) (fun s => Gh (Kn0 s)) (fun v => Gh (K v)) I L := by
  have hmem : (p, cellO sl r.it) ∈ L := hL.mem_iff.2 (List.mem_cons_self ..)
  unfold sh162_5
  try simp only [SSd, Nat.reduceAdd]
  refine rd1 (Cell.own hmem rfl) ?_
  have hvl : r.vs.length ≤ 1000000000 := by omega
  refine callG (Cal.perm (L' := Y ++ (cloL bl bd bg bs bk b kp g k XN ++ ((p, cellO sl r.it) :: (bb, stO below) :: (R ++ (XC ++ F))))) (ms_perm (by rw [ms_eq hL]; ((try simp only [ms_cons, ms_app, ms_nil, ms_nil']); (try ac_rfl)))) ?_)
  refine delF_spec (G := cloL bl bd bg bs bk b kp g k XN) (clo71 (nt := nt) (m := m) (ch := ch) (kv := kv) (fl := fl) (g0 := g) hvs hg hkl) hv hvl ⟨XN, rfl, hN⟩ (fun I' G' Y' v' hI ⟨XN', hG', hN'⟩ hv' => ?_)
  subst hG'
  obtain ⟨sa, sc, rfl⟩ := hv'.form
  refine Gh.perm (L' := (p, cellO sl r.it) :: (Y' ++ (cloL bl bd bg bs bk b kp (g + (r.vs.filter (oldB kp)).length) k XN' ++ ((bb, stO below) :: (R ++ (XC ++ F)))))) (ms_perm (by ((try simp only [ms_cons, ms_app, ms_nil, ms_nil']); (try ac_rfl)))) (Gh.done ?_)
  try simp only [SSd, Nat.reduceAdd]
  refine st1 rfl ?_
  have hS2 := hclose I' ⟨k, r.vs.filter (fun v => !oldB kp v), r.it⟩ _ Y' XN' ((p, cellO (.slice sa (r.vs.filter (fun v => !oldB kp v)).length sc) r.it) :: (Y' ++ (XN' ++ R))) _ hI rfl hv' hN' (List.Perm.refl _)
  refine rdb ?_
  refine rdb ?_
  refine call (Cal.perm (L' := ((p, cellO (.slice sa (r.vs.filter (fun v => !oldB kp v)).length sc) r.it) :: (Y' ++ (XN' ++ R))) ++ ((bl, stO kp.fAt) :: (bd, .cells #[.bool kp.fDel] 4 (0, 0)) :: (bg, .cells #[.int .i64 ((g + (r.vs.filter (oldB kp)).length : Nat) : Int)] 3 (0, 0)) :: (bs, .cells #[pt b] 99 (0, 0)) :: (bk, .cells #[sstr k] 9 (0, 0)) :: (bb, stO below) :: (XC ++ F))) (ms_perm (by ((try simp only [ms_cons, ms_app, ms_nil, ms_nil']); (try ac_rfl)))) ?_)
  refine tidy_spec ⟨ps, hS2⟩ hm rfl (by rw [keys_swap (r := r) hkr.symm]; exact hs) (by simpa using hlen) (fun X3 h3 => ?_)
  unfold sh162_4
  try simp only [SSd, Nat.reduceAdd]
  rw [wrap_i64 _ (by omega)]
  refine Gh.to ((bg, .cells #[.int .i64 ((g + (r.vs.filter (oldB kp)).length : Nat) : Int)] 3 (0, 0)) :: (bb, stO below) :: (bs, .cells #[pt b] 99 (0, 0)) :: (XC ++ (X3 ++ F))) ?_
  exact hk I' X3 hI h3
theorem colI_zero (fl : TStamp) (rows : List Row) : colI fl rows 0 = rows := by simp [colI, tidyR]
theorem colI_all (fl : TStamp) (rows : List Row) : colI fl rows rows.length = tidyR (rows.map (colR fl)) := by simp [colI]
theorem colI_len (fl : TStamp) (rows : List Row) (i : Nat) : (colI fl rows i).length ≤ rows.length := by
  unfold colI tidyR
  rw [List.length_append]
  have h1 := List.length_filter_le (fun r => !emptyB r) ((rows.take i).map (colR fl))
  simp at h1 ⊢
  omega
abbrev colL (b bs bb bg : Nat) (below : TStamp) (g : Nat) (R : LH) : LH := (bg, .cells #[.int .i64 g] 3 (0, 0)) :: (bb, stO below) :: (bs, .cells #[pt b] 99 (0, 0)) :: R
theorem col1_spec {b bs bb : Nat} {rows : List Row} {fl below : TStamp} {nt : Nts} {X F : LH} (hS : SpR I b X ⟨rows, fl⟩ nt) (hok : SpOk ⟨rows, fl⟩) (hlen : rows.length ≤ 100000000) (hn : versN rows ≤ 100000000)
    (hk : ∀ I' X', Ext I I' → SpR I' b X' ⟨tidyR (rows.map (colR fl)), fl⟩ (noteC fl rows nt) → K (.tuple #[.int .i64 (goneC fl rows : Nat), .int .i64 0]) I' (X' ++ F)) :
    sh162_1 ω (pt bs) (.int .i64 0) (.int .i64 0) (fun v => Gh (K v)) I ((bb, stO below) :: (bs, .cells #[pt b] 99 (0, 0)) :: (X ++ F)) := by
  have hs := hok.rise
  simp only at hs
  unfold sh162_1
  refine newI (fun bg => ?_)
  refine st1 rfl ?_
  refine rdb ?_
  obtain ⟨m0, kv0, es0, clock0, ps0, hV0⟩ := hS.view (L := (bg, .cells #[.int .i64 0] 3 (0, 0)) :: (bb, stO below) :: (bs, .cells #[pt b] 99 (0, 0)) :: (X ++ F)) (fun x hx => by simp [hx])
  try simp only [SSd, Nat.reduceAdd]
  refine rdC (hV0.head 1 _ rfl) (Ext.refl _) ?_
  have hkl : (keysOf rows).length = rows.length := by simp [keysOf]
  refine callG (clone_spec hV0.keys (by show (keysOf rows).length * 16 ≤ _; rw [hkl]; omega) (fun XC cv hC => Gh.perm (L' := colL b bs bb bg below 0 (XC ++ (X ++ F))) (ms_perm (by ((try simp only [ms_cons, ms_app, ms_nil, ms_nil']); (try ac_rfl)))) (Gh.done ?_)))
  obtain ⟨ca, cc, rfl⟩ := hC.form
  try simp only [SSd, Nat.reduceAdd]
  simp only at hC ⊢
  rw [hkl]
  have hgt : ∀ i, goneC fl (rows.take i) ≤ 100000000 := by
    intro i
    have h1 := versN_gone fl (rows.take i)
    have h2 : versN (rows.take i) ≤ versN rows := versN_sub (List.take_sublist ..)
    omega
  refine loop (fun n s I' L' => Ext I I' ∧ ∃ (i : Nat) (X' : LH), n + i = rows.length ∧ s = (.int .i64 i, ()) ∧ L' = colL b bs bb bg below (goneC fl (rows.take i)) (XC ++ (X' ++ F)) ∧ SpR I' b X' ⟨colI fl rows i, fl⟩ (noteC fl (rows.take i) nt)) rows.length
    ⟨Ext.refl _, 0, X, rfl, rfl, rfl, by rw [colI_zero]; exact hS⟩ ?_
  rintro n s I' L' ⟨hI, i, X', hni, rfl, rfl, hS'⟩
  unfold sh162_2
  try simp only [SSd, Nat.reduceAdd]
  refine br_split (fun e => ?_) (fun e => ?_)
  rotate_left
  · have hil : i = rows.length := by simp at e; omega
    subst hil
    rw [List.take_length] at hS' ⊢
    rw [colI_all] at hS'
    unfold sh162_7
    refine rdb ?_
    exact Gh.to (X' ++ F) (Gh.done (hk I' X' hI hS'))
  have hil : i < rows.length := by simpa using e
  have hok1 := hok.rows rows[i] (List.getElem_mem hil)
  have hat := colI_at (fl := fl) hil
  have hsrt : SrtK (keysOf (tidyR ((rows.take i).map (colR fl)) ++ rows[i] :: rows.drop (i + 1))) := hat ▸ colI_srt hs i
  have hclen : (tidyR ((rows.take i).map (colR fl)) ++ rows[i] :: rows.drop (i + 1)).length ≤ 100000000 := by rw [← hat]; exact Nat.le_trans (colI_len ..) hlen
  rw [hat] at hS'
  have hsucc := colI_succ (fl := fl) hil
  have hgc := goneC_take (fl := fl) hil
  have hnc := noteC_take (fl := fl) hil nt
  have hgi := hgt i
  have hgs := hgt (i + 1)
  have hvl : rows[i].vs.length ≤ 100000000 := by
    have h1 : versN [rows[i]] ≤ versN rows := versN_sub (List.singleton_sublist.2 (List.getElem_mem hil))
    simp [versN] at h1 hn ⊢; omega
  have hkeyg : geti (keysOf rows) (i : Int) = rows[i].key := by rw [geti_nat (by omega)]; simp [keysOf]
  generalize rows[i] = r at *
  have hm := hsrt.mid
  obtain ⟨ps, hS'⟩ := hS'
  obtain ⟨p, sl, Y, XN, R, m, ch, kv, hp, hv, hN, hclose, hview⟩ := hS'.open2 hm rfl
  obtain ⟨qq, off, c2, hix, hl4, hcc, hcr⟩ := RL.ix (StrO.rl (I := I') (L := XC) hC (fun _ h => h)) (i := (i : Int)) (by omega) (by rw [hkl]; omega)
  obtain rfl : c2 = _ := hcc
  rw [hkeyg] at hcr
  rw [hkl] at hix
  simp only [hix, SSd, Nat.reduceAdd]
  refine rdC (hcr I' XC (Ext.refl _) (fun _ h => h) 0 _ rfl) (Ext.refl _) ?_
  refine newI (fun bk => ?_)
  refine st1 rfl ?_
  refine drawC ?_
  try simp only [SSd, Nat.reduceAdd]
  obtain ⟨m', kv', es', clock', hV, hcp⟩ := hview ((bk, .cells #[sstr r.key] 9 (0, 0)) :: colL b bs bb bg below (goneC fl (rows.take i)) (XC ++ (X' ++ F))) (fun x hx => by simp [hx])
  refine rdbS ?_
  try simp only [SSd, Nat.reduceAdd]
  refine rdCS (hV.head 0 _ rfl) (Ext.refl _) ?_
  refine rdbS ?_
  refine ⟨_, fun I2 L2 hS => lk_at (MapAt.mono hV.at' hS.1 (fun x hx => hS.2 _ (by simpa using hx))) hV.map, ?_⟩
  simp only [hcp, lkV, Bool.false_eq_true, if_false, SSd, Nat.reduceAdd]
  refine rdb ?_
  try simp only [SSd, Nat.reduceAdd]
  have hfl : Cells I' ((bk, .cells #[sstr r.key] 9 (0, 0)) :: colL b bs bb bg below (goneC fl (rows.take i)) (XC ++ (X' ++ F))) b 2 [.int .i64 fl.fWall, .int .i64 fl.fLogic] := by simpa using hV.head.sub (k := 2) (m := 2)
  refine rdNC hfl (Ext.refl _) rfl ?_
  refine call (upToP (hV.cellAt hsrt (rowOf_mid hm rfl) hcp) (by omega) (fun pv hpv => ?_))
  cases hu : upTo r.vs fl with
  | none =>
    rw [hu] at hpv
    obtain rfl : pv = .pointer none := hpv
    have en : binPV .eql (.pointer none) (.pointer none) = some (.bool true) := rfl
    simp only [en, SSd, Nat.reduceAdd]
    unfold sh162_4
    try simp only [SSd, Nat.reduceAdd]
    rw [wrap_i64 _ (by omega)]
    have hc : colR fl r = r := by unfold colR; rw [hu]
    rw [hc, hok1.some] at hsucc
    have hg0 := goneR_none hu
    rw [hg0] at hgc
    have hn1 : noteC fl (rows.take (i + 1)) nt = noteC fl (rows.take i) nt := by rw [hnc]; unfold noteR1; rw [hu]
    refine Gh.to (colL b bs bb bg below (goneC fl (rows.take i)) (XC ++ (X' ++ F))) (Gh.done ⟨n - 1, by omega, hI, i + 1, X', by omega, rfl, by rw [hgc]; rfl, ?_⟩)
    rw [hn1, hsucc]
    exact ⟨ps, hS'⟩
  | some kp =>
    rw [hu] at hpv
    obtain ⟨qq, off2, rfl, hc⟩ := hpv
    obtain ⟨g1, g2, g3⟩ := verAt hc
    try simp only [SSd, Nat.reduceAdd]
    refine drawC ?_
    try simp only [SSd, Nat.reduceAdd]
    refine rdNCS g1 (Ext.refl _) rfl ?_
    refine rdCS g2 (Ext.refl _) ?_
    have hcv : colR fl r = ⟨r.key, r.vs.filter (fun v => !oldB kp v), r.it⟩ := by unfold colR; rw [hu]
    have hg0 := goneR_some hu
    rw [hcv] at hsucc
    rw [hg0] at hgc
    have hn1 : noteC fl (rows.take (i + 1)) nt = goneN r.key (r.vs.filter (oldB kp)) (noteC fl (rows.take i) nt) := by rw [hnc]; unfold noteR1; rw [hu]
    have fin : ∀ I2 X2, Ext I' I2 → SpR I2 b X2 ⟨if emptyB ⟨r.key, r.vs.filter (fun v => !oldB kp v), r.it⟩ = true then tidyR ((rows.take i).map (colR fl)) ++ rows.drop (i + 1) else tidyR ((rows.take i).map (colR fl)) ++ ⟨r.key, r.vs.filter (fun v => !oldB kp v), r.it⟩ :: rows.drop (i + 1), fl⟩ (goneN r.key (r.vs.filter (oldB kp)) (noteC fl (rows.take i) nt)) →
        Gh ((fun s' => fun I2 L2 => ∃ m', m' < n ∧ Ext I I2 ∧ ∃ i X', m' + i = rows.length ∧ s' = (Value.int .i64 (i : Nat), ()) ∧ L2 = colL b bs bb bg below (goneC fl (rows.take i)) (XC ++ (X' ++ F)) ∧ SpR I2 b X' ⟨colI fl rows i, fl⟩ (noteC fl (rows.take i) nt)) (.int .i64 ((i : Int) + 1), ())) I2 ((bg, .cells #[.int .i64 ((goneC fl (rows.take i) + (r.vs.filter (oldB kp)).length : Nat) : Int)] 3 (0, 0)) :: (bb, stO below) :: (bs, .cells #[pt b] 99 (0, 0)) :: (XC ++ (X2 ++ F))) := by
      intro I2 X2 hI2 h2
      refine Gh.done ⟨n - 1, by omega, hI.trans hI2, i + 1, X2, by omega, rfl, by rw [hgc], ?_⟩
      rw [hn1, hsucc]
      exact h2
    refine And.intro ?_ ?_
    · refine newI (fun bl => keepC (Ext.refl _) ?_)
      refine newI (fun bd => keepC (Ext.refl _) ?_)
      refine stB rfl rfl (one_all rfl) ?_
      refine keepC (Ext.refl _) ?_
      refine st1 rfl ?_
      exact col5_spec (XC := XC) (Y := Y) (XN := XN) (R := R) (g := goneC fl (rows.take i)) (i := i) (kp := kp) (below := below) (F := F) hm rfl hsrt hclen (fun v hv => (hok1.vs v hv).right) (by omega) (by have := hok1.keyL; omega) (by omega) hv hN hclose (ms_perm (by simp only [ms_cons, ms_app, ms_eq hp]; ((try simp only [ms_cons, ms_app, ms_nil, ms_nil']); (try ac_rfl)))) fin
    · refine newI (fun bd => keepC (Ext.refl _) ?_)
      refine newI (fun bl => keepC (Ext.refl _) ?_)
      refine stB rfl rfl (one_all rfl) ?_
      refine keepC (Ext.refl _) ?_
      refine st1 rfl ?_
      exact col5_spec (XC := XC) (Y := Y) (XN := XN) (R := R) (g := goneC fl (rows.take i)) (i := i) (kp := kp) (below := below) (F := F) hm rfl hsrt hclen (fun v hv => (hok1.vs v hv).right) (by omega) (by have := hok1.keyL; omega) (by omega) hv hN hclose (ms_perm (by simp only [ms_cons, ms_app, ms_eq hp]; ((try simp only [ms_cons, ms_app, ms_nil, ms_nil']); (try ac_rfl)))) fin
theorem collect_spec {b : Nat} {sp : Sp} {below : TStamp} {nt : Nts} {X F : LH} (hS : SpR I b X sp nt) (hok : SpOk sp) (hlen : sp.rows.length ≤ 100000000) (hn : versN sp.rows ≤ 100000000)
    (hk : ∀ X' I', Ext I I' → SpR I' b X' (colS sp below) (colN sp below nt) → K (.tuple #[.int .i64 (colA sp below).1, .int .i64 (colA sp below).2]) I' (X' ++ F)) :
    Cal Tryz.prog ω 162 #[pt b, sv below] K I (X ++ F) := by
  obtain ⟨rows, fl⟩ := sp
  obtain ⟨ps, m, ch, kv, es, clock, KX, RX, NX, hp, hF⟩ := hS
  simp only at hp hF hlen hn
  by_cases hr : rightB below = false
  · have e1 : colS ⟨rows, fl⟩ below = ⟨rows, fl⟩ := by unfold colS; rw [if_pos hr]
    have e2 : colN ⟨rows, fl⟩ below nt = nt := by unfold colN; rw [if_pos hr]
    have e3 : colA ⟨rows, fl⟩ below = (0, 1) := by unfold colA; rw [if_pos hr]
    rw [e1, e2] at hk
    have hk' := hk X I (Ext.refl _) ⟨ps, m, ch, kv, es, clock, KX, RX, NX, hp, hF⟩
    rw [e3] at hk'
    refine cal162 ?_
    unfold sh162
    refine newI (fun bs => newI (fun bb => ?_))
    refine rdB rfl ?_
    refine call (hright_spec (x := below) ?_)
    simp only [hr, Bool.not_false, SSd, Nat.reduceAdd]
    exact Gh.to (X ++ F) (Gh.done hk')
  have e1 : colS ⟨rows, fl⟩ below = ⟨tidyR (rows.map (colR (colFl ⟨rows, fl⟩ below))), colFl ⟨rows, fl⟩ below⟩ := by unfold colS; rw [if_neg hr]
  have e2 : colN ⟨rows, fl⟩ below nt = noteC (colFl ⟨rows, fl⟩ below) rows (if bhd below fl = true then updN nt [102] (false, stF below) else nt) := by unfold colN; rw [if_neg hr]
  have e3 : colA ⟨rows, fl⟩ below = (((goneC (colFl ⟨rows, fl⟩ below) rows : Nat) : Int), 0) := by
    unfold colA
    rw [if_neg hr, e1]
    have h1 := versN_gone (colFl ⟨rows, fl⟩ below) rows
    have h2 := versN_tidy (rows.map (colR (colFl ⟨rows, fl⟩ below)))
    simp only [h2]
    congr 1
    omega
  rw [e1, e2] at hk
  rw [e3] at hk
  simp only at hk
  refine Cal.perm (L' := (b, spO m kv fl ch) :: (m, .map es clock) :: (KX ++ (RX ++ (NX ++ F)))) (ms_perm (by rw [ms_app, ms_eq hp]; ((try simp only [ms_cons, ms_app, ms_nil, ms_nil']); (try ac_rfl)))) ?_
  refine cal162 ?_
  unfold sh162
  refine newI (fun bs => newI (fun bb => ?_))
  refine rdB rfl ?_
  refine call (hright_spec (x := below) ?_)
  simp only [hr, Bool.not_true, SSd, Nat.reduceAdd]
  refine drawC ?_
  refine rdBS rfl ?_
  refine rdbS ?_
  try simp only [SSd, Nat.reduceAdd]
  refine rdPS [.int .i64 fl.fWall, .int .i64 fl.fLogic] rfl rfl ?_
  have hok2 : SpOk ⟨rows, colFl ⟨rows, fl⟩ below⟩ := ⟨hok.rise, hok.rows, by
    unfold colFl
    simp only
    split
    · simpa using hr
    · exact hok.floor⟩
  have hr' : rightB below = true := by simpa using hr
  by_cases hb : bhd below fl = true
  · have ef : colFl ⟨rows, fl⟩ below = below := if_pos hb
    rw [ef, if_pos hb] at hk
    rw [ef] at hok2
    refine call (behind_spec (x := below) (y := fl) ?_)
    simp only [hb, SSd, Nat.reduceAdd]
    refine rdb ?_
    refine rdB rfl ?_
    try simp only [SSd, Nat.reduceAdd]
    refine stP _ rfl rfl rfl rfl ?_
    try simp only [SSd, Nat.reduceAdd]
    refine rdb ?_
    refine callG (Cal.perm (L' := ((b, spO m kv below ch) :: (m, .map es clock) :: (KX ++ (RX ++ NX))) ++ ((bb, stO below) :: (bs, .cells #[pt b] 99 (0, 0)) :: F)) (ms_perm (by ((try simp only [ms_cons, ms_app, ms_nil, ms_nil']); (try ac_rfl)))) ?_)
    refine noteFloor_spec (sp := ⟨rows, below⟩) (ps := ps) (nt := nt) ⟨m, ch, kv, es, clock, KX, RX, NX, List.Perm.refl _, hF.map, hF.keys, hF.rows, hF.nts⟩ hr' (fun X' I' hI' h' => ?_)
    refine Gh.perm (L' := (bb, stO below) :: (bs, .cells #[pt b] 99 (0, 0)) :: (X' ++ F)) (ms_perm (by ((try simp only [ms_cons, ms_app, ms_nil, ms_nil']); (try ac_rfl)))) (Gh.done ?_)
    exact col1_spec ⟨ps, h'⟩ hok2 hlen hn (fun I2 X2 hI2 h2 => hk X2 I2 (hI'.trans hI2) h2)
  · have ef : colFl ⟨rows, fl⟩ below = fl := if_neg hb
    rw [ef, if_neg hb] at hk
    rw [ef] at hok2
    refine callG (behind_spec (x := below) (y := fl) ?_)
    refine Gh.perm (L' := (bb, stO below) :: (bs, .cells #[pt b] 99 (0, 0)) :: (X ++ F)) (ms_perm (by simp only [ms_cons, ms_app, ms_eq hp]; ((try simp only [ms_cons, ms_app, ms_nil, ms_nil']); (try ac_rfl)))) (Gh.done ?_)
    simp only [Bool.eq_false_iff.2 hb, SSd, Nat.reduceAdd]
    exact col1_spec ⟨ps, m, ch, kv, es, clock, KX, RX, NX, hp, hF⟩ hok2 hlen hn (fun I2 X2 hI2 h2 => hk X2 I2 hI2 h2)
end
end Go.Proofs.YtmmfcgbfbcamcaaGreatDoor
-- S3
set_option linter.unusedSimpArgs false
set_option linter.unusedVariables false
namespace Go.Proofs.YtmmfcgbfbcamcaaGreatDoor
open Go.SL
set_option maxRecDepth 10000
theorem Bytes.drop {I : Imm} {v : Value} {l : List UInt8} {n : Nat} (h : Bytes I v l) (hn : n ≤ l.length) : ∃ v', slcV 1 v (some (.int .i64 n)) none none = some v' ∧ Bytes I v' (l.drop n) := by
  obtain ⟨v', h1, h2⟩ := SlI.part (lo := n) (hi := l.length) h hn (Nat.le_refl _) (some (.int .i64 n)) none (fun y hy => .inl (bnd_in _ _ _ _ (by omega))) (fun cap hc => rfl)
  refine ⟨v', h1, ?_⟩
  unfold Bytes
  rw [List.length_drop]
  have : ((u8s l).drop (n * 1)).take ((l.length - n) * 1) = u8s (l.drop n) := by
    rw [Nat.mul_one, Nat.mul_one, List.take_of_length_le (by simp [u8s])]
    simp [u8s]
  rwa [this] at h2
theorem Bytes.part {I : Imm} {v : Value} {l : List UInt8} {lo hi : Nat} (h : Bytes I v l) (h1 : lo ≤ hi) (h2 : hi ≤ l.length) : ∃ v', slcV 1 v (some (.int .i64 lo)) (some (.int .i64 hi)) none = some v' ∧ Bytes I v' ((l.drop lo).take (hi - lo)) := by
  obtain ⟨v', e1, e2⟩ := SlI.part (lo := lo) (hi := hi) h h1 h2 (some (.int .i64 lo)) (some (.int .i64 hi)) (fun y hy => .inl (bnd_in _ _ _ _ (by omega))) (fun cap hc => bnd_in _ _ _ _ (by omega))
  refine ⟨v', e1, ?_⟩
  unfold Bytes
  rw [List.length_take, List.length_drop, Nat.min_eq_left (by omega)]
  have : ((u8s l).drop (lo * 1)).take ((hi - lo) * 1) = u8s ((l.drop lo).take (hi - lo)) := by
    simp [u8s]
  rwa [this] at e2
theorem Bytes.take {I : Imm} {v : Value} {l : List UInt8} {n : Nat} (h : Bytes I v l) (hn : n ≤ l.length) : ∃ v', slcV 1 v none (some (.int .i64 n)) none = some v' ∧ Bytes I v' (l.take n) := by
  obtain ⟨v', e1, e2⟩ := SlI.part (lo := 0) (hi := n) h (by omega) hn none (some (.int .i64 n)) (fun y hy => .inl rfl) (fun cap hc => bnd_in _ _ _ _ (by omega))
  refine ⟨v', e1, ?_⟩
  unfold Bytes
  rw [List.length_take, Nat.min_eq_left (by omega)]
  have : ((u8s l).drop (0 * 1)).take ((n - 0) * 1) = u8s (l.take n) := by
    simp [u8s]
  rwa [this] at e2
theorem Bytes.at {I : Imm} {v : Value} {l : List UInt8} {k : Nat} (h : Bytes I v l) (hk : k < l.length) : ∃ b off, ixV 1 v (.int .i64 k) = some (.pointer (some ⟨b, off, none⟩)) ∧ ∀ I' L, Ext I I' → Cell I' L b off (.int .u8 (l[k]).toNat) := by
  obtain ⟨b, off, hix, hc⟩ := SlI.ix h .i64 hk
  have hone : ((u8s l).drop (k * 1)).take 1 = [.int .u8 (l[k]).toNat] := by
    rw [Nat.mul_one, List.drop_eq_getElem_cons (by simpa [u8s] using hk), List.take_succ_cons]
    simp [u8s]
  rw [hone] at hc
  exact ⟨b, off, hix, fun I' L hI => hc I' L hI 0 _ rfl⟩
def lowR (k : List UInt8) (rows : List Row) : List Row := rows.filter fun r => blt r.key k
def highR (k : List UInt8) (rows : List Row) : List Row := rows.filter fun r => !blt r.key k
theorem low_high {k : List UInt8} : ∀ {rows : List Row}, SrtK (keysOf rows) → rows = lowR k rows ++ highR k rows
  | [], _ => rfl
  | r :: rs, h => by
    obtain ⟨h1, h2⟩ := List.pairwise_cons.1 (show List.Pairwise _ (r.key :: keysOf rs) from h)
    have ih := low_high (k := k) h2
    unfold lowR highR at ih ⊢
    have g1 : (r :: rs).filter (fun r => blt r.key k) = if blt r.key k = true then r :: rs.filter (fun r => blt r.key k) else rs.filter (fun r => blt r.key k) := List.filter_cons
    have g2 : (r :: rs).filter (fun r => !blt r.key k) = if (!blt r.key k) = true then r :: rs.filter (fun r => !blt r.key k) else rs.filter (fun r => !blt r.key k) := List.filter_cons
    rw [g1, g2]
    cases hb : blt r.key k with
    | true => rw [if_pos rfl, if_neg (by simp), List.cons_append, ← ih]
    | false =>
      have hall : ∀ x ∈ rs, blt x.key k = false := fun x hx => by
        cases hx2 : blt x.key k with
        | false => rfl
        | true => rw [blt_trans (h1 _ (List.mem_map_of_mem hx)) hx2] at hb; cases hb
      rw [if_neg (by simp), if_pos (by simp), List.filter_eq_nil_iff.2 (fun x hx => by simp [hall x hx]), List.filter_eq_self.2 (fun x hx => by simp [hall x hx])]
      rfl
def splL (k : List UInt8) (sp : Sp) : Sp := ⟨lowR k sp.rows, sp.floor⟩
def splR (k : List UInt8) (sp : Sp) : Sp := ⟨highR k sp.rows, sp.floor⟩
theorem splL_ok {k : List UInt8} {sp : Sp} (h : SpOk sp) : SpOk (splL k sp) := ⟨h.rise.sub List.filter_sublist, fun r hr => h.rows r (List.mem_filter.1 hr).1, h.floor⟩
theorem splR_ok {k : List UInt8} {sp : Sp} (h : SpOk sp) : SpOk (splR k sp) := ⟨h.rise.sub List.filter_sublist, fun r hr => h.rows r (List.mem_filter.1 hr).1, h.floor⟩
theorem versN_app (A B : List Row) : versN (A ++ B) = versN A + versN B := by simp [versN]
def verG (g : Bool) (v : TVer) : Bool × List UInt8 := if g = true then (true, []) else (false, verText v)
def verN (g : Bool) (k : List UInt8) (l : List TVer) (nt : Nts) : Nts := l.foldl (fun nt v => updN nt (vkey k v) (verG g v)) nt
def noteA (g : Bool) (r : Row) (nt : Nts) : Nts := if r.it.txn = 0 then verN g r.key r.vs nt else updN (verN g r.key r.vs nt) (105 :: r.key) (if g = true then (true, []) else itText r.it)
def noteAs (g : Bool) (rs : List Row) (nt : Nts) : Nts := rs.foldl (fun nt r => noteA g r nt) nt
def nt0 : Nts := fun _ => none
noncomputable instance (fl : TStamp) : Decidable (fl = z0) := Classical.propDecidable _
noncomputable def floorN (fl : TStamp) : Nts := if fl = z0 then nt0 else updN nt0 [102] (false, stF fl)
section
variable {ω : Om} {I : Imm} {L : LH} {K : Value → M}
def sp0 : Sp := ⟨[], ⟨0, 0⟩⟩
theorem sp0_ok : SpOk sp0 := ⟨List.Pairwise.nil, (fun r hr => by cases hr), by decide⟩
theorem new_spec (hk : ∀ b X, SpR I b X sp0 nt0 → K (pt b) I (X ++ L)) : Cal Tryz.prog ω 32 #[] K I L := by
  refine cal32 ?_
  unfold sh32
  refine newm (fun m => Gh.done (newm (fun ch => Gh.done ?_)))
  try simp only [SSd, Nat.reduceAdd]
  refine newI (fun b => ?_)
  refine Gh.perm (L' := ((b, spO m (.slice none 0 0) ⟨0, 0⟩ ch) :: (m, .map #[] 0) :: ([] ++ ([] ++ [(ch, .map #[] 0)]))) ++ L) (ms_perm (by ((try simp only [ms_cons, ms_app, ms_nil, ms_nil']); (try ac_rfl)))) (Gh.done (hk b _ ?_))
  exact ⟨[], m, ch, _, _, _, [], [], [(ch, .map #[] 0)], List.Perm.refl _, MapS.empty, SlO.none _ 1, rfl, ⟨#[], 0, fun _ => none, rfl, MapS.empty, fun k => .inl ⟨rfl, rfl⟩⟩⟩
end
theorem versN_low {k : List UInt8} {sp : Sp} (h : SpOk sp) : (splL k sp).rows.length ≤ sp.rows.length ∧ (splR k sp).rows.length ≤ sp.rows.length ∧ versN (splL k sp).rows ≤ versN sp.rows ∧ versN (splR k sp).rows ≤ versN sp.rows := by
  have e := low_high (k := k) h.rise
  have e1 : sp.rows.length = (splL k sp).rows.length + (splR k sp).rows.length := by
    conv => lhs; rw [e]
    rw [List.length_append]; rfl
  have e2 : versN sp.rows = versN (splL k sp).rows + versN (splR k sp).rows := by
    conv => lhs; rw [e]
    rw [versN_app]; rfl
  omega
end Go.Proofs.YtmmfcgbfbcamcaaGreatDoor
-- S3
set_option linter.unusedSimpArgs false
set_option linter.unusedVariables false
namespace Go.Proofs.YtmmfcgbfbcamcaaGreatDoor
open Go.SL
set_option maxRecDepth 10000
def spanOk (p : TSpan) : Bool := decide (p.fFrom.length ≤ 111) && decide (p.fTo.length ≤ 111) && (p.fTo.length == 0 || blt p.fFrom p.fTo)
def noText (c : TCmd) : Bool := c.fKey.length == 0 && c.fValue.length == 0 && !c.fDel
def noVal (c : TCmd) : Bool := c.fValue.length == 0 && !c.fDel
def noSpan (c : TCmd) : Bool := c.fSpan.fFrom.length == 0 && c.fSpan.fTo.length == 0
def noTo (c : TCmd) : Bool := c.fTo.fWall == 0 && c.fTo.fLogic == 0
def noAt (c : TCmd) : Bool := c.fAt.fWall == 0 && c.fAt.fLogic == 0
def kindOk (c : TCmd) : Bool :=
  if c.fKind = 1 then readerB c.fTxn && keyOk c.fKey && noVal c && noSpan c && c.fBy == 0 && !c.fYes && noTo c && c.fMost == 0 && c.fSeq == 0 else
  if c.fKind = 2 then readerB c.fTxn && decide (1 ≤ c.fMost ∧ c.fMost ≤ 90) && noText c && c.fBy == 0 && !c.fYes && noTo c && c.fSeq == 0 else
  if c.fKind = 3 then txnB c.fTxn && decide (0 < c.fSeq) && keyOk c.fKey && decide (c.fValue.length ≤ 10000) && (!c.fDel || c.fValue.length == 0) && noSpan c && c.fBy == 0 && !c.fYes && noTo c && c.fMost == 0 else
  if c.fKind = 4 then txnB c.fTxn && decide (0 < c.fSeq) && noText c && c.fBy == 0 && !c.fYes && c.fMost == 0 else
  if c.fKind = 5 then txnB c.fTxn && decide (0 < c.fSeq) && noText c && noSpan c && c.fBy == 0 && !c.fYes && noTo c && c.fMost == 0 else
  if c.fKind = 6 then txnB c.fTxn && noText c && noSpan c && c.fBy == 0 && noTo c && c.fMost == 0 && c.fSeq == 0 else
  if c.fKind = 7 then txnB c.fTxn && txnB c.fBy && noText c && noSpan c && !c.fYes && noTo c && c.fMost == 0 && c.fSeq == 0 else
  if c.fKind = 8 then txnB c.fTxn && noAt c && noText c && noSpan c && c.fBy == 0 && !c.fYes && noTo c && c.fMost == 0 && c.fSeq == 0 else
  if c.fKind = 9 then txnB c.fTxn && noText c && c.fBy == 0 && noTo c && c.fMost == 0 && c.fSeq == 0 else
  if c.fKind = 10 then c.fTxn == 0 && noText c && noSpan c && c.fBy == 0 && !c.fYes && noTo c && c.fMost == 0 && c.fSeq == 0 else
  if c.fKind = 11 then c.fTxn == 0 && noAt c && keyOk c.fKey && noVal c && decide (1 ≤ c.fBy ∧ c.fBy ≤ 255) && noSpan c && !c.fYes && noTo c && c.fMost == 0 && c.fSeq == 0 else false
def rightP (c : TCmd) : Bool := rightB c.fAt && rightB c.fTo && spanOk c.fSpan && decide (0 ≤ c.fSeq ∧ c.fSeq ≤ 9007199254740991) && kindOk c
def maxI (n : Int) : Prop := 0 ≤ n ∧ n ≤ 9007199254740991
theorem txnB_max {n : Int} (h : txnB n = true) : maxI n := by simp [txnB] at h; exact ⟨by omega, by omega⟩
theorem readerB_max {n : Int} (h : readerB n = true) : maxI n := by
  simp only [readerB, Bool.or_eq_true, beq_iff_eq] at h
  rcases h with h | h
  · rw [h]; exact ⟨by omega, by omega⟩
  · exact txnB_max h
theorem rightB_max {s : TStamp} (h : rightB s = true) : maxI s.fWall ∧ maxI s.fLogic := by
  simp only [rightB, wallB, Bool.and_eq_true, decide_eq_true_eq] at h
  exact ⟨⟨h.1.1, h.1.2⟩, h.2.1, by omega⟩
structure CmdOk (c : TCmd) : Prop where
  kind : 1 ≤ c.fKind ∧ c.fKind ≤ 11
  txn : maxI c.fTxn
  seq : maxI c.fSeq
  by' : maxI c.fBy
  most : 0 ≤ c.fMost ∧ c.fMost ≤ 90
  at' : rightB c.fAt = true
  to : rightB c.fTo = true
  key : c.fKey.length ≤ 110
  value : c.fValue.length ≤ 10000
  span : spanOk c.fSpan = true
theorem zero_max : maxI 0 := ⟨by omega, by omega⟩
set_option maxHeartbeats 4000000 in
theorem rightP_ok {c : TCmd} (h : rightP c = true) : CmdOk c := by
  simp only [rightP, Bool.and_eq_true, decide_eq_true_eq] at h
  obtain ⟨⟨⟨⟨h1, h2⟩, h3⟩, h4⟩, h5⟩ := h
  have key : ∀ (q : Prop) [Decidable q] (a b : Bool), (if q then a else b) = true → (q ∧ a = true) ∨ b = true := by
    intro q _ a b h
    split at h
    · exact .inl ⟨by assumption, h⟩
    · exact .inr h
  have hk : (1 ≤ c.fKind ∧ c.fKind ≤ 11) ∧ maxI c.fTxn ∧ maxI c.fBy ∧ (0 ≤ c.fMost ∧ c.fMost ≤ 90) ∧ c.fKey.length ≤ 110 ∧ c.fValue.length ≤ 10000 := by
    unfold kindOk at h5
    rcases key _ _ _ h5 with ⟨e, h⟩ | h5
    · simp only [Bool.and_eq_true, noVal, noText, keyOk, beq_iff_eq, decide_eq_true_eq] at h
      exact ⟨by omega, readerB_max h.1.1.1.1.1.1.1.1, by rw [h.1.1.1.1.2]; exact zero_max, by omega, by omega, by omega⟩
    rcases key _ _ _ h5 with ⟨e, h⟩ | h5
    · simp only [Bool.and_eq_true, noVal, noText, keyOk, beq_iff_eq, decide_eq_true_eq] at h
      exact ⟨by omega, readerB_max h.1.1.1.1.1.1, by rw [h.1.1.1.2]; exact zero_max, by omega, by omega, by omega⟩
    rcases key _ _ _ h5 with ⟨e, h⟩ | h5
    · simp only [Bool.and_eq_true, noVal, noText, keyOk, beq_iff_eq, decide_eq_true_eq] at h
      exact ⟨by omega, txnB_max h.1.1.1.1.1.1.1.1.1, by rw [h.1.1.1.2]; exact zero_max, by omega, by omega, by omega⟩
    rcases key _ _ _ h5 with ⟨e, h⟩ | h5
    · simp only [Bool.and_eq_true, noVal, noText, keyOk, beq_iff_eq, decide_eq_true_eq] at h
      exact ⟨by omega, txnB_max h.1.1.1.1.1, by rw [h.1.1.2]; exact zero_max, by omega, by omega, by omega⟩
    rcases key _ _ _ h5 with ⟨e, h⟩ | h5
    · simp only [Bool.and_eq_true, noVal, noText, keyOk, beq_iff_eq, decide_eq_true_eq] at h
      exact ⟨by omega, txnB_max h.1.1.1.1.1.1.1, by rw [h.1.1.1.2]; exact zero_max, by omega, by omega, by omega⟩
    rcases key _ _ _ h5 with ⟨e, h⟩ | h5
    · simp only [Bool.and_eq_true, noVal, noText, keyOk, beq_iff_eq, decide_eq_true_eq] at h
      exact ⟨by omega, txnB_max h.1.1.1.1.1.1, by rw [h.1.1.1.2]; exact zero_max, by omega, by omega, by omega⟩
    rcases key _ _ _ h5 with ⟨e, h⟩ | h5
    · simp only [Bool.and_eq_true, noVal, noText, keyOk, beq_iff_eq, decide_eq_true_eq] at h
      exact ⟨by omega, txnB_max h.1.1.1.1.1.1.1, txnB_max h.1.1.1.1.1.1.2, by omega, by omega, by omega⟩
    rcases key _ _ _ h5 with ⟨e, h⟩ | h5
    · simp only [Bool.and_eq_true, noVal, noText, keyOk, beq_iff_eq, decide_eq_true_eq] at h
      exact ⟨by omega, txnB_max h.1.1.1.1.1.1.1.1, by rw [h.1.1.1.1.2]; exact zero_max, by omega, by omega, by omega⟩
    rcases key _ _ _ h5 with ⟨e, h⟩ | h5
    · simp only [Bool.and_eq_true, noVal, noText, keyOk, beq_iff_eq, decide_eq_true_eq] at h
      exact ⟨by omega, txnB_max h.1.1.1.1.1, by rw [h.1.1.1.2]; exact zero_max, by omega, by omega, by omega⟩
    rcases key _ _ _ h5 with ⟨e, h⟩ | h5
    · simp only [Bool.and_eq_true, noVal, noText, keyOk, beq_iff_eq, decide_eq_true_eq] at h
      exact ⟨by omega, by rw [h.1.1.1.1.1.1.1]; exact zero_max, by rw [h.1.1.1.1.2]; exact zero_max, by omega, by omega, by omega⟩
    rcases key _ _ _ h5 with ⟨e, h⟩ | h5
    · simp only [Bool.and_eq_true, noVal, noText, keyOk, beq_iff_eq, decide_eq_true_eq] at h
      exact ⟨by omega, by rw [h.1.1.1.1.1.1.1.1.1]; exact zero_max, ⟨by omega, by omega⟩, by omega, by omega, by omega⟩
    · cases h5
  exact ⟨hk.1, hk.2.1, ⟨h4.1, h4.2⟩, hk.2.2.1, hk.2.2.2.1, h1, h2, hk.2.2.2.2.1, hk.2.2.2.2.2, h3⟩
end Go.Proofs.YtmmfcgbfbcamcaaGreatDoor
set_option linter.unusedSimpArgs false
set_option linter.unusedVariables false
set_option linter.unusedSectionVars false
namespace Go.SL
abbrev Keyi := Int
def kstri (k : Keyi) : Value := .int .i64 k
def eKeyi (e : MapEntry) : Keyi := match e.key with
  | .int _ n => n
  | _ => 0
def fndi (k : Keyi) : List MapEntry → Nat → Option (Nat × Value)
  | [], _ => none
  | e :: r, i => if eKeyi e = k then some (i, e.val) else fndi k r (i + 1)
def updMi (m : Keyi → Option Value) (k : Keyi) (v : Option Value) : Keyi → Option Value := fun q => if q = k then v else m q
structure MapSi (es : Array MapEntry) (clock : Nat) (m : Keyi → Option Value) : Prop where
  str : ∀ e ∈ es.toList, ∃ s : Int, e.key = .int .i64 s
  nod : (es.toList.map eKeyi).Nodup
  brn : ∀ e ∈ es.toList, e.born < clock
  bnd : (es.toList.map (·.born)).Nodup
  val : ∀ k, m k = (fndi k es.toList 0).map (·.2)
theorem findNow_fndi {k : Keyi} : ∀ {l : List MapEntry} {i : Nat}, (∀ e ∈ l, ∃ s : Int, e.key = .int .i64 s) → Instr.findNow (.int .i64) (kstri k) l i = some (fndi k l i)
  | [], _, _ => rfl
  | e :: l, i, h => by
    obtain ⟨s, hs⟩ := h e (List.mem_cons_self ..)
    have ih := findNow_fndi (k := k) (l := l) (i := i + 1) (fun x hx => h x (List.mem_cons_of_mem _ hx))
    simp only [Instr.findNow, fndi, eKeyi, hs, kstri, Instr.sameNow, if_true]
    by_cases hk : s = k
    · have : (k == s) = true := by simp [hk]
      rw [this, if_pos hk]
    · have : (k == s) = false := by simp; exact fun h => hk h.symm
      rw [this, if_neg hk]
      exact ih
theorem MapSi.find {es : Array MapEntry} {clock : Nat} {m : Keyi → Option Value} (h : MapSi es clock m) (k : Keyi) : Instr.findNow (.int .i64) (kstri k) es.toList 0 = some (fndi k es.toList 0) := findNow_fndi h.str
theorem MapSi.empty : MapSi #[] 0 (fun _ => none) := ⟨fun e h => by simp at h, by simp, fun e h => by simp at h, by simp, fun k => rfl⟩
theorem fnd_nonei {k : Keyi} : ∀ {l : List MapEntry} {i : Nat}, fndi k l i = none ↔ k ∉ l.map eKeyi
  | [], _ => by simp [fndi]
  | e :: l, i => by
    simp only [fndi, List.map_cons, List.mem_cons, not_or]
    by_cases h : eKeyi e = k
    · simp [h]
    · rw [if_neg h, fnd_nonei (l := l)]
      exact ⟨fun h' => ⟨fun e' => h e'.symm, h'⟩, fun h' => h'.2⟩
theorem fnd_somei {k : Keyi} : ∀ {l : List MapEntry} {i j : Nat} {v : Value}, fndi k l i = some (j, v) → ∃ n e, j = i + n ∧ l[n]? = some e ∧ eKeyi e = k ∧ e.val = v
  | [], _, _, _, h => by simp [fndi] at h
  | e :: l, i, j, v, h => by
    simp only [fndi] at h
    split at h
    · rename_i hk
      simp only [Option.some.injEq, Prod.mk.injEq] at h
      exact ⟨0, e, by omega, rfl, hk, h.2⟩
    · obtain ⟨n, e', h1, h2, h3, h4⟩ := fnd_somei h
      exact ⟨n + 1, e', by omega, by simpa using h2, h3, h4⟩
theorem fnd_shifti {k : Keyi} : ∀ {l : List MapEntry} {i j : Nat}, (fndi k l i).map (·.2) = (fndi k l j).map (·.2)
  | [], _, _ => rfl
  | e :: l, i, j => by
    simp only [fndi]
    split
    · rfl
    · exact fnd_shifti
theorem fnd_appendi {k : Keyi} : ∀ {l l' : List MapEntry} {i : Nat}, (fndi k (l ++ l') i).map (·.2) = match (fndi k l i).map (·.2) with
    | some v => some v
    | none => (fndi k l' 0).map (·.2)
  | [], l', i => by simp only [List.nil_append, fndi, Option.map_none]; exact fnd_shifti
  | e :: l, l', i => by
    simp only [List.cons_append, fndi]
    split
    · rfl
    · exact fnd_appendi
theorem fnd_seti {k q : Keyi} {v : Value} : ∀ {l : List MapEntry} {n : Nat} {e : MapEntry}, l[n]? = some e → eKeyi e = k → (l.map eKeyi).Nodup →
    (fndi q (l.set n { e with key := kstri k, val := v }) 0).map (·.2) = if q = k then some v else (fndi q l 0).map (·.2)
  | [], n, e, h, _, _ => by simp at h
  | x :: l, 0, e, h, hk, hn => by
    simp only [List.getElem?_cons_zero, Option.some.injEq] at h
    subst h
    have hko : eKeyi { x with key := kstri k, val := v } = k := by simp [eKeyi, kstri]
    simp only [List.set_cons_zero, fndi, hko, hk]
    by_cases h : k = q
    · simp [h]
    · rw [if_neg h, if_neg (fun e => h e.symm), if_neg h]
  | x :: l, n + 1, e, h, hk, hn => by
    simp only [List.getElem?_cons_succ] at h
    simp only [List.map_cons, List.nodup_cons] at hn
    simp only [List.set_cons_succ, fndi]
    have hmem : k ∈ l.map eKeyi := List.mem_map.2 ⟨e, List.mem_of_getElem? h, hk⟩
    by_cases hx : eKeyi x = q
    · rw [if_pos hx, if_pos hx, if_neg]
      intro e'
      rw [hx, e'] at hn
      exact hn.1 hmem
    · rw [if_neg hx, if_neg hx]
      have ih := fnd_seti (q := q) (v := v) h hk hn.2
      rw [fnd_shifti (j := 0), ih, fnd_shifti (i := 0 + 1) (j := 0)]
theorem set_keysi {k : Keyi} {v : Value} : ∀ {l : List MapEntry} {n : Nat} {e : MapEntry}, l[n]? = some e → eKeyi e = k → (l.set n { e with key := kstri k, val := v }).map eKeyi = l.map eKeyi
  | [], n, e, h, _ => by simp at h
  | x :: l, 0, e, h, hk => by
    simp only [List.getElem?_cons_zero, Option.some.injEq] at h
    subst h
    simp [eKeyi, kstri] at hk ⊢
    exact hk.symm
  | x :: l, n + 1, e, h, hk => by
    simp only [List.getElem?_cons_succ] at h
    simp only [List.set_cons_succ, List.map_cons, set_keysi h hk]
theorem set_bornsi {k : Keyi} {v : Value} : ∀ {l : List MapEntry} {n : Nat} {e : MapEntry}, l[n]? = some e → (l.set n { e with key := kstri k, val := v }).map (·.born) = l.map (·.born)
  | [], n, e, h => by simp at h
  | x :: l, 0, e, h => by
    simp only [List.getElem?_cons_zero, Option.some.injEq] at h
    subst h
    simp
  | x :: l, n + 1, e, h => by
    simp only [List.getElem?_cons_succ] at h
    simp only [List.set_cons_succ, List.map_cons, set_bornsi (k := k) h]
def putEi (k : Keyi) (v : Value) (es : Array MapEntry) (clock : Nat) : Obj := match fndi k es.toList 0 with
  | some (i, _) => .map (es.modify i fun e => { e with key := kstri k, val := v }) clock
  | none => .map (es.push { key := kstri k, val := v, born := clock }) (clock + 1)
theorem MapSi.put {es : Array MapEntry} {clock : Nat} {m : Keyi → Option Value} (h : MapSi es clock m) (k : Keyi) (v : Value) : ∃ es' clock', putEi k v es clock = .map es' clock' ∧ MapSi es' clock' (updMi m k (some v)) := by
  unfold putEi
  cases hf : fndi k es.toList 0 with
  | none =>
    refine ⟨_, _, rfl, ?_⟩
    have hn := fnd_nonei.1 hf
    have hl : (es.push { key := kstri k, val := v, born := clock }).toList = es.toList ++ [{ key := kstri k, val := v, born := clock }] := by simp
    have hko : eKeyi { key := kstri k, val := v, born := clock } = k := by simp [eKeyi, kstri]
    refine ⟨fun e he => ?_, ?_, fun e he => ?_, ?_, fun q => ?_⟩
    · rw [hl] at he
      rcases List.mem_append.1 he with he | he
      · exact h.str e he
      · simp only [List.mem_singleton] at he; subst he; exact ⟨_, rfl⟩
    · rw [hl, List.map_append, List.nodup_append]
      refine ⟨h.nod, by simp, fun a ha b hb => ?_⟩
      simp only [List.map_cons, List.map_nil, List.mem_singleton, hko] at hb
      subst hb
      exact fun e => hn (e ▸ ha)
    · rw [hl] at he
      rcases List.mem_append.1 he with he | he
      · have := h.brn e he; omega
      · simp only [List.mem_singleton] at he; subst he; simp
    · rw [hl, List.map_append, List.nodup_append]
      refine ⟨h.bnd, by simp, fun a ha b hb => ?_⟩
      simp only [List.map_cons, List.map_nil, List.mem_singleton] at hb
      subst hb
      obtain ⟨e, he, rfl⟩ := List.mem_map.1 ha
      have := h.brn e he; omega
    · rw [hl, fnd_appendi, ← h.val q]
      unfold updMi
      by_cases e : q = k
      · subst e
        rw [if_pos rfl, h.val q, hf]
        simp [fndi, hko]
      · rw [if_neg e]
        have hf0 : fndi q [{ key := kstri k, val := v, born := clock }] 0 = none := by
          simp only [fndi, hko]
          rw [if_neg (fun e' => e (Eq.symm e'))]
        rw [hf0]
        cases m q <;> rfl
  | some p =>
    obtain ⟨i, u⟩ := p
    obtain ⟨n, e, h1, h2, h3, h4⟩ := fnd_somei hf
    obtain rfl : i = n := by omega
    refine ⟨_, _, rfl, ?_⟩
    have hl := modify_set (f := fun e => { e with key := kstri k, val := v }) h2
    refine ⟨fun x hx => ?_, ?_, fun x hx => ?_, ?_, fun q => ?_⟩
    · rw [hl] at hx
      rcases List.mem_or_eq_of_mem_set hx with hx | rfl
      · exact h.str x hx
      · exact ⟨_, rfl⟩
    · rw [hl, set_keysi h2 h3]; exact h.nod
    · rw [hl] at hx
      rcases List.mem_or_eq_of_mem_set hx with hx | rfl
      · exact h.brn x hx
      · exact h.brn e (List.mem_of_getElem? h2)
    · rw [hl, set_bornsi (k := k) h2]; exact h.bnd
    · rw [hl, fnd_seti h2 h3 h.nod, ← h.val q]; rfl
def delEi (k : Keyi) (es : Array MapEntry) (clock : Nat) : Obj := match fndi k es.toList 0 with
  | some (i, _) => .map (es.eraseIdxIfInBounds i) clock
  | none => .map es clock
theorem fnd_erasei {k q : Keyi} : ∀ {l : List MapEntry} {n : Nat} {e : MapEntry}, l[n]? = some e → eKeyi e = k → (l.map eKeyi).Nodup → (fndi q (l.eraseIdx n) 0).map (·.2) = if q = k then none else (fndi q l 0).map (·.2)
  | [], n, e, h, _, _ => by simp at h
  | x :: l, 0, e, h, hk, hn => by
    simp only [List.getElem?_cons_zero, Option.some.injEq] at h
    subst h
    simp only [List.map_cons, List.nodup_cons] at hn
    simp only [List.eraseIdx_cons_zero, fndi, hk]
    by_cases h : q = k
    · subst h
      rw [if_pos rfl, fnd_nonei.2 (by rw [← hk]; exact hn.1)]; rfl
    · rw [if_neg h, if_neg (fun e => h e.symm)]
      exact fnd_shifti
  | x :: l, n + 1, e, h, hk, hn => by
    simp only [List.getElem?_cons_succ] at h
    simp only [List.map_cons, List.nodup_cons] at hn
    simp only [List.eraseIdx_cons_succ, fndi]
    have hmem : k ∈ l.map eKeyi := List.mem_map.2 ⟨e, List.mem_of_getElem? h, hk⟩
    by_cases hx : eKeyi x = q
    · rw [if_pos hx, if_pos hx, if_neg]
      intro e'
      rw [hx, e'] at hn
      exact hn.1 hmem
    · rw [if_neg hx, if_neg hx, fnd_shifti (j := 0), fnd_erasei h hk hn.2, fnd_shifti (i := 0 + 1) (j := 0)]
theorem MapSi.del {es : Array MapEntry} {clock : Nat} {m : Keyi → Option Value} (h : MapSi es clock m) (k : Keyi) : ∃ es', delEi k es clock = .map es' clock ∧ MapSi es' clock (updMi m k none) := by
  unfold delEi
  cases hf : fndi k es.toList 0 with
  | none =>
    refine ⟨es, rfl, h.str, h.nod, h.brn, h.bnd, fun q => ?_⟩
    unfold updMi
    by_cases e : q = k
    · subst e; rw [if_pos rfl, hf]; rfl
    · rw [if_neg e]; exact h.val q
  | some p =>
    obtain ⟨i, u⟩ := p
    obtain ⟨n, e, h1, h2, h3, h4⟩ := fnd_somei hf
    obtain rfl : i = n := by omega
    have hlt : i < es.size := by
      have := (List.getElem?_eq_some_iff.1 h2).1
      simpa using this
    have hl : (es.eraseIdxIfInBounds i).toList = es.toList.eraseIdx i := by simp [Array.eraseIdxIfInBounds, hlt]
    refine ⟨_, rfl, fun x hx => ?_, ?_, fun x hx => ?_, ?_, fun q => ?_⟩
    · rw [hl] at hx; exact h.str x (List.mem_of_mem_eraseIdx hx)
    · rw [hl]; exact h.nod.sublist (List.Sublist.map _ (List.eraseIdx_sublist ..))
    · rw [hl] at hx; exact h.brn x (List.mem_of_mem_eraseIdx hx)
    · rw [hl]; exact h.bnd.sublist (List.Sublist.map _ (List.eraseIdx_sublist ..))
    · rw [hl, fnd_erasei h2 h3 h.nod, ← h.val q]; rfl
section rules
variable {I : Imm} {L : LH} {K : Value → M} {b : Nat} {es : Array MapEntry} {clock : Nat} {m : Keyi → Option Value} {k : Keyi} {v : Value} {S : M}
theorem lk_eqi {zero : Value} {ok : Bool} (h : MapSi es clock m) : (match fndi k es.toList 0 with
    | some (_, u) => if ok then .tuple #[u, .bool true] else u
    | none => if ok then .tuple #[zero, .bool false] else zero) = lkV zero ok (m k) := by
  rw [h.val k]
  cases fndi k es.toList 0 <;> rfl
theorem lk_ati {zero : Value} {ok : Bool} (ha : MapAt I L b es clock) (h : MapSi es clock m) : lkR (.int .i64) zero ok (.map (some b)) (kstri k) I L (lkV zero ok (m k)) :=
  ⟨es, _, .inr ⟨b, clock, rfl, ha⟩, h.find k, (lk_eqi h).symm⟩
theorem lkmi {zero : Value} {ok : Bool} [hin : InL b L (.map es clock)] (h : MapSi es clock m) (hk : K (lkV zero ok (m k)) I L) : Rv none (lkR (.int .i64) zero ok (.map (some b)) (kstri k)) K I L :=
  ⟨_, lk_ati (.inl hin.mem) h, hk⟩
theorem lkmSi {I0 : Imm} {X : LH} {zero : Value} {ok : Bool} [hin : InL b X (.map es clock)] (h : MapSi es clock m) (hk : K (lkV zero ok (m k)) I L) : Rv (some (Stay I0 X)) (lkR (.int .i64) zero ok (.map (some b)) (kstri k)) K I L :=
  ⟨_, fun I' L' hS => lk_ati (.inl (hS.2 _ hin.mem)) h, hk⟩
theorem lenmi [hin : InL b L (.map es clock)] (hk : K (.int .i64 es.size) I L) : Rv none (lenMR (.map (some b))) K I L := ⟨_, ⟨es, .inr ⟨b, clock, rfl, .inl hin.mem⟩, rfl⟩, hk⟩
theorem putmi {L' : LH} {es' : Array MapEntry} {clock' : Nat} (h : MapSi es clock m) (he : putEi k v es clock = .map es' clock') [u : UpL b L (.map es clock) (.map es' clock') L'] (hk : K undef I L') :
    PutM (.int .i64) (.map (some b)) (kstri k) v K I L := by
  obtain ⟨L1, L2, rfl, rfl⟩ := u.up
  refine ⟨b, es, clock, L1, L2, _, rfl, rfl, h.find k, ?_⟩
  unfold putEi at he
  cases hf : fndi k es.toList 0 with
  | none => rw [hf] at he; simp only at he ⊢; rw [he]; exact hk
  | some p => obtain ⟨i, w⟩ := p; rw [hf] at he; simp only at he ⊢; rw [he]; exact hk
theorem delmi {L' : LH} {es' : Array MapEntry} {clock' : Nat} (h : MapSi es clock m) (he : delEi k es clock = .map es' clock') [u : UpL b L (.map es clock) (.map es' clock') L'] (hk : K (.tuple #[]) I L') :
    DelM (.int .i64) (.map (some b)) (kstri k) K I L := by
  obtain ⟨L1, L2, rfl, rfl⟩ := u.up
  refine .inr ⟨b, es, clock, L1, L2, _, rfl, rfl, h.find k, ?_⟩
  unfold delEi at he
  cases hf : fndi k es.toList 0 with
  | none => rw [hf] at he; simp only at he ⊢; rw [he]; exact hk
  | some p => obtain ⟨i, w⟩ := p; rw [hf] at he; simp only at he ⊢; rw [he]; exact hk
end rules
section iter
variable {I : Imm} {L0 : LH} {K : Value → M} {b r clock : Nat} {es : Array MapEntry} {m : Keyi → Option Value} {vis : List MapEntry}
theorem nxtIi (h : MapSi es clock m) (ha : MapAt I L0 r es clock) (hi : It es vis) (hend : vis.Perm es.toList → K (.tuple #[.bool false]) I ((b, iterO r clock vis) :: L0))
    (hstep : ∀ e, e ∈ es.toList → It es (vis ++ [e]) → K (.tuple #[.bool true, e.key, e.val]) I ((b, iterO r clock (vis ++ [e])) :: L0)) : NxtM (.pointer (some ⟨b, 0, .none⟩)) K I ((b, iterO r clock vis) :: L0) := by
  refine ⟨b, [], L0, rfl, .inr ⟨r, clock, (vis.map (·.born)).toArray, clock, es, clock, rfl, MapAt.skip ha, ?_, fun hh => hend ?_, fun e he hs => ?_⟩⟩
  · intro hc
    simp only [Bool.and_eq_true, Bool.not_eq_true', Array.isEmpty_iff, Array.all_eq_true', decide_eq_true_eq] at hc
    cases hl : es.toList with
    | nil =>
      have : es = #[] := by cases es; simpa using hl
      have h2 := hc.1.2
      rw [this] at h2
      simp at h2
    | cons e l =>
      have he : e ∈ es.toList := by rw [hl]; exact List.mem_cons_self ..
      have h1 := h.brn e he
      have h2 := hc.2 e (by simpa using he)
      omega
  · refine (List.perm_ext_iff_of_nodup (nodup_of_map hi.nod) (nodup_of_map h.bnd)).2 fun e => ⟨hi.sub e, fun he => ?_⟩
    cases hc : (vis.map (·.born)).toArray.contains e.born with
    | false => have := hh e (by simpa using he) hc; have := h.brn e he; omega
    | true =>
      have : e.born ∈ vis.map (·.born) := by simpa using hc
      obtain ⟨v, hv, hve⟩ := List.mem_map.1 this
      have := map_inj h.bnd (hi.sub v hv) he hve
      rw [← this]; exact hv
  · have hne : e.born ∉ vis.map (·.born) := by simpa using hs
    have hit : It es (vis ++ [e]) := ⟨fun x hx => by
      rcases List.mem_append.1 hx with hx | hx
      · exact hi.sub x hx
      · simp only [List.mem_singleton] at hx; subst hx; simpa using he, by
      rw [List.map_append, List.nodup_append]
      refine ⟨hi.nod, by simp, fun a ha b hb => ?_⟩
      simp only [List.map_cons, List.map_nil, List.mem_singleton] at hb
      subst hb
      exact fun e' => hne (e' ▸ ha)⟩
    have := hstep e (by simpa using he) hit
    simpa [iterO] using this
theorem entIi (h : MapSi es clock m) (ha : MapAt I L0 r es clock) {e : MapEntry} (he : e ∈ es.toList) : entR (.pointer (some ⟨b, 0, .none⟩)) I ((b, iterO r clock (vis ++ [e])) :: L0) (.tuple #[e.key, e.val]) := by
  refine ⟨b, r, clock, ((vis ++ [e]).map (·.born)).toArray, clock, es, clock, e.born, e, rfl, .inl (List.mem_cons_self ..), by simp, MapAt.skip ha, by simp, ?_, rfl⟩
  cases hf : es.find? (·.born == e.born) with
  | none =>
    rw [← Array.find?_toList] at hf
    have := List.find?_eq_none.1 hf e he
    simp at this
  | some e' =>
    rw [← Array.find?_toList] at hf
    have h1 := List.find?_some hf
    rw [map_inj h.bnd (List.mem_of_find?_eq_some hf) he (by simpa using h1)]
end iter
/-! ### What is in a map -/
theorem fndi_at {k : Int} {e : MapEntry} : ∀ {l : List MapEntry} {i : Nat}, (l.map eKeyi).Nodup → e ∈ l → eKeyi e = k → (fndi k l i).map (·.2) = some e.val
  | x :: l, i, hn, he, hk => by
    simp only [List.map_cons, List.nodup_cons] at hn
    simp only [fndi]
    rcases List.mem_cons.1 he with rfl | he
    · rw [if_pos hk]; rfl
    · rw [if_neg (fun e2 => hn.1 (List.mem_map.2 ⟨e, he, by rw [hk, e2]⟩))]
      exact fndi_at hn.2 he hk
theorem MapSi.mem {es : Array MapEntry} {clock : Nat} {m : Int → Option Value} (h : MapSi es clock m) {e : MapEntry} (he : e ∈ es.toList) : m (eKeyi e) = some e.val := by
  rw [h.val]; exact fndi_at h.nod he rfl
theorem MapSi.ex {es : Array MapEntry} {clock : Nat} {m : Int → Option Value} (h : MapSi es clock m) {k : Int} {v : Value} (hv : m k = some v) : ∃ e ∈ es.toList, eKeyi e = k ∧ e.val = v := by
  rw [h.val] at hv
  cases hf : fndi k es.toList 0 with
  | none => rw [hf] at hv; cases hv
  | some p =>
    obtain ⟨i, u⟩ := p
    rw [hf] at hv
    simp only [Option.map_some, Option.some.injEq] at hv
    obtain ⟨n, e, _, h2, h3, h4⟩ := fnd_somei hf
    exact ⟨e, List.mem_of_getElem? h2, h3, by rw [h4, hv]⟩
end Go.SL
set_option linter.unusedSimpArgs false
set_option linter.unusedVariables false
set_option linter.unusedSectionVars false
namespace Go.SL
structure Ord (κ : Type) (lt : κ → κ → Bool) : Prop where
  irr : ∀ a, lt a a = false
  tr : ∀ a b c, lt a b = true → lt b c = true → lt a c = true
  tot : ∀ a b, lt a b = false → lt b a = false → a = b
theorem bltO : Ord (List UInt8) blt := ⟨blt_irrefl, fun _ _ _ => blt_trans, blt_total⟩
abbrev ilt (a b : Int) : Bool := decide (a < b)
theorem iltO : Ord Int ilt := ⟨fun a => by simp, fun a b c h1 h2 => by simp at *; omega, fun a b h1 h2 => by simp at *; omega⟩
section
variable {κ β : Type} [DecidableEq κ] {lt : κ → κ → Bool}
abbrev AL (κ β : Type) : Type := List (κ × β)
def lkA (l : AL κ β) (k : κ) : Option β := (l.find? fun q => q.1 == k).map (·.2)
def SrtA (lt : κ → κ → Bool) (l : AL κ β) : Prop := l.Pairwise fun a b => lt a.1 b.1 = true
def insA (lt : κ → κ → Bool) (k : κ) (v : β) : AL κ β → AL κ β
  | [] => [(k, v)]
  | q :: l => if q.1 = k then (k, v) :: l else if lt k q.1 = true then (k, v) :: q :: l else q :: insA lt k v l
def delA (k : κ) (l : AL κ β) : AL κ β := l.filter fun q => !(q.1 == k)
theorem lkA_nil (k : κ) : lkA ([] : AL κ β) k = none := rfl
theorem lkA_cons (q : κ × β) (l : AL κ β) (k : κ) : lkA (q :: l) k = if q.1 = k then some q.2 else lkA l k := by
  unfold lkA
  by_cases h : q.1 = k <;> simp [h]
theorem lkA_none {l : AL κ β} {k : κ} : lkA l k = none ↔ ∀ q ∈ l, q.1 ≠ k := by
  unfold lkA; simp [List.find?_eq_none]
theorem lkA_mem {l : AL κ β} {k : κ} {v : β} (h : lkA l k = some v) : (k, v) ∈ l := by
  unfold lkA at h
  cases hf : l.find? (fun q => q.1 == k) with
  | none => rw [hf] at h; cases h
  | some q =>
    rw [hf] at h
    have h1 := List.find?_some hf
    have h2 := List.mem_of_find?_eq_some hf
    simp at h1 h
    rw [← h1, ← h]; exact h2
theorem SrtA.ne (ho : Ord κ lt) {a b : κ} (h : lt a b = true) : a ≠ b := fun e => by rw [e, ho.irr] at h; cases h
theorem SrtA.nodup (ho : Ord κ lt) {l : AL κ β} (h : SrtA lt l) : (l.map (·.1)).Nodup := List.pairwise_map.2 (h.imp fun hab => SrtA.ne ho hab)
theorem lkA_of (ho : Ord κ lt) : ∀ {l : AL κ β} {k : κ} {v : β}, SrtA lt l → (k, v) ∈ l → lkA l k = some v
  | q :: l, k, v, h, hm => by
    obtain ⟨h1, h2⟩ := List.pairwise_cons.1 h
    rw [lkA_cons]
    rcases List.mem_cons.1 hm with rfl | hm
    · simp
    · rw [if_neg (SrtA.ne ho (h1 _ hm))]; exact lkA_of ho h2 hm
theorem lkA_ins : ∀ (l : AL κ β) (k : κ) (v : β) (q : κ), lkA (insA lt k v l) q = if q = k then some v else lkA l q
  | [], k, v, q => by
    simp only [insA, lkA_cons, lkA_nil]
    by_cases h : q = k
    · rw [if_pos h.symm, if_pos h]
    · rw [if_neg (Ne.symm h), if_neg h]
  | x :: l, k, v, q => by
    have ih := lkA_ins l k v q
    simp only [insA]
    by_cases h : x.1 = k
    · rw [if_pos h]
      simp only [lkA_cons]
      by_cases e : q = k
      · rw [if_pos e.symm, if_pos e]
      · rw [if_neg (Ne.symm e), if_neg e, if_neg (fun e2 => e (by rw [← e2, h]))]
    · rw [if_neg h]
      split
      · simp only [lkA_cons]
        by_cases e : q = k
        · rw [if_pos e.symm, if_pos e]
        · rw [if_neg (Ne.symm e), if_neg e]
      · simp only [lkA_cons, ih]
        by_cases e : x.1 = q
        · rw [if_pos e, if_pos e, if_neg (fun e2 => h (by rw [e, e2]))]
        · rw [if_neg e, if_neg e]
theorem lkA_del (l : AL κ β) (k q : κ) : lkA (delA k l) q = if q = k then none else lkA l q := by
  induction l with
  | nil => unfold delA; simp [lkA_nil]
  | cons x l ih =>
    unfold delA at ih ⊢
    rw [List.filter_cons]
    by_cases h : x.1 = k
    · simp only [h, beq_self_eq_true, Bool.not_true, Bool.false_eq_true, if_false, ih, lkA_cons]
      by_cases e : q = k
      · simp [e]
      · rw [if_neg e, if_neg e, if_neg (Ne.symm e)]
    · have : (!(x.1 == k)) = true := by simp [h]
      rw [if_pos this]
      simp only [lkA_cons, ih]
      by_cases e : q = k
      · rw [if_pos e, if_neg (fun e2 => h (by rw [e2, e]))]; rw [if_pos e]
      · rw [if_neg e, if_neg e]
theorem insA_mem {l : AL κ β} {k : κ} {v : β} {q : κ × β} (h : q ∈ insA lt k v l) : q = (k, v) ∨ q ∈ l := by
  induction l with
  | nil => simp [insA] at h; exact .inl h
  | cons x l ih =>
    simp only [insA] at h
    split at h
    · rcases List.mem_cons.1 h with h | h
      · exact .inl h
      · exact .inr (List.mem_cons_of_mem _ h)
    · split at h
      · rcases List.mem_cons.1 h with h | h
        · exact .inl h
        · exact .inr h
      · rcases List.mem_cons.1 h with h | h
        · exact .inr (by rw [h]; exact List.mem_cons_self ..)
        · rcases ih h with h | h
          · exact .inl h
          · exact .inr (List.mem_cons_of_mem _ h)
theorem SrtA.ins (ho : Ord κ lt) {k : κ} {v : β} : ∀ {l : AL κ β}, SrtA lt l → SrtA lt (insA lt k v l)
  | [], _ => List.pairwise_singleton ..
  | x :: l, h => by
    obtain ⟨h1, h2⟩ := List.pairwise_cons.1 h
    simp only [insA]
    split
    · rename_i e
      exact List.pairwise_cons.2 ⟨fun y hy => by have := h1 y hy; rw [e] at this; exact this, h2⟩
    · rename_i e
      split
      · rename_i hb
        refine List.pairwise_cons.2 ⟨fun y hy => ?_, h⟩
        rcases List.mem_cons.1 hy with rfl | hy
        · exact hb
        · exact ho.tr _ _ _ hb (h1 y hy)
      · rename_i hb
        refine List.pairwise_cons.2 ⟨fun y hy => ?_, SrtA.ins ho h2⟩
        rcases insA_mem hy with rfl | hy
        · cases hx : lt x.1 k with
          | true => rfl
          | false => exact absurd (ho.tot _ _ hx (by simpa using hb)) e
        · exact h1 y hy
theorem SrtA.del {k : κ} {l : AL κ β} (h : SrtA lt l) : SrtA lt (delA k l) := List.Pairwise.sublist List.filter_sublist h
theorem insA_len (k : κ) (v : β) : ∀ l : AL κ β, (insA lt k v l).length ≤ l.length + 1 ∧ l.length ≤ (insA lt k v l).length
  | [] => by simp [insA]
  | x :: l => by
    have ih := insA_len k v l
    simp only [insA]
    split
    · simp
    · split <;> simp <;> omega
theorem insA_has (ho : Ord κ lt) {k : κ} {v : β} : ∀ {l : AL κ β}, SrtA lt l → lkA l k ≠ none → (insA lt k v l).length = l.length
  | [], _, h => absurd rfl h
  | x :: l, hs, h => by
    obtain ⟨h1, h2⟩ := List.pairwise_cons.1 hs
    simp only [insA]
    split
    · simp
    · rename_i e
      rw [lkA_cons, if_neg e] at h
      split
      · rename_i hb
        exfalso
        cases hv : lkA l k with
        | none => exact h hv
        | some w =>
          have := h1 _ (lkA_mem hv)
          have h3 := ho.tr _ _ _ hb this
          simp only at h3
          rw [ho.irr] at h3; cases h3
      · simp [insA_has ho h2 h]
theorem SrtA.ext (ho : Ord κ lt) : ∀ {a b : AL κ β}, SrtA lt a → SrtA lt b → (∀ k, lkA a k = lkA b k) → a = b
  | [], [], _, _, _ => rfl
  | [], y :: b, _, hb, h => by have := h y.1; rw [lkA_nil, lkA_of ho hb (List.mem_cons_self ..)] at this; cases this
  | x :: a, [], ha, _, h => by have := h x.1; rw [lkA_nil, lkA_of ho ha (List.mem_cons_self ..)] at this; cases this
  | x :: a, y :: b, ha, hb, h => by
    obtain ⟨a1, a2⟩ := List.pairwise_cons.1 ha
    obtain ⟨b1, b2⟩ := List.pairwise_cons.1 hb
    have hxy : x.1 = y.1 := by
      have hx := h x.1
      have hy := h y.1
      rw [lkA_of ho ha (List.mem_cons_self ..), lkA_cons] at hx
      rw [lkA_of ho hb (List.mem_cons_self ..), lkA_cons] at hy
      apply Classical.byContradiction
      intro hne
      rw [if_neg (Ne.symm hne)] at hx
      rw [if_neg hne] at hy
      have g1 := b1 _ (lkA_mem hx.symm)
      have g2 := a1 _ (lkA_mem hy)
      have := ho.tr _ _ _ g1 g2
      rw [ho.irr] at this; cases this
    have hv : x.2 = y.2 := by
      have hx := h x.1
      rw [lkA_of ho ha (List.mem_cons_self ..), lkA_cons, if_pos hxy.symm] at hx
      exact Option.some.inj hx
    have he : x = y := Prod.ext hxy hv
    rw [he, SrtA.ext ho a2 b2 (fun k => ?_)]
    have hk := h k
    rw [lkA_cons, lkA_cons, he] at hk
    by_cases e : y.1 = k
    · have n1 : lkA a k = none := lkA_none.2 fun q hq => by
        have := SrtA.ne ho (a1 q hq)
        rw [← e, ← hxy]; exact Ne.symm this
      have n2 : lkA b k = none := lkA_none.2 fun q hq => by
        have := SrtA.ne ho (b1 q hq)
        rw [← e]; exact Ne.symm this
      rw [n1, n2]
    · rw [if_neg e, if_neg e] at hk; exact hk
end
/-! ### A map that holds such a list -/
section
variable {κ β : Type} [DecidableEq κ] {lt : κ → κ → Bool}
def encM (enc : β → Value) (l : AL κ β) : κ → Option Value := fun k => (lkA l k).map enc
theorem lkA_iff {l : AL κ β} {k : κ} : lkA l k ≠ none ↔ k ∈ l.map (·.1) := by
  constructor
  · intro h
    cases hv : lkA l k with
    | none => exact absurd hv h
    | some v => exact List.mem_map.2 ⟨_, lkA_mem hv, rfl⟩
  · intro h hn
    obtain ⟨q, hq, rfl⟩ := List.mem_map.1 h
    exact lkA_none.1 hn q hq rfl
end
theorem encM_ins {β : Type} (enc : β → Value) (l : AL Key β) (k : Key) (v : β) : updM (encM enc l) k (some (enc v)) = encM enc (insA blt k v l) := by
  funext q; unfold updM encM; rw [lkA_ins]; split <;> rfl
theorem encM_insi {β : Type} (enc : β → Value) (l : AL Int β) (k : Int) (v : β) : updMi (encM enc l) k (some (enc v)) = encM enc (insA ilt k v l) := by
  funext q; unfold updMi encM; rw [lkA_ins]; split <;> rfl
theorem encM_deli {β : Type} (enc : β → Value) (l : AL Int β) (k : Int) : updMi (encM enc l) k none = encM enc (delA k l) := by
  funext q; unfold updMi encM; rw [lkA_del]; split <;> rfl
theorem MapS.keysA {β : Type} {enc : β → Value} {l : AL Key β} {es : Array MapEntry} {clock : Nat} (h : MapS es clock (encM enc l)) (hs : SrtA blt l) : (es.toList.map eKey).Perm (l.map (·.1)) := by
  refine (List.perm_ext_iff_of_nodup h.nod (hs.nodup bltO)).2 fun k => ?_
  rw [← lkA_iff]
  have hv := h.val k
  unfold encM at hv
  rw [← Classical.not_not (a := k ∈ es.toList.map eKey), ← fnd_none (l := es.toList) (i := 0)]
  constructor
  · intro hn he
    rw [he] at hv
    cases hf : fnd k es.toList 0 with
    | none => exact hn hf
    | some p => rw [hf] at hv; cases hv
  · intro hn he
    rw [he] at hv
    cases hl : lkA l k with
    | none => exact hn hl
    | some p => rw [hl] at hv; cases hv
theorem MapSi.keysA {β : Type} {enc : β → Value} {l : AL Int β} {es : Array MapEntry} {clock : Nat} (h : MapSi es clock (encM enc l)) (hs : SrtA ilt l) : (es.toList.map eKeyi).Perm (l.map (·.1)) := by
  refine (List.perm_ext_iff_of_nodup h.nod (hs.nodup iltO)).2 fun k => ?_
  rw [← lkA_iff]
  have hv := h.val k
  unfold encM at hv
  rw [← Classical.not_not (a := k ∈ es.toList.map eKeyi), ← fnd_nonei (l := es.toList) (i := 0)]
  constructor
  · intro hn he
    rw [he] at hv
    cases hf : fndi k es.toList 0 with
    | none => exact hn hf
    | some p => rw [hf] at hv; cases hv
  · intro hn he
    rw [he] at hv
    cases hl : lkA l k with
    | none => exact hn hl
    | some p => rw [hl] at hv; cases hv
theorem MapS.sizeA {β : Type} {enc : β → Value} {l : AL Key β} {es : Array MapEntry} {clock : Nat} (h : MapS es clock (encM enc l)) (hs : SrtA blt l) : es.size = l.length := by
  have := (h.keysA hs).length_eq; simpa using this
theorem MapSi.sizeA {β : Type} {enc : β → Value} {l : AL Int β} {es : Array MapEntry} {clock : Nat} (h : MapSi es clock (encM enc l)) (hs : SrtA ilt l) : es.size = l.length := by
  have := (h.keysA hs).length_eq; simpa using this
end Go.SL
-- S3
set_option linter.unusedSimpArgs false
set_option linter.unusedVariables false
namespace Go.Proofs.YtmmfcgbfbcamcaaGreatDoor
open Go.SL
set_option maxRecDepth 10000
theorem keyOk_len {k : List UInt8} (h : keyOk k = true) : 1 ≤ k.length ∧ k.length ≤ 110 := by simpa [keyOk] using h
abbrev mk0 : TMk := ⟨z0, 0⟩
structure Mch where
  span : TSpan
  sp : Sp
  nt : Nts
  marks : AL (List UInt8) TMk
  low : TMk
  recs : AL Int TRc
  seen : AL Int TSn
  oldest : Int
  kept : List UInt8
def failR (e : Int) : TRes := ⟨e, gotN, [], z0, 0, 0⟩
def okR : TRes := failR 0
def oursB (p q : TSpan) : Bool := !(blt q.fFrom p.fFrom) && (p.fTo.length == 0 || (!(q.fTo.length == 0) && !(blt p.fTo q.fTo)))
def readK (k : TMk) (a : TStamp) (n : Int) : TMk := if bhd a k.fAt = true then ⟨a, n⟩ else if bhd k.fAt a = false ∧ n ≠ k.fBy then ⟨k.fAt, 0⟩ else k
def lowAll (low : TMk) (l : AL (List UInt8) TMk) : TMk := l.foldl (fun k q => readK k q.2.fAt q.2.fBy) low
def fullB (m : Mch) (k : List UInt8) : Bool := (lkA m.marks k).isNone && m.marks.length == 32
def room (m : Mch) (k : List UInt8) : Mch := if fullB m k = true then { m with marks := [], low := lowAll m.low m.marks } else m
def markF (m : Mch) (k : List UInt8) (a : TStamp) (n : Int) : Mch :=
  { room m k with marks := insA blt k (readK ((lkA (room m k).marks k).getD mk0) a n) (room m k).marks }
def liftK (k : TMk) (w : TStamp) (n : Int) : TStamp × Int := if k.fBy = n ∧ bhd k.fAt w = true then (k.fAt, 0) else if k.fBy = n ∨ bhd w k.fAt = true then (w, 0) else nextF k.fAt
def getM (m : Mch) (c : TCmd) : TRes × Mch :=
  if inB m.span c.fKey = false then (failR 141, m) else
  if (getF m.sp c.fKey c.fAt c.fTxn).2 ≠ 0 then (⟨(getF m.sp c.fKey c.fAt c.fTxn).2, gotN, [], z0, (getF m.sp c.fKey c.fAt c.fTxn).1.fBy, 0⟩, m) else
  (⟨0, (getF m.sp c.fKey c.fAt c.fTxn).1, [], z0, 0, 0⟩, markF m c.fKey c.fAt c.fTxn)
def scanM (m : Mch) (c : TCmd) : TRes × Mch :=
  if oursB m.span c.fSpan = false then (failR 141, m) else
  if (scanF m.sp c.fSpan c.fAt c.fTxn c.fMost).2.2 ≠ 0 then (⟨(scanF m.sp c.fSpan c.fAt c.fTxn c.fMost).2.2, gotN, [], z0, (scanF m.sp c.fSpan c.fAt c.fTxn c.fMost).2.1, 0⟩, m) else
  (⟨0, gotN, (scanF m.sp c.fSpan c.fAt c.fTxn c.fMost).1, z0, 0, 0⟩, { m with low := readK m.low c.fAt c.fTxn })
def againF (m : Mch) (c : TCmd) : Option TRes := match lkA m.seen c.fTxn with
  | some x => if x.fSeq = c.fSeq then some ⟨x.fCode, gotN, [], x.fAt, 0, 0⟩ else if c.fSeq < x.fSeq then some (failR 144) else none
  | none => if c.fTxn ≤ m.oldest then some (failR 144) else none
def seeS (m : Mch) (c : TCmd) (e : Int) (a : TStamp) : AL Int TSn := insA ilt c.fTxn ⟨c.fSeq, e, a⟩ m.seen
def seeF (m : Mch) (c : TCmd) (e : Int) (a : TStamp) : Mch :=
  if 64 < (seeS m c e a).length then { m with seen := (seeS m c e a).tail, oldest := ((seeS m c e a).head?.map (·.1)).getD 0 } else { m with seen := seeS m c e a }
def lift1 (m : Mch) (c : TCmd) : TStamp × Int := match lkA m.marks c.fKey with
  | some k => liftK k c.fAt c.fTxn
  | none => (c.fAt, 0)
def putIn (c : TCmd) (w : TStamp) : TIntent := ⟨c.fKey, c.fTxn, w, c.fDel, c.fValue⟩
def putM (m : Mch) (c : TCmd) : TRes × Mch :=
  if inB m.span c.fKey = false then (failR 141, m) else
  match againF m c with
  | some r => (r, m)
  | none =>
    if (lift1 m c).2 ≠ 0 then (failR (lift1 m c).2, m) else
    if (liftK m.low (lift1 m c).1 c.fTxn).2 ≠ 0 then (failR (liftK m.low (lift1 m c).1 c.fTxn).2, m) else
    let x := putIn c (liftK m.low (lift1 m c).1 c.fTxn).1
    let m1 : Mch := { m with sp := putS m.sp x, nt := putN m.sp x m.nt }
    (⟨(putA m.sp x).2.2, gotN, [], (putA m.sp x).1, (putA m.sp x).2.1, 0⟩, if (putA m.sp x).2.2 = 0 then seeF m1 c 0 (putA m.sp x).1 else m1)
def refM (m : Mch) (c : TCmd) : TRes × Mch :=
  if oursB m.span c.fSpan = false then (failR 141, m) else
  match againF m c with
  | some r => (r, m)
  | none =>
    if bhd c.fAt c.fTo = true then (failR 1, m) else
    if (chF m.sp c.fSpan c.fAt c.fTo c.fTxn).2 ≠ 0 then (failR (chF m.sp c.fSpan c.fAt c.fTo c.fTxn).2, m) else
    if (chF m.sp c.fSpan c.fAt c.fTo c.fTxn).1 = true then (failR 144, m) else
    (okR, seeF { m with low := readK m.low c.fTo c.fTxn } c 0 z0)
def recF (m : Mch) (n s : Int) (a : TStamp) : Option Mch := if (lkA m.recs n).isSome = true then some m else if 64 ≤ m.recs.length then none else some { m with recs := insA ilt n ⟨s, a⟩ m.recs }
def recAt (m : Mch) (n : Int) : TRc := (lkA m.recs n).getD ⟨0, z0⟩
def begM (m : Mch) (c : TCmd) : TRes × Mch :=
  match againF m c with
  | some r => (r, m)
  | none => match recF m c.fTxn 1 c.fAt with
    | none => (failR 143, m)
    | some m1 => if (recAt m1 c.fTxn).fState ≠ 1 then (⟨142, gotN, [], z0, 0, (recAt m1 c.fTxn).fState⟩, m1) else (⟨0, gotN, [], z0, 0, 1⟩, seeF m1 c 0 z0)
def wantOf (c : TCmd) : Int := if c.fYes = true then 2 else 3
def endOf (m1 : Mch) (c : TCmd) : Mch := if (recAt m1 c.fTxn).fState = 1 then { m1 with recs := insA ilt c.fTxn ⟨wantOf c, c.fAt⟩ m1.recs } else m1
def endM (m : Mch) (c : TCmd) : TRes × Mch := match recF m c.fTxn 3 c.fAt with
  | none => (failR 143, m)
  | some m1 => (⟨if (recAt (endOf m1 c) c.fTxn).fState ≠ wantOf c then 142 else 0, gotN, [], (recAt (endOf m1 c) c.fTxn).fAt, 0, (recAt (endOf m1 c) c.fTxn).fState⟩, endOf m1 c)
def pushB (x : TRc) (c : TCmd) : Bool := x.fState == 1 && (bhd x.fAt c.fAt || (!(bhd c.fAt x.fAt) && decide (c.fBy < c.fTxn)))
def pushOf (m1 : Mch) (c : TCmd) : Mch := if pushB (recAt m1 c.fTxn) c = true then { m1 with recs := insA ilt c.fTxn ⟨3, (recAt m1 c.fTxn).fAt⟩ m1.recs } else m1
def pushM (m : Mch) (c : TCmd) : TRes × Mch := match recF m c.fTxn 3 c.fAt with
  | none => (failR 143, m)
  | some m1 => (⟨0, gotN, [], (recAt m1 c.fTxn).fAt, 0, if pushB (recAt m1 c.fTxn) c = true then 3 else (recAt m1 c.fTxn).fState⟩, pushOf m1 c)
def forM (m : Mch) (c : TCmd) : TRes × Mch := if (recAt m c.fTxn).fState = 1 then (failR 142, m) else (okR, { m with recs := delA c.fTxn m.recs })
def resL (c : TCmd) : List TIntent → Sp → Nts → Int × Sp × Nts
  | [], sp, nt => (0, sp, nt)
  | x :: l, sp, nt => if x.fTxn ≠ c.fTxn ∨ inB c.fSpan x.fKey = false then resL c l sp nt else
      if (resA sp x.fKey c.fTxn c.fYes c.fAt).2 ≠ 0 then ((resA sp x.fKey c.fTxn c.fYes c.fAt).2, resS sp x.fKey c.fTxn c.fYes c.fAt, resN sp x.fKey c.fTxn c.fYes c.fAt nt) else
      resL c l (resS sp x.fKey c.fTxn c.fYes c.fAt) (resN sp x.fKey c.fTxn c.fYes c.fAt nt)
def resM (m : Mch) (c : TCmd) : TRes × Mch := if oursB m.span c.fSpan = false then (failR 141, m) else
  (failR (resL c (intsOf m.sp.rows) m.sp m.nt).1, { m with sp := (resL c (intsOf m.sp.rows) m.sp m.nt).2.1, nt := (resL c (intsOf m.sp.rows) m.sp m.nt).2.2 })
def colM (m : Mch) (c : TCmd) : TRes × Mch := (failR (colA m.sp c.fAt).2, { m with sp := colS m.sp c.fAt, nt := colN m.sp c.fAt m.nt })
noncomputable def splitM (m : Mch) (c : TCmd) : TRes × Mch × Option Mch := if inB m.span c.fKey = false ∨ c.fKey = m.span.fFrom then (failR 141, m, none) else
  (okR, { m with span := ⟨m.span.fFrom, c.fKey⟩, sp := splL c.fKey m.sp, nt := noteAs true (highR c.fKey m.sp.rows) m.nt, marks := m.marks.filter fun q => blt q.1 c.fKey },
    some ⟨⟨c.fKey, m.span.fTo⟩, splR c.fKey m.sp, noteAs false (highR c.fKey m.sp.rows) (floorN m.sp.floor), m.marks.filter fun q => !blt q.1 c.fKey, m.low, [], m.seen, m.oldest, []⟩)
def noSplit (r : TRes × Mch) : TRes × Mch × Option Mch := (r.1, r.2, none)
noncomputable def doM (m : Mch) (c : TCmd) : TRes × Mch × Option Mch :=
  if c.fKind = 1 then noSplit (getM m c) else if c.fKind = 2 then noSplit (scanM m c) else if c.fKind = 3 then noSplit (putM m c) else if c.fKind = 4 then noSplit (refM m c) else if c.fKind = 5 then noSplit (begM m c) else
  if c.fKind = 6 then noSplit (endM m c) else if c.fKind = 7 then noSplit (pushM m c) else if c.fKind = 8 then noSplit (forM m c) else if c.fKind = 9 then noSplit (resM m c) else if c.fKind = 10 then noSplit (colM m c) else splitM m c
noncomputable def applyM (m : Mch) (c : TCmd) : TRes × Mch × Option Mch := if rightP c = false then (failR 140, m, none) else doM m c
def mch0 (p : TSpan) : Mch := ⟨p, sp0, nt0, [], mk0, [], [], 0, []⟩
/-! ### What machines there are -/
def maxB (n : Int) : Bool := decide (0 ≤ n ∧ n ≤ 9007199254740991)
structure MkOk (k : TMk) : Prop where
  right : rightB k.fAt = true
  by' : maxB k.fBy = true
structure RcOk (x : TRc) : Prop where
  state : 1 ≤ x.fState ∧ x.fState ≤ 3
  right : rightB x.fAt = true
structure SnOk (x : TSn) : Prop where
  seq : maxB x.fSeq = true
  code : x.fCode = 0
  right : rightB x.fAt = true
structure MOk (m : Mch) (N : Nat) : Prop where
  span : spanOk m.span = true
  sp : SpOk m.sp
  rows : m.sp.rows.length ≤ N
  vers : versN m.sp.rows ≤ N * N
  marks : SrtA blt m.marks
  marksL : m.marks.length ≤ 32
  mark : ∀ q ∈ m.marks, keyOk q.1 = true ∧ MkOk q.2
  low : MkOk m.low
  recs : SrtA ilt m.recs
  recsL : m.recs.length ≤ 64
  rec' : ∀ q ∈ m.recs, txnB q.1 = true ∧ RcOk q.2
  seen : SrtA ilt m.seen
  seenL : m.seen.length ≤ 64
  sn : ∀ q ∈ m.seen, txnB q.1 = true ∧ SnOk q.2
  oldest : maxB m.oldest = true
end Go.Proofs.YtmmfcgbfbcamcaaGreatDoor
-- S3
set_option linter.unusedSimpArgs false
set_option linter.unusedVariables false
namespace Go.Proofs.YtmmfcgbfbcamcaaGreatDoor
open Go.SL
set_option maxRecDepth 10000
section
variable {ω : Om} {I : Imm} {L : LH} {K : Value → M}
theorem cloneO_spec {v : Value} {l : List UInt8} (h : Bytes I v l) (hl : l.length ≤ 140737488355328) (hk : ∀ X a c, SlO 5 1 X (.slice a l.length c) (u8s l) l.length → K (.slice a l.length c) I (X ++ L)) : Cal Tryz.prog ω 82 #[v] K I L := by
  refine cal82 ?_
  unfold sh82
  obtain ⟨a, cap, rfl⟩ := Bytes.form h
  cases a with
  | none =>
    try simp only [SSd, Nat.reduceAdd]
    have hl0 : l.length = 0 := by
      obtain ⟨_, a, c, e, _, h⟩ := h
      cases e
      by_cases h0 : l.length = 0
      · exact h0
      · obtain ⟨b, off, cs, T, fr, e, _⟩ := h h0; cases e
    have : l = [] := List.eq_nil_of_length_eq_zero hl0
    subst this
    exact Gh.done (hk [] _ _ (SlO.none _ 1))
  | some a =>
    try simp only [SSd, Nat.reduceAdd]
    refine bld_zero (fun X u hX => ?_)
    refine app_own rfl hX (SlI.news h) (u8s_one _) (by omega) (by omega) (fun X' v' hX' => ?_)
    obtain ⟨a1, cap1, rfl⟩ := hX'.form
    simp only [Nat.zero_add, List.nil_append] at hX' ⊢
    exact Gh.done (hk X' _ _ hX')
theorem cloneB_spec {v : Value} {l : List UInt8} (h : Bytes I v l) (hl : l.length ≤ 140737488355328) (hk : ∀ a c I', Ext I I' → Bytes I' (.slice a l.length c) l → K (.slice a l.length c) I' L) : Cal Tryz.prog ω 82 #[v] K I L :=
  Cal.gh (cloneO_spec h hl (fun X a c hX => SlO.freeze hX (fun I' hI hS => Gh.done (hk a c I' hI hS))))
theorem bcompare_spec {v w : Value} {a b : List UInt8} (hv : Bytes I v a) (hw : Bytes I w b) (hk : K (.int .i64 (bcmp a b)) I L) : Cal Tryz.prog ω 85 #[v, w] K I L := by
  refine cal85 ?_
  unfold sh85
  exact cmp_ext hv hw (Gh.done (Gh.done hk))
theorem pkey_spec {v : Value} {l : List UInt8} (h : Bytes I v l) (hk : K (.bool (keyOk l)) I L) : Cal Tryz.prog ω 91 #[v] K I L := by
  obtain ⟨a, c, rfl⟩ := Bytes.form h
  refine cal91 ?_
  unfold sh91
  repeat' (first | (with_reducible refine drawC ?_) | (with_reducible refine drawW1 ?_) | (with_reducible refine drawW2 ?_) | (with_reducible refine keepC (by repeat (first | exact Ext.refl _ | assumption | refine Ext.trans ?_ (by assumption))) ?_) | (with_reducible refine newI (fun _ => ?_)) | first | (with_reducible refine rdb ?_) | ((with_reducible refine st1 ?_ ?_); rfl) | ((with_reducible refine rdB ?_ ?_); rfl) | (with_reducible refine rdbS ?_) | ((with_reducible refine rdBS ?_ ?_); rfl) | ((with_reducible refine stB ?_ ?_ ?_ ?_); rfl; rfl; exact one_all rfl) | ((with_reducible refine rdP _ rfl ?_ ?_); rfl) | ((with_reducible refine rdPS _ rfl ?_ ?_); rfl) | ((with_reducible refine stP _ rfl ?_ ?_ ?_ ?_); rfl; rfl; rfl) | (with_reducible refine unfE (sh91.eq_1 ..) ?_) | (with_reducible refine And.intro ?_ ?_) | (simp only [Bool.not_true, Bool.not_false, Bool.and_self, Bool.true_and, Int.reduceBEq, Int.reduceBNe, Int.reduceLT, Int.reduceLE, decide_true, decide_false, Br_true, Br_false, Gd_tt, Gd_ft, Gd_tf, Gd_ff, beq_self_eq_true, bne_self_eq_false]) | (with_reducible refine gd_split (fun _ => ?_) (fun _ => ?_)) | (with_reducible refine br_split (fun _ => ?_) (fun _ => ?_)) | (simp only [SSd, Nat.reduceAdd]))
  all_goals (refine Gh.done (leafB hk ?_); rw [Bool.eq_iff_iff]; simp only [keyOk, ne_eq, decide_eq_true_eq, decide_eq_false_iff_not, Bool.false_eq_true, iff_false] at *; omega)
theorem ptxn_spec {a : Int} (hk : K (.bool (txnB a)) I L) : Cal Tryz.prog ω 90 #[.int .i64 a] K I L := by
  refine cal90 ?_
  unfold sh90
  repeat' (first | (with_reducible refine drawC ?_) | (with_reducible refine drawW1 ?_) | (with_reducible refine drawW2 ?_) | (with_reducible refine keepC (by repeat (first | exact Ext.refl _ | assumption | refine Ext.trans ?_ (by assumption))) ?_) | (with_reducible refine newI (fun _ => ?_)) | first | (with_reducible refine rdb ?_) | ((with_reducible refine st1 ?_ ?_); rfl) | ((with_reducible refine rdB ?_ ?_); rfl) | (with_reducible refine rdbS ?_) | ((with_reducible refine rdBS ?_ ?_); rfl) | ((with_reducible refine stB ?_ ?_ ?_ ?_); rfl; rfl; exact one_all rfl) | ((with_reducible refine rdP _ rfl ?_ ?_); rfl) | ((with_reducible refine rdPS _ rfl ?_ ?_); rfl) | ((with_reducible refine stP _ rfl ?_ ?_ ?_ ?_); rfl; rfl; rfl) | (with_reducible refine unfE (sh90.eq_1 ..) ?_) | (with_reducible refine And.intro ?_ ?_) | (simp only [Bool.not_true, Bool.not_false, Bool.and_self, Bool.true_and, Int.reduceBEq, Int.reduceBNe, Int.reduceLT, Int.reduceLE, decide_true, decide_false, Br_true, Br_false, Gd_tt, Gd_ft, Gd_tf, Gd_ff, beq_self_eq_true, bne_self_eq_false]) | (with_reducible refine gd_split (fun _ => ?_) (fun _ => ?_)) | (with_reducible refine br_split (fun _ => ?_) (fun _ => ?_)) | (simp only [SSd, Nat.reduceAdd]))
  all_goals (refine Gh.done (leafB hk ?_); simp_all [txnB] <;> omega)
theorem ltI (a b : List UInt8) : decide (0 < bcmp a b) = blt b a := bcmp_gt a b
theorem pspan_spec {p : TSpan} {c : List Value} (hp : TSpanV I p c) (hk : K (.bool (spanOk p)) I L) : Cal Tryz.prog ω 30 #[.agg c.toArray] K I L := by
  obtain ⟨v0, v1, rfl, h0, h1⟩ := hp
  refine cal30 ?_
  unfold sh30
  repeat' (first | (with_reducible refine drawC ?_) | (with_reducible refine drawW1 ?_) | (with_reducible refine drawW2 ?_) | (with_reducible refine keepC (by repeat (first | exact Ext.refl _ | assumption | refine Ext.trans ?_ (by assumption))) ?_) | (with_reducible refine newI (fun _ => ?_)) | ((with_reducible refine call ?_); refine (bcompare_spec h1 h0 ?_)) | first | (with_reducible refine rdb ?_) | ((with_reducible refine st1 ?_ ?_); rfl) | ((with_reducible refine rdB ?_ ?_); rfl) | (with_reducible refine rdbS ?_) | ((with_reducible refine rdBS ?_ ?_); rfl) | ((with_reducible refine stB ?_ ?_ ?_ ?_); rfl; rfl; exact one_all rfl) | ((with_reducible refine rdP _ rfl ?_ ?_); rfl) | ((with_reducible refine rdPS _ rfl ?_ ?_); rfl) | ((with_reducible refine stP _ rfl ?_ ?_ ?_ ?_); rfl; rfl; rfl) | (with_reducible refine unfE (sh30.eq_1 ..) ?_) | (with_reducible refine And.intro ?_ ?_) | (simp only [Bool.not_true, Bool.not_false, Bool.and_self, Bool.true_and, Int.reduceBEq, Int.reduceBNe, Int.reduceLT, Int.reduceLE, decide_true, decide_false, Br_true, Br_false, Gd_tt, Gd_ft, Gd_tf, Gd_ff, beq_self_eq_true, bne_self_eq_false]) | (with_reducible refine gd_split (fun _ => ?_) (fun _ => ?_)) | (with_reducible refine br_split (fun _ => ?_) (fun _ => ?_)) | (simp only [SSd, Nat.reduceAdd, Bytes.len h0, Bytes.len h1]))
  all_goals (refine Gh.to L (Gh.done (leafB hk ?_)); rw [Bool.eq_iff_iff]; simp only [spanOk, ← bcmp_gt, Bool.and_eq_true, Bool.or_eq_true, decide_eq_true_eq, beq_iff_eq, ne_eq, decide_eq_false_iff_not, Bool.false_eq_true, iff_false, not_and, not_or, gt_iff_lt, beq_eq_false_iff_ne, Bool.not_eq_false, iff_true] at *; omega)
theorem pholds_spec {p : TSpan} {c : List Value} {kv : Value} {k : List UInt8} (hp : TSpanV I p c) (h : Bytes I kv k) (hk : K (.bool (inB p k)) I L) : Cal Tryz.prog ω 148 #[.agg c.toArray, kv] K I L := by
  obtain ⟨v0, v1, rfl, h0, h1⟩ := hp
  refine cal148 ?_
  unfold sh148
  repeat' (first | (with_reducible refine drawC ?_) | (with_reducible refine drawW1 ?_) | (with_reducible refine drawW2 ?_) | (with_reducible refine keepC (by repeat (first | exact Ext.refl _ | assumption | refine Ext.trans ?_ (by assumption))) ?_) | (with_reducible refine newI (fun _ => ?_)) | ((with_reducible refine call ?_); refine (bcompare_spec h h0 ?_)) | ((with_reducible refine call ?_); refine (bcompare_spec h h1 ?_)) | first | (with_reducible refine rdb ?_) | ((with_reducible refine st1 ?_ ?_); rfl) | ((with_reducible refine rdB ?_ ?_); rfl) | (with_reducible refine rdbS ?_) | ((with_reducible refine rdBS ?_ ?_); rfl) | ((with_reducible refine stB ?_ ?_ ?_ ?_); rfl; rfl; exact one_all rfl) | ((with_reducible refine rdP _ rfl ?_ ?_); rfl) | ((with_reducible refine rdPS _ rfl ?_ ?_); rfl) | ((with_reducible refine stP _ rfl ?_ ?_ ?_ ?_); rfl; rfl; rfl) | (with_reducible refine unfE (sh148.eq_1 ..) ?_) | (with_reducible refine And.intro ?_ ?_) | (simp only [Bool.not_true, Bool.not_false, Bool.and_self, Bool.true_and, Int.reduceBEq, Int.reduceBNe, Int.reduceLT, Int.reduceLE, decide_true, decide_false, Br_true, Br_false, Gd_tt, Gd_ft, Gd_tf, Gd_ff, beq_self_eq_true, bne_self_eq_false]) | (with_reducible refine gd_split (fun _ => ?_) (fun _ => ?_)) | (with_reducible refine br_split (fun _ => ?_) (fun _ => ?_)) | (simp only [SSd, Nat.reduceAdd, Bytes.len h1]))
  all_goals (refine Gh.to L (Gh.done (leafB hk ?_)); rw [Bool.eq_iff_iff]; simp only [inB, ← bcmp_lt, Bool.not_eq_true', Bool.and_eq_true, Bool.or_eq_true, decide_eq_true_eq, beq_iff_eq, ne_eq, decide_eq_false_iff_not, Bool.false_eq_true, iff_false, not_and, not_or, ge_iff_le, true_iff, and_true, true_and, or_true, beq_eq_false_iff_ne, Bool.not_eq_false, iff_true] at *; omega)
abbrev mv (k : TMk) : Value := .agg #[.int .i64 k.fAt.fWall, .int .i64 k.fAt.fLogic, .int .i64 k.fBy]
theorem scmp_pos (a b : TStamp) : decide (0 < scmp a b) = bhd a b := scmp_bhd a b
theorem scmp_neg (a b : TStamp) : decide (scmp a b < 0) = bhd b a := by
  unfold scmp bhd icmp
  by_cases h1 : a.fWall < b.fWall <;> by_cases h2 : b.fWall < a.fWall <;> by_cases h3 : a.fLogic < b.fLogic <;> by_cases h4 : b.fLogic < a.fLogic <;> simp [h1, h2, h3, h4] <;> omega
theorem leafM {k k' : TMk} (h : K (mv k) I L) (e : k = k') : K (mv k') I L := e ▸ h
theorem mread_spec {k : TMk} {a : TStamp} {n : Int} (hk : K (mv (readK k a n)) I L) : Cal Tryz.prog ω 153 #[mv k, sv a, .int .i64 n] K I L := by
  refine cal153 ?_
  unfold sh153
  have h1 := scmp_pos a k.fAt
  have h2 := scmp_neg a k.fAt
  repeat' (first | (with_reducible refine drawC ?_) | (with_reducible refine drawW1 ?_) | (with_reducible refine drawW2 ?_) | (with_reducible refine keepC (by repeat (first | exact Ext.refl _ | assumption | refine Ext.trans ?_ (by assumption))) ?_) | (with_reducible refine newI (fun _ => ?_)) | ((with_reducible refine call ?_); refine (hcompare_spec (x := a) (y := k.fAt) ?_)) | first | (with_reducible refine rdb ?_) | ((with_reducible refine st1 ?_ ?_); rfl) | ((with_reducible refine rdB ?_ ?_); rfl) | (with_reducible refine rdbS ?_) | ((with_reducible refine rdBS ?_ ?_); rfl) | ((with_reducible refine stB ?_ ?_ ?_ ?_); rfl; rfl; exact one_all rfl) | ((with_reducible refine rdP _ rfl ?_ ?_); rfl) | ((with_reducible refine rdPS _ rfl ?_ ?_); rfl) | ((with_reducible refine stP _ rfl ?_ ?_ ?_ ?_); rfl; rfl; rfl) | (with_reducible refine unfE (sh153_3.eq_1 ..) ?_) | (with_reducible refine unfE (sh153_1.eq_1 ..) ?_) | (with_reducible refine unfE (sh153.eq_1 ..) ?_) | (with_reducible refine And.intro ?_ ?_) | (simp only [Bool.not_true, Bool.not_false, Bool.and_self, Bool.true_and, Int.reduceBEq, Int.reduceBNe, Int.reduceLT, Int.reduceLE, decide_true, decide_false, Br_true, Br_false, Gd_tt, Gd_ft, Gd_tf, Gd_ff, beq_self_eq_true, bne_self_eq_false]) | (with_reducible refine gd_split (fun _ => ?_) (fun _ => ?_)) | (with_reducible refine br_split (fun _ => ?_) (fun _ => ?_)) | (simp only [SSd, Nat.reduceAdd]))
  · exact Gh.to L (Gh.done (leafM (k' := ⟨a, n⟩) hk (by unfold readK; rw [if_pos (by rw [← h1]; assumption)])))
  · rename_i e1 e2 e3
    refine Gh.to L (Gh.done (leafM (k' := ⟨k.fAt, 0⟩) hk ?_))
    unfold readK
    rw [if_neg (by rw [← h1]; simpa using e1), if_pos ⟨by rw [← h2]; simp at e2 ⊢; omega, by simpa using e3⟩]
  · rename_i e1 e2 e3
    refine Gh.to L (Gh.done (leafM (k' := k) hk ?_))
    unfold readK
    rw [if_neg (by rw [← h1]; simpa using e1), if_neg (by rintro ⟨_, h⟩; simp at e3; exact h e3)]
  · rename_i e1 e2
    refine Gh.to L (Gh.done (leafM (k' := k) hk ?_))
    unfold readK
    rw [if_neg (by rw [← h1]; simpa using e1), if_neg (by rintro ⟨h, _⟩; rw [← h2] at h; simp at e1 e2 h; omega)]
theorem leafN2 {p : TStamp × Int} {q : TStamp} {e : Int} (h : K (.tuple #[sv p.1, .int .i64 p.2]) I L) (h2 : p = (q, e)) : K (.tuple #[sv q, .int .i64 e]) I L := by subst h2; exact h
theorem mlift_spec {k : TMk} {w : TStamp} {n : Int} (hk : K (.tuple #[sv (liftK k w n).1, .int .i64 (liftK k w n).2]) I L) : Cal Tryz.prog ω 155 #[mv k, sv w, .int .i64 n] K I L := by
  refine cal155 ?_
  unfold sh155
  have h1 := scmp_pos k.fAt w
  have h2 := scmp_neg k.fAt w
  repeat' (first | (with_reducible refine drawC ?_) | (with_reducible refine drawW1 ?_) | (with_reducible refine drawW2 ?_) | (with_reducible refine keepC (by repeat (first | exact Ext.refl _ | assumption | refine Ext.trans ?_ (by assumption))) ?_) | (with_reducible refine newI (fun _ => ?_)) | ((with_reducible refine call ?_); refine (hcompare_spec (x := k.fAt) (y := w) ?_)) | ((with_reducible refine call ?_); refine (hnext_spec ?_)) | first | (with_reducible refine rdb ?_) | ((with_reducible refine st1 ?_ ?_); rfl) | ((with_reducible refine rdB ?_ ?_); rfl) | (with_reducible refine rdbS ?_) | ((with_reducible refine rdBS ?_ ?_); rfl) | ((with_reducible refine stB ?_ ?_ ?_ ?_); rfl; rfl; exact one_all rfl) | ((with_reducible refine rdP _ rfl ?_ ?_); rfl) | ((with_reducible refine rdPS _ rfl ?_ ?_); rfl) | ((with_reducible refine stP _ rfl ?_ ?_ ?_ ?_); rfl; rfl; rfl) | (with_reducible refine unfE (sh155_1.eq_1 ..) ?_) | (with_reducible refine unfE (sh155_3.eq_1 ..) ?_) | (with_reducible refine unfE (sh155_2.eq_1 ..) ?_) | (with_reducible refine unfE (sh155.eq_1 ..) ?_) | (with_reducible refine And.intro ?_ ?_) | (simp only [Bool.not_true, Bool.not_false, Bool.and_self, Bool.true_and, Int.reduceBEq, Int.reduceBNe, Int.reduceLT, Int.reduceLE, decide_true, decide_false, Br_true, Br_false, Gd_tt, Gd_ft, Gd_tf, Gd_ff, beq_self_eq_true, bne_self_eq_false]) | (with_reducible refine gd_split (fun _ => ?_) (fun _ => ?_)) | (with_reducible refine br_split (fun _ => ?_) (fun _ => ?_)) | (simp only [SSd, Nat.reduceAdd]))
  all_goals refine Gh.to L (Gh.done ?_)
  all_goals first | refine leafN2 (q := k.fAt) hk ?_ | refine leafN2 (q := w) hk ?_ | refine leafN2 hk (q := (nextF k.fAt).1) (e := (nextF k.fAt).2) ?_
  all_goals (unfold liftK; rw [← h1, ← h2]; clear h1 h2 hk; simp only [decide_eq_true_eq, beq_iff_eq, beq_eq_false_iff_ne, Bool.not_eq_false, gt_iff_lt, ne_eq, decide_eq_false_iff_not, Bool.not_eq_true] at *)
  all_goals first | (rw [if_pos (by omega)]; done) | (rw [if_neg (by omega), if_pos (by omega)]; done) | (rw [if_neg (by omega), if_neg (by omega)]; done) | trace_state
end
end Go.Proofs.YtmmfcgbfbcamcaaGreatDoor
-- S3
set_option linter.unusedSimpArgs false
set_option linter.unusedVariables false
namespace Go.Proofs.YtmmfcgbfbcamcaaGreatDoor
open Go.SL
set_option maxRecDepth 10000
theorem maxB_iff {n : Int} : maxB n = true ↔ maxI n := by simp [maxB, maxI]
theorem mk0_ok : MkOk mk0 := ⟨by decide, by decide⟩
theorem readK_ok {k : TMk} {a : TStamp} {n : Int} (h : MkOk k) (ha : rightB a = true) (hn : maxB n = true) : MkOk (readK k a n) := by
  unfold readK
  split
  · exact ⟨ha, hn⟩
  · split
    · exact ⟨h.right, rfl⟩
    · exact h
theorem lowAll_ok : ∀ {l : AL (List UInt8) TMk} {k : TMk}, MkOk k → (∀ q ∈ l, keyOk q.1 = true ∧ MkOk q.2) → MkOk (lowAll k l)
  | [], k, h, _ => h
  | q :: l, k, h, hl => lowAll_ok (l := l) (readK_ok h (hl q (List.mem_cons_self ..)).2.right (hl q (List.mem_cons_self ..)).2.by') (fun x hx => hl x (List.mem_cons_of_mem _ hx))
theorem MOk.more {m : Mch} {N N' : Nat} (h : MOk m N) (hN : N ≤ N') : MOk m N' := { h with rows := Nat.le_trans h.rows hN, vers := Nat.le_trans h.vers (Nat.mul_le_mul hN hN) }
theorem room_ok {m : Mch} {N : Nat} (h : MOk m N) (k : List UInt8) : MOk (room m k) N ∧ ((lkA (room m k).marks k).isNone = true → (room m k).marks.length < 32) := by
  unfold room
  split
  · rename_i e
    exact ⟨{ h with marks := List.Pairwise.nil, marksL := by simp, mark := (fun q hq => by cases hq), low := lowAll_ok h.low h.mark }, fun _ => by simp⟩
  · rename_i e
    refine ⟨h, fun hn => ?_⟩
    have := h.marksL
    simp only [fullB, hn, Bool.true_and, beq_iff_eq] at e
    omega
theorem markF_ok {m : Mch} {N : Nat} (h : MOk m N) {k : List UInt8} {a : TStamp} {n : Int} (hk : keyOk k = true) (ha : rightB a = true) (hn : maxB n = true) : MOk (markF m k a n) N := by
  obtain ⟨h1, h2⟩ := room_ok h k
  unfold markF
  have hx : MkOk ((lkA (room m k).marks k).getD mk0) := by
    cases e : lkA (room m k).marks k with
    | none => exact mk0_ok
    | some x => exact (h1.mark _ (lkA_mem e)).2
  refine { h1 with marks := h1.marks.ins bltO, marksL := ?_, mark := fun q hq => ?_ }
  · show (insA blt k _ (room m k).marks).length ≤ 32
    have := insA_len (lt := blt) k (readK ((lkA (room m k).marks k).getD mk0) a n) (room m k).marks
    by_cases e : lkA (room m k).marks k = none
    · have := h2 (by rw [e]; rfl)
      omega
    · have := insA_has bltO (k := k) (v := readK ((lkA (room m k).marks k).getD mk0) a n) h1.marks e
      have := h1.marksL
      omega
  · rcases insA_mem hq with rfl | hq
    · exact ⟨hk, readK_ok hx ha hn⟩
    · exact h1.mark q hq
theorem seeF_ok {m : Mch} {N : Nat} (h : MOk m N) {c : TCmd} {a : TStamp} (ht : txnB c.fTxn = true) (hs : maxB c.fSeq = true) (ha : rightB a = true) : MOk (seeF m c 0 a) N := by
  have hsrt : SrtA ilt (seeS m c 0 a) := h.seen.ins iltO
  have hmem : ∀ q ∈ seeS m c 0 a, txnB q.1 = true ∧ SnOk q.2 := fun q hq => by
    rcases insA_mem hq with rfl | hq
    · exact ⟨ht, hs, rfl, ha⟩
    · exact h.sn q hq
  have hlen : (seeS m c 0 a).length ≤ m.seen.length + 1 := (insA_len ..).1
  have := h.seenL
  unfold seeF
  split
  · refine { h with seen := ?_, seenL := ?_, sn := fun q hq => hmem q (List.mem_of_mem_tail hq), oldest := ?_ }
    · exact List.Pairwise.sublist (List.tail_sublist _) hsrt
    · show (seeS m c 0 a).tail.length ≤ 64
      rw [List.length_tail]; omega
    · show maxB (((seeS m c 0 a).head?.map (·.1)).getD 0) = true
      cases e : seeS m c 0 a with
      | nil => rfl
      | cons q l =>
        have := (hmem q (by rw [e]; exact List.mem_cons_self ..)).1
        exact maxB_iff.2 (txnB_max this)
  · exact { h with seen := hsrt, seenL := by show (seeS m c 0 a).length ≤ 64; omega, sn := hmem }
theorem recF_ok {m m1 : Mch} {N : Nat} {n s : Int} {a : TStamp} (h : MOk m N) (hn : txnB n = true) (hs : 1 ≤ s ∧ s ≤ 3) (ha : rightB a = true) (e : recF m n s a = some m1) : MOk m1 N ∧ ∃ x, lkA m1.recs n = some x := by
  unfold recF at e
  split at e
  · rename_i h1
    cases e
    exact ⟨h, Option.isSome_iff_exists.1 h1⟩
  · split at e
    · cases e
    · rename_i h1 h2
      cases e
      refine ⟨{ h with recs := h.recs.ins iltO, recsL := ?_, rec' := fun q hq => ?_ }, ⟨s, a⟩, by simp [lkA_ins]⟩
      · have := insA_len (lt := ilt) n (⟨s, a⟩ : TRc) m.recs
        show (insA ilt n _ m.recs).length ≤ 64
        omega
      · rcases insA_mem hq with rfl | hq
        · exact ⟨hn, hs, ha⟩
        · exact h.rec' q hq
theorem setRec_ok {m : Mch} {N : Nat} {n s : Int} {a : TStamp} (h : MOk m N) (hn : txnB n = true) (hs : 1 ≤ s ∧ s ≤ 3) (ha : rightB a = true) (hx : ∃ x, lkA m.recs n = some x) : MOk { m with recs := insA ilt n ⟨s, a⟩ m.recs } N := by
  obtain ⟨x, hx⟩ := hx
  refine { h with recs := h.recs.ins iltO, recsL := ?_, rec' := fun q hq => ?_ }
  · show (insA ilt n _ m.recs).length ≤ 64
    rw [insA_has iltO h.recs (by rw [hx]; simp)]; exact h.recsL
  · rcases insA_mem hq with rfl | hq
    · exact ⟨hn, hs, ha⟩
    · exact h.rec' q hq
theorem recAt_ok {m : Mch} {N : Nat} {n : Int} (h : MOk m N) : (0 ≤ (recAt m n).fState ∧ (recAt m n).fState ≤ 3) ∧ rightB (recAt m n).fAt = true := by
  unfold recAt
  cases e : lkA m.recs n with
  | none => exact ⟨⟨by decide, by decide⟩, by decide⟩
  | some x =>
    have := (h.rec' _ (lkA_mem e)).2
    exact ⟨⟨by have := this.state.1; simp only [Option.getD_some] at *; omega, this.state.2⟩, this.right⟩
/-! ### Answers -/
def rowB (x : TKV) : Bool := keyOk x.fKey && decide (x.fValue.length ≤ 10000)
def ansP (r : TRes) : Bool := r.fRows.all rowB && decide (0 ≤ r.fCode ∧ r.fCode ≤ 999) && decide (0 ≤ r.fState ∧ r.fState ≤ 3) && maxB r.fBy && maxB r.fGot.fBy && rightB r.fAt && rightB r.fGot.fAt && decide (r.fGot.fValue.length ≤ 10000) && decide (r.fRows.length ≤ 90)
theorem ans0 {e : Int} {a : TStamp} {n s : Int} (he : 0 ≤ e ∧ e ≤ 999) (hs : 0 ≤ s ∧ s ≤ 3) (hn : maxB n = true) (ha : rightB a = true) : ansP ⟨e, gotN, [], a, n, s⟩ = true := by
  simp only [ansP, hn, ha, he, hs, and_self, decide_true, List.all_nil, Bool.and_true, Bool.true_and, List.length_nil]
  rfl
theorem ans_fail {e : Int} (he : 0 ≤ e ∧ e ≤ 999) : ansP (failR e) = true := ans0 he ⟨by omega, by omega⟩ (by decide) (by decide)
theorem again_ans {m : Mch} {N : Nat} {c : TCmd} {r : TRes} (h : MOk m N) (e : againF m c = some r) : ansP r = true := by
  unfold againF at e
  split at e
  · rename_i x hx
    split at e
    · cases e
      have := (h.sn _ (lkA_mem hx)).2
      exact ans0 ⟨by have := this.code; simp only at *; omega, by have := this.code; simp only at *; omega⟩ ⟨by omega, by omega⟩ (by decide) this.right
    · split at e
      · cases e; exact ans_fail (by omega)
      · cases e
  · split at e
    · cases e; exact ans_fail (by omega)
    · cases e
theorem sum_le1 {N : Nat} : N * N + 1 ≤ (N + 1) * (N + 1) := by
  rw [Nat.add_mul, Nat.mul_add]; omega
theorem sum_leN {N : Nat} : N * N + N ≤ (N + 1) * (N + 1) := by
  rw [Nat.add_mul, Nat.mul_add]; omega
theorem seenV_ok {o : Option TVer} (h : ∀ v, o = some v → VerOk v) : (seenV o).fBy = 0 ∧ rightB (seenV o).fAt = true ∧ (seenV o).fValue.length ≤ 10000 := by
  cases o with
  | none => exact ⟨rfl, by decide, by decide⟩
  | some v =>
    have hv := h v rfl
    unfold seenV
    simp only
    split
    · exact ⟨rfl, by decide, by decide⟩
    · exact ⟨rfl, hv.right, hv.len⟩
theorem seen_ok {r : Row} {a : TStamp} {n : Int} (h : RowOk r) : maxB (seen r a n).1.fBy = true ∧ rightB (seen r a n).1.fAt = true ∧ (seen r a n).1.fValue.length ≤ 10000 ∧ (0 ≤ (seen r a n).2 ∧ (seen r a n).2 ≤ 999) := by
  have h1 := seenV_ok (o := upTo r.vs a) (fun v hv => h.vs v (upTo_mem hv))
  have hz : maxB 0 = true := by decide
  unfold seen
  split
  · exact ⟨by rw [h1.1]; exact hz, h1.2.1, h1.2.2, by simp, by simp⟩
  · rename_i h0
    split
    · have h2 := seenV_ok (o := some r.it.ver) (fun v hv => by
        cases hv
        rcases h.it with h | ⟨_, h⟩
        · rw [h] at h0; exact absurd rfl h0
        · exact h)
      exact ⟨by rw [h2.1]; exact hz, h2.2.1, h2.2.2, by simp, by simp⟩
    · split
      · refine ⟨maxB_iff.2 ?_, rfl, Nat.zero_le _, by simp, by simp⟩
        have := h.txn
        exact ⟨this.1, this.2⟩
      · exact ⟨by rw [h1.1]; exact hz, h1.2.1, h1.2.2, by simp, by simp⟩
theorem get_ok {sp : Sp} (h : SpOk sp) (k : List UInt8) (a : TStamp) (n : Int) : maxB (getF sp k a n).1.fBy = true ∧ rightB (getF sp k a n).1.fAt = true ∧ (getF sp k a n).1.fValue.length ≤ 10000 ∧ (0 ≤ (getF sp k a n).2 ∧ (getF sp k a n).2 ≤ 999) := by
  have z : ∀ e : Int, 0 ≤ e → e ≤ 999 → maxB ((gotN, e) : TGot × Int).1.fBy = true ∧ rightB ((gotN, e) : TGot × Int).1.fAt = true ∧ ((gotN, e) : TGot × Int).1.fValue.length ≤ 10000 ∧ (0 ≤ ((gotN, e) : TGot × Int).2 ∧ ((gotN, e) : TGot × Int).2 ≤ 999) := fun e h1 h2 => ⟨rfl, rfl, Nat.zero_le _, h1, h2⟩
  unfold getF
  split
  · exact z 1 (by omega) (by omega)
  · split
    · exact z 131 (by omega) (by omega)
    · split
      · exact z 0 (by omega) (by omega)
      · rename_i r hr
        exact seen_ok (h.rows r (rowOf_mem hr))
theorem scanL_ok {a : TStamp} {n most : Int} (hm : 1 ≤ most ∧ most ≤ 90) : ∀ {rows : List Row} {acc : List TKV}, (∀ r ∈ rows, RowOk r) → (∀ x ∈ acc, rowB x = true) → (acc.length : Int) < most →
    (∀ x ∈ (scanL a n most rows acc).1, rowB x = true) ∧ (scanL a n most rows acc).1.length ≤ 90 ∧ maxB (scanL a n most rows acc).2.1 = true ∧ (0 ≤ (scanL a n most rows acc).2.2 ∧ (scanL a n most rows acc).2.2 ≤ 999)
  | [], acc, _, ha, hl => ⟨ha, by show acc.length ≤ 90; omega, rfl, by simp [scanL], by simp [scanL]⟩
  | r :: rs, acc, hr, ha, hl => by
    have h1 := seen_ok (a := a) (n := n) (hr r (List.mem_cons_self ..))
    have hp : (∀ x ∈ push r (seen r a n).1 acc, rowB x = true) ∧ (push r (seen r a n).1 acc).length ≤ acc.length + 1 := by
      unfold push
      split
      · refine ⟨fun x hx => ?_, by simp⟩
        rcases List.mem_append.1 hx with hx | hx
        · exact ha x hx
        · simp only [List.mem_singleton] at hx
          subst hx
          have h2 := h1.2.2.1
          simp [rowB, (hr r (List.mem_cons_self ..)).key, h2]
      · exact ⟨ha, by omega⟩
    unfold scanL
    split
    · exact ⟨(fun x hx => by cases hx), by simp, h1.1, h1.2.2.2⟩
    · split
      · rename_i e
        exact ⟨hp.1, by show (push r (seen r a n).1 acc).length ≤ 90; omega, by show maxB 0 = true; decide, by simp, by simp⟩
      · rename_i e
        exact scanL_ok hm (fun x hx => hr x (List.mem_cons_of_mem _ hx)) hp.1 (by omega)
theorem scan_ok {sp : Sp} (h : SpOk sp) {p : TSpan} {a : TStamp} {n most : Int} (hm : 1 ≤ most ∧ most ≤ 90) : (∀ x ∈ (scanF sp p a n most).1, rowB x = true) ∧ (scanF sp p a n most).1.length ≤ 90 ∧ maxB (scanF sp p a n most).2.1 = true ∧ (0 ≤ (scanF sp p a n most).2.2 ∧ (scanF sp p a n most).2.2 ≤ 999) := by
  unfold scanF
  split
  · exact ⟨(fun x hx => by cases hx), by simp, rfl, by simp, by simp⟩
  · split
    · exact ⟨(fun x hx => by cases hx), by simp, rfl, by simp, by simp⟩
    · exact scanL_ok hm (fun r hr => h.rows r (List.mem_filter.1 hr).1) (fun x hx => by cases hx) (by simp; omega)
theorem nextF_code (a : TStamp) : 0 ≤ (nextF a).2 ∧ (nextF a).2 ≤ 999 := by
  unfold nextF; split
  · simp
  · split
    · simp
    · split <;> simp
theorem liftK_ok {k : TMk} {w : TStamp} {n : Int} (hk : MkOk k) (hw : rightB w = true) : (0 ≤ (liftK k w n).2 ∧ (liftK k w n).2 ≤ 999) ∧ ((liftK k w n).2 = 0 → rightB (liftK k w n).1 = true) := by
  unfold liftK
  split
  · exact ⟨by simp, fun _ => hk.right⟩
  · split
    · exact ⟨by simp, fun _ => hw⟩
    · exact ⟨nextF_code _, fun h => (nextF_ok h).1⟩
theorem lift1_ok {m : Mch} {N : Nat} {c : TCmd} (h : MOk m N) (hw : rightB c.fAt = true) : (0 ≤ (lift1 m c).2 ∧ (lift1 m c).2 ≤ 999) ∧ ((lift1 m c).2 = 0 → rightB (lift1 m c).1 = true) := by
  unfold lift1
  split
  · rename_i k hk
    exact liftK_ok (h.mark _ (lkA_mem hk)).2 hw
  · exact ⟨by simp, fun _ => hw⟩
theorem pastL_code (a : TStamp) (o : Option TVer) : 0 ≤ (pastL a o).2 ∧ (pastL a o).2 ≤ 999 := by
  unfold pastL; split
  · simp
  · split
    · simp
    · exact nextF_code _
theorem putA_code {sp : Sp} (h : SpOk sp) (x : TIntent) : (0 ≤ (putA sp x).2.2 ∧ (putA sp x).2.2 ≤ 999) ∧ maxB (putA sp x).2.1 = true ∧ rightB (putA sp x).1 = true := by
  by_cases h0 : (putA sp x).2.2 = 0
  · have h1 := putA_ok h h0
    refine ⟨by omega, ?_, h1.2.1⟩
    unfold putA at h0 ⊢
    split at h0
    · simp at h0
    · split at h0
      · simp at h0
      · split at h0
        · rename_i h3 h4 h5; exact absurd h0 h5
        · rename_i h3 h4 h5; rw [if_neg h3, if_neg h4, if_neg h5]; simp; decide
  · unfold putA at h0 ⊢
    split
    · exact ⟨by simp, by simp; decide, by simp; decide⟩
    · split
      · refine ⟨by simp, ?_, by simp; decide⟩
        refine maxB_iff.2 ?_
        unfold itAt
        cases e : rowOf sp.rows x.fKey with
        | none => exact zero_max
        | some r => have := (h.rows r (rowOf_mem e)).txn; exact ⟨this.1, this.2⟩
      · split
        · exact ⟨pastL_code _ _, by simp; decide, by simp; decide⟩
        · rename_i h3 h4 h5; rw [if_neg h3, if_neg h4, if_neg h5] at h0; exact absurd rfl h0
theorem chF_code (sp : Sp) (p : TSpan) (a b : TStamp) (n : Int) : 0 ≤ (chF sp p a b n).2 ∧ (chF sp p a b n).2 ≤ 999 := by
  unfold chF; split
  · simp
  · split <;> simp
theorem resA_code (sp : Sp) (k : List UInt8) (n : Int) (y : Bool) (a : TStamp) : 0 ≤ (resA sp k n y a).2 ∧ (resA sp k n y a).2 ≤ 999 := by
  unfold resA; split
  · simp
  · split
    · simp
    · split <;> simp
theorem colA_code (sp : Sp) (b : TStamp) : 0 ≤ (colA sp b).2 ∧ (colA sp b).2 ≤ 999 := by
  unfold colA; split <;> simp
theorem resL_ok {c : TCmd} : ∀ {l : List TIntent} {sp : Sp} {nt : Nts}, SpOk sp → (0 ≤ (resL c l sp nt).1 ∧ (resL c l sp nt).1 ≤ 999) ∧ SpOk (resL c l sp nt).2.1 ∧ (resL c l sp nt).2.1.rows.length ≤ sp.rows.length ∧ versN (resL c l sp nt).2.1.rows ≤ versN sp.rows + l.length
  | [], sp, nt, h => ⟨by simp [resL], h, Nat.le_refl _, by simp [resL]⟩
  | x :: l, sp, nt, h => by
    have h1 := h.res (k := x.fKey) (txn := c.fTxn) (yes := c.fYes) (a := c.fAt)
    have h2 := res_len (k := x.fKey) (txn := c.fTxn) (yes := c.fYes) (a := c.fAt) h
    unfold resL
    split
    · have := resL_ok (c := c) (l := l) (nt := nt) h
      refine ⟨this.1, this.2.1, this.2.2.1, ?_⟩
      simp only [List.length_cons]; omega
    · split
      · refine ⟨resA_code _ _ _ _ _, h1, h2.1, ?_⟩
        simp only [List.length_cons]; omega
      · have := resL_ok (c := c) (l := l) (nt := resN sp x.fKey c.fTxn c.fYes c.fAt nt) h1
        refine ⟨this.1, this.2.1, by omega, ?_⟩
        simp only [List.length_cons]; omega
theorem ints_le (rows : List Row) : (intsOf rows).length ≤ rows.length := by
  unfold intsOf; rw [List.length_map]; exact List.length_filter_le _ _
/-! ### Each kind -/
section
variable {m : Mch} {N : Nat} {c : TCmd}
theorem getM_ok (h : MOk m N) (hk : keyOk c.fKey = true) (ha : rightB c.fAt = true) (hn : maxB c.fTxn = true) : ansP (getM m c).1 = true ∧ MOk (getM m c).2 N := by
  have g := get_ok h.sp c.fKey c.fAt c.fTxn
  unfold getM
  split
  · exact ⟨ans_fail (by omega), h⟩
  · split
    · exact ⟨ans0 g.2.2.2 ⟨by omega, by omega⟩ g.1 (by decide), h⟩
    · refine ⟨?_, markF_ok h hk ha hn⟩
      simp only [ansP, g.1, g.2.1, g.2.2.1, decide_true, Bool.and_true, List.all_nil, Bool.true_and]
      rfl
theorem scanM_ok (h : MOk m N) (hm : 1 ≤ c.fMost ∧ c.fMost ≤ 90) (ha : rightB c.fAt = true) (hn : maxB c.fTxn = true) : ansP (scanM m c).1 = true ∧ MOk (scanM m c).2 N := by
  have g := scan_ok h.sp (p := c.fSpan) (a := c.fAt) (n := c.fTxn) hm
  unfold scanM
  split
  · exact ⟨ans_fail (by omega), h⟩
  · split
    · exact ⟨ans0 g.2.2.2 ⟨by omega, by omega⟩ g.2.2.1 (by decide), h⟩
    · refine ⟨?_, { h with low := readK_ok h.low ha hn }⟩
      simp only [ansP, g.2.1, decide_true, Bool.and_true, List.all_eq_true.2 g.1, Bool.true_and]
      rfl
theorem putM_ok (h : MOk m N) (ha : rightB c.fAt = true) (ht : txnB c.fTxn = true) (hs : maxB c.fSeq = true) : ansP (putM m c).1 = true ∧ MOk (putM m c).2 (N + 1) := by
  have hm := h.more (Nat.le_succ N)
  unfold putM
  split
  · exact ⟨ans_fail (by omega), hm⟩
  · split
    · rename_i r e; exact ⟨again_ans h e, hm⟩
    · split
      · exact ⟨ans_fail (lift1_ok h ha).1, hm⟩
      · rename_i e1
        have h1 := (lift1_ok h ha).2 (by simpa using e1)
        split
        · exact ⟨ans_fail (liftK_ok h.low h1).1, hm⟩
        · have g := putA_code h.sp (putIn c (liftK m.low (lift1 m c).1 c.fTxn).1)
          have hp : MOk { m with sp := putS m.sp (putIn c (liftK m.low (lift1 m c).1 c.fTxn).1), nt := putN m.sp (putIn c (liftK m.low (lift1 m c).1 c.fTxn).1) m.nt } (N + 1) := by
            have := put_len (x := putIn c (liftK m.low (lift1 m c).1 c.fTxn).1) h.sp
            have h2 := h.rows
            have h3 := h.vers
            have h4 := sum_le1 (N := N)
            refine { h with sp := h.sp.put, rows := ?_, vers := ?_ }
            · show (putS m.sp _).rows.length ≤ N + 1; omega
            · show versN (putS m.sp _).rows ≤ (N + 1) * (N + 1); omega
          refine ⟨ans0 g.1 ⟨by omega, by omega⟩ g.2.1 g.2.2, ?_⟩
          simp only
          split
          · exact seeF_ok hp ht hs g.2.2
          · exact hp
theorem refM_ok (h : MOk m N) (ha : rightB c.fTo = true) (ht : txnB c.fTxn = true) (hs : maxB c.fSeq = true) : ansP (refM m c).1 = true ∧ MOk (refM m c).2 N := by
  unfold refM
  split
  · exact ⟨ans_fail (by omega), h⟩
  · split
    · rename_i r e; exact ⟨again_ans h e, h⟩
    · split
      · exact ⟨ans_fail (by omega), h⟩
      · split
        · exact ⟨ans_fail (chF_code _ _ _ _ _), h⟩
        · split
          · exact ⟨ans_fail (by omega), h⟩
          · exact ⟨ans_fail (by omega), seeF_ok (m := { m with low := readK m.low c.fTo c.fTxn }) { h with low := readK_ok h.low ha (maxB_iff.2 (txnB_max ht)) } ht hs (by decide)⟩
theorem begM_ok (h : MOk m N) (ha : rightB c.fAt = true) (ht : txnB c.fTxn = true) (hs : maxB c.fSeq = true) : ansP (begM m c).1 = true ∧ MOk (begM m c).2 N := by
  unfold begM
  split
  · rename_i r e; exact ⟨again_ans h e, h⟩
  · split
    · exact ⟨ans_fail (by omega), h⟩
    · rename_i m1 e
      obtain ⟨h1, _⟩ := recF_ok h ht ⟨by omega, by omega⟩ ha e
      split
      · exact ⟨ans0 ⟨by omega, by omega⟩ (recAt_ok h1).1 (by decide) (by decide), h1⟩
      · exact ⟨ans0 ⟨by omega, by omega⟩ ⟨by omega, by omega⟩ (by decide) (by decide), seeF_ok h1 ht hs (by decide)⟩
theorem want_ok (c : TCmd) : 1 ≤ wantOf c ∧ wantOf c ≤ 3 := by unfold wantOf; split <;> omega
theorem endM_ok (h : MOk m N) (ha : rightB c.fAt = true) (ht : txnB c.fTxn = true) : ansP (endM m c).1 = true ∧ MOk (endM m c).2 N := by
  unfold endM
  split
  · exact ⟨ans_fail (by omega), h⟩
  · rename_i m1 e
    obtain ⟨h1, hx⟩ := recF_ok h ht ⟨by omega, by omega⟩ ha e
    have h2 : MOk (endOf m1 c) N := by
      unfold endOf; split
      · exact setRec_ok h1 ht (want_ok c) ha hx
      · exact h1
    exact ⟨ans0 (by split <;> omega) (recAt_ok h2).1 (by decide) (recAt_ok h2).2, h2⟩
theorem pushM_ok (h : MOk m N) (ha : rightB c.fAt = true) (ht : txnB c.fTxn = true) : ansP (pushM m c).1 = true ∧ MOk (pushM m c).2 N := by
  unfold pushM
  split
  · exact ⟨ans_fail (by omega), h⟩
  · rename_i m1 e
    obtain ⟨h1, hx⟩ := recF_ok h ht ⟨by omega, by omega⟩ ha e
    refine ⟨ans0 ⟨by omega, by omega⟩ ?_ (by decide) (recAt_ok h1).2, ?_⟩
    · split
      · exact ⟨by omega, by omega⟩
      · exact (recAt_ok h1).1
    · show MOk (pushOf m1 c) N
      unfold pushOf; split
      · exact setRec_ok h1 ht ⟨by omega, by omega⟩ (recAt_ok h1).2 hx
      · exact h1
theorem forM_ok (h : MOk m N) : ansP (forM m c).1 = true ∧ MOk (forM m c).2 N := by
  unfold forM
  split
  · exact ⟨ans_fail (by omega), h⟩
  · refine ⟨ans_fail (by omega), { h with recs := h.recs.del, recsL := ?_, rec' := fun q hq => h.rec' q (List.mem_filter.1 hq).1 }⟩
    exact Nat.le_trans (List.length_filter_le _ _) h.recsL
theorem resM_ok (h : MOk m N) : ansP (resM m c).1 = true ∧ MOk (resM m c).2 (N + 1) := by
  unfold resM
  split
  · exact ⟨ans_fail (by omega), h.more (Nat.le_succ N)⟩
  · have g := resL_ok (c := c) (l := intsOf m.sp.rows) (nt := m.nt) h.sp
    have h1 := ints_le m.sp.rows
    have h2 := h.rows
    have h3 := h.vers
    have h4 := sum_leN (N := N)
    refine ⟨ans_fail g.1, { h with sp := g.2.1, rows := ?_, vers := ?_ }⟩
    · show (resL _ _ _ _).2.1.rows.length ≤ N + 1; omega
    · show versN (resL _ _ _ _).2.1.rows ≤ (N + 1) * (N + 1); omega
theorem colM_ok (h : MOk m N) : ansP (colM m c).1 = true ∧ MOk (colM m c).2 N := by
  have h1 := col_len (sp := m.sp) (b := c.fAt)
  have h2 := h.rows
  have h3 := h.vers
  refine ⟨ans_fail (colA_code _ _), { h with sp := h.sp.col, rows := ?_, vers := ?_ }⟩
  · show (colS m.sp c.fAt).rows.length ≤ N; omega
  · show versN (colS m.sp c.fAt).rows ≤ N * N; omega
theorem split_ok (h : MOk m N) (hk : keyOk c.fKey = true) : ansP (splitM m c).1 = true ∧ MOk (splitM m c).2.1 N ∧ ∀ r, (splitM m c).2.2 = some r → MOk r N := by
  unfold splitM
  split
  · exact ⟨ans_fail (by omega), h, fun r hr => by cases hr⟩
  · rename_i e
    have hi : inB m.span c.fKey = true ∧ c.fKey ≠ m.span.fFrom := by
      constructor
      · cases hb : inB m.span c.fKey with
        | true => rfl
        | false => exact absurd (.inl hb) e
      · exact fun e2 => e (.inr e2)
    have hv := versN_low (k := c.fKey) h.sp
    have hkl := keyOk_len hk
    have hsp := h.span
    simp only [spanOk, Bool.and_eq_true, Bool.or_eq_true, decide_eq_true_eq, beq_iff_eq] at hsp
    have hin := hi.1
    simp only [inB, Bool.and_eq_true, Bool.or_eq_true, Bool.not_eq_true', beq_iff_eq] at hin
    have hlt : blt m.span.fFrom c.fKey = true := by
      cases hb : blt m.span.fFrom c.fKey with
      | true => rfl
      | false => exact absurd (blt_total _ _ hin.1 hb) hi.2
    have fl : ∀ f : (List UInt8 × TMk) → Bool, SrtA blt (m.marks.filter f) ∧ (m.marks.filter f).length ≤ 32 ∧ ∀ q ∈ m.marks.filter f, keyOk q.1 = true ∧ MkOk q.2 := fun f =>
      ⟨List.Pairwise.sublist List.filter_sublist h.marks, Nat.le_trans (List.length_filter_le _ _) h.marksL, fun q hq => h.mark q (List.mem_filter.1 hq).1⟩
    have h2 := h.rows
    have h3 := h.vers
    refine ⟨ans_fail (by omega), { h with span := ?_, sp := splL_ok h.sp, rows := by show (splL c.fKey m.sp).rows.length ≤ N; omega, vers := by show versN (splL c.fKey m.sp).rows ≤ N * N; omega, marks := (fl _).1, marksL := (fl _).2.1, mark := (fl _).2.2 }, fun r hr => ?_⟩
    · simp only [spanOk, Bool.and_eq_true, Bool.or_eq_true, decide_eq_true_eq, beq_iff_eq]
      exact ⟨⟨hsp.1.1, by omega⟩, .inr hlt⟩
    · cases hr
      refine { h with span := ?_, sp := splR_ok h.sp, rows := by show (splR c.fKey m.sp).rows.length ≤ N; omega, vers := by show versN (splR c.fKey m.sp).rows ≤ N * N; omega, marks := (fl _).1, marksL := (fl _).2.1, mark := (fl _).2.2, recs := List.Pairwise.nil, recsL := by simp, rec' := fun q hq => by cases hq }
      simp only [spanOk, Bool.and_eq_true, Bool.or_eq_true, decide_eq_true_eq, beq_iff_eq]
      exact ⟨⟨by omega, hsp.1.2⟩, hin.2⟩
theorem kindOk_11 {c : TCmd} (h : kindOk c = true) (h11 : c.fKind = 11 ∨ c.fKind = 1 ∨ c.fKind = 3) : keyOk c.fKey = true := by
  unfold kindOk at h
  rcases h11 with e | e | e <;> simp [e] at h <;> simp [h]
theorem kindOk_txn {c : TCmd} (h : kindOk c = true) (hk : 3 ≤ c.fKind ∧ c.fKind ≤ 9) : txnB c.fTxn = true := by
  unfold kindOk at h
  have : c.fKind = 3 ∨ c.fKind = 4 ∨ c.fKind = 5 ∨ c.fKind = 6 ∨ c.fKind = 7 ∨ c.fKind = 8 ∨ c.fKind = 9 := by omega
  rcases this with e | e | e | e | e | e | e <;> simp [e] at h <;> simp [h]
theorem kindOk_most {c : TCmd} (h : kindOk c = true) (hk : c.fKind = 2) : 1 ≤ c.fMost ∧ c.fMost ≤ 90 := by
  unfold kindOk at h
  simp [hk] at h
  omega
theorem if_both {α : Type} {P : α → Prop} {q : Prop} [Decidable q] {a b : α} (h1 : q → P a) (h2 : ¬ q → P b) : P (if q then a else b) := by
  by_cases h : q
  · rw [if_pos h]; exact h1 h
  · rw [if_neg h]; exact h2 h
def OkR (N : Nat) (r : TRes × Mch × Option Mch) : Prop := ansP r.1 = true ∧ MOk r.2.1 N ∧ ∀ x, r.2.2 = some x → MOk x N
theorem OkR.ns {r : TRes × Mch} (h : ansP r.1 = true ∧ MOk r.2 N) : OkR N (noSplit r) := ⟨h.1, h.2, fun x hx => by cases hx⟩
theorem OkR.up {r : TRes × Mch} (h : ansP r.1 = true ∧ MOk r.2 N) : OkR (N + 1) (noSplit r) := OkR.ns ⟨h.1, h.2.more (Nat.le_succ N)⟩
theorem applyM_ok (h : MOk m N) : OkR (N + 1) (applyM m c) := by
  have hm := h.more (Nat.le_succ N)
  unfold applyM
  refine if_both (fun e => ⟨ans_fail (by omega), hm, fun r hr => by cases hr⟩) (fun e => ?_)
  have hr : rightP c = true := by simpa using e
  have hc := rightP_ok hr
  have hk : kindOk c = true := by
    simp only [rightP, Bool.and_eq_true] at hr; exact hr.2
  have hT : maxB c.fTxn = true := maxB_iff.2 hc.txn
  have hS : maxB c.fSeq = true := maxB_iff.2 hc.seq
  have hK := hc.kind
  unfold doM
  refine if_both (fun e => OkR.up (getM_ok h (kindOk_11 hk (.inr (.inl e))) hc.at' hT)) (fun h1 => ?_)
  refine if_both (fun e => OkR.up (scanM_ok h (kindOk_most hk e) hc.at' hT)) (fun h2 => ?_)
  refine if_both (fun e => OkR.ns (putM_ok h hc.at' (kindOk_txn hk (by omega)) hS)) (fun h3 => ?_)
  refine if_both (fun e => OkR.up (refM_ok h hc.to (kindOk_txn hk (by omega)) hS)) (fun h4 => ?_)
  refine if_both (fun e => OkR.up (begM_ok h hc.at' (kindOk_txn hk (by omega)) hS)) (fun h5 => ?_)
  refine if_both (fun e => OkR.up (endM_ok h hc.at' (kindOk_txn hk (by omega)))) (fun h6 => ?_)
  refine if_both (fun e => OkR.up (pushM_ok h hc.at' (kindOk_txn hk (by omega)))) (fun h7 => ?_)
  refine if_both (fun e => OkR.up (forM_ok h)) (fun h8 => ?_)
  refine if_both (fun e => OkR.ns (resM_ok h)) (fun h9 => ?_)
  refine if_both (fun e => OkR.up (colM_ok h)) (fun h10 => ?_)
  have := split_ok h (c := c) (kindOk_11 hk (.inl (by omega)))
  exact ⟨this.1, this.2.1.more (Nat.le_succ N), fun r hr => (this.2.2 r hr).more (Nat.le_succ N)⟩
theorem mch0_ok {p : TSpan} (h : spanOk p = true) : MOk (mch0 p) 0 := ⟨h, sp0_ok, Nat.le_refl _, Nat.le_refl _, List.Pairwise.nil, by simp [mch0], (fun q hq => by cases hq), mk0_ok, List.Pairwise.nil, by simp [mch0], (fun q hq => by cases hq), List.Pairwise.nil, by simp [mch0], (fun q hq => by cases hq), by show maxB 0 = true; decide⟩
end
end Go.Proofs.YtmmfcgbfbcamcaaGreatDoor
-- S3
set_option linter.unusedSimpArgs false
set_option linter.unusedVariables false
namespace Go.Proofs.YtmmfcgbfbcamcaaGreatDoor
open Go.SL
set_option maxRecDepth 10000
abbrev rcv (x : TRc) : Value := .agg #[.int .i64 x.fState, .int .i64 x.fAt.fWall, .int .i64 x.fAt.fLogic]
abbrev snv (x : TSn) : Value := .agg #[.int .i64 x.fSeq, .int .i64 x.fCode, .int .i64 x.fAt.fWall, .int .i64 x.fAt.fLogic]
abbrev mchO (v0 v1 : Value) (s mk : Nat) (low : TMk) (rc sn : Nat) (old : Int) (kv : Value) : Obj :=
  .cells #[v0, v1, pt s, .map (some mk), .int .i64 low.fAt.fWall, .int .i64 low.fAt.fLogic, .int .i64 low.fBy, .map (some rc), .map (some sn), .int .i64 old, kv] 163 (0, 0)
abbrev rv (e : Int) (a : TStamp) (n s : Int) : Value := .agg #[.int .i64 e, .bool false, .slice none 0 0, .int .i64 0, .int .i64 0, .int .i64 0, .slice none 0 0, .int .i64 a.fWall, .int .i64 a.fLogic, .int .i64 n, .int .i64 s]
theorem rv_V (I : Imm) (e : Int) (a : TStamp) (n s : Int) : TResV I ⟨e, gotN, [], a, n, s⟩ [.int .i64 e, .bool false, .slice none 0 0, .int .i64 0, .int .i64 0, .int .i64 0, .slice none 0 0, .int .i64 a.fWall, .int .i64 a.fLogic, .int .i64 n, .int .i64 s] :=
  ⟨_, _, rfl, SlI.nil I 1 none 0, RL.nil none 0⟩
section
variable {ω : Om} {I : Imm} {L : LH} {K : Value → M}
theorem failed_spec {e : Int} (hk : K (rv e z0 0 0) I L) : Cal Tryz.prog ω 34 #[.int .i64 e] K I L := by
  refine cal34 ?_
  unfold sh34
  repeat' (first | (with_reducible refine drawC ?_) | (with_reducible refine drawW1 ?_) | (with_reducible refine drawW2 ?_) | (with_reducible refine keepC (by repeat (first | exact Ext.refl _ | assumption | refine Ext.trans ?_ (by assumption))) ?_) | (with_reducible refine newI (fun _ => ?_)) | first | (with_reducible refine rdb ?_) | ((with_reducible refine st1 ?_ ?_); rfl) | ((with_reducible refine rdB ?_ ?_); rfl) | (with_reducible refine rdbS ?_) | ((with_reducible refine rdBS ?_ ?_); rfl) | ((with_reducible refine stB ?_ ?_ ?_ ?_); rfl; rfl; exact one_all rfl) | ((with_reducible refine rdP _ rfl ?_ ?_); rfl) | ((with_reducible refine rdPS _ rfl ?_ ?_); rfl) | ((with_reducible refine stP _ rfl ?_ ?_ ?_ ?_); rfl; rfl; rfl) | (with_reducible refine unfE (sh34.eq_1 ..) ?_) | (with_reducible refine And.intro ?_ ?_) | (simp only [Bool.not_true, Bool.not_false, Bool.and_self, Bool.true_and, Int.reduceBEq, Int.reduceBNe, Int.reduceLT, Int.reduceLE, decide_true, decide_false, Br_true, Br_false, Gd_tt, Gd_ft, Gd_tf, Gd_ff, beq_self_eq_true, bne_self_eq_false]) | (with_reducible refine gd_split (fun _ => ?_) (fun _ => ?_)) | (with_reducible refine br_split (fun _ => ?_) (fun _ => ?_)) | (simp only [SSd, Nat.reduceAdd]))
  exact Gh.to L (Gh.done hk)
structure MV where
  km : Nat
  rc : Nat
  sn : Nat
  v0 : Value
  v1 : Value
  kv : Value
  e1 : Array MapEntry
  c1 : Nat
  e2 : Array MapEntry
  c2 : Nat
  e3 : Array MapEntry
  c3 : Nat
abbrev mL (b s : Nat) (V : MV) (m : Mch) (R : LH) : LH :=
  (b, mchO V.v0 V.v1 s V.km m.low V.rc V.sn m.oldest V.kv) :: (V.km, .map V.e1 V.c1) :: (V.rc, .map V.e2 V.c2) :: (V.sn, .map V.e3 V.c3) :: R
structure MF (I : Imm) (V : MV) (m : Mch) : Prop where
  f0 : Bytes I V.v0 m.span.fFrom
  f1 : Bytes I V.v1 m.span.fTo
  mks : MapS V.e1 V.c1 (encM mv m.marks)
  rcs : MapSi V.e2 V.c2 (encM rcv m.recs)
  sns : MapSi V.e3 V.c3 (encM snv m.seen)
  kpt : Bytes I V.kv m.kept
theorem MF.mono {I I' : Imm} {V : MV} {m : Mch} (h : MF I V m) (hI : Ext I I') : MF I' V m := { h with f0 := h.f0.mono hI, f1 := h.f1.mono hI, kpt := h.kpt.mono hI }
variable {b s : Nat} {V : MV} {m : Mch} {R : LH} {c : TCmd} {cc : List Value}
class AtL (b : Nat) (L : LH) (L1 : outParam LH) (o : outParam Obj) (L2 : outParam LH) : Prop where
  eq : L = L1 ++ (b, o) :: L2
instance atRight (b : Nat) (A L L1 : LH) (o : Obj) (L2 : LH) [h : AtL b L L1 o L2] : AtL b (A ++ L) (A ++ L1) o L2 := ⟨by rw [h.eq, List.append_assoc]⟩
instance atThere (b : Nat) (x : Nat × Obj) (L L1 : LH) (o : Obj) (L2 : LH) [h : AtL b L L1 o L2] : AtL b (x :: L) (x :: L1) o L2 := ⟨by rw [h.eq]; rfl⟩
instance atHere (b : Nat) (o : Obj) (L : LH) : AtL b ((b, o) :: L) [] o L := ⟨rfl⟩
theorem putAi {β : Type} {enc : β → Value} {l : AL Int β} {k : Int} {x : β} {v : Value} {r c : Nat} {es : Array MapEntry} {L1 L2 : LH} [hL : AtL r L L1 (.map es c) L2] (h : MapSi es c (encM enc l)) (hv : v = enc x)
    (hk : ∀ e' c', MapSi e' c' (encM enc (insA ilt k x l)) → Gh (K undef) I (L1 ++ (r, .map e' c') :: L2)) : PutM (.int .i64) (.map (some r)) (.int .i64 k) v (gh K) I L := by
  obtain ⟨e', c', he, hM⟩ := h.put k v
  rw [hv, encM_insi] at hM
  have u : UpL r L (.map es c) (.map e' c') (L1 ++ (r, .map e' c') :: L2) := ⟨L1, L2, hL.eq, rfl⟩
  exact putmi (k := k) h he (hk e' c' hM)
theorem putAs {β : Type} {enc : β → Value} {l : AL Key β} {k : Key} {x : β} {v : Value} {r c : Nat} {es : Array MapEntry} {L1 L2 : LH} [hL : AtL r L L1 (.map es c) L2] (h : MapS es c (encM enc l)) (hv : v = enc x)
    (hk : ∀ e' c', MapS e' c' (encM enc (insA blt k x l)) → Gh (K undef) I (L1 ++ (r, .map e' c') :: L2)) : PutM .string (.map (some r)) (sstr k) v (gh K) I L := by
  obtain ⟨e', c', he, hM⟩ := h.put k v
  rw [hv, encM_ins] at hM
  have u : UpL r L (.map es c) (.map e' c') (L1 ++ (r, .map e' c') :: L2) := ⟨L1, L2, hL.eq, rfl⟩
  exact putm (k := k) h he (hk e' c' hM)
theorem delAi {β : Type} {enc : β → Value} {l : AL Int β} {k : Int} {r c : Nat} {es : Array MapEntry} {L1 L2 : LH} [hL : AtL r L L1 (.map es c) L2] (h : MapSi es c (encM enc l))
    (hk : ∀ e', MapSi e' c (encM enc (delA k l)) → Gh (K (.tuple #[])) I (L1 ++ (r, .map e' c) :: L2)) : DelM (.int .i64) (.map (some r)) (.int .i64 k) (gh K) I L := by
  obtain ⟨e', he, hM⟩ := h.del k
  rw [encM_deli] at hM
  have u : UpL r L (.map es c) (.map e' c) (L1 ++ (r, .map e' c) :: L2) := ⟨L1, L2, hL.eq, rfl⟩
  exact delmi (k := k) h he (hk e' hM)
theorem lkI {zero : Value} {ok : Bool} {m : Int → Option Value} {k : Int} {r c : Nat} {es : Array MapEntry} [InL r L (.map es c)] (h : MapSi es c m) (hk : K (lkV zero ok (m k)) I L) : Rv none (lkR (.int .i64) zero ok (.map (some r)) (.int .i64 k)) K I L := lkmi (k := k) h hk
theorem lkIS {zero : Value} {ok : Bool} {m : Int → Option Value} {k : Int} {r c : Nat} {es : Array MapEntry} {I0 : Imm} {X : LH} [InL r X (.map es c)] (h : MapSi es c m) (hk : K (lkV zero ok (m k)) I L) : Rv (some (Stay I0 X)) (lkR (.int .i64) zero ok (.map (some r)) (.int .i64 k)) K I L := lkmSi (k := k) h hk
theorem lkT {zero : Value} {ok : Bool} {m : Key → Option Value} {k : Key} {r c : Nat} {es : Array MapEntry} [InL r L (.map es c)] (h : MapS es c m) (hk : K (lkV zero ok (m k)) I L) : Rv none (lkR .string zero ok (.map (some r)) (sstr k)) K I L := lkm (k := k) h hk
theorem lkTS {zero : Value} {ok : Bool} {m : Key → Option Value} {k : Key} {r c : Nat} {es : Array MapEntry} {I0 : Imm} {X : LH} [InL r X (.map es c)] (h : MapS es c m) (hk : K (lkV zero ok (m k)) I L) : Rv (some (Stay I0 X)) (lkR .string zero ok (.map (some r)) (sstr k)) K I L := lkmS (k := k) h hk
theorem calM (b : Nat) (V : MV) {P : Program} {f : FuncId} {args : Array Value} {o1 o2 o3 o4 : Obj} {R1 R2 R3 R4 : LH} [PickB b L o1 R1] [PickB V.km R1 o2 R2] [PickB V.rc R2 o3 R3] [PickB V.sn R3 o4 R4]
    (h : Cal P ω f args K I ((b, o1) :: (V.km, o2) :: (V.rc, o3) :: (V.sn, o4) :: R4)) : Cal P ω f args K I L := by
  refine Cal.perm (L' := (b, o1) :: (V.km, o2) :: (V.rc, o3) :: (V.sn, o4) :: R4) ?_ h
  have p1 : L.Perm ((b, o1) :: R1) := PickB.perm
  have p2 : R1.Perm ((V.km, o2) :: R2) := PickB.perm
  have p3 : R2.Perm ((V.rc, o3) :: R3) := PickB.perm
  have p4 : R3.Perm ((V.sn, o4) :: R4) := PickB.perm
  exact p1.trans (.cons _ (p2.trans (.cons _ (p3.trans (.cons _ p4)))))
theorem again_spec (hF : MF I V m) (hc : TCmdV I c cc)
    (hk1 : ∀ e a, againF m c = some ⟨e, gotN, [], a, 0, 0⟩ → K (.tuple #[rv e a 0 0, .bool true]) I (mL b s V m R)) (hk2 : againF m c = none → K (.tuple #[rv 0 z0 0 0, .bool false]) I (mL b s V m R)) :
    Cal Tryz.prog ω 154 #[pt b, .agg cc.toArray] K I (mL b s V m R) := by
  have hM := hF.sns
  obtain ⟨w0, w1, w2, w3, rfl, g0, g1, g2, g3⟩ := hc
  refine cal154 ?_
  unfold sh154
  cases hx : lkA m.seen c.fTxn with
  | none =>
    have hl : encM snv m.seen c.fTxn = none := by unfold encM; rw [hx]; rfl
    have ha : againF m c = if c.fTxn ≤ m.oldest then some (failR 144) else none := by unfold againF; rw [hx]
    rw [ha] at hk1 hk2
    repeat' (first | (with_reducible refine drawC ?_) | (with_reducible refine drawW1 ?_) | (with_reducible refine drawW2 ?_) | (with_reducible refine keepC (by repeat (first | exact Ext.refl _ | assumption | refine Ext.trans ?_ (by assumption))) ?_) | (with_reducible refine newI (fun _ => ?_)) | (with_reducible refine lkIS hM ?_) | ((with_reducible refine call ?_); refine (failed_spec ?_)) | first | (with_reducible refine rdb ?_) | ((with_reducible refine st1 ?_ ?_); rfl) | ((with_reducible refine rdB ?_ ?_); rfl) | (with_reducible refine rdbS ?_) | ((with_reducible refine rdBS ?_ ?_); rfl) | ((with_reducible refine stB ?_ ?_ ?_ ?_); rfl; rfl; exact one_all rfl) | ((with_reducible refine rdP _ rfl ?_ ?_); rfl) | ((with_reducible refine rdPS _ rfl ?_ ?_); rfl) | ((with_reducible refine stP _ rfl ?_ ?_ ?_ ?_); rfl; rfl; rfl) | (with_reducible refine unfE (sh154_1.eq_1 ..) ?_) | (with_reducible refine unfE (sh154_3.eq_1 ..) ?_) | (with_reducible refine unfE (sh154_4.eq_1 ..) ?_) | (with_reducible refine unfE (sh154_2.eq_1 ..) ?_) | (with_reducible refine unfE (sh154.eq_1 ..) ?_) | (with_reducible refine And.intro ?_ ?_) | (simp only [Bool.not_true, Bool.not_false, Bool.and_self, Bool.true_and, Int.reduceBEq, Int.reduceBNe, Int.reduceLT, Int.reduceLE, decide_true, decide_false, Br_true, Br_false, Gd_tt, Gd_ft, Gd_tf, Gd_ff, beq_self_eq_true, bne_self_eq_false]) | (with_reducible refine gd_split (fun _ => ?_) (fun _ => ?_)) | (with_reducible refine br_split (fun _ => ?_) (fun _ => ?_)) | (simp only [SSd, Nat.reduceAdd, hl, lkV, if_true]))
    all_goals first
      | exact Gh.to (mL b s V m R) (Gh.done (hk1 144 z0 (by rw [if_pos (by first | (simp_all; done) | (simp_all; omega) | omega)]; rfl)))
      | exact Gh.to (mL b s V m R) (Gh.done (hk2 (by rw [if_neg (by first | (simp_all; done) | (simp_all; omega) | omega)])))
  | some x =>
    have hl : encM snv m.seen c.fTxn = some (snv x) := by unfold encM; rw [hx]; rfl
    have ha : againF m c = if x.fSeq = c.fSeq then some ⟨x.fCode, gotN, [], x.fAt, 0, 0⟩ else if c.fSeq < x.fSeq then some (failR 144) else none := by unfold againF; rw [hx]
    rw [ha] at hk1 hk2
    repeat' (first | (with_reducible refine drawC ?_) | (with_reducible refine drawW1 ?_) | (with_reducible refine drawW2 ?_) | (with_reducible refine keepC (by repeat (first | exact Ext.refl _ | assumption | refine Ext.trans ?_ (by assumption))) ?_) | (with_reducible refine newI (fun _ => ?_)) | (with_reducible refine lkIS hM ?_) | ((with_reducible refine call ?_); refine (failed_spec ?_)) | first | (with_reducible refine rdb ?_) | ((with_reducible refine st1 ?_ ?_); rfl) | ((with_reducible refine rdB ?_ ?_); rfl) | (with_reducible refine rdbS ?_) | ((with_reducible refine rdBS ?_ ?_); rfl) | ((with_reducible refine stB ?_ ?_ ?_ ?_); rfl; rfl; exact one_all rfl) | ((with_reducible refine rdP _ rfl ?_ ?_); rfl) | ((with_reducible refine rdPS _ rfl ?_ ?_); rfl) | ((with_reducible refine stP _ rfl ?_ ?_ ?_ ?_); rfl; rfl; rfl) | (with_reducible refine unfE (sh154_1.eq_1 ..) ?_) | (with_reducible refine unfE (sh154_3.eq_1 ..) ?_) | (with_reducible refine unfE (sh154_4.eq_1 ..) ?_) | (with_reducible refine unfE (sh154_2.eq_1 ..) ?_) | (with_reducible refine unfE (sh154.eq_1 ..) ?_) | (with_reducible refine And.intro ?_ ?_) | (simp only [Bool.not_true, Bool.not_false, Bool.and_self, Bool.true_and, Int.reduceBEq, Int.reduceBNe, Int.reduceLT, Int.reduceLE, decide_true, decide_false, Br_true, Br_false, Gd_tt, Gd_ft, Gd_tf, Gd_ff, beq_self_eq_true, bne_self_eq_false]) | (with_reducible refine gd_split (fun _ => ?_) (fun _ => ?_)) | (with_reducible refine br_split (fun _ => ?_) (fun _ => ?_)) | (simp only [SSd, Nat.reduceAdd, hl, lkV, if_true]))
    all_goals first
      | exact Gh.to (mL b s V m R) (Gh.done (hk1 _ _ (by rw [if_pos (by first | (simp_all; done) | (simp_all; omega) | omega)])))
      | exact Gh.to (mL b s V m R) (Gh.done (hk1 144 z0 (by rw [if_neg (by first | (simp_all; done) | (simp_all; omega) | omega), if_pos (by first | (simp_all; done) | (simp_all; omega) | omega)]; rfl)))
      | exact Gh.to (mL b s V m R) (Gh.done (hk2 (by rw [if_neg (by first | (simp_all; done) | (simp_all; omega) | omega), if_neg (by first | (simp_all; done) | (simp_all; omega) | omega)])))
theorem record_spec {n st : Int} {a : TStamp} (hF : MF I V m) (hs : SrtA ilt m.recs)
    (hk1 : recF m n st a = none → K (.bool false) I (mL b s V m R)) (hk2 : ∀ V' m1, recF m n st a = some m1 → MF I V' m1 → K (.bool true) I (mL b s V' m1 R)) :
    Cal Tryz.prog ω 160 #[pt b, .int .i64 n, .int .i64 st, sv a] K I (mL b s V m R) := by
  have hM := hF.rcs
  refine cal160 ?_
  unfold sh160
  have hsz := hM.sizeA hs
  cases hx : lkA m.recs n with
  | none =>
    have hl : encM rcv m.recs n = none := by unfold encM; rw [hx]; rfl
    have ha : recF m n st a = if 64 ≤ m.recs.length then none else some { m with recs := insA ilt n ⟨st, a⟩ m.recs } := by unfold recF; rw [hx]; rfl
    rw [ha] at hk1 hk2
    repeat' (first | (with_reducible refine drawC ?_) | (with_reducible refine drawW1 ?_) | (with_reducible refine drawW2 ?_) | (with_reducible refine keepC (by repeat (first | exact Ext.refl _ | assumption | refine Ext.trans ?_ (by assumption))) ?_) | (with_reducible refine newI (fun _ => ?_)) | (with_reducible refine lkI hM ?_) | (with_reducible refine lenmi ?_) | ((with_reducible refine putAi (x := ⟨st, a⟩) hM ?_ (fun es' c' hM' => Gh.done ?_)); rfl) | first | (with_reducible refine rdb ?_) | ((with_reducible refine st1 ?_ ?_); rfl) | ((with_reducible refine rdB ?_ ?_); rfl) | (with_reducible refine rdbS ?_) | ((with_reducible refine rdBS ?_ ?_); rfl) | ((with_reducible refine stB ?_ ?_ ?_ ?_); rfl; rfl; exact one_all rfl) | ((with_reducible refine rdP _ rfl ?_ ?_); rfl) | ((with_reducible refine rdPS _ rfl ?_ ?_); rfl) | ((with_reducible refine stP _ rfl ?_ ?_ ?_ ?_); rfl; rfl; rfl) | (with_reducible refine unfE (sh160.eq_1 ..) ?_) | (with_reducible refine And.intro ?_ ?_) | (simp only [Bool.not_true, Bool.not_false, Bool.and_self, Bool.true_and, Int.reduceBEq, Int.reduceBNe, Int.reduceLT, Int.reduceLE, decide_true, decide_false, Br_true, Br_false, Gd_tt, Gd_ft, Gd_tf, Gd_ff, beq_self_eq_true, bne_self_eq_false]) | (with_reducible refine gd_split (fun _ => ?_) (fun _ => ?_)) | (with_reducible refine br_split (fun _ => ?_) (fun _ => ?_)) | (simp only [SSd, Nat.reduceAdd, hl, lkV, if_true, hsz]))
    all_goals first
      | exact Gh.to (mL b s V m R) (Gh.done (hk1 (by rw [if_pos (by first | (simp_all; done) | (simp_all; omega) | omega)])))
      | rename_i es' c' hM'; exact Gh.to (mL b s { V with e2 := es', c2 := c' } { m with recs := insA ilt n ⟨st, a⟩ m.recs } R) (Gh.done (hk2 { V with e2 := es', c2 := c' } { m with recs := insA ilt n ⟨st, a⟩ m.recs } (by rw [if_neg (by first | (simp_all; done) | (simp_all; omega) | omega)]) { hF with rcs := hM' }))
  | some x =>
    have hl : encM rcv m.recs n = some (rcv x) := by unfold encM; rw [hx]; rfl
    have ha : recF m n st a = some m := by unfold recF; rw [hx]; rfl
    rw [ha] at hk1 hk2
    repeat' (first | (with_reducible refine drawC ?_) | (with_reducible refine drawW1 ?_) | (with_reducible refine drawW2 ?_) | (with_reducible refine keepC (by repeat (first | exact Ext.refl _ | assumption | refine Ext.trans ?_ (by assumption))) ?_) | (with_reducible refine newI (fun _ => ?_)) | (with_reducible refine lkI hM ?_) | (with_reducible refine lenmi ?_) | ((with_reducible refine putAi (x := ⟨st, a⟩) hM ?_ (fun es' c' hM' => Gh.done ?_)); rfl) | first | (with_reducible refine rdb ?_) | ((with_reducible refine st1 ?_ ?_); rfl) | ((with_reducible refine rdB ?_ ?_); rfl) | (with_reducible refine rdbS ?_) | ((with_reducible refine rdBS ?_ ?_); rfl) | ((with_reducible refine stB ?_ ?_ ?_ ?_); rfl; rfl; exact one_all rfl) | ((with_reducible refine rdP _ rfl ?_ ?_); rfl) | ((with_reducible refine rdPS _ rfl ?_ ?_); rfl) | ((with_reducible refine stP _ rfl ?_ ?_ ?_ ?_); rfl; rfl; rfl) | (with_reducible refine unfE (sh160.eq_1 ..) ?_) | (with_reducible refine And.intro ?_ ?_) | (simp only [Bool.not_true, Bool.not_false, Bool.and_self, Bool.true_and, Int.reduceBEq, Int.reduceBNe, Int.reduceLT, Int.reduceLE, decide_true, decide_false, Br_true, Br_false, Gd_tt, Gd_ft, Gd_tf, Gd_ff, beq_self_eq_true, bne_self_eq_false]) | (with_reducible refine gd_split (fun _ => ?_) (fun _ => ?_)) | (with_reducible refine br_split (fun _ => ?_) (fun _ => ?_)) | (simp only [SSd, Nat.reduceAdd, hl, lkV, if_true, hsz]))
    all_goals exact Gh.to (mL b s V m R) (Gh.done (hk2 V m rfl hF))
theorem rec_at {m : Mch} {n : Int} : lkV (.agg #[.int .i64 0, .int .i64 0, .int .i64 0]) false (encM rcv m.recs n) = rcv (recAt m n) := by
  unfold recAt encM
  cases lkA m.recs n with
  | none => rfl
  | some x => rfl
theorem rec_ins {l : AL Int TRc} {n : Int} {x : TRc} {z : Value} : lkV z false (encM rcv (insA ilt n x l) n) = rcv x := by
  unfold encM; rw [lkA_ins, if_pos rfl]; rfl
theorem recAt_ins {m : Mch} {n : Int} {x : TRc} : recAt { m with recs := insA ilt n x m.recs } n = x := by
  unfold recAt; rw [show ({ m with recs := insA ilt n x m.recs } : Mch).recs = insA ilt n x m.recs from rfl, lkA_ins, if_pos rfl]; rfl
abbrev rvR (r : TRes) : Value := rv r.fCode r.fAt r.fBy r.fState
theorem endM_none (e : recF m c.fTxn 3 c.fAt = none) : endM m c = (failR 143, m) := by unfold endM; rw [e]
theorem endM_pend {m1 : Mch} (e : recF m c.fTxn 3 c.fAt = some m1) (h : (recAt m1 c.fTxn).fState = 1) : endM m c = (⟨0, gotN, [], c.fAt, 0, wantOf c⟩, { m1 with recs := insA ilt c.fTxn ⟨wantOf c, c.fAt⟩ m1.recs }) := by
  unfold endM; rw [e]; simp only; unfold endOf; rw [if_pos h, recAt_ins]; simp
theorem endM_bad {m1 : Mch} (e : recF m c.fTxn 3 c.fAt = some m1) (h : (recAt m1 c.fTxn).fState ≠ 1) (h2 : (recAt m1 c.fTxn).fState ≠ wantOf c) : endM m c = (⟨142, gotN, [], (recAt m1 c.fTxn).fAt, 0, (recAt m1 c.fTxn).fState⟩, m1) := by
  unfold endM; rw [e]; simp only; unfold endOf; rw [if_neg h, if_pos h2]
theorem endM_fin {m1 : Mch} (e : recF m c.fTxn 3 c.fAt = some m1) (h : (recAt m1 c.fTxn).fState ≠ 1) (h2 : (recAt m1 c.fTxn).fState = wantOf c) : endM m c = (⟨0, gotN, [], (recAt m1 c.fTxn).fAt, 0, (recAt m1 c.fTxn).fState⟩, m1) := by
  unfold endM; rw [e]; simp only; unfold endOf; rw [if_neg h, if_neg (by simp [h2])]
theorem end_spec (hF : MF I V m) (hs : SrtA ilt m.recs) (hc : TCmdV I c cc) (hk : ∀ r m', endM m c = (r, m') → ∀ V', MF I V' m' → K (rvR r) I (mL b s V' m' R)) :
    Cal Tryz.prog ω 99 #[pt b, .agg cc.toArray] K I (mL b s V m R) := by
  obtain ⟨w0, w1, w2, w3, rfl, g0, g1, g2, g3⟩ := hc
  refine cal99 ?_
  unfold sh99
  refine newI (fun b1 => newI (fun b2 => ?_))
  have hw : wantOf c = if c.fYes = true then 2 else 3 := rfl
  cases hy : c.fYes <;> rw [hy] at hw <;> simp only [Bool.false_eq_true, if_false, if_true] at hw
  all_goals repeat' (first | (with_reducible refine drawC ?_) | (with_reducible refine drawW1 ?_) | (with_reducible refine drawW2 ?_) | (with_reducible refine keepC (by repeat (first | exact Ext.refl _ | assumption | refine Ext.trans ?_ (by assumption))) ?_) | (with_reducible refine newI (fun _ => ?_)) | ((with_reducible refine call ?_); refine (calM b V (record_spec hF hs (fun e => ?_) (fun V1 m1 e hF1 => ?_)))) | ((with_reducible refine call ?_); refine (failed_spec ?_)) | (with_reducible refine lkIS hF1.rcs ?_) | ((with_reducible refine putAi (x := ⟨wantOf c, c.fAt⟩) hF1.rcs ?_ (fun e' c' hM' => Gh.done ?_)); rw [hw]) | (with_reducible refine lkIS hM' ?_) | first | (with_reducible refine rdb ?_) | ((with_reducible refine st1 ?_ ?_); rfl) | ((with_reducible refine rdB ?_ ?_); rfl) | (with_reducible refine rdbS ?_) | ((with_reducible refine rdBS ?_ ?_); rfl) | ((with_reducible refine stB ?_ ?_ ?_ ?_); rfl; rfl; exact one_all rfl) | ((with_reducible refine rdP _ rfl ?_ ?_); rfl) | ((with_reducible refine rdPS _ rfl ?_ ?_); rfl) | ((with_reducible refine stP _ rfl ?_ ?_ ?_ ?_); rfl; rfl; rfl) | (with_reducible refine unfE (sh99_3.eq_1 ..) ?_) | (with_reducible refine unfE (sh99_2.eq_1 ..) ?_) | (with_reducible refine unfE (sh99_1.eq_1 ..) ?_) | (with_reducible refine unfE (sh99.eq_1 ..) ?_) | (with_reducible refine And.intro ?_ ?_) | (simp only [Bool.not_true, Bool.not_false, Bool.and_self, Bool.true_and, Int.reduceBEq, Int.reduceBNe, Int.reduceLT, Int.reduceLE, decide_true, decide_false, Br_true, Br_false, Gd_tt, Gd_ft, Gd_tf, Gd_ff, beq_self_eq_true, bne_self_eq_false]) | (with_reducible refine gd_split (fun _ => ?_) (fun _ => ?_)) | (with_reducible refine br_split (fun _ => ?_) (fun _ => ?_)) | (simp only [SSd, Nat.reduceAdd, rec_at, rec_ins, hy, hw]))
  all_goals first
    | exact Gh.to (mL b s V m R) (Gh.done (hk _ _ (endM_none e) V hF))
    | exact Gh.to (mL b s V1 m1 R) (Gh.done (hk _ _ (endM_bad e (by first | (simp_all; done) | (simp_all; omega) | omega) (by first | (simp_all; done) | (simp_all; omega) | omega)) V1 hF1))
    | exact Gh.to (mL b s V1 m1 R) (Gh.done (hk _ _ (endM_fin e (by first | (simp_all; done) | (simp_all; omega) | omega) (by first | (simp_all; done) | (simp_all; omega) | omega)) V1 hF1))
    | (have hk' := hk _ _ (endM_pend e (by first | (simp_all; done) | (simp_all; omega) | omega)) { V1 with e2 := e', c2 := c' } { hF1 with rcs := hM' }; rw [hw] at hk'; exact Gh.to (mL b s { V1 with e2 := e', c2 := c' } { m1 with recs := insA ilt c.fTxn ⟨wantOf c, c.fAt⟩ m1.recs } R) (Gh.done hk'))
    | trace_state
end
end Go.Proofs.YtmmfcgbfbcamcaaGreatDoor
-- S3
set_option linter.unusedSimpArgs false
set_option linter.unusedVariables false
namespace Go.Proofs.YtmmfcgbfbcamcaaGreatDoor
open Go.SL
set_option maxRecDepth 10000
theorem ents_subK : ∀ {a c : List MapEntry}, a.Nodup → (∀ x ∈ a, x ∈ c) → a.length ≤ c.length
  | [], c, _, _ => by simp
  | x :: a, c, hn, hs => by
    obtain ⟨C1, C2, rfl⟩ := List.append_of_mem (hs x (List.mem_cons_self ..))
    have := ents_subK (a := a) (c := C1 ++ C2) (List.nodup_cons.1 hn).2 (fun y hy => by
      have h1 := hs y (List.mem_cons_of_mem _ hy)
      simp only [List.mem_append, List.mem_cons] at h1 ⊢
      rcases h1 with h1 | rfl | h1
      · exact .inl h1
      · exact absurd hy (List.nodup_cons.1 hn).1
      · exact .inr h1)
    simp only [List.length_append, List.length_cons] at this ⊢
    omega
section
variable {ω : Om} {I : Imm} {L : LH} {K : Value → M}
theorem kfunM {yv : Value} {qm m : Nat} {es : Array MapEntry} {clock : Nat} {mm : Key → Option Value} (J : List MapEntry → M) (hm : MapS es clock mm)
    (hJ : ∀ vis I' L', J vis I' L' → Cell I' L' qm 0 (.map (some m)) ∧ MapAt I' L' m es clock)
    (hstep : ∀ vis e b I' L', J vis I' L' → e ∈ es.toList → It es (vis ++ [e]) → CalV Tryz.prog ω yv #[e.key] (fun v => Gh fun I2 L2 => v = .bool true ∧ ∃ L3, L2 = (b, iterO m clock (vis ++ [e])) :: L3 ∧ J (vis ++ [e]) I2 L3) I' ((b, iterO m clock (vis ++ [e])) :: L'))
    (h0 : J [] I L) (hk : ∀ vis I' L', vis.Perm es.toList → J vis I' L' → K (.tuple #[]) I' L') :
    Cal Tryz.prog ω 181 #[yv, pt qm] K I L := by
  obtain ⟨hc, hmp⟩ := hJ _ _ _ h0
  refine cal181 ?_
  unfold sh181
  refine rdC hc (Ext.refl _) ?_
  refine rngI hmp (fun b => ?_)
  refine Gh.done ?_
  refine loop (fun n s I' L' => ∃ vis L3, It es vis ∧ n + vis.length = es.toList.length ∧ L' = (b, iterO m clock vis) :: L3 ∧ J vis I' L3) es.toList.length ⟨[], L, It.none es, rfl, rfl, h0⟩ ?_
  rintro n s I' L' ⟨vis, L3, hi, hn, rfl, hJ3⟩
  unfold sh181_1
  obtain ⟨hc3, hmp3⟩ := hJ _ _ _ hJ3
  refine nxtI hm hmp3 hi (fun hp => Gh.done ?_) (fun e he hi' => Gh.done ?_)
  · try simp only [SSd, Nat.reduceAdd]
    exact Gh.to L3 (Gh.done (hk vis I' L3 hp hJ3))
  · have hlen : vis.length + 1 ≤ es.toList.length := by
      have := ents_subK (nodup_of_map hi'.nod) hi'.sub
      simpa using this
    try simp only [SSd, Nat.reduceAdd]
    refine ⟨_, entI hm hmp3 he, ?_⟩
    try simp only [SSd, Nat.reduceAdd]
    refine CalV.mono (hstep vis e b I' L3 hJ3 he hi') (fun v2 I2 L2 hv2 => Gh.mono hv2 ?_)
    rintro I3 L3' ⟨rfl, L4, rfl, hJ4⟩
    simp only [Bool.not_true, SSd, Nat.reduceAdd]
    exact (Gh.done ⟨n - 1, by omega, _, L4, hi', by rw [List.length_append, List.length_singleton]; omega, rfl, hJ4⟩)
theorem kgetM {m : Nat} (hk : ∀ qm, K (.func (.func 181) #[] #[pt qm]) I ((qm, .cells #[.map (some m)] 157 (0, 0)) :: L)) : Cal Tryz.prog ω 127 #[.map (some m)] K I L := by
  refine cal127 ?_
  unfold sh127
  exact newI (fun qm => Gh.done (hk qm))
theorem kcolM {qm m : Nat} {es : Array MapEntry} {clock : Nat} {mm : Key → Option Value} (hm : MapS es clock mm) (hN : es.toList.length ≤ 1000000) (hmp : MapAt I L m es clock)
    (hk : ∀ (X : LH) (v : Value) (vis : List MapEntry), vis.Perm es.toList → SlO 9 1 X v ((vis.map eKey).map kstr) vis.length → K v I (X ++ L)) :
    Cal Tryz.prog ω 179 #[.func (.func 181) #[] #[pt qm]] K I ((qm, .cells #[.map (some m)] 157 (0, 0)) :: L) := by
  refine cal179 ?_
  unfold sh179
  refine call ?_
  refine cal230 ?_
  unfold sh230
  refine newI (fun bs => ?_)
  unfold RngF1 RngM
  simp only
  rw [if_pos (show entersB Tryz.prog 181 = true by kernel_rfl)]
  intro l D Lo _ hy
  refine kfunM (qm := qm) (m := m) (es := es) (clock := clock) (mm := mm)
    (fun vis I' L' => I' = I ∧ ∃ XO vo, SlO 9 1 XO vo ((vis.map eKey).map kstr) vis.length ∧ vis.length ≤ es.toList.length ∧ L' = (l, Lo .ready none) :: (D, .deferred (some [])) :: (bs, .cells #[vo] 177 (0, 0)) :: (XO ++ (qm, .cells #[.map (some m)] 157 (0, 0)) :: L)) hm ?_ ?_ ?_ ?_
  · rintro vis I' L' ⟨rfl, XO, vo, _, _, rfl⟩
    exact ⟨Cell.own (b := qm) (cs := #[.map (some m)]) (T := 157) (fr := (0, 0)) (by simp) rfl, MapAt.mono hmp (Ext.refl _) (fun x hx => by simp [hx])⟩
  · rintro vis e b I' L' ⟨rfl, XO, vo, hO, hlv, rfl⟩ he hi'
    have hlen : vis.length + 1 ≤ es.toList.length := by
      have := ents_subK (nodup_of_map hi'.nod) hi'.sub
      simpa using this
    have hek : e.key = kstr (eKey e) := by
      obtain ⟨s, hs⟩ := hm.str e he
      simp [eKey, hs, kstr]
    refine hy _ _ _ _ rfl (yldM ?_)
    simp only [List.head!]
    refine begR ?_
    refine rdb ?_
    rw [hek]
    refine bld_one rfl (by omega) rfl (fun X1 u hX1 => ?_)
    obtain ⟨va, vc, rfl⟩ := hO.form
    refine app_own (X := XO) rfl hO (hX1.news (fun x hx => by simp [hx])) (by simp [Value.cells, Value.oneCell', kstr]) (by omega) (by omega) (fun X6 v6 h6 => ?_)
    obtain ⟨a6, c6, rfl⟩ := h6.form
    refine st1 rfl ?_
    refine endR ?_
    refine Gh.to ((b, iterO m clock (vis ++ [e])) :: (l, Lo .ready none) :: (D, .deferred (some [])) :: (bs, .cells #[.slice a6 (vis.length + 1) c6] 177 (0, 0)) :: (X6 ++ (qm, .cells #[.map (some m)] 157 (0, 0)) :: L)) (Gh.done ⟨rfl, _, rfl, rfl, X6, _, ?_, ?_, rfl⟩)
    · simpa [Value.cells, kstr] using h6
    · simpa using hlen
  · exact ⟨rfl, [], _, SlO.none _ _, Nat.zero_le _, rfl⟩
  · rintro vis I' L' hp ⟨rfl, XO, vo, hO, hlv, rfl⟩
    refine Gh.done (endL (s := .ready) (j := none) (by simp) ?_)
    show sh230_2 ω (pt bs) (.slice none 0 0) D _ _ _
    unfold sh230_2
    refine rdb ?_
    refine tak ?_
    exact Gh.to (XO ++ L) (Gh.done (Gh.done (hk XO vo vis hp hO)))
theorem kfunS {yv : Value} {qm m : Nat} {es : Array MapEntry} {clock : Nat} {mm : Int → Option Value} (J : List MapEntry → M) (hm : MapSi es clock mm)
    (hJ : ∀ vis I' L', J vis I' L' → Cell I' L' qm 0 (.map (some m)) ∧ MapAt I' L' m es clock)
    (hstep : ∀ vis e b I' L', J vis I' L' → e ∈ es.toList → It es (vis ++ [e]) → CalV Tryz.prog ω yv #[e.key] (fun v => Gh fun I2 L2 => v = .bool true ∧ ∃ L3, L2 = (b, iterO m clock (vis ++ [e])) :: L3 ∧ J (vis ++ [e]) I2 L3) I' ((b, iterO m clock (vis ++ [e])) :: L'))
    (h0 : J [] I L) (hk : ∀ vis I' L', vis.Perm es.toList → J vis I' L' → K (.tuple #[]) I' L') :
    Cal Tryz.prog ω 185 #[yv, pt qm] K I L := by
  obtain ⟨hc, hmp⟩ := hJ _ _ _ h0
  refine cal185 ?_
  unfold sh185
  refine rdC hc (Ext.refl _) ?_
  refine rngI hmp (fun b => ?_)
  refine Gh.done ?_
  refine loop (fun n s I' L' => ∃ vis L3, It es vis ∧ n + vis.length = es.toList.length ∧ L' = (b, iterO m clock vis) :: L3 ∧ J vis I' L3) es.toList.length ⟨[], L, It.none es, rfl, rfl, h0⟩ ?_
  rintro n s I' L' ⟨vis, L3, hi, hn, rfl, hJ3⟩
  unfold sh185_1
  obtain ⟨hc3, hmp3⟩ := hJ _ _ _ hJ3
  refine nxtIi hm hmp3 hi (fun hp => Gh.done ?_) (fun e he hi' => Gh.done ?_)
  · try simp only [SSd, Nat.reduceAdd]
    exact Gh.to L3 (Gh.done (hk vis I' L3 hp hJ3))
  · have hlen : vis.length + 1 ≤ es.toList.length := by
      have := ents_subK (nodup_of_map hi'.nod) hi'.sub
      simpa using this
    try simp only [SSd, Nat.reduceAdd]
    refine ⟨_, entIi hm hmp3 he, ?_⟩
    try simp only [SSd, Nat.reduceAdd]
    refine CalV.mono (hstep vis e b I' L3 hJ3 he hi') (fun v2 I2 L2 hv2 => Gh.mono hv2 ?_)
    rintro I3 L3' ⟨rfl, L4, rfl, hJ4⟩
    simp only [Bool.not_true, SSd, Nat.reduceAdd]
    exact (Gh.done ⟨n - 1, by omega, _, L4, hi', by rw [List.length_append, List.length_singleton]; omega, rfl, hJ4⟩)
theorem kgetS {m : Nat} (hk : ∀ qm, K (.func (.func 185) #[] #[pt qm]) I ((qm, .cells #[.map (some m)] 161 (0, 0)) :: L)) : Cal Tryz.prog ω 130 #[.map (some m)] K I L := by
  refine cal130 ?_
  unfold sh130
  exact newI (fun qm => Gh.done (hk qm))
theorem kcolS {qm m : Nat} {es : Array MapEntry} {clock : Nat} {mm : Int → Option Value} (hm : MapSi es clock mm) (hN : es.toList.length ≤ 1000000) (hmp : MapAt I L m es clock)
    (hk : ∀ (X : LH) (v : Value) (vis : List MapEntry), vis.Perm es.toList → SlO 3 1 X v ((vis.map eKeyi).map (Value.int .i64)) vis.length → K v I (X ++ L)) :
    Cal Tryz.prog ω 182 #[.func (.func 185) #[] #[pt qm]] K I ((qm, .cells #[.map (some m)] 161 (0, 0)) :: L) := by
  refine cal182 ?_
  unfold sh182
  refine call ?_
  refine cal232 ?_
  unfold sh232
  refine newI (fun bs => ?_)
  unfold RngF1 RngM
  simp only
  rw [if_pos (show entersB Tryz.prog 185 = true by kernel_rfl)]
  intro l D Lo _ hy
  refine kfunS (qm := qm) (m := m) (es := es) (clock := clock) (mm := mm)
    (fun vis I' L' => I' = I ∧ ∃ XO vo, SlO 3 1 XO vo ((vis.map eKeyi).map (Value.int .i64)) vis.length ∧ vis.length ≤ es.toList.length ∧ L' = (l, Lo .ready none) :: (D, .deferred (some [])) :: (bs, .cells #[vo] 23 (0, 0)) :: (XO ++ (qm, .cells #[.map (some m)] 161 (0, 0)) :: L)) hm ?_ ?_ ?_ ?_
  · rintro vis I' L' ⟨rfl, XO, vo, _, _, rfl⟩
    exact ⟨Cell.own (b := qm) (cs := #[.map (some m)]) (T := 161) (fr := (0, 0)) (by simp) rfl, MapAt.mono hmp (Ext.refl _) (fun x hx => by simp [hx])⟩
  · rintro vis e b I' L' ⟨rfl, XO, vo, hO, hlv, rfl⟩ he hi'
    have hlen : vis.length + 1 ≤ es.toList.length := by
      have := ents_subK (nodup_of_map hi'.nod) hi'.sub
      simpa using this
    have hek : e.key = (Value.int .i64) (eKeyi e) := by
      obtain ⟨s, hs⟩ := hm.str e he
      simp [eKeyi, hs, Value.cells]
    refine hy _ _ _ _ rfl (yldM ?_)
    simp only [List.head!]
    refine begR ?_
    refine rdb ?_
    rw [hek]
    refine bld_one rfl (by omega) rfl (fun X1 u hX1 => ?_)
    obtain ⟨va, vc, rfl⟩ := hO.form
    refine app_own (X := XO) rfl hO (hX1.news (fun x hx => by simp [hx])) (by simp [Value.cells, Value.oneCell', Value.cells]) (by omega) (by omega) (fun X6 v6 h6 => ?_)
    obtain ⟨a6, c6, rfl⟩ := h6.form
    refine st1 rfl ?_
    refine endR ?_
    refine Gh.to ((b, iterO m clock (vis ++ [e])) :: (l, Lo .ready none) :: (D, .deferred (some [])) :: (bs, .cells #[.slice a6 (vis.length + 1) c6] 23 (0, 0)) :: (X6 ++ (qm, .cells #[.map (some m)] 161 (0, 0)) :: L)) (Gh.done ⟨rfl, _, rfl, rfl, X6, _, ?_, ?_, rfl⟩)
    · simpa [Value.cells, Value.cells] using h6
    · simpa using hlen
  · exact ⟨rfl, [], _, SlO.none _ _, Nat.zero_le _, rfl⟩
  · rintro vis I' L' hp ⟨rfl, XO, vo, hO, hlv, rfl⟩
    refine Gh.done (endL (s := .ready) (j := none) (by simp) ?_)
    show sh232_2 ω (pt bs) (.slice none 0 0) D _ _ _
    unfold sh232_2
    refine rdb ?_
    refine tak ?_
    exact Gh.to (XO ++ L) (Gh.done (Gh.done (hk XO vo vis hp hO)))
end
end Go.Proofs.YtmmfcgbfbcamcaaGreatDoor
-- S3
set_option linter.unusedSimpArgs false
set_option linter.unusedVariables false
namespace Go.Proofs.YtmmfcgbfbcamcaaGreatDoor
open Go.SL
set_option maxRecDepth 10000
section
variable {ω : Om} {I : Imm} {L : LH} {K : Value → M}
theorem min_spec {X F : LH} {v : Value} {l : List Int} {T : Nat} (h : SlO T 1 X v (l.map (Value.int .i64)) l.length) (hne : l ≠ []) (hlen : l.length ≤ 1000000000) (hk : ∀ k, k ∈ l → (∀ y ∈ l, k ≤ y) → K (.int .i64 k) I (X ++ F)) :
    Cal Tryz.prog ω 218 #[v] K I (X ++ F) := by
  have hl0 : 0 < l.length := List.length_pos_iff.2 hne
  obtain ⟨a, cap, rfl⟩ := h.form
  have at' : ∀ i (hi : i < l.length), ∃ b, ixV 1 (.slice a l.length cap) (.int .i64 i) = some (.pointer (some ⟨b, i * 1, none⟩)) ∧ Cell I (X ++ F) b (i * 1) (.int .i64 l[i]) := by
    intro i hi
    obtain ⟨b, h1, h2⟩ := h.ix .i64 hi
    refine ⟨b, h1, ?_⟩
    have := h2 I (X ++ F) (fun x hx => List.mem_append_left _ hx) 0 (.int .i64 l[i]) (by simp [hi])
    simpa using this
  refine cal218 ?_
  unfold sh218
  have hlt : decide ((l.length : Int) < 1) = false := by simp; omega
  simp only [hlt, SSd, Nat.reduceAdd]
  unfold sh218_1
  obtain ⟨b, h1, h2⟩ := at' 0 hl0
  simp only [Int.natCast_zero] at h1
  simp only [h1, SSd, Nat.reduceAdd]
  refine rd1 (by simpa using h2) ?_
  refine loop (fun n s I' L' => I' = I ∧ L' = X ++ F ∧ ∃ (k : Int) (i : Nat), n + i = l.length ∧ 0 < i ∧ s = (.int .i64 k, .int .i64 i, ()) ∧ k ∈ l ∧ ∀ y ∈ l.take i, k ≤ y) (l.length - 1) ⟨rfl, rfl, l[0], 1, by omega, by omega, rfl, List.getElem_mem _, ?_⟩ ?_
  · intro y hy
    rw [List.take_one] at hy
    cases l with
    | nil => simp at hl0
    | cons x l => simp at hy; simp [hy]
  rintro n s I' L' ⟨rfl, rfl, k, i, hn, hi0, rfl, hm, hle⟩
  unfold sh218_2
  try simp only [SSd, Nat.reduceAdd]
  refine br_split (fun e => ?_) (fun e => ?_)
  · simp only [decide_eq_true_eq] at e
    have hi : i < l.length := by omega
    obtain ⟨b, h1, h2⟩ := at' i hi
    simp only [h1, SSd, Nat.reduceAdd]
    refine rd1 h2 ?_
    try simp only [SSd, Nat.reduceAdd]
    rw [wrap_i64 _ (by omega)]
    refine Gh.done ⟨n - 1, by omega, rfl, rfl, if l[i] < k then l[i] else k, i + 1, by omega, by omega, rfl, ?_, fun y hy => ?_⟩
    · split
      · exact List.getElem_mem _
      · exact hm
    · rw [take_snoc hi] at hy
      rcases List.mem_append.1 hy with hy | hy
      · have := hle y hy
        split <;> omega
      · simp only [List.mem_singleton] at hy
        subst hy
        split <;> omega
  · simp only [decide_eq_false_iff_not] at e
    rw [List.take_of_length_le (by omega)] at hle
    exact Gh.done (hk k hm hle)
theorem delA_head {β : Type} {q : Int × β} {l : AL Int β} (h : SrtA ilt (q :: l)) : delA q.1 (q :: l) = l := by
  obtain ⟨h1, h2⟩ := List.pairwise_cons.1 h
  unfold delA
  rw [List.filter_cons, if_neg (by simp), List.filter_eq_self]
  intro x hx
  have := h1 x hx
  simp only [decide_eq_true_eq] at this
  simp; omega
variable {b s : Nat} {V : MV} {m : Mch} {R : LH} {c : TCmd} {cc : List Value}
theorem seeF_small {e : Int} {a : TStamp} (h : ¬ 64 < (seeS m c e a).length) : seeF m c e a = { m with seen := seeS m c e a } := if_neg h
theorem see_spec {e : Int} {a : TStamp} (hF : MF I V m) (hs : SrtA ilt m.seen) (hl : m.seen.length ≤ 64) (hc : TCmdV I c cc) (hk : ∀ V', MF I V' (seeF m c e a) → K (.tuple #[]) I (mL b s V' (seeF m c e a) R)) {n s' : Int} :
    Cal Tryz.prog ω 157 #[pt b, .agg cc.toArray, rv e a n s'] K I (mL b s V m R) := by
  have hs2 : SrtA ilt (seeS m c e a) := hs.ins iltO
  have hle : (seeS m c e a).length ≤ m.seen.length + 1 := (insA_len ..).1
  obtain ⟨w0, w1, w2, w3, rfl, g0, g1, g2, g3⟩ := hc
  refine cal157 ?_
  unfold sh157
  refine newI (fun b1 => newI (fun b2 => ?_))
  repeat' (first | (with_reducible refine drawC ?_) | (with_reducible refine drawW1 ?_) | (with_reducible refine drawW2 ?_) | (with_reducible refine keepC (by repeat (first | exact Ext.refl _ | assumption | refine Ext.trans ?_ (by assumption))) ?_) | (with_reducible refine newI (fun _ => ?_)) | ((with_reducible refine putAi (x := ⟨c.fSeq, e, a⟩) hF.sns ?_ (fun e' c' hM' => Gh.done ?_)); rfl) | (with_reducible refine lenmi ?_) | first | (with_reducible refine rdb ?_) | ((with_reducible refine st1 ?_ ?_); rfl) | ((with_reducible refine rdB ?_ ?_); rfl) | (with_reducible refine rdbS ?_) | ((with_reducible refine rdBS ?_ ?_); rfl) | ((with_reducible refine stB ?_ ?_ ?_ ?_); rfl; rfl; exact one_all rfl) | ((with_reducible refine rdP _ rfl ?_ ?_); rfl) | ((with_reducible refine rdPS _ rfl ?_ ?_); rfl) | ((with_reducible refine stP _ rfl ?_ ?_ ?_ ?_); rfl; rfl; rfl) | (with_reducible refine unfE (sh157.eq_1 ..) ?_) | (with_reducible refine And.intro ?_ ?_) | (simp only [Bool.not_true, Bool.not_false, Bool.and_self, Bool.true_and, Int.reduceBEq, Int.reduceBNe, Int.reduceLT, Int.reduceLE, decide_true, decide_false, Br_true, Br_false, Gd_tt, Gd_ft, Gd_tf, Gd_ff, beq_self_eq_true, bne_self_eq_false]) | (with_reducible refine gd_split (fun _ => ?_) (fun _ => ?_)) | (with_reducible refine br_split (fun _ => ?_) (fun _ => ?_)) | (simp only [SSd, Nat.reduceAdd]))
  · rename_i hgt
    have hsz := hM'.sizeA hs2
    have hperm := hM'.keysA hs2
    have hgt2 : 64 < (seeS m c e a).length := by
      have : 64 < ((e'.size : Nat) : Int) := by simpa using hgt
      unfold seeS; omega
    refine call (kgetS (fun qm => ?_))
    refine call (kcolS hM' (by simp; unfold seeS at hle; omega) (.inl (by simp)) (fun X v vis hvp hO => ?_))
    have hpk : (vis.map eKeyi).Perm ((seeS m c e a).map (·.1)) := (hvp.map _).trans hperm
    have hvl : (vis.map eKeyi).length = (seeS m c e a).length := by rw [hpk.length_eq]; simp
    have hO' : SlO 3 1 X v ((vis.map eKeyi).map (Value.int .i64)) (vis.map eKeyi).length := by simpa using hO
    refine callG (min_spec hO' (fun h => by rw [h] at hvl; simp at hvl; omega) (by omega) (fun k hk1 hk2 => Gh.done ?_))
    have hk1' := hpk.mem_iff.1 hk1
    obtain ⟨q, l, hql⟩ : ∃ q l, seeS m c e a = q :: l := by
      cases h : seeS m c e a with
      | nil => rw [h] at hgt2; simp at hgt2
      | cons q l => exact ⟨q, l, rfl⟩
    have hkq : k = q.1 := by
      rw [hql] at hk1' hs2 hpk
      obtain ⟨h1, h2⟩ := List.pairwise_cons.1 hs2
      rcases List.mem_cons.1 hk1' with h | h
      · exact h
      · obtain ⟨y, hy, rfl⟩ := List.mem_map.1 h
        have g1 := h1 y hy
        have g2 := hk2 q.1 (hpk.mem_iff.2 (List.mem_cons_self ..))
        simp only [decide_eq_true_eq] at g1
        omega
    have hsee : seeF m c e a = { m with seen := l, oldest := k } := by
      unfold seeF; rw [if_pos hgt2, hql, hkq]; rfl
    have hdel : delA k (seeS m c e a) = l := by
      rw [hql] at hs2 ⊢; rw [hkq]; exact delA_head hs2
    rw [hsee] at hk
    try simp only [SSd, Nat.reduceAdd]
    refine rdb ?_
    refine delAi hM' (fun e2 hM2 => Gh.done ?_)
    simp only [List.append_assoc, List.cons_append, List.nil_append]
    try simp only [SSd, Nat.reduceAdd]
    refine st1 rfl ?_
    rw [show insA ilt c.fTxn ⟨c.fSeq, e, a⟩ m.seen = seeS m c e a from rfl, hdel] at hM2
    exact Gh.to (mL b s { V with e3 := e2, c3 := c' } { m with seen := l, oldest := k } R) (Gh.done (hk { V with e3 := e2, c3 := c' } { hF with sns := hM2 }))
  · rename_i hgt
    have hsz := hM'.sizeA hs2
    have hgt2 : ¬ 64 < (seeS m c e a).length := by
      have : ¬ 64 < ((e'.size : Nat) : Int) := by simpa using hgt
      unfold seeS; omega
    rw [seeF_small hgt2] at hk
    exact Gh.to (mL b s { V with e3 := e', c3 := c' } { m with seen := seeS m c e a } R) (Gh.done (hk { V with e3 := e', c3 := c' } { hF with sns := hM' }))
theorem begM_again {r : TRes} (e : againF m c = some r) : begM m c = (r, m) := by unfold begM; rw [e]
theorem begM_none (e : againF m c = none) (e1 : recF m c.fTxn 1 c.fAt = none) : begM m c = (failR 143, m) := by unfold begM; rw [e]; simp only; rw [e1]
theorem begM_bad {m1 : Mch} (e : againF m c = none) (e1 : recF m c.fTxn 1 c.fAt = some m1) (h : (recAt m1 c.fTxn).fState ≠ 1) : begM m c = (⟨142, gotN, [], z0, 0, (recAt m1 c.fTxn).fState⟩, m1) := by
  unfold begM; rw [e]; simp only; rw [e1]; simp only; rw [if_pos h]
theorem begM_fin {m1 : Mch} (e : againF m c = none) (e1 : recF m c.fTxn 1 c.fAt = some m1) (h : (recAt m1 c.fTxn).fState = 1) : begM m c = (⟨0, gotN, [], z0, 0, 1⟩, seeF m1 c 0 z0) := by
  unfold begM; rw [e]; simp only; rw [e1]; simp only; rw [if_neg (by simp [h])]
theorem recF_seen {m1 : Mch} {n st : Int} {a : TStamp} (e : recF m n st a = some m1) : m1.seen = m.seen ∧ m1.low = m.low ∧ m1.marks = m.marks ∧ m1.sp = m.sp ∧ m1.span = m.span ∧ m1.oldest = m.oldest ∧ m1.nt = m.nt ∧ m1.kept = m.kept := by
  unfold recF at e
  split at e
  · cases e; simp
  · split at e
    · cases e
    · cases e; simp
set_option maxHeartbeats 1000000 in
theorem begin_spec (hF : MF I V m) (hs : SrtA ilt m.recs) (hs3 : SrtA ilt m.seen) (hl3 : m.seen.length ≤ 64) (hc : TCmdV I c cc) (hk : ∀ r m', begM m c = (r, m') → ∀ V', MF I V' m' → K (rvR r) I (mL b s V' m' R)) :
    Cal Tryz.prog ω 98 #[pt b, .agg cc.toArray] K I (mL b s V m R) := by
  have hc' := hc
  obtain ⟨w0, w1, w2, w3, rfl, g0, g1, g2, g3⟩ := hc
  refine cal98 ?_
  unfold sh98
  refine newI (fun b1 => newI (fun b2 => ?_))
  repeat' (first | (with_reducible refine drawC ?_) | (with_reducible refine drawW1 ?_) | (with_reducible refine drawW2 ?_) | (with_reducible refine keepC (by repeat (first | exact Ext.refl _ | assumption | refine Ext.trans ?_ (by assumption))) ?_) | (with_reducible refine newI (fun _ => ?_)) | ((with_reducible refine call ?_); refine (calM b V (again_spec hF hc' (fun e a ha => ?_) (fun ha => ?_)))) | ((with_reducible refine call ?_); refine (calM b V (record_spec hF hs (fun e => ?_) (fun V1 m1 e hF1 => ?_)))) | ((with_reducible refine call ?_); refine (failed_spec ?_)) | (with_reducible refine lkIS hF1.rcs ?_) | ((with_reducible refine call ?_); refine (calM b V1 (see_spec (e := 0) (a := z0) (n := 0) (s' := 0) hF1 (by rw [(recF_seen e).1]; exact hs3) (by rw [(recF_seen e).1]; exact hl3) hc' (fun V2 hF2 => ?_)))) | first | (with_reducible refine rdb ?_) | ((with_reducible refine st1 ?_ ?_); rfl) | ((with_reducible refine rdB ?_ ?_); rfl) | (with_reducible refine rdbS ?_) | ((with_reducible refine rdBS ?_ ?_); rfl) | ((with_reducible refine stB ?_ ?_ ?_ ?_); rfl; rfl; exact one_all rfl) | ((with_reducible refine rdP _ rfl ?_ ?_); rfl) | ((with_reducible refine rdPS _ rfl ?_ ?_); rfl) | ((with_reducible refine stP _ rfl ?_ ?_ ?_ ?_); rfl; rfl; rfl) | (with_reducible refine unfE (sh98.eq_1 ..) ?_) | (with_reducible refine And.intro ?_ ?_) | (simp only [Bool.not_true, Bool.not_false, Bool.and_self, Bool.true_and, Int.reduceBEq, Int.reduceBNe, Int.reduceLT, Int.reduceLE, decide_true, decide_false, Br_true, Br_false, Gd_tt, Gd_ft, Gd_tf, Gd_ff, beq_self_eq_true, bne_self_eq_false]) | (with_reducible refine gd_split (fun _ => ?_) (fun _ => ?_)) | (with_reducible refine br_split (fun _ => ?_) (fun _ => ?_)) | (simp only [SSd, Nat.reduceAdd, rec_at]))
  · exact Gh.to (mL b s V m R) (Gh.done (hk _ _ (begM_again ha) V hF))
  · exact Gh.to (mL b s V m R) (Gh.done (hk _ _ (begM_none ha e) V hF))
  · exact Gh.to (mL b s V1 m1 R) (Gh.done (hk _ _ (begM_bad ha e (by first | (simp_all; done) | (simp_all; omega) | omega)) V1 hF1))
  · rename_i hst
    have hst : (recAt m1 c.fTxn).fState = 1 := by simpa using hst
    have hk' := hk _ _ (begM_fin ha e hst) V2 hF2
    rw [hst]
    exact Gh.to (mL b s V2 (seeF m1 c 0 z0) R) (Gh.done hk')
theorem pushM_none (e : recF m c.fTxn 3 c.fAt = none) : pushM m c = (failR 143, m) := by unfold pushM; rw [e]
theorem pushM_yes {m1 : Mch} (e : recF m c.fTxn 3 c.fAt = some m1) (h : pushB (recAt m1 c.fTxn) c = true) : pushM m c = (⟨0, gotN, [], (recAt m1 c.fTxn).fAt, 0, 3⟩, { m1 with recs := insA ilt c.fTxn ⟨3, (recAt m1 c.fTxn).fAt⟩ m1.recs }) := by
  unfold pushM; rw [e]; simp only; unfold pushOf; rw [if_pos h, if_pos h]
theorem pushM_no {m1 : Mch} (e : recF m c.fTxn 3 c.fAt = some m1) (h : pushB (recAt m1 c.fTxn) c = false) : pushM m c = (⟨0, gotN, [], (recAt m1 c.fTxn).fAt, 0, (recAt m1 c.fTxn).fState⟩, m1) := by
  unfold pushM; rw [e]; simp only; unfold pushOf; rw [if_neg (by simp [h]), if_neg (by simp [h])]
theorem pushB_eq (x : TRc) : pushB x c = (x.fState == 1 && (decide (scmp c.fAt x.fAt < 0) || (scmp c.fAt x.fAt == 0 && decide (c.fBy < c.fTxn)))) := by
  unfold pushB
  rw [← scmp_neg, ← scmp_pos, Bool.eq_iff_iff]
  simp only [Bool.and_eq_true, Bool.or_eq_true, Bool.not_eq_true', decide_eq_true_eq, decide_eq_false_iff_not, beq_iff_eq]
  omega
theorem push_spec' (hF : MF I V m) (hs : SrtA ilt m.recs) (hc : TCmdV I c cc) (hk : ∀ r m', pushM m c = (r, m') → ∀ V', MF I V' m' → K (rvR r) I (mL b s V' m' R)) :
    Cal Tryz.prog ω 100 #[pt b, .agg cc.toArray] K I (mL b s V m R) := by
  obtain ⟨w0, w1, w2, w3, rfl, g0, g1, g2, g3⟩ := hc
  refine cal100 ?_
  unfold sh100
  refine newI (fun b1 => newI (fun b2 => ?_))
  repeat' (first | (with_reducible refine drawC ?_) | (with_reducible refine drawW1 ?_) | (with_reducible refine drawW2 ?_) | (with_reducible refine keepC (by repeat (first | exact Ext.refl _ | assumption | refine Ext.trans ?_ (by assumption))) ?_) | (with_reducible refine newI (fun _ => ?_)) | ((with_reducible refine call ?_); refine (calM b V (record_spec hF hs (fun e => ?_) (fun V1 m1 e hF1 => ?_)))) | ((with_reducible refine call ?_); refine (failed_spec ?_)) | (with_reducible refine lkIS hF1.rcs ?_) | ((with_reducible refine call ?_); refine (hcompare_spec (x := c.fAt) (y := (recAt m1 c.fTxn).fAt) ?_)) | ((with_reducible refine putAi (x := ⟨3, (recAt m1 c.fTxn).fAt⟩) hF1.rcs ?_ (fun e' c' hM' => Gh.done ?_)); rfl) | first | (with_reducible refine rdb ?_) | ((with_reducible refine st1 ?_ ?_); rfl) | ((with_reducible refine rdB ?_ ?_); rfl) | (with_reducible refine rdbS ?_) | ((with_reducible refine rdBS ?_ ?_); rfl) | ((with_reducible refine stB ?_ ?_ ?_ ?_); rfl; rfl; exact one_all rfl) | ((with_reducible refine rdP _ rfl ?_ ?_); rfl) | ((with_reducible refine rdPS _ rfl ?_ ?_); rfl) | ((with_reducible refine stP _ rfl ?_ ?_ ?_ ?_); rfl; rfl; rfl) | (with_reducible refine unfE (sh100_2.eq_1 ..) ?_) | (with_reducible refine unfE (sh100_1.eq_1 ..) ?_) | (with_reducible refine unfE (sh100.eq_1 ..) ?_) | (with_reducible refine And.intro ?_ ?_) | (simp only [Bool.not_true, Bool.not_false, Bool.and_self, Bool.true_and, Int.reduceBEq, Int.reduceBNe, Int.reduceLT, Int.reduceLE, decide_true, decide_false, Br_true, Br_false, Gd_tt, Gd_ft, Gd_tf, Gd_ff, beq_self_eq_true, bne_self_eq_false]) | (with_reducible refine gd_split (fun _ => ?_) (fun _ => ?_)) | (with_reducible refine br_split (fun _ => ?_) (fun _ => ?_)) | (simp only [SSd, Nat.reduceAdd, rec_at]))
  all_goals first
    | exact Gh.to (mL b s V m R) (Gh.done (hk _ _ (pushM_none e) V hF))
    | exact Gh.to (mL b s V1 m1 R) (Gh.done (hk _ _ (pushM_no e (by rw [pushB_eq]; simp_all)) V1 hF1))
    | exact Gh.to (mL b s { V1 with e2 := e', c2 := c' } { m1 with recs := insA ilt c.fTxn ⟨3, (recAt m1 c.fTxn).fAt⟩ m1.recs } R) (Gh.done (hk _ _ (pushM_yes e (by rw [pushB_eq]; simp_all)) { V1 with e2 := e', c2 := c' } { hF1 with rcs := hM' }))
    | trace_state
theorem forget_spec (hF : MF I V m) (hc : TCmdV I c cc) (hk : ∀ r m', forM m c = (r, m') → ∀ V', MF I V' m' → K (rvR r) I (mL b s V' m' R)) :
    Cal Tryz.prog ω 101 #[pt b, .agg cc.toArray] K I (mL b s V m R) := by
  obtain ⟨w0, w1, w2, w3, rfl, g0, g1, g2, g3⟩ := hc
  refine cal101 ?_
  unfold sh101
  refine newI (fun b1 => newI (fun b2 => ?_))
  repeat' (first | (with_reducible refine drawC ?_) | (with_reducible refine drawW1 ?_) | (with_reducible refine drawW2 ?_) | (with_reducible refine keepC (by repeat (first | exact Ext.refl _ | assumption | refine Ext.trans ?_ (by assumption))) ?_) | (with_reducible refine newI (fun _ => ?_)) | ((with_reducible refine call ?_); refine (failed_spec ?_)) | (with_reducible refine lkIS hF.rcs ?_) | (with_reducible refine delAi hF.rcs (fun e' hM' => Gh.done ?_)) | first | (with_reducible refine rdb ?_) | ((with_reducible refine st1 ?_ ?_); rfl) | ((with_reducible refine rdB ?_ ?_); rfl) | (with_reducible refine rdbS ?_) | ((with_reducible refine rdBS ?_ ?_); rfl) | ((with_reducible refine stB ?_ ?_ ?_ ?_); rfl; rfl; exact one_all rfl) | ((with_reducible refine rdP _ rfl ?_ ?_); rfl) | ((with_reducible refine rdPS _ rfl ?_ ?_); rfl) | ((with_reducible refine stP _ rfl ?_ ?_ ?_ ?_); rfl; rfl; rfl) | (with_reducible refine unfE (sh101.eq_1 ..) ?_) | (with_reducible refine And.intro ?_ ?_) | (simp only [Bool.not_true, Bool.not_false, Bool.and_self, Bool.true_and, Int.reduceBEq, Int.reduceBNe, Int.reduceLT, Int.reduceLE, decide_true, decide_false, Br_true, Br_false, Gd_tt, Gd_ft, Gd_tf, Gd_ff, beq_self_eq_true, bne_self_eq_false]) | (with_reducible refine gd_split (fun _ => ?_) (fun _ => ?_)) | (with_reducible refine br_split (fun _ => ?_) (fun _ => ?_)) | (simp only [SSd, Nat.reduceAdd, rec_at]))
  all_goals first
    | exact Gh.to (mL b s V m R) (Gh.done (hk (failR 142) m (by unfold forM; rw [if_pos (by first | (simp_all; done) | (simp_all; omega) | omega)]) V hF))
    | exact Gh.to (mL b s { V with e2 := e' } { m with recs := delA c.fTxn m.recs } R) (Gh.done (hk okR { m with recs := delA c.fTxn m.recs } (by unfold forM; rw [if_neg (by first | (simp_all; done) | (simp_all; omega) | omega)]) { V with e2 := e' } { hF with rcs := hM' }))
    | trace_state
theorem ours_spec {p : TSpan} {pc : List Value} (hF : MF I V m) (hp : TSpanV I p pc) (hk : K (.bool (oursB m.span p)) I (mL b s V m R)) :
    Cal Tryz.prog ω 151 #[pt b, .agg pc.toArray] K I (mL b s V m R) := by
  obtain ⟨v0, v1, rfl, h0, h1⟩ := hp
  refine cal151 ?_
  unfold sh151
  repeat' (first | (with_reducible refine drawC ?_) | (with_reducible refine drawW1 ?_) | (with_reducible refine drawW2 ?_) | (with_reducible refine keepC (by repeat (first | exact Ext.refl _ | assumption | refine Ext.trans ?_ (by assumption))) ?_) | (with_reducible refine newI (fun _ => ?_)) | ((with_reducible refine call ?_); refine (bcompare_spec hF.f0 h0 ?_)) | ((with_reducible refine call ?_); refine (bcompare_spec h1 hF.f1 ?_)) | first | (with_reducible refine rdb ?_) | ((with_reducible refine st1 ?_ ?_); rfl) | ((with_reducible refine rdB ?_ ?_); rfl) | (with_reducible refine rdbS ?_) | ((with_reducible refine rdBS ?_ ?_); rfl) | ((with_reducible refine stB ?_ ?_ ?_ ?_); rfl; rfl; exact one_all rfl) | ((with_reducible refine rdP _ rfl ?_ ?_); rfl) | ((with_reducible refine rdPS _ rfl ?_ ?_); rfl) | ((with_reducible refine stP _ rfl ?_ ?_ ?_ ?_); rfl; rfl; rfl) | (with_reducible refine unfE (sh151.eq_1 ..) ?_) | (with_reducible refine And.intro ?_ ?_) | (simp only [Bool.not_true, Bool.not_false, Bool.and_self, Bool.true_and, Int.reduceBEq, Int.reduceBNe, Int.reduceLT, Int.reduceLE, decide_true, decide_false, Br_true, Br_false, Gd_tt, Gd_ft, Gd_tf, Gd_ff, beq_self_eq_true, bne_self_eq_false]) | (with_reducible refine gd_split (fun _ => ?_) (fun _ => ?_)) | (with_reducible refine br_split (fun _ => ?_) (fun _ => ?_)) | (simp only [SSd, Nat.reduceAdd, Bytes.len h1, Bytes.len hF.f1]))
  all_goals (refine Gh.to (mL b s V m R) (Gh.done (leafB hk ?_)); rw [Bool.eq_iff_iff]; simp only [oursB, ← bcmp_gt, Bool.not_eq_true', Bool.and_eq_true, Bool.or_eq_true, decide_eq_true_eq, beq_iff_eq, ne_eq, decide_eq_false_iff_not, Bool.false_eq_true, iff_false, not_and, not_or, ge_iff_le, gt_iff_lt, true_iff, and_true, true_and, or_true, beq_eq_false_iff_ne, Bool.not_eq_false, iff_true] at *; omega)
end
end Go.Proofs.YtmmfcgbfbcamcaaGreatDoor
-- S3
set_option linter.unusedSimpArgs false
set_option linter.unusedVariables false
namespace Go.Proofs.YtmmfcgbfbcamcaaGreatDoor
open Go.SL
set_option maxRecDepth 10000
def SortS : Prop := ∀ (ω : Om) (I : Imm) (K : Value → M) (T : Nat) (X F : LH) (v : Value) (zs : List (List UInt8)), SlO T 1 X v (zs.map kstr) zs.length → zs.length ≤ 1000000000 →
  (∀ (X' : LH) (ys : List (List UInt8)), ys.Perm zs → ys.Pairwise (fun a b => blt b a = false) → SlO T 1 X' v (ys.map kstr) ys.length → K (.tuple #[]) I (X' ++ F)) → Cal Tryz.prog ω 180 #[v] K I (X ++ F)
theorem keys_uq {κ : Type} [DecidableEq κ] {lt : κ → κ → Bool} (ho : Ord κ lt) {a b : List κ} (hp : a.Perm b) (ha : a.Pairwise fun x y => lt y x = false) (hb : b.Pairwise fun x y => lt x y = true) : a = b := by
  have hna : a.Nodup := hp.nodup_iff.2 (hb.imp fun h => SrtA.ne ho h)
  have ha2 : a.Pairwise fun x y => lt x y = true := (ha.and hna).imp fun {x y} h => by
    cases hx : lt x y with
    | true => rfl
    | false => exact absurd (ho.tot _ _ hx h.1) h.2
  exact List.Perm.eq_of_pairwise (fun x y _ _ h1 h2 => by have := ho.tr _ _ _ h1 h2; rw [ho.irr] at this; cases this) ha2 hb hp
section
variable {ω : Om} {I : Imm} {L : LH} {K : Value → M} {b s : Nat} {V : MV} {m : Mch} {R : LH}
theorem lowAll_snoc {low : TMk} {l : AL (List UInt8) TMk} {q : List UInt8 × TMk} : lowAll low (l ++ [q]) = readK (lowAll low l) q.2.fAt q.2.fBy := by
  unfold lowAll; rw [List.foldl_append]; rfl
theorem mark5_spec {ba : Nat} {kv : Value} {k : List UInt8} {a : TStamp} {n : Int} (hF : MF I V m) (hB : Bytes I kv k) (hn : lkA m.marks k = none)
    (hk : ∀ V', MF I V' { m with marks := insA blt k (readK mk0 a n) m.marks } → K (.tuple #[]) I ((ba, .cells #[.int .i64 a.fWall, .int .i64 a.fLogic] 41 (0, 0)) :: mL b s V' { m with marks := insA blt k (readK mk0 a n) m.marks } R)) :
    sh150_5 ω (pt b) kv (.int .i64 n) (pt ba) K I ((ba, .cells #[.int .i64 a.fWall, .int .i64 a.fLogic] 41 (0, 0)) :: mL b s V m R) := by
  have hl : encM mv m.marks k = none := by unfold encM; rw [hn]; rfl
  repeat' (first | (with_reducible refine drawC ?_) | (with_reducible refine drawW1 ?_) | (with_reducible refine drawW2 ?_) | (with_reducible refine keepC (by repeat (first | exact Ext.refl _ | assumption | refine Ext.trans ?_ (by assumption))) ?_) | (with_reducible refine newI (fun _ => ?_)) | (with_reducible refine bs_I hB (Ext.refl _) ?_) | ((with_reducible refine lkTS hF.mks ?_); simp only [hl, lkV, if_true, if_false, Bool.false_eq_true]) | ((with_reducible refine call ?_); refine (mread_spec (k := mk0) (a := a) (n := n) ?_)) | ((with_reducible refine putAs (x := readK mk0 a n) hF.mks ?_ (fun e' c' hM' => Gh.done ?_)); rfl) | first | (with_reducible refine rdb ?_) | ((with_reducible refine st1 ?_ ?_); rfl) | ((with_reducible refine rdB ?_ ?_); rfl) | (with_reducible refine rdbS ?_) | ((with_reducible refine rdBS ?_ ?_); rfl) | ((with_reducible refine stB ?_ ?_ ?_ ?_); rfl; rfl; exact one_all rfl) | ((with_reducible refine rdP _ rfl ?_ ?_); rfl) | ((with_reducible refine rdPS _ rfl ?_ ?_); rfl) | ((with_reducible refine stP _ rfl ?_ ?_ ?_ ?_); rfl; rfl; rfl) | (with_reducible refine unfE (sh150_5.eq_1 ..) ?_) | (with_reducible refine unfE (sh150_4.eq_1 ..) ?_) | (with_reducible refine unfE (sh150_2.eq_1 ..) ?_) | (with_reducible refine unfE (sh150_1.eq_1 ..) ?_) | (with_reducible refine unfE (sh150_6.eq_1 ..) ?_) | (with_reducible refine unfE (sh150.eq_1 ..) ?_) | (with_reducible refine And.intro ?_ ?_) | (simp only [Bool.not_true, Bool.not_false, Bool.and_self, Bool.true_and, Int.reduceBEq, Int.reduceBNe, Int.reduceLT, Int.reduceLE, decide_true, decide_false, Br_true, Br_false, Gd_tt, Gd_ft, Gd_tf, Gd_ff, beq_self_eq_true, bne_self_eq_false]) | (with_reducible refine gd_split (fun _ => ?_) (fun _ => ?_)) | (with_reducible refine br_split (fun _ => ?_) (fun _ => ?_)) | (simp only [SSd, Nat.reduceAdd, hl, lkV, if_true, if_false, Bool.false_eq_true]))
  · exact hk { V with e1 := e', c1 := c' } { hF with mks := hM' }
theorem mark_spec {kv : Value} {k : List UInt8} {a : TStamp} {n : Int} (hS : fullB m k = true → SortS) (hF : MF I V m) (hm : SrtA blt m.marks) (hB : Bytes I kv k)
    (hk : ∀ V', MF I V' (markF m k a n) → K (.tuple #[]) I (mL b s V' (markF m k a n) R)) :
    Cal Tryz.prog ω 150 #[pt b, kv, sv a, .int .i64 n] K I (mL b s V m R) := by
  have hsz := hF.mks.sizeA hm
  refine cal150 ?_
  unfold sh150
  refine newI (fun ba => ?_)
  cases hx : lkA m.marks k with
  | some x =>
    have hl : encM mv m.marks k = some (mv x) := by unfold encM; rw [hx]; rfl
    have hf : fullB m k = false := by unfold fullB; rw [hx]; rfl
    have hmk : markF m k a n = { m with marks := insA blt k (readK x a n) m.marks } := by unfold markF room; rw [hf]; simp [hx]
    rw [hmk] at hk
    repeat' (first | (with_reducible refine drawC ?_) | (with_reducible refine drawW1 ?_) | (with_reducible refine drawW2 ?_) | (with_reducible refine keepC (by repeat (first | exact Ext.refl _ | assumption | refine Ext.trans ?_ (by assumption))) ?_) | (with_reducible refine newI (fun _ => ?_)) | (with_reducible refine bs_I hB (Ext.refl _) ?_) | ((with_reducible refine lkTS hF.mks ?_); simp only [hl, lkV, if_true, if_false, Bool.false_eq_true]) | ((with_reducible refine call ?_); refine (mread_spec (k := x) (a := a) (n := n) ?_)) | ((with_reducible refine putAs (x := readK x a n) hF.mks ?_ (fun e' c' hM' => Gh.done ?_)); rfl) | first | (with_reducible refine rdb ?_) | ((with_reducible refine st1 ?_ ?_); rfl) | ((with_reducible refine rdB ?_ ?_); rfl) | (with_reducible refine rdbS ?_) | ((with_reducible refine rdBS ?_ ?_); rfl) | ((with_reducible refine stB ?_ ?_ ?_ ?_); rfl; rfl; exact one_all rfl) | ((with_reducible refine rdP _ rfl ?_ ?_); rfl) | ((with_reducible refine rdPS _ rfl ?_ ?_); rfl) | ((with_reducible refine stP _ rfl ?_ ?_ ?_ ?_); rfl; rfl; rfl) | (with_reducible refine unfE (sh150_5.eq_1 ..) ?_) | (with_reducible refine unfE (sh150_4.eq_1 ..) ?_) | (with_reducible refine unfE (sh150_2.eq_1 ..) ?_) | (with_reducible refine unfE (sh150_1.eq_1 ..) ?_) | (with_reducible refine unfE (sh150_6.eq_1 ..) ?_) | (with_reducible refine unfE (sh150.eq_1 ..) ?_) | (with_reducible refine And.intro ?_ ?_) | (simp only [Bool.not_true, Bool.not_false, Bool.and_self, Bool.true_and, Int.reduceBEq, Int.reduceBNe, Int.reduceLT, Int.reduceLE, decide_true, decide_false, Br_true, Br_false, Gd_tt, Gd_ft, Gd_tf, Gd_ff, beq_self_eq_true, bne_self_eq_false]) | (with_reducible refine gd_split (fun _ => ?_) (fun _ => ?_)) | (with_reducible refine br_split (fun _ => ?_) (fun _ => ?_)) | (simp only [SSd, Nat.reduceAdd, hl, lkV, if_true, if_false, Bool.false_eq_true]))
    exact Gh.to (mL b s { V with e1 := e', c1 := c' } { m with marks := insA blt k (readK x a n) m.marks } R) (Gh.done (hk { V with e1 := e', c1 := c' } { hF with mks := hM' }))
  | none =>
    have hl : encM mv m.marks k = none := by unfold encM; rw [hx]; rfl
    have hfl : fullB m k = (m.marks.length == 32) := by unfold fullB; rw [hx]; rfl
    repeat' (first | (with_reducible refine drawC ?_) | (with_reducible refine drawW1 ?_) | (with_reducible refine drawW2 ?_) | (with_reducible refine keepC (by repeat (first | exact Ext.refl _ | assumption | refine Ext.trans ?_ (by assumption))) ?_) | (with_reducible refine newI (fun _ => ?_)) | (with_reducible refine bs_I hB (Ext.refl _) ?_) | ((with_reducible refine lkTS hF.mks ?_); simp only [hl, lkV, if_true, if_false, Bool.false_eq_true]) | (with_reducible refine lenm ?_) | ((with_reducible refine call ?_); refine (mread_spec (k := mk0) (a := a) (n := n) ?_)) | ((with_reducible refine putAs (x := readK mk0 a n) hF.mks ?_ (fun e' c' hM' => Gh.done ?_)); rfl) | first | (with_reducible refine rdb ?_) | ((with_reducible refine st1 ?_ ?_); rfl) | ((with_reducible refine rdB ?_ ?_); rfl) | (with_reducible refine rdbS ?_) | ((with_reducible refine rdBS ?_ ?_); rfl) | ((with_reducible refine stB ?_ ?_ ?_ ?_); rfl; rfl; exact one_all rfl) | ((with_reducible refine rdP _ rfl ?_ ?_); rfl) | ((with_reducible refine rdPS _ rfl ?_ ?_); rfl) | ((with_reducible refine stP _ rfl ?_ ?_ ?_ ?_); rfl; rfl; rfl) | (with_reducible refine unfE (sh150_5.eq_1 ..) ?_) | (with_reducible refine unfE (sh150_4.eq_1 ..) ?_) | (with_reducible refine unfE (sh150_2.eq_1 ..) ?_) | (with_reducible refine unfE (sh150_1.eq_1 ..) ?_) | (with_reducible refine unfE (sh150_6.eq_1 ..) ?_) | (with_reducible refine unfE (sh150.eq_1 ..) ?_) | (with_reducible refine And.intro ?_ ?_) | (simp only [Bool.not_true, Bool.not_false, Bool.and_self, Bool.true_and, Int.reduceBEq, Int.reduceBNe, Int.reduceLT, Int.reduceLE, decide_true, decide_false, Br_true, Br_false, Gd_tt, Gd_ft, Gd_tf, Gd_ff, beq_self_eq_true, bne_self_eq_false]) | (with_reducible refine gd_split (fun _ => ?_) (fun _ => ?_)) | (with_reducible refine br_split (fun _ => ?_) (fun _ => ?_)) | (simp only [SSd, Nat.reduceAdd, hl, lkV, if_true, if_false, Bool.false_eq_true, hsz]))
    · rename_i bx hlen
      have hlen : m.marks.length = 32 := by simp at hlen; omega
      have hf : fullB m k = true := by rw [hfl, hlen]; rfl
      have hS := hS hf
      have hroom : room m k = { m with marks := [], low := lowAll m.low m.marks } := by unfold room; rw [if_pos hf]
      have hmk : markF m k a n = { m with marks := insA blt k (readK mk0 a n) [], low := lowAll m.low m.marks } := by unfold markF; rw [hroom]; rfl
      rw [hmk] at hk
      refine call (kgetM (fun qm => ?_))
      refine call ?_
      refine cal126 ?_
      unfold sh126
      refine call (kcolM hF.mks (by simp [hsz, hlen]) (.inl (by simp)) (fun X v vis hvp hO => ?_))
      have hO' : SlO 9 1 X v ((vis.map eKey).map kstr) (vis.map eKey).length := by simpa using hO
      have hpk := (hvp.map eKey).trans (hF.mks.keysA hm)
      have hvl : (vis.map eKey).length = 32 := by rw [hpk.length_eq]; simp [hlen]
      refine call (hS _ _ _ _ _ _ _ _ hO' (by omega) (fun X' ys hp hpw hO2 => ?_))
      have hys : ys = m.marks.map (·.1) := keys_uq bltO (hp.trans hpk) hpw (List.pairwise_map.2 hm)
      subst hys
      rw [List.length_map, hlen] at hO2
      obtain ⟨sa, scap, rfl⟩ := hO2.form
      refine Gh.done ?_
      try simp only [SSd, Nat.reduceAdd]
      refine loop (fun n' (s' : Value × Unit) I' L' => I' = I ∧ ∃ (i : Nat), n' + i = 32 ∧ s' = (.int .i64 i, ()) ∧ L' = X' ++ ((bx, .cells #[.int .i64 0, .int .i64 0, .int .i64 0] 159 (0, 0)) :: (ba, .cells #[.int .i64 a.fWall, .int .i64 a.fLogic] 41 (0, 0)) :: mL b s V { m with low := lowAll m.low (m.marks.take i) } R)) 32 ⟨rfl, 0, rfl, rfl, rfl⟩ ?_
      rintro n' s' I' L' ⟨rfl, i, hn, rfl, rfl⟩
      unfold sh150_2
      try simp only [SSd, Nat.reduceAdd]
      refine br_split (fun e => ?_) (fun e => ?_)
      · have hi : i < m.marks.length := by simp at e; omega
        obtain ⟨bq, hix, hcq⟩ := hO2.ix .i64 (i := i) (by omega)
        have hcq1 := hcq I' (X' ++ ((bx, .cells #[.int .i64 0, .int .i64 0, .int .i64 0] 159 (0, 0)) :: (ba, .cells #[.int .i64 a.fWall, .int .i64 a.fLogic] 41 (0, 0)) :: mL b s V { m with low := lowAll m.low (m.marks.take i) } R)) (fun x hx => List.mem_append_left _ hx) 0 (kstr m.marks[i].1) (by simp [hi])
        have hq : lkA m.marks m.marks[i].1 = some m.marks[i].2 := lkA_of bltO hm (List.getElem_mem hi)
        have hlq : encM mv m.marks m.marks[i].1 = some (mv m.marks[i].2) := by unfold encM; rw [hq]; rfl
        have htk : lowAll m.low (m.marks.take (i + 1)) = readK (lowAll m.low (m.marks.take i)) m.marks[i].2.fAt m.marks[i].2.fBy := by rw [take_snoc hi, lowAll_snoc]
        simp only [hix, SSd, Nat.reduceAdd]
        refine rd1 (by simpa using hcq1) ?_
        try simp only [SSd, Nat.reduceAdd]
        refine rdb ?_
        refine lkT hF.mks ?_
        simp only [hlq, lkV, Bool.false_eq_true, if_false]
        refine newI (fun bk => ?_)
        refine stB rfl rfl (one_all rfl) ?_
        refine drawC ?_
        try simp only [SSd, Nat.reduceAdd]
        refine rdPS [.int .i64 (lowAll m.low (m.marks.take i)).fAt.fWall, .int .i64 (lowAll m.low (m.marks.take i)).fAt.fLogic, .int .i64 (lowAll m.low (m.marks.take i)).fBy] rfl rfl ?_
        try simp only [SSd, Nat.reduceAdd]
        refine rdPS [.int .i64 m.marks[i].2.fAt.fWall, .int .i64 m.marks[i].2.fAt.fLogic] rfl rfl ?_
        try simp only [SSd, Nat.reduceAdd]
        refine rdbS ?_
        refine call (mread_spec (k := lowAll m.low (m.marks.take i)) (a := m.marks[i].2.fAt) (n := m.marks[i].2.fBy) ?_)
        try simp only [SSd, Nat.reduceAdd]
        rw [← htk, wrap_i64 _ (by omega)]
        refine stP [V.v0, V.v1, pt s, .map (some V.km), .int .i64 (lowAll m.low (m.marks.take (i + 1))).fAt.fWall, .int .i64 (lowAll m.low (m.marks.take (i + 1))).fAt.fLogic, .int .i64 (lowAll m.low (m.marks.take (i + 1))).fBy, .map (some V.rc), .map (some V.sn), .int .i64 m.oldest, V.kv] rfl rfl rfl rfl ?_
        try simp only [SSd, Nat.reduceAdd]
        exact Gh.to (X' ++ ((bx, .cells #[.int .i64 0, .int .i64 0, .int .i64 0] 159 (0, 0)) :: (ba, .cells #[.int .i64 a.fWall, .int .i64 a.fLogic] 41 (0, 0)) :: mL b s V { m with low := lowAll m.low (m.marks.take (i + 1)) } R)) (Gh.done ⟨n' - 1, by omega, rfl, i + 1, by omega, rfl, rfl⟩)
      · have hi : i = m.marks.length := by simp at e; omega
        rw [hi, List.take_length]
        unfold sh150_4
        refine newm (fun m2 => ?_)
        refine Gh.to ((m2, .map #[] 0) :: (ba, .cells #[.int .i64 a.fWall, .int .i64 a.fLogic] 41 (0, 0)) :: mL b s V { m with low := lowAll m.low m.marks } R) (Gh.done ?_)
        try simp only [SSd, Nat.reduceAdd]
        refine st1G rfl ?_
        refine Gh.to ((ba, .cells #[.int .i64 a.fWall, .int .i64 a.fLogic] 41 (0, 0)) :: mL b s { V with km := m2, e1 := #[], c1 := 0 } { m with marks := [], low := lowAll m.low m.marks } R) (Gh.done ?_)
        refine mark5_spec (V := { V with km := m2, e1 := #[], c1 := 0 }) (m := { m with marks := [], low := lowAll m.low m.marks }) { hF with mks := MapS.empty } hB rfl (fun V' hV' => ?_)
        exact Gh.to (mL b s V' { m with marks := insA blt k (readK mk0 a n) [], low := lowAll m.low m.marks } R) (Gh.done (hk V' hV'))
    · rename_i hlen
      have hf : fullB m k = false := by rw [hfl]; simp at hlen ⊢; omega
      have hmk : markF m k a n = { m with marks := insA blt k (readK mk0 a n) m.marks } := by unfold markF room; rw [hf]; simp [hx]
      rw [hmk] at hk
      exact Gh.to (mL b s { V with e1 := e', c1 := c' } { m with marks := insA blt k (readK mk0 a n) m.marks } R) (Gh.done (hk { V with e1 := e', c1 := c' } { hF with mks := hM' }))
end
end Go.Proofs.YtmmfcgbfbcamcaaGreatDoor
-- S3
set_option linter.unusedSimpArgs false
set_option linter.unusedVariables false
namespace Go.Proofs.YtmmfcgbfbcamcaaGreatDoor
open Go.SL
set_option maxRecDepth 10000
def MchR (I : Imm) (b : Nat) (X : LH) (m : Mch) : Prop := ∃ s V SX, X.Perm (mL b s V m SX) ∧ MF I V m ∧ SpR I s SX m.sp m.nt
theorem MchR.mono {I I' : Imm} {b : Nat} {X : LH} {m : Mch} (h : MchR I b X m) (hI : Ext I I') : MchR I' b X m := by
  obtain ⟨s, V, SX, h1, h2, h3⟩ := h
  exact ⟨s, V, SX, h1, h2.mono hI, h3.mono hI⟩
def PostK (K : Value → M) (b : Nat) (F : LH) (I : Imm) (r : TRes) (m' : Mch) : Prop := ∀ I' X' cells, Ext I I' → MchR I' b X' m' → TResV I' r cells → K (.agg cells.toArray) I' (X' ++ F)
theorem PostK.go {K : Value → M} {b s : Nat} {V : MV} {SX F : LH} {I I' : Imm} {r : TRes} {m : Mch} {cells : List Value} (h : PostK K b F I r m) (hI : Ext I I') (hF : MF I' V m) (hS : SpR I' s SX m.sp m.nt) (hr : TResV I' r cells) : K (.agg cells.toArray) I' (mL b s V m (SX ++ F)) :=
  h I' (mL b s V m SX) cells hI ⟨s, V, SX, List.Perm.refl _, hF, hS⟩ hr
theorem vers_le : ∀ {rows : List Row} {n : Nat}, versN rows ≤ n → ∀ r ∈ rows, r.vs.length ≤ n
  | x :: rows, n, h, r, hr => by
    have e : versN (x :: rows) = x.vs.length + versN rows := by simp [versN]
    rcases List.mem_cons.1 hr with rfl | hr
    · omega
    · exact vers_le (rows := rows) (n := n) (by omega) r hr
theorem markF_sp (m : Mch) (k : List UInt8) (a : TStamp) (n : Int) : (markF m k a n).sp = m.sp ∧ (markF m k a n).nt = m.nt := by
  unfold markF room; split <;> exact ⟨rfl, rfl⟩
theorem seeF_sp (m : Mch) (c : TCmd) (e : Int) (a : TStamp) : (seeF m c e a).sp = m.sp ∧ (seeF m c e a).nt = m.nt := by
  unfold seeF; split <;> exact ⟨rfl, rfl⟩
theorem sq_le {N : Nat} (h : N ≤ 10000) : N * N ≤ 100000000 := Nat.mul_le_mul h h
section
variable {ω : Om} {I : Imm} {L : LH} {K : Value → M} {b s N : Nat} {V : MV} {m : Mch} {SX F : LH} {c : TCmd} {cc : List Value}
theorem getc_spec (hM : MOk m N) (hN : N ≤ 10000) (hS : fullB m c.fKey = true → SortS) (hF : MF I V m) (hSp : SpR I s SX m.sp m.nt) (hc : TCmdV I c cc) (hk : PostK K b F I (getM m c).1 (getM m c).2) :
    Cal Tryz.prog ω 94 #[pt b, .agg cc.toArray] K I (mL b s V m (SX ++ F)) := by
  have h1 := hM.vers
  have h2 := sq_le hN
  have h3 := hM.rows
  have hvs : ∀ r ∈ m.sp.rows, r.vs.length ≤ 1000000000 := vers_le (by omega)
  obtain ⟨w0, w1, w2, w3, rfl, g0, g1, g2, g3⟩ := hc
  refine cal94 ?_
  unfold sh94
  refine newI (fun b1 => newI (fun b2 => ?_))
  repeat' (first | (with_reducible refine drawC ?_) | (with_reducible refine drawW1 ?_) | (with_reducible refine drawW2 ?_) | (with_reducible refine keepC (by repeat (first | exact Ext.refl _ | assumption | refine Ext.trans ?_ (by assumption))) ?_) | (with_reducible refine newI (fun _ => ?_)) | ((with_reducible refine call ?_); refine (pholds_spec (p := m.span) ⟨_, _, rfl, hF.f0, hF.f1⟩ g0 ?_)) | ((with_reducible refine call ?_); refine (failed_spec ?_)) | (((with_reducible refine call ?_); refine (get_spec (sp := m.sp) (k := c.fKey) (m := c.fAt) (txn := c.fTxn) (hSp.view (fun x hx => by simp [hx])) hM.sp.rise hvs g0 (fun I1 u1 hI1 hB1 => ?_))); obtain ⟨ua, uc, rfl⟩ := Bytes.form hB1) | ((with_reducible refine call ?_); refine (calM b V (mark_spec hS (hF.mono hI1) hM.marks (g0.mono hI1) (fun V1 hF1 => ?_)))) | first | (with_reducible refine rdb ?_) | ((with_reducible refine st1 ?_ ?_); rfl) | ((with_reducible refine rdB ?_ ?_); rfl) | (with_reducible refine rdbS ?_) | ((with_reducible refine rdBS ?_ ?_); rfl) | ((with_reducible refine stB ?_ ?_ ?_ ?_); rfl; rfl; exact one_all rfl) | ((with_reducible refine rdP _ rfl ?_ ?_); rfl) | ((with_reducible refine rdPS _ rfl ?_ ?_); rfl) | ((with_reducible refine stP _ rfl ?_ ?_ ?_ ?_); rfl; rfl; rfl) | (with_reducible refine unfE (sh94_1.eq_1 ..) ?_) | (with_reducible refine unfE (sh94.eq_1 ..) ?_) | (with_reducible refine And.intro ?_ ?_) | (simp only [Bool.not_true, Bool.not_false, Bool.and_self, Bool.true_and, Int.reduceBEq, Int.reduceBNe, Int.reduceLT, Int.reduceLE, decide_true, decide_false, Br_true, Br_false, Gd_tt, Gd_ft, Gd_tf, Gd_ff, beq_self_eq_true, bne_self_eq_false]) | (with_reducible refine gd_split (fun _ => ?_) (fun _ => ?_)) | (with_reducible refine br_split (fun _ => ?_) (fun _ => ?_)) | (simp only [SSd, Nat.reduceAdd]))
  · have e : getM m c = (failR 141, m) := by unfold getM; rw [if_pos (by first | (simp_all; done) | (simp_all; omega) | omega)]
    rw [e] at hk
    exact Gh.to (mL b s V m (SX ++ F)) (Gh.done (hk.go (Ext.refl _) hF hSp (rv_V ..)))
  all_goals first
    | (have e : getM m c = (⟨(getF m.sp c.fKey c.fAt c.fTxn).2, gotN, [], z0, (getF m.sp c.fKey c.fAt c.fTxn).1.fBy, 0⟩, m) := by unfold getM; rw [if_neg (by first | (simp_all; done) | (simp_all; omega) | omega), if_pos (by first | (simp_all; done) | (simp_all; omega) | omega)]
       rw [e] at hk
       exact Gh.to (mL b s V m (SX ++ F)) (Gh.done (hk.go hI1 (hF.mono hI1) (hSp.mono hI1) (rv_V ..))))
    | (have e : getM m c = (⟨0, (getF m.sp c.fKey c.fAt c.fTxn).1, [], z0, 0, 0⟩, markF m c.fKey c.fAt c.fTxn) := by unfold getM; rw [if_neg (by first | (simp_all; done) | (simp_all; omega) | omega), if_neg (by first | (simp_all; done) | (simp_all; omega) | omega)]
       rw [e] at hk
       exact Gh.to (mL b s V1 (markF m c.fKey c.fAt c.fTxn) (SX ++ F)) (Gh.done (hk.go hI1 hF1 (by rw [(markF_sp ..).1, (markF_sp ..).2]; exact hSp.mono hI1) ⟨_, _, rfl, hB1, RL.nil none 0⟩)))
theorem scanc_spec (hM : MOk m N) (hN : N ≤ 10000) (hF : MF I V m) (hSp : SpR I s SX m.sp m.nt) (hc : TCmdV I c cc) (hk : PostK K b F I (scanM m c).1 (scanM m c).2) :
    Cal Tryz.prog ω 95 #[pt b, .agg cc.toArray] K I (mL b s V m (SX ++ F)) := by
  have h1 := hM.vers
  have h2 := sq_le hN
  have h3 := hM.rows
  have hvs : ∀ r ∈ m.sp.rows, r.vs.length ≤ 1000000000 := vers_le (by omega)
  obtain ⟨w0, w1, w2, w3, rfl, g0, g1, g2, g3⟩ := hc
  refine cal95 ?_
  unfold sh95
  refine newI (fun b1 => newI (fun b2 => ?_))
  repeat' (first | (with_reducible refine drawC ?_) | (with_reducible refine drawW1 ?_) | (with_reducible refine drawW2 ?_) | (with_reducible refine keepC (by repeat (first | exact Ext.refl _ | assumption | refine Ext.trans ?_ (by assumption))) ?_) | (with_reducible refine newI (fun _ => ?_)) | ((with_reducible refine call ?_); refine (calM b V (ours_spec hF (p := c.fSpan) ⟨_, _, rfl, g2, g3⟩ ?_))) | ((with_reducible refine call ?_); refine (failed_spec ?_)) | (((with_reducible refine call ?_); refine (scan_spec (sp := m.sp) (p := c.fSpan) (m := c.fAt) (txn := c.fTxn) (most := c.fMost) (hSp.view (fun x hx => by simp [hx])) hM.sp.rise (by omega) hvs ⟨_, _, rfl, g2, g3⟩ (fun I1 u1 hI1 hB1 => ?_))); obtain ⟨ua, uc, rfl⟩ := RL.form hB1) | ((with_reducible refine call ?_); refine (mread_spec (k := m.low) (a := c.fAt) (n := c.fTxn) ?_)) | first | (with_reducible refine rdb ?_) | ((with_reducible refine st1 ?_ ?_); rfl) | ((with_reducible refine rdB ?_ ?_); rfl) | (with_reducible refine rdbS ?_) | ((with_reducible refine rdBS ?_ ?_); rfl) | ((with_reducible refine stB ?_ ?_ ?_ ?_); rfl; rfl; exact one_all rfl) | ((with_reducible refine rdP _ rfl ?_ ?_); rfl) | ((with_reducible refine rdPS _ rfl ?_ ?_); rfl) | ((with_reducible refine stP _ rfl ?_ ?_ ?_ ?_); rfl; rfl; rfl) | (with_reducible refine unfE (sh95.eq_1 ..) ?_) | (with_reducible refine And.intro ?_ ?_) | (simp only [Bool.not_true, Bool.not_false, Bool.and_self, Bool.true_and, Int.reduceBEq, Int.reduceBNe, Int.reduceLT, Int.reduceLE, decide_true, decide_false, Br_true, Br_false, Gd_tt, Gd_ft, Gd_tf, Gd_ff, beq_self_eq_true, bne_self_eq_false]) | (with_reducible refine gd_split (fun _ => ?_) (fun _ => ?_)) | (with_reducible refine br_split (fun _ => ?_) (fun _ => ?_)) | (simp only [SSd, Nat.reduceAdd]))
  · have e : scanM m c = (failR 141, m) := by unfold scanM; rw [if_pos (by first | (simp_all; done) | (simp_all; omega) | omega)]
    rw [e] at hk
    exact Gh.to (mL b s V m (SX ++ F)) (Gh.done (hk.go (Ext.refl _) hF hSp (rv_V ..)))
  · have e : scanM m c = (⟨(scanF m.sp c.fSpan c.fAt c.fTxn c.fMost).2.2, gotN, [], z0, (scanF m.sp c.fSpan c.fAt c.fTxn c.fMost).2.1, 0⟩, m) := by unfold scanM; rw [if_neg (by first | (simp_all; done) | (simp_all; omega) | omega), if_pos (by first | (simp_all; done) | (simp_all; omega) | omega)]
    rw [e] at hk
    exact Gh.to (mL b s V m (SX ++ F)) (Gh.done (hk.go hI1 (hF.mono hI1) (hSp.mono hI1) (rv_V ..)))
  · have e : scanM m c = (⟨0, gotN, (scanF m.sp c.fSpan c.fAt c.fTxn c.fMost).1, z0, 0, 0⟩, { m with low := readK m.low c.fAt c.fTxn }) := by unfold scanM; rw [if_neg (by first | (simp_all; done) | (simp_all; omega) | omega), if_neg (by first | (simp_all; done) | (simp_all; omega) | omega)]
    rw [e] at hk
    exact Gh.to (mL b s V { m with low := readK m.low c.fAt c.fTxn } (SX ++ F)) (Gh.done (hk.go hI1 { hF.mono hI1 with } (hSp.mono hI1) ⟨_, _, rfl, SlI.nil I1 1 none 0, hB1⟩))
theorem collectc_spec (hM : MOk m N) (hN : N ≤ 10000) (hF : MF I V m) (hSp : SpR I s SX m.sp m.nt) (hc : TCmdV I c cc) (hk : PostK K b F I (colM m c).1 (colM m c).2) :
    Cal Tryz.prog ω 103 #[pt b, .agg cc.toArray] K I (mL b s V m (SX ++ F)) := by
  have h1 := hM.vers
  have h2 := sq_le hN
  have h3 := hM.rows
  obtain ⟨w0, w1, w2, w3, rfl, g0, g1, g2, g3⟩ := hc
  refine cal103 ?_
  unfold sh103
  refine newI (fun b1 => newI (fun b2 => ?_))
  repeat' (first | (with_reducible refine drawC ?_) | (with_reducible refine drawW1 ?_) | (with_reducible refine drawW2 ?_) | (with_reducible refine keepC (by repeat (first | exact Ext.refl _ | assumption | refine Ext.trans ?_ (by assumption))) ?_) | (with_reducible refine newI (fun _ => ?_)) | ((with_reducible refine call ?_); refine (failed_spec ?_)) | ((with_reducible refine call ?_); refine (Cal.split SX (collect_spec (below := c.fAt) hSp hM.sp (by omega) (by omega) (fun X1 I1 hI1 hS1 => ?_)))) | first | (with_reducible refine rdb ?_) | ((with_reducible refine st1 ?_ ?_); rfl) | ((with_reducible refine rdB ?_ ?_); rfl) | (with_reducible refine rdbS ?_) | ((with_reducible refine rdBS ?_ ?_); rfl) | ((with_reducible refine stB ?_ ?_ ?_ ?_); rfl; rfl; exact one_all rfl) | ((with_reducible refine rdP _ rfl ?_ ?_); rfl) | ((with_reducible refine rdPS _ rfl ?_ ?_); rfl) | ((with_reducible refine stP _ rfl ?_ ?_ ?_ ?_); rfl; rfl; rfl) | (with_reducible refine unfE (sh103.eq_1 ..) ?_) | (with_reducible refine And.intro ?_ ?_) | (simp only [Bool.not_true, Bool.not_false, Bool.and_self, Bool.true_and, Int.reduceBEq, Int.reduceBNe, Int.reduceLT, Int.reduceLE, decide_true, decide_false, Br_true, Br_false, Gd_tt, Gd_ft, Gd_tf, Gd_ff, beq_self_eq_true, bne_self_eq_false]) | (with_reducible refine gd_split (fun _ => ?_) (fun _ => ?_)) | (with_reducible refine br_split (fun _ => ?_) (fun _ => ?_)) | (simp only [SSd, Nat.reduceAdd]))
  exact Gh.to (mL b s V { m with sp := colS m.sp c.fAt, nt := colN m.sp c.fAt m.nt } (X1 ++ F)) (Gh.done (hk.go hI1 { hF.mono hI1 with } hS1 (rv_V ..)))
abbrev lowM (m : Mch) (c : TCmd) : Mch := { m with low := readK m.low c.fTo c.fTxn }
theorem refM_again {r : TRes} (h0 : oursB m.span c.fSpan = true) (e : againF m c = some r) : refM m c = (r, m) := by unfold refM; rw [if_neg (by simp [h0]), e]
theorem refresh_spec (hM : MOk m N) (hN : N ≤ 10000) (hF : MF I V m) (hSp : SpR I s SX m.sp m.nt) (hc : TCmdV I c cc) (hk : PostK K b F I (refM m c).1 (refM m c).2) :
    Cal Tryz.prog ω 97 #[pt b, .agg cc.toArray] K I (mL b s V m (SX ++ F)) := by
  have h1 := hM.vers
  have h2 := sq_le hN
  have h3 := hM.rows
  have hvs : ∀ r ∈ m.sp.rows, r.vs.length ≤ 1000000000 := vers_le (by omega)
  have hc' := hc
  obtain ⟨w0, w1, w2, w3, rfl, g0, g1, g2, g3⟩ := hc
  have hcm := scmp_neg c.fTo c.fAt
  have hF0 : MF I V (lowM m c) := { hF with }
  refine cal97 ?_
  unfold sh97
  refine newI (fun b1 => newI (fun b2 => ?_))
  repeat' (first | (with_reducible refine drawC ?_) | (with_reducible refine drawW1 ?_) | (with_reducible refine drawW2 ?_) | (with_reducible refine keepC (by repeat (first | exact Ext.refl _ | assumption | refine Ext.trans ?_ (by assumption))) ?_) | (with_reducible refine newI (fun _ => ?_)) | ((with_reducible refine call ?_); refine (calM b V (ours_spec hF (p := c.fSpan) ⟨_, _, rfl, g2, g3⟩ ?_))) | ((with_reducible refine call ?_); refine (failed_spec ?_)) | ((with_reducible refine call ?_); refine (calM b V (again_spec hF hc' (fun e a ha => ?_) (fun ha => ?_)))) | ((with_reducible refine call ?_); refine (hcompare_spec (x := c.fTo) (y := c.fAt) ?_)) | ((with_reducible refine call ?_); refine (changed_spec (sp := m.sp) (p := c.fSpan) (fr := c.fAt) (to := c.fTo) (txn := c.fTxn) (hSp.view (fun x hx => by simp [hx])) hM.sp.rise (by omega) hvs ⟨_, _, rfl, g2, g3⟩ ?_)) | ((with_reducible refine call ?_); refine (mread_spec (k := m.low) (a := c.fTo) (n := c.fTxn) ?_)) | ((with_reducible refine call ?_); refine (calM b V (see_spec (m := lowM m c) (e := 0) (a := z0) (n := 0) (s' := 0) hF0 hM.seen hM.seenL hc' (fun V2 hF2 => ?_)))) | first | (with_reducible refine rdb ?_) | ((with_reducible refine st1 ?_ ?_); rfl) | ((with_reducible refine rdB ?_ ?_); rfl) | (with_reducible refine rdbS ?_) | ((with_reducible refine rdBS ?_ ?_); rfl) | ((with_reducible refine stB ?_ ?_ ?_ ?_); rfl; rfl; exact one_all rfl) | ((with_reducible refine rdP _ rfl ?_ ?_); rfl) | ((with_reducible refine rdPS _ rfl ?_ ?_); rfl) | ((with_reducible refine stP _ rfl ?_ ?_ ?_ ?_); rfl; rfl; rfl) | (with_reducible refine unfE (sh97.eq_1 ..) ?_) | (with_reducible refine And.intro ?_ ?_) | (simp only [Bool.not_true, Bool.not_false, Bool.and_self, Bool.true_and, Int.reduceBEq, Int.reduceBNe, Int.reduceLT, Int.reduceLE, decide_true, decide_false, Br_true, Br_false, Gd_tt, Gd_ft, Gd_tf, Gd_ff, beq_self_eq_true, bne_self_eq_false]) | (with_reducible refine gd_split (fun _ => ?_) (fun _ => ?_)) | (with_reducible refine br_split (fun _ => ?_) (fun _ => ?_)) | (simp only [SSd, Nat.reduceAdd]))
  · have e : refM m c = (failR 141, m) := by unfold refM; rw [if_pos (by first | (simp_all; done) | (simp_all; omega) | omega)]
    rw [e] at hk
    exact Gh.to (mL b s V m (SX ++ F)) (Gh.done (hk.go (Ext.refl _) hF hSp (rv_V ..)))
  · rename_i ho _
    rw [refM_again (by first | (simp_all; done) | (simp_all; omega) | omega) ha] at hk
    exact Gh.to (mL b s V m (SX ++ F)) (Gh.done (hk.go (Ext.refl _) hF hSp (rv_V ..)))
  · rename_i ho _ e1
    have e : refM m c = (failR 1, m) := by unfold refM; rw [if_neg (by first | (simp_all; done) | (simp_all; omega) | omega), ha]; simp only; rw [if_pos (by rw [← hcm]; exact e1)]
    rw [e] at hk
    exact Gh.to (mL b s V m (SX ++ F)) (Gh.done (hk.go (Ext.refl _) hF hSp (rv_V ..)))
  · rename_i ho _ e1 e2
    have e : refM m c = (failR (chF m.sp c.fSpan c.fAt c.fTo c.fTxn).2, m) := by unfold refM; rw [if_neg (by first | (simp_all; done) | (simp_all; omega) | omega), ha]; simp only; rw [if_neg (by rw [← hcm, e1]; simp), if_pos (by simpa using e2)]
    rw [e] at hk
    exact Gh.to (mL b s V m (SX ++ F)) (Gh.done (hk.go (Ext.refl _) hF hSp (rv_V ..)))
  · rename_i ho _ e1 e2 e3
    have e : refM m c = (failR 144, m) := by unfold refM; rw [if_neg (by first | (simp_all; done) | (simp_all; omega) | omega), ha]; simp only; rw [if_neg (by rw [← hcm, e1]; simp), if_neg (by simpa using e2), if_pos e3]
    rw [e] at hk
    exact Gh.to (mL b s V m (SX ++ F)) (Gh.done (hk.go (Ext.refl _) hF hSp (rv_V ..)))
  · rename_i ho _ e1 e2 e3
    have e : refM m c = (okR, seeF (lowM m c) c 0 z0) := by unfold refM; rw [if_neg (by first | (simp_all; done) | (simp_all; omega) | omega), ha]; simp only; rw [if_neg (by rw [← hcm, e1]; simp), if_neg (by simpa using e2), if_neg (by rw [e3]; simp)]
    rw [e] at hk
    exact Gh.to (mL b s V2 (seeF (lowM m c) c 0 z0) (SX ++ F)) (Gh.done (hk.go (Ext.refl _) hF2 (by rw [(seeF_sp ..).1, (seeF_sp ..).2]; exact hSp) (rv_V ..)))
theorem putM_again {r : TRes} (h0 : inB m.span c.fKey = true) (e : againF m c = some r) : putM m c = (r, m) := by unfold putM; rw [if_neg (by simp [h0]), e]
theorem putM_l1 (h0 : inB m.span c.fKey = true) (e : againF m c = none) (h : (lift1 m c).2 ≠ 0) : putM m c = (failR (lift1 m c).2, m) := by unfold putM; rw [if_neg (by simp [h0]), e]; simp only; rw [if_pos h]
theorem putM_low {W : TStamp} (h0 : inB m.span c.fKey = true) (e : againF m c = none) (h : lift1 m c = (W, 0)) (h2 : (liftK m.low W c.fTxn).2 ≠ 0) : putM m c = (failR (liftK m.low W c.fTxn).2, m) := by
  unfold putM; rw [if_neg (by simp [h0]), e]; simp only; rw [h, if_neg (by simp), if_pos h2]
abbrev putMm (m : Mch) (c : TCmd) (W : TStamp) : Mch := { m with sp := putS m.sp (putIn c (liftK m.low W c.fTxn).1), nt := putN m.sp (putIn c (liftK m.low W c.fTxn).1) m.nt }
theorem putM_fin {W : TStamp} (h0 : inB m.span c.fKey = true) (e : againF m c = none) (h : lift1 m c = (W, 0)) (h2 : (liftK m.low W c.fTxn).2 = 0) : putM m c =
    (⟨(putA m.sp (putIn c (liftK m.low W c.fTxn).1)).2.2, gotN, [], (putA m.sp (putIn c (liftK m.low W c.fTxn).1)).1, (putA m.sp (putIn c (liftK m.low W c.fTxn).1)).2.1, 0⟩,
      if (putA m.sp (putIn c (liftK m.low W c.fTxn).1)).2.2 = 0 then seeF (putMm m c W) c (putA m.sp (putIn c (liftK m.low W c.fTxn).1)).2.2 (putA m.sp (putIn c (liftK m.low W c.fTxn).1)).1 else putMm m c W) := by
  unfold putM; rw [if_neg (by simp [h0]), e]; simp only; rw [h, if_neg (by simp), if_neg (by simp [h2])]
  congr 1
  split
  · rename_i h3; rw [h3]
  · rfl
theorem drawX (SX : LH) {R : LH} [h : SplitL SX L R] {B : M → M} (hB : B (Stay I R) I L) : Draw B I L := draw _ ⟨Ext.refl I, fun x hx => h.perm.mem_iff.2 (List.mem_append_right _ hx)⟩ hB
theorem put1_spec {p8 : Value} {W : TStamp} {bk bw bo b2 b1 : Nat} {ok oo : Obj} {w0 w1 w2 w3 : Value} (hM : MOk m N) (hN : N ≤ 10000) (hF : MF I V m) (hSp : SpR I s SX m.sp m.nt) (g0 : Bytes I w0 c.fKey) (g1 : Bytes I w1 c.fValue) (g2 : Bytes I w2 c.fSpan.fFrom) (g3 : Bytes I w3 c.fSpan.fTo)
    (hi : inB m.span c.fKey = true) (ha : againF m c = none) (hW : lift1 m c = (W, 0)) (hk : PostK K b F I (putM m c).1 (putM m c).2) :
    sh96_1 ω (pt b) (pt b1) (pt b2) (pt bw) p8 (fun v => Gh (K v)) I ((bk, ok) :: (bw, .cells #[.int .i64 W.fWall, .int .i64 W.fLogic] 41 (0, 0)) :: (bo, oo) :: mL b s V m
      ((b2, .cells #[.int .i64 0, .bool false, .slice none 0 0, .int .i64 0, .int .i64 0, .int .i64 0, .slice none 0 0, .int .i64 0, .int .i64 0, .int .i64 0, .int .i64 0] 52 (0, 0)) ::
      (b1, .cells #[.int .i64 c.fKind, .int .i64 c.fTxn, .int .i64 c.fSeq, .int .i64 c.fAt.fWall, .int .i64 c.fAt.fLogic, .int .i64 c.fTo.fWall, .int .i64 c.fTo.fLogic, .int .i64 c.fBy, .bool c.fYes, .bool c.fDel, w0, w1, w2, w3, .int .i64 c.fMost] 56 (0, 0)) :: (SX ++ F))) := by
  have h1 := hM.vers
  have h2 := sq_le hN
  have h3 := hM.rows
  have hvs : ∀ r ∈ m.sp.rows, r.vs.length ≤ 100000000 := vers_le (by omega)
  have hF0 : ∀ W I', Ext I I' → MF I' V (putMm m c W) := fun W I' hI => { hF.mono hI with }
  have hc' : TCmdV I c _ := ⟨w0, w1, w2, w3, rfl, g0, g1, g2, g3⟩
  obtain ⟨wa0, wc0, rfl⟩ := Bytes.form g0
  obtain ⟨wa1, wc1, rfl⟩ := Bytes.form g1
  repeat' (first | (with_reducible refine drawX SX ?_) | (with_reducible refine drawW1 ?_) | (with_reducible refine drawW2 ?_) | (with_reducible refine keepC (by repeat (first | exact Ext.refl _ | assumption | refine Ext.trans ?_ (by assumption))) ?_) | (with_reducible refine newI (fun _ => ?_)) | ((with_reducible refine call ?_); refine (failed_spec ?_)) | ((with_reducible refine call ?_); refine (mlift_spec (k := m.low) (w := W) (n := c.fTxn) ?_)) | ((with_reducible refine call ?_); refine (Cal.split SX (put_spec (x := putIn c (liftK m.low W c.fTxn).1) hSp hM.sp (by omega) hvs ⟨_, _, rfl, g0, g1⟩ (fun X1 I1 hI1 hS1 => ?_)))) | ((with_reducible refine call ?_); refine (calM b V (see_spec (m := putMm m c W) (e := (putA m.sp (putIn c (liftK m.low W c.fTxn).1)).2.2) (a := (putA m.sp (putIn c (liftK m.low W c.fTxn).1)).1) (n := (putA m.sp (putIn c (liftK m.low W c.fTxn).1)).2.1) (s' := 0) (hF0 W I1 hI1) hM.seen hM.seenL (hc'.mono hI1) (fun V2 hF2 => ?_)))) | first | (with_reducible refine rdb ?_) | ((with_reducible refine st1 ?_ ?_); rfl) | ((with_reducible refine rdB ?_ ?_); rfl) | (with_reducible refine rdbS ?_) | ((with_reducible refine rdBS ?_ ?_); rfl) | ((with_reducible refine stB ?_ ?_ ?_ ?_); rfl; rfl; exact one_all rfl) | ((with_reducible refine rdP _ rfl ?_ ?_); rfl) | ((with_reducible refine rdPS _ rfl ?_ ?_); rfl) | ((with_reducible refine stP _ rfl ?_ ?_ ?_ ?_); rfl; rfl; rfl) | (with_reducible refine unfE (sh96_3.eq_1 ..) ?_) | (with_reducible refine unfE (sh96_2.eq_1 ..) ?_) | (with_reducible refine unfE (sh96_1.eq_1 ..) ?_) | (with_reducible refine unfE (sh96.eq_1 ..) ?_) | (with_reducible refine And.intro ?_ ?_) | (simp only [Bool.not_true, Bool.not_false, Bool.and_self, Bool.true_and, Int.reduceBEq, Int.reduceBNe, Int.reduceLT, Int.reduceLE, decide_true, decide_false, Br_true, Br_false, Gd_tt, Gd_ft, Gd_tf, Gd_ff, beq_self_eq_true, bne_self_eq_false]) | (with_reducible refine gd_split (fun _ => ?_) (fun _ => ?_)) | (with_reducible refine br_split (fun _ => ?_) (fun _ => ?_)) | (simp only [SSd, Nat.reduceAdd]))
  all_goals first
    | (rw [putM_low hi ha hW (by first | (simp_all; done) | (simp_all; omega) | omega)] at hk
       exact Gh.to (mL b s V m (SX ++ F)) (Gh.done (hk.go (Ext.refl _) hF hSp (rv_V ..))))
    | (rw [putM_fin hi ha hW (by first | (simp_all; done) | (simp_all; omega) | omega), if_pos (by first | (simp_all; done) | (simp_all; omega) | omega)] at hk
       exact Gh.to (mL b s V2 (seeF (putMm m c W) c (putA m.sp (putIn c (liftK m.low W c.fTxn).1)).2.2 (putA m.sp (putIn c (liftK m.low W c.fTxn).1)).1) (X1 ++ F)) (Gh.done (hk.go hI1 hF2 (by rw [(seeF_sp ..).1, (seeF_sp ..).2]; exact hS1) (rv_V ..))))
    | (rw [putM_fin hi ha hW (by first | (simp_all; done) | (simp_all; omega) | omega), if_neg (by first | (simp_all; done) | (simp_all; omega) | omega)] at hk
       exact Gh.to (mL b s V (putMm m c W) (X1 ++ F)) (Gh.done (hk.go hI1 (hF0 W I1 hI1) hS1 (rv_V ..))))
    | trace_state
theorem putc_spec (hM : MOk m N) (hN : N ≤ 10000) (hF : MF I V m) (hSp : SpR I s SX m.sp m.nt) (hc : TCmdV I c cc) (hk : PostK K b F I (putM m c).1 (putM m c).2) :
    Cal Tryz.prog ω 96 #[pt b, .agg cc.toArray] K I (mL b s V m (SX ++ F)) := by
  have hc' := hc
  obtain ⟨w0, w1, w2, w3, rfl, g0, g1, g2, g3⟩ := hc
  refine cal96 ?_
  unfold sh96
  refine newI (fun b1 => newI (fun b2 => ?_))
  have hl : encM mv m.marks c.fKey = (lkA m.marks c.fKey).map mv := rfl
  have hl1 : lift1 m c = match lkA m.marks c.fKey with | some k => liftK k c.fAt c.fTxn | none => (c.fAt, 0) := rfl
  rcases hx : lkA m.marks c.fKey with _ | x
  all_goals rw [hx] at hl hl1
  all_goals simp only [Option.map_none, Option.map_some] at hl hl1
  · repeat' (first | (with_reducible refine drawC ?_) | (with_reducible refine drawW1 ?_) | (with_reducible refine drawW2 ?_) | (with_reducible refine keepC (by repeat (first | exact Ext.refl _ | assumption | refine Ext.trans ?_ (by assumption))) ?_) | (with_reducible refine newI (fun _ => ?_)) | (with_reducible refine put1_spec (W := c.fAt) hM hN hF hSp g0 g1 g2 g3 ?_ ha hl1 hk) | ((with_reducible refine call ?_); refine (pholds_spec (p := m.span) ⟨_, _, rfl, hF.f0, hF.f1⟩ g0 ?_)) | ((with_reducible refine call ?_); refine (failed_spec ?_)) | ((with_reducible refine call ?_); refine (calM b V (again_spec hF hc' (fun e a ha => ?_) (fun ha => ?_)))) | (with_reducible refine bs_I g0 (Ext.refl _) ?_) | ((with_reducible refine lkTS hF.mks ?_); simp only [hl, lkV, if_true, if_false, Bool.false_eq_true]) | first | (with_reducible refine rdb ?_) | ((with_reducible refine st1 ?_ ?_); rfl) | ((with_reducible refine rdB ?_ ?_); rfl) | (with_reducible refine rdbS ?_) | ((with_reducible refine rdBS ?_ ?_); rfl) | ((with_reducible refine stB ?_ ?_ ?_ ?_); rfl; rfl; exact one_all rfl) | ((with_reducible refine rdP _ rfl ?_ ?_); rfl) | ((with_reducible refine rdPS _ rfl ?_ ?_); rfl) | ((with_reducible refine stP _ rfl ?_ ?_ ?_ ?_); rfl; rfl; rfl) | (with_reducible refine unfE (sh96_3.eq_1 ..) ?_) | (with_reducible refine unfE (sh96_2.eq_1 ..) ?_) | (with_reducible refine unfE (sh96_1.eq_1 ..) ?_) | (with_reducible refine unfE (sh96.eq_1 ..) ?_) | (with_reducible refine And.intro ?_ ?_) | (simp only [Bool.not_true, Bool.not_false, Bool.and_self, Bool.true_and, Int.reduceBEq, Int.reduceBNe, Int.reduceLT, Int.reduceLE, decide_true, decide_false, Br_true, Br_false, Gd_tt, Gd_ft, Gd_tf, Gd_ff, beq_self_eq_true, bne_self_eq_false]) | (with_reducible refine gd_split (fun _ => ?_) (fun _ => ?_)) | (with_reducible refine br_split (fun _ => ?_) (fun _ => ?_)) | (simp only [SSd, Nat.reduceAdd]))
    · have e1 : putM m c = (failR 141, m) := by unfold putM; rw [if_pos (by first | (simp_all; done) | (simp_all; omega) | omega)]
      rw [e1] at hk
      exact Gh.to (mL b s V m (SX ++ F)) (Gh.done (hk.go (Ext.refl _) hF hSp (rv_V ..)))
    · rw [putM_again (by first | (simp_all; done) | (simp_all; omega) | omega) ha] at hk
      exact Gh.to (mL b s V m (SX ++ F)) (Gh.done (hk.go (Ext.refl _) hF hSp (rv_V ..)))
    · rename_i hi _ _ _; simpa using hi
  · have hl2 : (liftK x c.fAt c.fTxn).2 = 0 → lift1 m c = ((liftK x c.fAt c.fTxn).1, 0) := fun h => by rw [hl1, ← h]
    repeat' (first | (with_reducible refine drawC ?_) | (with_reducible refine drawW1 ?_) | (with_reducible refine drawW2 ?_) | (with_reducible refine keepC (by repeat (first | exact Ext.refl _ | assumption | refine Ext.trans ?_ (by assumption))) ?_) | (with_reducible refine newI (fun _ => ?_)) | (with_reducible refine put1_spec (W := (liftK x c.fAt c.fTxn).1) hM hN hF hSp g0 g1 g2 g3 ?_ ha ?_ hk) | ((with_reducible refine call ?_); refine (pholds_spec (p := m.span) ⟨_, _, rfl, hF.f0, hF.f1⟩ g0 ?_)) | ((with_reducible refine call ?_); refine (failed_spec ?_)) | ((with_reducible refine call ?_); refine (calM b V (again_spec hF hc' (fun e a ha => ?_) (fun ha => ?_)))) | (with_reducible refine bs_I g0 (Ext.refl _) ?_) | ((with_reducible refine lkTS hF.mks ?_); simp only [hl, lkV, if_true, if_false, Bool.false_eq_true]) | ((with_reducible refine call ?_); refine (mlift_spec (k := x) (w := c.fAt) (n := c.fTxn) ?_)) | first | (with_reducible refine rdb ?_) | ((with_reducible refine st1 ?_ ?_); rfl) | ((with_reducible refine rdB ?_ ?_); rfl) | (with_reducible refine rdbS ?_) | ((with_reducible refine rdBS ?_ ?_); rfl) | ((with_reducible refine stB ?_ ?_ ?_ ?_); rfl; rfl; exact one_all rfl) | ((with_reducible refine rdP _ rfl ?_ ?_); rfl) | ((with_reducible refine rdPS _ rfl ?_ ?_); rfl) | ((with_reducible refine stP _ rfl ?_ ?_ ?_ ?_); rfl; rfl; rfl) | (with_reducible refine unfE (sh96_3.eq_1 ..) ?_) | (with_reducible refine unfE (sh96_2.eq_1 ..) ?_) | (with_reducible refine unfE (sh96_1.eq_1 ..) ?_) | (with_reducible refine unfE (sh96.eq_1 ..) ?_) | (with_reducible refine And.intro ?_ ?_) | (simp only [Bool.not_true, Bool.not_false, Bool.and_self, Bool.true_and, Int.reduceBEq, Int.reduceBNe, Int.reduceLT, Int.reduceLE, decide_true, decide_false, Br_true, Br_false, Gd_tt, Gd_ft, Gd_tf, Gd_ff, beq_self_eq_true, bne_self_eq_false]) | (with_reducible refine gd_split (fun _ => ?_) (fun _ => ?_)) | (with_reducible refine br_split (fun _ => ?_) (fun _ => ?_)) | (simp only [SSd, Nat.reduceAdd]))
    · have e1 : putM m c = (failR 141, m) := by unfold putM; rw [if_pos (by first | (simp_all; done) | (simp_all; omega) | omega)]
      rw [e1] at hk
      exact Gh.to (mL b s V m (SX ++ F)) (Gh.done (hk.go (Ext.refl _) hF hSp (rv_V ..)))
    · rw [putM_again (by first | (simp_all; done) | (simp_all; omega) | omega) ha] at hk
      exact Gh.to (mL b s V m (SX ++ F)) (Gh.done (hk.go (Ext.refl _) hF hSp (rv_V ..)))
    · rename_i hi _ _ _ hn
      rw [putM_l1 (by simpa using hi) ha (by rw [hl1]; simpa using hn), hl1] at hk
      exact Gh.to (mL b s V m (SX ++ F)) (Gh.done (hk.go (Ext.refl _) hF hSp (rv_V ..)))
    · rename_i hi _ _ _ hn; simpa using hi
    · rename_i hi _ _ _ hn; exact hl2 (by simpa using hn)
theorem resL_step {x : TIntent} {l : List TIntent} {sp : Sp} {nt : Nts} (h : ¬ (x.fTxn ≠ c.fTxn ∨ inB c.fSpan x.fKey = false)) (h2 : (resA sp x.fKey c.fTxn c.fYes c.fAt).2 = 0) :
    resL c (x :: l) sp nt = resL c l (resS sp x.fKey c.fTxn c.fYes c.fAt) (resN sp x.fKey c.fTxn c.fYes c.fAt nt) := by
  show (if x.fTxn ≠ c.fTxn ∨ inB c.fSpan x.fKey = false then _ else _) = _
  rw [if_neg h, if_neg (by simp [h2])]
theorem resL_skip {x : TIntent} {l : List TIntent} {sp : Sp} {nt : Nts} (h : x.fTxn ≠ c.fTxn ∨ inB c.fSpan x.fKey = false) : resL c (x :: l) sp nt = resL c l sp nt := if_pos h
theorem resL_bad {x : TIntent} {l : List TIntent} {sp : Sp} {nt : Nts} (h : ¬ (x.fTxn ≠ c.fTxn ∨ inB c.fSpan x.fKey = false)) (h2 : (resA sp x.fKey c.fTxn c.fYes c.fAt).2 ≠ 0) :
    resL c (x :: l) sp nt = ((resA sp x.fKey c.fTxn c.fYes c.fAt).2, resS sp x.fKey c.fTxn c.fYes c.fAt, resN sp x.fKey c.fTxn c.fYes c.fAt nt) := by
  show (if x.fTxn ≠ c.fTxn ∨ inB c.fSpan x.fKey = false then _ else _) = _
  rw [if_neg h, if_pos h2]
abbrev resMm (m : Mch) (sp : Sp) (nt : Nts) : Mch := { m with sp := sp, nt := nt }
abbrev resO : Obj := .cells #[.int .i64 0, .bool false, .slice none 0 0, .int .i64 0, .int .i64 0, .int .i64 0, .slice none 0 0, .int .i64 0, .int .i64 0, .int .i64 0, .int .i64 0] 52 (0, 0)
abbrev cmdO (c : TCmd) (w0 w1 w2 w3 : Value) : Obj := .cells #[.int .i64 c.fKind, .int .i64 c.fTxn, .int .i64 c.fSeq, .int .i64 c.fAt.fWall, .int .i64 c.fAt.fLogic, .int .i64 c.fTo.fWall, .int .i64 c.fTo.fLogic, .int .i64 c.fBy, .bool c.fYes, .bool c.fDel, w0, w1, w2, w3, .int .i64 c.fMost] 56 (0, 0)
theorem resolvec_spec (hM : MOk m N) (hN : N ≤ 5000) (hF : MF I V m) (hSp : SpR I s SX m.sp m.nt) (hc : TCmdV I c cc) (hk : PostK K b F I (resM m c).1 (resM m c).2) :
    Cal Tryz.prog ω 102 #[pt b, .agg cc.toArray] K I (mL b s V m (SX ++ F)) := by
  have h1 := hM.vers
  have h2 : N * N ≤ 25000000 := Nat.mul_le_mul hN hN
  have h3 := hM.rows
  obtain ⟨w0, w1, w2, w3, rfl, g0, g1, g2, g3⟩ := hc
  refine cal102 ?_
  unfold sh102
  refine newI (fun b1 => newI (fun b2 => ?_))
  try simp only [SSd, Nat.reduceAdd]
  refine rdP _ rfl rfl ?_
  refine call (calM b V (ours_spec hF (p := c.fSpan) ⟨_, _, rfl, g2, g3⟩ ?_))
  try simp only [SSd, Nat.reduceAdd]
  refine br_split (fun e => ?_) (fun e => ?_)
  · have e1 : resM m c = (failR 141, m) := by unfold resM; rw [if_pos (by first | (simp_all; done) | (simp_all; omega) | omega)]
    rw [e1] at hk
    repeat' (first | (with_reducible refine drawC ?_) | (with_reducible refine drawW1 ?_) | (with_reducible refine drawW2 ?_) | (with_reducible refine keepC (by repeat (first | exact Ext.refl _ | assumption | refine Ext.trans ?_ (by assumption))) ?_) | (with_reducible refine newI (fun _ => ?_)) | ((with_reducible refine call ?_); refine (failed_spec ?_)) | first | (with_reducible refine rdb ?_) | ((with_reducible refine st1 ?_ ?_); rfl) | ((with_reducible refine rdB ?_ ?_); rfl) | (with_reducible refine rdbS ?_) | ((with_reducible refine rdBS ?_ ?_); rfl) | ((with_reducible refine stB ?_ ?_ ?_ ?_); rfl; rfl; exact one_all rfl) | ((with_reducible refine rdP _ rfl ?_ ?_); rfl) | ((with_reducible refine rdPS _ rfl ?_ ?_); rfl) | ((with_reducible refine stP _ rfl ?_ ?_ ?_ ?_); rfl; rfl; rfl) | (with_reducible refine unfE (sh102_3.eq_1 ..) ?_) | (with_reducible refine unfE (sh102_4.eq_1 ..) ?_) | (with_reducible refine unfE (sh102_6.eq_1 ..) ?_) | (with_reducible refine unfE (sh102_1.eq_1 ..) ?_) | (with_reducible refine unfE (sh102.eq_1 ..) ?_) | (with_reducible refine And.intro ?_ ?_) | (simp only [Bool.not_true, Bool.not_false, Bool.and_self, Bool.true_and, Int.reduceBEq, Int.reduceBNe, Int.reduceLT, Int.reduceLE, decide_true, decide_false, Br_true, Br_false, Gd_tt, Gd_ft, Gd_tf, Gd_ff, beq_self_eq_true, bne_self_eq_false]) | (with_reducible refine gd_split (fun _ => ?_) (fun _ => ?_)) | (with_reducible refine br_split (fun _ => ?_) (fun _ => ?_)) | (simp only [SSd, Nat.reduceAdd]))
    exact Gh.to (mL b s V m (SX ++ F)) (Gh.done (hk.go (Ext.refl _) hF hSp (rv_V ..)))
  have ho : oursB m.span c.fSpan = true := by simpa using e
  have e1 : resM m c = (failR (resL c (intsOf m.sp.rows) m.sp m.nt).1, resMm m (resL c (intsOf m.sp.rows) m.sp m.nt).2.1 (resL c (intsOf m.sp.rows) m.sp m.nt).2.2) := by unfold resM; rw [if_neg (by simp [ho])]
  rw [e1] at hk
  try simp only [SSd, Nat.reduceAdd]
  refine rdb ?_
  refine call (intents_spec (sp := m.sp) (hSp.view (fun x hx => by simp [hx])) hM.sp.rise (by omega) (fun I1 iv hI1 hIv => ?_))
  have hil := ints_le m.sp.rows
  generalize intsOf m.sp.rows = its at *
  simp only [RL.len hIv, SSd, Nat.reduceAdd]
  refine loop (fun n' (s' : Value × Unit) I' L' => ∃ (i : Nat) (sp' : Sp) (nt' : Nts) (X' : LH), n' + i = its.length ∧ s' = (.int .i64 i, ()) ∧ Ext I1 I' ∧ SpR I' s X' sp' nt' ∧ SpOk sp' ∧ sp'.rows.length ≤ m.sp.rows.length ∧ versN sp'.rows ≤ versN m.sp.rows + i ∧
    resL c its m.sp m.nt = resL c (its.drop i) sp' nt' ∧ L' = mL b s V m ((b2, resO) ::
      (b1, cmdO c w0 w1 w2 w3) :: (X' ++ F)))
    its.length ⟨0, m.sp, m.nt, SX, rfl, rfl, Ext.refl _, hSp.mono hI1, hM.sp, Nat.le_refl _, Nat.le_refl _, rfl, rfl⟩ ?_
  rintro n' s' I' L' ⟨i, sp', nt', X', hn, rfl, hI', hS', hok, hrl, hvl, hre, rfl⟩
  unfold sh102_1
  try simp only [SSd, Nat.reduceAdd]
  refine br_split (fun e2 => ?_) (fun e2 => ?_)
  · have hi : i < its.length := by simpa using e2
    obtain ⟨bx, off, cx, hix, hcl, hcx, hcc⟩ := RL.ix hIv (i := (i : Int)) (by omega) (by omega)
    rw [geti_nat hi] at hcx
    have hdrop : its.drop i = its[i] :: its.drop (i + 1) := List.drop_eq_getElem_cons hi
    generalize its[i] = x at *
    obtain ⟨x0, x1, rfl, k0, k1⟩ := hcx
    obtain ⟨xa0, xc0, rfl⟩ := Bytes.form k0
    obtain ⟨xa1, xc1, rfl⟩ := Bytes.form k1
    have w64 : IntKind.i64.wrap ((i : Int) + 1) = ((i + 1 : Nat) : Int) := by rw [wrap_i64 _ (by omega)]; rfl
    simp only [hix, SSd, Nat.reduceAdd]
    refine rdN hcl (hcc I' _ hI' (fun x hx => by cases hx)) ?_
    repeat' (first | (with_reducible refine drawX X' ?_) | (with_reducible refine drawW1 ?_) | (with_reducible refine drawW2 ?_) | (with_reducible refine keepC (by repeat (first | exact Ext.refl _ | assumption | refine Ext.trans ?_ (by assumption))) ?_) | (with_reducible refine newI (fun _ => ?_)) | ((with_reducible refine call ?_); refine (pholds_spec (p := c.fSpan) ⟨_, _, rfl, (g2.mono hI1).mono hI', (g3.mono hI1).mono hI'⟩ (k0.mono hI') ?_)) | ((with_reducible refine call ?_); refine (failed_spec ?_)) | ((with_reducible refine call ?_); refine (Cal.split X' (resolve_spec (k := x.fKey) (txn := c.fTxn) (yes := c.fYes) (a := c.fAt) hS' hok (by omega) (vers_le (by omega)) (k0.mono hI') (fun X2 I2 hI2 hS2 => ?_)))) | first | (with_reducible refine rdb ?_) | ((with_reducible refine st1 ?_ ?_); rfl) | ((with_reducible refine rdB ?_ ?_); rfl) | (with_reducible refine rdbS ?_) | ((with_reducible refine rdBS ?_ ?_); rfl) | ((with_reducible refine stB ?_ ?_ ?_ ?_); rfl; rfl; exact one_all rfl) | ((with_reducible refine rdP _ rfl ?_ ?_); rfl) | ((with_reducible refine rdPS _ rfl ?_ ?_); rfl) | ((with_reducible refine stP _ rfl ?_ ?_ ?_ ?_); rfl; rfl; rfl) | (with_reducible refine unfE (sh102_3.eq_1 ..) ?_) | (with_reducible refine unfE (sh102_4.eq_1 ..) ?_) | (with_reducible refine unfE (sh102_6.eq_1 ..) ?_) | (with_reducible refine unfE (sh102_1.eq_1 ..) ?_) | (with_reducible refine unfE (sh102.eq_1 ..) ?_) | (with_reducible refine And.intro ?_ ?_) | (simp only [Bool.not_true, Bool.not_false, Bool.and_self, Bool.true_and, Int.reduceBEq, Int.reduceBNe, Int.reduceLT, Int.reduceLE, decide_true, decide_false, Br_true, Br_false, Gd_tt, Gd_ft, Gd_tf, Gd_ff, beq_self_eq_true, bne_self_eq_false]) | (with_reducible refine gd_split (fun _ => ?_) (fun _ => ?_)) | (with_reducible refine br_split (fun _ => ?_) (fun _ => ?_)) | (simp only [SSd, Nat.reduceAdd]))
    · rename_i q1 q2
      rw [w64]
      refine Gh.to (mL b s V m ((b2, resO) :: (b1, cmdO c w0 w1 w2 w3) :: (X' ++ F))) (Gh.done ⟨n' - 1, by omega, i + 1, sp', nt', X', by omega, rfl, hI', hS', hok, hrl, by omega, ?_, rfl⟩)
      rw [hre, hdrop, resL_skip (.inr (by first | (simp_all; done) | (simp_all; omega) | omega))]
    · rename_i q1 q2 q3
      have hq : ¬ (x.fTxn ≠ c.fTxn ∨ inB c.fSpan x.fKey = false) := by simp at q1 q2; simp [q1, q2]
      rw [hre, hdrop, resL_bad hq (by simpa using q3)] at hk
      exact Gh.to (mL b s V (resMm m (resS sp' x.fKey c.fTxn c.fYes c.fAt) (resN sp' x.fKey c.fTxn c.fYes c.fAt nt')) (X2 ++ F)) (Gh.done (hk.go (hI1.trans (hI'.trans hI2)) { hF.mono (hI1.trans (hI'.trans hI2)) with } hS2 (rv_V ..)))
    · rename_i q1 q2 q3
      have hq : ¬ (x.fTxn ≠ c.fTxn ∨ inB c.fSpan x.fKey = false) := by simp at q1 q2; simp [q1, q2]
      have hlen := res_len (k := x.fKey) (txn := c.fTxn) (yes := c.fYes) (a := c.fAt) hok
      rw [w64]
      refine Gh.to (mL b s V m ((b2, resO) :: (b1, cmdO c w0 w1 w2 w3) :: (X2 ++ F))) (Gh.done ⟨n' - 1, by omega, i + 1, _, _, X2, by omega, rfl, hI'.trans hI2, hS2, hok.res, by omega, by omega, ?_, rfl⟩)
      rw [hre, hdrop, resL_step hq (by simpa using q3)]
    · rename_i q1
      rw [w64]
      refine Gh.to (mL b s V m ((b2, resO) :: (b1, cmdO c w0 w1 w2 w3) :: (X' ++ F))) (Gh.done ⟨n' - 1, by omega, i + 1, sp', nt', X', by omega, rfl, hI', hS', hok, hrl, by omega, ?_, rfl⟩)
      rw [hre, hdrop, resL_skip (.inl (by simpa using q1))]
  · have hi : i = its.length := by simp at e2; omega
    rw [hre, hi, List.drop_length] at hk
    repeat' (first | (with_reducible refine drawC ?_) | (with_reducible refine drawW1 ?_) | (with_reducible refine drawW2 ?_) | (with_reducible refine keepC (by repeat (first | exact Ext.refl _ | assumption | refine Ext.trans ?_ (by assumption))) ?_) | (with_reducible refine newI (fun _ => ?_)) | first | (with_reducible refine rdb ?_) | ((with_reducible refine st1 ?_ ?_); rfl) | ((with_reducible refine rdB ?_ ?_); rfl) | (with_reducible refine rdbS ?_) | ((with_reducible refine rdBS ?_ ?_); rfl) | ((with_reducible refine stB ?_ ?_ ?_ ?_); rfl; rfl; exact one_all rfl) | ((with_reducible refine rdP _ rfl ?_ ?_); rfl) | ((with_reducible refine rdPS _ rfl ?_ ?_); rfl) | ((with_reducible refine stP _ rfl ?_ ?_ ?_ ?_); rfl; rfl; rfl) | (with_reducible refine unfE (sh102_3.eq_1 ..) ?_) | (with_reducible refine unfE (sh102_4.eq_1 ..) ?_) | (with_reducible refine unfE (sh102_6.eq_1 ..) ?_) | (with_reducible refine unfE (sh102_1.eq_1 ..) ?_) | (with_reducible refine unfE (sh102.eq_1 ..) ?_) | (with_reducible refine And.intro ?_ ?_) | (simp only [Bool.not_true, Bool.not_false, Bool.and_self, Bool.true_and, Int.reduceBEq, Int.reduceBNe, Int.reduceLT, Int.reduceLE, decide_true, decide_false, Br_true, Br_false, Gd_tt, Gd_ft, Gd_tf, Gd_ff, beq_self_eq_true, bne_self_eq_false]) | (with_reducible refine gd_split (fun _ => ?_) (fun _ => ?_)) | (with_reducible refine br_split (fun _ => ?_) (fun _ => ?_)) | (simp only [SSd, Nat.reduceAdd]))
    exact Gh.to (mL b s V (resMm m sp' nt') (X' ++ F)) (Gh.done (hk.go (hI1.trans hI') { hF.mono (hI1.trans hI') with } hS' (rv_V ..)))
end
end Go.Proofs.YtmmfcgbfbcamcaaGreatDoor
-- S3
set_option linter.unusedSimpArgs false
set_option linter.unusedVariables false
namespace Go.Proofs.YtmmfcgbfbcamcaaGreatDoor
open Go.SL
set_option maxRecDepth 10000
def emptyC (c : TCmd) : Bool := c.fSeq == 0 && (c.fBy == 0 && (c.fMost == 0 && ((c.fTo.fWall == 0 && c.fTo.fLogic == 0) && (!c.fYes && (!c.fDel && (c.fKey.length == 0 && (c.fValue.length == 0 && (c.fSpan.fFrom.length == 0 && c.fSpan.fTo.length == 0))))))))
theorem len0 {a b c d : Nat} (ha : a ≤ 140737488355328) (hb : b ≤ 140737488355328) (hc : c ≤ 140737488355328) (hd : d ≤ 140737488355328) :
    IntKind.i64.wrap (IntKind.i64.wrap (IntKind.i64.wrap (IntKind.i64.wrap ((a : Int)) + b) + c) + d) = (a : Int) + b + c + d := by
  rw [wrap_i64 (a : Int) (by omega), wrap_i64 ((a : Int) + b) (by omega), wrap_i64 ((a : Int) + b + c) (by omega), wrap_i64 ((a : Int) + b + c + d) (by omega)]
structure Lens (c : TCmd) : Prop where
  k : c.fKey.length ≤ 140737488355328
  v : c.fValue.length ≤ 140737488355328
  f : c.fSpan.fFrom.length ≤ 140737488355328
  t : c.fSpan.fTo.length ≤ 140737488355328
section
variable {ω : Om} {I : Imm} {L : LH} {K : Value → M}
theorem empty_spec {c : TCmd} {cc : List Value} (hc : TCmdV I c cc) (hL : Lens c) (hk : K (.bool (emptyC c)) I L) : Cal Tryz.prog ω 92 #[.agg cc.toArray] K I L := by
  obtain ⟨w0, w1, w2, w3, rfl, g0, g1, g2, g3⟩ := hc
  have hl := len0 hL.k hL.v hL.f hL.t
  refine cal92 ?_
  unfold sh92
  by_cases hz : c.fSeq = 0 ∧ c.fBy = 0 ∧ c.fMost = 0
  · obtain ⟨z1, z2, z3⟩ := hz
    have hl2 : IntKind.i64.wrap (IntKind.i64.wrap (IntKind.i64.wrap (IntKind.i64.wrap (IntKind.i64.wrap (IntKind.i64.wrap ((0 : Int) + 0) + 0) + c.fKey.length) + c.fValue.length) + c.fSpan.fFrom.length) + c.fSpan.fTo.length) = (c.fKey.length : Int) + c.fValue.length + c.fSpan.fFrom.length + c.fSpan.fTo.length := by
      rw [show IntKind.i64.wrap ((0 : Int) + 0) = 0 from rfl, show IntKind.i64.wrap ((0 : Int) + 0) = 0 from rfl, Int.zero_add, hl]
    have he : emptyC c = (((c.fKey.length : Int) + c.fValue.length + c.fSpan.fFrom.length + c.fSpan.fTo.length == 0) && ((c.fTo.fWall == 0 && c.fTo.fLogic == 0) && (!c.fYes && !c.fDel))) := by
      unfold emptyC
      rw [z1, z2, z3, Bool.eq_iff_iff]
      have e4 : ((c.fKey.length : Int) + c.fValue.length + c.fSpan.fFrom.length + c.fSpan.fTo.length = 0) ↔ (c.fKey.length = 0 ∧ c.fValue.length = 0 ∧ c.fSpan.fFrom.length = 0 ∧ c.fSpan.fTo.length = 0) := by omega
      simp only [Bool.and_eq_true, beq_iff_eq, Bool.not_eq_true', beq_self_eq_true, true_and, e4]
      constructor
      · rintro ⟨a1, a2, a3, a4, a5, a6, a7⟩; exact ⟨⟨a4, a5, a6, a7⟩, a1, a2, a3⟩
      · rintro ⟨⟨a4, a5, a6, a7⟩, a1, a2, a3⟩; exact ⟨a1, a2, a3, a4, a5, a6, a7⟩
    rw [he] at hk
    repeat' (first | (with_reducible refine drawC ?_) | (with_reducible refine drawW1 ?_) | (with_reducible refine drawW2 ?_) | (with_reducible refine keepC (by repeat (first | exact Ext.refl _ | assumption | refine Ext.trans ?_ (by assumption))) ?_) | (with_reducible refine newI (fun _ => ?_)) | first | (with_reducible refine rdb ?_) | ((with_reducible refine st1 ?_ ?_); rfl) | ((with_reducible refine rdB ?_ ?_); rfl) | (with_reducible refine rdbS ?_) | ((with_reducible refine rdBS ?_ ?_); rfl) | ((with_reducible refine stB ?_ ?_ ?_ ?_); rfl; rfl; exact one_all rfl) | ((with_reducible refine rdP _ rfl ?_ ?_); rfl) | ((with_reducible refine rdPS _ rfl ?_ ?_); rfl) | ((with_reducible refine stP _ rfl ?_ ?_ ?_ ?_); rfl; rfl; rfl) | (with_reducible refine unfE (sh92.eq_1 ..) ?_) | (with_reducible refine And.intro ?_ ?_) | (simp only [Bool.not_true, Bool.not_false, Bool.and_self, Bool.true_and, Int.reduceBEq, Int.reduceBNe, Int.reduceLT, Int.reduceLE, decide_true, decide_false, Br_true, Br_false, Gd_tt, Gd_ft, Gd_tf, Gd_ff, beq_self_eq_true, bne_self_eq_false]) | (with_reducible refine gd_split (fun _ => ?_) (fun _ => ?_)) | (with_reducible refine br_split (fun _ => ?_) (fun _ => ?_)) | (simp only [SSd, Nat.reduceAdd, z1, z2, z3, hl2, Bytes.len g0, Bytes.len g1, Bytes.len g2, Bytes.len g3]))
    all_goals (refine Gh.to L (Gh.done (leafB hk ?_)); simp_all)
  · have he : emptyC c = false := by
      unfold emptyC
      rw [Bool.eq_false_iff]
      intro h
      simp only [Bool.and_eq_true, beq_iff_eq] at h
      exact hz ⟨h.1, h.2.1, h.2.2.1⟩
    rw [he] at hk
    repeat' (first | (with_reducible refine drawC ?_) | (with_reducible refine drawW1 ?_) | (with_reducible refine drawW2 ?_) | (with_reducible refine keepC (by repeat (first | exact Ext.refl _ | assumption | refine Ext.trans ?_ (by assumption))) ?_) | (with_reducible refine newI (fun _ => ?_)) | first | (with_reducible refine rdb ?_) | ((with_reducible refine st1 ?_ ?_); rfl) | ((with_reducible refine rdB ?_ ?_); rfl) | (with_reducible refine rdbS ?_) | ((with_reducible refine rdBS ?_ ?_); rfl) | ((with_reducible refine stB ?_ ?_ ?_ ?_); rfl; rfl; exact one_all rfl) | ((with_reducible refine rdP _ rfl ?_ ?_); rfl) | ((with_reducible refine rdPS _ rfl ?_ ?_); rfl) | ((with_reducible refine stP _ rfl ?_ ?_ ?_ ?_); rfl; rfl; rfl) | (with_reducible refine unfE (sh92.eq_1 ..) ?_) | (with_reducible refine And.intro ?_ ?_) | (simp only [Bool.not_true, Bool.not_false, Bool.and_self, Bool.true_and, Int.reduceBEq, Int.reduceBNe, Int.reduceLT, Int.reduceLE, decide_true, decide_false, Br_true, Br_false, Gd_tt, Gd_ft, Gd_tf, Gd_ff, beq_self_eq_true, bne_self_eq_false]) | (with_reducible refine gd_split (fun _ => ?_) (fun _ => ?_)) | (with_reducible refine br_split (fun _ => ?_) (fun _ => ?_)) | (simp only [SSd, Nat.reduceAdd, Bytes.len g0, Bytes.len g1, Bytes.len g2, Bytes.len g3]))
    all_goals (refine Gh.to L (Gh.done (leafB hk ?_)); simp_all)
theorem bnil (I : Imm) : Bytes I (.slice none 0 0) [] := SlI.nil I 1 none 0
theorem emptyX {k t s aw al tw tl b mo : Int} {y d : Bool} {w0 w1 w2 w3 : Value} {key value fr to : List UInt8} (g0 : Bytes I w0 key) (g1 : Bytes I w1 value) (g2 : Bytes I w2 fr) (g3 : Bytes I w3 to)
    (l0 : key.length ≤ 140737488355328) (l1 : value.length ≤ 140737488355328) (l2 : fr.length ≤ 140737488355328) (l3 : to.length ≤ 140737488355328)
    (hk : K (.bool (emptyC ⟨k, t, s, ⟨aw, al⟩, ⟨tw, tl⟩, b, y, d, key, value, ⟨fr, to⟩, mo⟩)) I L) :
    Cal Tryz.prog ω 92 #[.agg #[.int .i64 k, .int .i64 t, .int .i64 s, .int .i64 aw, .int .i64 al, .int .i64 tw, .int .i64 tl, .int .i64 b, .bool y, .bool d, w0, w1, w2, w3, .int .i64 mo]] K I L :=
  empty_spec (c := ⟨k, t, s, ⟨aw, al⟩, ⟨tw, tl⟩, b, y, d, key, value, ⟨fr, to⟩, mo⟩) ⟨w0, w1, w2, w3, rfl, g0, g1, g2, g3⟩ ⟨l0, l1, l2, l3⟩ hk
set_option maxHeartbeats 2000000 in
theorem right_kind {rd : Bool} {c : TCmd} {w0 w1 w2 w3 : Value} {b1 b2 : Nat} (g0 : Bytes I w0 c.fKey) (g1 : Bytes I w1 c.fValue) (g2 : Bytes I w2 c.fSpan.fFrom) (g3 : Bytes I w3 c.fSpan.fTo) (hL : Lens c) (hrd : readerB c.fTxn = rd)
    (hk : K (.bool (kindOk c)) I L) :
    Br (.bool (c.fKind == 1))
      (sh33_2 ω (pt b1) (.bool false) (.bool rd) (.bool (txnB c.fTxn)) (pt b2) (fun v => Gh (K v)))
      (sh33_5 ω (pt b1) (.bool false) (.bool rd) (.bool (txnB c.fTxn)) (pt b2) (.int .i64 c.fKind) (fun v => Gh (K v))) I
      ((b2, .cells #[.int .i64 0, .int .i64 0, .int .i64 c.fSeq, .int .i64 0, .int .i64 0, .int .i64 c.fTo.fWall, .int .i64 c.fTo.fLogic, .int .i64 c.fBy, .bool c.fYes, .bool c.fDel, w0, w1, w2, w3, .int .i64 c.fMost] 56 (0, 0)) :: (b1, cmdO c w0 w1 w2 w3) :: L) := by
  subst hrd
  have h12 : c.fKind = 1 ∨ c.fKind = 2 ∨ c.fKind = 3 ∨ c.fKind = 4 ∨ c.fKind = 5 ∨ c.fKind = 6 ∨ c.fKind = 7 ∨ c.fKind = 8 ∨ c.fKind = 9 ∨ c.fKind = 10 ∨ c.fKind = 11 ∨ (c.fKind < 1 ∨ 11 < c.fKind) := by omega
  rcases h12 with hK | hK | hK | hK | hK | hK | hK | hK | hK | hK | hK | hK
  rotate_right
  · have n1 : c.fKind ≠ 1 := by omega
    have n2 : c.fKind ≠ 2 := by omega
    have n3 : c.fKind ≠ 3 := by omega
    have n4 : c.fKind ≠ 4 := by omega
    have n5 : c.fKind ≠ 5 := by omega
    have n6 : c.fKind ≠ 6 := by omega
    have n7 : c.fKind ≠ 7 := by omega
    have n8 : c.fKind ≠ 8 := by omega
    have n9 : c.fKind ≠ 9 := by omega
    have n10 : c.fKind ≠ 10 := by omega
    have n11 : c.fKind ≠ 11 := by omega
    have hz : kindOk c = false := by unfold kindOk; simp [n1, n2, n3, n4, n5, n6, n7, n8, n9, n10, n11]
    have beq : ∀ n : Int, c.fKind ≠ n → (c.fKind == n) = false := fun n h => by simpa using h
    repeat' (first | (with_reducible refine drawC ?_) | (with_reducible refine drawW1 ?_) | (with_reducible refine drawW2 ?_) | (with_reducible refine keepC (by repeat (first | exact Ext.refl _ | assumption | refine Ext.trans ?_ (by assumption))) ?_) | (with_reducible refine newI (fun _ => ?_)) | first | (with_reducible refine rdb ?_) | ((with_reducible refine st1 ?_ ?_); rfl) | ((with_reducible refine rdB ?_ ?_); rfl) | (with_reducible refine rdbS ?_) | ((with_reducible refine rdBS ?_ ?_); rfl) | ((with_reducible refine stB ?_ ?_ ?_ ?_); rfl; rfl; exact one_all rfl) | ((with_reducible refine rdP _ rfl ?_ ?_); rfl) | ((with_reducible refine rdPS _ rfl ?_ ?_); rfl) | ((with_reducible refine stP _ rfl ?_ ?_ ?_ ?_); rfl; rfl; rfl) | (with_reducible refine unfE (sh33_4.eq_1 ..) ?_) | (with_reducible refine unfE (sh33_2.eq_1 ..) ?_) | (with_reducible refine unfE (sh33_5.eq_1 ..) ?_) | (with_reducible refine unfE (sh33.eq_1 ..) ?_) | (with_reducible refine And.intro ?_ ?_) | (simp only [Bool.not_true, Bool.not_false, Bool.and_self, Bool.true_and, Int.reduceBEq, Int.reduceBNe, Int.reduceLT, Int.reduceLE, decide_true, decide_false, Br_true, Br_false, Gd_tt, Gd_ft, Gd_tf, Gd_ff, beq_self_eq_true, bne_self_eq_false]) | (with_reducible refine gd_split (fun _ => ?_) (fun _ => ?_)) | (with_reducible refine br_split (fun _ => ?_) (fun _ => ?_)) | (simp only [SSd, Nat.reduceAdd, beq _ n1, beq _ n2, beq _ n3, beq _ n4, beq _ n5, beq _ n6, beq _ n7, beq _ n8, beq _ n9, beq _ n10, beq _ n11]))
    all_goals (rw [hz] at hk; first | exact Gh.to L (Gh.done hk) | (rename_i q1 q2; simp [n1] at q1))
  all_goals repeat' (first | (with_reducible refine drawC ?_) | (with_reducible refine drawW1 ?_) | (with_reducible refine drawW2 ?_) | (with_reducible refine keepC (by repeat (first | exact Ext.refl _ | assumption | refine Ext.trans ?_ (by assumption))) ?_) | (with_reducible refine newI (fun _ => ?_)) | ((with_reducible refine call ?_); refine (pkey_spec g0 ?_)) | ((with_reducible refine call ?_); refine (ptxn_spec ?_)) | ((with_reducible refine call ?_); refine (emptyX (by first | exact g0 | exact bnil I) (by first | exact g1 | exact bnil I) (by first | exact g2 | exact bnil I) (by first | exact g3 | exact bnil I) (by first | exact hL.k | exact Nat.zero_le _) (by first | exact hL.v | exact Nat.zero_le _) (by first | exact hL.f | exact Nat.zero_le _) (by first | exact hL.t | exact Nat.zero_le _) ?_)) | first | (with_reducible refine rdb ?_) | ((with_reducible refine st1 ?_ ?_); rfl) | ((with_reducible refine rdB ?_ ?_); rfl) | (with_reducible refine rdbS ?_) | ((with_reducible refine rdBS ?_ ?_); rfl) | ((with_reducible refine stB ?_ ?_ ?_ ?_); rfl; rfl; exact one_all rfl) | ((with_reducible refine rdP _ rfl ?_ ?_); rfl) | ((with_reducible refine rdPS _ rfl ?_ ?_); rfl) | ((with_reducible refine stP _ rfl ?_ ?_ ?_ ?_); rfl; rfl; rfl) | (with_reducible refine unfE (sh33_4.eq_1 ..) ?_) | (with_reducible refine unfE (sh33_2.eq_1 ..) ?_) | (with_reducible refine unfE (sh33_5.eq_1 ..) ?_) | (with_reducible refine unfE (sh33.eq_1 ..) ?_) | (with_reducible refine And.intro ?_ ?_) | (simp only [Bool.not_true, Bool.not_false, Bool.and_self, Bool.true_and, Int.reduceBEq, Int.reduceBNe, Int.reduceLT, Int.reduceLE, decide_true, decide_false, Br_true, Br_false, Gd_tt, Gd_ft, Gd_tf, Gd_ff, beq_self_eq_true, bne_self_eq_false]) | (with_reducible refine gd_split (fun _ => ?_) (fun _ => ?_)) | (with_reducible refine br_split (fun _ => ?_) (fun _ => ?_)) | (simp only [SSd, Nat.reduceAdd, hK, Bytes.len g1]))
  all_goals (refine Gh.to L (Gh.done (leafB hk ?_)); simp_all [kindOk, emptyC, noVal, noSpan, noText, noTo, noAt])
  all_goals first | done | ac_rfl | (intros; omega) | (have hv : c.fValue.length ≤ 10000 := by omega
                                                       simp only [hv, decide_true, Bool.true_and]; ac_rfl) | trace_state
theorem right_spec {c : TCmd} {cc : List Value} (hc : TCmdV I c cc) (hL : Lens c) (hk : K (.bool (rightP c)) I L) : Cal Tryz.prog ω 33 #[.agg cc.toArray] K I L := by
  obtain ⟨w0, w1, w2, w3, rfl, g0, g1, g2, g3⟩ := hc
  obtain ⟨y0, z0', rfl⟩ := Bytes.form g0
  obtain ⟨y1, z1, rfl⟩ := Bytes.form g1
  obtain ⟨y2, z2, rfl⟩ := Bytes.form g2
  obtain ⟨y3, z3, rfl⟩ := Bytes.form g3
  have hr : rightB c.fAt = true → rightB c.fTo = true → spanOk c.fSpan = true → ¬ c.fSeq < 0 → ¬ c.fSeq > 9007199254740991 → K (.bool (kindOk c)) I L := by
    intro h1 h2 h3 h4 h5
    have : rightP c = kindOk c := by unfold rightP; simp [h1, h2, h3, show 0 ≤ c.fSeq ∧ c.fSeq ≤ 9007199254740991 by omega]
    rwa [this] at hk
  have h0 : c.fTxn = 0 → readerB c.fTxn = true := fun h => by simp [readerB, h]
  have h00 : c.fTxn ≠ 0 → readerB c.fTxn = txnB c.fTxn := fun h => by simp [readerB, h]
  refine cal33 ?_
  unfold sh33
  refine newI (fun b1 => ?_)
  try simp only [SSd, Nat.reduceAdd]
  refine rdP [.int .i64 c.fAt.fWall, .int .i64 c.fAt.fLogic] rfl rfl ?_
  refine call (hright_spec (x := c.fAt) ?_)
  try simp only [SSd, Nat.reduceAdd]
  refine gd_split (fun e1 => ?_) (fun e1 => ?_)
  rotate_left
  · exact Gh.to L (Gh.done (leafB hk (by simp_all [rightP])))
  try simp only [SSd, Nat.reduceAdd]
  refine rdP [.int .i64 c.fTo.fWall, .int .i64 c.fTo.fLogic] rfl rfl ?_
  refine call (hright_spec (x := c.fTo) ?_)
  try simp only [SSd, Nat.reduceAdd]
  refine gd_split (fun e2 => ?_) (fun e2 => ?_)
  rotate_left
  · exact Gh.to L (Gh.done (leafB hk (by simp_all [rightP])))
  try simp only [SSd, Nat.reduceAdd]
  refine rdP _ rfl rfl ?_
  try simp only [SSd, Nat.reduceAdd]
  refine call (pspan_spec (p := c.fSpan) ⟨_, _, rfl, g2, g3⟩ ?_)
  try simp only [SSd, Nat.reduceAdd]
  refine gd_split (fun e3 => ?_) (fun e3 => ?_)
  rotate_left
  · exact Gh.to L (Gh.done (leafB hk (by simp_all [rightP])))
  try simp only [SSd, Nat.reduceAdd]
  refine rdb ?_
  try simp only [SSd, Nat.reduceAdd]
  refine gd_split (fun e4 => ?_) (fun e4 => ?_)
  rotate_left
  · exact Gh.to L (Gh.done (leafB hk (by simp_all [rightP]; intros; omega)))
  try simp only [SSd, Nat.reduceAdd]
  refine rdb ?_
  try simp only [SSd, Nat.reduceAdd]
  refine br_split (fun e5 => ?_) (fun e5 => ?_)
  · exact Gh.to L (Gh.done (leafB hk (by simp_all [rightP]; intros; omega)))
  have hk' := hr (by simpa using e1) (by simpa using e2) (by simpa using e3) (by simpa using e4) (by simpa using e5)
  clear hk hr
  try simp only [SSd, Nat.reduceAdd]
  refine rdb ?_
  try simp only [SSd, Nat.reduceAdd]
  refine gd_split (fun e6 => ?_) (fun e6 => ?_)
  · refine rdb ?_
    refine call (ptxn_spec ?_)
    repeat' (first | (with_reducible refine drawC ?_) | (with_reducible refine drawW1 ?_) | (with_reducible refine drawW2 ?_) | (with_reducible refine keepC (by repeat (first | exact Ext.refl _ | assumption | refine Ext.trans ?_ (by assumption))) ?_) | (with_reducible refine newI (fun _ => ?_)) | (with_reducible refine right_kind g0 g1 g2 g3 hL ?_ ?_) | ((with_reducible refine call ?_); refine (ptxn_spec ?_)) | first | (with_reducible refine rdb ?_) | ((with_reducible refine st1 ?_ ?_); rfl) | ((with_reducible refine rdB ?_ ?_); rfl) | (with_reducible refine rdbS ?_) | ((with_reducible refine rdBS ?_ ?_); rfl) | ((with_reducible refine stB ?_ ?_ ?_ ?_); rfl; rfl; exact one_all rfl) | ((with_reducible refine rdP _ rfl ?_ ?_); rfl) | ((with_reducible refine rdPS _ rfl ?_ ?_); rfl) | ((with_reducible refine stP _ rfl ?_ ?_ ?_ ?_); rfl; rfl; rfl) | (with_reducible refine unfE (sh33_4.eq_1 ..) ?_) | (with_reducible refine unfE (sh33_2.eq_1 ..) ?_) | (with_reducible refine unfE (sh33_5.eq_1 ..) ?_) | (with_reducible refine unfE (sh33.eq_1 ..) ?_) | (with_reducible refine And.intro ?_ ?_) | (simp only [Bool.not_true, Bool.not_false, Bool.and_self, Bool.true_and, Int.reduceBEq, Int.reduceBNe, Int.reduceLT, Int.reduceLE, decide_true, decide_false, Br_true, Br_false, Gd_tt, Gd_ft, Gd_tf, Gd_ff, beq_self_eq_true, bne_self_eq_false]) | (with_reducible refine gd_split (fun _ => ?_) (fun _ => ?_)) | (with_reducible refine br_split (fun _ => ?_) (fun _ => ?_)) | (simp only [SSd, Nat.reduceAdd]))
    all_goals first | exact hk' | exact h00 (by simpa using e6)
  · repeat' (first | (with_reducible refine drawC ?_) | (with_reducible refine drawW1 ?_) | (with_reducible refine drawW2 ?_) | (with_reducible refine keepC (by repeat (first | exact Ext.refl _ | assumption | refine Ext.trans ?_ (by assumption))) ?_) | (with_reducible refine newI (fun _ => ?_)) | (with_reducible refine right_kind g0 g1 g2 g3 hL ?_ ?_) | ((with_reducible refine call ?_); refine (ptxn_spec ?_)) | first | (with_reducible refine rdb ?_) | ((with_reducible refine st1 ?_ ?_); rfl) | ((with_reducible refine rdB ?_ ?_); rfl) | (with_reducible refine rdbS ?_) | ((with_reducible refine rdBS ?_ ?_); rfl) | ((with_reducible refine stB ?_ ?_ ?_ ?_); rfl; rfl; exact one_all rfl) | ((with_reducible refine rdP _ rfl ?_ ?_); rfl) | ((with_reducible refine rdPS _ rfl ?_ ?_); rfl) | ((with_reducible refine stP _ rfl ?_ ?_ ?_ ?_); rfl; rfl; rfl) | (with_reducible refine unfE (sh33_4.eq_1 ..) ?_) | (with_reducible refine unfE (sh33_2.eq_1 ..) ?_) | (with_reducible refine unfE (sh33_5.eq_1 ..) ?_) | (with_reducible refine unfE (sh33.eq_1 ..) ?_) | (with_reducible refine And.intro ?_ ?_) | (simp only [Bool.not_true, Bool.not_false, Bool.and_self, Bool.true_and, Int.reduceBEq, Int.reduceBNe, Int.reduceLT, Int.reduceLE, decide_true, decide_false, Br_true, Br_false, Gd_tt, Gd_ft, Gd_tf, Gd_ff, beq_self_eq_true, bne_self_eq_false]) | (with_reducible refine gd_split (fun _ => ?_) (fun _ => ?_)) | (with_reducible refine br_split (fun _ => ?_) (fun _ => ?_)) | (simp only [SSd, Nat.reduceAdd]))
    all_goals first | exact hk' | exact h0 (by simpa using e6)
abbrev mchN (p : TSpan) (sp : Sp) (nt : Nts) : Mch := ⟨p, sp, nt, [], mk0, [], [], 0, []⟩
theorem made_spec {p : TSpan} {pc : List Value} {s : Nat} (sp : Sp) (nt : Nts) (hp : TSpanV I p pc) (h1 : p.fFrom.length ≤ 140737488355328) (h2 : p.fTo.length ≤ 140737488355328)
    (hk : ∀ b V I', Ext I I' → MF I' V (mchN p sp nt) → K (pt b) I' (mL b s V (mchN p sp nt) L)) :
    Cal Tryz.prog ω 31 #[.agg pc.toArray, pt s] K I L := by
  obtain ⟨v0, v1, rfl, g0, g1⟩ := hp
  refine cal31 ?_
  unfold sh31
  refine newI (fun b1 => ?_)
  repeat' (first | (with_reducible refine drawC ?_) | (with_reducible refine drawW1 ?_) | (with_reducible refine drawW2 ?_) | (with_reducible refine keepC (by repeat (first | exact Ext.refl _ | assumption | refine Ext.trans ?_ (by assumption))) ?_) | (with_reducible refine newI (fun _ => ?_)) | ((with_reducible refine call ?_); refine (cloneB_spec g0 h1 (fun a0 c0 I1 hI1 hB1 => ?_))) | ((with_reducible refine call ?_); refine (cloneB_spec (g1.mono hI1) h2 (fun a1 c1 I2 hI2 hB2 => ?_))) | first | (with_reducible refine rdb ?_) | ((with_reducible refine st1 ?_ ?_); rfl) | ((with_reducible refine rdB ?_ ?_); rfl) | (with_reducible refine rdbS ?_) | ((with_reducible refine rdBS ?_ ?_); rfl) | ((with_reducible refine stB ?_ ?_ ?_ ?_); rfl; rfl; exact one_all rfl) | ((with_reducible refine rdP _ rfl ?_ ?_); rfl) | ((with_reducible refine rdPS _ rfl ?_ ?_); rfl) | ((with_reducible refine stP _ rfl ?_ ?_ ?_ ?_); rfl; rfl; rfl) | (with_reducible refine unfE (sh31.eq_1 ..) ?_) | (with_reducible refine And.intro ?_ ?_) | (simp only [Bool.not_true, Bool.not_false, Bool.and_self, Bool.true_and, Int.reduceBEq, Int.reduceBNe, Int.reduceLT, Int.reduceLE, decide_true, decide_false, Br_true, Br_false, Gd_tt, Gd_ft, Gd_tf, Gd_ff, beq_self_eq_true, bne_self_eq_false]) | (with_reducible refine gd_split (fun _ => ?_) (fun _ => ?_)) | (with_reducible refine br_split (fun _ => ?_) (fun _ => ?_)) | (simp only [SSd, Nat.reduceAdd]))
  refine newm (fun m1 => Gh.done (newm (fun m2 => Gh.done (newm (fun m3 => Gh.done ?_)))))
  try simp only [SSd, Nat.reduceAdd]
  refine newI (fun b => ?_)
  refine Gh.to (mL b s ⟨m1, m2, m3, .slice a0 p.fFrom.length c0, .slice a1 p.fTo.length c1, .slice none 0 0, #[], 0, #[], 0, #[], 0⟩ (mchN p sp nt) L) (Gh.done (hk b _ I2 (hI1.trans hI2) ⟨hB1.mono hI2, hB2, MapS.empty, MapSi.empty, MapSi.empty, bnil I2⟩))
theorem newR_spec {p : TSpan} {pc : List Value} (hp : TSpanV I p pc) (h0 : spanOk p = false → K (.tuple #[.pointer none, .int .i64 1]) I L)
    (hk : spanOk p = true → ∀ b X I', Ext I I' → MchR I' b X (mch0 p) → K (.tuple #[pt b, .int .i64 0]) I' (X ++ L)) : Cal Tryz.prog ω 11 #[.agg pc.toArray] K I L := by
  have hp' := hp
  obtain ⟨v0, v1, rfl, g0, g1⟩ := hp
  refine cal11 ?_
  unfold sh11
  refine newI (fun b1 => ?_)
  refine rdB rfl ?_
  refine call (pspan_spec (p := p) hp' ?_)
  try simp only [SSd, Nat.reduceAdd]
  refine br_split (fun e => ?_) (fun e => ?_)
  · exact Gh.to L (Gh.done (h0 (by simpa using e)))
  · have he : spanOk p = true := by simpa using e
    have hl : p.fFrom.length ≤ 111 ∧ p.fTo.length ≤ 111 := by
      simp only [spanOk, Bool.and_eq_true, decide_eq_true_eq] at he
      exact he.1
    refine drawC ?_
    refine rdBS rfl ?_
    refine callG (new_spec (fun bs SX hS => Gh.done ?_))
    refine keepC (Ext.refl _) ?_
    refine call (made_spec sp0 nt0 (p := p) hp' (by omega) (by omega) (fun b V I' hI hF => ?_))
    try simp only [SSd, Nat.reduceAdd]
    exact Gh.to (mL b bs V (mchN p sp0 nt0) (SX ++ L)) (Gh.done (hk he b (mL b bs V (mchN p sp0 nt0) SX) I' hI ⟨bs, V, SX, List.Perm.refl _, hF, hS.mono hI⟩))
end
end Go.Proofs.YtmmfcgbfbcamcaaGreatDoor
