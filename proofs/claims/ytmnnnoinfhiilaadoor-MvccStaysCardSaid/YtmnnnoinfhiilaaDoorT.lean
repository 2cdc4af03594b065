/-
  A space is written: what nobody can read is taken away.
-/
-- S3
import Derived.Test.YtmnnnoinfhiilaaDoorS
set_option linter.unusedSimpArgs false
set_option linter.unusedVariables false
namespace Go.Proofs.YtmnnnoinfhiilaaDoor
open Go.SL
set_option maxRecDepth 10000
def colI (fl : TStamp) (rows : List Row) (i : Nat) : List Row := tidyR ((rows.take i).map (colR fl)) ++ rows.drop i
def goneR (fl : TStamp) (r : Row) : Nat := r.vs.length - (colR fl r).vs.length
def goneC (fl : TStamp) (rows : List Row) : Nat := (rows.map (goneR fl)).sum
def noteR1 (fl : TStamp) (nt : Nts) (r : Row) : Nts := match upTo r.vs fl with
  | none => nt
  | some k => goneN r.key (r.vs.filter (oldB k)) nt
def noteC (fl : TStamp) (rows : List Row) (nt : Nts) : Nts := rows.foldl (noteR1 fl) nt
def colN (sp : Sp) (b : TStamp) (nt : Nts) : Nts := if rightB b = false then nt else noteC (colFl sp b) sp.rows (if bhd b sp.floor = true then updN nt [102] (false, stF b) else nt)
theorem colI_srt {fl : TStamp} {rows : List Row} (hs : SrtK (keysOf rows)) (i : Nat) : SrtK (keysOf (colI fl rows i)) := by
  have h : (keysOf (colI fl rows i)).Sublist (keysOf rows) := by
    unfold colI
    conv => rhs; rw [← List.take_append_drop i rows]
    simp only [keysOf, List.map_append]
    refine List.Sublist.append ?_ (List.Sublist.refl _)
    have e : (rows.take i).map (·.key) = ((rows.take i).map (colR fl)).map (·.key) := by rw [List.map_map]; exact List.map_congr_left fun x _ => (colR_key fl x).symm
    rw [e]
    exact List.Sublist.map _ List.filter_sublist
  exact List.Pairwise.sublist h hs
theorem colI_at {fl : TStamp} {rows : List Row} {i : Nat} (hi : i < rows.length) : colI fl rows i = tidyR ((rows.take i).map (colR fl)) ++ rows[i] :: rows.drop (i + 1) := by
  unfold colI; rw [List.drop_eq_getElem_cons hi]
theorem colI_succ {fl : TStamp} {rows : List Row} {i : Nat} (hi : i < rows.length) : colI fl rows (i + 1) = if emptyB (colR fl rows[i]) = true then tidyR ((rows.take i).map (colR fl)) ++ rows.drop (i + 1) else tidyR ((rows.take i).map (colR fl)) ++ colR fl rows[i] :: rows.drop (i + 1) := by
  unfold colI
  rw [take_snoc hi, List.map_append]
  unfold tidyR
  rw [List.filter_append]
  by_cases h : emptyB (colR fl rows[i]) = true <;> simp [h]
theorem goneR_le (fl : TStamp) (r : Row) : goneR fl r + (colR fl r).vs.length = r.vs.length := by
  have := (colR_sub fl r).length_le
  unfold goneR; omega
theorem filter_sum {α : Type} (f : α → Bool) : ∀ l : List α, (l.filter f).length + (l.filter fun x => !f x).length = l.length
  | [] => rfl
  | x :: l => by
    have := filter_sum f l
    by_cases h : f x = true <;> simp [h] <;> omega
theorem goneR_some {fl : TStamp} {r : Row} {k : TVer} (h : upTo r.vs fl = some k) : goneR fl r = (r.vs.filter (oldB k)).length := by
  have e : (colR fl r).vs = r.vs.filter fun v => !oldB k v := by unfold colR; rw [h]
  have := filter_sum (oldB k) r.vs
  unfold goneR
  rw [e]; omega
theorem goneR_none {fl : TStamp} {r : Row} (h : upTo r.vs fl = none) : goneR fl r = 0 := by
  have e : (colR fl r).vs = r.vs := by unfold colR; rw [h]
  unfold goneR
  rw [e]; omega
theorem versN_tidy (rows : List Row) : versN (tidyR rows) = versN rows := by
  induction rows with
  | nil => rfl
  | cons r rs ih =>
    unfold tidyR versN at *
    rw [List.filter_cons]
    by_cases h : emptyB r = true
    · have hv : r.vs = [] := by
        simp [emptyB] at h; exact h.1
      simp [h, hv]; exact ih
    · simp [h]; exact ih
theorem versN_gone (fl : TStamp) (rows : List Row) : versN (rows.map (colR fl)) + goneC fl rows = versN rows := by
  induction rows with
  | nil => rfl
  | cons r rs ih =>
    have := goneR_le fl r
    simp [versN, goneC] at ih ⊢; omega
theorem goneC_take {fl : TStamp} {rows : List Row} {i : Nat} (hi : i < rows.length) : goneC fl (rows.take (i + 1)) = goneC fl (rows.take i) + goneR fl rows[i] := by
  unfold goneC; rw [take_snoc hi, List.map_append, List.sum_append]; simp only [List.map_cons, List.map_nil, List.sum_cons, List.sum_nil, Nat.add_zero]
theorem noteC_take {fl : TStamp} {rows : List Row} {i : Nat} (hi : i < rows.length) (nt : Nts) : noteC fl (rows.take (i + 1)) nt = noteR1 fl (noteC fl (rows.take i) nt) rows[i] := by
  unfold noteC; rw [take_snoc hi, List.foldl_append]; rfl
section
variable {ω : Om} {I : Imm} {L : LH} {K : Value → M}
theorem col5_spec {b bl bd bg bb bs bk p : Nat} {kp : TVer} {g i : Nat} {k : List UInt8} {A B : List Row} {r : Row} {fl below : TStamp} {nt : Nts} {ps : List Nat} {sl : Value} {Y XN R XC F : LH} {m ch : Nat} {kv : Value} {Kn0 : (Value × Unit) → M}
    (hm : Mid A k B) (hkr : r.key = k) (hs : SrtK (keysOf (A ++ r :: B))) (hlen : (A ++ r :: B).length ≤ 100000000) (hvs : ∀ v ∈ r.vs, rightB v.fAt = true) (hg : g + r.vs.length ≤ 1000000000) (hkl : k.length ≤ 1000) (hi : i < 1000000000)
    (hv : VsO Y sl r.vs) (hN : NoteR I b m ch kv fl XN nt)
    (hclose : ∀ I' r' sl' Y' XN' X' nt', Ext I I' → r'.key = k → VsO Y' sl' r'.vs → NoteR I' b m ch kv fl XN' nt' → X'.Perm ((p, cellO sl' r'.it) :: (Y' ++ (XN' ++ R))) → SpP I' b ps X' ⟨A ++ r' :: B, fl⟩ nt')
    (hL : L.Perm ((p, cellO sl r.it) :: (Y ++ (cloL bl bd bg bs bk b kp g k XN ++ ((bb, stO below) :: (R ++ (XC ++ F)))))))
    (hk : ∀ I' X', Ext I I' → SpR I' b X' ⟨if emptyB ⟨k, r.vs.filter (fun v => !oldB kp v), r.it⟩ = true then A ++ B else A ++ ⟨k, r.vs.filter (fun v => !oldB kp v), r.it⟩ :: B, fl⟩ (goneN k (r.vs.filter (oldB kp)) nt) →
      Gh (Kn0 (.int .i64 ((i : Int) + 1), ())) I' ((bg, .cells #[.int .i64 ((g + (r.vs.filter (oldB kp)).length : Nat) : Int)] 3 (0, 0)) :: (bb, stO below) :: (bs, .cells #[pt b] 24 (0, 0)) :: (XC ++ (X' ++ F)))) :
    sh39_5 ω (pt bs) (pt bg) (pt bk) (pt p) (pt bl) (pt bd) (.int .i64 i) (fun s => Gh (Kn0 s)) (fun v => Gh (K v)) I L := by
  have hmem : (p, cellO sl r.it) ∈ L := hL.mem_iff.2 (List.mem_cons_self ..)
  unfold sh39_5
  try simp only [SSd, Nat.reduceAdd]
  refine rd1 (Cell.own hmem rfl) ?_
  have hvl : r.vs.length ≤ 1000000000 := by omega
  refine callG (Cal.perm (L' := Y ++ (cloL bl bd bg bs bk b kp g k XN ++ ((p, cellO sl r.it) :: (bb, stO below) :: (R ++ (XC ++ F))))) (ms_perm (by rw [ms_eq hL]; ((try simp only [ms_cons, ms_app, ms_nil, ms_nil']); (try ac_rfl)))) ?_)
  refine delF_spec (G := cloL bl bd bg bs bk b kp g k XN) (clo71 (nt := nt) (m := m) (ch := ch) (kv := kv) (fl := fl) (g0 := g) hvs hg hkl) hv hvl ⟨XN, rfl, hN⟩ (fun I' G' Y' v' hI ⟨XN', hG', hN'⟩ hv' => ?_)
  subst hG'
  obtain ⟨sa, sc, rfl⟩ := hv'.form
  refine Gh.perm (L' := (p, cellO sl r.it) :: (Y' ++ (cloL bl bd bg bs bk b kp (g + (r.vs.filter (oldB kp)).length) k XN' ++ ((bb, stO below) :: (R ++ (XC ++ F)))))) (ms_perm (by ((try simp only [ms_cons, ms_app, ms_nil, ms_nil']); (try ac_rfl)))) (Gh.done ?_)
  try simp only [SSd, Nat.reduceAdd]
  refine st1 rfl ?_
  have hS2 := hclose I' ⟨k, r.vs.filter (fun v => !oldB kp v), r.it⟩ _ Y' XN' ((p, cellO (.slice sa (r.vs.filter (fun v => !oldB kp v)).length sc) r.it) :: (Y' ++ (XN' ++ R))) _ hI rfl hv' hN' (List.Perm.refl _)
  refine rdb ?_
  refine rdb ?_
  refine call (Cal.perm (L' := ((p, cellO (.slice sa (r.vs.filter (fun v => !oldB kp v)).length sc) r.it) :: (Y' ++ (XN' ++ R))) ++ ((bl, stO kp.fAt) :: (bd, .cells #[.bool kp.fDel] 4 (0, 0)) :: (bg, .cells #[.int .i64 ((g + (r.vs.filter (oldB kp)).length : Nat) : Int)] 3 (0, 0)) :: (bs, .cells #[pt b] 24 (0, 0)) :: (bk, .cells #[sstr k] 9 (0, 0)) :: (bb, stO below) :: (XC ++ F))) (ms_perm (by ((try simp only [ms_cons, ms_app, ms_nil, ms_nil']); (try ac_rfl)))) ?_)
  refine tidy_spec ⟨ps, hS2⟩ hm rfl (by rw [keys_swap (r := r) hkr.symm]; exact hs) (by simpa using hlen) (fun X3 h3 => ?_)
  unfold sh39_4
  try simp only [SSd, Nat.reduceAdd]
  rw [wrap_i64 _ (by omega)]
  refine Gh.to ((bg, .cells #[.int .i64 ((g + (r.vs.filter (oldB kp)).length : Nat) : Int)] 3 (0, 0)) :: (bb, stO below) :: (bs, .cells #[pt b] 24 (0, 0)) :: (XC ++ (X3 ++ F))) ?_
  exact hk I' X3 hI h3
theorem colI_zero (fl : TStamp) (rows : List Row) : colI fl rows 0 = rows := by simp [colI, tidyR]
theorem colI_all (fl : TStamp) (rows : List Row) : colI fl rows rows.length = tidyR (rows.map (colR fl)) := by simp [colI]
theorem colI_len (fl : TStamp) (rows : List Row) (i : Nat) : (colI fl rows i).length ≤ rows.length := by
  unfold colI tidyR
  rw [List.length_append]
  have h1 := List.length_filter_le (fun r => !emptyB r) ((rows.take i).map (colR fl))
  simp at h1 ⊢
  omega
abbrev colL (b bs bb bg : Nat) (below : TStamp) (g : Nat) (R : LH) : LH := (bg, .cells #[.int .i64 g] 3 (0, 0)) :: (bb, stO below) :: (bs, .cells #[pt b] 24 (0, 0)) :: R
theorem col1_spec {b bs bb : Nat} {rows : List Row} {fl below : TStamp} {nt : Nts} {X F : LH} (hS : SpR I b X ⟨rows, fl⟩ nt) (hok : SpOk ⟨rows, fl⟩) (hlen : rows.length ≤ 100000000) (hn : versN rows ≤ 100000000)
    (hk : ∀ I' X', Ext I I' → SpR I' b X' ⟨tidyR (rows.map (colR fl)), fl⟩ (noteC fl rows nt) → K (.tuple #[.int .i64 (goneC fl rows : Nat), .int .i64 0]) I' (X' ++ F)) :
    sh39_1 ω (pt bs) (.int .i64 0) (.int .i64 0) (fun v => Gh (K v)) I ((bb, stO below) :: (bs, .cells #[pt b] 24 (0, 0)) :: (X ++ F)) := by
  have hs := hok.rise
  simp only at hs
  unfold sh39_1
  refine newI (fun bg => ?_)
  refine st1 rfl ?_
  refine rdb ?_
  obtain ⟨m0, kv0, es0, clock0, ps0, hV0⟩ := hS.view (L := (bg, .cells #[.int .i64 0] 3 (0, 0)) :: (bb, stO below) :: (bs, .cells #[pt b] 24 (0, 0)) :: (X ++ F)) (fun x hx => by simp [hx])
  try simp only [SSd, Nat.reduceAdd]
  refine rdC (hV0.head 1 _ rfl) (Ext.refl _) ?_
  have hkl : (keysOf rows).length = rows.length := by simp [keysOf]
  refine callG (clone_spec hV0.keys (by show (keysOf rows).length * 16 ≤ _; rw [hkl]; omega) (fun XC cv hC => Gh.perm (L' := colL b bs bb bg below 0 (XC ++ (X ++ F))) (ms_perm (by ((try simp only [ms_cons, ms_app, ms_nil, ms_nil']); (try ac_rfl)))) (Gh.done ?_)))
  obtain ⟨ca, cc, rfl⟩ := hC.form
  try simp only [SSd, Nat.reduceAdd]
  simp only at hC ⊢
  rw [hkl]
  have hgt : ∀ i, goneC fl (rows.take i) ≤ 100000000 := by
    intro i
    have h1 := versN_gone fl (rows.take i)
    have h2 : versN (rows.take i) ≤ versN rows := versN_sub (List.take_sublist ..)
    omega
  refine loop (fun n s I' L' => Ext I I' ∧ ∃ (i : Nat) (X' : LH), n + i = rows.length ∧ s = (.int .i64 i, ()) ∧ L' = colL b bs bb bg below (goneC fl (rows.take i)) (XC ++ (X' ++ F)) ∧ SpR I' b X' ⟨colI fl rows i, fl⟩ (noteC fl (rows.take i) nt)) rows.length
    ⟨Ext.refl _, 0, X, rfl, rfl, rfl, by rw [colI_zero]; exact hS⟩ ?_
  rintro n s I' L' ⟨hI, i, X', hni, rfl, rfl, hS'⟩
  unfold sh39_2
  try simp only [SSd, Nat.reduceAdd]
  refine br_split (fun e => ?_) (fun e => ?_)
  rotate_left
  · have hil : i = rows.length := by simp at e; omega
    subst hil
    rw [List.take_length] at hS' ⊢
    rw [colI_all] at hS'
    unfold sh39_7
    refine rdb ?_
    exact Gh.to (X' ++ F) (Gh.done (hk I' X' hI hS'))
  have hil : i < rows.length := by simpa using e
  have hok1 := hok.rows rows[i] (List.getElem_mem hil)
  have hat := colI_at (fl := fl) hil
  have hsrt : SrtK (keysOf (tidyR ((rows.take i).map (colR fl)) ++ rows[i] :: rows.drop (i + 1))) := hat ▸ colI_srt hs i
  have hclen : (tidyR ((rows.take i).map (colR fl)) ++ rows[i] :: rows.drop (i + 1)).length ≤ 100000000 := by rw [← hat]; exact Nat.le_trans (colI_len ..) hlen
  rw [hat] at hS'
  have hsucc := colI_succ (fl := fl) hil
  have hgc := goneC_take (fl := fl) hil
  have hnc := noteC_take (fl := fl) hil nt
  have hgi := hgt i
  have hgs := hgt (i + 1)
  have hvl : rows[i].vs.length ≤ 100000000 := by
    have h1 : versN [rows[i]] ≤ versN rows := versN_sub (List.singleton_sublist.2 (List.getElem_mem hil))
    simp [versN] at h1 hn ⊢; omega
  have hkeyg : geti (keysOf rows) (i : Int) = rows[i].key := by rw [geti_nat (by omega)]; simp [keysOf]
  generalize rows[i] = r at *
  have hm := hsrt.mid
  obtain ⟨ps, hS'⟩ := hS'
  obtain ⟨p, sl, Y, XN, R, m, ch, kv, hp, hv, hN, hclose, hview⟩ := hS'.open2 hm rfl
  obtain ⟨qq, off, c2, hix, hl4, hcc, hcr⟩ := RL.ix (StrO.rl (I := I') (L := XC) hC (fun _ h => h)) (i := (i : Int)) (by omega) (by rw [hkl]; omega)
  obtain rfl : c2 = _ := hcc
  rw [hkeyg] at hcr
  rw [hkl] at hix
  simp only [hix, SSd, Nat.reduceAdd]
  refine rdC (hcr I' XC (Ext.refl _) (fun _ h => h) 0 _ rfl) (Ext.refl _) ?_
  refine newI (fun bk => ?_)
  refine st1 rfl ?_
  refine drawC ?_
  try simp only [SSd, Nat.reduceAdd]
  obtain ⟨m', kv', es', clock', hV, hcp⟩ := hview ((bk, .cells #[sstr r.key] 9 (0, 0)) :: colL b bs bb bg below (goneC fl (rows.take i)) (XC ++ (X' ++ F))) (fun x hx => by simp [hx])
  refine rdbS ?_
  try simp only [SSd, Nat.reduceAdd]
  refine rdCS (hV.head 0 _ rfl) (Ext.refl _) ?_
  refine rdbS ?_
  refine ⟨_, fun I2 L2 hS => lk_at (MapAt.mono hV.at' hS.1 (fun x hx => hS.2 _ (by simpa using hx))) hV.map, ?_⟩
  simp only [hcp, lkV, Bool.false_eq_true, if_false, SSd, Nat.reduceAdd]
  refine rdb ?_
  try simp only [SSd, Nat.reduceAdd]
  have hfl : Cells I' ((bk, .cells #[sstr r.key] 9 (0, 0)) :: colL b bs bb bg below (goneC fl (rows.take i)) (XC ++ (X' ++ F))) b 2 [.int .i64 fl.fWall, .int .i64 fl.fLogic] := by simpa using hV.head.sub (k := 2) (m := 2)
  refine rdNC hfl (Ext.refl _) rfl ?_
  refine call (upToP (hV.cellAt hsrt (rowOf_mid hm rfl) hcp) (by omega) (fun pv hpv => ?_))
  cases hu : upTo r.vs fl with
  | none =>
    rw [hu] at hpv
    obtain rfl : pv = .pointer none := hpv
    have en : binPV .eql (.pointer none) (.pointer none) = some (.bool true) := rfl
    simp only [en, SSd, Nat.reduceAdd]
    unfold sh39_4
    try simp only [SSd, Nat.reduceAdd]
    rw [wrap_i64 _ (by omega)]
    have hc : colR fl r = r := by unfold colR; rw [hu]
    rw [hc, hok1.some] at hsucc
    have hg0 := goneR_none hu
    rw [hg0] at hgc
    have hn1 : noteC fl (rows.take (i + 1)) nt = noteC fl (rows.take i) nt := by rw [hnc]; unfold noteR1; rw [hu]
    refine Gh.to (colL b bs bb bg below (goneC fl (rows.take i)) (XC ++ (X' ++ F))) (Gh.done ⟨n - 1, by omega, hI, i + 1, X', by omega, rfl, by rw [hgc]; rfl, ?_⟩)
    rw [hn1, hsucc]
    exact ⟨ps, hS'⟩
  | some kp =>
    rw [hu] at hpv
    obtain ⟨qq, off2, rfl, hc⟩ := hpv
    obtain ⟨g1, g2, g3⟩ := verAt hc
    try simp only [SSd, Nat.reduceAdd]
    refine drawC ?_
    try simp only [SSd, Nat.reduceAdd]
    refine rdNCS g1 (Ext.refl _) rfl ?_
    refine rdCS g2 (Ext.refl _) ?_
    have hcv : colR fl r = ⟨r.key, r.vs.filter (fun v => !oldB kp v), r.it⟩ := by unfold colR; rw [hu]
    have hg0 := goneR_some hu
    rw [hcv] at hsucc
    rw [hg0] at hgc
    have hn1 : noteC fl (rows.take (i + 1)) nt = goneN r.key (r.vs.filter (oldB kp)) (noteC fl (rows.take i) nt) := by rw [hnc]; unfold noteR1; rw [hu]
    have fin : ∀ I2 X2, Ext I' I2 → SpR I2 b X2 ⟨if emptyB ⟨r.key, r.vs.filter (fun v => !oldB kp v), r.it⟩ = true then tidyR ((rows.take i).map (colR fl)) ++ rows.drop (i + 1) else tidyR ((rows.take i).map (colR fl)) ++ ⟨r.key, r.vs.filter (fun v => !oldB kp v), r.it⟩ :: rows.drop (i + 1), fl⟩ (goneN r.key (r.vs.filter (oldB kp)) (noteC fl (rows.take i) nt)) →
        Gh ((fun s' => fun I2 L2 => ∃ m', m' < n ∧ Ext I I2 ∧ ∃ i X', m' + i = rows.length ∧ s' = (Value.int .i64 (i : Nat), ()) ∧ L2 = colL b bs bb bg below (goneC fl (rows.take i)) (XC ++ (X' ++ F)) ∧ SpR I2 b X' ⟨colI fl rows i, fl⟩ (noteC fl (rows.take i) nt)) (.int .i64 ((i : Int) + 1), ())) I2 ((bg, .cells #[.int .i64 ((goneC fl (rows.take i) + (r.vs.filter (oldB kp)).length : Nat) : Int)] 3 (0, 0)) :: (bb, stO below) :: (bs, .cells #[pt b] 24 (0, 0)) :: (XC ++ (X2 ++ F))) := by
      intro I2 X2 hI2 h2
      refine Gh.done ⟨n - 1, by omega, hI.trans hI2, i + 1, X2, by omega, rfl, by rw [hgc], ?_⟩
      rw [hn1, hsucc]
      exact h2
    refine And.intro ?_ ?_
    · refine newI (fun bl => keepC (Ext.refl _) ?_)
      refine newI (fun bd => keepC (Ext.refl _) ?_)
      refine stB rfl rfl (one_all rfl) ?_
      refine keepC (Ext.refl _) ?_
      refine st1 rfl ?_
      exact col5_spec (XC := XC) (Y := Y) (XN := XN) (R := R) (g := goneC fl (rows.take i)) (i := i) (kp := kp) (below := below) (F := F) hm rfl hsrt hclen (fun v hv => (hok1.vs v hv).right) (by omega) (by have := hok1.keyL; omega) (by omega) hv hN hclose (ms_perm (by simp only [ms_cons, ms_app, ms_eq hp]; ((try simp only [ms_cons, ms_app, ms_nil, ms_nil']); (try ac_rfl)))) fin
    · refine newI (fun bd => keepC (Ext.refl _) ?_)
      refine newI (fun bl => keepC (Ext.refl _) ?_)
      refine stB rfl rfl (one_all rfl) ?_
      refine keepC (Ext.refl _) ?_
      refine st1 rfl ?_
      exact col5_spec (XC := XC) (Y := Y) (XN := XN) (R := R) (g := goneC fl (rows.take i)) (i := i) (kp := kp) (below := below) (F := F) hm rfl hsrt hclen (fun v hv => (hok1.vs v hv).right) (by omega) (by have := hok1.keyL; omega) (by omega) hv hN hclose (ms_perm (by simp only [ms_cons, ms_app, ms_eq hp]; ((try simp only [ms_cons, ms_app, ms_nil, ms_nil']); (try ac_rfl)))) fin
theorem collect_spec {b : Nat} {sp : Sp} {below : TStamp} {nt : Nts} {X F : LH} (hS : SpR I b X sp nt) (hok : SpOk sp) (hlen : sp.rows.length ≤ 100000000) (hn : versN sp.rows ≤ 100000000)
    (hk : ∀ X' I', Ext I I' → SpR I' b X' (colS sp below) (colN sp below nt) → K (.tuple #[.int .i64 (colA sp below).1, .int .i64 (colA sp below).2]) I' (X' ++ F)) :
    Cal Tryd.prog ω 39 #[pt b, sv below] K I (X ++ F) := by
  obtain ⟨rows, fl⟩ := sp
  obtain ⟨ps, m, ch, kv, es, clock, KX, RX, NX, hp, hF⟩ := hS
  simp only at hp hF hlen hn
  by_cases hr : rightB below = false
  · have e1 : colS ⟨rows, fl⟩ below = ⟨rows, fl⟩ := by unfold colS; rw [if_pos hr]
    have e2 : colN ⟨rows, fl⟩ below nt = nt := by unfold colN; rw [if_pos hr]
    have e3 : colA ⟨rows, fl⟩ below = (0, 1) := by unfold colA; rw [if_pos hr]
    rw [e1, e2] at hk
    have hk' := hk X I (Ext.refl _) ⟨ps, m, ch, kv, es, clock, KX, RX, NX, hp, hF⟩
    rw [e3] at hk'
    refine cal39 ?_
    unfold sh39
    refine newI (fun bs => newI (fun bb => ?_))
    refine rdB rfl ?_
    refine call (hright_spec (x := below) ?_)
    simp only [hr, Bool.not_false, SSd, Nat.reduceAdd]
    exact Gh.to (X ++ F) (Gh.done hk')
  have e1 : colS ⟨rows, fl⟩ below = ⟨tidyR (rows.map (colR (colFl ⟨rows, fl⟩ below))), colFl ⟨rows, fl⟩ below⟩ := by unfold colS; rw [if_neg hr]
  have e2 : colN ⟨rows, fl⟩ below nt = noteC (colFl ⟨rows, fl⟩ below) rows (if bhd below fl = true then updN nt [102] (false, stF below) else nt) := by unfold colN; rw [if_neg hr]
  have e3 : colA ⟨rows, fl⟩ below = (((goneC (colFl ⟨rows, fl⟩ below) rows : Nat) : Int), 0) := by
    unfold colA
    rw [if_neg hr, e1]
    have h1 := versN_gone (colFl ⟨rows, fl⟩ below) rows
    have h2 := versN_tidy (rows.map (colR (colFl ⟨rows, fl⟩ below)))
    simp only [h2]
    congr 1
    omega
  rw [e1, e2] at hk
  rw [e3] at hk
  simp only at hk
  refine Cal.perm (L' := (b, spO m kv fl ch) :: (m, .map es clock) :: (KX ++ (RX ++ (NX ++ F)))) (ms_perm (by rw [ms_app, ms_eq hp]; ((try simp only [ms_cons, ms_app, ms_nil, ms_nil']); (try ac_rfl)))) ?_
  refine cal39 ?_
  unfold sh39
  refine newI (fun bs => newI (fun bb => ?_))
  refine rdB rfl ?_
  refine call (hright_spec (x := below) ?_)
  simp only [hr, Bool.not_true, SSd, Nat.reduceAdd]
  refine drawC ?_
  refine rdBS rfl ?_
  refine rdbS ?_
  try simp only [SSd, Nat.reduceAdd]
  refine rdPS [.int .i64 fl.fWall, .int .i64 fl.fLogic] rfl rfl ?_
  have hok2 : SpOk ⟨rows, colFl ⟨rows, fl⟩ below⟩ := ⟨hok.rise, hok.rows, by
    unfold colFl
    simp only
    split
    · simpa using hr
    · exact hok.floor⟩
  have hr' : rightB below = true := by simpa using hr
  by_cases hb : bhd below fl = true
  · have ef : colFl ⟨rows, fl⟩ below = below := if_pos hb
    rw [ef, if_pos hb] at hk
    rw [ef] at hok2
    refine call (behind_spec (x := below) (y := fl) ?_)
    simp only [hb, SSd, Nat.reduceAdd]
    refine rdb ?_
    refine rdB rfl ?_
    try simp only [SSd, Nat.reduceAdd]
    refine stP _ rfl rfl rfl rfl ?_
    try simp only [SSd, Nat.reduceAdd]
    refine rdb ?_
    refine callG (Cal.perm (L' := ((b, spO m kv below ch) :: (m, .map es clock) :: (KX ++ (RX ++ NX))) ++ ((bb, stO below) :: (bs, .cells #[pt b] 24 (0, 0)) :: F)) (ms_perm (by ((try simp only [ms_cons, ms_app, ms_nil, ms_nil']); (try ac_rfl)))) ?_)
    refine noteFloor_spec (sp := ⟨rows, below⟩) (ps := ps) (nt := nt) ⟨m, ch, kv, es, clock, KX, RX, NX, List.Perm.refl _, hF.map, hF.keys, hF.rows, hF.nts⟩ hr' (fun X' I' hI' h' => ?_)
    refine Gh.perm (L' := (bb, stO below) :: (bs, .cells #[pt b] 24 (0, 0)) :: (X' ++ F)) (ms_perm (by ((try simp only [ms_cons, ms_app, ms_nil, ms_nil']); (try ac_rfl)))) (Gh.done ?_)
    exact col1_spec ⟨ps, h'⟩ hok2 hlen hn (fun I2 X2 hI2 h2 => hk X2 I2 (hI'.trans hI2) h2)
  · have ef : colFl ⟨rows, fl⟩ below = fl := if_neg hb
    rw [ef, if_neg hb] at hk
    rw [ef] at hok2
    refine callG (behind_spec (x := below) (y := fl) ?_)
    refine Gh.perm (L' := (bb, stO below) :: (bs, .cells #[pt b] 24 (0, 0)) :: (X ++ F)) (ms_perm (by simp only [ms_cons, ms_app, ms_eq hp]; ((try simp only [ms_cons, ms_app, ms_nil, ms_nil']); (try ac_rfl)))) (Gh.done ?_)
    simp only [Bool.eq_false_iff.2 hb, SSd, Nat.reduceAdd]
    exact col1_spec ⟨ps, m, ch, kv, es, clock, KX, RX, NX, hp, hF⟩ hok2 hlen hn (fun I2 X2 hI2 h2 => hk X2 I2 hI2 h2)
end
end Go.Proofs.YtmnnnoinfhiilaaDoor
