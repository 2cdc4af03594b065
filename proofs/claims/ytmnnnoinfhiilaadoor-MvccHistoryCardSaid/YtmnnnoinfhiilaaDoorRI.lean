/-
  A history of transactions: the walk.
-/
-- S3
import Derived.Test.YtmnnnoinfhiilaaDoorRG
import Derived.Test.YtmnnnoinfhiilaaDoorRE
set_option linter.unusedSimpArgs false
set_option linter.unusedVariables false
namespace Go.Proofs.YtmnnnoinfhiilaaDoor
open Go.SL
set_option maxRecDepth 10000
abbrev OpsV (I : Imm) (xs : List TOp) (c : List Value) : Prop := ∃ v, c = [v] ∧ RL TOpV 3 I [] v xs
abbrev MapV (I : Imm) (xs : List TKV) (c : List Value) : Prop := ∃ v, c = [v] ∧ RL TKVV 2 I [] v xs
theorem MapV.mono {I I' : Imm} {xs : List TKV} {c : List Value} (h : MapV I xs c) (hI : Ext I I') : MapV I' xs c := by
  obtain ⟨v, rfl, h⟩ := h
  exact ⟨v, rfl, RL.monoI (fun x c h => h.mono hI) h hI⟩
section
variable {ω : Om} {I : Imm} {L : LH} {K : Value → M}
theorem Hist.small {i : Nat} {sp : Sp} {maps : List (List TKV)} {l : List TKV} (h : Hist i sp maps l) (hi : i ≤ 30) : ∀ r ∈ sp.rows, r.vs.length ≤ 100000000 := fun r hr => by
  have := vs_le h.cnt r hr
  omega
theorem hist_scan {b bm i n : Nat} {p4 vm : Value} {sp : Sp} {maps : List (List TKV)} {l : List TKV} (hm : (bm, stO (stN n)) ∈ L) (hV : View I L b sp) (h : Hist i sp maps l) (hi : i ≤ 30) (hn : n ≤ i) (hM : RL MapV 1 I [] vm maps) (hk : ∀ I' L', Ext I I' → K (.bool true) I' L') :
    sh3_15 ω p4 (pt b) vm (.int .i64 n) (pt bm) (fun v => Gh (K v)) I L := by
  have hc : Cells I L bm 0 [.int .i64 (stN n).fWall, .int .i64 (stN n).fLogic] := own_cells (l := [.int .i64 (stN n).fWall, .int .i64 (stN n).fLogic]) (T := 34) (fr := (0, 0)) hm 2
  have hnl : n < maps.length := by rw [h.len]; omega
  obtain ⟨s1, s2⟩ := h.scan hi (List.getElem?_eq_getElem hnl)
  obtain ⟨q, off, c, hix, hcl, hcm, hcc⟩ := RL.ix hM (i := (n : Int)) (by omega) (by omega)
  rw [geti_nat hnl] at hcm
  obtain ⟨w, rfl, hw⟩ := hcm
  unfold sh3_15
  try simp only [SSd, Nat.reduceAdd]
  refine rdNC hc (Ext.refl _) rfl ?_
  refine call (scan_spec (p := ⟨[], []⟩) hV h.ok.rise (by have := h.rows; omega) (fun r hr => Nat.le_trans (h.small hi r hr) (by omega)) ⟨_, _, rfl, SlI.nil I 1 none 0, SlI.nil I 1 none 0⟩ (fun I2 u hI2 hu => ?_))
  rw [s2] at hu
  rw [s1]
  simp only [hix, SSd, Nat.reduceAdd]
  refine rdC (hcc I2 [] hI2 (fun _ h => h) 0 _ rfl) (Ext.refl _) ?_
  have hsl := scan_len (sp := sp) (p := ⟨[], []⟩) (m := stN n) (txn := 0) (most := 1000)
  rw [s2] at hsl
  refine call (samerows_spec (L0 := []) hu (RL.monoI (fun x c h => h.mono hI2) hw hI2) (by have := h.rows; omega) (fun t ht => ?_))
  rw [ht rfl]
  simp only [beq_self_eq_true, SSd, Nat.reduceAdd]
  exact Gh.done (hk I2 _ hI2)
theorem hist_end {b i : Nat} {p4 vm : Value} {a : Int} {sp : Sp} {maps : List (List TKV)} {l : List TKV} (hV : View I L b sp) (h : Hist i sp maps l) (hi : i ≤ 30) (hM : RL MapV 1 I [] vm maps) (hk : ∀ I' L', Ext I I' → K (.bool true) I' L') :
    sh3_13 ω (.int .i64 a) p4 (pt b) vm (fun v => Gh (K v)) I L := by
  unfold sh3_13
  have hr : binIV .rem (.int .i64 a) (.int .i64 (maps.length : Int)) = some (.int .i64 (a.tmod maps.length)) := by
    show (if IntKind.i64 = IntKind.i64 then (if (maps.length : Int) = 0 then none else some (Value.int .i64 (a.tmod maps.length))) else none) = _
    rw [if_pos rfl, if_neg (by rw [h.len]; omega)]
  have hab : (a.tmod maps.length).natAbs ≤ i := by
    rw [Int.natAbs_tmod]
    have := Nat.mod_lt a.natAbs (y := (maps.length : Int).natAbs) (by rw [h.len]; omega)
    have := h.len
    omega
  have four : ∀ n : Nat, n ≤ i → sh3_14 ω p4 (pt b) vm (.int .i64 n) (fun v => Gh (K v)) I L := by
    intro n hn
    unfold sh3_14
    try simp only [SSd, Nat.reduceAdd]
    refine newI (fun bm => ?_)
    refine stB rfl rfl (one_all rfl) ?_
    try simp only [SSd, Nat.reduceAdd]
    refine br_split (fun e => ?_) (fun e => ?_)
    · obtain ⟨k, rfl⟩ : ∃ k, n = k + 1 := ⟨n - 1, by simp at e; omega⟩
      have w1 : IntKind.i64.wrap (((k + 1 : Nat) : Int) - 1) = (k : Int) := by rw [wrap_i64 _ (by omega)]; omega
      have w2 : IntKind.i64.wrap (10 * (k : Int)) = 10 * (k : Int) := wrap_i64 _ (by omega)
      have w3 : IntKind.i64.wrap (10 * (k : Int) + 5) = 10 * (k : Int) + 5 := wrap_i64 _ (by omega)
      simp only [w1, w2, w3, SSd, Nat.reduceAdd]
      refine stB rfl rfl (one_all rfl) ?_
      exact hist_scan (n := k + 1) (List.mem_cons_self ..) (hV.mono (Ext.refl _) (fun x hx => List.mem_cons_of_mem _ hx)) h hi hn hM hk
    · obtain rfl : n = 0 := by simp at e; omega
      exact hist_scan (n := 0) (List.mem_cons_self ..) (hV.mono (Ext.refl _) (fun x hx => List.mem_cons_of_mem _ hx)) h hi hn hM hk
  simp only [RL.len hM, hr, SSd, Nat.reduceAdd]
  refine br_split (fun e => ?_) (fun e => ?_)
  · have hlt : a.tmod maps.length < 0 := by simpa using e
    obtain ⟨n, hn⟩ : ∃ n : Nat, 0 - a.tmod maps.length = n := ⟨(a.tmod maps.length).natAbs, by omega⟩
    rw [wrap_i64 _ (by omega), hn]
    exact four n (by omega)
  · have hge : 0 ≤ a.tmod maps.length := by simpa using e
    obtain ⟨n, hn⟩ : ∃ n : Nat, a.tmod maps.length = n := ⟨(a.tmod maps.length).natAbs, by omega⟩
    rw [hn]
    exact four n (by omega)
def PutsI (I0 : Imm) (b i : Nat) (sp : Sp) (t : List TOp) (F : LH) (k : Nat) (v : Value) (I' : Imm) (L' : LH) : Prop := ∃ (X' : LH) (sp1 : Sp) (nt1 : Nts) (ops : List TOp), Ext I0 I' ∧ SpR I' b X' sp1 nt1 ∧ Puts i sp sp1 ops ∧ (∀ y ∈ ops, okOp y = true) ∧ ops.length ≤ k ∧
  ((k < min t.length 10 ∧ ∃ XO cells, L' = X' ++ (XO ++ F) ∧ SlO 31 3 XO v cells ops.length ∧ Recs (TOpV I') 3 ops cells) ∨ (k = min t.length 10 ∧ L' = X' ++ F ∧ RL TOpV 3 I' [] v ops))
theorem PutsI.go {I0 : Imm} {b i k : Nat} {sp sp1 : Sp} {nt1 : Nts} {t ops : List TOp} {F X' XO : LH} {v : Value} {cells : List Value} {A : M} (hI : Ext I0 I) (hS : SpR I b X' sp1 nt1) (hP : Puts i sp sp1 ops) (hops : ∀ y ∈ ops, okOp y = true) (hol : ops.length ≤ k) (hkm : k ≤ min t.length 10) (hO : SlO 31 3 XO v cells ops.length) (hR : Recs (TOpV I) 3 ops cells)
    (hA : ∀ I' L', PutsI I0 b i sp t F k v I' L' → A I' L') : Gh A I (X' ++ (XO ++ F)) := by
  by_cases h : k < min t.length 10
  · exact Gh.done (hA _ _ ⟨X', sp1, nt1, ops, hI, hS, hP, hops, hol, .inl ⟨h, XO, cells, rfl, hO, hR⟩⟩)
  · refine Gh.perm (L' := XO ++ (X' ++ F)) (ms_perm (by ((try simp only [ms_cons, ms_app, ms_nil, ms_nil']); (try ac_rfl)))) (RL.ofO (fun h hI => h.mono hI) hO hR (fun I3 hI3 hv => Gh.done (hA _ _ ⟨X', sp1, nt1, ops, hI.trans hI3, hS.mono hI3, hP, hops, hol, .inr ⟨by omega, rfl, hv⟩⟩)))
theorem hist_puts {b i : Nat} {v0 vm vl : Value} {txns : List (List TOp)} {Kn0 : (Value × Value × Value × Value × Unit) → M} {X F : LH} {sp : Sp} {nt : Nts} {maps : List (List TKV)} {l : List TKV} (hT : RL OpsV 1 I [] v0 txns) (hit : i < txns.length) (htl : txns.length ≤ 9000000000000000000) (htt : ∀ t ∈ txns, t.length ≤ 9000000000000000000) (hi : i < 30) (hS : SpR I b X sp nt) (h : Hist i sp maps l)
    (hk : ∀ I' X' sp1 nt1 v ops, Ext I I' → SpR I' b X' sp1 nt1 → Puts i sp sp1 ops → ops.length ≤ 10 → (∀ y ∈ ops, okOp y = true) → RL TOpV 3 I' [] v ops → sh3_8 ω (.bool false) (pt b) vm vl (.int .i64 i) v Kn0 (fun v => Gh (K v)) I' (X' ++ F)) :
    (LoopM ((.bool false, .slice none 0 0, .int .i64 0, ()) : Value × Value × Value × Unit) fun s Kn1 => sh3_3 ω v0 (pt b) vm vl (.int .i64 i) s.1 s.2.1 s.2.2.1 Kn0 Kn1 (fun v => Gh (K v))) I (X ++ F) := by
  obtain ⟨q, off, c, hix, hcl, hcm, hcc⟩ := RL.ix hT (i := (i : Int)) (by omega) (by omega)
  rw [geti_nat hit] at hcm
  have htl2 := htt _ (List.getElem_mem hit)
  generalize txns[i] = t at *
  obtain ⟨tv, rfl, ht⟩ := hcm
  refine loop (fun n s I' L' => ∃ (k : Nat) (v : Value), n + k = t.length ∧ s = (.bool false, v, .int .i64 k, ()) ∧ k ≤ 10 ∧ PutsI I b i sp t F k v I' L') t.length ⟨0, _, rfl, rfl, by omega, ?_⟩ ?_
  · by_cases h0 : 0 < min t.length 10
    · exact ⟨X, sp, nt, [], Ext.refl _, hS, h.puts, by simp, Nat.le_refl _, .inl ⟨h0, [], [], rfl, SlO.none _ _, rfl⟩⟩
    · exact ⟨X, sp, nt, [], Ext.refl _, hS, h.puts, by simp, Nat.le_refl _, .inr ⟨by omega, rfl, RL.nil _ _⟩⟩
  rintro n s I' L' ⟨k, v, hnk, rfl, hk10, X', sp1, nt1, ops, hI, hS', hP, hops, hol, hcase⟩
  have ht' := RL.monoI (fun x c h => h.mono hI) ht hI
  have htc := hcc I' [] hI (fun _ h => h) 0 _ rfl
  have out : ¬ k < min t.length 10 → sh3_8 ω (.bool false) (pt b) vm vl (.int .i64 i) v Kn0 (fun v => Gh (K v)) I' L' := by
    intro hn
    rcases hcase with ⟨h1, _⟩ | ⟨h1, rfl, hv⟩
    · exact absurd h1 hn
    · exact hk _ _ _ _ _ _ hI hS' hP (by omega) hops hv
  unfold sh3_3
  simp only [hix, SSd, Nat.reduceAdd]
  refine rdC htc (Ext.refl _) ?_
  simp only [RL.len ht', SSd, Nat.reduceAdd]
  refine gd_split (fun e => ?_) (fun e => out (by simp at e; omega))
  try simp only [SSd, Nat.reduceAdd]
  refine br_split (fun e2 => ?_) (fun e2 => out (by simp at e2; omega))
  have hkm : k < min t.length 10 := by simp at e e2; omega
  obtain ⟨_, XO, cells, rfl, hO, hR⟩ := hcase.resolve_right (fun hx => by have := hx.1; omega)
  obtain ⟨q2, off2, c2, hix2, hcl2, hc2, hcc2⟩ := RL.ix ht' (i := (k : Int)) (by omega) (by omega)
  generalize geti t (k : Int) = y at *
  obtain ⟨w1, w2, rfl, g1, g2⟩ := hc2
  obtain ⟨a1, d1, rfl⟩ := Bytes.form g1
  obtain ⟨a2, d2, rfl⟩ := Bytes.form g2
  have hyc := hcc2 I' [] (Ext.refl _) (fun _ h => h)
  have five : ∀ {I5 : Imm} {X5 XO5 L5 : LH} {sp5 : Sp} {nt5 : Nts} {v5 : Value} {cells5 : List Value} {ops5 : List TOp} [SubP (X5 ++ (XO5 ++ F)) L5], Ext I I5 → SpR I5 b X5 sp5 nt5 → Puts i sp sp5 ops5 → (∀ y ∈ ops5, okOp y = true) → ops5.length ≤ k + 1 → SlO 31 3 XO5 v5 cells5 ops5.length → Recs (TOpV I5) 3 ops5 cells5 →
      sh3_5 ω (.bool false) v5 (.int .i64 k) (fun s' => Gh fun I2 L2 => ∃ m', m' < n ∧ ∃ (k : Nat) (v : Value), m' + k = t.length ∧ s' = (.bool false, v, .int .i64 k, ()) ∧ k ≤ 10 ∧ PutsI I b i sp t F k v I2 L2) (fun v => Gh (K v)) I5 L5 := by
    intro I5 X5 XO5 L5 sp5 nt5 v5 cells5 ops5 _ hI5 hS5 hP5 hops5 hol5 hO5 hR5
    unfold sh3_5
    try simp only [SSd, Nat.reduceAdd]
    rw [wrap_i64 _ (by omega)]
    exact Gh.to (X5 ++ (XO5 ++ F)) (PutsI.go hI5 hS5 hP5 hops5 hol5 (by omega) hO5 hR5 (fun I2 L2 h2 => ⟨n - 1, by omega, k + 1, v5, by omega, rfl, by omega, h2⟩))
  have stay : ∀ {L5 : LH} [SubP (X' ++ (XO ++ F)) L5], sh3_5 ω (.bool false) v (.int .i64 k) (fun s' => Gh fun I2 L2 => ∃ m', m' < n ∧ ∃ (k : Nat) (v : Value), m' + k = t.length ∧ s' = (.bool false, v, .int .i64 k, ()) ∧ k ≤ 10 ∧ PutsI I b i sp t F k v I2 L2) (fun v => Gh (K v)) I' L5 :=
    five hI hS' hP hops (by omega) hO hR
  refine rdC htc (Ext.refl _) ?_
  simp only [hix2, SSd, Nat.reduceAdd]
  refine rdNC hyc (Ext.refl _) rfl ?_
  refine newI (fun by' => ?_)
  refine stB rfl rfl (one_all rfl) ?_
  try simp only [SSd, Nat.reduceAdd]
  refine rdb ?_
  refine call (riskey_spec g1 ?_)
  try simp only [SSd, Nat.reduceAdd]
  refine gd_split (fun e3 => ?_) (fun e3 => stay)
  have hkey : keyOk y.fKey = true := by simpa using e3
  refine rdb ?_
  try simp only [SSd, Nat.reduceAdd]
  refine gd_split (fun e4 => ?_) (fun e4 => stay)
  have hlen : y.fValue.length ≤ 100 := by simp at e4; omega
  refine rdb ?_
  have w1 : IntKind.i64.wrap ((i : Int) + 1) = (i : Int) + 1 := wrap_i64 _ (by omega)
  have w2 : IntKind.i64.wrap (10 * (i : Int)) = 10 * (i : Int) := wrap_i64 _ (by omega)
  cases hd : y.fDel with
  | true =>
    try simp only [SSd, Nat.reduceAdd]
    refine rdb ?_
    try simp only [SSd, Nat.reduceAdd]
    refine br_split (fun e5 => stay) (fun e5 => ?_)
    have hok : okOp y = true := by simp [okOp, hkey, hlen]; simp at e5; right; omega
    have hA := hP.acc h.vers hi hok
    refine rdb ?_
    simp only [w1, w2, SSd, Nat.reduceAdd]
    refine rdb ?_
    refine rdb ?_
    try simp only [SSd, Nat.reduceAdd]
    refine Cal.perm List.perm_middle.symm ?_
    refine call (put_spec (x := putI i y) hS' hP.ok (by have := hP.rows; have := h.rows; omega) (fun r hr => by have := vs_le (Nat.le_of_eq hP.vers) r hr; have := h.cnt; omega) ⟨_, _, by simp only [putI, atI, hd], g1, g2⟩ (fun X2 I2 hI2 hS2 => ?_))
    rw [hA]
    try simp only [SSd, Nat.reduceAdd]
    refine newI (fun b49 => ?_)
    refine stB rfl rfl (one_all rfl) ?_
    try simp only [SSd, Nat.reduceAdd]
    refine rdP _ rfl rfl ?_
    refine rec_appG (R := TOpV) (X6 := XO) (x := y) rfl (by omega) hO (hR.imp fun x c h => h.mono hI2) ⟨_, _, by simp only [hd, SSd, Nat.reduceAdd], g1.mono hI2, g2.mono hI2⟩ rfl (one_all rfl) (by omega) (by omega) (fun X1 X6 v6 cells6 h6 hR6 => ?_)
    exact Gh.done (five (hI.trans hI2) hS2 (hP.step h.vers hi hok) (fun z hz => by rcases List.mem_append.1 hz with hz | hz; exact hops z hz; rw [List.mem_singleton.1 hz]; exact hok) (by simp; omega) h6 hR6)
  | false =>
    try simp only [SSd, Nat.reduceAdd]
    have hok : okOp y = true := by simp [okOp, hkey, hlen, hd]
    have hA := hP.acc h.vers hi hok
    refine rdb ?_
    simp only [w1, w2, SSd, Nat.reduceAdd]
    refine rdb ?_
    refine rdb ?_
    try simp only [SSd, Nat.reduceAdd]
    refine Cal.perm List.perm_middle.symm ?_
    refine call (put_spec (x := putI i y) hS' hP.ok (by have := hP.rows; have := h.rows; omega) (fun r hr => by have := vs_le (Nat.le_of_eq hP.vers) r hr; have := h.cnt; omega) ⟨_, _, by simp only [putI, atI, hd], g1, g2⟩ (fun X2 I2 hI2 hS2 => ?_))
    rw [hA]
    try simp only [SSd, Nat.reduceAdd]
    refine newI (fun b49 => ?_)
    refine stB rfl rfl (one_all rfl) ?_
    try simp only [SSd, Nat.reduceAdd]
    refine rdP _ rfl rfl ?_
    refine rec_appG (R := TOpV) (X6 := XO) (x := y) rfl (by omega) hO (hR.imp fun x c h => h.mono hI2) ⟨_, _, by simp only [hd, SSd, Nat.reduceAdd], g1.mono hI2, g2.mono hI2⟩ rfl (one_all rfl) (by omega) (by omega) (fun X1 X6 v6 cells6 h6 hR6 => ?_)
    exact Gh.done (five (hI.trans hI2) hS2 (hP.step h.vers hi hok) (fun z hz => by rcases List.mem_append.1 hz with hz | hz; exact hops z hz; rw [List.mem_singleton.1 hz]; exact hok) (by simp; omega) h6 hR6)
theorem hist_res {b i : Nat} {vm vo vl : Value} {ops : List TOp} {Kn0 : (Value × Value × Value × Value × Unit) → M} {X F : LH} {sp sp1 : Sp} {nt1 : Nts} {maps : List (List TKV)} {l : List TKV} (hi : i < 30) (hS : SpR I b X sp1 nt1) (h : Hist i sp maps l) (hP : Puts i sp sp1 ops) (hops : ∀ y ∈ ops, okOp y = true) (hol : ops.length ≤ 10) (ho : RL TOpV 3 I [] vo ops) (hl : RL TKVV 2 I [] vl l) (hll : l.length ≤ 1000)
    (hk : ∀ I' X' sp2 nt2 vl', Ext I I' → SpR I' b X' sp2 nt2 → Ress i sp sp2 ops ops → RL TKVV 2 I' [] vl' (chgs l ops) → sh3_11 ω (.bool false) vm vl' (.int .i64 i) Kn0 (fun v => Gh (K v)) I' (X' ++ F)) :
    sh3_8 ω (.bool false) (pt b) vm vl (.int .i64 i) vo Kn0 (fun v => Gh (K v)) I (X ++ F) := by
  unfold sh3_8
  refine loop (fun n s I' L' => ∃ (k : Nat) (v : Value) (X' : LH) (sp2 : Sp) (nt2 : Nts), n + k = ops.length ∧ s = (.bool false, v, .int .i64 k, ()) ∧ Ext I I' ∧ L' = X' ++ F ∧ SpR I' b X' sp2 nt2 ∧ Ress i sp sp2 ops (ops.take k) ∧ RL TKVV 2 I' [] v (chgs l (ops.take k))) ops.length ⟨0, vl, X, sp1, nt1, rfl, rfl, Ext.refl _, rfl, hS, hP.res, hl⟩ ?_
  rintro n s I' L' ⟨k, v, X', sp2, nt2, hnk, rfl, hI, rfl, hS2, hR, hv⟩
  have ho' := RL.monoI (fun x c h => h.mono hI) ho hI
  unfold sh3_9
  simp only [RL.len ho', SSd, Nat.reduceAdd]
  refine br_split (fun e => ?_) (fun e => ?_)
  · have hkl : k < ops.length := by simpa using e
    have hcl := chgs_len l (ops.take k)
    rw [List.length_take] at hcl
    obtain ⟨q, off, c, hix, hcl2, hc, hcc⟩ := RL.ix ho' (i := (k : Int)) (by omega) (by omega)
    rw [geti_nat hkl] at hc
    obtain ⟨v', hsl, hpart⟩ := RL.part ho' (lo := k) (hi := k + 1) (by omega) (by omega) (some (.int .i64 k)) (some (.int .i64 ((k : Int) + 1))) (by simp [bndV]; omega) (fun cap hcap => by simp [bndV]; omega)
    have hone : (ops.drop k).take (k + 1 - k) = [ops[k]] := by
      rw [List.drop_eq_getElem_cons hkl, show k + 1 - k = 1 by omega]; rfl
    rw [hone] at hpart
    have hok := hops _ (List.getElem_mem hkl)
    have hmem := List.getElem_mem hkl
    have hnext : chgs (chgs l (ops.take k)) [ops[k]] = chgs l (ops.take (k + 1)) := by
      rw [List.take_succ_eq_append_getElem hkl]; unfold chgs; rw [List.foldl_append]
    have htake : ops.take k ++ [ops[k]] = ops.take (k + 1) := (List.take_succ_eq_append_getElem hkl).symm
    obtain ⟨r1, r2⟩ := hR.step h.vers hi hok hmem
    rw [htake] at r2
    generalize ops[k] = y at *
    obtain ⟨w1, w2, rfl, g1, g2⟩ := hc
    have hyc := hcc I' [] (Ext.refl _) (fun _ h => h)
    obtain ⟨o1, o2, o3⟩ := okOp_iff hok
    have hch : ChOk [y] := ⟨fun z hz => by rw [List.mem_singleton.1 hz]; simp [keyOk] at o1; exact ⟨by omega, by omega, o3⟩, List.pairwise_singleton _ _⟩
    simp only [hix, SSd, Nat.reduceAdd]
    refine rdC (hyc 1 _ rfl) (Ext.refl _) ?_
    have x1 : IntKind.i64.wrap ((i : Int) + 1) = (i : Int) + 1 := wrap_i64 _ (by omega)
    have x2 : IntKind.i64.wrap (10 * (i : Int)) = 10 * (i : Int) := wrap_i64 _ (by omega)
    have x3 : IntKind.i64.wrap (10 * (i : Int) + 5) = 10 * (i : Int) + 5 := wrap_i64 _ (by omega)
    have x4 : IntKind.i64.wrap ((k : Int) + 1) = (k : Int) + 1 := wrap_i64 _ (by omega)
    simp only [x1, x2, x3, x4, hsl, SSd, Nat.reduceAdd]
    have hvn : ∀ r ∈ sp2.rows, r.vs.length ≤ 100000000 := fun r hr => by
      have h1 := vs_le hR.vers r hr
      have h2 := h.cnt
      rw [List.length_take] at h1
      omega
    refine call (resolve_spec (a := atC i) hS2 hR.ok (by have := hR.rows; have := h.rows; omega) hvn g1 (fun X3 I3 hI3 hS3 => ?_))
    rw [r1]
    try simp only [SSd, Nat.reduceAdd]
    refine call (changed13_spec (RL.monoI (fun x c h => h.mono hI3) hv hI3) (RL.monoI (fun x c h => h.mono hI3) hpart hI3) hch (by omega) (by simp) (fun I4 v4 hI4 hv4 => ?_))
    rw [hnext] at hv4
    try simp only [SSd, Nat.reduceAdd]
    exact Gh.done ⟨n - 1, by omega, k + 1, v4, X3, _, _, by omega, rfl, hI.trans (hI3.trans hI4), rfl, hS3.mono hI4, r2, hv4⟩
  · have hkl : k = ops.length := by simp at e; omega
    subst hkl
    rw [List.take_length] at hR hv
    exact hk _ _ _ _ _ hI hS2 hR hv
theorem rec_app1G {α : Type} {R : Imm → α → List Value → Prop} {T bytes : Nat} {z : Array Value} {X6 L0 F : LH} {v : Value} {xs : List α} {x : α} {cells : List Value} [SplitL X6 L0 F] {w : Value} (hz : z.size = 1) (h6 : SlO T 1 X6 v cells xs.length) (hR : Recs (R I) 1 xs cells) (hx : R I x [w]) (h1 : w.oneCell' = true) (hb : (xs.length + 1) * bytes ≤ 150000000000000) (hl : xs.length + 1 ≤ 150000000000000)
    (hk : ∀ X1 X6' v' cells', SlO T 1 X6' v' cells' (xs ++ [x]).length → Recs (R I) 1 (xs ++ [x]) cells' → Gh (K v') I (X6' ++ (X1 ++ F))) :
    BldS T 1 z 1 [(0, w)] (gh fun u => App T 1 bytes z v u (gh K)) I L0 := by
  have hc : w.cells = #[w] := by cases w <;> first | rfl | simp [Value.oneCell'] at h1
  refine bld_one hz (by omega) (by rw [hc]; rfl) (fun X1 u hX1 => ?_)
  rw [hc] at hX1
  refine app_ownG (X := X6) hz h6 (hX1.news (fun x hx => List.mem_append_left _ hx)) (by simpa using h1) hb hl (fun X' v' hX' => ?_)
  exact hk X1 X' v' _ (by simpa using hX') (Recs.append hR (Recs.one rfl hx))
def HistI (I0 : Imm) (b N : Nat) (F : LH) (i : Nat) (vm vl : Value) (I' : Imm) (L' : LH) : Prop := ∃ (sp : Sp) (maps : List (List TKV)) (l : List TKV) (X : LH) (nt : Nts), Ext I0 I' ∧ SpR I' b X sp nt ∧ Hist i sp maps l ∧ l.length ≤ 10 * i ∧ RL TKVV 2 I' [] vl l ∧
  ((i < min N 30 ∧ ∃ XM cells, L' = X ++ (XM ++ F) ∧ SlO 27 1 XM vm cells maps.length ∧ Recs (MapV I') 1 maps cells) ∨ (i = min N 30 ∧ L' = X ++ F ∧ RL MapV 1 I' [] vm maps))
theorem HistI.go {I0 : Imm} {b N i : Nat} {F X XM : LH} {sp : Sp} {nt : Nts} {maps : List (List TKV)} {l : List TKV} {vm vl : Value} {cells : List Value} {A : M} (hI : Ext I0 I) (hS : SpR I b X sp nt) (h : Hist i sp maps l) (hl : l.length ≤ 10 * i) (hv : RL TKVV 2 I [] vl l) (him : i ≤ min N 30) (hO : SlO 27 1 XM vm cells maps.length) (hR : Recs (MapV I) 1 maps cells)
    (hA : ∀ I' L', HistI I0 b N F i vm vl I' L' → A I' L') : Gh A I (X ++ (XM ++ F)) := by
  by_cases h0 : i < min N 30
  · exact Gh.done (hA _ _ ⟨sp, maps, l, X, nt, hI, hS, h, hl, hv, .inl ⟨h0, XM, cells, rfl, hO, hR⟩⟩)
  · refine Gh.perm (L' := XM ++ (X ++ F)) (ms_perm (by ((try simp only [ms_cons, ms_app, ms_nil, ms_nil']); (try ac_rfl)))) (RL.ofO (fun h hI => h.mono hI) hO hR (fun I3 hI3 hm => Gh.done (hA _ _ ⟨sp, maps, l, X, nt, hI.trans hI3, hS.mono hI3, h, hl, RL.monoI (fun x c h => h.mono hI3) hv hI3, .inr ⟨by omega, rfl, hm⟩⟩)))
theorem history_law {v0 : Value} {a : Int} {txns : List (List TOp)} (hT : RL OpsV 1 I [] v0 txns) (htl : txns.length ≤ 9000000000000000000) (htt : ∀ t ∈ txns, t.length ≤ 9000000000000000000) (hk : ∀ I' L', Ext I I' → K (.bool true) I' L') : Cal Tryd.prog ω 3 #[v0, .int .i64 a] K I L := by
  refine cal3 ?_
  unfold sh3
  refine call (awake_spec (fun I1 hI1 => ?_))
  refine call (new_spec (fun b X hS => ?_))
  simp only [Bool.not_true, SSd, Nat.reduceAdd]
  haveI hsp : SplitL [] (X ++ L) (X ++ L) := ⟨List.Perm.refl _⟩
  refine rec_app1G (R := MapV) (X6 := []) (F := X ++ L) (xs := []) (x := []) (cells := []) rfl (SlO.none _ _) rfl ⟨_, rfl, RL.nil _ _⟩ rfl (by simp) (by simp) (fun X1 XM vm cells hO hR => ?_)
  refine Gh.to (X ++ (XM ++ L)) (HistI.go (maps := [[]]) (N := txns.length) hI1 hS Hist.zero (Nat.le_refl _) (RL.nil none 0) (Nat.zero_le _) hO hR (fun I2 L2 h2 => ?_))
  refine loop (fun n s I' L' => ∃ (i : Nat) (vm vl : Value), n + i = txns.length ∧ s = (.bool false, vm, vl, .int .i64 i, ()) ∧ i ≤ 30 ∧ HistI I b txns.length L i vm vl I' L') txns.length ⟨0, vm, _, rfl, rfl, by omega, h2⟩ ?_
  rintro n s I' L' ⟨i, vm, vl, hni, rfl, hi30, sp, maps, l, X, nt, hI, hS, h, hll, hvl, hcase⟩
  have hT' : RL OpsV 1 I' [] v0 txns := RL.monoI (fun x c h => by obtain ⟨w, rfl, hw⟩ := h; exact ⟨w, rfl, RL.monoI (fun x c h => h.mono hI) hw hI⟩) hT hI
  have out : ¬ i < min txns.length 30 → sh3_13 ω (.int .i64 a) (.bool false) (pt b) vm (fun v => Gh (K v)) I' L' := by
    intro hn
    obtain ⟨h1, rfl, hm⟩ := hcase.resolve_left (fun hx => hn hx.1)
    exact hist_end (hS.view (fun y hy => List.mem_append_left _ hy)) h hi30 hm (fun I5 L5 hI5 => hk _ _ (hI.trans hI5))
  unfold sh3_2
  simp only [RL.len hT, SSd, Nat.reduceAdd]
  refine gd_split (fun e => ?_) (fun e => out (by simp at e; omega))
  try simp only [SSd, Nat.reduceAdd]
  refine br_split (fun e2 => ?_) (fun e2 => out (by simp at e2; omega))
  have hit : i < txns.length := by simpa using e
  have hi : i < 30 := by simp at e2; omega
  obtain ⟨_, XM, cells, rfl, hO, hR⟩ := hcase.resolve_right (fun hx => by have := hx.1; omega)
  refine hist_puts (maps := maps) (l := l) hT' hit htl htt hi hS h (fun I2 X2 sp1 nt1 v2 ops hI2 hS2 hP hol hops ho => ?_)
  refine hist_res hi hS2 h hP hops hol ho (RL.monoI (fun x c h => h.mono hI2) hvl hI2) (by omega) (fun I3 X3 sp2 nt2 vl3 hI3 hS3 hRs hv3 => ?_)
  have hcl := chgs_len l ops
  unfold sh3_11
  refine rec_app1 (R := MapV) (X6 := XM) (x := chgs l ops) rfl hO (hR.imp fun x c h => h.mono (hI2.trans hI3)) ⟨_, rfl, hv3⟩ (RL.formK hv3) (by have := h.len; omega) (by have := h.len; omega) (fun X1 XM' vm' cells' hO' hR' => ?_)
  try simp only [SSd, Nat.reduceAdd]
  rw [wrap_i64 _ (by omega)]
  exact Gh.to (X3 ++ (XM' ++ L)) (HistI.go (hI.trans (hI2.trans hI3)) hS3 (h.next hRs hol) (by omega) hv3 (by omega) hO' hR' (fun I5 L5 h5 => ⟨n - 1, by omega, i + 1, vm', vl3, by omega, rfl, by omega, h5⟩))
end
end Go.Proofs.YtmnnnoinfhiilaaDoor
namespace Go.Proofs.YtmnnnoinfhiilaaDoor
open Go.SL
set_option maxRecDepth 10000
theorem tr_ops {W : World} {v : Value} (h : TrR reachBytes Tryd.prog W 28 [v]) : ∃ ss : List TOp, RL TOpV 3 (heapI W) [] v ss ∧ ss.length ≤ 9000000000000000000 := by
  obtain ⟨cells, xs, hS, hRR, hlen⟩ := tr_recs (R := fun x c => TOpV (heapI W) x c) Tryd.underlying28 (by rw [ceTOp]; omega) h (fun c hc => (TOp_open hc).imp fun _ h => h.2)
  rw [ceTOp] at hS hRR
  rw [byTOp] at hlen
  have e : reachBytes = 140737488351232 := by rfl
  exact ⟨xs, RL.ofI hS hRR, by omega⟩
theorem ceOps : Tryd.prog.cellsOf 28 = 1 := by kernel_rfl
theorem byOps : Tryd.prog.bytesOf 28 = 24 := by kernel_rfl
theorem history_walk {W : World} {base : Nat} {v0 v1 : Value} (o0 : Value.okWide Tryd.prog W .any base 22 v0) (t0 : Tr Tryd.prog W 22 v0.cells.toList)
    (o1 : Value.okWide Tryd.prog W .any base 3 v1) (t1 : Tr Tryd.prog W 3 v1.cells.toList) (ω : Om) :
    Cal Tryd.prog ω 3 #[v0, v1] (fun v I' _ => v = .bool true ∧ Ext (heapI W) I') (heapI W) [] := by
  obtain ⟨a, rfl, _⟩ := top_int Tryd.underlying3 o1 t1
  obtain ⟨cells, xs, hS, hRR, hlen⟩ := tr_recs (R := fun (x : List TOp) c => OpsV (heapI W) x c ∧ x.length ≤ 9000000000000000000) Tryd.underlying22 (by rw [ceOps]; omega) (top_slice Tryd.underlying22 o0 t0) (fun c hc => by
    obtain ⟨v, rfl⟩ := tr_one ceOps Tryd.underlying28 hc
    obtain ⟨ss, h1, h2⟩ := tr_ops hc
    exact ⟨ss, ⟨v, rfl, h1⟩, h2⟩)
  rw [ceOps] at hS hRR
  rw [byOps] at hlen
  have e : reachBytes = 140737488351232 := by rfl
  exact history_law (RL.ofI hS (hRR.imp fun _ _ h => h.1)) (by omega) (recs_all (fun _ _ h => h.2) hRR) (fun I' _ hI => ⟨rfl, hI⟩)
end Go.Proofs.YtmnnnoinfhiilaaDoor
