/-
  Versions taken out of a slice.
-/
-- S3
import Derived.Test.YtmnnnoinfhiilaaDoorR
set_option linter.unusedSimpArgs false
set_option linter.unusedVariables false
namespace Go.Proofs.YtmnnnoinfhiilaaDoor
open Go.SL
set_option maxRecDepth 10000
section
variable {ω : Om} {I : Imm} {L : LH} {K : Value → M}
theorem calV_func {P : Program} {f : FuncId} {first cap args : Array Value} (he : entersB P f = true) (h : Cal P ω f (first ++ args ++ cap) K I L) : CalV P ω (.func (.func f) first cap) args K I L := by
  simp only [CalV]
  rw [if_pos he]
  exact h
structure Clo (ω : Om) (fid : FuncId) (caps : Array Value) (f : TVer → Bool) (vs : List TVer) (J : List TVer → Imm → LH → Prop) : Prop where
  ent : entersB Tryd.prog fid = true
  mono : ∀ done I I' G, J done I G → Ext I I' → J done I' G
  step : ∀ done v rest I G L (K : Value → M), vs = done ++ v :: rest → J done I G → (∀ I' G', Ext I I' → J (done ++ [v]) I' G' → K (.bool (f v)) I' (G' ++ L)) → Cal Tryd.prog ω fid (#[] ++ #[vv v] ++ caps) K I (G ++ L)
theorem take_snoc {α : Type} {l : List α} {j : Nat} (h : j < l.length) : l.take (j + 1) = l.take j ++ [l[j]] := by
  rw [List.take_add_one, List.getElem?_eq_getElem h]; rfl
theorem split_at {α : Type} {l : List α} {j : Nat} (h : j < l.length) : l = l.take j ++ l[j] :: l.drop (j + 1) := by
  rw [← List.drop_eq_getElem_cons h, List.take_append_drop]
theorem indexF_spec {fid : FuncId} {caps : Array Value} {f : TVer → Bool} {vs : List TVer} {J : List TVer → Imm → LH → Prop} {Y G F : LH} {sl : Value} (hc : Clo ω fid caps f vs J) (hv : VsO Y sl vs) (hlen : vs.length ≤ 1000000000) (hJ : J [] I G)
    (h1 : ∀ I' G', Ext I I' → J vs I' G' → (∀ v ∈ vs, f v = false) → K (.int .i64 (-1)) I' (Y ++ (G' ++ F)))
    (h2 : ∀ I' G' (i : Nat) (hi : i < vs.length), Ext I I' → J (vs.take (i + 1)) I' G' → (∀ v ∈ vs.take i, f v = false) → f vs[i] = true → K (.int .i64 i) I' (Y ++ (G' ++ F))) :
    Cal Tryd.prog ω 83 #[sl, .func (.func fid) #[] caps] K I (Y ++ (G ++ F)) := by
  refine cal83 ?_
  unfold sh83
  obtain ⟨sa, sc, rfl⟩ := hv.form
  try simp only [SSd, Nat.reduceAdd]
  refine loop (fun n s I' L' => Ext I I' ∧ ∃ (j : Nat) (G' : LH), n + j = vs.length ∧ s = (.int .i64 0, .int .i64 j, ()) ∧ L' = Y ++ (G' ++ F) ∧ J (vs.take j) I' G' ∧ ∀ v ∈ vs.take j, f v = false) vs.length ⟨Ext.refl _, 0, G, rfl, rfl, rfl, by simpa using hJ, by simp⟩ ?_
  rintro n s I' L' ⟨hI, j, G', hnj, rfl, rfl, hj, hA⟩
  unfold sh83_1
  try simp only [SSd, Nat.reduceAdd]
  refine br_split (fun e => ?_) (fun e => ?_)
  · have hjl : j < vs.length := by simpa using e
    obtain ⟨qq, off, cc, hix, hl4, hcc, hcr⟩ := RL.ix (VsO.rl (I := I') (L := Y) hv (fun _ h => h)) (i := (j : Int)) (by omega) (by omega)
    obtain rfl : cc = verC _ := hcc
    rw [geti_nat hjl] at hcr
    simp only [hix, SSd, Nat.reduceAdd]
    refine rdNC (hcr I' Y (Ext.refl _) (fun _ h => h)) (Ext.refl _) rfl ?_
    refine calV_func hc.ent (Cal.gh (Cal.perm (L' := G' ++ (Y ++ F)) (ms_perm (by ((try simp only [ms_cons, ms_app, ms_nil, ms_nil']); (try ac_rfl)))) (hc.step (vs.take j) vs[j] (vs.drop (j + 1)) _ _ _ _ (split_at hjl) hj (fun I2 G2 hI2 h2' => Gh.perm (L' := Y ++ (G2 ++ F)) (ms_perm (by ((try simp only [ms_cons, ms_app, ms_nil, ms_nil']); (try ac_rfl)))) (Gh.done (Gh.done ?_))))))
    rw [← take_snoc hjl] at h2'
    refine br_split (fun e2 => ?_) (fun e2 => ?_)
    · exact Gh.done (h2 I2 G2 j hjl (hI.trans hI2) h2' hA e2)
    · try simp only [SSd, Nat.reduceAdd]
      rw [wrap_i64 _ (by omega)]
      refine Gh.done ⟨n - 1, by omega, hI.trans hI2, j + 1, G2, by omega, rfl, rfl, h2', fun v hv => ?_⟩
      rw [take_snoc hjl] at hv
      rcases List.mem_append.1 hv with hv | hv
      · exact hA v hv
      · simp only [List.mem_singleton] at hv; subst hv; exact e2
  · have hjl : j = vs.length := by simp at e; omega
    subst hjl
    rw [List.take_length] at hj hA
    exact Gh.done (h1 I' G' hI hj hA)
theorem versC_at {vs : List TVer} {j : Nat} (hj : j < vs.length) : ((versC vs).drop (j * 4)).take 4 = verC vs[j] := by
  have h := (versC_recs (I := fun _ => none) vs).get (i := j) (x := vs[j]) (by simp [hj])
  exact h.2
theorem versC_get {vs : List TVer} {j k : Nat} {u : Value} (hj : j < vs.length) (hk : (verC vs[j])[k]? = some u) : (versC vs)[j * 4 + k]? = some u := by
  have hlt : k < 4 := by have := (List.getElem?_eq_some_iff.1 hk).1; simpa [verC] using this
  rw [← versC_at hj, List.getElem?_take, if_pos hlt, List.getElem?_drop] at hk
  exact hk
theorem delF_spec {fid : FuncId} {caps : Array Value} {f : TVer → Bool} {vs : List TVer} {J : List TVer → Imm → LH → Prop} {Y G F : LH} {sl : Value} (hc : Clo ω fid caps f vs J) (hv : VsO Y sl vs) (hlen : vs.length ≤ 1000000000) (hJ : J [] I G)
    (hk : ∀ I' G' Y' v', Ext I I' → J vs I' G' → VsO Y' v' (vs.filter fun v => !f v) → K v' I' (Y' ++ (G' ++ F))) :
    Cal Tryd.prog ω 70 #[sl, .func (.func fid) #[] caps] K I (Y ++ (G ++ F)) := by
  refine cal70 ?_
  unfold sh70
  refine call (indexF_spec hc hv hlen hJ (fun I1 G1 hI1 hJ1 hA => ?_) (fun I1 G1 i hi hI1 hJ1 hA hf => ?_))
  · have e : ((-1 : Int) == -1) = true := rfl
    simp only [e, SSd, Nat.reduceAdd]
    rw [List.filter_eq_self.2 (fun v hv => by simp [hA v hv])] at hk
    exact Gh.done (hk I1 G1 Y sl hI1 hJ1 hv)
  have e : ((i : Int) == -1) = false := by simp
  simp only [e, SSd, Nat.reduceAdd]
  rw [wrap_i64 _ (by omega)]
  obtain ⟨hcl, ⟨_, h0, _⟩ | ⟨b, cap, cs, rfl, rfl, hsz, hle, hcs⟩⟩ := hv
  · omega
  have hkeep0 : (vs.take (i + 1)).filter (fun v => !f v) = vs.take i := by
    rw [take_snoc hi, List.filter_append, List.filter_eq_self.2 (fun v hv => by simp [hA v hv])]
    simp [hf]
  refine loop (fun n s I' L' => Ext I I' ∧ ∃ (j q : Nat) (W : Array Value) (G' : LH), n + j = vs.length ∧ s = (.int .i64 q, .int .i64 j, ()) ∧ L' = [(b, Obj.cells W 80 (0, 0))] ++ (G' ++ F) ∧ J (vs.take j) I' G' ∧ q < j ∧ W.size = cap * 4 ∧ q = ((vs.take j).filter (fun v => !f v)).length ∧
      (∀ (k : Nat) (u : Value), (versC ((vs.take j).filter (fun v => !f v)))[k]? = some u → W[k]? = some u) ∧ (∀ (k : Nat) (u : Value), j * 4 ≤ k → (versC vs)[k]? = some u → W[k]? = some u)) (vs.length - (i + 1))
    ⟨hI1, i + 1, i, cs, G1, by omega, by simp, rfl, hJ1, by omega, hsz, by rw [hkeep0, List.length_take]; omega, fun k u hu => ?_, fun k u _ hu => hcs k u hu⟩ ?_
  · rw [hkeep0] at hu
    refine hcs k u ?_
    rw [show versC vs = versC (vs.take i) ++ versC (vs.drop i) by rw [← versC_append, List.take_append_drop], List.getElem?_append_left (List.getElem?_eq_some_iff.1 hu).1]
    exact hu
  rintro n s I' L' ⟨hI, j, q, W, G', hnj, rfl, rfl, hj, hqj, hW, hq, hA1, hA2⟩
  unfold sh70_1
  try simp only [SSd, Nat.reduceAdd]
  refine br_split (fun e => ?_) (fun e => ?_)
  · have hjl : j < vs.length := by simpa using e
    simp only [ixV_int b 0 4 .i64 vs.length cap (j : Int) (by omega) (by omega), Int.toNat_natCast, SSd, Nat.reduceAdd]
    refine rdN (vs := verC vs[j]) rfl (fun k u hu => Cell.own (List.mem_append_left _ (List.mem_singleton.2 rfl)) (hA2 _ u (by omega) (versC_get hjl hu))) ?_
    refine newI (fun bv => ?_)
    refine stB (vs := verC vs[j]) rfl rfl (one_all rfl) ?_
    refine rdB (l := verC vs[j]) rfl ?_
    refine calV_func hc.ent (Cal.gh (Cal.perm (L' := G' ++ ((bv, .cells (verC vs[j]).toArray 80 (0, 0)) :: (b, Obj.cells W 80 (0, 0)) :: F)) (ms_perm (by ((try simp only [ms_cons, ms_app, ms_nil, ms_nil']); (try ac_rfl)))) (hc.step (vs.take j) vs[j] (vs.drop (j + 1)) _ _ _ _ (split_at hjl) hj (fun I2 G2 hI2 h2' =>
      Gh.perm (L' := (bv, .cells (verC vs[j]).toArray 80 (0, 0)) :: (b, Obj.cells W 80 (0, 0)) :: (G2 ++ F)) (ms_perm (by ((try simp only [ms_cons, ms_app, ms_nil, ms_nil']); (try ac_rfl)))) (Gh.done (Gh.done ?_))))))
    rw [← take_snoc hjl] at h2'
    have hfil : (vs.take (j + 1)).filter (fun v => !f v) = if f vs[j] = true then (vs.take j).filter (fun v => !f v) else (vs.take j).filter (fun v => !f v) ++ [vs[j]] := by
      rw [take_snoc hjl, List.filter_append]
      by_cases hfj : f vs[j] = true <;> simp [hfj]
    try simp only [SSd, Nat.reduceAdd]
    refine br_split (fun e2 => ?_) (fun e2 => ?_)
    · have e2' : f vs[j] = false := by simpa using e2
      rw [if_neg (by rw [e2']; simp)] at hfil
      refine rdB (l := verC vs[j]) rfl ?_
      simp only [ixV_int b 0 4 .i64 vs.length cap (q : Int) (by omega) (by omega), Int.toNat_natCast, SSd, Nat.reduceAdd]
      have hkl : (versC ((vs.take j).filter (fun v => !f v))).length = q * 4 := by rw [versC_len, hq]
      have hfit : q * 4 + (verC vs[j]).length ≤ W.size := by rw [hW]; simp [verC]; omega
      refine ⟨b, q * 4, W, 80, [(bv, .cells (verC vs[j]).toArray 80 (0, 0))], G2 ++ F, rfl, rfl, one_all rfl, by rw [hW]; omega, rfl, ?_⟩
      unfold sh70_3
      try simp only [SSd, Nat.reduceAdd]
      rw [wrap_i64 _ (by omega), wrap_i64 _ (by omega)]
      refine Gh.to ((b, Obj.cells (wr W (q * 4) (verC vs[j])) 80 (0, 0)) :: (G2 ++ F)) (Gh.done (Gh.done ⟨n - 1, by omega, hI.trans hI2, j + 1, q + 1, _, G2, by omega, rfl, rfl, h2', by omega, by rw [wr_size]; exact hW, by rw [hfil, List.length_append, ← hq]; rfl, fun k u hu => ?_, fun k u hk hu => ?_⟩))
      · rw [hfil, versC_append] at hu
        rw [wr_get _ _ _ _ hfit]
        by_cases hk : k < q * 4
        · rw [if_pos hk]
          rw [List.getElem?_append_left (by omega)] at hu
          exact hA1 k u hu
        · rw [List.getElem?_append_right (by omega), hkl] at hu
          have hlt := (List.getElem?_eq_some_iff.1 hu).1
          have e4 : versC [vs[j]] = verC vs[j] := by simp [versC]
          rw [e4] at hu hlt
          rw [if_neg hk, if_pos (by omega)]
          exact hu
      · rw [wr_get _ _ _ _ hfit, if_neg (by omega), if_neg (by simp [verC]; omega)]
        exact hA2 k u (by omega) hu
    · have e2' : f vs[j] = true := by simpa using e2
      rw [if_pos e2'] at hfil
      unfold sh70_3
      try simp only [SSd, Nat.reduceAdd]
      rw [wrap_i64 _ (by omega)]
      refine Gh.to ((b, Obj.cells W 80 (0, 0)) :: (G2 ++ F)) (Gh.done ⟨n - 1, by omega, hI.trans hI2, j + 1, q, W, G2, by omega, rfl, rfl, h2', by omega, hW, by rw [hfil]; exact hq, by rw [hfil]; exact hA1, fun k u hk hu => hA2 k u (by omega) hu⟩)
  · have hjl : j = vs.length := by simp at e; omega
    subst hjl
    rw [List.take_length] at hj hA1 hq
    unfold sh70_5
    have s1 := slcN (b := b) (off := 0) (len := vs.length) (cap := cap) (lo := q) (hi := vs.length) (n := 4) (blo := some (.int .i64 q)) (bhi := none) (bnd_in _ _ _ _ (by omega)) rfl (by omega)
    have s2 := slcN (b := b) (off := 0) (len := vs.length) (cap := cap) (lo := 0) (hi := q) (n := 4) (blo := none) (bhi := some (.int .i64 q)) rfl (bnd_in _ _ _ _ (by omega)) (by omega)
    simp only [s1, SSd, Nat.reduceAdd]
    refine .inr ⟨b, _, vs.length - q, cap - q, W, 80, [], G' ++ F, rfl, rfl, by rw [hW]; simp; omega, one_all rfl, Gh.done ?_⟩
    simp only [Nat.sub_zero, Nat.zero_mul, Nat.add_zero] at s2
    simp only [s2, SSd, Nat.reduceAdd]
    have hzl : (Builtin.zeroCells #[Value.int .i64 0, .int .i64 0, .bool false, .string (ByteArray.mk #[])] (vs.length - q)).toList.length = (vs.length - q) * 4 := by
      rw [Array.length_toList, zero_size]; rfl
    generalize hz : (Builtin.zeroCells #[Value.int .i64 0, .int .i64 0, .bool false, .string (ByteArray.mk #[])] (vs.length - q)).toList = z at hzl ⊢
    refine Gh.done (hk I' G' [(b, .cells (wr W (q * 4) z) 80 (0, 0))] _ hI hj ⟨by rw [versC_len], .inr ⟨b, cap, _, rfl, ?_, by rw [wr_size]; exact hW, by omega, fun k u hu => ?_⟩⟩)
    · rw [← hq]
    · have hlt := (List.getElem?_eq_some_iff.1 hu).1
      rw [versC_len, ← hq] at hlt
      rw [wr_get _ _ _ _ (by rw [hW, hzl]; omega), if_pos hlt]
      exact hA1 k u hu
/-! ### What is noted while a cell is open -/
def NoteR (I : Imm) (b m ch : Nat) (kv : Value) (fl : TStamp) (X : LH) (nt : Nts) : Prop := ∃ NX, X.Perm ((b, spO m kv fl ch) :: NX) ∧ NtR I ch NX nt
theorem NoteR.mono {I I' : Imm} {b m ch : Nat} {kv : Value} {fl : TStamp} {X : LH} {nt : Nts} (h : NoteR I b m ch kv fl X nt) (hI : Ext I I') : NoteR I' b m ch kv fl X nt := by
  obtain ⟨NX, h1, h2⟩ := h
  exact ⟨NX, h1, h2.mono hI⟩
theorem note0 {b m ch : Nat} {kv a1 a2 : Value} {fl : TStamp} {X F : LH} {nt : Nts} {d : Bool} {k l : List UInt8} (hN : NoteR I b m ch kv fl X nt) (h1 : Bytes I a1 k) (h2 : Bytes I a2 l)
    (hk : ∀ X', NoteR I b m ch kv fl X' (updN nt k (d, l)) → K (.tuple #[]) I (X' ++ F)) : Cal Tryd.prog ω 50 #[pt b, a1, a2, .bool d] K I (X ++ F) := by
  obtain ⟨NX, hp, hN⟩ := hN
  refine Cal.gh (Cal.perm (L' := (b, spO m kv fl ch) :: (NX ++ F)) (ms_perm (by rw [ms_app, ms_eq hp]; ((try simp only [ms_cons, ms_app, ms_nil, ms_nil']); (try ac_rfl)))) (note_spec hN h1 h2 fun NX' h' => ?_))
  exact Gh.perm (L' := ((b, spO m kv fl ch) :: NX') ++ F) (ms_perm (by ((try simp only [ms_cons, ms_app, ms_nil, ms_nil']); (try ac_rfl)))) (Gh.done (hk _ ⟨NX', List.Perm.refl _, h'⟩))
theorem noteGone0 {b m ch : Nat} {kv : Value} {fl : TStamp} {X F : LH} {nt : Nts} {k : List UInt8} {v : TVer} (hN : NoteR I b m ch kv fl X nt) (hr : rightB v.fAt = true) (hl : k.length ≤ 1000000000)
    (hk : ∀ X' I', Ext I I' → NoteR I' b m ch kv fl X' (updN nt (vkey k v) (true, [])) → K (.tuple #[]) I' (X' ++ F)) :
    Cal Tryd.prog ω 72 #[pt b, sstr k, vv v] K I (X ++ F) := by
  refine cal72 ?_
  unfold sh72
  refine newI (fun q => ?_)
  refine rdB rfl ?_
  refine callG (vkey_spec hr hl (fun X1 u I1 hI1 hX => ?_))
  refine OB.freeze hX (fun I2 hI2 hB => Gh.done ?_)
  refine call (Cal.to (X ++ F) ?_)
  refine note0 (hN.mono (hI1.trans hI2)) hB (show Bytes I2 _ [] from SlI.nil I2 1 none 0) (fun X' h' => ?_)
  exact Gh.done (hk X' I2 (hI1.trans hI2) h')
theorem SpP.open2 {b : Nat} {ps : List Nat} {X : LH} {A B : List Row} {r : Row} {fl : TStamp} {nt : Nts} {k : List UInt8} (h : SpP I b ps X ⟨A ++ r :: B, fl⟩ nt) (hm : Mid A k B) (hk : r.key = k) :
    ∃ p sl Y XN R m ch kv, X.Perm ((p, cellO sl r.it) :: (Y ++ (XN ++ R))) ∧ VsO Y sl r.vs ∧ NoteR I b m ch kv fl XN nt ∧
      (∀ I' r' sl' Y' XN' X' nt', Ext I I' → r'.key = k → VsO Y' sl' r'.vs → NoteR I' b m ch kv fl XN' nt' → X'.Perm ((p, cellO sl' r'.it) :: (Y' ++ (XN' ++ R))) → SpP I' b ps X' ⟨A ++ r' :: B, fl⟩ nt') ∧
      (∀ L', (∀ x ∈ X, x ∈ L') → ∃ m kv es clock, ViewF I L' b m kv es clock ps ⟨A ++ r :: B, fl⟩ ∧ cellsM ps (A ++ r :: B) k = some (pt p)) := by
  obtain ⟨m, ch, kv, es, clock, KX, RX, NX, hp, hF⟩ := h
  obtain ⟨P, p, Q, rfl, hl, hl2⟩ := split_ps hF.rows.len
  obtain ⟨sl, Y, Z, h1, h2, h3⟩ := RowsR.pick hl hF.rows
  refine ⟨p, sl, Y, (b, spO m kv fl ch) :: NX, (m, .map es clock) :: (KX ++ Z), m, ch, kv, ms_perm ?_, h2, ⟨NX, List.Perm.refl _, hF.nts⟩, fun I' r' sl' Y' XN' X' nt' hI hk' hv hN hX => ?_, fun L' hL => ?_⟩
  · rw [ms_eq hp]
    simp only [ms_cons, ms_app, ms_eq h1]
    ((try simp only [ms_cons, ms_app, ms_nil, ms_nil']); (try ac_rfl))
  · obtain ⟨NX', hq, hN'⟩ := hN
    refine ⟨m, ch, kv, es, clock, KX, (p, cellO sl' r'.it) :: (Y' ++ Z), NX', ms_perm ?_, ?_, ?_, ?_, hN'⟩
    · rw [ms_eq hX]; simp only [ms_cons, ms_app, ms_eq hq]; ((try simp only [ms_cons, ms_app, ms_nil, ms_nil']); (try ac_rfl))
    · have := hF.map
      rw [show cellsM (P ++ p :: Q) (A ++ r' :: B) = cellsM (P ++ p :: Q) (A ++ r :: B) from cellsM_swap hl (hk ▸ hm) (hk'.trans hk.symm)]
      exact this
    · have e : keysOf (A ++ r' :: B) = keysOf (A ++ r :: B) := by simp [keysOf, hk', hk]
      show StrO KX kv (keysOf (A ++ r' :: B))
      rw [e]; exact hF.keys
    · exact RowsR.put hl (List.Perm.refl _) hv h3
  · refine ⟨m, kv, es, clock, ?_, cellsM_mid hl hm hk⟩
    have hmem : ∀ x, x ∈ ((b, spO m kv fl ch) :: (m, Obj.map es clock) :: (KX ++ (RX ++ NX))) → x ∈ L' := fun x hx => hL _ (hp.mem_iff.2 hx)
    exact ⟨own_cells (hmem _ (List.mem_cons_self ..)) 4, .inl (hmem _ (by simp)), hF.map, StrO.rl hF.keys (fun x hx => hmem _ (by simp [hx])), hF.rows.len, hF.rows.cell (fun x hx => hmem _ (by simp [hx]))⟩
/-! ### A cell's old versions -/
def goneN (k : List UInt8) (l : List TVer) (nt : Nts) : Nts := l.foldl (fun nt v => updN nt (vkey k v) (true, [])) nt
abbrev cloL (bl bd bg bs bk b : Nat) (kp : TVer) (g : Nat) (k : List UInt8) (XN : LH) : LH :=
  (bl, stO kp.fAt) :: (bd, .cells #[.bool kp.fDel] 4 (0, 0)) :: (bg, .cells #[.int .i64 g] 3 (0, 0)) :: (bs, .cells #[pt b] 24 (0, 0)) :: (bk, .cells #[sstr k] 9 (0, 0)) :: XN
theorem clo71 {bl bd bg bs bk b m ch g0 : Nat} {kv : Value} {fl : TStamp} {kp : TVer} {k : List UInt8} {vs : List TVer} {nt : Nts} (hvs : ∀ v ∈ vs, rightB v.fAt = true) (hg : g0 + vs.length ≤ 1000000000) (hkl : k.length ≤ 1000) :
    Clo ω 71 #[pt bl, pt bd, pt bg, pt bs, pt bk] (oldB kp) vs (fun done I G => ∃ XN, G = cloL bl bd bg bs bk b kp (g0 + (done.filter (oldB kp)).length) k XN ∧ NoteR I b m ch kv fl XN (goneN k (done.filter (oldB kp)) nt)) := by
  refine ⟨by kernel_rfl, fun done I I' G ⟨XN, h1, h2⟩ hI => ⟨XN, h1, h2.mono hI⟩, ?_⟩
  rintro done v rest I G L K hv ⟨XN, rfl, hN⟩ hk
  have hvr := hvs v (by rw [hv]; simp)
  have hfl : (done.filter (oldB kp)).length ≤ done.length := List.length_filter_le ..
  have hlen : done.length + 1 ≤ vs.length := by rw [hv]; simp
  show Cal Tryd.prog ω 71 #[vv v, pt bl, pt bd, pt bg, pt bs, pt bk] K I _
  refine cal71 ?_
  unfold sh71
  refine newI (fun q => ?_)
  have hfilt : (done ++ [v]).filter (oldB kp) = if oldB kp v = true then done.filter (oldB kp) ++ [v] else done.filter (oldB kp) := by
    rw [List.filter_append]
    by_cases h : oldB kp v = true <;> simp [h]
  rw [hfilt] at hk
  have old : ∀ (ho : oldB kp v = true) (p7 p8 : Value), p8 = .bool true → sh71_1 ω (pt bg) (pt bs) (pt bk) (pt q) p7 p8 (fun v => Gh (K v)) I ((q, verO v) :: (cloL bl bd bg bs bk b kp (g0 + (done.filter (oldB kp)).length) k XN ++ L)) := by
    rintro ho p7 p8 rfl
    rw [ho] at hk
    simp only [if_true] at hk
    unfold sh71_1
    simp only [cloL, List.cons_append]
    refine rdb ?_
    try simp only [SSd, Nat.reduceAdd]
    rw [wrap_i64 _ (by omega)]
    refine st1 rfl ?_
    refine rdb ?_
    refine rdb ?_
    refine rdB rfl ?_
    refine call (Cal.perm (L' := XN ++ ((q, verO v) :: (bl, stO kp.fAt) :: (bd, .cells #[.bool kp.fDel] 4 (0, 0)) :: (bg, .cells #[.int .i64 ((g0 + (done.filter (oldB kp)).length : Nat) + 1)] 3 (0, 0)) :: (bs, .cells #[pt b] 24 (0, 0)) :: (bk, .cells #[sstr k] 9 (0, 0)) :: L)) (ms_perm (by ((try simp only [ms_cons, ms_app, ms_nil, ms_nil']); (try ac_rfl)))) ?_)
    refine noteGone0 hN hvr (by omega) (fun X' I' hI' h' => ?_)
    have h := hk I' (cloL bl bd bg bs bk b kp (g0 + (done.filter (oldB kp) ++ [v]).length) k X') hI' ⟨X', rfl, by unfold goneN; rw [List.foldl_append]; exact h'⟩
    have e : ((g0 + (done.filter (oldB kp) ++ [v]).length : Nat) : Int) = ((g0 + (done.filter (oldB kp)).length : Nat) : Int) + 1 := by simp; omega
    simp only [cloL, List.cons_append] at h
    rw [e] at h
    exact Gh.to ((bl, stO kp.fAt) :: (bd, .cells #[.bool kp.fDel] 4 (0, 0)) :: (bg, .cells #[.int .i64 ((g0 + (done.filter (oldB kp)).length : Nat) + 1)] 3 (0, 0)) :: (bs, .cells #[pt b] 24 (0, 0)) :: (bk, .cells #[sstr k] 9 (0, 0)) :: (X' ++ L)) (Gh.done h)
  have new : ∀ (ho : oldB kp v = false), Gh (K (.bool false)) I ((q, verO v) :: (cloL bl bd bg bs bk b kp (g0 + (done.filter (oldB kp)).length) k XN ++ L)) := by
    intro ho
    rw [ho] at hk
    exact Gh.drop (List.sublist_cons_self ..) (Gh.done (hk I _ (Ext.refl _) ⟨XN, rfl, hN⟩))
  simp only [cloL, List.cons_append] at old new ⊢
  refine rdB rfl ?_
  try simp only [SSd, Nat.reduceAdd]
  refine rdP [.int .i64 v.fAt.fWall, .int .i64 v.fAt.fLogic] rfl rfl ?_
  refine call (behind_spec (x := kp.fAt) (y := v.fAt) ?_)
  refine gd_split (fun e => ?_) (fun e => ?_)
  · refine rdb ?_
    refine gd_split (fun e2 => ?_) (fun e2 => ?_)
    · try simp only [SSd, Nat.reduceAdd]
      refine rdP [.int .i64 v.fAt.fWall, .int .i64 v.fAt.fLogic] rfl rfl ?_
      refine rdB rfl ?_
      try simp only [SSd, Nat.reduceAdd]
      refine br_split (fun e3 => ?_) (fun e3 => ?_)
      · exact old (by simp only [oldB]; rw [e2, e3]; simp) _ _ (by rw [e3])
      · have h := new (by simp only [oldB]; rw [e, e3]; simp)
        rw [e3]; exact h
    · exact new (by simp only [oldB]; rw [e, Bool.eq_false_iff.2 e2]; simp)
  · have e' : bhd kp.fAt v.fAt = true := by simpa using e
    exact old (by simp only [oldB]; rw [e']; simp) _ _ rfl
end
end Go.Proofs.YtmnnnoinfhiilaaDoor
