/-
  A space is written: a key's cell, a key forgotten, an intent put.
-/
-- S3
import Derived.Test.YtmnnnoinfhiilaaDoorN
set_option linter.unusedSimpArgs false
set_option linter.unusedVariables false
namespace Go.Proofs.YtmnnnoinfhiilaaDoor
open Go.SL
set_option maxRecDepth 10000
section
variable {ω : Om} {I : Imm} {L : LH} {K : Value → M}
structure SpX (I : Imm) (b : Nat) (ps : List Nat) (R : LH) (A : List Row) (k : List UInt8) (B : List Row) (fl : TStamp) (nt : Nts) (p : Nat) : Prop where
  close : ∀ (r : Row) (sl : Value) (Y X : LH), r.key = k → VsO Y sl r.vs → X.Perm ((p, cellO sl r.it) :: (Y ++ R)) → SpP I b ps X ⟨A ++ r :: B, fl⟩ nt
theorem SpX.mono {I' : Imm} {b : Nat} {ps : List Nat} {R : LH} {A B : List Row} {k : List UInt8} {fl : TStamp} {nt : Nts} {p : Nat} (h : SpX I b ps R A k B fl nt p) (hI : Ext I I') : SpX I' b ps R A k B fl nt p :=
  ⟨fun r sl Y X h1 h2 h3 => (h.close r sl Y X h1 h2 h3).mono hI⟩
theorem SpP.open' {b : Nat} {ps : List Nat} {X : LH} {A B : List Row} {r : Row} {fl : TStamp} {nt : Nts} {k : List UInt8} (h : SpP I b ps X ⟨A ++ r :: B, fl⟩ nt) (hm : Mid A k B) (hk : r.key = k) :
    ∃ p sl Y R, ps[A.length]? = some p ∧ X.Perm ((p, cellO sl r.it) :: (Y ++ R)) ∧ VsO Y sl r.vs ∧ SpX I b ps R A k B fl nt p ∧ (∀ L', (∀ x ∈ X, x ∈ L') → ∃ m kv es clock, ViewF I L' b m kv es clock ps ⟨A ++ r :: B, fl⟩ ∧ cellsM ps (A ++ r :: B) k = some (pt p)) := by
  have h0 := h
  obtain ⟨m, ch, kv, es, clock, KX, RX, NX, hp, hF⟩ := h
  obtain ⟨P, p, Q, rfl, hl, hl2⟩ := split_ps hF.rows.len
  obtain ⟨sl, Y, Z, h1, h2, h3⟩ := RowsR.pick hl hF.rows
  refine ⟨p, sl, Y, (b, spO m kv fl ch) :: (m, .map es clock) :: (KX ++ (Z ++ NX)), by rw [← hl]; simp, ms_perm ?_, h2, ⟨fun r' sl' Y' X' hk' hv hX => ?_⟩, fun L' hL => ?_⟩
  · rw [ms_eq hp]
    simp only [ms_cons, ms_app, ms_eq h1]
    ((try simp only [ms_cons, ms_app, ms_nil, ms_nil']); (try ac_rfl))
  · refine ⟨m, ch, kv, es, clock, KX, (p, cellO sl' r'.it) :: (Y' ++ Z), NX, ms_perm ?_, ?_, ?_, ?_, hF.nts⟩
    · rw [ms_eq hX]; ((try simp only [ms_cons, ms_app, ms_nil, ms_nil']); (try ac_rfl))
    · have := hF.map
      rw [show cellsM (P ++ p :: Q) (A ++ r' :: B) = cellsM (P ++ p :: Q) (A ++ r :: B) from cellsM_swap hl (hk ▸ hm) (hk'.trans hk.symm)]
      exact this
    · have e : keysOf (A ++ r' :: B) = keysOf (A ++ r :: B) := by simp [keysOf, hk', hk]
      show StrO KX kv (keysOf (A ++ r' :: B))
      rw [e]; exact hF.keys
    · exact RowsR.put hl (List.Perm.refl _) hv h3
  · refine ⟨m, kv, es, clock, ?_, cellsM_mid hl hm hk⟩
    have hmem : ∀ x, x ∈ ((b, spO m kv fl ch) :: (m, Obj.map es clock) :: (KX ++ (RX ++ NX))) → x ∈ L' := fun x hx => hL _ (hp.mem_iff.2 hx)
    exact ⟨own_cells (hmem _ (List.mem_cons_self ..)) 4, .inl (hmem _ (by simp)), hF.map, StrO.rl hF.keys (fun x hx => hmem _ (by simp [hx])), hF.rows.len, hF.rows.cell (fun x hx => hmem _ (by simp [hx]))⟩
theorem cell_spec {b : Nat} {X F : LH} {sp : Sp} {nt : Nts} {k : List UInt8} (hS : SpR I b X sp nt) (hs : SrtK (keysOf sp.rows)) (hlen : sp.rows.length ≤ 100000000)
    (h1 : ∀ ps A r B p sl Y R, sp.rows = A ++ r :: B → r.key = k → Mid A k B → X.Perm ((p, cellO sl r.it) :: (Y ++ R)) → VsO Y sl r.vs → SpX I b ps R A k B sp.floor nt p → K (pt p) I (X ++ F))
    (h2 : ∀ ps A B p X' R, sp.rows = A ++ B → Mid A k B → X'.Perm ((p, cellO (.slice none 0 0) noIt) :: R) → SpX I b ps R A k B sp.floor nt p → K (pt p) I (X' ++ F)) :
    Cal Tryd.prog ω 26 #[pt b, sstr k] K I (X ++ F) := by
  have hS0 := hS
  obtain ⟨rows, fl⟩ := sp
  rcases place k hs with ⟨A, r, B, e, hk, hm⟩ | ⟨A, B, e, hm⟩
  · simp only at e; subst e
    obtain ⟨ps, hS⟩ := hS
    obtain ⟨p, sl, Y, R, _, g1, g2, g3, g4⟩ := hS.open' hm hk
    obtain ⟨m, kv, es, clock, hV, hc⟩ := g4 (X ++ F) (fun x hx => List.mem_append_left _ hx)
    refine cal26 ?_
    unfold sh26
    try simp only [SSd, Nat.reduceAdd]
    refine rdC (hV.head 0 _ rfl) (Ext.refl _) ?_
    refine ⟨_, lk_at hV.at' hV.map, ?_⟩
    simp only [hc, lkV, Bool.false_eq_true, if_false, SSd, Nat.reduceAdd]
    exact Gh.done (h1 ps A r B p sl Y R rfl hk hm g1 g2 g3)
  · simp only at e; subst e
    obtain ⟨ps, m, ch, kv, es, clock, KX, RX, NX, hp, hF⟩ := hS
    have hn : cellsM ps (A ++ B) k = none := cellsM_gap hm.notin
    obtain ⟨P, Q, rfl, hl, hl2⟩ := split_ps2 hF.rows.len
    refine Cal.perm (L' := (b, spO m kv fl ch) :: (m, .map es clock) :: (KX ++ (RX ++ (NX ++ F)))) (ms_perm (by rw [ms_app, ms_eq hp]; ((try simp only [ms_cons, ms_app, ms_nil, ms_nil']); (try ac_rfl)))) ?_
    refine cal26 ?_
    unfold sh26
    try simp only [SSd, Nat.reduceAdd]
    refine rdb ?_
    refine lkm hF.map ?_
    have en : binPV .eql (.pointer none) (.pointer none) = some (.bool true) := rfl
    simp only [hn, lkV, Bool.false_eq_true, if_false, en, SSd, Nat.reduceAdd]
    refine newI (fun p => ?_)
    refine rdb ?_
    obtain ⟨es', c', he, hm'⟩ := hF.map.put k (pt p)
    refine putm hF.map he (Gh.done ?_)
    try simp only [SSd, Nat.reduceAdd]
    refine rdb ?_
    have hkl : (keysOf (A ++ B)).length = (A ++ B).length := by simp [keysOf]
    refine call (bsearch_spec (StrO.rl hF.keys (fun x hx => by simp [hx])) (by simp only at hlen ⊢; omega) hs (fun i hi hlo hhi => ?_))
    try simp only [SSd, Nat.reduceAdd]
    refine rdb ?_
    refine ⟨#[sstr k], by kernel_rfl, fun bv => Gh.done ?_⟩
    refine call (Cal.perm (L' := KX ++ (bv, .cells #[sstr k] 9 (0, 0)) :: (p, cellO (.slice none 0 0) noIt) :: (b, spO m kv fl ch) :: (m, .map es' c') :: (RX ++ (NX ++ F))) (ms_perm (by ((try simp only [ms_cons, ms_app, ms_nil, ms_nil']); (try ac_rfl)))) ?_)
    refine insert_spec hF.keys hi (by simp only at hlen ⊢; omega) (fun KX' kv' hK' => ?_)
    try simp only [SSd, Nat.reduceAdd]
    have hkv1 : kv'.oneCell' = true := by obtain ⟨a', c', rfl⟩ := hK'.form; rfl
    have hia : i = A.length := by
      have hAB : keysOf (A ++ B) = keysOf A ++ keysOf B := by simp [keysOf]
      have hAl : (keysOf A).length = A.length := by simp [keysOf]
      simp only at hlo hhi hi
      apply Classical.byContradiction
      intro hne
      rcases Nat.lt_or_gt_of_ne hne with hlt | hgt
      · have h1 := hhi A[i].key (by
          rw [hAB, List.drop_append_of_le_length (by omega)]
          refine List.mem_append_left _ ?_
          rw [show keysOf A = A.map (·.key) from rfl, ← List.map_drop]
          exact List.mem_map_of_mem (by rw [List.drop_eq_getElem_cons hlt]; exact List.mem_cons_self ..))
        rw [hm.lt _ (List.getElem_mem hlt)] at h1; cases h1
      · have hb : A.length < (A ++ B).length := by omega
        have hBl : 0 < B.length := by simp at hb; omega
        have h1 := hlo B[0].key (by
          rw [hAB, List.take_append, hAl, List.take_of_length_le (by omega)]
          refine List.mem_append_right _ ?_
          rw [show keysOf B = B.map (·.key) from rfl, ← List.map_take]
          refine List.mem_map_of_mem ?_
          have : (B.take (i - A.length))[0]'(by simp; omega) = B[0] := by simp
          rw [← this]; exact List.getElem_mem _)
        rw [blt_asymm (hm.gt _ (List.getElem_mem hBl))] at h1; cases h1
    subst hia
    refine st1 hkv1 ?_
    refine Gh.perm (L' := ((p, cellO (.slice none 0 0) noIt) :: (b, spO m kv' fl ch) :: (m, .map es' c') :: (KX' ++ (RX ++ NX))) ++ F) (ms_perm (by ((try simp only [ms_cons, ms_app, ms_nil, ms_nil']); (try ac_rfl)))) (Gh.done ?_)
    refine h2 (P ++ p :: Q) A B p _ _ rfl hm (List.Perm.refl _) ⟨fun r' sl' Y' X' hk' hv hX => ?_⟩
    refine ⟨m, ch, kv', es', c', KX', (p, cellO sl' r'.it) :: (Y' ++ RX), NX, ms_perm (by rw [ms_eq hX]; ((try simp only [ms_cons, ms_app, ms_nil, ms_nil']); (try ac_rfl))), ?_, ?_, RowsR.put hl (List.Perm.refl _) hv hF.rows, hF.nts⟩
    · rw [show cellsM (P ++ p :: Q) (A ++ r' :: B) = updM (cellsM (P ++ Q) (A ++ B)) k (some (pt p)) from cellsM_ins hl hm hk']
      exact hm'
    · have e : keysOf (A ++ r' :: B) = (keysOf (A ++ B)).take A.length ++ k :: (keysOf (A ++ B)).drop A.length := by
        have hAl : (A.map (·.key)).length = A.length := by simp
        simp only [keysOf, List.map_append, List.map_cons, hk']
        rw [← hAl, List.take_left, List.drop_left]
      show StrO KX' kv' (keysOf (A ++ r' :: B))
      rw [e]; exact hK'
theorem tidy_spec {b : Nat} {X F : LH} {A B : List Row} {r : Row} {fl : TStamp} {nt : Nts} {k : List UInt8} (hS : SpR I b X ⟨A ++ r :: B, fl⟩ nt) (hm : Mid A k B) (hkr : r.key = k) (hs : SrtK (keysOf (A ++ r :: B))) (hlen : (A ++ r :: B).length ≤ 100000000)
    (hk : ∀ X', SpR I b X' ⟨if emptyB r = true then A ++ B else A ++ r :: B, fl⟩ nt → K (.tuple #[]) I (X' ++ F)) : Cal Tryd.prog ω 29 #[pt b, sstr k] K I (X ++ F) := by
  have hS0 := hS
  obtain ⟨ps, m, ch, kv, es, clock, KX, RX, NX, hp, hF⟩ := hS
  obtain ⟨P, p, Q, rfl, hl, hl2⟩ := split_ps hF.rows.len
  obtain ⟨sl, Y, Z, g1, g2, g3⟩ := RowsR.pick hl hF.rows
  have hc : cellsM (P ++ p :: Q) (A ++ r :: B) k = some (pt p) := cellsM_mid hl hm hkr
  refine Cal.perm (L' := (b, spO m kv fl ch) :: (m, .map es clock) :: (p, cellO sl r.it) :: (KX ++ (Y ++ (Z ++ (NX ++ F))))) (ms_perm (by rw [ms_app, ms_eq hp]; simp only [ms_cons, ms_app, ms_eq g1]; ((try simp only [ms_cons, ms_app, ms_nil, ms_nil']); (try ac_rfl)))) ?_
  refine cal29 ?_
  unfold sh29
  try simp only [SSd, Nat.reduceAdd]
  refine rdb ?_
  refine lkm hF.map ?_
  simp only [hc, lkV, Bool.false_eq_true, if_false, SSd, Nat.reduceAdd]
  refine rdb ?_
  obtain ⟨sa, sc, rfl⟩ := g2.form
  try simp only [SSd, Nat.reduceAdd]
  have keep : ∀ (he : emptyB r = false), Gh (K (.tuple #[])) I ((b, spO m kv fl ch) :: (m, .map es clock) :: (p, cellO (.slice sa r.vs.length sc) r.it) :: (KX ++ (Y ++ (Z ++ (NX ++ F))))) := by
    intro he
    rw [he] at hk
    refine Gh.perm (L' := X ++ F) (ms_perm (by rw [ms_app, ms_eq hp]; simp only [ms_cons, ms_app, ms_eq g1]; ((try simp only [ms_cons, ms_app, ms_nil, ms_nil']); (try ac_rfl)))) (Gh.done (hk X hS0))
  refine gd_split (fun e => ?_) (fun e => ?_)
  · refine rdb ?_
    try simp only [SSd, Nat.reduceAdd]
    refine br_split (fun e2 => ?_) (fun e2 => ?_)
    · exact keep (by simp at e2; simp [emptyB, e2])
    · have he : emptyB r = true := by
        have hv : r.vs = [] := by
          cases hv : r.vs with
          | nil => rfl
          | cons x xs => rw [hv] at e; simp at e
        simp at e2
        simp [emptyB, hv, e2]
      rw [he] at hk
      have hkl : (keysOf (A ++ r :: B)).length = (A ++ r :: B).length := by simp [keysOf]
      refine rdb ?_
      obtain ⟨es', hde, hm'⟩ := hF.map.del k
      refine delm hF.map hde (Gh.done ?_)
      try simp only [SSd, Nat.reduceAdd]
      refine rdb ?_
      refine call (bsearch_spec (StrO.rl hF.keys (fun x hx => by simp [hx])) (by show (keysOf (A ++ r :: B)).length < _; rw [hkl]; exact Nat.lt_of_le_of_lt hlen (by decide)) hs (fun i hi hlo hhi => ?_))
      try simp only [SSd, Nat.reduceAdd]
      refine rdb ?_
      have hAl : (keysOf A).length = A.length := by simp [keysOf]
      have hAB : keysOf (A ++ r :: B) = keysOf A ++ k :: keysOf B := by simp [keysOf, hkr]
      simp only at hlo hhi hi
      have hia : i = A.length := by
        apply Classical.byContradiction
        intro hne
        rcases Nat.lt_or_gt_of_ne hne with hlt | hgt
        · have h1 := hhi A[i].key (by
            rw [hAB, List.drop_append_of_le_length (by omega)]
            refine List.mem_append_left _ ?_
            rw [show keysOf A = A.map (·.key) from rfl, ← List.map_drop]
            exact List.mem_map_of_mem (by rw [List.drop_eq_getElem_cons hlt]; exact List.mem_cons_self ..))
          rw [hm.lt _ (List.getElem_mem hlt)] at h1; cases h1
        · have h1 := hlo k (by
            rw [hAB, List.take_append, hAl, List.take_of_length_le (by omega)]
            refine List.mem_append_right _ ?_
            obtain ⟨j, hj⟩ : ∃ j, i - A.length = j + 1 := ⟨i - A.length - 1, by omega⟩
            rw [hj, List.take_succ_cons]; exact List.mem_cons_self ..)
          rw [blt_irrefl] at h1; cases h1
      subst hia
      rw [wrap_i64 _ (by rw [List.length_append, List.length_cons] at hlen; omega)]
      refine call (Cal.perm (L' := KX ++ ((b, spO m kv fl ch) :: (m, .map es' clock) :: (p, cellO (.slice sa r.vs.length sc) r.it) :: (Y ++ (Z ++ (NX ++ F))))) (ms_perm (by ((try simp only [ms_cons, ms_app, ms_nil, ms_nil']); (try ac_rfl)))) ?_)
      refine delete_spec hF.keys (by show A.length < (keysOf (A ++ r :: B)).length; rw [hkl, List.length_append, List.length_cons]; omega) (by show (keysOf (A ++ r :: B)).length ≤ _; rw [hkl]; omega) (fun KX' kv' hK' => ?_)
      try simp only [SSd, Nat.reduceAdd]
      have hkv1 : kv'.oneCell' = true := by obtain ⟨a', c', rfl⟩ := hK'.form; rfl
      refine st1 hkv1 ?_
      refine Gh.to ((b, spO m kv' fl ch) :: (m, .map es' clock) :: (KX' ++ (Z ++ (NX ++ F)))) (Gh.perm (L' := ((b, spO m kv' fl ch) :: (m, .map es' clock) :: (KX' ++ (Z ++ NX))) ++ F) (ms_perm (by ((try simp only [ms_cons, ms_app, ms_nil, ms_nil']); (try ac_rfl)))) (Gh.done (hk _ ⟨P ++ Q, m, ch, kv', es', clock, KX', Z, NX, List.Perm.refl _, ?_, ?_, g3, hF.nts⟩)))
      · rw [show cellsM (P ++ Q) (if true = true then A ++ B else A ++ r :: B) = updM (cellsM (P ++ p :: Q) (A ++ r :: B)) k none from cellsM_del hl hm hkr]
        exact hm'
      · have e3 : keysOf (A ++ B) = (keysOf (A ++ r :: B)).take A.length ++ (keysOf (A ++ r :: B)).drop (A.length + 1) := by
          rw [hAB, ← hAl, List.take_left, List.drop_append, List.drop_eq_nil_of_le (by omega)]
          simp [keysOf]
        show StrO KX' kv' (keysOf (A ++ B))
        rw [e3]; exact hK'
  · exact keep (by simp at e; cases hv : r.vs with
      | nil => rw [hv] at e; simp at e
      | cons x xs => simp [emptyB, hv])
end
end Go.Proofs.YtmnnnoinfhiilaaDoor
