/-
  A history of transactions: what is read is a map that the earlier ones made.
-/
-- S3
import Derived.Test.YtmnnnoinfhiilaaDoorRD
import Derived.Test.YtmnnnoinfhiilaaDoorRC
set_option linter.unusedSimpArgs false
set_option linter.unusedVariables false
namespace Go.Proofs.YtmnnnoinfhiilaaDoor
open Go.SL
set_option maxRecDepth 10000
/-! ### A key's intent behind a step -/
theorem itAt_swap {A B : List Row} {r r' : Row} {k q : List UInt8} (hm : Mid A k B) (hk : r.key = k) (hk' : r'.key = k) : itAt (A ++ r' :: B) q = if q = k then r'.it else itAt (A ++ r :: B) q := by
  by_cases h : q = k
  · subst h; rw [if_pos rfl, itAt_mid hm hk']
  · rw [if_neg h]
    unfold itAt rowOf
    rw [List.find?_append, List.find?_append, List.find?_cons_of_neg (by simp [hk']; exact fun e => h e.symm), List.find?_cons_of_neg (by simp [hk]; exact fun e => h e.symm)]
theorem itAt_new {A B : List Row} {r : Row} {k q : List UInt8} (hm : Mid A k B) (hk : r.key = k) : itAt (A ++ r :: B) q = if q = k then r.it else itAt (A ++ B) q := by
  by_cases h : q = k
  · subst h; rw [if_pos rfl, itAt_mid hm hk]
  · rw [if_neg h]
    unfold itAt rowOf
    rw [List.find?_append, List.find?_append, List.find?_cons_of_neg (by simp [hk]; exact fun e => h e.symm)]
theorem itAt_put {sp : Sp} (hok : SpOk sp) {x : TIntent} (h0 : (putA sp x).2.2 = 0) (q : List UInt8) : itAt (putS sp x).rows q = if q = x.fKey then ⟨⟨(putA sp x).1, x.fDel, x.fValue⟩, x.fTxn⟩ else itAt sp.rows q := by
  unfold putS
  rw [if_neg (by simp [h0])]
  obtain ⟨rows, fl⟩ := sp
  rcases place x.fKey hok.rise with ⟨A, r, B, e, hk, hm⟩ | ⟨A, B, e, hm⟩
  · simp only at e; subst e
    simp only [setIt_mid hk hm]
    exact itAt_swap hm hk rfl
  · simp only at e; subst e
    simp only [setIt_gap hm]
    exact itAt_new hm rfl
theorem at_res {sp : Sp} (hok : SpOk sp) {k : List UInt8} {txn : Int} {a : TStamp} (h : (resA sp k txn true a).1 = true) (q : List UInt8) :
    itAt (resS sp k txn true a).rows q = (if q = k then noIt else itAt sp.rows q) ∧ vsAt (resS sp k txn true a).rows q = if q = k then vsAt sp.rows q ++ [⟨a, (itAt sp.rows k).ver.fDel, (itAt sp.rows k).ver.fValue⟩] else vsAt sp.rows q := by
  obtain ⟨ht, htx, _⟩ := resA_ok h
  unfold resS
  rw [if_pos h]
  obtain ⟨rows, fl⟩ := sp
  rcases place k hok.rise with ⟨A, r, B, e, hk, hm⟩ | ⟨A, B, e, hm⟩
  · simp only at e; subst e
    obtain ⟨p1, p2, p3⟩ := hok.part
    simp only [updR_mid hm hk]
    rw [tidyR_mid (fun x hx => (p1 x hx).some) (fun x hx => (p3 x hx).some), if_neg (by simp [emptyB, resR])]
    rw [itAt_swap hm hk (show (resR true a r).key = k from hk), vsAt_swap hm hk (show (resR true a r).key = k from hk)]
    refine ⟨rfl, ?_⟩
    split
    · rename_i hq; subst hq
      rw [vsAt_mid hm hk, itAt_mid hm hk]; rfl
    · rfl
  · simp only at e; subst e
    simp only [itAt_gap hm] at ht
    rw [← ht] at htx
    exact absurd htx (by decide)
/-! ### The last change of a key -/
def lastOp (ops : List TOp) (q : List UInt8) : Option TOp := ops.reverse.find? fun y => y.fKey == q
theorem lastOp_snoc (ops : List TOp) (y : TOp) (q : List UInt8) : lastOp (ops ++ [y]) q = if y.fKey = q then some y else lastOp ops q := by
  unfold lastOp
  rw [List.reverse_append, List.reverse_singleton, List.singleton_append, List.find?_cons]
  by_cases h : y.fKey = q
  · simp [h]
  · rw [if_neg h]
    have : (y.fKey == q) = false := by simpa using h
    rw [this]
theorem lastOp_mem {ops : List TOp} {y : TOp} (h : y ∈ ops) : ∃ y', lastOp ops y.fKey = some y' := by
  cases e : lastOp ops y.fKey with
  | some y' => exact ⟨y', rfl⟩
  | none =>
    have := List.find?_eq_none.1 e y (List.mem_reverse.2 h)
    simp at this
def atI (i : Nat) : TStamp := ⟨10 * (i : Int), 0⟩
def atC (i : Nat) : TStamp := ⟨10 * (i : Int) + 5, 0⟩
def stN : Nat → TStamp
  | 0 => z0
  | n + 1 => atC n
theorem bhd_yes {a b : TStamp} (h : b.fWall < a.fWall) : bhd a b = true := by simp [bhd, h]
theorem bhd_no {a b : TStamp} (h : a.fWall < b.fWall) : bhd a b = false := by simp [bhd]; omega
def itL (i : Nat) (ops : List TOp) (q : List UInt8) : Itn := match lastOp ops q with
  | none => noIt
  | some y => ⟨⟨atI i, y.fDel, y.fValue⟩, (i : Int) + 1⟩
def okOp (y : TOp) : Bool := keyOk y.fKey && (decide (y.fValue.length ≤ 100) && !(y.fDel && decide (0 < y.fValue.length)))
theorem okOp_iff {y : TOp} (h : okOp y = true) : keyOk y.fKey = true ∧ y.fValue.length ≤ 100 ∧ (y.fDel = true → y.fValue = []) := by
  simp only [okOp, Bool.and_eq_true, decide_eq_true_eq, Bool.not_eq_true', Bool.and_eq_false_iff] at h
  refine ⟨h.1, h.2.1, fun hd => ?_⟩
  rcases h.2.2 with h2 | h2
  · rw [hd] at h2; cases h2
  · exact List.length_eq_zero_iff.1 (by simp at h2; simp [h2])
def putI (i : Nat) (y : TOp) : TIntent := ⟨y.fKey, (i : Int) + 1, atI i, y.fDel, y.fValue⟩
/-! ### A transaction writes -/
structure Puts (i : Nat) (sp0 sp : Sp) (ops : List TOp) : Prop where
  ok : SpOk sp
  floor : sp.floor = z0
  vs : ∀ q, vsAt sp.rows q = vsAt sp0.rows q
  it : ∀ q, itAt sp.rows q = itL i ops q
  rows : sp.rows.length ≤ sp0.rows.length + ops.length
  vers : versN sp.rows = versN sp0.rows
def VersTo (i : Nat) (sp : Sp) : Prop := ∀ q, ∀ v ∈ vsAt sp.rows q, ∃ j : Nat, j < i ∧ v.fAt = atC j
theorem right_at {i : Nat} (hi : i < 30) : rightB (atI i) = true ∧ rightB (atC i) = true ∧ txnB ((i : Int) + 1) = true := by
  refine ⟨?_, ?_, ?_⟩
  · simp only [rightB, wallB, atI, Bool.and_eq_true]
    exact ⟨decide_eq_true (by omega), decide_eq_true (by omega)⟩
  · simp only [rightB, wallB, atC, Bool.and_eq_true]
    exact ⟨decide_eq_true (by omega), decide_eq_true (by omega)⟩
  · exact decide_eq_true (by omega)
theorem Puts.acc {i : Nat} {sp0 sp : Sp} {ops : List TOp} {y : TOp} (h : Puts i sp0 sp ops) (hv : VersTo i sp0) (hi : i < 30) (hy : okOp y = true) : putA sp (putI i y) = (atI i, 0, 0) := by
  obtain ⟨hk, hl, hd⟩ := okOp_iff hy
  obtain ⟨hr, _, ht⟩ := right_at hi
  have hb : ¬ putBad (putI i y) := by
    simp only [putBad, putI, hk, hr, ht]
    simp only [Bool.true_eq_false, false_or, not_or, not_and]
    exact ⟨by omega, fun h1 h2 => h2 (hd h1)⟩
  have hat : putAt sp (putI i y) = atI i := by
    have e1 : bhd sp.floor (putI i y).fAt = false := by
      rw [h.floor]; simp [putI, atI, bhd]; omega
    unfold putAt
    rw [e1, h.it]
    unfold itL
    cases lastOp ops (putI i y).fKey with
    | none => simp [noIt, putI]
    | some y' => simp [bhd_irr, putI]
  unfold putA
  rw [if_neg hb, hat, h.it, h.vs]
  have e2 : ¬ ((itL i ops (putI i y).fKey).txn ≠ 0 ∧ (itL i ops (putI i y).fKey).txn ≠ (putI i y).fTxn) := by
    unfold itL
    cases lastOp ops (putI i y).fKey with
    | none => simp [noIt]
    | some y' => simp [putI]
  rw [if_neg e2]
  have e3 : pastL (atI i) (vsAt sp0.rows (putI i y).fKey).getLast? = (atI i, 0) := by
    cases e : (vsAt sp0.rows (putI i y).fKey).getLast? with
    | none => rfl
    | some v =>
      obtain ⟨j, hj, ha⟩ := hv _ v (List.mem_of_getLast? e)
      simp only [pastL]
      rw [if_pos (bhd_yes (by rw [ha]; simp only [atC, atI]; omega))]
  rw [e3]
  simp
theorem Puts.step {i : Nat} {sp0 sp : Sp} {ops : List TOp} {y : TOp} (h : Puts i sp0 sp ops) (hv : VersTo i sp0) (hi : i < 30) (hy : okOp y = true) : Puts i sp0 (putS sp (putI i y)) (ops ++ [y]) := by
  have hA := h.acc hv hi hy
  have h0 : (putA sp (putI i y)).2.2 = 0 := by rw [hA]
  refine ⟨h.ok.put, ?_, fun q => by rw [vsAt_put h.ok, h.vs], fun q => ?_, ?_, by rw [(put_len h.ok).2, h.vers]⟩
  · unfold putS; split <;> exact h.floor
  · rw [itAt_put h.ok h0, hA, h.it]
    unfold itL
    rw [lastOp_snoc]
    by_cases hq : q = y.fKey
    · subst hq; simp [putI]
    · rw [if_neg (by simpa [putI] using hq), if_neg (fun e => hq e.symm)]
  · have := (put_len (x := putI i y) h.ok).1
    have := h.rows
    simp only [List.length_append, List.length_singleton]; omega
/-! ### A transaction commits -/
def verL (i : Nat) (ops : List TOp) (q : List UInt8) : TVer := match lastOp ops q with
  | none => default
  | some y => ⟨atC i, y.fDel, y.fValue⟩
structure Ress (i : Nat) (sp0 sp : Sp) (ops done : List TOp) : Prop where
  ok : SpOk sp
  floor : sp.floor = z0
  it : ∀ q, itAt sp.rows q = if (lastOp done q).isSome = true then noIt else itL i ops q
  vs : ∀ q, vsAt sp.rows q = if (lastOp done q).isSome = true then vsAt sp0.rows q ++ [verL i ops q] else vsAt sp0.rows q
  rows : sp.rows.length ≤ sp0.rows.length + ops.length
  vers : versN sp.rows ≤ versN sp0.rows + done.length
theorem Puts.res {i : Nat} {sp0 sp : Sp} {ops : List TOp} (h : Puts i sp0 sp ops) : Ress i sp0 sp ops [] := ⟨h.ok, h.floor, h.it, h.vs, h.rows, by simp [h.vers]⟩
theorem Ress.step {i : Nat} {sp0 sp : Sp} {ops done : List TOp} {y : TOp} (h : Ress i sp0 sp ops done) (hv : VersTo i sp0) (hi : i < 30) (hy : okOp y = true) (hm : y ∈ ops) :
    (resA sp y.fKey ((i : Int) + 1) true (atC i)).2 = 0 ∧ Ress i sp0 (resS sp y.fKey ((i : Int) + 1) true (atC i)) ops (done ++ [y]) := by
  obtain ⟨hk, _, _⟩ := okOp_iff hy
  obtain ⟨_, hr, ht⟩ := right_at hi
  obtain ⟨y', hl⟩ := lastOp_mem hm
  have hbad : ¬ (keyOk y.fKey = false ∨ txnB ((i : Int) + 1) = false ∨ (true = true ∧ rightB (atC i) = false)) := by simp [hk, ht, hr]
  by_cases hs : (lastOp done y.fKey).isSome = true
  · have hit : itAt sp.rows y.fKey = noIt := by rw [h.it, if_pos hs]
    have hA : resA sp y.fKey ((i : Int) + 1) true (atC i) = (false, 0) := by
      unfold resA
      rw [if_neg hbad, hit, if_pos (by simp [noIt]; omega)]
    have hS : resS sp y.fKey ((i : Int) + 1) true (atC i) = sp := by unfold resS; rw [hA]; rfl
    have hsn : ∀ q, (lastOp (done ++ [y]) q).isSome = (lastOp done q).isSome := by
      intro q
      rw [lastOp_snoc]
      split
      · rename_i e; rw [← e, hs]; rfl
      · rfl
    refine ⟨by rw [hA], ?_⟩
    rw [hS]
    refine ⟨h.ok, h.floor, fun q => ?_, fun q => ?_, h.rows, ?_⟩
    · rw [hsn]; exact h.it q
    · rw [hsn]; exact h.vs q
    · have := h.vers; simp only [List.length_append, List.length_singleton]; omega
  · have hit : itAt sp.rows y.fKey = ⟨⟨atI i, y'.fDel, y'.fValue⟩, (i : Int) + 1⟩ := by
      rw [h.it, if_neg hs]; unfold itL; rw [hl]
    have hvs : vsAt sp.rows y.fKey = vsAt sp0.rows y.fKey := by rw [h.vs, if_neg hs]
    have hA : resA sp y.fKey ((i : Int) + 1) true (atC i) = (true, 0) := by
      unfold resA
      rw [if_neg hbad, hit, hvs, if_neg (by simp), if_neg ?_]
      rintro ⟨_, h1 | h1⟩
      · rw [bhd_no (by simp only [atI, atC]; omega)] at h1; cases h1
      · cases e : (vsAt sp0.rows y.fKey).getLast? with
        | none => rw [e] at h1; cases h1
        | some v =>
          obtain ⟨j, hj, ha⟩ := hv _ v (List.mem_of_getLast? e)
          rw [e] at h1
          simp only [earlyB] at h1
          rw [bhd_yes (by rw [ha]; simp only [atC]; omega)] at h1
          cases h1
    have h1 : (resA sp y.fKey ((i : Int) + 1) true (atC i)).1 = true := by rw [hA]
    refine ⟨by rw [hA], h.ok.res, by unfold resS; split <;> exact h.floor, fun q => ?_, fun q => ?_, ?_, ?_⟩
    · rw [(at_res h.ok h1 q).1, lastOp_snoc]
      by_cases hq : q = y.fKey
      · subst hq; simp
      · have hq' : ¬ y.fKey = q := fun e => hq e.symm
        simp only [if_neg hq, if_neg hq']; exact h.it q
    · rw [(at_res h.ok h1 q).2, lastOp_snoc]
      by_cases hq : q = y.fKey
      · subst hq
        simp only [if_true, Option.isSome_some, hit, hvs]
        unfold verL; rw [hl]
      · have hq' : ¬ y.fKey = q := fun e => hq e.symm
        simp only [if_neg hq, if_neg hq']; exact h.vs q
    · exact Nat.le_trans (res_len h.ok).1 h.rows
    · have := (res_len (k := y.fKey) (txn := (i : Int) + 1) (yes := true) (a := atC i) h.ok).2
      have := h.vers
      simp only [List.length_append, List.length_singleton]; omega
/-! ### Keys and values behind changes -/
def chL (k v : List UInt8) : Bool → List TKV → List TKV
  | d, [] => if d = true then [] else [⟨k, v⟩]
  | d, x :: xs => if x.fKey = k then chL k v d xs else if d = false ∧ blt k x.fKey = true then ⟨k, v⟩ :: x :: chL k v true xs else x :: chL k v d xs
theorem mem_chL {k v : List UInt8} {x : TKV} : ∀ {l : List TKV} {d : Bool}, x ∈ chL k v d l ↔ (x ∈ l ∧ x.fKey ≠ k) ∨ (d = false ∧ x = ⟨k, v⟩)
  | [], d => by unfold chL; cases d <;> simp
  | y :: l, d => by
    unfold chL
    split
    · rename_i hy
      rw [mem_chL]
      constructor
      · rintro (⟨h1, h2⟩ | h)
        · exact .inl ⟨List.mem_cons_of_mem _ h1, h2⟩
        · exact .inr h
      · rintro (⟨h1, h2⟩ | h)
        · rcases List.mem_cons.1 h1 with rfl | h1
          · exact absurd hy h2
          · exact .inl ⟨h1, h2⟩
        · exact .inr h
    · rename_i hy
      split
      · rename_i hd
        simp only [List.mem_cons]
        rw [mem_chL]
        constructor
        · rintro (h | h | h | h)
          · exact .inr ⟨hd.1, h⟩
          · subst h; exact .inl ⟨.inl rfl, hy⟩
          · exact .inl ⟨.inr h.1, h.2⟩
          · cases h.1
        · rintro (⟨h1 | h1, h2⟩ | h)
          · exact .inr (.inl h1)
          · exact .inr (.inr (.inl ⟨h1, h2⟩))
          · exact .inl h.2
      · simp only [List.mem_cons]
        rw [mem_chL]
        constructor
        · rintro (h | h | h)
          · subst h; exact .inl ⟨.inl rfl, hy⟩
          · exact .inl ⟨.inr h.1, h.2⟩
          · exact .inr h
        · rintro (⟨h1 | h1, h2⟩ | h)
          · exact .inl h1
          · exact .inr (.inl ⟨h1, h2⟩)
          · exact .inr (.inr h)
def SrtKV (l : List TKV) : Prop := l.Pairwise fun a b => blt a.fKey b.fKey = true
theorem srt_chL {k v : List UInt8} : ∀ {l : List TKV} {d : Bool}, SrtKV l → SrtKV (chL k v d l)
  | [], d, _ => by unfold chL; split <;> simp [SrtKV]
  | y :: l, d, h => by
    obtain ⟨h1, h2⟩ := List.pairwise_cons.1 h
    unfold chL
    split
    · exact srt_chL h2
    · rename_i hy
      split
      · rename_i hd
        refine List.pairwise_cons.2 ⟨fun z hz => ?_, List.pairwise_cons.2 ⟨fun z hz => ?_, srt_chL h2⟩⟩
        · rcases List.mem_cons.1 hz with rfl | hz
          · exact hd.2
          · rcases mem_chL.1 hz with ⟨hz, _⟩ | ⟨hz, _⟩
            · exact blt_trans hd.2 (h1 z hz)
            · cases hz
        · rcases mem_chL.1 hz with ⟨hz, _⟩ | ⟨hz, _⟩
          · exact h1 z hz
          · cases hz
      · rename_i hd
        refine List.pairwise_cons.2 ⟨fun z hz => ?_, srt_chL h2⟩
        rcases mem_chL.1 hz with ⟨hz2, _⟩ | ⟨hz2, rfl⟩
        · exact h1 z hz2
        · cases e : blt y.fKey k with
          | true => rfl
          | false =>
            cases e2 : blt k y.fKey with
            | true => exact absurd ⟨hz2, e2⟩ hd
            | false => exact absurd (blt_total _ _ e e2) hy
def chgs (l : List TKV) (ops : List TOp) : List TKV := ops.foldl (fun l y => chL y.fKey y.fValue y.fDel l) l
theorem chgs_snoc (l : List TKV) (ops : List TOp) (y : TOp) : chgs l (ops ++ [y]) = chL y.fKey y.fValue y.fDel (chgs l ops) := by
  unfold chgs; rw [List.foldl_append]; rfl
theorem srt_chgs {l : List TKV} (h : SrtKV l) : ∀ ops : List TOp, SrtKV (chgs l ops) := by
  intro ops
  unfold chgs
  induction ops generalizing l with
  | nil => exact h
  | cons y ops ih => exact ih (srt_chL h)
theorem mem_chgs {l : List TKV} {x : TKV} (ops : List TOp) : x ∈ chgs l ops ↔ match lastOp ops x.fKey with
    | none => x ∈ l
    | some y => y.fDel = false ∧ x.fValue = y.fValue := by
  suffices h : ∀ r : List TOp, (x ∈ chgs l r.reverse ↔ match lastOp r.reverse x.fKey with
    | none => x ∈ l
    | some y => y.fDel = false ∧ x.fValue = y.fValue) by simpa using h ops.reverse
  intro r
  induction r with
  | nil => rfl
  | cons y r ih =>
    rw [List.reverse_cons, chgs_snoc, mem_chL, lastOp_snoc]
    by_cases hq : y.fKey = x.fKey
    · rw [if_pos hq]
      simp only [hq, ne_eq, not_true, and_false, false_or]
      constructor
      · rintro ⟨h1, h2⟩; exact ⟨h1, by rw [h2]⟩
      · rintro ⟨h1, h2⟩; exact ⟨h1, by rw [← h2]⟩
    · rw [if_neg hq]
      rw [← ih]
      constructor
      · rintro (⟨h1, _⟩ | ⟨_, h2⟩)
        · exact h1
        · exact absurd (by rw [h2]) hq
      · intro h1; exact .inl ⟨h1, fun e => hq e.symm⟩
/-! ### The maps -/
structure Hist (i : Nat) (sp : Sp) (maps : List (List TKV)) (l : List TKV) : Prop where
  ok : SpOk sp
  floor : sp.floor = z0
  free : ∀ q, itAt sp.rows q = noIt
  vers : VersTo i sp
  len : maps.length = i + 1
  last : maps[i]? = some l
  all : ∀ n lm, maps[n]? = some lm → SrtKV lm ∧ ∀ x, x ∈ lm ↔ (curG sp.rows x.fKey (stN n)).fFound = true ∧ x.fValue = (curG sp.rows x.fKey (stN n)).fValue
  rows : sp.rows.length ≤ 10 * i
  cnt : versN sp.rows ≤ 10 * i
theorem Hist.zero : Hist 0 sp0 [[]] [] := by
  refine ⟨sp0_ok, rfl, fun _ => rfl, fun q v hv => (by cases hv), rfl, rfl, fun n lm h => ?_, Nat.le_refl _, Nat.le_refl _⟩
  have : lm = [] := by
    match n, h with
    | 0, h => simpa using h.symm
    | n + 1, h => simp at h
  subst this
  refine ⟨List.Pairwise.nil, fun x => ?_⟩
  constructor
  · intro h; cases h
  · rintro ⟨h, _⟩; cases h
theorem Hist.puts {i : Nat} {sp : Sp} {maps : List (List TKV)} {l : List TKV} (h : Hist i sp maps l) : Puts i sp sp [] := ⟨h.ok, h.floor, fun _ => rfl, h.free, by simp, rfl⟩
theorem upTo_all {vs : List TVer} {m : TStamp} (h : ∀ v ∈ vs, bhd v.fAt m = false) : upTo vs m = vs.getLast? := by
  unfold upTo
  rw [← List.head?_reverse]
  cases e : vs.reverse with
  | nil => rfl
  | cons v r =>
    rw [List.find?_cons_of_pos]; rfl
    have : v ∈ vs := List.mem_reverse.1 (by rw [e]; exact List.mem_cons_self ..)
    simp [h v this]
theorem Hist.next {i : Nat} {sp sp2 : Sp} {maps : List (List TKV)} {l : List TKV} {ops : List TOp} (h : Hist i sp maps l) (hr : Ress i sp sp2 ops ops) (hl : ops.length ≤ 10) : Hist (i + 1) sp2 (maps ++ [chgs l ops]) (chgs l ops) := by
  have hver : ∀ q y, lastOp ops q = some y → verL i ops q = ⟨atC i, y.fDel, y.fValue⟩ := fun q y e => by unfold verL; rw [e]
  have hcur : ∀ q n, n ≤ i → curG sp2.rows q (stN n) = curG sp.rows q (stN n) := by
    intro q n hn
    unfold curG
    rw [hr.vs]
    split
    · rename_i hs
      obtain ⟨y, e⟩ := Option.isSome_iff_exists.1 hs
      rw [hver q y e, upTo_snoc]
      refine bhd_yes ?_
      cases n with
      | zero => simp [stN, atC]; omega
      | succ n => simp only [stN, atC]; omega
    · rfl
  have hold : ∀ q n, i ≤ n → n ≤ i + 1 → upTo (vsAt sp.rows q) (stN n) = (vsAt sp.rows q).getLast? := by
    intro q n h1 h2
    refine upTo_all fun v hv => ?_
    obtain ⟨j, hj, ha⟩ := h.vers q v hv
    cases n with
    | zero => omega
    | succ n =>
      rw [ha]
      simp [stN, atC, bhd]; omega
  refine ⟨hr.ok, hr.floor, fun q => ?_, fun q v hv => ?_, by simp [h.len], ?_, fun n lm e => ?_, by have := hr.rows; have := h.rows; omega, by have := hr.vers; have := h.cnt; omega⟩
  · rw [hr.it]
    split
    · rfl
    · rename_i hs
      unfold itL
      cases e : lastOp ops q with
      | none => rfl
      | some y => rw [e] at hs; simp at hs
  · rw [hr.vs] at hv
    split at hv
    · rename_i hs
      rcases List.mem_append.1 hv with hv | hv
      · obtain ⟨j, hj, ha⟩ := h.vers q v hv
        exact ⟨j, by omega, ha⟩
      · obtain ⟨y, e⟩ := Option.isSome_iff_exists.1 hs
        rw [hver q y e] at hv
        simp only [List.mem_singleton] at hv
        exact ⟨i, by omega, by rw [hv]⟩
    · obtain ⟨j, hj, ha⟩ := h.vers q v hv
      exact ⟨j, by omega, ha⟩
  · rw [List.getElem?_append_right (by rw [h.len]; omega)]
    simp [h.len]
  · by_cases hn : n < maps.length
    · rw [List.getElem?_append_left hn] at e
      obtain ⟨a1, a2⟩ := h.all n lm e
      refine ⟨a1, fun x => ?_⟩
      rw [hcur _ n (by rw [h.len] at hn; omega)]
      exact a2 x
    · rw [List.getElem?_append_right (by omega)] at e
      have hn' : n - maps.length = 0 := by
        rcases Nat.eq_zero_or_pos (n - maps.length) with h0 | h0
        · exact h0
        · rw [List.getElem?_eq_none (by simp; omega)] at e; cases e
      rw [hn'] at e
      have e : chgs l ops = lm := by simpa using e
      subst e
      have hn2 : n = i + 1 := by rw [h.len] at hn hn'; omega
      subst hn2
      obtain ⟨a1, a2⟩ := h.all i l h.last
      refine ⟨srt_chgs a1 ops, fun x => ?_⟩
      rw [mem_chgs]
      unfold curG
      rw [hr.vs]
      cases e : lastOp ops x.fKey with
      | none =>
        simp only [Option.isSome_none, Bool.false_eq_true, if_false]
        rw [a2 x]
        unfold curG
        rw [hold _ _ (Nat.le_refl _) (by omega), hold _ _ (by omega) (Nat.le_refl _)]
      | some y =>
        simp only [Option.isSome_some, if_true]
        have e3 : upTo (vsAt sp.rows x.fKey ++ [⟨atC i, y.fDel, y.fValue⟩]) (stN (i + 1)) = some ⟨atC i, y.fDel, y.fValue⟩ := upTo_of (A := vsAt sp.rows x.fKey) (B := []) (bhd_irr _) (fun x hx => by cases hx)
        rw [hver _ y e, e3]
        unfold seenV
        cases hd : y.fDel <;> simp [gotN, gotV]
theorem scanL0 {m : TStamp} {most : Int} : ∀ {rows : List Row} {acc : List TKV}, (∀ r ∈ rows, r.it = noIt) → (scanL m 0 most rows acc).2.2 = 0
  | [], acc, _ => rfl
  | r :: rs, acc, h => by
    have h0 : (seen r m 0).2 = 0 := by unfold seen; rw [h r (List.mem_cons_self ..)]; rfl
    unfold scanL
    rw [if_neg (by simp [h0])]
    split
    · rfl
    · exact scanL0 fun x hx => h x (List.mem_cons_of_mem _ hx)
theorem Hist.scan {i n : Nat} {sp : Sp} {maps : List (List TKV)} {l lm : List TKV} (h : Hist i sp maps l) (hi : i ≤ 30) (e : maps[n]? = some lm) : (scanF sp ⟨[], []⟩ (stN n) 0 1000).2.2 = 0 ∧ (scanF sp ⟨[], []⟩ (stN n) 0 1000).1 = lm := by
  have hn : n ≤ i := by
    obtain ⟨hn, _⟩ := List.getElem?_eq_some_iff.1 e
    rw [h.len] at hn; omega
  have hst : rightB (stN n) = true ∧ bhd sp.floor (stN n) = false := by
    rw [h.floor]
    cases n with
    | zero => exact ⟨by decide, by decide⟩
    | succ n =>
      refine ⟨(right_at (i := n) (by omega)).2.1, bhd_no ?_⟩
      simp only [stN, atC]; omega
  have h0 : (scanF sp ⟨[], []⟩ (stN n) 0 1000).2.2 = 0 := by
    unfold scanF
    rw [if_neg (by simp [hst.1, readerB]), if_neg (by simp [hst.2])]
    refine scanL0 fun r hr => ?_
    have hrm : r ∈ sp.rows := (List.mem_filter.1 hr).1
    obtain ⟨i, hi, rfl⟩ := List.getElem_of_mem hrm
    have hrow := rowOf_at h.ok.rise hi
    have := h.free sp.rows[i].key
    unfold itAt at this
    rw [hrow] at this
    exact this
  refine ⟨h0, ?_⟩
  obtain ⟨g1, g2, _⟩ := scan0 (by have := h.rows; omega) h0
  obtain ⟨a1, a2⟩ := h.all n lm e
  rw [g1]
  refine srt_eq (kv_srt h.ok.rise) a1 fun x => ?_
  rw [scan_mem h.ok g2, a2]
  simp [inB, blt_nil]
end Go.Proofs.YtmnnnoinfhiilaaDoor
namespace Go.Proofs.YtmnnnoinfhiilaaDoor
open Go.SL
set_option maxRecDepth 10000
structure OpOk (y : TOp) : Prop where
  one : 1 ≤ y.fKey.length
  most : y.fKey.length ≤ 250
  del : y.fDel = true → y.fValue = []
structure ChOk (ops : List TOp) : Prop where
  each : ∀ y ∈ ops, OpOk y
  rise : ops.Pairwise fun a b => blt a.fKey b.fKey = true
theorem chL_len (k v : List UInt8) : ∀ (l : List TKV) (d : Bool), (chL k v d l).length ≤ l.length + (if d = true then 0 else 1)
  | [], d => by unfold chL; cases d <;> simp
  | x :: l, d => by
    have h1 := chL_len k v l d
    have h2 := chL_len k v l true
    unfold chL
    split
    · simp only [List.length_cons]; omega
    · split
      · rename_i hd
        simp only [List.length_cons, if_true, hd.1, Bool.false_eq_true, if_false] at *; omega
      · simp only [List.length_cons]; omega
theorem chgs_len (l : List TKV) (ops : List TOp) : (chgs l ops).length ≤ l.length + ops.length := by
  unfold chgs
  induction ops generalizing l with
  | nil => simp
  | cons y ops ih =>
    have h1 := chL_len y.fKey y.fValue l y.fDel
    have h2 := ih (chL y.fKey y.fValue y.fDel l)
    simp only [List.foldl_cons, List.length_cons]
    split at h1 <;> omega
section
variable {ω : Om} {I : Imm} {L : LH} {K : Value → M}
theorem ch_in {i : Nat} {v0 v1 v4 v5 : Value} {l : List TKV} {ops : List TOp} {Kn0 : (Value × Value × Value × Value × Unit) → M} (h0 : RL TKVV 2 I [] v0 l) (h1 : RL TOpV 3 I [] v1 ops) (hi : i < ops.length) (hll : l.length ≤ 400000000) (hol : ops.length ≤ 400000000)
    (hk : ∀ I' v', Ext I I' → RL TKVV 2 I' [] v' (chL ops[i].fKey ops[i].fValue ops[i].fDel l) → Kn0 (v', v4, v5, .int .i64 ((i : Int) + 1), ()) I' L) :
    (LoopM ((.slice none 0 0, .bool ops[i].fDel, .int .i64 0, ()) : Value × Value × Value × Unit) fun s Kn1 => sh12_3 ω v0 v1 v4 v5 (.int .i64 i) s.1 s.2.1 s.2.2.1 (fun s => Gh (Kn0 s)) Kn1 (fun v => Gh (K v))) I L := by
  obtain ⟨q1, off1, c1, hix1, hcl1, hc1, hcc1⟩ := RL.ix h1 (i := (i : Int)) (by omega) (by omega)
  rw [geti_nat hi] at hc1
  generalize ops[i] = y at *
  obtain ⟨w1, w2, rfl, g1, g2⟩ := hc1
  have hcv1 := hcc1 I [] (Ext.refl _) (fun _ h => h)
  obtain ⟨a1, d1, rfl⟩ := Bytes.form g1
  obtain ⟨a2, d2, rfl⟩ := Bytes.form g2
  refine loop (fun n s I' L' => I' = I ∧ ∃ (k : Nat) (d : Bool) (XO : LH) (v : Value) (acc : List TKV) (cells : List Value), n + k = l.length ∧ s = (v, .bool d, .int .i64 k, ()) ∧ L' = XO ++ L ∧ SlO 92 2 XO v cells acc.length ∧ Recs (TKVV I) 2 acc cells ∧ acc.length ≤ 2 * k ∧
      acc ++ chL y.fKey y.fValue d (l.drop k) = chL y.fKey y.fValue y.fDel l) l.length ⟨rfl, 0, y.fDel, [], _, [], [], rfl, rfl, rfl, SlO.none _ _, rfl, by simp, rfl⟩ ?_
  rintro n s I' L' ⟨rfl, k, d, XO, v, acc, cells, hnk, rfl, rfl, hO, hR, hal, hA⟩
  unfold sh12_3
  simp only [RL.len h0, SSd, Nat.reduceAdd]
  refine br_split (fun e => ?_) (fun e => ?_)
  · have hk' : k < l.length := by simpa using e
    rw [List.drop_eq_getElem_cons hk', chL] at hA
    obtain ⟨q, off, c, hix, hcl, hc, hcc⟩ := RL.ix h0 (i := (k : Int)) (by omega) (by omega)
    rw [geti_nat hk'] at hc
    generalize l[k] = x at *
    obtain ⟨u1, u2, rfl, f1, f2⟩ := hc
    have hcv := hcc I' [] (Ext.refl _) (fun _ h => h)
    have hu : ∀ u ∈ [u1, u2], u.oneCell' = true := by
      obtain ⟨_, _, rfl⟩ := Bytes.form f1
      obtain ⟨_, _, rfl⟩ := Bytes.form f2
      exact one_all rfl
    have five : ∀ (XO : LH) (v : Value) (cells : List Value) (acc : List TKV) (d : Bool), SlO 92 2 XO v cells acc.length → Recs (TKVV I') 2 acc cells → acc.length ≤ 2 * k + 2 → acc ++ chL y.fKey y.fValue d (l.drop (k + 1)) = chL y.fKey y.fValue y.fDel l →
        sh12_5 ω v (.bool d) (.int .i64 k) (fun s' => Gh fun I2 L2 => ∃ m', m' < n ∧ I2 = I' ∧ ∃ (k : Nat) (d : Bool) (XO : LH) (v : Value) (acc : List TKV) (cells : List Value), m' + k = l.length ∧ s' = (v, .bool d, .int .i64 k, ()) ∧ L2 = XO ++ L ∧ SlO 92 2 XO v cells acc.length ∧ Recs (TKVV I') 2 acc cells ∧ acc.length ≤ 2 * k ∧
      acc ++ chL y.fKey y.fValue d (l.drop k) = chL y.fKey y.fValue y.fDel l) (fun v => Gh (K v)) I' (XO ++ L) := by
      intro XO v cells acc d hO hR hal hA
      unfold sh12_5
      try simp only [SSd, Nat.reduceAdd]
      rw [wrap_i64 _ (by omega)]
      exact Gh.done ⟨n - 1, by omega, rfl, k + 1, d, XO, v, acc, cells, by omega, rfl, rfl, hO, hR, by omega, hA⟩
    have seven : ∀ (XO : LH) (v : Value) (cells : List Value) (acc : List TKV) (d : Bool), SlO 92 2 XO v cells acc.length → Recs (TKVV I') 2 acc cells → acc.length ≤ 2 * k + 1 → acc ++ x :: chL y.fKey y.fValue d (l.drop (k + 1)) = chL y.fKey y.fValue y.fDel l →
        sh12_7 ω v0 v (.bool d) (.int .i64 k) (fun s' => Gh fun I2 L2 => ∃ m', m' < n ∧ I2 = I' ∧ ∃ (k : Nat) (d : Bool) (XO : LH) (v : Value) (acc : List TKV) (cells : List Value), m' + k = l.length ∧ s' = (v, .bool d, .int .i64 k, ()) ∧ L2 = XO ++ L ∧ SlO 92 2 XO v cells acc.length ∧ Recs (TKVV I') 2 acc cells ∧ acc.length ≤ 2 * k ∧
      acc ++ chL y.fKey y.fValue d (l.drop k) = chL y.fKey y.fValue y.fDel l) (fun v => Gh (K v)) I' (XO ++ L) := by
      intro XO v cells acc d hO hR hal hA
      unfold sh12_7
      simp only [hix, SSd, Nat.reduceAdd]
      refine rdNC hcv (Ext.refl _) rfl ?_
      refine rec_appG (R := TKVV) (X6 := XO) (x := x) rfl (by omega) hO hR ⟨u1, u2, rfl, f1, f2⟩ rfl hu (by omega) (by omega) (fun X1 X6 v6 cells6 h6 hR6 => ?_)
      exact Gh.to (X6 ++ L) (Gh.done (five X6 v6 cells6 _ d h6 hR6 (by simp; omega) (by rw [List.append_assoc]; exact hA)))
    refine drawC ?_
    simp only [hix, SSd, Nat.reduceAdd]
    refine rdCS (hcv 0 _ rfl) (Ext.refl _) ?_
    refine bs_I f1 (Ext.refl _) ?_
    simp only [hix1, SSd, Nat.reduceAdd]
    refine rdCS (hcv1 1 _ rfl) (Ext.refl _) ?_
    refine bs_I g1 (Ext.refl _) ?_
    simp only [sEq, SSd, Nat.reduceAdd]
    refine br_split (fun e2 => ?_) (fun e2 => ?_)
    · have e2' : x.fKey = y.fKey := by simpa using e2
      rw [if_pos e2'] at hA
      exact five XO v cells acc d hO hR (by omega) hA
    · have e2' : ¬ x.fKey = y.fKey := by simpa using e2
      rw [if_neg e2'] at hA
      refine drawC ?_
      try simp only [SSd, Nat.reduceAdd]
      cases d with
      | true =>
        rw [if_neg (by simp)] at hA
        simp only [Bool.not_true, SSd, Nat.reduceAdd]
        exact seven XO v cells acc true hO hR (by omega) hA
      | false =>
        simp only [Bool.not_false, hix, SSd, Nat.reduceAdd]
        refine rdCS (hcv 0 _ rfl) (Ext.refl _) ?_
        refine bs_I f1 (Ext.refl _) ?_
        refine rdCS (hcv1 1 _ rfl) (Ext.refl _) ?_
        refine bs_I g1 (Ext.refl _) ?_
        simp only [sGt, SSd, Nat.reduceAdd]
        refine br_split (fun e3 => ?_) (fun e3 => ?_)
        · have hb : blt y.fKey x.fKey = true := by
            simp only [Bool.not_eq_true', Bool.or_eq_false_iff] at e3
            cases hb : blt y.fKey x.fKey with
            | true => rfl
            | false => exact absurd (blt_total _ _ e3.1 hb) e2'
          rw [if_pos ⟨rfl, hb⟩] at hA
          unfold sh12_6
          refine drawC ?_
          simp only [hix1, SSd, Nat.reduceAdd]
          refine rdCS (hcv1 1 _ rfl) (Ext.refl _) ?_
          refine rdCS (hcv1 2 _ rfl) (Ext.refl _) ?_
          try simp only [SSd, Nat.reduceAdd]
          refine rec_appG (R := TKVV) (X6 := XO) (x := ⟨y.fKey, y.fValue⟩) rfl (by omega) hO hR ⟨_, _, rfl, g1, g2⟩ rfl (one_all rfl) (by omega) (by omega) (fun X1 X6 v6 cells6 h6 hR6 => ?_)
          exact Gh.to (X6 ++ L) (Gh.done (seven X6 v6 cells6 _ true h6 hR6 (by simp; omega) (by rw [List.append_assoc]; exact hA)))
        · have hb : ¬ (false = false ∧ blt y.fKey x.fKey = true) := by
            rintro ⟨_, hb⟩
            have := blt_asymm hb
            rw [this] at e3
            simp at e3
            exact e2' e3
          rw [if_neg hb] at hA
          exact seven XO v cells acc false hO hR (by omega) hA
  · have hkl : k = l.length := by simp at e; omega
    subst hkl
    rw [List.drop_length, chL] at hA
    have ten : ∀ (XO : LH) (v : Value) (cells : List Value) (acc : List TKV), SlO 92 2 XO v cells acc.length → Recs (TKVV I') 2 acc cells → acc = chL y.fKey y.fValue y.fDel l → sh12_10 ω v0 v4 v5 (.int .i64 i) v (fun s => Gh (Kn0 s)) (fun v => Gh (K v)) I' (XO ++ L) := by
      intro XO v cells acc hO hR he
      subst he
      unfold sh12_10
      try simp only [SSd, Nat.reduceAdd]
      rw [wrap_i64 _ (by omega)]
      exact SlO.freeze hO (fun I3 hI3 hSl => Gh.done (hk I3 v hI3 (RL.ofI hSl (hR.imp fun x c h => h.mono hI3))))
    unfold sh12_9
    try simp only [SSd, Nat.reduceAdd]
    refine br_split (fun e2 => ?_) (fun e2 => ?_)
    · have e2' : d = false := by simpa using e2
      subst e2'
      rw [if_neg (by simp)] at hA
      refine drawC ?_
      simp only [hix1, SSd, Nat.reduceAdd]
      refine rdCS (hcv1 1 _ rfl) (Ext.refl _) ?_
      refine rdCS (hcv1 2 _ rfl) (Ext.refl _) ?_
      try simp only [SSd, Nat.reduceAdd]
      refine rec_appG (R := TKVV) (X6 := XO) (x := ⟨y.fKey, y.fValue⟩) rfl (by omega) hO hR ⟨_, _, rfl, g1, g2⟩ rfl (one_all rfl) (by omega) (by omega) (fun X1 X6 v6 cells6 h6 hR6 => ?_)
      exact Gh.to (X6 ++ L) (Gh.done (ten X6 v6 cells6 _ h6 hR6 hA))
    · have e2' : d = true := by simpa using e2
      subst e2'
      rw [if_pos rfl, List.append_nil] at hA
      exact ten XO v cells acc hO hR hA
theorem changed13_spec {v0 v1 : Value} {l : List TKV} {ops : List TOp} (h0 : RL TKVV 2 I [] v0 l) (h1 : RL TOpV 3 I [] v1 ops) (hc : ChOk ops) (hll : l.length ≤ 200000000) (hol : ops.length ≤ 200000000)
    (hk : ∀ I' v', Ext I I' → RL TKVV 2 I' [] v' (chgs l ops) → K (.tuple #[v', .bool true]) I' L) : Cal Tryd.prog ω 12 #[v0, v1] K I L := by
  refine cal12 ?_
  unfold sh12
  refine loop (fun n s I' L' => Ext I I' ∧ L' = L ∧ ∃ (i : Nat) (v : Value), n + i = ops.length ∧ s = (v, .slice none 0 0, .bool false, .int .i64 i, ()) ∧ RL TKVV 2 I' [] v (chgs l (ops.take i))) ops.length ⟨Ext.refl _, rfl, 0, v0, rfl, rfl, h0⟩ ?_
  rintro n s I' L' ⟨hI, rfl, i, v, hni, rfl, hv⟩
  have h1' := RL.monoI (fun x c h => h.mono hI) h1 hI
  unfold sh12_1
  simp only [RL.len h1, SSd, Nat.reduceAdd]
  refine br_split (fun e => ?_) (fun e => ?_)
  · have hi : i < ops.length := by simpa using e
    have hcl := chgs_len l (ops.take i)
    rw [List.length_take] at hcl
    have hin := fun (Kn0 : (Value × Value × Value × Value × Unit) → M) (v4 v5 : Value) => ch_in (ω := ω) (K := K) (L := L') (Kn0 := Kn0) (v4 := v4) (v5 := v5) hv h1' hi (by omega) (by omega)
    have hch : chL ops[i].fKey ops[i].fValue ops[i].fDel (chgs l (ops.take i)) = chgs l (ops.take (i + 1)) := by
      rw [List.take_succ_eq_append_getElem hi, chgs_snoc]
    rw [hch] at hin
    have hok := hc.each _ (List.getElem_mem hi)
    obtain ⟨q1, off1, c1, hix1, hcl1, hc1, hcc1⟩ := RL.ix h1' (i := (i : Int)) (by omega) (by omega)
    rw [geti_nat hi] at hc1
    have hprev : 0 < i → ∃ q b off w0 w1 w2, ixV 3 v1 (.int .i64 ((i : Int) - 1)) = some (.pointer (some ⟨b, off, none⟩)) ∧ Cells I' L' b off [w0, w1, w2] ∧ Bytes I' w1 q ∧ (blt ops[i].fKey q || ops[i].fKey == q) = false := by
      intro h
      obtain ⟨q2, off2, c2, hix2, hcl2, hc2, hcc2⟩ := RL.ix h1' (i := ((i - 1 : Nat) : Int)) (by omega) (by omega)
      rw [geti_nat (by omega)] at hc2
      obtain ⟨w1, w2, he, g1, g2⟩ := hc2
      have hcc3 := hcc2 I' L' (Ext.refl _) (fun _ h => by cases h)
      rw [he] at hcc3
      have hlt := List.pairwise_iff_getElem.1 hc.rise (i - 1) i (by omega) hi (by omega)
      refine ⟨_, _, _, _, _, _, by rw [← hix2]; congr 3; omega, hcc3, g1, ?_⟩
      rw [blt_asymm hlt]
      simpa using fun e => blt_ne' hlt e
    generalize ops[i] = y at *
    obtain ⟨w1, w2, rfl, g1, g2⟩ := hc1
    obtain ⟨a1, d1, rfl⟩ := Bytes.form g1
    obtain ⟨a2, d2, rfl⟩ := Bytes.form g2
    have hcv1 := hcc1 I' [] (Ext.refl _) (fun _ h => h)
    obtain ⟨o1, o2, o3⟩ := hok
    refine drawC ?_
    simp only [hix1, SSd, Nat.reduceAdd]
    refine rdCS (hcv1 1 _ rfl) (Ext.refl _) ?_
    try simp only [SSd, Nat.reduceAdd]
    refine gd_split (fun e2 => ?_) (fun e2 => absurd e2 (by simp; omega))
    try simp only [SSd, Nat.reduceAdd]
    refine rdCS (hcv1 1 _ rfl) (Ext.refl _) ?_
    try simp only [SSd, Nat.reduceAdd]
    refine gd_split (fun e2 => ?_) (fun e2 => absurd e2 (by simp; omega))
    refine rdCS (hcv1 0 _ rfl) (Ext.refl _) ?_
    have tail : (Gd (.bool (decide (0 < (i : Int)))) true
                  (Rv (some (Stay I' L')) (ld1R (.pointer (some ⟨q1, off1 + 1, none⟩))) fun v24 =>
                    Rv (some (Stay I' L')) (bsR v24) fun v25 =>
                      Pv (ixV 3 v1 (.int .i64 (IntKind.i64.wrap ((i : Int) - 1)))) fun v27 =>
                        Pv (fldV 1 v27) fun v28 =>
                          Rv (some (Stay I' L')) (ld1R v28) fun v29 =>
                            Rv (some (Stay I' L')) (bsR v29) fun v30 =>
                              Pv (binSV .leq v25 v30) fun v31 =>
                                Br v31 (Gh (K (.tuple #[.slice none 0 0, .bool false])))
                                  (Rv none (ld1R (.pointer (some ⟨q1, off1, none⟩))) fun v34 =>
                                    LoopM ((.slice none 0 0, v34, .int .i64 0, ()) : Value × Value × Value × Unit) fun s Kn1 =>
                                      sh12_3 ω v v1 (.slice none 0 0) (.bool false) (.int .i64 i) s.1 s.2.1 s.2.2.1
                                        (fun s => Gh fun I2 L2 => ∃ m', m' < n ∧ Ext I I2 ∧ L2 = L' ∧ ∃ (i : Nat) (v : Value), m' + i = ops.length ∧ s = (v, .slice none 0 0, .bool false, .int .i64 i, ()) ∧ RL TKVV 2 I2 [] v (chgs l (ops.take i))) Kn1 fun v => Gh (K v)))
                  (Rv none (ld1R (.pointer (some ⟨q1, off1, none⟩))) fun v83 =>
                    LoopM ((.slice none 0 0, v83, .int .i64 0, ()) : Value × Value × Value × Unit) fun s Kn1 =>
                      sh12_3 ω v v1 (.slice none 0 0) (.bool false) (.int .i64 i) s.1 s.2.1 s.2.2.1
                        (fun s => Gh fun I2 L2 => ∃ m', m' < n ∧ Ext I I2 ∧ L2 = L' ∧ ∃ (i : Nat) (v : Value), m' + i = ops.length ∧ s = (v, .slice none 0 0, .bool false, .int .i64 i, ()) ∧ RL TKVV 2 I2 [] v (chgs l (ops.take i))) Kn1 fun v => Gh (K v))) I' L' := by
      have fin := hin (fun s => fun I2 L2 => ∃ m', m' < n ∧ Ext I I2 ∧ L2 = L' ∧ ∃ (i : Nat) (v : Value), m' + i = ops.length ∧ s = (v, .slice none 0 0, .bool false, .int .i64 i, ()) ∧ RL TKVV 2 I2 [] v (chgs l (ops.take i))) (.slice none 0 0) (.bool false) (fun I2 v2 hI2 hv2 => ⟨n - 1, by omega, hI.trans hI2, rfl, i + 1, v2, by omega, rfl, hv2⟩)
      refine gd_split (fun e2 => ?_) (fun e2 => ?_)
      · obtain ⟨q, b, off, u0, u1, u2, hix2, hc2, hq, hle⟩ := hprev (by simp at e2; omega)
        refine rdCS (hcv1 1 _ rfl) (Ext.refl _) ?_
        refine bs_I g1 (Ext.refl _) ?_
        rw [wrap_i64 _ (by omega)]
        simp only [hix2, SSd, Nat.reduceAdd]
        refine rdCS (hc2 1 _ rfl) (Ext.refl _) ?_
        refine bs_I hq (Ext.refl _) ?_
        simp only [sLe, hle, SSd, Nat.reduceAdd]
        refine rdC (hcv1 0 _ rfl) (Ext.refl _) ?_
        exact fin
      · refine rdC (hcv1 0 _ rfl) (Ext.refl _) ?_
        exact fin
    refine gd_split (fun e3 => ?_) (fun e3 => ?_)
    · refine rdCS (hcv1 2 _ rfl) (Ext.refl _) ?_
      try simp only [SSd, Nat.reduceAdd]
      refine gd_split (fun e4 => tail) (fun e4 => absurd (o3 (by simpa using e3)) (by simpa using e4))
    · exact tail
  · have hi : i = ops.length := by simp at e; omega
    subst hi
    rw [List.take_length] at hv
    exact Gh.done (hk I' v hI hv)
end
end Go.Proofs.YtmnnnoinfhiilaaDoor
