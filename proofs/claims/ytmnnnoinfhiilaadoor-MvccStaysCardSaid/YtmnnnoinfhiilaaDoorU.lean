/-
  The document's lists, and the rows they stand for.
-/
-- S3
import Derived.Test.YtmnnnoinfhiilaaDoorT
set_option linter.unusedSimpArgs false
set_option linter.unusedVariables false
namespace Go.Proofs.YtmnnnoinfhiilaaDoor
open Go.SL
set_option maxRecDepth 10000
theorem intsOf_app (A B : List Row) : intsOf (A ++ B) = intsOf A ++ intsOf B := by simp [intsOf]
theorem intsOf_cons (r : Row) (B : List Row) : intsOf (r :: B) = (if r.it.txn = 0 then [] else [itF r]) ++ intsOf B := by
  unfold intsOf
  rw [List.filter_cons]
  by_cases h : r.it.txn = 0 <;> simp [h]
theorem versOf_app (A B : List Row) : versOf (A ++ B) = versOf A ++ versOf B := by simp [versOf]
theorem versOf_cons (r : Row) (B : List Row) : versOf (r :: B) = r.vs.map (verF r.key) ++ versOf B := by simp [versOf]
theorem versN_len (rows : List Row) : (versOf rows).length = versN rows := by
  induction rows with
  | nil => rfl
  | cons r rs ih => rw [versOf_cons]; simp [versN] at ih ⊢; omega
theorem ints_key {A : List Row} {x : TIntent} (h : x ∈ intsOf A) : ∃ r ∈ A, x.fKey = r.key := by
  obtain ⟨r, hr, rfl⟩ := List.mem_map.1 h
  exact ⟨r, (List.mem_filter.1 hr).1, rfl⟩
theorem vers_key {A : List Row} {x : TVersion} (h : x ∈ versOf A) : ∃ r ∈ A, x.fKey = r.key ∧ ∃ v ∈ r.vs, x = verF r.key v := by
  obtain ⟨r, hr, hx⟩ := List.mem_flatMap.1 h
  obtain ⟨v, hv, rfl⟩ := List.mem_map.1 hx
  exact ⟨r, hr, rfl, v, hv, rfl⟩
def itOpt (rows : List Row) (k : List UInt8) : Option TIntent := match rowOf rows k with
  | none => none
  | some r => if r.it.txn = 0 then none else some (itF r)
theorem ints_find {rows : List Row} (hs : SrtK (keysOf rows)) (k : List UInt8) : (intsOf rows).find? (fun x => x.fKey == k) = itOpt rows k := by
  unfold itOpt
  rcases place k hs with ⟨A, r, B, e, hk, hm⟩ | ⟨A, B, e, hm⟩
  · subst e
    rw [rowOf_mid hm hk, intsOf_app, intsOf_cons, List.find?_append, List.find?_append]
    have h1 : (intsOf A).find? (fun x => x.fKey == k) = none := List.find?_eq_none.2 fun x hx => by
      obtain ⟨y, hy, e⟩ := ints_key hx
      rw [e]; simpa using blt_ne (hm.lt y hy)
    have h2 : (intsOf B).find? (fun x => x.fKey == k) = none := List.find?_eq_none.2 fun x hx => by
      obtain ⟨y, hy, e⟩ := ints_key hx
      rw [e]; simpa using blt_ne' (hm.gt y hy)
    rw [h1, h2]
    by_cases h : r.it.txn = 0 <;> simp [h, itF, hk]
  · subst e
    rw [rowOf_none' hm.notin]
    exact List.find?_eq_none.2 fun x hx => by
      obtain ⟨y, hy, e⟩ := ints_key hx
      rw [e]; simpa using hm.notin y hy
def lastV (V : List TVersion) (k : List UInt8) (m : TStamp) : Option TVersion := V.reverse.find? fun v => v.fKey == k && !bhd v.fAt m
def verOpt (rows : List Row) (k : List UInt8) (m : TStamp) : Option TVersion := match rowOf rows k with
  | none => none
  | some r => (upTo r.vs m).map (verF k)
theorem lastV_none {V : List TVersion} {k : List UInt8} {m : TStamp} (h : ∀ x ∈ V, x.fKey ≠ k) : lastV V k m = none := by
  unfold lastV
  exact List.find?_eq_none.2 fun x hx => by simp [h x (List.mem_reverse.1 hx)]
theorem lastV_app (A B : List TVersion) (k : List UInt8) (m : TStamp) : lastV (A ++ B) k m = (lastV B k m).or (lastV A k m) := by
  unfold lastV; rw [List.reverse_append, List.find?_append]
theorem lastV_row (vs : List TVer) (k : List UInt8) (m : TStamp) : lastV (vs.map (verF k)) k m = (upTo vs m).map (verF k) := by
  unfold lastV upTo
  rw [← List.map_reverse, List.find?_map]
  simp [Function.comp_def, verF]
theorem vers_last {rows : List Row} (hs : SrtK (keysOf rows)) (k : List UInt8) (m : TStamp) : lastV (versOf rows) k m = verOpt rows k m := by
  unfold verOpt
  have no : ∀ {A : List Row}, (∀ x ∈ A, x.key ≠ k) → lastV (versOf A) k m = none := fun h => lastV_none fun x hx => by
    obtain ⟨y, hy, e, _⟩ := vers_key hx
    rw [e]; exact h y hy
  rcases place k hs with ⟨A, r, B, e, hk, hm⟩ | ⟨A, B, e, hm⟩
  · subst e
    rw [rowOf_mid hm hk, versOf_app, versOf_cons, lastV_app, lastV_app, no (fun x hx => blt_ne (hm.lt x hx)), no (fun x hx => blt_ne' (hm.gt x hx)), hk, lastV_row]
    simp
  · subst e
    rw [rowOf_none' hm.notin]
    exact no hm.notin
abbrev topS : TStamp := ⟨9007199254740991, 65535⟩
theorem upTo_top {vs : List TVer} (h : ∀ v ∈ vs, VerOk v) : upTo vs topS = vs.getLast? := by
  unfold upTo
  rw [List.getLast?_eq_head?_reverse]
  cases hr : vs.reverse with
  | nil => rfl
  | cons v l =>
    have hv : v ∈ vs := List.mem_reverse.1 (by rw [hr]; exact List.mem_cons_self ..)
    have := rightB_iff (h v hv).right
    have hb : bhd v.fAt topS = false := by simp [bhd]; omega
    simp [hb]
theorem last_opt {sp : Sp} (h : SpOk sp) (k : List UInt8) : verOpt sp.rows k topS = (vsAt sp.rows k).getLast?.map (verF k) := by
  unfold verOpt vsAt
  cases hr : rowOf sp.rows k with
  | none => rfl
  | some r =>
    show Option.map _ (upTo r.vs topS) = Option.map _ r.vs.getLast?
    rw [upTo_top (h.rows r (rowOf_mem hr)).vs]
/-! ### An intent is set in the list -/
def setL (x : TIntent) : Bool → List TIntent → List TIntent
  | d, [] => if d then [] else [x]
  | d, i :: r => (if !d && !blt i.fKey x.fKey then [x] else []) ++ ((if i.fKey ≠ x.fKey then [i] else []) ++ setL x (d || !blt i.fKey x.fKey) r)
theorem setL_lt {x : TIntent} {B : List TIntent} : ∀ {A : List TIntent}, (∀ i ∈ A, blt i.fKey x.fKey = true) → setL x false (A ++ B) = A ++ setL x false B
  | [], _ => rfl
  | i :: A, h => by
    have h1 := h i (List.mem_cons_self ..)
    simp only [List.cons_append, setL, h1, Bool.not_true, Bool.and_false, Bool.or_false]
    rw [if_neg (by simp), if_pos (blt_ne h1), setL_lt (fun y hy => h y (List.mem_cons_of_mem _ hy))]
    rfl
theorem setL_done {x : TIntent} : ∀ {A : List TIntent}, (∀ i ∈ A, i.fKey ≠ x.fKey) → setL x true A = A
  | [], _ => rfl
  | i :: A, h => by
    simp only [setL, Bool.not_true, Bool.false_and, Bool.true_or]
    rw [if_neg (by simp), if_pos (h i (List.mem_cons_self ..)), setL_done (fun y hy => h y (List.mem_cons_of_mem _ hy))]
    rfl
theorem setL_gt {x : TIntent} {A : List TIntent} (h : ∀ i ∈ A, blt x.fKey i.fKey = true) : setL x false A = x :: A := by
  cases A with
  | nil => rfl
  | cons i A =>
    have h1 := h i (List.mem_cons_self ..)
    simp only [setL, blt_asymm h1, Bool.not_false, Bool.and_true, Bool.or_true]
    rw [if_pos trivial, if_pos (blt_ne' h1), setL_done (fun y hy => blt_ne' (h y (List.mem_cons_of_mem _ hy)))]
    rfl
theorem setL_rows {rows : List Row} {k : List UInt8} {it : Itn} (hs : SrtK (keysOf rows)) (h0 : it.txn ≠ 0) : setL (itF ⟨k, [], it⟩) false (intsOf rows) = intsOf (setIt k it rows) := by
  have lt : ∀ {A B : List Row}, Mid A k B → ∀ i ∈ intsOf A, blt i.fKey (itF ⟨k, [], it⟩).fKey = true := fun hm i hi => by
    obtain ⟨y, hy, e⟩ := ints_key hi
    rw [e]; exact hm.lt y hy
  have gt : ∀ {A B : List Row}, Mid A k B → ∀ i ∈ intsOf B, blt (itF ⟨k, [], it⟩).fKey i.fKey = true := fun hm i hi => by
    obtain ⟨y, hy, e⟩ := ints_key hi
    rw [e]; exact hm.gt y hy
  rcases place k hs with ⟨A, r, B, e, hk, hm⟩ | ⟨A, B, e, hm⟩
  · subst e
    rw [setIt_mid hk hm, intsOf_app, intsOf_app, setL_lt (lt hm), intsOf_cons, intsOf_cons]
    congr 1
    simp only [if_neg h0]
    by_cases h : r.it.txn = 0
    · rw [if_pos h]
      simp only [List.nil_append]
      rw [setL_gt (gt hm)]
      rfl
    · rw [if_neg h]
      have e1 : (itF r).fKey = k := hk
      have e2 : (itF ⟨k, [], it⟩).fKey = k := rfl
      simp only [List.cons_append, List.nil_append, setL, e1, e2, blt_irrefl, Bool.not_false, Bool.and_true, Bool.or_true]
      rw [if_pos trivial, if_neg (by simp), setL_done (fun y hy => blt_ne' (gt hm y hy))]
      rfl
  · subst e
    rw [setIt_gap hm, intsOf_app, intsOf_app, setL_lt (lt hm), intsOf_cons, setL_gt (gt hm)]
    simp only [if_neg h0]
    rfl
/-! ### An intent is taken out, a version put in -/
def insL (v : TVersion) : Bool → List TVersion → List TVersion
  | d, [] => if d then [] else [v]
  | d, u :: r => (if !d && blt v.fKey u.fKey then [v] else []) ++ (u :: insL v (d || blt v.fKey u.fKey) r)
theorem insL_done {v : TVersion} : ∀ {A : List TVersion}, insL v true A = A
  | [] => rfl
  | u :: A => by
    simp only [insL, Bool.not_true, Bool.false_and, Bool.true_or]
    rw [if_neg (by simp), insL_done]; rfl
theorem insL_le {v : TVersion} {B : List TVersion} : ∀ {A : List TVersion}, (∀ u ∈ A, blt v.fKey u.fKey = false) → insL v false (A ++ B) = A ++ insL v false B
  | [], _ => rfl
  | u :: A, h => by
    have h1 := h u (List.mem_cons_self ..)
    simp only [List.cons_append, insL, h1, Bool.and_false, Bool.or_false]
    rw [if_neg (by simp), insL_le (fun y hy => h y (List.mem_cons_of_mem _ hy))]
    rfl
theorem insL_gt {v : TVersion} {A : List TVersion} (h : ∀ u ∈ A, blt v.fKey u.fKey = true) : insL v false A = v :: A := by
  cases A with
  | nil => rfl
  | cons u A =>
    simp only [insL, h u (List.mem_cons_self ..), Bool.not_false, Bool.and_true, Bool.or_true]
    rw [if_pos trivial, insL_done]; rfl
theorem tidy_ints (rows : List Row) : intsOf (tidyR rows) = intsOf rows := by
  induction rows with
  | nil => rfl
  | cons r rs ih =>
    unfold tidyR at *
    rw [List.filter_cons]
    by_cases h : emptyB r = true
    · have h0 : r.it.txn = 0 := by simp [emptyB] at h; exact h.2
      simp only [h, Bool.not_true, Bool.false_eq_true, if_false]
      rw [ih, intsOf_cons, if_pos h0]; rfl
    · simp only [Bool.eq_false_iff.2 h, Bool.not_false, if_true]
      rw [intsOf_cons, intsOf_cons, ih]
theorem tidy_vers (rows : List Row) : versOf (tidyR rows) = versOf rows := by
  induction rows with
  | nil => rfl
  | cons r rs ih =>
    unfold tidyR at *
    rw [List.filter_cons]
    by_cases h : emptyB r = true
    · have h0 : r.vs = [] := by simp [emptyB] at h; exact h.1
      simp only [h, Bool.not_true, Bool.false_eq_true, if_false]
      rw [ih, versOf_cons, h0]; rfl
    · simp only [Bool.eq_false_iff.2 h, Bool.not_false, if_true]
      rw [versOf_cons, versOf_cons, ih]
theorem res_ints {A B : List Row} {r : Row} {k : List UInt8} {yes : Bool} {a : TStamp} (hm : Mid A k B) (hk : r.key = k) : intsOf (tidyR (updR k (resR yes a) (A ++ r :: B))) = (intsOf (A ++ r :: B)).filter fun x => x.fKey != k := by
  rw [tidy_ints, updR_mid hm hk, intsOf_app, intsOf_app, intsOf_cons, intsOf_cons, List.filter_append, List.filter_append]
  have h1 : (intsOf A).filter (fun x => x.fKey != k) = intsOf A := List.filter_eq_self.2 fun x hx => by
    obtain ⟨y, hy, e⟩ := ints_key hx
    rw [e]; simpa using blt_ne (hm.lt y hy)
  have h2 : (intsOf B).filter (fun x => x.fKey != k) = intsOf B := List.filter_eq_self.2 fun x hx => by
    obtain ⟨y, hy, e⟩ := ints_key hx
    rw [e]; simpa using blt_ne' (hm.gt y hy)
  rw [h1, h2]
  congr 1
  have e : (resR yes a r).it.txn = 0 := rfl
  rw [if_pos e]
  by_cases h : r.it.txn = 0 <;> simp [h, itF, hk]
theorem res_vers {A B : List Row} {r : Row} {k : List UInt8} {a : TStamp} (hm : Mid A k B) (hk : r.key = k) : versOf (tidyR (updR k (resR true a) (A ++ r :: B))) = insL ⟨k, a, r.it.ver.fDel, r.it.ver.fValue⟩ false (versOf (A ++ r :: B)) := by
  rw [tidy_vers, updR_mid hm hk, versOf_app, versOf_app, versOf_cons, versOf_cons]
  rw [insL_le (fun u hu => by
    obtain ⟨y, hy, e, _⟩ := vers_key hu
    rw [e]; exact blt_asymm (hm.lt y hy)), insL_le (fun u hu => by
    obtain ⟨v, hv, rfl⟩ := List.mem_map.1 hu
    show blt k r.key = false
    rw [hk]; exact blt_irrefl k), insL_gt (fun u hu => by
    obtain ⟨y, hy, e, _⟩ := vers_key hu
    rw [e]; exact hm.gt y hy)]
  simp [resR, verF, hk]
theorem res_vers0 {A B : List Row} {r : Row} {k : List UInt8} {a : TStamp} (hm : Mid A k B) (hk : r.key = k) : versOf (tidyR (updR k (resR false a) (A ++ r :: B))) = versOf (A ++ r :: B) := by
  rw [tidy_vers, updR_mid hm hk, versOf_app, versOf_app, versOf_cons, versOf_cons]
  simp [resR]
/-! ### What is collected -/
def keepV (V : List TVersion) (fl : TStamp) (v : TVersion) : Bool := match lastV V v.fKey fl with
  | none => true
  | some k => !(bhd k.fAt v.fAt || (k.fAt.fWall == v.fAt.fWall && k.fAt.fLogic == v.fAt.fLogic) && k.fDel)
theorem col_ints (rows : List Row) (fl : TStamp) : intsOf (tidyR (rows.map (colR fl))) = intsOf rows := by
  rw [tidy_ints]
  induction rows with
  | nil => rfl
  | cons r rs ih => rw [List.map_cons, intsOf_cons, intsOf_cons, ih, colR_it]; congr 2; unfold itF; rw [colR_it, colR_key]
theorem col_vers {rows : List Row} (hs : SrtK (keysOf rows)) (fl : TStamp) : versOf (tidyR (rows.map (colR fl))) = (versOf rows).filter (keepV (versOf rows) fl) := by
  rw [tidy_vers]
  have : ∀ (A B : List Row), SrtK (keysOf (A ++ B)) → versOf (B.map (colR fl)) = (versOf B).filter (keepV (versOf (A ++ B)) fl) := by
    intro A B
    induction B generalizing A with
    | nil => intro _; rfl
    | cons r B ih =>
      intro hs
      have h1 := ih (A ++ [r]) (by simpa using hs)
      rw [List.append_assoc, List.singleton_append] at h1
      rw [List.map_cons, versOf_cons, versOf_cons, List.filter_append, h1]
      congr 1
      have hl := vers_last hs r.key fl
      have hv : verOpt (A ++ r :: B) r.key fl = (upTo r.vs fl).map (verF r.key) := by unfold verOpt; rw [rowOf_mid hs.mid rfl]
      rw [hv] at hl
      rw [colR_key]
      have hkeep : ∀ v : TVer, keepV (versOf (A ++ r :: B)) fl (verF r.key v) = match upTo r.vs fl with
          | none => true
          | some k => !oldB k v := by
        intro v
        unfold keepV
        rw [show (verF r.key v).fKey = r.key from rfl, hl]
        cases upTo r.vs fl with
        | none => rfl
        | some k =>
          simp only [Option.map_some, verF, oldB]
          congr 2
          rw [Bool.and_comm]
          congr 1
          rw [Bool.eq_iff_iff]
          simp only [Bool.and_eq_true, beq_iff_eq]
          exact ⟨fun h => ⟨h.1.symm, h.2.symm⟩, fun h => ⟨h.1.symm, h.2.symm⟩⟩
      unfold colR
      cases hu : upTo r.vs fl with
      | none =>
        rw [hu] at hkeep
        symm
        exact List.filter_eq_self.2 fun x hx => by
          obtain ⟨v, hv, rfl⟩ := List.mem_map.1 hx
          exact hkeep v
      | some k =>
        rw [hu] at hkeep
        simp only [List.filter_map, Function.comp_def]
        congr 1
        exact List.filter_congr fun v _ => (hkeep v).symm
  exact this [] rows hs
end Go.Proofs.YtmnnnoinfhiilaaDoor
