/-
  What was read is read again; what has not changed is read alike.
-/
-- S3
import Derived.Test.YtmnnnoinfhiilaaDoorRC
set_option linter.unusedSimpArgs false
set_option linter.unusedVariables false
namespace Go.Proofs.YtmnnnoinfhiilaaDoor
open Go.SL
set_option maxRecDepth 10000
def curG (rows : List Row) (k : List UInt8) (m : TStamp) : TGot := seenV (upTo (vsAt rows k) m)
theorem seen0 {r : Row} {m : TStamp} (h : (seen r m 0).2 = 0) : seen r m 0 = (seenV (upTo r.vs m), 0) := by
  unfold seen at h ⊢
  by_cases h0 : r.it.txn = 0
  · rw [if_pos h0]
  · rw [if_neg h0, if_neg h0] at h ⊢
    by_cases h1 : bhd r.it.ver.fAt m = false
    · rw [if_pos h1] at h; simp at h
    · rw [if_neg h1]
/-! ### A key's versions behind a step -/
theorem vsAt_swap {A B : List Row} {r r' : Row} {k q : List UInt8} (hm : Mid A k B) (hk : r.key = k) (hk' : r'.key = k) : vsAt (A ++ r' :: B) q = if q = k then r'.vs else vsAt (A ++ r :: B) q := by
  by_cases h : q = k
  · subst h; rw [if_pos rfl, vsAt_mid hm hk']
  · rw [if_neg h]
    unfold vsAt rowOf
    rw [List.find?_append, List.find?_append, List.find?_cons_of_neg (by simp [hk']; exact fun e => h e.symm), List.find?_cons_of_neg (by simp [hk]; exact fun e => h e.symm)]
theorem vsAt_less {A B : List Row} {r : Row} {k q : List UInt8} (hm : Mid A k B) (hk : r.key = k) (hv : r.vs = []) : vsAt (A ++ B) q = vsAt (A ++ r :: B) q := by
  by_cases h : q = k
  · subst h; rw [vsAt_mid hm hk, vsAt_gap hm, hv]
  · unfold vsAt rowOf
    rw [List.find?_append, List.find?_append, List.find?_cons_of_neg (by simp [hk]; exact fun e => h e.symm)]
theorem vsAt_put {sp : Sp} (hok : SpOk sp) (x : TIntent) (q : List UInt8) : vsAt (putS sp x).rows q = vsAt sp.rows q := by
  unfold putS
  split
  · rfl
  · obtain ⟨rows, fl⟩ := sp
    rcases place x.fKey hok.rise with ⟨A, r, B, e, hk, hm⟩ | ⟨A, B, e, hm⟩
    · simp only at e; subst e
      simp only [setIt_mid hk hm]
      rw [vsAt_swap hm hk rfl]
      split
      · rename_i h; subst h; rw [vsAt_mid hm hk]
      · rfl
    · simp only at e; subst e
      simp only [setIt_gap hm]
      exact (vsAt_less hm rfl rfl).symm
theorem vsAt_res {sp : Sp} (hok : SpOk sp) {k : List UInt8} {txn : Int} {yes : Bool} {a : TStamp} (q : List UInt8) :
    vsAt (resS sp k txn yes a).rows q = vsAt sp.rows q ∨ (yes = true ∧ ∃ v : TVer, v.fAt = a ∧ vsAt (resS sp k txn yes a).rows q = vsAt sp.rows q ++ [v]) := by
  unfold resS
  split
  · obtain ⟨rows, fl⟩ := sp
    rcases place k hok.rise with ⟨A, r, B, e, hk, hm⟩ | ⟨A, B, e, hm⟩
    · simp only at e; subst e
      obtain ⟨p1, p2, p3⟩ := hok.part
      simp only [updR_mid hm hk]
      rw [tidyR_mid (fun x hx => (p1 x hx).some) (fun x hx => (p3 x hx).some)]
      have hcore : vsAt (if emptyB (resR yes a r) = true then A ++ B else A ++ resR yes a r :: B) q = if q = k then (resR yes a r).vs else vsAt (A ++ r :: B) q := by
        split
        · rename_i he
          have hv : (resR yes a r).vs = [] := by simp [emptyB] at he; exact he.1
          rw [vsAt_less hm (show (resR yes a r).key = k from hk) hv, vsAt_swap hm hk (show (resR yes a r).key = k from hk)]
        · exact vsAt_swap hm hk (show (resR yes a r).key = k from hk)
      rw [hcore]
      by_cases hq : q = k
      · subst hq
        rw [if_pos rfl, vsAt_mid hm hk]
        cases yes with
        | false => exact .inl rfl
        | true => exact .inr ⟨rfl, _, rfl, rfl⟩
      · rw [if_neg hq]; exact .inl rfl
    · simp only at e; subst e
      rw [show updR k (resR yes a) (A ++ B) = A ++ B from by
        unfold updR
        conv => rhs; rw [← List.map_id (A ++ B)]
        exact List.map_congr_left fun x hx => if_neg (hm.notin x hx)]
      rw [tidyR_all (fun r hr => (hok.rows r hr).some)]
      exact .inl rfl
  · exact .inl rfl
def colV (fl : TStamp) (vs : List TVer) : List TVer := match upTo vs fl with
  | none => vs
  | some k => vs.filter fun v => !oldB k v
theorem colR_vs (fl : TStamp) (r : Row) : (colR fl r).vs = colV fl r.vs := by
  unfold colR colV; cases upTo r.vs fl <;> rfl
theorem vsAt_col {sp : Sp} (hok : SpOk sp) (b : TStamp) (q : List UInt8) : vsAt (colS sp b).rows q = if rightB b = false then vsAt sp.rows q else colV (colFl sp b) (vsAt sp.rows q) := by
  unfold colS
  by_cases hb : rightB b = false
  · rw [if_pos hb, if_pos hb]
  · rw [if_neg hb, if_neg hb]
    generalize colFl sp b = fl
    have : ∀ (rows : List Row), SrtK (keysOf rows) → vsAt (tidyR (rows.map (colR fl))) q = colV fl (vsAt rows q) := by
      intro rows
      induction rows with
      | nil => intro _; rfl
      | cons r rs ih =>
        intro hs
        obtain ⟨h1, h2⟩ := List.pairwise_cons.1 (show List.Pairwise _ (r.key :: keysOf rs) from hs)
        have ih' := ih h2
        by_cases hk : r.key = q
        · have e1 : vsAt (r :: rs) q = r.vs := by unfold vsAt rowOf; simp [hk]
          rw [e1, List.map_cons]
          unfold tidyR at ih' ⊢
          rw [List.filter_cons]
          by_cases he : emptyB (colR fl r) = true
          · have hv : (colR fl r).vs = [] := by simp [emptyB] at he; exact he.1
            have hno : vsAt rs q = [] := by
              unfold vsAt
              rw [rowOf_none' (fun x hx => by rw [← hk]; exact blt_ne' (h1 _ (List.mem_map_of_mem hx)))]
            rw [hno] at ih'
            rw [he]
            simp only [Bool.not_true, Bool.false_eq_true, if_false]
            rw [ih', ← colR_vs, hv]; rfl
          · rw [Bool.eq_false_iff.2 he]
            simp only [Bool.not_false, if_true]
            rw [← colR_vs]
            unfold vsAt rowOf
            simp [colR_key, hk]
        · have e1 : vsAt (r :: rs) q = vsAt rs q := by unfold vsAt rowOf; simp [hk]
          rw [e1, ← ih', List.map_cons]
          unfold tidyR
          rw [List.filter_cons]
          split
          · unfold vsAt rowOf; simp [colR_key, hk]
          · rfl
    exact this sp.rows hok.rise
theorem upTo_snoc {vs : List TVer} {v : TVer} {m : TStamp} (h : bhd v.fAt m = true) : upTo (vs ++ [v]) m = upTo vs m := by
  unfold upTo
  rw [List.reverse_append]
  simp [h]
theorem upTo_split {vs : List TVer} {m : TStamp} {u : TVer} (h : upTo vs m = some u) : ∃ A B, vs = A ++ u :: B ∧ bhd u.fAt m = false ∧ ∀ x ∈ B, bhd x.fAt m = true := by
  unfold upTo at h
  obtain ⟨h1, A, B, he, hA⟩ := List.find?_eq_some_iff_append.1 h
  refine ⟨B.reverse, A.reverse, ?_, by simpa using h1, fun x hx => ?_⟩
  · have := congrArg List.reverse he
    simpa using this
  · simpa using hA x (List.mem_reverse.1 hx)
theorem upTo_of {A B : List TVer} {m : TStamp} {u : TVer} (h1 : bhd u.fAt m = false) (h2 : ∀ x ∈ B, bhd x.fAt m = true) : upTo (A ++ u :: B) m = some u := by
  unfold upTo
  rw [List.reverse_append, List.reverse_cons, List.append_assoc, List.find?_append, List.find?_eq_none.2 (fun w hw => by simpa using h2 w (List.mem_reverse.1 hw))]
  simp [h1]
theorem upTo_col {vs : List TVer} {fl m : TStamp} (hr : vs.Pairwise fun x y => bhd y.fAt x.fAt = true) (hf : bhd fl m = false) : seenV (upTo (colV fl vs) m) = seenV (upTo vs m) := by
  unfold colV
  cases hk : upTo vs fl with
  | none => rfl
  | some k =>
    simp only
    obtain ⟨A, B, e, k1, k2⟩ := upTo_split hk
    have hkm : bhd k.fAt m = false := by simp [bhd] at k1 hf ⊢; omega
    have hA : ∀ x ∈ A, bhd k.fAt x.fAt = true := fun x hx => by
      rw [e] at hr
      exact (List.pairwise_append.1 hr).2.2 x hx k (List.mem_cons_self ..)
    have hB : ∀ x ∈ B, bhd x.fAt k.fAt = true := fun x hx => by
      rw [e] at hr
      exact (List.pairwise_cons.1 (List.pairwise_append.1 hr).2.1).1 x hx
    have hfA : A.filter (fun v => !oldB k v) = [] := List.filter_eq_nil_iff.2 fun x hx => by simp [oldB, hA x hx]
    have hfB : B.filter (fun v => !oldB k v) = B := List.filter_eq_self.2 fun x hx => by
      have := hB x hx
      have h1 : bhd k.fAt x.fAt = false := by simp [bhd] at this ⊢; omega
      have h2 : (x.fAt.fWall == k.fAt.fWall && x.fAt.fLogic == k.fAt.fLogic) = false := by
        rw [Bool.eq_false_iff]
        intro h
        simp only [Bool.and_eq_true, beq_iff_eq] at h
        simp [bhd] at this; omega
      simp [oldB, h1, h2]
    have hkk : oldB k k = k.fDel := by simp [oldB, bhd_irr]
    rw [e, List.filter_append, hfA, List.filter_cons, hkk, hfB, List.nil_append]
    -- is there a version behind k, up to m?
    cases hu : upTo B m with
    | some u =>
      obtain ⟨C, D, e2, u1, u2⟩ := upTo_split hu
      subst e2
      have e3 : A ++ k :: (C ++ u :: D) = (A ++ k :: C) ++ u :: D := by simp
      rw [e3, upTo_of u1 u2]
      cases hd : k.fDel with
      | true => simp only [Bool.not_true, Bool.false_eq_true, if_false]; rw [upTo_of u1 u2]
      | false =>
        simp only [Bool.not_false, if_true]
        have e4 : k :: (C ++ u :: D) = (k :: C) ++ u :: D := by simp
        rw [e4, upTo_of u1 u2]
    | none =>
      have hn : ∀ x ∈ B, bhd x.fAt m = true := fun x hx => by
        unfold upTo at hu
        simpa using List.find?_eq_none.1 hu x (List.mem_reverse.2 hx)
      rw [upTo_of hkm hn]
      cases hd : k.fDel with
      | true =>
        simp only [Bool.not_true, Bool.false_eq_true, if_false]
        rw [hu]; simp [seenV, hd]
      | false =>
        simp only [Bool.not_false, if_true]
        have h1 := upTo_of (A := []) hkm hn
        simp only [List.nil_append] at h1
        rw [h1]
def skipB (m : TStamp) (y : TStep) : Bool := (y.fDo == 1 && (y.fYes && !bhd y.fX.fAt m)) || (y.fDo == 5 && bhd y.fX.fAt m)
theorem stays {sp : Sp} (hok : SpOk sp) {m : TStamp} {y : TStep} (hs : skipB m y = false) (hf : bhd sp.floor m = false) : bhd (stepS sp y).floor m = false ∧ ∀ q, curG (stepS sp y).rows q m = curG sp.rows q m := by
  unfold stepS
  by_cases h0 : y.fDo = 0
  · rw [if_pos h0]
    refine ⟨by unfold putS; split <;> exact hf, fun q => ?_⟩
    unfold curG; rw [vsAt_put hok]
  · rw [if_neg h0]
    by_cases h1 : y.fDo = 1
    · rw [if_pos h1]
      refine ⟨by unfold resS; split <;> exact hf, fun q => ?_⟩
      unfold curG
      rcases vsAt_res (k := y.fX.fKey) (txn := y.fX.fTxn) (yes := y.fYes) (a := y.fX.fAt) hok q with h | ⟨hy, v, hv, h⟩
      · rw [h]
      · have hb : bhd v.fAt m = true := by
          rw [hv]
          simp only [skipB, h1, hy, Bool.or_eq_false_iff] at hs
          simpa using hs.1
        rw [h, upTo_snoc hb]
    · rw [if_neg h1]
      by_cases h5 : y.fDo = 5
      · rw [if_pos h5]
        have hb : bhd y.fX.fAt m = false := by
          simp only [skipB, h5, Bool.or_eq_false_iff] at hs
          simpa using hs.2
        have hfl : bhd (colFl sp y.fX.fAt) m = false := by unfold colFl; split <;> assumption
        refine ⟨by unfold colS; split; exact hf; exact hfl, fun q => ?_⟩
        unfold curG
        rw [vsAt_col hok]
        split
        · rfl
        · exact upTo_col (vsAt_rise hok q).1 hfl
      · rw [if_neg h5]; exact ⟨hf, fun _ => rfl⟩
/-! ### Spans -/
def kvOf (m : TStamp) (txn : Int) (r : Row) : Option TKV := if (seen r m txn).1.fFound = true then some ⟨r.key, (seen r m txn).1.fValue⟩ else none
theorem scan_all {m : TStamp} {txn most : Int} : ∀ {rows : List Row} {acc : List TKV}, ((acc.length : Int) + rows.length < most) → (scanL m txn most rows acc).2.2 = 0 →
    (scanL m txn most rows acc).1 = acc ++ rows.filterMap (kvOf m txn) ∧ ∀ r ∈ rows, (seen r m txn).2 = 0
  | [], acc, _, _ => ⟨by simp [scanL], fun r hr => by cases hr⟩
  | r :: rs, acc, hl, h => by
    simp only [scanL] at h ⊢
    by_cases he : (seen r m txn).2 ≠ 0
    · rw [if_pos he] at h; exact absurd h he
    · rw [if_neg he] at h ⊢
      have hp : (push r (seen r m txn).1 acc).length ≤ acc.length + 1 := by unfold push; split <;> simp
      simp only [List.length_cons] at hl
      have hne : ¬ ((push r (seen r m txn).1 acc).length : Int) = most := by omega
      rw [if_neg hne] at h ⊢
      obtain ⟨h1, h2⟩ := scan_all (by omega) h
      refine ⟨?_, fun x hx => ?_⟩
      · rw [h1, List.filterMap_cons]
        unfold push kvOf
        by_cases hf : (seen r m txn).1.fFound = true <;> simp [hf]
      · rcases List.mem_cons.1 hx with rfl | hx
        · simpa using he
        · exact h2 x hx
theorem scan0 {sp : Sp} {p : TSpan} {m : TStamp} {txn : Int} (hl : sp.rows.length < 1000) (h : (scanF sp p m txn 1000).2.2 = 0) :
    (scanF sp p m txn 1000).1 = (inR p sp.rows).filterMap (kvOf m txn) ∧ (∀ r ∈ inR p sp.rows, (seen r m txn).2 = 0) ∧ bhd sp.floor m = false := by
  unfold scanF at h ⊢
  by_cases h1 : (rightB m && readerB txn) = false ∨ (1000 : Int) < 1
  · rw [if_pos h1] at h; simp at h
  · rw [if_neg h1] at h ⊢
    by_cases h2 : bhd sp.floor m = true
    · rw [if_pos h2] at h; simp at h
    · rw [if_neg h2] at h ⊢
      have hll := List.length_filter_le (fun r : Row => inB p r.key) sp.rows
      obtain ⟨g1, g2⟩ := scan_all (by simp [inR] at hll ⊢; omega) h
      exact ⟨by simpa using g1, g2, by simpa using h2⟩
theorem srt_eq : ∀ {l1 l2 : List TKV}, l1.Pairwise (fun a b => blt a.fKey b.fKey = true) → l2.Pairwise (fun a b => blt a.fKey b.fKey = true) → (∀ x, x ∈ l1 ↔ x ∈ l2) → l1 = l2
  | [], [], _, _, _ => rfl
  | [], y :: l2, _, _, h => by have := (h y).2 (List.mem_cons_self ..); cases this
  | x :: l1, [], _, _, h => by have := (h x).1 (List.mem_cons_self ..); cases this
  | x :: l1, y :: l2, h1, h2, h => by
    obtain ⟨a1, a2⟩ := List.pairwise_cons.1 h1
    obtain ⟨b1, b2⟩ := List.pairwise_cons.1 h2
    have hxy : x = y := by
      rcases List.mem_cons.1 ((h x).1 (List.mem_cons_self ..)) with e | hx
      · exact e
      · rcases List.mem_cons.1 ((h y).2 (List.mem_cons_self ..)) with e | hy
        · exact e.symm
        · have := blt_asymm (b1 x hx)
          rw [a1 y hy] at this; cases this
    subst hxy
    rw [srt_eq a2 b2 (fun z => ?_)]
    constructor
    · intro hz
      rcases List.mem_cons.1 ((h z).1 (List.mem_cons_of_mem _ hz)) with e | hz'
      · subst e; have := a1 z hz; rw [blt_irrefl] at this; cases this
      · exact hz'
    · intro hz
      rcases List.mem_cons.1 ((h z).2 (List.mem_cons_of_mem _ hz)) with e | hz'
      · subst e; have := b1 z hz; rw [blt_irrefl] at this; cases this
      · exact hz'
theorem kv_srt {p : TSpan} {m : TStamp} {txn : Int} : ∀ {rows : List Row}, SrtK (keysOf rows) → ((inR p rows).filterMap (kvOf m txn)).Pairwise (fun a b => blt a.fKey b.fKey = true)
  | [], _ => List.Pairwise.nil
  | r :: rs, hs => by
    obtain ⟨h1, h2⟩ := List.pairwise_cons.1 (show List.Pairwise _ (r.key :: keysOf rs) from hs)
    have ih := kv_srt (p := p) (m := m) (txn := txn) h2
    rw [inR_cons]
    split
    · rw [List.filterMap_cons]
      split
      · exact ih
      · rename_i kv hkv
        refine List.pairwise_cons.2 ⟨fun y hy => ?_, ih⟩
        obtain ⟨r', hr', e'⟩ := List.mem_filterMap.1 hy
        have hr2 : r' ∈ rs := (List.mem_filter.1 hr').1
        unfold kvOf at hkv e'
        split at hkv
        · split at e'
          · cases hkv; cases e'
            exact h1 _ (List.mem_map_of_mem hr2)
          · cases e'
        · cases hkv
    · exact ih
theorem scan_mem {sp : Sp} {p : TSpan} {m : TStamp} (hok : SpOk sp) (h : ∀ r ∈ inR p sp.rows, (seen r m 0).2 = 0) (x : TKV) : x ∈ (inR p sp.rows).filterMap (kvOf m 0) ↔ inB p x.fKey = true ∧ (curG sp.rows x.fKey m).fFound = true ∧ x.fValue = (curG sp.rows x.fKey m).fValue := by
  have hs := hok.rise
  rw [List.mem_filterMap]
  constructor
  · rintro ⟨r, hr, e⟩
    have h0 := seen0 (h r hr)
    have hrm : r ∈ sp.rows := (List.mem_filter.1 hr).1
    have hin : inB p r.key = true := by
      have := (List.mem_filter.1 hr).2
      simpa using this
    obtain ⟨i, hi, rfl⟩ := List.getElem_of_mem hrm
    have hrow := rowOf_at hs hi
    have hv : vsAt sp.rows sp.rows[i].key = sp.rows[i].vs := by unfold vsAt; rw [hrow]
    unfold kvOf at e
    rw [h0] at e
    split at e
    · rename_i hf
      cases e
      simp only
      unfold curG; rw [hv]
      exact ⟨hin, hf, rfl⟩
    · cases e
  · rintro ⟨h1, h2, h3⟩
    cases hr : rowOf sp.rows x.fKey with
    | none =>
      have : vsAt sp.rows x.fKey = [] := by unfold vsAt; rw [hr]
      unfold curG at h2; rw [this] at h2; cases h2
    | some r =>
      have hk : r.key = x.fKey := by
        have := List.find?_some hr
        simpa using this
      have hrm := rowOf_mem hr
      have hri : r ∈ inR p sp.rows := List.mem_filter.2 ⟨hrm, by rw [hk]; exact h1⟩
      have h0 := seen0 (h r hri)
      have hv : vsAt sp.rows x.fKey = r.vs := by unfold vsAt; rw [hr]
      unfold curG at h2 h3
      rw [hv] at h2 h3
      refine ⟨r, hri, ?_⟩
      unfold kvOf
      rw [h0, if_pos h2, hk, ← h3]
/-! ### What has not changed is read alike -/
end Go.Proofs.YtmnnnoinfhiilaaDoor
