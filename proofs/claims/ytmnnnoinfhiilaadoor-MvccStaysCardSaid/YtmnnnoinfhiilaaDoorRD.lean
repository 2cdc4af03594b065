/-
  What was read is read again; what has not changed is read alike.
-/
-- S3
import Derived.Test.YtmnnnoinfhiilaaDoorRC
set_option linter.unusedSimpArgs false
set_option linter.unusedVariables false
namespace Go.Proofs.YtmnnnoinfhiilaaDoor
open Go.SL
set_option maxRecDepth 10000
def curG (rows : List Row) (k : List UInt8) (m : TStamp) : TGot := seenV (upTo (vsAt rows k) m)
/-! ### A key's versions behind a step -/
theorem vsAt_swap {A B : List Row} {r r' : Row} {k q : List UInt8} (hm : Mid A k B) (hk : r.key = k) (hk' : r'.key = k) : vsAt (A ++ r' :: B) q = if q = k then r'.vs else vsAt (A ++ r :: B) q := by
  by_cases h : q = k
  · subst h; rw [if_pos rfl, vsAt_mid hm hk']
  · rw [if_neg h]
    unfold vsAt rowOf
    rw [List.find?_append, List.find?_append, List.find?_cons_of_neg (by simp [hk']; exact fun e => h e.symm), List.find?_cons_of_neg (by simp [hk]; exact fun e => h e.symm)]
theorem vsAt_less {A B : List Row} {r : Row} {k q : List UInt8} (hm : Mid A k B) (hk : r.key = k) (hv : r.vs = []) : vsAt (A ++ B) q = vsAt (A ++ r :: B) q := by
  by_cases h : q = k
  · subst h; rw [vsAt_mid hm hk, vsAt_gap hm, hv]
  · unfold vsAt rowOf
    rw [List.find?_append, List.find?_append, List.find?_cons_of_neg (by simp [hk]; exact fun e => h e.symm)]
theorem vsAt_put {sp : Sp} (hok : SpOk sp) (x : TIntent) (q : List UInt8) : vsAt (putS sp x).rows q = vsAt sp.rows q := by
  unfold putS
  split
  · rfl
  · obtain ⟨rows, fl⟩ := sp
    rcases place x.fKey hok.rise with ⟨A, r, B, e, hk, hm⟩ | ⟨A, B, e, hm⟩
    · simp only at e; subst e
      simp only [setIt_mid hk hm]
      rw [vsAt_swap hm hk rfl]
      split
      · rename_i h; subst h; rw [vsAt_mid hm hk]
      · rfl
    · simp only at e; subst e
      simp only [setIt_gap hm]
      exact (vsAt_less hm rfl rfl).symm
theorem vsAt_res {sp : Sp} (hok : SpOk sp) {k : List UInt8} {txn : Int} {yes : Bool} {a : TStamp} (q : List UInt8) :
    vsAt (resS sp k txn yes a).rows q = vsAt sp.rows q ∨ (yes = true ∧ ∃ v : TVer, v.fAt = a ∧ vsAt (resS sp k txn yes a).rows q = vsAt sp.rows q ++ [v]) := by
  unfold resS
  split
  · obtain ⟨rows, fl⟩ := sp
    rcases place k hok.rise with ⟨A, r, B, e, hk, hm⟩ | ⟨A, B, e, hm⟩
    · simp only at e; subst e
      obtain ⟨p1, p2, p3⟩ := hok.part
      simp only [updR_mid hm hk]
      rw [tidyR_mid (fun x hx => (p1 x hx).some) (fun x hx => (p3 x hx).some)]
      have hcore : vsAt (if emptyB (resR yes a r) = true then A ++ B else A ++ resR yes a r :: B) q = if q = k then (resR yes a r).vs else vsAt (A ++ r :: B) q := by
        split
        · rename_i he
          have hv : (resR yes a r).vs = [] := by simp [emptyB] at he; exact he.1
          rw [vsAt_less hm (show (resR yes a r).key = k from hk) hv, vsAt_swap hm hk (show (resR yes a r).key = k from hk)]
        · exact vsAt_swap hm hk (show (resR yes a r).key = k from hk)
      rw [hcore]
      by_cases hq : q = k
      · subst hq
        rw [if_pos rfl, vsAt_mid hm hk]
        cases yes with
        | false => exact .inl rfl
        | true => exact .inr ⟨rfl, _, rfl, rfl⟩
      · rw [if_neg hq]; exact .inl rfl
    · simp only at e; subst e
      rw [show updR k (resR yes a) (A ++ B) = A ++ B from by
        unfold updR
        conv => rhs; rw [← List.map_id (A ++ B)]
        exact List.map_congr_left fun x hx => if_neg (hm.notin x hx)]
      rw [tidyR_all (fun r hr => (hok.rows r hr).some)]
      exact .inl rfl
  · exact .inl rfl
def colV (fl : TStamp) (vs : List TVer) : List TVer := match upTo vs fl with
  | none => vs
  | some k => vs.filter fun v => !oldB k v
theorem colR_vs (fl : TStamp) (r : Row) : (colR fl r).vs = colV fl r.vs := by
  unfold colR colV; cases upTo r.vs fl <;> rfl
theorem vsAt_col {sp : Sp} (hok : SpOk sp) (b : TStamp) (q : List UInt8) : vsAt (colS sp b).rows q = if rightB b = false then vsAt sp.rows q else colV (colFl sp b) (vsAt sp.rows q) := by
  unfold colS
  by_cases hb : rightB b = false
  · rw [if_pos hb, if_pos hb]
  · rw [if_neg hb, if_neg hb]
    generalize colFl sp b = fl
    have : ∀ (rows : List Row), SrtK (keysOf rows) → vsAt (tidyR (rows.map (colR fl))) q = colV fl (vsAt rows q) := by
      intro rows
      induction rows with
      | nil => intro _; rfl
      | cons r rs ih =>
        intro hs
        obtain ⟨h1, h2⟩ := List.pairwise_cons.1 (show List.Pairwise _ (r.key :: keysOf rs) from hs)
        have ih' := ih h2
        by_cases hk : r.key = q
        · have e1 : vsAt (r :: rs) q = r.vs := by unfold vsAt rowOf; simp [hk]
          rw [e1, List.map_cons]
          unfold tidyR at ih' ⊢
          rw [List.filter_cons]
          by_cases he : emptyB (colR fl r) = true
          · have hv : (colR fl r).vs = [] := by simp [emptyB] at he; exact he.1
            have hno : vsAt rs q = [] := by
              unfold vsAt
              rw [rowOf_none' (fun x hx => by rw [← hk]; exact blt_ne' (h1 _ (List.mem_map_of_mem hx)))]
            rw [hno] at ih'
            rw [he]
            simp only [Bool.not_true, Bool.false_eq_true, if_false]
            rw [ih', ← colR_vs, hv]; rfl
          · rw [Bool.eq_false_iff.2 he]
            simp only [Bool.not_false, if_true]
            rw [← colR_vs]
            unfold vsAt rowOf
            simp [colR_key, hk]
        · have e1 : vsAt (r :: rs) q = vsAt rs q := by unfold vsAt rowOf; simp [hk]
          rw [e1, ← ih', List.map_cons]
          unfold tidyR
          rw [List.filter_cons]
          split
          · unfold vsAt rowOf; simp [colR_key, hk]
          · rfl
    exact this sp.rows hok.rise
theorem upTo_snoc {vs : List TVer} {v : TVer} {m : TStamp} (h : bhd v.fAt m = true) : upTo (vs ++ [v]) m = upTo vs m := by
  unfold upTo
  rw [List.reverse_append]
  simp [h]
theorem upTo_split {vs : List TVer} {m : TStamp} {u : TVer} (h : upTo vs m = some u) : ∃ A B, vs = A ++ u :: B ∧ bhd u.fAt m = false ∧ ∀ x ∈ B, bhd x.fAt m = true := by
  unfold upTo at h
  obtain ⟨h1, A, B, he, hA⟩ := List.find?_eq_some_iff_append.1 h
  refine ⟨B.reverse, A.reverse, ?_, by simpa using h1, fun x hx => ?_⟩
  · have := congrArg List.reverse he
    simpa using this
  · simpa using hA x (List.mem_reverse.1 hx)
theorem upTo_of {A B : List TVer} {m : TStamp} {u : TVer} (h1 : bhd u.fAt m = false) (h2 : ∀ x ∈ B, bhd x.fAt m = true) : upTo (A ++ u :: B) m = some u := by
  unfold upTo
  rw [List.reverse_append, List.reverse_cons, List.append_assoc, List.find?_append, List.find?_eq_none.2 (fun w hw => by simpa using h2 w (List.mem_reverse.1 hw))]
  simp [h1]
theorem upTo_col {vs : List TVer} {fl m : TStamp} (hr : vs.Pairwise fun x y => bhd y.fAt x.fAt = true) (hf : bhd fl m = false) : seenV (upTo (colV fl vs) m) = seenV (upTo vs m) := by
  unfold colV
  cases hk : upTo vs fl with
  | none => rfl
  | some k =>
    simp only
    obtain ⟨A, B, e, k1, k2⟩ := upTo_split hk
    have hkm : bhd k.fAt m = false := by simp [bhd] at k1 hf ⊢; omega
    have hA : ∀ x ∈ A, bhd k.fAt x.fAt = true := fun x hx => by
      rw [e] at hr
      exact (List.pairwise_append.1 hr).2.2 x hx k (List.mem_cons_self ..)
    have hB : ∀ x ∈ B, bhd x.fAt k.fAt = true := fun x hx => by
      rw [e] at hr
      exact (List.pairwise_cons.1 (List.pairwise_append.1 hr).2.1).1 x hx
    have hfA : A.filter (fun v => !oldB k v) = [] := List.filter_eq_nil_iff.2 fun x hx => by simp [oldB, hA x hx]
    have hfB : B.filter (fun v => !oldB k v) = B := List.filter_eq_self.2 fun x hx => by
      have := hB x hx
      have h1 : bhd k.fAt x.fAt = false := by simp [bhd] at this ⊢; omega
      have h2 : (x.fAt.fWall == k.fAt.fWall && x.fAt.fLogic == k.fAt.fLogic) = false := by
        rw [Bool.eq_false_iff]
        intro h
        simp only [Bool.and_eq_true, beq_iff_eq] at h
        simp [bhd] at this; omega
      simp [oldB, h1, h2]
    have hkk : oldB k k = k.fDel := by simp [oldB, bhd_irr]
    rw [e, List.filter_append, hfA, List.filter_cons, hkk, hfB, List.nil_append]
    -- is there a version behind k, up to m?
    cases hu : upTo B m with
    | some u =>
      obtain ⟨C, D, e2, u1, u2⟩ := upTo_split hu
      subst e2
      have e3 : A ++ k :: (C ++ u :: D) = (A ++ k :: C) ++ u :: D := by simp
      rw [e3, upTo_of u1 u2]
      cases hd : k.fDel with
      | true => simp only [Bool.not_true, Bool.false_eq_true, if_false]; rw [upTo_of u1 u2]
      | false =>
        simp only [Bool.not_false, if_true]
        have e4 : k :: (C ++ u :: D) = (k :: C) ++ u :: D := by simp
        rw [e4, upTo_of u1 u2]
    | none =>
      have hn : ∀ x ∈ B, bhd x.fAt m = true := fun x hx => by
        unfold upTo at hu
        simpa using List.find?_eq_none.1 hu x (List.mem_reverse.2 hx)
      rw [upTo_of hkm hn]
      cases hd : k.fDel with
      | true =>
        simp only [Bool.not_true, Bool.false_eq_true, if_false]
        rw [hu]; simp [seenV, hd]
      | false =>
        simp only [Bool.not_false, if_true]
        have h1 := upTo_of (A := []) hkm hn
        simp only [List.nil_append] at h1
        rw [h1]
def skipB (m : TStamp) (y : TStep) : Bool := (y.fDo == 1 && (y.fYes && !bhd y.fX.fAt m)) || (y.fDo == 5 && bhd y.fX.fAt m)
theorem stays {sp : Sp} (hok : SpOk sp) {m : TStamp} {y : TStep} (hs : skipB m y = false) (hf : bhd sp.floor m = false) : bhd (stepS sp y).floor m = false ∧ ∀ q, curG (stepS sp y).rows q m = curG sp.rows q m := by
  unfold stepS
  by_cases h0 : y.fDo = 0
  · rw [if_pos h0]
    refine ⟨by unfold putS; split <;> exact hf, fun q => ?_⟩
    unfold curG; rw [vsAt_put hok]
  · rw [if_neg h0]
    by_cases h1 : y.fDo = 1
    · rw [if_pos h1]
      refine ⟨by unfold resS; split <;> exact hf, fun q => ?_⟩
      unfold curG
      rcases vsAt_res (k := y.fX.fKey) (txn := y.fX.fTxn) (yes := y.fYes) (a := y.fX.fAt) hok q with h | ⟨hy, v, hv, h⟩
      · rw [h]
      · have hb : bhd v.fAt m = true := by
          rw [hv]
          simp only [skipB, h1, hy, Bool.or_eq_false_iff] at hs
          simpa using hs.1
        rw [h, upTo_snoc hb]
    · rw [if_neg h1]
      by_cases h5 : y.fDo = 5
      · rw [if_pos h5]
        have hb : bhd y.fX.fAt m = false := by
          simp only [skipB, h5, Bool.or_eq_false_iff] at hs
          simpa using hs.2
        have hfl : bhd (colFl sp y.fX.fAt) m = false := by unfold colFl; split <;> assumption
        refine ⟨by unfold colS; split; exact hf; exact hfl, fun q => ?_⟩
        unfold curG
        rw [vsAt_col hok]
        split
        · rfl
        · exact upTo_col (vsAt_rise hok q).1 hfl
      · rw [if_neg h5]; exact ⟨hf, fun _ => rfl⟩
/-! ### Spans -/
/-! ### What has not changed is read alike -/
end Go.Proofs.YtmnnnoinfhiilaaDoor
