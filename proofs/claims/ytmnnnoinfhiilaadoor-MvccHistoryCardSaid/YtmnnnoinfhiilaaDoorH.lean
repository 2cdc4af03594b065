/-
  Rows: found, changed, taken away; what spaces stay.
-/
-- S3
import Derived.Test.YtmnnnoinfhiilaaDoorG
set_option linter.unusedSimpArgs false
set_option linter.unusedVariables false
namespace Go.Proofs.YtmnnnoinfhiilaaDoor
open Go.SL
set_option maxRecDepth 10000
structure Mid (A : List Row) (k : List UInt8) (B : List Row) : Prop where
  lt : ∀ x ∈ A, blt x.key k = true
  gt : ∀ x ∈ B, blt k x.key = true
theorem nil_all {p : Row → Prop} : ∀ x ∈ ([] : List Row), p x := fun x hx => by cases hx
theorem blt_ne {a b : List UInt8} (h : blt a b = true) : a ≠ b := fun e => by rw [e, blt_irrefl] at h; cases h
theorem blt_ne' {a b : List UInt8} (h : blt a b = true) : b ≠ a := fun e => by rw [e, blt_irrefl] at h; cases h
theorem SrtK.mid {A B : List Row} {r : Row} (h : SrtK (keysOf (A ++ r :: B))) : Mid A r.key B := by
  unfold SrtK keysOf at h
  rw [List.map_append, List.map_cons, List.pairwise_append] at h
  obtain ⟨h1, h2, h3⟩ := h
  rw [List.pairwise_cons] at h2
  exact ⟨fun x hx => h3 _ (List.mem_map_of_mem hx) _ (List.mem_cons_self ..), fun x hx => h2.1 _ (List.mem_map_of_mem hx)⟩
theorem SrtK.join {A B : List Row} {r : Row} (hA : SrtK (keysOf A)) (hB : SrtK (keysOf B)) (h : Mid A r.key B) : SrtK (keysOf (A ++ r :: B)) := by
  unfold SrtK keysOf at *
  rw [List.map_append, List.map_cons, List.pairwise_append, List.pairwise_cons]
  refine ⟨hA, ⟨fun x hx => ?_, hB⟩, fun x hx y hy => ?_⟩
  · obtain ⟨z, hz, rfl⟩ := List.mem_map.1 hx; exact h.gt z hz
  · obtain ⟨z, hz, rfl⟩ := List.mem_map.1 hx
    rcases List.mem_cons.1 hy with rfl | hy
    · exact h.lt z hz
    · obtain ⟨w, hw, rfl⟩ := List.mem_map.1 hy
      exact blt_trans (h.lt z hz) (h.gt w hw)
theorem SrtK.sub {A B : List Row} (h : SrtK (keysOf A)) (hs : B.Sublist A) : SrtK (keysOf B) := List.Pairwise.sublist (hs.map _) h
theorem SrtK.nodup {rows : List Row} (h : SrtK (keysOf rows)) : (keysOf rows).Nodup := List.Pairwise.imp (fun h => blt_ne h) h
theorem rowOf_mid {A B : List Row} {r : Row} {k : List UInt8} (h : Mid A k B) (hk : r.key = k) : rowOf (A ++ r :: B) k = some r := by
  unfold rowOf
  rw [List.find?_append, List.find?_eq_none.2 (fun x hx => by simpa using blt_ne (h.lt x hx))]
  simp [hk]
theorem rowOf_split {rows : List Row} {k : List UInt8} {r : Row} (hs : SrtK (keysOf rows)) (h : rowOf rows k = some r) : ∃ A B, rows = A ++ r :: B ∧ r.key = k ∧ Mid A k B := by
  unfold rowOf at h
  obtain ⟨h1, A, B, rfl, h2⟩ := List.find?_eq_some_iff_append.1 h
  have hk : r.key = k := by simpa using h1
  exact ⟨A, B, rfl, hk, hk ▸ hs.mid⟩
theorem rowOf_none {rows : List Row} {k : List UInt8} (h : rowOf rows k = none) : ∀ x ∈ rows, x.key ≠ k := fun x hx => by
  simpa using List.find?_eq_none.1 h x hx
theorem rowOf_none' {rows : List Row} {k : List UInt8} (h : ∀ x ∈ rows, x.key ≠ k) : rowOf rows k = none := List.find?_eq_none.2 fun x hx => by simpa using h x hx
theorem rowOf_mem {rows : List Row} {k : List UInt8} {r : Row} (h : rowOf rows k = some r) : r ∈ rows := List.mem_of_find?_eq_some h
theorem gap {rows : List Row} {k : List UInt8} (hs : SrtK (keysOf rows)) (h : ∀ x ∈ rows, x.key ≠ k) : ∃ A B, rows = A ++ B ∧ Mid A k B := by
  induction rows with
  | nil => exact ⟨[], [], rfl, nil_all, nil_all⟩
  | cons r rs ih =>
    obtain ⟨h1, h2⟩ := List.pairwise_cons.1 (show List.Pairwise _ (r.key :: keysOf rs) from hs)
    cases hb : blt k r.key with
    | true => exact ⟨[], r :: rs, rfl, nil_all, fun x hx => by
        rcases List.mem_cons.1 hx with rfl | hx
        · exact hb
        · exact blt_trans hb (h1 _ (List.mem_map_of_mem hx))⟩
    | false =>
      obtain ⟨A, B, rfl, hm⟩ := ih h2 (fun x hx => h x (List.mem_cons_of_mem _ hx))
      refine ⟨r :: A, B, rfl, fun x hx => ?_, hm.gt⟩
      rcases List.mem_cons.1 hx with rfl | hx
      · cases hb2 : blt x.key k with
        | true => rfl
        | false => exact absurd (blt_total _ _ hb2 hb) (h x (List.mem_cons_self ..))
      · exact hm.lt x hx
theorem updR_mid {A B : List Row} {r : Row} {k : List UInt8} {f : Row → Row} (h : Mid A k B) (hk : r.key = k) : updR k f (A ++ r :: B) = A ++ f r :: B := by
  unfold updR
  rw [List.map_append, List.map_cons, if_pos hk]
  congr 1
  · conv => rhs; rw [← List.map_id A]
    exact List.map_congr_left fun x hx => if_neg (blt_ne (h.lt x hx))
  · congr 1
    conv => rhs; rw [← List.map_id B]
    exact List.map_congr_left fun x hx => if_neg (blt_ne' (h.gt x hx))
theorem setIt_mid {k : List UInt8} {it : Itn} {r : Row} {B : List Row} (hk : r.key = k) : ∀ {A : List Row}, Mid A k B → setIt k it (A ++ r :: B) = A ++ ⟨k, r.vs, it⟩ :: B
  | [], _ => by simp only [List.nil_append, setIt]; rw [if_pos hk]
  | x :: A, h => by
    have hx := h.lt x (List.mem_cons_self ..)
    simp only [List.cons_append, setIt]
    rw [if_neg (blt_ne hx), if_neg (by rw [blt_asymm hx]; simp), setIt_mid hk ⟨fun y hy => h.lt y (List.mem_cons_of_mem _ hy), h.gt⟩]
theorem setIt_gap {k : List UInt8} {it : Itn} {B : List Row} : ∀ {A : List Row}, Mid A k B → setIt k it (A ++ B) = A ++ ⟨k, [], it⟩ :: B
  | [], h => by
    cases B with
    | nil => rfl
    | cons x B =>
      have hx := h.gt x (List.mem_cons_self ..)
      simp only [List.nil_append, setIt]
      rw [if_neg (blt_ne' hx), if_pos hx]
  | x :: A, h => by
    have hx := h.lt x (List.mem_cons_self ..)
    simp only [List.cons_append, setIt]
    rw [if_neg (blt_ne hx), if_neg (by rw [blt_asymm hx]; simp), setIt_gap ⟨fun y hy => h.lt y (List.mem_cons_of_mem _ hy), h.gt⟩]
theorem tidyR_all {rows : List Row} (h : ∀ r ∈ rows, emptyB r = false) : tidyR rows = rows := List.filter_eq_self.2 fun r hr => by simp [h r hr]
theorem tidyR_mid {A B : List Row} {r : Row} (hA : ∀ x ∈ A, emptyB x = false) (hB : ∀ x ∈ B, emptyB x = false) : tidyR (A ++ r :: B) = if emptyB r = true then A ++ B else A ++ r :: B := by
  have h1 := tidyR_all hA
  have h2 := tidyR_all hB
  unfold tidyR at *
  rw [List.filter_append, List.filter_cons, h1, h2]
  cases emptyB r <;> simp
section ok
variable {sp : Sp} {A B : List Row} {r r' : Row} {fl : TStamp}
theorem SpOk.part (h : SpOk ⟨A ++ r :: B, fl⟩) : (∀ x ∈ A, RowOk x) ∧ RowOk r ∧ (∀ x ∈ B, RowOk x) := by
  have := h.rows
  simp only [List.mem_append, List.mem_cons] at this
  exact ⟨fun x hx => this x (.inl hx), this r (.inr (.inl rfl)), fun x hx => this x (.inr (.inr hx))⟩
theorem SpOk.swap (h : SpOk ⟨A ++ r :: B, fl⟩) (hk : r'.key = r.key) (hr : RowOk r') : SpOk ⟨A ++ r' :: B, fl⟩ := by
  obtain ⟨h1, h2, h3⟩ := h.part
  have e : keysOf (A ++ r' :: B) = keysOf (A ++ r :: B) := by simp [keysOf, hk]
  refine ⟨by simp only [e]; exact h.rise, fun x hx => ?_, h.floor⟩
  simp only [List.mem_append, List.mem_cons] at hx
  rcases hx with hx | rfl | hx
  · exact h1 x hx
  · exact hr
  · exact h3 x hx
theorem SpOk.less (h : SpOk ⟨A ++ r :: B, fl⟩) : SpOk ⟨A ++ B, fl⟩ := by
  obtain ⟨h1, h2, h3⟩ := h.part
  refine ⟨SrtK.sub h.rise (List.Sublist.append (List.Sublist.refl _) (List.sublist_cons_self ..)), fun x hx => ?_, h.floor⟩
  rcases List.mem_append.1 hx with hx | hx
  · exact h1 x hx
  · exact h3 x hx
theorem SpOk.more {k : List UInt8} (h : SpOk ⟨A ++ B, fl⟩) (hm : Mid A k B) (hr : RowOk r) (hk : r.key = k) : SpOk ⟨A ++ r :: B, fl⟩ := by
  have hr' := h.rows
  simp only [List.mem_append] at hr'
  subst hk
  refine ⟨SrtK.join (SrtK.sub h.rise (List.sublist_append_left ..)) (SrtK.sub h.rise (List.sublist_append_right ..)) hm, fun x hx => ?_, h.floor⟩
  simp only [List.mem_append, List.mem_cons] at hx
  rcases hx with hx | rfl | hx
  · exact hr' x (.inl hx)
  · exact hr
  · exact hr' x (.inr hx)
end ok
theorem itAt_mid {A B : List Row} {r : Row} {k : List UInt8} (h : Mid A k B) (hk : r.key = k) : itAt (A ++ r :: B) k = r.it := by unfold itAt; rw [rowOf_mid h hk]
theorem vsAt_mid {A B : List Row} {r : Row} {k : List UInt8} (h : Mid A k B) (hk : r.key = k) : vsAt (A ++ r :: B) k = r.vs := by unfold vsAt; rw [rowOf_mid h hk]
theorem Mid.notin {A B : List Row} {k : List UInt8} (h : Mid A k B) : ∀ x ∈ A ++ B, x.key ≠ k := fun x hx => by
  rcases List.mem_append.1 hx with hx | hx
  · exact blt_ne (h.lt x hx)
  · exact blt_ne' (h.gt x hx)
theorem itAt_gap {A B : List Row} {k : List UInt8} (h : Mid A k B) : itAt (A ++ B) k = noIt := by unfold itAt; rw [rowOf_none' h.notin]
theorem vsAt_gap {A B : List Row} {k : List UInt8} (h : Mid A k B) : vsAt (A ++ B) k = [] := by unfold vsAt; rw [rowOf_none' h.notin]
theorem place {rows : List Row} (k : List UInt8) (hs : SrtK (keysOf rows)) : (∃ A r B, rows = A ++ r :: B ∧ r.key = k ∧ Mid A k B) ∨ (∃ A B, rows = A ++ B ∧ Mid A k B) := by
  cases h : rowOf rows k with
  | none => exact .inr (gap hs (rowOf_none h))
  | some r => obtain ⟨A, B, h1, h2, h3⟩ := rowOf_split hs h; exact .inl ⟨A, r, B, h1, h2, h3⟩
/-! ### What is asked leaves a space a space -/
theorem nextF_ok {x : TStamp} (h : (nextF x).2 = 0) : rightB (nextF x).1 = true ∧ bhd (nextF x).1 x = true := by
  unfold nextF at h ⊢
  by_cases h1 : rightB x = false
  · simp [h1] at h
  · have hr := rightB_iff (x := x) (by simpa using h1)
    rw [if_neg h1] at h ⊢
    by_cases h2 : x.fLogic < 65535
    · rw [if_pos h2]; simp [rightB, wallB, bhd]; omega
    · rw [if_neg h2] at h ⊢
      by_cases h3 : x.fWall = 9007199254740991
      · rw [if_pos h3] at h; simp at h
      · rw [if_neg h3]; simp [rightB, wallB, bhd]; omega
theorem bhd_trans {a b c : TStamp} (h1 : bhd a b = true) (h2 : bhd b c = true) : bhd a c = true := by
  simp [bhd] at *; omega
theorem bhd_irr (a : TStamp) : bhd a a = false := by simp [bhd]
theorem last_top {vs : List TVer} (h : vs.Pairwise fun a b => bhd b.fAt a.fAt = true) {v : TVer} (hl : vs.getLast? = some v) : ∀ x ∈ vs, x = v ∨ bhd v.fAt x.fAt = true := by
  intro x hx
  obtain ⟨ys, rfl⟩ := List.getLast?_eq_some_iff.1 hl
  rcases List.mem_append.1 hx with hx | hx
  · exact .inr ((List.pairwise_append.1 h).2.2 x hx v (List.mem_singleton.2 rfl))
  · exact .inl (List.mem_singleton.1 hx)
theorem pastL_ok {a : TStamp} {vs : List TVer} (h : vs.Pairwise fun a b => bhd b.fAt a.fAt = true) (ha : rightB a = true) (h0 : (pastL a vs.getLast?).2 = 0) :
    rightB (pastL a vs.getLast?).1 = true ∧ ∀ v ∈ vs, bhd (pastL a vs.getLast?).1 v.fAt = true := by
  cases hl : vs.getLast? with
  | none =>
    have : vs = [] := List.getLast?_eq_none_iff.1 hl
    subst this
    exact ⟨ha, (fun v hv => by cases hv)⟩
  | some v =>
    rw [hl] at h0
    have ht := last_top h hl
    simp only [pastL] at h0 ⊢
    by_cases hb : bhd a v.fAt = true
    · rw [if_pos hb]
      refine ⟨ha, fun x hx => ?_⟩
      rcases ht x hx with rfl | h1
      · exact hb
      · exact bhd_trans hb h1
    · rw [if_neg hb] at h0 ⊢
      obtain ⟨g1, g2⟩ := nextF_ok h0
      refine ⟨g1, fun x hx => ?_⟩
      rcases ht x hx with rfl | h1
      · exact g2
      · exact bhd_trans g2 h1
theorem putAt_ok {sp : Sp} {x : TIntent} (h : SpOk sp) (hx : rightB x.fAt = true) : rightB (putAt sp x) = true := by
  unfold putAt
  have h1 : rightB (if bhd sp.floor x.fAt = true then sp.floor else x.fAt) = true := by
    split
    · exact h.floor
    · exact hx
  simp only
  generalize (if bhd sp.floor x.fAt = true then sp.floor else x.fAt) = a at h1 ⊢
  by_cases hc : (itAt sp.rows x.fKey).txn ≠ 0 ∧ bhd (itAt sp.rows x.fKey).ver.fAt a = true
  · rw [if_pos hc]
    unfold itAt at hc ⊢
    cases hr : rowOf sp.rows x.fKey with
    | none => simp [hr, noIt] at hc
    | some r =>
      simp only [hr] at hc ⊢
      rcases (h.rows r (rowOf_mem hr)).it with h2 | ⟨_, h2⟩
      · rw [h2] at hc; simp [noIt] at hc
      · exact h2.right
  · rw [if_neg hc]; exact h1
theorem vsAt_rise {sp : Sp} (h : SpOk sp) (k : List UInt8) : (vsAt sp.rows k).Pairwise (fun a b => bhd b.fAt a.fAt = true) ∧ ∀ v ∈ vsAt sp.rows k, VerOk v := by
  unfold vsAt
  cases hr : rowOf sp.rows k with
  | none => exact ⟨List.Pairwise.nil, (fun v hv => by cases hv)⟩
  | some r => exact ⟨(h.rows r (rowOf_mem hr)).rise, (h.rows r (rowOf_mem hr)).vs⟩
theorem putA_ok {sp : Sp} {x : TIntent} (h : SpOk sp) (h0 : (putA sp x).2.2 = 0) : ¬ putBad x ∧ rightB (putA sp x).1 = true ∧ VerOk ⟨(putA sp x).1, x.fDel, x.fValue⟩ ∧ txnB x.fTxn = true ∧ keyOk x.fKey = true := by
  have hr := vsAt_rise h x.fKey
  unfold putA at h0 ⊢
  by_cases hb : putBad x
  · rw [if_pos hb] at h0; simp at h0
  · rw [if_neg hb] at h0 ⊢
    have hb' := hb
    unfold putBad at hb'
    simp only [not_or, not_and, Bool.not_eq_false, Nat.not_lt, Decidable.not_not] at hb'
    by_cases h1 : (itAt sp.rows x.fKey).txn ≠ 0 ∧ (itAt sp.rows x.fKey).txn ≠ x.fTxn
    · rw [if_pos h1] at h0; simp at h0
    · rw [if_neg h1] at h0 ⊢
      by_cases h2 : (pastL (putAt sp x) (vsAt sp.rows x.fKey).getLast?).2 ≠ 0
      · rw [if_pos h2] at h0; exact absurd h0 h2
      · rw [if_neg h2]
        have g := pastL_ok hr.1 (putAt_ok h hb'.2.2.1) (by simpa using h2)
        exact ⟨hb, g.1, ⟨g.1, hb'.2.2.2.1, hb'.2.2.2.2⟩, hb'.2.1, hb'.1⟩
theorem txnB_ne {n : Int} (h : txnB n = true) : n ≠ 0 := by simp [txnB] at h; omega
theorem emptyB_it {r : Row} (h : r.it.txn ≠ 0) : emptyB r = false := by simp [emptyB, h]
theorem SpOk.put {sp : Sp} {x : TIntent} (h : SpOk sp) : SpOk (putS sp x) := by
  unfold putS
  by_cases h0 : (putA sp x).2.2 ≠ 0
  · rw [if_pos h0]; exact h
  · rw [if_neg h0]
    obtain ⟨_, h1, h2, h3, h4⟩ := putA_ok h (by simpa using h0)
    obtain ⟨rows, fl⟩ := sp
    rcases place x.fKey h.rise with ⟨A, r, B, e, hk, hm⟩ | ⟨A, B, e, hm⟩
    · simp only at e; subst e
      rw [setIt_mid hk hm]
      exact h.swap hk.symm ⟨hk ▸ h.part.2.1.key, h.part.2.1.vs, h.part.2.1.rise, .inr ⟨h3, h2⟩, emptyB_it (txnB_ne h3)⟩
    · simp only at e; subst e
      rw [setIt_gap hm]
      exact h.more hm ⟨h4, (fun v hv => by cases hv), List.Pairwise.nil, .inr ⟨h3, h2⟩, emptyB_it (txnB_ne h3)⟩ rfl
theorem resA_ok {sp : Sp} {k : List UInt8} {txn : Int} {yes : Bool} {a : TStamp} (h0 : (resA sp k txn yes a).1 = true) : (itAt sp.rows k).txn = txn ∧ txnB txn = true ∧ (yes = true → rightB a = true ∧ bhd (itAt sp.rows k).ver.fAt a = false ∧ earlyB a (vsAt sp.rows k).getLast? = false) := by
  unfold resA at h0
  split at h0
  · cases h0
  · rename_i h1
    split at h0
    · cases h0
    · rename_i h2
      split at h0
      · cases h0
      · rename_i h3
        refine ⟨by simpa using h2, by simp_all, fun hy => by simp_all⟩
theorem SpOk.res {sp : Sp} {k : List UInt8} {txn : Int} {yes : Bool} {a : TStamp} (h : SpOk sp) : SpOk (resS sp k txn yes a) := by
  unfold resS
  split
  · rename_i h0
    obtain ⟨h1, h2, h3⟩ := resA_ok h0
    obtain ⟨rows, fl⟩ := sp
    rcases place k h.rise with ⟨A, r, B, e, hk, hm⟩ | ⟨A, B, e, hm⟩
    · simp only at e; subst e
      simp only [itAt_mid hm hk, vsAt_mid hm hk] at h1 h3
      obtain ⟨p1, p2, p3⟩ := h.part
      rw [updR_mid hm hk, tidyR_mid (fun x hx => (p1 x hx).some) (fun x hx => (p3 x hx).some)]
      split
      · exact h.less
      · rename_i he
        refine h.swap rfl ⟨p2.key, ?_, ?_, .inl rfl, by simpa using he⟩
        · intro v hv
          unfold resR at hv
          simp only at hv
          split at hv
          · rename_i hy
            rcases List.mem_append.1 hv with hv | hv
            · exact p2.vs v hv
            · simp only [List.mem_singleton] at hv; subst hv
              rcases p2.it with h4 | ⟨_, h4⟩
              · rw [h4] at h1; exact absurd h1.symm (txnB_ne h2)
              · exact ⟨(h3 hy).1, h4.len, h4.del⟩
          · exact p2.vs v hv
        · unfold resR
          simp only
          split
          · rename_i hy
            refine List.pairwise_append.2 ⟨p2.rise, List.pairwise_singleton .., fun u hu v hv => ?_⟩
            simp only [List.mem_singleton] at hv; subst hv
            have h5 := (h3 hy).2.2
            cases hl : r.vs.getLast? with
            | none => rw [List.getLast?_eq_none_iff.1 hl] at hu; cases hu
            | some w =>
              rw [hl] at h5
              simp [earlyB] at h5
              rcases last_top p2.rise hl u hu with rfl | h6
              · exact h5
              · exact bhd_trans h5 h6
          · exact p2.rise
    · simp only at e; subst e
      rw [itAt_gap hm] at h1
      exact absurd h1.symm (txnB_ne h2)
  · exact h
theorem colR_key (fl : TStamp) (r : Row) : (colR fl r).key = r.key := by unfold colR; split <;> rfl
theorem colR_it (fl : TStamp) (r : Row) : (colR fl r).it = r.it := by unfold colR; split <;> rfl
theorem colR_sub (fl : TStamp) (r : Row) : (colR fl r).vs.Sublist r.vs := by
  unfold colR; split
  · exact List.Sublist.refl _
  · exact List.filter_sublist
theorem SpOk.col {sp : Sp} {b : TStamp} (h : SpOk sp) : SpOk (colS sp b) := by
  unfold colS
  split
  · exact h
  · rename_i hb
    refine ⟨?_, fun x hx => ?_, ?_⟩
    · have e : keysOf (sp.rows.map (colR (colFl sp b))) = keysOf sp.rows := by simp [keysOf, colR_key, Function.comp_def]
      exact SrtK.sub (show SrtK (keysOf (sp.rows.map (colR (colFl sp b)))) from e ▸ h.rise) List.filter_sublist
    · simp only [tidyR, List.mem_filter, List.mem_map] at hx
      obtain ⟨⟨r, hr, rfl⟩, he⟩ := hx
      have ho := h.rows r hr
      exact ⟨by rw [colR_key]; exact ho.key, fun v hv => ho.vs v ((colR_sub _ r).subset hv), ho.rise.sublist (colR_sub _ r), by rw [colR_it]; exact ho.it, by simpa using he⟩
    · simp only [colFl]
      split
      · simpa using hb
      · exact h.floor
/-! ### How many there are -/
theorem put_len {sp : Sp} {x : TIntent} (h : SpOk sp) : (putS sp x).rows.length ≤ sp.rows.length + 1 ∧ versN (putS sp x).rows = versN sp.rows := by
  unfold putS
  split
  · exact ⟨by omega, rfl⟩
  · obtain ⟨rows, fl⟩ := sp
    rcases place x.fKey h.rise with ⟨A, r, B, e, hk, hm⟩ | ⟨A, B, e, hm⟩
    · simp only at e; subst e
      simp only [setIt_mid hk hm]
      simp [versN]
    · simp only at e; subst e
      simp only [setIt_gap hm]
      simp [versN]; omega
theorem versN_sub {A B : List Row} (h : A.Sublist B) : versN A ≤ versN B := by
  unfold versN
  have : ∀ {a b : List Nat}, a.Sublist b → a.sum ≤ b.sum := by
    intro a b h
    induction h with
    | slnil => exact Nat.le_refl _
    | cons x h ih => simp; omega
    | cons_cons x h ih => simp; omega
  exact this (h.map _)
theorem res_len {sp : Sp} {k : List UInt8} {txn : Int} {yes : Bool} {a : TStamp} (h : SpOk sp) : (resS sp k txn yes a).rows.length ≤ sp.rows.length ∧ versN (resS sp k txn yes a).rows ≤ versN sp.rows + 1 := by
  unfold resS
  split
  · obtain ⟨rows, fl⟩ := sp
    refine ⟨Nat.le_trans (List.length_filter_le ..) (by simp [updR]), Nat.le_trans (versN_sub List.filter_sublist) ?_⟩
    rcases place k h.rise with ⟨A, r, B, e, hk, hm⟩ | ⟨A, B, e, hm⟩
    · simp only at e; subst e
      rw [updR_mid hm hk]
      simp only [versN, resR, List.map_append, List.map_cons, List.sum_append, List.sum_cons]
      split <;> simp <;> omega
    · simp only at e; subst e
      rw [show updR k (resR yes a) (A ++ B) = A ++ B from by
        unfold updR
        conv => rhs; rw [← List.map_id (A ++ B)]
        exact List.map_congr_left fun x hx => if_neg (hm.notin x hx)]
      exact Nat.le_succ _
  · exact ⟨Nat.le_refl _, by omega⟩
end Go.Proofs.YtmnnnoinfhiilaaDoor
