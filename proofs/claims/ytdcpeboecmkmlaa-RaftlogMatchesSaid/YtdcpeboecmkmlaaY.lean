/-
  What is committed stays.
-/
import Derived.Test.YtdcpeboecmkmlaaV
set_option linter.unusedSimpArgs false
set_option linter.unusedVariables false
namespace Go.Proofs.Ytdcpeboecmkmlaa
open Go.SL
set_option maxRecDepth 10000

/-- what is committed in the one is so in the other, as far as it goes back -/
structure Kp (g g' : LG) : Prop where
  com : g.commit ≤ g'.commit
  idx : g.index ≤ g'.index
  ent : ∀ j, g'.index < j → j ≤ g.commit → entAt g' j = entAt g j

theorem Kp.refl (g : LG) : Kp g g := ⟨Int.le_refl _, Int.le_refl _, fun _ _ _ => rfl⟩
theorem geti_pre {α : Type} [Inhabited α] {xs ys zs : List α} {n : Nat} (h : xs.take n = ys.take n) {i : Int} (h0 : 0 ≤ i) (hi : i < n) : geti xs i = geti ys i := by
  have e : ∀ l : List α, geti l i = geti (l.take n) i := fun l => by
    simp only [geti, List.getD]
    rw [List.getElem?_take, if_pos (by omega)]
  rw [e xs, e ys, h]
theorem kp_pre {g : LG} {es' : List LE} {n : Nat} (hw : WF g) (hn : g.commit ≤ g.index + n) (hn1 : n ≤ g.es.length) (hn2 : n ≤ es'.length) (h : es'.take n = g.es.take n) : Kp g { g with es := es' } := by
  refine ⟨Int.le_refl _, Int.le_refl _, fun j h1 h2 => ?_⟩
  have hc := hw.com
  simp only at h1
  unfold entAt lastI at *
  simp only
  rw [if_pos (by omega), if_pos (by omega), geti_pre (zs := []) h (by omega) (by omega)]
theorem add_kp {g : LG} (hw : WF g) (t k : Int) (d : List UInt8) : Kp g (addG g t k d).2.2 := by
  unfold addG
  split
  · refine kp_pre (n := g.es.length) hw hw.com.2 (Nat.le_refl _) (by simp) (by simp)
  · exact Kp.refl g
theorem settle_kp {g : LG} (i : Int) : Kp g (settleG g i).2 := by
  unfold settleG
  split
  · exact Kp.refl g
  · exact ⟨by simp only; omega, Int.le_refl _, fun _ _ _ => rfl⟩
theorem cut_kp {g : LG} (hw : WF g) (i : Int) : Kp g (cutG g i).2 := by
  unfold cutG
  split
  · exact Kp.refl g
  · rename_i hn
    have hc := hw.com
    refine ⟨Int.le_refl _, by simp only; omega, fun j h1 h2 => ?_⟩
    simp only at h1
    have hl : (g.es.drop (i - g.index).toNat).length = g.es.length - (i - g.index).toNat := List.length_drop ..
    unfold entAt lastI at *
    simp only
    rw [if_pos (by omega), if_pos (by omega)]
    simp only [geti, List.getD, List.getElem?_drop]
    congr 3
    omega
theorem reset_kp {g : LG} (hw : WF g) (i t : Int) (m : List Int) : Kp g (resetG g i t m).2 := by
  unfold resetG
  split
  · exact Kp.refl g
  split
  · exact Kp.refl g
  · have hc := hw.com
    exact ⟨by simp only; omega, by simp only; omega, fun j h1 h2 => by simp only at h1; omega⟩
theorem off2_kp {g : LG} {i t : Int} {es : List LE} (hw : WF g) (hb : Beh g i t es) : Kp g (off2 g i es).2.2.2 := by
  unfold off2
  cases h : offW g es with
  | none => exact Kp.refl g
  | some g' =>
    rcases offW_spec hw es i t hb g' h with rfl | ⟨j, ⟨a1, a2, a3, a4⟩, a5, a6⟩
    · exact Kp.refl _
    · simp only
      rw [a5]
      exact kp_pre (n := j) hw a1 a2 (by simp [List.length_take]; omega) (by
        rw [List.take_append_of_le_length (by rw [List.length_take]; omega), List.take_take, Nat.min_self])
theorem offer_kp {g : LG} (hw : WF g) (i t : Int) (es : List LE) : Kp g (offerG g i t es).2.2.2 := by
  unfold offerG
  split
  · exact Kp.refl g
  · rename_i h1
    have h1' : countB i = true ∧ countB t = true ∧ followB i t es = true := by
      simp only [Bool.not_eq_false, Bool.and_eq_true] at h1
      exact ⟨h1.1.1, h1.1.2, h1.2⟩
    split
    · rename_i h2
      split
      · exact Kp.refl g
      · rename_i h3
        exact off2_kp hw (offer_before hw h1'.2.2 h2 h3)
    · split
      · rename_i h2 h3
        exact off2_kp hw (offer_behind hw h1'.2.2 h1'.1 h3)
      · exact Kp.refl g

theorem div48 {n : Nat} (h : n * 48 ≤ 137438953472) : n ≤ 2863311530 := by omega
/-- what is committed -/
def ahead (g : LG) : List LE := sliceAt g (g.index + 1) (g.commit - g.index)
theorem ahead_at {g : LG} (hw : WF g) {k : Nat} (hk : k < (ahead g).length) : entAt g (geti (ahead g) (k : Int)).index = some (geti (ahead g) (k : Int)) ∧ (geti (ahead g) (k : Int)).index = g.index + 1 + k ∧ g.index + 1 + k ≤ g.commit := by
  have hc := hw.com
  have hlen := hw.len
  unfold ahead sliceAt at hk ⊢
  split at hk
  · rename_i hin
    rw [if_pos hin]
    rw [show (g.index + 1 - g.index - 1).toNat = 0 from by omega, List.drop_zero] at hk ⊢
    rw [List.length_take] at hk
    have e : geti (g.es.take (g.commit - g.index).toNat) (k : Int) = geti g.es (k : Int) := by
      refine geti_pre (zs := []) (n := (g.commit - g.index).toNat) ?_ (by omega) (by omega)
      rw [List.take_take, Nat.min_self]
    rw [e]
    have h1 := (hw.at (k := k) (by omega)).1
    refine ⟨?_, h1, by omega⟩
    unfold entAt lastI
    rw [h1, if_pos (by omega)]
    congr 2; omega
  · simp at hk

section
variable {ω : Om} {I : Imm} {L : LH} {K : Value → M}

/-- behind a step: the commit has not gone back, and what was committed is as it was -/
theorem keeps_tail {b bp : Nat} {X F : LH} {g g' : LG} {av mv : Value} {i : Int} {Kn : (Value × Value × Unit) → M} (hR : LogR I b X g') (hw : WF g) (hw' : WF g') (hkp : Kp g g') (ha : Ents I av (ahead g)) (hXF : ∀ x ∈ X, x ∈ F) (hF : (bp, Obj.cells #[.int .i64 g.index, .int .i64 g.term, mv] 46 (0, 0)) ∈ F) (hi : 0 ≤ i ∧ i < 4611686018427387904)
    (hal : (ahead g).length < 4611686018427387904)
    (hk : ∀ I' Z, Ext I I' → Kn (.bool false, .int .i64 (i + 1), ()) I' (Z ++ F)) :
    sh5_6 ω (.bool false) (.pointer (some ⟨b, 0, none⟩)) (.int .i64 i) (.int .i64 g.commit) (.pointer (some ⟨bp, 0, none⟩)) av Kn (fun v => Gh (K v)) I F := by
  have hkc := hkp.com
  have hki := hkp.idx
  have hl' := hw'.last
  have hl := hw.last
  unfold sh5_6
  refine call (commit_spec (hR.view (hs := ⟨hXF⟩)) ?_)
  refine call (start_spec (hR.view (hs := ⟨hXF⟩)) hw' (fun mv1 I1 hI1 hm1 => ?_))
  have hm1' := hm1
  obtain ⟨a1, cap1, rfl⟩ := Ints.form hm1'
  refine newI (fun b7 => ?_)
  refine stB rfl rfl (one_all rfl) ?_
  try simp only [Pv_some, fldV_p, nilV_p, nilV_f, lenV_s, capV_s, lenSV_s, minV_i, maxV_i, strV_s, unV_not, unV_neg, pickV_t, pickV_f, exV_t, cvIV_i, binI_add, binI_sub, binI_mul, binI_eql, binI_neq, binI_lss, binI_leq, binI_gtr, binI_geq, binI_and, binI_or, binB_eql, binB_neq, binS_eql, binS_neq, binP_eql_nil, binP_neq_nil, binN_eql_nil, binN_neq_nil, binN_eql_nn, binN_neq_nn, Br_true, Br_false, Gd_tt, Gd_ft, Gd_tf, Gd_ff, cells_agg, List.getElem?_toArray, List.getElem?_cons_zero, List.getElem?_cons_succ, Nat.zero_add, Nat.add_zero, Nat.zero_mul]
  refine gd_split (fun _ => ?_) (fun h => by simp at h; omega)
  refine rdb ?_
  refine rd1 (Cell.own (List.mem_cons_of_mem _ hF) rfl) ?_
  try simp only [Pv_some, fldV_p, nilV_p, nilV_f, lenV_s, capV_s, lenSV_s, minV_i, maxV_i, strV_s, unV_not, unV_neg, pickV_t, pickV_f, exV_t, cvIV_i, binI_add, binI_sub, binI_mul, binI_eql, binI_neq, binI_lss, binI_leq, binI_gtr, binI_geq, binI_and, binI_or, binB_eql, binB_neq, binS_eql, binS_neq, binP_eql_nil, binP_neq_nil, binN_eql_nil, binN_neq_nil, binN_eql_nn, binN_neq_nn, Br_true, Br_false, Gd_tt, Gd_ft, Gd_tf, Gd_ff, cells_agg, List.getElem?_toArray, List.getElem?_cons_zero, List.getElem?_cons_succ, Nat.zero_add, Nat.add_zero, Nat.zero_mul]
  refine br_split (fun h => by simp at h; omega) (fun _ => ?_)
  refine loop (fun m s I' L' => Ext I1 I' ∧ ∃ k : Nat, k + m = (ahead g).length ∧ s = ((Value.bool false, Value.int .i64 k, ()) : Value × Value × Unit) ∧ L' = (b7, Obj.cells #[.int .i64 g'.index, .int .i64 g'.term, .slice a1 g'.mem.length cap1] 46 (0, 0)) :: F) (ahead g).length
    ⟨Ext.refl _, 0, by omega, rfl, rfl⟩ ?_
  rintro m s I' L' ⟨hI', k, hkm, rfl, rfl⟩
  unfold sh5_9
  simp only [RL.len ha, Pv_some, fldV_p, nilV_p, nilV_f, lenV_s, capV_s, lenSV_s, minV_i, maxV_i, strV_s, unV_not, unV_neg, pickV_t, pickV_f, exV_t, cvIV_i, binI_add, binI_sub, binI_mul, binI_eql, binI_neq, binI_lss, binI_leq, binI_gtr, binI_geq, binI_and, binI_or, binB_eql, binB_neq, binS_eql, binS_neq, binP_eql_nil, binP_neq_nil, binN_eql_nil, binN_neq_nil, binN_eql_nn, binN_neq_nn, Br_true, Br_false, Gd_tt, Gd_ft, Gd_tf, Gd_ff, cells_agg, List.getElem?_toArray, List.getElem?_cons_zero, List.getElem?_cons_succ, Nat.zero_add, Nat.add_zero, Nat.zero_mul]
  refine br_split (fun hlt => ?_) (fun hlt => ?_)
  · simp at hlt
    obtain ⟨q1, q2, q3⟩ := ahead_at hw hlt
    obtain ⟨b2, off, c, hix, hcl, ⟨dv, rfl, hB⟩, hc⟩ := RL.ix ha (i := k) (by omega) (by omega)
    have hc := hc I' [] (hI1.trans hI') (fun _ h => by cases h)
    have d0 := hc 0 _ rfl
    simp only [Nat.add_zero] at d0
    simp only [hix, Pv_some, fldV_p, nilV_p, nilV_f, lenV_s, capV_s, lenSV_s, minV_i, maxV_i, strV_s, unV_not, unV_neg, pickV_t, pickV_f, exV_t, cvIV_i, binI_add, binI_sub, binI_mul, binI_eql, binI_neq, binI_lss, binI_leq, binI_gtr, binI_geq, binI_and, binI_or, binB_eql, binB_neq, binS_eql, binS_neq, binP_eql_nil, binP_neq_nil, binN_eql_nil, binN_neq_nil, binN_eql_nn, binN_neq_nn, Br_true, Br_false, Gd_tt, Gd_ft, Gd_tf, Gd_ff, cells_agg, List.getElem?_toArray, List.getElem?_cons_zero, List.getElem?_cons_succ, Nat.zero_add, Nat.add_zero, Nat.zero_mul]
    have next : ∀ (I2 : Imm) (Z : LH), Ext I' I2 → (Gh fun I3 L3 => ∃ m', m' < m ∧ Ext I1 I3 ∧ ∃ k' : Nat, k' + m' = (ahead g).length ∧ ((Value.bool false, Value.int .i64 ((k : Int) + 1), ()) : Value × Value × Unit) = (Value.bool false, Value.int .i64 k', ()) ∧ L3 = (b7, Obj.cells #[.int .i64 g'.index, .int .i64 g'.term, .slice a1 g'.mem.length cap1] 46 (0, 0)) :: F) I2 (Z ++ ((b7, Obj.cells #[.int .i64 g'.index, .int .i64 g'.term, .slice a1 g'.mem.length cap1] 46 (0, 0)) :: F)) := fun I2 Z hI2 => by
      refine Gh.to ((b7, Obj.cells #[.int .i64 g'.index, .int .i64 g'.term, .slice a1 g'.mem.length cap1] 46 (0, 0)) :: F) (Gh.done ?_)
      exact ⟨m - 1, by omega, hI'.trans hI2, k + 1, by omega, by simp, rfl⟩
    refine drawC ?_
    refine rdCS d0 (Ext.refl _) ?_
    refine rdbS ?_
    try simp only [Pv_some, fldV_p, nilV_p, nilV_f, lenV_s, capV_s, lenSV_s, minV_i, maxV_i, strV_s, unV_not, unV_neg, pickV_t, pickV_f, exV_t, cvIV_i, binI_add, binI_sub, binI_mul, binI_eql, binI_neq, binI_lss, binI_leq, binI_gtr, binI_geq, binI_and, binI_or, binB_eql, binB_neq, binS_eql, binS_neq, binP_eql_nil, binP_neq_nil, binN_eql_nil, binN_neq_nil, binN_eql_nn, binN_neq_nn, Br_true, Br_false, Gd_tt, Gd_ft, Gd_tf, Gd_ff, cells_agg, List.getElem?_toArray, List.getElem?_cons_zero, List.getElem?_cons_succ, Nat.zero_add, Nat.add_zero, Nat.zero_mul]
    refine br_split (fun h1 => ?_) (fun h1 => ?_)
    · unfold sh5_10
      simp only [Pv_some, fldV_p, nilV_p, nilV_f, lenV_s, capV_s, lenSV_s, minV_i, maxV_i, strV_s, unV_not, unV_neg, pickV_t, pickV_f, exV_t, cvIV_i, binI_add, binI_sub, binI_mul, binI_eql, binI_neq, binI_lss, binI_leq, binI_gtr, binI_geq, binI_and, binI_or, binB_eql, binB_neq, binS_eql, binS_neq, binP_eql_nil, binP_neq_nil, binN_eql_nil, binN_neq_nil, binN_eql_nn, binN_neq_nn, Br_true, Br_false, Gd_tt, Gd_ft, Gd_tf, Gd_ff, cells_agg, List.getElem?_toArray, List.getElem?_cons_zero, List.getElem?_cons_succ, Nat.zero_add, Nat.add_zero, Nat.zero_mul, wrap_i64 ((k : Int) + 1) (by omega)]
      exact next I' [] (Ext.refl _)
    · simp at h1
      refine rdC d0 (Ext.refl _) ?_
      have hen : entAt g' (geti (ahead g) (k : Int)).index = some (geti (ahead g) (k : Int)) := by rw [hkp.ent _ h1 (by omega)]; exact q1
      refine call (at_spec ((hR.mono (hI1.trans hI')).view (hs := ⟨fun x hx => List.mem_cons_of_mem _ (hXF x hx)⟩)) hw' (by unfold inI64; omega) (fun c2 I2 hI2 hc2 => ?_))
      rw [hen] at hc2 ⊢
      simp only [Option.getD_some, Option.isSome_some, if_true] at hc2 ⊢
      have hc2' := hc2
      obtain ⟨dv2, rfl, hB2⟩ := hc2'
      obtain ⟨a2, cap2, rfl⟩ := hB2.form
      try simp only [Pv_some, fldV_p, nilV_p, nilV_f, lenV_s, capV_s, lenSV_s, minV_i, maxV_i, strV_s, unV_not, unV_neg, pickV_t, pickV_f, exV_t, cvIV_i, binI_add, binI_sub, binI_mul, binI_eql, binI_neq, binI_lss, binI_leq, binI_gtr, binI_geq, binI_and, binI_or, binB_eql, binB_neq, binS_eql, binS_neq, binP_eql_nil, binP_neq_nil, binN_eql_nil, binN_neq_nil, binN_eql_nn, binN_neq_nn, Br_true, Br_false, Gd_tt, Gd_ft, Gd_tf, Gd_ff, cells_agg, List.getElem?_toArray, List.getElem?_cons_zero, List.getElem?_cons_succ, Nat.zero_add, Nat.add_zero, Nat.zero_mul]
      refine newI (fun b8 => ?_)
      refine stB rfl rfl (one_all rfl) ?_
      refine drawC ?_
      refine rdBS rfl ?_
      refine one_ents hc2 (fun u3 I3 hI3 hE3 => ?_)
      simp only [Pv_some, fldV_p, nilV_p, nilV_f, lenV_s, capV_s, lenSV_s, minV_i, maxV_i, strV_s, unV_not, unV_neg, pickV_t, pickV_f, exV_t, cvIV_i, binI_add, binI_sub, binI_mul, binI_eql, binI_neq, binI_lss, binI_leq, binI_gtr, binI_geq, binI_and, binI_or, binB_eql, binB_neq, binS_eql, binS_neq, binP_eql_nil, binP_neq_nil, binN_eql_nil, binN_neq_nil, binN_eql_nn, binN_neq_nn, Br_true, Br_false, Gd_tt, Gd_ft, Gd_tf, Gd_ff, cells_agg, List.getElem?_toArray, List.getElem?_cons_zero, List.getElem?_cons_succ, Nat.zero_add, Nat.add_zero, Nat.zero_mul, wrap_i64 ((k : Int) + 1) (by omega)]
      obtain ⟨v4, hs4, hl4⟩ := RL.part ha (lo := k) (hi := k + 1) (by omega) (by omega) (some (.int .i64 k)) (some (.int .i64 ((k : Int) + 1))) (bnd_in _ _ _ _ (by omega)) (fun cap hc => by
        rw [show (k : Int) + 1 = ((k + 1 : Nat) : Int) from by omega]; exact bnd_in _ _ _ _ (by omega))
      rw [show k + 1 - k = 1 from by omega, drop_geti hlt, List.take_succ_cons, List.take_zero] at hl4
      simp only [hs4, Pv_some, fldV_p, nilV_p, nilV_f, lenV_s, capV_s, lenSV_s, minV_i, maxV_i, strV_s, unV_not, unV_neg, pickV_t, pickV_f, exV_t, cvIV_i, binI_add, binI_sub, binI_mul, binI_eql, binI_neq, binI_lss, binI_leq, binI_gtr, binI_geq, binI_and, binI_or, binB_eql, binB_neq, binS_eql, binS_neq, binP_eql_nil, binP_neq_nil, binN_eql_nil, binN_neq_nil, binN_eql_nn, binN_neq_nn, Br_true, Br_false, Gd_tt, Gd_ft, Gd_tf, Gd_ff, cells_agg, List.getElem?_toArray, List.getElem?_cons_zero, List.getElem?_cons_succ, Nat.zero_add, Nat.add_zero, Nat.zero_mul]
      refine call (sameents_spec (Ents.to hE3 (Ext.refl _)) (Ents.to hl4 (hI1.trans (hI'.trans (hI2.trans hI3)))) (by simp) ?_)
      simp only [Pv_some, fldV_p, nilV_p, nilV_f, lenV_s, capV_s, lenSV_s, minV_i, maxV_i, strV_s, unV_not, unV_neg, pickV_t, pickV_f, exV_t, cvIV_i, binI_add, binI_sub, binI_mul, binI_eql, binI_neq, binI_lss, binI_leq, binI_gtr, binI_geq, binI_and, binI_or, binB_eql, binB_neq, binS_eql, binS_neq, binP_eql_nil, binP_neq_nil, binN_eql_nil, binN_neq_nil, binN_eql_nn, binN_neq_nn, Br_true, Br_false, Gd_tt, Gd_ft, Gd_tf, Gd_ff, cells_agg, List.getElem?_toArray, List.getElem?_cons_zero, List.getElem?_cons_succ, Nat.zero_add, Nat.add_zero, Nat.zero_mul, bne_self_eq_false, Bool.not_true]
      unfold sh5_10
      simp only [Pv_some, fldV_p, nilV_p, nilV_f, lenV_s, capV_s, lenSV_s, minV_i, maxV_i, strV_s, unV_not, unV_neg, pickV_t, pickV_f, exV_t, cvIV_i, binI_add, binI_sub, binI_mul, binI_eql, binI_neq, binI_lss, binI_leq, binI_gtr, binI_geq, binI_and, binI_or, binB_eql, binB_neq, binS_eql, binS_neq, binP_eql_nil, binP_neq_nil, binN_eql_nil, binN_neq_nil, binN_eql_nn, binN_neq_nn, Br_true, Br_false, Gd_tt, Gd_ft, Gd_tf, Gd_ff, cells_agg, List.getElem?_toArray, List.getElem?_cons_zero, List.getElem?_cons_succ, Nat.zero_add, Nat.add_zero, Nat.zero_mul, wrap_i64 ((k : Int) + 1) (by omega)]
      exact next I3 [_] (hI2.trans hI3)
  · unfold sh5_4
    simp only [Pv_some, fldV_p, nilV_p, nilV_f, lenV_s, capV_s, lenSV_s, minV_i, maxV_i, strV_s, unV_not, unV_neg, pickV_t, pickV_f, exV_t, cvIV_i, binI_add, binI_sub, binI_mul, binI_eql, binI_neq, binI_lss, binI_leq, binI_gtr, binI_geq, binI_and, binI_or, binB_eql, binB_neq, binS_eql, binS_neq, binP_eql_nil, binP_neq_nil, binN_eql_nil, binN_neq_nil, binN_eql_nn, binN_neq_nn, Br_true, Br_false, Gd_tt, Gd_ft, Gd_tf, Gd_ff, cells_agg, List.getElem?_toArray, List.getElem?_cons_zero, List.getElem?_cons_succ, Nat.zero_add, Nat.add_zero, Nat.zero_mul, wrap_i64 (i + 1) (by omega)]
    exact hk I' [_] (hI1.trans hI')

set_option maxHeartbeats 1000000 in
theorem keeps_law {v0 v1 : Value} {m : List Int} {ss : List Stp} (h0 : Ints I v0 m) (h1 : Script 137438953472 I v1 ss) (hlen : ss.length < 4611686018427387904) (hk : ∀ I' L', Ext I I' → K (.bool true) I' L') : Cal Try.prog ω 5 #[v0, v1] K I L := by
  refine cal5 ?_
  unfold sh5
  refine call (awake_spec (fun I1 hI1 => ?_))
  refine call (new_spec (h0.mono hI1) (fun hb => ?_) (fun hb b X I2 hI2 hR => ?_))
  · try simp only [Pv_some, fldV_p, nilV_p, nilV_f, lenV_s, capV_s, lenSV_s, minV_i, maxV_i, strV_s, unV_not, unV_neg, pickV_t, pickV_f, exV_t, cvIV_i, binI_add, binI_sub, binI_mul, binI_eql, binI_neq, binI_lss, binI_leq, binI_gtr, binI_geq, binI_and, binI_or, binB_eql, binB_neq, binS_eql, binS_neq, binP_eql_nil, binP_neq_nil, binN_eql_nil, binN_neq_nil, binN_eql_nn, binN_neq_nn, Br_true, Br_false, Gd_tt, Gd_ft, Gd_tf, Gd_ff, cells_agg, List.getElem?_toArray, List.getElem?_cons_zero, List.getElem?_cons_succ, Nat.zero_add, Nat.add_zero, Nat.zero_mul]
    refine call (rmembers_spec (h0.mono hI1) ?_)
    rw [hb]
    simp only [Pv_some, fldV_p, nilV_p, nilV_f, lenV_s, capV_s, lenSV_s, minV_i, maxV_i, strV_s, unV_not, unV_neg, pickV_t, pickV_f, exV_t, cvIV_i, binI_add, binI_sub, binI_mul, binI_eql, binI_neq, binI_lss, binI_leq, binI_gtr, binI_geq, binI_and, binI_or, binB_eql, binB_neq, binS_eql, binS_neq, binP_eql_nil, binP_neq_nil, binN_eql_nil, binN_neq_nil, binN_eql_nn, binN_neq_nn, Br_true, Br_false, Gd_tt, Gd_ft, Gd_tf, Gd_ff, cells_agg, List.getElem?_toArray, List.getElem?_cons_zero, List.getElem?_cons_succ, Nat.zero_add, Nat.add_zero, Nat.zero_mul, Bool.not_false]
    exact Gh.done (hk I1 _ hI1)
  try simp only [Pv_some, fldV_p, nilV_p, nilV_f, lenV_s, capV_s, lenSV_s, minV_i, maxV_i, strV_s, unV_not, unV_neg, pickV_t, pickV_f, exV_t, cvIV_i, binI_add, binI_sub, binI_mul, binI_eql, binI_neq, binI_lss, binI_leq, binI_gtr, binI_geq, binI_and, binI_or, binB_eql, binB_neq, binS_eql, binS_neq, binP_eql_nil, binP_neq_nil, binN_eql_nil, binN_neq_nil, binN_eql_nn, binN_neq_nn, Br_true, Br_false, Gd_tt, Gd_ft, Gd_tf, Gd_ff, cells_agg, List.getElem?_toArray, List.getElem?_cons_zero, List.getElem?_cons_succ, Nat.zero_add, Nat.add_zero, Nat.zero_mul]
  refine call (rmembers_spec ((h0.mono hI1).mono hI2) ?_)
  rw [hb]
  simp only [Pv_some, fldV_p, nilV_p, nilV_f, lenV_s, capV_s, lenSV_s, minV_i, maxV_i, strV_s, unV_not, unV_neg, pickV_t, pickV_f, exV_t, cvIV_i, binI_add, binI_sub, binI_mul, binI_eql, binI_neq, binI_lss, binI_leq, binI_gtr, binI_geq, binI_and, binI_or, binB_eql, binB_neq, binS_eql, binS_neq, binP_eql_nil, binP_neq_nil, binN_eql_nil, binN_neq_nil, binN_eql_nn, binN_neq_nn, Br_true, Br_false, Gd_tt, Gd_ft, Gd_tf, Gd_ff, cells_agg, List.getElem?_toArray, List.getElem?_cons_zero, List.getElem?_cons_succ, Nat.zero_add, Nat.add_zero, Nat.zero_mul, Bool.not_true]
  have hw := new_wf hb
  have hI12 := hI1.trans hI2
  refine loop (fun mm s I' L' => Ext I2 I' ∧ ∃ (k : Nat) (X : LH) (g : LG), k + mm = ss.length ∧ s = ((Value.bool false, Value.int .i64 k, ()) : Value × Value × Unit) ∧ LogR I' b X g ∧ WF g ∧ k ≤ 400 ∧ g.es.length ≤ k * 2863311532 ∧ L' = X ++ L) ss.length
    ⟨Ext.refl _, 0, X, newG m, by omega, rfl, hR, hw, by omega, by simp [newG], rfl⟩ ?_
  rintro mm s I' L' ⟨hI', k, X, g, hkm, rfl, hR, hw, hk400, hgl, rfl⟩
  unfold sh5_3
  simp only [RL.len h1, Pv_some, fldV_p, nilV_p, nilV_f, lenV_s, capV_s, lenSV_s, minV_i, maxV_i, strV_s, unV_not, unV_neg, pickV_t, pickV_f, exV_t, cvIV_i, binI_add, binI_sub, binI_mul, binI_eql, binI_neq, binI_lss, binI_leq, binI_gtr, binI_geq, binI_and, binI_or, binB_eql, binB_neq, binS_eql, binS_neq, binP_eql_nil, binP_neq_nil, binN_eql_nil, binN_neq_nil, binN_eql_nn, binN_neq_nn, Br_true, Br_false, Gd_tt, Gd_ft, Gd_tf, Gd_ff, cells_agg, List.getElem?_toArray, List.getElem?_cons_zero, List.getElem?_cons_succ, Nat.zero_add, Nat.add_zero, Nat.zero_mul]
  refine gd_split (fun hlt => ?_) (fun hlt => Gh.done (hk I' _ (hI12.trans hI')))
  refine br_split (fun h4 => ?_) (fun h4 => Gh.done (hk I' _ (hI12.trans hI')))
  simp at hlt h4
  have hcom := hw.com
  have hlast := hw.last
  have hwl := hw.len
  refine call (commit_spec hR.viewF ?_)
  refine call (start_spec hR.viewF hw (fun mv3 I3 hI3 hm3 => ?_))
  have hm3' := hm3
  obtain ⟨a3, cap3, rfl⟩ := Ints.form hm3'
  refine newI (fun bp => ?_)
  refine stB rfl rfl (one_all rfl) ?_
  try simp only [Pv_some, fldV_p, nilV_p, nilV_f, lenV_s, capV_s, lenSV_s, minV_i, maxV_i, strV_s, unV_not, unV_neg, pickV_t, pickV_f, exV_t, cvIV_i, binI_add, binI_sub, binI_mul, binI_eql, binI_neq, binI_lss, binI_leq, binI_gtr, binI_geq, binI_and, binI_or, binB_eql, binB_neq, binS_eql, binS_neq, binP_eql_nil, binP_neq_nil, binN_eql_nil, binN_neq_nil, binN_eql_nn, binN_neq_nn, Br_true, Br_false, Gd_tt, Gd_ft, Gd_tf, Gd_ff, cells_agg, List.getElem?_toArray, List.getElem?_cons_zero, List.getElem?_cons_succ, Nat.zero_add, Nat.add_zero, Nat.zero_mul]
  refine rdb ?_
  simp only [Pv_some, fldV_p, nilV_p, nilV_f, lenV_s, capV_s, lenSV_s, minV_i, maxV_i, strV_s, unV_not, unV_neg, pickV_t, pickV_f, exV_t, cvIV_i, binI_add, binI_sub, binI_mul, binI_eql, binI_neq, binI_lss, binI_leq, binI_gtr, binI_geq, binI_and, binI_or, binB_eql, binB_neq, binS_eql, binS_neq, binP_eql_nil, binP_neq_nil, binN_eql_nil, binN_neq_nil, binN_eql_nn, binN_neq_nn, Br_true, Br_false, Gd_tt, Gd_ft, Gd_tf, Gd_ff, cells_agg, List.getElem?_toArray, List.getElem?_cons_zero, List.getElem?_cons_succ, Nat.zero_add, Nat.add_zero, Nat.zero_mul, wrap_i64 (g.index + 1) (by omega)]
  refine rdb ?_
  simp only [Pv_some, fldV_p, nilV_p, nilV_f, lenV_s, capV_s, lenSV_s, minV_i, maxV_i, strV_s, unV_not, unV_neg, pickV_t, pickV_f, exV_t, cvIV_i, binI_add, binI_sub, binI_mul, binI_eql, binI_neq, binI_lss, binI_leq, binI_gtr, binI_geq, binI_and, binI_or, binB_eql, binB_neq, binS_eql, binS_neq, binP_eql_nil, binP_neq_nil, binN_eql_nil, binN_neq_nil, binN_eql_nn, binN_neq_nn, Br_true, Br_false, Gd_tt, Gd_ft, Gd_tf, Gd_ff, cells_agg, List.getElem?_toArray, List.getElem?_cons_zero, List.getElem?_cons_succ, Nat.zero_add, Nat.add_zero, Nat.zero_mul, wrap_i64 (g.commit - g.index) (by omega)]
  refine call (slice_spec (hR.mono hI3).view hw (by unfold inI64; omega) (by unfold inI64; omega) (fun av I4 hI4 hE4 => ?_))
  have hE4' : Ents I4 av (ahead g) := hE4
  have hal : (ahead g).length < 4611686018427387904 := by
    unfold ahead sliceAt
    split
    · rw [List.length_take, List.length_drop]; omega
    · simp
  obtain ⟨b5, off, cs, hix, hcl, hst, hc⟩ := RL.ix h1 (i := k) (by omega) (by omega)
  have hI4' := hI12.trans (hI'.trans (hI3.trans hI4))
  simp only [hix, Pv_some, fldV_p, nilV_p, nilV_f, lenV_s, capV_s, lenSV_s, minV_i, maxV_i, strV_s, unV_not, unV_neg, pickV_t, pickV_f, exV_t, cvIV_i, binI_add, binI_sub, binI_mul, binI_eql, binI_neq, binI_lss, binI_leq, binI_gtr, binI_geq, binI_and, binI_or, binB_eql, binB_neq, binS_eql, binS_neq, binP_eql_nil, binP_neq_nil, binN_eql_nil, binN_neq_nil, binN_eql_nn, binN_neq_nn, Br_true, Br_false, Gd_tt, Gd_ft, Gd_tf, Gd_ff, cells_agg, List.getElem?_toArray, List.getElem?_cons_zero, List.getElem?_cons_succ, Nat.zero_add, Nat.add_zero, Nat.zero_mul]
  refine rdN hcl (hc I4 _ hI4' (fun _ h => by cases h)) ?_
  obtain ⟨dv, ev, mv, rfl, hd, he, hm, ⟨i1, i2, i3⟩, n1, n2⟩ := hst
  refine newI (fun b6 => ?_)
  refine stB rfl rfl (by
    intro u hu
    simp only [List.mem_cons, List.not_mem_nil, or_false] at hu
    obtain ⟨_, _, e1⟩ := Bytes.form hd
    rcases hu with rfl | rfl | rfl | rfl | rfl | rfl | rfl <;> first | rfl | (rw [e1]; rfl) | exact ents_one he | exact ints_one hm) ?_
  try simp only [Pv_some, fldV_p, nilV_p, nilV_f, lenV_s, capV_s, lenSV_s, minV_i, maxV_i, strV_s, unV_not, unV_neg, pickV_t, pickV_f, exV_t, cvIV_i, binI_add, binI_sub, binI_mul, binI_eql, binI_neq, binI_lss, binI_leq, binI_gtr, binI_geq, binI_and, binI_or, binB_eql, binB_neq, binS_eql, binS_neq, binP_eql_nil, binP_neq_nil, binN_eql_nil, binN_neq_nil, binN_eql_nn, binN_neq_nn, Br_true, Br_false, Gd_tt, Gd_ft, Gd_tf, Gd_ff, cells_agg, List.getElem?_toArray, List.getElem?_cons_zero, List.getElem?_cons_succ, Nat.zero_add, Nat.add_zero, Nat.zero_mul]
  refine rdb ?_
  try simp only [Pv_some, fldV_p, nilV_p, nilV_f, lenV_s, capV_s, lenSV_s, minV_i, maxV_i, strV_s, unV_not, unV_neg, pickV_t, pickV_f, exV_t, cvIV_i, binI_add, binI_sub, binI_mul, binI_eql, binI_neq, binI_lss, binI_leq, binI_gtr, binI_geq, binI_and, binI_or, binB_eql, binB_neq, binS_eql, binS_neq, binP_eql_nil, binP_neq_nil, binN_eql_nil, binN_neq_nil, binN_eql_nn, binN_neq_nn, Br_true, Br_false, Gd_tt, Gd_ft, Gd_tf, Gd_ff, cells_agg, List.getElem?_toArray, List.getElem?_cons_zero, List.getElem?_cons_succ, Nat.zero_add, Nat.add_zero, Nat.zero_mul]
  have hR4 := hR.mono (hI3.trans hI4)
  have hel := div48 n2
  clear hwl n2
  have hsum : g.es.length + (geti ss (k : Int)).ents.length + 1 ≤ 2932031007402 := by omega
  have hl2 : (g.es.length + (geti ss (k : Int)).ents.length) * 48 ≤ 140737488355328 := le48 (b := 2932031007402) (by decide) (Nat.le_of_succ_le hsum)
  have hl1 : (g.es.length + 1) * 48 ≤ 140737488355328 := le48 (b := 2932031007402) (by decide) (Nat.le_trans (Nat.add_le_add_right (Nat.le_add_right _ _) 1) hsum)
  -- behind the step
  have tail : ∀ (g' : LG) (X' : LH) (I5 : Imm), Ext I4 I5 → LogR I5 b X' g' → WF g' → Kp g g' → g'.es.length ≤ g.es.length + (geti ss (k : Int)).ents.length + 1 → ∀ F', (bp, Obj.cells #[.int .i64 g.index, .int .i64 g.term, .slice a3 g.mem.length cap3] 46 (0, 0)) ∈ F' → (∀ x ∈ X', x ∈ F') → SubP (X' ++ L) F' →
      sh5_6 ω (.bool false) (.pointer (some ⟨b, 0, none⟩)) (.int .i64 k) (.int .i64 g.commit) (.pointer (some ⟨bp, 0, none⟩)) av
        (fun s' => Gh fun I2' L2 => ∃ m', m' < mm ∧ Ext I2 I2' ∧ ∃ (k : Nat) (X : LH) (g : LG), k + m' = ss.length ∧ s' = ((Value.bool false, Value.int .i64 k, ()) : Value × Value × Unit) ∧ LogR I2' b X g ∧ WF g ∧ k ≤ 400 ∧ g.es.length ≤ k * 2863311532 ∧ L2 = X ++ L) (fun v => Gh (K v)) I5 F' := by
    intro g' X' I5 hI5 hR5 hw5 hkp hl5 F' hF hXF hsub
    refine keeps_tail hR5 hw hw5 hkp (Ents.to hE4' hI5) hXF hF (by omega) hal (fun I6 Z hI6 => ?_)
    haveI := hsub
    have hl6 : g'.es.length ≤ (k + 1) * 2863311532 := by rw [Nat.add_mul]; omega
    refine Gh.to (X' ++ L) (Gh.done ?_)
    exact ⟨mm - 1, by omega, hI'.trans (hI3.trans (hI4.trans (hI5.trans hI6))), k + 1, X', g', by omega, by simp, hR5.mono hI6, hw5, by omega, hl6, rfl⟩
  refine br_split (fun c0 => ?_) (fun c0 => ?_)
  · unfold sh5_14
    try simp only [Pv_some, fldV_p, nilV_p, nilV_f, lenV_s, capV_s, lenSV_s, minV_i, maxV_i, strV_s, unV_not, unV_neg, pickV_t, pickV_f, exV_t, cvIV_i, binI_add, binI_sub, binI_mul, binI_eql, binI_neq, binI_lss, binI_leq, binI_gtr, binI_geq, binI_and, binI_or, binB_eql, binB_neq, binS_eql, binS_neq, binP_eql_nil, binP_neq_nil, binN_eql_nil, binN_neq_nil, binN_eql_nn, binN_neq_nn, Br_true, Br_false, Gd_tt, Gd_ft, Gd_tf, Gd_ff, cells_agg, List.getElem?_toArray, List.getElem?_cons_zero, List.getElem?_cons_succ, Nat.zero_add, Nat.add_zero, Nat.zero_mul]
    refine rdb ?_
    refine rdb ?_
    refine rdb ?_
    refine call (Cal.split X ?_)
    refine add_spec hR4 hw (hd.mono hI4') (by omega) hl1 (fun X5 I5 hI5 hR5 => ?_)
    have := add_len g (geti ss (k : Int)).b (geti ss (k : Int)).c (geti ss (k : Int)).data
    exact tail _ X5 I5 hI5 hR5 (add_wf hw hl1) (add_kp hw _ _ _) (by omega) _ (by simp) (fun x hx => by simp [hx]) inferInstance
  unfold sh5_15
  try simp only [Pv_some, fldV_p, nilV_p, nilV_f, lenV_s, capV_s, lenSV_s, minV_i, maxV_i, strV_s, unV_not, unV_neg, pickV_t, pickV_f, exV_t, cvIV_i, binI_add, binI_sub, binI_mul, binI_eql, binI_neq, binI_lss, binI_leq, binI_gtr, binI_geq, binI_and, binI_or, binB_eql, binB_neq, binS_eql, binS_neq, binP_eql_nil, binP_neq_nil, binN_eql_nil, binN_neq_nil, binN_eql_nn, binN_neq_nn, Br_true, Br_false, Gd_tt, Gd_ft, Gd_tf, Gd_ff, cells_agg, List.getElem?_toArray, List.getElem?_cons_zero, List.getElem?_cons_succ, Nat.zero_add, Nat.add_zero, Nat.zero_mul]
  refine br_split (fun c1 => ?_) (fun c1 => ?_)
  · refine rdb ?_
    refine rdb ?_
    refine rdb ?_
    refine call (Cal.split X ?_)
    refine offer_spec hR4 hw (Ents.to he hI4') i1 hl2 (fun X5 I5 hI5 hR5 => ?_)
    have := offer_len g (geti ss (k : Int)).a (geti ss (k : Int)).b (geti ss (k : Int)).ents
    exact tail _ X5 I5 hI5 hR5 (offer_wf hw hl2) (offer_kp hw _ _ _) (by omega) _ (by simp) (fun x hx => by simp [hx]) inferInstance
  refine br_split (fun c2 => ?_) (fun c2 => ?_)
  · refine rdb ?_
    refine call (Cal.split X ?_)
    refine settle_spec hR4 hw (fun X5 hR5 => ?_)
    have := settle_len g (geti ss (k : Int)).a
    exact tail _ X5 I4 (Ext.refl _) hR5 (settle_wf hw) (settle_kp _) (by omega) _ (by simp) (fun x hx => by simp [hx]) inferInstance
  refine br_split (fun c3 => ?_) (fun c3 => ?_)
  · refine rdb ?_
    refine call (Cal.split X ?_)
    refine cut_spec hR4 hw i1 (fun X5 I5 hI5 hR5 => ?_)
    have := cut_len g (geti ss (k : Int)).a
    exact tail _ X5 I5 hI5 hR5 (cut_wf hw) (cut_kp hw _) (by omega) _ (by simp) (fun x hx => by simp [hx]) inferInstance
  refine br_split (fun c4 => ?_) (fun c4 => ?_)
  · refine rdb ?_
    refine rdb ?_
    refine rdb ?_
    have hm' := hm
    obtain ⟨am, cm, rfl⟩ := Ints.form hm'
    simp only [bldP, Pv_some, fldV_p, nilV_p, nilV_f, lenV_s, capV_s, lenSV_s, minV_i, maxV_i, strV_s, unV_not, unV_neg, pickV_t, pickV_f, exV_t, cvIV_i, binI_add, binI_sub, binI_mul, binI_eql, binI_neq, binI_lss, binI_leq, binI_gtr, binI_geq, binI_and, binI_or, binB_eql, binB_neq, binS_eql, binS_neq, binP_eql_nil, binP_neq_nil, binN_eql_nil, binN_neq_nil, binN_eql_nn, binN_neq_nn, Br_true, Br_false, Gd_tt, Gd_ft, Gd_tf, Gd_ff, cells_agg, List.getElem?_toArray, List.getElem?_cons_zero, List.getElem?_cons_succ, Nat.zero_add, Nat.add_zero, Nat.zero_mul]
    refine call (Cal.split X ?_)
    refine reset_spec hR4 hw (hm.mono hI4') i1 (fun X5 I5 hI5 hR5 => ?_)
    have := reset_len g (geti ss (k : Int)).a (geti ss (k : Int)).b (geti ss (k : Int)).mem
    exact tail _ X5 I5 hI5 hR5 (reset_wf hw) (reset_kp hw _ _ _) (by omega) _ (by simp) (fun x hx => by simp [hx]) inferInstance
  · exact tail g X I4 (Ext.refl _) hR4 hw (Kp.refl g) (by omega) _ (by simp) (fun x hx => by simp [hx]) inferInstance
end

theorem keeps_walk {W : World} {base : Nat} {v0 v1 : Value} (o0 : Value.okWide Try.prog W .any base 29 v0) (t0 : TrR 137438953472 Try.prog W 29 v0.cells.toList)
    (o1 : Value.okWide Try.prog W .any base 55 v1) (t1 : TrR 137438953472 Try.prog W 55 v1.cells.toList) (ω : Om) :
    Cal Try.prog ω 5 #[v0, v1] (fun v I' _ => v = .bool true ∧ Ext (heapI W) I') (heapI W) [] := by
  obtain ⟨ml, hM, hml, _⟩ := tr_ints Try.underlying29 Try.underlying3 ceI byI (top_slice Try.underlying29 o0 t0)
  obtain ⟨ss, hS, hl⟩ := script_open (top_slice Try.underlying55 o1 t1)
  exact keeps_law hM hS (by omega) (fun I' L' hI => ⟨rfl, hI⟩)
end Go.Proofs.Ytdcpeboecmkmlaa
