/-
  Copies of logs: they know nothing of one another.
-/
import Derived.Test.YtdcpeboecmkmlaaU
set_option linter.unusedSimpArgs false
set_option linter.unusedVariables false
namespace Go.Proofs.Ytdcpeboecmkmlaa
open Go.SL
set_option maxRecDepth 10000

section
variable {ω : Om} {I : Imm} {L : LH} {K : Value → M}

theorem LogV.mono' {I I' : Imm} {L L' : LH} {b : Nat} {g : LG} (h : LogV I L b g) (hI : Ext I I') (hL : ∀ x ∈ L, x ∈ L') : LogV I' L' b g := LogV.to h hI (hL := ⟨hL⟩)
theorem RL.toI {α : Type} {R : Imm → α → List Value → Prop} {n : Nat} {v : Value} {xs : List α} (hn : 0 < n) (h : RL R n I [] v xs) : ∃ cells, SlI I n v cells xs.length ∧ Recs (R I) n xs cells := by
  obtain ⟨a, cap, cells, rfl, hle, hw, hR⟩ := h
  refine ⟨cells, ⟨hw.length, a, cap, rfl, hle, fun h0 => ?_⟩, hR⟩
  rcases hw with ⟨a', cap', e1, e2, _⟩ | ⟨b, off, cap', e1, hl, hc⟩ | ⟨s, e1, _⟩
  · exact absurd e2 h0
  · simp only [Value.slice.injEq] at e1
    obtain ⟨rfl, _, rfl⟩ := e1
    have hpos : 0 < cells.length := by rw [hl]; exact Nat.mul_pos (by omega) hn
    obtain ⟨cs, T, fr, hm, _⟩ := hc 0 _ (List.getElem?_eq_getElem hpos)
    rcases hm with hm | hm
    · cases hm
    · refine ⟨b, off, cs, T, fr, rfl, hm, fun j u hu => ?_⟩
      obtain ⟨cs', T', fr', hm', hv⟩ := hc j u hu
      rcases hm' with hm' | hm'
      · cases hm'
      · rw [hm] at hm'
        simp only [Option.some.injEq, Obj.cells.injEq] at hm'
        rw [hm'.1]; exact hv
  · cases e1

theorem clipE_spec {L0 : LH} {v : Value} {es : List LE} (h : LsV I L0 v es) (hk : ∀ a, LsV I L0 (.slice a es.length es.length) es → K (.slice a es.length es.length) I L) : Cal Try.prog ω 84 #[v] K I L := by
  refine cal84 ?_
  unfold sh84
  simp only [RL.len h, Pv_some, fldV_p, nilV_p, nilV_f, lenV_s, capV_s, lenSV_s, minV_i, maxV_i, strV_s, unV_not, unV_neg, pickV_t, pickV_f, exV_t, cvIV_i, binI_add, binI_sub, binI_mul, binI_eql, binI_neq, binI_lss, binI_leq, binI_gtr, binI_geq, binI_and, binI_or, binB_eql, binB_neq, binS_eql, binS_neq, binP_eql_nil, binP_neq_nil, binN_eql_nil, binN_neq_nil, binN_eql_nn, binN_neq_nn, Br_true, Br_false, Gd_tt, Gd_ft, Gd_tf, Gd_ff, cells_agg, List.getElem?_toArray, List.getElem?_cons_zero, List.getElem?_cons_succ, Nat.zero_add, Nat.add_zero, Nat.zero_mul]
  obtain ⟨a, hs, hl⟩ := RL.clip h (Nat.le_refl _)
  rw [List.take_of_length_le (Nat.le_refl _)] at hl
  simp only [hs, Pv_some, fldV_p, nilV_p, nilV_f, lenV_s, capV_s, lenSV_s, minV_i, maxV_i, strV_s, unV_not, unV_neg, pickV_t, pickV_f, exV_t, cvIV_i, binI_add, binI_sub, binI_mul, binI_eql, binI_neq, binI_lss, binI_leq, binI_gtr, binI_geq, binI_and, binI_or, binB_eql, binB_neq, binS_eql, binS_neq, binP_eql_nil, binP_neq_nil, binN_eql_nil, binN_neq_nil, binN_eql_nn, binN_neq_nn, Br_true, Br_false, Gd_tt, Gd_ft, Gd_tf, Gd_ff, cells_agg, List.getElem?_toArray, List.getElem?_cons_zero, List.getElem?_cons_succ, Nat.zero_add, Nat.add_zero, Nat.zero_mul]
  exact Gh.done (hk a hl)

theorem copy_spec {b : Nat} {g : LG} {L0 : LH} {mv lv : Value} [LSub L0 L] (hc : Cells I L b 0 [.int .i64 g.index, .int .i64 g.term, mv, lv, .int .i64 g.commit]) (hm : Ints I mv g.mem) (hl : LsV I L0 lv g.es) (hml : g.mem.length ≤ 5)
    (hk : ∀ b' mv' a I', Ext I I' → Ints I' mv' g.mem → LsV I' L0 (.slice a g.es.length g.es.length) g.es → K (.pointer (some ⟨b', 0, none⟩)) I' ((b', Obj.cells #[.int .i64 g.index, .int .i64 g.term, mv', .slice a g.es.length g.es.length, .int .i64 g.commit] 112 (0, 0)) :: L)) :
    Cal Try.prog ω 33 #[.pointer (some ⟨b, 0, none⟩)] K I L := by
  have c3 := hc 3 _ rfl
  have c4 := hc 4 _ rfl
  have c5 : Cells I L b 0 [.int .i64 g.index, .int .i64 g.term, mv] := Cells.sub (k := 0) (m := 3) hc
  simp only [Nat.zero_add] at c3 c4
  refine cal33 ?_
  unfold sh33
  refine drawC ?_
  try simp only [Pv_some, fldV_p, nilV_p, nilV_f, lenV_s, capV_s, lenSV_s, minV_i, maxV_i, strV_s, unV_not, unV_neg, pickV_t, pickV_f, exV_t, cvIV_i, binI_add, binI_sub, binI_mul, binI_eql, binI_neq, binI_lss, binI_leq, binI_gtr, binI_geq, binI_and, binI_or, binB_eql, binB_neq, binS_eql, binS_neq, binP_eql_nil, binP_neq_nil, binN_eql_nil, binN_neq_nil, binN_eql_nn, binN_neq_nn, Br_true, Br_false, Gd_tt, Gd_ft, Gd_tf, Gd_ff, cells_agg, List.getElem?_toArray, List.getElem?_cons_zero, List.getElem?_cons_succ, Nat.zero_add, Nat.add_zero, Nat.zero_mul]
  refine rdNCS c5 (Ext.refl _) rfl ?_
  refine call (copied_spec hm (by omega) (fun mv' I1 hI1 hm1 => ?_))
  refine keepC hI1 ?_
  refine rdCS c3 (Ext.refl _) ?_
  refine call (clipE_spec (LsV.to (L' := L0) hl hI1) (fun a ha => ?_))
  refine keepC hI1 ?_
  refine rdCS c4 (Ext.refl _) ?_
  simp only [bldL, Pv_some, fldV_p, nilV_p, nilV_f, lenV_s, capV_s, lenSV_s, minV_i, maxV_i, strV_s, unV_not, unV_neg, pickV_t, pickV_f, exV_t, cvIV_i, binI_add, binI_sub, binI_mul, binI_eql, binI_neq, binI_lss, binI_leq, binI_gtr, binI_geq, binI_and, binI_or, binB_eql, binB_neq, binS_eql, binS_neq, binP_eql_nil, binP_neq_nil, binN_eql_nil, binN_neq_nil, binN_eql_nn, binN_neq_nn, Br_true, Br_false, Gd_tt, Gd_ft, Gd_tf, Gd_ff, cells_agg, List.getElem?_toArray, List.getElem?_cons_zero, List.getElem?_cons_succ, Nat.zero_add, Nat.add_zero, Nat.zero_mul]
  refine newI (fun b' => ?_)
  exact Gh.done (hk b' mv' a I1 hI1 hm1 ha)

theorem rcopy_spec {b : Nat} {X F : LH} {g : LG} (h : LogQ I b X g) (hl : g.es.length * 48 ≤ 140737488355328) (hk : ∀ b' Y I', Ext I I' → LogQ I' b' Y g → K (.pointer (some ⟨b', 0, none⟩)) I' (Y ++ (X ++ F))) : Cal Try.prog ω 34 #[.pointer (some ⟨b, 0, none⟩)] K I (X ++ F) := by
  have h' := h
  obtain ⟨mv, lv, rfl, hm, hE⟩ := h
  have hm' := hm
  obtain ⟨a, cap, rfl⟩ := Ints.form hm'
  have hE' := hE
  obtain ⟨a2, cap2, rfl⟩ := RL.form hE'
  refine cal34 ?_
  unfold sh34
  simp only [Pv_some, fldV_p, nilV_p, nilV_f, lenV_s, capV_s, lenSV_s, minV_i, maxV_i, strV_s, unV_not, unV_neg, pickV_t, pickV_f, exV_t, cvIV_i, binI_add, binI_sub, binI_mul, binI_eql, binI_neq, binI_lss, binI_leq, binI_gtr, binI_geq, binI_and, binI_or, binB_eql, binB_neq, binS_eql, binS_neq, binP_eql_nil, binP_neq_nil, binN_eql_nil, binN_neq_nil, binN_eql_nn, binN_neq_nn, Br_true, Br_false, Gd_tt, Gd_ft, Gd_tf, Gd_ff, cells_agg, List.getElem?_toArray, List.getElem?_cons_zero, List.getElem?_cons_succ, Nat.zero_add, Nat.add_zero, Nat.zero_mul, List.cons_append, List.nil_append]
  refine rdB rfl ?_
  refine newI (fun b1 => ?_)
  refine stB rfl rfl (one_all rfl) ?_
  refine bld_zero (fun X0 u hX0 => ?_)
  try simp only [Pv_some, fldV_p, nilV_p, nilV_f, lenV_s, capV_s, lenSV_s, minV_i, maxV_i, strV_s, unV_not, unV_neg, pickV_t, pickV_f, exV_t, cvIV_i, binI_add, binI_sub, binI_mul, binI_eql, binI_neq, binI_lss, binI_leq, binI_gtr, binI_geq, binI_and, binI_or, binB_eql, binB_neq, binS_eql, binS_neq, binP_eql_nil, binP_neq_nil, binN_eql_nil, binN_neq_nil, binN_eql_nn, binN_neq_nn, Br_true, Br_false, Gd_tt, Gd_ft, Gd_tf, Gd_ff, cells_agg, List.getElem?_toArray, List.getElem?_cons_zero, List.getElem?_cons_succ, Nat.zero_add, Nat.add_zero, Nat.zero_mul]
  refine rdb ?_
  refine copy_app (X := X0) (Ents.to hE (Ext.refl _)) hX0 hl (fun X' v' cells' h6 hR' => Gh.done ?_)
  try simp only [Pv_some, fldV_p, nilV_p, nilV_f, lenV_s, capV_s, lenSV_s, minV_i, maxV_i, strV_s, unV_not, unV_neg, pickV_t, pickV_f, exV_t, cvIV_i, binI_add, binI_sub, binI_mul, binI_eql, binI_neq, binI_lss, binI_leq, binI_gtr, binI_geq, binI_and, binI_or, binB_eql, binB_neq, binS_eql, binS_neq, binP_eql_nil, binP_neq_nil, binN_eql_nil, binN_neq_nil, binN_eql_nn, binN_neq_nn, Br_true, Br_false, Gd_tt, Gd_ft, Gd_tf, Gd_ff, cells_agg, List.getElem?_toArray, List.getElem?_cons_zero, List.getElem?_cons_succ, Nat.zero_add, Nat.add_zero, Nat.zero_mul]
  refine st1 (gr_one (I := I) (.inl h6)) ?_
  refine Ents.ofO h6 hR' (fun I2 hI2 hE2 => ?_)
  exact Gh.done (hk b1 [_] I2 hI2 ⟨_, v', rfl, hm.mono hI2, hE2⟩)

set_option maxHeartbeats 1000000 in
theorem copies_law {v0 v1 v2 : Value} {m : List Int} {ss tt : List Stp} (h0 : Ints I v0 m) (h1 : Script 137438953472 I v1 ss) (h2 : Script 137438953472 I v2 tt) (hlen : ss.length < 4611686018427387904) (hlen2 : tt.length < 4611686018427387904) (hk : ∀ I' L', Ext I I' → K (.bool true) I' L') : Cal Try.prog ω 7 #[v0, v1, v2] K I L := by
  refine cal7 ?_
  unfold sh7
  refine call (awake_spec (fun I1 hI1 => ?_))
  refine call (new_spec (h0.mono hI1) (fun hb => ?_) (fun hb b X I2 hI2 hR => ?_))
  · try simp only [Pv_some, fldV_p, nilV_p, nilV_f, lenV_s, capV_s, lenSV_s, minV_i, maxV_i, strV_s, unV_not, unV_neg, pickV_t, pickV_f, exV_t, cvIV_i, binI_add, binI_sub, binI_mul, binI_eql, binI_neq, binI_lss, binI_leq, binI_gtr, binI_geq, binI_and, binI_or, binB_eql, binB_neq, binS_eql, binS_neq, binP_eql_nil, binP_neq_nil, binN_eql_nil, binN_neq_nil, binN_eql_nn, binN_neq_nn, Br_true, Br_false, Gd_tt, Gd_ft, Gd_tf, Gd_ff, cells_agg, List.getElem?_toArray, List.getElem?_cons_zero, List.getElem?_cons_succ, Nat.zero_add, Nat.add_zero, Nat.zero_mul]
    refine call (rnew_spec (h0.mono hI1) (fun _ => ?_) (fun hb' => by rw [hb] at hb'; cases hb'))
    try simp only [Pv_some, fldV_p, nilV_p, nilV_f, lenV_s, capV_s, lenSV_s, minV_i, maxV_i, strV_s, unV_not, unV_neg, pickV_t, pickV_f, exV_t, cvIV_i, binI_add, binI_sub, binI_mul, binI_eql, binI_neq, binI_lss, binI_leq, binI_gtr, binI_geq, binI_and, binI_or, binB_eql, binB_neq, binS_eql, binS_neq, binP_eql_nil, binP_neq_nil, binN_eql_nil, binN_neq_nil, binN_eql_nn, binN_neq_nn, Br_true, Br_false, Gd_tt, Gd_ft, Gd_tf, Gd_ff, cells_agg, List.getElem?_toArray, List.getElem?_cons_zero, List.getElem?_cons_succ, Nat.zero_add, Nat.add_zero, Nat.zero_mul]
    refine br_split (fun _ => Gh.done (hk I1 _ hI1)) (fun h => by simp at h)
  try simp only [Pv_some, fldV_p, nilV_p, nilV_f, lenV_s, capV_s, lenSV_s, minV_i, maxV_i, strV_s, unV_not, unV_neg, pickV_t, pickV_f, exV_t, cvIV_i, binI_add, binI_sub, binI_mul, binI_eql, binI_neq, binI_lss, binI_leq, binI_gtr, binI_geq, binI_and, binI_or, binB_eql, binB_neq, binS_eql, binS_neq, binP_eql_nil, binP_neq_nil, binN_eql_nil, binN_neq_nil, binN_eql_nn, binN_neq_nn, Br_true, Br_false, Gd_tt, Gd_ft, Gd_tf, Gd_ff, cells_agg, List.getElem?_toArray, List.getElem?_cons_zero, List.getElem?_cons_succ, Nat.zero_add, Nat.add_zero, Nat.zero_mul]
  refine call (rnew_spec ((h0.mono hI1).mono hI2) (fun hb' => by rw [hb] at hb'; cases hb') (fun _ c Y hQ => ?_))
  simp only [Pv_some, fldV_p, nilV_p, nilV_f, lenV_s, capV_s, lenSV_s, minV_i, maxV_i, strV_s, unV_not, unV_neg, pickV_t, pickV_f, exV_t, cvIV_i, binI_add, binI_sub, binI_mul, binI_eql, binI_neq, binI_lss, binI_leq, binI_gtr, binI_geq, binI_and, binI_or, binB_eql, binB_neq, binS_eql, binS_neq, binP_eql_nil, binP_neq_nil, binN_eql_nil, binN_neq_nil, binN_eql_nn, binN_neq_nn, Br_true, Br_false, Gd_tt, Gd_ft, Gd_tf, Gd_ff, cells_agg, List.getElem?_toArray, List.getElem?_cons_zero, List.getElem?_cons_succ, Nat.zero_add, Nat.add_zero, Nat.zero_mul, bne_self_eq_false]
  have hw := new_wf hb
  have hI12 := hI1.trans hI2
  -- behind the first script
  have behind : ∀ (I' : Imm) (X Y : LH) (g : LG), Ext I2 I' → LogR I' b X g → LogQ I' c Y g → WF g → g.es.length ≤ 100 * 2863311532 →
      sh7_1 ω v2 (.bool false) (.bool true) (.pointer (some ⟨b, 0, none⟩)) (.pointer (some ⟨c, 0, none⟩)) (fun v => Gh (K v)) I' (Y ++ (X ++ L)) := by
    intro I' X Y g hI' hR hQ hw hgl
    obtain ⟨mv, lv, XL, cells, rfl, hm, hG, hRc⟩ := hR
    unfold sh7_1
    simp only [List.cons_append]
    refine cal_pre (Gh.to (XL ++ ((b, Obj.cells #[.int .i64 g.index, .int .i64 g.term, mv, lv, .int .i64 g.commit] 112 (0, 0)) :: (Y ++ L))) (GrO.freeze hG (fun I3 hI3 hS3 => Gh.done ?_)))
    have hE3 : Ents I3 lv g.es := RL.ofI hS3 (hRc.imp fun _ _ h => LeV.mono h hI3)
    have hV3 : LogV I3 [(b, Obj.cells #[.int .i64 g.index, .int .i64 g.term, mv, lv, .int .i64 g.commit] 112 (0, 0))] b g := ⟨mv, lv, cells_own (List.mem_singleton.2 rfl), hm.mono hI3, Ents.to hE3 (Ext.refl _)⟩
    refine call (copy_spec (L0 := []) (cells_own (List.mem_cons_self ..)) (hm.mono hI3) hE3 (memB_len hw.mem) (fun b' mv' a I4 hI4 hm4 hE4 => ?_))
    have hR4 : LogR I4 b' [(b', Obj.cells #[.int .i64 g.index, .int .i64 g.term, mv', .slice a g.es.length g.es.length, .int .i64 g.commit] 112 (0, 0))] g := by
      obtain ⟨cells4, hS4, hRc4⟩ := RL.toI (by omega) hE4
      exact ⟨mv', _, [], cells4, rfl, hm4, .inr ⟨rfl, ⟨a, rfl⟩, hS4⟩, hRc4⟩
    refine call (Cal.split Y ?_)
    refine rcopy_spec (hQ.mono (hI3.trans hI4)) hw.len (fun c' Y' I5 hI5 hQ5 => ?_)
    try simp only [Pv_some, fldV_p, nilV_p, nilV_f, lenV_s, capV_s, lenSV_s, minV_i, maxV_i, strV_s, unV_not, unV_neg, pickV_t, pickV_f, exV_t, cvIV_i, binI_add, binI_sub, binI_mul, binI_eql, binI_neq, binI_lss, binI_leq, binI_gtr, binI_geq, binI_and, binI_or, binB_eql, binB_neq, binS_eql, binS_neq, binP_eql_nil, binP_neq_nil, binN_eql_nil, binN_neq_nil, binN_eql_nn, binN_neq_nn, Br_true, Br_false, Gd_tt, Gd_ft, Gd_tf, Gd_ff, cells_agg, List.getElem?_toArray, List.getElem?_cons_zero, List.getElem?_cons_succ, Nat.zero_add, Nat.add_zero, Nat.zero_mul]
    have hI5' : Ext I I5 := hI12.trans (hI'.trans (hI3.trans (hI4.trans hI5)))
    refine loop (fun mm s I' L' => Ext I5 I' ∧ ∃ (k : Nat) (X2 Y2 : LH) (g2 : LG), k + mm = tt.length ∧ s = ((Value.bool false, Value.int .i64 k, ()) : Value × Value × Unit) ∧ LogR I' b' X2 g2 ∧ LogQ I' c' Y2 g2 ∧ WF g2 ∧ k ≤ 100 ∧ g2.es.length ≤ g.es.length + k * 2863311532 ∧
        L' = Y2 ++ (Y ++ (X2 ++ ((b, Obj.cells #[.int .i64 g.index, .int .i64 g.term, mv, lv, .int .i64 g.commit] 112 (0, 0)) :: L)))) tt.length
      ⟨Ext.refl _, 0, _, Y', g, by omega, rfl, hR4.mono hI5, hQ5, hw, by omega, by omega, rfl⟩ ?_
    rintro mm s I6 L6 ⟨hI6, k, X2, Y2, g2, hkm, rfl, hR2, hQ2, hw2, hk100, hgl2, rfl⟩
    have fin : sh7_2 ω (.bool false) (.bool true) (.pointer (some ⟨b, 0, none⟩)) (.pointer (some ⟨c, 0, none⟩)) (.pointer (some ⟨b', 0, none⟩)) (.pointer (some ⟨c', 0, none⟩)) (fun v => Gh (K v)) I6 (Y2 ++ (Y ++ (X2 ++ ((b, Obj.cells #[.int .i64 g.index, .int .i64 g.term, mv, lv, .int .i64 g.commit] 112 (0, 0)) :: L)))) := by
      unfold sh7_2
      have hI36 := hI4.trans (hI5.trans hI6)
      refine call (same_spec (c := c) (g := g) (LogV.mono' hV3 hI36 (by simp)) (hQ.mono (hI3.trans hI36)).view hw (fun I7 hI7 => ?_))
      refine call (same_spec (c := c') (g := g2) (hR2.mono hI7).view (hQ2.mono hI7).view hw2 (fun I8 hI8 => ?_))
      try simp only [Pv_some, fldV_p, nilV_p, nilV_f, lenV_s, capV_s, lenSV_s, minV_i, maxV_i, strV_s, unV_not, unV_neg, pickV_t, pickV_f, exV_t, cvIV_i, binI_add, binI_sub, binI_mul, binI_eql, binI_neq, binI_lss, binI_leq, binI_gtr, binI_geq, binI_and, binI_or, binB_eql, binB_neq, binS_eql, binS_neq, binP_eql_nil, binP_neq_nil, binN_eql_nil, binN_neq_nil, binN_eql_nn, binN_neq_nn, Br_true, Br_false, Gd_tt, Gd_ft, Gd_tf, Gd_ff, cells_agg, List.getElem?_toArray, List.getElem?_cons_zero, List.getElem?_cons_succ, Nat.zero_add, Nat.add_zero, Nat.zero_mul]
      exact Gh.done (hk I8 _ (hI5'.trans (hI6.trans (hI7.trans hI8))))
    unfold sh7_4
    simp only [RL.len h2, Pv_some, fldV_p, nilV_p, nilV_f, lenV_s, capV_s, lenSV_s, minV_i, maxV_i, strV_s, unV_not, unV_neg, pickV_t, pickV_f, exV_t, cvIV_i, binI_add, binI_sub, binI_mul, binI_eql, binI_neq, binI_lss, binI_leq, binI_gtr, binI_geq, binI_and, binI_or, binB_eql, binB_neq, binS_eql, binS_neq, binP_eql_nil, binP_neq_nil, binN_eql_nil, binN_neq_nil, binN_eql_nn, binN_neq_nn, Br_true, Br_false, Gd_tt, Gd_ft, Gd_tf, Gd_ff, cells_agg, List.getElem?_toArray, List.getElem?_cons_zero, List.getElem?_cons_succ, Nat.zero_add, Nat.add_zero, Nat.zero_mul]
    refine gd_split (fun hlt => ?_) (fun hlt => fin)
    refine br_split (fun h4 => ?_) (fun h4 => fin)
    simp at hlt h4
    obtain ⟨b9, off, cs, hix, hcl, hst, hc⟩ := RL.ix h2 (i := k) (by omega) (by omega)
    simp only [hix, Pv_some, fldV_p, nilV_p, nilV_f, lenV_s, capV_s, lenSV_s, minV_i, maxV_i, strV_s, unV_not, unV_neg, pickV_t, pickV_f, exV_t, cvIV_i, binI_add, binI_sub, binI_mul, binI_eql, binI_neq, binI_lss, binI_leq, binI_gtr, binI_geq, binI_and, binI_or, binB_eql, binB_neq, binS_eql, binS_neq, binP_eql_nil, binP_neq_nil, binN_eql_nil, binN_neq_nil, binN_eql_nn, binN_neq_nn, Br_true, Br_false, Gd_tt, Gd_ft, Gd_tf, Gd_ff, cells_agg, List.getElem?_toArray, List.getElem?_cons_zero, List.getElem?_cons_succ, Nat.zero_add, Nat.add_zero, Nat.zero_mul]
    refine rdN hcl (hc I6 _ (hI5'.trans hI6) (fun _ h => by cases h)) ?_
    have hst' := hst
    obtain ⟨_, _, _, _, _, _, _, _, n1, n2⟩ := hst'
    refine call (Cal.split X2 (Cal.perm (List.Perm.refl (X2 ++ (Y2 ++ (Y ++ ((b, Obj.cells #[.int .i64 g.index, .int .i64 g.term, mv, lv, .int .i64 g.commit] 112 (0, 0)) :: L))))) ?_))
    refine play_spec hR2 hQ2 hw2 (hst.mono (hI5'.trans hI6)) (by omega) (le48 (b := 2932031007402) (by omega) (by omega)) (fun X3 Y3 I7 g3 hI7 hR3 hQ3 hw3 hl3 => ?_)
    simp only [Pv_some, fldV_p, nilV_p, nilV_f, lenV_s, capV_s, lenSV_s, minV_i, maxV_i, strV_s, unV_not, unV_neg, pickV_t, pickV_f, exV_t, cvIV_i, binI_add, binI_sub, binI_mul, binI_eql, binI_neq, binI_lss, binI_leq, binI_gtr, binI_geq, binI_and, binI_or, binB_eql, binB_neq, binS_eql, binS_neq, binP_eql_nil, binP_neq_nil, binN_eql_nil, binN_neq_nil, binN_eql_nn, binN_neq_nn, Br_true, Br_false, Gd_tt, Gd_ft, Gd_tf, Gd_ff, cells_agg, List.getElem?_toArray, List.getElem?_cons_zero, List.getElem?_cons_succ, Nat.zero_add, Nat.add_zero, Nat.zero_mul, Bool.not_true, wrap_i64 ((k : Int) + 1) (by omega)]
    refine Gh.to (Y3 ++ (Y ++ (X3 ++ ((b, Obj.cells #[.int .i64 g.index, .int .i64 g.term, mv, lv, .int .i64 g.commit] 112 (0, 0)) :: L)))) (Gh.done ?_)
    exact ⟨mm - 1, by omega, hI6.trans hI7, k + 1, X3, Y3, g3, by omega, by simp, hR3, hQ3, hw3, by omega, by omega, rfl⟩
  refine loop (fun mm s I' L' => Ext I2 I' ∧ ∃ (k : Nat) (X Y : LH) (g : LG), k + mm = ss.length ∧ s = ((Value.bool false, Value.int .i64 k, ()) : Value × Value × Unit) ∧ LogR I' b X g ∧ LogQ I' c Y g ∧ WF g ∧ k ≤ 100 ∧ g.es.length ≤ k * 2863311532 ∧ L' = Y ++ (X ++ L)) ss.length
    ⟨Ext.refl _, 0, X, Y, newG m, by omega, rfl, hR, hQ, hw, by omega, by simp [newG], rfl⟩ ?_
  rintro mm s I' L' ⟨hI', k, X, Y, g, hkm, rfl, hR, hQ, hw, hk100, hgl, rfl⟩
  unfold sh7_7
  simp only [RL.len h1, Pv_some, fldV_p, nilV_p, nilV_f, lenV_s, capV_s, lenSV_s, minV_i, maxV_i, strV_s, unV_not, unV_neg, pickV_t, pickV_f, exV_t, cvIV_i, binI_add, binI_sub, binI_mul, binI_eql, binI_neq, binI_lss, binI_leq, binI_gtr, binI_geq, binI_and, binI_or, binB_eql, binB_neq, binS_eql, binS_neq, binP_eql_nil, binP_neq_nil, binN_eql_nil, binN_neq_nil, binN_eql_nn, binN_neq_nn, Br_true, Br_false, Gd_tt, Gd_ft, Gd_tf, Gd_ff, cells_agg, List.getElem?_toArray, List.getElem?_cons_zero, List.getElem?_cons_succ, Nat.zero_add, Nat.add_zero, Nat.zero_mul]
  refine gd_split (fun hlt => ?_) (fun hlt => behind I' X Y g hI' hR hQ hw (Nat.le_trans hgl (Nat.mul_le_mul_right _ hk100)))
  refine br_split (fun h4 => ?_) (fun h4 => behind I' X Y g hI' hR hQ hw (Nat.le_trans hgl (Nat.mul_le_mul_right _ hk100)))
  simp at hlt h4
  obtain ⟨b2, off, cs, hix, hcl, hst, hc⟩ := RL.ix h1 (i := k) (by omega) (by omega)
  simp only [hix, Pv_some, fldV_p, nilV_p, nilV_f, lenV_s, capV_s, lenSV_s, minV_i, maxV_i, strV_s, unV_not, unV_neg, pickV_t, pickV_f, exV_t, cvIV_i, binI_add, binI_sub, binI_mul, binI_eql, binI_neq, binI_lss, binI_leq, binI_gtr, binI_geq, binI_and, binI_or, binB_eql, binB_neq, binS_eql, binS_neq, binP_eql_nil, binP_neq_nil, binN_eql_nil, binN_neq_nil, binN_eql_nn, binN_neq_nn, Br_true, Br_false, Gd_tt, Gd_ft, Gd_tf, Gd_ff, cells_agg, List.getElem?_toArray, List.getElem?_cons_zero, List.getElem?_cons_succ, Nat.zero_add, Nat.add_zero, Nat.zero_mul]
  refine rdN hcl (hc I' _ (hI12.trans hI') (fun _ h => by cases h)) ?_
  have hst' := hst
  obtain ⟨_, _, _, _, _, _, _, _, n1, n2⟩ := hst'
  refine call (Cal.split X ?_)
  refine play_spec hR hQ hw (hst.mono (hI12.trans hI')) (by omega) (le48 (b := 2932031007402) (by omega) (by omega)) (fun X3 Y3 I3 g3 hI3 hR3 hQ3 hw3 hl3 => ?_)
  simp only [Pv_some, fldV_p, nilV_p, nilV_f, lenV_s, capV_s, lenSV_s, minV_i, maxV_i, strV_s, unV_not, unV_neg, pickV_t, pickV_f, exV_t, cvIV_i, binI_add, binI_sub, binI_mul, binI_eql, binI_neq, binI_lss, binI_leq, binI_gtr, binI_geq, binI_and, binI_or, binB_eql, binB_neq, binS_eql, binS_neq, binP_eql_nil, binP_neq_nil, binN_eql_nil, binN_neq_nil, binN_eql_nn, binN_neq_nn, Br_true, Br_false, Gd_tt, Gd_ft, Gd_tf, Gd_ff, cells_agg, List.getElem?_toArray, List.getElem?_cons_zero, List.getElem?_cons_succ, Nat.zero_add, Nat.add_zero, Nat.zero_mul, Bool.not_true, wrap_i64 ((k : Int) + 1) (by omega)]
  refine Gh.to (Y3 ++ (X3 ++ L)) (Gh.done ?_)
  exact ⟨mm - 1, by omega, hI'.trans hI3, k + 1, X3, Y3, g3, by omega, by simp, hR3, hQ3, hw3, by omega, by omega, rfl⟩
end

theorem copies_walk {W : World} {base : Nat} {v0 v1 v2 : Value} (o0 : Value.okWide Try.prog W .any base 29 v0) (t0 : TrR 137438953472 Try.prog W 29 v0.cells.toList)
    (o1 : Value.okWide Try.prog W .any base 55 v1) (t1 : TrR 137438953472 Try.prog W 55 v1.cells.toList)
    (o2 : Value.okWide Try.prog W .any base 55 v2) (t2 : TrR 137438953472 Try.prog W 55 v2.cells.toList) (ω : Om) :
    Cal Try.prog ω 7 #[v0, v1, v2] (fun v I' _ => v = .bool true ∧ Ext (heapI W) I') (heapI W) [] := by
  obtain ⟨ml, hM, hml, _⟩ := tr_ints Try.underlying29 Try.underlying3 ceI byI (top_slice Try.underlying29 o0 t0)
  obtain ⟨ss, hS, hl⟩ := script_open (top_slice Try.underlying55 o1 t1)
  obtain ⟨tt, hT, hl2⟩ := script_open (top_slice Try.underlying55 o2 t2)
  exact copies_law hM hS hT (by omega) (by omega) (fun I' L' hI => ⟨rfl, hI⟩)
end Go.Proofs.Ytdcpeboecmkmlaa
