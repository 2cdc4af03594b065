import Derived.Test.YtfeonffmeajpgaaR2
set_option linter.unusedSimpArgs false
set_option linter.unusedVariables false
namespace Go.Proofs.Ytfeonffmeajpgaa
open Go.SL
set_option maxRecDepth 10000

section
variable {ω : Om} {I : Imm} {L : LH} {K : Value → M}

theorem clip_spec {X F : LH} {v : Value} {cells : List Value} {len : Nat} (hS : SlO 3 1 X v cells len) (hk : ∀ v' I', Ext I I' → SlI I' 1 v' cells len → K v' I' F) : Cal Try.prog ω 38 #[v] K I (X ++ F) := by
  refine cal38 ?_
  unfold sh38
  obtain ⟨a, cap, rfl⟩ := hS.form
  simp only [Pv_some, fldV_p, nilV_p, nilV_f, lenV_s, capV_s, lenSV_s, strV_s, unV_not, unV_neg, pickV_t, pickV_f, exV_t, cvIV_i, binI_add, binI_sub, binI_mul, binI_eql, binI_neq, binI_lss, binI_leq, binI_gtr, binI_geq, binI_and, binI_or, binB_eql, binB_neq, binS_eql, binS_neq, binP_eql_nil, binP_neq_nil, binN_eql_nil, binN_neq_nil, binN_eql_nn, binN_neq_nn, Br_true, Br_false, cells_agg, List.getElem?_toArray, List.getElem?_cons_zero, List.getElem?_cons_succ, Nat.zero_add, Nat.add_zero, Nat.zero_mul]
  have hcap : len ≤ cap := by
    obtain ⟨_, h⟩ := hS
    rcases h with ⟨_, rfl, h⟩ | ⟨b, cap', cs, _, h, _, hle, _⟩
    · simp only [Value.slice.injEq] at h; omega
    · simp only [Value.slice.injEq] at h; omega
  have s1 : ∃ a', slcV 1 (.slice a len cap) none (some (.int .i64 len)) (some (.int .i64 len)) = some (.slice a' len len) ∧ (len ≠ 0 → a' = a.map (·.add 0)) := by
    simp only [slcV, Option.isNone_some, Bool.false_and, Bool.false_eq_true, if_false]
    rw [bnd_in _ _ _ _ hcap, Option.bind_some, bnd_in _ _ _ _ (Nat.le_refl _), Option.bind_some, show bndV none 0 len = some 0 from rfl, Option.bind_some]
    exact ⟨_, by simp only [Nat.sub_zero]; rfl, fun h => by rw [if_neg h, Nat.zero_mul]⟩
  obtain ⟨a', s1, ha'⟩ := s1
  rw [s1]
  simp only [Pv_some, fldV_p, nilV_p, nilV_f, lenV_s, capV_s, lenSV_s, strV_s, unV_not, unV_neg, pickV_t, pickV_f, exV_t, cvIV_i, binI_add, binI_sub, binI_mul, binI_eql, binI_neq, binI_lss, binI_leq, binI_gtr, binI_geq, binI_and, binI_or, binB_eql, binB_neq, binS_eql, binS_neq, binP_eql_nil, binP_neq_nil, binN_eql_nil, binN_neq_nil, binN_eql_nn, binN_neq_nn, Br_true, Br_false, cells_agg, List.getElem?_toArray, List.getElem?_cons_zero, List.getElem?_cons_succ, Nat.zero_add, Nat.add_zero, Nat.zero_mul]
  refine SlO.freeze hS (fun I' hI hS' => Gh.done (hk _ I' hI ?_))
  obtain ⟨hl, a2, cap2, h2, hle2, hb⟩ := hS'
  simp only [Value.slice.injEq] at h2
  obtain ⟨rfl, _, rfl⟩ := h2
  refine ⟨hl, a', len, rfl, Nat.le_refl _, fun h0 => ?_⟩
  obtain ⟨b, off, cs, T, fr, rfl, hI2, hc⟩ := hb h0
  exact ⟨b, off, cs, T, fr, by rw [ha' h0]; simp [add_none], hI2, hc⟩

def toL (es : List E) (x : Int) : List Int := (es.filter (fun e => e.to == x)).map (·.id)
theorem toL_snoc {es : List E} {x : Int} {k : Nat} {e : E} (h : es[k]? = some e) : toL (es.take (k + 1)) x = toL (es.take k) x ++ (if e.to == x then [e.id] else []) := by
  have : es.take (k + 1) = es.take k ++ [e] := by
    rw [List.take_add_one, h]; rfl
  rw [this]
  simp only [toL, List.filter_append, List.map_append]
  congr 1
  by_cases hx : (e.to == x) = true <;> simp [hx]
theorem toL_len (es : List E) (x : Int) : (toL es x).length ≤ es.length := by
  simp only [toL, List.length_map]
  exact List.length_filter_le ..

/-- one number more -/
theorem toL_app {X6 L0 F : LH} [SplitL X6 L0 F] {v : Value} {l : List Int} {x : Int} {K : Value → M} (h6 : SlO 3 1 X6 v (i64s l) l.length) (hl : l.length ≤ 1000)
    (hk : ∀ X1 X6' v', SlO 3 1 X6' v' (i64s (l ++ [x])) (l ++ [x]).length → K v' I (X6' ++ (X1 ++ F))) :
    BldS 3 1 #[.int .i64 0] 1 [(0, .int .i64 x)] (gh fun u => App 3 1 8 #[.int .i64 0] v u (gh K)) I L0 := by
  refine bld_one rfl (by omega) rfl (fun X1 u hX1 => ?_)
  refine app_own (X := X6) rfl h6 (hX1.news (fun x hx => List.mem_append_left _ hx)) (by simp [Value.cells, Value.oneCell']) (by omega) (by omega) (fun X' v' hX' => ?_)
  exact hk X1 X' v' (by simpa [Value.cells, i64s] using hX')

set_option maxHeartbeats 400000 in
theorem to_spec {b : Nat} {X F : LH} {n : N} {x : Int} (hN : NetR 61 I b X n) (hlen : n.es.length ≤ 1000) (hk : ∀ v I', Ext I I' → Ints I' v (toL n.es x) → K v I' (X ++ F)) :
    Cal Try.prog ω 20 #[.pointer (some ⟨b, 0, none⟩), .int .i64 x] K I (X ++ F) := by
  obtain ⟨lv, XL, cells, rfl, hS, hR⟩ := _root_.id hN
  refine cal20 ?_
  unfold sh20
  simp only [Pv_some, fldV_p, nilV_p, nilV_f, lenV_s, capV_s, lenSV_s, strV_s, unV_not, unV_neg, pickV_t, pickV_f, exV_t, cvIV_i, binI_add, binI_sub, binI_mul, binI_eql, binI_neq, binI_lss, binI_leq, binI_gtr, binI_geq, binI_and, binI_or, binB_eql, binB_neq, binS_eql, binS_neq, binP_eql_nil, binP_neq_nil, binN_eql_nil, binN_neq_nil, binN_eql_nn, binN_neq_nn, Br_true, Br_false, cells_agg, List.getElem?_toArray, List.getElem?_cons_zero, List.getElem?_cons_succ, Nat.zero_add, Nat.add_zero, Nat.zero_mul, List.cons_append]
  refine rdb ?_
  rw [show lenV lv = some (.int .i64 n.es.length) from by obtain ⟨a, c, rfl⟩ := hS.form; rfl]
  simp only [Pv_some, fldV_p, nilV_p, nilV_f, lenV_s, capV_s, lenSV_s, strV_s, unV_not, unV_neg, pickV_t, pickV_f, exV_t, cvIV_i, binI_add, binI_sub, binI_mul, binI_eql, binI_neq, binI_lss, binI_leq, binI_gtr, binI_geq, binI_and, binI_or, binB_eql, binB_neq, binS_eql, binS_neq, binP_eql_nil, binP_neq_nil, binN_eql_nil, binN_neq_nil, binN_eql_nn, binN_neq_nn, Br_true, Br_false, cells_agg, List.getElem?_toArray, List.getElem?_cons_zero, List.getElem?_cons_succ, Nat.zero_add, Nat.add_zero, Nat.zero_mul]
  refine loop (fun s I' L' => I' = I ∧ ∃ (k : Nat) (v : Value) (X6 : LH), s = (v, .int .i64 k, ()) ∧ k ≤ n.es.length ∧ SlO 3 1 X6 v (i64s (toL (n.es.take k) x)) (toL (n.es.take k) x).length ∧ L' = X6 ++ ((b, Obj.cells #[lv, .int .i64 n.last] 61 (0, 0)) :: (XL ++ F)))
    (fun s _ _ => match s with | (_, .int _ k, _) => ((n.es.length : Int) - k).toNat | _ => 0) ⟨rfl, 0, _, [], rfl, by omega, SlO.none 3 1, rfl⟩ ?_
  rintro s I' L' ⟨rfl, k, v, X6, rfl, hk1, h6, rfl⟩
  unfold sh20_3
  simp only [Pv_some, fldV_p, nilV_p, nilV_f, lenV_s, capV_s, lenSV_s, strV_s, unV_not, unV_neg, pickV_t, pickV_f, exV_t, cvIV_i, binI_add, binI_sub, binI_mul, binI_eql, binI_neq, binI_lss, binI_leq, binI_gtr, binI_geq, binI_and, binI_or, binB_eql, binB_neq, binS_eql, binS_neq, binP_eql_nil, binP_neq_nil, binN_eql_nil, binN_neq_nil, binN_eql_nn, binN_neq_nn, Br_true, Br_false, cells_agg, List.getElem?_toArray, List.getElem?_cons_zero, List.getElem?_cons_succ, Nat.zero_add, Nat.add_zero, Nat.zero_mul]
  have hll := toL_len (n.es.take k) x
  rw [List.length_take] at hll
  by_cases hlt : k < n.es.length
  · have h1 : ((k : Int) < n.es.length) := by omega
    simp only [h1, decide_true, Br_true]
    obtain ⟨ek, hek⟩ : ∃ x, n.es[k]? = some x := ⟨_, List.getElem?_eq_getElem hlt⟩
    obtain ⟨hgl, hg⟩ := hR.get hek
    obtain ⟨b5, hix, hc⟩ := hS.ix .i64 hlt
    simp only [hix, Pv_some, fldV_p, nilV_p, nilV_f, lenV_s, capV_s, lenSV_s, strV_s, unV_not, unV_neg, pickV_t, pickV_f, exV_t, cvIV_i, binI_add, binI_sub, binI_mul, binI_eql, binI_neq, binI_lss, binI_leq, binI_gtr, binI_geq, binI_and, binI_or, binB_eql, binB_neq, binS_eql, binS_neq, binP_eql_nil, binP_neq_nil, binN_eql_nil, binN_neq_nil, binN_eql_nn, binN_neq_nn, Br_true, Br_false, cells_agg, List.getElem?_toArray, List.getElem?_cons_zero, List.getElem?_cons_succ, Nat.zero_add, Nat.add_zero, Nat.zero_mul]
    refine rdN hgl (hc I' _ (fun x hx => by simp [hx])) ?_
    obtain ⟨bv, hcx, hB⟩ := _root_.id hg
    obtain ⟨ab, capb, rfl⟩ := hB.form
    rw [hcx]
    refine newI (fun b2 => ?_)
    refine stB rfl rfl (one_all rfl) ?_
    simp only [Pv_some, fldV_p, nilV_p, nilV_f, lenV_s, capV_s, lenSV_s, strV_s, unV_not, unV_neg, pickV_t, pickV_f, exV_t, cvIV_i, binI_add, binI_sub, binI_mul, binI_eql, binI_neq, binI_lss, binI_leq, binI_gtr, binI_geq, binI_and, binI_or, binB_eql, binB_neq, binS_eql, binS_neq, binP_eql_nil, binP_neq_nil, binN_eql_nil, binN_neq_nil, binN_eql_nn, binN_neq_nn, Br_true, Br_false, cells_agg, List.getElem?_toArray, List.getElem?_cons_zero, List.getElem?_cons_succ, Nat.zero_add, Nat.add_zero, Nat.zero_mul]
    refine rdb ?_
    simp only [Pv_some, fldV_p, nilV_p, nilV_f, lenV_s, capV_s, lenSV_s, strV_s, unV_not, unV_neg, pickV_t, pickV_f, exV_t, cvIV_i, binI_add, binI_sub, binI_mul, binI_eql, binI_neq, binI_lss, binI_leq, binI_gtr, binI_geq, binI_and, binI_or, binB_eql, binB_neq, binS_eql, binS_neq, binP_eql_nil, binP_neq_nil, binN_eql_nil, binN_neq_nil, binN_eql_nn, binN_neq_nn, Br_true, Br_false, cells_agg, List.getElem?_toArray, List.getElem?_cons_zero, List.getElem?_cons_succ, Nat.zero_add, Nat.add_zero, Nat.zero_mul]
    have hsn := toL_snoc (x := x) hek
    by_cases hto : (ek.to == x) = true
    · rw [if_pos hto] at hsn
      simp only [hto, Br_true]
      refine rdb ?_
      refine toL_app (X6 := X6) h6 (by omega) (fun X1 X6' v' h6' => ?_)
      unfold sh20_5 sh20_4
      simp only [Pv_some, fldV_p, nilV_p, nilV_f, lenV_s, capV_s, lenSV_s, strV_s, unV_not, unV_neg, pickV_t, pickV_f, exV_t, cvIV_i, binI_add, binI_sub, binI_mul, binI_eql, binI_neq, binI_lss, binI_leq, binI_gtr, binI_geq, binI_and, binI_or, binB_eql, binB_neq, binS_eql, binS_neq, binP_eql_nil, binP_neq_nil, binN_eql_nil, binN_neq_nil, binN_eql_nn, binN_neq_nn, Br_true, Br_false, cells_agg, List.getElem?_toArray, List.getElem?_cons_zero, List.getElem?_cons_succ, Nat.zero_add, Nat.add_zero, Nat.zero_mul, wrap_i64 ((k : Int) + 1) (by omega)]
      rw [← hsn] at h6'
      refine Gh.to (X6' ++ ((b, Obj.cells #[lv, .int .i64 n.last] 61 (0, 0)) :: (XL ++ F))) (Gh.done ⟨⟨rfl, k + 1, v', X6', by simp, by omega, h6', rfl⟩, ?_⟩)
      omega
    · rw [if_neg hto, List.append_nil] at hsn
      have hto' : (ek.to == x) = false := by simpa using hto
      simp only [hto', Br_false]
      unfold sh20_5 sh20_4
      simp only [Pv_some, fldV_p, nilV_p, nilV_f, lenV_s, capV_s, lenSV_s, strV_s, unV_not, unV_neg, pickV_t, pickV_f, exV_t, cvIV_i, binI_add, binI_sub, binI_mul, binI_eql, binI_neq, binI_lss, binI_leq, binI_gtr, binI_geq, binI_and, binI_or, binB_eql, binB_neq, binS_eql, binS_neq, binP_eql_nil, binP_neq_nil, binN_eql_nil, binN_neq_nil, binN_eql_nn, binN_neq_nn, Br_true, Br_false, cells_agg, List.getElem?_toArray, List.getElem?_cons_zero, List.getElem?_cons_succ, Nat.zero_add, Nat.add_zero, Nat.zero_mul, wrap_i64 ((k : Int) + 1) (by omega)]
      rw [← hsn] at h6
      refine Gh.to (X6 ++ ((b, Obj.cells #[lv, .int .i64 n.last] 61 (0, 0)) :: (XL ++ F))) (Gh.done ⟨⟨rfl, k + 1, v, X6, by simp, by omega, h6, rfl⟩, ?_⟩)
      omega
  · have h1 : ¬ ((k : Int) < n.es.length) := by omega
    simp only [h1, decide_false, Br_false]
    unfold sh20_2 sh20_1
    rw [List.take_of_length_le (by omega)] at h6
    refine call (clip_spec h6 (fun v' I2 hI2 hS2 => ?_))
    exact Gh.done (hk v' I2 hI2 hS2)

set_option maxHeartbeats 400000 in
theorem rto_spec {b : Nat} {X F : LH} {n : N} {x : Int} (hN : NetR 45 I b X n) (hlen : n.es.length ≤ 1000) (hk : ∀ v I', Ext I I' → Ints I' v (toL n.es x) → K v I' (X ++ F)) :
    Cal Try.prog ω 21 #[.pointer (some ⟨b, 0, none⟩), .int .i64 x] K I (X ++ F) := by
  obtain ⟨lv, XL, cells, rfl, hS, hR⟩ := _root_.id hN
  refine cal21 ?_
  unfold sh21
  refine loop (fun s I' L' => I' = I ∧ ∃ (k : Nat) (v : Value) (X6 : LH), s = (v, .int .i64 k, ()) ∧ k ≤ n.es.length ∧ SlO 3 1 X6 v (i64s (toL (n.es.take k) x)) (toL (n.es.take k) x).length ∧ L' = X6 ++ ((b, Obj.cells #[lv, .int .i64 n.last] 45 (0, 0)) :: (XL ++ F)))
    (fun s _ _ => match s with | (_, .int _ k, _) => ((n.es.length : Int) - k).toNat | _ => 0) ⟨rfl, 0, _, [], rfl, by omega, SlO.none 3 1, rfl⟩ ?_
  rintro s I' L' ⟨rfl, k, v, X6, rfl, hk1, h6, rfl⟩
  unfold sh21_3
  simp only [Pv_some, fldV_p, nilV_p, nilV_f, lenV_s, capV_s, lenSV_s, strV_s, unV_not, unV_neg, pickV_t, pickV_f, exV_t, cvIV_i, binI_add, binI_sub, binI_mul, binI_eql, binI_neq, binI_lss, binI_leq, binI_gtr, binI_geq, binI_and, binI_or, binB_eql, binB_neq, binS_eql, binS_neq, binP_eql_nil, binP_neq_nil, binN_eql_nil, binN_neq_nil, binN_eql_nn, binN_neq_nn, Br_true, Br_false, cells_agg, List.getElem?_toArray, List.getElem?_cons_zero, List.getElem?_cons_succ, Nat.zero_add, Nat.add_zero, Nat.zero_mul]
  have hll := toL_len (n.es.take k) x
  rw [List.length_take] at hll
  refine rdb ?_
  rw [show lenV lv = some (.int .i64 n.es.length) from by obtain ⟨a, c, rfl⟩ := hS.form; rfl]
  simp only [Pv_some, fldV_p, nilV_p, nilV_f, lenV_s, capV_s, lenSV_s, strV_s, unV_not, unV_neg, pickV_t, pickV_f, exV_t, cvIV_i, binI_add, binI_sub, binI_mul, binI_eql, binI_neq, binI_lss, binI_leq, binI_gtr, binI_geq, binI_and, binI_or, binB_eql, binB_neq, binS_eql, binS_neq, binP_eql_nil, binP_neq_nil, binN_eql_nil, binN_neq_nil, binN_eql_nn, binN_neq_nn, Br_true, Br_false, cells_agg, List.getElem?_toArray, List.getElem?_cons_zero, List.getElem?_cons_succ, Nat.zero_add, Nat.add_zero, Nat.zero_mul]
  by_cases hlt : k < n.es.length
  · have h1 : ((k : Int) < n.es.length) := by omega
    simp only [h1, decide_true, Br_true]
    refine rdb ?_
    obtain ⟨ek, hek⟩ : ∃ x, n.es[k]? = some x := ⟨_, List.getElem?_eq_getElem hlt⟩
    obtain ⟨hgl, hg⟩ := hR.get hek
    obtain ⟨b5, hix, hc⟩ := hS.ix .i64 hlt
    have hcL := hc I' (X6 ++ ((b, Obj.cells #[lv, .int .i64 n.last] 45 (0, 0)) :: (XL ++ F))) (fun x hx => by simp [hx])
    obtain ⟨bv, hcx, hB⟩ := _root_.id hg
    rw [hcx] at hcL
    simp only [hix, Pv_some, fldV_p, nilV_p, nilV_f, lenV_s, capV_s, lenSV_s, strV_s, unV_not, unV_neg, pickV_t, pickV_f, exV_t, cvIV_i, binI_add, binI_sub, binI_mul, binI_eql, binI_neq, binI_lss, binI_leq, binI_gtr, binI_geq, binI_and, binI_or, binB_eql, binB_neq, binS_eql, binS_neq, binP_eql_nil, binP_neq_nil, binN_eql_nil, binN_neq_nil, binN_eql_nn, binN_neq_nn, Br_true, Br_false, cells_agg, List.getElem?_toArray, List.getElem?_cons_zero, List.getElem?_cons_succ, Nat.zero_add, Nat.add_zero, Nat.zero_mul]
    refine rd1 (hcL 2 _ rfl) ?_
    simp only [Pv_some, fldV_p, nilV_p, nilV_f, lenV_s, capV_s, lenSV_s, strV_s, unV_not, unV_neg, pickV_t, pickV_f, exV_t, cvIV_i, binI_add, binI_sub, binI_mul, binI_eql, binI_neq, binI_lss, binI_leq, binI_gtr, binI_geq, binI_and, binI_or, binB_eql, binB_neq, binS_eql, binS_neq, binP_eql_nil, binP_neq_nil, binN_eql_nil, binN_neq_nil, binN_eql_nn, binN_neq_nn, Br_true, Br_false, cells_agg, List.getElem?_toArray, List.getElem?_cons_zero, List.getElem?_cons_succ, Nat.zero_add, Nat.add_zero, Nat.zero_mul]
    have hsn := toL_snoc (x := x) hek
    by_cases hto : (ek.to == x) = true
    · rw [if_pos hto] at hsn
      simp only [hto, Br_true]
      refine rdb ?_
      simp only [hix, Pv_some, fldV_p, nilV_p, nilV_f, lenV_s, capV_s, lenSV_s, strV_s, unV_not, unV_neg, pickV_t, pickV_f, exV_t, cvIV_i, binI_add, binI_sub, binI_mul, binI_eql, binI_neq, binI_lss, binI_leq, binI_gtr, binI_geq, binI_and, binI_or, binB_eql, binB_neq, binS_eql, binS_neq, binP_eql_nil, binP_neq_nil, binN_eql_nil, binN_neq_nil, binN_eql_nn, binN_neq_nn, Br_true, Br_false, cells_agg, List.getElem?_toArray, List.getElem?_cons_zero, List.getElem?_cons_succ, Nat.zero_add, Nat.add_zero, Nat.zero_mul]
      refine rd1 (hcL 0 _ rfl) ?_
      refine toL_app (X6 := X6) h6 (by omega) (fun X1 X6' v' h6' => ?_)
      unfold sh21_5 sh21_4
      simp only [Pv_some, fldV_p, nilV_p, nilV_f, lenV_s, capV_s, lenSV_s, strV_s, unV_not, unV_neg, pickV_t, pickV_f, exV_t, cvIV_i, binI_add, binI_sub, binI_mul, binI_eql, binI_neq, binI_lss, binI_leq, binI_gtr, binI_geq, binI_and, binI_or, binB_eql, binB_neq, binS_eql, binS_neq, binP_eql_nil, binP_neq_nil, binN_eql_nil, binN_neq_nil, binN_eql_nn, binN_neq_nn, Br_true, Br_false, cells_agg, List.getElem?_toArray, List.getElem?_cons_zero, List.getElem?_cons_succ, Nat.zero_add, Nat.add_zero, Nat.zero_mul, wrap_i64 ((k : Int) + 1) (by omega)]
      rw [← hsn] at h6'
      refine Gh.to (X6' ++ ((b, Obj.cells #[lv, .int .i64 n.last] 45 (0, 0)) :: (XL ++ F))) (Gh.done ⟨⟨rfl, k + 1, v', X6', by simp, by omega, h6', rfl⟩, ?_⟩)
      omega
    · rw [if_neg hto, List.append_nil] at hsn
      have hto' : (ek.to == x) = false := by simpa using hto
      simp only [hto', Br_false]
      unfold sh21_5 sh21_4
      simp only [Pv_some, fldV_p, nilV_p, nilV_f, lenV_s, capV_s, lenSV_s, strV_s, unV_not, unV_neg, pickV_t, pickV_f, exV_t, cvIV_i, binI_add, binI_sub, binI_mul, binI_eql, binI_neq, binI_lss, binI_leq, binI_gtr, binI_geq, binI_and, binI_or, binB_eql, binB_neq, binS_eql, binS_neq, binP_eql_nil, binP_neq_nil, binN_eql_nil, binN_neq_nil, binN_eql_nn, binN_neq_nn, Br_true, Br_false, cells_agg, List.getElem?_toArray, List.getElem?_cons_zero, List.getElem?_cons_succ, Nat.zero_add, Nat.add_zero, Nat.zero_mul, wrap_i64 ((k : Int) + 1) (by omega)]
      rw [← hsn] at h6
      refine Gh.to (X6 ++ ((b, Obj.cells #[lv, .int .i64 n.last] 45 (0, 0)) :: (XL ++ F))) (Gh.done ⟨⟨rfl, k + 1, v, X6, by simp, by omega, h6, rfl⟩, ?_⟩)
      omega
  · have h1 : ¬ ((k : Int) < n.es.length) := by omega
    simp only [h1, decide_false, Br_false]
    unfold sh21_2 sh21_1
    rw [List.take_of_length_le (by omega)] at h6
    exact SlO.freeze h6 (fun I2 hI2 hS2 => Gh.done (hk v I2 hI2 hS2))

theorem i64s_one_at {l : List Int} {k : Nat} (hk : k < l.length) : ((i64s l).drop (k * 1)).take 1 = [.int .i64 l[k]] := by
  rw [Nat.mul_one, List.drop_eq_getElem_cons (by simpa [i64s] using hk), List.take_succ_cons]
  simp [i64s]

theorem sameints_spec {va vb : Value} {l : List Int} (ha : Ints I va l) (hb : Ints I vb l) (hlen : l.length ≤ 1000) (hk : K (.bool true) I L) : Cal Try.prog ω 22 #[va, vb] K I L := by
  refine cal22 ?_
  unfold sh22
  obtain ⟨_, a1, c1, e1, _⟩ := _root_.id ha
  obtain ⟨_, a2, c2, e2, _⟩ := _root_.id hb
  rw [show lenV va = some (.int .i64 l.length) from by rw [e1]; rfl, show lenV vb = some (.int .i64 l.length) from by rw [e2]; rfl]
  simp only [Pv_some, fldV_p, nilV_p, nilV_f, lenV_s, capV_s, lenSV_s, strV_s, unV_not, unV_neg, pickV_t, pickV_f, exV_t, cvIV_i, binI_add, binI_sub, binI_mul, binI_eql, binI_neq, binI_lss, binI_leq, binI_gtr, binI_geq, binI_and, binI_or, binB_eql, binB_neq, binS_eql, binS_neq, binP_eql_nil, binP_neq_nil, binN_eql_nil, binN_neq_nil, binN_eql_nn, binN_neq_nn, Br_true, Br_false, cells_agg, List.getElem?_toArray, List.getElem?_cons_zero, List.getElem?_cons_succ, Nat.zero_add, Nat.add_zero, Nat.zero_mul]
  rw [show ((l.length : Int) != l.length) = false from by simp]
  simp only [Pv_some, fldV_p, nilV_p, nilV_f, lenV_s, capV_s, lenSV_s, strV_s, unV_not, unV_neg, pickV_t, pickV_f, exV_t, cvIV_i, binI_add, binI_sub, binI_mul, binI_eql, binI_neq, binI_lss, binI_leq, binI_gtr, binI_geq, binI_and, binI_or, binB_eql, binB_neq, binS_eql, binS_neq, binP_eql_nil, binP_neq_nil, binN_eql_nil, binN_neq_nil, binN_eql_nn, binN_neq_nn, Br_true, Br_false, cells_agg, List.getElem?_toArray, List.getElem?_cons_zero, List.getElem?_cons_succ, Nat.zero_add, Nat.add_zero, Nat.zero_mul]
  refine loop (fun s I' L' => I' = I ∧ L' = L ∧ ∃ k : Nat, s = (.bool false, .int .i64 k, ()) ∧ k ≤ l.length)
    (fun s _ _ => match s with | (_, .int _ k, _) => ((l.length : Int) - k).toNat | _ => 0) ⟨rfl, rfl, 0, rfl, by omega⟩ ?_
  rintro s I' L' ⟨rfl, rfl, k, rfl, hk1⟩
  unfold sh22_3
  rw [show lenV va = some (.int .i64 l.length) from by rw [e1]; rfl]
  simp only [Pv_some, fldV_p, nilV_p, nilV_f, lenV_s, capV_s, lenSV_s, strV_s, unV_not, unV_neg, pickV_t, pickV_f, exV_t, cvIV_i, binI_add, binI_sub, binI_mul, binI_eql, binI_neq, binI_lss, binI_leq, binI_gtr, binI_geq, binI_and, binI_or, binB_eql, binB_neq, binS_eql, binS_neq, binP_eql_nil, binP_neq_nil, binN_eql_nil, binN_neq_nil, binN_eql_nn, binN_neq_nn, Br_true, Br_false, cells_agg, List.getElem?_toArray, List.getElem?_cons_zero, List.getElem?_cons_succ, Nat.zero_add, Nat.add_zero, Nat.zero_mul]
  by_cases hlt : k < l.length
  · have h1 : ((k : Int) < l.length) := by omega
    simp only [h1, decide_true, Br_true]
    refine draw (Stay I' _) (Stay.start I' _) ?_
    obtain ⟨b1, o1, hix1, hc1⟩ := ha.ix .i64 hlt
    obtain ⟨b2, o2, hix2, hc2⟩ := hb.ix .i64 hlt
    rw [i64s_one_at hlt] at hc1 hc2
    simp only [hix1, hix2, Pv_some, fldV_p, nilV_p, nilV_f, lenV_s, capV_s, lenSV_s, strV_s, unV_not, unV_neg, pickV_t, pickV_f, exV_t, cvIV_i, binI_add, binI_sub, binI_mul, binI_eql, binI_neq, binI_lss, binI_leq, binI_gtr, binI_geq, binI_and, binI_or, binB_eql, binB_neq, binS_eql, binS_neq, binP_eql_nil, binP_neq_nil, binN_eql_nil, binN_neq_nil, binN_eql_nn, binN_neq_nn, Br_true, Br_false, cells_agg, List.getElem?_toArray, List.getElem?_cons_zero, List.getElem?_cons_succ, Nat.zero_add, Nat.add_zero, Nat.zero_mul]
    refine rd1I (hc1 I' _ (Ext.refl I') 0 _ rfl) ?_
    refine rd1I (hc2 I' _ (Ext.refl I') 0 _ rfl) ?_
    simp only [Pv_some, fldV_p, nilV_p, nilV_f, lenV_s, capV_s, lenSV_s, strV_s, unV_not, unV_neg, pickV_t, pickV_f, exV_t, cvIV_i, binI_add, binI_sub, binI_mul, binI_eql, binI_neq, binI_lss, binI_leq, binI_gtr, binI_geq, binI_and, binI_or, binB_eql, binB_neq, binS_eql, binS_neq, binP_eql_nil, binP_neq_nil, binN_eql_nil, binN_neq_nil, binN_eql_nn, binN_neq_nn, Br_true, Br_false, cells_agg, List.getElem?_toArray, List.getElem?_cons_zero, List.getElem?_cons_succ, Nat.zero_add, Nat.add_zero, Nat.zero_mul]
    rw [show (l[k] != l[k]) = false from by simp]
    simp only [Br_false, wrap_i64 ((k : Int) + 1) (by omega)]
    refine Gh.done ⟨⟨rfl, rfl, k + 1, by simp, by omega⟩, ?_⟩
    omega
  · have h1 : ¬ ((k : Int) < l.length) := by omega
    simp only [h1, decide_false, Br_false]
    unfold sh22_2 sh22_1
    exact Gh.done hk

end
end Go.Proofs.Ytfeonffmeajpgaa
