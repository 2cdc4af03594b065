import Derived.Test.YtfeonffmeajpgaaG
set_option linter.unusedSimpArgs false
set_option linter.unusedVariables false
namespace Go.Proofs.Ytfeonffmeajpgaa
open Go.SL
set_option maxRecDepth 10000

section
variable {ω : Om} {I : Imm} {L : LH} {K : Value → M}

abbrev S4 := Value × Value × Value × Value × Unit

/-- the invariant of the law's loop -/
def OInv (I0 : Imm) (b len : Nat) (F : LH) (s : S4) (I : Imm) (L : LH) : Prop :=
  Ext I0 I ∧ ∃ (i : Nat) (n : N) (S : List E) (G : List Int) (X X5 X6 : LH) (v5 v6 : Value) (c5 : List Value),
    s = (.bool false, v5, v6, .int .i64 i, ()) ∧ i ≤ 300 ∧ i ≤ len ∧ NetR 61 I b X n ∧ SlO 30 5 X5 v5 c5 S.length ∧ Recs (EnvV I) 5 S c5 ∧ SlO 3 1 X6 v6 (i64s G) G.length ∧ Good n S G i ∧ L = X ++ (X5 ++ (X6 ++ F))

def Oμ (s : S4) (_ : Imm) (_ : LH) : Nat := match s with
  | (_, _, _, .int _ i, _) => (301 - i).toNat
  | _ => 0
abbrev OKn (I0 : Imm) (b len : Nat) (F : LH) (m : Nat) : S4 → M := fun s' => Gh fun I2 L2 => OInv I0 b len F s' I2 L2 ∧ Oμ s' I2 L2 < m

/-- the end of a round -/
theorem o_next {I0 : Imm} {b len i : Nat} {F X X5 X6 R : LH} {n : N} {S : List E} {G : List Int} {v5 v6 : Value} {c5 : List Value} [SubP (X ++ (X5 ++ (X6 ++ F))) L]
    (hI : Ext I0 I) (hi : i < 300) (hl : i < len) (hN : NetR 61 I b X n) (h5 : SlO 30 5 X5 v5 c5 S.length) (hR : Recs (EnvV I) 5 S c5) (h6 : SlO 3 1 X6 v6 (i64s G) G.length) (hG : Good n S G (i + 1)) :
    sh3_6 ω (.bool false) v5 v6 (.int .i64 i) (OKn I0 b len F (301 - (i : Int)).toNat) K I L := by
  unfold sh3_6 sh3_5 sh3_4
  simp only [Pv_some, fldV_p, nilV_p, nilV_f, lenV_s, capV_s, lenSV_s, strV_s, unV_not, unV_neg, pickV_t, pickV_f, exV_t, cvIV_i, binI_add, binI_sub, binI_mul, binI_eql, binI_neq, binI_lss, binI_leq, binI_gtr, binI_geq, binI_and, binI_or, binB_eql, binB_neq, binS_eql, binS_neq, binP_eql_nil, binP_neq_nil, binN_eql_nil, binN_neq_nil, binN_eql_nn, binN_neq_nn, Br_true, Br_false, cells_agg, List.getElem?_toArray, List.getElem?_cons_zero, List.getElem?_cons_succ, Nat.zero_add, Nat.add_zero, Nat.zero_mul, wrap_i64 ((i : Int) + 1) (by omega)]
  refine Gh.to (X ++ (X5 ++ (X6 ++ F))) (Gh.done ⟨⟨hI, i + 1, n, S, G, X, X5, X6, v5, v6, c5, by simp, by omega, by omega, hN, h5, hR, h6, hG, rfl⟩, ?_⟩)
  simp only [Oμ]; omega

/-- append of one envelope to what was sent -/
theorem o_app {X5 L0 F : LH} [SplitL X5 L0 F] {S : List E} {v5 : Value} {c5 : List Value} {e : E} {c : List Value} {K : Value → M} (h5 : SlO 30 5 X5 v5 c5 S.length) (hR : Recs (EnvV I) 5 S c5) (hl : S.length ≤ 300) (he : EnvV I e c)
    (hk : ∀ X1 X5' v5', SlO 30 5 X5' v5' (c5 ++ c) (S ++ [e]).length → Recs (EnvV I) 5 (S ++ [e]) (c5 ++ c) → K v5' I (X5' ++ (X1 ++ F))) :
    BldS 30 5 #[.int .i64 0, .int .i64 0, .int .i64 0, .int .i64 0, .slice none 0 0] 1 [(0, .agg c.toArray)] (gh fun u =>
      App 30 5 56 #[.int .i64 0, .int .i64 0, .int .i64 0, .int .i64 0, .slice none 0 0] v5 u (gh K)) I L0 := by
  have hcl := he.len
  refine bld_one rfl (by omega) (by simp [Value.cells, hcl]) (fun X1 u hX1 => ?_)
  refine app_own (X := X5) rfl h5 (hX1.news (fun x hx => List.mem_append_left _ hx)) (by simpa [Value.cells] using he.one) (by omega) (by omega) (fun X' v' hX' => ?_)
  have hX'' : SlO 30 5 X' v' (c5 ++ c) (S ++ [e]).length := by simpa [Value.cells] using hX'
  exact hk X1 X' v' hX'' (Recs.append hR (Recs.one hcl he))

/-- nothing was doubled -/
theorem o_no {I0 : Imm} {b len i : Nat} {F X X5 X6 : LH} {n : N} {S : List E} {G : List Int} {v5 v6 p8 p12 : Value} {c5 : List Value} {err : Int} [SubP (X ++ (X5 ++ (X6 ++ F))) L] (herr : err ≠ 0)
    (hI : Ext I0 I) (hi : i < 300) (hl : i < len) (hN : NetR 61 I b X n) (h5 : SlO 30 5 X5 v5 c5 S.length) (hR : Recs (EnvV I) 5 S c5) (h6 : SlO 3 1 X6 v6 (i64s G) G.length) (hG : Good n S G (i + 1)) :
    LoopM ((v5, .int .i64 0, ()) : Value × Value × Unit) (fun s Kn1 => sh3_10 ω (.bool false) v6 (.int .i64 i) p8 p12 (.int .i64 err) s.1 s.2.1 (OKn I0 b len F (301 - (i : Int)).toNat) Kn1 K) I L := by
  have hn : sh3_9 ω (.bool false) v5 v6 (.int .i64 i) (OKn I0 b len F (301 - (i : Int)).toNat) K I L := by
    unfold sh3_9
    exact o_next (R := []) hI hi hl hN h5 hR h6 hG
  refine loop (fun s I' L' => I' = I ∧ L' = L ∧ s = (v5, .int .i64 0, ())) (fun _ _ _ => 0) ⟨rfl, rfl, rfl⟩ ?_
  rintro s I' L' ⟨rfl, rfl, rfl⟩
  obtain ⟨a5, cap5, rfl⟩ := h5.form
  unfold sh3_10
  simp only [Pv_some, fldV_p, nilV_p, nilV_f, lenV_s, capV_s, lenSV_s, strV_s, unV_not, unV_neg, pickV_t, pickV_f, exV_t, cvIV_i, binI_add, binI_sub, binI_mul, binI_eql, binI_neq, binI_lss, binI_leq, binI_gtr, binI_geq, binI_and, binI_or, binB_eql, binB_neq, binS_eql, binS_neq, binP_eql_nil, binP_neq_nil, binN_eql_nil, binN_neq_nil, binN_eql_nn, binN_neq_nn, Br_true, Br_false, cells_agg, List.getElem?_toArray, List.getElem?_cons_zero, List.getElem?_cons_succ, Nat.zero_add, Nat.add_zero, Nat.zero_mul]
  refine gd_split (fun _ => ?_) (fun _ => hn)
  have h' : (err == 0) = false := by simpa using herr
  simp only [h', Br_false]
  exact hn

set_option maxHeartbeats 400000 in
theorem o_yes {I0 : Imm} {b b1 len i q : Nat} {F X X5 X6 : LH} {n' : N} {S : List E} {G : List Int} {v5 v6 w0 w2 w3 w4 w5 w6 : Value} {c5 : List Value} {new id : Int} {eq : E} (hq : S[q]? = some eq) (hqi : eq.id = id) (hids : ∀ (k : Nat) e, S[k]? = some e → e.id = k + 1)
    (hI : Ext I0 I) (hi : i < 300) (hl : i < len) (hN : NetR 61 I b X n') (h5 : SlO 30 5 X5 v5 c5 S.length) (hR : Recs (EnvV I) 5 S c5) (h6 : SlO 3 1 X6 v6 (i64s G) G.length) (hSl : S.length ≤ 300) (hG : Good n' (S ++ [{ eq with id := new }]) G (i + 1)) :
    LoopM ((v5, .int .i64 0, ()) : Value × Value × Unit) (fun s Kn1 => sh3_10 ω (.bool false) v6 (.int .i64 i) (.pointer (some ⟨b1, 0, none⟩)) (.int .i64 new) (.int .i64 0) s.1 s.2.1 (OKn I0 b len F (301 - (i : Int)).toNat) Kn1 K) I (X ++ ((b1, Obj.cells #[w0, .int .i64 id, w2, w3, w4, w5, w6] 32 (0, 0)) :: (X5 ++ (X6 ++ F)))) := by
  have hql := (List.getElem?_eq_some_iff.1 hq).1
  have hq1 := hids q eq hq
  refine loop (fun s I' L' => I' = I ∧ L' = (X ++ ((b1, Obj.cells #[w0, .int .i64 id, w2, w3, w4, w5, w6] 32 (0, 0)) :: (X5 ++ (X6 ++ F)))) ∧ ∃ k : Nat, s = (v5, .int .i64 k, ()) ∧ k ≤ q)
    (fun s _ _ => match s with | (_, .int _ k, _) => ((q : Int) + 1 - k).toNat | _ => 0) ⟨rfl, rfl, 0, rfl, by omega⟩ ?_
  rintro s I' L' ⟨rfl, rfl, k, rfl, hk⟩
  obtain ⟨a5, cap5, hf⟩ := h5.form
  unfold sh3_10
  rw [show lenV v5 = some (.int .i64 S.length) from by rw [hf]; rfl]
  simp only [Pv_some, fldV_p, nilV_p, nilV_f, lenV_s, capV_s, lenSV_s, strV_s, unV_not, unV_neg, pickV_t, pickV_f, exV_t, cvIV_i, binI_add, binI_sub, binI_mul, binI_eql, binI_neq, binI_lss, binI_leq, binI_gtr, binI_geq, binI_and, binI_or, binB_eql, binB_neq, binS_eql, binS_neq, binP_eql_nil, binP_neq_nil, binN_eql_nil, binN_neq_nil, binN_eql_nn, binN_neq_nn, Br_true, Br_false, cells_agg, List.getElem?_toArray, List.getElem?_cons_zero, List.getElem?_cons_succ, Nat.zero_add, Nat.add_zero, Nat.zero_mul]
  have h1 : ((k : Int) < S.length) := by omega
  simp only [h1, decide_true]
  refine gd_split (fun _ => ?_) (fun h => absurd rfl h)
  refine draw (Stay I' _) (Stay.start I' _) ?_
  have hkl : k < S.length := by omega
  obtain ⟨ek, hek⟩ : ∃ x, S[k]? = some x := ⟨_, List.getElem?_eq_getElem hkl⟩
  obtain ⟨hgl, hg⟩ := hR.get hek
  obtain ⟨b5, hix, hc⟩ := h5.ix .i64 hkl
  have hcL := hc I' (X ++ ((b1, Obj.cells #[w0, .int .i64 id, w2, w3, w4, w5, w6] 32 (0, 0)) :: (X5 ++ (X6 ++ F)))) (fun x hx => by simp [hx])
  obtain ⟨bv, hcx, hB⟩ := _root_.id hg
  rw [hcx] at hcL
  simp only [hix, Pv_some, fldV_p, nilV_p, nilV_f, lenV_s, capV_s, lenSV_s, strV_s, unV_not, unV_neg, pickV_t, pickV_f, exV_t, cvIV_i, binI_add, binI_sub, binI_mul, binI_eql, binI_neq, binI_lss, binI_leq, binI_gtr, binI_geq, binI_and, binI_or, binB_eql, binB_neq, binS_eql, binS_neq, binP_eql_nil, binP_neq_nil, binN_eql_nil, binN_neq_nil, binN_eql_nn, binN_neq_nn, Br_true, Br_false, cells_agg, List.getElem?_toArray, List.getElem?_cons_zero, List.getElem?_cons_succ, Nat.zero_add, Nat.add_zero, Nat.zero_mul]
  refine rd1I (hcL 0 _ rfl) ?_
  refine rdbS ?_
  simp only [Pv_some, fldV_p, nilV_p, nilV_f, lenV_s, capV_s, lenSV_s, strV_s, unV_not, unV_neg, pickV_t, pickV_f, exV_t, cvIV_i, binI_add, binI_sub, binI_mul, binI_eql, binI_neq, binI_lss, binI_leq, binI_gtr, binI_geq, binI_and, binI_or, binB_eql, binB_neq, binS_eql, binS_neq, binP_eql_nil, binP_neq_nil, binN_eql_nil, binN_neq_nil, binN_eql_nn, binN_neq_nn, Br_true, Br_false, cells_agg, List.getElem?_toArray, List.getElem?_cons_zero, List.getElem?_cons_succ, Nat.zero_add, Nat.add_zero, Nat.zero_mul]
  have hki := hids k ek hek
  by_cases hkq : k = q
  · subst hkq
    rw [hek] at hq
    obtain rfl := Option.some.inj hq
    simp only [hqi, beq_self_eq_true, Br_true]
    unfold sh3_11
    simp only [hix, Pv_some, fldV_p, nilV_p, nilV_f, lenV_s, capV_s, lenSV_s, strV_s, unV_not, unV_neg, pickV_t, pickV_f, exV_t, cvIV_i, binI_add, binI_sub, binI_mul, binI_eql, binI_neq, binI_lss, binI_leq, binI_gtr, binI_geq, binI_and, binI_or, binB_eql, binB_neq, binS_eql, binS_neq, binP_eql_nil, binP_neq_nil, binN_eql_nil, binN_neq_nil, binN_eql_nn, binN_neq_nn, Br_true, Br_false, cells_agg, List.getElem?_toArray, List.getElem?_cons_zero, List.getElem?_cons_succ, Nat.zero_add, Nat.add_zero, Nat.zero_mul]
    obtain ⟨ab, capb, rfl⟩ := hB.form
    refine rdN rfl hcL ?_
    refine newI (fun b2 => ?_)
    refine stB rfl rfl (one_all rfl) ?_
    simp only [Pv_some, fldV_p, nilV_p, nilV_f, lenV_s, capV_s, lenSV_s, strV_s, unV_not, unV_neg, pickV_t, pickV_f, exV_t, cvIV_i, binI_add, binI_sub, binI_mul, binI_eql, binI_neq, binI_lss, binI_leq, binI_gtr, binI_geq, binI_and, binI_or, binB_eql, binB_neq, binS_eql, binS_neq, binP_eql_nil, binP_neq_nil, binN_eql_nil, binN_neq_nil, binN_eql_nn, binN_neq_nn, Br_true, Br_false, cells_agg, List.getElem?_toArray, List.getElem?_cons_zero, List.getElem?_cons_succ, Nat.zero_add, Nat.add_zero, Nat.zero_mul]
    refine st1 rfl ?_
    refine rdB rfl ?_
    refine o_app (X5 := X5) (e := { ek with id := new }) h5 hR (by omega) ⟨_, rfl, hB⟩ (fun X1 X5' v5' h5' hR' => ?_)
    unfold sh3_9
    exact o_next (R := []) hI hi hl hN h5' hR' h6 hG
  · have hne : (ek.id == id) = false := by simp; omega
    simp only [hne, Br_false, wrap_i64 ((k : Int) + 1) (by omega)]
    refine Gh.done ⟨⟨rfl, rfl, k + 1, by simp, by omega⟩, ?_⟩
    omega

set_option maxHeartbeats 400000 in
theorem o_scan {I0 : Imm} {b b1 b2 len i q : Nat} {F X X5 X6 : LH} {n' : N} {S : List E} {G : List Int} {v5 v6 w0 w2 w3 w4 w5 w6 bv : Value} {c5 : List Value} {id : Int} {eq : E} [SubP (X ++ (X5 ++ (X6 ++ F))) L]
    [InL b1 L (.cells #[w0, .int .i64 id, w2, w3, w4, w5, w6] 32 (0, 0))] [InL b2 L (.cells #[.int .i64 eq.id, .int .i64 eq.frm, .int .i64 eq.to, .int .i64 eq.kind, bv] 30 (0, 0))] (hm : ∀ x ∈ X5, x ∈ L) (hE : EnvV I eq [.int .i64 eq.id, .int .i64 eq.frm, .int .i64 eq.to, .int .i64 eq.kind, bv])
    (hq : S[q]? = some eq) (hqi : eq.id = id) (hids : ∀ (k : Nat) e, S[k]? = some e → e.id = k + 1)
    (hI : Ext I0 I) (hi : i < 300) (hl : i < len) (hN : NetR 61 I b X n') (h5 : SlO 30 5 X5 v5 c5 S.length) (hR : Recs (EnvV I) 5 S c5) (h6 : SlO 3 1 X6 v6 (i64s G) G.length) (hSl : S.length ≤ 300) (hG : Good n' S G (i + 1)) :
    LoopM ((.bool false, .int .i64 0, ()) : Value × Value × Unit) (fun s Kn1 => sh3_16 ω (.bool false) v5 v6 (.int .i64 i) (.pointer (some ⟨b1, 0, none⟩)) (.pointer (some ⟨b2, 0, none⟩)) s.1 s.2.1 (OKn I0 b len F (301 - (i : Int)).toNat) Kn1 K) I L := by
  have hql := (List.getElem?_eq_some_iff.1 hq).1
  have hq1 := hids q eq hq
  refine loop (fun s I' L' => I' = I ∧ L' = L ∧ ∃ k : Nat, s = (.bool (decide (q < k)), .int .i64 k, ()) ∧ k ≤ S.length)
    (fun s _ _ => match s with | (_, .int _ k, _) => ((S.length : Int) - k).toNat | _ => 0) ⟨rfl, rfl, 0, by simp, by omega⟩ ?_
  rintro s I' L' ⟨rfl, rfl, k, rfl, hk⟩
  obtain ⟨a5, cap5, hf⟩ := h5.form
  unfold sh3_16
  rw [show lenV v5 = some (.int .i64 S.length) from by rw [hf]; rfl]
  simp only [Pv_some, fldV_p, nilV_p, nilV_f, lenV_s, capV_s, lenSV_s, strV_s, unV_not, unV_neg, pickV_t, pickV_f, exV_t, cvIV_i, binI_add, binI_sub, binI_mul, binI_eql, binI_neq, binI_lss, binI_leq, binI_gtr, binI_geq, binI_and, binI_or, binB_eql, binB_neq, binS_eql, binS_neq, binP_eql_nil, binP_neq_nil, binN_eql_nil, binN_neq_nil, binN_eql_nn, binN_neq_nn, Br_true, Br_false, cells_agg, List.getElem?_toArray, List.getElem?_cons_zero, List.getElem?_cons_succ, Nat.zero_add, Nat.add_zero, Nat.zero_mul]
  by_cases hkl : k < S.length
  · have h1 : ((k : Int) < S.length) := by omega
    simp only [h1, decide_true, Br_true]
    refine draw (Stay I' _) (Stay.start I' _) ?_
    obtain ⟨ek, hek⟩ : ∃ x, S[k]? = some x := ⟨_, List.getElem?_eq_getElem hkl⟩
    obtain ⟨hgl, hg⟩ := hR.get hek
    obtain ⟨b5, hix, hc⟩ := h5.ix .i64 hkl
    simp only [hix, Pv_some, fldV_p, nilV_p, nilV_f, lenV_s, capV_s, lenSV_s, strV_s, unV_not, unV_neg, pickV_t, pickV_f, exV_t, cvIV_i, binI_add, binI_sub, binI_mul, binI_eql, binI_neq, binI_lss, binI_leq, binI_gtr, binI_geq, binI_and, binI_or, binB_eql, binB_neq, binS_eql, binS_neq, binP_eql_nil, binP_neq_nil, binN_eql_nil, binN_neq_nil, binN_eql_nn, binN_neq_nn, Br_true, Br_false, cells_agg, List.getElem?_toArray, List.getElem?_cons_zero, List.getElem?_cons_succ, Nat.zero_add, Nat.add_zero, Nat.zero_mul]
    refine rdNI hgl (hc I' _ hm) ?_
    refine rdBS rfl ?_
    refine call (same_spec hg hE ?_)
    have hki := hids k ek hek
    by_cases hkq : k = q
    · subst hkq
      rw [hek] at hq
      obtain rfl := Option.some.inj hq
      simp only [sameE_refl, Br_true]
      unfold sh3_18 sh3_17
      simp only [Pv_some, fldV_p, nilV_p, nilV_f, lenV_s, capV_s, lenSV_s, strV_s, unV_not, unV_neg, pickV_t, pickV_f, exV_t, cvIV_i, binI_add, binI_sub, binI_mul, binI_eql, binI_neq, binI_lss, binI_leq, binI_gtr, binI_geq, binI_and, binI_or, binB_eql, binB_neq, binS_eql, binS_neq, binP_eql_nil, binP_neq_nil, binN_eql_nil, binN_neq_nil, binN_eql_nn, binN_neq_nn, Br_true, Br_false, cells_agg, List.getElem?_toArray, List.getElem?_cons_zero, List.getElem?_cons_succ, Nat.zero_add, Nat.add_zero, Nat.zero_mul, wrap_i64 ((k : Int) + 1) (by omega)]
      refine Gh.done ⟨⟨rfl, rfl, k + 1, by simp, by omega⟩, ?_⟩
      omega
    · have hne : sameE ek eq = false := by
        cases hs : sameE ek eq with
        | false => rfl
        | true => have := sameE_eq hs; subst this; omega
      simp only [hne, Br_false]
      unfold sh3_18 sh3_17
      simp only [Pv_some, fldV_p, nilV_p, nilV_f, lenV_s, capV_s, lenSV_s, strV_s, unV_not, unV_neg, pickV_t, pickV_f, exV_t, cvIV_i, binI_add, binI_sub, binI_mul, binI_eql, binI_neq, binI_lss, binI_leq, binI_gtr, binI_geq, binI_and, binI_or, binB_eql, binB_neq, binS_eql, binS_neq, binP_eql_nil, binP_neq_nil, binN_eql_nil, binN_neq_nil, binN_eql_nn, binN_neq_nn, Br_true, Br_false, cells_agg, List.getElem?_toArray, List.getElem?_cons_zero, List.getElem?_cons_succ, Nat.zero_add, Nat.add_zero, Nat.zero_mul, wrap_i64 ((k : Int) + 1) (by omega)]
      refine Gh.done ⟨⟨rfl, rfl, k + 1, ?_, by omega⟩, ?_⟩
      · have : (decide (q < k)) = decide (q < k + 1) := by simp; omega
        rw [this]; simp
      · omega
  · have h1 : ¬ ((k : Int) < S.length) := by omega
    simp only [h1, decide_false, Br_false]
    unfold sh3_15 sh3_13
    have h2 : q < k := by omega
    simp only [h2, decide_true, Pv_some, fldV_p, nilV_p, nilV_f, lenV_s, capV_s, lenSV_s, strV_s, unV_not, unV_neg, pickV_t, pickV_f, exV_t, cvIV_i, binI_add, binI_sub, binI_mul, binI_eql, binI_neq, binI_lss, binI_leq, binI_gtr, binI_geq, binI_and, binI_or, binB_eql, binB_neq, binS_eql, binS_neq, binP_eql_nil, binP_neq_nil, binN_eql_nil, binN_neq_nil, binN_eql_nn, binN_neq_nn, Br_true, Br_false, cells_agg, List.getElem?_toArray, List.getElem?_cons_zero, List.getElem?_cons_succ, Nat.zero_add, Nat.add_zero, Nat.zero_mul, Bool.not_true]
    refine gd_split (fun _ => ?_) (fun h => absurd rfl h)
    refine rdb ?_
    refine rdb ?_
    have h3 : (eq.id != id) = false := by simp [hqi]
    simp only [Pv_some, fldV_p, nilV_p, nilV_f, lenV_s, capV_s, lenSV_s, strV_s, unV_not, unV_neg, pickV_t, pickV_f, exV_t, cvIV_i, binI_add, binI_sub, binI_mul, binI_eql, binI_neq, binI_lss, binI_leq, binI_gtr, binI_geq, binI_and, binI_or, binB_eql, binB_neq, binS_eql, binS_neq, binP_eql_nil, binP_neq_nil, binN_eql_nil, binN_neq_nil, binN_eql_nn, binN_neq_nn, Br_true, Br_false, cells_agg, List.getElem?_toArray, List.getElem?_cons_zero, List.getElem?_cons_succ, Nat.zero_add, Nat.add_zero, Nat.zero_mul, h3]
    exact o_next (R := []) hI hi hl hN h5 hR h6 hG

set_option maxHeartbeats 400000 in
theorem o_gone {I0 : Imm} {b b1 b2 len i q : Nat} {F X X5 X6 : LH} {n' : N} {S : List E} {G : List Int} {v5 v6 w0 w2 w3 w4 w5 w6 bv : Value} {c5 : List Value} {id : Int} {eq : E} (hE : EnvV I eq [.int .i64 eq.id, .int .i64 eq.frm, .int .i64 eq.to, .int .i64 eq.kind, bv])
    (hq : S[q]? = some eq) (hqi : eq.id = id) (hids : ∀ (k : Nat) e, S[k]? = some e → e.id = k + 1) (hgn : ∀ g ∈ G, eq.id ≠ g)
    (hI : Ext I0 I) (hi : i < 300) (hl : i < len) (hN : NetR 61 I b X n') (h5 : SlO 30 5 X5 v5 c5 S.length) (hR : Recs (EnvV I) 5 S c5) (h6 : SlO 3 1 X6 v6 (i64s G) G.length) (hSl : S.length ≤ 300) (hGl : G.length ≤ 300) (hG : Good n' S (G ++ [eq.id]) (i + 1)) :
    LoopM ((.bool false, .int .i64 0, ()) : Value × Value × Unit) (fun s Kn1 => sh3_20 ω v5 v6 (.int .i64 i) (.pointer (some ⟨b1, 0, none⟩)) (.pointer (some ⟨b2, 0, none⟩)) s.1 s.2.1 (OKn I0 b len F (301 - (i : Int)).toNat) Kn1 (fun v => Gh (K v))) I
      ((b2, Obj.cells #[.int .i64 eq.id, .int .i64 eq.frm, .int .i64 eq.to, .int .i64 eq.kind, bv] 30 (0, 0)) :: (X ++ ((b1, Obj.cells #[w0, .int .i64 id, w2, w3, w4, w5, w6] 32 (0, 0)) :: (X5 ++ (X6 ++ F))))) := by
  refine loop (fun s I' L' => I' = I ∧ L' = ((b2, Obj.cells #[.int .i64 eq.id, .int .i64 eq.frm, .int .i64 eq.to, .int .i64 eq.kind, bv] 30 (0, 0)) :: (X ++ ((b1, Obj.cells #[w0, .int .i64 id, w2, w3, w4, w5, w6] 32 (0, 0)) :: (X5 ++ (X6 ++ F))))) ∧ ∃ k : Nat, s = (.bool false, .int .i64 k, ()) ∧ k ≤ G.length)
    (fun s _ _ => match s with | (_, .int _ k, _) => ((G.length : Int) - k).toNat | _ => 0) ⟨rfl, rfl, 0, rfl, by omega⟩ ?_
  rintro s I' L' ⟨rfl, rfl, k, rfl, hk⟩
  obtain ⟨a6, cap6, hf⟩ := h6.form
  unfold sh3_20
  rw [show lenV v6 = some (.int .i64 G.length) from by rw [hf]; rfl]
  simp only [Pv_some, fldV_p, nilV_p, nilV_f, lenV_s, capV_s, lenSV_s, strV_s, unV_not, unV_neg, pickV_t, pickV_f, exV_t, cvIV_i, binI_add, binI_sub, binI_mul, binI_eql, binI_neq, binI_lss, binI_leq, binI_gtr, binI_geq, binI_and, binI_or, binB_eql, binB_neq, binS_eql, binS_neq, binP_eql_nil, binP_neq_nil, binN_eql_nil, binN_neq_nil, binN_eql_nn, binN_neq_nn, Br_true, Br_false, cells_agg, List.getElem?_toArray, List.getElem?_cons_zero, List.getElem?_cons_succ, Nat.zero_add, Nat.add_zero, Nat.zero_mul]
  by_cases hkl : k < G.length
  · have h1 : ((k : Int) < G.length) := by omega
    simp only [h1, decide_true, Br_true]
    refine draw (Stay I' _) (Stay.start I' _) ?_
    obtain ⟨b6, hix, hc⟩ := h6.ix .i64 hkl
    have hcL := hc I' ((b2, Obj.cells #[.int .i64 eq.id, .int .i64 eq.frm, .int .i64 eq.to, .int .i64 eq.kind, bv] 30 (0, 0)) :: (X ++ ((b1, Obj.cells #[w0, .int .i64 id, w2, w3, w4, w5, w6] 32 (0, 0)) :: (X5 ++ (X6 ++ F))))) (fun x hx => by simp [hx])
    have hone : ((i64s G).drop (k * 1)).take 1 = [.int .i64 G[k]] := by
      rw [Nat.mul_one, List.drop_eq_getElem_cons (by simpa [i64s] using hkl), List.take_succ_cons]
      simp [i64s]
    rw [hone] at hcL
    simp only [hix, Pv_some, fldV_p, nilV_p, nilV_f, lenV_s, capV_s, lenSV_s, strV_s, unV_not, unV_neg, pickV_t, pickV_f, exV_t, cvIV_i, binI_add, binI_sub, binI_mul, binI_eql, binI_neq, binI_lss, binI_leq, binI_gtr, binI_geq, binI_and, binI_or, binB_eql, binB_neq, binS_eql, binS_neq, binP_eql_nil, binP_neq_nil, binN_eql_nil, binN_neq_nil, binN_eql_nn, binN_neq_nn, Br_true, Br_false, cells_agg, List.getElem?_toArray, List.getElem?_cons_zero, List.getElem?_cons_succ, Nat.zero_add, Nat.add_zero, Nat.zero_mul]
    refine rd1I (hcL 0 _ rfl) ?_
    refine rdbS ?_
    have hne : (G[k] == eq.id) = false := by
      have := hgn G[k] (List.getElem_mem hkl)
      simp; omega
    simp only [Pv_some, fldV_p, nilV_p, nilV_f, lenV_s, capV_s, lenSV_s, strV_s, unV_not, unV_neg, pickV_t, pickV_f, exV_t, cvIV_i, binI_add, binI_sub, binI_mul, binI_eql, binI_neq, binI_lss, binI_leq, binI_gtr, binI_geq, binI_and, binI_or, binB_eql, binB_neq, binS_eql, binS_neq, binP_eql_nil, binP_neq_nil, binN_eql_nil, binN_neq_nil, binN_eql_nn, binN_neq_nn, Br_true, Br_false, cells_agg, List.getElem?_toArray, List.getElem?_cons_zero, List.getElem?_cons_succ, Nat.zero_add, Nat.add_zero, Nat.zero_mul, hne]
    simp only [Br_false, wrap_i64 ((k : Int) + 1) (by omega)]
    refine Gh.done ⟨⟨rfl, rfl, k + 1, by simp, by omega⟩, ?_⟩
    omega
  · have h1 : ¬ ((k : Int) < G.length) := by omega
    simp only [h1, decide_false, Br_false]
    unfold sh3_19 sh3_12
    simp only [Pv_some, fldV_p, nilV_p, nilV_f, lenV_s, capV_s, lenSV_s, strV_s, unV_not, unV_neg, pickV_t, pickV_f, exV_t, cvIV_i, binI_add, binI_sub, binI_mul, binI_eql, binI_neq, binI_lss, binI_leq, binI_gtr, binI_geq, binI_and, binI_or, binB_eql, binB_neq, binS_eql, binS_neq, binP_eql_nil, binP_neq_nil, binN_eql_nil, binN_neq_nil, binN_eql_nn, binN_neq_nn, Br_true, Br_false, cells_agg, List.getElem?_toArray, List.getElem?_cons_zero, List.getElem?_cons_succ, Nat.zero_add, Nat.add_zero, Nat.zero_mul]
    refine rdb ?_
    refine bld_one rfl (by omega) rfl (fun X1 u hX1 => ?_)
    refine app_own (X := X6) rfl h6 (hX1.news (fun x hx => List.mem_append_left _ hx)) (by simp [Value.cells, Value.oneCell']) (by omega) (by omega) (fun X' v' hX' => ?_)
    have hX'' : SlO 3 1 X' v' (i64s (G ++ [eq.id])) (G ++ [eq.id]).length := by simpa [Value.cells, i64s] using hX'
    exact o_scan (F := F) (X := X) (X5 := X5) (X6 := X') (fun x hx => by simp [hx]) hE hq hqi hids hI hi hl hN h5 hR hX'' hSl hG

set_option maxHeartbeats 800000 in
theorem once_law {v0 : Value} {c0 : List Value} {sc : List StepD} (hS0 : SlI I 7 v0 c0 sc.length) (hR0 : Recs (StepV I) 7 sc c0) (hk : ∀ I' L', Ext I I' → K (.bool true) I' L') : Cal Try.prog ω 3 #[v0] K I L := by
  refine cal3 ?_
  unfold sh3
  refine call (awake_spec (fun I0 hI0 => ?_))
  refine call (new_spec (fun b => ?_))
  simp only [Pv_some, fldV_p, nilV_p, nilV_f, lenV_s, capV_s, lenSV_s, strV_s, unV_not, unV_neg, pickV_t, pickV_f, exV_t, cvIV_i, binI_add, binI_sub, binI_mul, binI_eql, binI_neq, binI_lss, binI_leq, binI_gtr, binI_geq, binI_and, binI_or, binB_eql, binB_neq, binS_eql, binS_neq, binP_eql_nil, binP_neq_nil, binN_eql_nil, binN_neq_nil, binN_eql_nn, binN_neq_nn, Br_true, Br_false, cells_agg, List.getElem?_toArray, List.getElem?_cons_zero, List.getElem?_cons_succ, Nat.zero_add, Nat.add_zero, Nat.zero_mul]
  refine loop (OInv I b sc.length L) Oμ ⟨hI0, 0, ⟨[], 0⟩, [], [], [(b, _)], [], [], _, _, [], rfl, by omega, by omega, newR 61 I0 b, SlO.none 30 5, rfl, SlO.none 3 1, ?_, rfl⟩ ?_
  · exact ⟨⟨List.Pairwise.nil, by simp, by simp, by simp, by simp⟩, by simp, by simp, by simp, by simp, by simp, by simp, by simp⟩
  rintro s I1 L1 ⟨hI1, i, n, S, G, X, X5, X6, v5, v6, c5, rfl, hi, hl, hN, h5, hR, h6, hG, rfl⟩
  obtain ⟨av, capv, hform⟩ : ∃ a c, v0 = .slice a sc.length c := by obtain ⟨_, a, c, h, _⟩ := hS0; exact ⟨a, c, h⟩
  have hend : sh3_2 ω (.bool false) (.bool true) (fun v => Gh (K v)) I1 (X ++ (X5 ++ (X6 ++ L))) := by
    unfold sh3_2 sh3_1
    exact Gh.done (hk _ _ hI1)
  unfold sh3_3
  rw [show lenV v0 = some (.int .i64 sc.length) from by rw [hform]; rfl]
  simp only [Pv_some, fldV_p, nilV_p, nilV_f, lenV_s, capV_s, lenSV_s, strV_s, unV_not, unV_neg, pickV_t, pickV_f, exV_t, cvIV_i, binI_add, binI_sub, binI_mul, binI_eql, binI_neq, binI_lss, binI_leq, binI_gtr, binI_geq, binI_and, binI_or, binB_eql, binB_neq, binS_eql, binS_neq, binP_eql_nil, binP_neq_nil, binN_eql_nil, binN_neq_nil, binN_eql_nn, binN_neq_nn, Br_true, Br_false, cells_agg, List.getElem?_toArray, List.getElem?_cons_zero, List.getElem?_cons_succ, Nat.zero_add, Nat.add_zero, Nat.zero_mul]
  by_cases hge : sc.length ≤ i
  · have h1 : ¬ ((i : Int) < sc.length) := by omega
    simp only [h1, decide_false]
    exact gd_split (fun h => by cases h) (fun _ => hend)
  have hlt : i < sc.length := by omega
  have h1 : ((i : Int) < sc.length) := by omega
  simp only [h1, decide_true]
  refine gd_split (fun _ => ?_) (fun h => absurd rfl h)
  by_cases hge3 : 300 ≤ i
  · have h2 : ¬ ((i : Int) < 300) := by omega
    simp only [h2, decide_false, Br_false]
    exact hend
  have h300 : i < 300 := by omega
  have h2 : ((i : Int) < 300) := by omega
  simp only [h2, decide_true, Br_true]
  obtain ⟨x, hx⟩ : ∃ x, sc[i]? = some x := ⟨_, List.getElem?_eq_getElem hlt⟩
  obtain ⟨hgl, hg⟩ := hR0.get hx
  obtain ⟨bb, off, hix, hc⟩ := hS0.ix .i64 hlt
  simp only [hix, Pv_some, fldV_p, nilV_p, nilV_f, lenV_s, capV_s, lenSV_s, strV_s, unV_not, unV_neg, pickV_t, pickV_f, exV_t, cvIV_i, binI_add, binI_sub, binI_mul, binI_eql, binI_neq, binI_lss, binI_leq, binI_gtr, binI_geq, binI_and, binI_or, binB_eql, binB_neq, binS_eql, binS_neq, binP_eql_nil, binP_neq_nil, binN_eql_nil, binN_neq_nil, binN_eql_nn, binN_neq_nn, Br_true, Br_false, cells_agg, List.getElem?_toArray, List.getElem?_cons_zero, List.getElem?_cons_succ, Nat.zero_add, Nat.add_zero, Nat.zero_mul]
  refine rdN hgl (hc I1 _ hI1) ?_
  obtain ⟨hid, bv, hcx, hB⟩ := hg
  rw [hcx]
  replace hB := hB.mono hI1
  refine newI (fun b1 => ?_)
  obtain ⟨ab, capb, rfl⟩ := hB.form
  refine stB rfl rfl (one_all rfl) ?_
  simp only [Pv_some, fldV_p, nilV_p, nilV_f, lenV_s, capV_s, lenSV_s, strV_s, unV_not, unV_neg, pickV_t, pickV_f, exV_t, cvIV_i, binI_add, binI_sub, binI_mul, binI_eql, binI_neq, binI_lss, binI_leq, binI_gtr, binI_geq, binI_and, binI_or, binB_eql, binB_neq, binS_eql, binS_neq, binP_eql_nil, binP_neq_nil, binN_eql_nil, binN_neq_nil, binN_eql_nn, binN_neq_nn, Br_true, Br_false, cells_agg, List.getElem?_toArray, List.getElem?_cons_zero, List.getElem?_cons_succ, Nat.zero_add, Nat.add_zero, Nat.zero_mul]
  refine rdb ?_
  simp only [Pv_some, fldV_p, nilV_p, nilV_f, lenV_s, capV_s, lenSV_s, strV_s, unV_not, unV_neg, pickV_t, pickV_f, exV_t, cvIV_i, binI_add, binI_sub, binI_mul, binI_eql, binI_neq, binI_lss, binI_leq, binI_gtr, binI_geq, binI_and, binI_or, binB_eql, binB_neq, binS_eql, binS_neq, binP_eql_nil, binP_neq_nil, binN_eql_nil, binN_neq_nil, binN_eql_nn, binN_neq_nn, Br_true, Br_false, cells_agg, List.getElem?_toArray, List.getElem?_cons_zero, List.getElem?_cons_succ, Nat.zero_add, Nat.add_zero, Nat.zero_mul]
  have hE : EnvV I1 x.e [.int .i64 x.e.id, .int .i64 x.e.frm, .int .i64 x.e.to, .int .i64 x.e.kind, .slice ab x.e.body.length capb] := ⟨_, rfl, hB⟩
  have hl1 := hG.l1; have hl2 := hG.l2; have hl3 := hG.l3
  have hmu : Oμ (.bool false, v5, v6, .int .i64 i, ()) I1 (X ++ (X5 ++ (X6 ++ L))) = (301 - (i : Int)).toNat := rfl
  rw [hmu]
  by_cases h0 : x.dO = 0
  · -- Send
    simp only [h0, beq_self_eq_true, Br_true]
    unfold sh3_7
    simp only [Pv_some, fldV_p, nilV_p, nilV_f, lenV_s, capV_s, lenSV_s, strV_s, unV_not, unV_neg, pickV_t, pickV_f, exV_t, cvIV_i, binI_add, binI_sub, binI_mul, binI_eql, binI_neq, binI_lss, binI_leq, binI_gtr, binI_geq, binI_and, binI_or, binB_eql, binB_neq, binS_eql, binS_neq, binP_eql_nil, binP_neq_nil, binN_eql_nil, binN_neq_nil, binN_eql_nn, binN_neq_nn, Br_true, Br_false, cells_agg, List.getElem?_toArray, List.getElem?_cons_zero, List.getElem?_cons_succ, Nat.zero_add, Nat.add_zero, Nat.zero_mul]
    refine rdP [.int .i64 x.e.id, .int .i64 x.e.frm, .int .i64 x.e.to, .int .i64 x.e.kind, .slice ab x.e.body.length capb] rfl rfl ?_
    refine call (Cal.split X (send_spec hN hE hG.ok.last0 hG.ok.last1 (fun X' I2 hI2 hN2 => ?_)))
    have hnx := fun (hS : sendN n x.e = (0, 1, n) ∨ sendN n x.e = (0, 90, n)) => hS
    by_cases hok : okE x.e = false
    · have hs : sendN n x.e = (0, 1, n) := by simp [sendN, hok]
      rw [hs] at hN2 ⊢
      simp only [Pv_some, fldV_p, nilV_p, nilV_f, lenV_s, capV_s, lenSV_s, strV_s, unV_not, unV_neg, pickV_t, pickV_f, exV_t, cvIV_i, binI_add, binI_sub, binI_mul, binI_eql, binI_neq, binI_lss, binI_leq, binI_gtr, binI_geq, binI_and, binI_or, binB_eql, binB_neq, binS_eql, binS_neq, binP_eql_nil, binP_neq_nil, binN_eql_nil, binN_neq_nil, binN_eql_nn, binN_neq_nn, Br_true, Br_false, cells_agg, List.getElem?_toArray, List.getElem?_cons_zero, List.getElem?_cons_succ, Nat.zero_add, Nat.add_zero, Nat.zero_mul]
      rw [show ((1 : Int) == 0) = false from rfl]
      simp only [Br_false]
      exact o_next (R := []) (hI1.trans hI2) h300 hlt hN2 h5 (hR.imp fun _ _ h => h.mono hI2) h6 hG.next
    · have hs : sendN n x.e = (n.last + 1, 0, ⟨n.es ++ [{ x.e with id := n.last + 1 }], n.last + 1⟩) := by
        simp only [sendN]; rw [if_neg hok, if_neg (by omega)]
      rw [hs] at hN2 ⊢
      simp only [Pv_some, fldV_p, nilV_p, nilV_f, lenV_s, capV_s, lenSV_s, strV_s, unV_not, unV_neg, pickV_t, pickV_f, exV_t, cvIV_i, binI_add, binI_sub, binI_mul, binI_eql, binI_neq, binI_lss, binI_leq, binI_gtr, binI_geq, binI_and, binI_or, binB_eql, binB_neq, binS_eql, binS_neq, binP_eql_nil, binP_neq_nil, binN_eql_nil, binN_neq_nil, binN_eql_nn, binN_neq_nn, Br_true, Br_false, cells_agg, List.getElem?_toArray, List.getElem?_cons_zero, List.getElem?_cons_succ, Nat.zero_add, Nat.add_zero, Nat.zero_mul, beq_self_eq_true]
      refine rdP [.int .i64 x.e.id, .int .i64 x.e.frm, .int .i64 x.e.to, .int .i64 x.e.kind, .slice ab x.e.body.length capb] rfl rfl ?_
      refine newI (fun b2 => ?_)
      refine stB rfl rfl (one_all rfl) ?_
      simp only [Pv_some, fldV_p, nilV_p, nilV_f, lenV_s, capV_s, lenSV_s, strV_s, unV_not, unV_neg, pickV_t, pickV_f, exV_t, cvIV_i, binI_add, binI_sub, binI_mul, binI_eql, binI_neq, binI_lss, binI_leq, binI_gtr, binI_geq, binI_and, binI_or, binB_eql, binB_neq, binS_eql, binS_neq, binP_eql_nil, binP_neq_nil, binN_eql_nil, binN_neq_nil, binN_eql_nn, binN_neq_nn, Br_true, Br_false, cells_agg, List.getElem?_toArray, List.getElem?_cons_zero, List.getElem?_cons_succ, Nat.zero_add, Nat.add_zero, Nat.zero_mul]
      refine st1 rfl ?_
      refine rdB rfl ?_
      refine o_app (X5 := X5) (e := { x.e with id := n.last + 1 }) h5 (hR.imp fun _ _ h => h.mono hI2) (by omega) ⟨_, rfl, hB.mono hI2⟩ (fun X1 X5' v5' h5' hR' => ?_)
      exact o_next (R := []) (hI1.trans hI2) h300 hlt hN2 h5' hR' h6 (hG.sent hi x.e)
  have h0' : (x.dO == 0) = false := by simpa using h0
  simp only [h0', Br_false]
  unfold sh3_8
  simp only [Pv_some, fldV_p, nilV_p, nilV_f, lenV_s, capV_s, lenSV_s, strV_s, unV_not, unV_neg, pickV_t, pickV_f, exV_t, cvIV_i, binI_add, binI_sub, binI_mul, binI_eql, binI_neq, binI_lss, binI_leq, binI_gtr, binI_geq, binI_and, binI_or, binB_eql, binB_neq, binS_eql, binS_neq, binP_eql_nil, binP_neq_nil, binN_eql_nil, binN_neq_nil, binN_eql_nn, binN_neq_nn, Br_true, Br_false, cells_agg, List.getElem?_toArray, List.getElem?_cons_zero, List.getElem?_cons_succ, Nat.zero_add, Nat.add_zero, Nat.zero_mul]
  by_cases h3 : x.dO = 3
  · -- Double
    simp only [h3, beq_self_eq_true, Br_true]
    refine rdb ?_
    refine call (Cal.split X (double_spec hN hG.ok hid (by omega) (fun X' I2 hI2 hN2 => ?_)))
    have hR2 := hR.imp (R' := EnvV I2) fun _ _ h => h.mono hI2
    simp only [Pv_some, fldV_p, nilV_p, nilV_f, lenV_s, capV_s, lenSV_s, strV_s, unV_not, unV_neg, pickV_t, pickV_f, exV_t, cvIV_i, binI_add, binI_sub, binI_mul, binI_eql, binI_neq, binI_lss, binI_leq, binI_gtr, binI_geq, binI_and, binI_or, binB_eql, binB_neq, binS_eql, binS_neq, binP_eql_nil, binP_neq_nil, binN_eql_nil, binN_neq_nil, binN_eql_nn, binN_neq_nn, Br_true, Br_false, cells_agg, List.getElem?_toArray, List.getElem?_cons_zero, List.getElem?_cons_succ, Nat.zero_add, Nat.add_zero, Nat.zero_mul]
    cases hp : posOf n.es x.id with
    | none =>
      have hd : dblN n x.id = (0, 91, n) := by simp [dblN, hp]
      rw [hd] at hN2 ⊢
      exact o_no (err := 91) (by omega) (hI1.trans hI2) h300 hlt hN2 h5 hR2 h6 hG.next
    | some p =>
      obtain ⟨ep, hep, hpid⟩ := pos_some hp
      have hd : dblN n x.id = sendN n ep := by simp [dblN, hp, hep]
      rw [hd] at hN2 ⊢
      by_cases hok : okE ep = false
      · have hs : sendN n ep = (0, 1, n) := by simp [sendN, hok]
        rw [hs] at hN2 ⊢
        exact o_no (err := 1) (by omega) (hI1.trans hI2) h300 hlt hN2 h5 hR2 h6 hG.next
      · have hs : sendN n ep = (n.last + 1, 0, ⟨n.es ++ [{ ep with id := n.last + 1 }], n.last + 1⟩) := by
          simp only [sendN]; rw [if_neg hok, if_neg (by omega)]
        rw [hs] at hN2 ⊢
        obtain ⟨q, hq⟩ := List.mem_iff_getElem?.1 (hG.sub ep (List.mem_of_getElem? hep))
        exact o_yes hq hpid hG.ids (hI1.trans hI2) h300 hlt hN2 h5 hR2 h6 (by omega) (hG.sent hi ep)
  have h3' : (x.dO == 3) = false := by simpa using h3
  simp only [h3', Br_false]
  by_cases h1' : x.dO = 1
  · -- Deliver
    simp only [h1', beq_self_eq_true, Br_true]
    refine rdb ?_
    refine call (Cal.split X (deliver_spec hN hG.ok hid (by omega) (fun X' c hN2 hc2 => ?_)))
    cases hp : posOf n.es x.id with
    | none =>
      have hd : delN n x.id = (zeroE, 91, n) := by simp [delN, hp]
      rw [hd] at hN2 hc2 ⊢
      obtain ⟨bv2, rfl, hB2⟩ := hc2
      obtain ⟨a9, cap9, rfl⟩ := hB2.form
      simp only [Pv_some, fldV_p, nilV_p, nilV_f, lenV_s, capV_s, lenSV_s, strV_s, unV_not, unV_neg, pickV_t, pickV_f, exV_t, cvIV_i, binI_add, binI_sub, binI_mul, binI_eql, binI_neq, binI_lss, binI_leq, binI_gtr, binI_geq, binI_and, binI_or, binB_eql, binB_neq, binS_eql, binS_neq, binP_eql_nil, binP_neq_nil, binN_eql_nil, binN_neq_nil, binN_eql_nn, binN_neq_nn, Br_true, Br_false, cells_agg, List.getElem?_toArray, List.getElem?_cons_zero, List.getElem?_cons_succ, Nat.zero_add, Nat.add_zero, Nat.zero_mul]
      refine newI (fun b2 => ?_)
      refine stB rfl rfl (one_all rfl) ?_
      rw [show ((91 : Int) != 0) = true from rfl]
      simp only [Br_true]
      exact o_next (R := []) hI1 h300 hlt hN2 h5 hR h6 hG.next
    | some p =>
      obtain ⟨ep, hep, hpid⟩ := pos_some hp
      have hd : delN n x.id = (ep, 0, ⟨n.es.eraseIdx p, n.last⟩) := by simp [delN, hp, hep]
      rw [hd] at hN2 hc2 ⊢
      obtain ⟨bv2, rfl, hB2⟩ := _root_.id hc2
      obtain ⟨a9, cap9, rfl⟩ := hB2.form
      simp only [Pv_some, fldV_p, nilV_p, nilV_f, lenV_s, capV_s, lenSV_s, strV_s, unV_not, unV_neg, pickV_t, pickV_f, exV_t, cvIV_i, binI_add, binI_sub, binI_mul, binI_eql, binI_neq, binI_lss, binI_leq, binI_gtr, binI_geq, binI_and, binI_or, binB_eql, binB_neq, binS_eql, binS_neq, binP_eql_nil, binP_neq_nil, binN_eql_nil, binN_neq_nil, binN_eql_nn, binN_neq_nn, Br_true, Br_false, cells_agg, List.getElem?_toArray, List.getElem?_cons_zero, List.getElem?_cons_succ, Nat.zero_add, Nat.add_zero, Nat.zero_mul]
      refine newI (fun b2 => ?_)
      refine stB rfl rfl (one_all rfl) ?_
      rw [show ((0 : Int) != 0) = false from rfl]
      simp only [Br_false]
      have hmem := List.mem_of_getElem? hep
      obtain ⟨q, hq⟩ := List.mem_iff_getElem?.1 (hG.sub ep hmem)
      exact o_gone hc2 hq hpid hG.ids (fun g hg => (hG.gone g hg).2 ep hmem) hI1 h300 hlt hN2 h5 hR h6 (by omega) (by omega) (hG.taken hep)
  have h1'' : (x.dO == 1) = false := by simpa using h1'
  simp only [h1'', Br_false]
  exact o_next (R := []) hI1 h300 hlt hN h5 hR h6 hG.next

end
end Go.Proofs.Ytfeonffmeajpgaa
