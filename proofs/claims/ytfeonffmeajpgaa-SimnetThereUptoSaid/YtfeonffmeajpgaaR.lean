import Derived.Test.YtfeonffmeajpgaaG
set_option linter.unusedSimpArgs false
set_option linter.unusedVariables false
namespace Go.Proofs.Ytfeonffmeajpgaa
open Go.SL
set_option maxRecDepth 10000

section
variable {ω : Om} {I : Imm} {L : LH} {K : Value → M}

instance (priority := low) splitNil {L : LH} : SplitL [] L L := ⟨List.Perm.refl _⟩

theorem SlO.pre {T n len i : Nat} {X : LH} {v : Value} {cells : List Value} (h : SlO T n X v cells len) (hi : i ≤ len) (hX : ∀ x ∈ X, x ∈ L) :
    ∃ v', slcV n v none (some (.int .i64 i)) none = some v' ∧ News n v' I L i (cells.take (i * n)) := by
  obtain ⟨hl, h⟩ := h
  rcases h with ⟨rfl, rfl, rfl⟩ | ⟨b, cap, cs, rfl, rfl, hcs, hle, hc⟩
  · have : i = 0 := by omega
    subst this
    exact ⟨_, rfl, .inl ⟨_, _, rfl, rfl, by simp⟩⟩
  · refine ⟨.slice (some ⟨b, 0, none⟩) i cap, ?_, .inr (.inl ⟨b, 0, cap, rfl, ?_, fun j u hu => Cell.own (hX _ (List.mem_cons_self ..)) ?_⟩)⟩
    · simp only [slcV, Option.isNone_some, Bool.false_and, Bool.false_eq_true, if_false]
      rw [show bndV none cap cap = some cap from rfl, Option.bind_some, bnd_in _ _ _ _ (by omega), Option.bind_some, show bndV none 0 i = some 0 from rfl, Option.bind_some]
      simp [add_none]
    · rw [List.length_take, hl, Nat.min_eq_left (Nat.mul_le_mul_right n hi)]
    · rw [Nat.zero_add]
      refine hc j u ?_
      rw [List.getElem?_take] at hu
      split at hu
      · exact hu
      · cases hu

theorem SlO.suf {T n len i : Nat} {X : LH} {v : Value} {cells : List Value} (h : SlO T n X v cells len) (hi : i ≤ len) (hX : ∀ x ∈ X, x ∈ L) :
    ∃ v', slcV n v (some (.int .i64 i)) none none = some v' ∧ News n v' I L (len - i) (cells.drop (i * n)) := by
  obtain ⟨hl, h⟩ := h
  rcases h with ⟨rfl, rfl, rfl⟩ | ⟨b, cap, cs, rfl, rfl, hcs, hle, hc⟩
  · have : i = 0 := by omega
    subst this
    refine ⟨_, rfl, .inl ⟨_, _, rfl, rfl, ?_⟩⟩
    simp at hl; simp [hl]
  · have s3 : slcV n (.slice (some ⟨b, 0, none⟩) len cap) (some (.int .i64 i)) none none = some (.slice (if cap = i then some ⟨b, 0, none⟩ else some ⟨b, i * n, none⟩) (len - i) (cap - i)) := by
      simp only [slcV, Option.isSome_none, Bool.and_false, Bool.false_eq_true, if_false]
      rw [show bndV none cap cap = some cap from rfl, Option.bind_some, show bndV none len cap = some len from rfl, Option.bind_some, bnd_in _ _ _ _ hi, Option.bind_some]
      simp [add_none]
    refine ⟨_, s3, ?_⟩
    by_cases hz : len - i = 0
    · refine .inl ⟨_, _, by rw [hz], hz, ?_⟩
      apply List.eq_nil_of_length_eq_zero
      rw [List.length_drop, hl, ← Nat.sub_mul, hz, Nat.zero_mul]
    · refine .inr (.inl ⟨b, i * n, cap - i, by rw [if_neg (by omega)], by rw [List.length_drop, hl, ← Nat.sub_mul], fun j u hu => Cell.own (hX _ (List.mem_cons_self ..)) ?_⟩)
      rw [List.getElem?_drop] at hu
      exact hc _ u hu

theorem rnode_spec {a : Int} (hk : K (.bool (nodeB a)) I L) : Cal Try.prog ω 35 #[.int .i64 a] K I L := by
  refine cal35 ?_
  unfold sh35
  simp only [Pv_some, fldV_p, nilV_p, nilV_f, lenV_s, capV_s, lenSV_s, strV_s, unV_not, unV_neg, pickV_t, pickV_f, exV_t, cvIV_i, binI_add, binI_sub, binI_mul, binI_eql, binI_neq, binI_lss, binI_leq, binI_gtr, binI_geq, binI_and, binI_or, binB_eql, binB_neq, binS_eql, binS_neq, binP_eql_nil, binP_neq_nil, binN_eql_nil, binN_neq_nil, binN_eql_nn, binN_neq_nn, Br_true, Br_false, cells_agg, List.getElem?_toArray, List.getElem?_cons_zero, List.getElem?_cons_succ, Nat.zero_add, Nat.add_zero, Nat.zero_mul]
  refine gd_split (fun h => ?_) (fun h => ?_)
  · simp only [decide_eq_true_eq] at h
    refine Gh.done ?_
    rwa [show decide (a ≤ 5) = nodeB a from by simp [nodeB, h]]
  · simp only [ne_eq, decide_eq_true_eq] at h
    refine Gh.done ?_
    rwa [show false = nodeB a from by simp [nodeB, h]]

/-- the place by search from the front -/
def posI (es : List E) (id : Int) : Int := match posOf es id with | none => -1 | some p => p

theorem rplace_spec {b : Nat} {X F : LH} {n : N} {id : Int} (hN : NetR 45 I b X n) (hlen : n.es.length ≤ 1000) (hk : K (.int .i64 (posI n.es id)) I (X ++ F)) :
    Cal Try.prog ω 36 #[.pointer (some ⟨b, 0, none⟩), .int .i64 id] K I (X ++ F) := by
  obtain ⟨lv, XL, cells, rfl, hS, hR⟩ := hN
  refine cal36 ?_
  unfold sh36
  refine loop (fun s I' L' => I' = I ∧ L' = (b, Obj.cells #[lv, .int .i64 n.last] 45 (0, 0)) :: (XL ++ F) ∧ ∃ k : Nat, s = (.int .i64 0, .int .i64 k, ()) ∧ k ≤ n.es.length ∧ ∀ j, j < k → ∀ e, n.es[j]? = some e → e.id ≠ id)
    (fun s _ _ => match s with | (_, .int _ k, _) => ((n.es.length : Int) - k).toNat | _ => 0) ⟨rfl, rfl, 0, rfl, by omega, fun j hj => by omega⟩ ?_
  rintro s I' L' ⟨rfl, rfl, k, rfl, hk1, hno⟩
  unfold sh36_3
  simp only [Pv_some, fldV_p, nilV_p, nilV_f, lenV_s, capV_s, lenSV_s, strV_s, unV_not, unV_neg, pickV_t, pickV_f, exV_t, cvIV_i, binI_add, binI_sub, binI_mul, binI_eql, binI_neq, binI_lss, binI_leq, binI_gtr, binI_geq, binI_and, binI_or, binB_eql, binB_neq, binS_eql, binS_neq, binP_eql_nil, binP_neq_nil, binN_eql_nil, binN_neq_nil, binN_eql_nn, binN_neq_nn, Br_true, Br_false, cells_agg, List.getElem?_toArray, List.getElem?_cons_zero, List.getElem?_cons_succ, Nat.zero_add, Nat.add_zero, Nat.zero_mul]
  refine rdb ?_
  rw [show lenV lv = some (.int .i64 n.es.length) from by obtain ⟨a, c, rfl⟩ := hS.form; rfl]
  simp only [Pv_some, fldV_p, nilV_p, nilV_f, lenV_s, capV_s, lenSV_s, strV_s, unV_not, unV_neg, pickV_t, pickV_f, exV_t, cvIV_i, binI_add, binI_sub, binI_mul, binI_eql, binI_neq, binI_lss, binI_leq, binI_gtr, binI_geq, binI_and, binI_or, binB_eql, binB_neq, binS_eql, binS_neq, binP_eql_nil, binP_neq_nil, binN_eql_nil, binN_neq_nil, binN_eql_nn, binN_neq_nn, Br_true, Br_false, cells_agg, List.getElem?_toArray, List.getElem?_cons_zero, List.getElem?_cons_succ, Nat.zero_add, Nat.add_zero, Nat.zero_mul]
  by_cases hlt : k < n.es.length
  · have h1 : ((k : Int) < n.es.length) := by omega
    simp only [h1, decide_true, Br_true]
    refine rdb ?_
    obtain ⟨ek, hek⟩ : ∃ x, n.es[k]? = some x := ⟨_, List.getElem?_eq_getElem hlt⟩
    obtain ⟨hgl, hg⟩ := hR.get hek
    obtain ⟨b5, hix, hc⟩ := hS.ix .i64 hlt
    have hcL := hc I' ((b, Obj.cells #[lv, .int .i64 n.last] 45 (0, 0)) :: (XL ++ F)) (fun x hx => by simp [hx])
    obtain ⟨bv, hcx, hB⟩ := _root_.id hg
    rw [hcx] at hcL
    simp only [hix, Pv_some, fldV_p, nilV_p, nilV_f, lenV_s, capV_s, lenSV_s, strV_s, unV_not, unV_neg, pickV_t, pickV_f, exV_t, cvIV_i, binI_add, binI_sub, binI_mul, binI_eql, binI_neq, binI_lss, binI_leq, binI_gtr, binI_geq, binI_and, binI_or, binB_eql, binB_neq, binS_eql, binS_neq, binP_eql_nil, binP_neq_nil, binN_eql_nil, binN_neq_nil, binN_eql_nn, binN_neq_nn, Br_true, Br_false, cells_agg, List.getElem?_toArray, List.getElem?_cons_zero, List.getElem?_cons_succ, Nat.zero_add, Nat.add_zero, Nat.zero_mul]
    refine rd1 (hcL 0 _ rfl) ?_
    simp only [Pv_some, fldV_p, nilV_p, nilV_f, lenV_s, capV_s, lenSV_s, strV_s, unV_not, unV_neg, pickV_t, pickV_f, exV_t, cvIV_i, binI_add, binI_sub, binI_mul, binI_eql, binI_neq, binI_lss, binI_leq, binI_gtr, binI_geq, binI_and, binI_or, binB_eql, binB_neq, binS_eql, binS_neq, binP_eql_nil, binP_neq_nil, binN_eql_nil, binN_neq_nil, binN_eql_nn, binN_neq_nn, Br_true, Br_false, cells_agg, List.getElem?_toArray, List.getElem?_cons_zero, List.getElem?_cons_succ, Nat.zero_add, Nat.add_zero, Nat.zero_mul]
    by_cases he : ek.id = id
    · have h2 : (ek.id == id) = true := by simpa using he
      simp only [h2, Br_true]
      have hp : posOf n.es id = some k := by
        rw [posOf, List.findIdx?_eq_some_iff_getElem]
        refine ⟨hlt, ?_, fun j hj => ?_⟩
        · rw [List.getElem?_eq_getElem hlt] at hek
          rw [Option.some.inj hek]; exact h2
        · have := hno j hj _ (List.getElem?_eq_getElem (by omega))
          simpa using this
      rw [show (k : Int) = posI n.es id from by simp [posI, hp]]
      exact Gh.done hk
    · have h2 : (ek.id == id) = false := by simpa using he
      simp only [h2, Br_false, wrap_i64 ((k : Int) + 1) (by omega)]
      refine Gh.done ⟨⟨rfl, rfl, k + 1, by simp, by omega, fun j hj e hje => ?_⟩, ?_⟩
      · rcases Nat.lt_or_eq_of_le (Nat.le_of_lt_succ hj) with h | h
        · exact hno j h e hje
        · subst h; rw [hek] at hje; rw [← Option.some.inj hje]; exact he
      · omega
  · have h1 : ¬ ((k : Int) < n.es.length) := by omega
    simp only [h1, decide_false, Br_false]
    unfold sh36_2 sh36_1
    have hp : posOf n.es id = none := by
      rw [posOf, List.findIdx?_eq_none_iff]
      intro x hx
      obtain ⟨j, hj⟩ := List.mem_iff_getElem?.1 hx
      have hjl := (List.getElem?_eq_some_iff.1 hj).1
      simpa using hno j (by omega) x hj
    rw [show (-1 : Int) = posI n.es id from by simp [posI, hp]]
    exact Gh.done hk

theorem rtake_spec {b p : Nat} {X F : LH} {n : N} (hN : NetR 45 I b X n) (hlen : n.es.length ≤ 1000) (hp : p < n.es.length) (hk : ∀ X', NetR 45 I b X' ⟨n.es.eraseIdx p, n.last⟩ → K (.tuple #[]) I (X' ++ F)) :
    Cal Try.prog ω 37 #[.pointer (some ⟨b, 0, none⟩), .int .i64 p] K I (X ++ F) := by
  obtain ⟨lv, XL, cells, rfl, hS, hR⟩ := hN
  have h1 := hR.one_cells (fun _ _ h => h.one)
  refine cal37 ?_
  unfold sh37
  simp only [Pv_some, fldV_p, nilV_p, nilV_f, lenV_s, capV_s, lenSV_s, strV_s, unV_not, unV_neg, pickV_t, pickV_f, exV_t, cvIV_i, binI_add, binI_sub, binI_mul, binI_eql, binI_neq, binI_lss, binI_leq, binI_gtr, binI_geq, binI_and, binI_or, binB_eql, binB_neq, binS_eql, binS_neq, binP_eql_nil, binP_neq_nil, binN_eql_nil, binN_neq_nil, binN_eql_nn, binN_neq_nn, Br_true, Br_false, cells_agg, List.getElem?_toArray, List.getElem?_cons_zero, List.getElem?_cons_succ, Nat.zero_add, Nat.add_zero, Nat.zero_mul, List.cons_append]
  refine rdb ?_
  obtain ⟨v1, e1, n1⟩ := SlO.pre (I := I) (L := (b, Obj.cells #[lv, .int .i64 n.last] 45 (0, 0)) :: (XL ++ F)) hS (Nat.le_of_lt hp) (fun x hx => by simp [hx])
  rw [e1]
  simp only [Pv_some, fldV_p, nilV_p, nilV_f, lenV_s, capV_s, lenSV_s, strV_s, unV_not, unV_neg, pickV_t, pickV_f, exV_t, cvIV_i, binI_add, binI_sub, binI_mul, binI_eql, binI_neq, binI_lss, binI_leq, binI_gtr, binI_geq, binI_and, binI_or, binB_eql, binB_neq, binS_eql, binS_neq, binP_eql_nil, binP_neq_nil, binN_eql_nil, binN_neq_nil, binN_eql_nn, binN_neq_nn, Br_true, Br_false, cells_agg, List.getElem?_toArray, List.getElem?_cons_zero, List.getElem?_cons_succ, Nat.zero_add, Nat.add_zero, Nat.zero_mul]
  refine app_own (X := []) rfl (SlO.none 30 5) n1 (fun u hu => h1 u (List.mem_of_mem_take hu)) (by omega) (by omega) (fun X1 w1 hX1 => ?_)
  refine rdb ?_
  simp only [Pv_some, fldV_p, nilV_p, nilV_f, lenV_s, capV_s, lenSV_s, strV_s, unV_not, unV_neg, pickV_t, pickV_f, exV_t, cvIV_i, binI_add, binI_sub, binI_mul, binI_eql, binI_neq, binI_lss, binI_leq, binI_gtr, binI_geq, binI_and, binI_or, binB_eql, binB_neq, binS_eql, binS_neq, binP_eql_nil, binP_neq_nil, binN_eql_nil, binN_neq_nil, binN_eql_nn, binN_neq_nn, Br_true, Br_false, cells_agg, List.getElem?_toArray, List.getElem?_cons_zero, List.getElem?_cons_succ, Nat.zero_add, Nat.add_zero, Nat.zero_mul, wrap_i64 ((p : Int) + 1) (by omega)]
  obtain ⟨v2, e2, n2⟩ := SlO.suf (I := I) (i := p + 1) (L := X1 ++ ((b, Obj.cells #[lv, .int .i64 n.last] 45 (0, 0)) :: (XL ++ F))) hS (by omega) (fun x hx => by simp [hx])
  rw [show ((p : Int) + 1) = ((p + 1 : Nat) : Int) from by omega, e2]
  simp only [Pv_some, fldV_p, nilV_p, nilV_f, lenV_s, capV_s, lenSV_s, strV_s, unV_not, unV_neg, pickV_t, pickV_f, exV_t, cvIV_i, binI_add, binI_sub, binI_mul, binI_eql, binI_neq, binI_lss, binI_leq, binI_gtr, binI_geq, binI_and, binI_or, binB_eql, binB_neq, binS_eql, binS_neq, binP_eql_nil, binP_neq_nil, binN_eql_nil, binN_neq_nil, binN_eql_nn, binN_neq_nn, Br_true, Br_false, cells_agg, List.getElem?_toArray, List.getElem?_cons_zero, List.getElem?_cons_succ, Nat.zero_add, Nat.add_zero, Nat.zero_mul]
  refine app_own (X := X1) rfl hX1 n2 (fun u hu => h1 u (List.mem_of_mem_drop hu)) (by omega) (by omega) (fun X2 w2 hX2 => ?_)
  obtain ⟨a2, cap2, rfl⟩ := hX2.form
  refine st1 rfl ?_
  refine Gh.to ((b, Obj.cells #[.slice a2 (0 + p + (n.es.length - (p + 1))) cap2, .int .i64 n.last] 45 (0, 0)) :: (X2 ++ F)) (Gh.done (hk (_ :: X2) ⟨_, X2, _, rfl, ?_, recs_erase hR⟩))
  rw [List.length_eraseIdx, if_pos hp]
  rw [show 0 + p + (n.es.length - (p + 1)) = n.es.length - 1 from by omega] at hX2 ⊢
  simpa using hX2

end
end Go.Proofs.Ytfeonffmeajpgaa
