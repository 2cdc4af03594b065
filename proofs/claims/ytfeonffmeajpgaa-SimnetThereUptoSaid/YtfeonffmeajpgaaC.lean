import Derived.Test.YtfeonffmeajpgaaB
set_option linter.unusedSimpArgs false
set_option linter.unusedVariables false
namespace Go.Proofs.Ytfeonffmeajpgaa
open Go.SL
set_option maxRecDepth 10000

section
variable {ω : Om} {I : Imm} {L : LH} {K : Value → M}

theorem EnvV.one {e : E} {c : List Value} (h : EnvV I e c) : ∀ u ∈ c, u.oneCell' = true := by
  obtain ⟨bv, rfl, hB⟩ := h
  obtain ⟨_, _, rfl⟩ := hB.form
  exact one_all rfl
theorem EnvV.len {e : E} {c : List Value} (h : EnvV I e c) : c.length = 5 := by obtain ⟨bv, rfl, hB⟩ := h; rfl

theorem place_spec {b : Nat} {X F : LH} {n : N} {id : Int} (hN : NetR 61 I b X n) (hok : OkN n) (hid : inI64 id) (hlen : n.es.length ≤ 1000)
    (hk0 : posOf n.es id = none → ∀ p : Nat, K (.tuple #[.int .i64 p, .bool false]) I (X ++ F)) (hk1 : ∀ p, posOf n.es id = some p → K (.tuple #[.int .i64 p, .bool true]) I (X ++ F)) :
    Cal Try.prog ω 33 #[.pointer (some ⟨b, 0, none⟩), .int .i64 id] K I (X ++ F) := by
  obtain ⟨lv, XL, cells, rfl, hS, hR⟩ := hN
  refine cal33 ?_
  unfold sh33
  simp only [Pv_some, fldV_p, nilV_p, nilV_f, lenV_s, capV_s, lenSV_s, strV_s, unV_not, unV_neg, pickV_t, pickV_f, exV_t, cvIV_i, binI_add, binI_sub, binI_mul, binI_eql, binI_neq, binI_lss, binI_leq, binI_gtr, binI_geq, binI_and, binI_or, binB_eql, binB_neq, binS_eql, binS_neq, binP_eql_nil, binP_neq_nil, binN_eql_nil, binN_neq_nil, binN_eql_nn, binN_neq_nn, Br_true, Br_false, cells_agg, List.getElem?_toArray, List.getElem?_cons_zero, List.getElem?_cons_succ, Nat.zero_add, Nat.add_zero, Nat.zero_mul, List.cons_append]
  refine rdb ?_
  refine call (Cal.split XL (bsearch_spec hok hS hR hid hlen (fun hp p => ?_) (fun p hp => ?_)))
  · simp only [Pv_some, fldV_p, nilV_p, nilV_f, lenV_s, capV_s, lenSV_s, strV_s, unV_not, unV_neg, pickV_t, pickV_f, exV_t, cvIV_i, binI_add, binI_sub, binI_mul, binI_eql, binI_neq, binI_lss, binI_leq, binI_gtr, binI_geq, binI_and, binI_or, binB_eql, binB_neq, binS_eql, binS_neq, binP_eql_nil, binP_neq_nil, binN_eql_nil, binN_neq_nil, binN_eql_nn, binN_neq_nn, Br_true, Br_false, cells_agg, List.getElem?_toArray, List.getElem?_cons_zero, List.getElem?_cons_succ, Nat.zero_add, Nat.add_zero, Nat.zero_mul]
    exact Gh.to (_ :: (XL ++ F)) (Gh.done (hk0 hp p))
  · simp only [Pv_some, fldV_p, nilV_p, nilV_f, lenV_s, capV_s, lenSV_s, strV_s, unV_not, unV_neg, pickV_t, pickV_f, exV_t, cvIV_i, binI_add, binI_sub, binI_mul, binI_eql, binI_neq, binI_lss, binI_leq, binI_gtr, binI_geq, binI_and, binI_or, binB_eql, binB_neq, binS_eql, binS_neq, binP_eql_nil, binP_neq_nil, binN_eql_nil, binN_neq_nil, binN_eql_nn, binN_neq_nn, Br_true, Br_false, cells_agg, List.getElem?_toArray, List.getElem?_cons_zero, List.getElem?_cons_succ, Nat.zero_add, Nat.add_zero, Nat.zero_mul]
    exact Gh.to (_ :: (XL ++ F)) (Gh.done (hk1 p hp))

set_option maxHeartbeats 400000 in
theorem delete_spec {X F : LH} {v : Value} {cells : List Value} {len i : Nat} (hS : SlO 30 5 X v cells len) (h1 : ∀ u ∈ cells, u.oneCell' = true) (hi : i < len) (hlen : len ≤ 1000)
    (hk : ∀ X' v', SlO 30 5 X' v' (cells.take (i * 5) ++ cells.drop ((i + 1) * 5)) (len - 1) → K v' I (X' ++ F)) :
    Cal Try.prog ω 34 #[v, .int .i64 i, .int .i64 ((i : Int) + 1)] K I (X ++ F) := by
  obtain ⟨hl, hS⟩ := hS
  rcases hS with ⟨rfl, rfl, rfl⟩ | ⟨b, cap, cs, rfl, rfl, hcs, hle, hc⟩
  · omega
  refine cal34 ?_
  unfold sh34
  have ei : ((i : Int) + 1) = ((i + 1 : Nat) : Int) := by omega
  rw [ei]
  simp only [Pv_some, fldV_p, nilV_p, nilV_f, lenV_s, capV_s, lenSV_s, strV_s, unV_not, unV_neg, pickV_t, pickV_f, exV_t, cvIV_i, binI_add, binI_sub, binI_mul, binI_eql, binI_neq, binI_lss, binI_leq, binI_gtr, binI_geq, binI_and, binI_or, binB_eql, binB_neq, binS_eql, binS_neq, binP_eql_nil, binP_neq_nil, binN_eql_nil, binN_neq_nil, binN_eql_nn, binN_neq_nn, Br_true, Br_false, cells_agg, List.getElem?_toArray, List.getElem?_cons_zero, List.getElem?_cons_succ, Nat.zero_add, Nat.add_zero, Nat.zero_mul]
  have s1 : ∃ v2, slcV 5 (.slice (some ⟨b, 0, none⟩) len cap) (some (.int .i64 i)) (some (.int .i64 (i + 1 : Nat))) (some (.int .i64 len)) = some v2 := by
    simp only [slcV, Option.isNone_some, Bool.false_and, Bool.false_eq_true, if_false]
    rw [bnd_in _ _ _ _ hle, Option.bind_some, bnd_in _ _ _ _ (by omega), Option.bind_some, bnd_in _ _ _ _ (by omega), Option.bind_some]
    exact ⟨_, rfl⟩
  obtain ⟨v2, s1⟩ := s1
  have ne : ((i : Int) == ((i + 1 : Nat) : Int)) = false := by simp; omega
  rw [s1]
  simp only [ne, Pv_some, fldV_p, nilV_p, nilV_f, lenV_s, capV_s, lenSV_s, strV_s, unV_not, unV_neg, pickV_t, pickV_f, exV_t, cvIV_i, binI_add, binI_sub, binI_mul, binI_eql, binI_neq, binI_lss, binI_leq, binI_gtr, binI_geq, binI_and, binI_or, binB_eql, binB_neq, binS_eql, binS_neq, binP_eql_nil, binP_neq_nil, binN_eql_nil, binN_neq_nil, binN_eql_nn, binN_neq_nn, Br_true, Br_false, cells_agg, List.getElem?_toArray, List.getElem?_cons_zero, List.getElem?_cons_succ, Nat.zero_add, Nat.add_zero, Nat.zero_mul]
  refine draw (Stay I _) (Stay.start I _) ?_
  have s2 : slcV 5 (.slice (some ⟨b, 0, none⟩) len cap) none (some (.int .i64 i)) none = some (.slice (some ⟨b, 0, none⟩) i cap) := by
    simp only [slcV, Option.isNone_some, Bool.false_and, Bool.false_eq_true, if_false]
    rw [show bndV none cap cap = some cap from rfl, Option.bind_some, bnd_in _ _ _ _ (by omega), Option.bind_some, show bndV none 0 i = some 0 from rfl, Option.bind_some]
    simp [add_none]
  obtain ⟨o', s3, ho'⟩ : ∃ o', slcV 5 (.slice (some ⟨b, 0, none⟩) len cap) (some (.int .i64 (i + 1 : Nat))) none none = some (.slice (some ⟨b, o', none⟩) (len - (i + 1)) (cap - (i + 1))) ∧ (i + 1 < len → o' = (i + 1) * 5) := by
    simp only [slcV, Option.isSome_none, Bool.and_false, Bool.false_eq_true, if_false]
    rw [show bndV none cap cap = some cap from rfl, Option.bind_some, show bndV none len cap = some len from rfl, Option.bind_some, bnd_in _ _ _ _ (by omega), Option.bind_some]
    by_cases hcap : cap = i + 1
    · exact ⟨0, by rw [if_pos hcap], by omega⟩
    · exact ⟨(i + 1) * 5, by rw [if_neg hcap]; simp [add_none], fun _ => rfl⟩
  rw [s2, Pv_some, s3, Pv_some]
  have hdl : (cells.drop ((i + 1) * 5)).length = (len - (i + 1)) * 5 := by rw [List.length_drop, hl, ← Nat.sub_mul]
  have hroom : 0 + i * 5 + (cells.drop ((i + 1) * 5)).length ≤ cs.size := by rw [hdl, hcs]; omega
  refine ⟨_, i, cap, len - (i + 1), cells.drop ((i + 1) * 5), rfl, ?_, fun u hu => h1 u (List.mem_of_mem_drop hu), .inr (.inl ⟨by omega, b, 0, cs, 30, [], F, rfl, rfl, by rw [hcs]; omega, Gh.done ?_⟩)⟩
  · by_cases hm : i + 1 < len
    · refine .inr (.inl ⟨b, o', _, rfl, hdl, fun j u hu => Cell.own (List.mem_cons_self ..) ?_⟩)
      rw [ho' hm]
      rw [List.getElem?_drop] at hu
      exact hc _ u hu
    · have h0 : len - (i + 1) = 0 := by omega
      rw [h0]
      refine .inl ⟨_, _, rfl, rfl, ?_⟩
      exact List.eq_nil_of_length_eq_zero (by rw [hdl, h0])
  have elen : i + (len - (i + 1)) = len - 1 := by omega
  rw [elen]
  simp only [Pv_some, fldV_p, nilV_p, nilV_f, lenV_s, capV_s, lenSV_s, strV_s, unV_not, unV_neg, pickV_t, pickV_f, exV_t, cvIV_i, binI_add, binI_sub, binI_mul, binI_eql, binI_neq, binI_lss, binI_leq, binI_gtr, binI_geq, binI_and, binI_or, binB_eql, binB_neq, binS_eql, binS_neq, binP_eql_nil, binP_neq_nil, binN_eql_nil, binN_neq_nil, binN_eql_nn, binN_neq_nn, Br_true, Br_false, cells_agg, List.getElem?_toArray, List.getElem?_cons_zero, List.getElem?_cons_succ, Nat.zero_add, Nat.add_zero, Nat.zero_mul]
  have s4 : slcV 5 (.slice (some ⟨b, 0, none⟩) (len - 1) cap) (some (.int .i64 (len - 1 : Nat))) (some (.int .i64 len)) none = some (.slice (some ⟨b, (len - 1) * 5, none⟩) 1 (cap - (len - 1))) := by
    simp only [slcV, Option.isNone_some, Bool.false_and, Bool.false_eq_true, if_false]
    rw [show bndV none cap cap = some cap from rfl, Option.bind_some, bnd_in _ _ _ _ (by omega), Option.bind_some, bnd_in _ _ _ _ (by omega), Option.bind_some, if_neg (by omega)]
    simp [add_none]; omega
  rw [s4, Pv_some]
  refine .inr ⟨b, (len - 1) * 5, 1, cap - (len - 1), _, 30, [], F, rfl, rfl, by rw [wr_size, hcs]; simp; omega, one_all rfl, Gh.done ?_⟩
  refine Gh.done (hk [(b, _)] _ ⟨?_, .inr ⟨b, cap, _, rfl, rfl, by rw [wr_size, wr_size]; exact hcs, by omega, fun j u hu => ?_⟩⟩)
  · rw [List.length_append, List.length_take, hdl, hl]; omega
  · have hjl : j < (len - 1) * 5 := by
      have := (List.getElem?_eq_some_iff.1 hu).1
      rw [List.length_append, List.length_take, hdl, hl] at this; omega
    rw [Nat.zero_add] at hroom
    rw [wr_get _ _ _ _ (by rw [wr_size, hcs]; simp [Builtin.zeroCells]; omega), if_pos hjl, wr_get _ _ _ _ hroom]
    rw [List.getElem?_append, List.length_take, hl, Nat.min_eq_left (by omega)] at hu
    by_cases hji : j < i * 5
    · rw [if_pos (by omega)]
      rw [if_pos hji, List.getElem?_take, if_pos hji] at hu
      exact hc j u hu
    · rw [if_neg (by omega), if_pos (by rw [hdl]; omega)]
      rw [if_neg hji] at hu
      simpa using hu

def zeroE : E := ⟨0, 0, 0, 0, []⟩
def delN (n : N) (id : Int) : E × Int × N := match posOf n.es id with
  | none => (zeroE, 91, n)
  | some p => ((n.es[p]?).getD zeroE, 0, ⟨n.es.eraseIdx p, n.last⟩)

theorem zeroE_V (I : Imm) : EnvV I zeroE [.int .i64 0, .int .i64 0, .int .i64 0, .int .i64 0, .slice none 0 0] := ⟨_, rfl, SlI.nil I 1 none 0⟩

theorem recs_erase {T : Type} {R : T → List Value → Prop} {xs : List T} {cells : List Value} {p m : Nat} (h : Recs R m xs cells) : Recs R m (xs.eraseIdx p) (cells.take (p * m) ++ cells.drop ((p + 1) * m)) := by
  rw [List.eraseIdx_eq_take_drop_succ]
  exact Recs.append (h.take p) (h.drop (p + 1))

set_option maxHeartbeats 400000 in
theorem deliver_spec {b : Nat} {X F : LH} {n : N} {id : Int} (hN : NetR 61 I b X n) (hok : OkN n) (hid : inI64 id) (hlen : n.es.length ≤ 1000)
    (hk : ∀ X' c, NetR 61 I b X' (delN n id).2.2 → EnvV I (delN n id).1 c → K (.tuple #[.agg c.toArray, .int .i64 (delN n id).2.1]) I (X' ++ F)) :
    Cal Try.prog ω 13 #[.pointer (some ⟨b, 0, none⟩), .int .i64 id] K I (X ++ F) := by
  refine cal13 ?_
  unfold sh13
  refine newI (fun b1 => ?_)
  refine call (Cal.split X (place_spec hN hok hid hlen (fun hp p => ?_) (fun p hp => ?_)))
  · have hd : delN n id = (zeroE, 91, n) := by simp [delN, hp]
    rw [hd] at hk
    simp only [Pv_some, fldV_p, nilV_p, nilV_f, lenV_s, capV_s, lenSV_s, strV_s, unV_not, unV_neg, pickV_t, pickV_f, exV_t, cvIV_i, binI_add, binI_sub, binI_mul, binI_eql, binI_neq, binI_lss, binI_leq, binI_gtr, binI_geq, binI_and, binI_or, binB_eql, binB_neq, binS_eql, binS_neq, binP_eql_nil, binP_neq_nil, binN_eql_nil, binN_neq_nil, binN_eql_nn, binN_neq_nn, Br_true, Br_false, cells_agg, List.getElem?_toArray, List.getElem?_cons_zero, List.getElem?_cons_succ, Nat.zero_add, Nat.add_zero, Nat.zero_mul, Bool.not_false]
    rw [show bldV #[.int .i64 0, .int .i64 0, .int .i64 0, .int .i64 0, .slice none 0 0] #[(0, 1), (1, 1), (2, 1), (3, 1), (4, 1)] [] = some (.agg #[.int .i64 0, .int .i64 0, .int .i64 0, .int .i64 0, .slice none 0 0]) from rfl]
    simp only [Pv_some, fldV_p, nilV_p, nilV_f, lenV_s, capV_s, lenSV_s, strV_s, unV_not, unV_neg, pickV_t, pickV_f, exV_t, cvIV_i, binI_add, binI_sub, binI_mul, binI_eql, binI_neq, binI_lss, binI_leq, binI_gtr, binI_geq, binI_and, binI_or, binB_eql, binB_neq, binS_eql, binS_neq, binP_eql_nil, binP_neq_nil, binN_eql_nil, binN_neq_nil, binN_eql_nn, binN_neq_nn, Br_true, Br_false, cells_agg, List.getElem?_toArray, List.getElem?_cons_zero, List.getElem?_cons_succ, Nat.zero_add, Nat.add_zero, Nat.zero_mul]
    refine stB rfl rfl (one_all rfl) ?_
    refine rdB rfl ?_
    exact Gh.to (X ++ F) (Gh.done (hk X _ hN (zeroE_V I)))
  · obtain ⟨ep, hep, hpid⟩ := pos_some hp
    have hd : delN n id = (ep, 0, ⟨n.es.eraseIdx p, n.last⟩) := by simp [delN, hp, hep]
    rw [hd] at hk
    have hpl : p < n.es.length := (List.getElem?_eq_some_iff.1 hep).1
    obtain ⟨lv, XL, cells, rfl, hS, hR⟩ := hN
    simp only [Pv_some, fldV_p, nilV_p, nilV_f, lenV_s, capV_s, lenSV_s, strV_s, unV_not, unV_neg, pickV_t, pickV_f, exV_t, cvIV_i, binI_add, binI_sub, binI_mul, binI_eql, binI_neq, binI_lss, binI_leq, binI_gtr, binI_geq, binI_and, binI_or, binB_eql, binB_neq, binS_eql, binS_neq, binP_eql_nil, binP_neq_nil, binN_eql_nil, binN_neq_nil, binN_eql_nn, binN_neq_nn, Br_true, Br_false, cells_agg, List.getElem?_toArray, List.getElem?_cons_zero, List.getElem?_cons_succ, Nat.zero_add, Nat.add_zero, Nat.zero_mul, Bool.not_true, List.cons_append]
    refine rdb ?_
    obtain ⟨bl, hix, hc⟩ := hS.ix .i64 hpl
    obtain ⟨hgl, hg⟩ := hR.get hep
    simp only [hix, Pv_some, fldV_p, nilV_p, nilV_f, lenV_s, capV_s, lenSV_s, strV_s, unV_not, unV_neg, pickV_t, pickV_f, exV_t, cvIV_i, binI_add, binI_sub, binI_mul, binI_eql, binI_neq, binI_lss, binI_leq, binI_gtr, binI_geq, binI_and, binI_or, binB_eql, binB_neq, binS_eql, binS_neq, binP_eql_nil, binP_neq_nil, binN_eql_nil, binN_neq_nil, binN_eql_nn, binN_neq_nn, Br_true, Br_false, cells_agg, List.getElem?_toArray, List.getElem?_cons_zero, List.getElem?_cons_succ, Nat.zero_add, Nat.add_zero, Nat.zero_mul]
    refine rdN hgl (hc I _ (fun x hx => by simp [hx])) ?_
    refine newI (fun b2 => ?_)
    refine stB hgl rfl hg.one ?_
    refine rdb ?_
    simp only [Pv_some, fldV_p, nilV_p, nilV_f, lenV_s, capV_s, lenSV_s, strV_s, unV_not, unV_neg, pickV_t, pickV_f, exV_t, cvIV_i, binI_add, binI_sub, binI_mul, binI_eql, binI_neq, binI_lss, binI_leq, binI_gtr, binI_geq, binI_and, binI_or, binB_eql, binB_neq, binS_eql, binS_neq, binP_eql_nil, binP_neq_nil, binN_eql_nil, binN_neq_nil, binN_eql_nn, binN_neq_nn, Br_true, Br_false, cells_agg, List.getElem?_toArray, List.getElem?_cons_zero, List.getElem?_cons_succ, Nat.zero_add, Nat.add_zero, Nat.zero_mul, wrap_i64 ((p : Int) + 1) (by omega)]
    refine call (Cal.split XL (delete_spec hS (hR.one_cells (fun _ _ h => h.one)) hpl hlen (fun X' v' hX' => ?_)))
    obtain ⟨a2, cap2, rfl⟩ := hX'.form
    try simp only [Pv_some, fldV_p, nilV_p, nilV_f, lenV_s, capV_s, lenSV_s, strV_s, unV_not, unV_neg, pickV_t, pickV_f, exV_t, cvIV_i, binI_add, binI_sub, binI_mul, binI_eql, binI_neq, binI_lss, binI_leq, binI_gtr, binI_geq, binI_and, binI_or, binB_eql, binB_neq, binS_eql, binS_neq, binP_eql_nil, binP_neq_nil, binN_eql_nil, binN_neq_nil, binN_eql_nn, binN_neq_nn, Br_true, Br_false, cells_agg, List.getElem?_toArray, List.getElem?_cons_zero, List.getElem?_cons_succ, Nat.zero_add, Nat.add_zero, Nat.zero_mul]
    refine st1 rfl ?_
    refine rdB hgl ?_
    refine stB hgl rfl hg.one ?_
    refine rdB hgl ?_
    refine Gh.to ((b, Obj.cells #[.slice a2 (n.es.length - 1) cap2, .int .i64 n.last] 61 (0, 0)) :: (X' ++ F)) (Gh.done (hk (_ :: X') _ ⟨_, X', _, rfl, ?_, recs_erase hR⟩ hg))
    rw [List.length_eraseIdx, if_pos hpl]
    exact hX'

theorem drop_spec {b : Nat} {X F : LH} {n : N} {id : Int} (hN : NetR 61 I b X n) (hok : OkN n) (hid : inI64 id) (hlen : n.es.length ≤ 1000)
    (hk : ∀ X', NetR 61 I b X' (delN n id).2.2 → K (.int .i64 (delN n id).2.1) I (X' ++ F)) : Cal Try.prog ω 15 #[.pointer (some ⟨b, 0, none⟩), .int .i64 id] K I (X ++ F) := by
  refine cal15 ?_
  unfold sh15
  refine call (deliver_spec hN hok hid hlen (fun X' c hN' hc => ?_))
  simp only [Pv_some, fldV_p, nilV_p, nilV_f, lenV_s, capV_s, lenSV_s, strV_s, unV_not, unV_neg, pickV_t, pickV_f, exV_t, cvIV_i, binI_add, binI_sub, binI_mul, binI_eql, binI_neq, binI_lss, binI_leq, binI_gtr, binI_geq, binI_and, binI_or, binB_eql, binB_neq, binS_eql, binS_neq, binP_eql_nil, binP_neq_nil, binN_eql_nil, binN_neq_nil, binN_eql_nn, binN_neq_nn, Br_true, Br_false, cells_agg, List.getElem?_toArray, List.getElem?_cons_zero, List.getElem?_cons_succ, Nat.zero_add, Nat.add_zero, Nat.zero_mul]
  refine newI (fun b1 => ?_)
  refine stB hc.len rfl hc.one ?_
  exact Gh.to (X' ++ F) (Gh.done (hk X' hN'))

def dblN (n : N) (id : Int) : Int × Int × N := match posOf n.es id with
  | none => (0, 91, n)
  | some p => sendN n ((n.es[p]?).getD zeroE)

theorem double_spec {b : Nat} {X F : LH} {n : N} {id : Int} (hN : NetR 61 I b X n) (hok : OkN n) (hid : inI64 id) (hlen : n.es.length ≤ 1000)
    (hk : ∀ X' I', Ext I I' → NetR 61 I' b X' (dblN n id).2.2 → K (.tuple #[.int .i64 (dblN n id).1, .int .i64 (dblN n id).2.1]) I' (X' ++ F)) : Cal Try.prog ω 12 #[.pointer (some ⟨b, 0, none⟩), .int .i64 id] K I (X ++ F) := by
  refine cal12 ?_
  unfold sh12
  refine call (place_spec hN hok hid hlen (fun hp p => ?_) (fun p hp => ?_))
  · have hd : dblN n id = (0, 91, n) := by simp [dblN, hp]
    rw [hd] at hk
    simp only [Pv_some, fldV_p, nilV_p, nilV_f, lenV_s, capV_s, lenSV_s, strV_s, unV_not, unV_neg, pickV_t, pickV_f, exV_t, cvIV_i, binI_add, binI_sub, binI_mul, binI_eql, binI_neq, binI_lss, binI_leq, binI_gtr, binI_geq, binI_and, binI_or, binB_eql, binB_neq, binS_eql, binS_neq, binP_eql_nil, binP_neq_nil, binN_eql_nil, binN_neq_nil, binN_eql_nn, binN_neq_nn, Br_true, Br_false, cells_agg, List.getElem?_toArray, List.getElem?_cons_zero, List.getElem?_cons_succ, Nat.zero_add, Nat.add_zero, Nat.zero_mul, Bool.not_false]
    exact Gh.done (hk X I (Ext.refl I) hN)
  · obtain ⟨ep, hep, hpid⟩ := pos_some hp
    have hd : dblN n id = sendN n ep := by simp [dblN, hp, hep]
    rw [hd] at hk
    have hpl : p < n.es.length := (List.getElem?_eq_some_iff.1 hep).1
    obtain ⟨lv, XL, cells, rfl, hS, hR⟩ := _root_.id hN
    simp only [Pv_some, fldV_p, nilV_p, nilV_f, lenV_s, capV_s, lenSV_s, strV_s, unV_not, unV_neg, pickV_t, pickV_f, exV_t, cvIV_i, binI_add, binI_sub, binI_mul, binI_eql, binI_neq, binI_lss, binI_leq, binI_gtr, binI_geq, binI_and, binI_or, binB_eql, binB_neq, binS_eql, binS_neq, binP_eql_nil, binP_neq_nil, binN_eql_nil, binN_neq_nil, binN_eql_nn, binN_neq_nn, Br_true, Br_false, cells_agg, List.getElem?_toArray, List.getElem?_cons_zero, List.getElem?_cons_succ, Nat.zero_add, Nat.add_zero, Nat.zero_mul, Bool.not_true, List.cons_append]
    refine rdb ?_
    obtain ⟨bl, hix, hc⟩ := hS.ix .i64 hpl
    obtain ⟨hgl, hg⟩ := hR.get hep
    simp only [hix, Pv_some, fldV_p, nilV_p, nilV_f, lenV_s, capV_s, lenSV_s, strV_s, unV_not, unV_neg, pickV_t, pickV_f, exV_t, cvIV_i, binI_add, binI_sub, binI_mul, binI_eql, binI_neq, binI_lss, binI_leq, binI_gtr, binI_geq, binI_and, binI_or, binB_eql, binB_neq, binS_eql, binS_neq, binP_eql_nil, binP_neq_nil, binN_eql_nil, binN_neq_nil, binN_eql_nn, binN_neq_nn, Br_true, Br_false, cells_agg, List.getElem?_toArray, List.getElem?_cons_zero, List.getElem?_cons_succ, Nat.zero_add, Nat.add_zero, Nat.zero_mul]
    refine rdN hgl (hc I _ (fun x hx => by simp [hx])) ?_
    refine call (send_spec (X := _ :: XL) hN hg hok.last0 hok.last1 (fun X' I' hI hN' => ?_))
    simp only [Pv_some, fldV_p, nilV_p, nilV_f, lenV_s, capV_s, lenSV_s, strV_s, unV_not, unV_neg, pickV_t, pickV_f, exV_t, cvIV_i, binI_add, binI_sub, binI_mul, binI_eql, binI_neq, binI_lss, binI_leq, binI_gtr, binI_geq, binI_and, binI_or, binB_eql, binB_neq, binS_eql, binS_neq, binP_eql_nil, binP_neq_nil, binN_eql_nil, binN_neq_nil, binN_eql_nn, binN_neq_nn, Br_true, Br_false, cells_agg, List.getElem?_toArray, List.getElem?_cons_zero, List.getElem?_cons_succ, Nat.zero_add, Nat.add_zero, Nat.zero_mul]
    exact Gh.done (hk X' I' hI hN')

theorem new_spec (hk : ∀ b, K (.pointer (some ⟨b, 0, none⟩)) I ((b, Obj.cells #[.slice none 0 0, .int .i64 0] 61 (0, 0)) :: L)) : Cal Try.prog ω 10 #[] K I L := by
  refine cal10 ?_
  unfold sh10
  rw [show bldV #[.slice none 0 0, .int .i64 0] #[(0, 1), (1, 1)] [] = some (.agg #[.slice none 0 0, .int .i64 0]) from rfl]
  simp only [Pv_some, fldV_p, nilV_p, nilV_f, lenV_s, capV_s, lenSV_s, strV_s, unV_not, unV_neg, pickV_t, pickV_f, exV_t, cvIV_i, binI_add, binI_sub, binI_mul, binI_eql, binI_neq, binI_lss, binI_leq, binI_gtr, binI_geq, binI_and, binI_or, binB_eql, binB_neq, binS_eql, binS_neq, binP_eql_nil, binP_neq_nil, binN_eql_nil, binN_neq_nil, binN_eql_nn, binN_neq_nn, Br_true, Br_false, cells_agg, List.getElem?_toArray, List.getElem?_cons_zero, List.getElem?_cons_succ, Nat.zero_add, Nat.add_zero, Nat.zero_mul]
  refine newI (fun b => ?_)
  exact Gh.done (hk b)
theorem newR (T : Nat) (I : Imm) (b : Nat) : NetR T I b [(b, Obj.cells #[.slice none 0 0, .int .i64 0] T (0, 0))] ⟨[], 0⟩ := ⟨_, [], [], rfl, SlO.none 30 5, rfl⟩

end
end Go.Proofs.Ytfeonffmeajpgaa
