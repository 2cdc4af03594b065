import Derived.Test.YtfeonffmeajpgaaA
set_option linter.unusedSimpArgs false
set_option linter.unusedVariables false
namespace Go.Proofs.Ytfeonffmeajpgaa
open Go.SL
set_option maxRecDepth 10000

section
variable {ω : Om} {I : Imm} {L : LH} {K : Value → M}

/-- the closure: e.Id - id -/
theorem cmp_spec {e : E} {c : List Value} {id : Int} (he : EnvV I e c) (hk : K (.int .i64 (IntKind.i64.wrap (e.id - id))) I L) : Cal Try.prog ω 63 #[.agg c.toArray, .int .i64 id] K I L := by
  obtain ⟨bv, rfl, hB⟩ := he
  refine cal63 ?_
  unfold sh63
  refine newI (fun b1 => ?_)
  simp only [Pv_some, fldV_p, nilV_p, nilV_f, lenV_s, capV_s, lenSV_s, strV_s, unV_not, unV_neg, pickV_t, pickV_f, exV_t, cvIV_i, binI_add, binI_sub, binI_mul, binI_eql, binI_neq, binI_lss, binI_leq, binI_gtr, binI_geq, binI_and, binI_or, binB_eql, binB_neq, binS_eql, binS_neq, binP_eql_nil, binP_neq_nil, binN_eql_nil, binN_neq_nil, binN_eql_nn, binN_neq_nn, Br_true, Br_false, cells_agg, List.getElem?_toArray, List.getElem?_cons_zero, List.getElem?_cons_succ, Nat.zero_add, Nat.add_zero, Nat.zero_mul]
  refine rdb ?_
  simp only [Pv_some, fldV_p, nilV_p, nilV_f, lenV_s, capV_s, lenSV_s, strV_s, unV_not, unV_neg, pickV_t, pickV_f, exV_t, cvIV_i, binI_add, binI_sub, binI_mul, binI_eql, binI_neq, binI_lss, binI_leq, binI_gtr, binI_geq, binI_and, binI_or, binB_eql, binB_neq, binS_eql, binS_neq, binP_eql_nil, binP_neq_nil, binN_eql_nil, binN_neq_nil, binN_eql_nn, binN_neq_nn, Br_true, Br_false, cells_agg, List.getElem?_toArray, List.getElem?_cons_zero, List.getElem?_cons_succ, Nat.zero_add, Nat.add_zero, Nat.zero_mul]
  exact Gh.to L (Gh.done hk)

def posOf (es : List E) (id : Int) : Option Nat := es.findIdx? (fun e => e.id == id)
structure OkN (n : N) : Prop where
  sorted : n.es.Pairwise (fun a b => a.id < b.id)
  low : ∀ e ∈ n.es, 1 ≤ e.id
  high : ∀ e ∈ n.es, e.id ≤ n.last
  last0 : 0 ≤ n.last
  last1 : n.last < 4611686018427387904

def inI64 (x : Int) : Prop := -9223372036854775808 ≤ x ∧ x ≤ 9223372036854775807

theorem wrap_zero {a b : Int} (ha : inI64 a) (hb : inI64 b) : (IntKind.i64.wrap (a - b) == 0) = decide (a = b) := by
  unfold inI64 at *
  rw [IntKind.wrap_i64]
  by_cases h : a = b
  · subst h; simp
  · simp only [h, decide_false, beq_eq_false_iff_ne, ne_eq]
    omega

theorem pos_none {es : List E} {id : Int} (h : posOf es id = none) {i : Nat} {e : E} (hi : es[i]? = some e) : e.id ≠ id := by
  have := List.findIdx?_eq_none_iff.1 h e (List.mem_of_getElem? hi)
  simpa using this
theorem pos_some {es : List E} {id : Int} {p : Nat} (h : posOf es id = some p) : ∃ e, es[p]? = some e ∧ e.id = id := by
  obtain ⟨hlt, hp, _⟩ := List.findIdx?_eq_some_iff_getElem.1 h
  exact ⟨es[p], List.getElem?_eq_getElem hlt, by simpa using hp⟩
theorem OkN.lt {n : N} (h : OkN n) {i j : Nat} {a b : E} (hi : n.es[i]? = some a) (hj : n.es[j]? = some b) (hij : i < j) : a.id < b.id := by
  obtain ⟨h1, rfl⟩ := List.getElem?_eq_some_iff.1 hi
  obtain ⟨h2, rfl⟩ := List.getElem?_eq_some_iff.1 hj
  exact List.pairwise_iff_getElem.1 h.sorted i j h1 h2 hij
theorem OkN.rng {n : N} (h : OkN n) {i : Nat} {a : E} (hi : n.es[i]? = some a) : 1 ≤ a.id ∧ a.id ≤ n.last := ⟨h.low a (List.mem_of_getElem? hi), h.high a (List.mem_of_getElem? hi)⟩

set_option maxHeartbeats 400000 in
theorem bsearch_spec {X F : LH} {n : N} {v : Value} {cells : List Value} {id : Int} (hok : OkN n) (hS : SlO 30 5 X v cells n.es.length) (hR : Recs (EnvV I) 5 n.es cells) (hid : inI64 id) (hlen : n.es.length ≤ 1000)
    (hk0 : posOf n.es id = none → ∀ p : Nat, K (.tuple #[.int .i64 p, .bool false]) I (X ++ F)) (hk1 : ∀ p, posOf n.es id = some p → K (.tuple #[.int .i64 p, .bool true]) I (X ++ F)) :
    Cal Try.prog ω 62 #[v, .int .i64 id, .func (.func 63) #[] #[]] K I (X ++ F) := by
  obtain ⟨a1, cap1, rfl⟩ := hS.form
  refine cal62 ?_
  unfold sh62
  simp only [Pv_some, fldV_p, nilV_p, nilV_f, lenV_s, capV_s, lenSV_s, strV_s, unV_not, unV_neg, pickV_t, pickV_f, exV_t, cvIV_i, binI_add, binI_sub, binI_mul, binI_eql, binI_neq, binI_lss, binI_leq, binI_gtr, binI_geq, binI_and, binI_or, binB_eql, binB_neq, binS_eql, binS_neq, binP_eql_nil, binP_neq_nil, binN_eql_nil, binN_neq_nil, binN_eql_nn, binN_neq_nn, Br_true, Br_false, cells_agg, List.getElem?_toArray, List.getElem?_cons_zero, List.getElem?_cons_succ, Nat.zero_add, Nat.add_zero, Nat.zero_mul]
  refine loop (fun s I' L' => I' = I ∧ L' = X ++ F ∧ ∃ i j : Nat, s = (.int .i64 i, .int .i64 j, ()) ∧ i ≤ j ∧ j ≤ n.es.length ∧ ∀ p, posOf n.es id = some p → i ≤ p ∧ p ≤ j)
    (fun s _ _ => match s with | (.int _ i, .int _ j, _) => (j - i).toNat | _ => 0) ⟨rfl, rfl, 0, n.es.length, rfl, Nat.zero_le _, Nat.le_refl _, fun p hp => ⟨Nat.zero_le _, ?_⟩⟩ ?_
  · obtain ⟨e, he, _⟩ := pos_some hp
    have := (List.getElem?_eq_some_iff.1 he).1
    omega
  · rintro s I' L' ⟨rfl, rfl, i, j, rfl, hij, hj, hpos⟩
    unfold sh62_3
    simp only [Pv_some, fldV_p, nilV_p, nilV_f, lenV_s, capV_s, lenSV_s, strV_s, unV_not, unV_neg, pickV_t, pickV_f, exV_t, cvIV_i, binI_add, binI_sub, binI_mul, binI_eql, binI_neq, binI_lss, binI_leq, binI_gtr, binI_geq, binI_and, binI_or, binB_eql, binB_neq, binS_eql, binS_neq, binP_eql_nil, binP_neq_nil, binN_eql_nil, binN_neq_nil, binN_eql_nn, binN_neq_nn, Br_true, Br_false, cells_agg, List.getElem?_toArray, List.getElem?_cons_zero, List.getElem?_cons_succ, Nat.zero_add, Nat.add_zero, Nat.zero_mul]
    by_cases hlt : i < j
    · have hlt' : (i : Int) < j := by omega
      simp only [hlt', decide_true, Br_true]
      have hm : (i + j) / 2 < n.es.length := by omega
      have e1 : IntKind.i64.wrap ((i : Int) + j) = (i + j : Nat) := by rw [wrap_i64 _ (by omega)]; omega
      have e2 : IntKind.u64.wrap (((i + j : Nat)) : Int) = (i + j : Nat) := IntWalk.u64_in _ (by omega)
      have e3 : ((((i + j : Nat)) : Int)).fdiv (2 ^ (min (1 : Int).toNat IntKind.u64.bits)) = ((i + j) / 2 : Nat) := by
        simp [IntKind.bits, Int.fdiv_eq_ediv]
      have e4 : IntKind.i64.wrap ((((i + j) / 2 : Nat)) : Int) = ((i + j) / 2 : Nat) := wrap_i64 _ (by omega)
      rw [e1, e2, binI_shr _ _ _ _ (by omega), e3]
      simp only [Pv_some, fldV_p, nilV_p, nilV_f, lenV_s, capV_s, lenSV_s, strV_s, unV_not, unV_neg, pickV_t, pickV_f, exV_t, cvIV_i, binI_add, binI_sub, binI_mul, binI_eql, binI_neq, binI_lss, binI_leq, binI_gtr, binI_geq, binI_and, binI_or, binB_eql, binB_neq, binS_eql, binS_neq, binP_eql_nil, binP_neq_nil, binN_eql_nil, binN_neq_nil, binN_eql_nn, binN_neq_nn, Br_true, Br_false, cells_agg, List.getElem?_toArray, List.getElem?_cons_zero, List.getElem?_cons_succ, Nat.zero_add, Nat.add_zero, Nat.zero_mul]
      rw [e4]
      obtain ⟨b, hix, hc⟩ := hS.ix .i64 hm
      simp only [hix, Pv_some, fldV_p, nilV_p, nilV_f, lenV_s, capV_s, lenSV_s, strV_s, unV_not, unV_neg, pickV_t, pickV_f, exV_t, cvIV_i, binI_add, binI_sub, binI_mul, binI_eql, binI_neq, binI_lss, binI_leq, binI_gtr, binI_geq, binI_and, binI_or, binB_eql, binB_neq, binS_eql, binS_neq, binP_eql_nil, binP_neq_nil, binN_eql_nil, binN_neq_nil, binN_eql_nn, binN_neq_nn, Br_true, Br_false, cells_agg, List.getElem?_toArray, List.getElem?_cons_zero, List.getElem?_cons_succ, Nat.zero_add, Nat.add_zero, Nat.zero_mul]
      obtain ⟨em, hem⟩ : ∃ em, n.es[(i + j) / 2]? = some em := ⟨_, List.getElem?_eq_getElem hm⟩
      obtain ⟨hgl, hg⟩ := hR.get hem
      refine rdN hgl (hc I' _ (fun x hx => List.mem_append_left _ hx)) ?_
      show Cal Try.prog ω 63 _ _ _ _
      refine call (cmp_spec hg ?_)
      simp only [Pv_some, fldV_p, nilV_p, nilV_f, lenV_s, capV_s, lenSV_s, strV_s, unV_not, unV_neg, pickV_t, pickV_f, exV_t, cvIV_i, binI_add, binI_sub, binI_mul, binI_eql, binI_neq, binI_lss, binI_leq, binI_gtr, binI_geq, binI_and, binI_or, binB_eql, binB_neq, binS_eql, binS_neq, binP_eql_nil, binP_neq_nil, binN_eql_nil, binN_neq_nil, binN_eql_nn, binN_neq_nn, Br_true, Br_false, cells_agg, List.getElem?_toArray, List.getElem?_cons_zero, List.getElem?_cons_succ, Nat.zero_add, Nat.add_zero, Nat.zero_mul]
      have hrng := hok.rng hem
      have hl1 := hok.last1
      unfold inI64 at hid
      by_cases hneg : IntKind.i64.wrap (em.id - id) < 0
      · simp only [hneg, decide_true, Br_true, Pv_some, fldV_p, nilV_p, nilV_f, lenV_s, capV_s, lenSV_s, strV_s, unV_not, unV_neg, pickV_t, pickV_f, exV_t, cvIV_i, binI_add, binI_sub, binI_mul, binI_eql, binI_neq, binI_lss, binI_leq, binI_gtr, binI_geq, binI_and, binI_or, binB_eql, binB_neq, binS_eql, binS_neq, binP_eql_nil, binP_neq_nil, binN_eql_nil, binN_neq_nil, binN_eql_nn, binN_neq_nn, Br_true, Br_false, cells_agg, List.getElem?_toArray, List.getElem?_cons_zero, List.getElem?_cons_succ, Nat.zero_add, Nat.add_zero, Nat.zero_mul]
        unfold sh62_4
        refine Gh.done ⟨⟨rfl, rfl, (i + j) / 2 + 1, j, ?_, by omega, hj, fun p hp => ?_⟩, ?_⟩
        · rw [wrap_i64 _ (by omega)]; simp
        · have := hpos p hp
          refine ⟨?_, this.2⟩
          obtain ⟨ep, hep, hpid⟩ := pos_some hp
          have hprng := hok.rng hep
          have hne : ¬ (p ≤ (i + j) / 2) := by
            intro hle
            have : ep.id ≤ em.id := by
              rcases Nat.lt_or_eq_of_le hle with h | h
              · exact Int.le_of_lt (hok.lt hep hem h)
              · subst h; rw [hep] at hem; simp only [Option.some.injEq] at hem; rw [hem]; exact Int.le_refl _
            rw [wrap_i64 _ (by omega)] at hneg
            omega
          omega
        · simp only
          rw [wrap_i64 _ (by omega)]
          omega
      · simp only [hneg, decide_false, Br_false]
        unfold sh62_4
        refine Gh.done ⟨⟨rfl, rfl, i, (i + j) / 2, rfl, by omega, by omega, fun p hp => ?_⟩, ?_⟩
        · have := hpos p hp
          refine ⟨this.1, ?_⟩
          obtain ⟨ep, hep, hpid⟩ := pos_some hp
          have hprng := hok.rng hep
          have hne : ¬ ((i + j) / 2 < p) := by
            intro hle
            have := hok.lt hem hep hle
            rw [wrap_i64 _ (by omega)] at hneg
            omega
          omega
        · simp only
          omega
    · have hge : ¬ ((i : Int) < j) := by omega
      have hij' : i = j := by omega
      subst hij'
      simp only [hge, decide_false, Br_false]
      unfold sh62_2 sh62_1
      simp only [Pv_some, fldV_p, nilV_p, nilV_f, lenV_s, capV_s, lenSV_s, strV_s, unV_not, unV_neg, pickV_t, pickV_f, exV_t, cvIV_i, binI_add, binI_sub, binI_mul, binI_eql, binI_neq, binI_lss, binI_leq, binI_gtr, binI_geq, binI_and, binI_or, binB_eql, binB_neq, binS_eql, binS_neq, binP_eql_nil, binP_neq_nil, binN_eql_nil, binN_neq_nil, binN_eql_nn, binN_neq_nn, Br_true, Br_false, cells_agg, List.getElem?_toArray, List.getElem?_cons_zero, List.getElem?_cons_succ, Nat.zero_add, Nat.add_zero, Nat.zero_mul]
      by_cases hin : i < n.es.length
      · have hin' : (i : Int) < n.es.length := by omega
        simp only [hin', decide_true]
        refine gd_split (fun _ => ?_) (fun h => absurd rfl h)
        obtain ⟨b, hix, hc⟩ := hS.ix .i64 hin
        simp only [hix, Pv_some, fldV_p, nilV_p, nilV_f, lenV_s, capV_s, lenSV_s, strV_s, unV_not, unV_neg, pickV_t, pickV_f, exV_t, cvIV_i, binI_add, binI_sub, binI_mul, binI_eql, binI_neq, binI_lss, binI_leq, binI_gtr, binI_geq, binI_and, binI_or, binB_eql, binB_neq, binS_eql, binS_neq, binP_eql_nil, binP_neq_nil, binN_eql_nil, binN_neq_nil, binN_eql_nn, binN_neq_nn, Br_true, Br_false, cells_agg, List.getElem?_toArray, List.getElem?_cons_zero, List.getElem?_cons_succ, Nat.zero_add, Nat.add_zero, Nat.zero_mul]
        obtain ⟨em, hem⟩ : ∃ em, n.es[i]? = some em := ⟨_, List.getElem?_eq_getElem hin⟩
        obtain ⟨hgl, hg⟩ := hR.get hem
        refine rdN hgl (hc I' _ (fun x hx => List.mem_append_left _ hx)) ?_
        show Cal Try.prog ω 63 _ _ _ _
        refine call (cmp_spec hg ?_)
        have hrng := hok.rng hem
        have hl1 := hok.last1
        simp only [Pv_some, fldV_p, nilV_p, nilV_f, lenV_s, capV_s, lenSV_s, strV_s, unV_not, unV_neg, pickV_t, pickV_f, exV_t, cvIV_i, binI_add, binI_sub, binI_mul, binI_eql, binI_neq, binI_lss, binI_leq, binI_gtr, binI_geq, binI_and, binI_or, binB_eql, binB_neq, binS_eql, binS_neq, binP_eql_nil, binP_neq_nil, binN_eql_nil, binN_neq_nil, binN_eql_nn, binN_neq_nn, Br_true, Br_false, cells_agg, List.getElem?_toArray, List.getElem?_cons_zero, List.getElem?_cons_succ, Nat.zero_add, Nat.add_zero, Nat.zero_mul]
        rw [wrap_zero (by unfold inI64; omega) hid]
        cases hp : posOf n.es id with
        | none =>
          have := pos_none hp hem
          simp only [this, decide_false]
          exact Gh.done (hk0 hp i)
        | some p =>
          have h1 := hpos p hp
          have : p = i := by omega
          subst this
          obtain ⟨ep, hep, hpid⟩ := pos_some hp
          rw [hep] at hem
          simp only [Option.some.injEq] at hem
          subst hem
          simp only [hpid, decide_true]
          exact Gh.done (hk1 p hp)
      · have hin' : ¬ ((i : Int) < n.es.length) := by omega
        simp only [hin', decide_false]
        refine gd_split (fun h => by cases h) (fun _ => ?_)
        cases hp : posOf n.es id with
        | none => exact Gh.done (hk0 hp i)
        | some p =>
          have h1 := hpos p hp
          obtain ⟨ep, hep, hpid⟩ := pos_some hp
          have := (List.getElem?_eq_some_iff.1 hep).1
          omega

end
end Go.Proofs.Ytfeonffmeajpgaa
