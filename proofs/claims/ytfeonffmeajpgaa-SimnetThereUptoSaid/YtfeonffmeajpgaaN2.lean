import Derived.Test.YtfeonffmeajpgaaN1
set_option linter.unusedSimpArgs false
set_option linter.unusedVariables false
namespace Go.Proofs.Ytfeonffmeajpgaa
open Go.SL
set_option maxRecDepth 10000

section
variable {ω : Om} {I : Imm} {L : LH} {K : Value → M}

theorem clipb_spec {X F : LH} {v : Value} {cells : List Value} {len : Nat} (hS : SlO 5 1 X v cells len) (hk : ∀ v' I', Ext I I' → SlI I' 1 v' cells len → K v' I' F) : Cal Try.prog ω 46 #[v] K I (X ++ F) := by
  refine cal46 ?_
  unfold sh46
  obtain ⟨a, cap, rfl⟩ := hS.form
  simp only [Pv_some, fldV_p, nilV_p, nilV_f, lenV_s, capV_s, lenSV_s, strV_s, unV_not, unV_neg, pickV_t, pickV_f, exV_t, cvIV_i, binI_add, binI_sub, binI_mul, binI_eql, binI_neq, binI_lss, binI_leq, binI_gtr, binI_geq, binI_and, binI_or, binB_eql, binB_neq, binS_eql, binS_neq, binP_eql_nil, binP_neq_nil, binN_eql_nil, binN_neq_nil, binN_eql_nn, binN_neq_nn, Br_true, Br_false, cells_agg, List.getElem?_toArray, List.getElem?_cons_zero, List.getElem?_cons_succ, Nat.zero_add, Nat.add_zero, Nat.zero_mul]
  have hcap : len ≤ cap := by
    obtain ⟨_, h⟩ := hS
    rcases h with ⟨_, rfl, h⟩ | ⟨b, cap', cs, _, h, _, hle, _⟩
    · simp only [Value.slice.injEq] at h; omega
    · simp only [Value.slice.injEq] at h; omega
  have s1 : ∃ a', slcV 1 (.slice a len cap) none (some (.int .i64 len)) (some (.int .i64 len)) = some (.slice a' len len) ∧ (len ≠ 0 → a' = a.map (·.add 0)) := by
    simp only [slcV, Option.isNone_some, Bool.false_and, Bool.false_eq_true, if_false]
    rw [bnd_in _ _ _ _ hcap, Option.bind_some, bnd_in _ _ _ _ (Nat.le_refl _), Option.bind_some, show bndV none 0 len = some 0 from rfl, Option.bind_some]
    exact ⟨_, by simp only [Nat.sub_zero]; rfl, fun h => by rw [if_neg h, Nat.zero_mul]⟩
  obtain ⟨a', s1, ha'⟩ := s1
  rw [s1]
  simp only [Pv_some, fldV_p, nilV_p, nilV_f, lenV_s, capV_s, lenSV_s, strV_s, unV_not, unV_neg, pickV_t, pickV_f, exV_t, cvIV_i, binI_add, binI_sub, binI_mul, binI_eql, binI_neq, binI_lss, binI_leq, binI_gtr, binI_geq, binI_and, binI_or, binB_eql, binB_neq, binS_eql, binS_neq, binP_eql_nil, binP_neq_nil, binN_eql_nil, binN_neq_nil, binN_eql_nn, binN_neq_nn, Br_true, Br_false, cells_agg, List.getElem?_toArray, List.getElem?_cons_zero, List.getElem?_cons_succ, Nat.zero_add, Nat.add_zero, Nat.zero_mul]
  refine SlO.freeze hS (fun I' hI hS' => Gh.done (hk _ I' hI ?_))
  obtain ⟨hl, a2, cap2, h2, hle2, hb⟩ := hS'
  simp only [Value.slice.injEq] at h2
  obtain ⟨rfl, _, rfl⟩ := h2
  refine ⟨hl, a', len, rfl, Nat.le_refl _, fun h0 => ?_⟩
  obtain ⟨b, off, cs, T, fr, rfl, hI2, hc⟩ := hb h0
  exact ⟨b, off, cs, T, fr, by rw [ha' h0]; simp [add_none], hI2, hc⟩


theorem varsL_snoc {l : List Int} {k : Nat} (h : k < l.length) : varsL (l.take (k + 1)) = varsL (l.take k) ++ varL (l.getD k 0).toNat := by
  have : l.take (k + 1) = l.take k ++ [l[k]] := by rw [List.take_add_one, List.getElem?_eq_getElem h]; rfl
  unfold varsL
  rw [this, List.flatMap_append]
  simp [List.getD, h]
theorem varsL_len : ∀ {l : List Int}, (∀ x ∈ l, x < 9223372036854775808) → (varsL l).length ≤ 9 * l.length
  | [], _ => by simp [varsL]
  | x :: l, h => by
    have h1 := varsL_len (l := l) (fun y hy => h y (List.mem_cons_of_mem _ hy))
    have h2 := varL_9 (n := x.toNat) (by have := h x (List.mem_cons_self ..); omega)
    simp only [varsL, List.flatMap_cons, List.length_append, List.length_cons] at h1 ⊢
    omega

theorem wcount_spec {b : Nat} {X F : LH} {bs : List UInt8} {av : Value} {l : List Int} (h : WrR b X bs) (hA : Ints I av l) (hl : l.length ≤ 10) (hx : ∀ x ∈ l, 0 ≤ x ∧ x < 9223372036854775808) (hb : bs.length + 200 ≤ 140737488355328)
    (hk : ∀ X', WrR b X' (bs ++ varsL l) → K (.tuple #[]) I (X' ++ F)) : Cal Try.prog ω 42 #[.pointer (some ⟨b, 0, none⟩), av] K I (X ++ F) := by
  refine cal42 ?_
  have hln := Ints.len hA
  have hvl := varsL_len (l := l) (fun x hm => (hx x hm).2)
  unfold sh42
  simp only [hln, Pv_some, fldV_p, nilV_p, nilV_f, lenV_s, capV_s, lenSV_s, strV_s, unV_not, unV_neg, pickV_t, pickV_f, exV_t, cvIV_i, binI_add, binI_sub, binI_mul, binI_eql, binI_neq, binI_lss, binI_leq, binI_gtr, binI_geq, binI_and, binI_or, binB_eql, binB_neq, binS_eql, binS_neq, binP_eql_nil, binP_neq_nil, binN_eql_nil, binN_neq_nil, binN_eql_nn, binN_neq_nn, Br_true, Br_false, cells_agg, List.getElem?_toArray, List.getElem?_cons_zero, List.getElem?_cons_succ, Nat.zero_add, Nat.add_zero, Nat.zero_mul]
  refine loop (fun s I' L' => I' = I ∧ ∃ (k : Nat) (X6 : LH), s = (.int .i64 k, ()) ∧ k ≤ l.length ∧ WrR b X6 (bs ++ varsL (l.take k)) ∧ L' = X6 ++ F)
    (fun s _ _ => match s with | (.int _ k, _) => ((l.length : Int) - k).toNat | _ => 0) ⟨rfl, 0, X, rfl, by omega, by simpa [varsL] using h, rfl⟩ ?_
  rintro s I' L' ⟨rfl, k, X6, rfl, hk1, h6, rfl⟩
  simp only
  (first | (with_reducible refine unfE (sh42_1.eq_1 ..) ?_) | (with_reducible refine unfE (sh42_3.eq_1 ..) ?_) | (with_reducible refine unfE (sh42_4.eq_1 ..) ?_) | (with_reducible refine unfE (sh42_5.eq_1 ..) ?_) | (with_reducible refine unfE (sh42_2.eq_1 ..) ?_) | (with_reducible refine unfE (sh42.eq_1 ..) ?_))
  simp only [Pv_some, fldV_p, nilV_p, nilV_f, lenV_s, capV_s, lenSV_s, strV_s, unV_not, unV_neg, pickV_t, pickV_f, exV_t, cvIV_i, binI_add, binI_sub, binI_mul, binI_eql, binI_neq, binI_lss, binI_leq, binI_gtr, binI_geq, binI_and, binI_or, binB_eql, binB_neq, binS_eql, binS_neq, binP_eql_nil, binP_neq_nil, binN_eql_nil, binN_neq_nil, binN_eql_nn, binN_neq_nn, Br_true, Br_false, cells_agg, List.getElem?_toArray, List.getElem?_cons_zero, List.getElem?_cons_succ, Nat.zero_add, Nat.add_zero, Nat.zero_mul]
  by_cases hlt : k < l.length
  · have h1 : ((k : Int) < l.length) := by omega
    simp only [h1, decide_true, Br_true]
    obtain ⟨bb, off, hix, hc⟩ := Ints.at hA hlt
    simp only [hix, Pv_some, fldV_p, nilV_p, nilV_f, lenV_s, capV_s, lenSV_s, strV_s, unV_not, unV_neg, pickV_t, pickV_f, exV_t, cvIV_i, binI_add, binI_sub, binI_mul, binI_eql, binI_neq, binI_lss, binI_leq, binI_gtr, binI_geq, binI_and, binI_or, binB_eql, binB_neq, binS_eql, binS_neq, binP_eql_nil, binP_neq_nil, binN_eql_nil, binN_neq_nil, binN_eql_nn, binN_neq_nn, Br_true, Br_false, cells_agg, List.getElem?_toArray, List.getElem?_cons_zero, List.getElem?_cons_succ, Nat.zero_add, Nat.add_zero, Nat.zero_mul]
    refine rd1 (hc I' _ (Ext.refl I')) ?_
    have hxk := hx (l.getD k 0) (by simp [List.getD, hlt])
    have hs := varsL_snoc hlt
    have hvt := varsL_len (l := l.take (k + 1)) (fun x hm => (hx x (List.mem_of_mem_take hm)).2)
    rw [List.length_take] at hvt
    refine loop (fun s I2 L2 => I2 = I' ∧ ∃ (n : Nat) (X7 : LH) (acc : List UInt8), s = (.int .i64 n, ()) ∧ n < 9223372036854775808 ∧ WrR b X7 acc ∧ L2 = X7 ++ F ∧ acc ++ varL n = bs ++ varsL (l.take (k + 1)))
      (fun s _ _ => match s with | (.int _ k, _) => k.toNat | _ => 0) ⟨rfl, (l.getD k 0).toNat, X6, _, ?_, by omega, h6, rfl, by rw [hs]; simp⟩ ?_
    · rw [show (((l.getD k 0).toNat : Nat) : Int) = l.getD k 0 from by omega]
    rintro s I2 L2 ⟨rfl, n, X7, acc, rfl, hn, h7, rfl, he⟩
    simp only
    (first | (with_reducible refine unfE (sh42_1.eq_1 ..) ?_) | (with_reducible refine unfE (sh42_3.eq_1 ..) ?_) | (with_reducible refine unfE (sh42_4.eq_1 ..) ?_) | (with_reducible refine unfE (sh42_5.eq_1 ..) ?_) | (with_reducible refine unfE (sh42_2.eq_1 ..) ?_) | (with_reducible refine unfE (sh42.eq_1 ..) ?_))
    simp only [Pv_some, fldV_p, nilV_p, nilV_f, lenV_s, capV_s, lenSV_s, strV_s, unV_not, unV_neg, pickV_t, pickV_f, exV_t, cvIV_i, binI_add, binI_sub, binI_mul, binI_eql, binI_neq, binI_lss, binI_leq, binI_gtr, binI_geq, binI_and, binI_or, binB_eql, binB_neq, binS_eql, binS_neq, binP_eql_nil, binP_neq_nil, binN_eql_nil, binN_neq_nil, binN_eql_nn, binN_neq_nn, Br_true, Br_false, cells_agg, List.getElem?_toArray, List.getElem?_cons_zero, List.getElem?_cons_succ, Nat.zero_add, Nat.add_zero, Nat.zero_mul]
    have hlen := congrArg List.length he
    simp only [List.length_append] at hlen
    refine br_split (fun hge => ?_) (fun hge => ?_)
    · simp only [decide_eq_true_eq] at hge
      rw [varL_big (by omega)] at he hlen
      simp only [and127 hn, or128 (n := n % 128) (by omega), Pv_some, fldV_p, nilV_p, nilV_f, lenV_s, capV_s, lenSV_s, strV_s, unV_not, unV_neg, pickV_t, pickV_f, exV_t, cvIV_i, binI_add, binI_sub, binI_mul, binI_eql, binI_neq, binI_lss, binI_leq, binI_gtr, binI_geq, binI_and, binI_or, binB_eql, binB_neq, binS_eql, binS_neq, binP_eql_nil, binP_neq_nil, binN_eql_nil, binN_neq_nil, binN_eql_nn, binN_neq_nn, Br_true, Br_false, cells_agg, List.getElem?_toArray, List.getElem?_cons_zero, List.getElem?_cons_succ, Nat.zero_add, Nat.add_zero, Nat.zero_mul]
      simp only [List.length_cons] at hlen
      refine call (wbyte_spec h7 (by omega) (fun X8 h8 => ?_))
      rw [byte_next] at h8
      simp only [binI_shr _ _ _ _ (show (0 : Int) ≤ 7 by omega), Pv_some, fldV_p, nilV_p, nilV_f, lenV_s, capV_s, lenSV_s, strV_s, unV_not, unV_neg, pickV_t, pickV_f, exV_t, cvIV_i, binI_add, binI_sub, binI_mul, binI_eql, binI_neq, binI_lss, binI_leq, binI_gtr, binI_geq, binI_and, binI_or, binB_eql, binB_neq, binS_eql, binS_neq, binP_eql_nil, binP_neq_nil, binN_eql_nil, binN_neq_nil, binN_eql_nn, binN_neq_nn, Br_true, Br_false, cells_agg, List.getElem?_toArray, List.getElem?_cons_zero, List.getElem?_cons_succ, Nat.zero_add, Nat.add_zero, Nat.zero_mul]
      rw [show (n : Int).fdiv (2 ^ (min (7 : Int).toNat IntKind.i64.bits)) = ((n / 128 : Nat) : Int) from by
        rw [show (2 : Int) ^ (min (7 : Int).toNat IntKind.i64.bits) = 128 from by decide, Int.fdiv_eq_ediv_of_nonneg _ (by omega)]; omega]
      refine Gh.done ⟨⟨rfl, n / 128, X8, _, rfl, by omega, h8, rfl, ?_⟩, ?_⟩
      · rw [← he]; simp
      · simp; omega
    · simp only [decide_eq_false_iff_not] at hge
      rw [varL_small (by omega)] at he hlen
      unfold sh42_4 sh42_3
      simp only [List.length_cons, List.length_nil] at hlen
      refine call (wbyte_spec h7 (by omega) (fun X8 h8 => ?_))
      rw [byte_small (by omega), he] at h8
      simp only [Pv_some, fldV_p, nilV_p, nilV_f, lenV_s, capV_s, lenSV_s, strV_s, unV_not, unV_neg, pickV_t, pickV_f, exV_t, cvIV_i, binI_add, binI_sub, binI_mul, binI_eql, binI_neq, binI_lss, binI_leq, binI_gtr, binI_geq, binI_and, binI_or, binB_eql, binB_neq, binS_eql, binS_neq, binP_eql_nil, binP_neq_nil, binN_eql_nil, binN_neq_nil, binN_eql_nn, binN_neq_nn, Br_true, Br_false, cells_agg, List.getElem?_toArray, List.getElem?_cons_zero, List.getElem?_cons_succ, Nat.zero_add, Nat.add_zero, Nat.zero_mul, wrap_i64 ((k : Int) + 1) (by omega)]
      exact Gh.done ⟨⟨rfl, k + 1, X8, by simp, by omega, h8, rfl⟩, by omega⟩
  · have h1 : ¬ ((k : Int) < l.length) := by omega
    simp only [h1, decide_false, Br_false]
    unfold sh42_1
    rw [List.take_of_length_le (by omega)] at h6
    exact Gh.done (hk X6 h6)

/-- a literal list of ints -/
theorem range_map {α : Type} (n : Nat) (f : Nat → α) : (Array.range n).map f = ((List.range n).map f).toArray := by
  apply Array.ext'
  simp
theorem bld_ints {F : LH} {len : Nat} {parts : List (Nat × Value)} {K : Value → M} (l : List Int) (hf : Instr.fill (fun i => some (i * 1, 1)) ((List.range (len * 1)).map ((#[.int .i64 0] : Array Value)[· % 1]!)).toArray parts = some (i64s l).toArray) (hl : l.length = len)
    (hk : ∀ u I', Ext I I' → Ints I' u l → K u I' F) : BldS 3 1 #[.int .i64 0] len parts (gh K) I F := by
  refine ⟨(i64s l).toArray, by rw [range_map]; exact hf, fun b => ?_⟩
  refine SlO.freeze (X := [(b, _)]) (T := 3) (n := 1) (cells := i64s l) (len := len) ⟨by simp [i64s, hl], .inr ⟨b, len, _, rfl, rfl, by simp [i64s, hl], Nat.le_refl _, fun j u hu => by simpa using hu⟩⟩ (fun I' hI hS => Gh.done (hk _ I' hI ?_))
  subst hl
  exact hS
theorem bi1 {F : LH} {K : Value → M} {a : Int} (hk : ∀ u I', Ext I I' → Ints I' u [a] → K u I' F) : BldS 3 1 #[.int .i64 0] 1 [(0, .int .i64 a)] (gh K) I F := bld_ints [a] (by rfl) rfl hk
theorem bi2 {F : LH} {K : Value → M} {a b : Int} (hk : ∀ u I', Ext I I' → Ints I' u [a, b] → K u I' F) : BldS 3 1 #[.int .i64 0] 2 [(0, .int .i64 a), (1, .int .i64 b)] (gh K) I F := bld_ints [a, b] (by rfl) rfl hk
theorem bi3 {F : LH} {K : Value → M} {a b c : Int} (hk : ∀ u I', Ext I I' → Ints I' u [a, b, c] → K u I' F) : BldS 3 1 #[.int .i64 0] 3 [(0, .int .i64 a), (1, .int .i64 b), (2, .int .i64 c)] (gh K) I F := bld_ints [a, b, c] (by rfl) rfl hk
theorem bi4 {F : LH} {K : Value → M} {a b c d : Int} (hk : ∀ u I', Ext I I' → Ints I' u [a, b, c, d] → K u I' F) : BldS 3 1 #[.int .i64 0] 4 [(0, .int .i64 a), (1, .int .i64 b), (2, .int .i64 c), (3, .int .i64 d)] (gh K) I F := bld_ints [a, b, c, d] (by rfl) rfl hk
theorem bb4 {F : LH} {K : Value → M} {a b c d : UInt8} (hk : ∀ X u, SlO 5 1 X u (u8s [a, b, c, d]) 4 → K u I (X ++ F)) :
    BldS 5 1 #[.int .u8 0] 4 [(0, .int .u8 a.toNat), (1, .int .u8 b.toNat), (2, .int .u8 c.toNat), (3, .int .u8 d.toNat)] (gh K) I F := by
  refine ⟨(u8s [a, b, c, d]).toArray, by rw [range_map]; rfl, fun b' => ?_⟩
  exact Gh.done (hk [(b', _)] _ ⟨rfl, .inr ⟨b', 4, _, rfl, rfl, rfl, Nat.le_refl _, fun j u hu => by simpa using hu⟩⟩)

theorem SlO.one1 {T n len : Nat} {X : LH} {v : Value} {cells : List Value} (h : SlO T n X v cells len) : v.oneCell' = true := by
  obtain ⟨_, _, rfl⟩ := h.form
  rfl

theorem wtext_spec {b : Nat} {X F : LH} {bs t : List UInt8} {tv : Value} (h : WrR b X bs) (hT : Bytes I tv t) (hb : bs.length + t.length + 200 ≤ 140737488355328)
    (hk : ∀ X' I', Ext I I' → WrR b X' (bs ++ textL t) → K (.tuple #[]) I' (X' ++ F)) : Cal Try.prog ω 45 #[.pointer (some ⟨b, 0, none⟩), tv] K I (X ++ F) := by
  refine cal45 ?_
  unfold sh45
  simp only [Bytes.len hT, Pv_some, fldV_p, nilV_p, nilV_f, lenV_s, capV_s, lenSV_s, strV_s, unV_not, unV_neg, pickV_t, pickV_f, exV_t, cvIV_i, binI_add, binI_sub, binI_mul, binI_eql, binI_neq, binI_lss, binI_leq, binI_gtr, binI_geq, binI_and, binI_or, binB_eql, binB_neq, binS_eql, binS_neq, binP_eql_nil, binP_neq_nil, binN_eql_nil, binN_neq_nil, binN_eql_nn, binN_neq_nn, Br_true, Br_false, cells_agg, List.getElem?_toArray, List.getElem?_cons_zero, List.getElem?_cons_succ, Nat.zero_add, Nat.add_zero, Nat.zero_mul]
  refine bi1 (fun u I1 hI1 hu => ?_)
  refine call (wcount_spec h hu (by simp) (by simp; omega) (by omega) (fun X' h' => ?_))
  have h9 := varL_9 (n := t.length) (by omega)
  obtain ⟨v, Y, rfl, hS⟩ := h'
  simp only [varsL, List.flatMap_cons, List.flatMap_nil, List.append_nil, Int.toNat_natCast] at hS
  simp only [Pv_some, fldV_p, nilV_p, nilV_f, lenV_s, capV_s, lenSV_s, strV_s, unV_not, unV_neg, pickV_t, pickV_f, exV_t, cvIV_i, binI_add, binI_sub, binI_mul, binI_eql, binI_neq, binI_lss, binI_leq, binI_gtr, binI_geq, binI_and, binI_or, binB_eql, binB_neq, binS_eql, binS_neq, binP_eql_nil, binP_neq_nil, binN_eql_nil, binN_neq_nil, binN_eql_nn, binN_neq_nn, Br_true, Br_false, cells_agg, List.getElem?_toArray, List.getElem?_cons_zero, List.getElem?_cons_succ, Nat.zero_add, Nat.add_zero, Nat.zero_mul, List.cons_append]
  refine rdb ?_
  refine app_own (X := Y) rfl hS (SlI.news (hT.mono hI1)) (u8s_one t) (by simp; omega) (by simp; omega) (fun X2 v2 h2 => ?_)
  refine st1 (SlO.one1 h2) ?_
  refine Gh.to ((b, Obj.cells #[v2] 74 (0, 0)) :: (X2 ++ F)) (Gh.done (hk ((b, Obj.cells #[v2] 74 (0, 0)) :: X2) I1 hI1 ⟨v2, X2, rfl, ?_⟩))
  simpa [u8s, textL, Nat.add_assoc] using h2

/-! ### A message as bytes -/
def entsL (es : List LE) : List UInt8 := es.flatMap fun e => varL e.term.toNat ++ [byteOf e.kind] ++ textL e.data
def bodyL (m : RM) : List UInt8 :=
  if m.kind = 1 then varL m.index.toNat ++ varL m.logTerm.toNat
  else if m.kind = 2 then truthL m.ok
  else if m.kind = 3 then varL m.index.toNat ++ varL m.logTerm.toNat ++ varL m.commit.toNat ++ varL m.entries.length ++ entsL m.entries
  else if m.kind = 4 then truthL m.ok ++ varL m.index.toNat
  else if m.kind = 5 then varL m.index.toNat ++ varL m.logTerm.toNat ++ varL m.members.length ++ m.members.map byteOf ++ textL m.data
  else []
def encL (m : RM) : List UInt8 := [byteOf m.kind, byteOf m.group, byteOf m.frm, byteOf m.to] ++ varL m.term.toNat ++ bodyL m

end
end Go.Proofs.Ytfeonffmeajpgaa
