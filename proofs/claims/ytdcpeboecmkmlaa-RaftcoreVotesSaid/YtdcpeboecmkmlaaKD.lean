/-
  A message as bytes: that it is written, whatever the bytes are.
-/
-- S2
import Derived.Test.YtdcpeboecmkmlaaKC
set_option linter.unusedSimpArgs false
set_option linter.unusedVariables false
namespace Go.Proofs.Ytdcpeboecmkmlaa
open Go.SL
set_option maxRecDepth 10000

/-- a writer with at most n bytes -/
def WrR (b : Nat) (X : LH) (n : Nat) : Prop := ∃ v l XO, X = (b, Obj.cells #[v] 153 (0, 0)) :: XO ∧ SlO 5 1 XO v (u8s l) l.length ∧ l.length ≤ n
theorem WrR.le {b n n' : Nat} {X : LH} (h : WrR b X n) (hn : n ≤ n') : WrR b X n' := by
  obtain ⟨v, l, XO, hX, hS, hl⟩ := h
  exact ⟨v, l, XO, hX, hS, by omega⟩
def byteOf (n : Int) : UInt8 := UInt8.ofNat (n % 256).toNat
theorem u8_wrap (n : Int) : IntKind.u8.wrap n = ((byteOf n).toNat : Int) := by
  have e : IntKind.u8.wrap n = n % 256 := by
    simp only [IntKind.wrap]
    simp [IntKind.bits, IntKind.signed]
  rw [e, byteOf]
  simp
  omega
section
variable {ω : Om} {I : Imm} {L : LH} {K : Value → M}

theorem wbyte_spec {b n : Nat} {X F : LH} {a : Int} (h : WrR b X n) (hn : n + 1 ≤ 150000000000000) (hk : ∀ X', WrR b X' (n + 1) → K (.tuple #[]) I (X' ++ F)) : Cal Try.prog ω 118 #[.pointer (some ⟨b, 0, none⟩), .int .i64 a] K I (X ++ F) := by
  obtain ⟨v, l, XO, rfl, hS, hl⟩ := h
  refine cal118 ?_
  unfold sh118
  simp only [Pv_some, fldV_p, nilV_p, nilV_f, lenV_s, capV_s, sLen, minV_i, maxV_i, strV_s, unV_not, unV_neg, pickV_t, pickV_f, exV_t, cvIV_i, binI_add, binI_sub, binI_mul, binI_eql, binI_neq, binI_lss, binI_leq, binI_gtr, binI_geq, binI_and, binI_or, binB_eql, binB_neq, sEq, sNe, sLt, sLe, sGt, sGe, stampEq, stampNe, fldv_agg, fldv_one, binP_eql_nil, binP_neq_nil, binN_eql_nil, binN_neq_nil, binN_eql_nn, binN_neq_nn, Br_true, Br_false, Gd_tt, Gd_ft, Gd_tf, Gd_ff, cells_agg, List.getElem?_toArray, List.getElem?_cons_zero, List.getElem?_cons_succ, Nat.zero_add, Nat.add_zero, Nat.zero_mul, List.drop_succ_cons, List.drop_zero, List.take_succ_cons, List.take_zero, List.nil_append, List.cons_append, Nat.reduceAdd, List.drop_nil, List.take_nil, bld_1, bld_2, bld_3, bld_4, bld_5, bld_6, bld_7, bld_8, bld_9, bld_10, bld_11, bld_12, bld_13, bld_14, bld_15, bld_16, bld_17, bld_18, List.cons_append]
  refine rdb ?_
  try simp only [Pv_some, fldV_p, nilV_p, nilV_f, lenV_s, capV_s, sLen, minV_i, maxV_i, strV_s, unV_not, unV_neg, pickV_t, pickV_f, exV_t, cvIV_i, binI_add, binI_sub, binI_mul, binI_eql, binI_neq, binI_lss, binI_leq, binI_gtr, binI_geq, binI_and, binI_or, binB_eql, binB_neq, sEq, sNe, sLt, sLe, sGt, sGe, stampEq, stampNe, fldv_agg, fldv_one, binP_eql_nil, binP_neq_nil, binN_eql_nil, binN_neq_nil, binN_eql_nn, binN_neq_nn, Br_true, Br_false, Gd_tt, Gd_ft, Gd_tf, Gd_ff, cells_agg, List.getElem?_toArray, List.getElem?_cons_zero, List.getElem?_cons_succ, Nat.zero_add, Nat.add_zero, Nat.zero_mul, List.drop_succ_cons, List.drop_zero, List.take_succ_cons, List.take_zero, List.nil_append, List.cons_append, Nat.reduceAdd, List.drop_nil, List.take_nil, bld_1, bld_2, bld_3, bld_4, bld_5, bld_6, bld_7, bld_8, bld_9, bld_10, bld_11, bld_12, bld_13, bld_14, bld_15, bld_16, bld_17, bld_18]
  refine bld_one rfl (by omega) rfl (fun X1 u hX1 => ?_)
  refine app_own (X := XO) rfl hS (hX1.news (fun x hx => List.mem_append_left _ hx)) (by simp [Value.cells, Value.oneCell']) (by omega) (by omega) (fun X' v' hX' => ?_)
  obtain ⟨a', c', rfl⟩ := hX'.form
  refine st1 rfl ?_
  refine Gh.to ((b, Obj.cells #[.slice a' (l.length + 1) c'] 153 (0, 0)) :: (X' ++ F)) (Gh.done ?_)
  refine hk ((b, _) :: X') ⟨_, l ++ [byteOf a], X', rfl, ?_, by simp; omega⟩
  have e := u8_wrap a
  simp only [Value.cells, e] at hX'
  simpa [u8s] using hX'
theorem wtruth_spec {b n : Nat} {X F : LH} {t : Bool} (h : WrR b X n) (hn : n + 1 ≤ 150000000000000) (hk : ∀ X', WrR b X' (n + 1) → K (.tuple #[]) I (X' ++ F)) : Cal Try.prog ω 117 #[.pointer (some ⟨b, 0, none⟩), .bool t] K I (X ++ F) := by
  refine cal117 ?_
  unfold sh117
  refine br_split (fun _ => ?_) (fun _ => ?_)
  all_goals exact call (wbyte_spec h hn (fun X' h' => Gh.done (hk X' h')))
theorem binI_shr7 (n : Int) (h : 0 ≤ n) (hn : n ≤ 9223372036854775807) : binIV .shr (.int .i64 n) (.int .u64 7) = some (.int .i64 (n / 128)) := by
  simp only [binIV]
  rw [if_neg (by omega)]
  rw [show (2 : Int) ^ (min (7 : Int).toNat IntKind.i64.bits) = 128 from by decide, Int.fdiv_eq_ediv_of_nonneg _ (by omega)]
theorem wcount_spec {b n : Nat} {X F : LH} {av : Value} {l : List Int} (h : WrR b X n) (hA : Ints I av l) (hl : l.length ≤ 10) (hx : ∀ x ∈ l, 0 ≤ x ∧ x ≤ 9223372036854775807) (hb : n + 200 ≤ 150000000000000)
    (hk : ∀ X', WrR b X' (n + 10 * l.length) → K (.tuple #[]) I (X' ++ F)) : Cal Try.prog ω 116 #[.pointer (some ⟨b, 0, none⟩), av] K I (X ++ F) := by
  refine cal116 ?_
  have hln := Ints.len hA
  unfold sh116
  simp only [hln, Pv_some, fldV_p, nilV_p, nilV_f, lenV_s, capV_s, sLen, minV_i, maxV_i, strV_s, unV_not, unV_neg, pickV_t, pickV_f, exV_t, cvIV_i, binI_add, binI_sub, binI_mul, binI_eql, binI_neq, binI_lss, binI_leq, binI_gtr, binI_geq, binI_and, binI_or, binB_eql, binB_neq, sEq, sNe, sLt, sLe, sGt, sGe, stampEq, stampNe, fldv_agg, fldv_one, binP_eql_nil, binP_neq_nil, binN_eql_nil, binN_neq_nil, binN_eql_nn, binN_neq_nn, Br_true, Br_false, Gd_tt, Gd_ft, Gd_tf, Gd_ff, cells_agg, List.getElem?_toArray, List.getElem?_cons_zero, List.getElem?_cons_succ, Nat.zero_add, Nat.add_zero, Nat.zero_mul, List.drop_succ_cons, List.drop_zero, List.take_succ_cons, List.take_zero, List.nil_append, List.cons_append, Nat.reduceAdd, List.drop_nil, List.take_nil, bld_1, bld_2, bld_3, bld_4, bld_5, bld_6, bld_7, bld_8, bld_9, bld_10, bld_11, bld_12, bld_13, bld_14, bld_15, bld_16, bld_17, bld_18]
  refine loop (fun m s I' L' => I' = I ∧ ∃ (k : Nat) (X6 : LH), k + m = l.length ∧ s = (.int .i64 k, ()) ∧ WrR b X6 (n + 10 * k) ∧ L' = X6 ++ F) l.length ⟨rfl, 0, X, by omega, rfl, h, rfl⟩ ?_
  rintro m s I' L' ⟨rfl, k, X6, hkm, rfl, h6, rfl⟩
  unfold sh116_2
  try simp only [Pv_some, fldV_p, nilV_p, nilV_f, lenV_s, capV_s, sLen, minV_i, maxV_i, strV_s, unV_not, unV_neg, pickV_t, pickV_f, exV_t, cvIV_i, binI_add, binI_sub, binI_mul, binI_eql, binI_neq, binI_lss, binI_leq, binI_gtr, binI_geq, binI_and, binI_or, binB_eql, binB_neq, sEq, sNe, sLt, sLe, sGt, sGe, stampEq, stampNe, fldv_agg, fldv_one, binP_eql_nil, binP_neq_nil, binN_eql_nil, binN_neq_nil, binN_eql_nn, binN_neq_nn, Br_true, Br_false, Gd_tt, Gd_ft, Gd_tf, Gd_ff, cells_agg, List.getElem?_toArray, List.getElem?_cons_zero, List.getElem?_cons_succ, Nat.zero_add, Nat.add_zero, Nat.zero_mul, List.drop_succ_cons, List.drop_zero, List.take_succ_cons, List.take_zero, List.nil_append, List.cons_append, Nat.reduceAdd, List.drop_nil, List.take_nil, bld_1, bld_2, bld_3, bld_4, bld_5, bld_6, bld_7, bld_8, bld_9, bld_10, bld_11, bld_12, bld_13, bld_14, bld_15, bld_16, bld_17, bld_18]
  refine br_split (fun hlt => ?_) (fun hlt => ?_)
  · simp at hlt
    obtain ⟨bb, off, hix, hc⟩ := ints_at hA (i := k) (by omega) (by omega)
    simp only [hix, Pv_some, fldV_p, nilV_p, nilV_f, lenV_s, capV_s, sLen, minV_i, maxV_i, strV_s, unV_not, unV_neg, pickV_t, pickV_f, exV_t, cvIV_i, binI_add, binI_sub, binI_mul, binI_eql, binI_neq, binI_lss, binI_leq, binI_gtr, binI_geq, binI_and, binI_or, binB_eql, binB_neq, sEq, sNe, sLt, sLe, sGt, sGe, stampEq, stampNe, fldv_agg, fldv_one, binP_eql_nil, binP_neq_nil, binN_eql_nil, binN_neq_nil, binN_eql_nn, binN_neq_nn, Br_true, Br_false, Gd_tt, Gd_ft, Gd_tf, Gd_ff, cells_agg, List.getElem?_toArray, List.getElem?_cons_zero, List.getElem?_cons_succ, Nat.zero_add, Nat.add_zero, Nat.zero_mul, List.drop_succ_cons, List.drop_zero, List.take_succ_cons, List.take_zero, List.nil_append, List.cons_append, Nat.reduceAdd, List.drop_nil, List.take_nil, bld_1, bld_2, bld_3, bld_4, bld_5, bld_6, bld_7, bld_8, bld_9, bld_10, bld_11, bld_12, bld_13, bld_14, bld_15, bld_16, bld_17, bld_18]
    refine rd1 (hc I' _ (Ext.refl I')) ?_
    have hxk := hx (geti l (k : Int)) (by rw [geti_nat hlt]; exact List.getElem_mem hlt)
    refine loop (fun j s I2 L2 => I2 = I' ∧ ∃ (y : Int) (X7 : LH), s = (.int .i64 y, ()) ∧ j ≤ 8 ∧ 0 ≤ y ∧ y ≤ 9223372036854775807 ∧ y < (128 : Int) ^ (j + 1) ∧ WrR b X7 (n + 10 * k + (8 - j)) ∧ L2 = X7 ++ F) 8 ⟨rfl, _, X6, rfl, by omega, by omega, by omega, by omega, h6.le (by omega), rfl⟩ ?_
    rintro j s I2 L2 ⟨rfl, y, X7, rfl, hj, hy0, hy, hyj, h7, rfl⟩
    unfold sh116_5
    try simp only [Pv_some, fldV_p, nilV_p, nilV_f, lenV_s, capV_s, sLen, minV_i, maxV_i, strV_s, unV_not, unV_neg, pickV_t, pickV_f, exV_t, cvIV_i, binI_add, binI_sub, binI_mul, binI_eql, binI_neq, binI_lss, binI_leq, binI_gtr, binI_geq, binI_and, binI_or, binB_eql, binB_neq, sEq, sNe, sLt, sLe, sGt, sGe, stampEq, stampNe, fldv_agg, fldv_one, binP_eql_nil, binP_neq_nil, binN_eql_nil, binN_neq_nil, binN_eql_nn, binN_neq_nn, Br_true, Br_false, Gd_tt, Gd_ft, Gd_tf, Gd_ff, cells_agg, List.getElem?_toArray, List.getElem?_cons_zero, List.getElem?_cons_succ, Nat.zero_add, Nat.add_zero, Nat.zero_mul, List.drop_succ_cons, List.drop_zero, List.take_succ_cons, List.take_zero, List.nil_append, List.cons_append, Nat.reduceAdd, List.drop_nil, List.take_nil, bld_1, bld_2, bld_3, bld_4, bld_5, bld_6, bld_7, bld_8, bld_9, bld_10, bld_11, bld_12, bld_13, bld_14, bld_15, bld_16, bld_17, bld_18]
    refine br_split (fun hge => ?_) (fun hge => ?_)
    · simp at hge
      have hj0 : j ≠ 0 := by intro e; subst e; simp at hyj; omega
      obtain ⟨j', rfl⟩ : ∃ j', j = j' + 1 := ⟨j - 1, by omega⟩
      refine call (wbyte_spec h7 (by omega) (fun X8 h8 => ?_))
      simp only [binI_shr7 y hy0 hy, Pv_some, fldV_p, nilV_p, nilV_f, lenV_s, capV_s, sLen, minV_i, maxV_i, strV_s, unV_not, unV_neg, pickV_t, pickV_f, exV_t, cvIV_i, binI_add, binI_sub, binI_mul, binI_eql, binI_neq, binI_lss, binI_leq, binI_gtr, binI_geq, binI_and, binI_or, binB_eql, binB_neq, sEq, sNe, sLt, sLe, sGt, sGe, stampEq, stampNe, fldv_agg, fldv_one, binP_eql_nil, binP_neq_nil, binN_eql_nil, binN_neq_nil, binN_eql_nn, binN_neq_nn, Br_true, Br_false, Gd_tt, Gd_ft, Gd_tf, Gd_ff, cells_agg, List.getElem?_toArray, List.getElem?_cons_zero, List.getElem?_cons_succ, Nat.zero_add, Nat.add_zero, Nat.zero_mul, List.drop_succ_cons, List.drop_zero, List.take_succ_cons, List.take_zero, List.nil_append, List.cons_append, Nat.reduceAdd, List.drop_nil, List.take_nil, bld_1, bld_2, bld_3, bld_4, bld_5, bld_6, bld_7, bld_8, bld_9, bld_10, bld_11, bld_12, bld_13, bld_14, bld_15, bld_16, bld_17, bld_18]
      refine Gh.done ⟨j', by omega, rfl, y / 128, X8, rfl, by omega, by omega, by omega, Int.ediv_lt_of_lt_mul (by omega) (by rw [← Int.pow_succ]; exact hyj), ?_, rfl⟩
      rw [show n + 10 * k + (8 - j') = n + 10 * k + (8 - (j' + 1)) + 1 by omega]; exact h8
    · unfold sh116_3
      refine call (wbyte_spec h7 (by omega) (fun X8 h8 => ?_))
      simp only [Pv_some, fldV_p, nilV_p, nilV_f, lenV_s, capV_s, sLen, minV_i, maxV_i, strV_s, unV_not, unV_neg, pickV_t, pickV_f, exV_t, cvIV_i, binI_add, binI_sub, binI_mul, binI_eql, binI_neq, binI_lss, binI_leq, binI_gtr, binI_geq, binI_and, binI_or, binB_eql, binB_neq, sEq, sNe, sLt, sLe, sGt, sGe, stampEq, stampNe, fldv_agg, fldv_one, binP_eql_nil, binP_neq_nil, binN_eql_nil, binN_neq_nil, binN_eql_nn, binN_neq_nn, Br_true, Br_false, Gd_tt, Gd_ft, Gd_tf, Gd_ff, cells_agg, List.getElem?_toArray, List.getElem?_cons_zero, List.getElem?_cons_succ, Nat.zero_add, Nat.add_zero, Nat.zero_mul, List.drop_succ_cons, List.drop_zero, List.take_succ_cons, List.take_zero, List.nil_append, List.cons_append, Nat.reduceAdd, List.drop_nil, List.take_nil, bld_1, bld_2, bld_3, bld_4, bld_5, bld_6, bld_7, bld_8, bld_9, bld_10, bld_11, bld_12, bld_13, bld_14, bld_15, bld_16, bld_17, bld_18, wrap_i64 ((k : Int) + 1) (by omega)]
      exact Gh.done ⟨m - 1, by omega, rfl, k + 1, X8, by omega, by simp, h8.le (by omega), rfl⟩
  · simp at hlt
    exact Gh.done (hk X6 (h6.le (by omega)))

theorem range_map {α : Type} (n : Nat) (f : Nat → α) : (Array.range n).map f = ((List.range n).map f).toArray := by
  apply Array.ext'
  simp
theorem bld_ints {F : LH} {len : Nat} {parts : List (Nat × Value)} {K : Value → M} (l : List Int) (hf : Instr.fill (fun i => some (i * 1, 1)) ((List.range (len * 1)).map ((#[.int .i64 0] : Array Value)[· % 1]!)).toArray parts = some (i64s l).toArray) (hl : l.length = len)
    (hk : ∀ u I', Ext I I' → Ints I' u l → K u I' F) : BldS 3 1 #[.int .i64 0] len parts (gh K) I F := by
  refine ⟨(i64s l).toArray, by rw [range_map]; exact hf, fun b => ?_⟩
  refine SlO.freeze (X := [(b, _)]) (T := 3) (n := 1) (cells := i64s l) (len := len) ⟨by simp [i64s, hl], .inr ⟨b, len, _, rfl, rfl, by simp [i64s, hl], Nat.le_refl _, fun j u hu => by simpa using hu⟩⟩ (fun I' hI hS => Gh.done (hk _ I' hI ?_))
  subst hl
  exact hS
theorem bi1 {F : LH} {K : Value → M} {a : Int} (hk : ∀ u I', Ext I I' → Ints I' u [a] → K u I' F) : BldS 3 1 #[.int .i64 0] 1 [(0, .int .i64 a)] (gh K) I F := bld_ints [a] (by rfl) rfl hk
theorem bi2 {F : LH} {K : Value → M} {a b : Int} (hk : ∀ u I', Ext I I' → Ints I' u [a, b] → K u I' F) : BldS 3 1 #[.int .i64 0] 2 [(0, .int .i64 a), (1, .int .i64 b)] (gh K) I F := bld_ints [a, b] (by rfl) rfl hk
theorem bi3 {F : LH} {K : Value → M} {a b c : Int} (hk : ∀ u I', Ext I I' → Ints I' u [a, b, c] → K u I' F) : BldS 3 1 #[.int .i64 0] 3 [(0, .int .i64 a), (1, .int .i64 b), (2, .int .i64 c)] (gh K) I F := bld_ints [a, b, c] (by rfl) rfl hk
theorem bi4 {F : LH} {K : Value → M} {a b c d : Int} (hk : ∀ u I', Ext I I' → Ints I' u [a, b, c, d] → K u I' F) : BldS 3 1 #[.int .i64 0] 4 [(0, .int .i64 a), (1, .int .i64 b), (2, .int .i64 c), (3, .int .i64 d)] (gh K) I F := bld_ints [a, b, c, d] (by rfl) rfl hk
theorem bb4 {F : LH} {K : Value → M} {a b c d : UInt8} (hk : ∀ X u, SlO 5 1 X u (u8s [a, b, c, d]) 4 → K u I (X ++ F)) :
    BldS 5 1 #[.int .u8 0] 4 [(0, .int .u8 a.toNat), (1, .int .u8 b.toNat), (2, .int .u8 c.toNat), (3, .int .u8 d.toNat)] (gh K) I F := by
  refine ⟨(u8s [a, b, c, d]).toArray, by rw [range_map]; rfl, fun b' => ?_⟩
  exact Gh.done (hk [(b', _)] _ ⟨rfl, .inr ⟨b', 4, _, rfl, rfl, rfl, Nat.le_refl _, fun j u hu => by simpa using hu⟩⟩)
theorem SlO.one1 {T n len : Nat} {X : LH} {v : Value} {cells : List Value} (h : SlO T n X v cells len) : v.oneCell' = true := by
  obtain ⟨_, _, rfl⟩ := h.form
  rfl

theorem wtext_spec {b n : Nat} {X F : LH} {t : List UInt8} {tv : Value} (h : WrR b X n) (hT : Bytes I tv t) (hb : n + t.length + 200 ≤ 150000000000000)
    (hk : ∀ X' I', Ext I I' → WrR b X' (n + 10 + t.length) → K (.tuple #[]) I' (X' ++ F)) : Cal Try.prog ω 119 #[.pointer (some ⟨b, 0, none⟩), tv] K I (X ++ F) := by
  refine cal119 ?_
  unfold sh119
  simp only [Bytes.len hT, Pv_some, fldV_p, nilV_p, nilV_f, lenV_s, capV_s, sLen, minV_i, maxV_i, strV_s, unV_not, unV_neg, pickV_t, pickV_f, exV_t, cvIV_i, binI_add, binI_sub, binI_mul, binI_eql, binI_neq, binI_lss, binI_leq, binI_gtr, binI_geq, binI_and, binI_or, binB_eql, binB_neq, sEq, sNe, sLt, sLe, sGt, sGe, stampEq, stampNe, fldv_agg, fldv_one, binP_eql_nil, binP_neq_nil, binN_eql_nil, binN_neq_nil, binN_eql_nn, binN_neq_nn, Br_true, Br_false, Gd_tt, Gd_ft, Gd_tf, Gd_ff, cells_agg, List.getElem?_toArray, List.getElem?_cons_zero, List.getElem?_cons_succ, Nat.zero_add, Nat.add_zero, Nat.zero_mul, List.drop_succ_cons, List.drop_zero, List.take_succ_cons, List.take_zero, List.nil_append, List.cons_append, Nat.reduceAdd, List.drop_nil, List.take_nil, bld_1, bld_2, bld_3, bld_4, bld_5, bld_6, bld_7, bld_8, bld_9, bld_10, bld_11, bld_12, bld_13, bld_14, bld_15, bld_16, bld_17, bld_18]
  refine bi1 (fun u I1 hI1 hu => ?_)
  refine call (wcount_spec h hu (by simp) (by simp; omega) (by omega) (fun X' h' => ?_))
  obtain ⟨v, l, Y, rfl, hS, hl⟩ := h'
  simp only [List.length_cons, List.length_nil] at hl
  simp only [Pv_some, fldV_p, nilV_p, nilV_f, lenV_s, capV_s, sLen, minV_i, maxV_i, strV_s, unV_not, unV_neg, pickV_t, pickV_f, exV_t, cvIV_i, binI_add, binI_sub, binI_mul, binI_eql, binI_neq, binI_lss, binI_leq, binI_gtr, binI_geq, binI_and, binI_or, binB_eql, binB_neq, sEq, sNe, sLt, sLe, sGt, sGe, stampEq, stampNe, fldv_agg, fldv_one, binP_eql_nil, binP_neq_nil, binN_eql_nil, binN_neq_nil, binN_eql_nn, binN_neq_nn, Br_true, Br_false, Gd_tt, Gd_ft, Gd_tf, Gd_ff, cells_agg, List.getElem?_toArray, List.getElem?_cons_zero, List.getElem?_cons_succ, Nat.zero_add, Nat.add_zero, Nat.zero_mul, List.drop_succ_cons, List.drop_zero, List.take_succ_cons, List.take_zero, List.nil_append, List.cons_append, Nat.reduceAdd, List.drop_nil, List.take_nil, bld_1, bld_2, bld_3, bld_4, bld_5, bld_6, bld_7, bld_8, bld_9, bld_10, bld_11, bld_12, bld_13, bld_14, bld_15, bld_16, bld_17, bld_18, List.cons_append]
  refine rdb ?_
  refine app_own (X := Y) rfl hS (SlI.news (hT.mono hI1)) (u8s_one t) (by omega) (by omega) (fun X2 v2 h2 => ?_)
  refine st1 (SlO.one1 h2) ?_
  refine Gh.to ((b, Obj.cells #[v2] 153 (0, 0)) :: (X2 ++ F)) (Gh.done (hk ((b, Obj.cells #[v2] 153 (0, 0)) :: X2) I1 hI1 ⟨v2, l ++ t, X2, rfl, ?_, by rw [List.length_append]; omega⟩))
  rw [List.length_append]
  simpa [u8s] using h2

theorem clipb_spec {X F : LH} {v : Value} {cells : List Value} {len : Nat} (hS : SlO 5 1 X v cells len) (hk : ∀ v' I', Ext I I' → SlI I' 1 v' cells len → K v' I' F) : Cal Try.prog ω 120 #[v] K I (X ++ F) := by
  refine cal120 ?_
  unfold sh120
  obtain ⟨a, cap, rfl⟩ := hS.form
  try simp only [Pv_some, fldV_p, nilV_p, nilV_f, lenV_s, capV_s, sLen, minV_i, maxV_i, strV_s, unV_not, unV_neg, pickV_t, pickV_f, exV_t, cvIV_i, binI_add, binI_sub, binI_mul, binI_eql, binI_neq, binI_lss, binI_leq, binI_gtr, binI_geq, binI_and, binI_or, binB_eql, binB_neq, sEq, sNe, sLt, sLe, sGt, sGe, stampEq, stampNe, fldv_agg, fldv_one, binP_eql_nil, binP_neq_nil, binN_eql_nil, binN_neq_nil, binN_eql_nn, binN_neq_nn, Br_true, Br_false, Gd_tt, Gd_ft, Gd_tf, Gd_ff, cells_agg, List.getElem?_toArray, List.getElem?_cons_zero, List.getElem?_cons_succ, Nat.zero_add, Nat.add_zero, Nat.zero_mul, List.drop_succ_cons, List.drop_zero, List.take_succ_cons, List.take_zero, List.nil_append, List.cons_append, Nat.reduceAdd, List.drop_nil, List.take_nil, bld_1, bld_2, bld_3, bld_4, bld_5, bld_6, bld_7, bld_8, bld_9, bld_10, bld_11, bld_12, bld_13, bld_14, bld_15, bld_16, bld_17, bld_18]
  have hcap : len ≤ cap := by
    obtain ⟨_, h⟩ := hS
    rcases h with ⟨_, rfl, h⟩ | ⟨b, cap', cs, _, h, _, hle, _⟩
    · simp only [Value.slice.injEq] at h; omega
    · simp only [Value.slice.injEq] at h; omega
  have s1 : ∃ a', slcV 1 (.slice a len cap) none (some (.int .i64 len)) (some (.int .i64 len)) = some (.slice a' len len) ∧ (len ≠ 0 → a' = a.map (·.add 0)) := by
    simp only [slcV, Option.isNone_some, Bool.false_and, Bool.false_eq_true, if_false]
    rw [bnd_in _ _ _ _ hcap, Option.bind_some, bnd_in _ _ _ _ (Nat.le_refl _), Option.bind_some, show bndV none 0 len = some 0 from rfl, Option.bind_some]
    exact ⟨_, by simp only [Nat.sub_zero]; rfl, fun h => by rw [if_neg h, Nat.zero_mul]⟩
  obtain ⟨a', s1, ha'⟩ := s1
  rw [s1]
  try simp only [Pv_some, fldV_p, nilV_p, nilV_f, lenV_s, capV_s, sLen, minV_i, maxV_i, strV_s, unV_not, unV_neg, pickV_t, pickV_f, exV_t, cvIV_i, binI_add, binI_sub, binI_mul, binI_eql, binI_neq, binI_lss, binI_leq, binI_gtr, binI_geq, binI_and, binI_or, binB_eql, binB_neq, sEq, sNe, sLt, sLe, sGt, sGe, stampEq, stampNe, fldv_agg, fldv_one, binP_eql_nil, binP_neq_nil, binN_eql_nil, binN_neq_nil, binN_eql_nn, binN_neq_nn, Br_true, Br_false, Gd_tt, Gd_ft, Gd_tf, Gd_ff, cells_agg, List.getElem?_toArray, List.getElem?_cons_zero, List.getElem?_cons_succ, Nat.zero_add, Nat.add_zero, Nat.zero_mul, List.drop_succ_cons, List.drop_zero, List.take_succ_cons, List.take_zero, List.nil_append, List.cons_append, Nat.reduceAdd, List.drop_nil, List.take_nil, bld_1, bld_2, bld_3, bld_4, bld_5, bld_6, bld_7, bld_8, bld_9, bld_10, bld_11, bld_12, bld_13, bld_14, bld_15, bld_16, bld_17, bld_18]
  refine SlO.freeze hS (fun I' hI hS' => Gh.done (hk _ I' hI ?_))
  obtain ⟨hl, a2, cap2, h2, hle2, hb⟩ := hS'
  simp only [Value.slice.injEq] at h2
  obtain ⟨rfl, _, rfl⟩ := h2
  refine ⟨hl, a', len, rfl, Nat.le_refl _, fun h0 => ?_⟩
  obtain ⟨b, off, cs, T, fr, rfl, hI2, hc⟩ := hb h0
  exact ⟨b, off, cs, T, fr, by rw [ha' h0]; simp [add_none], hI2, hc⟩

/-! ### Encode -/
theorem entB_data {e : LE} (h : entB e = true) : e.data.length ≤ 12000 ∧ 0 ≤ e.term ∧ e.term ≤ 9007199254740991 := by
  simp only [entB, Bool.and_eq_true, countB, decide_eq_true_eq] at h
  obtain ⟨⟨⟨h1, h2⟩, h3⟩, h4⟩ := h
  refine ⟨?_, h2.1, h2.2⟩
  split at h4
  · simp at h4; simp [h4]
  · split at h4
    · simp at h4; omega
    · split at h4
      · simp only [memB, Bool.and_eq_true, decide_eq_true_eq, nums_len] at h4; omega
      · cases h4
theorem entsAll_data {t : Int} : ∀ {l : List LE} {i : Int}, entsAll i t l = true → ∀ e ∈ l, entB e = true ∧ e.term ≤ t
  | [], _, _, e, he => by cases he
  | x :: l, i, h, e, he => by
    simp only [entsAll, Bool.and_eq_true, decide_eq_true_eq] at h
    rcases List.mem_cons.1 he with rfl | he
    · exact ⟨h.1.1.1, h.1.2⟩
    · exact entsAll_data h.2 e he
structure RB (m : RM) : Prop where
  idx : 0 ≤ m.index ∧ m.index ≤ 9007199254740991
  ltm : 0 ≤ m.lterm ∧ m.lterm ≤ 9007199254740991
  com : 0 ≤ m.commit ∧ m.commit ≤ 9007199254740991
  trm : 1 ≤ m.term ∧ m.term ≤ 9007199254740991
  frm : 1 ≤ m.frm ∧ m.frm ≤ 5
  dst : 1 ≤ m.to ∧ m.to ≤ 5
  grp : 1 ≤ m.group ∧ m.group ≤ 255
  num : m.ents.length ≤ 64
  ent : ∀ e ∈ m.ents, entB e = true ∧ e.term ≤ m.term
  mbl : m.mem.length ≤ 5
  dat : m.data.length ≤ 60000
theorem right_data {m : RM} (h : rightB m = true) : RB m := by
  simp only [rightB, Bool.and_eq_true, countB, nodeB, decide_eq_true_eq] at h
  obtain ⟨⟨⟨⟨⟨⟨⟨⟨⟨h1, h2⟩, h3⟩, h4⟩, h5⟩, h6⟩, h7⟩, h8⟩, h9⟩, h10⟩ := h
  have key : m.ents.length ≤ 64 ∧ (∀ e ∈ m.ents, entB e = true ∧ e.term ≤ m.term) ∧ m.mem.length ≤ 5 ∧ m.data.length ≤ 60000 := by
    have bare : bareB m = true → m.ents.length ≤ 64 ∧ (∀ e ∈ m.ents, entB e = true ∧ e.term ≤ m.term) ∧ m.mem.length ≤ 5 ∧ m.data.length ≤ 60000 := fun hb => by
      simp only [bareB, Bool.and_eq_true, beq_iff_eq] at hb
      obtain ⟨⟨⟨hb1, hb2⟩, hb3⟩, _⟩ := hb
      have : m.ents = [] := List.eq_nil_of_length_eq_zero (by omega)
      exact ⟨by omega, (fun e he => by rw [this] at he; cases he), by omega, by omega⟩
    unfold kindB at h10
    split at h10
    · simp only [Bool.and_eq_true] at h10; exact bare h10.1
    · split at h10
      · simp only [Bool.and_eq_true] at h10; exact bare h10.1
      · split at h10
        · simp only [Bool.and_eq_true, beq_iff_eq, decide_eq_true_eq, entsB] at h10
          obtain ⟨⟨⟨⟨_, g1⟩, g2⟩, _⟩, g3, g4⟩ := h10
          exact ⟨g3, entsAll_data g4, by omega, by omega⟩
        · split at h10
          · simp only [Bool.and_eq_true] at h10; exact bare h10.1
          · split at h10
            · simp only [Bool.and_eq_true, beq_iff_eq, decide_eq_true_eq] at h10
              obtain ⟨⟨⟨⟨_, _⟩, g1⟩, g2⟩, g3⟩ := h10
              have : m.ents = [] := List.eq_nil_of_length_eq_zero (by omega)
              simp only [memB, Bool.and_eq_true, decide_eq_true_eq] at g2
              exact ⟨by omega, (fun e he => by rw [this] at he; cases he), by omega, by omega⟩
            · cases h10
  exact ⟨h1, h2, h3, ⟨h7, h4.2⟩, h5, h6, ⟨h8, h9⟩, key.1, key.2.1, key.2.2.1, key.2.2.2⟩

theorem bldW (a : Option Addr) (l c : Nat) : bldV #[.slice none 0 0] #[(0, 1)] [(0, .slice a l c)] = some (.agg #[.slice a l c]) := by rfl
theorem wfin {bw n : Nat} {X F : LH} (h : WrR bw X n) (hk : ∀ v' I', Ext I I' → Gh (K (.tuple #[v', .int .i64 0])) I' F) :
    sh90_1 ω (.slice none 0 0) (.int .i64 0) (.pointer (some ⟨bw, 0, none⟩)) (fun v => Gh (K v)) I (X ++ F) := by
  obtain ⟨v, l, Y, rfl, hS, hl⟩ := h
  unfold sh90_1
  simp only [Pv_some, fldV_p, nilV_p, nilV_f, lenV_s, capV_s, sLen, minV_i, maxV_i, strV_s, unV_not, unV_neg, pickV_t, pickV_f, exV_t, cvIV_i, binI_add, binI_sub, binI_mul, binI_eql, binI_neq, binI_lss, binI_leq, binI_gtr, binI_geq, binI_and, binI_or, binB_eql, binB_neq, sEq, sNe, sLt, sLe, sGt, sGe, stampEq, stampNe, fldv_agg, fldv_one, binP_eql_nil, binP_neq_nil, binN_eql_nil, binN_neq_nil, binN_eql_nn, binN_neq_nn, Br_true, Br_false, Gd_tt, Gd_ft, Gd_tf, Gd_ff, cells_agg, List.getElem?_toArray, List.getElem?_cons_zero, List.getElem?_cons_succ, Nat.zero_add, Nat.add_zero, Nat.zero_mul, List.drop_succ_cons, List.drop_zero, List.take_succ_cons, List.take_zero, List.nil_append, List.cons_append, Nat.reduceAdd, List.drop_nil, List.take_nil, bld_1, bld_2, bld_3, bld_4, bld_5, bld_6, bld_7, bld_8, bld_9, bld_10, bld_11, bld_12, bld_13, bld_14, bld_15, bld_16, bld_17, bld_18, List.cons_append]
  refine rdb ?_
  refine call (Cal.split Y (clipb_spec hS (fun v' I' hI' hS' => ?_)))
  exact Gh.to F (hk v' I' hI')

theorem wents {m : RM} {bw n : Nat} {X F : LH} {ev : Value} (hE : Ents I ev m.ents) (hd : RB m) (hS : WrR bw X n) (hb : n ≤ 1000)
    (hk : ∀ v' I', Ext I I' → Gh (K (.tuple #[v', .int .i64 0])) I' F) :
    LoopM ((.int .i64 0, ()) : Value × Unit) (fun s Kn0 => sh90_4 ω (.slice none 0 0) (.int .i64 0) (.pointer (some ⟨bw, 0, none⟩)) ev (.int .i64 m.ents.length) s.1 Kn0 (fun v => Gh (K v))) I (X ++ F) := by
  have hnum := hd.num
  refine loop (fun mm s I' L' => Ext I I' ∧ ∃ (k : Nat) (X6 : LH), k + mm = m.ents.length ∧ s = (.int .i64 k, ()) ∧ WrR bw X6 (n + 13000 * k) ∧ L' = X6 ++ F) m.ents.length ⟨Ext.refl I, 0, X, by omega, rfl, hS, rfl⟩ ?_
  rintro mm s I' L' ⟨hI, k, X6, hkm, rfl, h6, rfl⟩
  unfold sh90_4
  try simp only [Pv_some, fldV_p, nilV_p, nilV_f, lenV_s, capV_s, sLen, minV_i, maxV_i, strV_s, unV_not, unV_neg, pickV_t, pickV_f, exV_t, cvIV_i, binI_add, binI_sub, binI_mul, binI_eql, binI_neq, binI_lss, binI_leq, binI_gtr, binI_geq, binI_and, binI_or, binB_eql, binB_neq, sEq, sNe, sLt, sLe, sGt, sGe, stampEq, stampNe, fldv_agg, fldv_one, binP_eql_nil, binP_neq_nil, binN_eql_nil, binN_neq_nil, binN_eql_nn, binN_neq_nn, Br_true, Br_false, Gd_tt, Gd_ft, Gd_tf, Gd_ff, cells_agg, List.getElem?_toArray, List.getElem?_cons_zero, List.getElem?_cons_succ, Nat.zero_add, Nat.add_zero, Nat.zero_mul, List.drop_succ_cons, List.drop_zero, List.take_succ_cons, List.take_zero, List.nil_append, List.cons_append, Nat.reduceAdd, List.drop_nil, List.take_nil, bld_1, bld_2, bld_3, bld_4, bld_5, bld_6, bld_7, bld_8, bld_9, bld_10, bld_11, bld_12, bld_13, bld_14, bld_15, bld_16, bld_17, bld_18]
  refine br_split (fun hlt => ?_) (fun hlt => ?_)
  · simp at hlt
    obtain ⟨b, off, cs, hix, hcl, ⟨ddv, rfl, hB⟩, hc⟩ := RL.ix hE (i := k) (by omega) (by omega)
    have hdk := entB_data (hd.ent (geti m.ents (k : Int)) (by rw [geti_nat hlt]; exact List.getElem_mem hlt)).1
    obtain ⟨_, _, rfl⟩ := Bytes.form hB
    simp only [hix, Pv_some, fldV_p, nilV_p, nilV_f, lenV_s, capV_s, sLen, minV_i, maxV_i, strV_s, unV_not, unV_neg, pickV_t, pickV_f, exV_t, cvIV_i, binI_add, binI_sub, binI_mul, binI_eql, binI_neq, binI_lss, binI_leq, binI_gtr, binI_geq, binI_and, binI_or, binB_eql, binB_neq, sEq, sNe, sLt, sLe, sGt, sGe, stampEq, stampNe, fldv_agg, fldv_one, binP_eql_nil, binP_neq_nil, binN_eql_nil, binN_neq_nil, binN_eql_nn, binN_neq_nn, Br_true, Br_false, Gd_tt, Gd_ft, Gd_tf, Gd_ff, cells_agg, List.getElem?_toArray, List.getElem?_cons_zero, List.getElem?_cons_succ, Nat.zero_add, Nat.add_zero, Nat.zero_mul, List.drop_succ_cons, List.drop_zero, List.take_succ_cons, List.take_zero, List.nil_append, List.cons_append, Nat.reduceAdd, List.drop_nil, List.take_nil, bld_1, bld_2, bld_3, bld_4, bld_5, bld_6, bld_7, bld_8, bld_9, bld_10, bld_11, bld_12, bld_13, bld_14, bld_15, bld_16, bld_17, bld_18]
    refine rdN rfl (hc I' _ hI (fun _ h => by cases h)) ?_
    refine newI (fun b2 => ?_)
    refine stB rfl rfl (one_all rfl) ?_
    try simp only [Pv_some, fldV_p, nilV_p, nilV_f, lenV_s, capV_s, sLen, minV_i, maxV_i, strV_s, unV_not, unV_neg, pickV_t, pickV_f, exV_t, cvIV_i, binI_add, binI_sub, binI_mul, binI_eql, binI_neq, binI_lss, binI_leq, binI_gtr, binI_geq, binI_and, binI_or, binB_eql, binB_neq, sEq, sNe, sLt, sLe, sGt, sGe, stampEq, stampNe, fldv_agg, fldv_one, binP_eql_nil, binP_neq_nil, binN_eql_nil, binN_neq_nil, binN_eql_nn, binN_neq_nn, Br_true, Br_false, Gd_tt, Gd_ft, Gd_tf, Gd_ff, cells_agg, List.getElem?_toArray, List.getElem?_cons_zero, List.getElem?_cons_succ, Nat.zero_add, Nat.add_zero, Nat.zero_mul, List.drop_succ_cons, List.drop_zero, List.take_succ_cons, List.take_zero, List.nil_append, List.cons_append, Nat.reduceAdd, List.drop_nil, List.take_nil, bld_1, bld_2, bld_3, bld_4, bld_5, bld_6, bld_7, bld_8, bld_9, bld_10, bld_11, bld_12, bld_13, bld_14, bld_15, bld_16, bld_17, bld_18]
    refine rdb ?_
    refine bi1 (fun u I1 hI1 hu => ?_)
    refine call (Cal.split X6 (wcount_spec h6 hu (by simp) (by simp; omega) (by omega) (fun X7 h7 => ?_)))
    simp only [List.length_cons, List.length_nil] at h7
    try simp only [Pv_some, fldV_p, nilV_p, nilV_f, lenV_s, capV_s, sLen, minV_i, maxV_i, strV_s, unV_not, unV_neg, pickV_t, pickV_f, exV_t, cvIV_i, binI_add, binI_sub, binI_mul, binI_eql, binI_neq, binI_lss, binI_leq, binI_gtr, binI_geq, binI_and, binI_or, binB_eql, binB_neq, sEq, sNe, sLt, sLe, sGt, sGe, stampEq, stampNe, fldv_agg, fldv_one, binP_eql_nil, binP_neq_nil, binN_eql_nil, binN_neq_nil, binN_eql_nn, binN_neq_nn, Br_true, Br_false, Gd_tt, Gd_ft, Gd_tf, Gd_ff, cells_agg, List.getElem?_toArray, List.getElem?_cons_zero, List.getElem?_cons_succ, Nat.zero_add, Nat.add_zero, Nat.zero_mul, List.drop_succ_cons, List.drop_zero, List.take_succ_cons, List.take_zero, List.nil_append, List.cons_append, Nat.reduceAdd, List.drop_nil, List.take_nil, bld_1, bld_2, bld_3, bld_4, bld_5, bld_6, bld_7, bld_8, bld_9, bld_10, bld_11, bld_12, bld_13, bld_14, bld_15, bld_16, bld_17, bld_18]
    refine rdb ?_
    refine call (wbyte_spec h7 (by omega) (fun X8 h8 => ?_))
    try simp only [Pv_some, fldV_p, nilV_p, nilV_f, lenV_s, capV_s, sLen, minV_i, maxV_i, strV_s, unV_not, unV_neg, pickV_t, pickV_f, exV_t, cvIV_i, binI_add, binI_sub, binI_mul, binI_eql, binI_neq, binI_lss, binI_leq, binI_gtr, binI_geq, binI_and, binI_or, binB_eql, binB_neq, sEq, sNe, sLt, sLe, sGt, sGe, stampEq, stampNe, fldv_agg, fldv_one, binP_eql_nil, binP_neq_nil, binN_eql_nil, binN_neq_nil, binN_eql_nn, binN_neq_nn, Br_true, Br_false, Gd_tt, Gd_ft, Gd_tf, Gd_ff, cells_agg, List.getElem?_toArray, List.getElem?_cons_zero, List.getElem?_cons_succ, Nat.zero_add, Nat.add_zero, Nat.zero_mul, List.drop_succ_cons, List.drop_zero, List.take_succ_cons, List.take_zero, List.nil_append, List.cons_append, Nat.reduceAdd, List.drop_nil, List.take_nil, bld_1, bld_2, bld_3, bld_4, bld_5, bld_6, bld_7, bld_8, bld_9, bld_10, bld_11, bld_12, bld_13, bld_14, bld_15, bld_16, bld_17, bld_18]
    refine rdb ?_
    refine call (wtext_spec h8 (hB.mono (hI.trans hI1)) (by omega) (fun X9 I2 hI2 h9 => ?_))
    simp only [Pv_some, fldV_p, nilV_p, nilV_f, lenV_s, capV_s, sLen, minV_i, maxV_i, strV_s, unV_not, unV_neg, pickV_t, pickV_f, exV_t, cvIV_i, binI_add, binI_sub, binI_mul, binI_eql, binI_neq, binI_lss, binI_leq, binI_gtr, binI_geq, binI_and, binI_or, binB_eql, binB_neq, sEq, sNe, sLt, sLe, sGt, sGe, stampEq, stampNe, fldv_agg, fldv_one, binP_eql_nil, binP_neq_nil, binN_eql_nil, binN_neq_nil, binN_eql_nn, binN_neq_nn, Br_true, Br_false, Gd_tt, Gd_ft, Gd_tf, Gd_ff, cells_agg, List.getElem?_toArray, List.getElem?_cons_zero, List.getElem?_cons_succ, Nat.zero_add, Nat.add_zero, Nat.zero_mul, List.drop_succ_cons, List.drop_zero, List.take_succ_cons, List.take_zero, List.nil_append, List.cons_append, Nat.reduceAdd, List.drop_nil, List.take_nil, bld_1, bld_2, bld_3, bld_4, bld_5, bld_6, bld_7, bld_8, bld_9, bld_10, bld_11, bld_12, bld_13, bld_14, bld_15, bld_16, bld_17, bld_18, wrap_i64 ((k : Int) + 1) (by omega)]
    exact Gh.to (X9 ++ F) (Gh.done ⟨mm - 1, by omega, (hI.trans hI1).trans hI2, k + 1, X9, by omega, by simp, h9.le (by omega), rfl⟩)
  · simp at hlt
    exact wfin h6 (fun v' I2 hI2 => hk v' I2 (hI.trans hI2))

theorem wmems {m : RM} {b1 bw n : Nat} {X F : LH} {a0 a1 a2 : Option Addr} {p0 p1 p2 : Nat} (hM : Ints I (.slice a1 m.mem.length p1) m.mem) (hD : Bytes I (.slice a2 m.data.length p2) m.data) (hd : RB m) (hS : WrR bw X n) (hb : n ≤ 1000)
    (hk : ∀ v' I', Ext I I' → Gh (K (.tuple #[v', .int .i64 0])) I' ((b1, Obj.cells #[.int .i64 m.kind, .int .i64 m.group, .int .i64 m.frm, .int .i64 m.to, .int .i64 m.term, .int .i64 m.index, .int .i64 m.lterm, .int .i64 m.commit, .bool m.ok, .slice a0 m.ents.length p0, .slice a1 m.mem.length p1, .slice a2 m.data.length p2] 77 (0, 0)) :: F)) :
    LoopM ((.int .i64 0, ()) : Value × Unit) (fun s Kn0 => sh90_7 ω (.pointer (some ⟨b1, 0, none⟩)) (.slice none 0 0) (.int .i64 0) (.pointer (some ⟨bw, 0, none⟩)) (.slice a1 m.mem.length p1) (.int .i64 m.mem.length) s.1 Kn0 (fun v => Gh (K v))) I (X ++ ((b1, Obj.cells #[.int .i64 m.kind, .int .i64 m.group, .int .i64 m.frm, .int .i64 m.to, .int .i64 m.term, .int .i64 m.index, .int .i64 m.lterm, .int .i64 m.commit, .bool m.ok, .slice a0 m.ents.length p0, .slice a1 m.mem.length p1, .slice a2 m.data.length p2] 77 (0, 0)) :: F)) := by
  have hnum := hd.mbl
  have hdat := hd.dat
  generalize hFF : ((b1, Obj.cells #[.int .i64 m.kind, .int .i64 m.group, .int .i64 m.frm, .int .i64 m.to, .int .i64 m.term, .int .i64 m.index, .int .i64 m.lterm, .int .i64 m.commit, .bool m.ok, .slice a0 m.ents.length p0, .slice a1 m.mem.length p1, .slice a2 m.data.length p2] 77 (0, 0)) :: F) = FF at *
  refine loop (fun mm s I' L' => I' = I ∧ ∃ (k : Nat) (X6 : LH), k + mm = m.mem.length ∧ s = (.int .i64 k, ()) ∧ WrR bw X6 (n + k) ∧ L' = X6 ++ FF) m.mem.length ⟨rfl, 0, X, by omega, rfl, hS, rfl⟩ ?_
  rintro mm s I' L' ⟨rfl, k, X6, hkm, rfl, h6, rfl⟩
  unfold sh90_7
  try simp only [Pv_some, fldV_p, nilV_p, nilV_f, lenV_s, capV_s, sLen, minV_i, maxV_i, strV_s, unV_not, unV_neg, pickV_t, pickV_f, exV_t, cvIV_i, binI_add, binI_sub, binI_mul, binI_eql, binI_neq, binI_lss, binI_leq, binI_gtr, binI_geq, binI_and, binI_or, binB_eql, binB_neq, sEq, sNe, sLt, sLe, sGt, sGe, stampEq, stampNe, fldv_agg, fldv_one, binP_eql_nil, binP_neq_nil, binN_eql_nil, binN_neq_nil, binN_eql_nn, binN_neq_nn, Br_true, Br_false, Gd_tt, Gd_ft, Gd_tf, Gd_ff, cells_agg, List.getElem?_toArray, List.getElem?_cons_zero, List.getElem?_cons_succ, Nat.zero_add, Nat.add_zero, Nat.zero_mul, List.drop_succ_cons, List.drop_zero, List.take_succ_cons, List.take_zero, List.nil_append, List.cons_append, Nat.reduceAdd, List.drop_nil, List.take_nil, bld_1, bld_2, bld_3, bld_4, bld_5, bld_6, bld_7, bld_8, bld_9, bld_10, bld_11, bld_12, bld_13, bld_14, bld_15, bld_16, bld_17, bld_18]
  refine br_split (fun hlt => ?_) (fun hlt => ?_)
  · simp at hlt
    obtain ⟨b, off, hix, hc⟩ := ints_at hM (i := k) (by omega) (by omega)
    simp only [hix, Pv_some, fldV_p, nilV_p, nilV_f, lenV_s, capV_s, sLen, minV_i, maxV_i, strV_s, unV_not, unV_neg, pickV_t, pickV_f, exV_t, cvIV_i, binI_add, binI_sub, binI_mul, binI_eql, binI_neq, binI_lss, binI_leq, binI_gtr, binI_geq, binI_and, binI_or, binB_eql, binB_neq, sEq, sNe, sLt, sLe, sGt, sGe, stampEq, stampNe, fldv_agg, fldv_one, binP_eql_nil, binP_neq_nil, binN_eql_nil, binN_neq_nil, binN_eql_nn, binN_neq_nn, Br_true, Br_false, Gd_tt, Gd_ft, Gd_tf, Gd_ff, cells_agg, List.getElem?_toArray, List.getElem?_cons_zero, List.getElem?_cons_succ, Nat.zero_add, Nat.add_zero, Nat.zero_mul, List.drop_succ_cons, List.drop_zero, List.take_succ_cons, List.take_zero, List.nil_append, List.cons_append, Nat.reduceAdd, List.drop_nil, List.take_nil, bld_1, bld_2, bld_3, bld_4, bld_5, bld_6, bld_7, bld_8, bld_9, bld_10, bld_11, bld_12, bld_13, bld_14, bld_15, bld_16, bld_17, bld_18]
    refine rd1 (hc I' _ (Ext.refl I')) ?_
    refine call (wbyte_spec h6 (by omega) (fun X8 h8 => ?_))
    simp only [Pv_some, fldV_p, nilV_p, nilV_f, lenV_s, capV_s, sLen, minV_i, maxV_i, strV_s, unV_not, unV_neg, pickV_t, pickV_f, exV_t, cvIV_i, binI_add, binI_sub, binI_mul, binI_eql, binI_neq, binI_lss, binI_leq, binI_gtr, binI_geq, binI_and, binI_or, binB_eql, binB_neq, sEq, sNe, sLt, sLe, sGt, sGe, stampEq, stampNe, fldv_agg, fldv_one, binP_eql_nil, binP_neq_nil, binN_eql_nil, binN_neq_nil, binN_eql_nn, binN_neq_nn, Br_true, Br_false, Gd_tt, Gd_ft, Gd_tf, Gd_ff, cells_agg, List.getElem?_toArray, List.getElem?_cons_zero, List.getElem?_cons_succ, Nat.zero_add, Nat.add_zero, Nat.zero_mul, List.drop_succ_cons, List.drop_zero, List.take_succ_cons, List.take_zero, List.nil_append, List.cons_append, Nat.reduceAdd, List.drop_nil, List.take_nil, bld_1, bld_2, bld_3, bld_4, bld_5, bld_6, bld_7, bld_8, bld_9, bld_10, bld_11, bld_12, bld_13, bld_14, bld_15, bld_16, bld_17, bld_18, wrap_i64 ((k : Int) + 1) (by omega)]
    exact Gh.done ⟨mm - 1, by omega, rfl, k + 1, X8, by omega, by simp, h8, rfl⟩
  · simp at hlt
    unfold sh90_5
    subst hFF
    try simp only [Pv_some, fldV_p, nilV_p, nilV_f, lenV_s, capV_s, sLen, minV_i, maxV_i, strV_s, unV_not, unV_neg, pickV_t, pickV_f, exV_t, cvIV_i, binI_add, binI_sub, binI_mul, binI_eql, binI_neq, binI_lss, binI_leq, binI_gtr, binI_geq, binI_and, binI_or, binB_eql, binB_neq, sEq, sNe, sLt, sLe, sGt, sGe, stampEq, stampNe, fldv_agg, fldv_one, binP_eql_nil, binP_neq_nil, binN_eql_nil, binN_neq_nil, binN_eql_nn, binN_neq_nn, Br_true, Br_false, Gd_tt, Gd_ft, Gd_tf, Gd_ff, cells_agg, List.getElem?_toArray, List.getElem?_cons_zero, List.getElem?_cons_succ, Nat.zero_add, Nat.add_zero, Nat.zero_mul, List.drop_succ_cons, List.drop_zero, List.take_succ_cons, List.take_zero, List.nil_append, List.cons_append, Nat.reduceAdd, List.drop_nil, List.take_nil, bld_1, bld_2, bld_3, bld_4, bld_5, bld_6, bld_7, bld_8, bld_9, bld_10, bld_11, bld_12, bld_13, bld_14, bld_15, bld_16, bld_17, bld_18]
    refine rdb ?_
    refine call (wtext_spec h6 hD (by omega) (fun X9 I2 hI2 h9 => ?_))
    exact wfin h9 (fun v' I3 hI3 => hk v' I3 (hI2.trans hI3))

set_option maxHeartbeats 1000000 in
theorem enc_spec {m : RM} {c : List Value} (hm : MsgV I m c) (hl : m.mem.length < 4611686018427387904)
    (hk1 : rightB m = true → ∀ v' I', Ext I I' → K (.tuple #[v', .int .i64 0]) I' L) (hk0 : rightB m = false → ∀ I', Ext I I' → K (.tuple #[.slice none 0 0, .int .i64 92]) I' L) :
    Cal Try.prog ω 90 #[.agg c.toArray] K I L := by
  have hm0 := hm
  obtain ⟨a0, p0, a1, p1, a2, p2, rfl, hE, hM, hD⟩ := hm.form
  have e1 := RL.len hE
  have e2 := Ints.len hM
  refine cal90 ?_
  unfold sh90
  refine newI (fun b1 => ?_)
  try simp only [Pv_some, fldV_p, nilV_p, nilV_f, lenV_s, capV_s, sLen, minV_i, maxV_i, strV_s, unV_not, unV_neg, pickV_t, pickV_f, exV_t, cvIV_i, binI_add, binI_sub, binI_mul, binI_eql, binI_neq, binI_lss, binI_leq, binI_gtr, binI_geq, binI_and, binI_or, binB_eql, binB_neq, sEq, sNe, sLt, sLe, sGt, sGe, stampEq, stampNe, fldv_agg, fldv_one, binP_eql_nil, binP_neq_nil, binN_eql_nil, binN_neq_nil, binN_eql_nn, binN_neq_nn, Br_true, Br_false, Gd_tt, Gd_ft, Gd_tf, Gd_ff, cells_agg, List.getElem?_toArray, List.getElem?_cons_zero, List.getElem?_cons_succ, Nat.zero_add, Nat.add_zero, Nat.zero_mul, List.drop_succ_cons, List.drop_zero, List.take_succ_cons, List.take_zero, List.nil_append, List.cons_append, Nat.reduceAdd, List.drop_nil, List.take_nil, bld_1, bld_2, bld_3, bld_4, bld_5, bld_6, bld_7, bld_8, bld_9, bld_10, bld_11, bld_12, bld_13, bld_14, bld_15, bld_16, bld_17, bld_18]
  refine rdB rfl ?_
  refine call (sright_spec hm0 hl (fun I1 hI1 => ?_))
  try simp only [Pv_some, fldV_p, nilV_p, nilV_f, lenV_s, capV_s, sLen, minV_i, maxV_i, strV_s, unV_not, unV_neg, pickV_t, pickV_f, exV_t, cvIV_i, binI_add, binI_sub, binI_mul, binI_eql, binI_neq, binI_lss, binI_leq, binI_gtr, binI_geq, binI_and, binI_or, binB_eql, binB_neq, sEq, sNe, sLt, sLe, sGt, sGe, stampEq, stampNe, fldv_agg, fldv_one, binP_eql_nil, binP_neq_nil, binN_eql_nil, binN_neq_nil, binN_eql_nn, binN_neq_nn, Br_true, Br_false, Gd_tt, Gd_ft, Gd_tf, Gd_ff, cells_agg, List.getElem?_toArray, List.getElem?_cons_zero, List.getElem?_cons_succ, Nat.zero_add, Nat.add_zero, Nat.zero_mul, List.drop_succ_cons, List.drop_zero, List.take_succ_cons, List.take_zero, List.nil_append, List.cons_append, Nat.reduceAdd, List.drop_nil, List.take_nil, bld_1, bld_2, bld_3, bld_4, bld_5, bld_6, bld_7, bld_8, bld_9, bld_10, bld_11, bld_12, bld_13, bld_14, bld_15, bld_16, bld_17, bld_18]
  refine br_split (fun hr => ?_) (fun hr => ?_)
  · simp only [Bool.not_eq_eq_eq_not, Bool.not_true] at hr
    exact Gh.to L (Gh.done (hk0 hr I1 hI1))
  simp only [Bool.not_eq_eq_eq_not, Bool.not_false] at hr
  have hd := right_data hr
  obtain ⟨d1, d2, d3, d4, d5, d6, d7, d8, d9, d10, d11⟩ := id hd
  have hk := hk1 hr
  repeat' (first | (with_reducible refine drawC ?_) | (with_reducible refine drawW1 ?_) | (with_reducible refine drawW2 ?_) | (with_reducible refine keepC (by repeat (first | exact Ext.refl _ | assumption | refine Ext.trans ?_ (by assumption))) ?_) | (with_reducible refine newI (fun _ => ?_)) | first | (with_reducible refine rdb ?_) | ((with_reducible refine st1 ?_ ?_); rfl) | ((with_reducible refine rdB ?_ ?_); rfl) | (with_reducible refine rdbS ?_) | ((with_reducible refine rdBS ?_ ?_); rfl) | ((with_reducible refine stB ?_ ?_ ?_ ?_); rfl; rfl; exact one_all rfl) | ((with_reducible refine rdP _ rfl ?_ ?_); rfl) | ((with_reducible refine rdPS _ rfl ?_ ?_); rfl) | ((with_reducible refine stP _ rfl ?_ ?_ ?_ ?_); rfl; rfl; rfl) | (with_reducible refine And.intro ?_ ?_) | (simp only [Bool.not_true, Bool.not_false, Bool.and_self, Bool.true_and, Int.reduceBEq, Int.reduceBNe, Int.reduceLT, Int.reduceLE, decide_true, decide_false, Br_true, Br_false, Gd_tt, Gd_ft, Gd_tf, Gd_ff, beq_self_eq_true, bne_self_eq_false]) | (with_reducible refine gd_split (fun _ => ?_) (fun _ => ?_)) | (with_reducible refine br_split (fun _ => ?_) (fun _ => ?_)) | (simp only [Pv_some, fldV_p, nilV_p, nilV_f, lenV_s, capV_s, sLen, minV_i, maxV_i, strV_s, unV_not, unV_neg, pickV_t, pickV_f, exV_t, cvIV_i, binI_add, binI_sub, binI_mul, binI_eql, binI_neq, binI_lss, binI_leq, binI_gtr, binI_geq, binI_and, binI_or, binB_eql, binB_neq, sEq, sNe, sLt, sLe, sGt, sGe, stampEq, stampNe, fldv_agg, fldv_one, binP_eql_nil, binP_neq_nil, binN_eql_nil, binN_neq_nil, binN_eql_nn, binN_neq_nn, Br_true, Br_false, Gd_tt, Gd_ft, Gd_tf, Gd_ff, cells_agg, List.getElem?_toArray, List.getElem?_cons_zero, List.getElem?_cons_succ, Nat.zero_add, Nat.add_zero, Nat.zero_mul, List.drop_succ_cons, List.drop_zero, List.take_succ_cons, List.take_zero, List.nil_append, List.cons_append, Nat.reduceAdd, List.drop_nil, List.take_nil, bld_1, bld_2, bld_3, bld_4, bld_5, bld_6, bld_7, bld_8, bld_9, bld_10, bld_11, bld_12, bld_13, bld_14, bld_15, bld_16, bld_17, bld_18, u8_wrap]))
  refine bb4 (fun X1 v1 h1 => ?_)
  obtain ⟨aa, cc, rfl⟩ := h1.form
  simp only [bldW, Pv_some, fldV_p, nilV_p, nilV_f, lenV_s, capV_s, sLen, minV_i, maxV_i, strV_s, unV_not, unV_neg, pickV_t, pickV_f, exV_t, cvIV_i, binI_add, binI_sub, binI_mul, binI_eql, binI_neq, binI_lss, binI_leq, binI_gtr, binI_geq, binI_and, binI_or, binB_eql, binB_neq, sEq, sNe, sLt, sLe, sGt, sGe, stampEq, stampNe, fldv_agg, fldv_one, binP_eql_nil, binP_neq_nil, binN_eql_nil, binN_neq_nil, binN_eql_nn, binN_neq_nn, Br_true, Br_false, Gd_tt, Gd_ft, Gd_tf, Gd_ff, cells_agg, List.getElem?_toArray, List.getElem?_cons_zero, List.getElem?_cons_succ, Nat.zero_add, Nat.add_zero, Nat.zero_mul, List.drop_succ_cons, List.drop_zero, List.take_succ_cons, List.take_zero, List.nil_append, List.cons_append, Nat.reduceAdd, List.drop_nil, List.take_nil, bld_1, bld_2, bld_3, bld_4, bld_5, bld_6, bld_7, bld_8, bld_9, bld_10, bld_11, bld_12, bld_13, bld_14, bld_15, bld_16, bld_17, bld_18]
  refine newI (fun bw => ?_)
  have hw : WrR bw ((bw, Obj.cells #[.slice aa 4 cc] 153 (0, 0)) :: X1) 4 := ⟨_, _, X1, rfl, h1, by simp⟩
  refine rdb ?_
  refine bi1 (fun u I2 hI2 hu => ?_)
  have hkk : ∀ {I3 : Imm}, Ext I2 I3 → ∀ v' I', Ext I3 I' → Gh (K (.tuple #[v', .int .i64 0])) I' ((b1, Obj.cells #[.int .i64 m.kind, .int .i64 m.group, .int .i64 m.frm, .int .i64 m.to, .int .i64 m.term, .int .i64 m.index, .int .i64 m.lterm, .int .i64 m.commit, .bool m.ok, .slice a0 m.ents.length p0, .slice a1 m.mem.length p1, .slice a2 m.data.length p2] 77 (0, 0)) :: L) :=
    fun hI3 v' I' hI' => Gh.to L (Gh.done (hk v' I' (((hI1.trans hI2).trans hI3).trans hI')))
  refine call (wcount_spec hw hu (by simp) (by simp; omega) (by simp) (fun X2 h2 => ?_))
  simp only [List.length_cons, List.length_nil] at h2
  refine rdb ?_
  try simp only [Pv_some, fldV_p, nilV_p, nilV_f, lenV_s, capV_s, sLen, minV_i, maxV_i, strV_s, unV_not, unV_neg, pickV_t, pickV_f, exV_t, cvIV_i, binI_add, binI_sub, binI_mul, binI_eql, binI_neq, binI_lss, binI_leq, binI_gtr, binI_geq, binI_and, binI_or, binB_eql, binB_neq, sEq, sNe, sLt, sLe, sGt, sGe, stampEq, stampNe, fldv_agg, fldv_one, binP_eql_nil, binP_neq_nil, binN_eql_nil, binN_neq_nil, binN_eql_nn, binN_neq_nn, Br_true, Br_false, Gd_tt, Gd_ft, Gd_tf, Gd_ff, cells_agg, List.getElem?_toArray, List.getElem?_cons_zero, List.getElem?_cons_succ, Nat.zero_add, Nat.add_zero, Nat.zero_mul, List.drop_succ_cons, List.drop_zero, List.take_succ_cons, List.take_zero, List.nil_append, List.cons_append, Nat.reduceAdd, List.drop_nil, List.take_nil, bld_1, bld_2, bld_3, bld_4, bld_5, bld_6, bld_7, bld_8, bld_9, bld_10, bld_11, bld_12, bld_13, bld_14, bld_15, bld_16, bld_17, bld_18]
  refine br_split (fun k1 => ?_) (fun k1 => ?_)
  · refine rdb ?_
    try simp only [Pv_some, fldV_p, nilV_p, nilV_f, lenV_s, capV_s, sLen, minV_i, maxV_i, strV_s, unV_not, unV_neg, pickV_t, pickV_f, exV_t, cvIV_i, binI_add, binI_sub, binI_mul, binI_eql, binI_neq, binI_lss, binI_leq, binI_gtr, binI_geq, binI_and, binI_or, binB_eql, binB_neq, sEq, sNe, sLt, sLe, sGt, sGe, stampEq, stampNe, fldv_agg, fldv_one, binP_eql_nil, binP_neq_nil, binN_eql_nil, binN_neq_nil, binN_eql_nn, binN_neq_nn, Br_true, Br_false, Gd_tt, Gd_ft, Gd_tf, Gd_ff, cells_agg, List.getElem?_toArray, List.getElem?_cons_zero, List.getElem?_cons_succ, Nat.zero_add, Nat.add_zero, Nat.zero_mul, List.drop_succ_cons, List.drop_zero, List.take_succ_cons, List.take_zero, List.nil_append, List.cons_append, Nat.reduceAdd, List.drop_nil, List.take_nil, bld_1, bld_2, bld_3, bld_4, bld_5, bld_6, bld_7, bld_8, bld_9, bld_10, bld_11, bld_12, bld_13, bld_14, bld_15, bld_16, bld_17, bld_18]
    refine rdb ?_
    refine bi2 (fun u I3 hI3 hu => ?_)
    refine call (wcount_spec h2 hu (by simp) (by simp; omega) (by simp) (fun X3 h3 => ?_))
    exact wfin h3 (hkk hI3)
  refine br_split (fun k2 => ?_) (fun k2 => ?_)
  · refine rdb ?_
    refine call (wtruth_spec h2 (by simp) (fun X3 h3 => ?_))
    exact wfin h3 (hkk (Ext.refl _))
  refine br_split (fun k3 => ?_) (fun k3 => ?_)
  · refine rdb ?_
    try simp only [Pv_some, fldV_p, nilV_p, nilV_f, lenV_s, capV_s, sLen, minV_i, maxV_i, strV_s, unV_not, unV_neg, pickV_t, pickV_f, exV_t, cvIV_i, binI_add, binI_sub, binI_mul, binI_eql, binI_neq, binI_lss, binI_leq, binI_gtr, binI_geq, binI_and, binI_or, binB_eql, binB_neq, sEq, sNe, sLt, sLe, sGt, sGe, stampEq, stampNe, fldv_agg, fldv_one, binP_eql_nil, binP_neq_nil, binN_eql_nil, binN_neq_nil, binN_eql_nn, binN_neq_nn, Br_true, Br_false, Gd_tt, Gd_ft, Gd_tf, Gd_ff, cells_agg, List.getElem?_toArray, List.getElem?_cons_zero, List.getElem?_cons_succ, Nat.zero_add, Nat.add_zero, Nat.zero_mul, List.drop_succ_cons, List.drop_zero, List.take_succ_cons, List.take_zero, List.nil_append, List.cons_append, Nat.reduceAdd, List.drop_nil, List.take_nil, bld_1, bld_2, bld_3, bld_4, bld_5, bld_6, bld_7, bld_8, bld_9, bld_10, bld_11, bld_12, bld_13, bld_14, bld_15, bld_16, bld_17, bld_18]
    refine rdb ?_
    try simp only [Pv_some, fldV_p, nilV_p, nilV_f, lenV_s, capV_s, sLen, minV_i, maxV_i, strV_s, unV_not, unV_neg, pickV_t, pickV_f, exV_t, cvIV_i, binI_add, binI_sub, binI_mul, binI_eql, binI_neq, binI_lss, binI_leq, binI_gtr, binI_geq, binI_and, binI_or, binB_eql, binB_neq, sEq, sNe, sLt, sLe, sGt, sGe, stampEq, stampNe, fldv_agg, fldv_one, binP_eql_nil, binP_neq_nil, binN_eql_nil, binN_neq_nil, binN_eql_nn, binN_neq_nn, Br_true, Br_false, Gd_tt, Gd_ft, Gd_tf, Gd_ff, cells_agg, List.getElem?_toArray, List.getElem?_cons_zero, List.getElem?_cons_succ, Nat.zero_add, Nat.add_zero, Nat.zero_mul, List.drop_succ_cons, List.drop_zero, List.take_succ_cons, List.take_zero, List.nil_append, List.cons_append, Nat.reduceAdd, List.drop_nil, List.take_nil, bld_1, bld_2, bld_3, bld_4, bld_5, bld_6, bld_7, bld_8, bld_9, bld_10, bld_11, bld_12, bld_13, bld_14, bld_15, bld_16, bld_17, bld_18]
    refine rdb ?_
    try simp only [Pv_some, fldV_p, nilV_p, nilV_f, lenV_s, capV_s, sLen, minV_i, maxV_i, strV_s, unV_not, unV_neg, pickV_t, pickV_f, exV_t, cvIV_i, binI_add, binI_sub, binI_mul, binI_eql, binI_neq, binI_lss, binI_leq, binI_gtr, binI_geq, binI_and, binI_or, binB_eql, binB_neq, sEq, sNe, sLt, sLe, sGt, sGe, stampEq, stampNe, fldv_agg, fldv_one, binP_eql_nil, binP_neq_nil, binN_eql_nil, binN_neq_nil, binN_eql_nn, binN_neq_nn, Br_true, Br_false, Gd_tt, Gd_ft, Gd_tf, Gd_ff, cells_agg, List.getElem?_toArray, List.getElem?_cons_zero, List.getElem?_cons_succ, Nat.zero_add, Nat.add_zero, Nat.zero_mul, List.drop_succ_cons, List.drop_zero, List.take_succ_cons, List.take_zero, List.nil_append, List.cons_append, Nat.reduceAdd, List.drop_nil, List.take_nil, bld_1, bld_2, bld_3, bld_4, bld_5, bld_6, bld_7, bld_8, bld_9, bld_10, bld_11, bld_12, bld_13, bld_14, bld_15, bld_16, bld_17, bld_18]
    refine rdb ?_
    simp only [e1, Pv_some, fldV_p, nilV_p, nilV_f, lenV_s, capV_s, sLen, minV_i, maxV_i, strV_s, unV_not, unV_neg, pickV_t, pickV_f, exV_t, cvIV_i, binI_add, binI_sub, binI_mul, binI_eql, binI_neq, binI_lss, binI_leq, binI_gtr, binI_geq, binI_and, binI_or, binB_eql, binB_neq, sEq, sNe, sLt, sLe, sGt, sGe, stampEq, stampNe, fldv_agg, fldv_one, binP_eql_nil, binP_neq_nil, binN_eql_nil, binN_neq_nil, binN_eql_nn, binN_neq_nn, Br_true, Br_false, Gd_tt, Gd_ft, Gd_tf, Gd_ff, cells_agg, List.getElem?_toArray, List.getElem?_cons_zero, List.getElem?_cons_succ, Nat.zero_add, Nat.add_zero, Nat.zero_mul, List.drop_succ_cons, List.drop_zero, List.take_succ_cons, List.take_zero, List.nil_append, List.cons_append, Nat.reduceAdd, List.drop_nil, List.take_nil, bld_1, bld_2, bld_3, bld_4, bld_5, bld_6, bld_7, bld_8, bld_9, bld_10, bld_11, bld_12, bld_13, bld_14, bld_15, bld_16, bld_17, bld_18]
    refine bi4 (fun u I3 hI3 hu => ?_)
    refine call (wcount_spec h2 hu (by simp) (by simp; omega) (by simp) (fun X3 h3 => ?_))
    try simp only [Pv_some, fldV_p, nilV_p, nilV_f, lenV_s, capV_s, sLen, minV_i, maxV_i, strV_s, unV_not, unV_neg, pickV_t, pickV_f, exV_t, cvIV_i, binI_add, binI_sub, binI_mul, binI_eql, binI_neq, binI_lss, binI_leq, binI_gtr, binI_geq, binI_and, binI_or, binB_eql, binB_neq, sEq, sNe, sLt, sLe, sGt, sGe, stampEq, stampNe, fldv_agg, fldv_one, binP_eql_nil, binP_neq_nil, binN_eql_nil, binN_neq_nil, binN_eql_nn, binN_neq_nn, Br_true, Br_false, Gd_tt, Gd_ft, Gd_tf, Gd_ff, cells_agg, List.getElem?_toArray, List.getElem?_cons_zero, List.getElem?_cons_succ, Nat.zero_add, Nat.add_zero, Nat.zero_mul, List.drop_succ_cons, List.drop_zero, List.take_succ_cons, List.take_zero, List.nil_append, List.cons_append, Nat.reduceAdd, List.drop_nil, List.take_nil, bld_1, bld_2, bld_3, bld_4, bld_5, bld_6, bld_7, bld_8, bld_9, bld_10, bld_11, bld_12, bld_13, bld_14, bld_15, bld_16, bld_17, bld_18]
    refine rdb ?_
    simp only [e1, Pv_some, fldV_p, nilV_p, nilV_f, lenV_s, capV_s, sLen, minV_i, maxV_i, strV_s, unV_not, unV_neg, pickV_t, pickV_f, exV_t, cvIV_i, binI_add, binI_sub, binI_mul, binI_eql, binI_neq, binI_lss, binI_leq, binI_gtr, binI_geq, binI_and, binI_or, binB_eql, binB_neq, sEq, sNe, sLt, sLe, sGt, sGe, stampEq, stampNe, fldv_agg, fldv_one, binP_eql_nil, binP_neq_nil, binN_eql_nil, binN_neq_nil, binN_eql_nn, binN_neq_nn, Br_true, Br_false, Gd_tt, Gd_ft, Gd_tf, Gd_ff, cells_agg, List.getElem?_toArray, List.getElem?_cons_zero, List.getElem?_cons_succ, Nat.zero_add, Nat.add_zero, Nat.zero_mul, List.drop_succ_cons, List.drop_zero, List.take_succ_cons, List.take_zero, List.nil_append, List.cons_append, Nat.reduceAdd, List.drop_nil, List.take_nil, bld_1, bld_2, bld_3, bld_4, bld_5, bld_6, bld_7, bld_8, bld_9, bld_10, bld_11, bld_12, bld_13, bld_14, bld_15, bld_16, bld_17, bld_18]
    exact wents (LsV.to hE ((hI1.trans hI2).trans hI3)) hd h3 (by simp) (hkk hI3)
  refine br_split (fun k4 => ?_) (fun k4 => ?_)
  · refine rdb ?_
    refine call (wtruth_spec h2 (by simp) (fun X3 h3 => ?_))
    try simp only [Pv_some, fldV_p, nilV_p, nilV_f, lenV_s, capV_s, sLen, minV_i, maxV_i, strV_s, unV_not, unV_neg, pickV_t, pickV_f, exV_t, cvIV_i, binI_add, binI_sub, binI_mul, binI_eql, binI_neq, binI_lss, binI_leq, binI_gtr, binI_geq, binI_and, binI_or, binB_eql, binB_neq, sEq, sNe, sLt, sLe, sGt, sGe, stampEq, stampNe, fldv_agg, fldv_one, binP_eql_nil, binP_neq_nil, binN_eql_nil, binN_neq_nil, binN_eql_nn, binN_neq_nn, Br_true, Br_false, Gd_tt, Gd_ft, Gd_tf, Gd_ff, cells_agg, List.getElem?_toArray, List.getElem?_cons_zero, List.getElem?_cons_succ, Nat.zero_add, Nat.add_zero, Nat.zero_mul, List.drop_succ_cons, List.drop_zero, List.take_succ_cons, List.take_zero, List.nil_append, List.cons_append, Nat.reduceAdd, List.drop_nil, List.take_nil, bld_1, bld_2, bld_3, bld_4, bld_5, bld_6, bld_7, bld_8, bld_9, bld_10, bld_11, bld_12, bld_13, bld_14, bld_15, bld_16, bld_17, bld_18]
    refine rdb ?_
    refine bi1 (fun u I3 hI3 hu => ?_)
    refine call (wcount_spec h3 hu (by simp) (by simp; omega) (by simp) (fun X4 h4 => ?_))
    exact wfin h4 (hkk hI3)
  refine br_split (fun k5 => ?_) (fun k5 => ?_)
  · refine rdb ?_
    try simp only [Pv_some, fldV_p, nilV_p, nilV_f, lenV_s, capV_s, sLen, minV_i, maxV_i, strV_s, unV_not, unV_neg, pickV_t, pickV_f, exV_t, cvIV_i, binI_add, binI_sub, binI_mul, binI_eql, binI_neq, binI_lss, binI_leq, binI_gtr, binI_geq, binI_and, binI_or, binB_eql, binB_neq, sEq, sNe, sLt, sLe, sGt, sGe, stampEq, stampNe, fldv_agg, fldv_one, binP_eql_nil, binP_neq_nil, binN_eql_nil, binN_neq_nil, binN_eql_nn, binN_neq_nn, Br_true, Br_false, Gd_tt, Gd_ft, Gd_tf, Gd_ff, cells_agg, List.getElem?_toArray, List.getElem?_cons_zero, List.getElem?_cons_succ, Nat.zero_add, Nat.add_zero, Nat.zero_mul, List.drop_succ_cons, List.drop_zero, List.take_succ_cons, List.take_zero, List.nil_append, List.cons_append, Nat.reduceAdd, List.drop_nil, List.take_nil, bld_1, bld_2, bld_3, bld_4, bld_5, bld_6, bld_7, bld_8, bld_9, bld_10, bld_11, bld_12, bld_13, bld_14, bld_15, bld_16, bld_17, bld_18]
    refine rdb ?_
    try simp only [Pv_some, fldV_p, nilV_p, nilV_f, lenV_s, capV_s, sLen, minV_i, maxV_i, strV_s, unV_not, unV_neg, pickV_t, pickV_f, exV_t, cvIV_i, binI_add, binI_sub, binI_mul, binI_eql, binI_neq, binI_lss, binI_leq, binI_gtr, binI_geq, binI_and, binI_or, binB_eql, binB_neq, sEq, sNe, sLt, sLe, sGt, sGe, stampEq, stampNe, fldv_agg, fldv_one, binP_eql_nil, binP_neq_nil, binN_eql_nil, binN_neq_nil, binN_eql_nn, binN_neq_nn, Br_true, Br_false, Gd_tt, Gd_ft, Gd_tf, Gd_ff, cells_agg, List.getElem?_toArray, List.getElem?_cons_zero, List.getElem?_cons_succ, Nat.zero_add, Nat.add_zero, Nat.zero_mul, List.drop_succ_cons, List.drop_zero, List.take_succ_cons, List.take_zero, List.nil_append, List.cons_append, Nat.reduceAdd, List.drop_nil, List.take_nil, bld_1, bld_2, bld_3, bld_4, bld_5, bld_6, bld_7, bld_8, bld_9, bld_10, bld_11, bld_12, bld_13, bld_14, bld_15, bld_16, bld_17, bld_18]
    refine rdb ?_
    simp only [e2, Pv_some, fldV_p, nilV_p, nilV_f, lenV_s, capV_s, sLen, minV_i, maxV_i, strV_s, unV_not, unV_neg, pickV_t, pickV_f, exV_t, cvIV_i, binI_add, binI_sub, binI_mul, binI_eql, binI_neq, binI_lss, binI_leq, binI_gtr, binI_geq, binI_and, binI_or, binB_eql, binB_neq, sEq, sNe, sLt, sLe, sGt, sGe, stampEq, stampNe, fldv_agg, fldv_one, binP_eql_nil, binP_neq_nil, binN_eql_nil, binN_neq_nil, binN_eql_nn, binN_neq_nn, Br_true, Br_false, Gd_tt, Gd_ft, Gd_tf, Gd_ff, cells_agg, List.getElem?_toArray, List.getElem?_cons_zero, List.getElem?_cons_succ, Nat.zero_add, Nat.add_zero, Nat.zero_mul, List.drop_succ_cons, List.drop_zero, List.take_succ_cons, List.take_zero, List.nil_append, List.cons_append, Nat.reduceAdd, List.drop_nil, List.take_nil, bld_1, bld_2, bld_3, bld_4, bld_5, bld_6, bld_7, bld_8, bld_9, bld_10, bld_11, bld_12, bld_13, bld_14, bld_15, bld_16, bld_17, bld_18]
    refine bi3 (fun u I3 hI3 hu => ?_)
    refine call (wcount_spec h2 hu (by simp) (by simp; omega) (by simp) (fun X3 h3 => ?_))
    try simp only [Pv_some, fldV_p, nilV_p, nilV_f, lenV_s, capV_s, sLen, minV_i, maxV_i, strV_s, unV_not, unV_neg, pickV_t, pickV_f, exV_t, cvIV_i, binI_add, binI_sub, binI_mul, binI_eql, binI_neq, binI_lss, binI_leq, binI_gtr, binI_geq, binI_and, binI_or, binB_eql, binB_neq, sEq, sNe, sLt, sLe, sGt, sGe, stampEq, stampNe, fldv_agg, fldv_one, binP_eql_nil, binP_neq_nil, binN_eql_nil, binN_neq_nil, binN_eql_nn, binN_neq_nn, Br_true, Br_false, Gd_tt, Gd_ft, Gd_tf, Gd_ff, cells_agg, List.getElem?_toArray, List.getElem?_cons_zero, List.getElem?_cons_succ, Nat.zero_add, Nat.add_zero, Nat.zero_mul, List.drop_succ_cons, List.drop_zero, List.take_succ_cons, List.take_zero, List.nil_append, List.cons_append, Nat.reduceAdd, List.drop_nil, List.take_nil, bld_1, bld_2, bld_3, bld_4, bld_5, bld_6, bld_7, bld_8, bld_9, bld_10, bld_11, bld_12, bld_13, bld_14, bld_15, bld_16, bld_17, bld_18]
    refine rdb ?_
    simp only [e2, Pv_some, fldV_p, nilV_p, nilV_f, lenV_s, capV_s, sLen, minV_i, maxV_i, strV_s, unV_not, unV_neg, pickV_t, pickV_f, exV_t, cvIV_i, binI_add, binI_sub, binI_mul, binI_eql, binI_neq, binI_lss, binI_leq, binI_gtr, binI_geq, binI_and, binI_or, binB_eql, binB_neq, sEq, sNe, sLt, sLe, sGt, sGe, stampEq, stampNe, fldv_agg, fldv_one, binP_eql_nil, binP_neq_nil, binN_eql_nil, binN_neq_nil, binN_eql_nn, binN_neq_nn, Br_true, Br_false, Gd_tt, Gd_ft, Gd_tf, Gd_ff, cells_agg, List.getElem?_toArray, List.getElem?_cons_zero, List.getElem?_cons_succ, Nat.zero_add, Nat.add_zero, Nat.zero_mul, List.drop_succ_cons, List.drop_zero, List.take_succ_cons, List.take_zero, List.nil_append, List.cons_append, Nat.reduceAdd, List.drop_nil, List.take_nil, bld_1, bld_2, bld_3, bld_4, bld_5, bld_6, bld_7, bld_8, bld_9, bld_10, bld_11, bld_12, bld_13, bld_14, bld_15, bld_16, bld_17, bld_18]
    exact wmems (hM.mono ((hI1.trans hI2).trans hI3)) (hD.mono ((hI1.trans hI2).trans hI3)) hd h3 (by simp) (hkk hI3)
  exact wfin h2 (hkk (Ext.refl _))
end
end Go.Proofs.Ytdcpeboecmkmlaa
