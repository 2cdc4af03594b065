import Derived.Test.YtfeonffmeajpgaaM9
set_option linter.unusedSimpArgs false
set_option linter.unusedVariables false
namespace Go.Proofs.Ytfeonffmeajpgaa
open Go.SL
set_option maxRecDepth 10000

section
variable {ω : Om} {I : Imm} {L : LH} {K : Value → M}

/-! ### Bits -/
theorem and127 {n : Nat} (h : n < 9223372036854775808) : bitsV .and .i64 (n : Int) 127 = ((n % 128 : Nat) : Int) := by
  have e : ((BitVec.ofInt 64 (n : Int)) &&& (BitVec.ofInt 64 127)).toNat = n % 128 := by
    rw [BitVec.toNat_and]
    have e1 : (BitVec.ofInt 64 (n : Int)).toNat = n := by simp [BitVec.toNat_ofInt]; omega
    have e2 : (BitVec.ofInt 64 127).toNat = 2 ^ 7 - 1 := by decide
    rw [e1, e2, Nat.and_two_pow_sub_one_eq_mod]
  show IntKind.i64.wrap ((BitVec.ofInt 64 (n : Int)) &&& (BitVec.ofInt 64 127)).toNat = _
  rw [e]
  exact wrap_i64 _ (by omega)
theorem or128 {n : Nat} (h : n < 128) : bitsV .or .i64 (n : Int) 128 = ((n + 128 : Nat) : Int) := by
  have e : ((BitVec.ofInt 64 (n : Int)) ||| (BitVec.ofInt 64 128)).toNat = n + 128 := by
    rw [BitVec.toNat_or]
    have e1 : (BitVec.ofInt 64 (n : Int)).toNat = n := by simp [BitVec.toNat_ofInt]; omega
    have e2 : (BitVec.ofInt 64 128).toNat = 2 ^ 7 * 1 := by decide
    rw [e1, e2, Nat.or_comm, ← Nat.two_pow_add_eq_or_of_lt (by omega)]
    omega
  show IntKind.i64.wrap ((BitVec.ofInt 64 (n : Int)) ||| (BitVec.ofInt 64 128)).toNat = _
  rw [e]
  exact wrap_i64 _ (by omega)
def byteOf (n : Int) : UInt8 := UInt8.ofNat (n % 256).toNat
theorem u8_wrap (n : Int) : IntKind.u8.wrap n = ((byteOf n).toNat : Int) := by
  have e : IntKind.u8.wrap n = n % 256 := by
    simp only [IntKind.wrap]
    simp [IntKind.bits, IntKind.signed]
  rw [e, byteOf]
  simp
  omega

/-! ### A count as bytes -/
def varL (n : Nat) : List UInt8 := if n < 128 then [UInt8.ofNat n] else UInt8.ofNat (n % 128 + 128) :: varL (n / 128)
termination_by n
theorem varL_small {n : Nat} (h : n < 128) : varL n = [UInt8.ofNat n] := by rw [varL, if_pos h]
theorem varL_big {n : Nat} (h : ¬ n < 128) : varL n = UInt8.ofNat (n % 128 + 128) :: varL (n / 128) := by rw [varL, if_neg h]
theorem varL_len : ∀ (k n : Nat), 1 ≤ k → n < 128 ^ k → (varL n).length ≤ k
  | 0, n, h, _ => by omega
  | k + 1, n, _, h => by
    by_cases h1 : n < 128
    · rw [varL_small h1]; simp
    · rw [varL_big h1]
      simp only [List.length_cons]
      have hk : 1 ≤ k := by
        rcases Nat.eq_zero_or_pos k with h0 | h0
        · subst h0; simp at h; omega
        · omega
      have := varL_len k (n / 128) hk (by rw [Nat.pow_succ] at h; omega)
      omega
theorem varL_9 {n : Nat} (h : n < 9223372036854775808) : (varL n).length ≤ 9 := varL_len 9 n (by omega) (by omega)

theorem byte_small {n : Nat} (h : n < 128) : byteOf n = UInt8.ofNat n := by
  unfold byteOf; congr 1; omega
theorem byte_next {n : Nat} : byteOf ((n % 128 + 128 : Nat) : Int) = UInt8.ofNat (n % 128 + 128) := by
  unfold byteOf; congr 1; omega

theorem b_app {X6 L0 F : LH} [SplitL X6 L0 F] {v : Value} {l : List UInt8} {x : UInt8} {K : Value → M} (h6 : SlO 5 1 X6 v (u8s l) l.length) (hl : l.length + 1 ≤ 140737488355328)
    (hk : ∀ X1 X6' v', SlO 5 1 X6' v' (u8s (l ++ [x])) (l ++ [x]).length → K v' I (X6' ++ (X1 ++ F))) :
    BldS 5 1 #[.int .u8 0] 1 [(0, .int .u8 x.toNat)] (gh fun u => App 5 1 1 #[.int .u8 0] v u (gh K)) I L0 := by
  refine bld_one rfl (by omega) rfl (fun X1 u hX1 => ?_)
  refine app_own (X := X6) rfl h6 (hX1.news (fun x hx => List.mem_append_left _ hx)) (by simp [Value.cells, Value.oneCell']) (by omega) (by omega) (fun X' v' hX' => ?_)
  exact hk X1 X' v' (by simpa [Value.cells, u8s] using hX')

/-- Var -/
theorem rvar_spec {X F : LH} {v : Value} {bs : List UInt8} {n : Nat} (h : SlO 5 1 X v (u8s bs) bs.length) (hn : n < 9223372036854775808) (hb : bs.length + 20 ≤ 140737488355328)
    (hk : ∀ X' v', SlO 5 1 X' v' (u8s (bs ++ varL n)) (bs ++ varL n).length → K v' I (X' ++ F)) : Cal Try.prog ω 47 #[v, .int .i64 n] K I (X ++ F) := by
  refine cal47 ?_
  unfold sh47
  refine loop (fun s I' L' => I' = I ∧ ∃ (k : Nat) (w : Value) (X6 : LH) (acc : List UInt8), s = (w, .int .i64 k, ()) ∧ k < 9223372036854775808 ∧ SlO 5 1 X6 w (u8s acc) acc.length ∧ L' = X6 ++ F ∧ acc ++ varL k = bs ++ varL n)
    (fun s _ _ => match s with | (_, .int _ k, _) => k.toNat | _ => 0) ⟨rfl, n, _, X, bs, rfl, hn, h, rfl, rfl⟩ ?_
  rintro s I' L' ⟨rfl, k, w, X6, acc, rfl, hk1, h6, rfl, he⟩
  simp only
  (first | (with_reducible refine unfE (sh47_1.eq_1 ..) ?_) | (with_reducible refine unfE (sh47_2.eq_1 ..) ?_) | (with_reducible refine unfE (sh47_3.eq_1 ..) ?_) | (with_reducible refine unfE (sh47.eq_1 ..) ?_))
  simp only [Pv_some, fldV_p, nilV_p, nilV_f, lenV_s, capV_s, lenSV_s, strV_s, unV_not, unV_neg, pickV_t, pickV_f, exV_t, cvIV_i, binI_add, binI_sub, binI_mul, binI_eql, binI_neq, binI_lss, binI_leq, binI_gtr, binI_geq, binI_and, binI_or, binB_eql, binB_neq, binS_eql, binS_neq, binP_eql_nil, binP_neq_nil, binN_eql_nil, binN_neq_nil, binN_eql_nn, binN_neq_nn, Br_true, Br_false, cells_agg, List.getElem?_toArray, List.getElem?_cons_zero, List.getElem?_cons_succ, Nat.zero_add, Nat.add_zero, Nat.zero_mul]
  have hlen := congrArg List.length he
  simp only [List.length_append] at hlen
  have h9 := varL_9 hn
  refine br_split (fun hge => ?_) (fun hge => ?_)
  · simp only [decide_eq_true_eq] at hge
    rw [varL_big (by omega)] at he hlen
    simp only [binI_rem _ _ _ (show (128 : Int) ≠ 0 by omega), Pv_some, fldV_p, nilV_p, nilV_f, lenV_s, capV_s, lenSV_s, strV_s, unV_not, unV_neg, pickV_t, pickV_f, exV_t, cvIV_i, binI_add, binI_sub, binI_mul, binI_eql, binI_neq, binI_lss, binI_leq, binI_gtr, binI_geq, binI_and, binI_or, binB_eql, binB_neq, binS_eql, binS_neq, binP_eql_nil, binP_neq_nil, binN_eql_nil, binN_neq_nil, binN_eql_nn, binN_neq_nn, Br_true, Br_false, cells_agg, List.getElem?_toArray, List.getElem?_cons_zero, List.getElem?_cons_succ, Nat.zero_add, Nat.add_zero, Nat.zero_mul]
    rw [show ((k : Int).tmod 128) = ((k % 128 : Nat) : Int) from by rw [Int.tmod_eq_emod_of_nonneg (by omega)]; omega]
    rw [wrap_i64 _ (by omega), u8_wrap, show ((k % 128 : Nat) : Int) + 128 = ((k % 128 + 128 : Nat) : Int) from by omega, byte_next]
    refine b_app (X6 := X6) h6 (by simp at hlen; omega) (fun X1 X6' v' h6' => ?_)
    simp only [binI_quo _ _ _ (show (128 : Int) ≠ 0 by omega), Pv_some, fldV_p, nilV_p, nilV_f, lenV_s, capV_s, lenSV_s, strV_s, unV_not, unV_neg, pickV_t, pickV_f, exV_t, cvIV_i, binI_add, binI_sub, binI_mul, binI_eql, binI_neq, binI_lss, binI_leq, binI_gtr, binI_geq, binI_and, binI_or, binB_eql, binB_neq, binS_eql, binS_neq, binP_eql_nil, binP_neq_nil, binN_eql_nil, binN_neq_nil, binN_eql_nn, binN_neq_nn, Br_true, Br_false, cells_agg, List.getElem?_toArray, List.getElem?_cons_zero, List.getElem?_cons_succ, Nat.zero_add, Nat.add_zero, Nat.zero_mul]
    rw [show ((k : Int).tdiv 128) = ((k / 128 : Nat) : Int) from by rw [Int.tdiv_eq_ediv_of_nonneg (by omega)]; omega]
    rw [wrap_i64 _ (by omega)]
    refine Gh.to (X6' ++ F) (Gh.done ⟨⟨rfl, k / 128, v', X6', _, rfl, by omega, h6', rfl, ?_⟩, ?_⟩)
    · rw [← he]; simp
    · simp; omega
  · simp only [decide_eq_false_iff_not] at hge
    rw [varL_small (by omega)] at he hlen
    unfold sh47_2 sh47_1
    simp only [Pv_some, fldV_p, nilV_p, nilV_f, lenV_s, capV_s, lenSV_s, strV_s, unV_not, unV_neg, pickV_t, pickV_f, exV_t, cvIV_i, binI_add, binI_sub, binI_mul, binI_eql, binI_neq, binI_lss, binI_leq, binI_gtr, binI_geq, binI_and, binI_or, binB_eql, binB_neq, binS_eql, binS_neq, binP_eql_nil, binP_neq_nil, binN_eql_nil, binN_neq_nil, binN_eql_nn, binN_neq_nn, Br_true, Br_false, cells_agg, List.getElem?_toArray, List.getElem?_cons_zero, List.getElem?_cons_succ, Nat.zero_add, Nat.add_zero, Nat.zero_mul, u8_wrap]
    rw [byte_small (by omega)]
    refine b_app (X6 := X6) h6 (by simp at hlen; omega) (fun X1 X6' v' h6' => ?_)
    rw [he] at h6'
    exact Gh.to (X6' ++ F) (Gh.done (hk X6' v' h6'))

/-- Text -/
def textL (b : List UInt8) : List UInt8 := varL b.length ++ b
theorem rtext_spec {X F : LH} {v bv : Value} {bs b : List UInt8} (h : SlO 5 1 X v (u8s bs) bs.length) (hB : Bytes I bv b) (hb : bs.length + b.length + 20 ≤ 140737488355328)
    (hk : ∀ X' v', SlO 5 1 X' v' (u8s (bs ++ textL b)) (bs ++ textL b).length → K v' I (X' ++ F)) : Cal Try.prog ω 49 #[v, bv] K I (X ++ F) := by
  refine cal49 ?_
  unfold sh49
  simp only [Bytes.len hB, Pv_some, fldV_p, nilV_p, nilV_f, lenV_s, capV_s, lenSV_s, strV_s, unV_not, unV_neg, pickV_t, pickV_f, exV_t, cvIV_i, binI_add, binI_sub, binI_mul, binI_eql, binI_neq, binI_lss, binI_leq, binI_gtr, binI_geq, binI_and, binI_or, binB_eql, binB_neq, binS_eql, binS_neq, binP_eql_nil, binP_neq_nil, binN_eql_nil, binN_neq_nil, binN_eql_nn, binN_neq_nn, Br_true, Br_false, cells_agg, List.getElem?_toArray, List.getElem?_cons_zero, List.getElem?_cons_succ, Nat.zero_add, Nat.add_zero, Nat.zero_mul]
  refine call (rvar_spec h (by omega) (by omega) (fun X' v' h' => ?_))
  have h9 := varL_9 (n := b.length) (by omega)
  refine app_own (X := X') rfl h' (SlI.news hB) (u8s_one b) (by simp; omega) (by simp; omega) (fun X2 v2 h2 => ?_)
  refine Gh.done (hk X2 v2 ?_)
  simpa [u8s, textL, Nat.add_assoc] using h2

/-- truth -/
def truthL (t : Bool) : List UInt8 := [if t then 1 else 0]
theorem rtruth_spec {X F : LH} {v : Value} {bs : List UInt8} {t : Bool} (h : SlO 5 1 X v (u8s bs) bs.length) (hb : bs.length + 20 ≤ 140737488355328)
    (hk : ∀ X' v', SlO 5 1 X' v' (u8s (bs ++ truthL t)) (bs ++ truthL t).length → K v' I (X' ++ F)) : Cal Try.prog ω 48 #[v, .bool t] K I (X ++ F) := by
  refine cal48 ?_
  unfold sh48
  refine br_split (fun ht => ?_) (fun ht => ?_)
  · subst ht
    exact b_app (X6 := X) (x := 1) h (by omega) (fun X1 X6' v' h6' => Gh.to (X6' ++ F) (Gh.done (hk X6' v' h6')))
  · subst ht
    exact b_app (X6 := X) (x := 0) h (by omega) (fun X1 X6' v' h6' => Gh.to (X6' ++ F) (Gh.done (hk X6' v' h6')))

/-! ### The writer -/
def WrR (b : Nat) (X : LH) (bs : List UInt8) : Prop := ∃ v Y, X = (b, Obj.cells #[v] 74 (0, 0)) :: Y ∧ SlO 5 1 Y v (u8s bs) bs.length

theorem wbyte_spec {b : Nat} {X F : LH} {bs : List UInt8} {n : Int} (h : WrR b X bs) (hb : bs.length + 1 ≤ 140737488355328)
    (hk : ∀ X', WrR b X' (bs ++ [byteOf n]) → K (.tuple #[]) I (X' ++ F)) : Cal Try.prog ω 44 #[.pointer (some ⟨b, 0, none⟩), .int .i64 n] K I (X ++ F) := by
  obtain ⟨v, Y, rfl, hS⟩ := h
  refine cal44 ?_
  unfold sh44
  simp only [Pv_some, fldV_p, nilV_p, nilV_f, lenV_s, capV_s, lenSV_s, strV_s, unV_not, unV_neg, pickV_t, pickV_f, exV_t, cvIV_i, binI_add, binI_sub, binI_mul, binI_eql, binI_neq, binI_lss, binI_leq, binI_gtr, binI_geq, binI_and, binI_or, binB_eql, binB_neq, binS_eql, binS_neq, binP_eql_nil, binP_neq_nil, binN_eql_nil, binN_neq_nil, binN_eql_nn, binN_neq_nn, Br_true, Br_false, cells_agg, List.getElem?_toArray, List.getElem?_cons_zero, List.getElem?_cons_succ, Nat.zero_add, Nat.add_zero, Nat.zero_mul, List.cons_append]
  refine rdb ?_
  simp only [Pv_some, fldV_p, nilV_p, nilV_f, lenV_s, capV_s, lenSV_s, strV_s, unV_not, unV_neg, pickV_t, pickV_f, exV_t, cvIV_i, binI_add, binI_sub, binI_mul, binI_eql, binI_neq, binI_lss, binI_leq, binI_gtr, binI_geq, binI_and, binI_or, binB_eql, binB_neq, binS_eql, binS_neq, binP_eql_nil, binP_neq_nil, binN_eql_nil, binN_neq_nil, binN_eql_nn, binN_neq_nn, Br_true, Br_false, cells_agg, List.getElem?_toArray, List.getElem?_cons_zero, List.getElem?_cons_succ, Nat.zero_add, Nat.add_zero, Nat.zero_mul, u8_wrap]
  refine b_app (X6 := Y) hS hb (fun X1 X6' v' h6' => ?_)
  obtain ⟨_, _, rfl⟩ := h6'.form
  refine st1 rfl ?_
  exact Gh.to ((b, _) :: (X6' ++ F)) (Gh.done (hk _ ⟨_, X6', rfl, h6'⟩))

theorem wtruth_spec {b : Nat} {X F : LH} {bs : List UInt8} {t : Bool} (h : WrR b X bs) (hb : bs.length + 1 ≤ 140737488355328)
    (hk : ∀ X', WrR b X' (bs ++ truthL t) → K (.tuple #[]) I (X' ++ F)) : Cal Try.prog ω 43 #[.pointer (some ⟨b, 0, none⟩), .bool t] K I (X ++ F) := by
  refine cal43 ?_
  unfold sh43
  refine br_split (fun ht => ?_) (fun ht => ?_)
  · subst ht
    exact call (wbyte_spec h hb (fun X' h' => Gh.done (hk X' h')))
  · subst ht
    exact call (wbyte_spec h hb (fun X' h' => Gh.done (hk X' h')))

def varsL (l : List Int) : List UInt8 := l.flatMap fun n => varL n.toNat

end
end Go.Proofs.Ytfeonffmeajpgaa
