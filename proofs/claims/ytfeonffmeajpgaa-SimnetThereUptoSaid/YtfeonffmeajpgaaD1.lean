import Derived.Test.YtfeonffmeajpgaaN5
set_option linter.unusedSimpArgs false
set_option linter.unusedVariables false
namespace Go.Proofs.Ytfeonffmeajpgaa
open Go.SL
set_option maxRecDepth 10000

section
variable {ω : Om} {I : Imm} {L : LH} {K : Value → M}

/-! ### The reader, plainly -/
abbrev RS := List UInt8 × Bool
def byteF (s : RS) : Nat × RS := match s.1 with
  | [] => (0, ([], true))
  | x :: r => (x.toNat, (r, s.2))
def cntF : Nat → Nat → Nat → RS → Nat × RS
  | 0, _, _, s => (0, (s.1, true))
  | f + 1, sc, acc, s => if (byteF s).1 < 128 then (acc + (byteF s).1 % 128 * sc, (byteF s).2) else cntF f (sc * 128) (acc + (byteF s).1 % 128 * sc) (byteF s).2
def countF (s : RS) : Nat × RS := cntF 8 1 0 s
def textF (s : RS) : List UInt8 × RS := if (countF s).2.1.length < (countF s).1 then ([], ((countF s).2.1, true)) else ((countF s).2.1.take (countF s).1, ((countF s).2.1.drop (countF s).1, (countF s).2.2))

theorem byteF_lt (s : RS) : (byteF s).1 < 256 := by
  unfold byteF
  split
  · simp
  · rename_i x r _; exact x.toNat_lt
theorem cntF_lt : ∀ (f sc acc : Nat) (s : RS), acc < sc → (cntF f sc acc s).1 < sc * 128 ^ f ∨ (cntF f sc acc s).1 = 0
  | 0, _, _, _, _ => .inr rfl
  | f + 1, sc, acc, s, h => by
    have hm : (byteF s).1 % 128 < 128 := Nat.mod_lt _ (by omega)
    have hlt : acc + (byteF s).1 % 128 * sc < sc * 128 := by
      have : (byteF s).1 % 128 * sc ≤ 127 * sc := Nat.mul_le_mul_right _ (by omega)
      omega
    simp only [cntF]
    split
    · left
      simp only
      have h1 : sc * 128 ≤ sc * 128 ^ (f + 1) := by
        rw [Nat.pow_succ]
        exact Nat.mul_le_mul_left _ (Nat.le_mul_of_pos_left _ (Nat.pos_of_ne_zero (by simp)))
      omega
    · have := cntF_lt f (sc * 128) (acc + (byteF s).1 % 128 * sc) (byteF s).2 hlt
      rw [Nat.pow_succ, show sc * (128 ^ f * 128) = sc * 128 * 128 ^ f from by rw [Nat.mul_assoc, Nat.mul_comm (128 ^ f)]]
      exact this
theorem countF_lt (s : RS) : (countF s).1 < 72057594037927936 := by
  rcases cntF_lt 8 1 0 s (by omega) with h | h
  · simpa [countF] using h
  · unfold countF; omega

/-! ### Parts of bytes -/
theorem Bytes.drop {v : Value} {l : List UInt8} {n : Nat} (h : Bytes I v l) (hn : n ≤ l.length) : ∃ v', slcV 1 v (some (.int .i64 n)) none none = some v' ∧ Bytes I v' (l.drop n) := by
  obtain ⟨v', h1, h2⟩ := SlI.part (lo := n) (hi := l.length) h hn (Nat.le_refl _) (some (.int .i64 n)) none (fun y hy => .inl (bnd_in _ _ _ _ (by omega))) (fun cap hc => rfl)
  refine ⟨v', h1, ?_⟩
  unfold Bytes
  rw [List.length_drop]
  have : ((u8s l).drop (n * 1)).take ((l.length - n) * 1) = u8s (l.drop n) := by
    rw [Nat.mul_one, Nat.mul_one, List.take_of_length_le (by simp [u8s])]
    simp [u8s]
  rwa [this] at h2
theorem Bytes.part {v : Value} {l : List UInt8} {lo hi : Nat} (h : Bytes I v l) (h1 : lo ≤ hi) (h2 : hi ≤ l.length) : ∃ v', slcV 1 v (some (.int .i64 lo)) (some (.int .i64 hi)) none = some v' ∧ Bytes I v' ((l.drop lo).take (hi - lo)) := by
  obtain ⟨v', e1, e2⟩ := SlI.part (lo := lo) (hi := hi) h h1 h2 (some (.int .i64 lo)) (some (.int .i64 hi)) (fun y hy => .inl (bnd_in _ _ _ _ (by omega))) (fun cap hc => bnd_in _ _ _ _ (by omega))
  refine ⟨v', e1, ?_⟩
  unfold Bytes
  rw [List.length_take, List.length_drop, Nat.min_eq_left (by omega)]
  have : ((u8s l).drop (lo * 1)).take ((hi - lo) * 1) = u8s ((l.drop lo).take (hi - lo)) := by
    simp [u8s]
  rwa [this] at e2
theorem Bytes.take {v : Value} {l : List UInt8} {n : Nat} (h : Bytes I v l) (hn : n ≤ l.length) : ∃ v', slcV 1 v none (some (.int .i64 n)) none = some v' ∧ Bytes I v' (l.take n) := by
  obtain ⟨v', e1, e2⟩ := SlI.part (lo := 0) (hi := n) h (by omega) hn none (some (.int .i64 n)) (fun y hy => .inl rfl) (fun cap hc => bnd_in _ _ _ _ (by omega))
  refine ⟨v', e1, ?_⟩
  unfold Bytes
  rw [List.length_take, Nat.min_eq_left (by omega)]
  have : ((u8s l).drop (0 * 1)).take ((n - 0) * 1) = u8s (l.take n) := by
    simp [u8s]
  rwa [this] at e2
theorem Bytes.one1 {v : Value} {l : List UInt8} (h : Bytes I v l) : v.oneCell' = true := by
  obtain ⟨_, _, rfl⟩ := h.form
  rfl

theorem or_add {n y i : Nat} (h : n < 2 ^ i) (hs : n + y * 2 ^ i < 9223372036854775808) : bitsV .or .i64 (n : Int) ((y * 2 ^ i : Nat) : Int) = ((n + y * 2 ^ i : Nat) : Int) := by
  have e : ((BitVec.ofInt 64 (n : Int)) ||| (BitVec.ofInt 64 ((y * 2 ^ i : Nat) : Int))).toNat = n + y * 2 ^ i := by
    rw [BitVec.toNat_or]
    have e1 : (BitVec.ofInt 64 (n : Int)).toNat = n := by rw [BitVec.toNat_ofInt]; omega
    have e2 : (BitVec.ofInt 64 ((y * 2 ^ i : Nat) : Int)).toNat = y * 2 ^ i := by
      rw [BitVec.toNat_ofInt]
      generalize y * 2 ^ i = z at *
      omega
    rw [e1, e2, Nat.or_comm, Nat.mul_comm, ← Nat.two_pow_add_eq_or_of_lt h]
    exact Nat.add_comm _ _
  show IntKind.i64.wrap ((BitVec.ofInt 64 (n : Int)) ||| (BitVec.ofInt 64 ((y * 2 ^ i : Nat) : Int))).toNat = _
  rw [e]
  exact wrap_i64 _ (by omega)

/-! ### The program's reader -/
abbrev rdO (sv : Value) (bad : Bool) : Obj := Obj.cells #[sv, .bool bad] 86 (0, 0)

theorem dbyte_spec {b : Nat} {F : LH} {sv : Value} {s : RS} (h : Bytes I sv s.1)
    (hk : ∀ sv', Bytes I sv' (byteF s).2.1 → K (.int .i64 (byteF s).1) I ((b, rdO sv' (byteF s).2.2) :: F)) : Cal Try.prog ω 50 #[.pointer (some ⟨b, 0, none⟩)] K I ((b, rdO sv s.2) :: F) := by
  obtain ⟨rest, bad⟩ := s
  refine cal50 ?_
  unfold sh50
  simp only [Pv_some, fldV_p, nilV_p, nilV_f, lenV_s, capV_s, lenSV_s, strV_s, unV_not, unV_neg, pickV_t, pickV_f, exV_t, cvIV_i, binI_add, binI_sub, binI_mul, binI_eql, binI_neq, binI_lss, binI_leq, binI_gtr, binI_geq, binI_and, binI_or, binB_eql, binB_neq, binS_eql, binS_neq, binP_eql_nil, binP_neq_nil, binN_eql_nil, binN_neq_nil, binN_eql_nn, binN_neq_nn, Br_true, Br_false, cells_agg, List.getElem?_toArray, List.getElem?_cons_zero, List.getElem?_cons_succ, Nat.zero_add, Nat.add_zero, Nat.zero_mul]
  refine rdb ?_
  simp only [Bytes.len h, Pv_some, fldV_p, nilV_p, nilV_f, lenV_s, capV_s, lenSV_s, strV_s, unV_not, unV_neg, pickV_t, pickV_f, exV_t, cvIV_i, binI_add, binI_sub, binI_mul, binI_eql, binI_neq, binI_lss, binI_leq, binI_gtr, binI_geq, binI_and, binI_or, binB_eql, binB_neq, binS_eql, binS_neq, binP_eql_nil, binP_neq_nil, binN_eql_nil, binN_neq_nil, binN_eql_nn, binN_neq_nn, Br_true, Br_false, cells_agg, List.getElem?_toArray, List.getElem?_cons_zero, List.getElem?_cons_succ, Nat.zero_add, Nat.add_zero, Nat.zero_mul]
  cases rest with
  | nil =>
    simp only [List.length_nil, Int.natCast_zero, beq_self_eq_true, Br_true]
    refine st1 rfl ?_
    exact Gh.done (hk sv h)
  | cons x r =>
    have e : (((x :: r).length : Int) == 0) = false := by simp; omega
    simp only [e, Br_false]
    refine rdb ?_
    obtain ⟨bb, off, hix, hc⟩ := Bytes.at (k := 0) h (by simp)
    have hix' : ixV 1 sv (.int .i64 0) = some (.pointer (some ⟨bb, off, none⟩)) := hix
    simp only [hix', Pv_some, fldV_p, nilV_p, nilV_f, lenV_s, capV_s, lenSV_s, strV_s, unV_not, unV_neg, pickV_t, pickV_f, exV_t, cvIV_i, binI_add, binI_sub, binI_mul, binI_eql, binI_neq, binI_lss, binI_leq, binI_gtr, binI_geq, binI_and, binI_or, binB_eql, binB_neq, binS_eql, binS_neq, binP_eql_nil, binP_neq_nil, binN_eql_nil, binN_neq_nil, binN_eql_nn, binN_neq_nn, Br_true, Br_false, cells_agg, List.getElem?_toArray, List.getElem?_cons_zero, List.getElem?_cons_succ, Nat.zero_add, Nat.add_zero, Nat.zero_mul]
    refine rd1 (hc I _ (Ext.refl I)) ?_
    refine rdb ?_
    obtain ⟨v', hs, hB⟩ := Bytes.drop (n := 1) h (by simp)
    have hs' : slcV 1 sv (some (.int .i64 1)) none none = some v' := hs
    simp only [hs', Pv_some, fldV_p, nilV_p, nilV_f, lenV_s, capV_s, lenSV_s, strV_s, unV_not, unV_neg, pickV_t, pickV_f, exV_t, cvIV_i, binI_add, binI_sub, binI_mul, binI_eql, binI_neq, binI_lss, binI_leq, binI_gtr, binI_geq, binI_and, binI_or, binB_eql, binB_neq, binS_eql, binS_neq, binP_eql_nil, binP_neq_nil, binN_eql_nil, binN_neq_nil, binN_eql_nn, binN_neq_nn, Br_true, Br_false, cells_agg, List.getElem?_toArray, List.getElem?_cons_zero, List.getElem?_cons_succ, Nat.zero_add, Nat.add_zero, Nat.zero_mul]
    refine st1 (Bytes.one1 hB) ?_
    have hx := x.toNat_lt
    simp only [List.getElem_cons_zero, Pv_some, fldV_p, nilV_p, nilV_f, lenV_s, capV_s, lenSV_s, strV_s, unV_not, unV_neg, pickV_t, pickV_f, exV_t, cvIV_i, binI_add, binI_sub, binI_mul, binI_eql, binI_neq, binI_lss, binI_leq, binI_gtr, binI_geq, binI_and, binI_or, binB_eql, binB_neq, binS_eql, binS_neq, binP_eql_nil, binP_neq_nil, binN_eql_nil, binN_neq_nil, binN_eql_nn, binN_neq_nn, Br_true, Br_false, cells_agg, List.getElem?_toArray, List.getElem?_cons_zero, List.getElem?_cons_succ, Nat.zero_add, Nat.add_zero, Nat.zero_mul, wrap_i64 ((x.toNat : Nat) : Int) (by omega)]
    exact Gh.done (hk v' hB)

theorem dcount_spec {b : Nat} {F : LH} {sv : Value} {s : RS} (h : Bytes I sv s.1)
    (hk : ∀ sv', Bytes I sv' (countF s).2.1 → K (.int .i64 (countF s).1) I ((b, rdO sv' (countF s).2.2) :: F)) : Cal Try.prog ω 51 #[.pointer (some ⟨b, 0, none⟩)] K I ((b, rdO sv s.2) :: F) := by
  refine cal51 ?_
  unfold sh51
  refine loop (fun st I' L' => I' = I ∧ ∃ (k n : Nat) (sv' : Value) (s' : RS), st = (.int .i64 0, .int .i64 n, .int .i64 ((7 * k : Nat) : Int), ()) ∧ k ≤ 8 ∧ n < 2 ^ (7 * k) ∧ Bytes I sv' s'.1 ∧ L' = (b, rdO sv' s'.2) :: F ∧ cntF (8 - k) (2 ^ (7 * k)) n s' = countF s)
    (fun s _ _ => match s with | (_, _, .int _ k, _) => ((56 : Int) - k).toNat | _ => 0) ⟨rfl, 0, 0, sv, s, rfl, by omega, by simp, h, rfl, rfl⟩ ?_
  rintro st I' L' ⟨rfl, k, n, sv', s', rfl, hk8, hn, hB, rfl, he⟩
  simp only
  (first | (with_reducible refine unfE (sh51_1.eq_1 ..) ?_) | (with_reducible refine unfE (sh51_2.eq_1 ..) ?_) | (with_reducible refine unfE (sh51_3.eq_1 ..) ?_) | (with_reducible refine unfE (sh51.eq_1 ..) ?_))
  simp only [Pv_some, fldV_p, nilV_p, nilV_f, lenV_s, capV_s, lenSV_s, strV_s, unV_not, unV_neg, pickV_t, pickV_f, exV_t, cvIV_i, binI_add, binI_sub, binI_mul, binI_eql, binI_neq, binI_lss, binI_leq, binI_gtr, binI_geq, binI_and, binI_or, binB_eql, binB_neq, binS_eql, binS_neq, binP_eql_nil, binP_neq_nil, binN_eql_nil, binN_neq_nil, binN_eql_nn, binN_neq_nn, Br_true, Br_false, cells_agg, List.getElem?_toArray, List.getElem?_cons_zero, List.getElem?_cons_succ, Nat.zero_add, Nat.add_zero, Nat.zero_mul]
  by_cases hlt : k = 8
  · subst hlt
    have h1 : ¬ ((((7 * 8 : Nat) : Int)) < 56) := by omega
    simp only [h1, decide_false, Br_false]
    unfold sh51_2 sh51_1
    simp only [Pv_some, fldV_p, nilV_p, nilV_f, lenV_s, capV_s, lenSV_s, strV_s, unV_not, unV_neg, pickV_t, pickV_f, exV_t, cvIV_i, binI_add, binI_sub, binI_mul, binI_eql, binI_neq, binI_lss, binI_leq, binI_gtr, binI_geq, binI_and, binI_or, binB_eql, binB_neq, binS_eql, binS_neq, binP_eql_nil, binP_neq_nil, binN_eql_nil, binN_neq_nil, binN_eql_nn, binN_neq_nn, Br_true, Br_false, cells_agg, List.getElem?_toArray, List.getElem?_cons_zero, List.getElem?_cons_succ, Nat.zero_add, Nat.add_zero, Nat.zero_mul]
    refine st1 rfl ?_
    simp only [Nat.sub_self, cntF] at he
    rw [← he] at hk
    exact Gh.done (hk sv' hB)
  · have h1 : ((((7 * k : Nat) : Int)) < 56) := by omega
    simp only [h1, decide_true, Br_true]
    refine call (dbyte_spec hB (fun sv2 hB2 => ?_))
    have hb := byteF_lt s'
    have hm : (byteF s').1 % 128 < 128 := Nat.mod_lt _ (by omega)
    have hp : 2 ^ (7 * k) * 128 ≤ 2 ^ 56 := by
      rw [show (128 : Nat) = 2 ^ 7 from rfl, ← Nat.pow_add]
      exact Nat.pow_le_pow_right (by omega) (by omega)
    have hml : (byteF s').1 % 128 * 2 ^ (7 * k) ≤ 127 * 2 ^ (7 * k) := Nat.mul_le_mul_right _ (by omega)
    simp only [and127 (n := (byteF s').1) (by omega), binI_shl _ _ _ _ (show (0 : Int) ≤ ((7 * k : Nat) : Int) by omega), Pv_some, fldV_p, nilV_p, nilV_f, lenV_s, capV_s, lenSV_s, strV_s, unV_not, unV_neg, pickV_t, pickV_f, exV_t, cvIV_i, binI_add, binI_sub, binI_mul, binI_eql, binI_neq, binI_lss, binI_leq, binI_gtr, binI_geq, binI_and, binI_or, binB_eql, binB_neq, binS_eql, binS_neq, binP_eql_nil, binP_neq_nil, binN_eql_nil, binN_neq_nil, binN_eql_nn, binN_neq_nn, Br_true, Br_false, cells_agg, List.getElem?_toArray, List.getElem?_cons_zero, List.getElem?_cons_succ, Nat.zero_add, Nat.add_zero, Nat.zero_mul]
    rw [show (((byteF s').1 % 128 : Nat) : Int) * 2 ^ (min (((7 * k : Nat) : Int)).toNat IntKind.i64.bits) = (((byteF s').1 % 128 * 2 ^ (7 * k) : Nat) : Int) from by
      rw [show min (((7 * k : Nat) : Int)).toNat IntKind.i64.bits = 7 * k from by
        rw [Int.toNat_natCast]; exact Nat.min_eq_left (by show 7 * k ≤ 64; omega)]
      simp]
    rw [wrap_i64 _ (by omega)]
    simp only [or_add hn (show n + (byteF s').1 % 128 * 2 ^ (7 * k) < 9223372036854775808 by omega), Pv_some, fldV_p, nilV_p, nilV_f, lenV_s, capV_s, lenSV_s, strV_s, unV_not, unV_neg, pickV_t, pickV_f, exV_t, cvIV_i, binI_add, binI_sub, binI_mul, binI_eql, binI_neq, binI_lss, binI_leq, binI_gtr, binI_geq, binI_and, binI_or, binB_eql, binB_neq, binS_eql, binS_neq, binP_eql_nil, binP_neq_nil, binN_eql_nil, binN_neq_nil, binN_eql_nn, binN_neq_nn, Br_true, Br_false, cells_agg, List.getElem?_toArray, List.getElem?_cons_zero, List.getElem?_cons_succ, Nat.zero_add, Nat.add_zero, Nat.zero_mul]
    rw [show 8 - k = (7 - k) + 1 from by omega] at he
    simp only [cntF] at he
    refine br_split (fun hx => ?_) (fun hx => ?_)
    · simp only [decide_eq_true_eq] at hx
      rw [if_pos (by omega)] at he
      rw [← he] at hk
      exact Gh.done (hk sv2 hB2)
    · simp only [decide_eq_false_iff_not] at hx
      rw [if_neg (by omega)] at he
      simp only [wrap_i64 (((7 * k : Nat) : Int) + 7) (by omega), Pv_some, fldV_p, nilV_p, nilV_f, lenV_s, capV_s, lenSV_s, strV_s, unV_not, unV_neg, pickV_t, pickV_f, exV_t, cvIV_i, binI_add, binI_sub, binI_mul, binI_eql, binI_neq, binI_lss, binI_leq, binI_gtr, binI_geq, binI_and, binI_or, binB_eql, binB_neq, binS_eql, binS_neq, binP_eql_nil, binP_neq_nil, binN_eql_nil, binN_neq_nil, binN_eql_nn, binN_neq_nn, Br_true, Br_false, cells_agg, List.getElem?_toArray, List.getElem?_cons_zero, List.getElem?_cons_succ, Nat.zero_add, Nat.add_zero, Nat.zero_mul]
      refine Gh.done ⟨⟨rfl, k + 1, n + (byteF s').1 % 128 * 2 ^ (7 * k), sv2, (byteF s').2, ?_, by omega, ?_, hB2, rfl, ?_⟩, by omega⟩
      · simp; omega
      · rw [show 7 * (k + 1) = 7 * k + 7 from by omega, Nat.pow_add]; omega
      · rw [show 8 - (k + 1) = 7 - k from by omega, show 7 * (k + 1) = 7 * k + 7 from by omega, Nat.pow_add]
        exact he

theorem clone_spec {v : Value} {l : List UInt8} (h : Bytes I v l) (hl : l.length ≤ 140737488355328) (hk : ∀ v' I', Ext I I' → Bytes I' v' l → K v' I' L) : Cal Try.prog ω 67 #[v] K I L := by
  refine cal67 ?_
  unfold sh67
  obtain ⟨a, cap, rfl⟩ := h.form
  cases a with
  | none =>
    simp only [binN_eql_nn, Pv_some, fldV_p, nilV_p, nilV_f, lenV_s, capV_s, lenSV_s, strV_s, unV_not, unV_neg, pickV_t, pickV_f, exV_t, cvIV_i, binI_add, binI_sub, binI_mul, binI_eql, binI_neq, binI_lss, binI_leq, binI_gtr, binI_geq, binI_and, binI_or, binB_eql, binB_neq, binS_eql, binS_neq, binP_eql_nil, binP_neq_nil, binN_eql_nil, binN_neq_nil, binN_eql_nn, binN_neq_nn, Br_true, Br_false, cells_agg, List.getElem?_toArray, List.getElem?_cons_zero, List.getElem?_cons_succ, Nat.zero_add, Nat.add_zero, Nat.zero_mul]
    have : l = [] := by
      obtain ⟨_, a, c, hv, _, hc⟩ := h
      by_cases h0 : l.length = 0
      · exact List.eq_nil_of_length_eq_zero h0
      · obtain ⟨b, off, cs, T, fr, ha, _⟩ := hc h0
        simp only [Value.slice.injEq] at hv
        rw [ha] at hv; cases hv.1
    subst this
    exact Gh.done (hk _ I (Ext.refl I) (SlI.nil _ _ _ _))
  | some ad =>
    simp only [Pv_some, fldV_p, nilV_p, nilV_f, lenV_s, capV_s, lenSV_s, strV_s, unV_not, unV_neg, pickV_t, pickV_f, exV_t, cvIV_i, binI_add, binI_sub, binI_mul, binI_eql, binI_neq, binI_lss, binI_leq, binI_gtr, binI_geq, binI_and, binI_or, binB_eql, binB_neq, binS_eql, binS_neq, binP_eql_nil, binP_neq_nil, binN_eql_nil, binN_neq_nil, binN_eql_nn, binN_neq_nn, Br_true, Br_false, cells_agg, List.getElem?_toArray, List.getElem?_cons_zero, List.getElem?_cons_succ, Nat.zero_add, Nat.add_zero, Nat.zero_mul]
    refine bld_zero (fun X u hX => ?_)
    refine app_own (X := X) rfl hX (SlI.news h) (u8s_one l) (by omega) (by omega) (fun X2 v2 h2 => ?_)
    simp only [List.nil_append, Nat.zero_add] at h2
    exact SlO.freeze h2 (fun I' hI hS => Gh.done (hk v2 I' hI hS))

theorem dtext_spec {b : Nat} {F : LH} {sv : Value} {s : RS} (h : Bytes I sv s.1) (hl : (countF s).2.1.length ≤ 140737488355328)
    (hk : ∀ v' sv' I', Ext I I' → Bytes I' v' (textF s).1 → Bytes I' sv' (textF s).2.1 → K v' I' ((b, rdO sv' (textF s).2.2) :: F)) : Cal Try.prog ω 52 #[.pointer (some ⟨b, 0, none⟩)] K I ((b, rdO sv s.2) :: F) := by
  refine cal52 ?_
  unfold sh52
  refine call (dcount_spec h (fun sv1 h1 => ?_))
  simp only [Pv_some, fldV_p, nilV_p, nilV_f, lenV_s, capV_s, lenSV_s, strV_s, unV_not, unV_neg, pickV_t, pickV_f, exV_t, cvIV_i, binI_add, binI_sub, binI_mul, binI_eql, binI_neq, binI_lss, binI_leq, binI_gtr, binI_geq, binI_and, binI_or, binB_eql, binB_neq, binS_eql, binS_neq, binP_eql_nil, binP_neq_nil, binN_eql_nil, binN_neq_nil, binN_eql_nn, binN_neq_nn, Br_true, Br_false, cells_agg, List.getElem?_toArray, List.getElem?_cons_zero, List.getElem?_cons_succ, Nat.zero_add, Nat.add_zero, Nat.zero_mul]
  refine rdb ?_
  simp only [Bytes.len h1, Pv_some, fldV_p, nilV_p, nilV_f, lenV_s, capV_s, lenSV_s, strV_s, unV_not, unV_neg, pickV_t, pickV_f, exV_t, cvIV_i, binI_add, binI_sub, binI_mul, binI_eql, binI_neq, binI_lss, binI_leq, binI_gtr, binI_geq, binI_and, binI_or, binB_eql, binB_neq, binS_eql, binS_neq, binP_eql_nil, binP_neq_nil, binN_eql_nil, binN_neq_nil, binN_eql_nn, binN_neq_nn, Br_true, Br_false, cells_agg, List.getElem?_toArray, List.getElem?_cons_zero, List.getElem?_cons_succ, Nat.zero_add, Nat.add_zero, Nat.zero_mul]
  refine br_split (fun hg => ?_) (fun hg => ?_)
  · simp only [decide_eq_true_eq] at hg
    have e : textF s = ([], ((countF s).2.1, true)) := by unfold textF; rw [if_pos (by omega)]
    rw [e] at hk
    refine st1 rfl ?_
    exact Gh.done (hk _ sv1 I (Ext.refl I) (SlI.nil _ _ _ _) h1)
  · simp only [decide_eq_false_iff_not] at hg
    have e : textF s = ((countF s).2.1.take (countF s).1, ((countF s).2.1.drop (countF s).1, (countF s).2.2)) := by unfold textF; rw [if_neg (by omega)]
    rw [e] at hk
    refine rdb ?_
    obtain ⟨v2, hs2, hB2⟩ := Bytes.take (n := (countF s).1) h1 (by omega)
    simp only [hs2, Pv_some, fldV_p, nilV_p, nilV_f, lenV_s, capV_s, lenSV_s, strV_s, unV_not, unV_neg, pickV_t, pickV_f, exV_t, cvIV_i, binI_add, binI_sub, binI_mul, binI_eql, binI_neq, binI_lss, binI_leq, binI_gtr, binI_geq, binI_and, binI_or, binB_eql, binB_neq, binS_eql, binS_neq, binP_eql_nil, binP_neq_nil, binN_eql_nil, binN_neq_nil, binN_eql_nn, binN_neq_nn, Br_true, Br_false, cells_agg, List.getElem?_toArray, List.getElem?_cons_zero, List.getElem?_cons_succ, Nat.zero_add, Nat.add_zero, Nat.zero_mul]
    refine call (clone_spec hB2 (by rw [List.length_take]; omega) (fun v3 I3 hI3 hB3 => ?_))
    try simp only [Pv_some, fldV_p, nilV_p, nilV_f, lenV_s, capV_s, lenSV_s, strV_s, unV_not, unV_neg, pickV_t, pickV_f, exV_t, cvIV_i, binI_add, binI_sub, binI_mul, binI_eql, binI_neq, binI_lss, binI_leq, binI_gtr, binI_geq, binI_and, binI_or, binB_eql, binB_neq, binS_eql, binS_neq, binP_eql_nil, binP_neq_nil, binN_eql_nil, binN_neq_nil, binN_eql_nn, binN_neq_nn, Br_true, Br_false, cells_agg, List.getElem?_toArray, List.getElem?_cons_zero, List.getElem?_cons_succ, Nat.zero_add, Nat.add_zero, Nat.zero_mul]
    refine rdb ?_
    obtain ⟨v4, hs4, hB4⟩ := Bytes.drop (n := (countF s).1) h1 (by omega)
    simp only [hs4, Pv_some, fldV_p, nilV_p, nilV_f, lenV_s, capV_s, lenSV_s, strV_s, unV_not, unV_neg, pickV_t, pickV_f, exV_t, cvIV_i, binI_add, binI_sub, binI_mul, binI_eql, binI_neq, binI_lss, binI_leq, binI_gtr, binI_geq, binI_and, binI_or, binB_eql, binB_neq, binS_eql, binS_neq, binP_eql_nil, binP_neq_nil, binN_eql_nil, binN_neq_nil, binN_eql_nn, binN_neq_nn, Br_true, Br_false, cells_agg, List.getElem?_toArray, List.getElem?_cons_zero, List.getElem?_cons_succ, Nat.zero_add, Nat.add_zero, Nat.zero_mul]
    refine st1 (Bytes.one1 hB4) ?_
    exact Gh.done (hk v3 v4 I3 hI3 hB3 (hB4.mono hI3))

end
end Go.Proofs.Ytfeonffmeajpgaa
