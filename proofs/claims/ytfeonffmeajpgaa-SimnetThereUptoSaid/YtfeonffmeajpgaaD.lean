import Derived.Test.YtfeonffmeajpgaaC
set_option linter.unusedSimpArgs false
set_option linter.unusedVariables false
namespace Go.Proofs.Ytfeonffmeajpgaa
open Go.SL
set_option maxRecDepth 10000

section
variable {ω : Om} {I : Imm} {L : LH} {K : Value → M}

set_option maxHeartbeats 400000 in
theorem awake_spec (hk : ∀ I', Ext I I' → K (.bool true) I' L) : Cal Try.prog ω 9 #[] K I L := by
  refine cal9 ?_
  unfold sh9
  refine call (new_spec (fun b => ?_))
  simp only [Pv_some, fldV_p, nilV_p, nilV_f, lenV_s, capV_s, lenSV_s, strV_s, unV_not, unV_neg, pickV_t, pickV_f, exV_t, cvIV_i, binI_add, binI_sub, binI_mul, binI_eql, binI_neq, binI_lss, binI_leq, binI_gtr, binI_geq, binI_and, binI_or, binB_eql, binB_neq, binS_eql, binS_neq, binP_eql_nil, binP_neq_nil, binN_eql_nil, binN_neq_nil, binN_eql_nn, binN_neq_nn, Br_true, Br_false, cells_agg, List.getElem?_toArray, List.getElem?_cons_zero, List.getElem?_cons_succ, Nat.zero_add, Nat.add_zero, Nat.zero_mul]
  refine bld_one rfl (by omega) rfl (fun X1 u hX1 => ?_)
  have hne : X1 ≠ [] := by
    rcases hX1.2 with ⟨_, h, _⟩ | ⟨_, _, _, rfl, _⟩
    · cases h
    · simp
  refine mrk_own (X := X1) hX1 hne (fun I1 hI1 hS1 => ?_)
  rw [show bldV #[.int .i64 0, .int .i64 0, .int .i64 0, .int .i64 0, .slice none 0 0] #[(0, 1), (1, 1), (2, 1), (3, 1), (4, 1)] [(1, .int .i64 1), (2, .int .i64 2), (3, .int .i64 3), (4, u)] = some (.agg #[.int .i64 0, .int .i64 1, .int .i64 2, .int .i64 3, u]) from by
    obtain ⟨a, c, rfl⟩ := hX1.form; rfl]
  simp only [Pv_some, fldV_p, nilV_p, nilV_f, lenV_s, capV_s, lenSV_s, strV_s, unV_not, unV_neg, pickV_t, pickV_f, exV_t, cvIV_i, binI_add, binI_sub, binI_mul, binI_eql, binI_neq, binI_lss, binI_leq, binI_gtr, binI_geq, binI_and, binI_or, binB_eql, binB_neq, binS_eql, binS_neq, binP_eql_nil, binP_neq_nil, binN_eql_nil, binN_neq_nil, binN_eql_nn, binN_neq_nn, Br_true, Br_false, cells_agg, List.getElem?_toArray, List.getElem?_cons_zero, List.getElem?_cons_succ, Nat.zero_add, Nat.add_zero, Nat.zero_mul]
  have hE : EnvV I1 ⟨0, 1, 2, 3, [120]⟩ [.int .i64 0, .int .i64 1, .int .i64 2, .int .i64 3, u] := ⟨_, rfl, hS1⟩
  refine call (send_spec (X := [(b, _)]) (F := L) (n := ⟨[], 0⟩) (newR 61 I1 b) hE (by simp) (by simp) (fun X' I2 hI2 hN2 => ?_))
  have hs : sendN ⟨[], 0⟩ ⟨0, 1, 2, 3, [120]⟩ = (1, 0, ⟨[⟨1, 1, 2, 3, [120]⟩], 1⟩) := by simp [sendN, okE, nodeB]
  rw [hs] at hN2 ⊢
  simp only [Pv_some, fldV_p, nilV_p, nilV_f, lenV_s, capV_s, lenSV_s, strV_s, unV_not, unV_neg, pickV_t, pickV_f, exV_t, cvIV_i, binI_add, binI_sub, binI_mul, binI_eql, binI_neq, binI_lss, binI_leq, binI_gtr, binI_geq, binI_and, binI_or, binB_eql, binB_neq, binS_eql, binS_neq, binP_eql_nil, binP_neq_nil, binN_eql_nil, binN_neq_nil, binN_eql_nn, binN_neq_nn, Br_true, Br_false, cells_agg, List.getElem?_toArray, List.getElem?_cons_zero, List.getElem?_cons_succ, Nat.zero_add, Nat.add_zero, Nat.zero_mul]
  refine call (deliver_spec hN2 ⟨by simp, by simp, by simp, by simp, by simp⟩ (by unfold inI64; omega) (by simp) (fun X3 c hN3 hc => ?_))
  have hd : delN ⟨[⟨1, 1, 2, 3, [120]⟩], 1⟩ 1 = (⟨1, 1, 2, 3, [120]⟩, 0, ⟨[], 1⟩) := by simp [delN, posOf]
  rw [hd] at hN3 hc ⊢
  obtain ⟨bv, rfl, hB⟩ := hc
  obtain ⟨a9, cap9, rfl⟩ := hB.form
  simp only [Pv_some, fldV_p, nilV_p, nilV_f, lenV_s, capV_s, lenSV_s, strV_s, unV_not, unV_neg, pickV_t, pickV_f, exV_t, cvIV_i, binI_add, binI_sub, binI_mul, binI_eql, binI_neq, binI_lss, binI_leq, binI_gtr, binI_geq, binI_and, binI_or, binB_eql, binB_neq, binS_eql, binS_neq, binP_eql_nil, binP_neq_nil, binN_eql_nil, binN_neq_nil, binN_eql_nn, binN_neq_nn, Br_true, Br_false, cells_agg, List.getElem?_toArray, List.getElem?_cons_zero, List.getElem?_cons_succ, Nat.zero_add, Nat.add_zero, Nat.zero_mul]
  refine newI (fun b9 => ?_)
  refine stB rfl rfl (one_all rfl) ?_
  refine gd_split (fun _ => ?_) (fun h => absurd rfl h)
  refine gd_split (fun _ => ?_) (fun h => absurd rfl h)
  refine gd_split (fun _ => ?_) (fun h => absurd rfl h)
  refine rdb ?_
  refine ⟨_, hB.str, ?_⟩
  simp only [Pv_some, fldV_p, nilV_p, nilV_f, lenV_s, capV_s, lenSV_s, strV_s, unV_not, unV_neg, pickV_t, pickV_f, exV_t, cvIV_i, binI_add, binI_sub, binI_mul, binI_eql, binI_neq, binI_lss, binI_leq, binI_gtr, binI_geq, binI_and, binI_or, binB_eql, binB_neq, binS_eql, binS_neq, binP_eql_nil, binP_neq_nil, binN_eql_nil, binN_neq_nil, binN_eql_nn, binN_neq_nn, Br_true, Br_false, cells_agg, List.getElem?_toArray, List.getElem?_cons_zero, List.getElem?_cons_succ, Nat.zero_add, Nat.add_zero, Nat.zero_mul]
  rw [show ((⟨[120].toArray⟩ : ByteArray).toList == (⟨#[120]⟩ : ByteArray).toList) = true from by simp]
  exact Gh.to L (Gh.done (hk I2 (hI1.trans hI2)))

def fullL (i : Nat) : List E := (List.range i).map fun (k : Nat) => (⟨(k : Int) + 1, 1, 1, 1, []⟩ : E)
theorem fullL_succ (i : Nat) : fullL (i + 1) = fullL i ++ [⟨(i : Int) + 1, 1, 1, 1, []⟩] := by simp [fullL, List.range_succ]
theorem fullL_len (i : Nat) : (fullL i).length = i := by simp [fullL]
theorem fullL_ok (i : Nat) (hi : i ≤ 1000) : OkN ⟨fullL i, i⟩ := by
  refine ⟨?_, ?_, ?_, by simp only; omega, by simp only; omega⟩
  · rw [List.pairwise_iff_getElem]
    intro a b ha hb hab
    simp [fullL]; omega
  · intro e he
    obtain ⟨k, hk, rfl⟩ := List.mem_map.1 he
    simp only; omega
  · intro e he
    obtain ⟨k, hk, rfl⟩ := List.mem_map.1 he
    simp only [List.mem_range] at hk
    simp only; omega
theorem oneE_ok (k : Int) : okE ⟨k, 1, 1, 1, []⟩ = true := by simp [okE, nodeB]
theorem full_pos (i : Nat) (k : Nat) (hk : k < i) : posOf (fullL i) ((k : Int) + 1) = some k := by
  rw [posOf, List.findIdx?_eq_some_iff_getElem]
  refine ⟨by rw [fullL_len]; exact hk, by simp [fullL], ?_⟩
  intro j hj
  simp [fullL]; omega
theorem oneV (I : Imm) (k : Int) : EnvV I ⟨k, 1, 1, 1, []⟩ [.int .i64 k, .int .i64 1, .int .i64 1, .int .i64 1, .slice none 0 0] := ⟨_, rfl, SlI.nil I 1 none 0⟩

set_option maxHeartbeats 400000 in
theorem full_tail {b : Nat} {X F : LH} {k : Int} {p : Value} (hN : NetR 61 I b X ⟨fullL 1000, 1000⟩) (h1 : 1 ≤ k) (h2 : k ≤ 1000) (hk : ∀ I' L', Ext I I' → K (.bool true) I' L') :
    sh4_2 ω p (.bool true) (.pointer (some ⟨b, 0, none⟩)) (.int .i64 90) (.int .i64 91) (.int .i64 k) (fun v => Gh (K v)) I (X ++ F) := by
  have hok := fullL_ok 1000 (by omega)
  have hp : posOf (fullL 1000) k = some (k - 1).toNat := by
    have := full_pos 1000 (k - 1).toNat (by omega)
    rwa [show (((k - 1).toNat : Nat) : Int) + 1 = k from by omega] at this
  have hget : (fullL 1000)[(k - 1).toNat]? = some ⟨k, 1, 1, 1, []⟩ := by
    have hlt : (k - 1).toNat < 1000 := by omega
    simp only [fullL, List.getElem?_map, List.getElem?_range hlt, Option.map_some]
    rw [show (((k - 1).toNat : Nat) : Int) + 1 = k from by omega]
  unfold sh4_2
  refine call (double_spec hN hok (by unfold inI64; omega) (by rw [fullL_len]; omega) (fun X1 I1 hI1 hN1 => ?_))
  have hd : dblN ⟨fullL 1000, 1000⟩ k = (0, 90, ⟨fullL 1000, 1000⟩) := by
    simp only [dblN, hp, hget, Option.getD_some, sendN, oneE_ok, Bool.true_eq_false, if_false, fullL_len]; simp
  rw [hd] at hN1 ⊢
  simp only [Pv_some, fldV_p, nilV_p, nilV_f, lenV_s, capV_s, lenSV_s, strV_s, unV_not, unV_neg, pickV_t, pickV_f, exV_t, cvIV_i, binI_add, binI_sub, binI_mul, binI_eql, binI_neq, binI_lss, binI_leq, binI_gtr, binI_geq, binI_and, binI_or, binB_eql, binB_neq, binS_eql, binS_neq, binP_eql_nil, binP_neq_nil, binN_eql_nil, binN_neq_nil, binN_eql_nn, binN_neq_nn, Br_true, Br_false, cells_agg, List.getElem?_toArray, List.getElem?_cons_zero, List.getElem?_cons_succ, Nat.zero_add, Nat.add_zero, Nat.zero_mul]
  refine call (drop_spec hN1 hok (by unfold inI64; omega) (by rw [fullL_len]; omega) (fun X2 hN2 => ?_))
  have he : delN ⟨fullL 1000, 1000⟩ k = (⟨k, 1, 1, 1, []⟩, 0, ⟨(fullL 1000).eraseIdx (k - 1).toNat, 1000⟩) := by
    simp only [delN, hp, hget, Option.getD_some]
  rw [he] at hN2 ⊢
  rw [show bldV #[.int .i64 0, .int .i64 0, .int .i64 0, .int .i64 0, .slice none 0 0] #[(0, 1), (1, 1), (2, 1), (3, 1), (4, 1)] [(1, .int .i64 1), (2, .int .i64 1), (3, .int .i64 1)] = some (.agg #[.int .i64 0, .int .i64 1, .int .i64 1, .int .i64 1, .slice none 0 0]) from rfl]
  simp only [Pv_some, fldV_p, nilV_p, nilV_f, lenV_s, capV_s, lenSV_s, strV_s, unV_not, unV_neg, pickV_t, pickV_f, exV_t, cvIV_i, binI_add, binI_sub, binI_mul, binI_eql, binI_neq, binI_lss, binI_leq, binI_gtr, binI_geq, binI_and, binI_or, binB_eql, binB_neq, binS_eql, binS_neq, binP_eql_nil, binP_neq_nil, binN_eql_nil, binN_neq_nil, binN_eql_nn, binN_neq_nn, Br_true, Br_false, cells_agg, List.getElem?_toArray, List.getElem?_cons_zero, List.getElem?_cons_succ, Nat.zero_add, Nat.add_zero, Nat.zero_mul]
  refine call (send_spec hN2 (oneV I1 0) (by simp only; omega) (by simp only; omega) (fun X3 I3 hI3 hN3 => ?_))
  have hlen : ((fullL 1000).eraseIdx (k - 1).toNat).length = 999 := by
    rw [List.length_eraseIdx, if_pos (by rw [fullL_len]; omega), fullL_len]
  have hs : (sendN ⟨(fullL 1000).eraseIdx (k - 1).toNat, 1000⟩ ⟨0, 1, 1, 1, []⟩).1 = 1001 ∧ (sendN ⟨(fullL 1000).eraseIdx (k - 1).toNat, 1000⟩ ⟨0, 1, 1, 1, []⟩).2.1 = 0 := by
    simp only [sendN, oneE_ok, Bool.true_eq_false, if_false, hlen]; simp
  rw [hs.1, hs.2]
  simp only [Pv_some, fldV_p, nilV_p, nilV_f, lenV_s, capV_s, lenSV_s, strV_s, unV_not, unV_neg, pickV_t, pickV_f, exV_t, cvIV_i, binI_add, binI_sub, binI_mul, binI_eql, binI_neq, binI_lss, binI_leq, binI_gtr, binI_geq, binI_and, binI_or, binB_eql, binB_neq, binS_eql, binS_neq, binP_eql_nil, binP_neq_nil, binN_eql_nil, binN_neq_nil, binN_eql_nn, binN_neq_nn, Br_true, Br_false, cells_agg, List.getElem?_toArray, List.getElem?_cons_zero, List.getElem?_cons_succ, Nat.zero_add, Nat.add_zero, Nat.zero_mul]
  refine gd_split (fun _ => ?_) (fun h => absurd rfl h)
  refine gd_split (fun _ => ?_) (fun h => absurd rfl h)
  refine gd_split (fun _ => ?_) (fun h => absurd rfl h)
  refine gd_split (fun _ => ?_) (fun h => absurd rfl h)
  refine gd_split (fun _ => ?_) (fun h => absurd rfl h)
  refine gd_split (fun _ => ?_) (fun h => absurd rfl h)
  exact Gh.done (hk I3 _ (hI1.trans hI3))

set_option maxHeartbeats 400000 in
theorem full_law {which : Int} (hw : inI64 which) (hk : ∀ I' L', Ext I I' → K (.bool true) I' L') : Cal Try.prog ω 4 #[.int .i64 which] K I L := by
  refine cal4 ?_
  unfold sh4
  refine call (awake_spec (fun I0 hI0 => ?_))
  refine call (new_spec (fun b => ?_))
  simp only [Pv_some, fldV_p, nilV_p, nilV_f, lenV_s, capV_s, lenSV_s, strV_s, unV_not, unV_neg, pickV_t, pickV_f, exV_t, cvIV_i, binI_add, binI_sub, binI_mul, binI_eql, binI_neq, binI_lss, binI_leq, binI_gtr, binI_geq, binI_and, binI_or, binB_eql, binB_neq, binS_eql, binS_neq, binP_eql_nil, binP_neq_nil, binN_eql_nil, binN_neq_nil, binN_eql_nn, binN_neq_nn, Br_true, Br_false, cells_agg, List.getElem?_toArray, List.getElem?_cons_zero, List.getElem?_cons_succ, Nat.zero_add, Nat.add_zero, Nat.zero_mul]
  refine loop (fun s I' L' => Ext I I' ∧ ∃ i X, s = (.bool false, .int .i64 (i : Nat), ()) ∧ i ≤ 1000 ∧ NetR 61 I' b X ⟨fullL i, i⟩ ∧ L' = X ++ L)
    (fun s _ _ => match s with | (_, .int _ i, _) => (1000 - i).toNat | _ => 0) ⟨hI0, 0, [(b, _)], rfl, by omega, newR 61 I0 b, rfl⟩ ?_
  rintro s I1 L1 ⟨hI1, i, X, rfl, hi, hN, rfl⟩
  unfold sh4_4
  rw [show bldV #[.int .i64 0, .int .i64 0, .int .i64 0, .int .i64 0, .slice none 0 0] #[(0, 1), (1, 1), (2, 1), (3, 1), (4, 1)] [(1, .int .i64 1), (2, .int .i64 1), (3, .int .i64 1)] = some (.agg #[.int .i64 0, .int .i64 1, .int .i64 1, .int .i64 1, .slice none 0 0]) from rfl]
  simp only [Pv_some, fldV_p, nilV_p, nilV_f, lenV_s, capV_s, lenSV_s, strV_s, unV_not, unV_neg, pickV_t, pickV_f, exV_t, cvIV_i, binI_add, binI_sub, binI_mul, binI_eql, binI_neq, binI_lss, binI_leq, binI_gtr, binI_geq, binI_and, binI_or, binB_eql, binB_neq, binS_eql, binS_neq, binP_eql_nil, binP_neq_nil, binN_eql_nil, binN_neq_nil, binN_eql_nn, binN_neq_nn, Br_true, Br_false, cells_agg, List.getElem?_toArray, List.getElem?_cons_zero, List.getElem?_cons_succ, Nat.zero_add, Nat.add_zero, Nat.zero_mul]
  by_cases hlt : (i : Int) < 1000
  · simp only [hlt, decide_true, Br_true]
    refine call (send_spec hN (oneV I1 0) (by simp only; omega) (by simp only; omega) (fun X2 I2 hI2 hN2 => ?_))
    have hs : sendN ⟨fullL i, i⟩ ⟨0, 1, 1, 1, []⟩ = ((i : Int) + 1, 0, ⟨fullL (i + 1), (i : Int) + 1⟩) := by
      simp only [sendN, oneE_ok, Bool.true_eq_false, if_false, fullL_len, fullL_succ]; rw [if_neg (by omega)]
    rw [hs] at hN2 ⊢
    simp only [Pv_some, fldV_p, nilV_p, nilV_f, lenV_s, capV_s, lenSV_s, strV_s, unV_not, unV_neg, pickV_t, pickV_f, exV_t, cvIV_i, binI_add, binI_sub, binI_mul, binI_eql, binI_neq, binI_lss, binI_leq, binI_gtr, binI_geq, binI_and, binI_or, binB_eql, binB_neq, binS_eql, binS_neq, binP_eql_nil, binP_neq_nil, binN_eql_nil, binN_neq_nil, binN_eql_nn, binN_neq_nn, Br_true, Br_false, cells_agg, List.getElem?_toArray, List.getElem?_cons_zero, List.getElem?_cons_succ, Nat.zero_add, Nat.add_zero, Nat.zero_mul, wrap_i64 ((i : Int) + 1) (by omega)]
    refine gd_split (fun _ => ?_) (fun h => absurd rfl h)
    rw [show (((i : Int) + 1) != ((i : Int) + 1)) = false from by simp]
    simp only [Br_false]
    refine Gh.done ⟨⟨hI1.trans hI2, i + 1, X2, by simp, by omega, by simpa using hN2, rfl⟩, ?_⟩
    omega
  · simp only [hlt, decide_false, Br_false]
    have hi' : i = 1000 := by omega
    subst hi'
    unfold sh4_3 sh4_1
    rw [show bldV #[.int .i64 0, .int .i64 0, .int .i64 0, .int .i64 0, .slice none 0 0] #[(0, 1), (1, 1), (2, 1), (3, 1), (4, 1)] [(1, .int .i64 1), (2, .int .i64 1), (3, .int .i64 1)] = some (.agg #[.int .i64 0, .int .i64 1, .int .i64 1, .int .i64 1, .slice none 0 0]) from rfl]
    simp only [Pv_some, fldV_p, nilV_p, nilV_f, lenV_s, capV_s, lenSV_s, strV_s, unV_not, unV_neg, pickV_t, pickV_f, exV_t, cvIV_i, binI_add, binI_sub, binI_mul, binI_eql, binI_neq, binI_lss, binI_leq, binI_gtr, binI_geq, binI_and, binI_or, binB_eql, binB_neq, binS_eql, binS_neq, binP_eql_nil, binP_neq_nil, binN_eql_nil, binN_neq_nil, binN_eql_nn, binN_neq_nn, Br_true, Br_false, cells_agg, List.getElem?_toArray, List.getElem?_cons_zero, List.getElem?_cons_succ, Nat.zero_add, Nat.add_zero, Nat.zero_mul]
    refine call (send_spec hN (oneV I1 0) (by simp only; omega) (by simp only; omega) (fun X2 I2 hI2 hN2 => ?_))
    have hs : sendN ⟨fullL 1000, (1000 : Nat)⟩ ⟨0, 1, 1, 1, []⟩ = (0, 90, ⟨fullL 1000, (1000 : Nat)⟩) := by
      simp only [sendN, oneE_ok, Bool.true_eq_false, if_false, fullL_len]; simp
    rw [hs] at hN2 ⊢
    simp only [Pv_some, fldV_p, nilV_p, nilV_f, lenV_s, capV_s, lenSV_s, strV_s, unV_not, unV_neg, pickV_t, pickV_f, exV_t, cvIV_i, binI_add, binI_sub, binI_mul, binI_eql, binI_neq, binI_lss, binI_leq, binI_gtr, binI_geq, binI_and, binI_or, binB_eql, binB_neq, binS_eql, binS_neq, binP_eql_nil, binP_neq_nil, binN_eql_nil, binN_neq_nil, binN_eql_nn, binN_neq_nn, Br_true, Br_false, cells_agg, List.getElem?_toArray, List.getElem?_cons_zero, List.getElem?_cons_succ, Nat.zero_add, Nat.add_zero, Nat.zero_mul]
    refine call (double_spec hN2 (fullL_ok 1000 (by omega)) (by unfold inI64; omega) (by rw [fullL_len]; omega) (fun X3 I3 hI3 hN3 => ?_))
    have hp0 : posOf (fullL 1000) 0 = none := by
      rw [posOf, List.findIdx?_eq_none_iff]
      intro e he
      obtain ⟨k, _, rfl⟩ := List.mem_map.1 he
      simp; omega
    have hd : dblN ⟨fullL 1000, (1000 : Nat)⟩ 0 = (0, 91, ⟨fullL 1000, (1000 : Nat)⟩) := by simp only [dblN, hp0]
    rw [hd] at hN3 ⊢
    have hr1 := Int.tmod_lt_of_pos which (b := 1000) (by omega)
    have hr2 : -1000 < which.tmod 1000 := by
      have := Int.lt_tmod_of_pos which (b := 1000) (by omega)
      omega
    rw [binI_rem _ _ _ (by omega)]
    simp only [Pv_some, fldV_p, nilV_p, nilV_f, lenV_s, capV_s, lenSV_s, strV_s, unV_not, unV_neg, pickV_t, pickV_f, exV_t, cvIV_i, binI_add, binI_sub, binI_mul, binI_eql, binI_neq, binI_lss, binI_leq, binI_gtr, binI_geq, binI_and, binI_or, binB_eql, binB_neq, binS_eql, binS_neq, binP_eql_nil, binP_neq_nil, binN_eql_nil, binN_neq_nil, binN_eql_nn, binN_neq_nn, Br_true, Br_false, cells_agg, List.getElem?_toArray, List.getElem?_cons_zero, List.getElem?_cons_succ, Nat.zero_add, Nat.add_zero, Nat.zero_mul, wrap_i64 (1 + which.tmod 1000) (by omega)]
    have hfin : ∀ k : Int, 1 ≤ k → k ≤ 1000 → sh4_2 ω (.bool false) (.bool true) (.pointer (some ⟨b, 0, none⟩)) (.int .i64 90) (.int .i64 91) (.int .i64 k) (fun v => Gh (K v)) I3 (X3 ++ L) :=
      fun k h1 h2 => full_tail hN3 h1 h2 (fun I' L' hI => hk I' L' (((hI1.trans hI2).trans hI3).trans hI))
    by_cases hneg : 1 + which.tmod 1000 < 1
    · simp only [hneg, decide_true, Br_true]
      exact hfin 1 (by omega) (by omega)
    · simp only [hneg, decide_false, Br_false]
      exact hfin _ (by omega) (by omega)

end
end Go.Proofs.Ytfeonffmeajpgaa
