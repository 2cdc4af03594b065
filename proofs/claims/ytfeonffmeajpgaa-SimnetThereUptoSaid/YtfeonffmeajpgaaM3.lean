import Derived.Test.YtfeonffmeajpgaaM2
set_option linter.unusedSimpArgs false
set_option linter.unusedVariables false
namespace Go.Proofs.Ytfeonffmeajpgaa
open Go.SL
set_option maxRecDepth 10000

section
variable {ω : Om} {I : Imm} {L : LH} {K : Value → M}

def nums (b : List UInt8) : List Int := b.map fun x => (x.toNat : Int)
theorem nums_len (b : List UInt8) : (nums b).length = b.length := by simp [nums]
theorem nums_snoc {b : List UInt8} {k : Nat} (h : k < b.length) : nums (b.take (k + 1)) = nums (b.take k) ++ [((b[k]).toNat : Int)] := by
  have : b.take (k + 1) = b.take k ++ [b[k]] := by rw [List.take_add_one, List.getElem?_eq_getElem h]; rfl
  rw [this]
  simp only [nums, List.map_append, List.map_cons, List.map_nil]

theorem Bytes.len {v : Value} {l : List UInt8} (h : Bytes I v l) : lenV v = some (.int .i64 l.length) := by
  obtain ⟨_, a, c, rfl, _⟩ := h
  rfl
theorem Bytes.at {v : Value} {l : List UInt8} {k : Nat} (h : Bytes I v l) (hk : k < l.length) : ∃ b off, ixV 1 v (.int .i64 k) = some (.pointer (some ⟨b, off, none⟩)) ∧ ∀ I' L, Ext I I' → Cell I' L b off (.int .u8 (l[k]).toNat) := by
  obtain ⟨b, off, hix, hc⟩ := SlI.ix h .i64 hk
  have hone : ((u8s l).drop (k * 1)).take 1 = [.int .u8 (l[k]).toNat] := by
    rw [Nat.mul_one, List.drop_eq_getElem_cons (by simpa [u8s] using hk), List.take_succ_cons]
    simp [u8s]
  rw [hone] at hc
  exact ⟨b, off, hix, fun I' L hI => hc I' L hI 0 _ rfl⟩

theorem nums_app {X6 L0 F : LH} [SplitL X6 L0 F] {v : Value} {l : List Int} {x : Int} {K : Value → M} (h6 : SlO 3 1 X6 v (i64s l) l.length) (hl : (l.length + 1) * 8 ≤ 140737488355328)
    (hk : ∀ X1 X6' v', SlO 3 1 X6' v' (i64s (l ++ [x])) (l ++ [x]).length → K v' I (X6' ++ (X1 ++ F))) :
    BldS 3 1 #[.int .i64 0] 1 [(0, .int .i64 x)] (gh fun u => App 3 1 8 #[.int .i64 0] v u (gh K)) I L0 := by
  refine bld_one rfl (by omega) rfl (fun X1 u hX1 => ?_)
  refine app_own (X := X6) rfl h6 (hX1.news (fun x hx => List.mem_append_left _ hx)) (by simp [Value.cells, Value.oneCell']) (by omega) (by omega) (fun X' v' hX' => ?_)
  exact hk X1 X' v' (by simpa [Value.cells, i64s] using hX')

theorem numbers_spec {v : Value} {b : List UInt8} (h : Bytes I v b) (hlen : b.length * 8 ≤ 140737488355328) (hk : ∀ v' I', Ext I I' → Ints I' v' (nums b) → K v' I' L) : Cal Try.prog ω 53 #[v] K I L := by
  refine cal53 ?_
  have hln := Bytes.len h
  unfold sh53
  simp only [hln, Pv_some, fldV_p, nilV_p, nilV_f, lenV_s, capV_s, lenSV_s, strV_s, unV_not, unV_neg, pickV_t, pickV_f, exV_t, cvIV_i, binI_add, binI_sub, binI_mul, binI_eql, binI_neq, binI_lss, binI_leq, binI_gtr, binI_geq, binI_and, binI_or, binB_eql, binB_neq, binS_eql, binS_neq, binP_eql_nil, binP_neq_nil, binN_eql_nil, binN_neq_nil, binN_eql_nn, binN_neq_nn, Br_true, Br_false, cells_agg, List.getElem?_toArray, List.getElem?_cons_zero, List.getElem?_cons_succ, Nat.zero_add, Nat.add_zero, Nat.zero_mul]
  refine loop (fun s I' L' => I' = I ∧ ∃ (k : Nat) (w : Value) (X6 : LH), s = (w, .int .i64 k, ()) ∧ k ≤ b.length ∧ SlO 3 1 X6 w (i64s (nums (b.take k))) (nums (b.take k)).length ∧ L' = X6 ++ L)
    (fun s _ _ => match s with | (_, .int _ k, _) => ((b.length : Int) - k).toNat | _ => 0) ⟨rfl, 0, _, [], rfl, by omega, SlO.none 3 1, rfl⟩ ?_
  rintro s I' L' ⟨rfl, k, w, X6, rfl, hk1, h6, rfl⟩
  unfold sh53_3
  simp only [Pv_some, fldV_p, nilV_p, nilV_f, lenV_s, capV_s, lenSV_s, strV_s, unV_not, unV_neg, pickV_t, pickV_f, exV_t, cvIV_i, binI_add, binI_sub, binI_mul, binI_eql, binI_neq, binI_lss, binI_leq, binI_gtr, binI_geq, binI_and, binI_or, binB_eql, binB_neq, binS_eql, binS_neq, binP_eql_nil, binP_neq_nil, binN_eql_nil, binN_neq_nil, binN_eql_nn, binN_neq_nn, Br_true, Br_false, cells_agg, List.getElem?_toArray, List.getElem?_cons_zero, List.getElem?_cons_succ, Nat.zero_add, Nat.add_zero, Nat.zero_mul]
  by_cases hlt : k < b.length
  · have h1 : ((k : Int) < b.length) := by omega
    simp only [h1, decide_true, Br_true]
    obtain ⟨bb, off, hix, hc⟩ := Bytes.at h hlt
    simp only [hix, Pv_some, fldV_p, nilV_p, nilV_f, lenV_s, capV_s, lenSV_s, strV_s, unV_not, unV_neg, pickV_t, pickV_f, exV_t, cvIV_i, binI_add, binI_sub, binI_mul, binI_eql, binI_neq, binI_lss, binI_leq, binI_gtr, binI_geq, binI_and, binI_or, binB_eql, binB_neq, binS_eql, binS_neq, binP_eql_nil, binP_neq_nil, binN_eql_nil, binN_neq_nil, binN_eql_nn, binN_neq_nn, Br_true, Br_false, cells_agg, List.getElem?_toArray, List.getElem?_cons_zero, List.getElem?_cons_succ, Nat.zero_add, Nat.add_zero, Nat.zero_mul]
    refine rd1 (hc I' _ (Ext.refl I')) ?_
    have hu := (b[k]).toNat_lt
    simp only [Pv_some, fldV_p, nilV_p, nilV_f, lenV_s, capV_s, lenSV_s, strV_s, unV_not, unV_neg, pickV_t, pickV_f, exV_t, cvIV_i, binI_add, binI_sub, binI_mul, binI_eql, binI_neq, binI_lss, binI_leq, binI_gtr, binI_geq, binI_and, binI_or, binB_eql, binB_neq, binS_eql, binS_neq, binP_eql_nil, binP_neq_nil, binN_eql_nil, binN_neq_nil, binN_eql_nn, binN_neq_nn, Br_true, Br_false, cells_agg, List.getElem?_toArray, List.getElem?_cons_zero, List.getElem?_cons_succ, Nat.zero_add, Nat.add_zero, Nat.zero_mul, wrap_i64 (((b[k]).toNat : Nat) : Int) (by omega)]
    have hln2 := nums_len (b.take k)
    rw [List.length_take] at hln2
    refine nums_app (X6 := X6) h6 (by omega) (fun X1 X6' v' h6' => ?_)
    rw [← nums_snoc hlt] at h6'
    simp only [Pv_some, fldV_p, nilV_p, nilV_f, lenV_s, capV_s, lenSV_s, strV_s, unV_not, unV_neg, pickV_t, pickV_f, exV_t, cvIV_i, binI_add, binI_sub, binI_mul, binI_eql, binI_neq, binI_lss, binI_leq, binI_gtr, binI_geq, binI_and, binI_or, binB_eql, binB_neq, binS_eql, binS_neq, binP_eql_nil, binP_neq_nil, binN_eql_nil, binN_neq_nil, binN_eql_nn, binN_neq_nn, Br_true, Br_false, cells_agg, List.getElem?_toArray, List.getElem?_cons_zero, List.getElem?_cons_succ, Nat.zero_add, Nat.add_zero, Nat.zero_mul, wrap_i64 ((k : Int) + 1) (by omega)]
    refine Gh.to (X6' ++ L) (Gh.done ⟨⟨rfl, k + 1, v', X6', by simp, by omega, h6', rfl⟩, ?_⟩)
    omega
  · have h1 : ¬ ((k : Int) < b.length) := by omega
    simp only [h1, decide_false, Br_false]
    unfold sh53_2 sh53_1
    rw [List.take_of_length_le (by omega)] at h6
    exact SlO.freeze h6 (fun I2 hI2 hS2 => Gh.done (hk w I2 hI2 hS2))

end
end Go.Proofs.Ytfeonffmeajpgaa
