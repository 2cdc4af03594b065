/-
  Numbers, members, entries: what the small functions of both sides tell.
-/
-- S4
import Derived.Test.YtdcpeboecmkmlaaSh
import Derived.Test.YtdcpeboecmkmlaaSS
set_option linter.unusedSimpArgs false
set_option linter.unusedVariables false
namespace Go.Proofs.Ytdcpeboecmkmlaa
open Go.SL
set_option maxRecDepth 10000

section
variable {ω : Om} {I : Imm} {L : LH} {K : Value → M}

def nodeB (n : Int) : Bool := decide (1 ≤ n ∧ n ≤ 5)
def countB (n : Int) : Bool := decide (0 ≤ n ∧ n ≤ 9007199254740991)
theorem count_spec {a : Int} (hk : K (.bool (countB a)) I L) : Cal Try.prog ω 60 #[.int .i64 a] K I L := by
  refine cal60 ?_
  unfold sh60
  try simp only [SSe, List.getElem?_toArray, List.getElem?_cons_zero, List.getElem?_cons_succ, Nat.zero_add, Nat.add_zero, Nat.zero_mul]
  refine gd_split (fun h => ?_) (fun h => ?_)
  all_goals (refine Gh.done (leafB hk ?_); simp_all [countB] <;> omega)
theorem rcount_spec {a : Int} (hk : K (.bool (countB a)) I L) : Cal Try.prog ω 106 #[.int .i64 a] K I L := by
  refine cal106 ?_
  unfold sh106
  try simp only [SSe, List.getElem?_toArray, List.getElem?_cons_zero, List.getElem?_cons_succ, Nat.zero_add, Nat.add_zero, Nat.zero_mul]
  refine gd_split (fun h => ?_) (fun h => ?_)
  all_goals (refine Gh.done (leafB hk ?_); simp_all [countB] <;> omega)
theorem rnode_spec {a : Int} (hk : K (.bool (nodeB a)) I L) : Cal Try.prog ω 75 #[.int .i64 a] K I L := by
  refine cal75 ?_
  unfold sh75
  try simp only [SSe, List.getElem?_toArray, List.getElem?_cons_zero, List.getElem?_cons_succ, Nat.zero_add, Nat.add_zero, Nat.zero_mul]
  refine gd_split (fun h => ?_) (fun h => ?_)
  all_goals (refine Gh.done (leafB hk ?_); simp_all [nodeB] <;> omega)

/-- rising nodes above 'last' -/
def risB (last : Int) : List Int → Bool
  | [] => true
  | x :: r => decide (last < x ∧ x ≤ 5) && risB x r
def memB (l : List Int) : Bool := decide (l.length ≠ 0 ∧ l.length ≤ 5) && risB 0 l

theorem members_spec {v : Value} {l : List Int} (h : Ints I v l) (hk : K (.bool (memB l)) I L) : Cal Try.prog ω 55 #[v] K I L := by
  refine cal55 ?_
  have hln := Ints.len h
  unfold sh55
  simp only [hln, SSe, List.getElem?_toArray, List.getElem?_cons_zero, List.getElem?_cons_succ, Nat.zero_add, Nat.add_zero, Nat.zero_mul]
  refine gd_split (fun h0 => ?_) (fun h0 => Gh.done (leafB hk (by simp at h0; simp [memB, h0])))
  refine br_split (fun h5 => Gh.done (leafB hk (by simp at h5; simp [memB]; omega))) (fun h5 => ?_)
  have h0' : l.length ≠ 0 := by intro e; simp [e] at h0
  simp at h5
  refine loop (fun m s I' L' => I' = I ∧ L' = L ∧ ∃ (k : Nat) (last : Int), k + m = l.length ∧ s = (.bool false, .int .i64 last, .int .i64 k, ()) ∧ risB last (l.drop k) = risB 0 l) l.length ⟨rfl, rfl, 0, 0, by omega, rfl, rfl⟩ ?_
  rintro m s I' L' ⟨rfl, rfl, k, last, hkm, rfl, hr⟩
  unfold sh55_4
  try simp only [SSe, List.getElem?_toArray, List.getElem?_cons_zero, List.getElem?_cons_succ, Nat.zero_add, Nat.add_zero, Nat.zero_mul]
  refine br_split (fun hlt => ?_) (fun hlt => ?_)
  · simp at hlt
    obtain ⟨b, off, hix, hc⟩ := ints_at h (i := k) (by omega) (by omega)
    simp only [hix, SSe, List.getElem?_toArray, List.getElem?_cons_zero, List.getElem?_cons_succ, Nat.zero_add, Nat.add_zero, Nat.zero_mul]
    refine rd1 (hc I' L' (Ext.refl I')) ?_
    try simp only [SSe, List.getElem?_toArray, List.getElem?_cons_zero, List.getElem?_cons_succ, Nat.zero_add, Nat.add_zero, Nat.zero_mul]
    rw [drop_geti hlt, risB] at hr
    refine gd_split (fun h1 => ?_) (fun h1 => Gh.done (leafB hk (by simp at h1; simp [memB, ← hr]; omega)))
    refine br_split (fun h2 => Gh.done (leafB hk (by simp at h2; simp [memB, ← hr]; omega))) (fun h2 => ?_)
    simp at h1 h2
    simp only [wrap_i64 ((k : Int) + 1) (by omega)]
    refine Gh.done ⟨m - 1, by omega, rfl, rfl, k + 1, _, by omega, by simp; exact rfl, ?_⟩
    rw [← hr]; simp; omega
  · simp at hlt
    rw [List.drop_of_length_le (by omega), risB] at hr
    refine Gh.done (leafB hk ?_)
    rw [memB, ← hr, Bool.and_true, decide_eq_true (by omega)]

theorem rmembers_spec {v : Value} {l : List Int} (h : Ints I v l) (hk : K (.bool (memB l)) I L) : Cal Try.prog ω 26 #[v] K I L := by
  refine cal26 ?_
  have hln := Ints.len h
  unfold sh26
  simp only [hln, SSe, List.getElem?_toArray, List.getElem?_cons_zero, List.getElem?_cons_succ, Nat.zero_add, Nat.add_zero, Nat.zero_mul]
  refine gd_split (fun h0 => ?_) (fun h0 => Gh.done (leafB hk (by simp only [ne_eq, Bool.not_eq_false, decide_eq_true_eq] at h0; rw [memB, decide_eq_false (by omega), Bool.false_and])))
  refine br_split (fun h5 => Gh.done (leafB hk (by simp at h5; simp [memB]; omega))) (fun h5 => ?_)
  have h0' : l.length ≠ 0 := by intro e; simp [e] at h0
  simp at h5
  refine loop (fun m s I' L' => I' = I ∧ L' = L ∧ ∃ (k : Nat) (last : Int), k + m = l.length ∧ s = (.bool false, .int .i64 k, ()) ∧ risB last (l.drop k) = risB 0 l ∧ 0 ≤ last ∧ last = if k = 0 then 0 else geti l ((k : Int) - 1)) l.length ⟨rfl, rfl, 0, 0, by omega, rfl, rfl, by omega, rfl⟩ ?_
  rintro m s I' L' ⟨rfl, rfl, k, last, hkm, rfl, hr, hl0, hl⟩
  unfold sh26_4
  simp only [hln, SSe, List.getElem?_toArray, List.getElem?_cons_zero, List.getElem?_cons_succ, Nat.zero_add, Nat.add_zero, Nat.zero_mul]
  refine br_split (fun hlt => ?_) (fun hlt => ?_)
  · simp at hlt
    obtain ⟨b, off, hix, hc⟩ := ints_at h (i := k) (by omega) (by omega)
    simp only [hix, SSe, List.getElem?_toArray, List.getElem?_cons_zero, List.getElem?_cons_succ, Nat.zero_add, Nat.add_zero, Nat.zero_mul]
    refine rd1 (hc I' L' (Ext.refl I')) ?_
    refine call (rnode_spec ?_)
    refine draw (Stay I' L') (Stay.start I' L') ?_
    try simp only [SSe, List.getElem?_toArray, List.getElem?_cons_zero, List.getElem?_cons_succ, Nat.zero_add, Nat.add_zero, Nat.zero_mul]
    rw [drop_geti hlt, risB] at hr
    have next : 1 ≤ geti l (k : Int) → last < geti l (k : Int) → geti l (k : Int) ≤ 5 → (fun s' => Gh fun I2 L2 => ∃ m', m' < m ∧ I2 = I' ∧ L2 = L' ∧ ∃ (k : Nat) (last : Int), k + m' = l.length ∧ s' = ((.bool false, .int .i64 k, ()) : Value × Value × Unit) ∧ risB last (l.drop k) = risB 0 l ∧ 0 ≤ last ∧ last = if k = 0 then 0 else geti l ((k : Int) - 1)) (.bool false, .int .i64 ((k : Int) + 1), ()) I' L' := fun h1 h2 h3 =>
      Gh.done ⟨m - 1, by omega, rfl, rfl, k + 1, geti l (k : Int), by omega, by simp, by rw [← hr]; simp; omega, by omega, by simp⟩
    refine gd_split (fun h1 => ?_) (fun h1 => Gh.done (leafB hk (by simp [nodeB] at h1; simp [memB, ← hr]; omega)))
    simp [nodeB] at h1
    refine gd_split (fun h2 => ?_) (fun h2 => ?_)
    · simp at h2
      obtain ⟨b2, off2, hix2, hc2⟩ := ints_at h (i := (k : Int) - 1) (by omega) (by omega)
      refine rd1I (hc I' L' (Ext.refl I')) ?_
      simp only [wrap_i64 ((k : Int) - 1) (by omega), hix2, SSe, List.getElem?_toArray, List.getElem?_cons_zero, List.getElem?_cons_succ, Nat.zero_add, Nat.add_zero, Nat.zero_mul]
      refine rd1I (hc2 I' L' (Ext.refl I')) ?_
      try simp only [SSe, List.getElem?_toArray, List.getElem?_cons_zero, List.getElem?_cons_succ, Nat.zero_add, Nat.add_zero, Nat.zero_mul]
      rw [if_neg (by omega)] at hl
      rw [← hl]
      refine br_split (fun h3 => Gh.done (leafB hk (by simp at h3; simp [memB, ← hr]; omega))) (fun h3 => ?_)
      simp at h3
      simp only [wrap_i64 ((k : Int) + 1) (by omega)]
      exact next (by omega) (by omega) (by omega)
    · simp at h2
      simp only [wrap_i64 ((k : Int) + 1) (by omega)]
      rw [if_pos (by omega)] at hl
      exact next (by omega) (by omega) (by omega)
  · simp at hlt
    rw [List.drop_of_length_le (by omega), risB] at hr
    refine Gh.done (leafB hk ?_)
    rw [memB, ← hr, Bool.and_true, decide_eq_true (by omega)]

def nums (b : List UInt8) : List Int := b.map fun x => (x.toNat : Int)
theorem nums_len (b : List UInt8) : (nums b).length = b.length := by simp [nums]
theorem nums_snoc {b : List UInt8} {k : Nat} (h : k < b.length) : nums (b.take (k + 1)) = nums (b.take k) ++ [((geti b (k : Int)).toNat : Int)] := by
  rw [take_geti h]
  simp only [nums, List.map_append, List.map_cons, List.map_nil]

theorem ints_app {X6 L0 F : LH} [SplitL X6 L0 F] {v : Value} {l : List Int} {x : Int} {K : Value → M} (h6 : SlO 3 1 X6 v (i64s l) l.length) (hl : (l.length + 1) * 8 ≤ 150000000000000)
    (hk : ∀ X1 X6' v', SlO 3 1 X6' v' (i64s (l ++ [x])) (l ++ [x]).length → K v' I (X6' ++ (X1 ++ F))) :
    BldS 3 1 #[.int .i64 0] 1 [(0, .int .i64 x)] (gh fun u => App 3 1 8 #[.int .i64 0] v u (gh K)) I L0 := by
  refine bld_one rfl (by omega) rfl (fun X1 u hX1 => ?_)
  refine app_own (X := X6) rfl h6 (hX1.news (fun x hx => List.mem_append_left _ hx)) (by simp [Value.cells, Value.oneCell']) (by omega) (by omega) (fun X' v' hX' => ?_)
  exact hk X1 X' v' (by simpa [Value.cells, i64s] using hX')

theorem memberbytes_spec {v : Value} {b : List UInt8} (h : Bytes I v b) (hk : ∀ I', Ext I I' → K (.bool (memB (nums b))) I' L) : Cal Try.prog ω 125 #[v] K I L := by
  refine cal125 ?_
  have hln := Bytes.len h
  unfold sh125
  simp only [hln, SSe, List.getElem?_toArray, List.getElem?_cons_zero, List.getElem?_cons_succ, Nat.zero_add, Nat.add_zero, Nat.zero_mul]
  refine br_split (fun h5 => Gh.done (leafB (hk I (Ext.refl I)) (by simp at h5; simp [memB, nums_len]; omega))) (fun h5 => ?_)
  simp at h5
  refine loop (fun m s I' L' => I' = I ∧ ∃ (k : Nat) (w : Value) (X6 : LH), k + m = b.length ∧ s = (w, .int .i64 k, ()) ∧ SlO 3 1 X6 w (i64s (nums (b.take k))) (nums (b.take k)).length ∧ L' = X6 ++ L) b.length ⟨rfl, 0, _, [], by omega, rfl, SlO.none 3 1, rfl⟩ ?_
  rintro m s I' L' ⟨rfl, k, w, X6, hkm, rfl, h6, rfl⟩
  unfold sh125_3
  simp only [hln, SSe, List.getElem?_toArray, List.getElem?_cons_zero, List.getElem?_cons_succ, Nat.zero_add, Nat.add_zero, Nat.zero_mul]
  refine br_split (fun hlt => ?_) (fun hlt => ?_)
  · simp at hlt
    obtain ⟨bb, off, hix, hc⟩ := bytes_at h (i := k) (by omega) (by omega)
    simp only [hix, SSe, List.getElem?_toArray, List.getElem?_cons_zero, List.getElem?_cons_succ, Nat.zero_add, Nat.add_zero, Nat.zero_mul]
    refine rd1 (hc I' _ (Ext.refl I')) ?_
    have hu := (geti b (k : Int)).toNat_lt
    simp only [SSe, List.getElem?_toArray, List.getElem?_cons_zero, List.getElem?_cons_succ, Nat.zero_add, Nat.add_zero, Nat.zero_mul, wrap_i64 (((geti b (k : Int)).toNat : Nat) : Int) (by omega)]
    have hln2 := nums_len (b.take k)
    rw [List.length_take] at hln2
    refine ints_app (X6 := X6) h6 (by omega) (fun X1 X6' v' h6' => ?_)
    rw [← nums_snoc hlt] at h6'
    simp only [SSe, List.getElem?_toArray, List.getElem?_cons_zero, List.getElem?_cons_succ, Nat.zero_add, Nat.add_zero, Nat.zero_mul, wrap_i64 ((k : Int) + 1) (by omega)]
    exact Gh.to (X6' ++ L) (Gh.done ⟨m - 1, by omega, rfl, k + 1, v', X6', by omega, by simp, h6', rfl⟩)
  · simp at hlt
    unfold sh125_1
    rw [List.take_of_length_le (by omega)] at h6
    exact cal_pre (SlO.freeze h6 (fun I2 hI2 hS2 => Gh.done (call (rmembers_spec (l := nums b) hS2 (Gh.done (hk I2 hI2))))))

end
end Go.Proofs.Ytdcpeboecmkmlaa
