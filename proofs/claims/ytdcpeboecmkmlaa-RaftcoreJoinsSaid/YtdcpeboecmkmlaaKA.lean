/-
  Which messages may be: the small functions of the net and of the node.
-/
-- S3
import Derived.Test.YtdcpeboecmkmlaaKX
import Derived.Test.YtdcpeboecmkmlaaSS
set_option linter.unusedSimpArgs false
set_option linter.unusedVariables false
namespace Go.Proofs.Ytdcpeboecmkmlaa
open Go.SL
set_option maxRecDepth 10000

section
variable {ω : Om} {I : Imm} {L : LH} {K : Value → M}

theorem scount_spec {a : Int} (hk : K (.bool (countB a)) I L) : Cal Try.prog ω 127 #[.int .i64 a] K I L := by
  refine cal127 ?_
  unfold sh127
  try simp only [SSd, List.getElem?_toArray, List.getElem?_cons_zero, List.getElem?_cons_succ, Nat.zero_add, Nat.add_zero, Nat.zero_mul, List.drop_succ_cons, List.drop_zero, List.take_succ_cons, List.take_zero, List.nil_append, List.cons_append, Nat.reduceAdd, List.drop_nil, List.take_nil]
  refine gd_split (fun h => ?_) (fun h => ?_)
  all_goals (refine Gh.done (leafB hk ?_); simp_all [countB] <;> omega)
theorem ccount_spec {a : Int} (hk : K (.bool (countB a)) I L) : Cal Try.prog ω 103 #[.int .i64 a] K I L := by
  refine cal103 ?_
  unfold sh103
  try simp only [SSd, List.getElem?_toArray, List.getElem?_cons_zero, List.getElem?_cons_succ, Nat.zero_add, Nat.add_zero, Nat.zero_mul, List.drop_succ_cons, List.drop_zero, List.take_succ_cons, List.take_zero, List.nil_append, List.cons_append, Nat.reduceAdd, List.drop_nil, List.take_nil]
  refine gd_split (fun h => ?_) (fun h => ?_)
  all_goals (refine Gh.done (leafB hk ?_); simp_all [countB] <;> omega)
theorem snode_spec {a : Int} (hk : K (.bool (nodeB a)) I L) : Cal Try.prog ω 128 #[.int .i64 a] K I L := by
  refine cal128 ?_
  unfold sh128
  try simp only [SSd, List.getElem?_toArray, List.getElem?_cons_zero, List.getElem?_cons_succ, Nat.zero_add, Nat.add_zero, Nat.zero_mul, List.drop_succ_cons, List.drop_zero, List.take_succ_cons, List.take_zero, List.nil_append, List.cons_append, Nat.reduceAdd, List.drop_nil, List.take_nil]
  refine gd_split (fun h => ?_) (fun h => ?_)
  all_goals (refine Gh.done (leafB hk ?_); simp_all [nodeB] <;> omega)
theorem cnode_spec {a : Int} (hk : K (.bool (nodeB a)) I L) : Cal Try.prog ω 102 #[.int .i64 a] K I L := by
  refine cal102 ?_
  unfold sh102
  try simp only [SSd, List.getElem?_toArray, List.getElem?_cons_zero, List.getElem?_cons_succ, Nat.zero_add, Nat.add_zero, Nat.zero_mul, List.drop_succ_cons, List.drop_zero, List.take_succ_cons, List.take_zero, List.nil_append, List.cons_append, Nat.reduceAdd, List.drop_nil, List.take_nil]
  refine gd_split (fun h => ?_) (fun h => ?_)
  all_goals (refine Gh.done (leafB hk ?_); simp_all [nodeB] <;> omega)

theorem risB_len : ∀ (l : List Int) (last : Int), risB last l = true → last ≤ 5 → last + l.length ≤ 5
  | [], last, _, h => by simpa using h
  | x :: r, last, h, h5 => by
    simp only [risB, Bool.and_eq_true, decide_eq_true_eq] at h
    have := risB_len r x h.2 h.1.2
    simp only [List.length_cons]; omega
theorem memB_ris (l : List Int) : memB l = (decide (l.length ≠ 0) && risB 0 l) := by
  unfold memB
  cases hr : risB 0 l with
  | false => simp
  | true =>
    have := risB_len l 0 hr (by omega)
    simp; omega

theorem smembers_spec {v : Value} {l : List Int} (h : Ints I v l) (hlen : l.length < 4611686018427387904) (hk : K (.bool (memB l)) I L) : Cal Try.prog ω 130 #[v] K I L := by
  refine cal130 ?_
  have hln := Ints.len h
  unfold sh130
  simp only [hln, SSd, List.getElem?_toArray, List.getElem?_cons_zero, List.getElem?_cons_succ, Nat.zero_add, Nat.add_zero, Nat.zero_mul, List.drop_succ_cons, List.drop_zero, List.take_succ_cons, List.take_zero, List.nil_append, List.cons_append, Nat.reduceAdd, List.drop_nil, List.take_nil]
  refine loop (fun m s I' L' => I' = I ∧ L' = L ∧ ∃ (k : Nat) (last : Int), k + m = l.length ∧ s = (.bool false, .int .i64 k, ()) ∧ risB last (l.drop k) = risB 0 l ∧ 0 ≤ last ∧ last = if k = 0 then 0 else geti l ((k : Int) - 1)) l.length ⟨rfl, rfl, 0, 0, by omega, rfl, rfl, by omega, rfl⟩ ?_
  rintro m s I' L' ⟨rfl, rfl, k, last, hkm, rfl, hr, hl0, hl⟩
  unfold sh130_3
  simp only [hln, SSd, List.getElem?_toArray, List.getElem?_cons_zero, List.getElem?_cons_succ, Nat.zero_add, Nat.add_zero, Nat.zero_mul, List.drop_succ_cons, List.drop_zero, List.take_succ_cons, List.take_zero, List.nil_append, List.cons_append, Nat.reduceAdd, List.drop_nil, List.take_nil]
  refine br_split (fun hlt => ?_) (fun hlt => ?_)
  · simp at hlt
    obtain ⟨b, off, hix, hc⟩ := ints_at h (i := k) (by omega) (by omega)
    simp only [hix, SSd, List.getElem?_toArray, List.getElem?_cons_zero, List.getElem?_cons_succ, Nat.zero_add, Nat.add_zero, Nat.zero_mul, List.drop_succ_cons, List.drop_zero, List.take_succ_cons, List.take_zero, List.nil_append, List.cons_append, Nat.reduceAdd, List.drop_nil, List.take_nil]
    refine rd1 (hc I' L' (Ext.refl I')) ?_
    refine call (snode_spec ?_)
    try simp only [SSd, List.getElem?_toArray, List.getElem?_cons_zero, List.getElem?_cons_succ, Nat.zero_add, Nat.add_zero, Nat.zero_mul, List.drop_succ_cons, List.drop_zero, List.take_succ_cons, List.take_zero, List.nil_append, List.cons_append, Nat.reduceAdd, List.drop_nil, List.take_nil]
    rw [drop_geti hlt, risB] at hr
    have next : 1 ≤ geti l (k : Int) → last < geti l (k : Int) → geti l (k : Int) ≤ 5 → (fun s' => Gh fun I2 L2 => ∃ m', m' < m ∧ I2 = I' ∧ L2 = L' ∧ ∃ (k : Nat) (last : Int), k + m' = l.length ∧ s' = ((.bool false, .int .i64 k, ()) : Value × Value × Unit) ∧ risB last (l.drop k) = risB 0 l ∧ 0 ≤ last ∧ last = if k = 0 then 0 else geti l ((k : Int) - 1)) (.bool false, .int .i64 ((k : Int) + 1), ()) I' L' := fun h1 h2 h3 =>
      Gh.done ⟨m - 1, by omega, rfl, rfl, k + 1, geti l (k : Int), by omega, by simp, by rw [← hr]; simp; omega, by omega, by simp⟩
    refine gd_split (fun h1 => ?_) (fun h1 => Gh.done (leafB hk (by simp [nodeB] at h1; simp [memB_ris, ← hr]; omega)))
    simp [nodeB] at h1
    refine gd_split (fun h2 => ?_) (fun h2 => ?_)
    · simp at h2
      obtain ⟨b2, off2, hix2, hc2⟩ := ints_at h (i := (k : Int) - 1) (by omega) (by omega)
      simp only [wrap_i64 ((k : Int) - 1) (by omega), hix2, SSd, List.getElem?_toArray, List.getElem?_cons_zero, List.getElem?_cons_succ, Nat.zero_add, Nat.add_zero, Nat.zero_mul, List.drop_succ_cons, List.drop_zero, List.take_succ_cons, List.take_zero, List.nil_append, List.cons_append, Nat.reduceAdd, List.drop_nil, List.take_nil]
      refine rd1 (hc2 I' L' (Ext.refl I')) ?_
      try simp only [SSd, List.getElem?_toArray, List.getElem?_cons_zero, List.getElem?_cons_succ, Nat.zero_add, Nat.add_zero, Nat.zero_mul, List.drop_succ_cons, List.drop_zero, List.take_succ_cons, List.take_zero, List.nil_append, List.cons_append, Nat.reduceAdd, List.drop_nil, List.take_nil]
      rw [if_neg (by omega)] at hl
      rw [← hl]
      refine br_split (fun h3 => Gh.done (leafB hk (by simp at h3; simp [memB_ris, ← hr]; omega))) (fun h3 => ?_)
      simp at h3
      simp only [wrap_i64 ((k : Int) + 1) (by omega)]
      exact next (by omega) (by omega) (by omega)
    · simp at h2
      simp only [wrap_i64 ((k : Int) + 1) (by omega)]
      rw [if_pos (by omega)] at hl
      exact next (by omega) (by omega) (by omega)
  · simp at hlt
    rw [List.drop_of_length_le (by omega), risB] at hr
    unfold sh130_1
    simp only [hln, SSd, List.getElem?_toArray, List.getElem?_cons_zero, List.getElem?_cons_succ, Nat.zero_add, Nat.add_zero, Nat.zero_mul, List.drop_succ_cons, List.drop_zero, List.take_succ_cons, List.take_zero, List.nil_append, List.cons_append, Nat.reduceAdd, List.drop_nil, List.take_nil]
    refine Gh.done (leafB hk ?_)
    rw [memB_ris, ← hr, Bool.and_true]
    exact decide_eq_decide.2 (by omega)

theorem cmembers_spec {v : Value} {l : List Int} (h : Ints I v l) (hlen : l.length < 4611686018427387904) (hk : K (.bool (memB l)) I L) : Cal Try.prog ω 99 #[v] K I L := by
  refine cal99 ?_
  have hln := Ints.len h
  unfold sh99
  simp only [hln, SSd, List.getElem?_toArray, List.getElem?_cons_zero, List.getElem?_cons_succ, Nat.zero_add, Nat.add_zero, Nat.zero_mul, List.drop_succ_cons, List.drop_zero, List.take_succ_cons, List.take_zero, List.nil_append, List.cons_append, Nat.reduceAdd, List.drop_nil, List.take_nil]
  refine loop (fun m s I' L' => I' = I ∧ L' = L ∧ ∃ (k : Nat) (last : Int), k + m = l.length ∧ s = (.bool false, .int .i64 k, ()) ∧ risB last (l.drop k) = risB 0 l ∧ 0 ≤ last ∧ last = if k = 0 then 0 else geti l ((k : Int) - 1)) l.length ⟨rfl, rfl, 0, 0, by omega, rfl, rfl, by omega, rfl⟩ ?_
  rintro m s I' L' ⟨rfl, rfl, k, last, hkm, rfl, hr, hl0, hl⟩
  unfold sh99_3
  simp only [hln, SSd, List.getElem?_toArray, List.getElem?_cons_zero, List.getElem?_cons_succ, Nat.zero_add, Nat.add_zero, Nat.zero_mul, List.drop_succ_cons, List.drop_zero, List.take_succ_cons, List.take_zero, List.nil_append, List.cons_append, Nat.reduceAdd, List.drop_nil, List.take_nil]
  refine br_split (fun hlt => ?_) (fun hlt => ?_)
  · simp at hlt
    obtain ⟨b, off, hix, hc⟩ := ints_at h (i := k) (by omega) (by omega)
    simp only [hix, SSd, List.getElem?_toArray, List.getElem?_cons_zero, List.getElem?_cons_succ, Nat.zero_add, Nat.add_zero, Nat.zero_mul, List.drop_succ_cons, List.drop_zero, List.take_succ_cons, List.take_zero, List.nil_append, List.cons_append, Nat.reduceAdd, List.drop_nil, List.take_nil]
    refine rd1 (hc I' L' (Ext.refl I')) ?_
    refine call (cnode_spec ?_)
    try simp only [SSd, List.getElem?_toArray, List.getElem?_cons_zero, List.getElem?_cons_succ, Nat.zero_add, Nat.add_zero, Nat.zero_mul, List.drop_succ_cons, List.drop_zero, List.take_succ_cons, List.take_zero, List.nil_append, List.cons_append, Nat.reduceAdd, List.drop_nil, List.take_nil]
    rw [drop_geti hlt, risB] at hr
    have next : 1 ≤ geti l (k : Int) → last < geti l (k : Int) → geti l (k : Int) ≤ 5 → (fun s' => Gh fun I2 L2 => ∃ m', m' < m ∧ I2 = I' ∧ L2 = L' ∧ ∃ (k : Nat) (last : Int), k + m' = l.length ∧ s' = ((.bool false, .int .i64 k, ()) : Value × Value × Unit) ∧ risB last (l.drop k) = risB 0 l ∧ 0 ≤ last ∧ last = if k = 0 then 0 else geti l ((k : Int) - 1)) (.bool false, .int .i64 ((k : Int) + 1), ()) I' L' := fun h1 h2 h3 =>
      Gh.done ⟨m - 1, by omega, rfl, rfl, k + 1, geti l (k : Int), by omega, by simp, by rw [← hr]; simp; omega, by omega, by simp⟩
    refine gd_split (fun h1 => ?_) (fun h1 => Gh.done (leafB hk (by simp [nodeB] at h1; simp [memB_ris, ← hr]; omega)))
    simp [nodeB] at h1
    refine gd_split (fun h2 => ?_) (fun h2 => ?_)
    · simp at h2
      obtain ⟨b2, off2, hix2, hc2⟩ := ints_at h (i := (k : Int) - 1) (by omega) (by omega)
      simp only [wrap_i64 ((k : Int) - 1) (by omega), hix2, SSd, List.getElem?_toArray, List.getElem?_cons_zero, List.getElem?_cons_succ, Nat.zero_add, Nat.add_zero, Nat.zero_mul, List.drop_succ_cons, List.drop_zero, List.take_succ_cons, List.take_zero, List.nil_append, List.cons_append, Nat.reduceAdd, List.drop_nil, List.take_nil]
      refine rd1 (hc2 I' L' (Ext.refl I')) ?_
      try simp only [SSd, List.getElem?_toArray, List.getElem?_cons_zero, List.getElem?_cons_succ, Nat.zero_add, Nat.add_zero, Nat.zero_mul, List.drop_succ_cons, List.drop_zero, List.take_succ_cons, List.take_zero, List.nil_append, List.cons_append, Nat.reduceAdd, List.drop_nil, List.take_nil]
      rw [if_neg (by omega)] at hl
      rw [← hl]
      refine br_split (fun h3 => Gh.done (leafB hk (by simp at h3; simp [memB_ris, ← hr]; omega))) (fun h3 => ?_)
      simp at h3
      simp only [wrap_i64 ((k : Int) + 1) (by omega)]
      exact next (by omega) (by omega) (by omega)
    · simp at h2
      simp only [wrap_i64 ((k : Int) + 1) (by omega)]
      rw [if_pos (by omega)] at hl
      exact next (by omega) (by omega) (by omega)
  · simp at hlt
    rw [List.drop_of_length_le (by omega), risB] at hr
    unfold sh99_1
    simp only [hln, SSd, List.getElem?_toArray, List.getElem?_cons_zero, List.getElem?_cons_succ, Nat.zero_add, Nat.add_zero, Nat.zero_mul, List.drop_succ_cons, List.drop_zero, List.take_succ_cons, List.take_zero, List.nil_append, List.cons_append, Nat.reduceAdd, List.drop_nil, List.take_nil]
    refine Gh.done (leafB hk ?_)
    rw [memB_ris, ← hr, Bool.and_true]
    exact decide_eq_decide.2 (by omega)

theorem snumbers_spec {v : Value} {b : List UInt8} (h : Bytes I v b) (hlen : b.length * 8 ≤ 150000000000000) (hk : ∀ v' I', Ext I I' → Ints I' v' (nums b) → K v' I' L) : Cal Try.prog ω 133 #[v] K I L := by
  refine cal133 ?_
  have hln := Bytes.len h
  unfold sh133
  simp only [hln, SSd, List.getElem?_toArray, List.getElem?_cons_zero, List.getElem?_cons_succ, Nat.zero_add, Nat.add_zero, Nat.zero_mul, List.drop_succ_cons, List.drop_zero, List.take_succ_cons, List.take_zero, List.nil_append, List.cons_append, Nat.reduceAdd, List.drop_nil, List.take_nil]
  refine loop (fun m s I' L' => I' = I ∧ ∃ (k : Nat) (w : Value) (X6 : LH), k + m = b.length ∧ s = (w, .int .i64 k, ()) ∧ SlO 3 1 X6 w (i64s (nums (b.take k))) (nums (b.take k)).length ∧ L' = X6 ++ L) b.length ⟨rfl, 0, _, [], by omega, rfl, SlO.none 3 1, rfl⟩ ?_
  rintro m s I' L' ⟨rfl, k, w, X6, hkm, rfl, h6, rfl⟩
  unfold sh133_3
  try simp only [SSd, List.getElem?_toArray, List.getElem?_cons_zero, List.getElem?_cons_succ, Nat.zero_add, Nat.add_zero, Nat.zero_mul, List.drop_succ_cons, List.drop_zero, List.take_succ_cons, List.take_zero, List.nil_append, List.cons_append, Nat.reduceAdd, List.drop_nil, List.take_nil]
  refine br_split (fun hlt => ?_) (fun hlt => ?_)
  · simp at hlt
    obtain ⟨bb, off, hix, hc⟩ := bytes_at h (i := k) (by omega) (by omega)
    simp only [hix, SSd, List.getElem?_toArray, List.getElem?_cons_zero, List.getElem?_cons_succ, Nat.zero_add, Nat.add_zero, Nat.zero_mul, List.drop_succ_cons, List.drop_zero, List.take_succ_cons, List.take_zero, List.nil_append, List.cons_append, Nat.reduceAdd, List.drop_nil, List.take_nil]
    refine rd1 (hc I' _ (Ext.refl I')) ?_
    have hu := (geti b (k : Int)).toNat_lt
    simp only [SSd, List.getElem?_toArray, List.getElem?_cons_zero, List.getElem?_cons_succ, Nat.zero_add, Nat.add_zero, Nat.zero_mul, List.drop_succ_cons, List.drop_zero, List.take_succ_cons, List.take_zero, List.nil_append, List.cons_append, Nat.reduceAdd, List.drop_nil, List.take_nil, wrap_i64 (((geti b (k : Int)).toNat : Nat) : Int) (by omega)]
    refine ints_app (X6 := X6) h6 (by rw [nums_len, List.length_take]; omega) (fun X1 X6' v' h6' => ?_)
    simp only [SSd, List.getElem?_toArray, List.getElem?_cons_zero, List.getElem?_cons_succ, Nat.zero_add, Nat.add_zero, Nat.zero_mul, List.drop_succ_cons, List.drop_zero, List.take_succ_cons, List.take_zero, List.nil_append, List.cons_append, Nat.reduceAdd, List.drop_nil, List.take_nil, wrap_i64 ((k : Int) + 1) (by omega)]
    refine Gh.to (X6' ++ L) (Gh.done ⟨m - 1, by omega, rfl, k + 1, v', X6', by omega, by simp, ?_, rfl⟩)
    rw [nums_snoc hlt]; exact h6'
  · simp at hlt
    rw [List.take_of_length_le (by omega)] at h6
    exact SlO.freeze h6 (fun I2 hI2 hS2 => Gh.done (hk w I2 hI2 (by unfold Ints; exact hS2)))

theorem sentry_spec {e : LE} {c : List Value} (he : LeV I e c) (hk : ∀ I', Ext I I' → K (.bool (entB e)) I' L) : Cal Try.prog ω 132 #[.agg c.toArray] K I L := by
  obtain ⟨dv, rfl, hB⟩ := he
  have hln := Bytes.len hB
  refine cal132 ?_
  unfold sh132
  repeat' (first | (with_reducible refine drawC ?_) | (with_reducible refine drawW1 ?_) | (with_reducible refine drawW2 ?_) | (with_reducible refine keepC (by repeat (first | exact Ext.refl _ | assumption | refine Ext.trans ?_ (by assumption))) ?_) | (with_reducible refine newI (fun _ => ?_)) | ((with_reducible refine call ?_); refine (scount_spec ?_)) | ((with_reducible refine call ?_); refine (snumbers_spec hB (by clear hk; simp_all <;> omega) (fun v' I' hI' hv' => ?_))) | ((with_reducible refine call ?_); refine (smembers_spec (by assumption) (by rw [nums_len]; clear hk; simp_all <;> omega) ?_)) | first | (with_reducible refine rdb ?_) | ((with_reducible refine st1 ?_ ?_); rfl) | ((with_reducible refine rdB ?_ ?_); rfl) | (with_reducible refine rdbS ?_) | ((with_reducible refine rdBS ?_ ?_); rfl) | ((with_reducible refine stB ?_ ?_ ?_ ?_); rfl; rfl; exact one_all rfl) | ((with_reducible refine rdP _ rfl ?_ ?_); rfl) | ((with_reducible refine rdPS _ rfl ?_ ?_); rfl) | ((with_reducible refine stP _ rfl ?_ ?_ ?_ ?_); rfl; rfl; rfl) | (with_reducible refine unfE (sh132_2.eq_1 ..) ?_) | (with_reducible refine unfE (sh132_3.eq_1 ..) ?_) | (with_reducible refine unfE (sh132.eq_1 ..) ?_) | (with_reducible refine And.intro ?_ ?_) | (simp only [Bool.not_true, Bool.not_false, Bool.and_self, Bool.true_and, Int.reduceBEq, Int.reduceBNe, Int.reduceLT, Int.reduceLE, decide_true, decide_false, Br_true, Br_false, Gd_tt, Gd_ft, Gd_tf, Gd_ff, beq_self_eq_true, bne_self_eq_false]) | (with_reducible refine gd_split (fun _ => ?_) (fun _ => ?_)) | (with_reducible refine br_split (fun _ => ?_) (fun _ => ?_)) | (simp only [SSd, List.getElem?_toArray, List.getElem?_cons_zero, List.getElem?_cons_succ, Nat.zero_add, Nat.add_zero, Nat.zero_mul, List.drop_succ_cons, List.drop_zero, List.take_succ_cons, List.take_zero, List.nil_append, List.cons_append, Nat.reduceAdd, List.drop_nil, List.take_nil, hln]))
  all_goals first | refine Gh.to L (Gh.done (leafB (hk I (Ext.refl I)) ?_)) | refine Gh.to L (Gh.done (leafB (hk _ (by assumption)) ?_))
  all_goals (simp_all [entB, memB, nums_len] <;> omega)
end
end Go.Proofs.Ytdcpeboecmkmlaa

namespace Go.Proofs.Ytdcpeboecmkmlaa
open Go.SL
set_option maxRecDepth 10000

structure RM where
  kind : Int
  group : Int
  frm : Int
  to : Int
  term : Int
  index : Int
  lterm : Int
  commit : Int
  ok : Bool
  ents : List LE
  mem : List Int
  data : List UInt8
deriving Inhabited

def MsgV (I : Imm) (m : RM) (c : List Value) : Prop := ∃ ev mv dv, c = [.int .i64 m.kind, .int .i64 m.group, .int .i64 m.frm, .int .i64 m.to, .int .i64 m.term, .int .i64 m.index, .int .i64 m.lterm, .int .i64 m.commit, .bool m.ok, ev, mv, dv] ∧ Ents I ev m.ents ∧ Ints I mv m.mem ∧ Bytes I dv m.data
theorem MsgV.mono {I I' : Imm} {m : RM} {c : List Value} (h : MsgV I m c) (hI : Ext I I') : MsgV I' m c := by
  obtain ⟨ev, mv, dv, hc, h1, h2, h3⟩ := h
  exact ⟨ev, mv, dv, hc, LsV.to h1 hI, h2.mono hI, h3.mono hI⟩
theorem MsgV.form {I : Imm} {m : RM} {c : List Value} (h : MsgV I m c) : ∃ a0 p0 a1 p1 a2 p2, c = [.int .i64 m.kind, .int .i64 m.group, .int .i64 m.frm, .int .i64 m.to, .int .i64 m.term, .int .i64 m.index, .int .i64 m.lterm, .int .i64 m.commit, .bool m.ok, .slice a0 m.ents.length p0, .slice a1 m.mem.length p1, .slice a2 m.data.length p2] ∧ Ents I (.slice a0 m.ents.length p0) m.ents ∧ Ints I (.slice a1 m.mem.length p1) m.mem ∧ Bytes I (.slice a2 m.data.length p2) m.data := by
  obtain ⟨ev, mv, dv, rfl, h1, h2, h3⟩ := h
  obtain ⟨a0, p0, rfl⟩ := RL.form h1
  obtain ⟨a1, p1, rfl⟩ := Ints.form h2
  obtain ⟨a2, p2, rfl⟩ := Bytes.form h3
  exact ⟨_, _, _, _, _, _, rfl, h1, h2, h3⟩
theorem MsgV.len {I : Imm} {m : RM} {c : List Value} (h : MsgV I m c) : c.length = 12 := by obtain ⟨_, _, _, rfl, _⟩ := h; rfl
theorem MsgV.one {I : Imm} {m : RM} {c : List Value} (h : MsgV I m c) : ∀ u ∈ c, u.oneCell' = true := by
  obtain ⟨_, _, _, _, _, _, rfl, _⟩ := h.form
  exact one_all rfl

/-- the entries of a message: each may be, one behind the other, none of a later term -/
def entsAll (i t : Int) : List LE → Bool
  | [] => true
  | e :: l => entB e && (e.index == i + 1) && decide (e.term ≤ t) && entsAll (i + 1) t l
def entsB (m : RM) : Bool := decide (m.ents.length ≤ 64) && entsAll m.index m.term m.ents

section
variable {ω : Om} {I : Imm} {L : LH} {K : Value → M}

theorem sentries_spec {m : RM} {c : List Value} (hm : MsgV I m c) (hi : countB m.index = true) (hk : ∀ I', Ext I I' → K (.bool (entsB m)) I' L) : Cal Try.prog ω 129 #[.agg c.toArray] K I L := by
  obtain ⟨ev, mv, dv, rfl, hE, hM, hD⟩ := hm
  have hi2 : 0 ≤ m.index ∧ m.index ≤ 9007199254740991 := by simpa [countB] using hi
  have hln := RL.len hE
  refine cal129 ?_
  unfold sh129
  refine newI (fun b1 => ?_)
  try simp only [SSd, List.getElem?_toArray, List.getElem?_cons_zero, List.getElem?_cons_succ, Nat.zero_add, Nat.add_zero, Nat.zero_mul, List.drop_succ_cons, List.drop_zero, List.take_succ_cons, List.take_zero, List.nil_append, List.cons_append, Nat.reduceAdd, List.drop_nil, List.take_nil]
  refine rdb ?_
  simp only [hln, SSd, List.getElem?_toArray, List.getElem?_cons_zero, List.getElem?_cons_succ, Nat.zero_add, Nat.add_zero, Nat.zero_mul, List.drop_succ_cons, List.drop_zero, List.take_succ_cons, List.take_zero, List.nil_append, List.cons_append, Nat.reduceAdd, List.drop_nil, List.take_nil]
  refine br_split (fun h => ?_) (fun h => ?_)
  · refine Gh.to L (Gh.done (leafB (hk I (Ext.refl I)) ?_))
    simp at h; simp [entsB]; omega
  simp at h
  refine rdb ?_
  simp only [hln, SSd, List.getElem?_toArray, List.getElem?_cons_zero, List.getElem?_cons_succ, Nat.zero_add, Nat.add_zero, Nat.zero_mul, List.drop_succ_cons, List.drop_zero, List.take_succ_cons, List.take_zero, List.nil_append, List.cons_append, Nat.reduceAdd, List.drop_nil, List.take_nil]
  refine loop (fun mm s I' L' => Ext I I' ∧ L' = (b1, Obj.cells #[.int .i64 m.kind, .int .i64 m.group, .int .i64 m.frm, .int .i64 m.to, .int .i64 m.term, .int .i64 m.index, .int .i64 m.lterm, .int .i64 m.commit, .bool m.ok, ev, mv, dv] 77 (0, 0)) :: L ∧ ∃ k : Nat, k + mm = m.ents.length ∧ s = (.bool false, .int .i64 k, ()) ∧ entsAll (m.index + k) m.term (m.ents.drop k) = entsAll m.index m.term m.ents) m.ents.length ⟨Ext.refl I, rfl, 0, by omega, rfl, by simp⟩ ?_
  rintro mm s I' L' ⟨hI, rfl, k, hkm, rfl, hg⟩
  unfold sh129_3
  try simp only [SSd, List.getElem?_toArray, List.getElem?_cons_zero, List.getElem?_cons_succ, Nat.zero_add, Nat.add_zero, Nat.zero_mul, List.drop_succ_cons, List.drop_zero, List.take_succ_cons, List.take_zero, List.nil_append, List.cons_append, Nat.reduceAdd, List.drop_nil, List.take_nil]
  refine br_split (fun hlt => ?_) (fun hlt => ?_)
  · simp at hlt
    obtain ⟨b, off, cs, hix, hcl, ⟨ddv, rfl, hB⟩, hc⟩ := RL.ix hE (i := k) (by omega) (by omega)
    obtain ⟨_, _, rfl⟩ := Bytes.form hB
    simp only [hix, SSd, List.getElem?_toArray, List.getElem?_cons_zero, List.getElem?_cons_succ, Nat.zero_add, Nat.add_zero, Nat.zero_mul, List.drop_succ_cons, List.drop_zero, List.take_succ_cons, List.take_zero, List.nil_append, List.cons_append, Nat.reduceAdd, List.drop_nil, List.take_nil]
    refine rdN rfl (hc I' _ hI (fun _ h => by cases h)) ?_
    refine newI (fun b2 => ?_)
    refine stB rfl rfl (one_all rfl) ?_
    refine rdB rfl ?_
    refine call (sentry_spec (e := geti m.ents (k : Int)) ⟨_, rfl, hB.mono hI⟩ (fun I2 hI2 => ?_))
    try simp only [SSd, List.getElem?_toArray, List.getElem?_cons_zero, List.getElem?_cons_succ, Nat.zero_add, Nat.add_zero, Nat.zero_mul, List.drop_succ_cons, List.drop_zero, List.take_succ_cons, List.take_zero, List.nil_append, List.cons_append, Nat.reduceAdd, List.drop_nil, List.take_nil]
    rw [drop_geti hlt, entsAll] at hg
    have bad : (entB (geti m.ents (k : Int)) && ((geti m.ents (k : Int)).index == m.index + k + 1) && decide ((geti m.ents (k : Int)).term ≤ m.term)) = false → entsB m = false := fun hb => by
      rw [entsB, ← hg, hb]; simp
    refine gd_split (fun hn => ?_) (fun hn => ?_)
    · refine rdb ?_
      refine rdb ?_
      simp only [SSd, List.getElem?_toArray, List.getElem?_cons_zero, List.getElem?_cons_succ, Nat.zero_add, Nat.add_zero, Nat.zero_mul, List.drop_succ_cons, List.drop_zero, List.take_succ_cons, List.take_zero, List.nil_append, List.cons_append, Nat.reduceAdd, List.drop_nil, List.take_nil, wrap_i64 (m.index + 1) (by omega), wrap_i64 (m.index + 1 + k) (by omega)]
      refine gd_split (fun hn2 => ?_) (fun hn2 => ?_)
      · refine rdb ?_
        refine rdb ?_
        try simp only [SSd, List.getElem?_toArray, List.getElem?_cons_zero, List.getElem?_cons_succ, Nat.zero_add, Nat.add_zero, Nat.zero_mul, List.drop_succ_cons, List.drop_zero, List.take_succ_cons, List.take_zero, List.nil_append, List.cons_append, Nat.reduceAdd, List.drop_nil, List.take_nil]
        refine br_split (fun hn3 => ?_) (fun hn3 => ?_)
        · refine Gh.to L (Gh.done (leafB (hk I2 (hI.trans hI2)) (bad ?_)))
          simp at hn3; simp; omega
        · simp only [wrap_i64 ((k : Int) + 1) (by omega)]
          refine Gh.to ((b1, _) :: L) (Gh.done ⟨mm - 1, by omega, hI.trans hI2, rfl, k + 1, by omega, by simp, ?_⟩)
          simp at hn hn2 hn3
          rw [← hg, hn, hn2, decide_eq_true hn3, show m.index + ((k + 1 : Nat) : Int) = m.index + k + 1 by omega]
          simp; omega
      · refine Gh.to L (Gh.done (leafB (hk I2 (hI.trans hI2)) (bad ?_)))
        simp at hn2; simp; omega
    · refine Gh.to L (Gh.done (leafB (hk I2 (hI.trans hI2)) (bad ?_)))
      simp at hn; simp [hn]
  · simp at hlt
    rw [List.drop_of_length_le (by omega), entsAll] at hg
    refine Gh.to L (Gh.done (leafB (hk I' hI) ?_))
    rw [entsB, ← hg]; simp; omega
end
end Go.Proofs.Ytdcpeboecmkmlaa

namespace Go.Proofs.Ytdcpeboecmkmlaa
open Go.SL
set_option maxRecDepth 10000

def bareB (m : RM) : Bool := ((m.ents.length : Int) == 0) && ((m.mem.length : Int) == 0) && ((m.data.length : Int) == 0) && (m.commit == 0)
def placeB (m : RM) : Bool := (m.index == 0) && (m.lterm == 0)
def kindB (m : RM) (place bare : Bool) : Bool :=
  if m.kind = 1 then bare && !m.ok
  else if m.kind = 2 then bare && place
  else if m.kind = 3 then !m.ok && ((m.mem.length : Int) == 0) && ((m.data.length : Int) == 0) && decide (m.lterm ≤ m.term) && entsB m
  else if m.kind = 4 then bare && (m.lterm == 0)
  else if m.kind = 5 then !m.ok && (m.commit == 0) && decide (m.lterm ≤ m.term) && ((m.ents.length : Int) == 0) && memB m.mem && decide ((m.data.length : Int) ≤ 60000)
  else false
def rightB (m : RM) : Bool := countB m.index && countB m.lterm && countB m.commit && countB m.term && nodeB m.frm && nodeB m.to && decide (1 ≤ m.term) && decide (1 ≤ m.group) && decide (m.group ≤ 255) && kindB m (placeB m) (bareB m)

section
variable {ω : Om} {I : Imm} {L : LH} {K : Value → M}

theorem right4_spec {b : Nat} {m : RM} {a0 a1 a2 : Option Addr} {p0 p1 p2 : Nat} {place bare : Bool} (hE : Ents I (.slice a0 m.ents.length p0) m.ents) (hM : Ints I (.slice a1 m.mem.length p1) m.mem) (hD : Bytes I (.slice a2 m.data.length p2) m.data) (hi : countB m.index = true) (hml : m.mem.length < 4611686018427387904)
    (h1 : m.kind ≠ 1) (hk : ∀ I', Ext I I' → K (.bool (kindB m place bare)) I' L) :
    sh115_4 ω (.pointer (some ⟨b, 0, none⟩)) (.bool false) (.bool place) (.bool bare) (.int .i64 m.kind) (fun v => Gh (K v)) I ((b, Obj.cells #[.int .i64 m.kind, .int .i64 m.group, .int .i64 m.frm, .int .i64 m.to, .int .i64 m.term, .int .i64 m.index, .int .i64 m.lterm, .int .i64 m.commit, .bool m.ok, .slice a0 m.ents.length p0, .slice a1 m.mem.length p1, .slice a2 m.data.length p2] 77 (0, 0)) :: L) := by
  unfold sh115_4
  repeat' (first | (with_reducible refine drawC ?_) | (with_reducible refine drawW1 ?_) | (with_reducible refine drawW2 ?_) | (with_reducible refine keepC (by repeat (first | exact Ext.refl _ | assumption | refine Ext.trans ?_ (by assumption))) ?_) | (with_reducible refine newI (fun _ => ?_)) | ((with_reducible refine call ?_); refine (sentries_spec (m := m) ⟨_, _, _, rfl, hE, hM, hD⟩ hi (fun I1 hI1 => ?_))) | ((with_reducible refine call ?_); refine (smembers_spec hM hml ?_)) | first | (with_reducible refine rdb ?_) | ((with_reducible refine st1 ?_ ?_); rfl) | ((with_reducible refine rdB ?_ ?_); rfl) | (with_reducible refine rdbS ?_) | ((with_reducible refine rdBS ?_ ?_); rfl) | ((with_reducible refine stB ?_ ?_ ?_ ?_); rfl; rfl; exact one_all rfl) | ((with_reducible refine rdP _ rfl ?_ ?_); rfl) | ((with_reducible refine rdPS _ rfl ?_ ?_); rfl) | ((with_reducible refine stP _ rfl ?_ ?_ ?_ ?_); rfl; rfl; rfl) | (with_reducible refine And.intro ?_ ?_) | (simp only [Bool.not_true, Bool.not_false, Bool.and_self, Bool.true_and, Int.reduceBEq, Int.reduceBNe, Int.reduceLT, Int.reduceLE, decide_true, decide_false, Br_true, Br_false, Gd_tt, Gd_ft, Gd_tf, Gd_ff, beq_self_eq_true, bne_self_eq_false]) | (with_reducible refine gd_split (fun _ => ?_) (fun _ => ?_)) | (with_reducible refine br_split (fun _ => ?_) (fun _ => ?_)) | (simp only [SSd, List.getElem?_toArray, List.getElem?_cons_zero, List.getElem?_cons_succ, Nat.zero_add, Nat.add_zero, Nat.zero_mul, List.drop_succ_cons, List.drop_zero, List.take_succ_cons, List.take_zero, List.nil_append, List.cons_append, Nat.reduceAdd, List.drop_nil, List.take_nil]))
  all_goals first | refine Gh.to L (Gh.done (leafB (hk I (Ext.refl I)) ?_)) | refine Gh.to L (Gh.done (leafB (hk _ (by assumption)) ?_))
  all_goals (clear hk; simp_all [kindB] <;> omega)
theorem right3_spec {b : Nat} {m : RM} {a0 a1 a2 : Option Addr} {p0 p1 p2 : Nat} {place bare : Bool}
    (h1 : m.kind = 1) (hk : K (.bool (kindB m place bare)) I L) :
    sh115_3 ω (.pointer (some ⟨b, 0, none⟩)) (.bool false) (.bool bare) (fun v => Gh (K v)) I ((b, Obj.cells #[.int .i64 m.kind, .int .i64 m.group, .int .i64 m.frm, .int .i64 m.to, .int .i64 m.term, .int .i64 m.index, .int .i64 m.lterm, .int .i64 m.commit, .bool m.ok, .slice a0 m.ents.length p0, .slice a1 m.mem.length p1, .slice a2 m.data.length p2] 77 (0, 0)) :: L) := by
  unfold sh115_3
  repeat' (first | (with_reducible refine drawC ?_) | (with_reducible refine drawW1 ?_) | (with_reducible refine drawW2 ?_) | (with_reducible refine keepC (by repeat (first | exact Ext.refl _ | assumption | refine Ext.trans ?_ (by assumption))) ?_) | (with_reducible refine newI (fun _ => ?_)) | first | (with_reducible refine rdb ?_) | ((with_reducible refine st1 ?_ ?_); rfl) | ((with_reducible refine rdB ?_ ?_); rfl) | (with_reducible refine rdbS ?_) | ((with_reducible refine rdBS ?_ ?_); rfl) | ((with_reducible refine stB ?_ ?_ ?_ ?_); rfl; rfl; exact one_all rfl) | ((with_reducible refine rdP _ rfl ?_ ?_); rfl) | ((with_reducible refine rdPS _ rfl ?_ ?_); rfl) | ((with_reducible refine stP _ rfl ?_ ?_ ?_ ?_); rfl; rfl; rfl) | (with_reducible refine And.intro ?_ ?_) | (simp only [Bool.not_true, Bool.not_false, Bool.and_self, Bool.true_and, Int.reduceBEq, Int.reduceBNe, Int.reduceLT, Int.reduceLE, decide_true, decide_false, Br_true, Br_false, Gd_tt, Gd_ft, Gd_tf, Gd_ff, beq_self_eq_true, bne_self_eq_false]) | (with_reducible refine gd_split (fun _ => ?_) (fun _ => ?_)) | (with_reducible refine br_split (fun _ => ?_) (fun _ => ?_)) | (simp only [SSd, List.getElem?_toArray, List.getElem?_cons_zero, List.getElem?_cons_succ, Nat.zero_add, Nat.add_zero, Nat.zero_mul, List.drop_succ_cons, List.drop_zero, List.take_succ_cons, List.take_zero, List.nil_append, List.cons_append, Nat.reduceAdd, List.drop_nil, List.take_nil]))
  all_goals refine Gh.to L (Gh.done (leafB hk ?_))
  all_goals (clear hk; simp_all [kindB])

theorem bld4 (a b c d : Int) : bldAV 1 #[.int .i64 0, .int .i64 0, .int .i64 0, .int .i64 0] [(0, .int .i64 a), (1, .int .i64 b), (2, .int .i64 c), (3, .int .i64 d)] = some (.agg #[.int .i64 a, .int .i64 b, .int .i64 c, .int .i64 d]) := by rfl

set_option maxHeartbeats 1000000 in
theorem right1_spec {b : Nat} {m : RM} {a0 a1 a2 : Option Addr} {p0 p1 p2 : Nat} (hE : Ents I (.slice a0 m.ents.length p0) m.ents) (hM : Ints I (.slice a1 m.mem.length p1) m.mem) (hD : Bytes I (.slice a2 m.data.length p2) m.data) (g0 : countB m.index = true) (g1 : countB m.lterm = true) (g2 : countB m.commit = true) (g3 : countB m.term = true) (hml : m.mem.length < 4611686018427387904)
    (hk : ∀ I', Ext I I' → K (.bool (rightB m)) I' L) :
    sh115_1 ω (.pointer (some ⟨b, 0, none⟩)) (.bool false) (fun v => Gh (K v)) I ((b, Obj.cells #[.int .i64 m.kind, .int .i64 m.group, .int .i64 m.frm, .int .i64 m.to, .int .i64 m.term, .int .i64 m.index, .int .i64 m.lterm, .int .i64 m.commit, .bool m.ok, .slice a0 m.ents.length p0, .slice a1 m.mem.length p1, .slice a2 m.data.length p2] 77 (0, 0)) :: L) := by
  unfold sh115_1
  repeat' (first | (with_reducible refine drawC ?_) | (with_reducible refine drawW1 ?_) | (with_reducible refine drawW2 ?_) | (with_reducible refine keepC (by repeat (first | exact Ext.refl _ | assumption | refine Ext.trans ?_ (by assumption))) ?_) | (with_reducible refine newI (fun _ => ?_)) | ((with_reducible refine call ?_); refine (snode_spec ?_)) | (refine right4_spec hE hM hD g0 hml (by clear hk; simp_all) (fun I1 hI1 => ?_)) | (refine right3_spec (place := placeB m) (by clear hk; simp_all) ?_) | first | (with_reducible refine rdb ?_) | ((with_reducible refine st1 ?_ ?_); rfl) | ((with_reducible refine rdB ?_ ?_); rfl) | (with_reducible refine rdbS ?_) | ((with_reducible refine rdBS ?_ ?_); rfl) | ((with_reducible refine stB ?_ ?_ ?_ ?_); rfl; rfl; exact one_all rfl) | ((with_reducible refine rdP _ rfl ?_ ?_); rfl) | ((with_reducible refine rdPS _ rfl ?_ ?_); rfl) | ((with_reducible refine stP _ rfl ?_ ?_ ?_ ?_); rfl; rfl; rfl) | (with_reducible refine And.intro ?_ ?_) | (simp only [Bool.not_true, Bool.not_false, Bool.and_self, Bool.true_and, Int.reduceBEq, Int.reduceBNe, Int.reduceLT, Int.reduceLE, decide_true, decide_false, Br_true, Br_false, Gd_tt, Gd_ft, Gd_tf, Gd_ff, beq_self_eq_true, bne_self_eq_false]) | (with_reducible refine gd_split (fun _ => ?_) (fun _ => ?_)) | (with_reducible refine br_split (fun _ => ?_) (fun _ => ?_)) | (simp only [SSd, List.getElem?_toArray, List.getElem?_cons_zero, List.getElem?_cons_succ, Nat.zero_add, Nat.add_zero, Nat.zero_mul, List.drop_succ_cons, List.drop_zero, List.take_succ_cons, List.take_zero, List.nil_append, List.cons_append, Nat.reduceAdd, List.drop_nil, List.take_nil]))
  all_goals first | refine Gh.to L (Gh.done (leafB (hk I (Ext.refl I)) ?_)) | refine leafB (hk I (Ext.refl I)) ?_ | refine leafB (hk _ (by assumption)) ?_
  all_goals (clear hk; first | (rw [show rightB m = kindB m (placeB m) (bareB m) by simp_all [rightB] <;> omega]; congr 1 <;> simp_all [placeB, bareB]; done) | (simp_all [rightB] <;> omega))

theorem sright_spec {m : RM} {c : List Value} (hm : MsgV I m c) (hml : m.mem.length < 4611686018427387904) (hk : ∀ I', Ext I I' → K (.bool (rightB m)) I' L) : Cal Try.prog ω 115 #[.agg c.toArray] K I L := by
  obtain ⟨a0, p0, a1, p1, a2, p2, rfl, hE, hM, hD⟩ := hm.form
  refine cal115 ?_
  unfold sh115
  refine newI (fun b => ?_)
  try simp only [SSd, List.getElem?_toArray, List.getElem?_cons_zero, List.getElem?_cons_succ, Nat.zero_add, Nat.add_zero, Nat.zero_mul, List.drop_succ_cons, List.drop_zero, List.take_succ_cons, List.take_zero, List.nil_append, List.cons_append, Nat.reduceAdd, List.drop_nil, List.take_nil]
  refine rdb (rdb (rdb (rdb ?_)))
  simp only [bld4, SSd, List.getElem?_toArray, List.getElem?_cons_zero, List.getElem?_cons_succ, Nat.zero_add, Nat.add_zero, Nat.zero_mul, List.drop_succ_cons, List.drop_zero, List.take_succ_cons, List.take_zero, List.nil_append, List.cons_append, Nat.reduceAdd, List.drop_nil, List.take_nil]
  refine loop (fun mm s I' L' => I' = I ∧ L' = (b, Obj.cells #[.int .i64 m.kind, .int .i64 m.group, .int .i64 m.frm, .int .i64 m.to, .int .i64 m.term, .int .i64 m.index, .int .i64 m.lterm, .int .i64 m.commit, .bool m.ok, .slice a0 m.ents.length p0, .slice a1 m.mem.length p1, .slice a2 m.data.length p2] 77 (0, 0)) :: L ∧ ∃ k : Nat, k + mm = 4 ∧ s = (.bool false, .int .i64 k, ()) ∧ (0 < k → countB m.index = true) ∧ (1 < k → countB m.lterm = true) ∧ (2 < k → countB m.commit = true) ∧ (3 < k → countB m.term = true)) 4 ⟨rfl, rfl, 0, by omega, rfl, by omega, by omega, by omega, by omega⟩ ?_
  rintro mm s I' L' ⟨rfl, rfl, k, hkm, rfl, g0, g1, g2, g3⟩
  unfold sh115_6
  try simp only [SSd, List.getElem?_toArray, List.getElem?_cons_zero, List.getElem?_cons_succ, Nat.zero_add, Nat.add_zero, Nat.zero_mul, List.drop_succ_cons, List.drop_zero, List.take_succ_cons, List.take_zero, List.nil_append, List.cons_append, Nat.reduceAdd, List.drop_nil, List.take_nil]
  refine br_split (fun h4 => ?_) (fun h4 => ?_)
  · simp at h4
    have key : ∃ x, ixAV false 1 4 (.agg #[.int .i64 m.index, .int .i64 m.lterm, .int .i64 m.commit, .int .i64 m.term]) (.int .i64 k) = some (.int .i64 x) ∧ (countB x = false → rightB m = false) ∧
        (countB x = true → (0 < k + 1 → countB m.index = true) ∧ (1 < k + 1 → countB m.lterm = true) ∧ (2 < k + 1 → countB m.commit = true) ∧ (3 < k + 1 → countB m.term = true)) := by
      have hc : k = 0 ∨ k = 1 ∨ k = 2 ∨ k = 3 := by omega
      rcases hc with rfl | rfl | rfl | rfl
      · exact ⟨m.index, rfl, fun h => by simp [rightB, h], fun h => ⟨fun _ => h, by omega, by omega, by omega⟩⟩
      · exact ⟨m.lterm, rfl, fun h => by simp [rightB, h], fun h => ⟨fun _ => g0 (by omega), fun _ => h, by omega, by omega⟩⟩
      · exact ⟨m.commit, rfl, fun h => by simp [rightB, h], fun h => ⟨fun _ => g0 (by omega), fun _ => g1 (by omega), fun _ => h, by omega⟩⟩
      · exact ⟨m.term, rfl, fun h => by simp [rightB, h], fun h => ⟨fun _ => g0 (by omega), fun _ => g1 (by omega), fun _ => g2 (by omega), fun _ => h⟩⟩
    obtain ⟨x, hx, hx1, hx2⟩ := key
    simp only [hx, SSd, List.getElem?_toArray, List.getElem?_cons_zero, List.getElem?_cons_succ, Nat.zero_add, Nat.add_zero, Nat.zero_mul, List.drop_succ_cons, List.drop_zero, List.take_succ_cons, List.take_zero, List.nil_append, List.cons_append, Nat.reduceAdd, List.drop_nil, List.take_nil]
    refine call (scount_spec ?_)
    try simp only [SSd, List.getElem?_toArray, List.getElem?_cons_zero, List.getElem?_cons_succ, Nat.zero_add, Nat.add_zero, Nat.zero_mul, List.drop_succ_cons, List.drop_zero, List.take_succ_cons, List.take_zero, List.nil_append, List.cons_append, Nat.reduceAdd, List.drop_nil, List.take_nil]
    refine br_split (fun hb => ?_) (fun hb => ?_)
    · exact Gh.to L (Gh.done (leafB (hk _ (Ext.refl _)) (hx1 (by simpa using hb))))
    · simp only [wrap_i64 ((k : Int) + 1) (by omega)]
      exact Gh.done ⟨mm - 1, by omega, rfl, rfl, k + 1, by omega, by simp, hx2 (by simpa using hb)⟩
  · simp at h4
    exact right1_spec hE hM hD (g0 (by omega)) (g1 (by omega)) (g2 (by omega)) (g3 (by omega)) hml hk
end
end Go.Proofs.Ytdcpeboecmkmlaa

namespace Go.Proofs.Ytdcpeboecmkmlaa
open Go.SL
set_option maxRecDepth 10000

/-- a writer with at most n bytes -/
def WrR (b : Nat) (X : LH) (n : Nat) : Prop := ∃ v l XO, X = (b, Obj.cells #[v] 153 (0, 0)) :: XO ∧ SlO 5 1 XO v (u8s l) l.length ∧ l.length ≤ n
theorem WrR.le {b n n' : Nat} {X : LH} (h : WrR b X n) (hn : n ≤ n') : WrR b X n' := by
  obtain ⟨v, l, XO, hX, hS, hl⟩ := h
  exact ⟨v, l, XO, hX, hS, by omega⟩
def byteOf (n : Int) : UInt8 := UInt8.ofNat (n % 256).toNat
theorem u8_wrap (n : Int) : IntKind.u8.wrap n = ((byteOf n).toNat : Int) := by
  have e : IntKind.u8.wrap n = n % 256 := by
    simp only [IntKind.wrap]
    simp [IntKind.bits, IntKind.signed]
  rw [e, byteOf]
  simp
  omega
section
variable {ω : Om} {I : Imm} {L : LH} {K : Value → M}

theorem wbyte_spec {b n : Nat} {X F : LH} {a : Int} (h : WrR b X n) (hn : n + 1 ≤ 150000000000000) (hk : ∀ X', WrR b X' (n + 1) → K (.tuple #[]) I (X' ++ F)) : Cal Try.prog ω 118 #[.pointer (some ⟨b, 0, none⟩), .int .i64 a] K I (X ++ F) := by
  obtain ⟨v, l, XO, rfl, hS, hl⟩ := h
  refine cal118 ?_
  unfold sh118
  simp only [SSd, List.getElem?_toArray, List.getElem?_cons_zero, List.getElem?_cons_succ, Nat.zero_add, Nat.add_zero, Nat.zero_mul, List.drop_succ_cons, List.drop_zero, List.take_succ_cons, List.take_zero, List.nil_append, List.cons_append, Nat.reduceAdd, List.drop_nil, List.take_nil, List.cons_append]
  refine rdb ?_
  try simp only [SSd, List.getElem?_toArray, List.getElem?_cons_zero, List.getElem?_cons_succ, Nat.zero_add, Nat.add_zero, Nat.zero_mul, List.drop_succ_cons, List.drop_zero, List.take_succ_cons, List.take_zero, List.nil_append, List.cons_append, Nat.reduceAdd, List.drop_nil, List.take_nil]
  refine bld_one rfl (by omega) rfl (fun X1 u hX1 => ?_)
  refine app_own (X := XO) rfl hS (hX1.news (fun x hx => List.mem_append_left _ hx)) (by simp [Value.cells, Value.oneCell']) (by omega) (by omega) (fun X' v' hX' => ?_)
  obtain ⟨a', c', rfl⟩ := hX'.form
  refine st1 rfl ?_
  refine Gh.to ((b, Obj.cells #[.slice a' (l.length + 1) c'] 153 (0, 0)) :: (X' ++ F)) (Gh.done ?_)
  refine hk ((b, _) :: X') ⟨_, l ++ [byteOf a], X', rfl, ?_, by simp; omega⟩
  have e := u8_wrap a
  simp only [Value.cells, e] at hX'
  simpa [u8s] using hX'
theorem wtruth_spec {b n : Nat} {X F : LH} {t : Bool} (h : WrR b X n) (hn : n + 1 ≤ 150000000000000) (hk : ∀ X', WrR b X' (n + 1) → K (.tuple #[]) I (X' ++ F)) : Cal Try.prog ω 117 #[.pointer (some ⟨b, 0, none⟩), .bool t] K I (X ++ F) := by
  refine cal117 ?_
  unfold sh117
  refine br_split (fun _ => ?_) (fun _ => ?_)
  all_goals exact call (wbyte_spec h hn (fun X' h' => Gh.done (hk X' h')))
theorem binI_shr7 (n : Int) (h : 0 ≤ n) (hn : n ≤ 9223372036854775807) : binIV .shr (.int .i64 n) (.int .u64 7) = some (.int .i64 (n / 128)) := by
  simp only [binIV]
  rw [if_neg (by omega)]
  rw [show (2 : Int) ^ (min (7 : Int).toNat IntKind.i64.bits) = 128 from by decide, Int.fdiv_eq_ediv_of_nonneg _ (by omega)]
theorem wcount_spec {b n : Nat} {X F : LH} {av : Value} {l : List Int} (h : WrR b X n) (hA : Ints I av l) (hl : l.length ≤ 10) (hx : ∀ x ∈ l, 0 ≤ x ∧ x ≤ 9223372036854775807) (hb : n + 200 ≤ 150000000000000)
    (hk : ∀ X', WrR b X' (n + 10 * l.length) → K (.tuple #[]) I (X' ++ F)) : Cal Try.prog ω 116 #[.pointer (some ⟨b, 0, none⟩), av] K I (X ++ F) := by
  refine cal116 ?_
  have hln := Ints.len hA
  unfold sh116
  simp only [hln, SSd, List.getElem?_toArray, List.getElem?_cons_zero, List.getElem?_cons_succ, Nat.zero_add, Nat.add_zero, Nat.zero_mul, List.drop_succ_cons, List.drop_zero, List.take_succ_cons, List.take_zero, List.nil_append, List.cons_append, Nat.reduceAdd, List.drop_nil, List.take_nil]
  refine loop (fun m s I' L' => I' = I ∧ ∃ (k : Nat) (X6 : LH), k + m = l.length ∧ s = (.int .i64 k, ()) ∧ WrR b X6 (n + 10 * k) ∧ L' = X6 ++ F) l.length ⟨rfl, 0, X, by omega, rfl, h, rfl⟩ ?_
  rintro m s I' L' ⟨rfl, k, X6, hkm, rfl, h6, rfl⟩
  unfold sh116_2
  try simp only [SSd, List.getElem?_toArray, List.getElem?_cons_zero, List.getElem?_cons_succ, Nat.zero_add, Nat.add_zero, Nat.zero_mul, List.drop_succ_cons, List.drop_zero, List.take_succ_cons, List.take_zero, List.nil_append, List.cons_append, Nat.reduceAdd, List.drop_nil, List.take_nil]
  refine br_split (fun hlt => ?_) (fun hlt => ?_)
  · simp at hlt
    obtain ⟨bb, off, hix, hc⟩ := ints_at hA (i := k) (by omega) (by omega)
    simp only [hix, SSd, List.getElem?_toArray, List.getElem?_cons_zero, List.getElem?_cons_succ, Nat.zero_add, Nat.add_zero, Nat.zero_mul, List.drop_succ_cons, List.drop_zero, List.take_succ_cons, List.take_zero, List.nil_append, List.cons_append, Nat.reduceAdd, List.drop_nil, List.take_nil]
    refine rd1 (hc I' _ (Ext.refl I')) ?_
    have hxk := hx (geti l (k : Int)) (by rw [geti_nat hlt]; exact List.getElem_mem hlt)
    refine loop (fun j s I2 L2 => I2 = I' ∧ ∃ (y : Int) (X7 : LH), s = (.int .i64 y, ()) ∧ j ≤ 8 ∧ 0 ≤ y ∧ y ≤ 9223372036854775807 ∧ y < (128 : Int) ^ (j + 1) ∧ WrR b X7 (n + 10 * k + (8 - j)) ∧ L2 = X7 ++ F) 8 ⟨rfl, _, X6, rfl, by omega, by omega, by omega, by omega, h6.le (by omega), rfl⟩ ?_
    rintro j s I2 L2 ⟨rfl, y, X7, rfl, hj, hy0, hy, hyj, h7, rfl⟩
    unfold sh116_5
    try simp only [SSd, List.getElem?_toArray, List.getElem?_cons_zero, List.getElem?_cons_succ, Nat.zero_add, Nat.add_zero, Nat.zero_mul, List.drop_succ_cons, List.drop_zero, List.take_succ_cons, List.take_zero, List.nil_append, List.cons_append, Nat.reduceAdd, List.drop_nil, List.take_nil]
    refine br_split (fun hge => ?_) (fun hge => ?_)
    · simp at hge
      have hj0 : j ≠ 0 := by intro e; subst e; simp at hyj; omega
      obtain ⟨j', rfl⟩ : ∃ j', j = j' + 1 := ⟨j - 1, by omega⟩
      refine call (wbyte_spec h7 (by omega) (fun X8 h8 => ?_))
      simp only [binI_shr7 y hy0 hy, SSd, List.getElem?_toArray, List.getElem?_cons_zero, List.getElem?_cons_succ, Nat.zero_add, Nat.add_zero, Nat.zero_mul, List.drop_succ_cons, List.drop_zero, List.take_succ_cons, List.take_zero, List.nil_append, List.cons_append, Nat.reduceAdd, List.drop_nil, List.take_nil]
      refine Gh.done ⟨j', by omega, rfl, y / 128, X8, rfl, by omega, by omega, by omega, Int.ediv_lt_of_lt_mul (by omega) (by rw [← Int.pow_succ]; exact hyj), ?_, rfl⟩
      rw [show n + 10 * k + (8 - j') = n + 10 * k + (8 - (j' + 1)) + 1 by omega]; exact h8
    · unfold sh116_3
      refine call (wbyte_spec h7 (by omega) (fun X8 h8 => ?_))
      simp only [SSd, List.getElem?_toArray, List.getElem?_cons_zero, List.getElem?_cons_succ, Nat.zero_add, Nat.add_zero, Nat.zero_mul, List.drop_succ_cons, List.drop_zero, List.take_succ_cons, List.take_zero, List.nil_append, List.cons_append, Nat.reduceAdd, List.drop_nil, List.take_nil, wrap_i64 ((k : Int) + 1) (by omega)]
      exact Gh.done ⟨m - 1, by omega, rfl, k + 1, X8, by omega, by simp, h8.le (by omega), rfl⟩
  · simp at hlt
    exact Gh.done (hk X6 (h6.le (by omega)))

theorem range_map {α : Type} (n : Nat) (f : Nat → α) : (Array.range n).map f = ((List.range n).map f).toArray := by
  apply Array.ext'
  simp
theorem bld_ints {F : LH} {len : Nat} {parts : List (Nat × Value)} {K : Value → M} (l : List Int) (hf : Instr.fill (fun i => some (i * 1, 1)) ((List.range (len * 1)).map ((#[.int .i64 0] : Array Value)[· % 1]!)).toArray parts = some (i64s l).toArray) (hl : l.length = len)
    (hk : ∀ u I', Ext I I' → Ints I' u l → K u I' F) : BldS 3 1 #[.int .i64 0] len parts (gh K) I F := by
  refine ⟨(i64s l).toArray, by rw [range_map]; exact hf, fun b => ?_⟩
  refine SlO.freeze (X := [(b, _)]) (T := 3) (n := 1) (cells := i64s l) (len := len) ⟨by simp [i64s, hl], .inr ⟨b, len, _, rfl, rfl, by simp [i64s, hl], Nat.le_refl _, fun j u hu => by simpa using hu⟩⟩ (fun I' hI hS => Gh.done (hk _ I' hI ?_))
  subst hl
  exact hS
theorem bi1 {F : LH} {K : Value → M} {a : Int} (hk : ∀ u I', Ext I I' → Ints I' u [a] → K u I' F) : BldS 3 1 #[.int .i64 0] 1 [(0, .int .i64 a)] (gh K) I F := bld_ints [a] (by rfl) rfl hk
theorem bi2 {F : LH} {K : Value → M} {a b : Int} (hk : ∀ u I', Ext I I' → Ints I' u [a, b] → K u I' F) : BldS 3 1 #[.int .i64 0] 2 [(0, .int .i64 a), (1, .int .i64 b)] (gh K) I F := bld_ints [a, b] (by rfl) rfl hk
theorem bi3 {F : LH} {K : Value → M} {a b c : Int} (hk : ∀ u I', Ext I I' → Ints I' u [a, b, c] → K u I' F) : BldS 3 1 #[.int .i64 0] 3 [(0, .int .i64 a), (1, .int .i64 b), (2, .int .i64 c)] (gh K) I F := bld_ints [a, b, c] (by rfl) rfl hk
theorem bi4 {F : LH} {K : Value → M} {a b c d : Int} (hk : ∀ u I', Ext I I' → Ints I' u [a, b, c, d] → K u I' F) : BldS 3 1 #[.int .i64 0] 4 [(0, .int .i64 a), (1, .int .i64 b), (2, .int .i64 c), (3, .int .i64 d)] (gh K) I F := bld_ints [a, b, c, d] (by rfl) rfl hk
theorem bb4 {F : LH} {K : Value → M} {a b c d : UInt8} (hk : ∀ X u, SlO 5 1 X u (u8s [a, b, c, d]) 4 → K u I (X ++ F)) :
    BldS 5 1 #[.int .u8 0] 4 [(0, .int .u8 a.toNat), (1, .int .u8 b.toNat), (2, .int .u8 c.toNat), (3, .int .u8 d.toNat)] (gh K) I F := by
  refine ⟨(u8s [a, b, c, d]).toArray, by rw [range_map]; rfl, fun b' => ?_⟩
  exact Gh.done (hk [(b', _)] _ ⟨rfl, .inr ⟨b', 4, _, rfl, rfl, rfl, Nat.le_refl _, fun j u hu => by simpa using hu⟩⟩)
theorem SlO.one1 {T n len : Nat} {X : LH} {v : Value} {cells : List Value} (h : SlO T n X v cells len) : v.oneCell' = true := by
  obtain ⟨_, _, rfl⟩ := h.form
  rfl

theorem wtext_spec {b n : Nat} {X F : LH} {t : List UInt8} {tv : Value} (h : WrR b X n) (hT : Bytes I tv t) (hb : n + t.length + 200 ≤ 150000000000000)
    (hk : ∀ X' I', Ext I I' → WrR b X' (n + 10 + t.length) → K (.tuple #[]) I' (X' ++ F)) : Cal Try.prog ω 119 #[.pointer (some ⟨b, 0, none⟩), tv] K I (X ++ F) := by
  refine cal119 ?_
  unfold sh119
  simp only [Bytes.len hT, SSd, List.getElem?_toArray, List.getElem?_cons_zero, List.getElem?_cons_succ, Nat.zero_add, Nat.add_zero, Nat.zero_mul, List.drop_succ_cons, List.drop_zero, List.take_succ_cons, List.take_zero, List.nil_append, List.cons_append, Nat.reduceAdd, List.drop_nil, List.take_nil]
  refine bi1 (fun u I1 hI1 hu => ?_)
  refine call (wcount_spec h hu (by simp) (by simp; omega) (by omega) (fun X' h' => ?_))
  obtain ⟨v, l, Y, rfl, hS, hl⟩ := h'
  simp only [List.length_cons, List.length_nil] at hl
  simp only [SSd, List.getElem?_toArray, List.getElem?_cons_zero, List.getElem?_cons_succ, Nat.zero_add, Nat.add_zero, Nat.zero_mul, List.drop_succ_cons, List.drop_zero, List.take_succ_cons, List.take_zero, List.nil_append, List.cons_append, Nat.reduceAdd, List.drop_nil, List.take_nil, List.cons_append]
  refine rdb ?_
  refine app_own (X := Y) rfl hS (SlI.news (hT.mono hI1)) (u8s_one t) (by omega) (by omega) (fun X2 v2 h2 => ?_)
  refine st1 (SlO.one1 h2) ?_
  refine Gh.to ((b, Obj.cells #[v2] 153 (0, 0)) :: (X2 ++ F)) (Gh.done (hk ((b, Obj.cells #[v2] 153 (0, 0)) :: X2) I1 hI1 ⟨v2, l ++ t, X2, rfl, ?_, by rw [List.length_append]; omega⟩))
  rw [List.length_append]
  simpa [u8s] using h2

theorem clipb_spec {X F : LH} {v : Value} {cells : List Value} {len : Nat} (hS : SlO 5 1 X v cells len) (hk : ∀ v' I', Ext I I' → SlI I' 1 v' cells len → K v' I' F) : Cal Try.prog ω 120 #[v] K I (X ++ F) := by
  refine cal120 ?_
  unfold sh120
  obtain ⟨a, cap, rfl⟩ := hS.form
  try simp only [SSd, List.getElem?_toArray, List.getElem?_cons_zero, List.getElem?_cons_succ, Nat.zero_add, Nat.add_zero, Nat.zero_mul, List.drop_succ_cons, List.drop_zero, List.take_succ_cons, List.take_zero, List.nil_append, List.cons_append, Nat.reduceAdd, List.drop_nil, List.take_nil]
  have hcap : len ≤ cap := by
    obtain ⟨_, h⟩ := hS
    rcases h with ⟨_, rfl, h⟩ | ⟨b, cap', cs, _, h, _, hle, _⟩
    · simp only [Value.slice.injEq] at h; omega
    · simp only [Value.slice.injEq] at h; omega
  have s1 : ∃ a', slcV 1 (.slice a len cap) none (some (.int .i64 len)) (some (.int .i64 len)) = some (.slice a' len len) ∧ (len ≠ 0 → a' = a.map (·.add 0)) := by
    simp only [slcV, Option.isNone_some, Bool.false_and, Bool.false_eq_true, if_false]
    rw [bnd_in _ _ _ _ hcap, Option.bind_some, bnd_in _ _ _ _ (Nat.le_refl _), Option.bind_some, show bndV none 0 len = some 0 from rfl, Option.bind_some]
    exact ⟨_, by simp only [Nat.sub_zero]; rfl, fun h => by rw [if_neg h, Nat.zero_mul]⟩
  obtain ⟨a', s1, ha'⟩ := s1
  rw [s1]
  try simp only [SSd, List.getElem?_toArray, List.getElem?_cons_zero, List.getElem?_cons_succ, Nat.zero_add, Nat.add_zero, Nat.zero_mul, List.drop_succ_cons, List.drop_zero, List.take_succ_cons, List.take_zero, List.nil_append, List.cons_append, Nat.reduceAdd, List.drop_nil, List.take_nil]
  refine SlO.freeze hS (fun I' hI hS' => Gh.done (hk _ I' hI ?_))
  obtain ⟨hl, a2, cap2, h2, hle2, hb⟩ := hS'
  simp only [Value.slice.injEq] at h2
  obtain ⟨rfl, _, rfl⟩ := h2
  refine ⟨hl, a', len, rfl, Nat.le_refl _, fun h0 => ?_⟩
  obtain ⟨b, off, cs, T, fr, rfl, hI2, hc⟩ := hb h0
  exact ⟨b, off, cs, T, fr, by rw [ha' h0]; simp [add_none], hI2, hc⟩

/-! ### Encode -/
theorem entB_data {e : LE} (h : entB e = true) : e.data.length ≤ 12000 ∧ 0 ≤ e.term ∧ e.term ≤ 9007199254740991 := by
  simp only [entB, Bool.and_eq_true, countB, decide_eq_true_eq] at h
  obtain ⟨⟨⟨h1, h2⟩, h3⟩, h4⟩ := h
  refine ⟨?_, h2.1, h2.2⟩
  split at h4
  · simp at h4; simp [h4]
  · split at h4
    · simp at h4; omega
    · split at h4
      · simp only [memB, Bool.and_eq_true, decide_eq_true_eq, nums_len] at h4; omega
      · cases h4
theorem entsAll_data {t : Int} : ∀ {l : List LE} {i : Int}, entsAll i t l = true → ∀ e ∈ l, entB e = true ∧ e.term ≤ t
  | [], _, _, e, he => by cases he
  | x :: l, i, h, e, he => by
    simp only [entsAll, Bool.and_eq_true, decide_eq_true_eq] at h
    rcases List.mem_cons.1 he with rfl | he
    · exact ⟨h.1.1.1, h.1.2⟩
    · exact entsAll_data h.2 e he
structure RB (m : RM) : Prop where
  idx : 0 ≤ m.index ∧ m.index ≤ 9007199254740991
  ltm : 0 ≤ m.lterm ∧ m.lterm ≤ 9007199254740991
  com : 0 ≤ m.commit ∧ m.commit ≤ 9007199254740991
  trm : 1 ≤ m.term ∧ m.term ≤ 9007199254740991
  frm : 1 ≤ m.frm ∧ m.frm ≤ 5
  dst : 1 ≤ m.to ∧ m.to ≤ 5
  grp : 1 ≤ m.group ∧ m.group ≤ 255
  num : m.ents.length ≤ 64
  ent : ∀ e ∈ m.ents, entB e = true ∧ e.term ≤ m.term
  mbl : m.mem.length ≤ 5
  dat : m.data.length ≤ 60000
theorem right_data {m : RM} (h : rightB m = true) : RB m := by
  simp only [rightB, Bool.and_eq_true, countB, nodeB, decide_eq_true_eq] at h
  obtain ⟨⟨⟨⟨⟨⟨⟨⟨⟨h1, h2⟩, h3⟩, h4⟩, h5⟩, h6⟩, h7⟩, h8⟩, h9⟩, h10⟩ := h
  have key : m.ents.length ≤ 64 ∧ (∀ e ∈ m.ents, entB e = true ∧ e.term ≤ m.term) ∧ m.mem.length ≤ 5 ∧ m.data.length ≤ 60000 := by
    have bare : bareB m = true → m.ents.length ≤ 64 ∧ (∀ e ∈ m.ents, entB e = true ∧ e.term ≤ m.term) ∧ m.mem.length ≤ 5 ∧ m.data.length ≤ 60000 := fun hb => by
      simp only [bareB, Bool.and_eq_true, beq_iff_eq] at hb
      obtain ⟨⟨⟨hb1, hb2⟩, hb3⟩, _⟩ := hb
      have : m.ents = [] := List.eq_nil_of_length_eq_zero (by omega)
      exact ⟨by omega, (fun e he => by rw [this] at he; cases he), by omega, by omega⟩
    unfold kindB at h10
    split at h10
    · simp only [Bool.and_eq_true] at h10; exact bare h10.1
    · split at h10
      · simp only [Bool.and_eq_true] at h10; exact bare h10.1
      · split at h10
        · simp only [Bool.and_eq_true, beq_iff_eq, decide_eq_true_eq, entsB] at h10
          obtain ⟨⟨⟨⟨_, g1⟩, g2⟩, _⟩, g3, g4⟩ := h10
          exact ⟨g3, entsAll_data g4, by omega, by omega⟩
        · split at h10
          · simp only [Bool.and_eq_true] at h10; exact bare h10.1
          · split at h10
            · simp only [Bool.and_eq_true, beq_iff_eq, decide_eq_true_eq] at h10
              obtain ⟨⟨⟨⟨_, _⟩, g1⟩, g2⟩, g3⟩ := h10
              have : m.ents = [] := List.eq_nil_of_length_eq_zero (by omega)
              simp only [memB, Bool.and_eq_true, decide_eq_true_eq] at g2
              exact ⟨by omega, (fun e he => by rw [this] at he; cases he), by omega, by omega⟩
            · cases h10
  exact ⟨h1, h2, h3, ⟨h7, h4.2⟩, h5, h6, ⟨h8, h9⟩, key.1, key.2.1, key.2.2.1, key.2.2.2⟩

theorem bldW (a : Option Addr) (l c : Nat) : bldV #[.slice none 0 0] #[(0, 1)] [(0, .slice a l c)] = some (.agg #[.slice a l c]) := by rfl
theorem wfin {bw n : Nat} {X F : LH} (h : WrR bw X n) (hk : ∀ v' I', Ext I I' → Gh (K (.tuple #[v', .int .i64 0])) I' F) :
    sh90_1 ω (.slice none 0 0) (.int .i64 0) (.pointer (some ⟨bw, 0, none⟩)) (fun v => Gh (K v)) I (X ++ F) := by
  obtain ⟨v, l, Y, rfl, hS, hl⟩ := h
  unfold sh90_1
  simp only [SSd, List.getElem?_toArray, List.getElem?_cons_zero, List.getElem?_cons_succ, Nat.zero_add, Nat.add_zero, Nat.zero_mul, List.drop_succ_cons, List.drop_zero, List.take_succ_cons, List.take_zero, List.nil_append, List.cons_append, Nat.reduceAdd, List.drop_nil, List.take_nil, List.cons_append]
  refine rdb ?_
  refine call (Cal.split Y (clipb_spec hS (fun v' I' hI' hS' => ?_)))
  exact Gh.to F (hk v' I' hI')

theorem wents {m : RM} {bw n : Nat} {X F : LH} {ev : Value} (hE : Ents I ev m.ents) (hd : RB m) (hS : WrR bw X n) (hb : n ≤ 1000)
    (hk : ∀ v' I', Ext I I' → Gh (K (.tuple #[v', .int .i64 0])) I' F) :
    LoopM ((.int .i64 0, ()) : Value × Unit) (fun s Kn0 => sh90_4 ω (.slice none 0 0) (.int .i64 0) (.pointer (some ⟨bw, 0, none⟩)) ev (.int .i64 m.ents.length) s.1 Kn0 (fun v => Gh (K v))) I (X ++ F) := by
  have hnum := hd.num
  refine loop (fun mm s I' L' => Ext I I' ∧ ∃ (k : Nat) (X6 : LH), k + mm = m.ents.length ∧ s = (.int .i64 k, ()) ∧ WrR bw X6 (n + 13000 * k) ∧ L' = X6 ++ F) m.ents.length ⟨Ext.refl I, 0, X, by omega, rfl, hS, rfl⟩ ?_
  rintro mm s I' L' ⟨hI, k, X6, hkm, rfl, h6, rfl⟩
  unfold sh90_4
  try simp only [SSd, List.getElem?_toArray, List.getElem?_cons_zero, List.getElem?_cons_succ, Nat.zero_add, Nat.add_zero, Nat.zero_mul, List.drop_succ_cons, List.drop_zero, List.take_succ_cons, List.take_zero, List.nil_append, List.cons_append, Nat.reduceAdd, List.drop_nil, List.take_nil]
  refine br_split (fun hlt => ?_) (fun hlt => ?_)
  · simp at hlt
    obtain ⟨b, off, cs, hix, hcl, ⟨ddv, rfl, hB⟩, hc⟩ := RL.ix hE (i := k) (by omega) (by omega)
    have hdk := entB_data (hd.ent (geti m.ents (k : Int)) (by rw [geti_nat hlt]; exact List.getElem_mem hlt)).1
    obtain ⟨_, _, rfl⟩ := Bytes.form hB
    simp only [hix, SSd, List.getElem?_toArray, List.getElem?_cons_zero, List.getElem?_cons_succ, Nat.zero_add, Nat.add_zero, Nat.zero_mul, List.drop_succ_cons, List.drop_zero, List.take_succ_cons, List.take_zero, List.nil_append, List.cons_append, Nat.reduceAdd, List.drop_nil, List.take_nil]
    refine rdN rfl (hc I' _ hI (fun _ h => by cases h)) ?_
    refine newI (fun b2 => ?_)
    refine stB rfl rfl (one_all rfl) ?_
    try simp only [SSd, List.getElem?_toArray, List.getElem?_cons_zero, List.getElem?_cons_succ, Nat.zero_add, Nat.add_zero, Nat.zero_mul, List.drop_succ_cons, List.drop_zero, List.take_succ_cons, List.take_zero, List.nil_append, List.cons_append, Nat.reduceAdd, List.drop_nil, List.take_nil]
    refine rdb ?_
    refine bi1 (fun u I1 hI1 hu => ?_)
    refine call (Cal.split X6 (wcount_spec h6 hu (by simp) (by simp; omega) (by omega) (fun X7 h7 => ?_)))
    simp only [List.length_cons, List.length_nil] at h7
    try simp only [SSd, List.getElem?_toArray, List.getElem?_cons_zero, List.getElem?_cons_succ, Nat.zero_add, Nat.add_zero, Nat.zero_mul, List.drop_succ_cons, List.drop_zero, List.take_succ_cons, List.take_zero, List.nil_append, List.cons_append, Nat.reduceAdd, List.drop_nil, List.take_nil]
    refine rdb ?_
    refine call (wbyte_spec h7 (by omega) (fun X8 h8 => ?_))
    try simp only [SSd, List.getElem?_toArray, List.getElem?_cons_zero, List.getElem?_cons_succ, Nat.zero_add, Nat.add_zero, Nat.zero_mul, List.drop_succ_cons, List.drop_zero, List.take_succ_cons, List.take_zero, List.nil_append, List.cons_append, Nat.reduceAdd, List.drop_nil, List.take_nil]
    refine rdb ?_
    refine call (wtext_spec h8 (hB.mono (hI.trans hI1)) (by omega) (fun X9 I2 hI2 h9 => ?_))
    simp only [SSd, List.getElem?_toArray, List.getElem?_cons_zero, List.getElem?_cons_succ, Nat.zero_add, Nat.add_zero, Nat.zero_mul, List.drop_succ_cons, List.drop_zero, List.take_succ_cons, List.take_zero, List.nil_append, List.cons_append, Nat.reduceAdd, List.drop_nil, List.take_nil, wrap_i64 ((k : Int) + 1) (by omega)]
    exact Gh.to (X9 ++ F) (Gh.done ⟨mm - 1, by omega, (hI.trans hI1).trans hI2, k + 1, X9, by omega, by simp, h9.le (by omega), rfl⟩)
  · simp at hlt
    exact wfin h6 (fun v' I2 hI2 => hk v' I2 (hI.trans hI2))

theorem wmems {m : RM} {b1 bw n : Nat} {X F : LH} {a0 a1 a2 : Option Addr} {p0 p1 p2 : Nat} (hM : Ints I (.slice a1 m.mem.length p1) m.mem) (hD : Bytes I (.slice a2 m.data.length p2) m.data) (hd : RB m) (hS : WrR bw X n) (hb : n ≤ 1000)
    (hk : ∀ v' I', Ext I I' → Gh (K (.tuple #[v', .int .i64 0])) I' ((b1, Obj.cells #[.int .i64 m.kind, .int .i64 m.group, .int .i64 m.frm, .int .i64 m.to, .int .i64 m.term, .int .i64 m.index, .int .i64 m.lterm, .int .i64 m.commit, .bool m.ok, .slice a0 m.ents.length p0, .slice a1 m.mem.length p1, .slice a2 m.data.length p2] 77 (0, 0)) :: F)) :
    LoopM ((.int .i64 0, ()) : Value × Unit) (fun s Kn0 => sh90_7 ω (.pointer (some ⟨b1, 0, none⟩)) (.slice none 0 0) (.int .i64 0) (.pointer (some ⟨bw, 0, none⟩)) (.slice a1 m.mem.length p1) (.int .i64 m.mem.length) s.1 Kn0 (fun v => Gh (K v))) I (X ++ ((b1, Obj.cells #[.int .i64 m.kind, .int .i64 m.group, .int .i64 m.frm, .int .i64 m.to, .int .i64 m.term, .int .i64 m.index, .int .i64 m.lterm, .int .i64 m.commit, .bool m.ok, .slice a0 m.ents.length p0, .slice a1 m.mem.length p1, .slice a2 m.data.length p2] 77 (0, 0)) :: F)) := by
  have hnum := hd.mbl
  have hdat := hd.dat
  generalize hFF : ((b1, Obj.cells #[.int .i64 m.kind, .int .i64 m.group, .int .i64 m.frm, .int .i64 m.to, .int .i64 m.term, .int .i64 m.index, .int .i64 m.lterm, .int .i64 m.commit, .bool m.ok, .slice a0 m.ents.length p0, .slice a1 m.mem.length p1, .slice a2 m.data.length p2] 77 (0, 0)) :: F) = FF at *
  refine loop (fun mm s I' L' => I' = I ∧ ∃ (k : Nat) (X6 : LH), k + mm = m.mem.length ∧ s = (.int .i64 k, ()) ∧ WrR bw X6 (n + k) ∧ L' = X6 ++ FF) m.mem.length ⟨rfl, 0, X, by omega, rfl, hS, rfl⟩ ?_
  rintro mm s I' L' ⟨rfl, k, X6, hkm, rfl, h6, rfl⟩
  unfold sh90_7
  try simp only [SSd, List.getElem?_toArray, List.getElem?_cons_zero, List.getElem?_cons_succ, Nat.zero_add, Nat.add_zero, Nat.zero_mul, List.drop_succ_cons, List.drop_zero, List.take_succ_cons, List.take_zero, List.nil_append, List.cons_append, Nat.reduceAdd, List.drop_nil, List.take_nil]
  refine br_split (fun hlt => ?_) (fun hlt => ?_)
  · simp at hlt
    obtain ⟨b, off, hix, hc⟩ := ints_at hM (i := k) (by omega) (by omega)
    simp only [hix, SSd, List.getElem?_toArray, List.getElem?_cons_zero, List.getElem?_cons_succ, Nat.zero_add, Nat.add_zero, Nat.zero_mul, List.drop_succ_cons, List.drop_zero, List.take_succ_cons, List.take_zero, List.nil_append, List.cons_append, Nat.reduceAdd, List.drop_nil, List.take_nil]
    refine rd1 (hc I' _ (Ext.refl I')) ?_
    refine call (wbyte_spec h6 (by omega) (fun X8 h8 => ?_))
    simp only [SSd, List.getElem?_toArray, List.getElem?_cons_zero, List.getElem?_cons_succ, Nat.zero_add, Nat.add_zero, Nat.zero_mul, List.drop_succ_cons, List.drop_zero, List.take_succ_cons, List.take_zero, List.nil_append, List.cons_append, Nat.reduceAdd, List.drop_nil, List.take_nil, wrap_i64 ((k : Int) + 1) (by omega)]
    exact Gh.done ⟨mm - 1, by omega, rfl, k + 1, X8, by omega, by simp, h8, rfl⟩
  · simp at hlt
    unfold sh90_5
    subst hFF
    try simp only [SSd, List.getElem?_toArray, List.getElem?_cons_zero, List.getElem?_cons_succ, Nat.zero_add, Nat.add_zero, Nat.zero_mul, List.drop_succ_cons, List.drop_zero, List.take_succ_cons, List.take_zero, List.nil_append, List.cons_append, Nat.reduceAdd, List.drop_nil, List.take_nil]
    refine rdb ?_
    refine call (wtext_spec h6 hD (by omega) (fun X9 I2 hI2 h9 => ?_))
    exact wfin h9 (fun v' I3 hI3 => hk v' I3 (hI2.trans hI3))

set_option maxHeartbeats 1000000 in
theorem enc_spec {m : RM} {c : List Value} (hm : MsgV I m c) (hl : m.mem.length < 4611686018427387904)
    (hk1 : rightB m = true → ∀ v' I', Ext I I' → K (.tuple #[v', .int .i64 0]) I' L) (hk0 : rightB m = false → ∀ I', Ext I I' → K (.tuple #[.slice none 0 0, .int .i64 92]) I' L) :
    Cal Try.prog ω 90 #[.agg c.toArray] K I L := by
  have hm0 := hm
  obtain ⟨a0, p0, a1, p1, a2, p2, rfl, hE, hM, hD⟩ := hm.form
  have e1 := RL.len hE
  have e2 := Ints.len hM
  refine cal90 ?_
  unfold sh90
  refine newI (fun b1 => ?_)
  try simp only [SSd, List.getElem?_toArray, List.getElem?_cons_zero, List.getElem?_cons_succ, Nat.zero_add, Nat.add_zero, Nat.zero_mul, List.drop_succ_cons, List.drop_zero, List.take_succ_cons, List.take_zero, List.nil_append, List.cons_append, Nat.reduceAdd, List.drop_nil, List.take_nil]
  refine rdB rfl ?_
  refine call (sright_spec hm0 hl (fun I1 hI1 => ?_))
  try simp only [SSd, List.getElem?_toArray, List.getElem?_cons_zero, List.getElem?_cons_succ, Nat.zero_add, Nat.add_zero, Nat.zero_mul, List.drop_succ_cons, List.drop_zero, List.take_succ_cons, List.take_zero, List.nil_append, List.cons_append, Nat.reduceAdd, List.drop_nil, List.take_nil]
  refine br_split (fun hr => ?_) (fun hr => ?_)
  · simp only [Bool.not_eq_eq_eq_not, Bool.not_true] at hr
    exact Gh.to L (Gh.done (hk0 hr I1 hI1))
  simp only [Bool.not_eq_eq_eq_not, Bool.not_false] at hr
  have hd := right_data hr
  obtain ⟨d1, d2, d3, d4, d5, d6, d7, d8, d9, d10, d11⟩ := id hd
  have hk := hk1 hr
  repeat' (first | (with_reducible refine drawC ?_) | (with_reducible refine drawW1 ?_) | (with_reducible refine drawW2 ?_) | (with_reducible refine keepC (by repeat (first | exact Ext.refl _ | assumption | refine Ext.trans ?_ (by assumption))) ?_) | (with_reducible refine newI (fun _ => ?_)) | first | (with_reducible refine rdb ?_) | ((with_reducible refine st1 ?_ ?_); rfl) | ((with_reducible refine rdB ?_ ?_); rfl) | (with_reducible refine rdbS ?_) | ((with_reducible refine rdBS ?_ ?_); rfl) | ((with_reducible refine stB ?_ ?_ ?_ ?_); rfl; rfl; exact one_all rfl) | ((with_reducible refine rdP _ rfl ?_ ?_); rfl) | ((with_reducible refine rdPS _ rfl ?_ ?_); rfl) | ((with_reducible refine stP _ rfl ?_ ?_ ?_ ?_); rfl; rfl; rfl) | (with_reducible refine And.intro ?_ ?_) | (simp only [Bool.not_true, Bool.not_false, Bool.and_self, Bool.true_and, Int.reduceBEq, Int.reduceBNe, Int.reduceLT, Int.reduceLE, decide_true, decide_false, Br_true, Br_false, Gd_tt, Gd_ft, Gd_tf, Gd_ff, beq_self_eq_true, bne_self_eq_false]) | (with_reducible refine gd_split (fun _ => ?_) (fun _ => ?_)) | (with_reducible refine br_split (fun _ => ?_) (fun _ => ?_)) | (simp only [SSd, List.getElem?_toArray, List.getElem?_cons_zero, List.getElem?_cons_succ, Nat.zero_add, Nat.add_zero, Nat.zero_mul, List.drop_succ_cons, List.drop_zero, List.take_succ_cons, List.take_zero, List.nil_append, List.cons_append, Nat.reduceAdd, List.drop_nil, List.take_nil, u8_wrap]))
  refine bb4 (fun X1 v1 h1 => ?_)
  obtain ⟨aa, cc, rfl⟩ := h1.form
  simp only [bldW, SSd, List.getElem?_toArray, List.getElem?_cons_zero, List.getElem?_cons_succ, Nat.zero_add, Nat.add_zero, Nat.zero_mul, List.drop_succ_cons, List.drop_zero, List.take_succ_cons, List.take_zero, List.nil_append, List.cons_append, Nat.reduceAdd, List.drop_nil, List.take_nil]
  refine newI (fun bw => ?_)
  have hw : WrR bw ((bw, Obj.cells #[.slice aa 4 cc] 153 (0, 0)) :: X1) 4 := ⟨_, _, X1, rfl, h1, by simp⟩
  refine rdb ?_
  refine bi1 (fun u I2 hI2 hu => ?_)
  have hkk : ∀ {I3 : Imm}, Ext I2 I3 → ∀ v' I', Ext I3 I' → Gh (K (.tuple #[v', .int .i64 0])) I' ((b1, Obj.cells #[.int .i64 m.kind, .int .i64 m.group, .int .i64 m.frm, .int .i64 m.to, .int .i64 m.term, .int .i64 m.index, .int .i64 m.lterm, .int .i64 m.commit, .bool m.ok, .slice a0 m.ents.length p0, .slice a1 m.mem.length p1, .slice a2 m.data.length p2] 77 (0, 0)) :: L) :=
    fun hI3 v' I' hI' => Gh.to L (Gh.done (hk v' I' (((hI1.trans hI2).trans hI3).trans hI')))
  refine call (wcount_spec hw hu (by simp) (by simp; omega) (by simp) (fun X2 h2 => ?_))
  simp only [List.length_cons, List.length_nil] at h2
  refine rdb ?_
  try simp only [SSd, List.getElem?_toArray, List.getElem?_cons_zero, List.getElem?_cons_succ, Nat.zero_add, Nat.add_zero, Nat.zero_mul, List.drop_succ_cons, List.drop_zero, List.take_succ_cons, List.take_zero, List.nil_append, List.cons_append, Nat.reduceAdd, List.drop_nil, List.take_nil]
  refine br_split (fun k1 => ?_) (fun k1 => ?_)
  · refine rdb ?_
    try simp only [SSd, List.getElem?_toArray, List.getElem?_cons_zero, List.getElem?_cons_succ, Nat.zero_add, Nat.add_zero, Nat.zero_mul, List.drop_succ_cons, List.drop_zero, List.take_succ_cons, List.take_zero, List.nil_append, List.cons_append, Nat.reduceAdd, List.drop_nil, List.take_nil]
    refine rdb ?_
    refine bi2 (fun u I3 hI3 hu => ?_)
    refine call (wcount_spec h2 hu (by simp) (by simp; omega) (by simp) (fun X3 h3 => ?_))
    exact wfin h3 (hkk hI3)
  refine br_split (fun k2 => ?_) (fun k2 => ?_)
  · refine rdb ?_
    refine call (wtruth_spec h2 (by simp) (fun X3 h3 => ?_))
    exact wfin h3 (hkk (Ext.refl _))
  refine br_split (fun k3 => ?_) (fun k3 => ?_)
  · refine rdb ?_
    try simp only [SSd, List.getElem?_toArray, List.getElem?_cons_zero, List.getElem?_cons_succ, Nat.zero_add, Nat.add_zero, Nat.zero_mul, List.drop_succ_cons, List.drop_zero, List.take_succ_cons, List.take_zero, List.nil_append, List.cons_append, Nat.reduceAdd, List.drop_nil, List.take_nil]
    refine rdb ?_
    try simp only [SSd, List.getElem?_toArray, List.getElem?_cons_zero, List.getElem?_cons_succ, Nat.zero_add, Nat.add_zero, Nat.zero_mul, List.drop_succ_cons, List.drop_zero, List.take_succ_cons, List.take_zero, List.nil_append, List.cons_append, Nat.reduceAdd, List.drop_nil, List.take_nil]
    refine rdb ?_
    try simp only [SSd, List.getElem?_toArray, List.getElem?_cons_zero, List.getElem?_cons_succ, Nat.zero_add, Nat.add_zero, Nat.zero_mul, List.drop_succ_cons, List.drop_zero, List.take_succ_cons, List.take_zero, List.nil_append, List.cons_append, Nat.reduceAdd, List.drop_nil, List.take_nil]
    refine rdb ?_
    simp only [e1, SSd, List.getElem?_toArray, List.getElem?_cons_zero, List.getElem?_cons_succ, Nat.zero_add, Nat.add_zero, Nat.zero_mul, List.drop_succ_cons, List.drop_zero, List.take_succ_cons, List.take_zero, List.nil_append, List.cons_append, Nat.reduceAdd, List.drop_nil, List.take_nil]
    refine bi4 (fun u I3 hI3 hu => ?_)
    refine call (wcount_spec h2 hu (by simp) (by simp; omega) (by simp) (fun X3 h3 => ?_))
    try simp only [SSd, List.getElem?_toArray, List.getElem?_cons_zero, List.getElem?_cons_succ, Nat.zero_add, Nat.add_zero, Nat.zero_mul, List.drop_succ_cons, List.drop_zero, List.take_succ_cons, List.take_zero, List.nil_append, List.cons_append, Nat.reduceAdd, List.drop_nil, List.take_nil]
    refine rdb ?_
    simp only [e1, SSd, List.getElem?_toArray, List.getElem?_cons_zero, List.getElem?_cons_succ, Nat.zero_add, Nat.add_zero, Nat.zero_mul, List.drop_succ_cons, List.drop_zero, List.take_succ_cons, List.take_zero, List.nil_append, List.cons_append, Nat.reduceAdd, List.drop_nil, List.take_nil]
    exact wents (LsV.to hE ((hI1.trans hI2).trans hI3)) hd h3 (by simp) (hkk hI3)
  refine br_split (fun k4 => ?_) (fun k4 => ?_)
  · refine rdb ?_
    refine call (wtruth_spec h2 (by simp) (fun X3 h3 => ?_))
    try simp only [SSd, List.getElem?_toArray, List.getElem?_cons_zero, List.getElem?_cons_succ, Nat.zero_add, Nat.add_zero, Nat.zero_mul, List.drop_succ_cons, List.drop_zero, List.take_succ_cons, List.take_zero, List.nil_append, List.cons_append, Nat.reduceAdd, List.drop_nil, List.take_nil]
    refine rdb ?_
    refine bi1 (fun u I3 hI3 hu => ?_)
    refine call (wcount_spec h3 hu (by simp) (by simp; omega) (by simp) (fun X4 h4 => ?_))
    exact wfin h4 (hkk hI3)
  refine br_split (fun k5 => ?_) (fun k5 => ?_)
  · refine rdb ?_
    try simp only [SSd, List.getElem?_toArray, List.getElem?_cons_zero, List.getElem?_cons_succ, Nat.zero_add, Nat.add_zero, Nat.zero_mul, List.drop_succ_cons, List.drop_zero, List.take_succ_cons, List.take_zero, List.nil_append, List.cons_append, Nat.reduceAdd, List.drop_nil, List.take_nil]
    refine rdb ?_
    try simp only [SSd, List.getElem?_toArray, List.getElem?_cons_zero, List.getElem?_cons_succ, Nat.zero_add, Nat.add_zero, Nat.zero_mul, List.drop_succ_cons, List.drop_zero, List.take_succ_cons, List.take_zero, List.nil_append, List.cons_append, Nat.reduceAdd, List.drop_nil, List.take_nil]
    refine rdb ?_
    simp only [e2, SSd, List.getElem?_toArray, List.getElem?_cons_zero, List.getElem?_cons_succ, Nat.zero_add, Nat.add_zero, Nat.zero_mul, List.drop_succ_cons, List.drop_zero, List.take_succ_cons, List.take_zero, List.nil_append, List.cons_append, Nat.reduceAdd, List.drop_nil, List.take_nil]
    refine bi3 (fun u I3 hI3 hu => ?_)
    refine call (wcount_spec h2 hu (by simp) (by simp; omega) (by simp) (fun X3 h3 => ?_))
    try simp only [SSd, List.getElem?_toArray, List.getElem?_cons_zero, List.getElem?_cons_succ, Nat.zero_add, Nat.add_zero, Nat.zero_mul, List.drop_succ_cons, List.drop_zero, List.take_succ_cons, List.take_zero, List.nil_append, List.cons_append, Nat.reduceAdd, List.drop_nil, List.take_nil]
    refine rdb ?_
    simp only [e2, SSd, List.getElem?_toArray, List.getElem?_cons_zero, List.getElem?_cons_succ, Nat.zero_add, Nat.add_zero, Nat.zero_mul, List.drop_succ_cons, List.drop_zero, List.take_succ_cons, List.take_zero, List.nil_append, List.cons_append, Nat.reduceAdd, List.drop_nil, List.take_nil]
    exact wmems (hM.mono ((hI1.trans hI2).trans hI3)) (hD.mono ((hI1.trans hI2).trans hI3)) hd h3 (by simp) (hkk hI3)
  exact wfin h2 (hkk (Ext.refl _))
end
end Go.Proofs.Ytdcpeboecmkmlaa
