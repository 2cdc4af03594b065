/-
  Entries: whether they may be, whether they follow, copies of them.
-/
-- S4
import Derived.Test.YtdcpeboecmkmlaaA
set_option linter.unusedSimpArgs false
set_option linter.unusedVariables false
namespace Go.Proofs.Ytdcpeboecmkmlaa
open Go.SL
set_option maxRecDepth 10000

section
variable {ω : Om} {I : Imm} {L : LH} {K : Value → M}

structure LE where
  index : Int
  term : Int
  kind : Int
  data : List UInt8
instance : Inhabited LE := ⟨⟨0, 0, 0, []⟩⟩
def LeV (I : Imm) (e : LE) (c : List Value) : Prop := ∃ dv, c = [.int .i64 e.index, .int .i64 e.term, .int .i64 e.kind, dv] ∧ Bytes I dv e.data
theorem LeV.mono {I I' : Imm} {e : LE} {c : List Value} (h : LeV I e c) (hI : Ext I I') : LeV I' e c := by
  obtain ⟨dv, hc, hB⟩ := h
  exact ⟨dv, hc, hB.mono hI⟩
theorem LeV.len {e : LE} {c : List Value} (h : LeV I e c) : c.length = 4 := by obtain ⟨bv, rfl, hB⟩ := h; rfl
theorem LeV.one {e : LE} {c : List Value} (h : LeV I e c) : ∀ u ∈ c, u.oneCell' = true := by
  obtain ⟨bv, rfl, hB⟩ := h
  obtain ⟨_, _, rfl⟩ := hB.form
  exact one_all rfl
abbrev LsV (I : Imm) (L : LH) (v : Value) (es : List LE) : Prop := RL LeV 4 I L v es
/-- entries that never change -/
abbrev Ents (I : Imm) (v : Value) (es : List LE) : Prop := RL LeV 4 I [] v es
theorem LsV.to {I I' : Imm} {L L' : LH} {v : Value} {es : List LE} (h : LsV I L v es) (hI : Ext I I') [hL : LSub L L'] : LsV I' L' v es := RL.mono (fun _ _ h => LeV.mono h hI) h hI hL.sub
theorem Ents.to {I I' : Imm} {L' : LH} {v : Value} {es : List LE} (h : Ents I v es) (hI : Ext I I') : LsV I' L' v es := RL.mono (fun _ _ h => LeV.mono h hI) h hI (fun _ h => by cases h)
theorem Ents.ofO {A : M} {T : Nat} {X F : LH} {v : Value} {es : List LE} {cells : List Value} (h : SlO T 4 X v cells es.length) (hR : Recs (LeV I) 4 es cells) (hk : ∀ I', Ext I I' → Ents I' v es → Gh A I' F) : Gh A I (X ++ F) :=
  SlO.freeze h (fun I' hI hS => hk I' hI (RL.ofI hS (hR.imp fun _ _ h => LeV.mono h hI)))

theorem named_spec {v : Value} {b : List UInt8} (h : Bytes I v b) (hlen : b.length * 8 ≤ 150000000000000) (hk : ∀ v' I', Ext I I' → Ints I' v' (nums b) → K v' I' L) : Cal Try.prog ω 110 #[v] K I L := by
  refine cal110 ?_
  have hln := Bytes.len h
  unfold sh110
  simp only [hln, SSe, List.getElem?_toArray, List.getElem?_cons_zero, List.getElem?_cons_succ, Nat.zero_add, Nat.add_zero, Nat.zero_mul]
  refine mk_own (Nat.le_refl _) (by omega) (by omega) (fun X w hX => ?_)
  have hz : (Builtin.zeroCells #[Value.int .i64 0] b.length).toList = i64s (List.replicate b.length 0) := by
    apply List.ext_getElem?
    intro j
    by_cases hj : j < b.length <;> simp [Builtin.zeroCells, i64s, hj, List.getElem?_replicate, Nat.mod_one]
  rw [hz] at hX
  refine loop (fun m s I' L' => I' = I ∧ ∃ (k : Nat) (l : List Int) (X6 : LH), k + m = b.length ∧ s = (.int .i64 k, ()) ∧ l.length = b.length ∧ l.take k = nums (b.take k) ∧ SlO 3 1 X6 w (i64s l) b.length ∧ L' = X6 ++ L) b.length ⟨rfl, 0, _, X, by omega, rfl, by simp, rfl, hX, rfl⟩ ?_
  rintro m s I' L' ⟨rfl, k, l, X6, hkm, rfl, hl, hlt6, h6, rfl⟩
  unfold sh110_3
  try simp only [SSe, List.getElem?_toArray, List.getElem?_cons_zero, List.getElem?_cons_succ, Nat.zero_add, Nat.add_zero, Nat.zero_mul]
  refine br_split (fun hlt => ?_) (fun hlt => ?_)
  · simp at hlt
    obtain ⟨bb, off, hix, hc⟩ := bytes_at h (i := k) (by omega) (by omega)
    simp only [hix, SSe, List.getElem?_toArray, List.getElem?_cons_zero, List.getElem?_cons_succ, Nat.zero_add, Nat.add_zero, Nat.zero_mul]
    refine rd1 (hc I' _ (Ext.refl I')) ?_
    have hu := (geti b (k : Int)).toNat_lt
    simp only [SSe, List.getElem?_toArray, List.getElem?_cons_zero, List.getElem?_cons_succ, Nat.zero_add, Nat.add_zero, Nat.zero_mul, wrap_i64 (((geti b (k : Int)).toNat : Nat) : Int) (by omega)]
    obtain ⟨b2, hix2, hs⟩ := set_own (I := I') (L := X6 ++ L) (X := X6) (i := k) (u := .int .i64 (geti b (k : Int)).toNat) (K := fun _ => Pv (binIV .add (.int .i64 k) (Value.int .i64 1)) fun v9 => (fun s' => Gh fun I2 L2 => ∃ m', m' < m ∧ I2 = I' ∧ ∃ (k : Nat) (l : List Int) (X6 : LH), k + m' = b.length ∧ s' = ((.int .i64 k, ()) : Value × Unit) ∧ l.length = b.length ∧ l.take k = nums (b.take k) ∧ SlO 3 1 X6 w (i64s l) b.length ∧ L2 = X6 ++ L) (v9, ())) h6 (by omega) (by omega) rfl (fun X' hX' => by
      simp only [SSe, List.getElem?_toArray, List.getElem?_cons_zero, List.getElem?_cons_succ, Nat.zero_add, Nat.add_zero, Nat.zero_mul, wrap_i64 ((k : Int) + 1) (by omega)]
      refine Gh.done ⟨m - 1, by omega, rfl, k + 1, l.set k ((geti b (k : Int)).toNat : Int), X', by omega, by simp, by simp [hl], ?_, ?_, rfl⟩
      · rw [take_set_succ (by omega), hlt6, nums_snoc hlt]
      · simpa [i64s, List.map_set] using hX')
    simp only [hix2, SSe, List.getElem?_toArray, List.getElem?_cons_zero, List.getElem?_cons_succ, Nat.zero_add, Nat.add_zero, Nat.zero_mul]
    exact hs
  · simp at hlt
    rw [List.take_of_length_le (by omega), List.take_of_length_le (by omega)] at hlt6
    subst hlt6
    exact SlO.freeze h6 (fun I2 hI2 hS2 => Gh.done (hk w I2 hI2 (by unfold Ints; rw [nums_len]; exact hS2)))

def entB (e : LE) : Bool := countB e.index && countB e.term && decide (1 ≤ e.term) &&
  (if e.kind = 1 then (e.data.length : Int) == 0 else if e.kind = 2 then decide ((e.data.length : Int) ≤ 12000) else if e.kind = 3 then memB (nums e.data) else false)

theorem rentry_spec {e : LE} {c : List Value} (he : LeV I e c) (hk : ∀ I', Ext I I' → K (.bool (entB e)) I' L) : Cal Try.prog ω 107 #[.agg c.toArray] K I L := by
  obtain ⟨dv, rfl, hB⟩ := he
  have hln := Bytes.len hB
  refine cal107 ?_
  unfold sh107
  repeat' (first | (with_reducible refine drawC ?_) | (with_reducible refine keepC (by first | exact Ext.refl _ | assumption) ?_) | (with_reducible refine gd_split (fun _ => ?_) (fun _ => ?_)) | (with_reducible refine br_split (fun _ => ?_) (fun _ => ?_)) | (with_reducible refine newI (fun _ => ?_)) | (refine call (rcount_spec ?_)) | (refine call (memberbytes_spec hB (fun I' hI' => ?_))) | (with_reducible refine unfE (sh107_2.eq_1 ..) ?_) | (with_reducible refine unfE (sh107_3.eq_1 ..) ?_) | (with_reducible refine unfE (sh107.eq_1 ..) ?_) | first | refine rdb ?_ | refine st1 rfl ?_ | refine rdB rfl ?_ | refine rdbS ?_ | refine rdBS rfl ?_ | (simp only [SSe, List.getElem?_toArray, List.getElem?_cons_zero, List.getElem?_cons_succ, Nat.zero_add, Nat.add_zero, Nat.zero_mul, hln]))
  all_goals first | refine Gh.to L (Gh.done (leafB (hk I (Ext.refl I)) ?_)) | refine Gh.to L (Gh.done (leafB (hk _ (by assumption)) ?_))
  all_goals (simp_all [entB] <;> omega)

theorem right_spec {e : LE} {c : List Value} (he : LeV I e c) (hk : ∀ I', Ext I I' → K (.bool (entB e)) I' L) : Cal Try.prog ω 105 #[.agg c.toArray] K I L := by
  obtain ⟨dv, rfl, hB⟩ := he
  have hln := Bytes.len hB
  refine cal105 ?_
  unfold sh105
  repeat' (first | (with_reducible refine drawC ?_) | (with_reducible refine keepC (by first | exact Ext.refl _ | assumption) ?_) | (with_reducible refine gd_split (fun _ => ?_) (fun _ => ?_)) | (with_reducible refine br_split (fun _ => ?_) (fun _ => ?_)) | (with_reducible refine newI (fun _ => ?_)) | (refine call (count_spec ?_)) | (refine call (named_spec hB (by simp_all <;> omega) (fun v' I' hI' hv' => ?_))) | (refine call (members_spec (by assumption) ?_)) | (with_reducible refine unfE (sh105_2.eq_1 ..) ?_) | (with_reducible refine unfE (sh105_3.eq_1 ..) ?_) | (with_reducible refine unfE (sh105.eq_1 ..) ?_) | first | refine rdb ?_ | refine st1 rfl ?_ | refine rdB rfl ?_ | refine rdbS ?_ | refine rdBS rfl ?_ | (simp only [SSe, List.getElem?_toArray, List.getElem?_cons_zero, List.getElem?_cons_succ, Nat.zero_add, Nat.add_zero, Nat.zero_mul, hln]))
  all_goals first | refine Gh.to L (Gh.done (leafB (hk I (Ext.refl I)) ?_)) | refine Gh.to L (Gh.done (leafB (hk _ (by assumption)) ?_))
  all_goals (rw [Bool.eq_iff_iff]; simp_all [entB, countB, memB, nums_len] <;> omega)

def followB (index term : Int) : List LE → Bool
  | [] => true
  | e :: r => entB e && decide (e.index = index + 1) && decide (term ≤ e.term) && followB (index + 1) e.term r

theorem follow_spec {index term : Int} {v : Value} {es : List LE} (h : Ents I v es) (hi : countB index = true) (hlen : es.length < 4611686018427387904) (hk : ∀ I', Ext I I' → K (.bool (followB index term es)) I' L) : Cal Try.prog ω 58 #[.int .i64 index, .int .i64 term, v] K I L := by
  refine cal58 ?_
  have hln := RL.len h
  unfold sh58
  simp only [hln, SSe, List.getElem?_toArray, List.getElem?_cons_zero, List.getElem?_cons_succ, Nat.zero_add, Nat.add_zero, Nat.zero_mul]
  simp [countB] at hi
  refine loop (fun m s I' L' => Ext I I' ∧ L' = L ∧ ∃ (k : Nat) (t : Int), k + m = es.length ∧ s = (.int .i64 t, .bool false, .int .i64 k, ()) ∧ followB (index + k) t (es.drop k) = followB index term es) es.length ⟨Ext.refl I, rfl, 0, term, by omega, rfl, by simp⟩ ?_
  rintro m s I' L' ⟨hI, rfl, k, t, hkm, rfl, hf⟩
  unfold sh58_3
  try simp only [SSe, List.getElem?_toArray, List.getElem?_cons_zero, List.getElem?_cons_succ, Nat.zero_add, Nat.add_zero, Nat.zero_mul]
  refine br_split (fun hlt => ?_) (fun hlt => ?_)
  · simp at hlt
    obtain ⟨b, off, c, hix, hcl, ⟨dv, rfl, hB⟩, hc⟩ := RL.ix h (i := k) (by omega) (by omega)
    simp only [hix, SSe, List.getElem?_toArray, List.getElem?_cons_zero, List.getElem?_cons_succ, Nat.zero_add, Nat.add_zero, Nat.zero_mul]
    refine rdN hcl (hc I' _ hI (fun _ h => by cases h)) ?_
    refine newI (fun b1 => ?_)
    obtain ⟨_, _, rfl⟩ := hB.form
    refine stB rfl rfl (one_all rfl) ?_
    refine rdB rfl ?_
    refine call (right_spec (e := geti es (k : Int)) ⟨_, rfl, hB.mono hI⟩ (fun I2 hI2 => ?_))
    rw [drop_geti hlt, followB] at hf
    simp only [SSe, List.getElem?_toArray, List.getElem?_cons_zero, List.getElem?_cons_succ, Nat.zero_add, Nat.add_zero, Nat.zero_mul, wrap_i64 (index + 1) (by omega), wrap_i64 (index + 1 + k) (by omega), wrap_i64 ((k : Int) + 1) (by omega)]
    repeat' (first | (with_reducible refine drawC ?_) | (with_reducible refine keepC (by first | exact Ext.refl _ | assumption) ?_) | (with_reducible refine gd_split (fun _ => ?_) (fun _ => ?_)) | (with_reducible refine br_split (fun _ => ?_) (fun _ => ?_)) | (with_reducible refine newI (fun _ => ?_)) | (with_reducible refine unfE (sh58_3.eq_1 ..) ?_) | (with_reducible refine unfE (sh58.eq_1 ..) ?_) | first | refine rdb ?_ | refine st1 rfl ?_ | refine rdB rfl ?_ | refine rdbS ?_ | refine rdBS rfl ?_ | (simp only [SSe, List.getElem?_toArray, List.getElem?_cons_zero, List.getElem?_cons_succ, Nat.zero_add, Nat.add_zero, Nat.zero_mul]))
    all_goals first
      | (refine Gh.to L' (Gh.done (leafB (hk I2 (hI.trans hI2)) ?_)); rw [← hf]; simp_all <;> omega)
      | (refine Gh.to L' (Gh.done ?_)
         refine ⟨m - 1, by omega, hI.trans hI2, rfl, k + 1, (geti es (k : Int)).term, by omega, by simp, ?_⟩
         rw [← hf]
         simp_all [Int.add_assoc] <;> omega)
  · simp at hlt
    rw [List.drop_of_length_le (by omega), followB] at hf
    exact Gh.done (leafB (hk I' hI) hf.symm)

end
end Go.Proofs.Ytdcpeboecmkmlaa
