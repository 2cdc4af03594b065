/-
  The document's log: what its reading functions tell.
-/
-- S4
import Derived.Test.YtdcpeboecmkmlaaE
set_option linter.unusedSimpArgs false
set_option linter.unusedVariables false
namespace Go.Proofs.Ytdcpeboecmkmlaa
open Go.SL
set_option maxRecDepth 10000

/-- small enough -/
def Sz (g : LG) : Prop := 0 ≤ g.index ∧ g.index ≤ 9007199254740991 ∧ g.es.length * 48 ≤ 150000000000000
theorem WF.sz {g : LG} (h : WF g) : Sz g := ⟨h.last.1, by have := h.last; omega, h.len⟩

section
variable {ω : Om} {I : Imm} {L : LH} {K : Value → M}

theorem rlast_spec {b : Nat} {g : LG} (h : LogV I L b g) (hz : Sz g) (hk : K (.int .i64 (lastI g)) I L) : Cal Try.prog ω 66 #[.pointer (some ⟨b, 0, none⟩)] K I L := by
  obtain ⟨mv, lv, hm, hl, c0, c1, c2, c3, c4, c5⟩ := h.cells
  obtain ⟨h1, h2, h3⟩ := hz
  refine cal66 ?_
  unfold sh66
  repeat' (first | (with_reducible refine drawC ?_) | (with_reducible refine keepC (by first | exact Ext.refl _ | assumption) ?_) | (with_reducible refine gd_split (fun _ => ?_) (fun _ => ?_)) | (with_reducible refine br_split (fun _ => ?_) (fun _ => ?_)) | (with_reducible refine newI (fun _ => ?_)) | (refine rdC c0 (by first | exact Ext.refl _ | assumption) ?_) | (refine rdCS c0 (by first | exact Ext.refl _ | assumption) ?_) | (refine rdC c3 (by first | exact Ext.refl _ | assumption) ?_) | (refine rdCS c3 (by first | exact Ext.refl _ | assumption) ?_) | first | refine rdb ?_ | refine st1 rfl ?_ | refine rdB rfl ?_ | refine rdbS ?_ | refine rdBS rfl ?_ | (simp only [SSe, List.getElem?_toArray, List.getElem?_cons_zero, List.getElem?_cons_succ, Nat.zero_add, Nat.add_zero, Nat.zero_mul, RL.len hl, wrap_i64 (g.index + g.es.length) (by omega)]))
  exact Gh.done hk

theorem rlastTerm_spec {b : Nat} {g : LG} (h : LogV I L b g) (hz : Sz g) (hk : K (.int .i64 (lastT g)) I L) : Cal Try.prog ω 67 #[.pointer (some ⟨b, 0, none⟩)] K I L := by
  obtain ⟨mv, lv, hm, hl, c0, c1, c2, c3, c4, c5⟩ := h.cells
  obtain ⟨h1, h2, h3⟩ := hz
  have hln := RL.len hl
  refine cal67 ?_
  unfold sh67
  try simp only [SSe, List.getElem?_toArray, List.getElem?_cons_zero, List.getElem?_cons_succ, Nat.zero_add, Nat.add_zero, Nat.zero_mul]
  refine rd1 c3 ?_
  simp only [hln, SSe, List.getElem?_toArray, List.getElem?_cons_zero, List.getElem?_cons_succ, Nat.zero_add, Nat.add_zero, Nat.zero_mul]
  refine br_split (fun h0 => ?_) (fun h0 => ?_)
  · repeat' (first | (with_reducible refine drawC ?_) | (with_reducible refine keepC (by first | exact Ext.refl _ | assumption) ?_) | (with_reducible refine gd_split (fun _ => ?_) (fun _ => ?_)) | (with_reducible refine br_split (fun _ => ?_) (fun _ => ?_)) | (with_reducible refine newI (fun _ => ?_)) | (refine rdC c1 (by first | exact Ext.refl _ | assumption) ?_) | (refine rdCS c1 (by first | exact Ext.refl _ | assumption) ?_) | first | refine rdb ?_ | refine st1 rfl ?_ | refine rdB rfl ?_ | refine rdbS ?_ | refine rdBS rfl ?_ | (simp only [SSe, List.getElem?_toArray, List.getElem?_cons_zero, List.getElem?_cons_succ, Nat.zero_add, Nat.add_zero, Nat.zero_mul]))
    have h0' : g.es = [] := by cases hg : g.es <;> simp_all; omega
    simp only [lastT, h0', ltm] at hk
    exact Gh.done hk
  · have h0' : g.es ≠ [] := fun e => by simp [e] at h0
    have hpos : 0 < g.es.length := List.length_pos_iff.2 h0'
    obtain ⟨b2, off, c, hix, hcl, ⟨dv, rfl, hB⟩, hc⟩ := RL.ix hl (i := (g.es.length : Int) - 1) (by omega) (by omega)
    have d1 := hc I L (Ext.refl I) (fun _ h => h) 1 _ rfl
    repeat' (first | (with_reducible refine drawC ?_) | (with_reducible refine keepC (by first | exact Ext.refl _ | assumption) ?_) | (with_reducible refine gd_split (fun _ => ?_) (fun _ => ?_)) | (with_reducible refine br_split (fun _ => ?_) (fun _ => ?_)) | (with_reducible refine newI (fun _ => ?_)) | (refine rdC c3 (by first | exact Ext.refl _ | assumption) ?_) | (refine rdCS c3 (by first | exact Ext.refl _ | assumption) ?_) | (refine rdC d1 (by first | exact Ext.refl _ | assumption) ?_) | (refine rdCS d1 (by first | exact Ext.refl _ | assumption) ?_) | first | refine rdb ?_ | refine st1 rfl ?_ | refine rdB rfl ?_ | refine rdbS ?_ | refine rdBS rfl ?_ | (simp only [SSe, List.getElem?_toArray, List.getElem?_cons_zero, List.getElem?_cons_succ, Nat.zero_add, Nat.add_zero, Nat.zero_mul, hln, wrap_i64 ((g.es.length : Int) - 1) (by omega), hix]))
    rw [lastT, ltm_last h0'] at hk
    exact Gh.done hk

theorem rentryAt_spec {b : Nat} {g : LG} {i : Int} (h : LogV I L b g) (hz : Sz g) (hi : inI64 i) (hk : ∀ c, LeV I ((entAt g i).getD ⟨0, 0, 0, []⟩) c → K (.tuple #[.agg c.toArray, .int .i64 (if (entAt g i).isSome then 0 else 100)]) I L) : Cal Try.prog ω 80 #[.pointer (some ⟨b, 0, none⟩), .int .i64 i] K I L := by
  obtain ⟨mv, lv, hm, hl, c0, c1, c2, c3, c4, c5⟩ := h.cells
  have hz' := hz
  obtain ⟨z1, z2, z3⟩ := hz'
  refine cal80 ?_
  unfold sh80
  refine newI (fun b1 => ?_)
  unfold inI64 at hi
  have bad : entAt g i = none → sh80_1 ω (.pointer (some ⟨b1, 0, none⟩)) (.int .i64 0) (fun v => Gh (K v)) I ((b1, Obj.cells #[.int .i64 0, .int .i64 0, .int .i64 0, .slice none 0 0] 59 (0, 0)) :: L) := fun hb => by
    unfold sh80_1
    simp only [bldE0, SSe, List.getElem?_toArray, List.getElem?_cons_zero, List.getElem?_cons_succ, Nat.zero_add, Nat.add_zero, Nat.zero_mul]
    refine stB rfl rfl (one_all rfl) ?_
    refine rdB rfl ?_
    rw [hb] at hk
    exact Gh.to L (Gh.done (hk _ (zeroLe I)))
  try simp only [SSe, List.getElem?_toArray, List.getElem?_cons_zero, List.getElem?_cons_succ, Nat.zero_add, Nat.add_zero, Nat.zero_mul]
  refine rdC c0 (Ext.refl _) ?_
  try simp only [SSe, List.getElem?_toArray, List.getElem?_cons_zero, List.getElem?_cons_succ, Nat.zero_add, Nat.add_zero, Nat.zero_mul]
  refine gd_split (fun h1 => ?_) (fun h1 => bad (by simp at h1; unfold entAt lastI; rw [if_neg (by omega)]))
  simp at h1
  refine call (rlast_spec (h.to (Ext.refl _)) hz ?_)
  try simp only [SSe, List.getElem?_toArray, List.getElem?_cons_zero, List.getElem?_cons_succ, Nat.zero_add, Nat.add_zero, Nat.zero_mul]
  refine br_split (fun h2 => bad (by simp at h2; unfold entAt; rw [if_neg (by omega)])) (fun h2 => ?_)
  simp at h2
  unfold lastI at h2
  obtain ⟨b2, off, c, hix, hcl, ⟨dv, rfl, hB⟩, hc⟩ := RL.ix hl (i := i - g.index - 1) (by omega) (by omega)
  have hc := hc I L (Ext.refl I) (fun _ h => h)
  obtain ⟨a, cap, rfl⟩ := hB.form
  repeat' (first | (with_reducible refine drawC ?_) | (with_reducible refine keepC (by first | exact Ext.refl _ | assumption) ?_) | (with_reducible refine gd_split (fun _ => ?_) (fun _ => ?_)) | (with_reducible refine br_split (fun _ => ?_) (fun _ => ?_)) | (with_reducible refine newI (fun _ => ?_)) | (refine rdC c0 (by first | exact Ext.refl _ | assumption) ?_) | (refine rdCS c0 (by first | exact Ext.refl _ | assumption) ?_) | (refine rdC c3 (by first | exact Ext.refl _ | assumption) ?_) | (refine rdCS c3 (by first | exact Ext.refl _ | assumption) ?_) | (refine rdNCS hc (Ext.refl _) rfl ?_) | (refine stB rfl rfl (one_all rfl) ?_) | first | refine rdb ?_ | refine st1 rfl ?_ | refine rdB rfl ?_ | refine rdbS ?_ | refine rdBS rfl ?_ | (simp only [SSe, List.getElem?_toArray, List.getElem?_cons_zero, List.getElem?_cons_succ, Nat.zero_add, Nat.add_zero, Nat.zero_mul, wrap_i64 (i - g.index) (by omega), wrap_i64 (i - g.index - 1) (by omega), hix]))
  have e : entAt g i = some (geti g.es (i - g.index - 1)) := by unfold entAt lastI; rw [if_pos (by omega)]
  rw [e] at hk
  exact Gh.to L (Gh.done (hk _ ⟨_, rfl, hB⟩))

theorem rterm_spec {b : Nat} {g : LG} {i : Int} (h : LogV I L b g) (hz : Sz g) (hi : inI64 i) (hk : K (.tuple #[.int .i64 (termAt g i).1, .int .i64 (termAt g i).2]) I L) : Cal Try.prog ω 73 #[.pointer (some ⟨b, 0, none⟩), .int .i64 i] K I L := by
  obtain ⟨mv, lv, hm, hl, c0, c1, c2, c3, c4, c5⟩ := h.cells
  refine cal73 ?_
  unfold sh73
  try simp only [SSe, List.getElem?_toArray, List.getElem?_cons_zero, List.getElem?_cons_succ, Nat.zero_add, Nat.add_zero, Nat.zero_mul]
  refine rd1 c0 ?_
  try simp only [SSe, List.getElem?_toArray, List.getElem?_cons_zero, List.getElem?_cons_succ, Nat.zero_add, Nat.add_zero, Nat.zero_mul]
  refine br_split (fun h1 => ?_) (fun h1 => ?_)
  · simp at h1
    repeat' (first | (with_reducible refine drawC ?_) | (with_reducible refine keepC (by first | exact Ext.refl _ | assumption) ?_) | (with_reducible refine gd_split (fun _ => ?_) (fun _ => ?_)) | (with_reducible refine br_split (fun _ => ?_) (fun _ => ?_)) | (with_reducible refine newI (fun _ => ?_)) | (refine rdC c1 (by first | exact Ext.refl _ | assumption) ?_) | (refine rdCS c1 (by first | exact Ext.refl _ | assumption) ?_) | first | refine rdb ?_ | refine st1 rfl ?_ | refine rdB rfl ?_ | refine rdbS ?_ | refine rdBS rfl ?_ | (simp only [SSe, List.getElem?_toArray, List.getElem?_cons_zero, List.getElem?_cons_succ, Nat.zero_add, Nat.add_zero, Nat.zero_mul]))
    simp only [termAt, h1, if_true] at hk
    exact Gh.done hk
  · simp at h1
    refine call (rentryAt_spec h hz hi (fun c hc => ?_))
    rw [termAt, if_neg h1] at hk
    obtain ⟨dv, rfl, hB⟩ := hc
    obtain ⟨a, cap, rfl⟩ := hB.form
    repeat' (first | (with_reducible refine drawC ?_) | (with_reducible refine keepC (by first | exact Ext.refl _ | assumption) ?_) | (with_reducible refine gd_split (fun _ => ?_) (fun _ => ?_)) | (with_reducible refine br_split (fun _ => ?_) (fun _ => ?_)) | (with_reducible refine newI (fun _ => ?_)) | (refine stB rfl rfl (one_all rfl) ?_) | first | refine rdb ?_ | refine st1 rfl ?_ | refine rdB rfl ?_ | refine rdbS ?_ | refine rdBS rfl ?_ | (simp only [SSe, List.getElem?_toArray, List.getElem?_cons_zero, List.getElem?_cons_succ, Nat.zero_add, Nat.add_zero, Nat.zero_mul]))
    all_goals (cases he : entAt g i <;> simp_all)
    all_goals exact Gh.to L (Gh.done hk)

theorem rslice_spec {b : Nat} {g : LG} {i most : Int} (h : LogV I L b g) (hz : Sz g) (hi : inI64 i) (hm : inI64 most) (hk : ∀ v I', Ext I I' → Ents I' v (sliceAt g i most) → K v I' L) : Cal Try.prog ω 81 #[.pointer (some ⟨b, 0, none⟩), .int .i64 i, .int .i64 most] K I L := by
  obtain ⟨mv, lv, hmm, hl, c0, c1, c2, c3, c4, c5⟩ := h.cells
  have hz' := hz
  obtain ⟨z1, z2, z3⟩ := hz'
  unfold inI64 at hi hm
  refine cal81 ?_
  unfold sh81
  try simp only [SSe, List.getElem?_toArray, List.getElem?_cons_zero, List.getElem?_cons_succ, Nat.zero_add, Nat.add_zero, Nat.zero_mul]
  refine rd1 c0 ?_
  try simp only [SSe, List.getElem?_toArray, List.getElem?_cons_zero, List.getElem?_cons_succ, Nat.zero_add, Nat.add_zero, Nat.zero_mul]
  refine br_split (fun h1 => ?_) (fun h1 => ?_)
  · simp at h1
    rw [sliceAt, if_neg (by omega)] at hk
    exact Gh.done (hk _ I (Ext.refl I) (RL.nil _ _))
  simp at h1
  refine call (rlast_spec h hz ?_)
  have hd : (g.es.drop (i - g.index - 1).toNat).length = g.es.length - (i - g.index - 1).toNat := List.length_drop ..
  refine loop (fun m s I' L' => I' = I ∧ ∃ (k : Nat) (w : Value) (X6 : LH) (cells : List Value), k + m = g.es.length ∧ s = (w, .int .i64 (i + k), ()) ∧ k ≤ (g.es.drop (i - g.index - 1).toNat).length ∧ (k : Int) ≤ max most 0 ∧ SlO 59 4 X6 w cells ((g.es.drop (i - g.index - 1).toNat).take k).length ∧ Recs (LeV I') 4 ((g.es.drop (i - g.index - 1).toNat).take k) cells ∧ L' = X6 ++ L) g.es.length
    ⟨rfl, 0, _, [], [], by omega, by simp, by omega, by omega, SlO.none _ _, rfl, rfl⟩ ?_
  rintro m s I' L' ⟨rfl, k, w, X6, cells, hkm, rfl, hkd, hkm', h6, hR, rfl⟩
  have hw6 : lenV w = some (.int .i64 k) := by
    obtain ⟨a, cap, rfl⟩ := h6.form
    rw [List.length_take, Nat.min_eq_left hkd]; rfl
  have done : (lastI g < i + k ∨ most ≤ k) → Gh (K w) I' (X6 ++ L) := fun hd' => by
    refine Ents.ofO h6 hR (fun I2 hI2 hE => Gh.done (hk w I2 hI2 ?_))
    have e : sliceAt g i most = (g.es.drop (i - g.index - 1).toNat).take k := by
      unfold sliceAt lastI at *
      split
      · rcases hd' with hd' | hd'
        · rw [List.take_of_length_le (i := k) (by omega), List.take_of_length_le (by omega)]
        · congr 1; omega
      · have : k = 0 := by omega
        subst this; simp
    rw [e]; exact hE
  unfold sh81_3
  simp only [hw6, SSe, List.getElem?_toArray, List.getElem?_cons_zero, List.getElem?_cons_succ, Nat.zero_add, Nat.add_zero, Nat.zero_mul]
  refine gd_split (fun h2 => ?_) (fun h2 => done (by simp at h2; omega))
  refine br_split (fun h3 => ?_) (fun h3 => done (by simp at h3; omega))
  simp at h2 h3
  unfold lastI at h2
  obtain ⟨b2, off, c, hix, hcl, ⟨dv, rfl, hB⟩, hc⟩ := RL.ix hl (i := i + k - g.index - 1) (by omega) (by omega)
  have hc := hc I' L (Ext.refl _) (fun _ h => h)
  refine drawC ?_
  refine rdCS c3 (Ext.refl _) ?_
  refine rdCS c0 (Ext.refl _) ?_
  simp only [SSe, List.getElem?_toArray, List.getElem?_cons_zero, List.getElem?_cons_succ, Nat.zero_add, Nat.add_zero, Nat.zero_mul, wrap_i64 (i + k - g.index) (by omega), wrap_i64 (i + k - g.index - 1) (by omega), hix]
  refine rdNCS hc (Ext.refl _) rfl ?_
  refine ent_app (X6 := X6) (e := geti g.es (i + k - g.index - 1)) h6 hR ⟨_, rfl, hB⟩ (by rw [List.length_take]; omega) (fun X1 X6' v' cells' h6' hR' => ?_)
  have e : geti g.es (i + k - g.index - 1) = geti (g.es.drop (i - g.index - 1).toNat) (k : Int) := by
    simp only [geti, List.getD, List.getElem?_drop]
    congr 2; omega
  rw [e, ← take_geti (by omega)] at h6' hR'
  simp only [SSe, List.getElem?_toArray, List.getElem?_cons_zero, List.getElem?_cons_succ, Nat.zero_add, Nat.add_zero, Nat.zero_mul, wrap_i64 (i + k + 1) (by omega)]
  refine Gh.to (X6' ++ L) (Gh.done ?_)
  exact ⟨m - 1, by omega, rfl, k + 1, v', X6', cells', by omega, by simp [Int.add_assoc], by omega, by omega, h6', hR', rfl⟩

theorem rmembersAt_spec {b : Nat} {g : LG} {i : Int} (h : LogV I L b g) (hw : WF g) (hi : inI64 i) (hk : ∀ v I', Ext I I' → Ints I' v (mAt g i).1 → K (.tuple #[v, .int .i64 (mAt g i).2]) I' L) : Cal Try.prog ω 74 #[.pointer (some ⟨b, 0, none⟩), .int .i64 i] K I L := by
  obtain ⟨mv, lv, hm, hl, c0, c1, c2, c3, c4, c5⟩ := h.cells
  have hln := RL.len hl
  have hlen := hw.len
  obtain ⟨hi0, hi1, hi2⟩ := hw.last
  unfold inI64 at hi
  refine cal74 ?_
  unfold sh74
  have bad : ¬ (g.index ≤ i ∧ i ≤ lastI g) → Gh (K (.tuple #[.slice none 0 0, .int .i64 100])) I L := fun hb => by
    rw [mAt, if_neg hb] at hk
    exact Gh.done (hk _ I (Ext.refl I) (SlI.nil I 1 none 0))
  refine call (rlast_spec h hw.sz ?_)
  try simp only [SSe, List.getElem?_toArray, List.getElem?_cons_zero, List.getElem?_cons_succ, Nat.zero_add, Nat.add_zero, Nat.zero_mul]
  refine rd1 c0 ?_
  try simp only [SSe, List.getElem?_toArray, List.getElem?_cons_zero, List.getElem?_cons_succ, Nat.zero_add, Nat.add_zero, Nat.zero_mul]
  refine gd_split (fun h1 => ?_) (fun h1 => bad (by simp at h1; omega))
  refine br_split (fun h2 => bad (by simp at h2; omega)) (fun h2 => ?_)
  simp at h1 h2
  rw [mAt, if_pos (by omega)] at hk
  refine rd1 c2 ?_
  have hil : (i - g.index).toNat ≤ g.es.length := by unfold lastI at h2; omega
  refine loop (fun m s I' L' => Ext I I' ∧ L' = L ∧ ∃ (k : Nat) (v : Value), k + m = (i - g.index).toNat ∧ s = (v, .int .i64 k, ()) ∧ Ints I' v (memOf g.mem (g.es.take k))) (i - g.index).toNat
    ⟨Ext.refl I, rfl, 0, mv, by omega, rfl, hm⟩ ?_
  rintro m s I' L' ⟨hI, rfl, k, v, hkm, rfl, hv⟩
  unfold sh74_4
  try simp only [SSe, List.getElem?_toArray, List.getElem?_cons_zero, List.getElem?_cons_succ, Nat.zero_add, Nat.add_zero, Nat.zero_mul]
  refine rdC c0 hI ?_
  simp only [SSe, List.getElem?_toArray, List.getElem?_cons_zero, List.getElem?_cons_succ, Nat.zero_add, Nat.add_zero, Nat.zero_mul, wrap_i64 (i - g.index) (by omega)]
  refine br_split (fun h3 => ?_) (fun h3 => ?_)
  · simp at h3
    have hk1 : k < g.es.length := by omega
    have hsn := memOf_snoc (m := g.mem) hk1
    obtain ⟨b2, off, c, hix, hcl, ⟨dv, rfl, hB⟩, hc⟩ := RL.ix hl (i := k) (by omega) (by omega)
    have hc := hc I L' (Ext.refl _) (fun _ h => h)
    have d2 := hc 2 _ rfl
    have d3 := hc 3 _ rfl
    have hdl := Bytes.len hB
    refine rdC c3 hI ?_
    simp only [hix, SSe, List.getElem?_toArray, List.getElem?_cons_zero, List.getElem?_cons_succ, Nat.zero_add, Nat.add_zero, Nat.zero_mul]
    refine rdC d2 hI ?_
    try simp only [SSe, List.getElem?_toArray, List.getElem?_cons_zero, List.getElem?_cons_succ, Nat.zero_add, Nat.add_zero, Nat.zero_mul]
    refine br_split (fun h4 => ?_) (fun h4 => ?_)
    · simp at h4
      rw [if_pos h4] at hsn
      have hsm := entB_small (hw.at hk1).2
      unfold sh74_7
      refine loop (fun m2 s I2 L2 => I2 = I' ∧ ∃ (j : Nat) (w : Value) (X6 : LH), j + m2 = (geti g.es (k : Int)).data.length ∧ s = (w, .int .i64 j, ()) ∧ SlO 3 1 X6 w (i64s (nums ((geti g.es (k : Int)).data.take j))) (nums ((geti g.es (k : Int)).data.take j)).length ∧ L2 = X6 ++ L') (geti g.es (k : Int)).data.length
        ⟨rfl, 0, _, [], by omega, rfl, SlO.none 3 1, rfl⟩ ?_
      rintro m2 s I2 L2 ⟨rfl, j, w, X6, hjm, rfl, h6, rfl⟩
      unfold sh74_9
      try simp only [SSe, List.getElem?_toArray, List.getElem?_cons_zero, List.getElem?_cons_succ, Nat.zero_add, Nat.add_zero, Nat.zero_mul]
      refine rdC c3 hI ?_
      simp only [hix, SSe, List.getElem?_toArray, List.getElem?_cons_zero, List.getElem?_cons_succ, Nat.zero_add, Nat.add_zero, Nat.zero_mul]
      refine rdC d3 hI ?_
      simp only [hdl, SSe, List.getElem?_toArray, List.getElem?_cons_zero, List.getElem?_cons_succ, Nat.zero_add, Nat.add_zero, Nat.zero_mul]
      refine br_split (fun h5 => ?_) (fun h5 => ?_)
      · simp at h5
        obtain ⟨b3, off3, hix3, hc3⟩ := bytes_at hB (i := j) (by omega) (by omega)
        refine rdC c3 hI ?_
        simp only [hix, SSe, List.getElem?_toArray, List.getElem?_cons_zero, List.getElem?_cons_succ, Nat.zero_add, Nat.add_zero, Nat.zero_mul]
        refine rdC d3 hI ?_
        simp only [hix3, SSe, List.getElem?_toArray, List.getElem?_cons_zero, List.getElem?_cons_succ, Nat.zero_add, Nat.add_zero, Nat.zero_mul]
        refine rd1 (hc3 I2 _ hI) ?_
        have hu := (geti (geti g.es (k : Int)).data (j : Int)).toNat_lt
        simp only [SSe, List.getElem?_toArray, List.getElem?_cons_zero, List.getElem?_cons_succ, Nat.zero_add, Nat.add_zero, Nat.zero_mul, wrap_i64 (((geti (geti g.es (k : Int)).data (j : Int)).toNat : Nat) : Int) (by omega)]
        have hln2 := nums_len ((geti g.es (k : Int)).data.take j)
        rw [List.length_take] at hln2
        refine ints_app (X6 := X6) h6 (by omega) (fun X1 X6' v' h6' => ?_)
        rw [← nums_snoc h5] at h6'
        simp only [SSe, List.getElem?_toArray, List.getElem?_cons_zero, List.getElem?_cons_succ, Nat.zero_add, Nat.add_zero, Nat.zero_mul, wrap_i64 ((j : Int) + 1) (by omega)]
        refine Gh.to (X6' ++ L') (Gh.done ?_)
        exact ⟨m2 - 1, by omega, rfl, j + 1, v', X6', by omega, by simp, h6', rfl⟩
      · simp at h5
        rw [List.take_of_length_le (by omega)] at h6
        unfold sh74_5
        simp only [SSe, List.getElem?_toArray, List.getElem?_cons_zero, List.getElem?_cons_succ, Nat.zero_add, Nat.add_zero, Nat.zero_mul, wrap_i64 ((k : Int) + 1) (by omega)]
        refine SlO.freeze h6 (fun I3 hI3 hS3 => Gh.done ?_)
        exact ⟨m - 1, by omega, hI.trans hI3, rfl, k + 1, w, by omega, by simp, by rw [hsn]; exact hS3⟩
    · simp at h4
      rw [if_neg h4] at hsn
      unfold sh74_5
      simp only [SSe, List.getElem?_toArray, List.getElem?_cons_zero, List.getElem?_cons_succ, Nat.zero_add, Nat.add_zero, Nat.zero_mul, wrap_i64 ((k : Int) + 1) (by omega)]
      refine Gh.done ?_
      exact ⟨m - 1, by omega, hI, rfl, k + 1, v, by omega, by simp, by rw [hsn]; exact hv⟩
  · simp at h3
    have : k = (i - g.index).toNat := by omega
    subst this
    exact Gh.done (hk _ I' hI hv)

theorem rlmembers_spec {b : Nat} {g : LG} (h : LogV I L b g) (hw : WF g) (hk : ∀ v I', Ext I I' → Ints I' v (memOf g.mem g.es) → K v I' L) : Cal Try.prog ω 68 #[.pointer (some ⟨b, 0, none⟩)] K I L := by
  refine cal68 ?_
  unfold sh68
  refine call (rlast_spec h hw.sz ?_)
  have := hw.last
  refine call (rmembersAt_spec h hw (by unfold inI64; omega) (fun v I' hI' hv => ?_))
  try simp only [SSe, List.getElem?_toArray, List.getElem?_cons_zero, List.getElem?_cons_succ, Nat.zero_add, Nat.add_zero, Nat.zero_mul]
  rw [members_at_last g hw] at hv
  exact Gh.done (hk v I' hI' hv)

theorem rchanging_spec {b : Nat} {g : LG} (h : LogV I L b g) (hw : WF g) (hk : K (.bool (chg g)) I L) : Cal Try.prog ω 70 #[.pointer (some ⟨b, 0, none⟩)] K I L := by
  obtain ⟨mv, lv, hm, hl, c0, c1, c2, c3, c4, c5⟩ := h.cells
  have hln := RL.len hl
  have hlen := hw.len
  refine cal70 ?_
  unfold sh70
  refine loop (fun m s I' L' => I' = I ∧ L' = L ∧ ∃ k : Nat, k + m = g.es.length ∧ s = (.bool false, .int .i64 k, ()) ∧ (g.es.take k).any (fun e => e.kind == 3 && decide (g.commit < e.index)) = false) g.es.length ⟨rfl, rfl, 0, by omega, rfl, by simp⟩ ?_
  rintro m s I' L' ⟨rfl, rfl, k, hkm, rfl, hno⟩
  unfold sh70_3
  try simp only [SSe, List.getElem?_toArray, List.getElem?_cons_zero, List.getElem?_cons_succ, Nat.zero_add, Nat.add_zero, Nat.zero_mul]
  refine rd1 c3 ?_
  simp only [hln, SSe, List.getElem?_toArray, List.getElem?_cons_zero, List.getElem?_cons_succ, Nat.zero_add, Nat.add_zero, Nat.zero_mul]
  refine br_split (fun hlt => ?_) (fun hlt => ?_)
  · simp at hlt
    have hat := any_take (p := fun e => e.kind == 3 && decide (g.commit < e.index)) hlt
    obtain ⟨b2, off, c, hix, hcl, ⟨dv, rfl, hB⟩, hc⟩ := RL.ix hl (i := k) (by omega) (by omega)
    have hc := hc I' L' (Ext.refl _) (fun _ h => h)
    have d0 := hc 0 _ rfl
    have d2 := hc 2 _ rfl
    simp only [Nat.add_zero] at d0
    have yes : (geti g.es (k : Int)).kind = 3 → g.commit < (geti g.es (k : Int)).index → chg g = true := fun h1 h2 => by
      unfold chg
      rw [List.any_eq_true]
      exact ⟨geti g.es (k : Int), by rw [geti_nat hlt]; exact List.getElem_mem hlt, by simp [h1, h2]⟩
    repeat' (first | (with_reducible refine drawC ?_) | (with_reducible refine keepC (by first | exact Ext.refl _ | assumption) ?_) | (with_reducible refine gd_split (fun _ => ?_) (fun _ => ?_)) | (with_reducible refine br_split (fun _ => ?_) (fun _ => ?_)) | (with_reducible refine newI (fun _ => ?_)) | (refine rdC c3 (by first | exact Ext.refl _ | assumption) ?_) | (refine rdCS c3 (by first | exact Ext.refl _ | assumption) ?_) | (refine rdC d2 (by first | exact Ext.refl _ | assumption) ?_) | (refine rdCS d2 (by first | exact Ext.refl _ | assumption) ?_) | (refine rdC c4 (by first | exact Ext.refl _ | assumption) ?_) | (refine rdCS c4 (by first | exact Ext.refl _ | assumption) ?_) | (refine rdC d0 (by first | exact Ext.refl _ | assumption) ?_) | (refine rdCS d0 (by first | exact Ext.refl _ | assumption) ?_) | first | refine rdb ?_ | refine st1 rfl ?_ | refine rdB rfl ?_ | refine rdbS ?_ | refine rdBS rfl ?_ | (simp only [SSe, List.getElem?_toArray, List.getElem?_cons_zero, List.getElem?_cons_succ, Nat.zero_add, Nat.add_zero, Nat.zero_mul, hix, wrap_i64 ((k : Int) + 1) (by omega)]))
    all_goals first
      | (refine Gh.done (leafB hk ?_); simp_all; done)
      | (refine Gh.done ?_; exact ⟨m - 1, by omega, rfl, rfl, k + 1, by omega, by simp, by rw [hat, hno]; simp_all⟩)
  · simp at hlt
    rw [List.take_of_length_le (by omega)] at hno
    exact Gh.done (leafB hk hno)

theorem rnewer_spec {b : Nat} {g : LG} {i t : Int} (h : LogV I L b g) (hw : WF g) (hk : K (.bool (newB g i t)) I L) : Cal Try.prog ω 83 #[.pointer (some ⟨b, 0, none⟩), .int .i64 i, .int .i64 t] K I L := by
  refine cal83 ?_
  unfold sh83
  refine call (rlastTerm_spec h hw.sz ?_)
  refine call (rlast_spec h hw.sz ?_)
  repeat' (first | (with_reducible refine drawC ?_) | (with_reducible refine keepC (by first | exact Ext.refl _ | assumption) ?_) | (with_reducible refine gd_split (fun _ => ?_) (fun _ => ?_)) | (with_reducible refine br_split (fun _ => ?_) (fun _ => ?_)) | (with_reducible refine newI (fun _ => ?_)) | first | refine rdb ?_ | refine st1 rfl ?_ | refine rdB rfl ?_ | refine rdbS ?_ | refine rdBS rfl ?_ | (simp only [SSe, List.getElem?_toArray, List.getElem?_cons_zero, List.getElem?_cons_succ, Nat.zero_add, Nat.add_zero, Nat.zero_mul]))
  all_goals (refine Gh.done (leafB hk ?_); simp_all [newB])

end
end Go.Proofs.Ytdcpeboecmkmlaa
