/-
  A log: its start, its members, whether they change, copies.
-/
-- S4
import Derived.Test.YtdcpeboecmkmlaaD
set_option linter.unusedSimpArgs false
set_option linter.unusedVariables false
namespace Go.Proofs.Ytdcpeboecmkmlaa
open Go.SL
set_option maxRecDepth 10000

/-- members behind some entries -/
def memOf (m : List Int) : List LE → List Int
  | [] => m
  | e :: r => memOf (if e.kind = 3 then nums e.data else m) r
def mAt (g : LG) (i : Int) : List Int × Int := if g.index ≤ i ∧ i ≤ lastI g then (memOf g.mem (g.es.take (i - g.index).toNat), 0) else ([], 100)
def chg (g : LG) : Bool := g.es.any fun e => e.kind == 3 && decide (g.commit < e.index)
def newB (g : LG) (i t : Int) : Bool := decide (lastT g < t) || (decide (t = lastT g) && decide (lastI g ≤ i))

theorem memOf_append : ∀ (m : List Int) (xs ys : List LE), memOf m (xs ++ ys) = memOf (memOf m xs) ys
  | m, [], ys => rfl
  | m, e :: xs, ys => memOf_append _ xs ys
theorem memOf_snoc {m : List Int} {es : List LE} {k : Nat} (h : k < es.length) : memOf m (es.take (k + 1)) = if (geti es (k : Int)).kind = 3 then nums (geti es (k : Int)).data else memOf m (es.take k) := by
  rw [take_geti h, memOf_append]; rfl

section
variable {ω : Om} {I : Imm} {L : LH} {K : Value → M}

theorem cloneI_spec {v : Value} {l : List Int} (h : Ints I v l) (hl : l.length * 8 ≤ 150000000000000) (hk : ∀ v' I', Ext I I' → Ints I' v' l → K v' I' L) : Cal Try.prog ω 56 #[v] K I L := by
  refine cal56 ?_
  unfold sh56
  obtain ⟨a, cap, rfl⟩ := Ints.form h
  cases a with
  | none =>
    try simp only [SSe, List.getElem?_toArray, List.getElem?_cons_zero, List.getElem?_cons_succ, Nat.zero_add, Nat.add_zero, Nat.zero_mul]
    have hl0 : l.length = 0 := by
      obtain ⟨_, a, c, e, _, h⟩ := h
      cases e
      by_cases h0 : l.length = 0
      · exact h0
      · obtain ⟨b, off, cs, T, fr, e, _⟩ := h h0; cases e
    have : l = [] := List.eq_nil_of_length_eq_zero hl0
    subst this
    exact Gh.done (hk _ I (Ext.refl I) (SlI.nil I 1 none 0))
  | some a =>
    try simp only [SSe, List.getElem?_toArray, List.getElem?_cons_zero, List.getElem?_cons_succ, Nat.zero_add, Nat.add_zero, Nat.zero_mul]
    refine bld_zero (fun X u hX => ?_)
    refine app_own rfl hX (SlI.news h) (i64s_one _) (by omega) (by omega) (fun X' v' hX' => ?_)
    refine SlO.freeze hX' (fun I' hI hS => Gh.done (hk _ I' hI ?_))
    simpa [Ints] using hS

theorem cloneE_spec {v : Value} {es : List LE} (h : LsV I L v es) (hl : es.length * 48 ≤ 150000000000000) (hk : ∀ X v' cells, SlO 59 4 X v' cells es.length → Recs (LeV I) 4 es cells → K v' I (X ++ L)) : Cal Try.prog ω 72 #[v] K I L := by
  refine cal72 ?_
  unfold sh72
  obtain ⟨a, cap, cells, rfl, hcap, hn, hR⟩ := h
  cases a with
  | none =>
    try simp only [SSe, List.getElem?_toArray, List.getElem?_cons_zero, List.getElem?_cons_succ, Nat.zero_add, Nat.add_zero, Nat.zero_mul]
    have hl0 : es.length = 0 := by
      rcases hn with ⟨a, c, e, h0, _⟩ | ⟨b, off, c, e, _⟩ | ⟨s, e, _⟩
      · exact h0
      · cases e
      · cases e
    have : es = [] := List.eq_nil_of_length_eq_zero hl0
    subst this
    exact Gh.done (hk [] _ [] (SlO.none _ _) rfl)
  | some a =>
    try simp only [SSe, List.getElem?_toArray, List.getElem?_cons_zero, List.getElem?_cons_succ, Nat.zero_add, Nat.add_zero, Nat.zero_mul]
    refine bld_zero (fun X u hX => ?_)
    refine app_own (X := X) rfl hX (hn.mono (Ext.refl I) (fun x hx => List.mem_append_right _ hx)) (hR.one_cells (fun _ _ h => h.one)) (by omega) (by omega) (fun X' v' hX' => ?_)
    exact Gh.done (hk X' v' cells (by simpa using hX') hR)

theorem copied_spec {i t : Int} {mv : Value} {m : List Int} (h : Ints I mv m) (hl : m.length * 8 ≤ 150000000000000) (hk : ∀ mv' I', Ext I I' → Ints I' mv' m → K (.agg #[.int .i64 i, .int .i64 t, mv']) I' L) : Cal Try.prog ω 63 #[.agg #[.int .i64 i, .int .i64 t, mv]] K I L := by
  refine cal63 ?_
  unfold sh63
  refine newI (fun b1 => newI (fun b2 => ?_))
  try simp only [SSe, List.getElem?_toArray, List.getElem?_cons_zero, List.getElem?_cons_succ, Nat.zero_add, Nat.add_zero, Nat.zero_mul]
  refine rdb ?_
  refine call (cloneI_spec h hl (fun v' I' hI' hv' => ?_))
  obtain ⟨a, cap, rfl⟩ := Ints.form hv'
  refine st1 rfl ?_
  refine rdB rfl ?_
  refine stB rfl rfl (one_all rfl) ?_
  refine rdB rfl ?_
  exact Gh.to L (Gh.done (hk _ I' hI' hv'))

theorem start_spec {b : Nat} {g : LG} (h : LogV I L b g) (hw : WF g) (hk : ∀ mv' I', Ext I I' → Ints I' mv' g.mem → K (.agg #[.int .i64 g.index, .int .i64 g.term, mv']) I' L) : Cal Try.prog ω 24 #[.pointer (some ⟨b, 0, none⟩)] K I L := by
  obtain ⟨mv, lv, hm, hl, c0, c1, c2, c3, c4, c5⟩ := h.cells
  have hml := memB_len hw.mem
  refine cal24 ?_
  unfold sh24
  refine newI (fun b1 => ?_)
  try simp only [SSe, List.getElem?_toArray, List.getElem?_cons_zero, List.getElem?_cons_succ, Nat.zero_add, Nat.add_zero, Nat.zero_mul]
  refine rdNC c5 (Ext.refl I) rfl ?_
  refine call (copied_spec hm (by omega) (fun mv' I' hI' hm' => ?_))
  obtain ⟨a, cap, rfl⟩ := Ints.form hm'
  refine stB rfl rfl (one_all rfl) ?_
  refine rdB rfl ?_
  exact Gh.to L (Gh.done (hk _ I' hI' hm'))

theorem membersAt_spec {b : Nat} {g : LG} {i : Int} (h : LogV I L b g) (hw : WF g) (hi : inI64 i) (hk : ∀ v I', Ext I I' → Ints I' v (mAt g i).1 → K (.tuple #[v, .int .i64 (mAt g i).2]) I' L) : Cal Try.prog ω 71 #[.pointer (some ⟨b, 0, none⟩), .int .i64 i] K I L := by
  obtain ⟨mv, lv, hm, hl, c0, c1, c2, c3, c4, c5⟩ := h.cells
  have hln := RL.len hl
  have hlen := hw.len
  have hml := memB_len hw.mem
  obtain ⟨hi0, hi1, hi2⟩ := hw.last
  unfold inI64 at hi
  refine cal71 ?_
  unfold sh71
  have bad : ¬ (g.index ≤ i ∧ i ≤ lastI g) → Gh (K (.tuple #[.slice none 0 0, .int .i64 100])) I L := fun hb => by
    rw [mAt, if_neg hb] at hk
    exact Gh.done (hk _ I (Ext.refl I) (SlI.nil I 1 none 0))
  refine drawC ?_
  try simp only [SSe, List.getElem?_toArray, List.getElem?_cons_zero, List.getElem?_cons_succ, Nat.zero_add, Nat.add_zero, Nat.zero_mul]
  refine rdCS c0 (Ext.refl _) ?_
  try simp only [SSe, List.getElem?_toArray, List.getElem?_cons_zero, List.getElem?_cons_succ, Nat.zero_add, Nat.add_zero, Nat.zero_mul]
  refine gd_split (fun h1 => ?_) (fun h1 => bad (by simp at h1; omega))
  simp at h1
  refine rdCS c0 (Ext.refl _) ?_
  simp only [SSe, List.getElem?_toArray, List.getElem?_cons_zero, List.getElem?_cons_succ, Nat.zero_add, Nat.add_zero, Nat.zero_mul, wrap_i64 (i - g.index) (by omega)]
  refine rdCS c3 (Ext.refl _) ?_
  simp only [hln, SSe, List.getElem?_toArray, List.getElem?_cons_zero, List.getElem?_cons_succ, Nat.zero_add, Nat.add_zero, Nat.zero_mul]
  refine br_split (fun h2 => bad (by simp at h2; unfold lastI; omega)) (fun h2 => ?_)
  simp at h2
  refine rd1 c0 ?_
  simp only [SSe, List.getElem?_toArray, List.getElem?_cons_zero, List.getElem?_cons_succ, Nat.zero_add, Nat.add_zero, Nat.zero_mul, wrap_i64 (i - g.index) (by omega), wrap_i64 (i - g.index - 1) (by omega)]
  rw [mAt, if_pos (by unfold lastI; omega)] at hk
  refine loop (fun m s I' L' => I' = I ∧ L' = L ∧ m ≤ (i - g.index).toNat ∧ s = (.slice none 0 0, .int .i64 0, .int .i64 ((m : Int) - 1), ()) ∧ memOf g.mem (g.es.take (i - g.index).toNat) = memOf g.mem (g.es.take m)) (i - g.index).toNat
    ⟨rfl, rfl, Nat.le_refl _, by rw [show (((i - g.index).toNat : Nat) : Int) = i - g.index from by omega], rfl⟩ ?_
  rintro k s I' L' ⟨rfl, rfl, hkl, rfl, hmo⟩
  rw [hmo] at hk
  unfold sh71_4
  try simp only [SSe, List.getElem?_toArray, List.getElem?_cons_zero, List.getElem?_cons_succ, Nat.zero_add, Nat.add_zero, Nat.zero_mul]
  refine br_split (fun h3 => ?_) (fun h3 => ?_)
  · simp at h3
    have hk1 : k - 1 < g.es.length := by omega
    have hsn := memOf_snoc (m := g.mem) hk1
    rw [show k - 1 + 1 = k from by omega, show ((k - 1 : Nat) : Int) = (k : Int) - 1 from by omega] at hsn
    obtain ⟨b2, off, c, hix, hcl, ⟨dv, rfl, hB⟩, hc⟩ := RL.ix hl (i := (k : Int) - 1) (by omega) (by omega)
    have hc := hc I' L' (Ext.refl _) (fun _ h => h)
    refine rd1 c3 ?_
    simp only [hix, SSe, List.getElem?_toArray, List.getElem?_cons_zero, List.getElem?_cons_succ, Nat.zero_add, Nat.add_zero, Nat.zero_mul]
    refine rd1 (hc 2 _ rfl) ?_
    try simp only [SSe, List.getElem?_toArray, List.getElem?_cons_zero, List.getElem?_cons_succ, Nat.zero_add, Nat.add_zero, Nat.zero_mul]
    refine br_split (fun h4 => ?_) (fun h4 => ?_)
    · simp at h4
      rw [hsn, if_pos h4] at hk
      unfold sh71_5
      try simp only [SSe, List.getElem?_toArray, List.getElem?_cons_zero, List.getElem?_cons_succ, Nat.zero_add, Nat.add_zero, Nat.zero_mul]
      refine rd1 c3 ?_
      simp only [hix, SSe, List.getElem?_toArray, List.getElem?_cons_zero, List.getElem?_cons_succ, Nat.zero_add, Nat.add_zero, Nat.zero_mul]
      refine rd1 (hc 3 _ rfl) ?_
      have := (hw.at hk1).2
      rw [show ((k - 1 : Nat) : Int) = (k : Int) - 1 from by omega] at this
      have := entB_small this
      refine call (named_spec hB (by omega) (fun v' I2 hI2 hv' => ?_))
      exact Gh.done (hk _ I2 hI2 hv')
    · simp at h4
      simp only [wrap_i64 ((k : Int) - 1 - 1) (by omega)]
      refine Gh.done ?_
      rw [hsn, if_neg h4] at hmo
      exact ⟨k - 1, by omega, rfl, rfl, by omega, by rw [show ((k - 1 : Nat) : Int) = (k : Int) - 1 from by omega], hmo⟩
  · simp at h3
    have : k = 0 := by omega
    subst this
    unfold sh71_2
    try simp only [SSe, List.getElem?_toArray, List.getElem?_cons_zero, List.getElem?_cons_succ, Nat.zero_add, Nat.add_zero, Nat.zero_mul]
    refine rd1 c2 ?_
    refine call (cloneI_spec hm (by omega) (fun v' I2 hI2 hv' => ?_))
    exact Gh.done (hk _ I2 hI2 hv')

theorem members_at_last (g : LG) (hw : WF g) : mAt g (lastI g) = (memOf g.mem g.es, 0) := by
  have := hw.last
  rw [mAt, if_pos (by omega), List.take_of_length_le (by unfold lastI; omega)]
theorem lmembers_spec {b : Nat} {g : LG} (h : LogV I L b g) (hw : WF g) (hk : ∀ v I', Ext I I' → Ints I' v (memOf g.mem g.es) → K v I' L) : Cal Try.prog ω 52 #[.pointer (some ⟨b, 0, none⟩)] K I L := by
  refine cal52 ?_
  unfold sh52
  refine call (last_spec h hw ?_)
  try simp only [SSe, List.getElem?_toArray, List.getElem?_cons_zero, List.getElem?_cons_succ, Nat.zero_add, Nat.add_zero, Nat.zero_mul]
  have := hw.last
  refine call (membersAt_spec h hw (by unfold inI64; omega) (fun v I' hI' hv => ?_))
  try simp only [SSe, List.getElem?_toArray, List.getElem?_cons_zero, List.getElem?_cons_succ, Nat.zero_add, Nat.add_zero, Nat.zero_mul]
  rw [members_at_last g hw] at hv
  exact Gh.done (hk v I' hI' hv)

/-- a test of entries, as a value -/
def TestV (ω : Om) (fv : Value) (I : Imm) (L : LH) (p : LE → Bool) : Prop := ∀ (e : LE) (c : List Value) (K : Value → M), LeV I e c → K (.bool (p e)) I L → CalV Try.prog ω fv #[.agg c.toArray] K I L
theorem any_take {α : Type} [Inhabited α] {l : List α} {p : α → Bool} {k : Nat} (h : k < l.length) : (l.take (k + 1)).any p = ((l.take k).any p || p (geti l (k : Int))) := by
  rw [take_geti h, List.any_append]; simp
theorem indexFunc_spec {v fv : Value} {es : List LE} {p : LE → Bool} (h : LsV I L v es) (hlen : es.length < 4611686018427387904) (hf : TestV ω fv I L p) (hk : ∀ z : Int, (0 ≤ z ↔ es.any p = true) → K (.int .i64 z) I L) : Cal Try.prog ω 126 #[v, fv] K I L := by
  refine cal126 ?_
  have hln := RL.len h
  unfold sh126
  simp only [hln, SSe, List.getElem?_toArray, List.getElem?_cons_zero, List.getElem?_cons_succ, Nat.zero_add, Nat.add_zero, Nat.zero_mul]
  refine loop (fun m s I' L' => I' = I ∧ L' = L ∧ ∃ k : Nat, k + m = es.length ∧ s = (.int .i64 0, .int .i64 k, ()) ∧ (es.take k).any p = false) es.length ⟨rfl, rfl, 0, by omega, rfl, by simp⟩ ?_
  rintro m s I' L' ⟨rfl, rfl, k, hkm, rfl, hno⟩
  unfold sh126_3
  try simp only [SSe, List.getElem?_toArray, List.getElem?_cons_zero, List.getElem?_cons_succ, Nat.zero_add, Nat.add_zero, Nat.zero_mul]
  refine br_split (fun hlt => ?_) (fun hlt => ?_)
  · simp at hlt
    obtain ⟨b, off, c, hix, hcl, hc', hc⟩ := RL.ix h (i := k) (by omega) (by omega)
    simp only [hix, SSe, List.getElem?_toArray, List.getElem?_cons_zero, List.getElem?_cons_succ, Nat.zero_add, Nat.add_zero, Nat.zero_mul]
    refine rdN hcl (hc I' _ (Ext.refl _) (fun _ h => h)) ?_
    refine hf (geti es (k : Int)) c _ hc' (Gh.done ?_)
    refine br_split (fun hp => ?_) (fun hp => ?_)
    · refine Gh.done (hk k ⟨fun _ => ?_, fun _ => by omega⟩)
      rw [List.any_eq_true]
      exact ⟨_, by rw [geti_nat hlt]; exact List.getElem_mem hlt, hp⟩
    · simp only [SSe, List.getElem?_toArray, List.getElem?_cons_zero, List.getElem?_cons_succ, Nat.zero_add, Nat.add_zero, Nat.zero_mul, wrap_i64 ((k : Int) + 1) (by omega)]
      refine Gh.done ?_
      exact ⟨m - 1, by omega, rfl, rfl, k + 1, by omega, by simp, by rw [any_take hlt, hno, hp]; rfl⟩
  · simp at hlt
    rw [List.take_of_length_le (by omega)] at hno
    exact Gh.done (hk (-1) ⟨fun h => by omega, fun h => by rw [hno] at h; cases h⟩)
theorem containsFunc_spec {v fv : Value} {es : List LE} {p : LE → Bool} (h : LsV I L v es) (hlen : es.length < 4611686018427387904) (hf : TestV ω fv I L p) (hk : K (.bool (es.any p)) I L) : Cal Try.prog ω 108 #[v, fv] K I L := by
  refine cal108 ?_
  unfold sh108
  refine call (indexFunc_spec h hlen hf (fun z hz => ?_))
  try simp only [SSe, List.getElem?_toArray, List.getElem?_cons_zero, List.getElem?_cons_succ, Nat.zero_add, Nat.add_zero, Nat.zero_mul]
  refine Gh.done (leafB hk ?_)
  rw [Bool.eq_iff_iff, ← hz]; simp

theorem calV_f (x y : Value) : CalV Try.prog ω (.func (Fn.func 109) #[] #[x]) #[y] K = Cal Try.prog ω 109 #[y, x] K := by
  show (if entersB Try.prog 109 = true then Cal Try.prog ω 109 (#[] ++ #[y] ++ #[x]) K else F) = _
  rw [if_pos (show entersB Try.prog 109 = true by kernel_rfl)]
  rfl

theorem changing_spec {b : Nat} {g : LG} (h : LogV I L b g) (hw : WF g) (hk : K (.bool (chg g)) I L) : Cal Try.prog ω 69 #[.pointer (some ⟨b, 0, none⟩)] K I L := by
  obtain ⟨mv, lv, hm, hl, c0, c1, c2, c3, c4, c5⟩ := h.cells
  have hlen := hw.len
  refine cal69 ?_
  unfold sh69
  refine newI (fun b1 => ?_)
  refine rdb ?_
  try simp only [SSe, List.getElem?_toArray, List.getElem?_cons_zero, List.getElem?_cons_succ, Nat.zero_add, Nat.add_zero, Nat.zero_mul]
  refine rdC c3 (Ext.refl I) ?_
  refine call (containsFunc_spec (p := fun e => e.kind == 3 && decide (g.commit < e.index)) (LsV.to hl (Ext.refl I)) (by omega) (fun e c K he hK => ?_) ?_)
  · rw [calV_f]
    obtain ⟨dv, rfl, hB⟩ := he
    refine cal109 ?_
    unfold sh109
    repeat' (first | (with_reducible refine drawC ?_) | (with_reducible refine keepC (by first | exact Ext.refl _ | assumption) ?_) | (with_reducible refine gd_split (fun _ => ?_) (fun _ => ?_)) | (with_reducible refine br_split (fun _ => ?_) (fun _ => ?_)) | (with_reducible refine newI (fun _ => ?_)) | (refine rdC c4 (by first | exact Ext.refl _ | assumption) ?_) | (refine rdCS c4 (by first | exact Ext.refl _ | assumption) ?_) | first | refine rdb ?_ | refine st1 rfl ?_ | refine rdB rfl ?_ | refine rdbS ?_ | refine rdBS rfl ?_ | (simp only [SSe, List.getElem?_toArray, List.getElem?_cons_zero, List.getElem?_cons_succ, Nat.zero_add, Nat.add_zero, Nat.zero_mul]))
    all_goals (refine Gh.to _ (Gh.done (leafB hK ?_)); simp_all)
  · exact Gh.to L (Gh.done hk)

theorem newer_spec {b : Nat} {g : LG} {i t : Int} (h : LogV I L b g) (hw : WF g) (hk : K (.bool (newB g i t)) I L) : Cal Try.prog ω 82 #[.pointer (some ⟨b, 0, none⟩), .int .i64 i, .int .i64 t] K I L := by
  refine cal82 ?_
  unfold sh82
  refine call (last_spec h hw ?_)
  repeat' (first | (with_reducible refine drawC ?_) | (with_reducible refine keepC (by first | exact Ext.refl _ | assumption) ?_) | (with_reducible refine gd_split (fun _ => ?_) (fun _ => ?_)) | (with_reducible refine br_split (fun _ => ?_) (fun _ => ?_)) | (with_reducible refine newI (fun _ => ?_)) | first | refine rdb ?_ | refine st1 rfl ?_ | refine rdB rfl ?_ | refine rdbS ?_ | refine rdBS rfl ?_ | (simp only [SSe, List.getElem?_toArray, List.getElem?_cons_zero, List.getElem?_cons_succ, Nat.zero_add, Nat.add_zero, Nat.zero_mul]))
  all_goals (refine Gh.done (leafB hk ?_); simp_all [newB])

end
end Go.Proofs.Ytdcpeboecmkmlaa
