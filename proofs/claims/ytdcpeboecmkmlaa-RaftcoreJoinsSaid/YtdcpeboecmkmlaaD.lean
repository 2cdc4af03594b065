/-
  A log: what it is, and what its reading functions tell.
-/
-- S4
import Derived.Test.YtdcpeboecmkmlaaC
set_option linter.unusedSimpArgs false
set_option linter.unusedVariables false
namespace Go.Proofs.Ytdcpeboecmkmlaa
open Go.SL
set_option maxRecDepth 10000

structure LG where
  index : Int
  term : Int
  mem : List Int
  es : List LE
  commit : Int

/-- the term of the last of some entries -/
def ltm (t : Int) : List LE → Int
  | [] => t
  | e :: r => ltm e.term r
def lastI (g : LG) : Int := g.index + g.es.length
def lastT (g : LG) : Int := ltm g.term g.es
def entAt (g : LG) (i : Int) : Option LE := if g.index < i ∧ i ≤ lastI g then some (geti g.es (i - g.index - 1)) else none
def termAt (g : LG) (i : Int) : Int × Int := if i = g.index then (g.term, 0) else match entAt g i with
  | some e => (e.term, 0)
  | none => (0, 100)

structure WF (g : LG) : Prop where
  idx : countB g.index = true
  trm : countB g.term = true
  mem : memB g.mem = true
  zer : (g.index = 0) ↔ (g.term = 0)
  fol : followB g.index g.term g.es = true
  com : g.index ≤ g.commit ∧ g.commit ≤ lastI g
  len : g.es.length * 48 ≤ 150000000000000

theorem followB_append : ∀ (i t : Int) (xs ys : List LE), followB i t (xs ++ ys) = (followB i t xs && followB (i + xs.length) (ltm t xs) ys)
  | i, t, [], ys => by simp [followB, ltm]
  | i, t, e :: xs, ys => by
    simp only [List.cons_append, followB, followB_append (i + 1) e.term xs ys, ltm, List.length_cons, Bool.and_assoc]
    rw [show i + 1 + (xs.length : Int) = i + ((xs.length + 1 : Nat) : Int) from by omega]
theorem ltm_append : ∀ (t : Int) (xs ys : List LE), ltm t (xs ++ ys) = ltm (ltm t xs) ys
  | t, [], ys => rfl
  | t, e :: xs, ys => ltm_append e.term xs ys
theorem fol_at {i t : Int} {es : List LE} {k : Nat} (h : followB i t es = true) (hk : k < es.length) : (geti es (k : Int)).index = i + 1 + k ∧ entB (geti es (k : Int)) = true ∧ ltm t (es.take k) ≤ (geti es (k : Int)).term ∧ followB (i + k) (ltm t (es.take k)) (es.drop k) = true ∧ followB i t (es.take k) = true := by
  have h1 := h
  rw [← List.take_append_drop k es, followB_append, Bool.and_eq_true] at h1
  have hl : (es.take k).length = k := by rw [List.length_take]; omega
  rw [hl] at h1
  have h2 := h1.2
  rw [drop_geti hk] at h2
  simp only [followB, Bool.and_eq_true, decide_eq_true_eq] at h2
  exact ⟨by omega, h2.1.1.1, h2.1.2, h1.2, h1.1⟩
theorem ltm_last {t : Int} {es : List LE} (h : es ≠ []) : ltm t es = (geti es ((es.length : Int) - 1)).term := by
  have hl : 0 < es.length := List.length_pos_iff.2 h
  have : es = es.take (es.length - 1) ++ [geti es ((es.length - 1 : Nat) : Int)] := by
    rw [← take_geti (by omega), show es.length - 1 + 1 = es.length from by omega, List.take_length]
  rw [this, ltm_append]
  rw [← this, show ((es.length - 1 : Nat) : Int) = (es.length : Int) - 1 from by omega]
  rfl
theorem memB_len {l : List Int} (h : memB l = true) : l.length ≤ 5 := by
  simp [memB] at h; omega
theorem entB_small {e : LE} (h : entB e = true) : e.data.length ≤ 12000 := by
  unfold entB at h
  simp only [Bool.and_eq_true] at h
  have h2 := h.2
  split at h2
  · simp at h2; simp [h2]
  · split at h2
    · simp at h2; omega
    · split at h2
      · have := memB_len h2; rw [nums_len] at this; omega
      · cases h2
theorem WF.at {g : LG} (h : WF g) {k : Nat} (hk : k < g.es.length) : (geti g.es (k : Int)).index = g.index + 1 + k ∧ entB (geti g.es (k : Int)) = true := ⟨(fol_at h.fol hk).1, (fol_at h.fol hk).2.1⟩
theorem WF.last {g : LG} (h : WF g) : 0 ≤ g.index ∧ g.index ≤ lastI g ∧ lastI g ≤ 9007199254740991 := by
  have hi := h.idx
  simp [countB] at hi
  unfold lastI
  refine ⟨hi.1, by omega, ?_⟩
  by_cases h0 : g.es.length = 0
  · omega
  · have := h.at (k := g.es.length - 1) (by omega)
    have h2 := this.2
    simp [entB, countB] at h2
    omega

section
variable {ω : Om} {I : Imm} {L : LH} {K : Value → M}

/-- a log that can be read at block 'b' -/
def LogV (I : Imm) (L : LH) (b : Nat) (g : LG) : Prop := ∃ mv lv, Cells I L b 0 [.int .i64 g.index, .int .i64 g.term, mv, lv, .int .i64 g.commit] ∧ Ints I mv g.mem ∧ LsV I L lv g.es
theorem LogV.to {I I' : Imm} {L L' : LH} {b : Nat} {g : LG} (h : LogV I L b g) (hI : Ext I I') [hL : LSub L L'] : LogV I' L' b g := by
  obtain ⟨mv, lv, hc, hm, hl⟩ := h
  exact ⟨mv, lv, hc.mono hI hL.sub, hm.mono hI, LsV.to hl hI⟩
theorem LogV.cells {b : Nat} {g : LG} (h : LogV I L b g) : ∃ mv lv, Ints I mv g.mem ∧ LsV I L lv g.es ∧ Cell I L b 0 (.int .i64 g.index) ∧ Cell I L b 1 (.int .i64 g.term) ∧ Cell I L b 2 mv ∧ Cell I L b 3 lv ∧ Cell I L b 4 (.int .i64 g.commit) ∧ Cells I L b 0 [.int .i64 g.index, .int .i64 g.term, mv] := by
  obtain ⟨mv, lv, hc, hm, hl⟩ := h
  have h3 := Cells.sub (k := 0) (m := 3) hc
  refine ⟨mv, lv, hm, hl, ?_, ?_, ?_, ?_, ?_, h3⟩
  · simpa using hc 0 _ rfl
  · simpa using hc 1 _ rfl
  · simpa using hc 2 _ rfl
  · simpa using hc 3 _ rfl
  · simpa using hc 4 _ rfl

theorem commit_spec {b : Nat} {g : LG} (h : LogV I L b g) (hk : K (.int .i64 g.commit) I L) : Cal Try.prog ω 22 #[.pointer (some ⟨b, 0, none⟩)] K I L := by
  obtain ⟨mv, lv, hm, hl, c0, c1, c2, c3, c4, c5⟩ := h.cells
  refine cal22 ?_
  unfold sh22
  repeat' (first | (with_reducible refine drawC ?_) | (with_reducible refine keepC (by first | exact Ext.refl _ | assumption) ?_) | (with_reducible refine gd_split (fun _ => ?_) (fun _ => ?_)) | (with_reducible refine br_split (fun _ => ?_) (fun _ => ?_)) | (with_reducible refine newI (fun _ => ?_)) | (refine rdC c4 (by first | exact Ext.refl _ | assumption) ?_) | (refine rdCS c4 (by first | exact Ext.refl _ | assumption) ?_) | first | refine rdb ?_ | refine st1 rfl ?_ | refine rdB rfl ?_ | refine rdbS ?_ | refine rdBS rfl ?_ | (simp only [SSe, List.getElem?_toArray, List.getElem?_cons_zero, List.getElem?_cons_succ, Nat.zero_add, Nat.add_zero, Nat.zero_mul]))
  exact Gh.done hk

theorem last_spec {b : Nat} {g : LG} (h : LogV I L b g) (hw : WF g) (hk : K (.tuple #[.int .i64 (lastI g), .int .i64 (lastT g)]) I L) : Cal Try.prog ω 54 #[.pointer (some ⟨b, 0, none⟩)] K I L := by
  obtain ⟨mv, lv, hm, hl, c0, c1, c2, c3, c4, c5⟩ := h.cells
  have hln := RL.len hl
  have hlen := hw.len
  refine cal54 ?_
  unfold sh54
  try simp only [SSe, List.getElem?_toArray, List.getElem?_cons_zero, List.getElem?_cons_succ, Nat.zero_add, Nat.add_zero, Nat.zero_mul]
  refine rd1 c3 ?_
  simp only [hln, SSe, List.getElem?_toArray, List.getElem?_cons_zero, List.getElem?_cons_succ, Nat.zero_add, Nat.add_zero, Nat.zero_mul]
  refine br_split (fun h0 => ?_) (fun h0 => ?_)
  · repeat' (first | (with_reducible refine drawC ?_) | (with_reducible refine keepC (by first | exact Ext.refl _ | assumption) ?_) | (with_reducible refine gd_split (fun _ => ?_) (fun _ => ?_)) | (with_reducible refine br_split (fun _ => ?_) (fun _ => ?_)) | (with_reducible refine newI (fun _ => ?_)) | (refine rdC c0 (by first | exact Ext.refl _ | assumption) ?_) | (refine rdCS c0 (by first | exact Ext.refl _ | assumption) ?_) | (refine rdC c1 (by first | exact Ext.refl _ | assumption) ?_) | (refine rdCS c1 (by first | exact Ext.refl _ | assumption) ?_) | first | refine rdb ?_ | refine st1 rfl ?_ | refine rdB rfl ?_ | refine rdbS ?_ | refine rdBS rfl ?_ | (simp only [SSe, List.getElem?_toArray, List.getElem?_cons_zero, List.getElem?_cons_succ, Nat.zero_add, Nat.add_zero, Nat.zero_mul]))
    have h0' : g.es = [] := by cases hg : g.es <;> simp_all; omega
    simp only [lastI, lastT, h0', ltm, List.length_nil, Int.natCast_zero, Int.add_zero] at hk
    exact Gh.done hk
  · have h0' : g.es ≠ [] := fun e => by simp [e] at h0
    have hpos : 0 < g.es.length := List.length_pos_iff.2 h0'
    obtain ⟨b2, off, c, hix, hcl, ⟨dv, rfl, hB⟩, hc⟩ := RL.ix hl (i := (g.es.length : Int) - 1) (by omega) (by omega)
    have hc := hc I L (Ext.refl I) (fun _ h => h)
    obtain ⟨a, cap, rfl⟩ := hB.form
    repeat' (first | (with_reducible refine drawC ?_) | (with_reducible refine keepC (by first | exact Ext.refl _ | assumption) ?_) | (with_reducible refine gd_split (fun _ => ?_) (fun _ => ?_)) | (with_reducible refine br_split (fun _ => ?_) (fun _ => ?_)) | (with_reducible refine newI (fun _ => ?_)) | (refine rdC c3 (by first | exact Ext.refl _ | assumption) ?_) | (refine rdCS c3 (by first | exact Ext.refl _ | assumption) ?_) | (refine rdNCS hc (Ext.refl _) rfl ?_) | (refine stB rfl rfl (one_all rfl) ?_) | first | refine rdb ?_ | refine st1 rfl ?_ | refine rdB rfl ?_ | refine rdbS ?_ | refine rdBS rfl ?_ | (simp only [SSe, List.getElem?_toArray, List.getElem?_cons_zero, List.getElem?_cons_succ, Nat.zero_add, Nat.add_zero, Nat.zero_mul, hln, wrap_i64 ((g.es.length : Int) - 1) (by omega), hix]))
    have := hw.at (k := g.es.length - 1) (by omega)
    rw [show ((g.es.length - 1 : Nat) : Int) = (g.es.length : Int) - 1 from by omega] at this
    rw [lastI, lastT, ltm_last h0', show g.index + (g.es.length : Int) = (geti g.es ((g.es.length : Int) - 1)).index from by omega] at hk
    exact Gh.to L (Gh.done hk)

theorem zeroLe (I : Imm) : LeV I ⟨0, 0, 0, []⟩ [.int .i64 0, .int .i64 0, .int .i64 0, .slice none 0 0] := ⟨_, rfl, SlI.nil I 1 none 0⟩
theorem bldE0 : bldV #[(Value.int .i64 0), (Value.int .i64 0), (Value.int .i64 0), (Value.slice none 0 0)] #[(0, 1), (1, 1), (2, 1), (3, 1)] [] = some (.agg #[.int .i64 0, .int .i64 0, .int .i64 0, .slice none 0 0]) := rfl

theorem entry_spec {b : Nat} {g : LG} {i : Int} (h : LogV I L b g) (hw : WF g) (hi : inI64 i) (hk : ∀ c, LeV I ((entAt g i).getD ⟨0, 0, 0, []⟩) c → K (.tuple #[.agg c.toArray, .bool (entAt g i).isSome]) I L) : Cal Try.prog ω 59 #[.pointer (some ⟨b, 0, none⟩), .int .i64 i] K I L := by
  obtain ⟨mv, lv, hm, hl, c0, c1, c2, c3, c4, c5⟩ := h.cells
  have hln := RL.len hl
  have hlen := hw.len
  obtain ⟨hi0, hi1, hi2⟩ := hw.last
  refine cal59 ?_
  unfold sh59
  refine newI (fun b1 => ?_)
  unfold inI64 at hi
  have bad : entAt g i = none → sh59_1 ω (.pointer (some ⟨b1, 0, none⟩)) (.bool false) (fun v => Gh (K v)) I ((b1, Obj.cells #[.int .i64 0, .int .i64 0, .int .i64 0, .slice none 0 0] 59 (0, 0)) :: L) := fun hb => by
    unfold sh59_1
    simp only [bldE0, SSe, List.getElem?_toArray, List.getElem?_cons_zero, List.getElem?_cons_succ, Nat.zero_add, Nat.add_zero, Nat.zero_mul]
    refine stB rfl rfl (one_all rfl) ?_
    refine rdB rfl ?_
    rw [hb] at hk
    exact Gh.to L (Gh.done (hk _ (zeroLe I)))
  try simp only [SSe, List.getElem?_toArray, List.getElem?_cons_zero, List.getElem?_cons_succ, Nat.zero_add, Nat.add_zero, Nat.zero_mul]
  refine drawC ?_
  refine rdCS c0 (Ext.refl _) ?_
  try simp only [SSe, List.getElem?_toArray, List.getElem?_cons_zero, List.getElem?_cons_succ, Nat.zero_add, Nat.add_zero, Nat.zero_mul]
  refine gd_split (fun h1 => ?_) (fun h1 => bad (by simp at h1; unfold entAt lastI; rw [if_neg (by omega)]))
  simp at h1
  refine rdCS c0 (Ext.refl _) ?_
  simp only [SSe, List.getElem?_toArray, List.getElem?_cons_zero, List.getElem?_cons_succ, Nat.zero_add, Nat.add_zero, Nat.zero_mul, wrap_i64 (i - g.index) (by omega)]
  refine rdCS c3 (Ext.refl _) ?_
  simp only [hln, SSe, List.getElem?_toArray, List.getElem?_cons_zero, List.getElem?_cons_succ, Nat.zero_add, Nat.add_zero, Nat.zero_mul]
  refine br_split (fun h2 => bad (by simp at h2; unfold entAt lastI; rw [if_neg (by omega)])) (fun h2 => ?_)
  simp at h2
  obtain ⟨b2, off, c, hix, hcl, ⟨dv, rfl, hB⟩, hc⟩ := RL.ix hl (i := i - g.index - 1) (by omega) (by omega)
  have hc := hc I L (Ext.refl I) (fun _ h => h)
  obtain ⟨a, cap, rfl⟩ := hB.form
  repeat' (first | (with_reducible refine drawC ?_) | (with_reducible refine keepC (by first | exact Ext.refl _ | assumption) ?_) | (with_reducible refine gd_split (fun _ => ?_) (fun _ => ?_)) | (with_reducible refine br_split (fun _ => ?_) (fun _ => ?_)) | (with_reducible refine newI (fun _ => ?_)) | (refine rdC c0 (by first | exact Ext.refl _ | assumption) ?_) | (refine rdCS c0 (by first | exact Ext.refl _ | assumption) ?_) | (refine rdC c3 (by first | exact Ext.refl _ | assumption) ?_) | (refine rdCS c3 (by first | exact Ext.refl _ | assumption) ?_) | (refine rdNCS hc (Ext.refl _) rfl ?_) | (refine stB rfl rfl (one_all rfl) ?_) | first | refine rdb ?_ | refine st1 rfl ?_ | refine rdB rfl ?_ | refine rdbS ?_ | refine rdBS rfl ?_ | (simp only [SSe, List.getElem?_toArray, List.getElem?_cons_zero, List.getElem?_cons_succ, Nat.zero_add, Nat.add_zero, Nat.zero_mul, hln, wrap_i64 (i - g.index) (by omega), wrap_i64 (i - g.index - 1) (by omega), hix]))
  have e : entAt g i = some (geti g.es (i - g.index - 1)) := by unfold entAt lastI; rw [if_pos (by omega)]
  rw [e] at hk
  exact Gh.to L (Gh.done (hk _ ⟨_, rfl, hB⟩))

theorem term_spec {b : Nat} {g : LG} {i : Int} (h : LogV I L b g) (hw : WF g) (hi : inI64 i) (hk : K (.tuple #[.int .i64 (termAt g i).1, .int .i64 (termAt g i).2]) I L) : Cal Try.prog ω 15 #[.pointer (some ⟨b, 0, none⟩), .int .i64 i] K I L := by
  obtain ⟨mv, lv, hm, hl, c0, c1, c2, c3, c4, c5⟩ := h.cells
  refine cal15 ?_
  unfold sh15
  try simp only [SSe, List.getElem?_toArray, List.getElem?_cons_zero, List.getElem?_cons_succ, Nat.zero_add, Nat.add_zero, Nat.zero_mul]
  refine rd1 c0 ?_
  try simp only [SSe, List.getElem?_toArray, List.getElem?_cons_zero, List.getElem?_cons_succ, Nat.zero_add, Nat.add_zero, Nat.zero_mul]
  refine br_split (fun h1 => ?_) (fun h1 => ?_)
  · simp at h1
    repeat' (first | (with_reducible refine drawC ?_) | (with_reducible refine keepC (by first | exact Ext.refl _ | assumption) ?_) | (with_reducible refine gd_split (fun _ => ?_) (fun _ => ?_)) | (with_reducible refine br_split (fun _ => ?_) (fun _ => ?_)) | (with_reducible refine newI (fun _ => ?_)) | (refine rdC c1 (by first | exact Ext.refl _ | assumption) ?_) | (refine rdCS c1 (by first | exact Ext.refl _ | assumption) ?_) | first | refine rdb ?_ | refine st1 rfl ?_ | refine rdB rfl ?_ | refine rdbS ?_ | refine rdBS rfl ?_ | (simp only [SSe, List.getElem?_toArray, List.getElem?_cons_zero, List.getElem?_cons_succ, Nat.zero_add, Nat.add_zero, Nat.zero_mul]))
    simp only [termAt, h1, if_true] at hk
    exact Gh.done hk
  · simp at h1
    refine call (entry_spec h hw hi (fun c hc => ?_))
    rw [termAt, if_neg h1] at hk
    obtain ⟨dv, rfl, hB⟩ := hc
    obtain ⟨a, cap, rfl⟩ := hB.form
    repeat' (first | (with_reducible refine drawC ?_) | (with_reducible refine keepC (by first | exact Ext.refl _ | assumption) ?_) | (with_reducible refine gd_split (fun _ => ?_) (fun _ => ?_)) | (with_reducible refine br_split (fun _ => ?_) (fun _ => ?_)) | (with_reducible refine newI (fun _ => ?_)) | (refine stB rfl rfl (one_all rfl) ?_) | first | refine rdb ?_ | refine st1 rfl ?_ | refine rdB rfl ?_ | refine rdbS ?_ | refine rdBS rfl ?_ | (simp only [SSe, List.getElem?_toArray, List.getElem?_cons_zero, List.getElem?_cons_succ, Nat.zero_add, Nat.add_zero, Nat.zero_mul]))
    all_goals (cases he : entAt g i <;> simp_all)
    all_goals exact Gh.to L (Gh.done hk)

theorem at_spec {b : Nat} {g : LG} {i : Int} (h : LogV I L b g) (hw : WF g) (hi : inI64 i)
    (hk : ∀ c I', Ext I I' → LeV I' ((entAt g i).getD ⟨0, 0, 0, []⟩) c → K (.tuple #[.agg c.toArray, .int .i64 (if (entAt g i).isSome then 0 else 100)]) I' L) : Cal Try.prog ω 29 #[.pointer (some ⟨b, 0, none⟩), .int .i64 i] K I L := by
  refine cal29 ?_
  unfold sh29
  refine newI (fun b1 => ?_)
  refine call (entry_spec (h.to (Ext.refl I)) hw hi (fun c hc => ?_))
  obtain ⟨dv, rfl, hB⟩ := hc
  obtain ⟨a, cap, rfl⟩ := hB.form
  try simp only [SSe, List.getElem?_toArray, List.getElem?_cons_zero, List.getElem?_cons_succ, Nat.zero_add, Nat.add_zero, Nat.zero_mul]
  refine newI (fun b2 => ?_)
  refine stB rfl rfl (one_all rfl) ?_
  refine br_split (fun h1 => ?_) (fun h1 => ?_)
  · simp only [Bool.not_eq_eq_eq_not, Bool.not_true, Option.isSome_eq_false_iff, Option.isNone_iff_eq_none] at h1
    simp only [bldE0, SSe, List.getElem?_toArray, List.getElem?_cons_zero, List.getElem?_cons_succ, Nat.zero_add, Nat.add_zero, Nat.zero_mul]
    refine stB rfl rfl (one_all rfl) ?_
    refine rdB rfl ?_
    simp only [h1, Option.getD_none, Option.isSome_none] at hk
    exact Gh.to L (Gh.done (hk _ I (Ext.refl I) (zeroLe I)))
  · obtain ⟨e, he⟩ : ∃ e, entAt g i = some e := by cases he : entAt g i <;> simp_all
    refine rdB rfl ?_
    refine call (own_spec (e := (entAt g i).getD ⟨0, 0, 0, []⟩) ⟨_, rfl, hB⟩ ?_ (fun c' I' hI' hc' => ?_))
    · rw [he]
      unfold entAt lastI at he
      split at he
      · rename_i hlt
        simp only [Option.some.injEq] at he
        have := (hw.at (k := (i - g.index - 1).toNat) (by omega)).2
        rw [show (((i - g.index - 1).toNat : Nat) : Int) = i - g.index - 1 from by omega, he] at this
        have := entB_small this
        simp only [Option.getD_some]; omega
      · cases he
    · obtain ⟨dv', rfl, hB'⟩ := hc'
      obtain ⟨a', cap', rfl⟩ := hB'.form
      refine stB rfl rfl (one_all rfl) ?_
      refine rdB rfl ?_
      simp only [he, Option.getD_some, Option.isSome_some, if_true] at hk hB' ⊢
      exact Gh.to L (Gh.done (hk _ I' hI' ⟨_, rfl, hB'⟩))

/-- entries from an index on, so many at most -/
def sliceAt (g : LG) (i most : Int) : List LE := if g.index < i ∧ i ≤ lastI g ∧ 1 ≤ most then (g.es.drop (i - g.index - 1).toNat).take most.toNat else []
theorem WF.small {g : LG} (hw : WF g) : ∀ e ∈ g.es, e.data.length ≤ 12000 := by
  intro e he
  obtain ⟨k, hk, rfl⟩ := List.getElem_of_mem he
  rw [← geti_nat hk]
  exact entB_small (hw.at hk).2
theorem slice_spec {b : Nat} {g : LG} {i most : Int} (h : LogV I L b g) (hw : WF g) (hi : inI64 i) (hm : inI64 most) (hk : ∀ v I', Ext I I' → Ents I' v (sliceAt g i most) → K v I' L) : Cal Try.prog ω 17 #[.pointer (some ⟨b, 0, none⟩), .int .i64 i, .int .i64 most] K I L := by
  have hlen := hw.len
  obtain ⟨hi0, hi1, hi2⟩ := hw.last
  unfold inI64 at hm
  have hi' := hi
  unfold inI64 at hi'
  refine cal17 ?_
  unfold sh17
  refine call (entry_spec h hw hi (fun c hc => ?_))
  obtain ⟨dv, rfl, hB⟩ := hc
  obtain ⟨a, cap, rfl⟩ := hB.form
  try simp only [SSe, List.getElem?_toArray, List.getElem?_cons_zero, List.getElem?_cons_succ, Nat.zero_add, Nat.add_zero, Nat.zero_mul]
  refine newI (fun b2 => ?_)
  refine stB rfl rfl (one_all rfl) ?_
  refine gd_split (fun h1 => ?_) (fun h1 => ?_)
  · obtain ⟨e, he⟩ : ∃ e, entAt g i = some e := by cases he : entAt g i <;> simp_all
    have hr : g.index < i ∧ i ≤ lastI g := by
      unfold entAt at he
      split at he
      · assumption
      · cases he
    refine br_split (fun h2 => ?_) (fun h2 => ?_)
    · simp at h2
      rw [sliceAt, if_neg (by omega)] at hk
      exact Gh.to L (Gh.done (hk _ I (Ext.refl I) (RL.nil _ _)))
    · simp at h2
      rw [sliceAt, if_pos (by omega)] at hk
      unfold lastI at hr
      obtain ⟨mv, lv, hm, hl, c0, c1, c2, c3, c4, c5⟩ := h.cells
      refine drawC ?_
      refine rdCS c3 (Ext.refl _) ?_
      refine rdCS c0 (Ext.refl _) ?_
      simp only [SSe, List.getElem?_toArray, List.getElem?_cons_zero, List.getElem?_cons_succ, Nat.zero_add, Nat.add_zero, Nat.zero_mul, wrap_i64 (i - g.index) (by omega), wrap_i64 (i - g.index - 1) (by omega)]
      obtain ⟨v1, hs1, hl1⟩ := RL.part hl (lo := (i - g.index - 1).toNat) (hi := g.es.length) (by omega) (Nat.le_refl _) (some (.int .i64 (i - g.index - 1))) none (by simp [bndV]; omega) (fun _ _ => rfl)
      rw [hs1]
      simp only [SSe, List.getElem?_toArray, List.getElem?_cons_zero, List.getElem?_cons_succ, Nat.zero_add, Nat.add_zero, Nat.zero_mul, RL.len hl1]
      rw [List.take_of_length_le (by simp)] at hl1
      have hd : (g.es.drop (i - g.index - 1).toNat).length = g.es.length - (i - g.index - 1).toNat := List.length_drop ..
      obtain ⟨v2, hs2, hl2⟩ := RL.part hl1 (lo := 0) (hi := min most.toNat (g.es.drop (i - g.index - 1).toNat).length) (by omega) (by omega) none
        (some (.int .i64 (if ((g.es.drop (i - g.index - 1).toNat).length : Int) < most then ((g.es.drop (i - g.index - 1).toNat).length : Int) else most))) rfl (fun cap hc => by
          simp only [bndV]
          split <;> (rw [if_pos (by omega)]; simp; omega))
      rw [List.take_of_length_le (by simp)]
      simp only [hs2, SSe, List.getElem?_toArray, List.getElem?_cons_zero, List.getElem?_cons_succ, Nat.zero_add, Nat.add_zero, Nat.zero_mul]
      rw [List.drop_zero, Nat.sub_zero] at hl2
      have e : (g.es.drop (i - g.index - 1).toNat).take (min most.toNat (g.es.drop (i - g.index - 1).toNat).length) = (g.es.drop (i - g.index - 1).toNat).take most.toNat := by
        rw [← List.take_eq_take_min]
      rw [e] at hl2
      refine call (owned_spec (LsV.to hl2 (Ext.refl I)) (fun e he => ?_) ?_ (fun X v3 cells I' hI' h6 hR => ?_))
      · have := hw.small e (List.mem_of_mem_drop (List.mem_of_mem_take he)); omega
      · rw [List.length_take]; omega
      · refine Ents.ofO h6 hR (fun I2 hI2 hE => ?_)
        exact Gh.to L (Gh.done (hk v3 I2 (hI'.trans hI2) hE))
  · have he : entAt g i = none := by cases he : entAt g i <;> simp_all
    have hr : ¬ (g.index < i ∧ i ≤ lastI g) := by
      intro hr
      rw [entAt, if_pos hr] at he; cases he
    rw [sliceAt, if_neg (by omega)] at hk
    exact Gh.to L (Gh.done (hk _ I (Ext.refl I) (RL.nil _ _)))

end
end Go.Proofs.Ytdcpeboecmkmlaa
