/-
  A log, plainly: what its changing functions make of it.
-/
-- S4
import Derived.Test.YtdcpeboecmkmlaaF
set_option linter.unusedSimpArgs false
set_option linter.unusedVariables false
namespace Go.Proofs.Ytdcpeboecmkmlaa
open Go.SL
set_option maxRecDepth 10000

def pointB (i t : Int) (m : List Int) : Bool := countB i && countB t && memB m && ((i == 0) == (t == 0))
def newG (m : List Int) : LG := ⟨0, 0, m, [], 0⟩
def loadB (i t : Int) (m : List Int) (es : List LE) (c : Int) : Bool := pointB i t m && followB i t es && decide (i ≤ c ∧ c ≤ i + es.length)
def addG (g : LG) (t k : Int) (d : List UInt8) : Int × Int × LG :=
  if followB (lastI g) (lastT g) [⟨lastI g + 1, t, k, d⟩] then (lastI g + 1, 0, { g with es := g.es ++ [⟨lastI g + 1, t, k, d⟩] }) else (0, 1, g)
def settleG (g : LG) (i : Int) : Int × LG := if lastI g < i then (100, g) else (0, { g with commit := max g.commit i })
def cutG (g : LG) (i : Int) : Int × LG := if i < g.index ∨ g.commit < i then (100, g) else (0, ⟨i, (termAt g i).1, (mAt g i).1, g.es.drop (i - g.index).toNat, g.commit⟩)
def resetG (g : LG) (i t : Int) (m : List Int) : Int × LG :=
  if pointB i t m = false then (102, g) else if i ≤ g.commit then (100, g) else (0, ⟨i, t, m, if termAt g i = (t, 0) then g.es.drop (i - g.index).toNat else [], i⟩)
/-- entries that follow what the log has: which log comes of it; none: an entry that is committed would be another one -/
def offW (g : LG) : List LE → Option LG
  | [] => some g
  | e :: r => match entAt g e.index with
    | some old => if old.term = e.term then offW g r else if e.index ≤ g.commit then none else some { g with es := g.es.take (e.index - g.index - 1).toNat ++ e :: r }
    | none => some { g with es := g.es.take (e.index - g.index - 1).toNat ++ e :: r }
def off2 (g : LG) (i : Int) (es : List LE) : Int × Bool × Int × LG := match offW g es with
  | some g' => (i + es.length, true, 0, g')
  | none => (0, false, 101, g)
def offerG (g : LG) (i t : Int) (es : List LE) : Int × Bool × Int × LG :=
  if (countB i && countB t && followB i t es) = false then (0, false, 1, g)
  else if i < g.index then
    if (es.drop (g.index - i).toNat).length ≠ 0 ∧ (geti (es.drop (g.index - i).toNat) 0).term < g.term then (0, false, 101, g) else off2 g g.index (es.drop (g.index - i).toNat)
  else if termAt g i = (t, 0) then off2 g i es else (max g.commit (min (lastI g) (i - 1)), false, 0, g)

theorem new_wf {m : List Int} (h : memB m = true) : WF (newG m) := ⟨rfl, rfl, h, by simp [newG], rfl, by simp [newG, lastI], by simp [newG]⟩
theorem load_wf {i t c : Int} {m : List Int} {es : List LE} (h : loadB i t m es c = true) (hl : es.length * 48 ≤ 150000000000000) : WF ⟨i, t, m, es, c⟩ := by
  simp only [loadB, pointB, Bool.and_eq_true, decide_eq_true_eq] at h
  exact ⟨h.1.1.1.1.1, h.1.1.1.1.2, h.1.1.1.2, by have := h.1.1.2; simp at this; rw [Bool.eq_iff_iff] at this; simpa using this, h.1.2, h.2, hl⟩

theorem ltm_ge {i t : Int} : ∀ {es : List LE}, followB i t es = true → t ≤ ltm t es
  | [], _ => Int.le_refl _
  | e :: r, h => by
    simp only [followB, Bool.and_eq_true, decide_eq_true_eq] at h
    have := ltm_ge h.2
    simp only [ltm]
    omega
theorem ltm_count {i t : Int} (ht : countB t = true) : ∀ {es : List LE}, followB i t es = true → countB (ltm t es) = true
  | [], _ => ht
  | e :: r, h => by
    simp only [followB, Bool.and_eq_true, decide_eq_true_eq] at h
    have he := h.1.1.1
    simp only [entB, Bool.and_eq_true] at he
    exact ltm_count he.1.1.2 h.2
theorem ltm_pos {i t : Int} : ∀ {es : List LE}, followB i t es = true → es ≠ [] → 1 ≤ ltm t es
  | [], _, h => absurd rfl h
  | [e], h, _ => by
    simp only [followB, entB, Bool.and_eq_true, decide_eq_true_eq] at h
    exact h.1.1.1.1.2
  | e :: e' :: r, h, _ => by
    simp only [followB, Bool.and_eq_true] at h
    exact ltm_pos (i := i + 1) (t := e.term) (es := e' :: r) (by simp only [followB, Bool.and_eq_true]; exact h.2) (by simp)

theorem add_wf {g : LG} {t k : Int} {d : List UInt8} (h : WF g) (hl : (g.es.length + 1) * 48 ≤ 150000000000000) : WF (addG g t k d).2.2 := by
  unfold addG
  split
  · rename_i hf
    refine ⟨h.idx, h.trm, h.mem, h.zer, ?_, ?_, by simpa using hl⟩
    · show followB g.index g.term (g.es ++ _) = true
      rw [followB_append, h.fol]; exact hf
    · have := h.com
      simp only [lastI, List.length_append, List.length_cons, List.length_nil] at *
      omega
  · exact h
theorem settle_wf {g : LG} {i : Int} (h : WF g) : WF (settleG g i).2 := by
  unfold settleG
  split
  · exact h
  · have := h.com
    exact ⟨h.idx, h.trm, h.mem, h.zer, h.fol, by simp only [lastI] at *; omega, h.len⟩
theorem termAt_in {g : LG} (h : WF g) {i : Int} (h1 : g.index ≤ i) (h2 : i ≤ lastI g) : termAt g i = (ltm g.term (g.es.take (i - g.index).toNat), 0) := by
  unfold termAt
  split
  · rename_i e; subst e; simp [ltm]
  · rename_i hne
    rw [show entAt g i = some (geti g.es (i - g.index - 1)) from by unfold entAt; rw [if_pos (by omega)]]
    simp only [Prod.mk.injEq, and_true]
    unfold lastI at h2
    have hk : (i - g.index).toNat - 1 < g.es.length := by omega
    have e : g.es.take (i - g.index).toNat = g.es.take ((i - g.index).toNat - 1) ++ [geti g.es (i - g.index - 1)] := by
      have := take_geti hk
      rwa [show (i - g.index).toNat - 1 + 1 = (i - g.index).toNat from by omega, show (((i - g.index).toNat - 1 : Nat) : Int) = i - g.index - 1 from by omega] at this
    rw [e, ltm_append]; rfl
theorem fol_drop {i t : Int} {es : List LE} {k : Nat} (h : followB i t es = true) (hk : k ≤ es.length) : followB (i + k) (ltm t (es.take k)) (es.drop k) = true ∧ followB i t (es.take k) = true := by
  rw [← List.take_append_drop k es, followB_append, Bool.and_eq_true, List.length_take, Nat.min_eq_left hk] at h
  exact ⟨h.2, h.1⟩
theorem memOf_ok {i t : Int} {m : List Int} (hm : memB m = true) : ∀ {es : List LE}, followB i t es = true → memB (memOf m es) = true
  | [], _ => hm
  | e :: r, h => by
    simp only [followB, Bool.and_eq_true] at h
    simp only [memOf]
    split
    · rename_i h3
      have he := h.1.1.1
      simp only [entB, h3, Bool.and_eq_true] at he
      exact memOf_ok (by simpa using he.2) h.2
    · exact memOf_ok hm h.2
theorem in_count {g : LG} (h : WF g) {i : Int} (h1 : g.index ≤ i) (h2 : i ≤ lastI g) : countB i = true := by
  have := h.last
  simp only [countB, decide_eq_true_eq]; omega
theorem cut_wf {g : LG} {i : Int} (h : WF g) : WF (cutG g i).2 := by
  unfold cutG
  split
  · exact h
  · rename_i hn
    have hc := h.com
    have hl := h.last
    have h1 : g.index ≤ i := by omega
    have h2 : i ≤ lastI g := by omega
    have hk : (i - g.index).toNat ≤ g.es.length := by unfold lastI at h2; omega
    obtain ⟨f1, f2⟩ := fol_drop h.fol hk
    have ht := termAt_in h h1 h2
    have hm : (mAt g i).1 = memOf g.mem (g.es.take (i - g.index).toNat) := by rw [mAt, if_pos ⟨h1, h2⟩]
    refine ⟨in_count h h1 h2, ?_, ?_, ?_, ?_, ?_, ?_⟩
    · show countB (termAt g i).1 = true
      rw [ht]; exact ltm_count h.trm f2
    · show memB (mAt g i).1 = true
      rw [hm]; exact memOf_ok h.mem f2
    · show i = 0 ↔ (termAt g i).1 = 0
      rw [ht]
      by_cases e : i = g.index
      · subst e; simpa [ltm] using h.zer
      · have : 1 ≤ ltm g.term (g.es.take (i - g.index).toNat) := ltm_pos f2 (by
          intro hnil
          have := congrArg List.length hnil
          rw [List.length_take] at this
          simp only [List.length_nil] at this
          omega)
        simp only
        omega
    · show followB i (termAt g i).1 (g.es.drop (i - g.index).toNat) = true
      rw [ht]
      rwa [show g.index + ((i - g.index).toNat : Int) = i from by omega] at f1
    · show i ≤ g.commit ∧ g.commit ≤ i + ((g.es.drop (i - g.index).toNat).length : Int)
      rw [List.length_drop]
      unfold lastI at *; omega
    · show (g.es.drop (i - g.index).toNat).length * 48 ≤ _
      rw [List.length_drop]
      have := h.len; omega
theorem point_spec {i t : Int} {m : List Int} (h : pointB i t m = true) : countB i = true ∧ countB t = true ∧ memB m = true ∧ (i = 0 ↔ t = 0) := by
  simp only [pointB, Bool.and_eq_true] at h
  refine ⟨h.1.1.1, h.1.1.2, h.1.2, ?_⟩
  have := h.2
  simp at this; rw [Bool.eq_iff_iff] at this; simpa using this
theorem termAt_ok {g : LG} {i t : Int} (h : termAt g i = (t, 0)) : g.index ≤ i ∧ i ≤ lastI g := by
  unfold termAt at h
  split at h
  · rename_i e; subst e; unfold lastI; omega
  · cases he : entAt g i with
    | none => rw [he] at h; simp at h
    | some e =>
      unfold entAt at he
      split at he
      · omega
      · cases he
theorem reset_wf {g : LG} {i t : Int} {m : List Int} (h : WF g) : WF (resetG g i t m).2 := by
  unfold resetG
  split
  · exact h
  split
  · exact h
  · rename_i h1 h2
    obtain ⟨p1, p2, p3, p4⟩ := point_spec (by simpa using h1)
    split
    · rename_i ht
      obtain ⟨q1, q2⟩ := termAt_ok ht
      have hk : (i - g.index).toNat ≤ g.es.length := by unfold lastI at q2; omega
      obtain ⟨f1, f2⟩ := fol_drop h.fol hk
      rw [termAt_in h q1 q2] at ht
      refine ⟨p1, p2, p3, p4, ?_, ?_, ?_⟩
      · show followB i t (g.es.drop (i - g.index).toNat) = true
        rw [show g.index + ((i - g.index).toNat : Int) = i from by omega] at f1
        rw [show ltm g.term (g.es.take (i - g.index).toNat) = t from by simpa using ht] at f1
        exact f1
      · show i ≤ i ∧ i ≤ i + ((g.es.drop (i - g.index).toNat).length : Int)
        omega
      · show (g.es.drop (i - g.index).toNat).length * 48 ≤ _
        rw [List.length_drop]
        have := h.len; omega
    · exact ⟨p1, p2, p3, p4, rfl, by simp [lastI], by simp⟩

/-- the entries 'es' stand behind the entry at 'i' of the log, which is of the term 't' -/
structure Beh (g : LG) (i t : Int) (es : List LE) : Prop where
  fol : followB i t es = true
  lo : g.index ≤ i
  hi : i ≤ lastI g
  trm : ltm g.term (g.es.take (i - g.index).toNat) ≤ t

theorem take_trm {g : LG} (h : WF g) {i : Int} (h1 : g.index < i) (h2 : i ≤ lastI g) : entAt g i = some (geti g.es (i - g.index - 1)) ∧ (geti g.es (i - g.index - 1)).term = ltm g.term (g.es.take (i - g.index).toNat) := by
  have e := termAt_in h (i := i) (by omega) h2
  have e2 : entAt g i = some (geti g.es (i - g.index - 1)) := by unfold entAt; rw [if_pos (by omega)]
  unfold termAt at e
  rw [if_neg (by omega), e2] at e
  exact ⟨e2, by simpa using e⟩

theorem offW_spec {g : LG} (h : WF g) : ∀ (es : List LE) (i t : Int), Beh g i t es → ∀ g', offW g es = some g' → (g' = g ∨ ∃ j : Nat, (g.commit ≤ g.index + j ∧ j ≤ g.es.length ∧ i ≤ g.index + j ∧ g.index + j ≤ i + es.length) ∧ g' = { g with es := g.es.take j ++ es.drop (g.index + j - i).toNat } ∧ followB g.index g.term g'.es = true)
  | [], i, t, _, g', hg => by simp only [offW, Option.some.injEq] at hg; exact .inl hg.symm
  | e :: r, i, t, hb, g', hg => by
    have hf := hb.fol
    simp only [followB, Bool.and_eq_true, decide_eq_true_eq] at hf
    have hei : e.index = i + 1 := hf.1.1.2
    have hlo := hb.lo
    have hhi := hb.hi
    have hlast := h.last
    have hcom := h.com
    have cutf : (g.commit ≤ i) → some { g with es := g.es.take (e.index - g.index - 1).toNat ++ e :: r } = some g' →
        (g' = g ∨ ∃ j : Nat, (g.commit ≤ g.index + j ∧ j ≤ g.es.length ∧ i ≤ g.index + j ∧ g.index + j ≤ i + (e :: r).length) ∧ g' = { g with es := g.es.take j ++ (e :: r).drop (g.index + j - i).toNat } ∧ followB g.index g.term g'.es = true) := by
      intro hc hg
      simp only [Option.some.injEq] at hg
      refine .inr ⟨(i - g.index).toNat, ?_, ?_, ?_⟩
      · unfold lastI at hhi; simp only [List.length_cons]; omega
      · rw [← hg, show (g.index + ((i - g.index).toNat : Int) - i).toNat = 0 from by omega, show (e.index - g.index - 1).toNat = (i - g.index).toNat from by omega]; rfl
      · rw [← hg]
        simp only
        rw [show (e.index - g.index - 1).toNat = (i - g.index).toNat from by omega, followB_append]
        have hk : (i - g.index).toNat ≤ g.es.length := by unfold lastI at hhi; omega
        obtain ⟨f1, f2⟩ := fol_drop h.fol hk
        rw [f2, List.length_take, Nat.min_eq_left hk, show g.index + ((i - g.index).toNat : Int) = i from by omega]
        have := hb.trm
        simp only [followB, Bool.true_and, Bool.and_eq_true, decide_eq_true_eq]
        exact ⟨⟨hf.1.1, by omega⟩, hf.2⟩
    simp only [offW] at hg
    cases he : entAt g e.index with
    | none =>
      rw [he] at hg
      simp only at hg
      refine cutf ?_ hg
      unfold entAt at he
      split at he
      · cases he
      · omega
    | some old =>
      rw [he] at hg
      simp only at hg
      split at hg
      · rename_i hot
        have hin : e.index ≤ lastI g := by
          unfold entAt at he
          split at he
          · omega
          · cases he
        obtain ⟨q1, q2⟩ := take_trm h (i := e.index) (by omega) hin
        rw [q1] at he
        simp only [Option.some.injEq] at he
        have hb' : Beh g (i + 1) e.term r := ⟨hf.2, by omega, by omega, by
          rw [hei] at q2 he
          rw [← q2, he, hot]; exact Int.le_refl _⟩
        rcases offW_spec h r (i + 1) e.term hb' g' hg with h1 | ⟨j, ⟨a1, a2, a3, a4⟩, a5, a6⟩
        · exact .inl h1
        · refine .inr ⟨j, ⟨a1, a2, by omega, by simp only [List.length_cons]; omega⟩, ?_, a6⟩
          rw [a5, show (g.index + (j : Int) - i).toNat = (g.index + (j : Int) - (i + 1)).toNat + 1 from by omega]
          rfl
      · split at hg
        · cases hg
        · exact cutf (by omega) hg

theorem off2_wf {g : LG} {i t : Int} {es : List LE} (h : WF g) (hb : Beh g i t es) (hl : (g.es.length + es.length) * 48 ≤ 150000000000000) : WF (off2 g i es).2.2.2 := by
  unfold off2
  cases hw : offW g es with
  | none => exact h
  | some g' =>
    rcases offW_spec h es i t hb g' hw with rfl | ⟨j, ⟨a1, a2, a3, a4⟩, a5, a6⟩
    · exact h
    · simp only
      have hel : g'.es.length = j + (es.length - (g.index + (j : Int) - i).toNat) := by rw [a5]; simp [List.length_take, Nat.min_eq_left a2]
      have e1 : g'.index = g.index := by rw [a5]
      have e2 : g'.term = g.term := by rw [a5]
      have e3 : g'.mem = g.mem := by rw [a5]
      have e4 : g'.commit = g.commit := by rw [a5]
      have := h.com
      refine ⟨e1 ▸ h.idx, e2 ▸ h.trm, e3 ▸ h.mem, by rw [e1, e2]; exact h.zer, by rw [e1, e2]; exact a6, ?_, ?_⟩
      · rw [e4, e1]; unfold lastI; rw [e1, hel]; omega
      · rw [hel]; omega
theorem offer_behind {g : LG} {i t : Int} {es : List LE} (h : WF g) (hf : followB i t es = true) (hi : countB i = true) (ht : termAt g i = (t, 0)) : Beh g i t es := by
  obtain ⟨q1, q2⟩ := termAt_ok ht
  rw [termAt_in h q1 q2] at ht
  exact ⟨hf, q1, q2, by have : ltm g.term (g.es.take (i - g.index).toNat) = t := by simpa using ht
                        omega⟩
theorem offer_before {g : LG} {i t : Int} {es : List LE} (h : WF g) (hf : followB i t es = true) (hi : i < g.index) (ht : ¬ ((es.drop (g.index - i).toNat).length ≠ 0 ∧ (geti (es.drop (g.index - i).toNat) 0).term < g.term)) : Beh g g.index g.term (es.drop (g.index - i).toNat) := by
  have hl := h.last
  refine ⟨?_, Int.le_refl _, hl.2.1, by simp [ltm]⟩
  by_cases hk : (g.index - i).toNat ≤ es.length
  · obtain ⟨f1, f2⟩ := fol_drop hf hk
    rw [show i + ((g.index - i).toNat : Int) = g.index from by omega] at f1
    revert f1 ht
    generalize es.drop (g.index - i).toNat = r
    intro ht f1
    cases r with
    | nil => rfl
    | cons e r =>
      simp only [followB, Bool.and_eq_true, decide_eq_true_eq] at f1 ⊢
      have : geti (e :: r) 0 = e := rfl
      rw [this] at ht
      simp at ht
      exact ⟨⟨f1.1.1, by omega⟩, f1.2⟩
  · rw [List.drop_of_length_le (by omega)]; rfl
theorem offer_wf {g : LG} {i t : Int} {es : List LE} (h : WF g) (hl : (g.es.length + es.length) * 48 ≤ 150000000000000) : WF (offerG g i t es).2.2.2 := by
  unfold offerG
  split
  · exact h
  · rename_i h1
    have h1' : countB i = true ∧ countB t = true ∧ followB i t es = true := by
      simp only [Bool.not_eq_false, Bool.and_eq_true] at h1
      exact ⟨h1.1.1, h1.1.2, h1.2⟩
    split
    · rename_i h2
      split
      · exact h
      · rename_i h3
        exact off2_wf h (offer_before h h1'.2.2 h2 h3) (by rw [List.length_drop]; omega)
    · split
      · rename_i h2 h3
        exact off2_wf h (offer_behind h h1'.2.2 h1'.1 h3) hl
      · exact h

end Go.Proofs.Ytdcpeboecmkmlaa
