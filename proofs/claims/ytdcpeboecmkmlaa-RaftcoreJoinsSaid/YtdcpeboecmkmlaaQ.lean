/-
  The document's log is offered entries: plainly.
-/
-- S4
import Derived.Test.YtdcpeboecmkmlaaJ
set_option linter.unusedSimpArgs false
set_option linter.unusedVariables false
namespace Go.Proofs.Ytdcpeboecmkmlaa
open Go.SL
set_option maxRecDepth 10000

def trunc (g : LG) (e : LE) : LG := { g with es := g.es.take (e.index - g.index - 1).toNat }
def conf1 (g : LG) : List LE → Option LG
  | [] => some g
  | e :: r => match entAt g e.index with
    | some old => if old.term = e.term then conf1 g r else if e.index ≤ g.commit then none else some (trunc g e)
    | none => conf1 g r
def app1 (g : LG) (e : LE) : LG := if lastI g < e.index then { g with es := g.es ++ [e] } else g
def app2 (g : LG) : List LE → LG
  | [] => g
  | e :: r => app2 (app1 g e) r

theorem fol_index {i t : Int} : ∀ {es : List LE}, followB i t es = true → ∀ e ∈ es, i < e.index
  | [], _, e, he => by cases he
  | x :: r, h, e, he => by
    simp only [followB, Bool.and_eq_true, decide_eq_true_eq] at h
    rcases List.mem_cons.1 he with rfl | he
    · omega
    · have := fol_index h.2 e he; omega
theorem app2_all : ∀ (r : List LE) (g : LG) (t : Int), followB (lastI g) t r = true → app2 g r = { g with es := g.es ++ r }
  | [], g, t, _ => by simp [app2]
  | e :: r, g, t, h => by
    simp only [followB, Bool.and_eq_true, decide_eq_true_eq] at h
    simp only [app2]
    have e1 : app1 g e = { g with es := g.es ++ [e] } := by unfold app1; rw [if_pos (by omega)]
    rw [e1, app2_all r _ e.term (by
      have : lastI { g with es := g.es ++ [e] } = lastI g + 1 := by simp [lastI]; omega
      rw [this]; exact h.2)]
    simp
theorem conf1_past {g : LG} : ∀ (r : List LE), (∀ e ∈ r, lastI g < e.index) → conf1 g r = some g
  | [], _ => rfl
  | e :: r, h => by
    have := h e (List.mem_cons_self ..)
    simp only [conf1]
    rw [show entAt g e.index = none from by unfold entAt; rw [if_neg (by omega)]]
    exact conf1_past r (fun e he => h e (List.mem_cons_of_mem _ he))
theorem conf1_last {g g1 : LG} {j : Int} : ∀ (r : List LE), (∀ e ∈ r, j < e.index) → j ≤ lastI g → g.index ≤ j → conf1 g r = some g1 → j ≤ lastI g1
  | [], _, hj, _, h => by simp only [conf1, Option.some.injEq] at h; rw [← h]; exact hj
  | e :: r, hr, hj, hi, h => by
    have hr' : ∀ e ∈ r, j < e.index := fun e he => hr e (List.mem_cons_of_mem _ he)
    simp only [conf1] at h
    cases he : entAt g e.index with
    | none => rw [he] at h; exact conf1_last r hr' hj hi h
    | some old =>
      rw [he] at h
      simp only at h
      split at h
      · exact conf1_last r hr' hj hi h
      · split at h
        · cases h
        · simp only [Option.some.injEq] at h
          rw [← h]
          have := hr e (List.mem_cons_self ..)
          have hin : g.index < e.index ∧ e.index ≤ lastI g := by
            unfold entAt at he
            split at he
            · assumption
            · cases he
          simp only [lastI, trunc, List.length_take] at *
          omega
theorem conf_app {g : LG} (h : WF g) : ∀ (es : List LE) (i t : Int), Beh g i t es → (conf1 g es).map (fun g1 => app2 g1 es) = offW g es
  | [], i, t, _ => rfl
  | e :: r, i, t, hb => by
    have hf := hb.fol
    simp only [followB, Bool.and_eq_true, decide_eq_true_eq] at hf
    have hei : e.index = i + 1 := hf.1.1.2
    have hlo := hb.lo
    have hhi := hb.hi
    simp only [conf1, offW]
    cases he : entAt g e.index with
    | none =>
      have hi : i = lastI g := by
        unfold entAt at he
        split at he
        · cases he
        · omega
      simp only
      rw [conf1_past r (fun e' he' => by have := fol_index hf.2 e' he'; omega)]
      simp only [Option.map_some, Option.some.injEq]
      rw [app2_all (e :: r) g t (by rw [← hi]; exact hb.fol), List.take_of_length_le (by unfold lastI at hi; omega)]
    | some old =>
      have hin : g.index < e.index ∧ e.index ≤ lastI g := by
        unfold entAt at he
        split at he
        · assumption
        · cases he
      simp only
      split
      · rename_i hot
        obtain ⟨q1, q2⟩ := take_trm h hin.1 hin.2
        rw [q1] at he
        simp only [Option.some.injEq] at he
        have hb' : Beh g (i + 1) e.term r := ⟨hf.2, by omega, by omega, by
          rw [hei] at q2 he
          rw [← q2, he, hot]; exact Int.le_refl _⟩
        rw [← conf_app h r (i + 1) e.term hb']
        cases hc : conf1 g r with
        | none => rfl
        | some g1 =>
          have := conf1_last (j := i + 1) r (fun e' he' => fol_index hf.2 e' he') (by omega) (by omega) hc
          simp only [Option.map_some, app2]
          rw [show app1 g1 e = g1 from by unfold app1; rw [if_neg (by omega)]]
      · split
        · rfl
        · simp only [Option.map_some, Option.some.injEq]
          have hl : lastI (trunc g e) = i := by
            simp only [lastI, trunc, List.length_take] at *
            omega
          rw [app2_all (e :: r) (trunc g e) t (by rw [hl]; exact hb.fol)]
          rfl

/-- what lies behind the log's start -/
theorem filter_left {i t : Int} {x : Int} : ∀ {es : List LE}, followB i t es = true → es.filter (fun e => decide (x < e.index)) = if i < x then es.drop (x - i).toNat else es
  | [], _ => by simp
  | e :: r, h => by
    simp only [followB, Bool.and_eq_true, decide_eq_true_eq] at h
    have ih := filter_left (x := x) h.2
    have hei : e.index = i + 1 := h.1.1.2
    by_cases hx : i < x
    · rw [if_pos hx, List.filter_cons_of_neg (by simp; omega), ih]
      by_cases hx' : i + 1 < x
      · rw [if_pos hx', show (x - i).toNat = (x - (i + 1)).toNat + 1 from by omega]; rfl
      · rw [if_neg hx', show (x - i).toNat = 1 from by omega]; rfl
    · rw [if_neg hx, List.filter_cons_of_pos (by simp; omega), ih, if_neg (by omega)]

theorem filter_take {α : Type} [Inhabited α] {l : List α} {p : α → Bool} {k : Nat} (h : k < l.length) : (l.take (k + 1)).filter p = (l.take k).filter p ++ (if p (geti l (k : Int)) then [geti l (k : Int)] else []) := by
  rw [take_geti h, List.filter_append]
  congr 1
  by_cases hp : p (geti l (k : Int)) = true <;> simp [hp]

end Go.Proofs.Ytdcpeboecmkmlaa
