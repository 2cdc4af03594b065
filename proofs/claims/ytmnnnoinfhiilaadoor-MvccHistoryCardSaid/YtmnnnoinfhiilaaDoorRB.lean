/-
  Answers compared; a step played both ways.
-/
-- S3
import Derived.Test.YtmnnnoinfhiilaaDoorRA
set_option linter.unusedSimpArgs false
set_option linter.unusedVariables false
namespace Go.Proofs.YtmnnnoinfhiilaaDoor
open Go.SL
set_option maxRecDepth 10000
section
variable {ω : Om} {I : Imm} {L : LH} {K : Value → M}
theorem samerows_spec {L0 : LH} [LSub L0 L] {a b : List TKV} {v w : Value} (ha : RL TKVV 2 I L0 v a) (hb : RL TKVV 2 I L0 w b) (hl : a.length ≤ 1000000000) (hk : ∀ t : Bool, (a = b → t = true) → K (.bool t) I L) : Cal Tryd.prog ω 14 #[v, w] K I L := by
  refine cal14 ?_
  unfold sh14
  simp only [RL.len ha, RL.len hb, SSd, Nat.reduceAdd]
  refine br_split (fun e => ?_) (fun e => ?_)
  · exact Gh.done (hk false (fun h => by rw [h] at e; simp at e))
  have hlen : a.length = b.length := by simp at e; omega
  refine loop (fun n s I' L' => I' = I ∧ L' = L ∧ ∃ i : Nat, n + i = a.length ∧ s = (.bool false, .int .i64 i, ())) a.length ⟨rfl, rfl, 0, rfl, rfl⟩ ?_
  rintro n s I' L' ⟨rfl, rfl, i, hni, rfl⟩
  unfold sh14_1
  simp only [RL.len ha, SSd, Nat.reduceAdd]
  refine br_split (fun e2 => ?_) (fun e2 => Gh.done (hk true (fun _ => rfl)))
  have hi : i < a.length := by simpa using e2
  obtain ⟨q, off, c, hix, hcl, hc, hcc⟩ := RL.ix ha (i := (i : Int)) (by omega) (by omega)
  obtain ⟨q2, off2, c2, hix2, hcl2, hc2, hcc2⟩ := RL.ix hb (i := (i : Int)) (by omega) (by omega)
  rw [geti_nat hi] at hc
  rw [geti_nat (by omega)] at hc2
  have hne : a[i] ≠ b[i] → a ≠ b := fun h e => h (by subst e; rfl)
  generalize a[i] = x at *
  generalize b[i] = y at *
  obtain ⟨w0, w1, rfl, g0, g1⟩ := hc
  obtain ⟨u0, u1, rfl, f0, f1⟩ := hc2
  have hcv := hcc I' L0 (Ext.refl _) (fun _ h => h)
  have hcu := hcc2 I' L0 (Ext.refl _) (fun _ h => h)
  refine drawC ?_
  simp only [hix, SSd, Nat.reduceAdd]
  refine rdCS (hcv 0 _ rfl) (Ext.refl _) ?_
  refine bs_I g0 (Ext.refl _) ?_
  simp only [hix2, SSd, Nat.reduceAdd]
  refine rdCS (hcu 0 _ rfl) (Ext.refl _) ?_
  refine bs_I f0 (Ext.refl _) ?_
  simp only [sNe, SSd, Nat.reduceAdd]
  refine gd_split (fun e3 => ?_) (fun e3 => Gh.done (hk false (fun h => absurd h (hne (fun e => by subst e; simp at e3)))))
  try simp only [SSd, Nat.reduceAdd]
  refine rdCS (hcv 1 _ rfl) (Ext.refl _) ?_
  refine bs_I g1 (Ext.refl _) ?_
  try simp only [SSd, Nat.reduceAdd]
  refine rdCS (hcu 1 _ rfl) (Ext.refl _) ?_
  refine bs_I f1 (Ext.refl _) ?_
  simp only [sNe, SSd, Nat.reduceAdd]
  refine br_split (fun e4 => Gh.done (hk false (fun h => absurd h (hne (fun e => by subst e; simp at e4))))) (fun e4 => ?_)
  try simp only [SSd, Nat.reduceAdd]
  rw [wrap_i64 _ (by omega)]
  exact Gh.done ⟨n - 1, by omega, rfl, rfl, i + 1, by omega, rfl⟩
/-! ### Both spaces -/
def stepS (sp : Sp) (x : TStep) : Sp := if x.fDo = 0 then putS sp x.fX else if x.fDo = 1 then resS sp x.fX.fKey x.fX.fTxn x.fYes x.fX.fAt else if x.fDo = 5 then colS sp x.fX.fAt else sp
theorem SpOk.step {sp : Sp} (h : SpOk sp) (x : TStep) : SpOk (stepS sp x) := by
  unfold stepS
  split
  · exact h.put
  · split
    · exact h.res
    · split
      · exact h.col
      · exact h
theorem vs_le {rows : List Row} {n : Nat} (h : versN rows ≤ n) : ∀ r ∈ rows, r.vs.length ≤ n := fun r hr => by
  have h1 : versN [r] ≤ versN rows := versN_sub (List.singleton_sublist.2 hr)
  simp [versN] at h1 h ⊢; omega
def Both (I : Imm) (b br : Nat) (L : LH) (sp : Sp) (nt : Nts) (F : LH) : Prop := ∃ X vV vI, L.Perm (X ++ ((br, refO vV vI sp.floor) :: F)) ∧ SpR I b X sp nt ∧ RL TVersionV 5 I [] vV (versOf sp.rows) ∧ RL TIntentV 6 I [] vI (intsOf sp.rows)
theorem RL.monoI {α : Type} {R : Imm → α → List Value → Prop} {n : Nat} {I I' : Imm} {v : Value} {xs : List α} (hR : ∀ x c, R I x c → R I' x c) (h : RL R n I [] v xs) (hI : Ext I I') : RL R n I' [] v xs := h.mono hR hI (fun _ h => h)
theorem Both.mono {I' : Imm} {b br : Nat} {sp : Sp} {nt : Nts} {F : LH} (h : Both I b br L sp nt F) (hI : Ext I I') : Both I' b br L sp nt F := by
  obtain ⟨X, vV, vI, h1, h2, h3, h4⟩ := h
  exact ⟨X, vV, vI, h1, h2.mono hI, RL.monoI (fun x c h => h.mono hI) h3 hI, RL.monoI (fun x c h => h.mono hI) h4 hI⟩
end
end Go.Proofs.YtmnnnoinfhiilaaDoor
