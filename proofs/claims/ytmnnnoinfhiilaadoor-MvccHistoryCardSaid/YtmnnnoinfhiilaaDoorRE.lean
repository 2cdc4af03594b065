/-
  The laws of what stays and of what has not changed: the walks.
-/
-- S3
import Derived.Test.YtmnnnoinfhiilaaDoorRD
set_option linter.unusedSimpArgs false
set_option linter.unusedVariables false
namespace Go.Proofs.YtmnnnoinfhiilaaDoor
open Go.SL
set_option maxRecDepth 10000
section
variable {ω : Om} {I : Imm} {L : LH} {K : Value → M}
theorem Both.view {b br : Nat} {sp : Sp} {nt : Nts} {F L' : LH} (h : Both I b br L sp nt F) (hL : ∀ x ∈ L, x ∈ L') : View I L' b sp := by
  obtain ⟨X, vV, vI, hp, hS, _, _⟩ := h
  exact hS.view (fun x hx => hL x (hp.mem_iff.2 (List.mem_append_left _ hx)))
theorem Both.mem {b br : Nat} {sp : Sp} {nt : Nts} {F : LH} (h : Both I b br L sp nt F) : ∀ x ∈ F, x ∈ L := fun x hx => by
  obtain ⟨X, vV, vI, hp, _⟩ := h
  exact hp.mem_iff.2 (by simp [hx])
theorem Both.more {b br : Nat} {sp : Sp} {nt : Nts} {F : LH} (h : Both I b br L sp nt F) (x : Nat × Obj) : Both I b br (x :: L) sp nt (x :: F) := by
  obtain ⟨X, vV, vI, hp, h2⟩ := h
  exact ⟨X, vV, vI, ms_perm (by rw [ms_cons, ms_eq hp]; ((try simp only [ms_cons, ms_app, ms_nil, ms_nil']); (try ac_rfl))), h2⟩
theorem Both.less {b br : Nat} {sp : Sp} {nt : Nts} {F : LH} {x : Nat × Obj} (h : Both I b br L sp nt (x :: F)) : ∃ L', L.Perm (x :: L') ∧ Both I b br L' sp nt F := by
  obtain ⟨X, vV, vI, hp, h2⟩ := h
  exact ⟨X ++ (br, refO vV vI sp.floor) :: F, ms_perm (by rw [ms_eq hp]; ((try simp only [ms_cons, ms_app, ms_nil, ms_nil']); (try ac_rfl))), X, vV, vI, List.Perm.refl _, h2⟩
theorem scan_len {sp : Sp} {p : TSpan} {m : TStamp} {txn most : Int} : (scanF sp p m txn most).1.length ≤ sp.rows.length := by
  have : ∀ (rows : List Row) (acc : List TKV), (scanL m txn most rows acc).1.length ≤ acc.length + rows.length := by
    intro rows
    induction rows with
    | nil => intro acc; simp [scanL]
    | cons r rs ih =>
      intro acc
      have hp : (push r (seen r m txn).1 acc).length ≤ acc.length + 1 := by unfold push; split <;> simp
      simp only [scanL]
      split
      · simp
      · split
        · simp only [List.length_cons]; omega
        · have := ih (push r (seen r m txn).1 acc)
          simp only [List.length_cons]; omega
  unfold scanF
  split
  · simp
  · split
    · simp
    · have h1 := this (inR p sp.rows) []
      have h2 := List.length_filter_le (fun r : Row => inB p r.key) sp.rows
      simp [inR] at h1 h2 ⊢; omega
theorem RL.formK {xs : List TKV} {v : Value} (h : RL TKVV 2 I [] v xs) : v.oneCell' = true := by
  obtain ⟨a, c, rfl⟩ := RL.form h; rfl
end
end Go.Proofs.YtmnnnoinfhiilaaDoor
