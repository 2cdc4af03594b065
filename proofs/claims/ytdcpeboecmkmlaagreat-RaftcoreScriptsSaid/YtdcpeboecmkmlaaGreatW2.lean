/-
  A node answers any calls as the document says: its arguments as they come in.
-/
-- S3
import Derived.Test.YtdcpeboecmkmlaaGreatNI
set_option linter.unusedSimpArgs false
set_option linter.unusedVariables false
namespace Go.Proofs.YtdcpeboecmkmlaaGreat
open Go.SL
set_option maxRecDepth 10000
theorem tr_steps11 {rz : Nat} {W : World} {v : Value} (h : TrR rz Tryz.prog W 27 [v]) : ∃ ss : List TStep, RL TStepV 16 (heapI W) [] v ss ∧ (∀ y ∈ ss, TStepB rz y) ∧ ss.length * Tryz.prog.bytesOf 36 ≤ rz := by
  obtain ⟨cells, xs, hS, hRR, hlen⟩ := tr_recs (R := fun x c => TStepB rz x ∧ TStepV (heapI W) x c) Tryz.underlying27 (by rw [ceTStep]; omega) h (fun c hc => TStep_open hc)
  rw [ceTStep] at hS hRR
  exact ⟨xs, RL.ofI hS (hRR.imp fun _ _ h => h.2), recs_all (fun _ _ h => h.1) hRR, hlen⟩
theorem scripts_walk {W : World} {base : Nat} {v0 v1 : Value} (o0 : Value.okWide Tryz.prog W .any base 26 v0) (t0 : Tr Tryz.prog W 26 v0.cells.toList)
    (o1 : Value.okWide Tryz.prog W .any base 27 v1) (t1 : Tr Tryz.prog W 27 v1.cells.toList) (ω : Om) :
    Cal Tryz.prog ω 3 #[v0, v1] (fun v I' _ => v = .bool true ∧ Ext (heapI W) I') (heapI W) [] := by
  obtain ⟨cs, rfl, t⟩ := top_struct Tryz.underlying26 o0 t0
  obtain ⟨x, hb, hx⟩ := TStart_open t
  obtain ⟨ss, h1, h2, h3⟩ := tr_steps11 (top_slice Tryz.underlying27 o1 t1)
  have e : reachBytes = 140737488351232 := by rfl
  rw [byTStep] at h3
  exact scripts_law hx h1 hb h2 (by omega) (by omega) (fun I' _ hI => ⟨rfl, hI⟩)
end Go.Proofs.YtdcpeboecmkmlaaGreat
