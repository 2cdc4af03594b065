/-
  Logs match: the script as it comes in.
-/
import Derived.Test.YtdcpeboecmkmlaaM2
set_option linter.unusedSimpArgs false
set_option linter.unusedVariables false
namespace Go.Proofs.Ytdcpeboecmkmlaa
open Go.SL
set_option maxRecDepth 10000

theorem ceM : Try.prog.cellsOf 31 = 5 := by kernel_rfl
theorem byM : Try.prog.bytesOf 31 = 40 := by kernel_rfl
theorem mv_open {rz : Nat} {W : World} {cs : List Value} (h : TrR rz Try.prog W 31 cs) : ∃ s, MvV (heapI W) s cs := by
  have hl := (tr_struct Try.underlying31 h).1
  rw [ceM] at hl
  obtain ⟨a, b, c, d, e, rfl⟩ : ∃ a b c d e, cs = [a, b, c, d, e] := by
    match cs, hl with
    | [a, b, c, d, e], _ => exact ⟨a, b, c, d, e, rfl⟩
  obtain ⟨n0, e0, w0⟩ := tr_int Try.underlying3 (cs := [a]) (tr_field 0 Try.underlying31 h rfl ceI)
  obtain ⟨n1, e1, w1⟩ := tr_int Try.underlying3 (cs := [b]) (tr_field 1 Try.underlying31 h rfl ceI)
  obtain ⟨n2, e2, w2⟩ := tr_int Try.underlying3 (cs := [c]) (tr_field 2 Try.underlying31 h rfl ceI)
  obtain ⟨n3, e3, w3⟩ := tr_int Try.underlying3 (cs := [d]) (tr_field 3 Try.underlying31 h rfl ceI)
  obtain ⟨n4, e4, w4⟩ := tr_int Try.underlying3 (cs := [e]) (tr_field 4 Try.underlying31 h rfl ceI)
  simp only [List.cons.injEq, and_true] at e0 e1 e2 e3 e4
  subst e0 e1 e2 e3 e4
  exact ⟨⟨n0, n1, n2, n3, n4⟩, rfl, wf_i64 w3, wf_i64 w4⟩
theorem mvs_open {rz : Nat} {W : World} {v : Value} (h : TrR rz Try.prog W 22 [v]) : ∃ ss, Mvs (heapI W) v ss ∧ ss.length * 40 ≤ rz := by
  obtain ⟨cells, ss, hS, hR, hb⟩ := tr_recs (R := MvV (heapI W)) Try.underlying22 (by rw [ceM]; omega) h (fun c hc => mv_open hc)
  rw [ceM] at hS hR
  rw [byM] at hb
  exact ⟨ss, RL.ofI hS hR, hb⟩
theorem matches_walk {W : World} {base : Nat} {v0 : Value} (o0 : Value.okWide Try.prog W .any base 22 v0) (t0 : Tr Try.prog W 22 v0.cells.toList) (ω : Om) :
    Cal Try.prog ω 3 #[v0] (fun v I' _ => v = .bool true ∧ Ext (heapI W) I') (heapI W) [] := by
  obtain ⟨ss, hS, hl⟩ := mvs_open (top_slice Try.underlying22 o0 t0)
  have hz : reachBytes ≤ 140737488355328 := by decide
  exact matches_law hS (by omega) (fun I' L' hI => ⟨rfl, hI⟩)
end Go.Proofs.Ytdcpeboecmkmlaa
