/-
  What comes in: entries, steps, scripts.
-/
import Derived.Test.YtdcpeboecmkmlaaT
import Derived.Test.YtdcpeboecmkmlaaSlOpen
set_option linter.unusedSimpArgs false
set_option linter.unusedVariables false
namespace Go.Proofs.Ytdcpeboecmkmlaa
open Go.SL
set_option maxRecDepth 10000

theorem ceI : Try.prog.cellsOf 3 = 1 := by kernel_rfl
theorem ceB : Try.prog.cellsOf 5 = 1 := by kernel_rfl
theorem ceIs : Try.prog.cellsOf 29 = 1 := by kernel_rfl
theorem ceBs : Try.prog.cellsOf 34 = 1 := by kernel_rfl
theorem ceEs : Try.prog.cellsOf 38 = 1 := by kernel_rfl
theorem ceE : Try.prog.cellsOf 59 = 4 := by kernel_rfl
theorem ceS : Try.prog.cellsOf 43 = 7 := by kernel_rfl
theorem byI : Try.prog.bytesOf 3 = 8 := by kernel_rfl
theorem byB : Try.prog.bytesOf 5 = 1 := by kernel_rfl
theorem byE : Try.prog.bytesOf 59 = 48 := by kernel_rfl
theorem byS : Try.prog.bytesOf 43 = 104 := by kernel_rfl

theorem tr_field {rz : Nat} {P : Program} {w : World} {T : TypeId} {cs : List Value} {fs : Array Field} {f : Field} (i : Nat) {n : Nat} (hu : P.underlying T = some (.struct fs)) (h : TrR rz P w T cs) (hi : fs.toList[i]? = some f) (hc : P.cellsOf f.type = n) :
    TrR rz P w f.type ((cs.drop f.offset).take n) := by
  rw [← hc]
  exact (tr_struct hu h).2 f (List.mem_of_getElem? hi)

theorem le_open {rz : Nat} {W : World} {cs : List Value} (h : TrR rz Try.prog W 59 cs) : ∃ e, LeV (heapI W) e cs := by
  have hl := (tr_struct Try.underlying59 h).1
  rw [ceE] at hl
  obtain ⟨a, b, c, v, rfl⟩ : ∃ a b c v, cs = [a, b, c, v] := by
    match cs, hl with
    | [a, b, c, v], _ => exact ⟨a, b, c, v, rfl⟩
  obtain ⟨n0, e0, w0⟩ := tr_int Try.underlying3 (cs := [a]) (tr_field 0 Try.underlying59 h rfl ceI)
  obtain ⟨n1, e1, w1⟩ := tr_int Try.underlying3 (cs := [b]) (tr_field 1 Try.underlying59 h rfl ceI)
  obtain ⟨n2, e2, w2⟩ := tr_int Try.underlying3 (cs := [c]) (tr_field 2 Try.underlying59 h rfl ceI)
  obtain ⟨l, hB, hbl⟩ := tr_bytes Try.underlying34 Try.underlying5 ceB byB (v := v) (tr_field 3 Try.underlying59 h rfl ceBs)
  simp only [List.cons.injEq, and_true] at e0 e1 e2
  subst e0 e1 e2
  exact ⟨⟨n0, n1, n2, l⟩, v, rfl, hB⟩

theorem ents_open {rz : Nat} {W : World} {v : Value} (h : TrR rz Try.prog W 38 [v]) : ∃ es, Ents (heapI W) v es ∧ es.length * 48 ≤ rz := by
  obtain ⟨cells, es, hS, hR, hb⟩ := tr_recs (R := LeV (heapI W)) Try.underlying38 (by rw [ceE]; omega) h (fun c hc => le_open hc)
  rw [ceE] at hS hR
  rw [byE] at hb
  exact ⟨es, RL.ofI hS hR, hb⟩

theorem stp_open {rz : Nat} {W : World} {cs : List Value} (h : TrR rz Try.prog W 43 cs) : ∃ s, StpV rz (heapI W) s cs := by
  have hl := (tr_struct Try.underlying43 h).1
  rw [ceS] at hl
  obtain ⟨a, b, c, d, e, f, v, rfl⟩ : ∃ a b c d e f v, cs = [a, b, c, d, e, f, v] := by
    match cs, hl with
    | [a, b, c, d, e, f, v], _ => exact ⟨a, b, c, d, e, f, v, rfl⟩
  obtain ⟨n0, e0, w0⟩ := tr_int Try.underlying3 (cs := [a]) (tr_field 0 Try.underlying43 h rfl ceI)
  obtain ⟨n1, e1, w1⟩ := tr_int Try.underlying3 (cs := [b]) (tr_field 1 Try.underlying43 h rfl ceI)
  obtain ⟨n2, e2, w2⟩ := tr_int Try.underlying3 (cs := [c]) (tr_field 2 Try.underlying43 h rfl ceI)
  obtain ⟨n3, e3, w3⟩ := tr_int Try.underlying3 (cs := [d]) (tr_field 3 Try.underlying43 h rfl ceI)
  obtain ⟨l, hB, hbl⟩ := tr_bytes Try.underlying34 Try.underlying5 ceB byB (v := e) (tr_field 4 Try.underlying43 h rfl ceBs)
  obtain ⟨es, hE, hel⟩ := ents_open (v := f) (tr_field 5 Try.underlying43 h rfl ceEs)
  obtain ⟨ml, hM, hml, _⟩ := tr_ints Try.underlying29 Try.underlying3 ceI byI (v := v) (tr_field 6 Try.underlying43 h rfl ceIs)
  simp only [List.cons.injEq, and_true] at e0 e1 e2 e3
  subst e0 e1 e2 e3
  exact ⟨⟨n0, n1, n2, n3, l, es, ml⟩, e, f, v, rfl, hB, hE, hM, ⟨wf_i64 w1, wf_i64 w2, wf_i64 w3⟩, hbl, hel⟩

theorem script_open {rz : Nat} {W : World} {v : Value} (h : TrR rz Try.prog W 55 [v]) : ∃ ss, Script rz (heapI W) v ss ∧ ss.length * 104 ≤ rz := by
  obtain ⟨cells, ss, hS, hR, hb⟩ := tr_recs (R := StpV rz (heapI W)) Try.underlying55 (by rw [ceS]; omega) h (fun c hc => stp_open hc)
  rw [ceS] at hS hR
  rw [byS] at hb
  exact ⟨ss, RL.ofI hS hR, hb⟩

theorem scripts_walk {W : World} {base : Nat} {v0 v1 : Value} (o0 : Value.okWide Try.prog W .any base 29 v0) (t0 : TrR 137438953472 Try.prog W 29 v0.cells.toList)
    (o1 : Value.okWide Try.prog W .any base 55 v1) (t1 : TrR 137438953472 Try.prog W 55 v1.cells.toList) (ω : Om) :
    Cal Try.prog ω 6 #[v0, v1] (fun v I' _ => v = .bool true ∧ Ext (heapI W) I') (heapI W) [] := by
  obtain ⟨ml, hM, hml, _⟩ := tr_ints Try.underlying29 Try.underlying3 ceI byI (top_slice Try.underlying29 o0 t0)
  obtain ⟨ss, hS, hl⟩ := script_open (top_slice Try.underlying55 o1 t1)
  exact scripts_law hM hS (by omega) (fun I' L' hI => ⟨rfl, hI⟩)
end Go.Proofs.Ytdcpeboecmkmlaa
