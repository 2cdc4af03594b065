import Derived.Test.YtfeonffmeajpgaaG
set_option linter.unusedSimpArgs false
set_option linter.unusedVariables false
namespace Go.Proofs.Ytfeonffmeajpgaa
open Go.SL
set_option maxRecDepth 10000

theorem ce3 : Try.prog.cellsOf 3 = 1 := by kernel_rfl
theorem ce5 : Try.prog.cellsOf 5 = 1 := by kernel_rfl
theorem ce28 : Try.prog.cellsOf 28 = 1 := by kernel_rfl
theorem ce30 : Try.prog.cellsOf 30 = 5 := by kernel_rfl
theorem ce32 : Try.prog.cellsOf 32 = 7 := by kernel_rfl
theorem by5 : Try.prog.bytesOf 5 = 1 := by kernel_rfl
theorem by32 : Try.prog.bytesOf 32 = 72 := by kernel_rfl

theorem tr_field {rz : Nat} {P : Program} {w : World} {T : TypeId} {cs : List Value} {fs : Array Field} {f : Field} (i : Nat) {n : Nat} (hu : P.underlying T = some (.struct fs)) (h : TrR rz P w T cs) (hi : fs.toList[i]? = some f) (hc : P.cellsOf f.type = n) :
    TrR rz P w f.type ((cs.drop f.offset).take n) := by
  rw [← hc]
  exact (tr_struct hu h).2 f (List.mem_of_getElem? hi)

theorem env_open {rz : Nat} {W : World} {cs : List Value} (h : TrR rz Try.prog W 30 cs) : ∃ e, EnvV (heapI W) e cs ∧ inI64 e.id ∧ inI64 e.frm ∧ inI64 e.to ∧ inI64 e.kind ∧ e.body.length ≤ rz := by
  have hl := (tr_struct Try.underlying30 h).1
  rw [ce30] at hl
  obtain ⟨a, b, c, d, v, rfl⟩ : ∃ a b c d v, cs = [a, b, c, d, v] := by
    match cs, hl with
    | [a, b, c, d, v], _ => exact ⟨a, b, c, d, v, rfl⟩
  have h0 : TrR rz Try.prog W 3 [a] := tr_field 0 Try.underlying30 h rfl ce3
  have h1 : TrR rz Try.prog W 3 [b] := tr_field 1 Try.underlying30 h rfl ce3
  have h2 : TrR rz Try.prog W 3 [c] := tr_field 2 Try.underlying30 h rfl ce3
  have h3 : TrR rz Try.prog W 3 [d] := tr_field 3 Try.underlying30 h rfl ce3
  have h4 : TrR rz Try.prog W 28 [v] := tr_field 4 Try.underlying30 h rfl ce28
  obtain ⟨n0, e0, w0⟩ := tr_int Try.underlying3 h0
  obtain ⟨n1, e1, w1⟩ := tr_int Try.underlying3 h1
  obtain ⟨n2, e2, w2⟩ := tr_int Try.underlying3 h2
  obtain ⟨n3, e3, w3⟩ := tr_int Try.underlying3 h3
  obtain ⟨l, hB, hbl⟩ := tr_bytes Try.underlying28 Try.underlying5 ce5 by5 h4
  simp only [List.cons.injEq, and_true] at e0 e1 e2 e3
  subst e0 e1 e2 e3
  exact ⟨⟨n0, n1, n2, n3, l⟩, ⟨v, rfl, hB⟩, wf_i64 w0, wf_i64 w1, wf_i64 w2, wf_i64 w3, hbl⟩

theorem step_open {rz : Nat} {W : World} {cs : List Value} (h : TrR rz Try.prog W 32 cs) : ∃ s, StepV (heapI W) s cs := by
  have hl := (tr_struct Try.underlying32 h).1
  rw [ce32] at hl
  obtain ⟨a, b, c, d, e, f, v, rfl⟩ : ∃ a b c d e f v, cs = [a, b, c, d, e, f, v] := by
    match cs, hl with
    | [a, b, c, d, e, f, v], _ => exact ⟨a, b, c, d, e, f, v, rfl⟩
  have h0 : TrR rz Try.prog W 3 [a] := tr_field 0 Try.underlying32 h rfl ce3
  have h1 : TrR rz Try.prog W 3 [b] := tr_field 1 Try.underlying32 h rfl ce3
  have h2 : TrR rz Try.prog W 30 [c, d, e, f, v] := tr_field 2 Try.underlying32 h rfl ce30
  obtain ⟨n0, e0, w0⟩ := tr_int Try.underlying3 h0
  obtain ⟨n1, e1, w1⟩ := tr_int Try.underlying3 h1
  obtain ⟨x, ⟨bv, hx, hB⟩, _⟩ := env_open h2
  simp only [List.cons.injEq, and_true] at e0 e1 hx
  obtain ⟨rfl, rfl, rfl, rfl, rfl⟩ := hx
  subst e0 e1
  exact ⟨⟨n0, n1, x⟩, wf_i64 w1, v, rfl, hB⟩

theorem script_open {W : World} {base : Nat} {v0 : Value} (o0 : Value.okWide Try.prog W .any base 22 v0) (t0 : Tr Try.prog W 22 v0.cells.toList) :
    ∃ cells, ∃ sc : List StepD, SlI (heapI W) 7 v0 cells sc.length ∧ Recs (StepV (heapI W)) 7 sc cells ∧ sc.length * 72 ≤ reachBytes := by
  have h := tr_recs (R := StepV (heapI W)) Try.underlying22 (by rw [ce32]; omega) (top_slice Try.underlying22 o0 t0) (fun c hc => step_open hc)
  rwa [ce32, by32] at h
end Go.Proofs.Ytfeonffmeajpgaa
