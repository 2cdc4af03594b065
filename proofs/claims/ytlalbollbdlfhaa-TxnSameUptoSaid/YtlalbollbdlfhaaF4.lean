/-
  'cormorantlaw.TxnSame' returns true for every input whose bulk is at most 1048576, and leaves its arguments as they were.
-/
import Derived.Test.YtlalbollbdlfhaaRows
import Derived.WalkKit
import Derived.ProofKit
import Derived.OpenShut
import Derived.SizedLaws
import Derived.JoinedCond
import Derived.Test.YtlalbollbdlfhaaSlBulk
import Derived.Test.YtlalbollbdlfhaaW2
namespace Go.Proofs.Ytlalbollbdlfhaa.txnSameLaw
open Go.ChangeShapes Go.WideShapes Go.ChangeAt Go.RowKit
set_option linter.unusedVariables false

theorem own : ownKnob Try.prog.godebug = none := by kernel_rfl
set_option maxRecDepth 100000 in
theorem closed : bulk.closedB Try.prog Try.prog.types.size 65536 = true := by kernel_rfl
theorem laidOut : laidOutB Try.prog = true := by kernel_rfl

set_option maxRecDepth 100000 in
theorem lifted (os : Os) (started : os.Started) (H : Type) (enc : TypeId × Value → H) (F : Stop.Interp) :
    ReturnsInHanded {} Try.checked os 4 .any ((Rows.OpenSpec.upto Rows.txnSameSpec).pre6 enc Try.prog Try.f4 Rows.txnSameUptoRow.domain false) (((Rows.OpenSpec.upto Rows.txnSameSpec).at F).post enc Try.prog Try.f4 false true false false) := by
  refine returnsInHanded_of_cond (C := Try.checked) (s := Rows.OpenSpec.upto Rows.txnSameSpec) (k := Rows.uptoSmall) rfl own started (by kernel_rfl) Try.func4
    (OpenSpec.witness (enc := enc) (C := Try.checked) (s := Rows.OpenSpec.upto Rows.txnSameSpec) (k := Rows.uptoSmall) rfl false ⟨#[], #[.slice none 0 0, .slice none 0 0], []⟩ 8 (by kernel_rfl) (by kernel_rfl) (by kernel_rfl)
      (x := ([.nil, .nil], [], [])) (by kernel_rfl) rfl (by kernel_rfl)) ?_
  intro W base args ds gs before hval0 hW hcnd hup _
  have hsz := bulk.small (P := Try.prog) (C := 65536) (ts := Try.f4.params.toList ++ Rows.txnSameSpec.plain.varTypes Try.prog) (by decide) closed (fun t ht => bulk.blt_lt (List.all_eq_true.1 (show ((Try.f4.params.toList ++ Rows.txnSameSpec.plain.varTypes Try.prog).all fun t => Nat.blt t Try.prog.types.size) = true by kernel_rfl) t ht)) hup
  have hval : ∀ (j : Nat) t v, Try.f4.params[j]? = some t → args[j]? = some v → Value.okWide Try.prog W .any base t v := hval0
  have hW' := hW
  obtain ⟨p, q, hA0, hV, rfl, hfz, hnd⟩ := hW
  have hA : DataW.TrodAll enc Try.prog W 0 (fun _ => true) true Try.f4.params.toList args.toList ds p := hA0
  have hsz1 : (DataW.weightsEach Try.prog (Try.f4.params.toList ++ Rows.txnSameSpec.plain.varTypes Try.prog) (ds ++ gs)).all (· ≤ 137438953472) = true := hsz
  rw [Try.params4] at hA hval hsz1
  obtain ⟨v0, vs0, d0, ds0, p0, q0, hargs, rfl, rfl, h0, r0⟩ := trodAll_cons hA
  obtain ⟨v1, vs1, d1, ds1, p1, q1, rfl, rfl, rfl, h1, r1⟩ := trodAll_cons r0
  obtain ⟨rfl, rfl, rfl⟩ := trodAll_nil r1
  obtain rfl : args = #[v0, v1] := by cases args; simp_all
  obtain ⟨rfl, rfl⟩ := trodVars_none hV
  have hsz2 : (d0.weights Try.prog 33 ++ d1.weights Try.prog 36).all (· ≤ 137438953472) = true := by simpa [DataW.weightsEach] using hsz1
  simp only [List.all_append, Bool.and_eq_true] at hsz2
  have k0 := h0
  have lt0 : ∀ x ∈ p0, x.block < W.heap.size := by obtain ⟨m, hm⟩ := k0; exact DataW.trod_lt m _ _ _ hm
  have t0 : SL.TrR 137438953472 Try.prog W 33 v0.cells.toList := by obtain ⟨m, hm⟩ := k0; exact ⟨H, enc, m, d0, p0, hm, hsz2.1⟩
  have o0 := hval 0 33 v0 rfl rfl
  have k1 := h1
  have lt1 : ∀ x ∈ p1, x.block < W.heap.size := by obtain ⟨m, hm⟩ := k1; exact DataW.trod_lt m _ _ _ hm
  have t1 : SL.TrR 137438953472 Try.prog W 36 v1.cells.toList := by obtain ⟨m, hm⟩ := k1; exact ⟨H, enc, m, d1, p1, hm, hsz2.2⟩
  have o1 := hval 1 36 v1 rfl rfl
  refine (SL.law_below (same_walk o0 t0 o1 t1)).mono fun e W' ⟨he, bel⟩ => ?_
  subst he
  exact ⟨_, rfl, _, _, _, [], _, [], hW', trodAll_mk1 (shut_bool Try.underlying4 _), (trodAll_cons_mk (Below.trod laidOut (by kernel_rfl) (of_decide_eq_true (by kernel_rfl)) k0 bel lt0) (trodAll_cons_mk (Below.trod laidOut (by kernel_rfl) (of_decide_eq_true (by kernel_rfl)) k1 bel lt1) trodAll_mk0)), rfl, bel.frame _, fun h => by cases h⟩

theorem proved : Rows.TxnSameUptoSaid :=
  OpenClaim.holds_of_cond 4 Try.f4 rfl rfl rfl rfl rfl rfl rfl ⟨rfl, rfl, rfl, rfl, rfl⟩ rfl rfl rfl rfl rfl (by kernel_rfl) Try.func4 (by kernel_rfl)
    (of_decide_eq_true (by kernel_rfl)) (by unfold Func.isWrapper; first | (rw [if_pos (by decide +kernel)]; kernel_rfl) | (rw [if_neg (by decide +kernel)]; exact ⟨rfl, rfl⟩))
    (fun os started H enc _ F => lifted os started H enc F)
end Go.Proofs.Ytlalbollbdlfhaa.txnSameLaw
namespace Go.Proofs.Ytlalbollbdlfhaa
theorem txnSame_holds : Rows.TxnSameUptoSaid := txnSameLaw.proved
#print axioms txnSame_holds
end Go.Proofs.Ytlalbollbdlfhaa

