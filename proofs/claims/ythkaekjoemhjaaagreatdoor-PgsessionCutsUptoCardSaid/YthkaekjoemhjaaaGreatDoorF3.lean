/-
  'cormorantlaw.PgsessionCuts' returns true for every input whose bulk is at most 1048576, and leaves its arguments as they were.
-/
import Derived.Test.YthkaekjoemhjaaaGreatDoorRows
import Derived.WalkKit
import Derived.ProofKit
import Derived.OpenShut
import Derived.SizedLaws
import Derived.LaidMore
import Derived.Lay
import Derived.SevenTiedAt
import Derived.Stop.Joined
import Derived.Test.YthkaekjoemhjaaaGreatDoorCards
import Derived.Test.YthkaekjoemhjaaaGreatDoorTie
import Derived.JoinedCond
import Derived.Test.YthkaekjoemhjaaaGreatDoorP2
import Derived.Test.YthkaekjoemhjaaaGreatDoorP6
namespace Go.Proofs.YthkaekjoemhjaaaGreatDoor.pgsessionCutsLaw
open Go.ChangeShapes Go.WideShapes Go.ChangeAt Go.RowKit
set_option linter.unusedVariables false
theorem own : ownKnob Tryz.prog.godebug = none := by kernel_rfl
theorem laidOut : laidOutB Tryz.prog = true := by kernel_rfl
set_option maxRecDepth 100000 in
theorem lifted (os : Os) (started : os.Started) (H : Type) (enc : TypeId × Value → H) (F : Stop.Interp) :
    ReturnsInHanded {} Tryz.checked os 3 .any (fun w args => ((Rows.OpenSpec.upto Rows.pgsessionCutsSpec).pre enc Tryz.prog Tryz.f3 Rows.pgsessionCutsUptoRow.domain false w args ∧ laidMetH Tryz.prog Rows.pgsessionCutsUptoRow.laid w) ∧ sizedMet enc Tryz.prog Tryz.f3 (Rows.OpenSpec.upto Rows.pgsessionCutsSpec) false w args) (((Rows.OpenSpec.upto Rows.pgsessionCutsSpec).at F).post enc Tryz.prog Tryz.f3 false true false false) := by
  refine handed_cond_and (C := Tryz.checked) (s := Rows.OpenSpec.upto Rows.pgsessionCutsSpec) (k := Rows.uptoSmall) (X := fun w _ => laidMetH Tryz.prog Rows.pgsessionCutsUptoRow.laid w) rfl (fun _ _ _ hh h => h.of_heap hh) own started (by kernel_rfl) Tryz.func3
    (cond_witness (enc := enc) (C := Tryz.checked) (os := os) (s := Rows.OpenSpec.upto Rows.pgsessionCutsSpec) (k := Rows.uptoSmall) (X := fun w _ => laidMetH Tryz.prog Rows.pgsessionCutsUptoRow.laid w) rfl false (World.laidAll Tryz.prog os Rows.pgsessionCutsUptoRow.laid) #[.slice none 0 0, .slice none 0 0, .slice none 0 0] 8 (World.laidAll_os _ _ _)
      (World.shaped_of_ZipB (by kernel_rfl) (by kernel_rfl)) (by kernel_rfl) (x := ([.nil, .nil, .nil], [], [])) (by kernel_rfl) rfl (by kernel_rfl) (by kernel_rfl)
      (by rw [MakeChecks.laidMetH_plain _ _ _ (by kernel_rfl)]; exact laidMet_laidAll _ (by kernel_rfl) (by kernel_rfl))) ?_
  intro W base args ds gs before hval0 hW hcnd hup hL _
  have hval : ∀ (j : Nat) t v, Tryz.f3.params[j]? = some t → args[j]? = some v → Value.okWide Tryz.prog W .any base t v := hval0
  have hW' := hW
  obtain ⟨p, q, hA0, hV, rfl, hfz, hnd⟩ := hW
  have hA : DataW.TrodAll enc Tryz.prog W 0 (fun _ => true) true Tryz.f3.params.toList args.toList ds p := hA0
  rw [Tryz.params3] at hA hval
  obtain ⟨v0, vs0, d0, ds0, p0, q0, hargs, rfl, rfl, h0, r0⟩ := trodAll_cons hA
  obtain ⟨v1, vs1, d1, ds1, p1, q1, rfl, rfl, rfl, h1, r1⟩ := trodAll_cons r0
  obtain ⟨v2, vs2, d2, ds2, p2, q2, rfl, rfl, rfl, h2, r2⟩ := trodAll_cons r1
  obtain ⟨rfl, rfl, rfl⟩ := trodAll_nil r2
  obtain rfl : args = #[v0, v1, v2] := by cases args; simp_all
  obtain ⟨rfl, rfl⟩ := trodVars_none hV
  have k0 := h0
  have lt0 : ∀ x ∈ p0, x.block < W.heap.size := by obtain ⟨m, hm⟩ := k0; exact DataW.trod_lt m _ _ _ hm
  have t0 : Td enc Tryz.prog W 22 v0.cells.toList d0 := by obtain ⟨m, hm⟩ := k0; exact ⟨m, p0, hm⟩
  have b0 : Rows.uptoBulk d0 ≤ 1048576 := small_one hup (by simp)
  have o0 := hval 0 22 v0 rfl rfl
  have k1 := h1
  have lt1 : ∀ x ∈ p1, x.block < W.heap.size := by obtain ⟨m, hm⟩ := k1; exact DataW.trod_lt m _ _ _ hm
  have t1 : Td enc Tryz.prog W 23 v1.cells.toList d1 := by obtain ⟨m, hm⟩ := k1; exact ⟨m, p1, hm⟩
  have b1 : Rows.uptoBulk d1 ≤ 1048576 := small_one hup (by simp)
  have o1 := hval 1 23 v1 rfl rfl
  have k2 := h2
  have lt2 : ∀ x ∈ p2, x.block < W.heap.size := by obtain ⟨m, hm⟩ := k2; exact DataW.trod_lt m _ _ _ hm
  have t2 : Td enc Tryz.prog W 24 v2.cells.toList d2 := by obtain ⟨m, hm⟩ := k2; exact ⟨m, p2, hm⟩
  have b2 : Rows.uptoBulk d2 ≤ 1048576 := small_one hup (by simp)
  have o2 := hval 2 24 v2 rfl rfl
  refine (SL.law_below (cuts_walk hL o0 t0 b0 o1 t1 b1 o2 t2 b2)).mono fun e W' ⟨he, bel⟩ => ?_
  subst he
  exact ⟨_, rfl, _, _, _, [], _, [], hW', trodAll_mk1 (shut_bool Tryz.underlying4 _), (trodAll_cons_mk (Below.trod laidOut (by kernel_rfl) (of_decide_eq_true (by kernel_rfl)) k0 bel lt0) (trodAll_cons_mk (Below.trod laidOut (by kernel_rfl) (of_decide_eq_true (by kernel_rfl)) k1 bel lt1) (trodAll_cons_mk (Below.trod laidOut (by kernel_rfl) (of_decide_eq_true (by kernel_rfl)) k2 bel lt2) trodAll_mk0))), rfl, bel.frame _, fun h => by cases h⟩
set_option maxHeartbeats 400000000 in
theorem facts : joinedFacts Tryz.checked.prog 3 Tryz.f3 (Rows.OpenSpec.upto Rows.pgsessionCutsSpec).bare Rows.pgsessionCutsUptoRow = true := by
  unfold joinedFacts
  simp only [Bool.and_eq_true]
  repeat' apply And.intro
  all_goals (as_aux_lemma => kernel_rfl)
theorem proved : Rows.PgsessionCutsUptoSaid :=
  OpenClaim.holds_of_cond 3 Tryz.f3 rfl rfl rfl rfl rfl rfl rfl ⟨rfl, rfl, rfl, rfl, rfl⟩ rfl rfl rfl rfl rfl (by kernel_rfl) Tryz.func3 facts
    (of_decide_eq_true (by kernel_rfl)) (by unfold Func.isWrapper; first | (rw [if_pos (by decide +kernel)]; kernel_rfl) | (rw [if_neg (by decide +kernel)]; exact ⟨rfl, rfl⟩))
    (fun os started H enc _ F => lifted os started H enc F)
end Go.Proofs.YthkaekjoemhjaaaGreatDoor.pgsessionCutsLaw
namespace Go.Proofs.YthkaekjoemhjaaaGreatDoor
theorem pgsessionCuts_holds : Rows.PgsessionCutsUptoCardSaid :=
  Claim7.holds_tied_plain_at .later [] [.data, .data, .data, .data, .listed, .data, .pinned] true (true, "3e74f42a4f92423a23fcbdf2046d132579e7d526bbce9e4833981a1b38000dc6") true pgsessionCutsLaw.proved (fun _ h => by cases h) (by kernel_rfl) (fun _ h => by cases h) pgsessionCutsUpto_row_tie rfl ⟨rfl, rfl⟩ (by kernel_rfl) rfl
    (fun f fn hf hfn => by
      obtain rfl : f = 3 := Option.some.inj ((show Tryz.prog.funcNamed "cormorant/cormorantlaw24.PgsessionCuts" = some 3 by kernel_rfl).symm.trans hf) |>.symm
      obtain rfl : fn = Tryz.f3 := (Option.some.inj (Tryz.func3.symm.trans hfn)).symm
      exact ⟨by kernel_rfl, fun j t ht => by
        rw [Tryz.params3] at ht
        have hm : t ∈ [22, 23, 24] := by simpa using Array.mem_of_getElem? ht
        have hall : ([22, 23, 24].all fun u => !Tryz.prog.wantsStandIn u) = true := by kernel_rfl
        exact (show Tryz.prog.wantsStandIn t = false by simpa using List.all_eq_true.1 hall t hm)⟩)
    (by kernel_rfl)
#print axioms pgsessionCuts_holds
end Go.Proofs.YthkaekjoemhjaaaGreatDoor
