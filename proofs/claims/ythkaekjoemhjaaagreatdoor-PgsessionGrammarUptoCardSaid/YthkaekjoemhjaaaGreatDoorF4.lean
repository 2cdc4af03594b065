/-
  'cormorantlaw.PgsessionGrammar' returns true for every input whose bulk is at most 1048576, and leaves its arguments as they were.
-/
import Derived.Test.YthkaekjoemhjaaaGreatDoorRows
import Derived.WalkKit
import Derived.ProofKit
import Derived.OpenShut
import Derived.SizedLaws
import Derived.LaidMore
import Derived.Lay
import Derived.SevenTiedAt
import Derived.Stop.Joined
import Derived.Test.YthkaekjoemhjaaaGreatDoorCards
import Derived.Test.YthkaekjoemhjaaaGreatDoorTie
import Derived.JoinedCond
import Derived.Test.YthkaekjoemhjaaaGreatDoorP2
import Derived.Test.YthkaekjoemhjaaaGreatDoorP7
namespace Go.Proofs.YthkaekjoemhjaaaGreatDoor.pgsessionGrammarLaw
open Go.ChangeShapes Go.WideShapes Go.ChangeAt Go.RowKit
set_option linter.unusedVariables false
theorem own : ownKnob Tryz.prog.godebug = none := by kernel_rfl
theorem laidOut : laidOutB Tryz.prog = true := by kernel_rfl
set_option maxRecDepth 100000 in
theorem lifted (os : Os) (started : os.Started) (H : Type) (enc : TypeId × Value → H) (F : Stop.Interp) :
    ReturnsInHanded {} Tryz.checked os 4 .any (fun w args => ((Rows.OpenSpec.upto Rows.pgsessionGrammarSpec).pre enc Tryz.prog Tryz.f4 Rows.pgsessionGrammarUptoRow.domain false w args ∧ laidMetH Tryz.prog Rows.pgsessionGrammarUptoRow.laid w) ∧ sizedMet enc Tryz.prog Tryz.f4 (Rows.OpenSpec.upto Rows.pgsessionGrammarSpec) false w args) (((Rows.OpenSpec.upto Rows.pgsessionGrammarSpec).at F).post enc Tryz.prog Tryz.f4 false true false false) := by
  refine handed_cond_and (C := Tryz.checked) (s := Rows.OpenSpec.upto Rows.pgsessionGrammarSpec) (k := Rows.uptoSmall) (X := fun w _ => laidMetH Tryz.prog Rows.pgsessionGrammarUptoRow.laid w) rfl (fun _ _ _ hh h => h.of_heap hh) own started (by kernel_rfl) Tryz.func4
    (cond_witness (enc := enc) (C := Tryz.checked) (os := os) (s := Rows.OpenSpec.upto Rows.pgsessionGrammarSpec) (k := Rows.uptoSmall) (X := fun w _ => laidMetH Tryz.prog Rows.pgsessionGrammarUptoRow.laid w) rfl false (World.laidAll Tryz.prog os Rows.pgsessionGrammarUptoRow.laid) #[.slice none 0 0] 8 (World.laidAll_os _ _ _)
      (World.shaped_of_ZipB (by kernel_rfl) (by kernel_rfl)) (by kernel_rfl) (x := ([.nil], [], [])) (by kernel_rfl) rfl (by kernel_rfl) (by kernel_rfl)
      (by rw [MakeChecks.laidMetH_plain _ _ _ (by kernel_rfl)]; exact laidMet_laidAll _ (by kernel_rfl) (by kernel_rfl))) ?_
  intro W base args ds gs before hval0 hW hcnd hup hL _
  have hval : ∀ (j : Nat) t v, Tryz.f4.params[j]? = some t → args[j]? = some v → Value.okWide Tryz.prog W .any base t v := hval0
  have hW' := hW
  obtain ⟨p, q, hA0, hV, rfl, hfz, hnd⟩ := hW
  have hA : DataW.TrodAll enc Tryz.prog W 0 (fun _ => true) true Tryz.f4.params.toList args.toList ds p := hA0
  rw [Tryz.params4] at hA hval
  obtain ⟨v0, vs0, d0, ds0, p0, q0, hargs, rfl, rfl, h0, r0⟩ := trodAll_cons hA
  obtain ⟨rfl, rfl, rfl⟩ := trodAll_nil r0
  obtain rfl : args = #[v0] := by cases args; simp_all
  obtain ⟨rfl, rfl⟩ := trodVars_none hV
  have k0 := h0
  have lt0 : ∀ x ∈ p0, x.block < W.heap.size := by obtain ⟨m, hm⟩ := k0; exact DataW.trod_lt m _ _ _ hm
  have t0 : Td enc Tryz.prog W 36 v0.cells.toList d0 := by obtain ⟨m, hm⟩ := k0; exact ⟨m, p0, hm⟩
  have b0 : Rows.uptoBulk d0 ≤ 1048576 := small_one hup (by simp)
  have o0 := hval 0 36 v0 rfl rfl
  refine (SL.law_below (grammar_walk hL o0 t0 b0)).mono fun e W' ⟨he, bel⟩ => ?_
  subst he
  exact ⟨_, rfl, _, _, _, [], _, [], hW', trodAll_mk1 (shut_bool Tryz.underlying4 _), (trodAll_cons_mk (Below.trod laidOut (by kernel_rfl) (of_decide_eq_true (by kernel_rfl)) k0 bel lt0) trodAll_mk0), rfl, bel.frame _, fun h => by cases h⟩
set_option maxHeartbeats 400000000 in
theorem facts : joinedFacts Tryz.checked.prog 4 Tryz.f4 (Rows.OpenSpec.upto Rows.pgsessionGrammarSpec).bare Rows.pgsessionGrammarUptoRow = true := by
  unfold joinedFacts
  simp only [Bool.and_eq_true]
  repeat' apply And.intro
  all_goals (as_aux_lemma => kernel_rfl)
theorem proved : Rows.PgsessionGrammarUptoSaid :=
  OpenClaim.holds_of_cond 4 Tryz.f4 rfl rfl rfl rfl rfl rfl rfl ⟨rfl, rfl, rfl, rfl, rfl⟩ rfl rfl rfl rfl rfl (by kernel_rfl) Tryz.func4 facts
    (of_decide_eq_true (by kernel_rfl)) (by unfold Func.isWrapper; first | (rw [if_pos (by decide +kernel)]; kernel_rfl) | (rw [if_neg (by decide +kernel)]; exact ⟨rfl, rfl⟩))
    (fun os started H enc _ F => lifted os started H enc F)
end Go.Proofs.YthkaekjoemhjaaaGreatDoor.pgsessionGrammarLaw
namespace Go.Proofs.YthkaekjoemhjaaaGreatDoor
theorem pgsessionGrammar_holds : Rows.PgsessionGrammarUptoCardSaid :=
  Claim7.holds_tied_plain_at .later [] [.data, .data, .data, .data, .listed, .data, .pinned] true (true, "3e74f42a4f92423a23fcbdf2046d132579e7d526bbce9e4833981a1b38000dc6") true pgsessionGrammarLaw.proved (fun _ h => by cases h) (by kernel_rfl) (fun _ h => by cases h) pgsessionGrammarUpto_row_tie rfl ⟨rfl, rfl⟩ (by kernel_rfl) rfl
    (fun f fn hf hfn => by
      obtain rfl : f = 4 := Option.some.inj ((show Tryz.prog.funcNamed "cormorant/cormorantlaw24.PgsessionGrammar" = some 4 by kernel_rfl).symm.trans hf) |>.symm
      obtain rfl : fn = Tryz.f4 := (Option.some.inj (Tryz.func4.symm.trans hfn)).symm
      exact ⟨by kernel_rfl, fun j t ht => by
        rw [Tryz.params4] at ht
        have hm : t ∈ [36] := by simpa using Array.mem_of_getElem? ht
        have hall : ([36].all fun u => !Tryz.prog.wantsStandIn u) = true := by kernel_rfl
        exact (show Tryz.prog.wantsStandIn t = false by simpa using List.all_eq_true.1 hall t hm)⟩)
    (by kernel_rfl)
#print axioms pgsessionGrammar_holds
end Go.Proofs.YthkaekjoemhjaaaGreatDoor
