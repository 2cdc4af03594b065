/-
  'cormorantlaw.SqlparseTurned' returns true for every input whose bulk is at most 1048576, and leaves its arguments as they were.
-/
import Derived.Test.YtkifgfanjcfedaaGreatDoorRows
import Derived.WalkKit
import Derived.ProofKit
import Derived.OpenShut
import Derived.SizedLaws
import Derived.LaidMore
import Derived.Lay
import Derived.SevenTiedAt
import Derived.Stop.Joined
import Derived.Test.YtkifgfanjcfedaaGreatDoorCards
import Derived.Test.YtkifgfanjcfedaaGreatDoorTie
import Derived.JoinedCond
import Derived.Test.YtkifgfanjcfedaaGreatDoorP2
import Derived.Test.YtkifgfanjcfedaaGreatDoorP10
namespace Go.Proofs.YtkifgfanjcfedaaGreatDoor.sqlparseTurnedLaw
open Go.ChangeShapes Go.WideShapes Go.ChangeAt Go.RowKit
set_option linter.unusedVariables false
theorem own : ownKnob Tryz.prog.godebug = none := by kernel_rfl
set_option maxRecDepth 100000 in
theorem closed : bulk.closedB Tryz.prog Tryz.prog.types.size 65536 = true := by kernel_rfl
theorem laidOut : laidOutB Tryz.prog = true := by kernel_rfl
set_option maxRecDepth 100000 in
theorem lifted (os : Os) (started : os.Started) (H : Type) (enc : TypeId × Value → H) (F : Stop.Interp) :
    ReturnsInHanded {} Tryz.checked os 8 .any (fun w args => ((Rows.OpenSpec.upto Rows.sqlparseTurnedSpec).pre enc Tryz.prog Tryz.f8 Rows.sqlparseTurnedUptoRow.domain false w args ∧ laidMetH Tryz.prog Rows.sqlparseTurnedUptoRow.laid w) ∧ sizedMet enc Tryz.prog Tryz.f8 (Rows.OpenSpec.upto Rows.sqlparseTurnedSpec) false w args) (((Rows.OpenSpec.upto Rows.sqlparseTurnedSpec).at F).post enc Tryz.prog Tryz.f8 false true false false) := by
  refine handed_cond_and (C := Tryz.checked) (s := Rows.OpenSpec.upto Rows.sqlparseTurnedSpec) (k := Rows.uptoSmall) (X := fun w _ => laidMetH Tryz.prog Rows.sqlparseTurnedUptoRow.laid w) rfl (fun _ _ _ hh h => h.of_heap hh) own started (by kernel_rfl) Tryz.func8
    (cond_witness (enc := enc) (C := Tryz.checked) (os := os) (s := Rows.OpenSpec.upto Rows.sqlparseTurnedSpec) (k := Rows.uptoSmall) (X := fun w _ => laidMetH Tryz.prog Rows.sqlparseTurnedUptoRow.laid w) rfl false (World.laidAll Tryz.prog os Rows.sqlparseTurnedUptoRow.laid) #[.agg #[.int .i64 0, .bool false, .slice none 0 0, .slice none 0 0, .int .i64 0, .int .i64 0, .bool false, .int .i64 0, .string ⟨#[]⟩, .string ⟨#[]⟩, .string ⟨#[]⟩, .int .i64 0, .int .i64 0, .bool false, .slice none 0 0, .slice none 0 0, .int .i64 0, .int .i64 0, .bool false, .int .i64 0, .string ⟨#[]⟩, .string ⟨#[]⟩, .string ⟨#[]⟩, .int .i64 0, .int .i64 0, .bool false, .slice none 0 0, .slice none 0 0, .int .i64 0, .int .i64 0, .string ⟨#[]⟩, .slice none 0 0, .slice none 0 0, .slice none 0 0, .int .i64 0, .int .i64 0, .bool false, .int .i64 0, .string ⟨#[]⟩, .string ⟨#[]⟩, .string ⟨#[]⟩, .int .i64 0, .int .i64 0, .bool false, .slice none 0 0, .slice none 0 0, .slice none 0 0, .string ⟨#[]⟩, .string ⟨#[]⟩, .slice none 0 0, .bool false], .int .i64 0] 8 (World.laidAll_os _ _ _)
      (World.shaped_of_ZipB (by kernel_rfl) (by kernel_rfl)) (by kernel_rfl) (x := ([.agg [.lit (.int .i64 0), .agg [.lit (.bool false), .nil, .nil, .agg [.lit (.int .i64 0), .agg [.lit (.int .i64 0), .lit (.bool false), .lit (.int .i64 0), .lit (.string [])], .lit (.string []), .lit (.string []), .lit (.int .i64 0), .lit (.int .i64 0), .lit (.bool false), .nil], .nil, .agg [.lit (.int .i64 0), .agg [.lit (.int .i64 0), .lit (.bool false), .lit (.int .i64 0), .lit (.string [])], .lit (.string []), .lit (.string []), .lit (.int .i64 0), .lit (.int .i64 0), .lit (.bool false), .nil], .nil, .lit (.int .i64 0), .lit (.int .i64 0)], .lit (.string []), .nil, .nil, .nil, .agg [.lit (.int .i64 0), .agg [.lit (.int .i64 0), .lit (.bool false), .lit (.int .i64 0), .lit (.string [])], .lit (.string []), .lit (.string []), .lit (.int .i64 0), .lit (.int .i64 0), .lit (.bool false), .nil], .nil, .nil, .agg [.lit (.string []), .lit (.string []), .nil, .lit (.bool false)]], .lit (.int .i64 0)], [], [])) (by kernel_rfl) rfl (by kernel_rfl) (by kernel_rfl)
      (by rw [MakeChecks.laidMetH_plain _ _ _ (by kernel_rfl)]; exact laidMet_laidAll _ (by kernel_rfl) (by kernel_rfl))) ?_
  intro W base args ds gs before hval0 hW hcnd hup hL _
  have hval : ∀ (j : Nat) t v, Tryz.f8.params[j]? = some t → args[j]? = some v → Value.okWide Tryz.prog W .any base t v := hval0
  have hW' := hW
  obtain ⟨p, q, hA0, hV, rfl, hfz, hnd⟩ := hW
  have hA : DataW.TrodAll enc Tryz.prog W 0 (fun _ => true) true Tryz.f8.params.toList args.toList ds p := hA0
  rw [Tryz.params8] at hA hval
  obtain ⟨v0, vs0, d0, ds0, p0, q0, hargs, rfl, rfl, h0, r0⟩ := trodAll_cons hA
  obtain ⟨v1, vs1, d1, ds1, p1, q1, rfl, rfl, rfl, h1, r1⟩ := trodAll_cons r0
  obtain ⟨rfl, rfl, rfl⟩ := trodAll_nil r1
  obtain rfl : args = #[v0, v1] := by cases args; simp_all
  obtain ⟨rfl, rfl⟩ := trodVars_none hV
  have k0 := h0
  have lt0 : ∀ x ∈ p0, x.block < W.heap.size := by obtain ⟨m, hm⟩ := k0; exact DataW.trod_lt m _ _ _ hm
  have t0 : Td enc Tryz.prog W 48 v0.cells.toList d0 := by obtain ⟨m, hm⟩ := k0; exact ⟨m, p0, hm⟩
  have b0 : Rows.uptoBulk d0 ≤ 1048576 := small_one hup (by simp)
  have o0 := hval 0 48 v0 rfl rfl
  have k1 := h1
  have lt1 : ∀ x ∈ p1, x.block < W.heap.size := by obtain ⟨m, hm⟩ := k1; exact DataW.trod_lt m _ _ _ hm
  have t1 : Td enc Tryz.prog W 3 v1.cells.toList d1 := by obtain ⟨m, hm⟩ := k1; exact ⟨m, p1, hm⟩
  have b1 : Rows.uptoBulk d1 ≤ 1048576 := small_one hup (by simp)
  have o1 := hval 1 3 v1 rfl rfl
  refine (SL.law_below (turned_walk hL o0 t0 b0 o1 t1 b1)).mono fun e W' ⟨he, bel⟩ => ?_
  subst he
  exact ⟨_, rfl, _, _, _, [], _, [], hW', trodAll_mk1 (shut_bool Tryz.underlying4 _), (trodAll_cons_mk (Below.trod laidOut (by kernel_rfl) (of_decide_eq_true (by kernel_rfl)) k0 bel lt0) (trodAll_cons_mk (Below.trod laidOut (by kernel_rfl) (of_decide_eq_true (by kernel_rfl)) k1 bel lt1) trodAll_mk0)), rfl, bel.frame _, fun h => by cases h⟩
set_option maxHeartbeats 400000000 in
theorem facts : joinedFacts Tryz.checked.prog 8 Tryz.f8 (Rows.OpenSpec.upto Rows.sqlparseTurnedSpec).bare Rows.sqlparseTurnedUptoRow = true := by
  unfold joinedFacts
  simp only [Bool.and_eq_true]
  repeat' apply And.intro
  all_goals (as_aux_lemma => kernel_rfl)
theorem proved : Rows.SqlparseTurnedUptoSaid :=
  OpenClaim.holds_of_cond 8 Tryz.f8 rfl rfl rfl rfl rfl rfl rfl ⟨rfl, rfl, rfl, rfl, rfl⟩ rfl rfl rfl rfl rfl (by kernel_rfl) Tryz.func8 facts
    (of_decide_eq_true (by kernel_rfl)) (by unfold Func.isWrapper; first | (rw [if_pos (by decide +kernel)]; kernel_rfl) | (rw [if_neg (by decide +kernel)]; exact ⟨rfl, rfl⟩))
    (fun os started H enc _ F => lifted os started H enc F)
end Go.Proofs.YtkifgfanjcfedaaGreatDoor.sqlparseTurnedLaw
namespace Go.Proofs.YtkifgfanjcfedaaGreatDoor
theorem sqlparseTurned_holds : Rows.SqlparseTurnedUptoCardSaid :=
  Claim7.holds_tied_plain_at .later [] [.data, .data, .data, .data, .listed, .data, .pinned] true (true, "3f5d0af5c4993c472a2403303d27592e33f5e32f339c6d30f041624c2897472a") true sqlparseTurnedLaw.proved (fun _ h => by cases h) (by kernel_rfl) (fun _ h => by cases h) sqlparseTurnedUpto_row_tie rfl ⟨rfl, rfl⟩ (by kernel_rfl) rfl
    (fun f fn hf hfn => by
      obtain rfl : f = 8 := Option.some.inj ((show Tryz.prog.funcNamed "cormorant/cormorantlaw17.SqlparseTurned" = some 8 by kernel_rfl).symm.trans hf) |>.symm
      obtain rfl : fn = Tryz.f8 := (Option.some.inj (Tryz.func8.symm.trans hfn)).symm
      exact ⟨by kernel_rfl, fun j t ht => by
        rw [Tryz.params8] at ht
        have hm : t ∈ [48, 3] := by simpa using Array.mem_of_getElem? ht
        have hall : ([48, 3].all fun u => !Tryz.prog.wantsStandIn u) = true := by kernel_rfl
        exact (show Tryz.prog.wantsStandIn t = false by simpa using List.all_eq_true.1 hall t hm)⟩)
    (by kernel_rfl)
#print axioms sqlparseTurned_holds
end Go.Proofs.YtkifgfanjcfedaaGreatDoor
