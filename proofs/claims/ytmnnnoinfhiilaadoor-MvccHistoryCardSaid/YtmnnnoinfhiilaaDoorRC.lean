/-
  A new space, awake; any calls: the law's loop.
-/
-- S3
import Derived.Test.YtmnnnoinfhiilaaDoorRB
set_option linter.unusedSimpArgs false
set_option linter.unusedVariables false
namespace Go.Proofs.YtmnnnoinfhiilaaDoor
open Go.SL
set_option maxRecDepth 10000
section
variable {ω : Om} {I : Imm} {L : LH} {K : Value → M}
def sp0 : Sp := ⟨[], ⟨0, 0⟩⟩
def nt0 : Nts := fun _ => none
theorem sp0_ok : SpOk sp0 := ⟨List.Pairwise.nil, (fun r hr => by cases hr), by decide⟩
theorem new_spec (hk : ∀ b X, SpR I b X sp0 nt0 → K (pt b) I (X ++ L)) : Cal Tryd.prog ω 8 #[] K I L := by
  refine cal8 ?_
  unfold sh8
  refine newm (fun m => Gh.done (newm (fun ch => Gh.done ?_)))
  try simp only [SSd, Nat.reduceAdd]
  refine newI (fun b => ?_)
  refine Gh.perm (L' := ((b, spO m (.slice none 0 0) ⟨0, 0⟩ ch) :: (m, .map #[] 0) :: ([] ++ ([] ++ [(ch, .map #[] 0)]))) ++ L) (ms_perm (by ((try simp only [ms_cons, ms_app, ms_nil, ms_nil']); (try ac_rfl)))) (Gh.done (hk b _ ?_))
  exact ⟨[], m, ch, _, _, _, [], [], [(ch, .map #[] 0)], List.Perm.refl _, MapS.empty, SlO.none _ 1, rfl, ⟨#[], 0, fun _ => none, rfl, MapS.empty, fun k => .inl ⟨rfl, rfl⟩⟩⟩
theorem ob_ne {X : LH} {v : Value} {l : List UInt8} (h : OB X v l) (h0 : l ≠ []) : X ≠ [] := by
  rintro rfl
  rcases h.2 with ⟨_, h1, _⟩ | ⟨b, cap, cs, h1, _⟩
  · exact h0 (List.eq_nil_of_length_eq_zero h1)
  · cases h1
def wakeX : TIntent := ⟨[97], 1, ⟨5, 0⟩, false, [120]⟩
theorem awake_spec (hk : ∀ I', Ext I I' → K (.bool true) I' L) : Cal Tryd.prog ω 7 #[] K I L := by
  refine cal7 ?_
  unfold sh7
  refine call (new_spec (fun b X hS => ?_))
  try simp only [SSd, Nat.reduceAdd]
  refine by1 (c := 97) (fun X1 u1 h1 => Gh.done ?_)
  refine mrk_own h1 (ob_ne h1 (by simp)) (fun I1 hI1 hb1 => ?_)
  obtain ⟨a1, c1, rfl⟩ := Bytes.form hb1
  try simp only [SSd, Nat.reduceAdd]
  refine by1 (c := 120) (fun X2 u2 h2 => Gh.done ?_)
  refine mrk_own h2 (ob_ne h2 (by simp)) (fun I2 hI2 hb2 => ?_)
  obtain ⟨a2, c2, rfl⟩ := Bytes.form hb2
  try simp only [SSd, Nat.reduceAdd]
  refine call (put_spec (x := wakeX) (hS.mono (hI1.trans hI2)) sp0_ok (by simp [sp0]) (fun r hr => by cases hr) ⟨_, _, rfl, Bytes.mono hb1 hI2, hb2⟩ (fun X' I3 hI3 h3 => ?_))
  rw [show putA sp0 wakeX = (⟨5, 0⟩, 0, 0) by kernel_rfl]
  try simp only [SSd, Nat.reduceAdd]
  refine newI (fun b1 => ?_)
  refine stB rfl rfl (one_all rfl) ?_
  refine by1 (c := 97) (fun X3 u3 h4 => Gh.done ?_)
  refine mrk_own h4 (ob_ne h4 (by simp)) (fun I4 hI4 hb4 => ?_)
  try simp only [SSd, Nat.reduceAdd]
  have hok : SpOk (putS sp0 wakeX) := sp0_ok.put
  have hro : putS sp0 wakeX = ⟨[⟨[97], [], ⟨⟨⟨5, 0⟩, false, [120]⟩, 1⟩⟩], ⟨0, 0⟩⟩ := by
    unfold putS
    rw [show putA sp0 wakeX = (⟨5, 0⟩, 0, 0) by kernel_rfl]
    rfl
  refine call (get_spec (m := ⟨1, 0⟩) ((h3.mono hI4).view (fun x hx => by simp [hx])) hok.rise (fun r hr => ?_) hb4 (fun I5 v0 hI5 hv0 => ?_))
  · rw [hro] at hr
    simp only [List.mem_singleton] at hr
    subst hr; simp
  rw [show getF (putS sp0 wakeX) [97] ⟨1, 0⟩ 1 = (gotV [120] ⟨5, 0⟩, 0) by rw [hro]; kernel_rfl] at hv0 ⊢
  obtain ⟨va, vc, rfl⟩ := Bytes.form hv0
  simp only [gotV, SSd, Nat.reduceAdd]
  refine newI (fun b2 => ?_)
  refine stB rfl rfl (one_all rfl) ?_
  simp only [beq_self_eq_true, SSd, Nat.reduceAdd]
  refine rdB rfl ?_
  simp only [beq_self_eq_true, Bool.and_self, SSd, Nat.reduceAdd]
  refine rdb ?_
  try simp only [SSd, Nat.reduceAdd]
  refine rdb ?_
  refine bs_N hv0 (Ext.refl _) ?_
  have e : binSV .eql (.string ⟨(gotV [120] ⟨5, 0⟩).fValue.toArray⟩) (.string (ByteArray.mk #[120])) = some (.bool true) := by
    show binSV .eql (.string ⟨([120] : List UInt8).toArray⟩) (.string ⟨([120] : List UInt8).toArray⟩) = _
    rw [sEq]; rfl
  simp only [gotV] at e
  simp only [e, SSd, Nat.reduceAdd]
  exact Gh.to L (Gh.done (hk I5 (hI1.trans (hI2.trans (hI3.trans (hI4.trans hI5))))))
end
end Go.Proofs.YtmnnnoinfhiilaaDoor
