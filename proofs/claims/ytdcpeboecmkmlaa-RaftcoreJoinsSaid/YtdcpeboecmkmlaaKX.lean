/-
  Copies of logs (from the text X of the layer below).
-/
-- S4
import Derived.Test.YtdcpeboecmkmlaaR
set_option linter.unusedSimpArgs false
set_option linter.unusedVariables false
namespace Go.Proofs.Ytdcpeboecmkmlaa
open Go.SL
set_option maxRecDepth 10000

section
variable {ω : Om} {I : Imm} {L : LH} {K : Value → M}

theorem LogV.mono' {I I' : Imm} {L L' : LH} {b : Nat} {g : LG} (h : LogV I L b g) (hI : Ext I I') (hL : ∀ x ∈ L, x ∈ L') : LogV I' L' b g := LogV.to h hI (hL := ⟨hL⟩)
theorem RL.toI {α : Type} {R : Imm → α → List Value → Prop} {n : Nat} {v : Value} {xs : List α} (hn : 0 < n) (h : RL R n I [] v xs) : ∃ cells, SlI I n v cells xs.length ∧ Recs (R I) n xs cells := by
  obtain ⟨a, cap, cells, rfl, hle, hw, hR⟩ := h
  refine ⟨cells, ⟨hw.length, a, cap, rfl, hle, fun h0 => ?_⟩, hR⟩
  rcases hw with ⟨a', cap', e1, e2, _⟩ | ⟨b, off, cap', e1, hl, hc⟩ | ⟨s, e1, _⟩
  · exact absurd e2 h0
  · simp only [Value.slice.injEq] at e1
    obtain ⟨rfl, _, rfl⟩ := e1
    have hpos : 0 < cells.length := by rw [hl]; exact Nat.mul_pos (by omega) hn
    obtain ⟨cs, T, fr, hm, _⟩ := hc 0 _ (List.getElem?_eq_getElem hpos)
    rcases hm with hm | hm
    · cases hm
    · refine ⟨b, off, cs, T, fr, rfl, hm, fun j u hu => ?_⟩
      obtain ⟨cs', T', fr', hm', hv⟩ := hc j u hu
      rcases hm' with hm' | hm'
      · cases hm'
      · rw [hm] at hm'
        simp only [Option.some.injEq, Obj.cells.injEq] at hm'
        rw [hm'.1]; exact hv
  · cases e1

theorem clipE_spec {L0 : LH} {v : Value} {es : List LE} (h : LsV I L0 v es) (hk : ∀ a, LsV I L0 (.slice a es.length es.length) es → K (.slice a es.length es.length) I L) : Cal Try.prog ω 84 #[v] K I L := by
  refine cal84 ?_
  unfold sh84
  simp only [RL.len h, SSe, List.getElem?_toArray, List.getElem?_cons_zero, List.getElem?_cons_succ, Nat.zero_add, Nat.add_zero, Nat.zero_mul]
  obtain ⟨a, hs, hl⟩ := RL.clip h (Nat.le_refl _)
  rw [List.take_of_length_le (Nat.le_refl _)] at hl
  simp only [hs, SSe, List.getElem?_toArray, List.getElem?_cons_zero, List.getElem?_cons_succ, Nat.zero_add, Nat.add_zero, Nat.zero_mul]
  exact Gh.done (hk a hl)

theorem copy_spec {b : Nat} {g : LG} {L0 : LH} {mv lv : Value} [LSub L0 L] (hc : Cells I L b 0 [.int .i64 g.index, .int .i64 g.term, mv, lv, .int .i64 g.commit]) (hm : Ints I mv g.mem) (hl : LsV I L0 lv g.es) (hml : g.mem.length ≤ 5)
    (hk : ∀ b' mv' a I', Ext I I' → Ints I' mv' g.mem → LsV I' L0 (.slice a g.es.length g.es.length) g.es → K (.pointer (some ⟨b', 0, none⟩)) I' ((b', Obj.cells #[.int .i64 g.index, .int .i64 g.term, mv', .slice a g.es.length g.es.length, .int .i64 g.commit] 112 (0, 0)) :: L)) :
    Cal Try.prog ω 33 #[.pointer (some ⟨b, 0, none⟩)] K I L := by
  have c3 := hc 3 _ rfl
  have c4 := hc 4 _ rfl
  have c5 : Cells I L b 0 [.int .i64 g.index, .int .i64 g.term, mv] := Cells.sub (k := 0) (m := 3) hc
  simp only [Nat.zero_add] at c3 c4
  refine cal33 ?_
  unfold sh33
  refine drawC ?_
  try simp only [SSe, List.getElem?_toArray, List.getElem?_cons_zero, List.getElem?_cons_succ, Nat.zero_add, Nat.add_zero, Nat.zero_mul]
  refine rdNCS c5 (Ext.refl _) rfl ?_
  refine call (copied_spec hm (by omega) (fun mv' I1 hI1 hm1 => ?_))
  refine keepC hI1 ?_
  refine rdCS c3 (Ext.refl _) ?_
  refine call (clipE_spec (LsV.to (L' := L0) hl hI1) (fun a ha => ?_))
  refine keepC hI1 ?_
  refine rdCS c4 (Ext.refl _) ?_
  simp only [bldL, SSe, List.getElem?_toArray, List.getElem?_cons_zero, List.getElem?_cons_succ, Nat.zero_add, Nat.add_zero, Nat.zero_mul]
  refine newI (fun b' => ?_)
  exact Gh.done (hk b' mv' a I1 hI1 hm1 ha)

theorem rcopy_spec {b : Nat} {X F : LH} {g : LG} (h : LogQ I b X g) (hl : g.es.length * 48 ≤ 150000000000000) (hk : ∀ b' Y I', Ext I I' → LogQ I' b' Y g → K (.pointer (some ⟨b', 0, none⟩)) I' (Y ++ (X ++ F))) : Cal Try.prog ω 34 #[.pointer (some ⟨b, 0, none⟩)] K I (X ++ F) := by
  have h' := h
  obtain ⟨mv, lv, rfl, hm, hE⟩ := h
  have hm' := hm
  obtain ⟨a, cap, rfl⟩ := Ints.form hm'
  have hE' := hE
  obtain ⟨a2, cap2, rfl⟩ := RL.form hE'
  refine cal34 ?_
  unfold sh34
  simp only [SSe, List.getElem?_toArray, List.getElem?_cons_zero, List.getElem?_cons_succ, Nat.zero_add, Nat.add_zero, Nat.zero_mul, List.cons_append, List.nil_append]
  refine rdB rfl ?_
  refine newI (fun b1 => ?_)
  refine stB rfl rfl (one_all rfl) ?_
  refine bld_zero (fun X0 u hX0 => ?_)
  try simp only [SSe, List.getElem?_toArray, List.getElem?_cons_zero, List.getElem?_cons_succ, Nat.zero_add, Nat.add_zero, Nat.zero_mul]
  refine rdb ?_
  refine copy_app (X := X0) (Ents.to hE (Ext.refl _)) hX0 hl (fun X' v' cells' h6 hR' => Gh.done ?_)
  try simp only [SSe, List.getElem?_toArray, List.getElem?_cons_zero, List.getElem?_cons_succ, Nat.zero_add, Nat.add_zero, Nat.zero_mul]
  refine st1 (gr_one (I := I) (.inl h6)) ?_
  refine Ents.ofO h6 hR' (fun I2 hI2 hE2 => ?_)
  exact Gh.done (hk b1 [_] I2 hI2 ⟨_, v', rfl, hm.mono hI2, hE2⟩)

end
end Go.Proofs.Ytdcpeboecmkmlaa
