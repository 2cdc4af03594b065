import Derived.Test.YtfeonffmeajpgaaM5
import Derived.Test.YtfeonffmeajpgaaSlWalk
set_option linter.unusedSimpArgs false
set_option linter.unusedVariables false
namespace Go.Proofs.Ytfeonffmeajpgaa
open Go.SL
set_option maxRecDepth 10000

section
variable {ω : Om} {I : Imm} {L : LH} {K : Value → M}

def EntsV (I : Imm) (v : Value) (es : List LE) : Prop := ∃ cells, SlI I 4 v cells es.length ∧ Recs (LeV I) 4 es cells
theorem EntsV.mono {I I' : Imm} {v : Value} {es : List LE} (h : EntsV I v es) (hI : Ext I I') : EntsV I' v es := by
  obtain ⟨cells, hS, hR⟩ := h
  exact ⟨cells, hS.mono hI, hR.imp (fun _ _ h => h.mono hI)⟩
theorem EntsV.len {v : Value} {es : List LE} (h : EntsV I v es) : lenV v = some (.int .i64 es.length) := by
  obtain ⟨_, ⟨_, a, c, rfl, _⟩, _⟩ := h
  rfl
theorem EntsV.at {v : Value} {es : List LE} {k : Nat} (h : EntsV I v es) (hk : k < es.length) :
    ∃ b off c, ixV 4 v (.int .i64 k) = some (.pointer (some ⟨b, off, none⟩)) ∧ LeV I es[k] c ∧ ∀ I' L, Ext I I' → Cells I' L b off c := by
  obtain ⟨cells, hS, hR⟩ := h
  obtain ⟨b, off, hix, hc⟩ := SlI.ix hS .i64 hk
  obtain ⟨_, hR⟩ := hR.get (List.getElem?_eq_getElem hk)
  exact ⟨b, off, _, hix, hR, hc⟩

structure RM where
  kind : Int
  group : Int
  frm : Int
  to : Int
  term : Int
  index : Int
  logTerm : Int
  commit : Int
  ok : Bool
  entries : List LE
  members : List Int
  data : List UInt8
def MsgV (I : Imm) (m : RM) (c : List Value) : Prop := ∃ ev mv dv, c = [.int .i64 m.kind, .int .i64 m.group, .int .i64 m.frm, .int .i64 m.to, .int .i64 m.term, .int .i64 m.index, .int .i64 m.logTerm, .int .i64 m.commit, .bool m.ok, ev, mv, dv] ∧
  EntsV I ev m.entries ∧ Ints I mv m.members ∧ Bytes I dv m.data
theorem MsgV.mono {I I' : Imm} {m : RM} {c : List Value} (h : MsgV I m c) (hI : Ext I I') : MsgV I' m c := by
  obtain ⟨ev, mv, dv, hc, h1, h2, h3⟩ := h
  exact ⟨ev, mv, dv, hc, h1.mono hI, h2.mono hI, h3.mono hI⟩

def entOk (m : RM) (x : LE × Nat) : Bool := entB x.1 && (x.1.index == m.index + 1 + x.2) && decide (x.1.term ≤ m.term)
def entsB (m : RM) : Bool := decide (m.entries.length ≤ 64) && m.entries.zipIdx.all (entOk m)
def rightB (m : RM) : Bool := countB m.index && countB m.logTerm && countB m.commit && countB m.term && nodeB m.frm && nodeB m.to && decide (1 ≤ m.term) && decide (1 ≤ m.group) && decide (m.group ≤ 255) &&
  (if m.kind = 1 then !m.ok && m.commit == 0 && m.entries.isEmpty && m.members.isEmpty && m.data.isEmpty
   else if m.kind = 2 then m.index == 0 && m.logTerm == 0 && m.commit == 0 && m.entries.isEmpty && m.members.isEmpty && m.data.isEmpty
   else if m.kind = 3 then !m.ok && m.members.isEmpty && m.data.isEmpty && decide (m.logTerm ≤ m.term) && entsB m
   else if m.kind = 4 then m.logTerm == 0 && m.commit == 0 && m.entries.isEmpty && m.members.isEmpty && m.data.isEmpty
   else if m.kind = 5 then !m.ok && m.commit == 0 && decide (m.logTerm ≤ m.term) && m.entries.isEmpty && memB m.members && decide (m.data.length ≤ 60000)
   else false)

theorem cast_empty {α : Type} (l : List α) : ((l.length : Int) == 0) = l.isEmpty := by cases l <;> simp; omega

theorem entries_spec {m : RM} {c : List Value} (hm : MsgV I m c) (hi : countB m.index = true) (hk : ∀ I', Ext I I' → K (.bool (entsB m)) I' L) : Cal Try.prog ω 65 #[.agg c.toArray] K I L := by
  obtain ⟨ev, mv, dv, rfl, hE, hM, hD⟩ := hm
  have hi2 : 0 ≤ m.index ∧ m.index ≤ 9007199254740991 := by simpa [countB] using hi
  have hln := hE.len
  refine cal65 ?_
  unfold sh65
  refine newI (fun b1 => ?_)
  simp only [Pv_some, fldV_p, nilV_p, nilV_f, lenV_s, capV_s, lenSV_s, strV_s, unV_not, unV_neg, pickV_t, pickV_f, exV_t, cvIV_i, binI_add, binI_sub, binI_mul, binI_eql, binI_neq, binI_lss, binI_leq, binI_gtr, binI_geq, binI_and, binI_or, binB_eql, binB_neq, binS_eql, binS_neq, binP_eql_nil, binP_neq_nil, binN_eql_nil, binN_neq_nil, binN_eql_nn, binN_neq_nn, Br_true, Br_false, cells_agg, List.getElem?_toArray, List.getElem?_cons_zero, List.getElem?_cons_succ, Nat.zero_add, Nat.add_zero, Nat.zero_mul]
  refine rdb ?_
  simp only [hln, Pv_some, fldV_p, nilV_p, nilV_f, lenV_s, capV_s, lenSV_s, strV_s, unV_not, unV_neg, pickV_t, pickV_f, exV_t, cvIV_i, binI_add, binI_sub, binI_mul, binI_eql, binI_neq, binI_lss, binI_leq, binI_gtr, binI_geq, binI_and, binI_or, binB_eql, binB_neq, binS_eql, binS_neq, binP_eql_nil, binP_neq_nil, binN_eql_nil, binN_neq_nil, binN_eql_nn, binN_neq_nn, Br_true, Br_false, cells_agg, List.getElem?_toArray, List.getElem?_cons_zero, List.getElem?_cons_succ, Nat.zero_add, Nat.add_zero, Nat.zero_mul]
  refine br_split (fun h => ?_) (fun h => ?_)
  · refine Gh.to L (Gh.done (leafB (hk I (Ext.refl I)) ?_))
    simp at h; simp [entsB]; omega
  simp at h
  refine rdb ?_
  simp only [hln, Pv_some, fldV_p, nilV_p, nilV_f, lenV_s, capV_s, lenSV_s, strV_s, unV_not, unV_neg, pickV_t, pickV_f, exV_t, cvIV_i, binI_add, binI_sub, binI_mul, binI_eql, binI_neq, binI_lss, binI_leq, binI_gtr, binI_geq, binI_and, binI_or, binB_eql, binB_neq, binS_eql, binS_neq, binP_eql_nil, binP_neq_nil, binN_eql_nil, binN_neq_nil, binN_eql_nn, binN_neq_nn, Br_true, Br_false, cells_agg, List.getElem?_toArray, List.getElem?_cons_zero, List.getElem?_cons_succ, Nat.zero_add, Nat.add_zero, Nat.zero_mul]
  refine loop (fun s I' L' => Ext I I' ∧ L' = (b1, Obj.cells #[.int .i64 m.kind, .int .i64 m.group, .int .i64 m.frm, .int .i64 m.to, .int .i64 m.term, .int .i64 m.index, .int .i64 m.logTerm, .int .i64 m.commit, .bool m.ok, ev, mv, dv] 51 (0, 0)) :: L ∧ ∃ k : Nat, s = (.bool false, .int .i64 k, ()) ∧ k ≤ m.entries.length ∧ ∀ j (hj : j < m.entries.length), j < k → entOk m (m.entries[j], j) = true)
    (fun s _ _ => match s with | (_, .int _ k, _) => ((m.entries.length : Int) - k).toNat | _ => 0) ⟨Ext.refl I, rfl, 0, rfl, by omega, fun j _ hj => by omega⟩ ?_
  rintro s I' L' ⟨hI, rfl, k, rfl, hk1, hg⟩
  (first | (with_reducible refine unfE (sh65_1.eq_1 ..) ?_) | (with_reducible refine unfE (sh65_2.eq_1 ..) ?_) | (with_reducible refine unfE (sh65_4.eq_1 ..) ?_) | (with_reducible refine unfE (sh65_3.eq_1 ..) ?_) | (with_reducible refine unfE (sh65.eq_1 ..) ?_))
  simp only [Pv_some, fldV_p, nilV_p, nilV_f, lenV_s, capV_s, lenSV_s, strV_s, unV_not, unV_neg, pickV_t, pickV_f, exV_t, cvIV_i, binI_add, binI_sub, binI_mul, binI_eql, binI_neq, binI_lss, binI_leq, binI_gtr, binI_geq, binI_and, binI_or, binB_eql, binB_neq, binS_eql, binS_neq, binP_eql_nil, binP_neq_nil, binN_eql_nil, binN_neq_nil, binN_eql_nn, binN_neq_nn, Br_true, Br_false, cells_agg, List.getElem?_toArray, List.getElem?_cons_zero, List.getElem?_cons_succ, Nat.zero_add, Nat.add_zero, Nat.zero_mul]
  by_cases hlt : k < m.entries.length
  · have h1 : ((k : Int) < m.entries.length) := by omega
    simp only [h1, decide_true, Br_true]
    obtain ⟨b, off, c, hix, ⟨ddv, rfl, hB⟩, hc⟩ := (hE.mono hI).at hlt
    obtain ⟨_, _, rfl⟩ := hB.form
    simp only [hix, Pv_some, fldV_p, nilV_p, nilV_f, lenV_s, capV_s, lenSV_s, strV_s, unV_not, unV_neg, pickV_t, pickV_f, exV_t, cvIV_i, binI_add, binI_sub, binI_mul, binI_eql, binI_neq, binI_lss, binI_leq, binI_gtr, binI_geq, binI_and, binI_or, binB_eql, binB_neq, binS_eql, binS_neq, binP_eql_nil, binP_neq_nil, binN_eql_nil, binN_neq_nil, binN_eql_nn, binN_neq_nn, Br_true, Br_false, cells_agg, List.getElem?_toArray, List.getElem?_cons_zero, List.getElem?_cons_succ, Nat.zero_add, Nat.add_zero, Nat.zero_mul]
    refine rdN rfl (hc I' _ (Ext.refl I')) ?_
    refine newI (fun b2 => ?_)
    refine stB rfl rfl (one_all rfl) ?_
    refine rdB rfl ?_
    refine call (entry_spec (e := m.entries[k]) ⟨_, rfl, hB⟩ (fun I2 hI2 => ?_))
    simp only [Pv_some, fldV_p, nilV_p, nilV_f, lenV_s, capV_s, lenSV_s, strV_s, unV_not, unV_neg, pickV_t, pickV_f, exV_t, cvIV_i, binI_add, binI_sub, binI_mul, binI_eql, binI_neq, binI_lss, binI_leq, binI_gtr, binI_geq, binI_and, binI_or, binB_eql, binB_neq, binS_eql, binS_neq, binP_eql_nil, binP_neq_nil, binN_eql_nil, binN_neq_nil, binN_eql_nn, binN_neq_nn, Br_true, Br_false, cells_agg, List.getElem?_toArray, List.getElem?_cons_zero, List.getElem?_cons_succ, Nat.zero_add, Nat.add_zero, Nat.zero_mul]
    have bad : entOk m (m.entries[k], k) = false → entsB m = false := fun hb => by
      simp [entsB, zall_false hlt hb]
    refine gd_split (fun hn => ?_) (fun hn => ?_)
    · refine rdb ?_
      refine rdb ?_
      simp only [Pv_some, fldV_p, nilV_p, nilV_f, lenV_s, capV_s, lenSV_s, strV_s, unV_not, unV_neg, pickV_t, pickV_f, exV_t, cvIV_i, binI_add, binI_sub, binI_mul, binI_eql, binI_neq, binI_lss, binI_leq, binI_gtr, binI_geq, binI_and, binI_or, binB_eql, binB_neq, binS_eql, binS_neq, binP_eql_nil, binP_neq_nil, binN_eql_nil, binN_neq_nil, binN_eql_nn, binN_neq_nn, Br_true, Br_false, cells_agg, List.getElem?_toArray, List.getElem?_cons_zero, List.getElem?_cons_succ, Nat.zero_add, Nat.add_zero, Nat.zero_mul, wrap_i64 (m.index + 1) (by omega), wrap_i64 (m.index + 1 + k) (by omega)]
      refine gd_split (fun hn2 => ?_) (fun hn2 => ?_)
      · refine rdb ?_
        refine rdb ?_
        simp only [Pv_some, fldV_p, nilV_p, nilV_f, lenV_s, capV_s, lenSV_s, strV_s, unV_not, unV_neg, pickV_t, pickV_f, exV_t, cvIV_i, binI_add, binI_sub, binI_mul, binI_eql, binI_neq, binI_lss, binI_leq, binI_gtr, binI_geq, binI_and, binI_or, binB_eql, binB_neq, binS_eql, binS_neq, binP_eql_nil, binP_neq_nil, binN_eql_nil, binN_neq_nil, binN_eql_nn, binN_neq_nn, Br_true, Br_false, cells_agg, List.getElem?_toArray, List.getElem?_cons_zero, List.getElem?_cons_succ, Nat.zero_add, Nat.add_zero, Nat.zero_mul]
        refine br_split (fun hn3 => ?_) (fun hn3 => ?_)
        · unfold sh65_4
          refine Gh.to L (Gh.done (leafB (hk I2 (hI.trans hI2)) (bad ?_)))
          simp at hn3; simp [entOk]; omega
        · simp only [wrap_i64 ((k : Int) + 1) (by omega)]
          refine Gh.to ((b1, _) :: L) (Gh.done ⟨⟨hI.trans hI2, rfl, k + 1, by simp, by omega, fun j hj hjk => ?_⟩, by omega⟩)
          rcases Nat.lt_or_eq_of_le (Nat.le_of_lt_succ hjk) with h | h
          · exact hg j hj h
          · subst h
            simp at hn hn2 hn3
            simp [entOk, hn, hn2, hn3]
      · unfold sh65_4
        refine Gh.to L (Gh.done (leafB (hk I2 (hI.trans hI2)) (bad ?_)))
        simp at hn2; simp [entOk, hn2]
    · unfold sh65_4
      refine Gh.to L (Gh.done (leafB (hk I2 (hI.trans hI2)) (bad ?_)))
      simp at hn; simp [entOk, hn]
  · have h1 : ¬ ((k : Int) < m.entries.length) := by omega
    simp only [h1, decide_false, Br_false]
    unfold sh65_2 sh65_1
    refine Gh.to L (Gh.done (leafB (hk I' hI) ?_))
    simp only [entsB]
    rw [zall_true (fun j hj => hg j hj (by omega))]
    simp; omega

end
end Go.Proofs.Ytfeonffmeajpgaa
