/-
  A node answers any calls as the document says: the walk.
-/
-- S3
import Derived.Test.YtdcpeboecmkmlaaGreatNG
set_option linter.unusedSimpArgs false
set_option linter.unusedVariables false
namespace Go.Proofs.YtdcpeboecmkmlaaGreat
open Go.SL
set_option maxRecDepth 10000

/-! ### How much is sent -/
section
variable {E B : Nat} {r : RF} {m : RM}
theorem len_send (r : RF) (m : RM) : (sendF r m).out.length = r.out.length + 1 := by simp [sendF]
theorem len_sendTo (r : RF) (p : Int) : (sendToF r p).out.length = r.out.length + 1 := len_send _ _
theorem len_tick (hw : RWF E B r) (hE : (E + 1) * 48 ≤ 150000000000000) (w : Int) : (tickF r w).out.length ≤ r.out.length + 5 := by
  have he := hw.ela
  have hw' : RWF E (B + 1) { r with elapsed := r.elapsed + 1 } := ⟨hw.wf, hw.len, hw.grp, hw.idn, hw.trm, hw.vot, hw.lst, hw.stl, by simp only; omega, hw.nxb, hw.mtb⟩
  have h1 := all_out r hw
  have h2 := want_out hw' hE
  unfold tickF; split
  · exact h1
  · split
    · exact h2
    · simp
theorem len_add (hw : RWF E B r) (hE : (E + 1) * 48 ≤ 150000000000000) (k : Int) (d : List UInt8) : (addF r k d).2.2.out.length ≤ r.out.length + 5 := by
  have h1 := all_out _ (hw.add hE k d).commit
  rw [commit_out] at h1
  unfold addF; simp only; split
  · exact Nat.le_add_right _ _
  · exact h1
theorem len_propose (hw : RWF E B r) (hE : (E + 1) * 48 ≤ 150000000000000) (d : List UInt8) : (proposeF r d).2.2.out.length ≤ r.out.length + 5 := by
  unfold proposeF; split
  · simp
  · exact len_add hw hE _ _
theorem len_change (hw : RWF E B r) (hE : (E + 1) * 48 ≤ 150000000000000) (l : List Int) : (changeF r l).2.2.out.length ≤ r.out.length + 5 := by
  unfold changeF; split
  · simp
  · split
    · simp
    · split
      · simp
      · exact len_add hw hE _ _
theorem len_appended (hw : RWF E B r) (hr : RB m) : (appendedF r m).out.length ≤ r.out.length + 5 := by
  have hidx := hr.idx
  have hnx := hw.nxb m.frm
  have hmt := hw.mtb m.frm
  have hw' : RWF E B { r with mt := updI r.mt m.frm (max (r.mt m.frm) m.index), nx := updI r.nx m.frm (max (r.mt m.frm) m.index + 1) } :=
    ⟨hw.wf, hw.len, hw.grp, hw.idn, hw.trm, hw.vot, hw.lst, hw.stl, hw.ela, fun p => by simp only [updI]; split <;> first | omega | exact hw.nxb p, fun p => by simp only [updI]; split <;> first | omega | exact hw.mtb p⟩
  have h1 := all_out _ hw'.commit
  have h2 := len_sendTo (commitF { r with mt := updI r.mt m.frm (max (r.mt m.frm) m.index), nx := updI r.nx m.frm (max (r.mt m.frm) m.index + 1) }).2 m.frm
  have h3 := len_sendTo { r with nx := updI r.nx m.frm (max m.index (r.mt m.frm) + 1) } m.frm
  have h4 := commit_out { r with mt := updI r.mt m.frm (max (r.mt m.frm) m.index), nx := updI r.nx m.frm (max (r.mt m.frm) m.index + 1) }
  rw [h4] at h1 h2
  simp only at h1 h2 h3
  unfold appendedF
  simp only
  split
  · split
    · omega
    · omega
  · split
    · omega
    · split
      · exact h1
      · split
        · omega
        · rw [h4]; simp
theorem len_handle (hw : RWF E B r) (hE : (E + 64) * 48 ≤ 150000000000000) (hr : RB m) : (handleF r m).out.length ≤ r.out.length + 5 := by
  have hw' : RWF E B { r with vt := updI r.vt m.frm true } := ⟨hw.wf, hw.len, hw.grp, hw.idn, hw.trm, hw.vot, hw.lst, hw.stl, hw.ela, hw.nxb, hw.mtb⟩
  have h1 := lead_out hw' (by omega)
  simp only at h1
  have h2 := len_appended hw hr
  unfold handleF
  split
  · unfold askedF; simp only; rw [len_send]; split <;> simp
  · split
    · unfold grantedF; simp only; split
      · split
        · exact h1
        · simp
      · omega
    · split
      · split
        · omega
        · unfold appendF; simp only; split
          · simp [hearF]
          · rw [len_send]; split <;> simp [hearF, settleF]
      · split
        · split
          · omega
          · unfold installF; simp only; split
            · rw [len_send]; simp [hearF]
            · split
              · simp [hearF]
              · rw [len_send]; simp [hearF]
        · split
          · split
            · exact h2
            · omega
          · omega
theorem len_step (hw : RWF E B r) (hE : (E + 64) * 48 ≤ 150000000000000) (m : RM) : (stepF r m).2.out.length ≤ r.out.length + 5 := by
  unfold stepF; split
  · simp
  · rename_i hn
    have hr : rightB m = true := by
      cases hb : rightB m
      · exact absurd (.inl hb) hn
      · rfl
    have hR := right_data hr
    split
    · simp only
      unfold refuseF; split
      · rw [len_send]; omega
      · split
        · rw [len_send]; omega
        · omega
    · have := len_handle (m := m) (hw.up hR) hE hR
      simp only
      have e : (upF r m).out = r.out := by unfold upF; split <;> rfl
      rw [e] at this; exact this
end

section
variable {ω : Om} {I : Imm} {L : LH} {K : Value → M}
theorem Gh.split {A : M} (X : LH) {R : LH} [h : SplitL X L R] (hc : Gh A I (X ++ R)) : Gh A I L := Gh.perm h.perm hc
theorem newGh {o : Obj} (h : ∀ b, Gh (K (.pointer (some ⟨b, 0, none⟩))) I ((b, o) :: L)) : New o (gh K) I L := fun b => h b
theorem after2_spec {Kn : Value × Value × Value × Value × Unit → M} {b c k : Nat} {X Y F L' : LH} {r' : RF} {v : Value} {n e : Int} [hs : SubP (Y ++ (X ++ F)) L'] (hR : RaftR I b X (takeF r')) (hQ : RaftQ I c Y r') (hv : Msgs I [] v r'.out) (hok : OutOk r') (hol : r'.out.length ≤ 100)
    (hw : WF r'.g) (hst : r'.st.length ≤ 60000) (hk200 : k ≤ 200) (hk : ∀ Y' I', Ext I I' → RaftR I' b X (takeF r') → RaftQ I' c Y' (takeF r') → Kn (.bool false, .pointer (some ⟨b, 0, none⟩), .pointer (some ⟨c, 0, none⟩), .int .i64 (k + 1), ()) I' (Y' ++ (X ++ F))) :
    sh3_4 ω (.bool false) (.pointer (some ⟨b, 0, none⟩)) (.pointer (some ⟨c, 0, none⟩)) (.int .i64 k) v (.int .i64 n) (.int .i64 n) (.int .i64 e) (.int .i64 e) Kn K I L' := by
  unfold sh3_4
  refine call (Cal.to (Y ++ (X ++ F)) (qtake_spec hQ (fun Y' w I1 hI1 hw1 hQ' => ?_)))
  refine call (samemsgs_spec (RL.mono (fun _ _ h => MsgV.mono h hI1) hv hI1 (fun _ h => h)) hw1 (by omega) hok ?_)
  refine call (same11_spec (hR.mono hI1) hQ' hw hst (fun I2 hI2 => ?_))
  simp only [SSd, List.getElem?_toArray, List.getElem?_cons_zero, List.getElem?_cons_succ, Nat.zero_add, Nat.add_zero, Nat.zero_mul, List.drop_succ_cons, List.drop_zero, List.take_succ_cons, List.take_zero, List.nil_append, List.cons_append, Nat.reduceAdd, List.drop_nil, List.take_nil, bne_self_eq_false, Bool.not_true, wrap_i64 ((k : Int) + 1) (by omega)]
  exact hk Y' I2 (hI1.trans hI2) ((hR.mono hI1).mono hI2) (hQ'.mono hI2)

def SInv (x : TStart) (n : Nat) (F : LH) (I2 : Imm) (mm : Nat) (s : Value × Value × Value × Value × Unit) : M := fun I' L' =>
  Ext I2 I' ∧ ∃ (k b c : Nat) (X Y : LH) (r : RF), k + mm = n ∧ s = ((.bool false, .pointer (some ⟨b, 0, none⟩), .pointer (some ⟨c, 0, none⟩), .int .i64 k, ()) : Value × Value × Value × Value × Unit) ∧ RaftR I' b X r ∧ RaftQ I' c Y r ∧ RWF (x.fEntries.length + 65 * k) k r ∧ r.out = [] ∧ r.group = x.fGroup ∧ r.id = x.fId ∧ k ≤ 200 ∧ L' = Y ++ (X ++ F)

set_option maxHeartbeats 1000000 in
theorem scripts_law {rz : Nat} {x : TStart} {c : List Value} {v1 : Value} {ss : List TStep} (h0 : TStartV I x c) (h1 : RL TStepV 16 I [] v1 ss) (hb0 : TStartB rz x) (hb1 : ∀ y ∈ ss, TStepB rz y) (hsl : ss.length < 4611686018427387904) (hrz : rz ≤ 140737488351232)
    (hk : ∀ I' L', Ext I I' → K (.bool true) I' L') : Cal Tryz.prog ω 3 #[.agg c.toArray, v1] K I L := by
  obtain ⟨g1, g2, g3, g4, g5, g6, g7, g8, g9, g10, g11, g12⟩ := id hb0
  have h0' := h0
  obtain ⟨w0, w1, w2, rfl, hm, hes, hst⟩ := h0'
  obtain ⟨am, pm, rfl⟩ := Ints.form hm
  obtain ⟨ae, pe, rfl⟩ := RL.form hes
  obtain ⟨ab, pb, rfl⟩ := Bytes.form hst
  refine cal3 ?_
  unfold sh3
  refine newI (fun s1 => ?_)
  try simp only [SSd, List.getElem?_toArray, List.getElem?_cons_zero, List.getElem?_cons_succ, Nat.zero_add, Nat.add_zero, Nat.zero_mul, List.drop_succ_cons, List.drop_zero, List.take_succ_cons, List.take_zero, List.nil_append, List.cons_append, Nat.reduceAdd, List.drop_nil, List.take_nil]
  refine call (awake11_spec (fun I1 hI1 => ?_))
  refine rdB rfl ?_
  refine callG (both_spec (h0.mono hI1) (by omega) g7 (by omega) (fun _ I2 hI2 => ?_) (fun _ b X cc Y I2 hI2 hX hY hw => ?_))
  · refine Gh.done ?_
    repeat' (first | (with_reducible refine drawC ?_) | (with_reducible refine drawW1 ?_) | (with_reducible refine drawW2 ?_) | (with_reducible refine keepC (by repeat (first | exact Ext.refl _ | assumption | refine Ext.trans ?_ (by assumption))) ?_) | (with_reducible refine newI (fun _ => ?_)) | first | (with_reducible refine rdb ?_) | ((with_reducible refine st1 ?_ ?_); rfl) | ((with_reducible refine rdB ?_ ?_); rfl) | (with_reducible refine rdbS ?_) | ((with_reducible refine rdBS ?_ ?_); rfl) | ((with_reducible refine stB ?_ ?_ ?_ ?_); rfl; rfl; exact one_all rfl) | ((with_reducible refine rdP _ rfl ?_ ?_); rfl) | ((with_reducible refine rdPS _ rfl ?_ ?_); rfl) | ((with_reducible refine stP _ rfl ?_ ?_ ?_ ?_); rfl; rfl; rfl) | (with_reducible refine And.intro ?_ ?_) | (simp only [Bool.not_true, Bool.not_false, Bool.and_self, Bool.true_and, Int.reduceBEq, Int.reduceBNe, Int.reduceLT, Int.reduceLE, decide_true, decide_false, Br_true, Br_false, Gd_tt, Gd_ft, Gd_tf, Gd_ff, beq_self_eq_true, bne_self_eq_false]) | (with_reducible refine gd_split (fun _ => ?_) (fun _ => ?_)) | (with_reducible refine br_split (fun _ => ?_) (fun _ => ?_)) | (simp only [SSd, List.getElem?_toArray, List.getElem?_cons_zero, List.getElem?_cons_succ, Nat.zero_add, Nat.add_zero, Nat.zero_mul, List.drop_succ_cons, List.drop_zero, List.take_succ_cons, List.take_zero, List.nil_append, List.cons_append, Nat.reduceAdd, List.drop_nil, List.take_nil]))
    exact Gh.done (hk I2 _ (hI1.trans hI2))
  refine Gh.done ?_
  repeat' (first | (with_reducible refine drawC ?_) | (with_reducible refine drawW1 ?_) | (with_reducible refine drawW2 ?_) | (with_reducible refine keepC (by repeat (first | exact Ext.refl _ | assumption | refine Ext.trans ?_ (by assumption))) ?_) | (with_reducible refine newI (fun _ => ?_)) | first | (with_reducible refine rdb ?_) | ((with_reducible refine st1 ?_ ?_); rfl) | ((with_reducible refine rdB ?_ ?_); rfl) | (with_reducible refine rdbS ?_) | ((with_reducible refine rdBS ?_ ?_); rfl) | ((with_reducible refine stB ?_ ?_ ?_ ?_); rfl; rfl; exact one_all rfl) | ((with_reducible refine rdP _ rfl ?_ ?_); rfl) | ((with_reducible refine rdPS _ rfl ?_ ?_); rfl) | ((with_reducible refine stP _ rfl ?_ ?_ ?_ ?_); rfl; rfl; rfl) | (with_reducible refine And.intro ?_ ?_) | (simp only [Bool.not_true, Bool.not_false, Bool.and_self, Bool.true_and, Int.reduceBEq, Int.reduceBNe, Int.reduceLT, Int.reduceLE, decide_true, decide_false, Br_true, Br_false, Gd_tt, Gd_ft, Gd_tf, Gd_ff, beq_self_eq_true, bne_self_eq_false]) | (with_reducible refine gd_split (fun _ => ?_) (fun _ => ?_)) | (with_reducible refine br_split (fun _ => ?_) (fun _ => ?_)) | (simp only [SSd, List.getElem?_toArray, List.getElem?_cons_zero, List.getElem?_cons_succ, Nat.zero_add, Nat.add_zero, Nat.zero_mul, List.drop_succ_cons, List.drop_zero, List.take_succ_cons, List.take_zero, List.nil_append, List.cons_append, Nat.reduceAdd, List.drop_nil, List.take_nil]))
  have hI12 := hI1.trans hI2
  refine loop (SInv x ss.length ((s1, Obj.cells #[.int .i64 x.fGroup, .int .i64 x.fId, .int .i64 x.fTerm, .int .i64 x.fVote, .int .i64 x.fIndex, .int .i64 x.fAt, .int .i64 x.fCommit, .slice am x.fMembers.length pm, .slice ae x.fEntries.length pe, .slice ab x.fState.length pb] 26 (0, 0)) :: L) I2) ss.length ⟨Ext.refl _, 0, b, cc, X, Y, startF x, by omega, rfl, hX, hY, hw, rfl, rfl, rfl, by omega, rfl⟩ ?_
  clear hX hY hw
  rintro mm s I' L' ⟨hI', k, b, c, X, Y, r, hkm, rfl, hX, hY, hw, ho, hgr, hid, hk200, rfl⟩
  unfold sh3_3
  simp only [RL.len h1, SSd, List.getElem?_toArray, List.getElem?_cons_zero, List.getElem?_cons_succ, Nat.zero_add, Nat.add_zero, Nat.zero_mul, List.drop_succ_cons, List.drop_zero, List.take_succ_cons, List.take_zero, List.nil_append, List.cons_append, Nat.reduceAdd, List.drop_nil, List.take_nil]
  refine gd_split (fun hlt => ?_) (fun hlt => Gh.done (hk I' _ (hI12.trans hI')))
  refine br_split (fun h4 => ?_) (fun h4 => Gh.done (hk I' _ (hI12.trans hI')))
  simp at hlt h4
  have hol0 : r.out.length = 0 := by rw [ho]; rfl
  have hE : (x.fEntries.length + 65 * k + 65) * 48 ≤ 150000000000000 := by omega
  have hE1 : (x.fEntries.length + 65 * k + 1) * 48 ≤ 150000000000000 := Nat.le_trans (Nat.mul_le_mul_right 48 (Nat.add_le_add_left (by decide) _)) hE
  have hE2 : (x.fEntries.length + 65 * k + 64) * 48 ≤ 150000000000000 := Nat.le_trans (Nat.mul_le_mul_right 48 (Nat.add_le_add_left (by decide) _)) hE
  have hB1 : k ≤ 1000000 := Nat.le_trans hk200 (by decide)
  have w1 : x.fEntries.length + 65 * k + 1 ≤ x.fEntries.length + 65 * (k + 1) := by rw [Nat.mul_add]; omega
  have w2 : x.fEntries.length + 65 * k + 64 ≤ x.fEntries.length + 65 * (k + 1) := by rw [Nat.mul_add]; omega
  have w3 : x.fEntries.length + 65 * k ≤ x.fEntries.length + 65 * (k + 1) := by rw [Nat.mul_add]; omega
  obtain ⟨b2, off, cs, hix, hcl, hst1, hc⟩ := RL.ix h1 (i := k) (by omega) (by omega)
  have hbs := hb1 (geti ss (k : Int)) (by rw [geti_nat hlt]; exact List.getElem_mem hlt)
  generalize geti ss (k : Int) = y at *
  obtain ⟨d1, d2, d3, d4, d5, d6⟩ := hbs
  obtain ⟨e1, e2, e3, e4, e5, e6, e7, e8, e9, e10, e11, e12, e13⟩ := d3
  have l1 : y.fData.length ≤ 140737488355328 := by omega
  have l2 : y.fMembers.length < 4611686018427387904 := by omega
  have l3 : y.fM.fMembers.length < 4611686018427387904 := by omega
  have l4 : y.fData.length < 4611686018427387904 := by omega
  have hst1 := hst1.mono (hI12.trans hI')
  obtain ⟨u0, u1, u2, u3, u4, rfl, k0, k1, k2, k3, k4⟩ := hst1
  have hM : MsgV I' (toRM y.fM) [.int .i64 y.fM.fKind, .int .i64 y.fM.fGroup, .int .i64 y.fM.fFrom, .int .i64 y.fM.fTo, .int .i64 y.fM.fTerm, .int .i64 y.fM.fIndex, .int .i64 y.fM.fLogTerm, .int .i64 y.fM.fCommit, .bool y.fM.fOK, u0, u1, u2] := ⟨u0, u1, u2, rfl, ents_of k0, k1, k2⟩
  obtain ⟨aa0, pp0, rfl⟩ := RL.form k0
  obtain ⟨aa1, pp1, rfl⟩ := Ints.form k1
  obtain ⟨aa2, pp2, rfl⟩ := Bytes.form k2
  obtain ⟨aa3, pp3, rfl⟩ := Bytes.form k3
  obtain ⟨aa4, pp4, rfl⟩ := Ints.form k4
  simp only [hix, SSd, List.getElem?_toArray, List.getElem?_cons_zero, List.getElem?_cons_succ, Nat.zero_add, Nat.add_zero, Nat.zero_mul, List.drop_succ_cons, List.drop_zero, List.take_succ_cons, List.take_zero, List.nil_append, List.cons_append, Nat.reduceAdd, List.drop_nil, List.take_nil]
  refine rdN hcl (hc I' _ (hI12.trans hI') (fun _ h => by cases h)) ?_
  clear hcl hc hix
  refine newGh (fun y1 => ?_)
  have next : ∀ (r' : RF) {b c : Nat} {X' Y' : LH} {I3 : Imm} {L' : LH} {v : Value} {n e : Int}, SubP (Y' ++ (X' ++ ((s1, Obj.cells #[.int .i64 x.fGroup, .int .i64 x.fId, .int .i64 x.fTerm, .int .i64 x.fVote, .int .i64 x.fIndex, .int .i64 x.fAt, .int .i64 x.fCommit, .slice am x.fMembers.length pm, .slice ae x.fEntries.length pe, .slice ab x.fState.length pb] 26 (0, 0)) :: L))) L' → Ext I' I3 → RaftR I3 b X' (takeF r') → RaftQ I3 c Y' r' → Msgs I3 [] v r'.out → OutOk r' → r'.out.length ≤ 100 → RWF (x.fEntries.length + 65 * (k + 1)) (k + 1) r' → VoteOk r r' →
      sh3_4 ω (.bool false) (.pointer (some ⟨b, 0, none⟩)) (.pointer (some ⟨c, 0, none⟩)) (.int .i64 k) v (.int .i64 n) (.int .i64 n) (.int .i64 e) (.int .i64 e) (fun s' => Gh fun I2' L2 => ∃ m', m' < mm ∧ SInv x ss.length ((s1, Obj.cells #[.int .i64 x.fGroup, .int .i64 x.fId, .int .i64 x.fTerm, .int .i64 x.fVote, .int .i64 x.fIndex, .int .i64 x.fAt, .int .i64 x.fCommit, .slice am x.fMembers.length pm, .slice ae x.fEntries.length pe, .slice ab x.fState.length pb] 26 (0, 0)) :: L) I2 m' s' I2' L2) (fun v => Gh (K v)) I3 L' := by
    intro r' b c X' Y' I3 L' v n e hs hI3 hX' hY' hv hok hol hw' hvo
    refine after2_spec (X := X') (Y := Y') (F := (s1, Obj.cells #[.int .i64 x.fGroup, .int .i64 x.fId, .int .i64 x.fTerm, .int .i64 x.fVote, .int .i64 x.fIndex, .int .i64 x.fAt, .int .i64 x.fCommit, .slice am x.fMembers.length pm, .slice ae x.fEntries.length pe, .slice ab x.fState.length pb] 26 (0, 0)) :: L) hX' hY' hv hok hol hw'.wf hw'.stl (by omega) (fun Y2 I4 hI4 hR4 hQ4 => Gh.done ?_)
    exact ⟨mm - 1, by omega, (hI'.trans hI3).trans hI4, k + 1, b, c, X', Y2, takeF r', by omega, by simp, hR4, hQ4, hw'.take, rfl, hvo.2.2.1.trans hgr, hvo.2.2.2.trans hid, by omega, rfl⟩
  by_cases h5 : y.fDo = 5
  · obtain ⟨lb, XL, XO, stv, ov, z0, z1, z2, oc, rfl, f1, f2, f3, f4⟩ := hX
    simp only [List.cons_append, List.append_assoc] at *
    refine Gh.split XL (LogR.freeze f1 (fun mv lv I3 hI3 fm fl => Gh.done ?_))
    refine stB rfl rfl (one_all rfl) ?_
    try simp only [SSd, List.getElem?_toArray, List.getElem?_cons_zero, List.getElem?_cons_succ, Nat.zero_add, Nat.add_zero, Nat.zero_mul, List.drop_succ_cons, List.drop_zero, List.take_succ_cons, List.take_zero, List.nil_append, List.cons_append, Nat.reduceAdd, List.drop_nil, List.take_nil]
    refine rdb ?_
    try simp only [SSd, List.getElem?_toArray, List.getElem?_cons_zero, List.getElem?_cons_succ, Nat.zero_add, Nat.add_zero, Nat.zero_mul, List.drop_succ_cons, List.drop_zero, List.take_succ_cons, List.take_zero, List.nil_append, List.cons_append, Nat.reduceAdd, List.drop_nil, List.take_nil]
    refine br_split (fun h => by simp [h5] at h) (fun _ => ?_)
    unfold sh3_8
    try simp only [SSd, List.getElem?_toArray, List.getElem?_cons_zero, List.getElem?_cons_succ, Nat.zero_add, Nat.add_zero, Nat.zero_mul, List.drop_succ_cons, List.drop_zero, List.take_succ_cons, List.take_zero, List.nil_append, List.cons_append, Nat.reduceAdd, List.drop_nil, List.take_nil]
    refine br_split (fun h => by simp [h5] at h) (fun _ => ?_)
    refine br_split (fun h => by simp [h5] at h) (fun _ => ?_)
    refine br_split (fun h => by simp [h5] at h) (fun _ => ?_)
    refine br_split (fun h => by simp [h5] at h) (fun _ => ?_)
    refine br_split (fun _ => ?_) (fun h => by simp [h5] at h)
    refine drawC ?_
    refine rdbS ?_
    try simp only [SSd, List.getElem?_toArray, List.getElem?_cons_zero, List.getElem?_cons_succ, Nat.zero_add, Nat.add_zero, Nat.zero_mul, List.drop_succ_cons, List.drop_zero, List.take_succ_cons, List.take_zero, List.nil_append, List.cons_append, Nat.reduceAdd, List.drop_nil, List.take_nil]
    refine rdbS ?_
    refine call (gterm_spec (v := .int .i64 r.term) (Cell.own (InL.mem) rfl) ?_)
    refine keepC (Ext.refl _) ?_
    refine call (gvote_spec (v := .int .i64 r.vote) (Cell.own (InL.mem) rfl) ?_)
    refine keepC (Ext.refl _) ?_
    refine call (glog_spec (L0 := []) (Cell.own (InL.mem) rfl) (cells_own InL.mem) fm fl (memB_len hw.wf.mem) (fun lb' mv' aa I4 hI4 hm4 hl4 => ?_))
    refine keepC hI4 ?_
    refine call (gstate_spec (Cell.own (InL.mem) rfl) (f2.mono (hI3.trans hI4)) hw.stl (fun sv I5 hI5 hs5 => ?_))
    refine keepC (hI4.trans hI5) ?_
    have hok := hw.newOk
    have hst := hw.stl
    rw [hgr, hid] at hok
    refine call (new11_spec (g := r.g) (st := r.st) (cells_own InL.mem) (hm4.mono hI5) (LsV.to (L' := []) hl4 hI5) hw.wf hs5 (by omega) (fun hn => by rw [hok] at hn; cases hn) (fun _ b' X' I6 hI6 hX' => ?_))
    have hI36 := ((hI3.trans hI4).trans hI5).trans hI6
    obtain ⟨qb, YL, YO, qtv, qov, y0, y2, y3, qc, rfl, j1, j2, j3, j4⟩ := hY
    simp only [List.cons_append, List.append_assoc] at *
    repeat' (first | (with_reducible refine drawC ?_) | (with_reducible refine drawW1 ?_) | (with_reducible refine drawW2 ?_) | (with_reducible refine keepC (by repeat (first | exact Ext.refl _ | assumption | refine Ext.trans ?_ (by assumption))) ?_) | (with_reducible refine newI (fun _ => ?_)) | first | (with_reducible refine rdb ?_) | ((with_reducible refine st1 ?_ ?_); rfl) | ((with_reducible refine rdB ?_ ?_); rfl) | (with_reducible refine rdbS ?_) | ((with_reducible refine rdBS ?_ ?_); rfl) | ((with_reducible refine stB ?_ ?_ ?_ ?_); rfl; rfl; exact one_all rfl) | ((with_reducible refine rdP _ rfl ?_ ?_); rfl) | ((with_reducible refine rdPS _ rfl ?_ ?_); rfl) | ((with_reducible refine stP _ rfl ?_ ?_ ?_ ?_); rfl; rfl; rfl) | (with_reducible refine And.intro ?_ ?_) | (simp only [Bool.not_true, Bool.not_false, Bool.and_self, Bool.true_and, Int.reduceBEq, Int.reduceBNe, Int.reduceLT, Int.reduceLE, decide_true, decide_false, Br_true, Br_false, Gd_tt, Gd_ft, Gd_tf, Gd_ff, beq_self_eq_true, bne_self_eq_false]) | (with_reducible refine gd_split (fun _ => ?_) (fun _ => ?_)) | (with_reducible refine br_split (fun _ => ?_) (fun _ => ?_)) | (simp only [SSd, List.getElem?_toArray, List.getElem?_cons_zero, List.getElem?_cons_succ, Nat.zero_add, Nat.add_zero, Nat.zero_mul, List.drop_succ_cons, List.drop_zero, List.take_succ_cons, List.take_zero, List.nil_append, List.cons_append, Nat.reduceAdd, List.drop_nil, List.take_nil]))
    refine call (Cal.split YL (rnew11_spec (g := r.g) (st := r.st) (j1.mono hI36) hw.wf (j2.mono hI36) (by omega) (fun hn => by rw [hok] at hn; cases hn) (fun _ c' Z I7 hI7 hZ => ?_)))
    repeat' (first | (with_reducible refine drawC ?_) | (with_reducible refine drawW1 ?_) | (with_reducible refine drawW2 ?_) | (with_reducible refine keepC (by repeat (first | exact Ext.refl _ | assumption | refine Ext.trans ?_ (by assumption))) ?_) | (with_reducible refine newI (fun _ => ?_)) | first | (with_reducible refine rdb ?_) | ((with_reducible refine st1 ?_ ?_); rfl) | ((with_reducible refine rdB ?_ ?_); rfl) | (with_reducible refine rdbS ?_) | ((with_reducible refine rdBS ?_ ?_); rfl) | ((with_reducible refine stB ?_ ?_ ?_ ?_); rfl; rfl; exact one_all rfl) | ((with_reducible refine rdP _ rfl ?_ ?_); rfl) | ((with_reducible refine rdPS _ rfl ?_ ?_); rfl) | ((with_reducible refine stP _ rfl ?_ ?_ ?_ ?_); rfl; rfl; rfl) | (with_reducible refine And.intro ?_ ?_) | (simp only [Bool.not_true, Bool.not_false, Bool.and_self, Bool.true_and, Int.reduceBEq, Int.reduceBNe, Int.reduceLT, Int.reduceLE, decide_true, decide_false, Br_true, Br_false, Gd_tt, Gd_ft, Gd_tf, Gd_ff, beq_self_eq_true, bne_self_eq_false]) | (with_reducible refine gd_split (fun _ => ?_) (fun _ => ?_)) | (with_reducible refine br_split (fun _ => ?_) (fun _ => ?_)) | (simp only [SSd, List.getElem?_toArray, List.getElem?_cons_zero, List.getElem?_cons_succ, Nat.zero_add, Nat.add_zero, Nat.zero_mul, List.drop_succ_cons, List.drop_zero, List.take_succ_cons, List.take_zero, List.nil_append, List.cons_append, Nat.reduceAdd, List.drop_nil, List.take_nil]))
    have hwn : RWF (x.fEntries.length + 65 * (k + 1)) (k + 1) (newF x.fGroup x.fId r.term r.vote r.g r.st) := newF_wf hw.wf (Nat.le_trans hw.len w3) hok
    exact next (newF x.fGroup x.fId r.term r.vote r.g r.st) inferInstance (hI36.trans hI7) (hX'.mono hI7) hZ (RL.nil _ _) (ok_nil rfl) (by simp [newF]) hwn (.same rfl rfl hgr.symm hid.symm)
  refine Gh.done ?_
  refine stB rfl rfl (one_all rfl) ?_
  try simp only [SSd, List.getElem?_toArray, List.getElem?_cons_zero, List.getElem?_cons_succ, Nat.zero_add, Nat.add_zero, Nat.zero_mul, List.drop_succ_cons, List.drop_zero, List.take_succ_cons, List.take_zero, List.nil_append, List.cons_append, Nat.reduceAdd, List.drop_nil, List.take_nil]
  refine rdb ?_
  try simp only [SSd, List.getElem?_toArray, List.getElem?_cons_zero, List.getElem?_cons_succ, Nat.zero_add, Nat.add_zero, Nat.zero_mul, List.drop_succ_cons, List.drop_zero, List.take_succ_cons, List.take_zero, List.nil_append, List.cons_append, Nat.reduceAdd, List.drop_nil, List.take_nil]
  refine br_split (fun q0 => ?_) (fun q0 => ?_)
  · unfold sh3_7
    repeat' (first | (with_reducible refine drawC ?_) | (with_reducible refine drawW1 ?_) | (with_reducible refine drawW2 ?_) | (with_reducible refine keepC (by repeat (first | exact Ext.refl _ | assumption | refine Ext.trans ?_ (by assumption))) ?_) | (with_reducible refine newI (fun _ => ?_)) | first | (with_reducible refine rdb ?_) | ((with_reducible refine st1 ?_ ?_); rfl) | ((with_reducible refine rdB ?_ ?_); rfl) | (with_reducible refine rdbS ?_) | ((with_reducible refine rdBS ?_ ?_); rfl) | ((with_reducible refine stB ?_ ?_ ?_ ?_); rfl; rfl; exact one_all rfl) | ((with_reducible refine rdP _ rfl ?_ ?_); rfl) | ((with_reducible refine rdPS _ rfl ?_ ?_); rfl) | ((with_reducible refine stP _ rfl ?_ ?_ ?_ ?_); rfl; rfl; rfl) | (with_reducible refine And.intro ?_ ?_) | (simp only [Bool.not_true, Bool.not_false, Bool.and_self, Bool.true_and, Int.reduceBEq, Int.reduceBNe, Int.reduceLT, Int.reduceLE, decide_true, decide_false, Br_true, Br_false, Gd_tt, Gd_ft, Gd_tf, Gd_ff, beq_self_eq_true, bne_self_eq_false]) | (with_reducible refine gd_split (fun _ => ?_) (fun _ => ?_)) | (with_reducible refine br_split (fun _ => ?_) (fun _ => ?_)) | (simp only [SSd, List.getElem?_toArray, List.getElem?_cons_zero, List.getElem?_cons_succ, Nat.zero_add, Nat.add_zero, Nat.zero_mul, List.drop_succ_cons, List.drop_zero, List.take_succ_cons, List.take_zero, List.nil_append, List.cons_append, Nat.reduceAdd, List.drop_nil, List.take_nil]))
    refine call (Cal.split X ?_)
    refine tick_spec hX hw hE1 hB1 ho (fun X' v I3 hI3 hv hX' => ?_)
    repeat' (first | (with_reducible refine drawC ?_) | (with_reducible refine drawW1 ?_) | (with_reducible refine drawW2 ?_) | (with_reducible refine keepC (by repeat (first | exact Ext.refl _ | assumption | refine Ext.trans ?_ (by assumption))) ?_) | (with_reducible refine newI (fun _ => ?_)) | first | (with_reducible refine rdb ?_) | ((with_reducible refine st1 ?_ ?_); rfl) | ((with_reducible refine rdB ?_ ?_); rfl) | (with_reducible refine rdbS ?_) | ((with_reducible refine rdBS ?_ ?_); rfl) | ((with_reducible refine stB ?_ ?_ ?_ ?_); rfl; rfl; exact one_all rfl) | ((with_reducible refine rdP _ rfl ?_ ?_); rfl) | ((with_reducible refine rdPS _ rfl ?_ ?_); rfl) | ((with_reducible refine stP _ rfl ?_ ?_ ?_ ?_); rfl; rfl; rfl) | (with_reducible refine And.intro ?_ ?_) | (simp only [Bool.not_true, Bool.not_false, Bool.and_self, Bool.true_and, Int.reduceBEq, Int.reduceBNe, Int.reduceLT, Int.reduceLE, decide_true, decide_false, Br_true, Br_false, Gd_tt, Gd_ft, Gd_tf, Gd_ff, beq_self_eq_true, bne_self_eq_false]) | (with_reducible refine gd_split (fun _ => ?_) (fun _ => ?_)) | (with_reducible refine br_split (fun _ => ?_) (fun _ => ?_)) | (simp only [SSd, List.getElem?_toArray, List.getElem?_cons_zero, List.getElem?_cons_succ, Nat.zero_add, Nat.add_zero, Nat.zero_mul, List.drop_succ_cons, List.drop_zero, List.take_succ_cons, List.take_zero, List.nil_append, List.cons_append, Nat.reduceAdd, List.drop_nil, List.take_nil]))
    refine call (Cal.split Y ?_)
    refine qtick_spec (hY.mono hI3) hw hE1 hB1 ho (fun Y' I4 hI4 hY' => ?_)
    have q1 : RWF (x.fEntries.length + 65 * (k + 1)) (k + 1) (tickF r y.fN) := (hw.tick hE1 y.fN).weak w1 (Nat.le_refl _)
    have q2 := ok_tick (ok_nil ho) hw hE1 y.fN
    have q3 := vo_tick r y.fN
    have q4 := len_tick hw hE1 y.fN
    generalize tickF r y.fN = r' at *
    exact next r' inferInstance (hI3.trans hI4) (hX'.mono hI4) hY' (RL.mono (fun _ _ h => MsgV.mono h hI4) hv hI4 (fun _ h => h)) q2 (by omega) q1 q3
  unfold sh3_8
  try simp only [SSd, List.getElem?_toArray, List.getElem?_cons_zero, List.getElem?_cons_succ, Nat.zero_add, Nat.add_zero, Nat.zero_mul, List.drop_succ_cons, List.drop_zero, List.take_succ_cons, List.take_zero, List.nil_append, List.cons_append, Nat.reduceAdd, List.drop_nil, List.take_nil]
  refine br_split (fun q1 => ?_) (fun q1 => ?_)
  · repeat' (first | (with_reducible refine drawC ?_) | (with_reducible refine drawW1 ?_) | (with_reducible refine drawW2 ?_) | (with_reducible refine keepC (by repeat (first | exact Ext.refl _ | assumption | refine Ext.trans ?_ (by assumption))) ?_) | (with_reducible refine newI (fun _ => ?_)) | first | (with_reducible refine rdb ?_) | ((with_reducible refine st1 ?_ ?_); rfl) | ((with_reducible refine rdB ?_ ?_); rfl) | (with_reducible refine rdbS ?_) | ((with_reducible refine rdBS ?_ ?_); rfl) | ((with_reducible refine stB ?_ ?_ ?_ ?_); rfl; rfl; exact one_all rfl) | ((with_reducible refine rdP _ rfl ?_ ?_); rfl) | ((with_reducible refine rdPS _ rfl ?_ ?_); rfl) | ((with_reducible refine stP _ rfl ?_ ?_ ?_ ?_); rfl; rfl; rfl) | (with_reducible refine And.intro ?_ ?_) | (simp only [Bool.not_true, Bool.not_false, Bool.and_self, Bool.true_and, Int.reduceBEq, Int.reduceBNe, Int.reduceLT, Int.reduceLE, decide_true, decide_false, Br_true, Br_false, Gd_tt, Gd_ft, Gd_tf, Gd_ff, beq_self_eq_true, bne_self_eq_false]) | (with_reducible refine gd_split (fun _ => ?_) (fun _ => ?_)) | (with_reducible refine br_split (fun _ => ?_) (fun _ => ?_)) | (simp only [SSd, List.getElem?_toArray, List.getElem?_cons_zero, List.getElem?_cons_succ, Nat.zero_add, Nat.add_zero, Nat.zero_mul, List.drop_succ_cons, List.drop_zero, List.take_succ_cons, List.take_zero, List.nil_append, List.cons_append, Nat.reduceAdd, List.drop_nil, List.take_nil]))
    refine call (Cal.split X ?_)
    refine step_spec (m := toRM y.fM) hX hw hE2 ho hM l3 (fun X' v I3 hI3 hv hX' => ?_)
    repeat' (first | (with_reducible refine drawC ?_) | (with_reducible refine drawW1 ?_) | (with_reducible refine drawW2 ?_) | (with_reducible refine keepC (by repeat (first | exact Ext.refl _ | assumption | refine Ext.trans ?_ (by assumption))) ?_) | (with_reducible refine newI (fun _ => ?_)) | first | (with_reducible refine rdb ?_) | ((with_reducible refine st1 ?_ ?_); rfl) | ((with_reducible refine rdB ?_ ?_); rfl) | (with_reducible refine rdbS ?_) | ((with_reducible refine rdBS ?_ ?_); rfl) | ((with_reducible refine stB ?_ ?_ ?_ ?_); rfl; rfl; exact one_all rfl) | ((with_reducible refine rdP _ rfl ?_ ?_); rfl) | ((with_reducible refine rdPS _ rfl ?_ ?_); rfl) | ((with_reducible refine stP _ rfl ?_ ?_ ?_ ?_); rfl; rfl; rfl) | (with_reducible refine And.intro ?_ ?_) | (simp only [Bool.not_true, Bool.not_false, Bool.and_self, Bool.true_and, Int.reduceBEq, Int.reduceBNe, Int.reduceLT, Int.reduceLE, decide_true, decide_false, Br_true, Br_false, Gd_tt, Gd_ft, Gd_tf, Gd_ff, beq_self_eq_true, bne_self_eq_false]) | (with_reducible refine gd_split (fun _ => ?_) (fun _ => ?_)) | (with_reducible refine br_split (fun _ => ?_) (fun _ => ?_)) | (simp only [SSd, List.getElem?_toArray, List.getElem?_cons_zero, List.getElem?_cons_succ, Nat.zero_add, Nat.add_zero, Nat.zero_mul, List.drop_succ_cons, List.drop_zero, List.take_succ_cons, List.take_zero, List.nil_append, List.cons_append, Nat.reduceAdd, List.drop_nil, List.take_nil]))
    refine call (Cal.split Y ?_)
    refine qstep_spec (m := toRM y.fM) (hY.mono hI3) hw hE2 ho (hM.mono hI3) (fun Y' I4 hI4 hY' => ?_)
    have q1 : RWF (x.fEntries.length + 65 * (k + 1)) (k + 1) (stepF r (toRM y.fM)).2 := (hw.step hE2 _).weak w2 (Nat.le_succ _)
    have q2 := ok_step (ok_nil ho) hw hE2 (toRM y.fM)
    have q3 := vo_step r (toRM y.fM)
    have q4 := len_step hw hE2 (toRM y.fM)
    generalize stepF r (toRM y.fM) = rr at *
    exact next rr.2 inferInstance (hI3.trans hI4) (hX'.mono hI4) hY' (RL.mono (fun _ _ h => MsgV.mono h hI4) hv hI4 (fun _ h => h)) q2 (by omega) q1 q3
  refine br_split (fun q2 => ?_) (fun q2 => ?_)
  · repeat' (first | (with_reducible refine drawC ?_) | (with_reducible refine drawW1 ?_) | (with_reducible refine drawW2 ?_) | (with_reducible refine keepC (by repeat (first | exact Ext.refl _ | assumption | refine Ext.trans ?_ (by assumption))) ?_) | (with_reducible refine newI (fun _ => ?_)) | first | (with_reducible refine rdb ?_) | ((with_reducible refine st1 ?_ ?_); rfl) | ((with_reducible refine rdB ?_ ?_); rfl) | (with_reducible refine rdbS ?_) | ((with_reducible refine rdBS ?_ ?_); rfl) | ((with_reducible refine stB ?_ ?_ ?_ ?_); rfl; rfl; exact one_all rfl) | ((with_reducible refine rdP _ rfl ?_ ?_); rfl) | ((with_reducible refine rdPS _ rfl ?_ ?_); rfl) | ((with_reducible refine stP _ rfl ?_ ?_ ?_ ?_); rfl; rfl; rfl) | (with_reducible refine And.intro ?_ ?_) | (simp only [Bool.not_true, Bool.not_false, Bool.and_self, Bool.true_and, Int.reduceBEq, Int.reduceBNe, Int.reduceLT, Int.reduceLE, decide_true, decide_false, Br_true, Br_false, Gd_tt, Gd_ft, Gd_tf, Gd_ff, beq_self_eq_true, bne_self_eq_false]) | (with_reducible refine gd_split (fun _ => ?_) (fun _ => ?_)) | (with_reducible refine br_split (fun _ => ?_) (fun _ => ?_)) | (simp only [SSd, List.getElem?_toArray, List.getElem?_cons_zero, List.getElem?_cons_succ, Nat.zero_add, Nat.add_zero, Nat.zero_mul, List.drop_succ_cons, List.drop_zero, List.take_succ_cons, List.take_zero, List.nil_append, List.cons_append, Nat.reduceAdd, List.drop_nil, List.take_nil]))
    refine call (Cal.split X ?_)
    refine propose_spec (d := y.fData) hX hw hE1 ho k3 l1 (fun X' v I3 hI3 hv hX' => ?_)
    repeat' (first | (with_reducible refine drawC ?_) | (with_reducible refine drawW1 ?_) | (with_reducible refine drawW2 ?_) | (with_reducible refine keepC (by repeat (first | exact Ext.refl _ | assumption | refine Ext.trans ?_ (by assumption))) ?_) | (with_reducible refine newI (fun _ => ?_)) | first | (with_reducible refine rdb ?_) | ((with_reducible refine st1 ?_ ?_); rfl) | ((with_reducible refine rdB ?_ ?_); rfl) | (with_reducible refine rdbS ?_) | ((with_reducible refine rdBS ?_ ?_); rfl) | ((with_reducible refine stB ?_ ?_ ?_ ?_); rfl; rfl; exact one_all rfl) | ((with_reducible refine rdP _ rfl ?_ ?_); rfl) | ((with_reducible refine rdPS _ rfl ?_ ?_); rfl) | ((with_reducible refine stP _ rfl ?_ ?_ ?_ ?_); rfl; rfl; rfl) | (with_reducible refine And.intro ?_ ?_) | (simp only [Bool.not_true, Bool.not_false, Bool.and_self, Bool.true_and, Int.reduceBEq, Int.reduceBNe, Int.reduceLT, Int.reduceLE, decide_true, decide_false, Br_true, Br_false, Gd_tt, Gd_ft, Gd_tf, Gd_ff, beq_self_eq_true, bne_self_eq_false]) | (with_reducible refine gd_split (fun _ => ?_) (fun _ => ?_)) | (with_reducible refine br_split (fun _ => ?_) (fun _ => ?_)) | (simp only [SSd, List.getElem?_toArray, List.getElem?_cons_zero, List.getElem?_cons_succ, Nat.zero_add, Nat.add_zero, Nat.zero_mul, List.drop_succ_cons, List.drop_zero, List.take_succ_cons, List.take_zero, List.nil_append, List.cons_append, Nat.reduceAdd, List.drop_nil, List.take_nil]))
    refine call (Cal.split Y ?_)
    refine qpropose_spec (d := y.fData) (hY.mono hI3) hw hE1 ho (k3.mono hI3) (fun Y' I4 hI4 hY' => ?_)
    try simp only [SSd, List.getElem?_toArray, List.getElem?_cons_zero, List.getElem?_cons_succ, Nat.zero_add, Nat.add_zero, Nat.zero_mul, List.drop_succ_cons, List.drop_zero, List.take_succ_cons, List.take_zero, List.nil_append, List.cons_append, Nat.reduceAdd, List.drop_nil, List.take_nil]
    have q1 : RWF (x.fEntries.length + 65 * (k + 1)) (k + 1) (proposeF r y.fData).2.2 := (hw.propose hE1 _).weak w1 (Nat.le_succ _)
    have q2 := ok_propose (ok_nil ho) hw hE1 y.fData
    have q3 := vo_propose r y.fData
    have q4 := len_propose hw hE1 y.fData
    generalize proposeF r y.fData = rr at *
    exact next rr.2.2 inferInstance (hI3.trans hI4) (hX'.mono hI4) hY' (RL.mono (fun _ _ h => MsgV.mono h hI4) hv hI4 (fun _ h => h)) q2 (by omega) q1 q3
  refine br_split (fun q2 => ?_) (fun q2 => ?_)
  · repeat' (first | (with_reducible refine drawC ?_) | (with_reducible refine drawW1 ?_) | (with_reducible refine drawW2 ?_) | (with_reducible refine keepC (by repeat (first | exact Ext.refl _ | assumption | refine Ext.trans ?_ (by assumption))) ?_) | (with_reducible refine newI (fun _ => ?_)) | first | (with_reducible refine rdb ?_) | ((with_reducible refine st1 ?_ ?_); rfl) | ((with_reducible refine rdB ?_ ?_); rfl) | (with_reducible refine rdbS ?_) | ((with_reducible refine rdBS ?_ ?_); rfl) | ((with_reducible refine stB ?_ ?_ ?_ ?_); rfl; rfl; exact one_all rfl) | ((with_reducible refine rdP _ rfl ?_ ?_); rfl) | ((with_reducible refine rdPS _ rfl ?_ ?_); rfl) | ((with_reducible refine stP _ rfl ?_ ?_ ?_ ?_); rfl; rfl; rfl) | (with_reducible refine And.intro ?_ ?_) | (simp only [Bool.not_true, Bool.not_false, Bool.and_self, Bool.true_and, Int.reduceBEq, Int.reduceBNe, Int.reduceLT, Int.reduceLE, decide_true, decide_false, Br_true, Br_false, Gd_tt, Gd_ft, Gd_tf, Gd_ff, beq_self_eq_true, bne_self_eq_false]) | (with_reducible refine gd_split (fun _ => ?_) (fun _ => ?_)) | (with_reducible refine br_split (fun _ => ?_) (fun _ => ?_)) | (simp only [SSd, List.getElem?_toArray, List.getElem?_cons_zero, List.getElem?_cons_succ, Nat.zero_add, Nat.add_zero, Nat.zero_mul, List.drop_succ_cons, List.drop_zero, List.take_succ_cons, List.take_zero, List.nil_append, List.cons_append, Nat.reduceAdd, List.drop_nil, List.take_nil]))
    refine call (Cal.split X ?_)
    refine change_spec (l := y.fMembers) hX hw hE1 ho k4 l2 (fun X' v I3 hI3 hv hX' => ?_)
    repeat' (first | (with_reducible refine drawC ?_) | (with_reducible refine drawW1 ?_) | (with_reducible refine drawW2 ?_) | (with_reducible refine keepC (by repeat (first | exact Ext.refl _ | assumption | refine Ext.trans ?_ (by assumption))) ?_) | (with_reducible refine newI (fun _ => ?_)) | first | (with_reducible refine rdb ?_) | ((with_reducible refine st1 ?_ ?_); rfl) | ((with_reducible refine rdB ?_ ?_); rfl) | (with_reducible refine rdbS ?_) | ((with_reducible refine rdBS ?_ ?_); rfl) | ((with_reducible refine stB ?_ ?_ ?_ ?_); rfl; rfl; exact one_all rfl) | ((with_reducible refine rdP _ rfl ?_ ?_); rfl) | ((with_reducible refine rdPS _ rfl ?_ ?_); rfl) | ((with_reducible refine stP _ rfl ?_ ?_ ?_ ?_); rfl; rfl; rfl) | (with_reducible refine And.intro ?_ ?_) | (simp only [Bool.not_true, Bool.not_false, Bool.and_self, Bool.true_and, Int.reduceBEq, Int.reduceBNe, Int.reduceLT, Int.reduceLE, decide_true, decide_false, Br_true, Br_false, Gd_tt, Gd_ft, Gd_tf, Gd_ff, beq_self_eq_true, bne_self_eq_false]) | (with_reducible refine gd_split (fun _ => ?_) (fun _ => ?_)) | (with_reducible refine br_split (fun _ => ?_) (fun _ => ?_)) | (simp only [SSd, List.getElem?_toArray, List.getElem?_cons_zero, List.getElem?_cons_succ, Nat.zero_add, Nat.add_zero, Nat.zero_mul, List.drop_succ_cons, List.drop_zero, List.take_succ_cons, List.take_zero, List.nil_append, List.cons_append, Nat.reduceAdd, List.drop_nil, List.take_nil]))
    refine call (Cal.split Y ?_)
    refine qchange_spec (l := y.fMembers) (hY.mono hI3) hw hE1 ho (k4.mono hI3) l2 (fun Y' I4 hI4 hY' => ?_)
    try simp only [SSd, List.getElem?_toArray, List.getElem?_cons_zero, List.getElem?_cons_succ, Nat.zero_add, Nat.add_zero, Nat.zero_mul, List.drop_succ_cons, List.drop_zero, List.take_succ_cons, List.take_zero, List.nil_append, List.cons_append, Nat.reduceAdd, List.drop_nil, List.take_nil]
    have q1 : RWF (x.fEntries.length + 65 * (k + 1)) (k + 1) (changeF r y.fMembers).2.2 := (hw.change hE1 _).weak w1 (Nat.le_succ _)
    have q2 := ok_change (ok_nil ho) hw hE1 y.fMembers
    have q3 := vo_change r y.fMembers
    have q4 := len_change hw hE1 y.fMembers
    generalize changeF r y.fMembers = rr at *
    exact next rr.2.2 inferInstance (hI3.trans hI4) (hX'.mono hI4) hY' (RL.mono (fun _ _ h => MsgV.mono h hI4) hv hI4 (fun _ h => h)) q2 (by omega) q1 q3
  refine br_split (fun q2 => ?_) (fun q2 => ?_)
  · repeat' (first | (with_reducible refine drawC ?_) | (with_reducible refine drawW1 ?_) | (with_reducible refine drawW2 ?_) | (with_reducible refine keepC (by repeat (first | exact Ext.refl _ | assumption | refine Ext.trans ?_ (by assumption))) ?_) | (with_reducible refine newI (fun _ => ?_)) | first | (with_reducible refine rdb ?_) | ((with_reducible refine st1 ?_ ?_); rfl) | ((with_reducible refine rdB ?_ ?_); rfl) | (with_reducible refine rdbS ?_) | ((with_reducible refine rdBS ?_ ?_); rfl) | ((with_reducible refine stB ?_ ?_ ?_ ?_); rfl; rfl; exact one_all rfl) | ((with_reducible refine rdP _ rfl ?_ ?_); rfl) | ((with_reducible refine rdPS _ rfl ?_ ?_); rfl) | ((with_reducible refine stP _ rfl ?_ ?_ ?_ ?_); rfl; rfl; rfl) | (with_reducible refine And.intro ?_ ?_) | (simp only [Bool.not_true, Bool.not_false, Bool.and_self, Bool.true_and, Int.reduceBEq, Int.reduceBNe, Int.reduceLT, Int.reduceLE, decide_true, decide_false, Br_true, Br_false, Gd_tt, Gd_ft, Gd_tf, Gd_ff, beq_self_eq_true, bne_self_eq_false]) | (with_reducible refine gd_split (fun _ => ?_) (fun _ => ?_)) | (with_reducible refine br_split (fun _ => ?_) (fun _ => ?_)) | (simp only [SSd, List.getElem?_toArray, List.getElem?_cons_zero, List.getElem?_cons_succ, Nat.zero_add, Nat.add_zero, Nat.zero_mul, List.drop_succ_cons, List.drop_zero, List.take_succ_cons, List.take_zero, List.nil_append, List.cons_append, Nat.reduceAdd, List.drop_nil, List.take_nil]))
    refine call (Cal.split X ?_)
    refine compact_spec (i := y.fN) (d := y.fData) hX hw d2 k3 l4 (fun X' I3 hI3 hX' => ?_)
    repeat' (first | (with_reducible refine drawC ?_) | (with_reducible refine drawW1 ?_) | (with_reducible refine drawW2 ?_) | (with_reducible refine keepC (by repeat (first | exact Ext.refl _ | assumption | refine Ext.trans ?_ (by assumption))) ?_) | (with_reducible refine newI (fun _ => ?_)) | first | (with_reducible refine rdb ?_) | ((with_reducible refine st1 ?_ ?_); rfl) | ((with_reducible refine rdB ?_ ?_); rfl) | (with_reducible refine rdbS ?_) | ((with_reducible refine rdBS ?_ ?_); rfl) | ((with_reducible refine stB ?_ ?_ ?_ ?_); rfl; rfl; exact one_all rfl) | ((with_reducible refine rdP _ rfl ?_ ?_); rfl) | ((with_reducible refine rdPS _ rfl ?_ ?_); rfl) | ((with_reducible refine stP _ rfl ?_ ?_ ?_ ?_); rfl; rfl; rfl) | (with_reducible refine And.intro ?_ ?_) | (simp only [Bool.not_true, Bool.not_false, Bool.and_self, Bool.true_and, Int.reduceBEq, Int.reduceBNe, Int.reduceLT, Int.reduceLE, decide_true, decide_false, Br_true, Br_false, Gd_tt, Gd_ft, Gd_tf, Gd_ff, beq_self_eq_true, bne_self_eq_false]) | (with_reducible refine gd_split (fun _ => ?_) (fun _ => ?_)) | (with_reducible refine br_split (fun _ => ?_) (fun _ => ?_)) | (simp only [SSd, List.getElem?_toArray, List.getElem?_cons_zero, List.getElem?_cons_succ, Nat.zero_add, Nat.add_zero, Nat.zero_mul, List.drop_succ_cons, List.drop_zero, List.take_succ_cons, List.take_zero, List.nil_append, List.cons_append, Nat.reduceAdd, List.drop_nil, List.take_nil]))
    refine call (Cal.split Y ?_)
    refine qcompact_spec (i := y.fN) (d := y.fData) (hY.mono hI3) hw d2 (k3.mono hI3) l4 (fun Y' I4 hI4 hY' => ?_)
    have q1 : RWF (x.fEntries.length + 65 * (k + 1)) (k + 1) (compactF r y.fN y.fData).2 := (hw.compact _ _).weak w3 (Nat.le_succ _)
    have q2 : (compactF r y.fN y.fData).2.out = [] := by
      unfold compactF; split
      · exact ho
      · simp only; split
        · exact ho
        · exact ho
    have q3 := vo_compact r y.fN y.fData
    generalize compactF r y.fN y.fData = rr at *
    exact next rr.2 inferInstance (hI3.trans hI4) (by rw [takeF_nil q2]; exact hX'.mono hI4) hY' (by rw [q2]; exact RL.nil _ _) (ok_nil q2) (by rw [q2]; simp) q1 q3
  refine br_split (fun q2 => ?_) (fun q2 => ?_)
  · exact absurd (by simpa using q2) h5
  · refine next r (b := b) (c := c) (X' := X) (Y' := Y) ?_ (Ext.refl _) (by rw [takeF_nil ho]; exact hX) hY (by rw [ho]; exact RL.nil _ _) (ok_nil ho) (by omega) (hw.weak w3 (Nat.le_succ _)) (VoteOk.refl r)
    infer_instance
end
end Go.Proofs.YtdcpeboecmkmlaaGreat
