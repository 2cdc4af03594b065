/-
  A node, plainly: what holds of it is kept; its term and its vote.
-/
-- S3
import Derived.Test.YtdcpeboecmkmlaaKK
set_option linter.unusedSimpArgs false
set_option linter.unusedVariables false
namespace Go.Proofs.Ytdcpeboecmkmlaa
open Go.SL
set_option maxRecDepth 10000

theorem fol_mem : ∀ {es : List LE} {i t : Int}, followB i t es = true → (∀ e ∈ es, e.term ≤ ltm t es) ∧ t ≤ ltm t es
  | [], i, t, _ => ⟨fun e he => by (cases he), Int.le_refl _⟩
  | x :: es, i, t, h => by
    simp only [followB, Bool.and_eq_true, decide_eq_true_eq] at h
    obtain ⟨⟨⟨_, _⟩, h3⟩, h4⟩ := h
    obtain ⟨a, b⟩ := fol_mem h4
    refine ⟨fun e he => ?_, by simp only [ltm]; omega⟩
    rcases List.mem_cons.1 he with rfl | he
    · exact b
    · exact a e he
theorem ltm_mem_le {T : Int} : ∀ {es : List LE} {t : Int}, t ≤ T → (∀ e ∈ es, e.term ≤ T) → ltm t es ≤ T
  | [], t, h, _ => h
  | x :: es, t, h, ha => ltm_mem_le (es := es) (ha x (List.mem_cons_self ..)) (fun e he => ha e (List.mem_cons_of_mem _ he))
theorem offW_mem : ∀ (es : List LE) (g g' : LG), offW g es = some g' → (∀ e ∈ g'.es, e ∈ g.es ∨ e ∈ es) ∧ g'.term = g.term ∧ g'.es.length ≤ g.es.length + es.length
  | [], g, g', h => by
    simp only [offW, Option.some.injEq] at h; subst h; exact ⟨fun e he => .inl he, rfl, by simp⟩
  | x :: r, g, g', h => by
    have tail : some { g with es := g.es.take (x.index - g.index - 1).toNat ++ x :: r } = some g' → (∀ e ∈ g'.es, e ∈ g.es ∨ e ∈ x :: r) ∧ g'.term = g.term ∧ g'.es.length ≤ g.es.length + (x :: r).length := fun h => by
      simp only [Option.some.injEq] at h; subst h
      refine ⟨fun e he => ?_, rfl, by simp only [List.length_append, List.length_take, List.length_cons]; omega⟩
      rcases List.mem_append.1 he with he | he
      · exact .inl (List.mem_of_mem_take he)
      · exact .inr he
    unfold offW at h
    split at h
    · split at h
      · obtain ⟨a, b, c⟩ := offW_mem r g g' h
        exact ⟨fun e he => (a e he).imp id (List.mem_cons_of_mem _), b, by simp only [List.length_cons]; omega⟩
      · split at h
        · cases h
        · exact tail h
    · exact tail h
theorem offer_mem (g : LG) (i t : Int) (es : List LE) : (∀ e ∈ (offerG g i t es).2.2.2.es, e ∈ g.es ∨ e ∈ es) ∧ (offerG g i t es).2.2.2.term = g.term ∧ (offerG g i t es).2.2.2.es.length ≤ g.es.length + es.length := by
  have o2 : ∀ (i : Int) (l : List LE), (∀ e ∈ l, e ∈ es) → l.length ≤ es.length → (∀ e ∈ (off2 g i l).2.2.2.es, e ∈ g.es ∨ e ∈ es) ∧ (off2 g i l).2.2.2.term = g.term ∧ (off2 g i l).2.2.2.es.length ≤ g.es.length + es.length := fun i l hl hn => by
    unfold off2
    split
    · rename_i g' h
      obtain ⟨a, b, c⟩ := offW_mem l g g' h
      exact ⟨fun e he => (a e he).imp id (hl e), b, by simp only; omega⟩
    · exact ⟨fun e he => .inl he, rfl, by simp⟩
  have same : (∀ e ∈ g.es, e ∈ g.es ∨ e ∈ es) ∧ g.term = g.term ∧ g.es.length ≤ g.es.length + es.length := ⟨fun e he => .inl he, rfl, by omega⟩
  unfold offerG
  split
  · exact same
  · split
    · split
      · exact same
      · exact o2 _ _ (fun e he => List.mem_of_mem_drop he) (by simp)
    · split
      · exact o2 _ _ (fun e he => he) (Nat.le_refl _)
      · exact same
theorem reset_mem {g : LG} {i t : Int} {m : List Int} {T : Int} (hl : lastT g ≤ T) (hw : WF g) (ht : t ≤ T) : lastT (resetG g i t m).2 ≤ T ∧ (resetG g i t m).2.es.length ≤ g.es.length := by
  unfold resetG
  split
  · exact ⟨hl, Nat.le_refl _⟩
  · split
    · exact ⟨hl, Nat.le_refl _⟩
    · simp only [lastT]
      split
      · refine ⟨ltm_mem_le ht (fun e he => ?_), by simp⟩
        have := (fol_mem hw.fol).1 e (List.mem_of_mem_drop he)
        unfold lastT at hl; omega
      · exact ⟨ht, by simp⟩
theorem cut_lastT {g : LG} {i : Int} (hw : WF g) : lastT (cutG g i).2 = lastT g := by
  unfold cutG
  split
  · rfl
  · rename_i h
    have hcom := hw.com
    simp only [lastT]
    rw [termAt_in hw (by omega) (by omega)]
    simp only
    rw [← ltm_append, List.take_append_drop]
theorem cut_len (g : LG) (i : Int) : (cutG g i).2.es.length ≤ g.es.length := by
  unfold cutG; split <;> simp

section
variable {E B : Nat} {r : RF} {m : RM}
theorem RWF.follow (h : RWF E B r) {t : Int} (ht : 0 ≤ t ∧ t ≤ 9007199254740991) : RWF E B (followF r t) := by
  have h1 := h.trm
  have h2 := h.lst
  refine ⟨h.wf, h.len, h.grp, h.idn, ?_, ?_, ?_, h.stl, h.ela, h.nxb, h.mtb⟩
  · simp only [followF]; split <;> omega
  · simp only [followF]; split
    · exact .inl rfl
    · exact h.vot
  · simp only [followF]; split <;> omega
theorem RWF.up (h : RWF E B r) (hr : RB m) : RWF E B (upF r m) := by
  unfold upF; split
  · exact h.follow (by have := hr.trm; omega)
  · exact h
theorem RWF.hear (h : RWF E B r) (p : Int) : RWF E B (hearF r p) := ⟨h.wf, h.len, h.grp, h.idn, h.trm, h.vot, h.lst, h.stl, by simp [hearF], h.nxb, h.mtb⟩
theorem RWF.refuse (h : RWF E B r) (m : RM) : RWF E B (refuseF r m) := by
  unfold refuseF; split
  · exact h.send _
  · split
    · exact h.send _
    · exact h
theorem RWF.asked (h : RWF E B r) (hr : RB m) : RWF E B (askedF r m) := by
  unfold askedF
  simp only
  split
  · have h' : RWF E B { r with vote := m.frm, elapsed := 0 } := ⟨h.wf, h.len, h.grp, h.idn, h.trm, .inr hr.frm, h.lst, h.stl, by simp, h.nxb, h.mtb⟩
    exact h'.send _
  · exact h.send _
theorem RWF.granted (h : RWF E B r) (hE : (E + 1) * 48 ≤ 150000000000000) : RWF (E + 1) B (grantedF r m) := by
  have h' : RWF E B { r with vt := updI r.vt m.frm true } := ⟨h.wf, h.len, h.grp, h.idn, h.trm, h.vot, h.lst, h.stl, h.ela, h.nxb, h.mtb⟩
  unfold grantedF
  simp only
  split
  · split
    · exact h'.lead hE
    · exact h'.weak (by omega) (by omega)
  · exact h.weak (by omega) (by omega)
theorem RWF.append (h : RWF E B r) (hE : (E + 64) * 48 ≤ 150000000000000) (hr : RB m) (ht : m.term ≤ r.term) : RWF (E + 64) B (appendF r m) := by
  have hlen := h.len
  have hnum := hr.num
  have hlst := h.lst
  obtain ⟨o1, o2, o3⟩ := offer_mem r.g m.index m.lterm m.ents
  have hwo : WF (offerG r.g m.index m.lterm m.ents).2.2.2 := offer_wf h.wf (by omega)
  have key : RWF (E + 64) B { hearF r m.frm with g := (offerG r.g m.index m.lterm m.ents).2.2.2 } := by
    refine ⟨hwo, by simp only; omega, h.grp, h.idn, h.trm, h.vot, ?_, h.stl, by simp [hearF], h.nxb, h.mtb⟩
    simp only [lastT, o2, hearF]
    have hg := (fol_mem h.wf.fol)
    unfold lastT at hlst
    refine ltm_mem_le (by omega) (fun e he => ?_)
    rcases o1 e he with he | he
    · have := hg.1 e he; omega
    · have := (hr.ent e he).2; omega
  unfold appendF
  simp only
  split
  · exact key
  · refine RWF.send ?_ _
    split
    · exact key.settle _
    · exact key
theorem RWF.install (h : RWF E B r) (hr : RB m) (ht : m.lterm ≤ r.term) : RWF E B (installF r m) := by
  unfold installF
  simp only
  split
  · exact (h.hear _).send _
  · split
    · exact h.hear _
    · have hrm := reset_mem (i := m.index) (m := m.mem) h.lst h.wf ht
      have h' : RWF E B { hearF r m.frm with g := (resetG r.g m.index m.lterm m.mem).2, st := m.data } := ⟨reset_wf h.wf, Nat.le_trans hrm.2 h.len, h.grp, h.idn, h.trm, h.vot, hrm.1, hr.dat, by simp [hearF], h.nxb, h.mtb⟩
      exact h'.send _
theorem RWF.appended (h : RWF E B r) (hr : RB m) : RWF E B (appendedF r m) := by
  have hidx := hr.idx
  have hnx := h.nxb m.frm
  have hmt := h.mtb m.frm
  unfold appendedF
  simp only
  split
  · split
    · have h' : RWF E B { r with nx := updI r.nx m.frm (max m.index (r.mt m.frm) + 1) } := ⟨h.wf, h.len, h.grp, h.idn, h.trm, h.vot, h.lst, h.stl, h.ela, fun p => by simp only [updI]; split <;> first | omega | exact h.nxb p, h.mtb⟩
      exact h'.sendTo _
    · exact h
  · split
    · exact h
    · have hw' : RWF E B { r with mt := updI r.mt m.frm (max (r.mt m.frm) m.index), nx := updI r.nx m.frm (max (r.mt m.frm) m.index + 1) } :=
        ⟨h.wf, h.len, h.grp, h.idn, h.trm, h.vot, h.lst, h.stl, h.ela, fun p => by simp only [updI]; split <;> first | omega | exact h.nxb p, fun p => by simp only [updI]; split <;> first | omega | exact h.mtb p⟩
      split
      · exact hw'.commit.all
      · split
        · exact hw'.commit.sendTo _
        · exact hw'.commit
theorem right_snap (h : rightB m = true) (h5 : m.kind = 5) : m.lterm ≤ m.term := by
  simp only [rightB, Bool.and_eq_true, kindB, h5] at h
  have := h.2
  simp at this
  omega
theorem RWF.handle (h : RWF E B r) (hE : (E + 64) * 48 ≤ 150000000000000) (hr : RB m) (h5 : m.kind = 5 → m.lterm ≤ m.term) (ht : m.term ≤ r.term) : RWF (E + 64) B (handleF r m) := by
  unfold handleF
  split
  · exact (h.asked hr).weak (by omega) (by omega)
  · split
    · exact (h.granted (by omega)).weak (by omega) (by omega)
    · split
      · split
        · exact h.weak (by omega) (by omega)
        · exact h.append hE hr ht
      · split
        · rename_i hk
          split
          · exact h.weak (by omega) (by omega)
          · exact (h.install hr (by have := h5 hk; omega)).weak (by omega) (by omega)
        · split
          · split
            · exact (h.appended hr).weak (by omega) (by omega)
            · exact h.weak (by omega) (by omega)
          · exact h.weak (by omega) (by omega)
theorem RWF.step (h : RWF E B r) (hE : (E + 64) * 48 ≤ 150000000000000) (m : RM) : RWF (E + 64) B (stepF r m).2 := by
  unfold stepF
  split
  · exact h.weak (by omega) (by omega)
  · rename_i hn
    have hr : rightB m = true := by
      cases hb : rightB m
      · exact absurd (.inl hb) hn
      · rfl
    have hR := right_data hr
    split
    · exact (h.refuse m).weak (by omega) (by omega)
    · refine (h.up hR).handle hE hR (right_snap hr) ?_
      unfold upF; split
      · simp only [followF]; split <;> omega
      · omega
theorem RWF.tick (h : RWF E B r) (hE : (E + 1) * 48 ≤ 150000000000000) (w : Int) : RWF (E + 1) (B + 1) (tickF r w) := by
  have he := h.ela
  have h' : RWF E (B + 1) { r with elapsed := r.elapsed + 1 } := ⟨h.wf, h.len, h.grp, h.idn, h.trm, h.vot, h.lst, h.stl, by simp only; omega, h.nxb, h.mtb⟩
  unfold tickF
  split
  · exact h.all.weak (by omega) (by omega)
  · split
    · exact h'.want hE
    · exact h'.weak (by omega) (by omega)
theorem RWF.addF (h : RWF E B r) (hE : (E + 1) * 48 ≤ 150000000000000) (k : Int) (d : List UInt8) : RWF (E + 1) B (addF r k d).2.2 := by
  unfold Go.Proofs.Ytdcpeboecmkmlaa.addF
  simp only
  split
  · exact h.weak (by omega) (by omega)
  · exact (h.add hE k d).commit.all
theorem RWF.propose (h : RWF E B r) (hE : (E + 1) * 48 ≤ 150000000000000) (d : List UInt8) : RWF (E + 1) B (proposeF r d).2.2 := by
  unfold proposeF; split
  · exact h.weak (by omega) (by omega)
  · exact h.addF hE 2 d
theorem RWF.change (h : RWF E B r) (hE : (E + 1) * 48 ≤ 150000000000000) (l : List Int) : RWF (E + 1) B (changeF r l).2.2 := by
  unfold changeF; split
  · exact h.weak (by omega) (by omega)
  · split
    · exact h.weak (by omega) (by omega)
    · split
      · exact h.weak (by omega) (by omega)
      · exact h.addF hE 3 _
theorem RWF.compact (h : RWF E B r) (i : Int) (d : List UInt8) : RWF E B (compactF r i d).2 := by
  unfold compactF; split
  · exact h
  · rename_i hd
    simp only
    split
    · exact h
    · exact ⟨cut_wf h.wf, Nat.le_trans (cut_len r.g i) h.len, h.grp, h.idn, h.trm, h.vot, by simp only [cut_lastT h.wf]; exact h.lst, by simp only; omega, h.ela, h.nxb, h.mtb⟩
theorem newF_wf {group id term vote : Int} {g : LG} {st : List UInt8} (hw : WF g) (hl : g.es.length ≤ E) (h : newOk group id term vote g st = true) : RWF E B (newF group id term vote g st) := by
  simp only [newOk, Bool.and_eq_true, decide_eq_true_eq, nodeB, countB, Bool.or_eq_true, beq_iff_eq] at h
  obtain ⟨⟨⟨⟨⟨⟨h1, h2⟩, h3⟩, h4⟩, h5⟩, h6⟩, h7⟩ := h
  exact ⟨hw, hl, ⟨h1, h2⟩, h3, h4, h5, h6, h7, by simp [newF], fun p => by simp [newF], fun p => by simp [newF]⟩
theorem RWF.newOk (h : RWF E B r) : newOk r.group r.id r.term r.vote r.g r.st = true := by
  have h1 := h.grp; have h2 := h.idn; have h3 := h.trm; have h4 := h.vot; have h5 := h.lst; have h6 := h.stl
  simp only [Go.Proofs.Ytdcpeboecmkmlaa.newOk, Bool.and_eq_true, decide_eq_true_eq, nodeB, countB, Bool.or_eq_true, beq_iff_eq]
  exact ⟨⟨⟨⟨⟨⟨h1.1, h1.2⟩, h2⟩, h3⟩, h4⟩, h5⟩, h6⟩
end

/-! ### Its term and its vote -/
def VoteOk (r r' : RF) : Prop := r.term ≤ r'.term ∧ (r'.term = r.term → r.vote ≠ 0 → r'.vote = r.vote) ∧ r'.group = r.group ∧ r'.id = r.id
theorem VoteOk.refl (r : RF) : VoteOk r r := ⟨Int.le_refl _, fun _ _ => rfl, rfl, rfl⟩
theorem VoteOk.trans {a b c : RF} (h : VoteOk a b) (h' : VoteOk b c) : VoteOk a c := by
  obtain ⟨h1, h2, h3, h4⟩ := h
  obtain ⟨g1, g2, g3, g4⟩ := h'
  refine ⟨by omega, fun e hv => ?_, g3.trans h3, g4.trans h4⟩
  have e1 : b.term = a.term := by omega
  have e2 := h2 e1 hv
  rw [g2 (by omega) (by rw [e2]; exact hv), e2]
theorem VoteOk.same {a b : RF} (h1 : b.term = a.term) (h2 : b.vote = a.vote) (h3 : b.group = a.group) (h4 : b.id = a.id) : VoteOk a b := ⟨by omega, fun _ _ => h2, h3, h4⟩
theorem vo_each (r : RF) (l : List Int) : VoteOk r (eachF r l) := by
  obtain ⟨e1, e2, e3, e4, e5, e6, e7, _⟩ := RF.ext_out (each_same l r).2
  exact .same e4 e5 e7 e2
theorem vo_all (r : RF) : VoteOk r (sendAllF r) := by
  unfold sendAllF; split
  · exact vo_each _ _
  · exact .refl _
theorem vo_commit (r : RF) : VoteOk r (commitF r).2 := by
  rw [commitF_eq, comF, outF]
  split <;> split <;> exact .same rfl rfl rfl rfl
theorem vo_lead (r : RF) : VoteOk r (leadF r) := by
  unfold leadF
  have h0 : VoteOk r { lead0 r with g := (addG r.g r.term 1 []).2.2 } := .same rfl rfl rfl rfl
  exact (h0.trans (vo_commit _)).trans (vo_all _)
theorem vo_ask (r : RF) (l : List Int) : VoteOk r (askF r l) := by
  obtain ⟨e1, e2, e3, e4, e5, e6, e7, _⟩ := RF.ext_out (ask_same l r).2
  exact .same e4 e5 e7 e2
theorem vo_want (r : RF) : VoteOk r (wantF r) := by
  have h0 : VoteOk r (want0 r) := ⟨by simp only [want0]; omega, fun h => by simp only [want0] at h; omega, rfl, rfl⟩
  unfold wantF; split
  · exact .refl _
  · split
    · exact h0.trans (vo_lead _)
    · exact h0.trans (vo_ask _ _)
theorem vo_tick (r : RF) (w : Int) : VoteOk r (tickF r w) := by
  have h0 : VoteOk r { r with elapsed := r.elapsed + 1 } := .same rfl rfl rfl rfl
  unfold tickF; split
  · exact vo_all _
  · split
    · exact h0.trans (vo_want _)
    · exact h0
theorem vo_add (r : RF) (k : Int) (d : List UInt8) : VoteOk r (addF r k d).2.2 := by
  have h0 : VoteOk r { r with g := (addG r.g r.term k d).2.2 } := .same rfl rfl rfl rfl
  unfold addF; simp only; split
  · exact .refl _
  · exact (h0.trans (vo_commit _)).trans (vo_all _)
theorem vo_propose (r : RF) (d : List UInt8) : VoteOk r (proposeF r d).2.2 := by
  unfold proposeF; split
  · exact .refl _
  · exact vo_add _ _ _
theorem vo_change (r : RF) (l : List Int) : VoteOk r (changeF r l).2.2 := by
  unfold changeF; split
  · exact .refl _
  · split
    · exact .refl _
    · split
      · exact .refl _
      · exact vo_add _ _ _
theorem vo_compact (r : RF) (i : Int) (d : List UInt8) : VoteOk r (compactF r i d).2 := by
  unfold compactF; split
  · exact .refl _
  · simp only; split
    · exact .refl _
    · exact .same rfl rfl rfl rfl
theorem vo_handle (r : RF) (m : RM) : VoteOk r (handleF r m) := by
  unfold handleF
  split
  · unfold askedF
    simp only
    split
    · rename_i hg
      simp only [grantB, Bool.and_eq_true, Bool.or_eq_true, decide_eq_true_eq] at hg
      refine ⟨Int.le_refl _, fun _ hv => ?_, rfl, rfl⟩
      rcases hg.1 with h | h
      · exact absurd h hv
      · exact h.symm
    · exact .same rfl rfl rfl rfl
  · split
    · unfold grantedF; simp only; split
      · split
        · exact VoteOk.trans (.same rfl rfl rfl rfl) (vo_lead _)
        · exact .same rfl rfl rfl rfl
      · exact .refl _
    · split
      · split
        · exact .refl _
        · unfold appendF; simp only; split
          · exact .same rfl rfl rfl rfl
          · split <;> exact .same rfl rfl rfl rfl
      · split
        · split
          · exact .refl _
          · unfold installF; simp only; split
            · exact .same rfl rfl rfl rfl
            · split <;> exact .same rfl rfl rfl rfl
        · split
          · split
            · unfold appendedF; simp only; split
              · split <;> exact .same rfl rfl rfl rfl
              · split
                · exact .refl _
                · have h0 : VoteOk r { r with mt := updI r.mt m.frm (max (r.mt m.frm) m.index), nx := updI r.nx m.frm (max (r.mt m.frm) m.index + 1) } := .same rfl rfl rfl rfl
                  split
                  · exact (h0.trans (vo_commit _)).trans (vo_all _)
                  · split
                    · exact (h0.trans (vo_commit _)).trans (.same rfl rfl rfl rfl)
                    · exact h0.trans (vo_commit _)
            · exact .refl _
          · exact .refl _
theorem vo_step (r : RF) (m : RM) : VoteOk r (stepF r m).2 := by
  unfold stepF; split
  · exact .refl _
  · split
    · unfold refuseF; split
      · exact .same rfl rfl rfl rfl
      · split <;> exact .same rfl rfl rfl rfl
    · refine VoteOk.trans ?_ (vo_handle _ m)
      unfold upF followF; split
      · exact ⟨by simp only; omega, fun h => by simp only at h; omega, rfl, rfl⟩
      · exact .refl _
end Go.Proofs.Ytdcpeboecmkmlaa
