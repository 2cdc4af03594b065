/-
  How much a node sends.
-/
-- S3
import Derived.Test.YtdcpeboecmkmlaaKR
set_option linter.unusedSimpArgs false
set_option linter.unusedVariables false
namespace Go.Proofs.Ytdcpeboecmkmlaa
open Go.SL
set_option maxRecDepth 10000

/-! ### How much is sent -/
section
variable {E B : Nat} {r : RF} {m : RM}
theorem len_send (r : RF) (m : RM) : (sendF r m).out.length = r.out.length + 1 := by simp [sendF]
theorem len_sendTo (r : RF) (p : Int) : (sendToF r p).out.length = r.out.length + 1 := len_send _ _
theorem len_tick (hw : RWF E B r) (hE : (E + 1) * 48 ≤ 150000000000000) (w : Int) : (tickF r w).out.length ≤ r.out.length + 5 := by
  have he := hw.ela
  have hw' : RWF E (B + 1) { r with elapsed := r.elapsed + 1 } := ⟨hw.wf, hw.len, hw.grp, hw.idn, hw.trm, hw.vot, hw.lst, hw.stl, by simp only; omega, hw.nxb, hw.mtb⟩
  have h1 := all_out r hw
  have h2 := want_out hw' hE
  unfold tickF; split
  · exact h1
  · split
    · exact h2
    · simp
theorem len_add (hw : RWF E B r) (hE : (E + 1) * 48 ≤ 150000000000000) (k : Int) (d : List UInt8) : (addF r k d).2.2.out.length ≤ r.out.length + 5 := by
  have h1 := all_out _ (hw.add hE k d).commit
  rw [commit_out] at h1
  unfold addF; simp only; split
  · exact Nat.le_add_right _ _
  · exact h1
theorem len_propose (hw : RWF E B r) (hE : (E + 1) * 48 ≤ 150000000000000) (d : List UInt8) : (proposeF r d).2.2.out.length ≤ r.out.length + 5 := by
  unfold proposeF; split
  · simp
  · exact len_add hw hE _ _
theorem len_change (hw : RWF E B r) (hE : (E + 1) * 48 ≤ 150000000000000) (l : List Int) : (changeF r l).2.2.out.length ≤ r.out.length + 5 := by
  unfold changeF; split
  · simp
  · split
    · simp
    · split
      · simp
      · exact len_add hw hE _ _
theorem len_appended (hw : RWF E B r) (hr : RB m) : (appendedF r m).out.length ≤ r.out.length + 5 := by
  have hidx := hr.idx
  have hnx := hw.nxb m.frm
  have hmt := hw.mtb m.frm
  have hw' : RWF E B { r with mt := updI r.mt m.frm (max (r.mt m.frm) m.index), nx := updI r.nx m.frm (max (r.mt m.frm) m.index + 1) } :=
    ⟨hw.wf, hw.len, hw.grp, hw.idn, hw.trm, hw.vot, hw.lst, hw.stl, hw.ela, fun p => by simp only [updI]; split <;> first | omega | exact hw.nxb p, fun p => by simp only [updI]; split <;> first | omega | exact hw.mtb p⟩
  have h1 := all_out _ hw'.commit
  have h2 := len_sendTo (commitF { r with mt := updI r.mt m.frm (max (r.mt m.frm) m.index), nx := updI r.nx m.frm (max (r.mt m.frm) m.index + 1) }).2 m.frm
  have h3 := len_sendTo { r with nx := updI r.nx m.frm (max m.index (r.mt m.frm) + 1) } m.frm
  have h4 := commit_out { r with mt := updI r.mt m.frm (max (r.mt m.frm) m.index), nx := updI r.nx m.frm (max (r.mt m.frm) m.index + 1) }
  rw [h4] at h1 h2
  simp only at h1 h2 h3
  unfold appendedF
  simp only
  split
  · split
    · omega
    · omega
  · split
    · omega
    · split
      · exact h1
      · split
        · omega
        · rw [h4]; simp
theorem len_handle (hw : RWF E B r) (hE : (E + 64) * 48 ≤ 150000000000000) (hr : RB m) : (handleF r m).out.length ≤ r.out.length + 5 := by
  have hw' : RWF E B { r with vt := updI r.vt m.frm true } := ⟨hw.wf, hw.len, hw.grp, hw.idn, hw.trm, hw.vot, hw.lst, hw.stl, hw.ela, hw.nxb, hw.mtb⟩
  have h1 := lead_out hw' (by omega)
  simp only at h1
  have h2 := len_appended hw hr
  unfold handleF
  split
  · unfold askedF; simp only; rw [len_send]; split <;> simp
  · split
    · unfold grantedF; simp only; split
      · split
        · exact h1
        · simp
      · omega
    · split
      · split
        · omega
        · unfold appendF; simp only; split
          · simp [hearF]
          · rw [len_send]; split <;> simp [hearF, settleF]
      · split
        · split
          · omega
          · unfold installF; simp only; split
            · rw [len_send]; simp [hearF]
            · split
              · simp [hearF]
              · rw [len_send]; simp [hearF]
        · split
          · split
            · exact h2
            · omega
          · omega
theorem len_step (hw : RWF E B r) (hE : (E + 64) * 48 ≤ 150000000000000) (m : RM) : (stepF r m).2.out.length ≤ r.out.length + 5 := by
  unfold stepF; split
  · simp
  · rename_i hn
    have hr : rightB m = true := by
      cases hb : rightB m
      · exact absurd (.inl hb) hn
      · rfl
    have hR := right_data hr
    split
    · simp only
      unfold refuseF; split
      · rw [len_send]; omega
      · split
        · rw [len_send]; omega
        · omega
    · have := len_handle (m := m) (hw.up hR) hE hR
      simp only
      have e : (upF r m).out = r.out := by unfold upF; split <;> rfl
      rw [e] at this; exact this
end

/-- messages that are sent have few entries -/
def OutOk (r : RF) : Prop := ∀ m ∈ r.out, m.ents.length ≤ 100 ∧ m.mem.length ≤ 100
theorem ok_send {r : RF} (h : OutOk r) {m : RM} (hm : m.ents.length ≤ 100 ∧ m.mem.length ≤ 100) : OutOk (sendF r m) := fun x hx => by
  rcases List.mem_append.1 hx with hx | hx
  · exact h x hx
  · rw [List.mem_singleton] at hx; subst hx; exact hm
theorem ok_same {r r' : RF} (h : OutOk r) (e : r'.out = r.out) : OutOk r' := fun x hx => h x (e ▸ hx)
theorem ok_sendTo {r : RF} (h : OutOk r) (hw : WF r.g) (p : Int) : OutOk (sendToF r p) := by
  unfold sendToF
  split
  · exact ok_send h ⟨by simp [snapM, msg0], by have := memB_len hw.mem; simp only [snapM]; omega⟩
  · refine ok_send h ⟨?_, by simp [appM, msg0]⟩
    simp only [appM, sliceAt]
    split
    · rw [List.length_take]; omega
    · simp
theorem ok_each : ∀ (l : List Int) {r : RF}, OutOk r → WF r.g → OutOk (eachF r l)
  | [], r, h, _ => h
  | p :: l, r, h, hw => by
    rw [each_cons]
    split
    · exact ok_each l h hw
    · exact ok_each l (ok_sendTo h hw p) hw
theorem ok_all {r : RF} (h : OutOk r) (hw : WF r.g) : OutOk (sendAllF r) := by
  unfold sendAllF; split
  · exact ok_each _ h hw
  · exact h
theorem ok_commit {r : RF} (h : OutOk r) : OutOk (commitF r).2 := ok_same h (commit_out r)
section
variable {E B : Nat} {r : RF} {m : RM}
theorem ok_lead (h : OutOk r) (hw : RWF E B r) (hE : (E + 1) * 48 ≤ 150000000000000) : OutOk (leadF r) :=
  ok_all (ok_commit (ok_same (r' := { lead0 r with g := (addG r.g r.term 1 []).2.2 }) h rfl)) (hw.lead0.add (by omega) 1 []).commit.wf
theorem ok_ask : ∀ (l : List Int) {r : RF}, OutOk r → OutOk (askF r l)
  | [], r, h => h
  | p :: l, r, h => by
    rw [ask_cons]
    split
    · exact ok_ask l h
    · exact ok_ask l (ok_send h ⟨by simp [voteM, msg0], by simp [voteM, msg0]⟩)
theorem ok_want (h : OutOk r) (hw : RWF E B r) (hE : (E + 1) * 48 ≤ 150000000000000) : OutOk (wantF r) := by
  unfold wantF; split
  · exact h
  · rename_i ht
    split
    · exact ok_lead (ok_same (r' := want0 r) h rfl) (hw.want0 ht) hE
    · exact ok_ask _ (ok_same (r' := want0 r) h rfl)
theorem ok_tick (h : OutOk r) (hw : RWF E B r) (hE : (E + 1) * 48 ≤ 150000000000000) (w : Int) : OutOk (tickF r w) := by
  have he := hw.ela
  have h' : OutOk { r with elapsed := r.elapsed + 1 } := h
  have hw' : RWF E (B + 1) { r with elapsed := r.elapsed + 1 } := ⟨hw.wf, hw.len, hw.grp, hw.idn, hw.trm, hw.vot, hw.lst, hw.stl, by simp only; omega, hw.nxb, hw.mtb⟩
  unfold tickF; split
  · exact ok_all h hw.wf
  · split
    · exact ok_want h' hw' hE
    · exact h'
theorem ok_add (h : OutOk r) (hw : RWF E B r) (hE : (E + 1) * 48 ≤ 150000000000000) (k : Int) (d : List UInt8) : OutOk (addF r k d).2.2 := by
  unfold addF; simp only; split
  · exact h
  · exact ok_all (ok_commit (ok_same (r' := { r with g := (addG r.g r.term k d).2.2 }) h rfl)) (hw.add (by omega) k d).commit.wf
theorem ok_propose (h : OutOk r) (hw : RWF E B r) (hE : (E + 1) * 48 ≤ 150000000000000) (d : List UInt8) : OutOk (proposeF r d).2.2 := by
  unfold proposeF; split
  · exact h
  · exact ok_add h hw hE _ _
theorem ok_change (h : OutOk r) (hw : RWF E B r) (hE : (E + 1) * 48 ≤ 150000000000000) (l : List Int) : OutOk (changeF r l).2.2 := by
  unfold changeF; split
  · exact h
  · split
    · exact h
    · split
      · exact h
      · exact ok_add h hw hE _ _
theorem ok_voted (h : OutOk r) (m : RM) (b : Bool) : OutOk (sendF r (votedM m b)) := ok_send h ⟨by simp [votedM, msg0], by simp [votedM, msg0]⟩
theorem ok_done (h : OutOk r) (m : RM) (b : Bool) (i : Int) : OutOk (sendF r (doneM m b i)) := ok_send h ⟨by simp [doneM, msg0], by simp [doneM, msg0]⟩
theorem ok_appended (h : OutOk r) (hw : RWF E B r) (hr : RB m) : OutOk (appendedF r m) := by
  have hidx := hr.idx
  have hnx := hw.nxb m.frm
  have hmt := hw.mtb m.frm
  have a1 : OutOk { r with nx := updI r.nx m.frm (max m.index (r.mt m.frm) + 1) } := h
  have a2 : OutOk { r with mt := updI r.mt m.frm (max (r.mt m.frm) m.index), nx := updI r.nx m.frm (max (r.mt m.frm) m.index + 1) } := h
  have hw' : RWF E B { r with mt := updI r.mt m.frm (max (r.mt m.frm) m.index), nx := updI r.nx m.frm (max (r.mt m.frm) m.index + 1) } :=
    ⟨hw.wf, hw.len, hw.grp, hw.idn, hw.trm, hw.vot, hw.lst, hw.stl, hw.ela, fun p => by simp only [updI]; split <;> first | omega | exact hw.nxb p, fun p => by simp only [updI]; split <;> first | omega | exact hw.mtb p⟩
  have h' := ok_commit a2
  have wc := hw'.commit.wf
  have b1 := ok_sendTo a1 hw.wf m.frm
  have b2 := ok_all h' wc
  have b3 := ok_sendTo h' wc m.frm
  unfold appendedF
  simp only
  split
  · split
    · exact b1
    · exact h
  · split
    · exact h
    · split
      · exact b2
      · split
        · exact b3
        · exact h'
theorem ok_handle (h : OutOk r) (hw : RWF E B r) (hE : (E + 64) * 48 ≤ 150000000000000) (hr : RB m) : OutOk (handleF r m) := by
  unfold handleF
  split
  · unfold askedF; simp only; split
    · exact ok_voted (ok_same (r' := { r with vote := m.frm, elapsed := 0 }) h rfl) _ _
    · exact ok_voted h _ _
  · split
    · unfold grantedF; simp only; split
      · have hw' : RWF E B { r with vt := updI r.vt m.frm true } := ⟨hw.wf, hw.len, hw.grp, hw.idn, hw.trm, hw.vot, hw.lst, hw.stl, hw.ela, hw.nxb, hw.mtb⟩
        split
        · exact ok_lead (ok_same (r' := { r with vt := updI r.vt m.frm true }) h rfl) hw' (by omega)
        · exact h
      · exact h
    · split
      · split
        · exact h
        · unfold appendF; simp only; split
          · exact h
          · refine ok_done (ok_same h ?_) _ _ _
            split <;> rfl
      · split
        · split
          · exact h
          · unfold installF; simp only; split
            · exact ok_done (ok_same (r' := hearF r m.frm) h rfl) _ _ _
            · split
              · exact h
              · exact ok_done (ok_same h rfl) _ _ _
        · split
          · split
            · exact ok_appended h hw hr
            · exact h
          · exact h
theorem ok_step (h : OutOk r) (hw : RWF E B r) (hE : (E + 64) * 48 ≤ 150000000000000) (m : RM) : OutOk (stepF r m).2 := by
  unfold stepF; split
  · exact h
  · rename_i hn
    have hr : rightB m = true := by
      cases hb : rightB m
      · exact absurd (.inl hb) hn
      · rfl
    have hR := right_data hr
    split
    · unfold refuseF; split
      · exact ok_voted h _ _
      · split
        · exact ok_done h _ _ _
        · exact h
    · refine ok_handle (ok_same h ?_) (hw.up hR) hE hR
      unfold upF; split <;> rfl
theorem ok_nil (h : r.out = []) : OutOk r := fun m hm => by rw [h] at hm; cases hm
end
end Go.Proofs.Ytdcpeboecmkmlaa
