/-
  Values of struct types: printed by a program (gotypes.py).
-/
import Derived.Test.YtdcpeboecmkmlaaKP
set_option linter.unusedSimpArgs false
set_option linter.unusedVariables false
namespace Go.Proofs.Ytdcpeboecmkmlaa
open Go.SL
set_option maxRecDepth 10000

structure TLogEntry where
  fIndex : Int
  fTerm : Int
  fKind : Int
  fData : List UInt8
instance : Inhabited TLogEntry := ⟨⟨0, 0, 0, []⟩⟩
def TLogEntryV (I : Imm) (x : TLogEntry) (c : List Value) : Prop := ∃ v0, c = [.int .i64 x.fIndex, .int .i64 x.fTerm, .int .i64 x.fKind, v0] ∧ Bytes I v0 x.fData
theorem TLogEntryV.mono {I I' : Imm} {x : TLogEntry} {c : List Value} (h : TLogEntryV I x c) (hI : Ext I I') : TLogEntryV I' x c := by
  obtain ⟨v0, rfl, h0⟩ := h
  exact ⟨v0, rfl, h0.mono hI⟩
theorem TLogEntryV.len {I : Imm} {x : TLogEntry} {c : List Value} (h : TLogEntryV I x c) : c.length = 4 := by
  obtain ⟨v0, rfl, h0⟩ := h
  rfl
theorem TLogEntryV.one {I : Imm} {x : TLogEntry} {c : List Value} (h : TLogEntryV I x c) : ∀ u ∈ c, u.oneCell' = true := by
  obtain ⟨v0, rfl, h0⟩ := h
  obtain ⟨_, _, rfl⟩ := Bytes.form h0
  exact one_all rfl
theorem TLogEntryV.zero (I : Imm) : TLogEntryV I default [.int .i64 0, .int .i64 0, .int .i64 0, .slice none 0 0] := ⟨_, rfl, SlI.nil I 1 none 0⟩
def TLogEntryB (rz : Nat) (x : TLogEntry) : Prop := inI64 x.fIndex ∧ inI64 x.fTerm ∧ inI64 x.fKind ∧ x.fData.length ≤ rz
theorem ceTLogEntry : Try.prog.cellsOf 59 = 4 := by kernel_rfl
theorem byTLogEntry : Try.prog.bytesOf 59 = 48 := by kernel_rfl
theorem TLogEntry_open {rz : Nat} {W : World} {cs : List Value} (h : TrR rz Try.prog W 59 cs) : ∃ x, TLogEntryB rz x ∧ TLogEntryV (heapI W) x cs := by
  have hl := (tr_struct Try.underlying59 h).1
  rw [ceTLogEntry] at hl
  obtain ⟨c0, c1, c2, c3, rfl⟩ : ∃ c0 c1 c2 c3, cs = [c0, c1, c2, c3] := by
    match cs, hl with
    | [c0, c1, c2, c3], _ => exact ⟨c0, c1, c2, c3, rfl⟩
  obtain ⟨n0, e0, w0⟩ := tr_int Try.underlying3 (cs := [c0]) (tr_field 0 Try.underlying59 h rfl (n := 1) (by kernel_rfl))
  simp only [List.cons.injEq, and_true] at e0
  subst e0
  obtain ⟨n1, e1, w1⟩ := tr_int Try.underlying3 (cs := [c1]) (tr_field 1 Try.underlying59 h rfl (n := 1) (by kernel_rfl))
  simp only [List.cons.injEq, and_true] at e1
  subst e1
  obtain ⟨n2, e2, w2⟩ := tr_int Try.underlying3 (cs := [c2]) (tr_field 2 Try.underlying59 h rfl (n := 1) (by kernel_rfl))
  simp only [List.cons.injEq, and_true] at e2
  subst e2
  obtain ⟨n3, h3, w3⟩ := tr_bytes Try.underlying34 Try.underlying5 (by kernel_rfl) (by kernel_rfl) (v := c3) (tr_field 3 Try.underlying59 h rfl (n := 1) (by kernel_rfl))
  exact ⟨⟨n0, n1, n2, n3⟩, ⟨wf_i64 w0, wf_i64 w1, wf_i64 w2, w3⟩, ⟨_, rfl, h3⟩⟩

structure TStart where
  fGroup : Int
  fId : Int
  fTerm : Int
  fVote : Int
  fIndex : Int
  fAt : Int
  fCommit : Int
  fMembers : List Int
  fEntries : List TLogEntry
  fState : List UInt8
instance : Inhabited TStart := ⟨⟨0, 0, 0, 0, 0, 0, 0, [], [], []⟩⟩
def TStartV (I : Imm) (x : TStart) (c : List Value) : Prop := ∃ v0 v1 v2, c = [.int .i64 x.fGroup, .int .i64 x.fId, .int .i64 x.fTerm, .int .i64 x.fVote, .int .i64 x.fIndex, .int .i64 x.fAt, .int .i64 x.fCommit, v0, v1, v2] ∧ Ints I v0 x.fMembers ∧ RL TLogEntryV 4 I [] v1 x.fEntries ∧ Bytes I v2 x.fState
theorem TStartV.mono {I I' : Imm} {x : TStart} {c : List Value} (h : TStartV I x c) (hI : Ext I I') : TStartV I' x c := by
  obtain ⟨v0, v1, v2, rfl, h0, h1, h2⟩ := h
  exact ⟨v0, v1, v2, rfl, h0.mono hI, RL.mono (fun _ _ h => TLogEntryV.mono h hI) h1 hI (fun _ h => by cases h), h2.mono hI⟩
theorem TStartV.len {I : Imm} {x : TStart} {c : List Value} (h : TStartV I x c) : c.length = 10 := by
  obtain ⟨v0, v1, v2, rfl, h0, h1, h2⟩ := h
  rfl
theorem TStartV.one {I : Imm} {x : TStart} {c : List Value} (h : TStartV I x c) : ∀ u ∈ c, u.oneCell' = true := by
  obtain ⟨v0, v1, v2, rfl, h0, h1, h2⟩ := h
  obtain ⟨_, _, rfl⟩ := Ints.form h0
  obtain ⟨_, _, rfl⟩ := RL.form h1
  obtain ⟨_, _, rfl⟩ := Bytes.form h2
  exact one_all rfl
theorem TStartV.zero (I : Imm) : TStartV I default [.int .i64 0, .int .i64 0, .int .i64 0, .int .i64 0, .int .i64 0, .int .i64 0, .int .i64 0, .slice none 0 0, .slice none 0 0, .slice none 0 0] := ⟨_, _, _, rfl, SlI.nil I 1 none 0, RL.nil none 0, SlI.nil I 1 none 0⟩
def TStartB (rz : Nat) (x : TStart) : Prop := inI64 x.fGroup ∧ inI64 x.fId ∧ inI64 x.fTerm ∧ inI64 x.fVote ∧ inI64 x.fIndex ∧ inI64 x.fAt ∧ inI64 x.fCommit ∧ x.fMembers.length * 8 ≤ rz ∧ (∀ y ∈ x.fMembers, inI64 y) ∧ x.fEntries.length * 48 ≤ rz ∧ (∀ y ∈ x.fEntries, TLogEntryB rz y) ∧ x.fState.length ≤ rz
theorem ceTStart : Try.prog.cellsOf 70 = 10 := by kernel_rfl
theorem byTStart : Try.prog.bytesOf 70 = 128 := by kernel_rfl
theorem TStart_open {rz : Nat} {W : World} {cs : List Value} (h : TrR rz Try.prog W 70 cs) : ∃ x, TStartB rz x ∧ TStartV (heapI W) x cs := by
  have hl := (tr_struct Try.underlying70 h).1
  rw [ceTStart] at hl
  obtain ⟨c0, c1, c2, c3, c4, c5, c6, c7, c8, c9, rfl⟩ : ∃ c0 c1 c2 c3 c4 c5 c6 c7 c8 c9, cs = [c0, c1, c2, c3, c4, c5, c6, c7, c8, c9] := by
    match cs, hl with
    | [c0, c1, c2, c3, c4, c5, c6, c7, c8, c9], _ => exact ⟨c0, c1, c2, c3, c4, c5, c6, c7, c8, c9, rfl⟩
  obtain ⟨n0, e0, w0⟩ := tr_int Try.underlying3 (cs := [c0]) (tr_field 0 Try.underlying70 h rfl (n := 1) (by kernel_rfl))
  simp only [List.cons.injEq, and_true] at e0
  subst e0
  obtain ⟨n1, e1, w1⟩ := tr_int Try.underlying3 (cs := [c1]) (tr_field 1 Try.underlying70 h rfl (n := 1) (by kernel_rfl))
  simp only [List.cons.injEq, and_true] at e1
  subst e1
  obtain ⟨n2, e2, w2⟩ := tr_int Try.underlying3 (cs := [c2]) (tr_field 2 Try.underlying70 h rfl (n := 1) (by kernel_rfl))
  simp only [List.cons.injEq, and_true] at e2
  subst e2
  obtain ⟨n3, e3, w3⟩ := tr_int Try.underlying3 (cs := [c3]) (tr_field 3 Try.underlying70 h rfl (n := 1) (by kernel_rfl))
  simp only [List.cons.injEq, and_true] at e3
  subst e3
  obtain ⟨n4, e4, w4⟩ := tr_int Try.underlying3 (cs := [c4]) (tr_field 4 Try.underlying70 h rfl (n := 1) (by kernel_rfl))
  simp only [List.cons.injEq, and_true] at e4
  subst e4
  obtain ⟨n5, e5, w5⟩ := tr_int Try.underlying3 (cs := [c5]) (tr_field 5 Try.underlying70 h rfl (n := 1) (by kernel_rfl))
  simp only [List.cons.injEq, and_true] at e5
  subst e5
  obtain ⟨n6, e6, w6⟩ := tr_int Try.underlying3 (cs := [c6]) (tr_field 6 Try.underlying70 h rfl (n := 1) (by kernel_rfl))
  simp only [List.cons.injEq, and_true] at e6
  subst e6
  obtain ⟨n7, h7, w7, w7'⟩ := tr_ints Try.underlying29 Try.underlying3 (by kernel_rfl) (by kernel_rfl) (v := c7) (tr_field 7 Try.underlying70 h rfl (n := 1) (by kernel_rfl))
  obtain ⟨n8, w8, w8', h8⟩ := tr_list (B := TLogEntryB rz) Try.underlying38 ceTLogEntry (by decide) byTLogEntry (v := c8) (tr_field 8 Try.underlying70 h rfl (n := 1) (by kernel_rfl)) (fun c hc => TLogEntry_open hc)
  obtain ⟨n9, h9, w9⟩ := tr_bytes Try.underlying34 Try.underlying5 (by kernel_rfl) (by kernel_rfl) (v := c9) (tr_field 9 Try.underlying70 h rfl (n := 1) (by kernel_rfl))
  exact ⟨⟨n0, n1, n2, n3, n4, n5, n6, n7, n8, n9⟩, ⟨wf_i64 w0, wf_i64 w1, wf_i64 w2, wf_i64 w3, wf_i64 w4, wf_i64 w5, wf_i64 w6, w7, w7', w8, w8', w9⟩, ⟨_, _, _, rfl, h7, h8, h9⟩⟩

structure TRaftMsg where
  fKind : Int
  fGroup : Int
  fFrom : Int
  fTo : Int
  fTerm : Int
  fIndex : Int
  fLogTerm : Int
  fCommit : Int
  fOK : Bool
  fEntries : List TLogEntry
  fMembers : List Int
  fData : List UInt8
instance : Inhabited TRaftMsg := ⟨⟨0, 0, 0, 0, 0, 0, 0, 0, false, [], [], []⟩⟩
def TRaftMsgV (I : Imm) (x : TRaftMsg) (c : List Value) : Prop := ∃ v0 v1 v2, c = [.int .i64 x.fKind, .int .i64 x.fGroup, .int .i64 x.fFrom, .int .i64 x.fTo, .int .i64 x.fTerm, .int .i64 x.fIndex, .int .i64 x.fLogTerm, .int .i64 x.fCommit, .bool x.fOK, v0, v1, v2] ∧ RL TLogEntryV 4 I [] v0 x.fEntries ∧ Ints I v1 x.fMembers ∧ Bytes I v2 x.fData
theorem TRaftMsgV.mono {I I' : Imm} {x : TRaftMsg} {c : List Value} (h : TRaftMsgV I x c) (hI : Ext I I') : TRaftMsgV I' x c := by
  obtain ⟨v0, v1, v2, rfl, h0, h1, h2⟩ := h
  exact ⟨v0, v1, v2, rfl, RL.mono (fun _ _ h => TLogEntryV.mono h hI) h0 hI (fun _ h => by cases h), h1.mono hI, h2.mono hI⟩
theorem TRaftMsgV.len {I : Imm} {x : TRaftMsg} {c : List Value} (h : TRaftMsgV I x c) : c.length = 12 := by
  obtain ⟨v0, v1, v2, rfl, h0, h1, h2⟩ := h
  rfl
theorem TRaftMsgV.one {I : Imm} {x : TRaftMsg} {c : List Value} (h : TRaftMsgV I x c) : ∀ u ∈ c, u.oneCell' = true := by
  obtain ⟨v0, v1, v2, rfl, h0, h1, h2⟩ := h
  obtain ⟨_, _, rfl⟩ := RL.form h0
  obtain ⟨_, _, rfl⟩ := Ints.form h1
  obtain ⟨_, _, rfl⟩ := Bytes.form h2
  exact one_all rfl
theorem TRaftMsgV.zero (I : Imm) : TRaftMsgV I default [.int .i64 0, .int .i64 0, .int .i64 0, .int .i64 0, .int .i64 0, .int .i64 0, .int .i64 0, .int .i64 0, .bool false, .slice none 0 0, .slice none 0 0, .slice none 0 0] := ⟨_, _, _, rfl, RL.nil none 0, SlI.nil I 1 none 0, SlI.nil I 1 none 0⟩
def TRaftMsgB (rz : Nat) (x : TRaftMsg) : Prop := inI64 x.fKind ∧ inI64 x.fGroup ∧ inI64 x.fFrom ∧ inI64 x.fTo ∧ inI64 x.fTerm ∧ inI64 x.fIndex ∧ inI64 x.fLogTerm ∧ inI64 x.fCommit ∧ x.fEntries.length * 48 ≤ rz ∧ (∀ y ∈ x.fEntries, TLogEntryB rz y) ∧ x.fMembers.length * 8 ≤ rz ∧ (∀ y ∈ x.fMembers, inI64 y) ∧ x.fData.length ≤ rz
theorem ceTRaftMsg : Try.prog.cellsOf 77 = 12 := by kernel_rfl
theorem byTRaftMsg : Try.prog.bytesOf 77 = 144 := by kernel_rfl
theorem TRaftMsg_open {rz : Nat} {W : World} {cs : List Value} (h : TrR rz Try.prog W 77 cs) : ∃ x, TRaftMsgB rz x ∧ TRaftMsgV (heapI W) x cs := by
  have hl := (tr_struct Try.underlying77 h).1
  rw [ceTRaftMsg] at hl
  obtain ⟨c0, c1, c2, c3, c4, c5, c6, c7, c8, c9, c10, c11, rfl⟩ : ∃ c0 c1 c2 c3 c4 c5 c6 c7 c8 c9 c10 c11, cs = [c0, c1, c2, c3, c4, c5, c6, c7, c8, c9, c10, c11] := by
    match cs, hl with
    | [c0, c1, c2, c3, c4, c5, c6, c7, c8, c9, c10, c11], _ => exact ⟨c0, c1, c2, c3, c4, c5, c6, c7, c8, c9, c10, c11, rfl⟩
  obtain ⟨n0, e0, w0⟩ := tr_int Try.underlying3 (cs := [c0]) (tr_field 0 Try.underlying77 h rfl (n := 1) (by kernel_rfl))
  simp only [List.cons.injEq, and_true] at e0
  subst e0
  obtain ⟨n1, e1, w1⟩ := tr_int Try.underlying3 (cs := [c1]) (tr_field 1 Try.underlying77 h rfl (n := 1) (by kernel_rfl))
  simp only [List.cons.injEq, and_true] at e1
  subst e1
  obtain ⟨n2, e2, w2⟩ := tr_int Try.underlying3 (cs := [c2]) (tr_field 2 Try.underlying77 h rfl (n := 1) (by kernel_rfl))
  simp only [List.cons.injEq, and_true] at e2
  subst e2
  obtain ⟨n3, e3, w3⟩ := tr_int Try.underlying3 (cs := [c3]) (tr_field 3 Try.underlying77 h rfl (n := 1) (by kernel_rfl))
  simp only [List.cons.injEq, and_true] at e3
  subst e3
  obtain ⟨n4, e4, w4⟩ := tr_int Try.underlying3 (cs := [c4]) (tr_field 4 Try.underlying77 h rfl (n := 1) (by kernel_rfl))
  simp only [List.cons.injEq, and_true] at e4
  subst e4
  obtain ⟨n5, e5, w5⟩ := tr_int Try.underlying3 (cs := [c5]) (tr_field 5 Try.underlying77 h rfl (n := 1) (by kernel_rfl))
  simp only [List.cons.injEq, and_true] at e5
  subst e5
  obtain ⟨n6, e6, w6⟩ := tr_int Try.underlying3 (cs := [c6]) (tr_field 6 Try.underlying77 h rfl (n := 1) (by kernel_rfl))
  simp only [List.cons.injEq, and_true] at e6
  subst e6
  obtain ⟨n7, e7, w7⟩ := tr_int Try.underlying3 (cs := [c7]) (tr_field 7 Try.underlying77 h rfl (n := 1) (by kernel_rfl))
  simp only [List.cons.injEq, and_true] at e7
  subst e7
  obtain ⟨n8, e8⟩ := tr_bool Try.underlying4 (cs := [c8]) (tr_field 8 Try.underlying77 h rfl (n := 1) (by kernel_rfl))
  simp only [List.cons.injEq, and_true] at e8
  subst e8
  obtain ⟨n9, w9, w9', h9⟩ := tr_list (B := TLogEntryB rz) Try.underlying38 ceTLogEntry (by decide) byTLogEntry (v := c9) (tr_field 9 Try.underlying77 h rfl (n := 1) (by kernel_rfl)) (fun c hc => TLogEntry_open hc)
  obtain ⟨n10, h10, w10, w10'⟩ := tr_ints Try.underlying29 Try.underlying3 (by kernel_rfl) (by kernel_rfl) (v := c10) (tr_field 10 Try.underlying77 h rfl (n := 1) (by kernel_rfl))
  obtain ⟨n11, h11, w11⟩ := tr_bytes Try.underlying34 Try.underlying5 (by kernel_rfl) (by kernel_rfl) (v := c11) (tr_field 11 Try.underlying77 h rfl (n := 1) (by kernel_rfl))
  exact ⟨⟨n0, n1, n2, n3, n4, n5, n6, n7, n8, n9, n10, n11⟩, ⟨wf_i64 w0, wf_i64 w1, wf_i64 w2, wf_i64 w3, wf_i64 w4, wf_i64 w5, wf_i64 w6, wf_i64 w7, w9, w9', w10, w10', w11⟩, ⟨_, _, _, rfl, h9, h10, h11⟩⟩

structure TStep where
  fDo : Int
  fN : Int
  fM : TRaftMsg
  fData : List UInt8
  fMembers : List Int
instance : Inhabited TStep := ⟨⟨0, 0, default, [], []⟩⟩
def TStepV (I : Imm) (x : TStep) (c : List Value) : Prop := ∃ v0 v1 v2 v3 v4, c = [.int .i64 x.fDo, .int .i64 x.fN, .int .i64 x.fM.fKind, .int .i64 x.fM.fGroup, .int .i64 x.fM.fFrom, .int .i64 x.fM.fTo, .int .i64 x.fM.fTerm, .int .i64 x.fM.fIndex, .int .i64 x.fM.fLogTerm, .int .i64 x.fM.fCommit, .bool x.fM.fOK, v0, v1, v2, v3, v4] ∧ RL TLogEntryV 4 I [] v0 x.fM.fEntries ∧ Ints I v1 x.fM.fMembers ∧ Bytes I v2 x.fM.fData ∧ Bytes I v3 x.fData ∧ Ints I v4 x.fMembers
theorem TStepV.mono {I I' : Imm} {x : TStep} {c : List Value} (h : TStepV I x c) (hI : Ext I I') : TStepV I' x c := by
  obtain ⟨v0, v1, v2, v3, v4, rfl, h0, h1, h2, h3, h4⟩ := h
  exact ⟨v0, v1, v2, v3, v4, rfl, RL.mono (fun _ _ h => TLogEntryV.mono h hI) h0 hI (fun _ h => by cases h), h1.mono hI, h2.mono hI, h3.mono hI, h4.mono hI⟩
theorem TStepV.len {I : Imm} {x : TStep} {c : List Value} (h : TStepV I x c) : c.length = 16 := by
  obtain ⟨v0, v1, v2, v3, v4, rfl, h0, h1, h2, h3, h4⟩ := h
  rfl
theorem TStepV.one {I : Imm} {x : TStep} {c : List Value} (h : TStepV I x c) : ∀ u ∈ c, u.oneCell' = true := by
  obtain ⟨v0, v1, v2, v3, v4, rfl, h0, h1, h2, h3, h4⟩ := h
  obtain ⟨_, _, rfl⟩ := RL.form h0
  obtain ⟨_, _, rfl⟩ := Ints.form h1
  obtain ⟨_, _, rfl⟩ := Bytes.form h2
  obtain ⟨_, _, rfl⟩ := Bytes.form h3
  obtain ⟨_, _, rfl⟩ := Ints.form h4
  exact one_all rfl
theorem TStepV.zero (I : Imm) : TStepV I default [.int .i64 0, .int .i64 0, .int .i64 0, .int .i64 0, .int .i64 0, .int .i64 0, .int .i64 0, .int .i64 0, .int .i64 0, .int .i64 0, .bool false, .slice none 0 0, .slice none 0 0, .slice none 0 0, .slice none 0 0, .slice none 0 0] := ⟨_, _, _, _, _, rfl, RL.nil none 0, SlI.nil I 1 none 0, SlI.nil I 1 none 0, SlI.nil I 1 none 0, SlI.nil I 1 none 0⟩
def TStepB (rz : Nat) (x : TStep) : Prop := inI64 x.fDo ∧ inI64 x.fN ∧ TRaftMsgB rz x.fM ∧ x.fData.length ≤ rz ∧ x.fMembers.length * 8 ≤ rz ∧ (∀ y ∈ x.fMembers, inI64 y)
theorem ceTStep : Try.prog.cellsOf 79 = 16 := by kernel_rfl
theorem byTStep : Try.prog.bytesOf 79 = 208 := by kernel_rfl
theorem TStep_open {rz : Nat} {W : World} {cs : List Value} (h : TrR rz Try.prog W 79 cs) : ∃ x, TStepB rz x ∧ TStepV (heapI W) x cs := by
  have hl := (tr_struct Try.underlying79 h).1
  rw [ceTStep] at hl
  obtain ⟨c0, c1, c2, c3, c4, c5, c6, c7, c8, c9, c10, c11, c12, c13, c14, c15, rfl⟩ : ∃ c0 c1 c2 c3 c4 c5 c6 c7 c8 c9 c10 c11 c12 c13 c14 c15, cs = [c0, c1, c2, c3, c4, c5, c6, c7, c8, c9, c10, c11, c12, c13, c14, c15] := by
    match cs, hl with
    | [c0, c1, c2, c3, c4, c5, c6, c7, c8, c9, c10, c11, c12, c13, c14, c15], _ => exact ⟨c0, c1, c2, c3, c4, c5, c6, c7, c8, c9, c10, c11, c12, c13, c14, c15, rfl⟩
  obtain ⟨n0, e0, w0⟩ := tr_int Try.underlying3 (cs := [c0]) (tr_field 0 Try.underlying79 h rfl (n := 1) (by kernel_rfl))
  simp only [List.cons.injEq, and_true] at e0
  subst e0
  obtain ⟨n1, e1, w1⟩ := tr_int Try.underlying3 (cs := [c1]) (tr_field 1 Try.underlying79 h rfl (n := 1) (by kernel_rfl))
  simp only [List.cons.injEq, and_true] at e1
  subst e1
  obtain ⟨n2, w2, u2_0, u2_1, u2_2, e2, h2_0, h2_1, h2_2⟩ := TRaftMsg_open (cs := [c2, c3, c4, c5, c6, c7, c8, c9, c10, c11, c12, c13]) (tr_field 2 Try.underlying79 h rfl (n := 12) (by kernel_rfl))
  simp only [List.cons.injEq, and_true] at e2
  obtain ⟨rfl, rfl, rfl, rfl, rfl, rfl, rfl, rfl, rfl, rfl, rfl, rfl⟩ := e2
  obtain ⟨n3, h3, w3⟩ := tr_bytes Try.underlying34 Try.underlying5 (by kernel_rfl) (by kernel_rfl) (v := c14) (tr_field 3 Try.underlying79 h rfl (n := 1) (by kernel_rfl))
  obtain ⟨n4, h4, w4, w4'⟩ := tr_ints Try.underlying29 Try.underlying3 (by kernel_rfl) (by kernel_rfl) (v := c15) (tr_field 4 Try.underlying79 h rfl (n := 1) (by kernel_rfl))
  exact ⟨⟨n0, n1, n2, n3, n4⟩, ⟨wf_i64 w0, wf_i64 w1, w2, w3, w4, w4'⟩, ⟨_, _, _, _, _, rfl, h2_0, h2_1, h2_2, h3, h4⟩⟩

end Go.Proofs.Ytdcpeboecmkmlaa
