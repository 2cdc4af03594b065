/-
  Values of struct types: printed by a program (gotypes.py).
-/
-- S3
import Derived.Test.YtdcpeboecmkmlaaKN
set_option linter.unusedSimpArgs false
set_option linter.unusedVariables false
namespace Go.Proofs.Ytdcpeboecmkmlaa
open Go.SL
set_option maxRecDepth 10000

structure TLogEntry where
  fIndex : Int
  fTerm : Int
  fKind : Int
  fData : List UInt8
instance : Inhabited TLogEntry := ⟨⟨0, 0, 0, []⟩⟩
def TLogEntryV (I : Imm) (x : TLogEntry) (c : List Value) : Prop := ∃ v0, c = [.int .i64 x.fIndex, .int .i64 x.fTerm, .int .i64 x.fKind, v0] ∧ Bytes I v0 x.fData
theorem TLogEntryV.mono {I I' : Imm} {x : TLogEntry} {c : List Value} (h : TLogEntryV I x c) (hI : Ext I I') : TLogEntryV I' x c := by
  obtain ⟨v0, rfl, h0⟩ := h
  exact ⟨v0, rfl, h0.mono hI⟩
theorem TLogEntryV.len {I : Imm} {x : TLogEntry} {c : List Value} (h : TLogEntryV I x c) : c.length = 4 := by
  obtain ⟨v0, rfl, h0⟩ := h
  rfl
theorem TLogEntryV.one {I : Imm} {x : TLogEntry} {c : List Value} (h : TLogEntryV I x c) : ∀ u ∈ c, u.oneCell' = true := by
  obtain ⟨v0, rfl, h0⟩ := h
  obtain ⟨_, _, rfl⟩ := Bytes.form h0
  exact one_all rfl
theorem TLogEntryV.zero (I : Imm) : TLogEntryV I default [.int .i64 0, .int .i64 0, .int .i64 0, .slice none 0 0] := ⟨_, rfl, SlI.nil I 1 none 0⟩
def TLogEntryB (rz : Nat) (x : TLogEntry) : Prop := inI64 x.fIndex ∧ inI64 x.fTerm ∧ inI64 x.fKind ∧ x.fData.length ≤ rz
theorem ceTLogEntry : Try.prog.cellsOf 59 = 4 := by kernel_rfl
theorem byTLogEntry : Try.prog.bytesOf 59 = 48 := by kernel_rfl
theorem TLogEntry_open {rz : Nat} {W : World} {cs : List Value} (h : TrR rz Try.prog W 59 cs) : ∃ x, TLogEntryB rz x ∧ TLogEntryV (heapI W) x cs := by
  have hl := (tr_struct Try.underlying59 h).1
  rw [ceTLogEntry] at hl
  obtain ⟨c0, c1, c2, c3, rfl⟩ : ∃ c0 c1 c2 c3, cs = [c0, c1, c2, c3] := by
    match cs, hl with
    | [c0, c1, c2, c3], _ => exact ⟨c0, c1, c2, c3, rfl⟩
  obtain ⟨n0, e0, w0⟩ := tr_int Try.underlying3 (cs := [c0]) (tr_field 0 Try.underlying59 h rfl (n := 1) (by kernel_rfl))
  simp only [List.cons.injEq, and_true] at e0
  subst e0
  obtain ⟨n1, e1, w1⟩ := tr_int Try.underlying3 (cs := [c1]) (tr_field 1 Try.underlying59 h rfl (n := 1) (by kernel_rfl))
  simp only [List.cons.injEq, and_true] at e1
  subst e1
  obtain ⟨n2, e2, w2⟩ := tr_int Try.underlying3 (cs := [c2]) (tr_field 2 Try.underlying59 h rfl (n := 1) (by kernel_rfl))
  simp only [List.cons.injEq, and_true] at e2
  subst e2
  obtain ⟨n3, h3, w3⟩ := tr_bytes Try.underlying34 Try.underlying5 (by kernel_rfl) (by kernel_rfl) (v := c3) (tr_field 3 Try.underlying59 h rfl (n := 1) (by kernel_rfl))
  exact ⟨⟨n0, n1, n2, n3⟩, ⟨wf_i64 w0, wf_i64 w1, wf_i64 w2, w3⟩, ⟨_, rfl, h3⟩⟩

structure TStart where
  fGroup : Int
  fId : Int
  fTerm : Int
  fVote : Int
  fIndex : Int
  fAt : Int
  fCommit : Int
  fMembers : List Int
  fEntries : List TLogEntry
  fState : List UInt8
instance : Inhabited TStart := ⟨⟨0, 0, 0, 0, 0, 0, 0, [], [], []⟩⟩
def TStartV (I : Imm) (x : TStart) (c : List Value) : Prop := ∃ v0 v1 v2, c = [.int .i64 x.fGroup, .int .i64 x.fId, .int .i64 x.fTerm, .int .i64 x.fVote, .int .i64 x.fIndex, .int .i64 x.fAt, .int .i64 x.fCommit, v0, v1, v2] ∧ Ints I v0 x.fMembers ∧ RL TLogEntryV 4 I [] v1 x.fEntries ∧ Bytes I v2 x.fState
theorem TStartV.mono {I I' : Imm} {x : TStart} {c : List Value} (h : TStartV I x c) (hI : Ext I I') : TStartV I' x c := by
  obtain ⟨v0, v1, v2, rfl, h0, h1, h2⟩ := h
  exact ⟨v0, v1, v2, rfl, h0.mono hI, RL.mono (fun _ _ h => TLogEntryV.mono h hI) h1 hI (fun _ h => by cases h), h2.mono hI⟩
theorem TStartV.len {I : Imm} {x : TStart} {c : List Value} (h : TStartV I x c) : c.length = 10 := by
  obtain ⟨v0, v1, v2, rfl, h0, h1, h2⟩ := h
  rfl
theorem TStartV.one {I : Imm} {x : TStart} {c : List Value} (h : TStartV I x c) : ∀ u ∈ c, u.oneCell' = true := by
  obtain ⟨v0, v1, v2, rfl, h0, h1, h2⟩ := h
  obtain ⟨_, _, rfl⟩ := Ints.form h0
  obtain ⟨_, _, rfl⟩ := RL.form h1
  obtain ⟨_, _, rfl⟩ := Bytes.form h2
  exact one_all rfl
theorem TStartV.zero (I : Imm) : TStartV I default [.int .i64 0, .int .i64 0, .int .i64 0, .int .i64 0, .int .i64 0, .int .i64 0, .int .i64 0, .slice none 0 0, .slice none 0 0, .slice none 0 0] := ⟨_, _, _, rfl, SlI.nil I 1 none 0, RL.nil none 0, SlI.nil I 1 none 0⟩
def TStartB (rz : Nat) (x : TStart) : Prop := inI64 x.fGroup ∧ inI64 x.fId ∧ inI64 x.fTerm ∧ inI64 x.fVote ∧ inI64 x.fIndex ∧ inI64 x.fAt ∧ inI64 x.fCommit ∧ x.fMembers.length * 8 ≤ rz ∧ (∀ y ∈ x.fMembers, inI64 y) ∧ x.fEntries.length * 48 ≤ rz ∧ (∀ y ∈ x.fEntries, TLogEntryB rz y) ∧ x.fState.length ≤ rz
theorem ceTStart : Try.prog.cellsOf 70 = 10 := by kernel_rfl
theorem byTStart : Try.prog.bytesOf 70 = 128 := by kernel_rfl
theorem TStart_open {rz : Nat} {W : World} {cs : List Value} (h : TrR rz Try.prog W 70 cs) : ∃ x, TStartB rz x ∧ TStartV (heapI W) x cs := by
  have hl := (tr_struct Try.underlying70 h).1
  rw [ceTStart] at hl
  obtain ⟨c0, c1, c2, c3, c4, c5, c6, c7, c8, c9, rfl⟩ : ∃ c0 c1 c2 c3 c4 c5 c6 c7 c8 c9, cs = [c0, c1, c2, c3, c4, c5, c6, c7, c8, c9] := by
    match cs, hl with
    | [c0, c1, c2, c3, c4, c5, c6, c7, c8, c9], _ => exact ⟨c0, c1, c2, c3, c4, c5, c6, c7, c8, c9, rfl⟩
  obtain ⟨n0, e0, w0⟩ := tr_int Try.underlying3 (cs := [c0]) (tr_field 0 Try.underlying70 h rfl (n := 1) (by kernel_rfl))
  simp only [List.cons.injEq, and_true] at e0
  subst e0
  obtain ⟨n1, e1, w1⟩ := tr_int Try.underlying3 (cs := [c1]) (tr_field 1 Try.underlying70 h rfl (n := 1) (by kernel_rfl))
  simp only [List.cons.injEq, and_true] at e1
  subst e1
  obtain ⟨n2, e2, w2⟩ := tr_int Try.underlying3 (cs := [c2]) (tr_field 2 Try.underlying70 h rfl (n := 1) (by kernel_rfl))
  simp only [List.cons.injEq, and_true] at e2
  subst e2
  obtain ⟨n3, e3, w3⟩ := tr_int Try.underlying3 (cs := [c3]) (tr_field 3 Try.underlying70 h rfl (n := 1) (by kernel_rfl))
  simp only [List.cons.injEq, and_true] at e3
  subst e3
  obtain ⟨n4, e4, w4⟩ := tr_int Try.underlying3 (cs := [c4]) (tr_field 4 Try.underlying70 h rfl (n := 1) (by kernel_rfl))
  simp only [List.cons.injEq, and_true] at e4
  subst e4
  obtain ⟨n5, e5, w5⟩ := tr_int Try.underlying3 (cs := [c5]) (tr_field 5 Try.underlying70 h rfl (n := 1) (by kernel_rfl))
  simp only [List.cons.injEq, and_true] at e5
  subst e5
  obtain ⟨n6, e6, w6⟩ := tr_int Try.underlying3 (cs := [c6]) (tr_field 6 Try.underlying70 h rfl (n := 1) (by kernel_rfl))
  simp only [List.cons.injEq, and_true] at e6
  subst e6
  obtain ⟨n7, h7, w7, w7'⟩ := tr_ints Try.underlying29 Try.underlying3 (by kernel_rfl) (by kernel_rfl) (v := c7) (tr_field 7 Try.underlying70 h rfl (n := 1) (by kernel_rfl))
  obtain ⟨n8, w8, w8', h8⟩ := tr_list (B := TLogEntryB rz) Try.underlying38 ceTLogEntry (by decide) byTLogEntry (v := c8) (tr_field 8 Try.underlying70 h rfl (n := 1) (by kernel_rfl)) (fun c hc => TLogEntry_open hc)
  obtain ⟨n9, h9, w9⟩ := tr_bytes Try.underlying34 Try.underlying5 (by kernel_rfl) (by kernel_rfl) (v := c9) (tr_field 9 Try.underlying70 h rfl (n := 1) (by kernel_rfl))
  exact ⟨⟨n0, n1, n2, n3, n4, n5, n6, n7, n8, n9⟩, ⟨wf_i64 w0, wf_i64 w1, wf_i64 w2, wf_i64 w3, wf_i64 w4, wf_i64 w5, wf_i64 w6, w7, w7', w8, w8', w9⟩, ⟨_, _, _, rfl, h7, h8, h9⟩⟩

structure TRaftMsg where
  fKind : Int
  fGroup : Int
  fFrom : Int
  fTo : Int
  fTerm : Int
  fIndex : Int
  fLogTerm : Int
  fCommit : Int
  fOK : Bool
  fEntries : List TLogEntry
  fMembers : List Int
  fData : List UInt8
instance : Inhabited TRaftMsg := ⟨⟨0, 0, 0, 0, 0, 0, 0, 0, false, [], [], []⟩⟩
def TRaftMsgV (I : Imm) (x : TRaftMsg) (c : List Value) : Prop := ∃ v0 v1 v2, c = [.int .i64 x.fKind, .int .i64 x.fGroup, .int .i64 x.fFrom, .int .i64 x.fTo, .int .i64 x.fTerm, .int .i64 x.fIndex, .int .i64 x.fLogTerm, .int .i64 x.fCommit, .bool x.fOK, v0, v1, v2] ∧ RL TLogEntryV 4 I [] v0 x.fEntries ∧ Ints I v1 x.fMembers ∧ Bytes I v2 x.fData
theorem TRaftMsgV.mono {I I' : Imm} {x : TRaftMsg} {c : List Value} (h : TRaftMsgV I x c) (hI : Ext I I') : TRaftMsgV I' x c := by
  obtain ⟨v0, v1, v2, rfl, h0, h1, h2⟩ := h
  exact ⟨v0, v1, v2, rfl, RL.mono (fun _ _ h => TLogEntryV.mono h hI) h0 hI (fun _ h => by cases h), h1.mono hI, h2.mono hI⟩
theorem TRaftMsgV.len {I : Imm} {x : TRaftMsg} {c : List Value} (h : TRaftMsgV I x c) : c.length = 12 := by
  obtain ⟨v0, v1, v2, rfl, h0, h1, h2⟩ := h
  rfl
theorem TRaftMsgV.one {I : Imm} {x : TRaftMsg} {c : List Value} (h : TRaftMsgV I x c) : ∀ u ∈ c, u.oneCell' = true := by
  obtain ⟨v0, v1, v2, rfl, h0, h1, h2⟩ := h
  obtain ⟨_, _, rfl⟩ := RL.form h0
  obtain ⟨_, _, rfl⟩ := Ints.form h1
  obtain ⟨_, _, rfl⟩ := Bytes.form h2
  exact one_all rfl
theorem TRaftMsgV.zero (I : Imm) : TRaftMsgV I default [.int .i64 0, .int .i64 0, .int .i64 0, .int .i64 0, .int .i64 0, .int .i64 0, .int .i64 0, .int .i64 0, .bool false, .slice none 0 0, .slice none 0 0, .slice none 0 0] := ⟨_, _, _, rfl, RL.nil none 0, SlI.nil I 1 none 0, SlI.nil I 1 none 0⟩
def TRaftMsgB (rz : Nat) (x : TRaftMsg) : Prop := inI64 x.fKind ∧ inI64 x.fGroup ∧ inI64 x.fFrom ∧ inI64 x.fTo ∧ inI64 x.fTerm ∧ inI64 x.fIndex ∧ inI64 x.fLogTerm ∧ inI64 x.fCommit ∧ x.fEntries.length * 48 ≤ rz ∧ (∀ y ∈ x.fEntries, TLogEntryB rz y) ∧ x.fMembers.length * 8 ≤ rz ∧ (∀ y ∈ x.fMembers, inI64 y) ∧ x.fData.length ≤ rz
theorem ceTRaftMsg : Try.prog.cellsOf 77 = 12 := by kernel_rfl
theorem byTRaftMsg : Try.prog.bytesOf 77 = 144 := by kernel_rfl
theorem TRaftMsg_open {rz : Nat} {W : World} {cs : List Value} (h : TrR rz Try.prog W 77 cs) : ∃ x, TRaftMsgB rz x ∧ TRaftMsgV (heapI W) x cs := by
  have hl := (tr_struct Try.underlying77 h).1
  rw [ceTRaftMsg] at hl
  obtain ⟨c0, c1, c2, c3, c4, c5, c6, c7, c8, c9, c10, c11, rfl⟩ : ∃ c0 c1 c2 c3 c4 c5 c6 c7 c8 c9 c10 c11, cs = [c0, c1, c2, c3, c4, c5, c6, c7, c8, c9, c10, c11] := by
    match cs, hl with
    | [c0, c1, c2, c3, c4, c5, c6, c7, c8, c9, c10, c11], _ => exact ⟨c0, c1, c2, c3, c4, c5, c6, c7, c8, c9, c10, c11, rfl⟩
  obtain ⟨n0, e0, w0⟩ := tr_int Try.underlying3 (cs := [c0]) (tr_field 0 Try.underlying77 h rfl (n := 1) (by kernel_rfl))
  simp only [List.cons.injEq, and_true] at e0
  subst e0
  obtain ⟨n1, e1, w1⟩ := tr_int Try.underlying3 (cs := [c1]) (tr_field 1 Try.underlying77 h rfl (n := 1) (by kernel_rfl))
  simp only [List.cons.injEq, and_true] at e1
  subst e1
  obtain ⟨n2, e2, w2⟩ := tr_int Try.underlying3 (cs := [c2]) (tr_field 2 Try.underlying77 h rfl (n := 1) (by kernel_rfl))
  simp only [List.cons.injEq, and_true] at e2
  subst e2
  obtain ⟨n3, e3, w3⟩ := tr_int Try.underlying3 (cs := [c3]) (tr_field 3 Try.underlying77 h rfl (n := 1) (by kernel_rfl))
  simp only [List.cons.injEq, and_true] at e3
  subst e3
  obtain ⟨n4, e4, w4⟩ := tr_int Try.underlying3 (cs := [c4]) (tr_field 4 Try.underlying77 h rfl (n := 1) (by kernel_rfl))
  simp only [List.cons.injEq, and_true] at e4
  subst e4
  obtain ⟨n5, e5, w5⟩ := tr_int Try.underlying3 (cs := [c5]) (tr_field 5 Try.underlying77 h rfl (n := 1) (by kernel_rfl))
  simp only [List.cons.injEq, and_true] at e5
  subst e5
  obtain ⟨n6, e6, w6⟩ := tr_int Try.underlying3 (cs := [c6]) (tr_field 6 Try.underlying77 h rfl (n := 1) (by kernel_rfl))
  simp only [List.cons.injEq, and_true] at e6
  subst e6
  obtain ⟨n7, e7, w7⟩ := tr_int Try.underlying3 (cs := [c7]) (tr_field 7 Try.underlying77 h rfl (n := 1) (by kernel_rfl))
  simp only [List.cons.injEq, and_true] at e7
  subst e7
  obtain ⟨n8, e8⟩ := tr_bool Try.underlying4 (cs := [c8]) (tr_field 8 Try.underlying77 h rfl (n := 1) (by kernel_rfl))
  simp only [List.cons.injEq, and_true] at e8
  subst e8
  obtain ⟨n9, w9, w9', h9⟩ := tr_list (B := TLogEntryB rz) Try.underlying38 ceTLogEntry (by decide) byTLogEntry (v := c9) (tr_field 9 Try.underlying77 h rfl (n := 1) (by kernel_rfl)) (fun c hc => TLogEntry_open hc)
  obtain ⟨n10, h10, w10, w10'⟩ := tr_ints Try.underlying29 Try.underlying3 (by kernel_rfl) (by kernel_rfl) (v := c10) (tr_field 10 Try.underlying77 h rfl (n := 1) (by kernel_rfl))
  obtain ⟨n11, h11, w11⟩ := tr_bytes Try.underlying34 Try.underlying5 (by kernel_rfl) (by kernel_rfl) (v := c11) (tr_field 11 Try.underlying77 h rfl (n := 1) (by kernel_rfl))
  exact ⟨⟨n0, n1, n2, n3, n4, n5, n6, n7, n8, n9, n10, n11⟩, ⟨wf_i64 w0, wf_i64 w1, wf_i64 w2, wf_i64 w3, wf_i64 w4, wf_i64 w5, wf_i64 w6, wf_i64 w7, w9, w9', w10, w10', w11⟩, ⟨_, _, _, rfl, h9, h10, h11⟩⟩

structure TStep where
  fDo : Int
  fN : Int
  fM : TRaftMsg
  fData : List UInt8
  fMembers : List Int
instance : Inhabited TStep := ⟨⟨0, 0, default, [], []⟩⟩
def TStepV (I : Imm) (x : TStep) (c : List Value) : Prop := ∃ v0 v1 v2 v3 v4, c = [.int .i64 x.fDo, .int .i64 x.fN, .int .i64 x.fM.fKind, .int .i64 x.fM.fGroup, .int .i64 x.fM.fFrom, .int .i64 x.fM.fTo, .int .i64 x.fM.fTerm, .int .i64 x.fM.fIndex, .int .i64 x.fM.fLogTerm, .int .i64 x.fM.fCommit, .bool x.fM.fOK, v0, v1, v2, v3, v4] ∧ RL TLogEntryV 4 I [] v0 x.fM.fEntries ∧ Ints I v1 x.fM.fMembers ∧ Bytes I v2 x.fM.fData ∧ Bytes I v3 x.fData ∧ Ints I v4 x.fMembers
theorem TStepV.mono {I I' : Imm} {x : TStep} {c : List Value} (h : TStepV I x c) (hI : Ext I I') : TStepV I' x c := by
  obtain ⟨v0, v1, v2, v3, v4, rfl, h0, h1, h2, h3, h4⟩ := h
  exact ⟨v0, v1, v2, v3, v4, rfl, RL.mono (fun _ _ h => TLogEntryV.mono h hI) h0 hI (fun _ h => by cases h), h1.mono hI, h2.mono hI, h3.mono hI, h4.mono hI⟩
theorem TStepV.len {I : Imm} {x : TStep} {c : List Value} (h : TStepV I x c) : c.length = 16 := by
  obtain ⟨v0, v1, v2, v3, v4, rfl, h0, h1, h2, h3, h4⟩ := h
  rfl
theorem TStepV.one {I : Imm} {x : TStep} {c : List Value} (h : TStepV I x c) : ∀ u ∈ c, u.oneCell' = true := by
  obtain ⟨v0, v1, v2, v3, v4, rfl, h0, h1, h2, h3, h4⟩ := h
  obtain ⟨_, _, rfl⟩ := RL.form h0
  obtain ⟨_, _, rfl⟩ := Ints.form h1
  obtain ⟨_, _, rfl⟩ := Bytes.form h2
  obtain ⟨_, _, rfl⟩ := Bytes.form h3
  obtain ⟨_, _, rfl⟩ := Ints.form h4
  exact one_all rfl
theorem TStepV.zero (I : Imm) : TStepV I default [.int .i64 0, .int .i64 0, .int .i64 0, .int .i64 0, .int .i64 0, .int .i64 0, .int .i64 0, .int .i64 0, .int .i64 0, .int .i64 0, .bool false, .slice none 0 0, .slice none 0 0, .slice none 0 0, .slice none 0 0, .slice none 0 0] := ⟨_, _, _, _, _, rfl, RL.nil none 0, SlI.nil I 1 none 0, SlI.nil I 1 none 0, SlI.nil I 1 none 0, SlI.nil I 1 none 0⟩
def TStepB (rz : Nat) (x : TStep) : Prop := inI64 x.fDo ∧ inI64 x.fN ∧ TRaftMsgB rz x.fM ∧ x.fData.length ≤ rz ∧ x.fMembers.length * 8 ≤ rz ∧ (∀ y ∈ x.fMembers, inI64 y)
theorem ceTStep : Try.prog.cellsOf 79 = 16 := by kernel_rfl
theorem byTStep : Try.prog.bytesOf 79 = 208 := by kernel_rfl
theorem TStep_open {rz : Nat} {W : World} {cs : List Value} (h : TrR rz Try.prog W 79 cs) : ∃ x, TStepB rz x ∧ TStepV (heapI W) x cs := by
  have hl := (tr_struct Try.underlying79 h).1
  rw [ceTStep] at hl
  obtain ⟨c0, c1, c2, c3, c4, c5, c6, c7, c8, c9, c10, c11, c12, c13, c14, c15, rfl⟩ : ∃ c0 c1 c2 c3 c4 c5 c6 c7 c8 c9 c10 c11 c12 c13 c14 c15, cs = [c0, c1, c2, c3, c4, c5, c6, c7, c8, c9, c10, c11, c12, c13, c14, c15] := by
    match cs, hl with
    | [c0, c1, c2, c3, c4, c5, c6, c7, c8, c9, c10, c11, c12, c13, c14, c15], _ => exact ⟨c0, c1, c2, c3, c4, c5, c6, c7, c8, c9, c10, c11, c12, c13, c14, c15, rfl⟩
  obtain ⟨n0, e0, w0⟩ := tr_int Try.underlying3 (cs := [c0]) (tr_field 0 Try.underlying79 h rfl (n := 1) (by kernel_rfl))
  simp only [List.cons.injEq, and_true] at e0
  subst e0
  obtain ⟨n1, e1, w1⟩ := tr_int Try.underlying3 (cs := [c1]) (tr_field 1 Try.underlying79 h rfl (n := 1) (by kernel_rfl))
  simp only [List.cons.injEq, and_true] at e1
  subst e1
  obtain ⟨n2, w2, u2_0, u2_1, u2_2, e2, h2_0, h2_1, h2_2⟩ := TRaftMsg_open (cs := [c2, c3, c4, c5, c6, c7, c8, c9, c10, c11, c12, c13]) (tr_field 2 Try.underlying79 h rfl (n := 12) (by kernel_rfl))
  simp only [List.cons.injEq, and_true] at e2
  obtain ⟨rfl, rfl, rfl, rfl, rfl, rfl, rfl, rfl, rfl, rfl, rfl, rfl⟩ := e2
  obtain ⟨n3, h3, w3⟩ := tr_bytes Try.underlying34 Try.underlying5 (by kernel_rfl) (by kernel_rfl) (v := c14) (tr_field 3 Try.underlying79 h rfl (n := 1) (by kernel_rfl))
  obtain ⟨n4, h4, w4, w4'⟩ := tr_ints Try.underlying29 Try.underlying3 (by kernel_rfl) (by kernel_rfl) (v := c15) (tr_field 4 Try.underlying79 h rfl (n := 1) (by kernel_rfl))
  exact ⟨⟨n0, n1, n2, n3, n4⟩, ⟨wf_i64 w0, wf_i64 w1, w2, w3, w4, w4'⟩, ⟨_, _, _, _, _, rfl, h2_0, h2_1, h2_2, h3, h4⟩⟩

end Go.Proofs.Ytdcpeboecmkmlaa

namespace Go.Proofs.Ytdcpeboecmkmlaa
open Go.SL
set_option maxRecDepth 10000

abbrev qcells (r : RF) (z0 : Bool) (z1 z2 : Int) (lv stv ov : Value) : List Value :=
  [.int .i64 r.group, .int .i64 r.id, .int .i64 r.term, .int .i64 r.vote, lv, stv, .int .i64 r.role, .int .i64 r.leader, .int .i64 r.elapsed,
   .bool z0, .bool (r.vt 1), .bool (r.vt 2), .bool (r.vt 3), .bool (r.vt 4), .bool (r.vt 5),
   .int .i64 z1, .int .i64 (r.nx 1), .int .i64 (r.nx 2), .int .i64 (r.nx 3), .int .i64 (r.nx 4), .int .i64 (r.nx 5),
   .int .i64 z2, .int .i64 (r.mt 1), .int .i64 (r.mt 2), .int .i64 (r.mt 3), .int .i64 (r.mt 4), .int .i64 (r.mt 5), ov]
def RaftQ (I : Imm) (b : Nat) (X : LH) (r : RF) : Prop :=
  ∃ lb XL XO stv ov z0 z1 z2 oc, X = (b, Obj.cells (qcells r z0 z1 z2 (.pointer (some ⟨lb, 0, none⟩)) stv ov).toArray 147 (0, 0)) :: (XL ++ XO) ∧
    LogQ I lb XL r.g ∧ Bytes I stv r.st ∧ SlO 77 12 XO ov oc r.out.length ∧ Recs (MsgV I) 12 r.out oc
theorem RaftQ.mono {I I' : Imm} {b : Nat} {X : LH} {r : RF} (h : RaftQ I b X r) (hI : Ext I I') : RaftQ I' b X r := by
  obtain ⟨lb, XL, XO, stv, ov, z0, z1, z2, oc, hX, h1, h2, h3, h4⟩ := h
  exact ⟨lb, XL, XO, stv, ov, z0, z1, z2, oc, hX, h1.mono hI, h2.mono hI, h3, h4.imp fun _ _ h => h.mono hI⟩
section
variable {ω : Om} {I : Imm} {L : LH} {K : Value → M}

instance (priority := 2000) subNilL (L' L : LH) [h : SubP L' L] : SubP ([] ++ L') L := ⟨by simpa using h.sub⟩
theorem raftq_fin {b lb : Nat} {XL XO F : LH} {v stv ov : Value} {oc : List Value} {r : RF} {cs : Array Value} (z0 : Bool) (z1 z2 : Int) (hk : ∀ X', RaftQ I b X' r → K v I (X' ++ F)) (h1 : LogQ I lb XL r.g) (h2 : Bytes I stv r.st)
    (h3 : SlO 77 12 XO ov oc r.out.length) (h4 : Recs (MsgV I) 12 r.out oc) (hc : cs = (qcells r z0 z1 z2 (.pointer (some ⟨lb, 0, none⟩)) stv ov).toArray) : K v I ((b, Obj.cells cs 147 (0, 0)) :: (XL ++ (XO ++ F))) := by
  subst hc
  have := hk ((b, Obj.cells (qcells r z0 z1 z2 (.pointer (some ⟨lb, 0, none⟩)) stv ov).toArray 147 (0, 0)) :: (XL ++ XO)) ⟨lb, XL, XO, stv, ov, z0, z1, z2, oc, rfl, h1, h2, h3, h4⟩
  simpa only [List.cons_append, List.append_assoc] using this
theorem raftq_end {b lb : Nat} {XL XO F R : LH} {v stv ov : Value} {oc : List Value} {r : RF} {cs : Array Value} [hp : PickB b L (Obj.cells cs 147 (0, 0)) R] [hs : SubP (XL ++ (XO ++ F)) R] (z0 : Bool) (z1 z2 : Int) (hk : ∀ X', RaftQ I b X' r → K v I (X' ++ F)) (h1 : LogQ I lb XL r.g) (h2 : Bytes I stv r.st)
    (h3 : SlO 77 12 XO ov oc r.out.length) (h4 : Recs (MsgV I) 12 r.out oc) (hc : cs = (qcells r z0 z1 z2 (.pointer (some ⟨lb, 0, none⟩)) stv ov).toArray) : Gh (K v) I L :=
  Gh.pick b (XL ++ (XO ++ F)) (Gh.done (raftq_fin z0 z1 z2 hk h1 h2 h3 h4 hc))
/-- a call on a node -/
theorem raftq_cal {f : FuncId} {args : Array Value} {lb : Nat} {XL XO R : LH} (b : Nat) (F : LH) {stv ov : Value} {oc : List Value} {r : RF} {cs : Array Value} [hp : PickB b L (Obj.cells cs 147 (0, 0)) R] [hs : SubP (XL ++ (XO ++ F)) R] (z0 : Bool) (z1 z2 : Int) (h1 : LogQ I lb XL r.g) (h2 : Bytes I stv r.st)
    (h3 : SlO 77 12 XO ov oc r.out.length) (h4 : Recs (MsgV I) 12 r.out oc) (hc : cs = (qcells r z0 z1 z2 (.pointer (some ⟨lb, 0, none⟩)) stv ov).toArray)
    (h : ∀ X, RaftQ I b X r → Cal Try.prog ω f args K I (X ++ F)) : Cal Try.prog ω f args K I L := by
  refine Cal.pick b ?_
  subst hc
  have := h ((b, Obj.cells (qcells r z0 z1 z2 (.pointer (some ⟨lb, 0, none⟩)) stv ov).toArray 147 (0, 0)) :: (XL ++ XO)) ⟨lb, XL, XO, stv, ov, z0, z1, z2, oc, rfl, h1, h2, h3, h4⟩
  obtain ⟨R', hR⟩ := hs.sub
  refine Cal.perm (List.Perm.cons _ hR) ?_
  refine Cal.drop (L' := (b, Obj.cells (qcells r z0 z1 z2 (.pointer (some ⟨lb, 0, none⟩)) stv ov).toArray 147 (0, 0)) :: (XL ++ (XO ++ F))) (List.Sublist.cons_cons _ (List.sublist_append_left _ _)) ?_
  simpa only [List.cons_append, List.append_assoc] using this

/-- append([]byte{}, b...) -/
theorem copyB {v : Value} {l : List UInt8} {K : Value → M} (h : Bytes I v l) (hl : l.length ≤ 150000000000000) (hk : ∀ a c I', Ext I I' → Bytes I' (.slice a l.length c) l → Gh (K (.slice a l.length c)) I' L) :
    BldS 5 1 #[(Value.int .u8 0)] 0 [] (gh fun u => App 5 1 1 #[(Value.int .u8 0)] u v (gh K)) I L := by
  refine bld_zero (fun X u hX => ?_)
  refine app_ownG rfl hX (SlI.news h) (u8s_one _) (by omega) (by omega) (fun X' v' hX' => ?_)
  obtain ⟨a, c, rfl⟩ := hX'.form
  refine SlO.freeze hX' (fun I' hI hS => ?_)
  have hS' : Bytes I' (.slice a (0 + l.length) c) l := by simpa [Bytes] using hS
  rw [Nat.zero_add] at hS' ⊢
  exact hk a c I' hI hS'

theorem rnew11_spec {lb : Nat} {X F : LH} {g : LG} {sv : Value} {group id term vote : Int} {st : List UInt8} (h : LogQ I lb X g) (hw : WF g) (hs : Bytes I sv st) (hsl : st.length < 4611686018427387904)
    (hk0 : newOk group id term vote g st = false → K (.tuple #[.pointer none, .int .i64 1]) I (X ++ F))
    (hk1 : newOk group id term vote g st = true → ∀ b Y I', Ext I I' → RaftQ I' b Y (newF group id term vote g st) → K (.tuple #[.pointer (some ⟨b, 0, none⟩), .int .i64 0]) I' (Y ++ (X ++ F))) :
    Cal Try.prog ω 85 #[.int .i64 group, .int .i64 id, .int .i64 term, .int .i64 vote, .pointer (some ⟨lb, 0, none⟩), sv] K I (X ++ F) := by
  have hln := Bytes.len hs
  have hlen := hw.len
  refine cal85 ?_
  unfold sh85
  refine call (rnode_spec ?_)
  refine call (rcount_spec ?_)
  refine call (rnode_spec ?_)
  refine call (rlastTerm_spec h.viewF hw.sz ?_)
  repeat' (first | (with_reducible refine drawC ?_) | (with_reducible refine drawW1 ?_) | (with_reducible refine drawW2 ?_) | (with_reducible refine keepC (by repeat (first | exact Ext.refl _ | assumption | refine Ext.trans ?_ (by assumption))) ?_) | (with_reducible refine newI (fun _ => ?_)) | ((with_reducible refine call ?_); refine (rcopy_spec h hlen (fun b' Y I1 hI1 hY => ?_))) | first | (with_reducible refine rdb ?_) | ((with_reducible refine st1 ?_ ?_); rfl) | ((with_reducible refine rdB ?_ ?_); rfl) | (with_reducible refine rdbS ?_) | ((with_reducible refine rdBS ?_ ?_); rfl) | ((with_reducible refine stB ?_ ?_ ?_ ?_); rfl; rfl; exact one_all rfl) | ((with_reducible refine rdP _ rfl ?_ ?_); rfl) | ((with_reducible refine rdPS _ rfl ?_ ?_); rfl) | ((with_reducible refine stP _ rfl ?_ ?_ ?_ ?_); rfl; rfl; rfl) | (with_reducible refine And.intro ?_ ?_) | (simp only [Bool.not_true, Bool.not_false, Bool.and_self, Bool.true_and, Int.reduceBEq, Int.reduceBNe, Int.reduceLT, Int.reduceLE, decide_true, decide_false, Br_true, Br_false, Gd_tt, Gd_ft, Gd_tf, Gd_ff, beq_self_eq_true, bne_self_eq_false]) | (with_reducible refine gd_split (fun _ => ?_) (fun _ => ?_)) | (with_reducible refine br_split (fun _ => ?_) (fun _ => ?_)) | (simp only [SSd, List.getElem?_toArray, List.getElem?_cons_zero, List.getElem?_cons_succ, Nat.zero_add, Nat.add_zero, Nat.zero_mul, List.drop_succ_cons, List.drop_zero, List.take_succ_cons, List.take_zero, List.nil_append, List.cons_append, Nat.reduceAdd, List.drop_nil, List.take_nil, hln]))
  all_goals first
    | (refine Gh.done (hk0 ?_); clear hk0 hk1 h hs hw; rw [Bool.eq_false_iff]; simp_all [newOk]; done)
    | (refine Gh.done (hk0 ?_); clear hk0 hk1 h hs hw; rw [Bool.eq_false_iff]; simp_all [newOk]; omega)
    | skip
  all_goals (
    have hok : newOk group id term vote g st = true := by
      clear hk0 hk1 h hs hw
      simp_all [newOk]
      try omega
    have hst : st.length ≤ 60000 := by simp only [newOk, Bool.and_eq_true, decide_eq_true_eq] at hok; exact hok.2)
  all_goals (
    refine copyB (hs.mono hI1) (by omega) (fun a c I2 hI2 hst' => Gh.done ?_)
    repeat' (first | (with_reducible refine drawC ?_) | (with_reducible refine drawW1 ?_) | (with_reducible refine drawW2 ?_) | (with_reducible refine keepC (by repeat (first | exact Ext.refl _ | assumption | refine Ext.trans ?_ (by assumption))) ?_) | (with_reducible refine newI (fun _ => ?_)) | first | (with_reducible refine rdb ?_) | ((with_reducible refine st1 ?_ ?_); rfl) | ((with_reducible refine rdB ?_ ?_); rfl) | (with_reducible refine rdbS ?_) | ((with_reducible refine rdBS ?_ ?_); rfl) | ((with_reducible refine stB ?_ ?_ ?_ ?_); rfl; rfl; exact one_all rfl) | ((with_reducible refine rdP _ rfl ?_ ?_); rfl) | ((with_reducible refine rdPS _ rfl ?_ ?_); rfl) | ((with_reducible refine stP _ rfl ?_ ?_ ?_ ?_); rfl; rfl; rfl) | (with_reducible refine And.intro ?_ ?_) | (simp only [Bool.not_true, Bool.not_false, Bool.and_self, Bool.true_and, Int.reduceBEq, Int.reduceBNe, Int.reduceLT, Int.reduceLE, decide_true, decide_false, Br_true, Br_false, Gd_tt, Gd_ft, Gd_tf, Gd_ff, beq_self_eq_true, bne_self_eq_false]) | (with_reducible refine gd_split (fun _ => ?_) (fun _ => ?_)) | (with_reducible refine br_split (fun _ => ?_) (fun _ => ?_)) | (simp only [SSd, List.getElem?_toArray, List.getElem?_cons_zero, List.getElem?_cons_succ, Nat.zero_add, Nat.add_zero, Nat.zero_mul, List.drop_succ_cons, List.drop_zero, List.take_succ_cons, List.take_zero, List.nil_append, List.cons_append, Nat.reduceAdd, List.drop_nil, List.take_nil]))
    have hY2 := hY.mono hI2
    exact raftq_end (XL := Y) (XO := []) (F := X ++ F) (oc := []) (r := newF group id term vote g st) false 0 0 (fun X' h' => hk1 hok _ X' I2 (hI1.trans hI2) h') hY2 hst' (SlO.none _ _) rfl rfl)
end
end Go.Proofs.Ytdcpeboecmkmlaa

namespace Go.Proofs.Ytdcpeboecmkmlaa
open Go.SL
set_option maxRecDepth 10000

theorem Recs.map {α β : Type} {R : α → List Value → Prop} {R' : β → List Value → Prop} {n : Nat} (f : α → β) (h : ∀ x c, R x c → R' (f x) c) : ∀ {xs : List α} {cells : List Value}, Recs R n xs cells → Recs R' n (xs.map f) cells
  | [], _, hr => hr
  | _ :: _, _, ⟨h1, h2, h3⟩ => ⟨h1, h _ _ h2, Recs.map f h h3⟩
theorem RL.map {α β : Type} {R : Imm → α → List Value → Prop} {R' : Imm → β → List Value → Prop} {n : Nat} {I : Imm} {L : LH} {v : Value} {xs : List α} (f : α → β) (h : ∀ x c, R I x c → R' I (f x) c) (hr : RL R n I L v xs) : RL R' n I L v (xs.map f) := by
  obtain ⟨a, cap, cells, rfl, hle, hn, hR⟩ := hr
  exact ⟨a, cap, cells, by rw [List.length_map], by rw [List.length_map]; exact hle, by rw [List.length_map]; exact hn, Recs.map f h hR⟩
def toLE (x : TLogEntry) : LE := ⟨x.fIndex, x.fTerm, x.fKind, x.fData⟩
def toRM (x : TRaftMsg) : RM := ⟨x.fKind, x.fGroup, x.fFrom, x.fTo, x.fTerm, x.fIndex, x.fLogTerm, x.fCommit, x.fOK, x.fEntries.map toLE, x.fMembers, x.fData⟩
theorem le_of {I : Imm} (x : TLogEntry) (c : List Value) (h : TLogEntryV I x c) : LeV I (toLE x) c := h
theorem ents_of {I : Imm} {v : Value} {xs : List TLogEntry} (h : RL TLogEntryV 4 I [] v xs) : Ents I v (xs.map toLE) := RL.map toLE le_of h
def startG (x : TStart) : LG := ⟨x.fIndex, x.fAt, x.fMembers, x.fEntries.map toLE, x.fCommit⟩
def startOk (x : TStart) : Bool := loadB x.fIndex x.fAt x.fMembers (x.fEntries.map toLE) x.fCommit && newOk x.fGroup x.fId x.fTerm x.fVote (startG x) x.fState
def startF (x : TStart) : RF := newF x.fGroup x.fId x.fTerm x.fVote (startG x) x.fState

section
variable {ω : Om} {I : Imm} {L : LH} {K : Value → M}

theorem LogR.freeze {A : M} {b : Nat} {X F : LH} {g : LG} (h : LogR I b X g) (hk : ∀ mv lv I', Ext I I' → Ints I' mv g.mem → Ents I' lv g.es → Gh A I' ((b, Obj.cells (lcells g mv lv).toArray 112 (0, 0)) :: F)) : Gh A I (X ++ F) := by
  obtain ⟨mv, lv, XL, cells, rfl, hm, hG, hR⟩ := h
  simp only [List.cons_append]
  refine Gh.perm (List.perm_middle (l₁ := XL)).symm ?_
  refine GrO.freeze hG (fun I' hI' hS => ?_)
  exact hk mv lv I' hI' (hm.mono hI') (RL.ofI hS (hR.imp fun _ _ h => LeV.mono h hI'))

theorem awake11_spec (hk : ∀ I', Ext I I' → K (.bool true) I' L) : Cal Try.prog ω 35 #[] K I L := by
  refine cal35 ?_
  unfold sh35
  refine bi1 (fun u I1 hI1 hu => ?_)
  have hmb : memB [1] = true := rfl
  refine callG (new_spec hu (fun h => by rw [hmb] at h; cases h) (fun _ lb X I2 hI2 hR => ?_))
  refine LogR.freeze hR (fun mv lv I3 hI3 hm hl => Gh.done ?_)
  simp only [SSd, List.getElem?_toArray, List.getElem?_cons_zero, List.getElem?_cons_succ, Nat.zero_add, Nat.add_zero, Nat.zero_mul, List.drop_succ_cons, List.drop_zero, List.take_succ_cons, List.take_zero, List.nil_append, List.cons_append, Nat.reduceAdd, List.drop_nil, List.take_nil, bne_self_eq_false]
  refine call (new11_spec (g := newG [1]) (st := []) (cells_own InL.mem) hm hl (new_wf hmb) (SlI.nil _ _ _ _) (by simp) (fun h => by cases h) (fun _ b X I4 hI4 hX => ?_))
  simp only [SSd, List.getElem?_toArray, List.getElem?_cons_zero, List.getElem?_cons_succ, Nat.zero_add, Nat.add_zero, Nat.zero_mul, List.drop_succ_cons, List.drop_zero, List.take_succ_cons, List.take_zero, List.nil_append, List.cons_append, Nat.reduceAdd, List.drop_nil, List.take_nil, bne_self_eq_false]
  have hw : RWF 0 0 (newF 1 1 0 0 (newG [1]) []) := newF_wf (new_wf hmb) (by simp [newG]) rfl
  refine call (tick_spec hX hw (by omega) (by omega) rfl (fun X' v I5 hI5 hv hX' => ?_))
  have hro : (takeF (tickF (newF 1 1 0 0 (newG [1]) []) 1)).role = 3 := by rfl
  have hX2 := hX'
  obtain ⟨lb2, XL, XO, stv, ov, z0, z1, z2, oc, rfl, h1, h2, h3, h4⟩ := hX2
  refine call (grole_spec (Cell.own (List.mem_append_left _ (List.mem_cons_self ..)) (show _ = some (.int .i64 _) from rfl)) ?_)
  rw [hro]
  try simp only [SSd, List.getElem?_toArray, List.getElem?_cons_zero, List.getElem?_cons_succ, Nat.zero_add, Nat.add_zero, Nat.zero_mul, List.drop_succ_cons, List.drop_zero, List.take_succ_cons, List.take_zero, List.nil_append, List.cons_append, Nat.reduceAdd, List.drop_nil, List.take_nil]
  exact Gh.to L (Gh.done (hk I5 ((((hI1.trans hI2).trans hI3).trans hI4).trans hI5)))

set_option maxHeartbeats 1000000 in
theorem both_spec {x : TStart} {c : List Value} (h : TStartV I x c) (hlen : x.fEntries.length * 48 ≤ 150000000000000) (hc : inI64 x.fCommit) (hsl : x.fState.length < 4611686018427387904)
    (hk0 : startOk x = false → ∀ I', Ext I I' → K (.tuple #[.pointer none, .pointer none, .bool true]) I' L)
    (hk1 : startOk x = true → ∀ b X cc Y I', Ext I I' → RaftR I' b X (startF x) → RaftQ I' cc Y (startF x) → RWF x.fEntries.length 0 (startF x) → K (.tuple #[.pointer (some ⟨b, 0, none⟩), .pointer (some ⟨cc, 0, none⟩), .bool true]) I' (Y ++ (X ++ L))) :
    Cal Try.prog ω 36 #[.agg c.toArray] K I L := by
  obtain ⟨v0, v1, v2, rfl, hm, hes, hst⟩ := h
  obtain ⟨am, pm, rfl⟩ := Ints.form hm
  obtain ⟨ae, pe, rfl⟩ := RL.form hes
  have hes' := ents_of hes
  refine cal36 ?_
  unfold sh36
  repeat' (first | (with_reducible refine drawC ?_) | (with_reducible refine drawW1 ?_) | (with_reducible refine drawW2 ?_) | (with_reducible refine keepC (by repeat (first | exact Ext.refl _ | assumption | refine Ext.trans ?_ (by assumption))) ?_) | (with_reducible refine newI (fun _ => ?_)) | first | (with_reducible refine rdb ?_) | ((with_reducible refine st1 ?_ ?_); rfl) | ((with_reducible refine rdB ?_ ?_); rfl) | (with_reducible refine rdbS ?_) | ((with_reducible refine rdBS ?_ ?_); rfl) | ((with_reducible refine stB ?_ ?_ ?_ ?_); rfl; rfl; exact one_all rfl) | ((with_reducible refine rdP _ rfl ?_ ?_); rfl) | ((with_reducible refine rdPS _ rfl ?_ ?_); rfl) | ((with_reducible refine stP _ rfl ?_ ?_ ?_ ?_); rfl; rfl; rfl) | (with_reducible refine And.intro ?_ ?_) | (simp only [Bool.not_true, Bool.not_false, Bool.and_self, Bool.true_and, Int.reduceBEq, Int.reduceBNe, Int.reduceLT, Int.reduceLE, decide_true, decide_false, Br_true, Br_false, Gd_tt, Gd_ft, Gd_tf, Gd_ff, beq_self_eq_true, bne_self_eq_false]) | (with_reducible refine gd_split (fun _ => ?_) (fun _ => ?_)) | (with_reducible refine br_split (fun _ => ?_) (fun _ => ?_)) | (simp only [SSd, List.getElem?_toArray, List.getElem?_cons_zero, List.getElem?_cons_succ, Nat.zero_add, Nat.add_zero, Nat.zero_mul, List.drop_succ_cons, List.drop_zero, List.take_succ_cons, List.take_zero, List.nil_append, List.cons_append, Nat.reduceAdd, List.drop_nil, List.take_nil]))
  rename_i s1
  have bad : loadB x.fIndex x.fAt x.fMembers (x.fEntries.map toLE) x.fCommit = false → startOk x = false := fun h => by simp [startOk, h]
  refine callG (load_spec hm hes' (by rw [List.length_map]; exact hlen) hc (fun hb I1 hI1 => ?_) (fun hb lb X I1 hI1 hR => ?_))
  · refine Gh.done ?_
    repeat' (first | (with_reducible refine drawC ?_) | (with_reducible refine drawW1 ?_) | (with_reducible refine drawW2 ?_) | (with_reducible refine keepC (by repeat (first | exact Ext.refl _ | assumption | refine Ext.trans ?_ (by assumption))) ?_) | (with_reducible refine newI (fun _ => ?_)) | first | (with_reducible refine rdb ?_) | ((with_reducible refine st1 ?_ ?_); rfl) | ((with_reducible refine rdB ?_ ?_); rfl) | (with_reducible refine rdbS ?_) | ((with_reducible refine rdBS ?_ ?_); rfl) | ((with_reducible refine stB ?_ ?_ ?_ ?_); rfl; rfl; exact one_all rfl) | ((with_reducible refine rdP _ rfl ?_ ?_); rfl) | ((with_reducible refine rdPS _ rfl ?_ ?_); rfl) | ((with_reducible refine stP _ rfl ?_ ?_ ?_ ?_); rfl; rfl; rfl) | (with_reducible refine And.intro ?_ ?_) | (simp only [Bool.not_true, Bool.not_false, Bool.and_self, Bool.true_and, Int.reduceBEq, Int.reduceBNe, Int.reduceLT, Int.reduceLE, decide_true, decide_false, Br_true, Br_false, Gd_tt, Gd_ft, Gd_tf, Gd_ff, beq_self_eq_true, bne_self_eq_false]) | (with_reducible refine gd_split (fun _ => ?_) (fun _ => ?_)) | (with_reducible refine br_split (fun _ => ?_) (fun _ => ?_)) | (simp only [SSd, List.getElem?_toArray, List.getElem?_cons_zero, List.getElem?_cons_succ, Nat.zero_add, Nat.add_zero, Nat.zero_mul, List.drop_succ_cons, List.drop_zero, List.take_succ_cons, List.take_zero, List.nil_append, List.cons_append, Nat.reduceAdd, List.drop_nil, List.take_nil]))
    refine call (rload_spec (hm.mono hI1) (LsV.to hes' hI1) (by rw [List.length_map]; exact hlen) (fun _ I2 hI2 => ?_) (fun hb' => by rw [hb] at hb'; cases hb'))
    repeat' (first | (with_reducible refine drawC ?_) | (with_reducible refine drawW1 ?_) | (with_reducible refine drawW2 ?_) | (with_reducible refine keepC (by repeat (first | exact Ext.refl _ | assumption | refine Ext.trans ?_ (by assumption))) ?_) | (with_reducible refine newI (fun _ => ?_)) | first | (with_reducible refine rdb ?_) | ((with_reducible refine st1 ?_ ?_); rfl) | ((with_reducible refine rdB ?_ ?_); rfl) | (with_reducible refine rdbS ?_) | ((with_reducible refine rdBS ?_ ?_); rfl) | ((with_reducible refine stB ?_ ?_ ?_ ?_); rfl; rfl; exact one_all rfl) | ((with_reducible refine rdP _ rfl ?_ ?_); rfl) | ((with_reducible refine rdPS _ rfl ?_ ?_); rfl) | ((with_reducible refine stP _ rfl ?_ ?_ ?_ ?_); rfl; rfl; rfl) | (with_reducible refine And.intro ?_ ?_) | (simp only [Bool.not_true, Bool.not_false, Bool.and_self, Bool.true_and, Int.reduceBEq, Int.reduceBNe, Int.reduceLT, Int.reduceLE, decide_true, decide_false, Br_true, Br_false, Gd_tt, Gd_ft, Gd_tf, Gd_ff, beq_self_eq_true, bne_self_eq_false]) | (with_reducible refine gd_split (fun _ => ?_) (fun _ => ?_)) | (with_reducible refine br_split (fun _ => ?_) (fun _ => ?_)) | (simp only [SSd, List.getElem?_toArray, List.getElem?_cons_zero, List.getElem?_cons_succ, Nat.zero_add, Nat.add_zero, Nat.zero_mul, List.drop_succ_cons, List.drop_zero, List.take_succ_cons, List.take_zero, List.nil_append, List.cons_append, Nat.reduceAdd, List.drop_nil, List.take_nil]))
    exact Gh.to L (Gh.done (hk0 (bad hb) I2 (hI1.trans hI2)))
  refine LogR.freeze hR (fun mv lv I2 hI2 hm2 hl2 => Gh.done ?_)
  have hI12 := hI1.trans hI2
  repeat' (first | (with_reducible refine drawC ?_) | (with_reducible refine drawW1 ?_) | (with_reducible refine drawW2 ?_) | (with_reducible refine keepC (by repeat (first | exact Ext.refl _ | assumption | refine Ext.trans ?_ (by assumption))) ?_) | (with_reducible refine newI (fun _ => ?_)) | first | (with_reducible refine rdb ?_) | ((with_reducible refine st1 ?_ ?_); rfl) | ((with_reducible refine rdB ?_ ?_); rfl) | (with_reducible refine rdbS ?_) | ((with_reducible refine rdBS ?_ ?_); rfl) | ((with_reducible refine stB ?_ ?_ ?_ ?_); rfl; rfl; exact one_all rfl) | ((with_reducible refine rdP _ rfl ?_ ?_); rfl) | ((with_reducible refine rdPS _ rfl ?_ ?_); rfl) | ((with_reducible refine stP _ rfl ?_ ?_ ?_ ?_); rfl; rfl; rfl) | (with_reducible refine And.intro ?_ ?_) | (simp only [Bool.not_true, Bool.not_false, Bool.and_self, Bool.true_and, Int.reduceBEq, Int.reduceBNe, Int.reduceLT, Int.reduceLE, decide_true, decide_false, Br_true, Br_false, Gd_tt, Gd_ft, Gd_tf, Gd_ff, beq_self_eq_true, bne_self_eq_false]) | (with_reducible refine gd_split (fun _ => ?_) (fun _ => ?_)) | (with_reducible refine br_split (fun _ => ?_) (fun _ => ?_)) | (simp only [SSd, List.getElem?_toArray, List.getElem?_cons_zero, List.getElem?_cons_succ, Nat.zero_add, Nat.add_zero, Nat.zero_mul, List.drop_succ_cons, List.drop_zero, List.take_succ_cons, List.take_zero, List.nil_append, List.cons_append, Nat.reduceAdd, List.drop_nil, List.take_nil]))
  refine call (rload_spec (hm.mono hI12) (LsV.to hes' hI12) (by rw [List.length_map]; exact hlen) (fun hb' => by rw [hb] at hb'; cases hb') (fun _ cb Y I3 hI3 hQ => ?_))
  repeat' (first | (with_reducible refine drawC ?_) | (with_reducible refine drawW1 ?_) | (with_reducible refine drawW2 ?_) | (with_reducible refine keepC (by repeat (first | exact Ext.refl _ | assumption | refine Ext.trans ?_ (by assumption))) ?_) | (with_reducible refine newI (fun _ => ?_)) | first | (with_reducible refine rdb ?_) | ((with_reducible refine st1 ?_ ?_); rfl) | ((with_reducible refine rdB ?_ ?_); rfl) | (with_reducible refine rdbS ?_) | ((with_reducible refine rdBS ?_ ?_); rfl) | ((with_reducible refine stB ?_ ?_ ?_ ?_); rfl; rfl; exact one_all rfl) | ((with_reducible refine rdP _ rfl ?_ ?_); rfl) | ((with_reducible refine rdPS _ rfl ?_ ?_); rfl) | ((with_reducible refine stP _ rfl ?_ ?_ ?_ ?_); rfl; rfl; rfl) | (with_reducible refine And.intro ?_ ?_) | (simp only [Bool.not_true, Bool.not_false, Bool.and_self, Bool.true_and, Int.reduceBEq, Int.reduceBNe, Int.reduceLT, Int.reduceLE, decide_true, decide_false, Br_true, Br_false, Gd_tt, Gd_ft, Gd_tf, Gd_ff, beq_self_eq_true, bne_self_eq_false]) | (with_reducible refine gd_split (fun _ => ?_) (fun _ => ?_)) | (with_reducible refine br_split (fun _ => ?_) (fun _ => ?_)) | (simp only [SSd, List.getElem?_toArray, List.getElem?_cons_zero, List.getElem?_cons_succ, Nat.zero_add, Nat.add_zero, Nat.zero_mul, List.drop_succ_cons, List.drop_zero, List.take_succ_cons, List.take_zero, List.nil_append, List.cons_append, Nat.reduceAdd, List.drop_nil, List.take_nil]))
  have hwf := load_wf hb (by rw [List.length_map]; exact hlen)
  refine call (new11_spec (g := startG x) (st := x.fState) (cells_own InL.mem) (hm2.mono hI3) (LsV.to (L' := []) hl2 hI3) hwf (hst.mono (hI12.trans hI3)) hsl (fun hn I4 hI4 => ?_) (fun hn b X I4 hI4 hX => ?_))
  · have hno : startOk x = false := by simp [startOk, hn]
    repeat' (first | (with_reducible refine drawC ?_) | (with_reducible refine drawW1 ?_) | (with_reducible refine drawW2 ?_) | (with_reducible refine keepC (by repeat (first | exact Ext.refl _ | assumption | refine Ext.trans ?_ (by assumption))) ?_) | (with_reducible refine newI (fun _ => ?_)) | first | (with_reducible refine rdb ?_) | ((with_reducible refine st1 ?_ ?_); rfl) | ((with_reducible refine rdB ?_ ?_); rfl) | (with_reducible refine rdbS ?_) | ((with_reducible refine rdBS ?_ ?_); rfl) | ((with_reducible refine stB ?_ ?_ ?_ ?_); rfl; rfl; exact one_all rfl) | ((with_reducible refine rdP _ rfl ?_ ?_); rfl) | ((with_reducible refine rdPS _ rfl ?_ ?_); rfl) | ((with_reducible refine stP _ rfl ?_ ?_ ?_ ?_); rfl; rfl; rfl) | (with_reducible refine And.intro ?_ ?_) | (simp only [Bool.not_true, Bool.not_false, Bool.and_self, Bool.true_and, Int.reduceBEq, Int.reduceBNe, Int.reduceLT, Int.reduceLE, decide_true, decide_false, Br_true, Br_false, Gd_tt, Gd_ft, Gd_tf, Gd_ff, beq_self_eq_true, bne_self_eq_false]) | (with_reducible refine gd_split (fun _ => ?_) (fun _ => ?_)) | (with_reducible refine br_split (fun _ => ?_) (fun _ => ?_)) | (simp only [SSd, List.getElem?_toArray, List.getElem?_cons_zero, List.getElem?_cons_succ, Nat.zero_add, Nat.add_zero, Nat.zero_mul, List.drop_succ_cons, List.drop_zero, List.take_succ_cons, List.take_zero, List.nil_append, List.cons_append, Nat.reduceAdd, List.drop_nil, List.take_nil]))
    refine call (Cal.split Y (rnew11_spec (g := startG x) (hQ.mono hI4) hwf (hst.mono ((hI12.trans hI3).trans hI4)) hsl (fun _ => ?_) (fun hn' => by rw [hn] at hn'; cases hn')))
    repeat' (first | (with_reducible refine drawC ?_) | (with_reducible refine drawW1 ?_) | (with_reducible refine drawW2 ?_) | (with_reducible refine keepC (by repeat (first | exact Ext.refl _ | assumption | refine Ext.trans ?_ (by assumption))) ?_) | (with_reducible refine newI (fun _ => ?_)) | first | (with_reducible refine rdb ?_) | ((with_reducible refine st1 ?_ ?_); rfl) | ((with_reducible refine rdB ?_ ?_); rfl) | (with_reducible refine rdbS ?_) | ((with_reducible refine rdBS ?_ ?_); rfl) | ((with_reducible refine stB ?_ ?_ ?_ ?_); rfl; rfl; exact one_all rfl) | ((with_reducible refine rdP _ rfl ?_ ?_); rfl) | ((with_reducible refine rdPS _ rfl ?_ ?_); rfl) | ((with_reducible refine stP _ rfl ?_ ?_ ?_ ?_); rfl; rfl; rfl) | (with_reducible refine And.intro ?_ ?_) | (simp only [Bool.not_true, Bool.not_false, Bool.and_self, Bool.true_and, Int.reduceBEq, Int.reduceBNe, Int.reduceLT, Int.reduceLE, decide_true, decide_false, Br_true, Br_false, Gd_tt, Gd_ft, Gd_tf, Gd_ff, beq_self_eq_true, bne_self_eq_false]) | (with_reducible refine gd_split (fun _ => ?_) (fun _ => ?_)) | (with_reducible refine br_split (fun _ => ?_) (fun _ => ?_)) | (simp only [SSd, List.getElem?_toArray, List.getElem?_cons_zero, List.getElem?_cons_succ, Nat.zero_add, Nat.add_zero, Nat.zero_mul, List.drop_succ_cons, List.drop_zero, List.take_succ_cons, List.take_zero, List.nil_append, List.cons_append, Nat.reduceAdd, List.drop_nil, List.take_nil]))
    exact Gh.to L (Gh.done (hk0 hno I4 ((hI12.trans hI3).trans hI4)))
  · have hno : startOk x = true := by simp only [startOk, Bool.and_eq_true]; exact ⟨hb, hn⟩
    repeat' (first | (with_reducible refine drawC ?_) | (with_reducible refine drawW1 ?_) | (with_reducible refine drawW2 ?_) | (with_reducible refine keepC (by repeat (first | exact Ext.refl _ | assumption | refine Ext.trans ?_ (by assumption))) ?_) | (with_reducible refine newI (fun _ => ?_)) | first | (with_reducible refine rdb ?_) | ((with_reducible refine st1 ?_ ?_); rfl) | ((with_reducible refine rdB ?_ ?_); rfl) | (with_reducible refine rdbS ?_) | ((with_reducible refine rdBS ?_ ?_); rfl) | ((with_reducible refine stB ?_ ?_ ?_ ?_); rfl; rfl; exact one_all rfl) | ((with_reducible refine rdP _ rfl ?_ ?_); rfl) | ((with_reducible refine rdPS _ rfl ?_ ?_); rfl) | ((with_reducible refine stP _ rfl ?_ ?_ ?_ ?_); rfl; rfl; rfl) | (with_reducible refine And.intro ?_ ?_) | (simp only [Bool.not_true, Bool.not_false, Bool.and_self, Bool.true_and, Int.reduceBEq, Int.reduceBNe, Int.reduceLT, Int.reduceLE, decide_true, decide_false, Br_true, Br_false, Gd_tt, Gd_ft, Gd_tf, Gd_ff, beq_self_eq_true, bne_self_eq_false]) | (with_reducible refine gd_split (fun _ => ?_) (fun _ => ?_)) | (with_reducible refine br_split (fun _ => ?_) (fun _ => ?_)) | (simp only [SSd, List.getElem?_toArray, List.getElem?_cons_zero, List.getElem?_cons_succ, Nat.zero_add, Nat.add_zero, Nat.zero_mul, List.drop_succ_cons, List.drop_zero, List.take_succ_cons, List.take_zero, List.nil_append, List.cons_append, Nat.reduceAdd, List.drop_nil, List.take_nil]))
    refine call (Cal.split Y (rnew11_spec (g := startG x) (hQ.mono hI4) hwf (hst.mono ((hI12.trans hI3).trans hI4)) hsl (fun hn' => by rw [hn] at hn'; cases hn') (fun _ cc Z I5 hI5 hZ => ?_)))
    repeat' (first | (with_reducible refine drawC ?_) | (with_reducible refine drawW1 ?_) | (with_reducible refine drawW2 ?_) | (with_reducible refine keepC (by repeat (first | exact Ext.refl _ | assumption | refine Ext.trans ?_ (by assumption))) ?_) | (with_reducible refine newI (fun _ => ?_)) | first | (with_reducible refine rdb ?_) | ((with_reducible refine st1 ?_ ?_); rfl) | ((with_reducible refine rdB ?_ ?_); rfl) | (with_reducible refine rdbS ?_) | ((with_reducible refine rdBS ?_ ?_); rfl) | ((with_reducible refine stB ?_ ?_ ?_ ?_); rfl; rfl; exact one_all rfl) | ((with_reducible refine rdP _ rfl ?_ ?_); rfl) | ((with_reducible refine rdPS _ rfl ?_ ?_); rfl) | ((with_reducible refine stP _ rfl ?_ ?_ ?_ ?_); rfl; rfl; rfl) | (with_reducible refine And.intro ?_ ?_) | (simp only [Bool.not_true, Bool.not_false, Bool.and_self, Bool.true_and, Int.reduceBEq, Int.reduceBNe, Int.reduceLT, Int.reduceLE, decide_true, decide_false, Br_true, Br_false, Gd_tt, Gd_ft, Gd_tf, Gd_ff, beq_self_eq_true, bne_self_eq_false]) | (with_reducible refine gd_split (fun _ => ?_) (fun _ => ?_)) | (with_reducible refine br_split (fun _ => ?_) (fun _ => ?_)) | (simp only [SSd, List.getElem?_toArray, List.getElem?_cons_zero, List.getElem?_cons_succ, Nat.zero_add, Nat.add_zero, Nat.zero_mul, List.drop_succ_cons, List.drop_zero, List.take_succ_cons, List.take_zero, List.nil_append, List.cons_append, Nat.reduceAdd, List.drop_nil, List.take_nil]))
    refine Gh.to (Z ++ (X ++ L)) (Gh.done (hk1 hno b X cc Z I5 (((hI12.trans hI3).trans hI4).trans hI5) (hX.mono hI5) hZ ?_))
    exact newF_wf hwf (by simp [startG]) hn
end
end Go.Proofs.Ytdcpeboecmkmlaa
