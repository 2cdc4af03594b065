/-
  Values of struct types: printed by a program (gotypes.py).
-/
import Derived.Test.YtlalbollbdlfhaaSh
import Derived.Test.YtlalbollbdlfhaaSlEnc
set_option linter.unusedSimpArgs false
set_option linter.unusedVariables false
namespace Go.Proofs.Ytlalbollbdlfhaa
open Go.SL
set_option maxRecDepth 10000

structure TSpan where
  fFrom : List UInt8
  fTo : List UInt8
instance : Inhabited TSpan := ⟨⟨[], []⟩⟩
def TSpanV (I : Imm) (x : TSpan) (c : List Value) : Prop := ∃ v0 v1, c = [v0, v1] ∧ Bytes I v0 x.fFrom ∧ Bytes I v1 x.fTo
theorem TSpanV.mono {I I' : Imm} {x : TSpan} {c : List Value} (h : TSpanV I x c) (hI : Ext I I') : TSpanV I' x c := by
  obtain ⟨v0, v1, rfl, h0, h1⟩ := h
  exact ⟨v0, v1, rfl, h0.mono hI, h1.mono hI⟩
theorem TSpanV.len {I : Imm} {x : TSpan} {c : List Value} (h : TSpanV I x c) : c.length = 2 := by
  obtain ⟨v0, v1, rfl, h0, h1⟩ := h
  rfl
theorem TSpanV.one {I : Imm} {x : TSpan} {c : List Value} (h : TSpanV I x c) : ∀ u ∈ c, u.oneCell' = true := by
  obtain ⟨v0, v1, rfl, h0, h1⟩ := h
  obtain ⟨_, _, rfl⟩ := Bytes.form h0
  obtain ⟨_, _, rfl⟩ := Bytes.form h1
  exact one_all rfl
theorem TSpanV.zero (I : Imm) : TSpanV I default [.slice none 0 0, .slice none 0 0] := ⟨_, _, rfl, SlI.nil I 1 none 0, SlI.nil I 1 none 0⟩
def TSpanB (rz : Nat) (x : TSpan) : Prop := x.fFrom.length ≤ rz ∧ x.fTo.length ≤ rz
theorem ceTSpan : Try.prog.cellsOf 40 = 2 := by kernel_rfl
theorem byTSpan : Try.prog.bytesOf 40 = 48 := by kernel_rfl
theorem TSpan_open {rz : Nat} {W : World} {cs : List Value} (h : TrR rz Try.prog W 40 cs) : ∃ x, TSpanB rz x ∧ TSpanV (heapI W) x cs := by
  have hl := (tr_struct Try.underlying40 h).1
  rw [ceTSpan] at hl
  obtain ⟨c0, c1, rfl⟩ : ∃ c0 c1, cs = [c0, c1] := by
    match cs, hl with
    | [c0, c1], _ => exact ⟨c0, c1, rfl⟩
  obtain ⟨n0, h0, w0⟩ := tr_bytes Try.underlying38 Try.underlying5 (by kernel_rfl) (by kernel_rfl) (v := c0) (tr_field 0 Try.underlying40 h rfl (n := 1) (by kernel_rfl))
  obtain ⟨n1, h1, w1⟩ := tr_bytes Try.underlying38 Try.underlying5 (by kernel_rfl) (by kernel_rfl) (v := c1) (tr_field 1 Try.underlying40 h rfl (n := 1) (by kernel_rfl))
  exact ⟨⟨n0, n1⟩, ⟨w0, w1⟩, ⟨_, _, rfl, h0, h1⟩⟩

structure TRange where
  fId : Int
  fSpan : TSpan
  fGen : Int
instance : Inhabited TRange := ⟨⟨0, default, 0⟩⟩
def TRangeV (I : Imm) (x : TRange) (c : List Value) : Prop := ∃ v0 v1, c = [.int .i64 x.fId, v0, v1, .int .i64 x.fGen] ∧ Bytes I v0 x.fSpan.fFrom ∧ Bytes I v1 x.fSpan.fTo
theorem TRangeV.mono {I I' : Imm} {x : TRange} {c : List Value} (h : TRangeV I x c) (hI : Ext I I') : TRangeV I' x c := by
  obtain ⟨v0, v1, rfl, h0, h1⟩ := h
  exact ⟨v0, v1, rfl, h0.mono hI, h1.mono hI⟩
theorem TRangeV.len {I : Imm} {x : TRange} {c : List Value} (h : TRangeV I x c) : c.length = 4 := by
  obtain ⟨v0, v1, rfl, h0, h1⟩ := h
  rfl
theorem TRangeV.one {I : Imm} {x : TRange} {c : List Value} (h : TRangeV I x c) : ∀ u ∈ c, u.oneCell' = true := by
  obtain ⟨v0, v1, rfl, h0, h1⟩ := h
  obtain ⟨_, _, rfl⟩ := Bytes.form h0
  obtain ⟨_, _, rfl⟩ := Bytes.form h1
  exact one_all rfl
theorem TRangeV.zero (I : Imm) : TRangeV I default [.int .i64 0, .slice none 0 0, .slice none 0 0, .int .i64 0] := ⟨_, _, rfl, SlI.nil I 1 none 0, SlI.nil I 1 none 0⟩
def TRangeB (rz : Nat) (x : TRange) : Prop := inI64 x.fId ∧ TSpanB rz x.fSpan ∧ inI64 x.fGen
theorem ceTRange : Try.prog.cellsOf 81 = 4 := by kernel_rfl
theorem byTRange : Try.prog.bytesOf 81 = 64 := by kernel_rfl
theorem TRange_open {rz : Nat} {W : World} {cs : List Value} (h : TrR rz Try.prog W 81 cs) : ∃ x, TRangeB rz x ∧ TRangeV (heapI W) x cs := by
  have hl := (tr_struct Try.underlying81 h).1
  rw [ceTRange] at hl
  obtain ⟨c0, c1, c2, c3, rfl⟩ : ∃ c0 c1 c2 c3, cs = [c0, c1, c2, c3] := by
    match cs, hl with
    | [c0, c1, c2, c3], _ => exact ⟨c0, c1, c2, c3, rfl⟩
  obtain ⟨n0, e0, w0⟩ := tr_int Try.underlying3 (cs := [c0]) (tr_field 0 Try.underlying81 h rfl (n := 1) (by kernel_rfl))
  simp only [List.cons.injEq, and_true] at e0
  subst e0
  obtain ⟨n1, w1, u1_0, u1_1, e1, h1_0, h1_1⟩ := TSpan_open (cs := [c1, c2]) (tr_field 1 Try.underlying81 h rfl (n := 2) (by kernel_rfl))
  simp only [List.cons.injEq, and_true] at e1
  obtain ⟨rfl, rfl⟩ := e1
  obtain ⟨n2, e2, w2⟩ := tr_int Try.underlying3 (cs := [c3]) (tr_field 2 Try.underlying81 h rfl (n := 1) (by kernel_rfl))
  simp only [List.cons.injEq, and_true] at e2
  subst e2
  exact ⟨⟨n0, n1, n2⟩, ⟨wf_i64 w0, w1, wf_i64 w2⟩, ⟨_, _, rfl, h1_0, h1_1⟩⟩

structure TStamp where
  fWall : Int
  fLogic : Int
instance : Inhabited TStamp := ⟨⟨0, 0⟩⟩
def TStampV (I : Imm) (x : TStamp) (c : List Value) : Prop := c = [.int .i64 x.fWall, .int .i64 x.fLogic]
theorem TStampV.mono {I I' : Imm} {x : TStamp} {c : List Value} (h : TStampV I x c) (hI : Ext I I') : TStampV I' x c := by
  obtain rfl := h
  exact rfl
theorem TStampV.len {I : Imm} {x : TStamp} {c : List Value} (h : TStampV I x c) : c.length = 2 := by
  obtain rfl := h
  rfl
theorem TStampV.one {I : Imm} {x : TStamp} {c : List Value} (h : TStampV I x c) : ∀ u ∈ c, u.oneCell' = true := by
  obtain rfl := h
  exact one_all rfl
theorem TStampV.zero (I : Imm) : TStampV I default [.int .i64 0, .int .i64 0] := rfl
def TStampB (rz : Nat) (x : TStamp) : Prop := inI64 x.fWall ∧ inI64 x.fLogic
theorem ceTStamp : Try.prog.cellsOf 23 = 2 := by kernel_rfl
theorem byTStamp : Try.prog.bytesOf 23 = 16 := by kernel_rfl
theorem TStamp_open {rz : Nat} {W : World} {cs : List Value} (h : TrR rz Try.prog W 23 cs) : ∃ x, TStampB rz x ∧ TStampV (heapI W) x cs := by
  have hl := (tr_struct Try.underlying23 h).1
  rw [ceTStamp] at hl
  obtain ⟨c0, c1, rfl⟩ : ∃ c0 c1, cs = [c0, c1] := by
    match cs, hl with
    | [c0, c1], _ => exact ⟨c0, c1, rfl⟩
  obtain ⟨n0, e0, w0⟩ := tr_int Try.underlying3 (cs := [c0]) (tr_field 0 Try.underlying23 h rfl (n := 1) (by kernel_rfl))
  simp only [List.cons.injEq, and_true] at e0
  subst e0
  obtain ⟨n1, e1, w1⟩ := tr_int Try.underlying3 (cs := [c1]) (tr_field 1 Try.underlying23 h rfl (n := 1) (by kernel_rfl))
  simp only [List.cons.injEq, and_true] at e1
  subst e1
  exact ⟨⟨n0, n1⟩, ⟨wf_i64 w0, wf_i64 w1⟩, rfl⟩

structure TCmd where
  fKind : Int
  fTxn : Int
  fSeq : Int
  fAt : TStamp
  fTo : TStamp
  fBy : Int
  fYes : Bool
  fDel : Bool
  fKey : List UInt8
  fValue : List UInt8
  fSpan : TSpan
  fMost : Int
instance : Inhabited TCmd := ⟨⟨0, 0, 0, default, default, 0, false, false, [], [], default, 0⟩⟩
def TCmdV (I : Imm) (x : TCmd) (c : List Value) : Prop := ∃ v0 v1 v2 v3, c = [.int .i64 x.fKind, .int .i64 x.fTxn, .int .i64 x.fSeq, .int .i64 x.fAt.fWall, .int .i64 x.fAt.fLogic, .int .i64 x.fTo.fWall, .int .i64 x.fTo.fLogic, .int .i64 x.fBy, .bool x.fYes, .bool x.fDel, v0, v1, v2, v3, .int .i64 x.fMost] ∧ Bytes I v0 x.fKey ∧ Bytes I v1 x.fValue ∧ Bytes I v2 x.fSpan.fFrom ∧ Bytes I v3 x.fSpan.fTo
theorem TCmdV.mono {I I' : Imm} {x : TCmd} {c : List Value} (h : TCmdV I x c) (hI : Ext I I') : TCmdV I' x c := by
  obtain ⟨v0, v1, v2, v3, rfl, h0, h1, h2, h3⟩ := h
  exact ⟨v0, v1, v2, v3, rfl, h0.mono hI, h1.mono hI, h2.mono hI, h3.mono hI⟩
theorem TCmdV.len {I : Imm} {x : TCmd} {c : List Value} (h : TCmdV I x c) : c.length = 15 := by
  obtain ⟨v0, v1, v2, v3, rfl, h0, h1, h2, h3⟩ := h
  rfl
theorem TCmdV.one {I : Imm} {x : TCmd} {c : List Value} (h : TCmdV I x c) : ∀ u ∈ c, u.oneCell' = true := by
  obtain ⟨v0, v1, v2, v3, rfl, h0, h1, h2, h3⟩ := h
  obtain ⟨_, _, rfl⟩ := Bytes.form h0
  obtain ⟨_, _, rfl⟩ := Bytes.form h1
  obtain ⟨_, _, rfl⟩ := Bytes.form h2
  obtain ⟨_, _, rfl⟩ := Bytes.form h3
  exact one_all rfl
theorem TCmdV.zero (I : Imm) : TCmdV I default [.int .i64 0, .int .i64 0, .int .i64 0, .int .i64 0, .int .i64 0, .int .i64 0, .int .i64 0, .int .i64 0, .bool false, .bool false, .slice none 0 0, .slice none 0 0, .slice none 0 0, .slice none 0 0, .int .i64 0] := ⟨_, _, _, _, rfl, SlI.nil I 1 none 0, SlI.nil I 1 none 0, SlI.nil I 1 none 0, SlI.nil I 1 none 0⟩
def TCmdB (rz : Nat) (x : TCmd) : Prop := inI64 x.fKind ∧ inI64 x.fTxn ∧ inI64 x.fSeq ∧ TStampB rz x.fAt ∧ TStampB rz x.fTo ∧ inI64 x.fBy ∧ x.fKey.length ≤ rz ∧ x.fValue.length ≤ rz ∧ TSpanB rz x.fSpan ∧ inI64 x.fMost
theorem ceTCmd : Try.prog.cellsOf 48 = 15 := by kernel_rfl
theorem byTCmd : Try.prog.bytesOf 48 = 176 := by kernel_rfl
theorem TCmd_open {rz : Nat} {W : World} {cs : List Value} (h : TrR rz Try.prog W 48 cs) : ∃ x, TCmdB rz x ∧ TCmdV (heapI W) x cs := by
  have hl := (tr_struct Try.underlying48 h).1
  rw [ceTCmd] at hl
  obtain ⟨c0, c1, c2, c3, c4, c5, c6, c7, c8, c9, c10, c11, c12, c13, c14, rfl⟩ : ∃ c0 c1 c2 c3 c4 c5 c6 c7 c8 c9 c10 c11 c12 c13 c14, cs = [c0, c1, c2, c3, c4, c5, c6, c7, c8, c9, c10, c11, c12, c13, c14] := by
    match cs, hl with
    | [c0, c1, c2, c3, c4, c5, c6, c7, c8, c9, c10, c11, c12, c13, c14], _ => exact ⟨c0, c1, c2, c3, c4, c5, c6, c7, c8, c9, c10, c11, c12, c13, c14, rfl⟩
  obtain ⟨n0, e0, w0⟩ := tr_int Try.underlying3 (cs := [c0]) (tr_field 0 Try.underlying48 h rfl (n := 1) (by kernel_rfl))
  simp only [List.cons.injEq, and_true] at e0
  subst e0
  obtain ⟨n1, e1, w1⟩ := tr_int Try.underlying3 (cs := [c1]) (tr_field 1 Try.underlying48 h rfl (n := 1) (by kernel_rfl))
  simp only [List.cons.injEq, and_true] at e1
  subst e1
  obtain ⟨n2, e2, w2⟩ := tr_int Try.underlying3 (cs := [c2]) (tr_field 2 Try.underlying48 h rfl (n := 1) (by kernel_rfl))
  simp only [List.cons.injEq, and_true] at e2
  subst e2
  obtain ⟨n3, w3, e3⟩ := TStamp_open (cs := [c3, c4]) (tr_field 3 Try.underlying48 h rfl (n := 2) (by kernel_rfl))
  simp only [TStampV, List.cons.injEq, and_true] at e3
  obtain ⟨rfl, rfl⟩ := e3
  obtain ⟨n4, w4, e4⟩ := TStamp_open (cs := [c5, c6]) (tr_field 4 Try.underlying48 h rfl (n := 2) (by kernel_rfl))
  simp only [TStampV, List.cons.injEq, and_true] at e4
  obtain ⟨rfl, rfl⟩ := e4
  obtain ⟨n5, e5, w5⟩ := tr_int Try.underlying3 (cs := [c7]) (tr_field 5 Try.underlying48 h rfl (n := 1) (by kernel_rfl))
  simp only [List.cons.injEq, and_true] at e5
  subst e5
  obtain ⟨n6, e6⟩ := tr_bool Try.underlying4 (cs := [c8]) (tr_field 6 Try.underlying48 h rfl (n := 1) (by kernel_rfl))
  simp only [List.cons.injEq, and_true] at e6
  subst e6
  obtain ⟨n7, e7⟩ := tr_bool Try.underlying4 (cs := [c9]) (tr_field 7 Try.underlying48 h rfl (n := 1) (by kernel_rfl))
  simp only [List.cons.injEq, and_true] at e7
  subst e7
  obtain ⟨n8, h8, w8⟩ := tr_bytes Try.underlying38 Try.underlying5 (by kernel_rfl) (by kernel_rfl) (v := c10) (tr_field 8 Try.underlying48 h rfl (n := 1) (by kernel_rfl))
  obtain ⟨n9, h9, w9⟩ := tr_bytes Try.underlying38 Try.underlying5 (by kernel_rfl) (by kernel_rfl) (v := c11) (tr_field 9 Try.underlying48 h rfl (n := 1) (by kernel_rfl))
  obtain ⟨n10, w10, u10_0, u10_1, e10, h10_0, h10_1⟩ := TSpan_open (cs := [c12, c13]) (tr_field 10 Try.underlying48 h rfl (n := 2) (by kernel_rfl))
  simp only [List.cons.injEq, and_true] at e10
  obtain ⟨rfl, rfl⟩ := e10
  obtain ⟨n11, e11, w11⟩ := tr_int Try.underlying3 (cs := [c14]) (tr_field 11 Try.underlying48 h rfl (n := 1) (by kernel_rfl))
  simp only [List.cons.injEq, and_true] at e11
  subst e11
  exact ⟨⟨n0, n1, n2, n3, n4, n5, n6, n7, n8, n9, n10, n11⟩, ⟨wf_i64 w0, wf_i64 w1, wf_i64 w2, w3, w4, wf_i64 w5, w8, w9, w10, wf_i64 w11⟩, ⟨_, _, _, _, rfl, h8, h9, h10_0, h10_1⟩⟩

structure TGot where
  fFound : Bool
  fValue : List UInt8
  fAt : TStamp
  fBy : Int
instance : Inhabited TGot := ⟨⟨false, [], default, 0⟩⟩
def TGotV (I : Imm) (x : TGot) (c : List Value) : Prop := ∃ v0, c = [.bool x.fFound, v0, .int .i64 x.fAt.fWall, .int .i64 x.fAt.fLogic, .int .i64 x.fBy] ∧ Bytes I v0 x.fValue
theorem TGotV.mono {I I' : Imm} {x : TGot} {c : List Value} (h : TGotV I x c) (hI : Ext I I') : TGotV I' x c := by
  obtain ⟨v0, rfl, h0⟩ := h
  exact ⟨v0, rfl, h0.mono hI⟩
theorem TGotV.len {I : Imm} {x : TGot} {c : List Value} (h : TGotV I x c) : c.length = 5 := by
  obtain ⟨v0, rfl, h0⟩ := h
  rfl
theorem TGotV.one {I : Imm} {x : TGot} {c : List Value} (h : TGotV I x c) : ∀ u ∈ c, u.oneCell' = true := by
  obtain ⟨v0, rfl, h0⟩ := h
  obtain ⟨_, _, rfl⟩ := Bytes.form h0
  exact one_all rfl
theorem TGotV.zero (I : Imm) : TGotV I default [.bool false, .slice none 0 0, .int .i64 0, .int .i64 0, .int .i64 0] := ⟨_, rfl, SlI.nil I 1 none 0⟩
def TGotB (rz : Nat) (x : TGot) : Prop := x.fValue.length ≤ rz ∧ TStampB rz x.fAt ∧ inI64 x.fBy
theorem ceTGot : Try.prog.cellsOf 43 = 5 := by kernel_rfl
theorem byTGot : Try.prog.bytesOf 43 = 56 := by kernel_rfl
theorem TGot_open {rz : Nat} {W : World} {cs : List Value} (h : TrR rz Try.prog W 43 cs) : ∃ x, TGotB rz x ∧ TGotV (heapI W) x cs := by
  have hl := (tr_struct Try.underlying43 h).1
  rw [ceTGot] at hl
  obtain ⟨c0, c1, c2, c3, c4, rfl⟩ : ∃ c0 c1 c2 c3 c4, cs = [c0, c1, c2, c3, c4] := by
    match cs, hl with
    | [c0, c1, c2, c3, c4], _ => exact ⟨c0, c1, c2, c3, c4, rfl⟩
  obtain ⟨n0, e0⟩ := tr_bool Try.underlying4 (cs := [c0]) (tr_field 0 Try.underlying43 h rfl (n := 1) (by kernel_rfl))
  simp only [List.cons.injEq, and_true] at e0
  subst e0
  obtain ⟨n1, h1, w1⟩ := tr_bytes Try.underlying38 Try.underlying5 (by kernel_rfl) (by kernel_rfl) (v := c1) (tr_field 1 Try.underlying43 h rfl (n := 1) (by kernel_rfl))
  obtain ⟨n2, w2, e2⟩ := TStamp_open (cs := [c2, c3]) (tr_field 2 Try.underlying43 h rfl (n := 2) (by kernel_rfl))
  simp only [TStampV, List.cons.injEq, and_true] at e2
  obtain ⟨rfl, rfl⟩ := e2
  obtain ⟨n3, e3, w3⟩ := tr_int Try.underlying3 (cs := [c4]) (tr_field 3 Try.underlying43 h rfl (n := 1) (by kernel_rfl))
  simp only [List.cons.injEq, and_true] at e3
  subst e3
  exact ⟨⟨n0, n1, n2, n3⟩, ⟨w1, w2, wf_i64 w3⟩, ⟨_, rfl, h1⟩⟩

structure TKV where
  fKey : List UInt8
  fValue : List UInt8
instance : Inhabited TKV := ⟨⟨[], []⟩⟩
def TKVV (I : Imm) (x : TKV) (c : List Value) : Prop := ∃ v0 v1, c = [v0, v1] ∧ Bytes I v0 x.fKey ∧ Bytes I v1 x.fValue
theorem TKVV.mono {I I' : Imm} {x : TKV} {c : List Value} (h : TKVV I x c) (hI : Ext I I') : TKVV I' x c := by
  obtain ⟨v0, v1, rfl, h0, h1⟩ := h
  exact ⟨v0, v1, rfl, h0.mono hI, h1.mono hI⟩
theorem TKVV.len {I : Imm} {x : TKV} {c : List Value} (h : TKVV I x c) : c.length = 2 := by
  obtain ⟨v0, v1, rfl, h0, h1⟩ := h
  rfl
theorem TKVV.one {I : Imm} {x : TKV} {c : List Value} (h : TKVV I x c) : ∀ u ∈ c, u.oneCell' = true := by
  obtain ⟨v0, v1, rfl, h0, h1⟩ := h
  obtain ⟨_, _, rfl⟩ := Bytes.form h0
  obtain ⟨_, _, rfl⟩ := Bytes.form h1
  exact one_all rfl
theorem TKVV.zero (I : Imm) : TKVV I default [.slice none 0 0, .slice none 0 0] := ⟨_, _, rfl, SlI.nil I 1 none 0, SlI.nil I 1 none 0⟩
def TKVB (rz : Nat) (x : TKV) : Prop := x.fKey.length ≤ rz ∧ x.fValue.length ≤ rz
theorem ceTKV : Try.prog.cellsOf 95 = 2 := by kernel_rfl
theorem byTKV : Try.prog.bytesOf 95 = 48 := by kernel_rfl
theorem TKV_open {rz : Nat} {W : World} {cs : List Value} (h : TrR rz Try.prog W 95 cs) : ∃ x, TKVB rz x ∧ TKVV (heapI W) x cs := by
  have hl := (tr_struct Try.underlying95 h).1
  rw [ceTKV] at hl
  obtain ⟨c0, c1, rfl⟩ : ∃ c0 c1, cs = [c0, c1] := by
    match cs, hl with
    | [c0, c1], _ => exact ⟨c0, c1, rfl⟩
  obtain ⟨n0, h0, w0⟩ := tr_bytes Try.underlying38 Try.underlying5 (by kernel_rfl) (by kernel_rfl) (v := c0) (tr_field 0 Try.underlying95 h rfl (n := 1) (by kernel_rfl))
  obtain ⟨n1, h1, w1⟩ := tr_bytes Try.underlying38 Try.underlying5 (by kernel_rfl) (by kernel_rfl) (v := c1) (tr_field 1 Try.underlying95 h rfl (n := 1) (by kernel_rfl))
  exact ⟨⟨n0, n1⟩, ⟨w0, w1⟩, ⟨_, _, rfl, h0, h1⟩⟩

structure TRes where
  fCode : Int
  fGot : TGot
  fRows : List TKV
  fAt : TStamp
  fBy : Int
  fState : Int
instance : Inhabited TRes := ⟨⟨0, default, [], default, 0, 0⟩⟩
def TResV (I : Imm) (x : TRes) (c : List Value) : Prop := ∃ v0 v1, c = [.int .i64 x.fCode, .bool x.fGot.fFound, v0, .int .i64 x.fGot.fAt.fWall, .int .i64 x.fGot.fAt.fLogic, .int .i64 x.fGot.fBy, v1, .int .i64 x.fAt.fWall, .int .i64 x.fAt.fLogic, .int .i64 x.fBy, .int .i64 x.fState] ∧ Bytes I v0 x.fGot.fValue ∧ RL TKVV 2 I [] v1 x.fRows
theorem TResV.mono {I I' : Imm} {x : TRes} {c : List Value} (h : TResV I x c) (hI : Ext I I') : TResV I' x c := by
  obtain ⟨v0, v1, rfl, h0, h1⟩ := h
  exact ⟨v0, v1, rfl, h0.mono hI, RL.mono (fun _ _ h => TKVV.mono h hI) h1 hI (fun _ h => by cases h)⟩
theorem TResV.len {I : Imm} {x : TRes} {c : List Value} (h : TResV I x c) : c.length = 11 := by
  obtain ⟨v0, v1, rfl, h0, h1⟩ := h
  rfl
theorem TResV.one {I : Imm} {x : TRes} {c : List Value} (h : TResV I x c) : ∀ u ∈ c, u.oneCell' = true := by
  obtain ⟨v0, v1, rfl, h0, h1⟩ := h
  obtain ⟨_, _, rfl⟩ := Bytes.form h0
  obtain ⟨_, _, rfl⟩ := RL.form h1
  exact one_all rfl
theorem TResV.zero (I : Imm) : TResV I default [.int .i64 0, .bool false, .slice none 0 0, .int .i64 0, .int .i64 0, .int .i64 0, .slice none 0 0, .int .i64 0, .int .i64 0, .int .i64 0, .int .i64 0] := ⟨_, _, rfl, SlI.nil I 1 none 0, RL.nil none 0⟩
def TResB (rz : Nat) (x : TRes) : Prop := inI64 x.fCode ∧ TGotB rz x.fGot ∧ x.fRows.length * 48 ≤ rz ∧ (∀ y ∈ x.fRows, TKVB rz y) ∧ TStampB rz x.fAt ∧ inI64 x.fBy ∧ inI64 x.fState
theorem ceTRes : Try.prog.cellsOf 46 = 11 := by kernel_rfl
theorem byTRes : Try.prog.bytesOf 46 = 120 := by kernel_rfl
theorem TRes_open {rz : Nat} {W : World} {cs : List Value} (h : TrR rz Try.prog W 46 cs) : ∃ x, TResB rz x ∧ TResV (heapI W) x cs := by
  have hl := (tr_struct Try.underlying46 h).1
  rw [ceTRes] at hl
  obtain ⟨c0, c1, c2, c3, c4, c5, c6, c7, c8, c9, c10, rfl⟩ : ∃ c0 c1 c2 c3 c4 c5 c6 c7 c8 c9 c10, cs = [c0, c1, c2, c3, c4, c5, c6, c7, c8, c9, c10] := by
    match cs, hl with
    | [c0, c1, c2, c3, c4, c5, c6, c7, c8, c9, c10], _ => exact ⟨c0, c1, c2, c3, c4, c5, c6, c7, c8, c9, c10, rfl⟩
  obtain ⟨n0, e0, w0⟩ := tr_int Try.underlying26 (cs := [c0]) (tr_field 0 Try.underlying46 h rfl (n := 1) (by kernel_rfl))
  simp only [List.cons.injEq, and_true] at e0
  subst e0
  obtain ⟨n1, w1, u1_0, e1, h1_0⟩ := TGot_open (cs := [c1, c2, c3, c4, c5]) (tr_field 1 Try.underlying46 h rfl (n := 5) (by kernel_rfl))
  simp only [List.cons.injEq, and_true] at e1
  obtain ⟨rfl, rfl, rfl, rfl, rfl⟩ := e1
  obtain ⟨n2, w2, w2', h2⟩ := tr_list (B := TKVB rz) Try.underlying44 ceTKV (by decide) byTKV (v := c6) (tr_field 2 Try.underlying46 h rfl (n := 1) (by kernel_rfl)) (fun c hc => TKV_open hc)
  obtain ⟨n3, w3, e3⟩ := TStamp_open (cs := [c7, c8]) (tr_field 3 Try.underlying46 h rfl (n := 2) (by kernel_rfl))
  simp only [TStampV, List.cons.injEq, and_true] at e3
  obtain ⟨rfl, rfl⟩ := e3
  obtain ⟨n4, e4, w4⟩ := tr_int Try.underlying3 (cs := [c9]) (tr_field 4 Try.underlying46 h rfl (n := 1) (by kernel_rfl))
  simp only [List.cons.injEq, and_true] at e4
  subst e4
  obtain ⟨n5, e5, w5⟩ := tr_int Try.underlying3 (cs := [c10]) (tr_field 5 Try.underlying46 h rfl (n := 1) (by kernel_rfl))
  simp only [List.cons.injEq, and_true] at e5
  subst e5
  exact ⟨⟨n0, n1, n2, n3, n4, n5⟩, ⟨wf_i64 w0, w1, w2, w2', w3, wf_i64 w4, wf_i64 w5⟩, ⟨_, _, rfl, h1_0, h2⟩⟩

structure TOp where
  fDel : Bool
  fKey : List UInt8
  fValue : List UInt8
instance : Inhabited TOp := ⟨⟨false, [], []⟩⟩
def TOpV (I : Imm) (x : TOp) (c : List Value) : Prop := ∃ v0 v1, c = [.bool x.fDel, v0, v1] ∧ Bytes I v0 x.fKey ∧ Bytes I v1 x.fValue
theorem TOpV.mono {I I' : Imm} {x : TOp} {c : List Value} (h : TOpV I x c) (hI : Ext I I') : TOpV I' x c := by
  obtain ⟨v0, v1, rfl, h0, h1⟩ := h
  exact ⟨v0, v1, rfl, h0.mono hI, h1.mono hI⟩
theorem TOpV.len {I : Imm} {x : TOp} {c : List Value} (h : TOpV I x c) : c.length = 3 := by
  obtain ⟨v0, v1, rfl, h0, h1⟩ := h
  rfl
theorem TOpV.one {I : Imm} {x : TOp} {c : List Value} (h : TOpV I x c) : ∀ u ∈ c, u.oneCell' = true := by
  obtain ⟨v0, v1, rfl, h0, h1⟩ := h
  obtain ⟨_, _, rfl⟩ := Bytes.form h0
  obtain ⟨_, _, rfl⟩ := Bytes.form h1
  exact one_all rfl
theorem TOpV.zero (I : Imm) : TOpV I default [.bool false, .slice none 0 0, .slice none 0 0] := ⟨_, _, rfl, SlI.nil I 1 none 0, SlI.nil I 1 none 0⟩
def TOpB (rz : Nat) (x : TOp) : Prop := x.fKey.length ≤ rz ∧ x.fValue.length ≤ rz
theorem ceTOp : Try.prog.cellsOf 62 = 3 := by kernel_rfl
theorem byTOp : Try.prog.bytesOf 62 = 56 := by kernel_rfl
theorem TOp_open {rz : Nat} {W : World} {cs : List Value} (h : TrR rz Try.prog W 62 cs) : ∃ x, TOpB rz x ∧ TOpV (heapI W) x cs := by
  have hl := (tr_struct Try.underlying62 h).1
  rw [ceTOp] at hl
  obtain ⟨c0, c1, c2, rfl⟩ : ∃ c0 c1 c2, cs = [c0, c1, c2] := by
    match cs, hl with
    | [c0, c1, c2], _ => exact ⟨c0, c1, c2, rfl⟩
  obtain ⟨n0, e0⟩ := tr_bool Try.underlying4 (cs := [c0]) (tr_field 0 Try.underlying62 h rfl (n := 1) (by kernel_rfl))
  simp only [List.cons.injEq, and_true] at e0
  subst e0
  obtain ⟨n1, h1, w1⟩ := tr_bytes Try.underlying38 Try.underlying5 (by kernel_rfl) (by kernel_rfl) (v := c1) (tr_field 1 Try.underlying62 h rfl (n := 1) (by kernel_rfl))
  obtain ⟨n2, h2, w2⟩ := tr_bytes Try.underlying38 Try.underlying5 (by kernel_rfl) (by kernel_rfl) (v := c2) (tr_field 2 Try.underlying62 h rfl (n := 1) (by kernel_rfl))
  exact ⟨⟨n0, n1, n2⟩, ⟨w1, w2⟩, ⟨_, _, rfl, h1, h2⟩⟩

structure TRequest where
  fRange : Int
  fCmd : TCmd
  fTurn : Int
instance : Inhabited TRequest := ⟨⟨0, default, 0⟩⟩
def TRequestV (I : Imm) (x : TRequest) (c : List Value) : Prop := ∃ v0 v1 v2 v3, c = [.int .i64 x.fRange, .int .i64 x.fCmd.fKind, .int .i64 x.fCmd.fTxn, .int .i64 x.fCmd.fSeq, .int .i64 x.fCmd.fAt.fWall, .int .i64 x.fCmd.fAt.fLogic, .int .i64 x.fCmd.fTo.fWall, .int .i64 x.fCmd.fTo.fLogic, .int .i64 x.fCmd.fBy, .bool x.fCmd.fYes, .bool x.fCmd.fDel, v0, v1, v2, v3, .int .i64 x.fCmd.fMost, .int .i64 x.fTurn] ∧ Bytes I v0 x.fCmd.fKey ∧ Bytes I v1 x.fCmd.fValue ∧ Bytes I v2 x.fCmd.fSpan.fFrom ∧ Bytes I v3 x.fCmd.fSpan.fTo
theorem TRequestV.mono {I I' : Imm} {x : TRequest} {c : List Value} (h : TRequestV I x c) (hI : Ext I I') : TRequestV I' x c := by
  obtain ⟨v0, v1, v2, v3, rfl, h0, h1, h2, h3⟩ := h
  exact ⟨v0, v1, v2, v3, rfl, h0.mono hI, h1.mono hI, h2.mono hI, h3.mono hI⟩
theorem TRequestV.len {I : Imm} {x : TRequest} {c : List Value} (h : TRequestV I x c) : c.length = 17 := by
  obtain ⟨v0, v1, v2, v3, rfl, h0, h1, h2, h3⟩ := h
  rfl
theorem TRequestV.one {I : Imm} {x : TRequest} {c : List Value} (h : TRequestV I x c) : ∀ u ∈ c, u.oneCell' = true := by
  obtain ⟨v0, v1, v2, v3, rfl, h0, h1, h2, h3⟩ := h
  obtain ⟨_, _, rfl⟩ := Bytes.form h0
  obtain ⟨_, _, rfl⟩ := Bytes.form h1
  obtain ⟨_, _, rfl⟩ := Bytes.form h2
  obtain ⟨_, _, rfl⟩ := Bytes.form h3
  exact one_all rfl
theorem TRequestV.zero (I : Imm) : TRequestV I default [.int .i64 0, .int .i64 0, .int .i64 0, .int .i64 0, .int .i64 0, .int .i64 0, .int .i64 0, .int .i64 0, .int .i64 0, .bool false, .bool false, .slice none 0 0, .slice none 0 0, .slice none 0 0, .slice none 0 0, .int .i64 0, .int .i64 0] := ⟨_, _, _, _, rfl, SlI.nil I 1 none 0, SlI.nil I 1 none 0, SlI.nil I 1 none 0, SlI.nil I 1 none 0⟩
def TRequestB (rz : Nat) (x : TRequest) : Prop := inI64 x.fRange ∧ TCmdB rz x.fCmd ∧ inI64 x.fTurn
theorem ceTRequest : Try.prog.cellsOf 55 = 17 := by kernel_rfl
theorem byTRequest : Try.prog.bytesOf 55 = 192 := by kernel_rfl
theorem TRequest_open {rz : Nat} {W : World} {cs : List Value} (h : TrR rz Try.prog W 55 cs) : ∃ x, TRequestB rz x ∧ TRequestV (heapI W) x cs := by
  have hl := (tr_struct Try.underlying55 h).1
  rw [ceTRequest] at hl
  obtain ⟨c0, c1, c2, c3, c4, c5, c6, c7, c8, c9, c10, c11, c12, c13, c14, c15, c16, rfl⟩ : ∃ c0 c1 c2 c3 c4 c5 c6 c7 c8 c9 c10 c11 c12 c13 c14 c15 c16, cs = [c0, c1, c2, c3, c4, c5, c6, c7, c8, c9, c10, c11, c12, c13, c14, c15, c16] := by
    match cs, hl with
    | [c0, c1, c2, c3, c4, c5, c6, c7, c8, c9, c10, c11, c12, c13, c14, c15, c16], _ => exact ⟨c0, c1, c2, c3, c4, c5, c6, c7, c8, c9, c10, c11, c12, c13, c14, c15, c16, rfl⟩
  obtain ⟨n0, e0, w0⟩ := tr_int Try.underlying3 (cs := [c0]) (tr_field 0 Try.underlying55 h rfl (n := 1) (by kernel_rfl))
  simp only [List.cons.injEq, and_true] at e0
  subst e0
  obtain ⟨n1, w1, u1_0, u1_1, u1_2, u1_3, e1, h1_0, h1_1, h1_2, h1_3⟩ := TCmd_open (cs := [c1, c2, c3, c4, c5, c6, c7, c8, c9, c10, c11, c12, c13, c14, c15]) (tr_field 1 Try.underlying55 h rfl (n := 15) (by kernel_rfl))
  simp only [List.cons.injEq, and_true] at e1
  obtain ⟨rfl, rfl, rfl, rfl, rfl, rfl, rfl, rfl, rfl, rfl, rfl, rfl, rfl, rfl, rfl⟩ := e1
  obtain ⟨n2, e2, w2⟩ := tr_int Try.underlying3 (cs := [c16]) (tr_field 2 Try.underlying55 h rfl (n := 1) (by kernel_rfl))
  simp only [List.cons.injEq, and_true] at e2
  subst e2
  exact ⟨⟨n0, n1, n2⟩, ⟨wf_i64 w0, w1, wf_i64 w2⟩, ⟨_, _, _, _, rfl, h1_0, h1_1, h1_2, h1_3⟩⟩

structure TStep where
  fDo : Int
  fP : TSpan
  fOps : List TOp
  fR : TRes
  fC : TCmd
  fTurn : Int
instance : Inhabited TStep := ⟨⟨0, default, [], default, default, 0⟩⟩
def TStepV (I : Imm) (x : TStep) (c : List Value) : Prop := ∃ v0 v1 v2 v3 v4 v5 v6 v7 v8, c = [.int .i64 x.fDo, v0, v1, v2, .int .i64 x.fR.fCode, .bool x.fR.fGot.fFound, v3, .int .i64 x.fR.fGot.fAt.fWall, .int .i64 x.fR.fGot.fAt.fLogic, .int .i64 x.fR.fGot.fBy, v4, .int .i64 x.fR.fAt.fWall, .int .i64 x.fR.fAt.fLogic, .int .i64 x.fR.fBy, .int .i64 x.fR.fState, .int .i64 x.fC.fKind, .int .i64 x.fC.fTxn, .int .i64 x.fC.fSeq, .int .i64 x.fC.fAt.fWall, .int .i64 x.fC.fAt.fLogic, .int .i64 x.fC.fTo.fWall, .int .i64 x.fC.fTo.fLogic, .int .i64 x.fC.fBy, .bool x.fC.fYes, .bool x.fC.fDel, v5, v6, v7, v8, .int .i64 x.fC.fMost, .int .i64 x.fTurn] ∧ Bytes I v0 x.fP.fFrom ∧ Bytes I v1 x.fP.fTo ∧ RL TOpV 3 I [] v2 x.fOps ∧ Bytes I v3 x.fR.fGot.fValue ∧ RL TKVV 2 I [] v4 x.fR.fRows ∧ Bytes I v5 x.fC.fKey ∧ Bytes I v6 x.fC.fValue ∧ Bytes I v7 x.fC.fSpan.fFrom ∧ Bytes I v8 x.fC.fSpan.fTo
theorem TStepV.mono {I I' : Imm} {x : TStep} {c : List Value} (h : TStepV I x c) (hI : Ext I I') : TStepV I' x c := by
  obtain ⟨v0, v1, v2, v3, v4, v5, v6, v7, v8, rfl, h0, h1, h2, h3, h4, h5, h6, h7, h8⟩ := h
  exact ⟨v0, v1, v2, v3, v4, v5, v6, v7, v8, rfl, h0.mono hI, h1.mono hI, RL.mono (fun _ _ h => TOpV.mono h hI) h2 hI (fun _ h => by cases h), h3.mono hI, RL.mono (fun _ _ h => TKVV.mono h hI) h4 hI (fun _ h => by cases h), h5.mono hI, h6.mono hI, h7.mono hI, h8.mono hI⟩
theorem TStepV.len {I : Imm} {x : TStep} {c : List Value} (h : TStepV I x c) : c.length = 31 := by
  obtain ⟨v0, v1, v2, v3, v4, v5, v6, v7, v8, rfl, h0, h1, h2, h3, h4, h5, h6, h7, h8⟩ := h
  rfl
theorem TStepV.one {I : Imm} {x : TStep} {c : List Value} (h : TStepV I x c) : ∀ u ∈ c, u.oneCell' = true := by
  obtain ⟨v0, v1, v2, v3, v4, v5, v6, v7, v8, rfl, h0, h1, h2, h3, h4, h5, h6, h7, h8⟩ := h
  obtain ⟨_, _, rfl⟩ := Bytes.form h0
  obtain ⟨_, _, rfl⟩ := Bytes.form h1
  obtain ⟨_, _, rfl⟩ := RL.form h2
  obtain ⟨_, _, rfl⟩ := Bytes.form h3
  obtain ⟨_, _, rfl⟩ := RL.form h4
  obtain ⟨_, _, rfl⟩ := Bytes.form h5
  obtain ⟨_, _, rfl⟩ := Bytes.form h6
  obtain ⟨_, _, rfl⟩ := Bytes.form h7
  obtain ⟨_, _, rfl⟩ := Bytes.form h8
  exact one_all rfl
theorem TStepV.zero (I : Imm) : TStepV I default [.int .i64 0, .slice none 0 0, .slice none 0 0, .slice none 0 0, .int .i64 0, .bool false, .slice none 0 0, .int .i64 0, .int .i64 0, .int .i64 0, .slice none 0 0, .int .i64 0, .int .i64 0, .int .i64 0, .int .i64 0, .int .i64 0, .int .i64 0, .int .i64 0, .int .i64 0, .int .i64 0, .int .i64 0, .int .i64 0, .int .i64 0, .bool false, .bool false, .slice none 0 0, .slice none 0 0, .slice none 0 0, .slice none 0 0, .int .i64 0, .int .i64 0] := ⟨_, _, _, _, _, _, _, _, _, rfl, SlI.nil I 1 none 0, SlI.nil I 1 none 0, RL.nil none 0, SlI.nil I 1 none 0, RL.nil none 0, SlI.nil I 1 none 0, SlI.nil I 1 none 0, SlI.nil I 1 none 0, SlI.nil I 1 none 0⟩
def TStepB (rz : Nat) (x : TStep) : Prop := inI64 x.fDo ∧ TSpanB rz x.fP ∧ x.fOps.length * 56 ≤ rz ∧ (∀ y ∈ x.fOps, TOpB rz y) ∧ TResB rz x.fR ∧ TCmdB rz x.fC ∧ inI64 x.fTurn
theorem ceTStep : Try.prog.cellsOf 50 = 31 := by kernel_rfl
theorem byTStep : Try.prog.bytesOf 50 = 384 := by kernel_rfl
theorem TStep_open {rz : Nat} {W : World} {cs : List Value} (h : TrR rz Try.prog W 50 cs) : ∃ x, TStepB rz x ∧ TStepV (heapI W) x cs := by
  have hl := (tr_struct Try.underlying50 h).1
  rw [ceTStep] at hl
  obtain ⟨c0, c1, c2, c3, c4, c5, c6, c7, c8, c9, c10, c11, c12, c13, c14, c15, c16, c17, c18, c19, c20, c21, c22, c23, c24, c25, c26, c27, c28, c29, c30, rfl⟩ : ∃ c0 c1 c2 c3 c4 c5 c6 c7 c8 c9 c10 c11 c12 c13 c14 c15 c16 c17 c18 c19 c20 c21 c22 c23 c24 c25 c26 c27 c28 c29 c30, cs = [c0, c1, c2, c3, c4, c5, c6, c7, c8, c9, c10, c11, c12, c13, c14, c15, c16, c17, c18, c19, c20, c21, c22, c23, c24, c25, c26, c27, c28, c29, c30] := by
    match cs, hl with
    | [c0, c1, c2, c3, c4, c5, c6, c7, c8, c9, c10, c11, c12, c13, c14, c15, c16, c17, c18, c19, c20, c21, c22, c23, c24, c25, c26, c27, c28, c29, c30], _ => exact ⟨c0, c1, c2, c3, c4, c5, c6, c7, c8, c9, c10, c11, c12, c13, c14, c15, c16, c17, c18, c19, c20, c21, c22, c23, c24, c25, c26, c27, c28, c29, c30, rfl⟩
  obtain ⟨n0, e0, w0⟩ := tr_int Try.underlying3 (cs := [c0]) (tr_field 0 Try.underlying50 h rfl (n := 1) (by kernel_rfl))
  simp only [List.cons.injEq, and_true] at e0
  subst e0
  obtain ⟨n1, w1, u1_0, u1_1, e1, h1_0, h1_1⟩ := TSpan_open (cs := [c1, c2]) (tr_field 1 Try.underlying50 h rfl (n := 2) (by kernel_rfl))
  simp only [List.cons.injEq, and_true] at e1
  obtain ⟨rfl, rfl⟩ := e1
  obtain ⟨n2, w2, w2', h2⟩ := tr_list (B := TOpB rz) Try.underlying41 ceTOp (by decide) byTOp (v := c3) (tr_field 2 Try.underlying50 h rfl (n := 1) (by kernel_rfl)) (fun c hc => TOp_open hc)
  obtain ⟨n3, w3, u3_0, u3_1, e3, h3_0, h3_1⟩ := TRes_open (cs := [c4, c5, c6, c7, c8, c9, c10, c11, c12, c13, c14]) (tr_field 3 Try.underlying50 h rfl (n := 11) (by kernel_rfl))
  simp only [List.cons.injEq, and_true] at e3
  obtain ⟨rfl, rfl, rfl, rfl, rfl, rfl, rfl, rfl, rfl, rfl, rfl⟩ := e3
  obtain ⟨n4, w4, u4_0, u4_1, u4_2, u4_3, e4, h4_0, h4_1, h4_2, h4_3⟩ := TCmd_open (cs := [c15, c16, c17, c18, c19, c20, c21, c22, c23, c24, c25, c26, c27, c28, c29]) (tr_field 4 Try.underlying50 h rfl (n := 15) (by kernel_rfl))
  simp only [List.cons.injEq, and_true] at e4
  obtain ⟨rfl, rfl, rfl, rfl, rfl, rfl, rfl, rfl, rfl, rfl, rfl, rfl, rfl, rfl, rfl⟩ := e4
  obtain ⟨n5, e5, w5⟩ := tr_int Try.underlying3 (cs := [c30]) (tr_field 5 Try.underlying50 h rfl (n := 1) (by kernel_rfl))
  simp only [List.cons.injEq, and_true] at e5
  subst e5
  exact ⟨⟨n0, n1, n2, n3, n4, n5⟩, ⟨wf_i64 w0, w1, w2, w2', w3, w4, wf_i64 w5⟩, ⟨_, _, _, _, _, _, _, _, _, rfl, h1_0, h1_1, h2, h3_0, h3_1, h4_0, h4_1, h4_2, h4_3⟩⟩

structure Tblocker where
  fTxn : Int
  fWhere : TSpan
  fTold : Int
  fEnded : Int
  fAt : TStamp
instance : Inhabited Tblocker := ⟨⟨0, default, 0, 0, default⟩⟩
def TblockerV (I : Imm) (x : Tblocker) (c : List Value) : Prop := ∃ v0 v1, c = [.int .i64 x.fTxn, v0, v1, .int .i64 x.fTold, .int .i64 x.fEnded, .int .i64 x.fAt.fWall, .int .i64 x.fAt.fLogic] ∧ Bytes I v0 x.fWhere.fFrom ∧ Bytes I v1 x.fWhere.fTo
theorem TblockerV.mono {I I' : Imm} {x : Tblocker} {c : List Value} (h : TblockerV I x c) (hI : Ext I I') : TblockerV I' x c := by
  obtain ⟨v0, v1, rfl, h0, h1⟩ := h
  exact ⟨v0, v1, rfl, h0.mono hI, h1.mono hI⟩
theorem TblockerV.len {I : Imm} {x : Tblocker} {c : List Value} (h : TblockerV I x c) : c.length = 7 := by
  obtain ⟨v0, v1, rfl, h0, h1⟩ := h
  rfl
theorem TblockerV.one {I : Imm} {x : Tblocker} {c : List Value} (h : TblockerV I x c) : ∀ u ∈ c, u.oneCell' = true := by
  obtain ⟨v0, v1, rfl, h0, h1⟩ := h
  obtain ⟨_, _, rfl⟩ := Bytes.form h0
  obtain ⟨_, _, rfl⟩ := Bytes.form h1
  exact one_all rfl
theorem TblockerV.zero (I : Imm) : TblockerV I default [.int .i64 0, .slice none 0 0, .slice none 0 0, .int .i64 0, .int .i64 0, .int .i64 0, .int .i64 0] := ⟨_, _, rfl, SlI.nil I 1 none 0, SlI.nil I 1 none 0⟩
def TblockerB (rz : Nat) (x : Tblocker) : Prop := inI64 x.fTxn ∧ TSpanB rz x.fWhere ∧ inI64 x.fTold ∧ inI64 x.fEnded ∧ TStampB rz x.fAt
theorem ceTblocker : Try.prog.cellsOf 67 = 7 := by kernel_rfl
theorem byTblocker : Try.prog.bytesOf 67 = 88 := by kernel_rfl
theorem Tblocker_open {rz : Nat} {W : World} {cs : List Value} (h : TrR rz Try.prog W 67 cs) : ∃ x, TblockerB rz x ∧ TblockerV (heapI W) x cs := by
  have hl := (tr_struct Try.underlying67 h).1
  rw [ceTblocker] at hl
  obtain ⟨c0, c1, c2, c3, c4, c5, c6, rfl⟩ : ∃ c0 c1 c2 c3 c4 c5 c6, cs = [c0, c1, c2, c3, c4, c5, c6] := by
    match cs, hl with
    | [c0, c1, c2, c3, c4, c5, c6], _ => exact ⟨c0, c1, c2, c3, c4, c5, c6, rfl⟩
  obtain ⟨n0, e0, w0⟩ := tr_int Try.underlying3 (cs := [c0]) (tr_field 0 Try.underlying67 h rfl (n := 1) (by kernel_rfl))
  simp only [List.cons.injEq, and_true] at e0
  subst e0
  obtain ⟨n1, w1, u1_0, u1_1, e1, h1_0, h1_1⟩ := TSpan_open (cs := [c1, c2]) (tr_field 1 Try.underlying67 h rfl (n := 2) (by kernel_rfl))
  simp only [List.cons.injEq, and_true] at e1
  obtain ⟨rfl, rfl⟩ := e1
  obtain ⟨n2, e2, w2⟩ := tr_int Try.underlying3 (cs := [c3]) (tr_field 2 Try.underlying67 h rfl (n := 1) (by kernel_rfl))
  simp only [List.cons.injEq, and_true] at e2
  subst e2
  obtain ⟨n3, e3, w3⟩ := tr_int Try.underlying3 (cs := [c4]) (tr_field 3 Try.underlying67 h rfl (n := 1) (by kernel_rfl))
  simp only [List.cons.injEq, and_true] at e3
  subst e3
  obtain ⟨n4, w4, e4⟩ := TStamp_open (cs := [c5, c6]) (tr_field 4 Try.underlying67 h rfl (n := 2) (by kernel_rfl))
  simp only [TStampV, List.cons.injEq, and_true] at e4
  obtain ⟨rfl, rfl⟩ := e4
  exact ⟨⟨n0, n1, n2, n3, n4⟩, ⟨wf_i64 w0, w1, wf_i64 w2, wf_i64 w3, w4⟩, ⟨_, _, rfl, h1_0, h1_1⟩⟩

structure TTxn where
  fId : Int
  fPatience : Int
  fStart : TStamp
  fAt : TStamp
  fEnd : TStamp
  fSeq : Int
  fTurn : Int
  fBegun : Bool
  fRead : List TSpan
  fWritten : List (List UInt8)
  fState : Int
  fStage : Int
  fSpan : TSpan
  fSpans : List TSpan
  fOps : List TOp
  fKeys : List (List UInt8)
  fGot : List TKV
  fRows : List TKV
  fBlocked : Tblocker
instance : Inhabited TTxn := ⟨⟨0, 0, default, default, default, 0, 0, false, [], [], 0, 0, default, [], [], [], [], [], default⟩⟩
def TTxnV (I : Imm) (x : TTxn) (c : List Value) : Prop := ∃ v0 v1 v2 v3 v4 v5 v6 v7 v8 v9 v10, c = [.int .i64 x.fId, .int .i64 x.fPatience, .int .i64 x.fStart.fWall, .int .i64 x.fStart.fLogic, .int .i64 x.fAt.fWall, .int .i64 x.fAt.fLogic, .int .i64 x.fEnd.fWall, .int .i64 x.fEnd.fLogic, .int .i64 x.fSeq, .int .i64 x.fTurn, .bool x.fBegun, v0, v1, .int .i64 x.fState, .int .i64 x.fStage, v2, v3, v4, v5, v6, v7, v8, .int .i64 x.fBlocked.fTxn, v9, v10, .int .i64 x.fBlocked.fTold, .int .i64 x.fBlocked.fEnded, .int .i64 x.fBlocked.fAt.fWall, .int .i64 x.fBlocked.fAt.fLogic] ∧ RL TSpanV 2 I [] v0 x.fRead ∧ RL BysV 1 I [] v1 x.fWritten ∧ Bytes I v2 x.fSpan.fFrom ∧ Bytes I v3 x.fSpan.fTo ∧ RL TSpanV 2 I [] v4 x.fSpans ∧ RL TOpV 3 I [] v5 x.fOps ∧ RL BysV 1 I [] v6 x.fKeys ∧ RL TKVV 2 I [] v7 x.fGot ∧ RL TKVV 2 I [] v8 x.fRows ∧ Bytes I v9 x.fBlocked.fWhere.fFrom ∧ Bytes I v10 x.fBlocked.fWhere.fTo
theorem TTxnV.mono {I I' : Imm} {x : TTxn} {c : List Value} (h : TTxnV I x c) (hI : Ext I I') : TTxnV I' x c := by
  obtain ⟨v0, v1, v2, v3, v4, v5, v6, v7, v8, v9, v10, rfl, h0, h1, h2, h3, h4, h5, h6, h7, h8, h9, h10⟩ := h
  exact ⟨v0, v1, v2, v3, v4, v5, v6, v7, v8, v9, v10, rfl, RL.mono (fun _ _ h => TSpanV.mono h hI) h0 hI (fun _ h => by cases h), RL.mono (fun _ _ h => BysV.mono h hI) h1 hI (fun _ h => by cases h), h2.mono hI, h3.mono hI, RL.mono (fun _ _ h => TSpanV.mono h hI) h4 hI (fun _ h => by cases h), RL.mono (fun _ _ h => TOpV.mono h hI) h5 hI (fun _ h => by cases h), RL.mono (fun _ _ h => BysV.mono h hI) h6 hI (fun _ h => by cases h), RL.mono (fun _ _ h => TKVV.mono h hI) h7 hI (fun _ h => by cases h), RL.mono (fun _ _ h => TKVV.mono h hI) h8 hI (fun _ h => by cases h), h9.mono hI, h10.mono hI⟩
theorem TTxnV.len {I : Imm} {x : TTxn} {c : List Value} (h : TTxnV I x c) : c.length = 29 := by
  obtain ⟨v0, v1, v2, v3, v4, v5, v6, v7, v8, v9, v10, rfl, h0, h1, h2, h3, h4, h5, h6, h7, h8, h9, h10⟩ := h
  rfl
theorem TTxnV.one {I : Imm} {x : TTxn} {c : List Value} (h : TTxnV I x c) : ∀ u ∈ c, u.oneCell' = true := by
  obtain ⟨v0, v1, v2, v3, v4, v5, v6, v7, v8, v9, v10, rfl, h0, h1, h2, h3, h4, h5, h6, h7, h8, h9, h10⟩ := h
  obtain ⟨_, _, rfl⟩ := RL.form h0
  obtain ⟨_, _, rfl⟩ := RL.form h1
  obtain ⟨_, _, rfl⟩ := Bytes.form h2
  obtain ⟨_, _, rfl⟩ := Bytes.form h3
  obtain ⟨_, _, rfl⟩ := RL.form h4
  obtain ⟨_, _, rfl⟩ := RL.form h5
  obtain ⟨_, _, rfl⟩ := RL.form h6
  obtain ⟨_, _, rfl⟩ := RL.form h7
  obtain ⟨_, _, rfl⟩ := RL.form h8
  obtain ⟨_, _, rfl⟩ := Bytes.form h9
  obtain ⟨_, _, rfl⟩ := Bytes.form h10
  exact one_all rfl
theorem TTxnV.zero (I : Imm) : TTxnV I default [.int .i64 0, .int .i64 0, .int .i64 0, .int .i64 0, .int .i64 0, .int .i64 0, .int .i64 0, .int .i64 0, .int .i64 0, .int .i64 0, .bool false, .slice none 0 0, .slice none 0 0, .int .i64 0, .int .i64 0, .slice none 0 0, .slice none 0 0, .slice none 0 0, .slice none 0 0, .slice none 0 0, .slice none 0 0, .slice none 0 0, .int .i64 0, .slice none 0 0, .slice none 0 0, .int .i64 0, .int .i64 0, .int .i64 0, .int .i64 0] := ⟨_, _, _, _, _, _, _, _, _, _, _, rfl, RL.nil none 0, RL.nil none 0, SlI.nil I 1 none 0, SlI.nil I 1 none 0, RL.nil none 0, RL.nil none 0, RL.nil none 0, RL.nil none 0, RL.nil none 0, SlI.nil I 1 none 0, SlI.nil I 1 none 0⟩
def TTxnB (rz : Nat) (x : TTxn) : Prop := inI64 x.fId ∧ inI64 x.fPatience ∧ TStampB rz x.fStart ∧ TStampB rz x.fAt ∧ TStampB rz x.fEnd ∧ inI64 x.fSeq ∧ inI64 x.fTurn ∧ x.fRead.length * 48 ≤ rz ∧ (∀ y ∈ x.fRead, TSpanB rz y) ∧ x.fWritten.length * 24 ≤ rz ∧ (∀ y ∈ x.fWritten, y.length ≤ rz) ∧ inI64 x.fState ∧ inI64 x.fStage ∧ TSpanB rz x.fSpan ∧ x.fSpans.length * 48 ≤ rz ∧ (∀ y ∈ x.fSpans, TSpanB rz y) ∧ x.fOps.length * 56 ≤ rz ∧ (∀ y ∈ x.fOps, TOpB rz y) ∧ x.fKeys.length * 24 ≤ rz ∧ (∀ y ∈ x.fKeys, y.length ≤ rz) ∧ x.fGot.length * 48 ≤ rz ∧ (∀ y ∈ x.fGot, TKVB rz y) ∧ x.fRows.length * 48 ≤ rz ∧ (∀ y ∈ x.fRows, TKVB rz y) ∧ TblockerB rz x.fBlocked
theorem ceTTxn : Try.prog.cellsOf 69 = 29 := by kernel_rfl
theorem byTTxn : Try.prog.bytesOf 69 = 408 := by kernel_rfl
theorem TTxn_open {rz : Nat} {W : World} {cs : List Value} (h : TrR rz Try.prog W 69 cs) : ∃ x, TTxnB rz x ∧ TTxnV (heapI W) x cs := by
  have hl := (tr_struct Try.underlying69 h).1
  rw [ceTTxn] at hl
  obtain ⟨c0, c1, c2, c3, c4, c5, c6, c7, c8, c9, c10, c11, c12, c13, c14, c15, c16, c17, c18, c19, c20, c21, c22, c23, c24, c25, c26, c27, c28, rfl⟩ : ∃ c0 c1 c2 c3 c4 c5 c6 c7 c8 c9 c10 c11 c12 c13 c14 c15 c16 c17 c18 c19 c20 c21 c22 c23 c24 c25 c26 c27 c28, cs = [c0, c1, c2, c3, c4, c5, c6, c7, c8, c9, c10, c11, c12, c13, c14, c15, c16, c17, c18, c19, c20, c21, c22, c23, c24, c25, c26, c27, c28] := by
    match cs, hl with
    | [c0, c1, c2, c3, c4, c5, c6, c7, c8, c9, c10, c11, c12, c13, c14, c15, c16, c17, c18, c19, c20, c21, c22, c23, c24, c25, c26, c27, c28], _ => exact ⟨c0, c1, c2, c3, c4, c5, c6, c7, c8, c9, c10, c11, c12, c13, c14, c15, c16, c17, c18, c19, c20, c21, c22, c23, c24, c25, c26, c27, c28, rfl⟩
  obtain ⟨n0, e0, w0⟩ := tr_int Try.underlying3 (cs := [c0]) (tr_field 0 Try.underlying69 h rfl (n := 1) (by kernel_rfl))
  simp only [List.cons.injEq, and_true] at e0
  subst e0
  obtain ⟨n1, e1, w1⟩ := tr_int Try.underlying3 (cs := [c1]) (tr_field 1 Try.underlying69 h rfl (n := 1) (by kernel_rfl))
  simp only [List.cons.injEq, and_true] at e1
  subst e1
  obtain ⟨n2, w2, e2⟩ := TStamp_open (cs := [c2, c3]) (tr_field 2 Try.underlying69 h rfl (n := 2) (by kernel_rfl))
  simp only [TStampV, List.cons.injEq, and_true] at e2
  obtain ⟨rfl, rfl⟩ := e2
  obtain ⟨n3, w3, e3⟩ := TStamp_open (cs := [c4, c5]) (tr_field 3 Try.underlying69 h rfl (n := 2) (by kernel_rfl))
  simp only [TStampV, List.cons.injEq, and_true] at e3
  obtain ⟨rfl, rfl⟩ := e3
  obtain ⟨n4, w4, e4⟩ := TStamp_open (cs := [c6, c7]) (tr_field 4 Try.underlying69 h rfl (n := 2) (by kernel_rfl))
  simp only [TStampV, List.cons.injEq, and_true] at e4
  obtain ⟨rfl, rfl⟩ := e4
  obtain ⟨n5, e5, w5⟩ := tr_int Try.underlying3 (cs := [c8]) (tr_field 5 Try.underlying69 h rfl (n := 1) (by kernel_rfl))
  simp only [List.cons.injEq, and_true] at e5
  subst e5
  obtain ⟨n6, e6, w6⟩ := tr_int Try.underlying3 (cs := [c9]) (tr_field 6 Try.underlying69 h rfl (n := 1) (by kernel_rfl))
  simp only [List.cons.injEq, and_true] at e6
  subst e6
  obtain ⟨n7, e7⟩ := tr_bool Try.underlying4 (cs := [c10]) (tr_field 7 Try.underlying69 h rfl (n := 1) (by kernel_rfl))
  simp only [List.cons.injEq, and_true] at e7
  subst e7
  obtain ⟨n8, w8, w8', h8⟩ := tr_list (B := TSpanB rz) Try.underlying64 ceTSpan (by decide) byTSpan (v := c11) (tr_field 8 Try.underlying69 h rfl (n := 1) (by kernel_rfl)) (fun c hc => TSpan_open hc)
  obtain ⟨n9, w9, w9', h9⟩ := tr_list (V := BysV) (n := 1) (bt := 24) (B := fun y => y.length ≤ rz) Try.underlying65 (by kernel_rfl) (by decide) (by kernel_rfl) (v := c12) (tr_field 9 Try.underlying69 h rfl (n := 1) (by kernel_rfl)) (fun c hc => bys_open Try.underlying38 Try.underlying5 (by kernel_rfl) (by kernel_rfl) (by kernel_rfl) hc)
  obtain ⟨n10, e10, w10⟩ := tr_int Try.underlying3 (cs := [c13]) (tr_field 10 Try.underlying69 h rfl (n := 1) (by kernel_rfl))
  simp only [List.cons.injEq, and_true] at e10
  subst e10
  obtain ⟨n11, e11, w11⟩ := tr_int Try.underlying3 (cs := [c14]) (tr_field 11 Try.underlying69 h rfl (n := 1) (by kernel_rfl))
  simp only [List.cons.injEq, and_true] at e11
  subst e11
  obtain ⟨n12, w12, u12_0, u12_1, e12, h12_0, h12_1⟩ := TSpan_open (cs := [c15, c16]) (tr_field 12 Try.underlying69 h rfl (n := 2) (by kernel_rfl))
  simp only [List.cons.injEq, and_true] at e12
  obtain ⟨rfl, rfl⟩ := e12
  obtain ⟨n13, w13, w13', h13⟩ := tr_list (B := TSpanB rz) Try.underlying64 ceTSpan (by decide) byTSpan (v := c17) (tr_field 13 Try.underlying69 h rfl (n := 1) (by kernel_rfl)) (fun c hc => TSpan_open hc)
  obtain ⟨n14, w14, w14', h14⟩ := tr_list (B := TOpB rz) Try.underlying41 ceTOp (by decide) byTOp (v := c18) (tr_field 14 Try.underlying69 h rfl (n := 1) (by kernel_rfl)) (fun c hc => TOp_open hc)
  obtain ⟨n15, w15, w15', h15⟩ := tr_list (V := BysV) (n := 1) (bt := 24) (B := fun y => y.length ≤ rz) Try.underlying65 (by kernel_rfl) (by decide) (by kernel_rfl) (v := c19) (tr_field 15 Try.underlying69 h rfl (n := 1) (by kernel_rfl)) (fun c hc => bys_open Try.underlying38 Try.underlying5 (by kernel_rfl) (by kernel_rfl) (by kernel_rfl) hc)
  obtain ⟨n16, w16, w16', h16⟩ := tr_list (B := TKVB rz) Try.underlying44 ceTKV (by decide) byTKV (v := c20) (tr_field 16 Try.underlying69 h rfl (n := 1) (by kernel_rfl)) (fun c hc => TKV_open hc)
  obtain ⟨n17, w17, w17', h17⟩ := tr_list (B := TKVB rz) Try.underlying44 ceTKV (by decide) byTKV (v := c21) (tr_field 17 Try.underlying69 h rfl (n := 1) (by kernel_rfl)) (fun c hc => TKV_open hc)
  obtain ⟨n18, w18, u18_0, u18_1, e18, h18_0, h18_1⟩ := Tblocker_open (cs := [c22, c23, c24, c25, c26, c27, c28]) (tr_field 18 Try.underlying69 h rfl (n := 7) (by kernel_rfl))
  simp only [List.cons.injEq, and_true] at e18
  obtain ⟨rfl, rfl, rfl, rfl, rfl, rfl, rfl⟩ := e18
  exact ⟨⟨n0, n1, n2, n3, n4, n5, n6, n7, n8, n9, n10, n11, n12, n13, n14, n15, n16, n17, n18⟩, ⟨wf_i64 w0, wf_i64 w1, w2, w3, w4, wf_i64 w5, wf_i64 w6, w8, w8', w9, w9', wf_i64 w10, wf_i64 w11, w12, w13, w13', w14, w14', w15, w15', w16, w16', w17, w17', w18⟩, ⟨_, _, _, _, _, _, _, _, _, _, _, rfl, h8, h9, h12_0, h12_1, h13, h14, h15, h16, h17, h18_0, h18_1⟩⟩

end Go.Proofs.Ytlalbollbdlfhaa
