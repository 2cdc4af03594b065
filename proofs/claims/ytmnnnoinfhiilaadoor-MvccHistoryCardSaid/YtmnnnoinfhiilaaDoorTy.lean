/-
  Values of struct types: printed by a program (gotypes.py).
-/
import Derived.Test.YtmnnnoinfhiilaaDoorSh
import Derived.Test.YtmnnnoinfhiilaaDoorSlEnc
set_option linter.unusedSimpArgs false
set_option linter.unusedVariables false
namespace Go.Proofs.YtmnnnoinfhiilaaDoor
open Go.SL
set_option maxRecDepth 10000
structure TStamp where
  fWall : Int
  fLogic : Int
instance : Inhabited TStamp := ⟨⟨0, 0⟩⟩
def TStampV (I : Imm) (x : TStamp) (c : List Value) : Prop := c = [.int .i64 x.fWall, .int .i64 x.fLogic]
theorem TStampV.mono {I I' : Imm} {x : TStamp} {c : List Value} (h : TStampV I x c) (hI : Ext I I') : TStampV I' x c := by
  obtain rfl := h
  exact rfl
theorem TStampV.len {I : Imm} {x : TStamp} {c : List Value} (h : TStampV I x c) : c.length = 2 := by
  obtain rfl := h
  rfl
theorem TStampV.one {I : Imm} {x : TStamp} {c : List Value} (h : TStampV I x c) : ∀ u ∈ c, u.oneCell' = true := by
  obtain rfl := h
  exact one_all rfl
theorem TStampV.zero (I : Imm) : TStampV I default [.int .i64 0, .int .i64 0] := rfl
structure TSpan where
  fFrom : List UInt8
  fTo : List UInt8
instance : Inhabited TSpan := ⟨⟨[], []⟩⟩
def TSpanV (I : Imm) (x : TSpan) (c : List Value) : Prop := ∃ v0 v1, c = [v0, v1] ∧ Bytes I v0 x.fFrom ∧ Bytes I v1 x.fTo
theorem TSpanV.mono {I I' : Imm} {x : TSpan} {c : List Value} (h : TSpanV I x c) (hI : Ext I I') : TSpanV I' x c := by
  obtain ⟨v0, v1, rfl, h0, h1⟩ := h
  exact ⟨v0, v1, rfl, h0.mono hI, h1.mono hI⟩
theorem TSpanV.len {I : Imm} {x : TSpan} {c : List Value} (h : TSpanV I x c) : c.length = 2 := by
  obtain ⟨v0, v1, rfl, h0, h1⟩ := h
  rfl
theorem TSpanV.one {I : Imm} {x : TSpan} {c : List Value} (h : TSpanV I x c) : ∀ u ∈ c, u.oneCell' = true := by
  obtain ⟨v0, v1, rfl, h0, h1⟩ := h
  obtain ⟨_, _, rfl⟩ := Bytes.form h0
  obtain ⟨_, _, rfl⟩ := Bytes.form h1
  exact one_all rfl
theorem TSpanV.zero (I : Imm) : TSpanV I default [.slice none 0 0, .slice none 0 0] := ⟨_, _, rfl, SlI.nil I 1 none 0, SlI.nil I 1 none 0⟩
structure TGot where
  fFound : Bool
  fValue : List UInt8
  fAt : TStamp
  fBy : Int
instance : Inhabited TGot := ⟨⟨false, [], default, 0⟩⟩
def TGotV (I : Imm) (x : TGot) (c : List Value) : Prop := ∃ v0, c = [.bool x.fFound, v0, .int .i64 x.fAt.fWall, .int .i64 x.fAt.fLogic, .int .i64 x.fBy] ∧ Bytes I v0 x.fValue
theorem TGotV.mono {I I' : Imm} {x : TGot} {c : List Value} (h : TGotV I x c) (hI : Ext I I') : TGotV I' x c := by
  obtain ⟨v0, rfl, h0⟩ := h
  exact ⟨v0, rfl, h0.mono hI⟩
theorem TGotV.len {I : Imm} {x : TGot} {c : List Value} (h : TGotV I x c) : c.length = 5 := by
  obtain ⟨v0, rfl, h0⟩ := h
  rfl
theorem TGotV.one {I : Imm} {x : TGot} {c : List Value} (h : TGotV I x c) : ∀ u ∈ c, u.oneCell' = true := by
  obtain ⟨v0, rfl, h0⟩ := h
  obtain ⟨_, _, rfl⟩ := Bytes.form h0
  exact one_all rfl
theorem TGotV.zero (I : Imm) : TGotV I default [.bool false, .slice none 0 0, .int .i64 0, .int .i64 0, .int .i64 0] := ⟨_, rfl, SlI.nil I 1 none 0⟩
structure TKV where
  fKey : List UInt8
  fValue : List UInt8
instance : Inhabited TKV := ⟨⟨[], []⟩⟩
def TKVV (I : Imm) (x : TKV) (c : List Value) : Prop := ∃ v0 v1, c = [v0, v1] ∧ Bytes I v0 x.fKey ∧ Bytes I v1 x.fValue
theorem TKVV.mono {I I' : Imm} {x : TKV} {c : List Value} (h : TKVV I x c) (hI : Ext I I') : TKVV I' x c := by
  obtain ⟨v0, v1, rfl, h0, h1⟩ := h
  exact ⟨v0, v1, rfl, h0.mono hI, h1.mono hI⟩
theorem TKVV.len {I : Imm} {x : TKV} {c : List Value} (h : TKVV I x c) : c.length = 2 := by
  obtain ⟨v0, v1, rfl, h0, h1⟩ := h
  rfl
theorem TKVV.one {I : Imm} {x : TKV} {c : List Value} (h : TKVV I x c) : ∀ u ∈ c, u.oneCell' = true := by
  obtain ⟨v0, v1, rfl, h0, h1⟩ := h
  obtain ⟨_, _, rfl⟩ := Bytes.form h0
  obtain ⟨_, _, rfl⟩ := Bytes.form h1
  exact one_all rfl
theorem TKVV.zero (I : Imm) : TKVV I default [.slice none 0 0, .slice none 0 0] := ⟨_, _, rfl, SlI.nil I 1 none 0, SlI.nil I 1 none 0⟩
structure TOp where
  fDel : Bool
  fKey : List UInt8
  fValue : List UInt8
instance : Inhabited TOp := ⟨⟨false, [], []⟩⟩
def TOpV (I : Imm) (x : TOp) (c : List Value) : Prop := ∃ v0 v1, c = [.bool x.fDel, v0, v1] ∧ Bytes I v0 x.fKey ∧ Bytes I v1 x.fValue
theorem TOpV.mono {I I' : Imm} {x : TOp} {c : List Value} (h : TOpV I x c) (hI : Ext I I') : TOpV I' x c := by
  obtain ⟨v0, v1, rfl, h0, h1⟩ := h
  exact ⟨v0, v1, rfl, h0.mono hI, h1.mono hI⟩
theorem TOpV.len {I : Imm} {x : TOp} {c : List Value} (h : TOpV I x c) : c.length = 3 := by
  obtain ⟨v0, v1, rfl, h0, h1⟩ := h
  rfl
theorem TOpV.one {I : Imm} {x : TOp} {c : List Value} (h : TOpV I x c) : ∀ u ∈ c, u.oneCell' = true := by
  obtain ⟨v0, v1, rfl, h0, h1⟩ := h
  obtain ⟨_, _, rfl⟩ := Bytes.form h0
  obtain ⟨_, _, rfl⟩ := Bytes.form h1
  exact one_all rfl
theorem TOpV.zero (I : Imm) : TOpV I default [.bool false, .slice none 0 0, .slice none 0 0] := ⟨_, _, rfl, SlI.nil I 1 none 0, SlI.nil I 1 none 0⟩
def TOpB (rz : Nat) (x : TOp) : Prop := x.fKey.length ≤ rz ∧ x.fValue.length ≤ rz
theorem ceTOp : Tryd.prog.cellsOf 31 = 3 := by kernel_rfl
theorem byTOp : Tryd.prog.bytesOf 31 = 56 := by kernel_rfl
theorem TOp_open {rz : Nat} {W : World} {cs : List Value} (h : TrR rz Tryd.prog W 31 cs) : ∃ x, TOpB rz x ∧ TOpV (heapI W) x cs := by
  have hl := (tr_struct Tryd.underlying31 h).1
  rw [ceTOp] at hl
  obtain ⟨c0, c1, c2, rfl⟩ : ∃ c0 c1 c2, cs = [c0, c1, c2] := by
    match cs, hl with
    | [c0, c1, c2], _ => exact ⟨c0, c1, c2, rfl⟩
  obtain ⟨n0, e0⟩ := tr_bool Tryd.underlying4 (cs := [c0]) (tr_field 0 Tryd.underlying31 h rfl (n := 1) (by kernel_rfl))
  simp only [List.cons.injEq, and_true] at e0
  subst e0
  obtain ⟨n1, h1, w1⟩ := tr_bytes Tryd.underlying29 Tryd.underlying5 (by kernel_rfl) (by kernel_rfl) (v := c1) (tr_field 1 Tryd.underlying31 h rfl (n := 1) (by kernel_rfl))
  obtain ⟨n2, h2, w2⟩ := tr_bytes Tryd.underlying29 Tryd.underlying5 (by kernel_rfl) (by kernel_rfl) (v := c2) (tr_field 2 Tryd.underlying31 h rfl (n := 1) (by kernel_rfl))
  exact ⟨⟨n0, n1, n2⟩, ⟨w1, w2⟩, ⟨_, _, rfl, h1, h2⟩⟩
structure TIntent where
  fKey : List UInt8
  fTxn : Int
  fAt : TStamp
  fDel : Bool
  fValue : List UInt8
instance : Inhabited TIntent := ⟨⟨[], 0, default, false, []⟩⟩
def TIntentV (I : Imm) (x : TIntent) (c : List Value) : Prop := ∃ v0 v1, c = [v0, .int .i64 x.fTxn, .int .i64 x.fAt.fWall, .int .i64 x.fAt.fLogic, .bool x.fDel, v1] ∧ Bytes I v0 x.fKey ∧ Bytes I v1 x.fValue
theorem TIntentV.mono {I I' : Imm} {x : TIntent} {c : List Value} (h : TIntentV I x c) (hI : Ext I I') : TIntentV I' x c := by
  obtain ⟨v0, v1, rfl, h0, h1⟩ := h
  exact ⟨v0, v1, rfl, h0.mono hI, h1.mono hI⟩
theorem TIntentV.len {I : Imm} {x : TIntent} {c : List Value} (h : TIntentV I x c) : c.length = 6 := by
  obtain ⟨v0, v1, rfl, h0, h1⟩ := h
  rfl
theorem TIntentV.one {I : Imm} {x : TIntent} {c : List Value} (h : TIntentV I x c) : ∀ u ∈ c, u.oneCell' = true := by
  obtain ⟨v0, v1, rfl, h0, h1⟩ := h
  obtain ⟨_, _, rfl⟩ := Bytes.form h0
  obtain ⟨_, _, rfl⟩ := Bytes.form h1
  exact one_all rfl
theorem TIntentV.zero (I : Imm) : TIntentV I default [.slice none 0 0, .int .i64 0, .int .i64 0, .int .i64 0, .bool false, .slice none 0 0] := ⟨_, _, rfl, SlI.nil I 1 none 0, SlI.nil I 1 none 0⟩
structure TVersion where
  fKey : List UInt8
  fAt : TStamp
  fDel : Bool
  fValue : List UInt8
instance : Inhabited TVersion := ⟨⟨[], default, false, []⟩⟩
def TVersionV (I : Imm) (x : TVersion) (c : List Value) : Prop := ∃ v0 v1, c = [v0, .int .i64 x.fAt.fWall, .int .i64 x.fAt.fLogic, .bool x.fDel, v1] ∧ Bytes I v0 x.fKey ∧ Bytes I v1 x.fValue
theorem TVersionV.mono {I I' : Imm} {x : TVersion} {c : List Value} (h : TVersionV I x c) (hI : Ext I I') : TVersionV I' x c := by
  obtain ⟨v0, v1, rfl, h0, h1⟩ := h
  exact ⟨v0, v1, rfl, h0.mono hI, h1.mono hI⟩
theorem TVersionV.len {I : Imm} {x : TVersion} {c : List Value} (h : TVersionV I x c) : c.length = 5 := by
  obtain ⟨v0, v1, rfl, h0, h1⟩ := h
  rfl
theorem TVersionV.one {I : Imm} {x : TVersion} {c : List Value} (h : TVersionV I x c) : ∀ u ∈ c, u.oneCell' = true := by
  obtain ⟨v0, v1, rfl, h0, h1⟩ := h
  obtain ⟨_, _, rfl⟩ := Bytes.form h0
  obtain ⟨_, _, rfl⟩ := Bytes.form h1
  exact one_all rfl
theorem TVersionV.zero (I : Imm) : TVersionV I default [.slice none 0 0, .int .i64 0, .int .i64 0, .bool false, .slice none 0 0] := ⟨_, _, rfl, SlI.nil I 1 none 0, SlI.nil I 1 none 0⟩
structure TStep where
  fDo : Int
  fN : Int
  fX : TIntent
  fYes : Bool
  fP : TSpan
  fTo : TStamp
instance : Inhabited TStep := ⟨⟨0, 0, default, false, default, default⟩⟩
def TStepV (I : Imm) (x : TStep) (c : List Value) : Prop := ∃ v0 v1 v2 v3, c = [.int .i64 x.fDo, .int .i64 x.fN, v0, .int .i64 x.fX.fTxn, .int .i64 x.fX.fAt.fWall, .int .i64 x.fX.fAt.fLogic, .bool x.fX.fDel, v1, .bool x.fYes, v2, v3, .int .i64 x.fTo.fWall, .int .i64 x.fTo.fLogic] ∧ Bytes I v0 x.fX.fKey ∧ Bytes I v1 x.fX.fValue ∧ Bytes I v2 x.fP.fFrom ∧ Bytes I v3 x.fP.fTo
theorem TStepV.mono {I I' : Imm} {x : TStep} {c : List Value} (h : TStepV I x c) (hI : Ext I I') : TStepV I' x c := by
  obtain ⟨v0, v1, v2, v3, rfl, h0, h1, h2, h3⟩ := h
  exact ⟨v0, v1, v2, v3, rfl, h0.mono hI, h1.mono hI, h2.mono hI, h3.mono hI⟩
theorem TStepV.len {I : Imm} {x : TStep} {c : List Value} (h : TStepV I x c) : c.length = 13 := by
  obtain ⟨v0, v1, v2, v3, rfl, h0, h1, h2, h3⟩ := h
  rfl
theorem TStepV.one {I : Imm} {x : TStep} {c : List Value} (h : TStepV I x c) : ∀ u ∈ c, u.oneCell' = true := by
  obtain ⟨v0, v1, v2, v3, rfl, h0, h1, h2, h3⟩ := h
  obtain ⟨_, _, rfl⟩ := Bytes.form h0
  obtain ⟨_, _, rfl⟩ := Bytes.form h1
  obtain ⟨_, _, rfl⟩ := Bytes.form h2
  obtain ⟨_, _, rfl⟩ := Bytes.form h3
  exact one_all rfl
theorem TStepV.zero (I : Imm) : TStepV I default [.int .i64 0, .int .i64 0, .slice none 0 0, .int .i64 0, .int .i64 0, .int .i64 0, .bool false, .slice none 0 0, .bool false, .slice none 0 0, .slice none 0 0, .int .i64 0, .int .i64 0] := ⟨_, _, _, _, rfl, SlI.nil I 1 none 0, SlI.nil I 1 none 0, SlI.nil I 1 none 0, SlI.nil I 1 none 0⟩
structure TVer where
  fAt : TStamp
  fDel : Bool
  fValue : List UInt8
instance : Inhabited TVer := ⟨⟨default, false, []⟩⟩
def TVerV (I : Imm) (x : TVer) (c : List Value) : Prop := c = [.int .i64 x.fAt.fWall, .int .i64 x.fAt.fLogic, .bool x.fDel, .string ⟨x.fValue.toArray⟩]
theorem TVerV.mono {I I' : Imm} {x : TVer} {c : List Value} (h : TVerV I x c) (hI : Ext I I') : TVerV I' x c := by
  obtain rfl := h
  exact rfl
theorem TVerV.len {I : Imm} {x : TVer} {c : List Value} (h : TVerV I x c) : c.length = 4 := by
  obtain rfl := h
  rfl
theorem TVerV.one {I : Imm} {x : TVer} {c : List Value} (h : TVerV I x c) : ∀ u ∈ c, u.oneCell' = true := by
  obtain rfl := h
  exact one_all rfl
theorem TVerV.zero (I : Imm) : TVerV I default [.int .i64 0, .int .i64 0, .bool false, .string ⟨#[]⟩] := rfl
end Go.Proofs.YtmnnnoinfhiilaaDoor
