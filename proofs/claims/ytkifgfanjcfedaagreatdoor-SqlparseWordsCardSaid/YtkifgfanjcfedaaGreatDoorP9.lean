/-
  Lemmas, part 9: laid together by a program.
-/
import Derived.Test.YtkifgfanjcfedaaGreatDoorP8
import Derived.Test.YtkifgfanjcfedaaGreatDoorP7
import Derived.Test.YtkifgfanjcfedaaGreatDoorRows
import Derived.Test.YtkifgfanjcfedaaGreatDoorP2
import Derived.LaidSub
import Derived.MakeChecks
import Derived.Lib.LaidTab
set_option maxRecDepth 100000
set_option linter.unusedVariables false
set_option linter.unusedSimpArgs false
set_option linter.unusedSectionVars false
namespace Go.Proofs.YtkifgfanjcfedaaGreatDoor
open Go.SL
abbrev stC (s:TStmt)(v0 v1 v2 v3 v4 v5 v6 v7 v8 v9 v10 v11 v12:Value):List Value:=[.int .i64 s.fKind,.bool s.fSelect.fDistinct,v0,v1,.int .i64 s.fSelect.fWhere.kind,.int .i64 s.fSelect.fWhere.value.fType,.bool s.fSelect.fWhere.value.fNull,.int .i64 s.fSelect.fWhere.value.fInt,.string ⟨s.fSelect.fWhere.value.fText.toArray⟩,.string ⟨s.fSelect.fWhere.table.toArray⟩,.string ⟨s.fSelect.fWhere.name.toArray⟩,.int .i64 s.fSelect.fWhere.slot,.int .i64 s.fSelect.fWhere.type,.bool s.fSelect.fWhere.distinct,v2,v3,.int .i64 s.fSelect.fHaving.kind,.int .i64 s.fSelect.fHaving.value.fType,.bool s.fSelect.fHaving.value.fNull,.int .i64 s.fSelect.fHaving.value.fInt,.string ⟨s.fSelect.fHaving.value.fText.toArray⟩,.string ⟨s.fSelect.fHaving.table.toArray⟩,.string ⟨s.fSelect.fHaving.name.toArray⟩,.int .i64 s.fSelect.fHaving.slot,.int .i64 s.fSelect.fHaving.type,.bool s.fSelect.fHaving.distinct,v4,v5,.int .i64 s.fSelect.fLimit,.int .i64 s.fSelect.fOffset,.string ⟨s.fTable.toArray⟩,v6,v7,v8,.int .i64 s.fWhere.kind,.int .i64 s.fWhere.value.fType,.bool s.fWhere.value.fNull,.int .i64 s.fWhere.value.fInt,.string ⟨s.fWhere.value.fText.toArray⟩,.string ⟨s.fWhere.table.toArray⟩,.string ⟨s.fWhere.name.toArray⟩,.int .i64 s.fWhere.slot,.int .i64 s.fWhere.type,.bool s.fWhere.distinct,v9,v10,v11,.string ⟨s.fIndex.fName.toArray⟩,.string ⟨s.fIndex.fTable.toArray⟩,v12,.bool s.fIndex.fUnique]
structure OkS (s:TStmt):Prop where
 q:OkQ s.fSelect
 wh:okE s.fWhere
 rows:∀x∈s.fRows,okL x∧x.length≤1000000000000
 sets:∀x∈s.fSets,okE x.fExpr
 cols:∀x∈s.fCols,okE x.fDefault
 cnt:cS s≤1000000000
 n1:s.fColumns.length≤1000000000000
 n2:s.fKey.length≤1000000000000
 n3:s.fIndex.fColumns.length≤1000000000000
section
variable {ω:Om}{G I:Imm}{L F Y:LH}{K:Value→M}{b bw bs:Nat}{w:Value}{X:LH}{l:Bs}{n:Nat}{s:TStmt}{v0 v1 v2 v3 v4 v5 v6 v7 v8 v9 v10 v11 v12:Value}
abbrev Ys (b bw bs:Nat)(s:TStmt)(v0 v1 v2 v3 v4 v5 v6 v7 v8 v9 v10 v11 v12:Value)(F:LH):LH:=(bs,.cells (stC s v0 v1 v2 v3 v4 v5 v6 v7 v8 v9 v10 v11 v12).toArray 48 (0,0))::(bw,wpO b)::F
theorem Sj (hG:Eb G)(hGI:Ext G I)(hw:StL I w wordsL)(hq:OkS s){c:List Value}(hc:TStmtV I s c)[hs:SplitL X L F](hW:WrS b w X l)(hn:(l++Jf true s).length≤1000000000)(hk:∀I' X',Ext I I'→WrS b w X' (l++Jf true s)→K (.tuple #[]) I' (X'++F)):
  CT ω 122 #[AX b,.agg c.toArray] K I L:=by
 refine Cal.split X ?_;refine ANd ?_;unfold AEG;obtain ⟨v0,v1,v2,v3,v4,v5,v6,v7,v8,v9,v10,v11,v12,rfl,h0,h1,h2,h3,h4,h5,h6,h7,h8,h9,h10,h11,h12⟩:=hc;have hcnt:=hq.cnt;unfold cS at hcnt;have he:Jf true s=[99,114,101,97,116,101,32,116,97,98,108,101,32]++(nameB s.fTable++([32,40]++(Aq (s.fCols.map (Vt true))++((if s.fKey.isEmpty then [] else [44,32,112,114,105,109,97,114,121,32,107,101,121,32]++FH s.fKey)++[41])))):=by unfold Jf;simp only [List.append_assoc]
 rw [he] at hn hk;simp only [List.length_append,List.length_cons,List.length_nil] at hn;refine AV (o:=wpO b) (fun bw=>?_);refine AV (o:=.cells (stC s v0 v1 v2 v3 v4 v5 v6 v7 v8 v9 v10 v11 v12).toArray 48 (0,0)) (fun bs=>?_);refine rdb ?_;refine BL (X:=X) hW (by simp only [List.length_append,List.length_cons,List.length_nil];omega) (fun I1 X1 hI1 hW1=>?_);have hE1:=hI1;refine rdb ?_;try simp only [SSd,Nat.reduceAdd]
 refine rdb ?_;refine call (BP (X:=X1) hW1 (StL.mono hw hE1) s.fTable (by simp only [List.length_append,List.length_cons,List.length_nil];omega) (fun I2 X2 hI2 hW2=>?_));have hE2:=Ext.trans hE1 hI2;refine rdb ?_;refine BL (X:=X2) hW2 (by simp only [List.length_append,List.length_cons,List.length_nil];omega) (fun I3 X3 hI3 hW3=>?_);have hE3:=Ext.trans hE2 hI3;refine rdb ?_;try simp only [SSd,Nat.reduceAdd]
 refine rdb ?_;refine call (Vs (X:=X3) (g:=Vt true) (F:=Ys b bw bs s v0 v1 v2 v3 v4 v5 v6 v7 v8 v9 v10 v11 v12 F) (RL.mono (fun _ _ h=>TColV.mono h hE3) h10 hE3 (fun _ h=>h)) (StL.mono hw hE3) (AHO (bw:=bw) hG (Ext.trans hGI hE3) hq.cols) (by omega) hW3 (by simp only [List.length_append,List.length_cons,List.length_nil];omega) (fun I4 X4 hI4 hW4=>?_));have hE4:=Ext.trans hE3 hI4;try simp only [SSd,Nat.reduceAdd]
 refine rdb ?_;simp only [RL.len h11,SSd,Nat.reduceAdd];have fin:∀(t:Bs) (I5:Imm) (X5:LH),Ext I I5→t=(if s.fKey.isEmpty then [] else [44,32,112,114,105,109,97,114,121,32,107,101,121,32]++FH s.fKey)→WrS b w X5 ((l++([99,114,101,97,116,101,32,116,97,98,108,101,32]++(nameB s.fTable++([32,40]++Aq (s.fCols.map (Vt true))))))++t)→NG ω (AX bw) (fun v=>Gh (K v)) I5 (X5++Ys b bw bs s v0 v1 v2 v3 v4 v5 v6 v7 v8 v9 v10 v11 v12 F):=by
  intro t I5 X5 hI5 ht hW5;rw [←ht] at hn hk;unfold NG;refine rdb ?_;refine BL hW5 (by simp only [List.length_append,List.length_cons,List.length_nil];omega) (fun I6 X6 hI6 hW6=>?_);exact Gh.to (X6++F) (Gh.done (hk I6 X6 (Ext.trans hI5 hI6) (by simpa using hW6)))
 refine AA (fun h=>?_) (fun h=>?_)
 ·have h:s.fKey.isEmpty=false:=by
   have:=of_decide_eq_true h;cases ho:s.fKey with
   |nil=>rw [ho] at this;simp at this
   |cons _ _=>rfl
  rw [h] at hn fin;simp only [Bool.false_eq_true,if_false,List.length_append,List.length_cons,List.length_nil] at hn fin;refine rdb ?_;refine BL (X:=X4) hW4 (by simp only [List.length_append,List.length_cons,List.length_nil];omega) (fun I5 X5 hI5 hW5=>?_);have hE5:=Ext.trans hE4 hI5;refine rdb ?_;try simp only [SSd,Nat.reduceAdd]
  refine rdb ?_;refine call (IW (X:=X5) hq.n2 (StL.mono h11 hE5) (StL.mono hw hE5) hW5 (by simp only [List.length_append,List.length_cons,List.length_nil];omega) (fun I6 X6 hI6 hW6=>?_));have hE6:=Ext.trans hE5 hI6;exact fin _ I6 X6 hE6 rfl (by simpa using hW6)
 ·have h:s.fKey.isEmpty=true:=by
   have:=of_decide_eq_false h;cases ho:s.fKey with
   |nil=>rfl
   |cons _ _=>rw [ho] at this;simp at this
  rw [h] at fin;exact fin [] I4 X4 hE4 rfl (by simpa using hW4)
theorem Uu (hG:Eb G)(hGI:Ext G I)(hw:StL I w wordsL)(hq:OkS s){c:List Value}(hc:TStmtV I s c)[hs:SplitL X L F](hW:WrS b w X l)(hn:(l++BU true s).length≤1000000000)(hk:∀I' X',Ext I I'→WrS b w X' (l++BU true s)→K (.tuple #[]) I' (X'++F)):
  CT ω 58 #[AX b,.agg c.toArray] K I L:=by
 have hc0:=hc;refine Cal.split X ?_;refine AOw ?_;unfold AKs;obtain ⟨v0,v1,v2,v3,v4,v5,v6,v7,v8,v9,v10,v11,v12,rfl,h0,h1,h2,h3,h4,h5,h6,h7,h8,h9,h10,h11,h12⟩:=hc;have hcnt:=hq.cnt;unfold cS at hcnt;refine AV (o:=wpO b) (fun bw=>?_);refine AV (o:=.cells (stC s v0 v1 v2 v3 v4 v5 v6 v7 v8 v9 v10 v11 v12).toArray 48 (0,0)) (fun bs=>?_);try simp only [SSd,Nat.reduceAdd]
 refine rdb ?_;try simp only [SSd,Nat.reduceAdd]
 refine AA (fun h=>?_) (fun h=>?_)
 ·have h:s.fKind=1:=by simpa using h
  have he:BU true s=LC true s.fSelect:=by unfold BU;simp [h]
  rw [he] at hn hk;simp only [List.length_append,List.length_cons,List.length_nil] at hn;refine rdb ?_;try simp only [SSd,Nat.reduceAdd]
  refine rdP _ rfl rfl ?_;refine call (Sm (X:=X) hG hGI hw hq.q (c:=selC s.fSelect v0 v1 v2 v3 v4 v5) ⟨v0,v1,v2,v3,v4,v5,rfl,h0,h1,h2,h3,h4,h5⟩ hW (by rw [List.length_append];exact hn) (fun I1 X1 hI1 hW1=>?_));exact Gh.to (X1++F) (Gh.done (hk I1 X1 hI1 hW1))
 have h101:s.fKind≠1:=by simpa using h
 try simp only [SSd,Nat.reduceAdd]
 refine AA (fun h=>?_) (fun h=>?_)
 ·have h:s.fKind=2:=by simpa using h
  have he:BU true s=[105,110,115,101,114,116,32,105,110,116,111,32]++(nameB s.fTable++((if s.fColumns.isEmpty then [] else [32]++FH s.fColumns)++([32,118,97,108,117,101,115,32]++Aq (s.fRows.map (rowB true))))):=by unfold BU;simp [h]
  rw [he] at hn hk;simp only [List.length_append,List.length_cons,List.length_nil] at hn;refine rdb ?_;refine BL (X:=X) hW (by simp only [List.length_append,List.length_cons,List.length_nil];omega) (fun I1 X1 hI1 hW1=>?_);have hE1:=hI1;refine rdb ?_;try simp only [SSd,Nat.reduceAdd]
  refine rdb ?_;refine call (BP (X:=X1) hW1 (StL.mono hw hE1) s.fTable (by simp only [List.length_append,List.length_cons,List.length_nil];omega) (fun I2 X2 hI2 hW2=>?_));have hE2:=Ext.trans hE1 hI2;have fin:∀(t:Bs) (I5:Imm) (X5:LH),Ext I I5→t=(if s.fColumns.isEmpty then [] else [32]++FH s.fColumns)→WrS b w X5 ((l++([105,110,115,101,114,116,32,105,110,116,111,32]++nameB s.fTable))++t)→Qv ω (AX bw) (AX bs) (fun v=>Gh (K v)) I5 (X5++Ys b bw bs s v0 v1 v2 v3 v4 v5 v6 v7 v8 v9 v10 v11 v12 F):=by
   intro t I5 X5 hI5 ht hW5;rw [←ht] at hn hk;unfold Qv;refine rdb ?_;refine BL hW5 (by simp only [List.length_append,List.length_cons,List.length_nil];omega) (fun I6 X6 hI6 hW6=>?_);have hI56:=Ext.trans hI5 hI6;refine rdb ?_;try simp only [SSd,Nat.reduceAdd]
   refine rdb ?_;refine rdb ?_;refine call (Vr (X:=X6) (g:=rowB true) (F:=Ys b bw bs s v0 v1 v2 v3 v4 v5 v6 v7 v8 v9 v10 v11 v12 F) (RL.mono (fun _ _ h=>LstX.mono h hI56) h7 hI56 (fun _ h=>h)) (StL.mono hw hI56) (AHM hG (Ext.trans hGI hI56) hq.rows) (by omega) hW6 (by simp only [List.length_append,List.length_cons,List.length_nil];omega) (fun I7 X7 hI7 hW7=>?_));exact Gh.to (X7++F) (Gh.done (hk I7 X7 (Ext.trans hI56 hI7) (by simpa using hW7)))
  try simp only [SSd,Nat.reduceAdd]
  refine rdb ?_;simp only [RL.len h6,SSd,Nat.reduceAdd];refine AA (fun hz=>?_) (fun hz=>?_)
  ·have hz:s.fColumns.isEmpty=false:=by
    have:=of_decide_eq_true hz;cases ho:s.fColumns with
    |nil=>rw [ho] at this;simp at this
    |cons _ _=>rfl
   rw [hz] at hn fin;simp only [Bool.false_eq_true,if_false,List.length_append,List.length_cons,List.length_nil] at hn fin;refine rdb ?_;refine BL (X:=X2) hW2 (by simp only [List.length_append,List.length_cons,List.length_nil];omega) (fun I3 X3 hI3 hW3=>?_);have hE3:=Ext.trans hE2 hI3;refine rdb ?_;try simp only [SSd,Nat.reduceAdd]
   refine rdb ?_;refine call (IW (X:=X3) hq.n1 (StL.mono h6 hE3) (StL.mono hw hE3) hW3 (by simp only [List.length_append,List.length_cons,List.length_nil];omega) (fun I4 X4 hI4 hW4=>?_));have hE4:=Ext.trans hE3 hI4;exact fin _ I4 X4 hE4 rfl (by simpa using hW4)
  ·have hz:s.fColumns.isEmpty=true:=by
    have:=of_decide_eq_false hz;cases ho:s.fColumns with
    |nil=>rfl
    |cons _ _=>rw [ho] at this;simp at this
   rw [hz] at fin;exact fin [] I2 X2 hE2 rfl (by simpa using hW2)
 have h102:s.fKind≠2:=by simpa using h
 try simp only [SSd,Nat.reduceAdd]
 refine AA (fun h=>?_) (fun h=>?_)
 ·have h:s.fKind=3:=by simpa using h
  have he:BU true s=[117,112,100,97,116,101,32]++(nameB s.fTable++([32,115,101,116,32]++(Aq (s.fSets.map AEl)++Dh true [32,119,104,101,114,101,32] s.fWhere))):=by
   have hs:AEl=fun x=>nameB x.fColumn++[32,61,32]++exB true x.fExpr 1:=rfl;rw [hs];unfold BU;simp [h]
  rw [he] at hn hk;simp only [List.length_append,List.length_cons,List.length_nil] at hn;refine rdb ?_;refine BL (X:=X) hW (by simp only [List.length_append,List.length_cons,List.length_nil];omega) (fun I1 X1 hI1 hW1=>?_);have hE1:=hI1;refine rdb ?_;try simp only [SSd,Nat.reduceAdd]
  refine rdb ?_;refine call (BP (X:=X1) hW1 (StL.mono hw hE1) s.fTable (by simp only [List.length_append,List.length_cons,List.length_nil];omega) (fun I2 X2 hI2 hW2=>?_));have hE2:=Ext.trans hE1 hI2;refine rdb ?_;refine BL (X:=X2) hW2 (by simp only [List.length_append,List.length_cons,List.length_nil];omega) (fun I3 X3 hI3 hW3=>?_);have hE3:=Ext.trans hE2 hI3;refine rdb ?_;try simp only [SSd,Nat.reduceAdd]
  refine rdb ?_;refine call (Vq (X:=X3) (g:=AEl) (F:=Ys b bw bs s v0 v1 v2 v3 v4 v5 v6 v7 v8 v9 v10 v11 v12 F) (RL.mono (fun _ _ h=>TSetV.mono h hE3) h8 hE3 (fun _ h=>h)) (StL.mono hw hE3) (AHL (bw:=bw) hG (Ext.trans hGI hE3) hq.sets) (by omega) hW3 (by simp only [List.length_append,List.length_cons,List.length_nil];omega) (fun I4 X4 hI4 hW4=>?_));have hE4:=Ext.trans hE3 hI4;refine rdb ?_;try simp only [SSd,Nat.reduceAdd]
  refine rdP _ rfl rfl ?_;refine call (ER (X:=X4) hG hq.wh [32,119,104,101,114,101,32] (Ext.trans hGI hE4) (StL.mono hw hE4) hW4 (ExV.mono hE4 (ExV.iff.2 ⟨v9,rfl,h9⟩)) (by simp only [List.length_append,List.length_cons,List.length_nil];omega) (fun I5 X5 hI5 hW5=>?_));have hE5:=Ext.trans hE4 hI5;exact Gh.to (X5++F) (Gh.done (hk I5 X5 hE5 (by simpa using hW5)))
 have h103:s.fKind≠3:=by simpa using h
 try simp only [SSd,Nat.reduceAdd]
 refine AA (fun h=>?_) (fun h=>?_)
 ·have h:s.fKind=4:=by simpa using h
  have he:BU true s=[100,101,108,101,116,101,32,102,114,111,109,32]++(nameB s.fTable++Dh true [32,119,104,101,114,101,32] s.fWhere):=by unfold BU;simp [h]
  rw [he] at hn hk;simp only [List.length_append,List.length_cons,List.length_nil] at hn;refine rdb ?_;refine BL (X:=X) hW (by simp only [List.length_append,List.length_cons,List.length_nil];omega) (fun I1 X1 hI1 hW1=>?_);have hE1:=hI1;refine rdb ?_;try simp only [SSd,Nat.reduceAdd]
  refine rdb ?_;refine call (BP (X:=X1) hW1 (StL.mono hw hE1) s.fTable (by simp only [List.length_append,List.length_cons,List.length_nil];omega) (fun I2 X2 hI2 hW2=>?_));have hE2:=Ext.trans hE1 hI2;refine rdb ?_;try simp only [SSd,Nat.reduceAdd]
  refine rdP _ rfl rfl ?_;refine call (ER (X:=X2) hG hq.wh [32,119,104,101,114,101,32] (Ext.trans hGI hE2) (StL.mono hw hE2) hW2 (ExV.mono hE2 (ExV.iff.2 ⟨v9,rfl,h9⟩)) (by simp only [List.length_append,List.length_cons,List.length_nil];omega) (fun I3 X3 hI3 hW3=>?_));have hE3:=Ext.trans hE2 hI3;exact Gh.to (X3++F) (Gh.done (hk I3 X3 hE3 (by simpa using hW3)))
 have h104:s.fKind≠4:=by simpa using h
 try simp only [SSd,Nat.reduceAdd]
 refine AA (fun h=>?_) (fun h=>?_)
 ·have h:s.fKind=5:=by simpa using h
  have he:BU true s=Jf true s:=by unfold BU;simp [h]
  rw [he] at hn hk;simp only [List.length_append,List.length_cons,List.length_nil] at hn;refine rdb ?_;refine rdB rfl ?_;refine call (Sj (X:=X) hG hGI hw hq hc0 hW (by rw [List.length_append];exact hn) (fun I1 X1 hI1 hW1=>?_));exact Gh.to (X1++F) (Gh.done (hk I1 X1 hI1 hW1))
 have h105:s.fKind≠5:=by simpa using h
 try simp only [SSd,Nat.reduceAdd]
 refine AA (fun h=>?_) (fun h=>?_)
 ·have h:s.fKind=6:=by simpa using h
  have he:BU true s=[99,114,101,97,116,101,32]++((if s.fIndex.fUnique then [117,110,105,113,117,101,32] else [])++([105,110,100,101,120,32]++(nameB s.fIndex.fName++([32,111,110,32]++(nameB s.fIndex.fTable++([32]++FH s.fIndex.fColumns)))))):=by unfold BU;simp [h]
  rw [he] at hn hk;simp only [List.length_append,List.length_cons,List.length_nil] at hn;refine rdb ?_;refine BL (X:=X) hW (by simp only [List.length_append,List.length_cons,List.length_nil];omega) (fun I1 X1 hI1 hW1=>?_);have hE1:=hI1;have fin:∀(t:Bs) (I5:Imm) (X5:LH),Ext I I5→t=(if s.fIndex.fUnique then [117,110,105,113,117,101,32] else [])→WrS b w X5 ((l++[99,114,101,97,116,101,32])++t)→Qu ω (AX bw) (AX bs) (fun v=>Gh (K v)) I5 (X5++Ys b bw bs s v0 v1 v2 v3 v4 v5 v6 v7 v8 v9 v10 v11 v12 F):=by
   intro t I5 X5 hI5 ht hW5;rw [←ht] at hn hk;unfold Qu;refine rdb ?_;refine BL (X:=X5) hW5 (by simp only [List.length_append,List.length_cons,List.length_nil];omega) (fun I11 X11 hI11 hW11=>?_);have hE11:=Ext.trans hI5 hI11;refine rdb ?_;try simp only [SSd,Nat.reduceAdd]
   refine rdb ?_;refine call (BP (X:=X11) hW11 (StL.mono hw hE11) s.fIndex.fName (by simp only [List.length_append,List.length_cons,List.length_nil];omega) (fun I12 X12 hI12 hW12=>?_));have hE12:=Ext.trans hE11 hI12;refine rdb ?_;refine BL (X:=X12) hW12 (by simp only [List.length_append,List.length_cons,List.length_nil];omega) (fun I13 X13 hI13 hW13=>?_);have hE13:=Ext.trans hE12 hI13;refine rdb ?_;try simp only [SSd,Nat.reduceAdd]
   refine rdb ?_;refine call (BP (X:=X13) hW13 (StL.mono hw hE13) s.fIndex.fTable (by simp only [List.length_append,List.length_cons,List.length_nil];omega) (fun I14 X14 hI14 hW14=>?_));have hE14:=Ext.trans hE13 hI14;refine rdb ?_;refine BL (X:=X14) hW14 (by simp only [List.length_append,List.length_cons,List.length_nil];omega) (fun I15 X15 hI15 hW15=>?_);have hE15:=Ext.trans hE14 hI15;refine rdb ?_;try simp only [SSd,Nat.reduceAdd]
   refine rdb ?_;refine call (IW (X:=X15) hq.n3 (StL.mono h12 hE15) (StL.mono hw hE15) hW15 (by simp only [List.length_append,List.length_cons,List.length_nil];omega) (fun I16 X16 hI16 hW16=>?_));have hE16:=Ext.trans hE15 hI16;exact Gh.to (X16++F) (Gh.done (hk I16 X16 hE16 (by simpa using hW16)))
  try simp only [SSd,Nat.reduceAdd]
  refine rdb ?_;refine AA (fun hz=>?_) (fun hz=>?_)
  ·rw [hz] at hn fin;simp only [if_true,List.length_cons,List.length_nil] at hn;refine rdb ?_;refine BL (X:=X1) hW1 (by simp only [List.length_append,List.length_cons,List.length_nil];omega) (fun I2 X2 hI2 hW2=>?_);exact fin _ I2 X2 (Ext.trans hI1 hI2) rfl (by simpa using hW2)
  ·rw [hz] at fin;exact fin [] I1 X1 hI1 (by simp) (by simpa using hW1)
 have h106:s.fKind≠6:=by simpa using h
 try simp only [SSd,Nat.reduceAdd]
 refine AA (fun h=>?_) (fun h=>?_)
 ·have h:s.fKind=7:=by simpa using h
  have he:BU true s=[100,114,111,112,32,116,97,98,108,101,32]++nameB s.fTable:=by unfold BU;simp [h]
  rw [he] at hn hk;simp only [List.length_append,List.length_cons,List.length_nil] at hn;refine rdb ?_;refine BL (X:=X) hW (by simp only [List.length_append,List.length_cons,List.length_nil];omega) (fun I1 X1 hI1 hW1=>?_);have hE1:=hI1;refine rdb ?_;try simp only [SSd,Nat.reduceAdd]
  refine rdb ?_;refine call (BP (X:=X1) hW1 (StL.mono hw hE1) s.fTable (by simp only [List.length_append,List.length_cons,List.length_nil];omega) (fun I2 X2 hI2 hW2=>?_));have hE2:=Ext.trans hE1 hI2;exact Gh.to (X2++F) (Gh.done (hk I2 X2 hE2 (by simpa using hW2)))
 have h107:s.fKind≠7:=by simpa using h
 try simp only [SSd,Nat.reduceAdd]
 refine AA (fun h=>?_) (fun h=>?_)
 ·have h:s.fKind=8:=by simpa using h
  have he:BU true s=[100,114,111,112,32,105,110,100,101,120,32]++nameB s.fIndex.fName:=by unfold BU;simp [h]
  rw [he] at hn hk;simp only [List.length_append,List.length_cons,List.length_nil] at hn;refine rdb ?_;refine BL (X:=X) hW (by simp only [List.length_append,List.length_cons,List.length_nil];omega) (fun I1 X1 hI1 hW1=>?_);have hE1:=hI1;refine rdb ?_;try simp only [SSd,Nat.reduceAdd]
  refine rdb ?_;refine call (BP (X:=X1) hW1 (StL.mono hw hE1) s.fIndex.fName (by simp only [List.length_append,List.length_cons,List.length_nil];omega) (fun I2 X2 hI2 hW2=>?_));have hE2:=Ext.trans hE1 hI2;exact Gh.to (X2++F) (Gh.done (hk I2 X2 hE2 (by simpa using hW2)))
 have h108:s.fKind≠8:=by simpa using h
 try simp only [SSd,Nat.reduceAdd]
 refine AA (fun h=>?_) (fun h=>?_)
 ·have h:s.fKind=9:=by simpa using h
  have he:BU true s=[98,101,103,105,110]:=by unfold BU;simp [h]
  rw [he] at hn hk;simp only [List.length_append,List.length_cons,List.length_nil] at hn;refine rdb ?_;refine BL (X:=X) hW (by simp only [List.length_append,List.length_cons,List.length_nil];omega) (fun I1 X1 hI1 hW1=>?_);have hE1:=hI1;exact Gh.to (X1++F) (Gh.done (hk I1 X1 hE1 (by simpa using hW1)))
 have h109:s.fKind≠9:=by simpa using h
 try simp only [SSd,Nat.reduceAdd]
 refine AA (fun h=>?_) (fun h=>?_)
 ·have h:s.fKind=10:=by simpa using h
  have he:BU true s=[99,111,109,109,105,116]:=by unfold BU;simp [h]
  rw [he] at hn hk;simp only [List.length_append,List.length_cons,List.length_nil] at hn;refine rdb ?_;refine BL (X:=X) hW (by simp only [List.length_append,List.length_cons,List.length_nil];omega) (fun I1 X1 hI1 hW1=>?_);have hE1:=hI1;exact Gh.to (X1++F) (Gh.done (hk I1 X1 hE1 (by simpa using hW1)))
 have h110:s.fKind≠10:=by simpa using h
 try simp only [SSd,Nat.reduceAdd]
 refine AA (fun h=>?_) (fun h=>?_)
 ·have h:s.fKind=11:=by simpa using h
  have he:BU true s=[114,111,108,108,98,97,99,107]:=by unfold BU;simp [h]
  rw [he] at hn hk;simp only [List.length_append,List.length_cons,List.length_nil] at hn;refine rdb ?_;refine BL (X:=X) hW (by simp only [List.length_append,List.length_cons,List.length_nil];omega) (fun I1 X1 hI1 hW1=>?_);have hE1:=hI1;exact Gh.to (X1++F) (Gh.done (hk I1 X1 hE1 (by simpa using hW1)))
 have h111:s.fKind≠11:=by simpa using h
 try simp only [SSd,Nat.reduceAdd]
 have he:BU true s=[63]:=by unfold BU;simp [h101,h102,h103,h104,h105,h106,h107,h108,h109,h110,h111]
 rw [he] at hn hk;simp only [List.length_append,List.length_cons,List.length_nil] at hn;refine rdb ?_;refine BL (X:=X) hW (by simp only [List.length_append,List.length_cons,List.length_nil];omega) (fun I1 X1 hI1 hW1=>?_);have hE1:=hI1;exact Gh.to (X1++F) (Gh.done (hk I1 X1 hE1 (by simpa using hW1)))
theorem AJG (s:TStmt):BU true s≠[]:=by
 unfold BU;by_cases h1:s.fKind=1
 ·rw [if_pos h1,Td];simp
 rw [if_neg h1];by_cases h2:s.fKind=2
 ·rw [if_pos h2];simp
 rw [if_neg h2];by_cases h3:s.fKind=3
 ·rw [if_pos h3];simp
 rw [if_neg h3];by_cases h4:s.fKind=4
 ·rw [if_pos h4];simp
 rw [if_neg h4];by_cases h5:s.fKind=5
 ·rw [if_pos h5];simp [Jf]
 rw [if_neg h5];by_cases h6:s.fKind=6
 ·rw [if_pos h6];simp
 rw [if_neg h6];by_cases h7:s.fKind=7
 ·rw [if_pos h7];simp
 rw [if_neg h7];by_cases h8:s.fKind=8
 ·rw [if_pos h8];simp
 rw [if_neg h8];by_cases h9:s.fKind=9
 ·rw [if_pos h9];simp
 rw [if_neg h9];by_cases h10:s.fKind=10
 ·rw [if_pos h10];simp
 rw [if_neg h10];by_cases h11:s.fKind=11
 ·rw [if_pos h11];simp
 rw [if_neg h11];simp
theorem QW (hG:Eb G)(hWd:Vy ω G)(hGI:Ext G I)(hq:OkS s){c:List Value}(hc:TStmtV I s c)(hn:(BU true s).length≤1000000000)(hk:∀I',Ext I I'→K (.string ⟨(BU true s).toArray⟩) I' L):
  CT ω 30 #[.agg c.toArray] K I L:=by
 refine APF ?_;unfold ALA;have hcl:=hc.len;refine AV (fun bs=>?_);refine call (hWd _ _ _ hGI (fun I1 w hI1 hw=>?_));obtain ⟨aw,kw,rfl⟩:=RL.form hw;try simp only [SSd,Nat.reduceAdd]
 refine AV (o:=WrO (.pointer none) (.slice none 0 0) (.slice aw wordsL.length kw)) (fun b=>?_);refine rdB hcl ?_;have hW0:WrS b (.slice aw wordsL.length kw) [(b,WrO (.pointer none) (.slice none 0 0) (.slice aw wordsL.length kw))] []:=⟨_,_,[],.inl rfl,SlO.none _ _,rfl⟩;refine call (Uu (X:=[(b,WrO (.pointer none) (.slice none 0 0) (.slice aw wordsL.length kw))]) (F:=(bs,.cells c.toArray 48 (0,0))::L) (hs:=⟨List.Perm.refl _⟩) hG (Ext.trans hGI hI1) hw hq (hc.mono hI1) hW0 (by simpa using hn) (fun I2 X2 hI2 hW2=>?_));try simp only [SSd,Nat.reduceAdd]
 rw [List.nil_append] at hW2;refine call (Qk (X:=X2) hW2 (AJG s) hn (fun X3=>?_));exact Gh.to L (Gh.done (hk I2 (Ext.trans hI1 hI2)))
end
def eqL {α:Type}(f:α→α→Bool):List α→List α→Bool
 |[],[]=>true
 |x::xs,y::ys=>f x y&&eqL f xs ys
 |_,_=>false
theorem Et {α:Type}{f:α→α→Bool}:∀{xs ys:List α},xs.length≠ys.length→eqL f xs ys=false
 |[],[],h=>absurd rfl h
 |[],_::_,_=>rfl
 |_::_,[],_=>rfl
 |x::xs,y::ys,h=>by
  simp only [eqL,Et (f:=f) (xs:=xs) (ys:=ys) (by simpa using h),Bool.and_false]
theorem FP {α:Type}{f:α→α→Bool}{xs ys:List α}(h1:xs=[])(h2:ys=[]):eqL f xs ys=true:=by subst h1 h2;rfl
theorem TR:∀xs ys:List Ex,Xo xs ys=eqL EL xs ys
 |[],[]=>rfl
 |[],_::_=>rfl
 |_::_,[]=>rfl
 |x::xs,y::ys=>by simp only [Xo,eqL,TR xs ys]
theorem AEq (x y:Ex):EL x y=(x.kind==y.kind&&x.value==y.value&&x.table==y.table&&x.name==y.name&&x.slot==y.slot&&x.type==y.type&&x.distinct==y.distinct&&eqL EL x.args y.args):=by
 cases x;simp only [EL,TR,Ex.kind,Ex.value,Ex.table,Ex.name,Ex.slot,Ex.type,Ex.distinct,Ex.args]
theorem AOG (a b:TValue):(a==b)=((a.fType==b.fType)&&((a.fNull==b.fNull)&&((a.fInt==b.fInt)&&(a.fText==b.fText)))):=by
 cases a;cases b
 rw [Bool.eq_iff_iff];simp only [beq_iff_eq,Bool.and_eq_true,TValue.mk.injEq]
theorem AOF (a c a' c':Int)(t t':Bool)(s s':Bs):IR .eql [(TypeDesc.int .i64,0),(TypeDesc.bool,1),(TypeDesc.int .i64,2),(TypeDesc.string,3)] (.agg #[.int .i64 a,.bool t,.int .i64 c,.string ⟨s.toArray⟩]) (.agg #[.int .i64 a',.bool t',.int .i64 c',.string ⟨s'.toArray⟩])=some (.bool ((a==a')&&((t==t')&&((c==c')&&(s==s'))))):=by
 simp [IR,KX,eqD,IJ]
def sIt (x y:TItem):Bool:=x.fStar==y.fStar&&x.fTable==y.fTable&&x.fAs==y.fAs&&EL x.fExpr y.fExpr
def sSo (x y:TSource):Bool:=x.fTable==y.fTable&&x.fAs==y.fAs&&x.fLeft==y.fLeft&&EL x.fOn y.fOn
def sOr (x y:TOrder):Bool:=x.fDesc==y.fDesc&&EL x.fExpr y.fExpr
def sSe (x y:TSet):Bool:=x.fColumn==y.fColumn&&EL x.fExpr y.fExpr
def sCo (x y:TCol):Bool:=x.fName==y.fName&&x.fType==y.fType&&x.fNotNull==y.fNotNull&&x.fKey==y.fKey&&x.fUnique==y.fUnique&&EL x.fDefault y.fDefault
def eqB (x y:Bs):Bool:=x==y
def sQu (p q:TSelect):Bool:=p.fDistinct==q.fDistinct&&p.fLimit==q.fLimit&&p.fOffset==q.fOffset&&EL p.fWhere q.fWhere&&EL p.fHaving q.fHaving&&eqL EL p.fGroup q.fGroup
def sIx (a b:TIdx):Bool:=a.fName==b.fName&&a.fTable==b.fTable&&a.fUnique==b.fUnique&&eqL eqB a.fColumns b.fColumns
def sRe (a b:TStmt):Bool:=a.fKind==b.fKind&&a.fTable==b.fTable&&eqL eqB a.fColumns b.fColumns&&eqL eqB a.fKey b.fKey&&EL a.fWhere b.fWhere
def LZ (a b:TStmt):Bool:=sQu a.fSelect b.fSelect&&eqL sIt a.fSelect.fItems b.fSelect.fItems&&eqL sSo a.fSelect.fFrom b.fSelect.fFrom&&eqL sOr a.fSelect.fOrder b.fSelect.fOrder&&eqL (eqL EL) a.fRows b.fRows&&eqL sSe a.fSets b.fSets&&eqL sCo a.fCols b.fCols&&sIx a.fIndex b.fIndex&&sRe a b
def FnQ {α:Type}(ω:Om)(fv:Value)(V:Imm→α→Value→Prop)(f:α→α→Bool)(xs:List α):Prop:=∀x∈xs,∀(y:α) (I:Imm) (L:LH) (u v:Value) (K:Value→M),V I x u→V I y v→K (.bool (f x y)) I L→CW ω fv #[u,v] K I L
section
variable {ω:Om}{I:Imm}{L:LH}{K:Value→M}
theorem Jl {u v:Value}{xs ys:List Bs}(hx:StL I u xs)(hy:StL I v ys)(hl:xs.length≤1000000000000)(hk:K (.bool (eqL eqB xs ys)) I L):CT ω 74 #[u,v] K I L:=by
 refine AOh ?_;unfold AKc;simp only [RL.len hx,RL.len hy,SSd,Nat.reduceAdd];refine AA (fun h=>?_) (fun h=>?_)
 ·have h:xs.length≠ys.length:=by
   have:¬(xs.length:Int)=ys.length:=by simpa using h
   omega
  rw [Et h] at hk;exact Gh.done hk
 have h:xs.length=ys.length:=by
  have:(xs.length:Int)=ys.length:=by simpa using h
  omega
 refine loop (fun q st I' L'=>∃k:Nat,k+q=xs.length∧st=(Value.bool false,Value.int .i64 (k:Nat),())∧I'=I∧L'=L∧eqL eqB xs ys=eqL eqB (xs.drop k) (ys.drop k)) xs.length ⟨0,by omega,rfl,rfl,rfl,rfl⟩ ?_;rintro q st I' L' ⟨k,hq,rfl,rfl,rfl,he⟩;unfold AAn;try simp only [SSd,Nat.reduceAdd]
 refine AA (fun hb=>?_) (fun hb=>?_)
 ·have hb:k < xs.length:=by
   have:=of_decide_eq_true hb;omega
  have hb2:k < ys.length:=by omega
  obtain ⟨bt,off,c1,g1,gl,g2,g3⟩:=RL.ix hx (i:=k) (by omega) (by omega);obtain ⟨bu,off2,c2,k1,kl,k2,k3⟩:=RL.ix hy (i:=k) (by omega) (by omega);rw [BA hb] at g2;rw [BA hb2] at k2;obtain rfl:=g2;obtain rfl:=k2;rw [List.drop_eq_getElem_cons hb,List.drop_eq_getElem_cons hb2] at he;simp only [eqL] at he;refine Ag ?_;simp only [g1,k1,SSd,Nat.reduceAdd];refine AOJ (g3 I' [] (Ext.refl _) (fun _ h=>h) 0 _ rfl) (Ext.refl _) ?_;refine AOJ (k3 I' [] (Ext.refl _) (fun _ h=>h) 0 _ rfl) (Ext.refl _) ?_;simp only [sNe,SSd,Nat.reduceAdd];refine AA (fun h0=>?_) (fun h0=>?_)
  ·have h0:eqB xs[k] ys[k]=false:=by simpa [eqB] using h0
   rw [he,h0] at hk;exact Gh.done hk
  ·have h0:eqB xs[k] ys[k]=true:=by simpa [eqB] using h0
   simp only [wrap_i64 ((k:Int)+1) (by omega),SSd,Nat.reduceAdd];exact Gh.done ⟨q - 1,by omega,k+1,by omega,rfl,rfl,rfl,by rw [he,h0,Bool.true_and]⟩
 ·have hb:¬k < xs.length:=by
   have:=of_decide_eq_false hb;omega
  rw [he,FP (List.drop_eq_nil_of_le (by omega)) (List.drop_eq_nil_of_le (by omega))] at hk;exact Gh.done hk
theorem Ve {u v fv:Value}{f:Ex→Ex→Bool}{xs ys:List (Ex)}(hx:RL ExV 11 I [] u xs)(hy:RL ExV 11 I [] v ys)(hf:FnQ ω fv (GY ExV) f xs)(hl:xs.length≤1000000000000)(hk:K (.bool (eqL f xs ys)) I L):CT ω 61 #[u,v,fv] K I L:=by
 refine AOu ?_;unfold AKp;simp only [RL.len hx,RL.len hy,SSd,Nat.reduceAdd];refine AA (fun h=>?_) (fun h=>?_)
 ·have h:xs.length≠ys.length:=by
   have:¬(xs.length:Int)=ys.length:=by simpa using h
   omega
  rw [Et h] at hk;exact Gh.done hk
 have h:xs.length=ys.length:=by
  have:(xs.length:Int)=ys.length:=by simpa using h
  omega
 try simp only [SSd,Nat.reduceAdd]
 refine loop (fun q st I' L'=>∃k:Nat,k+q=xs.length∧st=(Value.bool false,Value.int .i64 (k:Nat),())∧I'=I∧L'=L∧eqL f xs ys=eqL f (xs.drop k) (ys.drop k)) xs.length ⟨0,by omega,rfl,rfl,rfl,rfl⟩ ?_;rintro q st I' L' ⟨k,hq,rfl,rfl,rfl,he⟩;unfold AAu;try simp only [SSd,Nat.reduceAdd]
 refine AA (fun hb=>?_) (fun hb=>?_)
 ·have hb:k < xs.length:=by
   have:=of_decide_eq_true hb;omega
  have hb2:k < ys.length:=by omega
  obtain ⟨bt,off,c1,g1,gl,g2,g3⟩:=RL.ix hx (i:=k) (by omega) (by omega);obtain ⟨bu,off2,c2,k1,kl,k2,k3⟩:=RL.ix hy (i:=k) (by omega) (by omega);rw [BA hb] at g2;rw [BA hb2] at k2;rw [List.drop_eq_getElem_cons hb,List.drop_eq_getElem_cons hb2] at he;simp only [eqL] at he;simp only [g1,k1,SSd,Nat.reduceAdd];have ho1:=ExV.one g2;have ho2:=ExV.one k2;refine Dq (g3 _ [] (Ext.refl _) (fun _ h=>h)) (Ext.refl _) gl ?_;refine AV (fun b3=>?_);refine stB gl rfl ho1 ?_;refine Dq (k3 I' [] (Ext.refl _) (fun _ h=>h)) (Ext.refl _) kl ?_;refine AV (fun b4=>?_);refine stB kl rfl ho2 ?_;refine rdB gl ?_;refine rdB kl ?_;refine EP (CalV.to L' (hf _ (List.getElem_mem hb) ys[k] I' L' _ _ _ ⟨c1,rfl,g2⟩ ⟨c2,rfl,k2⟩ ?_));try simp only [SSd,Nat.reduceAdd]
  cases hfe:f xs[k] ys[k] with
  |false=>
   rw [he,hfe] at hk;exact Gh.done hk
  |true=>
   simp only [wrap_i64 ((k:Int)+1) (by omega),SSd,Nat.reduceAdd];exact Gh.done ⟨q - 1,by omega,k+1,by omega,rfl,rfl,rfl,by rw [he,hfe,Bool.true_and]⟩
 ·have hb:¬k < xs.length:=by
   have:=of_decide_eq_false hb;omega
  rw [he,FP (List.drop_eq_nil_of_le (by omega)) (List.drop_eq_nil_of_le (by omega))] at hk;exact Gh.done hk
theorem AFy {u v fv:Value}{f:TItem→TItem→Bool}{xs ys:List (TItem)}(hx:RL TItemV 14 I [] u xs)(hy:RL TItemV 14 I [] v ys)(hf:FnQ ω fv (GY TItemV) f xs)(hl:xs.length≤1000000000000)(hk:K (.bool (eqL f xs ys)) I L):CT ω 62 #[u,v,fv] K I L:=by
 refine AOt ?_;unfold AKo;simp only [RL.len hx,RL.len hy,SSd,Nat.reduceAdd];refine AA (fun h=>?_) (fun h=>?_)
 ·have h:xs.length≠ys.length:=by
   have:¬(xs.length:Int)=ys.length:=by simpa using h
   omega
  rw [Et h] at hk;exact Gh.done hk
 have h:xs.length=ys.length:=by
  have:(xs.length:Int)=ys.length:=by simpa using h
  omega
 try simp only [SSd,Nat.reduceAdd]
 refine loop (fun q st I' L'=>∃k:Nat,k+q=xs.length∧st=(Value.bool false,Value.int .i64 (k:Nat),())∧I'=I∧L'=L∧eqL f xs ys=eqL f (xs.drop k) (ys.drop k)) xs.length ⟨0,by omega,rfl,rfl,rfl,rfl⟩ ?_;rintro q st I' L' ⟨k,hq,rfl,rfl,rfl,he⟩;unfold AAt;try simp only [SSd,Nat.reduceAdd]
 refine AA (fun hb=>?_) (fun hb=>?_)
 ·have hb:k < xs.length:=by
   have:=of_decide_eq_true hb;omega
  have hb2:k < ys.length:=by omega
  obtain ⟨bt,off,c1,g1,gl,g2,g3⟩:=RL.ix hx (i:=k) (by omega) (by omega);obtain ⟨bu,off2,c2,k1,kl,k2,k3⟩:=RL.ix hy (i:=k) (by omega) (by omega);rw [BA hb] at g2;rw [BA hb2] at k2;rw [List.drop_eq_getElem_cons hb,List.drop_eq_getElem_cons hb2] at he;simp only [eqL] at he;simp only [g1,k1,SSd,Nat.reduceAdd];have ho1:=TItemV.one g2;have ho2:=TItemV.one k2;refine Dq (g3 _ [] (Ext.refl _) (fun _ h=>h)) (Ext.refl _) gl ?_;refine AV (fun b3=>?_);refine stB gl rfl ho1 ?_;refine Dq (k3 I' [] (Ext.refl _) (fun _ h=>h)) (Ext.refl _) kl ?_;refine AV (fun b4=>?_);refine stB kl rfl ho2 ?_;refine rdB gl ?_;refine rdB kl ?_;refine EP (CalV.to L' (hf _ (List.getElem_mem hb) ys[k] I' L' _ _ _ ⟨c1,rfl,g2⟩ ⟨c2,rfl,k2⟩ ?_));try simp only [SSd,Nat.reduceAdd]
  cases hfe:f xs[k] ys[k] with
  |false=>
   rw [he,hfe] at hk;exact Gh.done hk
  |true=>
   simp only [wrap_i64 ((k:Int)+1) (by omega),SSd,Nat.reduceAdd];exact Gh.done ⟨q - 1,by omega,k+1,by omega,rfl,rfl,rfl,by rw [he,hfe,Bool.true_and]⟩
 ·have hb:¬k < xs.length:=by
   have:=of_decide_eq_false hb;omega
  rw [he,FP (List.drop_eq_nil_of_le (by omega)) (List.drop_eq_nil_of_le (by omega))] at hk;exact Gh.done hk
theorem Vd {u v fv:Value}{f:TSource→TSource→Bool}{xs ys:List (TSource)}(hx:RL TSourceV 14 I [] u xs)(hy:RL TSourceV 14 I [] v ys)(hf:FnQ ω fv (GY TSourceV) f xs)(hl:xs.length≤1000000000000)(hk:K (.bool (eqL f xs ys)) I L):CT ω 64 #[u,v,fv] K I L:=by
 refine AOr ?_;unfold AKm;simp only [RL.len hx,RL.len hy,SSd,Nat.reduceAdd];refine AA (fun h=>?_) (fun h=>?_)
 ·have h:xs.length≠ys.length:=by
   have:¬(xs.length:Int)=ys.length:=by simpa using h
   omega
  rw [Et h] at hk;exact Gh.done hk
 have h:xs.length=ys.length:=by
  have:(xs.length:Int)=ys.length:=by simpa using h
  omega
 try simp only [SSd,Nat.reduceAdd]
 refine loop (fun q st I' L'=>∃k:Nat,k+q=xs.length∧st=(Value.bool false,Value.int .i64 (k:Nat),())∧I'=I∧L'=L∧eqL f xs ys=eqL f (xs.drop k) (ys.drop k)) xs.length ⟨0,by omega,rfl,rfl,rfl,rfl⟩ ?_;rintro q st I' L' ⟨k,hq,rfl,rfl,rfl,he⟩;unfold AAs;try simp only [SSd,Nat.reduceAdd]
 refine AA (fun hb=>?_) (fun hb=>?_)
 ·have hb:k < xs.length:=by
   have:=of_decide_eq_true hb;omega
  have hb2:k < ys.length:=by omega
  obtain ⟨bt,off,c1,g1,gl,g2,g3⟩:=RL.ix hx (i:=k) (by omega) (by omega);obtain ⟨bu,off2,c2,k1,kl,k2,k3⟩:=RL.ix hy (i:=k) (by omega) (by omega);rw [BA hb] at g2;rw [BA hb2] at k2;rw [List.drop_eq_getElem_cons hb,List.drop_eq_getElem_cons hb2] at he;simp only [eqL] at he;simp only [g1,k1,SSd,Nat.reduceAdd];have ho1:=TSourceV.one g2;have ho2:=TSourceV.one k2;refine Dq (g3 _ [] (Ext.refl _) (fun _ h=>h)) (Ext.refl _) gl ?_;refine AV (fun b3=>?_);refine stB gl rfl ho1 ?_;refine Dq (k3 I' [] (Ext.refl _) (fun _ h=>h)) (Ext.refl _) kl ?_;refine AV (fun b4=>?_);refine stB kl rfl ho2 ?_;refine rdB gl ?_;refine rdB kl ?_;refine EP (CalV.to L' (hf _ (List.getElem_mem hb) ys[k] I' L' _ _ _ ⟨c1,rfl,g2⟩ ⟨c2,rfl,k2⟩ ?_));try simp only [SSd,Nat.reduceAdd]
  cases hfe:f xs[k] ys[k] with
  |false=>
   rw [he,hfe] at hk;exact Gh.done hk
  |true=>
   simp only [wrap_i64 ((k:Int)+1) (by omega),SSd,Nat.reduceAdd];exact Gh.done ⟨q - 1,by omega,k+1,by omega,rfl,rfl,rfl,by rw [he,hfe,Bool.true_and]⟩
 ·have hb:¬k < xs.length:=by
   have:=of_decide_eq_false hb;omega
  rw [he,FP (List.drop_eq_nil_of_le (by omega)) (List.drop_eq_nil_of_le (by omega))] at hk;exact Gh.done hk
theorem ZV {u v fv:Value}{f:TOrder→TOrder→Bool}{xs ys:List (TOrder)}(hx:RL TOrderV 12 I [] u xs)(hy:RL TOrderV 12 I [] v ys)(hf:FnQ ω fv (GY TOrderV) f xs)(hl:xs.length≤1000000000000)(hk:K (.bool (eqL f xs ys)) I L):CT ω 66 #[u,v,fv] K I L:=by
 refine AOp ?_;unfold AKk;simp only [RL.len hx,RL.len hy,SSd,Nat.reduceAdd];refine AA (fun h=>?_) (fun h=>?_)
 ·have h:xs.length≠ys.length:=by
   have:¬(xs.length:Int)=ys.length:=by simpa using h
   omega
  rw [Et h] at hk;exact Gh.done hk
 have h:xs.length=ys.length:=by
  have:(xs.length:Int)=ys.length:=by simpa using h
  omega
 try simp only [SSd,Nat.reduceAdd]
 refine loop (fun q st I' L'=>∃k:Nat,k+q=xs.length∧st=(Value.bool false,Value.int .i64 (k:Nat),())∧I'=I∧L'=L∧eqL f xs ys=eqL f (xs.drop k) (ys.drop k)) xs.length ⟨0,by omega,rfl,rfl,rfl,rfl⟩ ?_;rintro q st I' L' ⟨k,hq,rfl,rfl,rfl,he⟩;unfold AAr;try simp only [SSd,Nat.reduceAdd]
 refine AA (fun hb=>?_) (fun hb=>?_)
 ·have hb:k < xs.length:=by
   have:=of_decide_eq_true hb;omega
  have hb2:k < ys.length:=by omega
  obtain ⟨bt,off,c1,g1,gl,g2,g3⟩:=RL.ix hx (i:=k) (by omega) (by omega);obtain ⟨bu,off2,c2,k1,kl,k2,k3⟩:=RL.ix hy (i:=k) (by omega) (by omega);rw [BA hb] at g2;rw [BA hb2] at k2;rw [List.drop_eq_getElem_cons hb,List.drop_eq_getElem_cons hb2] at he;simp only [eqL] at he;simp only [g1,k1,SSd,Nat.reduceAdd];have ho1:=TOrderV.one g2;have ho2:=TOrderV.one k2;refine Dq (g3 _ [] (Ext.refl _) (fun _ h=>h)) (Ext.refl _) gl ?_;refine AV (fun b3=>?_);refine stB gl rfl ho1 ?_;refine Dq (k3 I' [] (Ext.refl _) (fun _ h=>h)) (Ext.refl _) kl ?_;refine AV (fun b4=>?_);refine stB kl rfl ho2 ?_;refine rdB gl ?_;refine rdB kl ?_;refine EP (CalV.to L' (hf _ (List.getElem_mem hb) ys[k] I' L' _ _ _ ⟨c1,rfl,g2⟩ ⟨c2,rfl,k2⟩ ?_));try simp only [SSd,Nat.reduceAdd]
  cases hfe:f xs[k] ys[k] with
  |false=>
   rw [he,hfe] at hk;exact Gh.done hk
  |true=>
   simp only [wrap_i64 ((k:Int)+1) (by omega),SSd,Nat.reduceAdd];exact Gh.done ⟨q - 1,by omega,k+1,by omega,rfl,rfl,rfl,by rw [he,hfe,Bool.true_and]⟩
 ·have hb:¬k < xs.length:=by
   have:=of_decide_eq_false hb;omega
  rw [he,FP (List.drop_eq_nil_of_le (by omega)) (List.drop_eq_nil_of_le (by omega))] at hk;exact Gh.done hk
theorem AJJ {u v fv:Value}{f:TSet→TSet→Bool}{xs ys:List (TSet)}(hx:RL TSetV 12 I [] u xs)(hy:RL TSetV 12 I [] v ys)(hf:FnQ ω fv (GY TSetV) f xs)(hl:xs.length≤1000000000000)(hk:K (.bool (eqL f xs ys)) I L):CT ω 70 #[u,v,fv] K I L:=by
 refine AOl ?_;unfold AKg;simp only [RL.len hx,RL.len hy,SSd,Nat.reduceAdd];refine AA (fun h=>?_) (fun h=>?_)
 ·have h:xs.length≠ys.length:=by
   have:¬(xs.length:Int)=ys.length:=by simpa using h
   omega
  rw [Et h] at hk;exact Gh.done hk
 have h:xs.length=ys.length:=by
  have:(xs.length:Int)=ys.length:=by simpa using h
  omega
 try simp only [SSd,Nat.reduceAdd]
 refine loop (fun q st I' L'=>∃k:Nat,k+q=xs.length∧st=(Value.bool false,Value.int .i64 (k:Nat),())∧I'=I∧L'=L∧eqL f xs ys=eqL f (xs.drop k) (ys.drop k)) xs.length ⟨0,by omega,rfl,rfl,rfl,rfl⟩ ?_;rintro q st I' L' ⟨k,hq,rfl,rfl,rfl,he⟩;unfold AAp;try simp only [SSd,Nat.reduceAdd]
 refine AA (fun hb=>?_) (fun hb=>?_)
 ·have hb:k < xs.length:=by
   have:=of_decide_eq_true hb;omega
  have hb2:k < ys.length:=by omega
  obtain ⟨bt,off,c1,g1,gl,g2,g3⟩:=RL.ix hx (i:=k) (by omega) (by omega);obtain ⟨bu,off2,c2,k1,kl,k2,k3⟩:=RL.ix hy (i:=k) (by omega) (by omega);rw [BA hb] at g2;rw [BA hb2] at k2;rw [List.drop_eq_getElem_cons hb,List.drop_eq_getElem_cons hb2] at he;simp only [eqL] at he;simp only [g1,k1,SSd,Nat.reduceAdd];have ho1:=TSetV.one g2;have ho2:=TSetV.one k2;refine Dq (g3 _ [] (Ext.refl _) (fun _ h=>h)) (Ext.refl _) gl ?_;refine AV (fun b3=>?_);refine stB gl rfl ho1 ?_;refine Dq (k3 I' [] (Ext.refl _) (fun _ h=>h)) (Ext.refl _) kl ?_;refine AV (fun b4=>?_);refine stB kl rfl ho2 ?_;refine rdB gl ?_;refine rdB kl ?_;refine EP (CalV.to L' (hf _ (List.getElem_mem hb) ys[k] I' L' _ _ _ ⟨c1,rfl,g2⟩ ⟨c2,rfl,k2⟩ ?_));try simp only [SSd,Nat.reduceAdd]
  cases hfe:f xs[k] ys[k] with
  |false=>
   rw [he,hfe] at hk;exact Gh.done hk
  |true=>
   simp only [wrap_i64 ((k:Int)+1) (by omega),SSd,Nat.reduceAdd];exact Gh.done ⟨q - 1,by omega,k+1,by omega,rfl,rfl,rfl,by rw [he,hfe,Bool.true_and]⟩
 ·have hb:¬k < xs.length:=by
   have:=of_decide_eq_false hb;omega
  rw [he,FP (List.drop_eq_nil_of_le (by omega)) (List.drop_eq_nil_of_le (by omega))] at hk;exact Gh.done hk
theorem AJL {u v fv:Value}{f:TCol→TCol→Bool}{xs ys:List (TCol)}(hx:RL TColV 16 I [] u xs)(hy:RL TColV 16 I [] v ys)(hf:FnQ ω fv (GY TColV) f xs)(hl:xs.length≤1000000000000)(hk:K (.bool (eqL f xs ys)) I L):CT ω 72 #[u,v,fv] K I L:=by
 refine AOj ?_;unfold AKe;simp only [RL.len hx,RL.len hy,SSd,Nat.reduceAdd];refine AA (fun h=>?_) (fun h=>?_)
 ·have h:xs.length≠ys.length:=by
   have:¬(xs.length:Int)=ys.length:=by simpa using h
   omega
  rw [Et h] at hk;exact Gh.done hk
 have h:xs.length=ys.length:=by
  have:(xs.length:Int)=ys.length:=by simpa using h
  omega
 try simp only [SSd,Nat.reduceAdd]
 refine loop (fun q st I' L'=>∃k:Nat,k+q=xs.length∧st=(Value.bool false,Value.int .i64 (k:Nat),())∧I'=I∧L'=L∧eqL f xs ys=eqL f (xs.drop k) (ys.drop k)) xs.length ⟨0,by omega,rfl,rfl,rfl,rfl⟩ ?_;rintro q st I' L' ⟨k,hq,rfl,rfl,rfl,he⟩;unfold AAo;try simp only [SSd,Nat.reduceAdd]
 refine AA (fun hb=>?_) (fun hb=>?_)
 ·have hb:k < xs.length:=by
   have:=of_decide_eq_true hb;omega
  have hb2:k < ys.length:=by omega
  obtain ⟨bt,off,c1,g1,gl,g2,g3⟩:=RL.ix hx (i:=k) (by omega) (by omega);obtain ⟨bu,off2,c2,k1,kl,k2,k3⟩:=RL.ix hy (i:=k) (by omega) (by omega);rw [BA hb] at g2;rw [BA hb2] at k2;rw [List.drop_eq_getElem_cons hb,List.drop_eq_getElem_cons hb2] at he;simp only [eqL] at he;simp only [g1,k1,SSd,Nat.reduceAdd];have ho1:=TColV.one g2;have ho2:=TColV.one k2;refine Dq (g3 _ [] (Ext.refl _) (fun _ h=>h)) (Ext.refl _) gl ?_;refine AV (fun b3=>?_);refine stB gl rfl ho1 ?_;refine Dq (k3 I' [] (Ext.refl _) (fun _ h=>h)) (Ext.refl _) kl ?_;refine AV (fun b4=>?_);refine stB kl rfl ho2 ?_;refine rdB gl ?_;refine rdB kl ?_;refine EP (CalV.to L' (hf _ (List.getElem_mem hb) ys[k] I' L' _ _ _ ⟨c1,rfl,g2⟩ ⟨c2,rfl,k2⟩ ?_));try simp only [SSd,Nat.reduceAdd]
  cases hfe:f xs[k] ys[k] with
  |false=>
   rw [he,hfe] at hk;exact Gh.done hk
  |true=>
   simp only [wrap_i64 ((k:Int)+1) (by omega),SSd,Nat.reduceAdd];exact Gh.done ⟨q - 1,by omega,k+1,by omega,rfl,rfl,rfl,by rw [he,hfe,Bool.true_and]⟩
 ·have hb:¬k < xs.length:=by
   have:=of_decide_eq_false hb;omega
  rw [he,FP (List.drop_eq_nil_of_le (by omega)) (List.drop_eq_nil_of_le (by omega))] at hk;exact Gh.done hk
theorem AJK {u v fv:Value}{f:List Ex→List Ex→Bool}{xs ys:List (List Ex)}(hx:RL (FU ExV 11) 1 I [] u xs)(hy:RL (FU ExV 11) 1 I [] v ys)(hf:FnQ ω fv (AHK (FU ExV 11)) f xs)(hl:xs.length≤1000000000000)(hk:K (.bool (eqL f xs ys)) I L):CT ω 68 #[u,v,fv] K I L:=by
 refine AOn ?_;unfold AKi;simp only [RL.len hx,RL.len hy,SSd,Nat.reduceAdd];refine AA (fun h=>?_) (fun h=>?_)
 ·have h:xs.length≠ys.length:=by
   have:¬(xs.length:Int)=ys.length:=by simpa using h
   omega
  rw [Et h] at hk;exact Gh.done hk
 have h:xs.length=ys.length:=by
  have:(xs.length:Int)=ys.length:=by simpa using h
  omega
 try simp only [SSd,Nat.reduceAdd]
 refine loop (fun q st I' L'=>∃k:Nat,k+q=xs.length∧st=(Value.bool false,Value.int .i64 (k:Nat),())∧I'=I∧L'=L∧eqL f xs ys=eqL f (xs.drop k) (ys.drop k)) xs.length ⟨0,by omega,rfl,rfl,rfl,rfl⟩ ?_;rintro q st I' L' ⟨k,hq,rfl,rfl,rfl,he⟩;unfold AAq;try simp only [SSd,Nat.reduceAdd]
 refine AA (fun hb=>?_) (fun hb=>?_)
 ·have hb:k < xs.length:=by
   have:=of_decide_eq_true hb;omega
  have hb2:k < ys.length:=by omega
  obtain ⟨bt,off,c1,g1,gl,g2,g3⟩:=RL.ix hx (i:=k) (by omega) (by omega);obtain ⟨bu,off2,c2,k1,kl,k2,k3⟩:=RL.ix hy (i:=k) (by omega) (by omega);rw [BA hb] at g2;rw [BA hb2] at k2;rw [List.drop_eq_getElem_cons hb,List.drop_eq_getElem_cons hb2] at he;simp only [eqL] at he;simp only [g1,k1,SSd,Nat.reduceAdd];obtain ⟨w1,rfl⟩:∃u,c1=[u]:=by match c1,gl with|[u],_=>exact ⟨u,rfl⟩
  obtain ⟨w2,rfl⟩:∃u,c2=[u]:=by match c2,kl with|[u],_=>exact ⟨u,rfl⟩
  refine rdC (g3 I' [] (Ext.refl _) (fun _ h=>h) 0 _ rfl) (Ext.refl _) ?_;refine rdC (k3 I' [] (Ext.refl _) (fun _ h=>h) 0 _ rfl) (Ext.refl _) ?_;refine EP (CalV.to L' (hf _ (List.getElem_mem hb) ys[k] I' L' _ _ _ g2 k2 ?_));try simp only [SSd,Nat.reduceAdd]
  cases hfe:f xs[k] ys[k] with
  |false=>
   rw [he,hfe] at hk;exact Gh.done hk
  |true=>
   simp only [wrap_i64 ((k:Int)+1) (by omega),SSd,Nat.reduceAdd];exact Gh.done ⟨q - 1,by omega,k+1,by omega,rfl,rfl,rfl,by rw [he,hfe,Bool.true_and]⟩
 ·have hb:¬k < xs.length:=by
   have:=of_decide_eq_false hb;omega
  rw [he,FP (List.drop_eq_nil_of_le (by omega)) (List.drop_eq_nil_of_le (by omega))] at hk;exact Gh.done hk
theorem Ba:∀(n:Nat) (x:Ex),Cm x≤n→okE x→∀(y:Ex) (I:Imm) (L:LH) (c d:List Value) (K:Value→M),ExV I x c→ExV I y d→K (.bool (EL x y)) I L→CT ω 60 #[.agg c.toArray,.agg d.toArray] K I L
 |0,x,h,_,_,_,_,_,_,_,_,_,_=>by have:=He x;omega
 |n+1,x,hd,hok,y,I,L,c,d,K,hx,hy,hk=>by
  obtain ⟨v,rfl,ha⟩:=ExV.iff.1 hx;obtain ⟨u,rfl,hb⟩:=ExV.iff.1 hy;have hdd:=EO x;have hfn:FnQ ω (.func (.func 60) #[] #[]) (GY ExV) EL x.args:=by
   rintro z hz y I L _ _ K ⟨c,rfl,hc⟩ ⟨d,rfl,hd'⟩ hk;have:=GH hz;exact EC (by kernel_rfl) (Ba n z (by omega) (FO (Gx hok).2.2 hz) y I L c d K hc hd' hk)
  have hk2:∀(t:Bool) (L':LH),t=EL x y→SubP L L'→Gh (K (.bool t)) I L':=by
   intro t L' ht hs;rw [ht];exact Gh.to L (Gh.done hk)
  refine AOv ?_;unfold AKq;refine AV (fun b1=>AV (fun b2=>?_));have hse:=AEq x y;rw [AOG] at hse;repeat' (first|(with_reducible first|refine Ag ?_|refine Af ?_|refine Ae ?_|refine keepA ?_|refine AV (fun _=>?_))|((with_reducible refine call ?_);with_reducible refine Ve (ω:=ω) ha hb hfn (Gx hok).2.1 ?_)|(with_reducible refine rdb ?_)|((with_reducible first|refine st1 ?_ ?_|refine rdB ?_ ?_);rfl)|(with_reducible refine Ai ?_)|((with_reducible refine Az ?_ ?_);rfl)|((with_reducible refine stB ?_ ?_ ?_ ?_);rfl;rfl;exact AO rfl)|((with_reducible first|refine rdP _ rfl ?_ ?_|refine BB _ rfl ?_ ?_);rfl)|((with_reducible refine stP _ rfl ?_ ?_ ?_ ?_);rfl;rfl;rfl)|(with_reducible refine And.intro ?_ ?_)|(simp only [SSg,Int.reduceBEq,Int.reduceBNe,Int.reduceLT,Int.reduceLE,beq_self_eq_true,bne_self_eq_false])|(with_reducible first|refine AP (fun _=>?_) (fun _=>?_)|refine AA (fun _=>?_) (fun _=>?_))|(simp only [SSd,Nat.reduceAdd,AOF]))
  all_goals (refine hk2 _ _ ?_ inferInstance;rw [hse];clear hse hk2 hk;simp_all)
theorem AAc {xs:List TItem}(hxs:∀x∈xs,okE x.fExpr):FnQ ω (.func (.func 63) #[] #[]) (GY TItemV) sIt xs:=by
 rintro x hz y I L _ _ K ⟨c,rfl,⟨v0,rfl,h0⟩⟩ ⟨d,rfl,⟨u0,rfl,k0⟩⟩ hk;have hok:=hxs x hz;refine EC (by kernel_rfl) ?_;have hk2:∀(t:Bool) (L':LH),t=sIt x y→SubP L L'→Gh (K (.bool t)) I L':=by
  intro t L' ht hs;rw [ht];exact Gh.to L (Gh.done hk)
 refine AOs ?_;unfold AKn;refine AV (fun b1=>AV (fun b2=>?_));unfold sIt at hk2;repeat' (first|(with_reducible first|refine Ag ?_|refine Af ?_|refine Ae ?_|refine keepA ?_|refine AV (fun _=>?_))|((with_reducible refine call ?_);with_reducible refine Ba (ω:=ω) _ x.fExpr (Nat.le_refl _) hok y.fExpr _ _ _ _ _ (ExV.iff.2 ⟨v0,rfl,h0⟩) (ExV.iff.2 ⟨u0,rfl,k0⟩) ?_)|(with_reducible refine rdb ?_)|((with_reducible first|refine st1 ?_ ?_|refine rdB ?_ ?_);rfl)|(with_reducible refine Ai ?_)|((with_reducible refine Az ?_ ?_);rfl)|((with_reducible refine stB ?_ ?_ ?_ ?_);rfl;rfl;exact AO rfl)|((with_reducible first|refine rdP _ rfl ?_ ?_|refine BB _ rfl ?_ ?_);rfl)|((with_reducible refine stP _ rfl ?_ ?_ ?_ ?_);rfl;rfl;rfl)|(with_reducible refine And.intro ?_ ?_)|(simp only [SSg,Int.reduceBEq,Int.reduceBNe,Int.reduceLT,Int.reduceLE,beq_self_eq_true,bne_self_eq_false])|(with_reducible first|refine AP (fun _=>?_) (fun _=>?_)|refine AA (fun _=>?_) (fun _=>?_))|(simp only [SSd,Nat.reduceAdd]))
 all_goals (refine hk2 _ _ ?_ inferInstance;clear hk2 hk;simp_all)
theorem VC {xs:List TSource}(hxs:∀x∈xs,okE x.fOn):FnQ ω (.func (.func 65) #[] #[]) (GY TSourceV) sSo xs:=by
 rintro x hz y I L _ _ K ⟨c,rfl,⟨v0,rfl,h0⟩⟩ ⟨d,rfl,⟨u0,rfl,k0⟩⟩ hk;have hok:=hxs x hz;refine EC (by kernel_rfl) ?_;have hk2:∀(t:Bool) (L':LH),t=sSo x y→SubP L L'→Gh (K (.bool t)) I L':=by
  intro t L' ht hs;rw [ht];exact Gh.to L (Gh.done hk)
 refine AOq ?_;unfold AKl;refine AV (fun b1=>AV (fun b2=>?_));unfold sSo at hk2;repeat' (first|(with_reducible first|refine Ag ?_|refine Af ?_|refine Ae ?_|refine keepA ?_|refine AV (fun _=>?_))|((with_reducible refine call ?_);with_reducible refine Ba (ω:=ω) _ x.fOn (Nat.le_refl _) hok y.fOn _ _ _ _ _ (ExV.iff.2 ⟨v0,rfl,h0⟩) (ExV.iff.2 ⟨u0,rfl,k0⟩) ?_)|(with_reducible refine rdb ?_)|((with_reducible first|refine st1 ?_ ?_|refine rdB ?_ ?_);rfl)|(with_reducible refine Ai ?_)|((with_reducible refine Az ?_ ?_);rfl)|((with_reducible refine stB ?_ ?_ ?_ ?_);rfl;rfl;exact AO rfl)|((with_reducible first|refine rdP _ rfl ?_ ?_|refine BB _ rfl ?_ ?_);rfl)|((with_reducible refine stP _ rfl ?_ ?_ ?_ ?_);rfl;rfl;rfl)|(with_reducible refine And.intro ?_ ?_)|(simp only [SSg,Int.reduceBEq,Int.reduceBNe,Int.reduceLT,Int.reduceLE,beq_self_eq_true,bne_self_eq_false])|(with_reducible first|refine AP (fun _=>?_) (fun _=>?_)|refine AA (fun _=>?_) (fun _=>?_))|(simp only [SSd,Nat.reduceAdd]))
 all_goals (refine hk2 _ _ ?_ inferInstance;clear hk2 hk;simp_all)
theorem Yo {xs:List TOrder}(hxs:∀x∈xs,okE x.fExpr):FnQ ω (.func (.func 67) #[] #[]) (GY TOrderV) sOr xs:=by
 rintro x hz y I L _ _ K ⟨c,rfl,⟨v0,rfl,h0⟩⟩ ⟨d,rfl,⟨u0,rfl,k0⟩⟩ hk;have hok:=hxs x hz;refine EC (by kernel_rfl) ?_;have hk2:∀(t:Bool) (L':LH),t=sOr x y→SubP L L'→Gh (K (.bool t)) I L':=by
  intro t L' ht hs;rw [ht];exact Gh.to L (Gh.done hk)
 refine AOo ?_;unfold AKj;refine AV (fun b1=>AV (fun b2=>?_));unfold sOr at hk2;repeat' (first|(with_reducible first|refine Ag ?_|refine Af ?_|refine Ae ?_|refine keepA ?_|refine AV (fun _=>?_))|((with_reducible refine call ?_);with_reducible refine Ba (ω:=ω) _ x.fExpr (Nat.le_refl _) hok y.fExpr _ _ _ _ _ (ExV.iff.2 ⟨v0,rfl,h0⟩) (ExV.iff.2 ⟨u0,rfl,k0⟩) ?_)|(with_reducible refine rdb ?_)|((with_reducible first|refine st1 ?_ ?_|refine rdB ?_ ?_);rfl)|(with_reducible refine Ai ?_)|((with_reducible refine Az ?_ ?_);rfl)|((with_reducible refine stB ?_ ?_ ?_ ?_);rfl;rfl;exact AO rfl)|((with_reducible first|refine rdP _ rfl ?_ ?_|refine BB _ rfl ?_ ?_);rfl)|((with_reducible refine stP _ rfl ?_ ?_ ?_ ?_);rfl;rfl;rfl)|(with_reducible refine And.intro ?_ ?_)|(simp only [SSg,Int.reduceBEq,Int.reduceBNe,Int.reduceLT,Int.reduceLE,beq_self_eq_true,bne_self_eq_false])|(with_reducible first|refine AP (fun _=>?_) (fun _=>?_)|refine AA (fun _=>?_) (fun _=>?_))|(simp only [SSd,Nat.reduceAdd]))
 all_goals (refine hk2 _ _ ?_ inferInstance;clear hk2 hk;simp_all)
theorem AHX {xs:List TSet}(hxs:∀x∈xs,okE x.fExpr):FnQ ω (.func (.func 71) #[] #[]) (GY TSetV) sSe xs:=by
 rintro x hz y I L _ _ K ⟨c,rfl,⟨v0,rfl,h0⟩⟩ ⟨d,rfl,⟨u0,rfl,k0⟩⟩ hk;have hok:=hxs x hz;refine EC (by kernel_rfl) ?_;have hk2:∀(t:Bool) (L':LH),t=sSe x y→SubP L L'→Gh (K (.bool t)) I L':=by
  intro t L' ht hs;rw [ht];exact Gh.to L (Gh.done hk)
 refine AOk ?_;unfold AKf;refine AV (fun b1=>AV (fun b2=>?_));unfold sSe at hk2;repeat' (first|(with_reducible first|refine Ag ?_|refine Af ?_|refine Ae ?_|refine keepA ?_|refine AV (fun _=>?_))|((with_reducible refine call ?_);with_reducible refine Ba (ω:=ω) _ x.fExpr (Nat.le_refl _) hok y.fExpr _ _ _ _ _ (ExV.iff.2 ⟨v0,rfl,h0⟩) (ExV.iff.2 ⟨u0,rfl,k0⟩) ?_)|(with_reducible refine rdb ?_)|((with_reducible first|refine st1 ?_ ?_|refine rdB ?_ ?_);rfl)|(with_reducible refine Ai ?_)|((with_reducible refine Az ?_ ?_);rfl)|((with_reducible refine stB ?_ ?_ ?_ ?_);rfl;rfl;exact AO rfl)|((with_reducible first|refine rdP _ rfl ?_ ?_|refine BB _ rfl ?_ ?_);rfl)|((with_reducible refine stP _ rfl ?_ ?_ ?_ ?_);rfl;rfl;rfl)|(with_reducible refine And.intro ?_ ?_)|(simp only [SSg,Int.reduceBEq,Int.reduceBNe,Int.reduceLT,Int.reduceLE,beq_self_eq_true,bne_self_eq_false])|(with_reducible first|refine AP (fun _=>?_) (fun _=>?_)|refine AA (fun _=>?_) (fun _=>?_))|(simp only [SSd,Nat.reduceAdd]))
 all_goals (refine hk2 _ _ ?_ inferInstance;clear hk2 hk;simp_all)
theorem AIa {xs:List TCol}(hxs:∀x∈xs,okE x.fDefault):FnQ ω (.func (.func 73) #[] #[]) (GY TColV) sCo xs:=by
 rintro x hz y I L _ _ K ⟨c,rfl,⟨v0,rfl,h0⟩⟩ ⟨d,rfl,⟨u0,rfl,k0⟩⟩ hk;have hok:=hxs x hz;refine EC (by kernel_rfl) ?_;have hk2:∀(t:Bool) (L':LH),t=sCo x y→SubP L L'→Gh (K (.bool t)) I L':=by
  intro t L' ht hs;rw [ht];exact Gh.to L (Gh.done hk)
 refine AOi ?_;unfold AKd;refine AV (fun b1=>AV (fun b2=>?_));unfold sCo at hk2;repeat' (first|(with_reducible first|refine Ag ?_|refine Af ?_|refine Ae ?_|refine keepA ?_|refine AV (fun _=>?_))|((with_reducible refine call ?_);with_reducible refine Ba (ω:=ω) _ x.fDefault (Nat.le_refl _) hok y.fDefault _ _ _ _ _ (ExV.iff.2 ⟨v0,rfl,h0⟩) (ExV.iff.2 ⟨u0,rfl,k0⟩) ?_)|(with_reducible refine rdb ?_)|((with_reducible first|refine st1 ?_ ?_|refine rdB ?_ ?_);rfl)|(with_reducible refine Ai ?_)|((with_reducible refine Az ?_ ?_);rfl)|((with_reducible refine stB ?_ ?_ ?_ ?_);rfl;rfl;exact AO rfl)|((with_reducible first|refine rdP _ rfl ?_ ?_|refine BB _ rfl ?_ ?_);rfl)|((with_reducible refine stP _ rfl ?_ ?_ ?_ ?_);rfl;rfl;rfl)|(with_reducible refine And.intro ?_ ?_)|(simp only [SSg,Int.reduceBEq,Int.reduceBNe,Int.reduceLT,Int.reduceLE,beq_self_eq_true,bne_self_eq_false])|(with_reducible first|refine AP (fun _=>?_) (fun _=>?_)|refine AA (fun _=>?_) (fun _=>?_))|(simp only [SSd,Nat.reduceAdd]))
 all_goals (refine hk2 _ _ ?_ inferInstance;clear hk2 hk;simp_all)
theorem AHY {xs:List (List Ex)}(hxs:∀x∈xs,okL x∧x.length≤1000000000000):FnQ ω (.func (.func 69) #[] #[]) (AHK (FU ExV 11)) (eqL EL) xs:=by
 intro x hz y I L u v K hu hv hk;obtain ⟨u',hu',h0⟩:=(show FU ExV 11 I x [u] from hu);obtain ⟨v',hv',k0⟩:=(show FU ExV 11 I y [v] from hv);obtain rfl:u=u':=by simpa using hu'
 obtain rfl:v=v':=by simpa using hv'
 refine EC (by kernel_rfl) ?_;refine AOm ?_;unfold AKh;refine call (Ve h0 k0 ?_ (hxs x hz).2 (Gh.done hk));rintro z hzz y I L _ _ K ⟨c,rfl,hc⟩ ⟨d,rfl,hd'⟩ hk;exact EC (by kernel_rfl) (Ba _ z (Nat.le_refl _) (FO (hxs x hz).1 hzz) y I L c d K hc hd' hk)
end
theorem Tm {l:List TStmt}{k:Nat}(h:k < l.length):BM (l.take (k+1))=BM (l.take k)+Fp l[k]:=by
 rw [List.take_succ_eq_append_getElem h];simp only [BM,List.map_append,List.sum_append,List.map_cons,List.map_nil,List.sum_cons,List.sum_nil,Nat.add_zero]
theorem Qa:∀a b:List TStmt,DW (a++b)=max (DW a) (DW b)
 |[],b=>by simp [DW]
 |x::a,b=>by simp only [List.cons_append,DW,Qa a b];omega
theorem Vh {l:List TStmt}{k:Nat}(h:k < l.length):DW (l.take (k+1))=max (DW (l.take k)) (QZ l[k]):=by
 rw [List.take_succ_eq_append_getElem h,Qa];simp [DW]
theorem ZF {l:List TStmt}(k:Nat):BM (l.take k)≤BM l:=by
 have h:BM l=BM (l.take k)+BM (l.drop k):=by
  unfold BM;rw [←List.sum_append,←List.map_append,List.take_append_drop]
 omega
theorem OT:∀l:List TStmt,l.length≤BM l
 |[]=>Nat.zero_le _
 |s::l=>by
  have:=OT l;simp only [BM,List.map_cons,List.sum_cons,List.length_cons,Fp] at this ⊢;omega
section
variable {ω:Om}
theorem Yr {I:Imm}{L:LH}{K:Value→M}{v:Value}{l:List TStmt}(hl:RL TStmtV 51 I [] v l)(hp:BM l≤1000000000)(hc:∀s∈l,cS s≤1000000000)
  (hk:∀I',Ext I I'→K (.tuple #[.int .i64 (BM l:Nat),.int .i64 (DW l:Nat)]) I' L):CT ω 47 #[v] K I L:=by
 refine AOx ?_;unfold AKt;simp only [RL.len hl,SSd,Nat.reduceAdd];refine AV (fun b1=>?_);refine AV (fun b2=>?_);refine st1 rfl ?_;refine st1 rfl ?_;have hlen:=OT l;refine loop (fun q st I' L'=>∃k:Nat,k+q=l.length∧st=(.int .i64 k,())∧Ext I I'∧L'=(b2,DF (DW (l.take k)))::(b1,DF (BM (l.take k)+(l.length - k)))::L) l.length ⟨0,by omega,rfl,Ext.refl _,?_⟩ ?_
 ·rw [show ((BM (l.take 0):Nat):Int)+((l.length:Int) - (0:Nat))=l.length by simp [BM]];rfl
 rintro q st I' L' ⟨k,hkq,rfl,hI',rfl⟩;unfold AAw;try simp only [SSd,Nat.reduceAdd]
 refine AA (fun hb=>?_) (fun hb=>?_)
 ·have hb:k < l.length:=by
   have:=of_decide_eq_true hb;omega
  obtain ⟨bt,off,c1,g1,gl,g2,g3⟩:=RL.ix hl (i:=k) (by omega) (by omega);rw [BA hb] at g2;have g2:=g2.mono hI';have hone:=TStmtV.one g2;simp only [g1,SSd,Nat.reduceAdd];refine Dq (g3 _ [] hI' (fun _ h=>h)) (Ext.refl _) gl ?_;refine AV (fun b3=>?_);refine stB gl rfl hone ?_;refine rdB gl ?_;refine call ?_;have hcs:=hc _ (List.getElem_mem hb);have hpk:=Tm hb;have hdk:=Vh hb;have hle:=ZF (l:=l) (k+1);have e1:Fp l[k]=Ah (FI l[k])+1:=rfl;refine Cal.to ((b1,DF (BM (l.take k)+(l.length - k)))::(b2,DF (DW (l.take k)))::L) ?_;refine ZW g2 hcs (by omega) (by omega) (by omega) (fun I2 hI2=>?_);simp only [wrap_i64 ((k:Int)+1) (by omega),SSd,Nat.reduceAdd];rw [show (BM (l.take k):Int)+((l.length:Int) - k)+Ah (FI l[k])=BM (l.take (k+1))+((l.length:Int) - (k+1:Nat)) by omega,show max (DW (l.take k):Int) (BR (FI l[k]))=DW (l.take (k+1)) by rw [hdk];simp only [QZ];omega];exact Gh.to ((b2,DF (DW (l.take (k+1))))::(b1,DF (BM (l.take (k+1))+(l.length - (k+1:Nat))))::L) (Gh.done ⟨q - 1,by omega,k+1,by omega,rfl,Ext.trans hI' hI2,rfl⟩)
 ·have hb:¬k < l.length:=by
   have:=of_decide_eq_false hb;omega
  have hkl:l.take k=l:=List.take_of_length_le (by omega);rw [hkl,show (BM l:Int)+((l.length:Int) - k)=BM l by omega];unfold AAv;repeat' (first|(with_reducible first|refine Ag ?_|refine Af ?_|refine Ae ?_|refine keepA ?_|refine AV (fun _=>?_)|refine rdb ?_)|((with_reducible first|refine st1 ?_ ?_|refine rdB ?_ ?_);rfl)|(with_reducible refine Ai ?_)|((with_reducible refine Az ?_ ?_);rfl)|((with_reducible refine stB ?_ ?_ ?_ ?_);rfl;rfl;exact AO rfl)|((with_reducible first|refine rdP _ rfl ?_ ?_|refine BB _ rfl ?_ ?_);rfl)|((with_reducible refine stP _ rfl ?_ ?_ ?_ ?_);rfl;rfl;rfl)|(with_reducible refine And.intro ?_ ?_)|(simp only [SSg,Int.reduceBEq,Int.reduceBNe,Int.reduceLT,Int.reduceLE,beq_self_eq_true,bne_self_eq_false])|(with_reducible first|refine AP (fun _=>?_) (fun _=>?_)|refine AA (fun _=>?_) (fun _=>?_))|(simp only [SSd,Nat.reduceAdd]))
  exact Gh.to _ (Gh.done (hk I' hI'))
theorem Oc:APb ω:=by
 intro v l K I L hl hp hc hk;refine APH ?_;unfold ALC;refine call (Yr hl hp hc (fun I' hI'=>?_));have hk:=hk I' hI';unfold Oe at hk;try simp only [SSd,Nat.reduceAdd]
 refine AA (fun hb=>?_) (fun hb=>?_)
 ·have hb:=of_decide_eq_true hb;rw [if_pos (by omega)] at hk;exact Gh.done hk
 ·have hb:=of_decide_eq_false hb;rw [if_neg (by omega)] at hk;try simp only [SSd,Nat.reduceAdd]
  refine AA (fun hb2=>?_) (fun hb2=>?_)
  ·have hb2:=of_decide_eq_true hb2;rw [if_pos (by omega)] at hk;exact Gh.done hk
  ·have hb2:=of_decide_eq_false hb2;rw [if_neg (by omega)] at hk;exact Gh.done hk
end
section
variable {ω:Om}{G I:Imm}{L F:LH}{K:Value→M}
set_option maxHeartbeats 4000000 in
theorem AEp {a b:TStmt}{b1 b2 b3 b4:Nat}{xa0 xa1 xa2 xa3 xa4 xa5 xa6 xa7 xa8 xa9 xa10 xa11 xa12 ya0 ya1 ya2 ya3 ya4 ya5 ya6 ya7 ya8 ya9 ya10 ya11 ya12:Option Addr}{xk0 xk1 xk2 xk3 xk4 xk5 xk6 xk7 xk8 xk9 xk10 xk11 xk12 yk0 yk1 yk2 yk3 yk4 yk5 yk6 yk7 yk8 yk9 yk10 yk11 yk12:Nat}(hq:OkS a)(h0:RL TItemV 14 I [] (.slice xa0 a.fSelect.fItems.length xk0) a.fSelect.fItems)(h1:RL TSourceV 14 I [] (.slice xa1 a.fSelect.fFrom.length xk1) a.fSelect.fFrom)(h2:ExL I (.slice xa2 a.fSelect.fWhere.args.length xk2) a.fSelect.fWhere.args)(h3:RL ExV 11 I [] (.slice xa3 a.fSelect.fGroup.length xk3) a.fSelect.fGroup)(h4:ExL I (.slice xa4 a.fSelect.fHaving.args.length xk4) a.fSelect.fHaving.args)(h5:RL TOrderV 12 I [] (.slice xa5 a.fSelect.fOrder.length xk5) a.fSelect.fOrder)(h6:RL StrV 1 I [] (.slice xa6 a.fColumns.length xk6) a.fColumns)(h7:RL (FU ExV 11) 1 I [] (.slice xa7 a.fRows.length xk7) a.fRows)(h8:RL TSetV 12 I [] (.slice xa8 a.fSets.length xk8) a.fSets)(h9:ExL I (.slice xa9 a.fWhere.args.length xk9) a.fWhere.args)(h10:RL TColV 16 I [] (.slice xa10 a.fCols.length xk10) a.fCols)(h11:RL StrV 1 I [] (.slice xa11 a.fKey.length xk11) a.fKey)(h12:RL StrV 1 I [] (.slice xa12 a.fIndex.fColumns.length xk12) a.fIndex.fColumns)(g0:RL TItemV 14 I [] (.slice ya0 b.fSelect.fItems.length yk0) b.fSelect.fItems)(g1:RL TSourceV 14 I [] (.slice ya1 b.fSelect.fFrom.length yk1) b.fSelect.fFrom)(g2:ExL I (.slice ya2 b.fSelect.fWhere.args.length yk2) b.fSelect.fWhere.args)(g3:RL ExV 11 I [] (.slice ya3 b.fSelect.fGroup.length yk3) b.fSelect.fGroup)(g4:ExL I (.slice ya4 b.fSelect.fHaving.args.length yk4) b.fSelect.fHaving.args)(g5:RL TOrderV 12 I [] (.slice ya5 b.fSelect.fOrder.length yk5) b.fSelect.fOrder)(g6:RL StrV 1 I [] (.slice ya6 b.fColumns.length yk6) b.fColumns)(g7:RL (FU ExV 11) 1 I [] (.slice ya7 b.fRows.length yk7) b.fRows)(g8:RL TSetV 12 I [] (.slice ya8 b.fSets.length yk8) b.fSets)(g9:ExL I (.slice ya9 b.fWhere.args.length yk9) b.fWhere.args)(g10:RL TColV 16 I [] (.slice ya10 b.fCols.length yk10) b.fCols)(g11:RL StrV 1 I [] (.slice ya11 b.fKey.length yk11) b.fKey)(g12:RL StrV 1 I [] (.slice ya12 b.fIndex.fColumns.length yk12) b.fIndex.fColumns)
  [i1:InL b1 L (.cells (stC a (.slice xa0 a.fSelect.fItems.length xk0) (.slice xa1 a.fSelect.fFrom.length xk1) (.slice xa2 a.fSelect.fWhere.args.length xk2) (.slice xa3 a.fSelect.fGroup.length xk3) (.slice xa4 a.fSelect.fHaving.args.length xk4) (.slice xa5 a.fSelect.fOrder.length xk5) (.slice xa6 a.fColumns.length xk6) (.slice xa7 a.fRows.length xk7) (.slice xa8 a.fSets.length xk8) (.slice xa9 a.fWhere.args.length xk9) (.slice xa10 a.fCols.length xk10) (.slice xa11 a.fKey.length xk11) (.slice xa12 a.fIndex.fColumns.length xk12)).toArray 48 (0,0))] [i2:InL b2 L (.cells (stC b (.slice ya0 b.fSelect.fItems.length yk0) (.slice ya1 b.fSelect.fFrom.length yk1) (.slice ya2 b.fSelect.fWhere.args.length yk2) (.slice ya3 b.fSelect.fGroup.length yk3) (.slice ya4 b.fSelect.fHaving.args.length yk4) (.slice ya5 b.fSelect.fOrder.length yk5) (.slice ya6 b.fColumns.length yk6) (.slice ya7 b.fRows.length yk7) (.slice ya8 b.fSets.length yk8) (.slice ya9 b.fWhere.args.length yk9) (.slice ya10 b.fCols.length yk10) (.slice ya11 b.fKey.length yk11) (.slice ya12 b.fIndex.fColumns.length yk12)).toArray 48 (0,0))] [i3:InL b3 L (.cells (selC a.fSelect (.slice xa0 a.fSelect.fItems.length xk0) (.slice xa1 a.fSelect.fFrom.length xk1) (.slice xa2 a.fSelect.fWhere.args.length xk2) (.slice xa3 a.fSelect.fGroup.length xk3) (.slice xa4 a.fSelect.fHaving.args.length xk4) (.slice xa5 a.fSelect.fOrder.length xk5)).toArray 40 (0,0))] [i4:InL b4 L (.cells (selC b.fSelect (.slice ya0 b.fSelect.fItems.length yk0) (.slice ya1 b.fSelect.fFrom.length yk1) (.slice ya2 b.fSelect.fWhere.args.length yk2) (.slice ya3 b.fSelect.fGroup.length yk3) (.slice ya4 b.fSelect.fHaving.args.length yk4) (.slice ya5 b.fSelect.fOrder.length yk5)).toArray 40 (0,0))]
  (hk:Gh (K (.bool (LZ a b))) I L):Qw ω (AX b1) (AX b2) (.bool false) (AX b3) (AX b4) (fun v=>Gh (K v)) I L:=by
 unfold Qw;have hcnt:=hq.cnt;unfold cS cQ at hcnt;have hfe:FnQ ω (.func (.func 60) #[] #[]) (GY ExV) EL a.fSelect.fGroup:=by
  rintro z hzz y I L _ _ K ⟨c,rfl,hc⟩ ⟨d,rfl,hd'⟩ hk;exact EC (by kernel_rfl) (Ba _ z (Nat.le_refl _) (FO hq.q.gr hzz) y I L c d K hc hd' hk)
 have hk2:∀t:Bool,t=LZ a b→Gh (K (.bool t)) I L:=by
  intro t ht;rw [ht];exact hk
 unfold LZ sQu sIx sRe at hk2;repeat' (first|(with_reducible first|refine Ag ?_|refine Af ?_|refine Ae ?_|refine keepA ?_|refine AV (fun _=>?_))|((with_reducible refine call ?_);with_reducible refine Ba (ω:=ω) _ a.fSelect.fWhere (Nat.le_refl _) hq.q.wh b.fSelect.fWhere _ _ _ _ _ (ExV.iff.2 ⟨.slice xa2 a.fSelect.fWhere.args.length xk2,rfl,h2⟩) (ExV.iff.2 ⟨.slice ya2 b.fSelect.fWhere.args.length yk2,rfl,g2⟩) ?_)|((with_reducible refine call ?_);with_reducible refine Ba (ω:=ω) _ a.fSelect.fHaving (Nat.le_refl _) hq.q.ha b.fSelect.fHaving _ _ _ _ _ (ExV.iff.2 ⟨.slice xa4 a.fSelect.fHaving.args.length xk4,rfl,h4⟩) (ExV.iff.2 ⟨.slice ya4 b.fSelect.fHaving.args.length yk4,rfl,g4⟩) ?_)|((with_reducible refine call ?_);with_reducible refine Ba (ω:=ω) _ a.fWhere (Nat.le_refl _) hq.wh b.fWhere _ _ _ _ _ (ExV.iff.2 ⟨.slice xa9 a.fWhere.args.length xk9,rfl,h9⟩) (ExV.iff.2 ⟨.slice ya9 b.fWhere.args.length yk9,rfl,g9⟩) ?_)|((with_reducible refine call ?_);with_reducible refine Ve (ω:=ω) h3 g3 hfe (by omega) ?_)|((with_reducible refine call ?_);with_reducible refine AFy (ω:=ω) h0 g0 (AAc hq.q.it) (by omega) ?_)|((with_reducible refine call ?_);with_reducible refine Vd (ω:=ω) h1 g1 (VC hq.q.fr) (by omega) ?_)|((with_reducible refine call ?_);with_reducible refine ZV (ω:=ω) h5 g5 (Yo hq.q.od) (by omega) ?_)|((with_reducible refine call ?_);with_reducible refine AJK (ω:=ω) h7 g7 (AHY hq.rows) (by omega) ?_)|((with_reducible refine call ?_);with_reducible refine AJJ (ω:=ω) h8 g8 (AHX hq.sets) (by omega) ?_)|((with_reducible refine call ?_);with_reducible refine AJL (ω:=ω) h10 g10 (AIa hq.cols) (by omega) ?_)|((with_reducible refine call ?_);with_reducible refine Jl (ω:=ω) h6 g6 hq.n1 ?_)|((with_reducible refine call ?_);with_reducible refine Jl (ω:=ω) h11 g11 hq.n2 ?_)|((with_reducible refine call ?_);with_reducible refine Jl (ω:=ω) h12 g12 hq.n3 ?_)|(with_reducible refine rdb ?_)|((with_reducible first|refine st1 ?_ ?_|refine rdB ?_ ?_);rfl)|(with_reducible refine Ai ?_)|((with_reducible refine Az ?_ ?_);rfl)|((with_reducible refine stB ?_ ?_ ?_ ?_);rfl;rfl;exact AO rfl)|((with_reducible first|refine rdP _ rfl ?_ ?_|refine BB _ rfl ?_ ?_);rfl)|((with_reducible refine stP _ rfl ?_ ?_ ?_ ?_);rfl;rfl;rfl)|(with_reducible refine And.intro ?_ ?_)|(simp only [SSg,Int.reduceBEq,Int.reduceBNe,Int.reduceLT,Int.reduceLE,beq_self_eq_true,bne_self_eq_false])|(with_reducible first|refine AP (fun _=>?_) (fun _=>?_)|refine AA (fun _=>?_) (fun _=>?_))|(simp only [SSd,Nat.reduceAdd]))
 all_goals (refine hk2 _ ?_;clear hk2 hk hfe hcnt hq h0 h1 h2 h3 h4 h5 h6 h7 h8 h9 h10 h11 h12 g0 g1 g2 g3 g4 g5 g6 g7 g8 g9 g10 g11 g12;first|rfl|(simp only [*,Bool.and_true,Bool.and_false,Bool.false_and,Bool.true_and,Bool.and_self];done)|(simp_all;done))
theorem Yx {a b:TStmt}{c d:List Value}(hq:OkS a)(hc:TStmtV I a c)(hd:TStmtV I b d)(hk:K (.bool (LZ a b)) I L):CT ω 31 #[.agg c.toArray,.agg d.toArray] K I L:=by
 obtain ⟨v0,v1,v2,v3,v4,v5,v6,v7,v8,v9,v10,v11,v12,rfl,h0,h1,h2,h3,h4,h5,h6,h7,h8,h9,h10,h11,h12⟩:=hc;obtain ⟨u0,u1,u2,u3,u4,u5,u6,u7,u8,u9,u10,u11,u12,rfl,g0,g1,g2,g3,g4,g5,g6,g7,g8,g9,g10,g11,g12⟩:=hd;obtain ⟨xa0,xk0,rfl⟩:=RL.form h0;obtain ⟨xa1,xk1,rfl⟩:=RL.form h1;obtain ⟨xa2,xk2,rfl⟩:=RL.form h2;obtain ⟨xa3,xk3,rfl⟩:=RL.form h3;obtain ⟨xa4,xk4,rfl⟩:=RL.form h4;obtain ⟨xa5,xk5,rfl⟩:=RL.form h5;obtain ⟨xa6,xk6,rfl⟩:=RL.form h6;obtain ⟨xa7,xk7,rfl⟩:=RL.form h7;obtain ⟨xa8,xk8,rfl⟩:=RL.form h8;obtain ⟨xa9,xk9,rfl⟩:=RL.form h9;obtain ⟨xa10,xk10,rfl⟩:=RL.form h10;obtain ⟨xa11,xk11,rfl⟩:=RL.form h11;obtain ⟨xa12,xk12,rfl⟩:=RL.form h12;obtain ⟨ya0,yk0,rfl⟩:=RL.form g0;obtain ⟨ya1,yk1,rfl⟩:=RL.form g1;obtain ⟨ya2,yk2,rfl⟩:=RL.form g2;obtain ⟨ya3,yk3,rfl⟩:=RL.form g3;obtain ⟨ya4,yk4,rfl⟩:=RL.form g4;obtain ⟨ya5,yk5,rfl⟩:=RL.form g5;obtain ⟨ya6,yk6,rfl⟩:=RL.form g6;obtain ⟨ya7,yk7,rfl⟩:=RL.form g7;obtain ⟨ya8,yk8,rfl⟩:=RL.form g8;obtain ⟨ya9,yk9,rfl⟩:=RL.form g9;obtain ⟨ya10,yk10,rfl⟩:=RL.form g10;obtain ⟨ya11,yk11,rfl⟩:=RL.form g11;obtain ⟨ya12,yk12,rfl⟩:=RL.form g12;refine APE ?_;unfold AKz;refine AV (o:=.cells (stC a (.slice xa0 a.fSelect.fItems.length xk0) (.slice xa1 a.fSelect.fFrom.length xk1) (.slice xa2 a.fSelect.fWhere.args.length xk2) (.slice xa3 a.fSelect.fGroup.length xk3) (.slice xa4 a.fSelect.fHaving.args.length xk4) (.slice xa5 a.fSelect.fOrder.length xk5) (.slice xa6 a.fColumns.length xk6) (.slice xa7 a.fRows.length xk7) (.slice xa8 a.fSets.length xk8) (.slice xa9 a.fWhere.args.length xk9) (.slice xa10 a.fCols.length xk10) (.slice xa11 a.fKey.length xk11) (.slice xa12 a.fIndex.fColumns.length xk12)).toArray 48 (0,0)) (fun b1=>?_)
 refine AV (o:=.cells (stC b (.slice ya0 b.fSelect.fItems.length yk0) (.slice ya1 b.fSelect.fFrom.length yk1) (.slice ya2 b.fSelect.fWhere.args.length yk2) (.slice ya3 b.fSelect.fGroup.length yk3) (.slice ya4 b.fSelect.fHaving.args.length yk4) (.slice ya5 b.fSelect.fOrder.length yk5) (.slice ya6 b.fColumns.length yk6) (.slice ya7 b.fRows.length yk7) (.slice ya8 b.fSets.length yk8) (.slice ya9 b.fWhere.args.length yk9) (.slice ya10 b.fCols.length yk10) (.slice ya11 b.fKey.length yk11) (.slice ya12 b.fIndex.fColumns.length yk12)).toArray 48 (0,0)) (fun b2=>?_);refine Ag ?_;try simp only [SSd,Nat.reduceAdd]
 refine BB (selC a.fSelect (.slice xa0 a.fSelect.fItems.length xk0) (.slice xa1 a.fSelect.fFrom.length xk1) (.slice xa2 a.fSelect.fWhere.args.length xk2) (.slice xa3 a.fSelect.fGroup.length xk3) (.slice xa4 a.fSelect.fHaving.args.length xk4) (.slice xa5 a.fSelect.fOrder.length xk5)) rfl rfl ?_;refine BB (selC b.fSelect (.slice ya0 b.fSelect.fItems.length yk0) (.slice ya1 b.fSelect.fFrom.length yk1) (.slice ya2 b.fSelect.fWhere.args.length yk2) (.slice ya3 b.fSelect.fGroup.length yk3) (.slice ya4 b.fSelect.fHaving.args.length yk4) (.slice ya5 b.fSelect.fOrder.length yk5)) rfl rfl ?_;refine ⟨?_,?_⟩
 ·refine AV (fun b3=>Bj (Ext.refl _) ?_);refine AV (fun b4=>Bj (Ext.refl _) ?_);refine stB rfl rfl (AO rfl) (Bj (Ext.refl _) ?_);refine stB rfl rfl (AO rfl) ?_;exact AEp hq h0 h1 h2 h3 h4 h5 h6 h7 h8 h9 h10 h11 h12 g0 g1 g2 g3 g4 g5 g6 g7 g8 g9 g10 g11 g12 (Gh.to L (Gh.done hk))
 ·refine AV (fun b4=>Bj (Ext.refl _) ?_);refine AV (fun b3=>Bj (Ext.refl _) ?_);refine stB rfl rfl (AO rfl) (Bj (Ext.refl _) ?_);refine stB rfl rfl (AO rfl) ?_;exact AEp hq h0 h1 h2 h3 h4 h5 h6 h7 h8 h9 h10 h11 h12 g0 g1 g2 g3 g4 g5 g6 g7 g8 g9 g10 g11 g12 (Gh.to L (Gh.done hk))
def Fh (s:TStmt):Int:=match (readA (BU true s)) with
 |([x],f)=>if f=ok0 then (if LZ x s then Oe (Fp s) (QZ s) else 177) else 177
 |_=>177
def WH (s:TStmt):Bs×Int:=if Fh s≠0 then ([],Fh s) else if 65536 < (BU true s).length then ([],170) else (BU true s,0)
end
def wtext:Bs:=[97,110,100,32,97,115,32,97,115,99,32,98,101,103,105,110,32,98,101,116,119,101,101,110,32,98,121,32,99,97,115,101,32,99,111,109,109,105,116,32,99,114,101,97,116,101,32,99,114,111,115,115,32,100,101,102,97,117,108,116,32,100,101,108,101,116,101,32,100,101,115,99,32,100,105,115,116,105,110,99,116,32,100,114,111,112,32,101,108,115,101,32,101,110,100,32,102,97,108,115,101,32,102,114,111,109,32,103,114,111,117,112,32,104,97,118,105,110,103,32,105,110,32,105,110,100,101,120,32,105,110,110,101,114,32,105,110,115,101,114,116,32,105,110,116,111,32,105,115,32,106,111,105,110,32,107,101,121,32,108,101,102,116,32,108,105,107,101,32,108,105,109,105,116,32,110,111,116,32,110,117,108,108,32,111,102,102,115,101,116,32,111,110,32,111,114,32,111,114,100,101,114,32,112,114,105,109,97,114,121,32,114,111,108,108,98,97,99,107,32,115,101,108,101,99,116,32,115,101,116,32,116,97,98,108,101,32,116,104,101,110,32,116,114,117,101,32,117,110,105,113,117,101,32,117,112,100,97,116,101,32,118,97,108,117,101,115,32,119,104,101,110,32,119,104,101,114,101]
def spN (c:UInt8):Int:=if (9≤c&&c≤13)||c==32 then 1 else 0
def SpG (G:Imm):Prop:=∀c:UInt8,Cell G [] 0 c.toNat (.int .u8 (spN c))
def trF:Nat→Int×Int×Int
 |0=>(0,1,0)
 |i+1=>let t:=trF i
  let c:=wtext.getD i 0
  (IntKind.i64.wrap (t.1+GU .and .i64 t.2.1 (GU .xor .i64 (if IntKind.i64.signed then -1 else IntKind.i64.max) (IntKind.i64.wrap (spN c)))),IntKind.i64.wrap (spN c),GU .or .u8 t.2.2 c.toNat)
def Ru (k:Nat):Nat:=((wordsL.take k).map fun w=>w.length+1).sum
def wiF (i:Nat):Nat:=((wtext.take i).filter fun c=>spN c==1).length
theorem AKL:(trF wtext.length).1=50∧decide ((trF wtext.length).2.2≥128)=false:=by decide+kernel
theorem AAZ:(List.range wtext.length).all (fun i=>if spN (wtext.getD i 0)=0 then wiF (i+1)==wiF i else
  decide (wiF i < 49)&&wiF (i+1)==wiF i+1&&decide (Ru (wiF i)≤i)&&(wtext.drop (Ru (wiF i))).take (i - Ru (wiF i))==wordsL.getD (wiF i) []&&i+1==Ru (wiF i+1)&&decide (i+1 < wtext.length)&&spN (wtext.getD (i+1) 0)==0)=true:=by decide+kernel
theorem AHa:wiF wtext.length=49∧Ru 49 < wtext.length∧wtext.drop (Ru 49)=wordsL.getD 49 []:=by decide+kernel
theorem Ut {i:Nat}(h:i < wtext.length):wtext[i]? =some (wtext.getD i 0):=by
 rw [List.getElem?_eq_getElem h];simp [h]
theorem OG {I:Imm}{X L F:LH}[hsp:SplitL X L F]{T len:Nat}{v u:Value}{cells:List Value}{i:Int}(ho:SlO T 1 X v cells len)(h0:0≤i)(h1:i < len)(hu:u.oneCell'=true):
  ∃b,ixV 1 v (.int .i64 i)=some (.pointer (some ⟨b,i.toNat,none⟩))∧∀K:Value→M,(∀X',SlO T 1 X' v (cells.set i.toNat u) len→K undef I (X'++F))→Sto 1 (.pointer (some ⟨b,i.toNat,none⟩)) u (gh K) I L:=by
 obtain ⟨b,e,_⟩:=Xl (I:=I) (L:=L) (F:=F) (u:=u) (K:=fun _ _ _=>True) ho h0 h1 hu (fun _ _=>trivial);refine ⟨b,e,fun K hk=>?_⟩;obtain ⟨b',e',h⟩:=Xl (I:=I) (L:=L) (F:=F) (u:=u) (K:=K) ho h0 h1 hu hk;rw [e] at e';simp only [Option.some.injEq,Value.pointer.injEq,Addr.mk.injEq,and_true] at e';rw [e'];exact h
section
variable {ω:Om}
theorem rdG {G I:Imm}{L:LH}{K:Value→M}(hG:SpG G)(hI:Ext G I)(c:UInt8)(hk:K (.int .u8 (spN c)) I L):Rv none (AC (.pointer (some ⟨0,c.toNat * 1,none⟩))) K I L:=by
 refine rd1 ?_ hk;have:=(hG c).mono hI (L':=L) (fun _ h=>by cases h);simpa using this
theorem Ry (c:UInt8):Rz 1 256 (.pointer (some ⟨0,0,none⟩)) (.int .u8 c.toNat)=some (.pointer (some ⟨0,c.toNat * 1,none⟩)):=by
 have:=c.toNat_lt;have h2:((c.toNat:Int) < 256):=by omega
 simp [Rz,h2,Addr.add]
theorem SB {G I:Imm}{L:LH}{K:Value→M}(hG:SpG G)(hGI:Ext G I)(hk:∀X v,SlO 9 1 X v (wordsL.map fun x=>Value.string ⟨x.toArray⟩) wordsL.length→K v I (X++L)):CT ω 32 #[.string ⟨wtext.toArray⟩] K I L:=by
 refine APD ?_;unfold AKy;refine loop (fun q st I' L'=>∃i:Nat,i+q=wtext.length∧st=(.int .i64 (trF i).1,.int .i64 (trF i).2.1,.int .u8 (trF i).2.2,.int .i64 i,())∧I'=I∧L'=L) wtext.length ⟨0,by omega,rfl,rfl,rfl⟩ ?_;rintro q st I' L' ⟨i,hq,rfl,rfl,rfl⟩;unfold ABD;try simp only [SSd,Nat.reduceAdd]
 refine AA (fun hb=>?_) (fun hb=>?_)
 ·have hb:i < wtext.length:=by
   have:=of_decide_eq_true hb;omega
  simp only [ixS wtext (Ut hb),Ry,SSd,Nat.reduceAdd];refine rdG hG hGI _ ?_;have hwl:wtext.length≤1000:=by decide+kernel
  simp only [AHQ,wrap_i64 ((i:Int)+1) (by omega),SSd,Nat.reduceAdd];exact Gh.done ⟨q - 1,by omega,i+1,by omega,by rw [trF];rfl,rfl,rfl⟩
 have hb:¬i < wtext.length:=by
  have:=of_decide_eq_false hb;omega
 obtain rfl:i=wtext.length:=by omega
 unfold ABC;obtain ⟨t1,t2⟩:=AKL;simp only [t1,t2,SSd,Nat.reduceAdd];refine ALa (ln:=50) (cn:=50) (by omega) (by omega) (by omega) (fun X v hX=>?_);have h0:∃c,wtext[0]? =some c∧spN c=0:=⟨97,rfl,rfl⟩;obtain ⟨c0,hc0,hs0⟩:=h0;refine loop (fun q st I2 L2=>st=(.int .i64 0,())∧I2=I'∧L2=X++L') 0 ⟨rfl,rfl,rfl⟩ ?_;rintro _ st I2 L2 ⟨rfl,rfl,rfl⟩;unfold ABB;simp only [show decide ((0:Int) < (wtext.length:Nat))=true from rfl,SSd,Nat.reduceAdd];simp only [ixS wtext hc0 (a:=0),Ry,show (.int .i64 0:Value)= .int .i64 ((0:Nat):Int) from rfl,SSd,Nat.reduceAdd];refine rdG hG hGI _ ?_;simp only [hs0,show ((0:Int) != 0)=false from rfl,SSd,Nat.reduceAdd];unfold VH;have hwl:wtext.length≤1000:=by decide+kernel
 have hxz:(Builtin.zeroCells #[.string ⟨#[]⟩] 50).toList=(wordsL.take 0).map (fun x=>Value.string ⟨x.toArray⟩)++List.replicate (50 - 0) (.string ⟨#[]⟩):=by kernel_rfl
 have hX:SlO 9 1 X v ((wordsL.take 0).map (fun x=>Value.string ⟨x.toArray⟩)++List.replicate (50 - 0) (.string ⟨#[]⟩)) 50:=by rw [←hxz];exact hX
 have hw50:wordsL.length=50:=rfl;refine loop (fun q st I3 L3=>∃(i:Nat) (X':LH),i+q=wtext.length∧st=(Value.int .i64 (wiF i:Nat),Value.int .i64 (Ru (wiF i):Nat),Value.int .i64 (i:Nat),())∧I3=I2∧L3=X'++L'∧wiF i < 50∧Ru (wiF i)≤i∧SlO 9 1 X' v ((wordsL.take (wiF i)).map (fun x=>Value.string ⟨x.toArray⟩)++List.replicate (50 - wiF i) (.string ⟨#[]⟩)) 50) wtext.length ⟨0,X,by omega,rfl,rfl,rfl,by decide,by decide,hX⟩ ?_;rintro q st I3 L3 ⟨i,X',hq,rfl,rfl,rfl,hk50,hoff,hX'⟩;unfold ABA;try simp only [SSd,Nat.reduceAdd]
 refine AA (fun hb=>?_) (fun hb=>?_)
 ·have hb:i < wtext.length:=by
   have:=of_decide_eq_true hb;omega
  have hst:=List.all_eq_true.1 AAZ i (List.mem_range.2 hb);simp only [ixS wtext (Ut hb),Ry,SSd,Nat.reduceAdd];refine rdG hG hGI _ ?_;try simp only [SSd,Nat.reduceAdd]
  refine AA (fun hs=>?_) (fun hs=>?_)
  ·have hs:spN (wtext.getD i 0)=0:=by simpa using hs
   rw [if_pos hs] at hst;have hst:wiF (i+1)=wiF i:=by simpa using hst
   simp only [wrap_i64 ((i:Int)+1) (by omega),SSd,Nat.reduceAdd];exact Gh.done ⟨q - 1,by omega,i+1,X',by omega,by rw [hst];rfl,rfl,rfl,by rw [hst];exact hk50,by rw [hst];omega,by rw [hst];exact hX'⟩
  ·have hs:¬spN (wtext.getD i 0)=0:=by simpa using hs
   rw [if_neg hs] at hst;simp only [Bool.and_eq_true,decide_eq_true_eq,beq_iff_eq] at hst;obtain ⟨⟨⟨⟨⟨⟨a1,a2⟩,a3⟩,a4⟩,a5⟩,a6⟩,a7⟩:=hst;simp only [slS wtext a3 (Nat.le_of_lt hb),a4,SSd,Nat.reduceAdd];have hkl:wiF i < wordsL.length:=by omega
   have hgd:wordsL.getD (wiF i) []=wordsL[wiF i]:=by simp [hkl]
   have hset:((wordsL.take (wiF i)).map (fun x=>Value.string ⟨x.toArray⟩)++List.replicate (50 - wiF i) (Value.string ⟨#[]⟩)).set (wiF i) (.string ⟨(wordsL.getD (wiF i) []).toArray⟩)=(wordsL.take (wiF i+1)).map (fun x=>Value.string ⟨x.toArray⟩)++List.replicate (50 - (wiF i+1)) (.string ⟨#[]⟩):=by
    rw [List.take_succ_eq_append_getElem hkl,List.map_append,hgd];rw [List.set_append_right _ _ (by simp;omega)];have e1:wiF i - ((wordsL.take (wiF i)).map (fun x=>Value.string ⟨x.toArray⟩)).length=0:=by simp;omega
    have e2:50 - wiF i=(50 - (wiF i+1))+1:=by omega
    rw [e1,e2,List.replicate_succ,List.set_cons_zero];simp
   obtain ⟨b',g1,g2⟩:=OG (I:=I3) (L:=X'++L') (F:=L') (u:=.string ⟨(wordsL.getD (wiF i) []).toArray⟩) (i:=(wiF i:Nat)) hX' (by omega) (by omega) rfl;simp only [g1,SSd,Nat.reduceAdd];refine g2 _ (fun X5 hX5=>?_);rw [Int.toNat_natCast,hset] at hX5;simp only [wrap_i64 ((i:Int)+1) (by omega),wrap_i64 ((wiF i:Int)+1) (by omega),SSd,Nat.reduceAdd];refine loop (fun q' st I6 L6=>st=(Value.int .i64 ((i+1:Nat):Int),())∧I6=I3∧L6=X5++L') 0 ⟨rfl,rfl,rfl⟩ ?_;rintro _ st I6 L6 ⟨rfl,rfl,rfl⟩;unfold AAz;have hlt:decide (((i+1:Nat):Int) < (wtext.length:Nat))=true:=decide_eq_true (by omega);simp only [hlt,ixS wtext (Ut a6),Ry,SSd,Nat.reduceAdd];refine rdG hG hGI _ ?_;simp only [a7,show ((0:Int) != 0)=false from rfl,SSd,Nat.reduceAdd];exact Gh.done ⟨q - 1,by omega,i+1,X5,by omega,by rw [a2,←a5];rfl,rfl,rfl,by rw [a2];omega,by rw [a2,←a5];omega,by rw [a2];exact hX5⟩
 ·have hb:¬i < wtext.length:=by
   have:=of_decide_eq_false hb;omega
  obtain rfl:i=wtext.length:=by omega
  obtain ⟨l1,l2,l3⟩:=AHa;rw [l1] at hX';unfold WL;simp only [l1,show decide (((Ru 49:Nat):Int) < (wtext.length:Nat))=true from decide_eq_true (by omega),VE wtext (Nat.le_of_lt l2),l3,SSd,Nat.reduceAdd];obtain ⟨b',g1,g2⟩:=OG (I:=I3) (L:=X'++L') (F:=L') (u:=.string ⟨(wordsL.getD 49 []).toArray⟩) (i:=((49:Nat):Int)) hX' (by omega) (by omega) rfl;simp only [g1,SSd,Nat.reduceAdd];refine g2 _ (fun X5 hX5=>?_);have hset:((wordsL.take 49).map (fun x=>Value.string ⟨x.toArray⟩)++List.replicate (50 - 49) (Value.string ⟨#[]⟩)).set ((49:Nat):Int).toNat (.string ⟨(wordsL.getD 49 []).toArray⟩)=wordsL.map (fun x=>Value.string ⟨x.toArray⟩):=rfl;rw [hset] at hX5;exact Gh.done (hk X5 _ hX5)
theorem Ky (I:Imm):∀l:List Bs,Recs (StrV I) 1 l (l.map fun x=>Value.string ⟨x.toArray⟩)
 |[]=>rfl
 |x::l=>⟨rfl,rfl,Ky I l⟩
theorem IV {G I:Imm}{L:LH}{K:Value→M}(hG:SpG G)(hGI:Ext G I)(hk:∀X v,SlO 9 1 X v (wordsL.map fun x=>Value.string ⟨x.toArray⟩) wordsL.length→K v I (X++L)):CT ω 19 #[] K I L:=by
 refine APK ?_;unfold ALF;exact call (SB hG hGI (fun X v hX=>Gh.done (hk X v hX)))
theorem Jc {G:Imm}(hG:SpG G):Vy ω G:=by
 intro K I L hGI hk;refine Cal.gh (IV hG hGI (fun X v hX=>?_));exact RL.ofO (R:=StrV) (xs:=wordsL) (fun {I I' x c} h hI=>h) hX (Ky I wordsL) (fun I6 hI6 hw6=>Gh.done (hk I6 _ hI6 hw6))
end
section
variable {ω:Om}{G I:Imm}{L F:LH}{K:Value→M}
theorem OL (hG:Eb G)(hS:SpG G)(hGI:Ext G I){s:TStmt}(hq:OkS s)(hread:∀x∈(readA (BU true s)).1,OkS x)(hp:Fp s≤1000000000){c:List Value}(hc:TStmtV I s c)(hn:(BU true s).length≤900000000)(hk:∀I',Ext I I'→K (.int .i64 (Fh s)) I' L):
  CT ω 17 #[.agg c.toArray] K I L:=by
 have hWd:=Jc (ω:=ω) hS;have hTok:=LX hWd;have hcl:=hc.len;refine APM ?_;unfold ALH;refine AV (fun bs=>?_);refine rdB hcl ?_;refine call (QW hG hWd hGI hq hc (by omega) (fun I1 hI1=>?_));refine call (QG hTok _ hn (Ext.trans hGI hI1) (fun I2 a k hI2 hw=>?_));have hI12:=Ext.trans hI1 hI2;have hrd:Fh s=match (readA (BU true s)).1 with
   |[x]=>if (readA (BU true s)).2=ok0 then (if LZ x s then Oe (Fp s) (QZ s) else 177) else 177
   |_=>177:=by
  unfold Fh;cases hr:readA (BU true s) with
  |mk l f=>cases l with
   |nil=>rfl
   |cons x l=>cases l <;> rfl
 have hcode:=OO (BU true s);generalize (readA (BU true s)).1=xs at *;generalize (readA (BU true s)).2=f at *;have fin:∀(t:Int) (I':Imm) (L':LH),t=Fh s→Ext I2 I'→SubP L L'→Gh (K (.int .i64 t)) I' L':=by
  intro t I' L' ht hI' hs;rw [ht];exact Gh.to L (Gh.done (hk I' (Ext.trans hI12 hI')))
 try simp only [SSd,Nat.reduceAdd]
 refine AV (fun bf=>?_);refine stB rfl rfl (AO rfl) ?_;refine Ag ?_;try simp only [SSd,Nat.reduceAdd]
 refine Ai ?_;try simp only [SSd,Nat.reduceAdd]
 have bad:f≠ok0∨(∀x,xs≠[x])→Fh s=177:=by
  intro h;rw [hrd];match xs,h with
  |[x],h=>simp only;rw [if_neg (h.resolve_right (fun hc=>hc x rfl))]
  |[],_=>rfl
  |_::_::_,_=>rfl
 refine AP (fun h0=>?_) (fun h0=>?_);rotate_left
 ·refine fin _ _ _ (bad (.inl (fun e=>?_))).symm (Ext.refl _) (by infer_instance);subst e;simp [ok0] at h0
 have h0:f.code=0:=by simpa using h0
 have hf:f=ok0:=by
  rcases hcode with h|h
  ·exact h
  ·exact absurd h0 h.1
 try simp only [SSd,Nat.reduceAdd]
 refine AP (fun h1=>?_) (fun h1=>?_);rotate_left
 ·have h1:xs.length≠1:=by
   have:¬(xs.length:Int)=1:=by simpa using h1
   omega
  exact fin _ _ _ (bad (.inr (fun x e=>by rw [e] at h1;simp at h1))).symm (Ext.refl _) (by infer_instance)
 have h1:xs.length=1:=by
  have:(xs.length:Int)=1:=by simpa using h1
  omega
 obtain ⟨x,rfl⟩:∃x,xs=[x]:=by
  match xs,h1 with
  |[x],_=>exact ⟨x,rfl⟩
 obtain ⟨bt,off,c1,g1,gl,g2,g3⟩:=RL.ix hw (i:=0) (by omega) (by simp);have g2:TStmtV I2 x c1:=g2;simp only [List.length_cons,List.length_nil] at g1;simp only [List.length_cons,List.length_nil,g1,SSd,Nat.reduceAdd];refine AOI (g3 I2 [] (Ext.refl _) (fun _ h=>h)) (Ext.refl _) gl ?_;refine Az hcl ?_;refine call (Yx (hread x (List.mem_cons_self ..)) g2 (hc.mono hI12) ?_);try simp only [SSd,Nat.reduceAdd]
 have hrs:Fh s=if LZ x s then Oe (Fp s) (QZ s) else 177:=by rw [hrd];simp only;rw [if_pos hf]
 cases hsm:LZ x s with
 |false=>
  rw [hsm] at hrs;try simp only [SSd,Nat.reduceAdd]
  exact fin _ _ _ (by rw [hrs];rfl) (Ext.refl _) (by infer_instance)
 |true=>
  rw [hsm] at hrs;try simp only [SSd,Nat.reduceAdd]
  refine rdB hcl ?_;refine Du (R:=TStmtV) [s] [c] rfl rfl rfl (by simp [hcl]) (by simpa using hc.mono hI12) (fun hI h=>h.mono hI) (fun I3 a3 hI3 hw3=>Gh.done ?_);refine call (Oc _ [s] _ _ _ hw3 (by simpa [BM] using hp) (by simpa using hq.cnt) (fun I4 hI4=>?_));refine fin _ _ _ ?_ (Ext.trans hI3 hI4) (by infer_instance);rw [hrs];simp [BM,DW]
theorem Yu (hG:Eb G)(hS:SpG G)(hGI:Ext G I){s:TStmt}(hq:OkS s)(hread:∀x∈(readA (BU true s)).1,OkS x)(hp:Fp s≤1000000000){c:List Value}(hc:TStmtV I s c)(hn:(BU true s).length≤900000000)(hk:∀I',Ext I I'→K (.tuple #[.string ⟨(WH s).1.toArray⟩,.int .i64 (WH s).2]) I' L):
  CT ω 16 #[.agg c.toArray] K I L:=by
 have hWd:=Jc (ω:=ω) hS;have hcl:=hc.len;refine APN ?_;unfold ALI;refine AV (fun bs=>?_);refine rdB hcl ?_;refine call (OL hG hS hGI hq hread hp hc hn (fun I1 hI1=>?_));unfold WH at hk;try simp only [SSd,Nat.reduceAdd]
 refine AA (fun h=>?_) (fun h=>?_)
 ·have h:Fh s≠0:=by simpa using h
  rw [if_pos h] at hk;exact Gh.to L (Gh.done (hk I1 hI1))
 have h:Fh s=0:=by simpa using h
 rw [if_neg (by simp [h])] at hk;try simp only [SSd,Nat.reduceAdd]
 refine rdB hcl ?_;refine call (QW hG hWd (Ext.trans hGI hI1) hq (hc.mono hI1) (by omega) (fun I2 hI2=>?_));try simp only [SSd,Nat.reduceAdd]
 refine AA (fun h=>?_) (fun h=>?_)
 ·have h:65536 < (BU true s).length:=by
   have:=of_decide_eq_true h;omega
  rw [if_pos h] at hk;exact Gh.to L (Gh.done (hk I2 (Ext.trans hI1 hI2)))
 ·have h:¬65536 < (BU true s).length:=by
   have:=of_decide_eq_false h;omega
  rw [if_neg h] at hk;exact Gh.to L (Gh.done (hk I2 (Ext.trans hI1 hI2)))
end
def AOU:Bs:=[83,69,76,69,67,84,32,97,46,98,32,65,83,32,34,88,32,121,34,44,32,99,111,117,110,116,40,42,41,32,70,82,79,77,32,116,32,97,32,87,72,69,82,69,32,78,79,84,32,97,46,98,32,61,32,49,32,79,82,32,99,32,73,83,32,78,79,84,32,78,85,76,76]
def AOT:Bs:=[115,101,108,101,99,116,32,97,32,102,114,111,109,32,116,32,119,104,101,114,101,32,98,32,61,32,99,32,61,32,100]
def APq:Bs:=[115,101,108,101,99,116,32,97,46,98,32,97,115,32,34,88,32,121,34,44,32,99,111,117,110,116,40,42,41,32,102,114,111,109,32,116,32,97,115,32,97,32,119,104,101,114,101,32,110,111,116,32,97,46,98,32,61,32,49,32,111,114,32,99,32,105,115,32,110,111,116,32,110,117,108,108]
def Ox:TStmt:={(default:TStmt) with fKind:=1,fSelect:=⟨false,[⟨false,[],JA [97] [98],[88,32,121]⟩,⟨false,[],IP [99,111,117,110,116] false [exK 3 []],[]⟩],[⟨[116],[97],false,ex0⟩],exK 22 [exK 5 [exK 15 [JA [97] [98],JQ ⟨1,false,1,[]⟩]],exK 7 [JA [] [99]]],[],ex0,[], -1,0⟩}
theorem AOS:Fq AOU=([Ox],ok0):=by kernel_rfl
theorem AOR:(Fq AOT).2=⟨174,28⟩:=by decide+kernel
theorem AOQ:(readA (BU true Ox)).1=[Ox]:=by kernel_rfl
theorem APp:Fh Ox=0:=by decide+kernel
theorem APo:WH Ox=(APq,0):=by decide+kernel
theorem VR:okE ex0:=by simp [okE,okL,okI,ex0,v0]
theorem AFx:OkS Ox:=by
 refine ⟨⟨?_,?_,?_,?_,VR,nofun,by unfold okI;decide,by unfold okI;decide,by decide⟩,VR,nofun,nofun,nofun,by decide,by decide,by decide,by decide⟩
 ·intro x hx;simp only [Ox,List.mem_cons,List.not_mem_nil,or_false] at hx;rcases hx with rfl|rfl <;> simp [okE,okL,okI,JA,IP,exK,v0]
 ·intro x hx;simp only [Ox,List.mem_cons,List.not_mem_nil,or_false] at hx;subst hx;exact VR
 ·simp [Ox,okE,okL,okI,JA,exK,JQ,v0]
 ·trivial
section
variable {ω:Om}{G I:Imm}{L F:LH}{K:Value→M}
theorem VF (hG:Eb G)(hS:SpG G)(hGI:Ext G I)(hk:∀I',Ext I I'→K (.bool true) I' L):CT ω 10 #[] K I L:=by
 have hTok:=LX (Jc (ω:=ω) hS);refine APP ?_;unfold ALK;refine call (OU hTok Oc AOU hGI (fun I1 a k hI1 hw=>?_));rw [AOS] at hw ⊢;simp only [List.length_cons,List.length_nil,Nat.zero_add,show ok0.code=0 from rfl,show ((ok0.at':Int))=0 from rfl,SSd,Nat.reduceAdd];refine AV (fun bf=>?_);refine stB rfl rfl (AO rfl) ?_;try simp only [SSd,Nat.reduceAdd]
 refine rdb ?_;simp only [show ((0:Int) != 0)=false from rfl,show (((1:Nat):Int) != 1)=false from rfl,SSd,Nat.reduceAdd];obtain ⟨bt,off,c1,g1,gl,g2,g3⟩:=RL.ix hw (i:=0) (by omega) (by simp);have g2:TStmtV I1 Ox c1:=g2;simp only [List.length_cons,List.length_nil,Nat.zero_add] at g1;simp only [g1,SSd,Nat.reduceAdd];refine Dq (g3 I1 [] (Ext.refl _) (fun _ h=>h)) (Ext.refl _) gl ?_;have hread:∀x∈(readA (BU true Ox)).1,OkS x:=by
  rw [AOQ];intro x hx;rw [List.mem_singleton.1 hx];exact AFx
 refine call (Yu hG hS (Ext.trans hGI hI1) AFx hread (by decide) g2 (by decide) (fun I2 hI2=>?_));rw [APo];simp only [g1,SSd,Nat.reduceAdd];have hI12:=Ext.trans hI1 hI2;refine Dq (g3 I2 [] hI2 (fun _ h=>h)) (Ext.refl _) gl ?_;refine call (OL hG hS (Ext.trans hGI hI12) AFx hread (by decide) (g2.mono hI2) (by decide) (fun I3 hI3=>?_));rw [APp];refine call (OU hTok Oc AOT (Ext.trans hGI (Ext.trans hI12 hI3)) (fun I4 a4 k4 hI4 hw4=>?_));rw [AOR];try simp only [SSd,Nat.reduceAdd]
 refine AV (fun bh=>?_);refine stB rfl rfl (AO rfl) ?_;simp only [show ((0:Int)==0)=true from rfl,SSd,Nat.reduceAdd];refine AP (fun _=>?_) (fun h=>absurd (by decide+kernel) h);refine rdB rfl ?_;simp only [MJ,SSd,Nat.reduceAdd];exact Gh.to L (Gh.done (hk I4 (Ext.trans hI12 (Ext.trans hI3 hI4))))
theorem TS (hk:∀I' v,Ext I I'→StL I' v wordsL→K v I' L):CT ω 18 #[] K I L:=by
 refine APL ?_;unfold ALG;exact DD wordsL rfl rfl (fun I' a hI hv=>Gh.done (Gh.done (hk I' _ hI hv)))
theorem Ia {u v:Value}{xs ys:List Bs}(hx:RL StrV 1 I L u xs)(hy:RL StrV 1 I L v ys)(hl:xs.length≤1000000000000)(hk:K (.bool (eqL eqB xs ys)) I L):CT ω 20 #[u,v] K I L:=by
 refine APJ ?_;unfold ALE;simp only [RL.len hx,RL.len hy,SSd,Nat.reduceAdd];refine AA (fun h=>?_) (fun h=>?_)
 ·have h:xs.length≠ys.length:=by
   have:¬(xs.length:Int)=ys.length:=by simpa using h
   omega
  rw [Et h] at hk;exact Gh.done hk
 have h:xs.length=ys.length:=by
  have:(xs.length:Int)=ys.length:=by simpa using h
  omega
 refine loop (fun q st I' L'=>∃k:Nat,k+q=xs.length∧st=(Value.bool false,Value.int .i64 (k:Nat),())∧I'=I∧L'=L∧eqL eqB xs ys=eqL eqB (xs.drop k) (ys.drop k)) xs.length ⟨0,by omega,rfl,rfl,rfl,rfl⟩ ?_;rintro q st I' L' ⟨k,hq,rfl,rfl,rfl,he⟩;unfold ABu;simp only [RL.len hx,SSd,Nat.reduceAdd];refine AA (fun hb=>?_) (fun hb=>?_)
 ·have hb:k < xs.length:=by
   have:=of_decide_eq_true hb;omega
  have hb2:k < ys.length:=by omega
  obtain ⟨bt,off,c1,g1,gl,g2,g3⟩:=RL.ix hx (i:=k) (by omega) (by omega);obtain ⟨bu,off2,c2,k1,kl,k2,k3⟩:=RL.ix hy (i:=k) (by omega) (by omega);rw [BA hb] at g2;rw [BA hb2] at k2;obtain rfl:=g2;obtain rfl:=k2;rw [List.drop_eq_getElem_cons hb,List.drop_eq_getElem_cons hb2] at he;simp only [eqL] at he;refine draw (Stay I' L') (Stay.start I' L') ?_;simp only [g1,k1,SSd,Nat.reduceAdd];refine ALU (g3 I' L' (Ext.refl _) (fun _ h=>h) 0 _ rfl) ?_;refine ALU (k3 I' L' (Ext.refl _) (fun _ h=>h) 0 _ rfl) ?_;simp only [sNe,SSd,Nat.reduceAdd];refine AA (fun h0=>?_) (fun h0=>?_)
  ·have h0:eqB xs[k] ys[k]=false:=by simpa [eqB] using h0
   rw [he,h0] at hk;exact Gh.done hk
  ·have h0:eqB xs[k] ys[k]=true:=by simpa [eqB] using h0
   simp only [wrap_i64 ((k:Int)+1) (by omega),SSd,Nat.reduceAdd];exact Gh.done ⟨q - 1,by omega,k+1,by omega,rfl,rfl,rfl,by rw [he,h0,Bool.true_and]⟩
 ·have hb:¬k < xs.length:=by
   have:=of_decide_eq_false hb;omega
  rw [he,FP (List.drop_eq_nil_of_le (by omega)) (List.drop_eq_nil_of_le (by omega))] at hk;exact Gh.done hk
theorem Oy {α:Type}{f:α→α→Bool}(hf:∀x,f x x=true):∀l:List α,eqL f l l=true
 |[]=>rfl
 |x::l=>by simp only [eqL,hf,Oy hf l,Bool.and_self]
theorem UM (x:Bs):eqB x x=true:=by simp [eqB]
theorem TF {X L:LH}{v:Value}{l:List Bs}(h:SlO 9 1 X v (l.map fun x=>Value.string ⟨x.toArray⟩) l.length)(hL:∀x∈X,x∈L):RL StrV 1 I L v l:=by
 obtain ⟨a,k,rfl,hle⟩:∃a k,v= .slice a l.length k∧l.length≤k:=by
  obtain ⟨a,k,h',hle⟩:=GrO.form (I:=I) (.inl h);exact ⟨a,k,h',hle⟩
 exact ⟨a,k,_,rfl,hle,h.news hL,Ky I l⟩
theorem Yb (hG:Eb G)(hS:SpG G)(hGI:Ext G I)(n:Int)(hn:n≤9223372036854775807)(hk:∀I',Ext I I'→K (.bool true) I' L):CT ω 5 #[.int .i64 n] K I L:=by
 refine APr ?_;unfold sh5;refine call (VF hG hS hGI (fun I1 hI1=>?_));refine call (TS (fun I2 v2 hI2 hv2=>?_));have hGI2:=Ext.trans hGI (Ext.trans hI1 hI2);refine call (IV hS hGI2 (fun X v3 hX=>?_));refine call (Ia (TF hX (fun x hx=>List.mem_append_left _ hx)) (RL.mono (fun _ _ h=>h) hv2 (Ext.refl _) (fun _ h=>nomatch h)) (by decide) ?_);rw [Oy UM];simp only [Bool.not_true,SSd,Nat.reduceAdd];refine AA (fun h=>?_) (fun h=>?_)
 ·unfold WI;try simp only [SSd,Nat.reduceAdd]
  exact Gh.to L (Gh.done (hk I2 (Ext.trans hI1 hI2)))
 have h:0≤n:=by
  have:=of_decide_eq_false h;omega
 obtain ⟨a3,k3,rfl⟩:=hX.form;have hw50:wordsL.length=50:=rfl;have hrem:AL .rem (.int .i64 n) (.int .i64 (wordsL.length:Nat))=some (.int .i64 (n % 50)):=by
  rw [hw50,Ua _ _ .i64 (by decide),Int.tmod_eq_emod_of_nonneg h];rfl
 obtain ⟨b',g1,g2⟩:=OG (I:=I2) (L:=X++L) (F:=L) (u:=.string ⟨[55,55].toArray⟩) (i:=n % 50) hX (by omega) (by omega) rfl;simp only [hrem,g1,SSd,Nat.reduceAdd];refine g2 _ (fun X4 hX4=>?_);refine DD [[55,56]] rfl rfl (fun I5 a5 hI5 hv5=>Gh.done ?_);obtain ⟨c5,s5,r5⟩:=RL.toI (by decide) hv5;refine DJ (X:=X4) rfl hX4 s5.news (r5.one_cells fun x c h=>by rw [show c=_ from h];exact AO rfl) (by rw [hw50];simp) (by rw [hw50];simp) (fun X6 v6 hX6=>?_);have hc5:c5=[.string ⟨[55,56].toArray⟩]:=by
  have h1:=r5.length;match c5,r5 with
  |c,r=>
   have:=r.2.1;have h2:c.take 1=c:=List.take_of_length_le (by rw [h1];decide);rw [h2] at this;exact this
 subst hc5;obtain ⟨a6,k6,rfl⟩:=hX6.form;have hGI5:=Ext.trans hGI2 hI5;refine call (IV hS hGI5 (fun X7 v7 hX7=>?_));refine call (Ia (TF hX7 (fun x hx=>List.mem_append_left _ hx)) (RL.mono (I:=I2) (fun _ _ h=>h) hv2 hI5 (fun _ h=>nomatch h)) (by decide) ?_);rw [Oy UM];have e1:AL .sub (.int .i64 ((wordsL.length+[([55,56]:Bs)].length:Nat):Int)) (.int .i64 1)=some (.int .i64 (50:Nat)):=rfl;obtain ⟨b8,g8,g9⟩:=SlO.ix hX6 .i64 (i:=50) (by rw [hw50];decide);simp only [e1,g8,SSd,Nat.reduceAdd];refine rd1 (g9 I5 (X7++(X6++L)) (fun x hx=>List.mem_append_right _ (List.mem_append_left _ hx)) 0 _ (List.getElem?_take_of_lt (by decide) |>.trans (by rw [List.getElem?_drop,List.getElem?_append_right (by simp [hw50])];simp [hw50];rfl))) ?_;simp only [MJ,sEq,SSd,Nat.reduceAdd];exact Gh.to L (Gh.done (hk I5 (Ext.trans (Ext.trans hI1 hI2) hI5)))
end
def spTab:List Int:=(List.range 256).map fun i=>spN (UInt8.ofNat i)
theorem TB {P:Program}{W:World}{name:String}{k:IntKind}{zs:List Int}{g:Nat}(h:Lib.TabIs P W name k zs)(hg:P.globalNamed name=some g):∃T fr,JX W g=some (.cells (zs.map fun z=>Value.int k z).toArray T fr):=by
 unfold Lib.TabIs World.var? at h;rw [hg] at h;simp only [Option.bind_some] at h;unfold JX;split at h
 ·rename_i cs T fr hc
  simp only [Option.some.injEq] at h;subst h;exact ⟨T,fr,hc⟩
 ·cases h
theorem VD {W:World}(hL:laidMetH Tryz.prog Rows.sqlparseWordsRow.laid W):SpG (JX W):=by
 have h1 := hL.filter (fun x => x.1 == "strings.asciiSpace");rw [show (Rows.sqlparseWordsRow.laid.filter (fun x => x.1 == "strings.asciiSpace")) = [("strings.asciiSpace", Lib.tabData .u8 spTab)] by kernel_rfl, MakeChecks.laidMetH_plain _ _ _ (by kernel_rfl)] at h1;have h2:=Lib.tabIs_of_head (g:=0) (t:=134) (e:=5) (n:=256) (by kernel_rfl) (by kernel_rfl) (by kernel_rfl) (by kernel_rfl) (by kernel_rfl) (by kernel_rfl) h1;obtain ⟨T,fr,h3⟩:=TB h2 (g:=0) (by kernel_rfl);intro c;refine Cell.imm h3 ?_;have hc:=c.toNat_lt;have hl:c.toNat < (spTab.map fun z=>Value.int .u8 z).length:=by simp [spTab];omega
 rw [List.getElem?_toArray,List.getElem?_eq_getElem hl];simp [spTab]
theorem Ti {W:World}(hL:laidMetH Tryz.prog Rows.sqlparseWordsRow.laid W):Eb (JX W):=by
 have h1 := hL.filter (fun x => x.1 == "internal/strconv.uint64pow10");rw [show (Rows.sqlparseWordsRow.laid.filter (fun x => x.1 == "internal/strconv.uint64pow10")) = [("internal/strconv.uint64pow10", Lib.tabData .u64 Lib.pow10Tab)] by kernel_rfl, MakeChecks.laidMetH_plain _ _ _ (by kernel_rfl)] at h1;have hg : Tryz.prog.globalNamed "internal/strconv.uint64pow10" = some 5 := by kernel_rfl
 have h2 : Lib.TabIs Tryz.prog W "internal/strconv.uint64pow10" .u64 Lib.pow10Tab := Lib.tabIs_of_head (t := 275) (e := 268) (n := 20) hg (by kernel_rfl) (by kernel_rfl) (by kernel_rfl) (by kernel_rfl) (by kernel_rfl) h1;obtain ⟨T,fr,h3⟩:=TB h2 hg;exact ⟨5,T,fr,hg,h3⟩
theorem words_walk {W:World}{base:Nat}{v0:Value}(hL:laidMetH Tryz.prog Rows.sqlparseWordsRow.laid W)(o0:Value.okWide Tryz.prog W .any base 3 v0)(t0:Tr Tryz.prog W 3 v0.cells.toList)(ω:Om):
  CT ω 5 #[v0] (fun v I' _=>v= .bool true∧Ext (JX W) I') (JX W) []:=by
 obtain ⟨a,rfl,ha⟩:=AHT Tryz.underlying3 o0 t0;have hle:a≤9223372036854775807:=(wf_i64 ha).2;exact Yb (Ti hL) (VD hL) (Ext.refl _) a hle (fun I' hI=>⟨rfl,hI⟩)
end Go.Proofs.YtkifgfanjcfedaaGreatDoor
