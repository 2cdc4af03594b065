/- lemmas -/
import Derived.Test.YtkifgfanjcfedaaGreatDoorP8
import Derived.Test.YtkifgfanjcfedaaGreatDoorP2
import Derived.Test.YtkifgfanjcfedaaGreatDoorP3
set_option maxRecDepth 100000
set_option maxHeartbeats 4000000
set_option linter.unusedVariables false
set_option linter.unusedSimpArgs false
set_option linter.unusedSectionVars false
namespace Go.Proofs.YtkifgfanjcfedaaGreatDoor
open Go.SL
abbrev stC (s:TStmt)(v0 v1 v2 v3 v4 v5 v6 v7 v8 v9 v10 v11 v12:Value):List Value:=[.int .i64 s.fKind,.bool s.fSelect.fDistinct,v0,v1,.int .i64 s.fSelect.fWhere.kind,.int .i64 s.fSelect.fWhere.value.fType,.bool s.fSelect.fWhere.value.fNull,.int .i64 s.fSelect.fWhere.value.fInt,.string ⟨s.fSelect.fWhere.value.fText.toArray⟩,.string ⟨s.fSelect.fWhere.table.toArray⟩,.string ⟨s.fSelect.fWhere.name.toArray⟩,.int .i64 s.fSelect.fWhere.slot,.int .i64 s.fSelect.fWhere.type,.bool s.fSelect.fWhere.distinct,v2,v3,.int .i64 s.fSelect.fHaving.kind,.int .i64 s.fSelect.fHaving.value.fType,.bool s.fSelect.fHaving.value.fNull,.int .i64 s.fSelect.fHaving.value.fInt,.string ⟨s.fSelect.fHaving.value.fText.toArray⟩,.string ⟨s.fSelect.fHaving.table.toArray⟩,.string ⟨s.fSelect.fHaving.name.toArray⟩,.int .i64 s.fSelect.fHaving.slot,.int .i64 s.fSelect.fHaving.type,.bool s.fSelect.fHaving.distinct,v4,v5,.int .i64 s.fSelect.fLimit,.int .i64 s.fSelect.fOffset,.string ⟨s.fTable.toArray⟩,v6,v7,v8,.int .i64 s.fWhere.kind,.int .i64 s.fWhere.value.fType,.bool s.fWhere.value.fNull,.int .i64 s.fWhere.value.fInt,.string ⟨s.fWhere.value.fText.toArray⟩,.string ⟨s.fWhere.table.toArray⟩,.string ⟨s.fWhere.name.toArray⟩,.int .i64 s.fWhere.slot,.int .i64 s.fWhere.type,.bool s.fWhere.distinct,v9,v10,v11,.string ⟨s.fIndex.fName.toArray⟩,.string ⟨s.fIndex.fTable.toArray⟩,v12,.bool s.fIndex.fUnique]
structure OkS (s:TStmt):Prop where
 q:OkQ s.fSelect
 wh:okE s.fWhere
 rows:∀x∈s.fRows,okL x∧x.length≤1000000000000
 sets:∀x∈s.fSets,okE x.fExpr
 cols:∀x∈s.fCols,okE x.fDefault
 cnt:cS s≤1000000000
 n1:s.fColumns.length≤1000000000000
 n2:s.fKey.length≤1000000000000
 n3:s.fIndex.fColumns.length≤1000000000000
section
variable {ω:Om}{G I:Imm}{L F Y:LH}{K:Value→M}{b bw bs:Nat}{w:Value}{X:LH}{l:Bs}{n:Nat}{s:TStmt}{v0 v1 v2 v3 v4 v5 v6 v7 v8 v9 v10 v11 v12:Value}
abbrev Ys (b bw bs:Nat)(s:TStmt)(v0 v1 v2 v3 v4 v5 v6 v7 v8 v9 v10 v11 v12:Value)(F:LH):LH:=(bs,.cells (stC s v0 v1 v2 v3 v4 v5 v6 v7 v8 v9 v10 v11 v12).toArray 48 (0,0))::(bw,wpO b)::F
theorem XP (hG:GN G)(hGI:Ext G I)(hw:StL I w wordsL)(hq:OkS s){c:List Value}(hc:TStmtV I s c)[hs:SplitL X L F](hW:WrS b w X l)(hn:(l++KP true s).length≤1000000000)(hk:∀I' X',Ext I I'→WrS b w X' (l++KP true s)→K (.tuple #[]) I' (X'++F)):
  CT ω 122 #[AP b,.agg c.toArray] K I L:=by
 refine zAQ X ?_;refine ASp ?_;unfold AOi;obtain ⟨v0,v1,v2,v3,v4,v5,v6,v7,v8,v9,v10,v11,v12,rfl,h0,h1,h2,h3,h4,h5,h6,h7,h8,h9,h10,h11,h12⟩:=hc;have hcnt:=hq.cnt;unfold cS at hcnt;have he:KP true s=[99,114,101,97,116,101,32,116,97,98,108,101,32]++(nameB s.fTable++([32,40]++(AU (s.fCols.map (LM true))++((if s.fKey.isEmpty then [] else [44,32,112,114,105,109,97,114,121,32,107,101,121,32]++DC s.fKey)++[41])))):=by unfold KP;simp only [List.append_assoc]
 rw [he] at hn hk;simp only [zU] at hn;refine Ac (o:=wpO b) (λbw=>?_);refine Ac (o:=.cells (stC s v0 v1 v2 v3 v4 v5 v6 v7 v8 v9 v10 v11 v12).toArray 48 (0,0)) (λbs=>?_);refine rdb ?_;refine BP (X:=X) hW zL (λI1 X1 hI1 hW1=>?_);have hE1:=hI1;refine rdb ?_;try refine zqe ?_
 refine rdb ?_;refine call (BX (X:=X1) hW1 (zAJ hw hE1) s.fTable zL (λI2 X2 hI2 hW2=>?_));have hE2:=zAB hE1 hI2;refine rdb ?_;refine BP (X:=X2) hW2 zL (λI3 X3 hI3 hW3=>?_);have hE3:=zAB hE2 hI3;refine rdb ?_;try refine zqe ?_
 refine rdb ?_;refine call (ABS (X:=X3) (g:=LM true) (F:=Ys b bw bs s v0 v1 v2 v3 v4 v5 v6 v7 v8 v9 v10 v11 v12 F) (zAP (λ_ _ h=>TColV.mono h hE3) h10 hE3 (λ_ h=>h)) (zAJ hw hE3) (ALM (bw:=bw) hG (zAB hGI hE3) hq.cols) (by omega) hW3 zL (λI4 X4 hI4 hW4=>?_));have hE4:=zAB hE3 hI4;try refine zqe ?_
 refine rdb ?_;simp only [zAM h11,SSd,Nat.reduceAdd];have fin:∀(t:Bs) (I5:Imm) (X5:LH),Ext I I5→t=(if s.fKey.isEmpty then [] else [44,32,112,114,105,109,97,114,121,32,107,101,121,32]++DC s.fKey)→WrS b w X5 ((l++([99,114,101,97,116,101,32,116,97,98,108,101,32]++(nameB s.fTable++([32,40]++AU (s.fCols.map (LM true))))))++t)→Qd ω (AP bw) (λv=>Gh (K v)) I5 (X5++Ys b bw bs s v0 v1 v2 v3 v4 v5 v6 v7 v8 v9 v10 v11 v12 F):=by
  intro t I5 X5 hI5 ht hW5;rw [←ht] at hn hk;unfold Qd;refine rdb ?_;refine BP hW5 zL (λI6 X6 hI6 hW6=>?_);exact zAE (X6++F) (zAA (hk I6 X6 (zAB hI5 hI6) (by simpa using hW6)))
 refine AB (λh=>?_) (λh=>?_)
 ·have h:s.fKey.isEmpty=false:=by
   have:=of_decide_eq_true h;cases ho:s.fKey with
   |nil=>rw [ho] at this;simp at this
   |cons _ _=>rfl
  rw [h] at hn fin;simp only [Bool.false_eq_true,if_false,zU] at hn fin;refine rdb ?_;refine BP (X:=X4) hW4 zL (λI5 X5 hI5 hW5=>?_);have hE5:=zAB hE4 hI5;refine rdb ?_;try refine zqe ?_
  refine rdb ?_;refine call (KL (X:=X5) hq.n2 (zAJ h11 hE5) (zAJ hw hE5) hW5 zL (λI6 X6 hI6 hW6=>?_));have hE6:=zAB hE5 hI6;exact fin _ I6 X6 hE6 rfl (by simpa using hW6)
 ·have h:s.fKey.isEmpty=true:=by
   have:=of_decide_eq_false h;cases ho:s.fKey with
   |nil=>rfl
   |cons _ _=>rw [ho] at this;simp at this
  rw [h] at fin;exact fin [] I4 X4 hE4 rfl (by simpa using hW4)
theorem Zy (hG:GN G)(hGI:Ext G I)(hw:StL I w wordsL)(hq:OkS s){c:List Value}(hc:TStmtV I s c)[hs:SplitL X L F](hW:WrS b w X l)(hn:(l++BB true s).length≤1000000000)(hk:∀I' X',Ext I I'→WrS b w X' (l++BB true s)→K (.tuple #[]) I' (X'++F)):
  CT ω 58 #[AP b,.agg c.toArray] K I L:=by
 have hc0:=hc;refine zAQ X ?_;refine AVV ?_;unfold AUB;obtain ⟨v0,v1,v2,v3,v4,v5,v6,v7,v8,v9,v10,v11,v12,rfl,h0,h1,h2,h3,h4,h5,h6,h7,h8,h9,h10,h11,h12⟩:=hc;have hcnt:=hq.cnt;unfold cS at hcnt;refine Ac (o:=wpO b) (λbw=>?_);refine Ac (o:=.cells (stC s v0 v1 v2 v3 v4 v5 v6 v7 v8 v9 v10 v11 v12).toArray 48 (0,0)) (λbs=>?_);try refine zqe ?_
 refine rdb ?_;try refine zqe ?_
 refine AB (λh=>?_) (λh=>?_)
 ·have h:s.fKind=1:=by simpa using h
  have he:BB true s=Jh true s.fSelect:=by unfold BB;simp [h]
  rw [he] at hn hk;simp only [zU] at hn;refine rdb ?_;try refine zqe ?_
  refine rdP _ rfl rfl ?_;refine call (XR (X:=X) hG hGI hw hq.q (c:=selC s.fSelect v0 v1 v2 v3 v4 v5) ⟨v0,v1,v2,v3,v4,v5,rfl,h0,h1,h2,h3,h4,h5⟩ hW (by rw [List.length_append];exact hn) (λI1 X1 hI1 hW1=>?_));exact zAE (X1++F) (zAA (hk I1 X1 hI1 hW1))
 have h101:s.fKind≠1:=by simpa using h
 try refine zqe ?_
 refine AB (λh=>?_) (λh=>?_)
 ·have h:s.fKind=2:=by simpa using h
  have he:BB true s=[105,110,115,101,114,116,32,105,110,116,111,32]++(nameB s.fTable++((if s.fColumns.isEmpty then [] else [32]++DC s.fColumns)++([32,118,97,108,117,101,115,32]++AU (s.fRows.map (rowB true))))):=by unfold BB;simp [h]
  rw [he] at hn hk;simp only [zU] at hn;refine rdb ?_;refine BP (X:=X) hW zL (λI1 X1 hI1 hW1=>?_);have hE1:=hI1;refine rdb ?_;try refine zqe ?_
  refine rdb ?_;refine call (BX (X:=X1) hW1 (zAJ hw hE1) s.fTable zL (λI2 X2 hI2 hW2=>?_));have hE2:=zAB hE1 hI2;have fin:∀(t:Bs) (I5:Imm) (X5:LH),Ext I I5→t=(if s.fColumns.isEmpty then [] else [32]++DC s.fColumns)→WrS b w X5 ((l++([105,110,115,101,114,116,32,105,110,116,111,32]++nameB s.fTable))++t)→Vq ω (AP bw) (AP bs) (λv=>Gh (K v)) I5 (X5++Ys b bw bs s v0 v1 v2 v3 v4 v5 v6 v7 v8 v9 v10 v11 v12 F):=by
   intro t I5 X5 hI5 ht hW5;rw [←ht] at hn hk;unfold Vq;refine rdb ?_;refine BP hW5 zL (λI6 X6 hI6 hW6=>?_);have hI56:=zAB hI5 hI6;refine rdb ?_;try refine zqe ?_
   refine rdb ?_;refine rdb ?_;refine call (ABR (X:=X6) (g:=rowB true) (F:=Ys b bw bs s v0 v1 v2 v3 v4 v5 v6 v7 v8 v9 v10 v11 v12 F) (zAP (λ_ _ h=>LstX.mono h hI56) h7 hI56 (λ_ h=>h)) (zAJ hw hI56) (ALJ hG (zAB hGI hI56) hq.rows) (by omega) hW6 zL (λI7 X7 hI7 hW7=>?_));exact zAE (X7++F) (zAA (hk I7 X7 (zAB hI56 hI7) (by simpa using hW7)))
  try refine zqe ?_
  refine rdb ?_;simp only [zAM h6,SSd,Nat.reduceAdd];refine AB (λhz=>?_) (λhz=>?_)
  ·have hz:s.fColumns.isEmpty=false:=by
    have:=of_decide_eq_true hz;cases ho:s.fColumns with
    |nil=>rw [ho] at this;simp at this
    |cons _ _=>rfl
   rw [hz] at hn fin;simp only [Bool.false_eq_true,if_false,zU] at hn fin;refine rdb ?_;refine BP (X:=X2) hW2 zL (λI3 X3 hI3 hW3=>?_);have hE3:=zAB hE2 hI3;refine rdb ?_;try refine zqe ?_
   refine rdb ?_;refine call (KL (X:=X3) hq.n1 (zAJ h6 hE3) (zAJ hw hE3) hW3 zL (λI4 X4 hI4 hW4=>?_));have hE4:=zAB hE3 hI4;exact fin _ I4 X4 hE4 rfl (by simpa using hW4)
  ·have hz:s.fColumns.isEmpty=true:=by
    have:=of_decide_eq_false hz;cases ho:s.fColumns with
    |nil=>rfl
    |cons _ _=>rw [ho] at this;simp at this
   rw [hz] at fin;exact fin [] I2 X2 hE2 rfl (by simpa using hW2)
 have h102:s.fKind≠2:=by simpa using h
 try refine zqe ?_
 refine AB (λh=>?_) (λh=>?_)
 ·have h:s.fKind=3:=by simpa using h
  have he:BB true s=[117,112,100,97,116,101,32]++(nameB s.fTable++([32,115,101,116,32]++(AU (s.fSets.map AHh)++Di true [32,119,104,101,114,101,32] s.fWhere))):=by
   have hs:AHh=λx=>nameB x.fColumn++[32,61,32]++exB true x.fExpr 1:=rfl;rw [hs];unfold BB;simp [h]
  rw [he] at hn hk;simp only [zU] at hn;refine rdb ?_;refine BP (X:=X) hW zL (λI1 X1 hI1 hW1=>?_);have hE1:=hI1;refine rdb ?_;try refine zqe ?_
  refine rdb ?_;refine call (BX (X:=X1) hW1 (zAJ hw hE1) s.fTable zL (λI2 X2 hI2 hW2=>?_));have hE2:=zAB hE1 hI2;refine rdb ?_;refine BP (X:=X2) hW2 zL (λI3 X3 hI3 hW3=>?_);have hE3:=zAB hE2 hI3;refine rdb ?_;try refine zqe ?_
  refine rdb ?_;refine call (ABQ (X:=X3) (g:=AHh) (F:=Ys b bw bs s v0 v1 v2 v3 v4 v5 v6 v7 v8 v9 v10 v11 v12 F) (zAP (λ_ _ h=>TSetV.mono h hE3) h8 hE3 (λ_ h=>h)) (zAJ hw hE3) (ALI (bw:=bw) hG (zAB hGI hE3) hq.sets) (by omega) hW3 zL (λI4 X4 hI4 hW4=>?_));have hE4:=zAB hE3 hI4;refine rdb ?_;try refine zqe ?_
  refine rdP _ rfl rfl ?_;refine call (Fq (X:=X4) hG hq.wh [32,119,104,101,114,101,32] (zAB hGI hE4) (zAJ hw hE4) hW4 (ExV.mono hE4 (ExV.iff.2 ⟨v9,rfl,h9⟩)) zL (λI5 X5 hI5 hW5=>?_));have hE5:=zAB hE4 hI5;exact zAE (X5++F) (zAA (hk I5 X5 hE5 (by simpa using hW5)))
 have h103:s.fKind≠3:=by simpa using h
 try refine zqe ?_
 refine AB (λh=>?_) (λh=>?_)
 ·have h:s.fKind=4:=by simpa using h
  have he:BB true s=[100,101,108,101,116,101,32,102,114,111,109,32]++(nameB s.fTable++Di true [32,119,104,101,114,101,32] s.fWhere):=by unfold BB;simp [h]
  rw [he] at hn hk;simp only [zU] at hn;refine rdb ?_;refine BP (X:=X) hW zL (λI1 X1 hI1 hW1=>?_);have hE1:=hI1;refine rdb ?_;try refine zqe ?_
  refine rdb ?_;refine call (BX (X:=X1) hW1 (zAJ hw hE1) s.fTable zL (λI2 X2 hI2 hW2=>?_));have hE2:=zAB hE1 hI2;refine rdb ?_;try refine zqe ?_
  refine rdP _ rfl rfl ?_;refine call (Fq (X:=X2) hG hq.wh [32,119,104,101,114,101,32] (zAB hGI hE2) (zAJ hw hE2) hW2 (ExV.mono hE2 (ExV.iff.2 ⟨v9,rfl,h9⟩)) zL (λI3 X3 hI3 hW3=>?_));have hE3:=zAB hE2 hI3;exact zAE (X3++F) (zAA (hk I3 X3 hE3 (by simpa using hW3)))
 have h104:s.fKind≠4:=by simpa using h
 try refine zqe ?_
 refine AB (λh=>?_) (λh=>?_)
 ·have h:s.fKind=5:=by simpa using h
  have he:BB true s=KP true s:=by unfold BB;simp [h]
  rw [he] at hn hk;simp only [zU] at hn;refine rdb ?_;refine rdB rfl ?_;refine call (XP (X:=X) hG hGI hw hq hc0 hW (by rw [List.length_append];exact hn) (λI1 X1 hI1 hW1=>?_));exact zAE (X1++F) (zAA (hk I1 X1 hI1 hW1))
 have h105:s.fKind≠5:=by simpa using h
 try refine zqe ?_
 refine AB (λh=>?_) (λh=>?_)
 ·have h:s.fKind=6:=by simpa using h
  have he:BB true s=[99,114,101,97,116,101,32]++((if s.fIndex.fUnique then [117,110,105,113,117,101,32] else [])++([105,110,100,101,120,32]++(nameB s.fIndex.fName++([32,111,110,32]++(nameB s.fIndex.fTable++([32]++DC s.fIndex.fColumns)))))):=by unfold BB;simp [h]
  rw [he] at hn hk;simp only [zU] at hn;refine rdb ?_;refine BP (X:=X) hW zL (λI1 X1 hI1 hW1=>?_);have hE1:=hI1;have fin:∀(t:Bs) (I5:Imm) (X5:LH),Ext I I5→t=(if s.fIndex.fUnique then [117,110,105,113,117,101,32] else [])→WrS b w X5 ((l++[99,114,101,97,116,101,32])++t)→Vp ω (AP bw) (AP bs) (λv=>Gh (K v)) I5 (X5++Ys b bw bs s v0 v1 v2 v3 v4 v5 v6 v7 v8 v9 v10 v11 v12 F):=by
   intro t I5 X5 hI5 ht hW5;rw [←ht] at hn hk;unfold Vp;refine rdb ?_;refine BP (X:=X5) hW5 zL (λI11 X11 hI11 hW11=>?_);have hE11:=zAB hI5 hI11;refine rdb ?_;try refine zqe ?_
   refine rdb ?_;refine call (BX (X:=X11) hW11 (zAJ hw hE11) s.fIndex.fName zL (λI12 X12 hI12 hW12=>?_));have hE12:=zAB hE11 hI12;refine rdb ?_;refine BP (X:=X12) hW12 zL (λI13 X13 hI13 hW13=>?_);have hE13:=zAB hE12 hI13;refine rdb ?_;try refine zqe ?_
   refine rdb ?_;refine call (BX (X:=X13) hW13 (zAJ hw hE13) s.fIndex.fTable zL (λI14 X14 hI14 hW14=>?_));have hE14:=zAB hE13 hI14;refine rdb ?_;refine BP (X:=X14) hW14 zL (λI15 X15 hI15 hW15=>?_);have hE15:=zAB hE14 hI15;refine rdb ?_;try refine zqe ?_
   refine rdb ?_;refine call (KL (X:=X15) hq.n3 (zAJ h12 hE15) (zAJ hw hE15) hW15 zL (λI16 X16 hI16 hW16=>?_));have hE16:=zAB hE15 hI16;exact zAE (X16++F) (zAA (hk I16 X16 hE16 (by simpa using hW16)))
  try refine zqe ?_
  refine rdb ?_;refine AB (λhz=>?_) (λhz=>?_)
  ·rw [hz] at hn fin;simp only [if_true,List.length_cons,List.length_nil] at hn;refine rdb ?_;refine BP (X:=X1) hW1 zL (λI2 X2 hI2 hW2=>?_);exact fin _ I2 X2 (zAB hI1 hI2) rfl (by simpa using hW2)
  ·rw [hz] at fin;exact fin [] I1 X1 hI1 (by simp) (by simpa using hW1)
 have h106:s.fKind≠6:=by simpa using h
 try refine zqe ?_
 refine AB (λh=>?_) (λh=>?_)
 ·have h:s.fKind=7:=by simpa using h
  have he:BB true s=[100,114,111,112,32,116,97,98,108,101,32]++nameB s.fTable:=by unfold BB;simp [h]
  rw [he] at hn hk;simp only [zU] at hn;refine rdb ?_;refine BP (X:=X) hW zL (λI1 X1 hI1 hW1=>?_);have hE1:=hI1;refine rdb ?_;try refine zqe ?_
  refine rdb ?_;refine call (BX (X:=X1) hW1 (zAJ hw hE1) s.fTable zL (λI2 X2 hI2 hW2=>?_));have hE2:=zAB hE1 hI2;exact zAE (X2++F) (zAA (hk I2 X2 hE2 (by simpa using hW2)))
 have h107:s.fKind≠7:=by simpa using h
 try refine zqe ?_
 refine AB (λh=>?_) (λh=>?_)
 ·have h:s.fKind=8:=by simpa using h
  have he:BB true s=[100,114,111,112,32,105,110,100,101,120,32]++nameB s.fIndex.fName:=by unfold BB;simp [h]
  rw [he] at hn hk;simp only [zU] at hn;refine rdb ?_;refine BP (X:=X) hW zL (λI1 X1 hI1 hW1=>?_);have hE1:=hI1;refine rdb ?_;try refine zqe ?_
  refine rdb ?_;refine call (BX (X:=X1) hW1 (zAJ hw hE1) s.fIndex.fName zL (λI2 X2 hI2 hW2=>?_));have hE2:=zAB hE1 hI2;exact zAE (X2++F) (zAA (hk I2 X2 hE2 (by simpa using hW2)))
 have h108:s.fKind≠8:=by simpa using h
 try refine zqe ?_
 refine AB (λh=>?_) (λh=>?_)
 ·have h:s.fKind=9:=by simpa using h
  have he:BB true s=[98,101,103,105,110]:=by unfold BB;simp [h]
  rw [he] at hn hk;simp only [zU] at hn;refine rdb ?_;refine BP (X:=X) hW zL (λI1 X1 hI1 hW1=>?_);have hE1:=hI1;exact zAE (X1++F) (zAA (hk I1 X1 hE1 (by simpa using hW1)))
 have h109:s.fKind≠9:=by simpa using h
 try refine zqe ?_
 refine AB (λh=>?_) (λh=>?_)
 ·have h:s.fKind=10:=by simpa using h
  have he:BB true s=[99,111,109,109,105,116]:=by unfold BB;simp [h]
  rw [he] at hn hk;simp only [zU] at hn;refine rdb ?_;refine BP (X:=X) hW zL (λI1 X1 hI1 hW1=>?_);have hE1:=hI1;exact zAE (X1++F) (zAA (hk I1 X1 hE1 (by simpa using hW1)))
 have h110:s.fKind≠10:=by simpa using h
 try refine zqe ?_
 refine AB (λh=>?_) (λh=>?_)
 ·have h:s.fKind=11:=by simpa using h
  have he:BB true s=[114,111,108,108,98,97,99,107]:=by unfold BB;simp [h]
  rw [he] at hn hk;simp only [zU] at hn;refine rdb ?_;refine BP (X:=X) hW zL (λI1 X1 hI1 hW1=>?_);have hE1:=hI1;exact zAE (X1++F) (zAA (hk I1 X1 hE1 (by simpa using hW1)))
 have h111:s.fKind≠11:=by simpa using h
 try refine zqe ?_
 have he:BB true s=[63]:=by unfold BB;simp [h101,h102,h103,h104,h105,h106,h107,h108,h109,h110,h111]
 rw [he] at hn hk;simp only [zU] at hn;refine rdb ?_;refine BP (X:=X) hW zL (λI1 X1 hI1 hW1=>?_);have hE1:=hI1;exact zAE (X1++F) (zAA (hk I1 X1 hE1 (by simpa using hW1)))
theorem AMh (s:TStmt):BB true s≠[]:=by
 unfold BB;by_cases h1:s.fKind=1
 ·rw [if_pos h1,YE];simp
 rw [if_neg h1];by_cases h2:s.fKind=2
 ·rw [if_pos h2];simp
 rw [if_neg h2];by_cases h3:s.fKind=3
 ·rw [if_pos h3];simp
 rw [if_neg h3];by_cases h4:s.fKind=4
 ·rw [if_pos h4];simp
 rw [if_neg h4];by_cases h5:s.fKind=5
 ·rw [if_pos h5];simp [KP]
 rw [if_neg h5];by_cases h6:s.fKind=6
 ·rw [if_pos h6];simp
 rw [if_neg h6];by_cases h7:s.fKind=7
 ·rw [if_pos h7];simp
 rw [if_neg h7];by_cases h8:s.fKind=8
 ·rw [if_pos h8];simp
 rw [if_neg h8];by_cases h9:s.fKind=9
 ·rw [if_pos h9];simp
 rw [if_neg h9];by_cases h10:s.fKind=10
 ·rw [if_pos h10];simp
 rw [if_neg h10];by_cases h11:s.fKind=11
 ·rw [if_pos h11];simp
 rw [if_neg h11];simp
theorem VN (hG:GN G)(hWd:ABb ω G)(hGI:Ext G I)(hq:OkS s){c:List Value}(hc:TStmtV I s c)(hn:(BB true s).length≤1000000000)(hk:∀I',Ext I I'→K (.string ⟨(BB true s).toArray⟩) I' L):
  CT ω 30 #[.agg c.toArray] K I L:=by
 refine AVh ?_;unfold AUM;have hcl:=hc.len;refine Ac (λbs=>?_);refine call (hWd _ _ _ hGI (λI1 w hI1 hw=>?_));obtain ⟨aw,kw,rfl⟩:=zAG hw;try refine zqe ?_
 refine Ac (o:=WrO (.pointer none) (.slice none 0 0) (.slice aw wordsL.length kw)) (λb=>?_);refine rdB hcl ?_;have hW0:WrS b (.slice aw wordsL.length kw) [(b,WrO (.pointer none) (.slice none 0 0) (.slice aw wordsL.length kw))] []:=⟨_,_,[],.inl rfl,SlO.none _ _,rfl⟩;refine call (Zy (X:=[(b,WrO (.pointer none) (.slice none 0 0) (.slice aw wordsL.length kw))]) (F:=(bs,.cells c.toArray 48 (0,0))::L) (hs:=⟨List.Perm.refl _⟩) hG (zAB hGI hI1) hw hq (hc.mono hI1) hW0 (by simpa using hn) (λI2 X2 hI2 hW2=>?_));try refine zqe ?_
 rw [List.nil_append] at hW2;refine call (Vb (X:=X2) hW2 (AMh s) hn (λX3=>?_));exact zAE L (zAA (hk I2 (zAB hI1 hI2)))
end
def GE (N:Nat)(x:Ex):Prop:=gdE x∧Aa x≤N
theorem ge0 {N:Nat}(hN:1≤N):GE N ex0:=⟨AQr,hN⟩
structure GdQ (N:Nat)(q:TSelect):Prop where
 it:∀x∈q.fItems,GE N x.fExpr
 fr:∀x∈q.fFrom,GE N x.fOn
 wh:GE N q.fWhere
 gr:∀x∈q.fGroup,GE N x
 ha:GE N q.fHaving
 od:∀x∈q.fOrder,GE N x.fExpr
 li: -1≤q.fLimit∧q.fLimit≤2147483647
 off:0≤q.fOffset∧q.fOffset≤2147483647
structure GdS (N:Nat)(s:TStmt):Prop where
 q:GdQ N s.fSelect
 wh:GE N s.fWhere
 rows:∀x∈s.fRows,(∀y∈x,GE N y)∧x.length≤N
 sets:∀x∈s.fSets,GE N x.fExpr
 cols:∀x∈s.fCols,GE N x.fDefault∧(x.fDefault.kind=0∨x.fDefault.kind=1∨x.fDefault.kind=4)
 n1:s.fColumns.length≤N
 n2:s.fKey.length≤N
 n3:s.fIndex.fColumns.length≤N
section
variable {N:Nat}
theorem Me (n:Nat):Postq N (GE N) (eP n):=((Su N n).1.cost (Ju n).1).imp λ_ h=>⟨h.1.1,h.2⟩
theorem Jj (hN:1≤N)(n:Nat)(s:Bs):Postq N (GE N) (Dq n s):=Postq.ite (c:=λl=>isT l s=true) (Postq.tl (Me n)) (zAO (ge0 hN))
theorem AFF (hN:1≤N)(n:Nat):Postq N (λx=>GE N x.fExpr) (Eb n):=by
 intro l x r hl h;unfold Eb at h;split at h
 ·simp only [Res.ok.injEq] at h;obtain ⟨rfl,rfl⟩:=h;exact ⟨ge0 hN,hl.tl⟩
 split at h
 ·simp only [Res.ok.injEq] at h;obtain ⟨rfl,rfl⟩:=h;exact ⟨ge0 hN,hl.tl.tl.tl⟩
 ·obtain ⟨y,q,h1,h2⟩:=bind_ok h;obtain ⟨hy,hq⟩:=Me n _ _ _ hl h1;split at h2
  ·obtain ⟨a,q2,h3,h4⟩:=bind_ok h2;simp only [Res.ok.injEq] at h4;obtain ⟨rfl,rfl⟩:=h4;exact ⟨hy,(CP _ _ _ hq.tl h3).2⟩
  ·simp only [Res.ok.injEq] at h2;obtain ⟨rfl,rfl⟩:=h2;exact ⟨hy,hq⟩
theorem AAl (n:Nat):Postq N (λx=>GE N x.fExpr) (Ej n):=by
 intro l x r hl h;obtain ⟨y,q,h1,h2⟩:=bind_ok h;obtain ⟨hy,hq⟩:=Me n _ _ _ hl h1;split at h2
 ·simp only [Res.ok.injEq] at h2;obtain ⟨rfl,rfl⟩:=h2;exact ⟨hy,hq.tl⟩
 split at h2
 ·simp only [Res.ok.injEq] at h2;obtain ⟨rfl,rfl⟩:=h2;exact ⟨hy,hq.tl⟩
 ·simp only [Res.ok.injEq] at h2;obtain ⟨rfl,rfl⟩:=h2;exact ⟨hy,hq⟩
theorem AIb (n:Nat):Postq N (λx=>GE N x.fExpr) (Nj n):=zAF CP λ_ _=>zAF BA λ_ _=>zAF (Me n) λ_ h=>zAO h
theorem Iq (hN:1≤N):Postq N (λx=>GE N x.fOn) Bh:=by
 intro l x r hl h;obtain ⟨s,q,h1,h2⟩:=bind_ok h;have hq:=(CP _ _ _ hl h1).2;split at h2
 ·obtain ⟨a,q2,h3,h4⟩:=bind_ok h2;simp only [Res.ok.injEq] at h4;obtain ⟨rfl,rfl⟩:=h4;exact ⟨ge0 hN,(CP _ _ _ hq.tl h3).2⟩
 split at h2
 ·obtain ⟨a,q2,h3,h4⟩:=bind_ok h2;simp only [Res.ok.injEq] at h4;obtain ⟨rfl,rfl⟩:=h4;exact ⟨ge0 hN,(CP _ _ _ hq h3).2⟩
 ·simp only [Res.ok.injEq] at h2;obtain ⟨rfl,rfl⟩:=h2;exact ⟨ge0 hN,hq⟩
theorem Oh (hN:1≤N)(n:Nat)(b:Bool):Postq N (λx=>GE N x.fOn) (FM n b):=zAF BA λ_ _=>zAF (Iq hN) λ_ _=>zAF BA λ_ _=>zAF (Me n) λ_ h=>zAO h
theorem Sr (hN:1≤N)(n:Nat):∀(m:Nat) (acc:List TSource),(∀x∈acc,GE N x.fOn)→Postq N (λl=>∀x∈l,GE N x.fOn) (Ba n m acc)
 |0,acc,ha=>zAO ha
 |m+1,acc,ha=>by
  have one:∀{g:Pr TSource} (_:Postq N (λx=>GE N x.fOn) g),Postq N (λl=>∀x∈l,GE N x.fOn) (λl=>(g l).bind λs r=>Ba n m (acc++[s]) r):=λhg=>zAF hg λx hx=>Sr hN n m _ (by
   intro y hy;rcases List.mem_append.1 hy with h|h
   ·exact ha y h
   ·rw [List.mem_singleton.1 h];exact hx)
  intro l x r hl h;simp only [Ba] at h;split at h
  ·exact one (Iq hN) _ _ _ hl.tl h
  split at h
  ·exact zAF BA (λ_ _=>one (Iq hN)) _ _ _ hl.tl h
  split at h
  ·exact one (Oh hN n true) _ _ _ hl.tl h
  split at h
  ·exact one (Oh hN n false) _ _ _ hl.tl h
  split at h
  ·exact one (Oh hN n false) _ _ _ hl h
  ·simp only [Res.ok.injEq] at h;obtain ⟨rfl,rfl⟩:=h;exact ⟨ha,hl⟩
theorem AFG (hN:1≤N)(n:Nat):Postq N (λl=>∀x∈l,GE N x.fOn) (Iw n):=zAF (Iq hN) λx hx=>Sr hN n n [x] (by intro y hy;rw [List.mem_singleton.1 hy];exact hx)
theorem post_count:Postq N (λk=>0≤k∧k≤2147483647) Dc:=by
 intro l x r hl h;unfold Dc at h;split at h
 ·rename_i hc
  simp only [Bool.and_eq_true,decide_eq_true_eq] at hc;simp only [Res.ok.injEq] at h;obtain ⟨rfl,rfl⟩:=h;exact ⟨⟨hl.hd.1,hc.2⟩,hl.tl⟩
 ·cases h
theorem KZ {α:Type}{Q:α→Prop}{p:Pr α}(h:Postq N Q p)(s:Bs)(d:α)(hd:Q d):Postq N Q (JO s d p):=Postq.ite (c:=λl=>isT l s=true) (Postq.tl h) (zAO hd)
theorem ADb {α:Type}{Q:α→Prop}{p:Pr α}(h:Postq N Q p):Postq N Q (byP p):=zAF BA λ_ _=>h
theorem AAk (hN:1≤N)(n:Nat):Postq N (GdQ N) (EY n):=by
 intro l x r hl h;obtain ⟨a1,q1,h1,h⟩:=bind_ok h;obtain ⟨a2,q2,h2,h⟩:=bind_ok h;obtain ⟨a3,q3,h3,h⟩:=bind_ok h;obtain ⟨a4,q4,h4,h⟩:=bind_ok h;obtain ⟨a5,q5,h5,h⟩:=bind_ok h;obtain ⟨a6,q6,h6,h⟩:=bind_ok h;obtain ⟨a7,q7,h7,h⟩:=bind_ok h;obtain ⟨a8,q8,h8,h⟩:=bind_ok h;simp only [Res.ok.injEq] at h;obtain ⟨rfl,rfl⟩:=h;obtain ⟨c1,t1⟩:=IE (AFF hN n) n _ _ _ hl.if h1;obtain ⟨c2,t2⟩:=KZ (AFG hN n) _ [] nofun _ _ _ t1 h2;obtain ⟨c3,t3⟩:=Jj hN n _ _ _ _ t2 h3;obtain ⟨c4,t4⟩:=KZ (ADb (IE (Me n) n)) _ [] nofun _ _ _ t3 h4;obtain ⟨c5,t5⟩:=Jj hN n _ _ _ _ t4 h5;obtain ⟨c6,t6⟩:=KZ (ADb (IE (AAl n) n)) _ [] nofun _ _ _ t5 h6;obtain ⟨c7,t7⟩:=KZ (post_count.imp (R:=λk=> -1≤k∧k≤2147483647) λ_ h=>⟨by omega,h.2⟩) _ (-1) ⟨by decide,by decide⟩ _ _ _ t6 h7;obtain ⟨c8,t8⟩:=KZ post_count _ 0 ⟨by decide,by decide⟩ _ _ _ t7 h8;exact ⟨⟨c1,c2,c3,c4,c5,c6,c7,c8⟩,t8⟩
def ZY (N:Nat)(x:TCol):Prop:=GE N x.fDefault∧(x.fDefault.kind=0∨x.fDefault.kind=1∨x.fDefault.kind=4)
theorem BJ {α:Type}{P:α→Prop}:∀x∈([]:List α),P x:=nofun
theorem AUc {x:Ex}(h:x.kind≠0):pz x=Aa x:=by unfold pz;rw [if_pos (by simpa using h)]
theorem JL:∀(m:Nat) (c:TCol),ZY N c→Postq N (ZY N) (Cj m c)
 |0,c,hc=>zAO hc
 |m+1,c,hc=>by
  intro l x r hl h;simp only [Cj] at h;split at h
  ·exact zAF BA (λ_ _=>JL m {c with fNotNull:=true} hc) _ _ _ hl.tl h
  split at h
  ·exact zAF BA (λ_ _=>JL m {c with fKey:=true} hc) _ _ _ hl.tl h
  split at h
  ·exact JL m {c with fUnique:=true} hc _ _ _ hl.tl h
  split at h
  ·exact zAF (post_given.cost Tu) (λy hy=>JL m {c with fDefault:=y} ⟨⟨hy.1.1.1,AUc hy.1.1.2.1 ▸ hy.2⟩,.inr hy.1.2⟩) _ _ _ hl.tl h
  ·simp only [Res.ok.injEq] at h;obtain ⟨rfl,rfl⟩:=h;exact ⟨hc,hl⟩
theorem YL (hN:1≤N)(n:Nat):Postq N (ZY N) (Dx n):=by
 intro l x r hl h;obtain ⟨s,q,h1,h2⟩:=bind_ok h;have hq:=(CP _ _ _ hl h1).2;simp only at h2
 generalize (if isK q 1 then typeOf (hd q).text else 0)=t at h2;split at h2
 ·cases h2
 ·exact JL n ⟨s,t,false,false,false,ex0⟩ ⟨ge0 hN,.inl rfl⟩ _ _ _ hq.tl h2
theorem Mc (n:Nat):Postq N (λl=>l.length≤N) (BC n Ae):=((Lh CP n).cost (YR BF n)).imp λ_ h=>h.2
theorem Uw (hN:1≤N)(n:Nat):∀(m:Nat) (cs:List TCol) (ks:List Bs),(∀x∈cs,ZY N x)→ks.length≤N→Postq N (λx=>(∀y∈x.1,ZY N y)∧x.2.length≤N) (DD n m cs ks)
 |0,cs,ks,h1,h2=>zAO ⟨h1,h2⟩
 |m+1,cs,ks,hcs,hks=>by
  intro l x r hl h;simp only [DD] at h;obtain ⟨a,q,h1,h2⟩:=bind_ok h;have c1:((∀y∈a.1,ZY N y)∧a.2.length≤N)∧TOk N q:=by
   split at h1
   ·exact zAF BA (λ_ _=>zAF (Mc n) λk hk=>zAO (Q:=λx:List TCol×List Bs=>(∀y∈x.1,ZY N y)∧x.2.length≤N) ⟨hcs,hk⟩) _ _ _ hl.tl h1
   ·exact zAF (YL hN n) (λk hk=>zAO (Q:=λx:List TCol×List Bs=>(∀y∈x.1,ZY N y)∧x.2.length≤N) ⟨by
     intro y hy;rcases List.mem_append.1 hy with h|h
     ·exact hcs y h
     ·rw [List.mem_singleton.1 h];exact hk,hks⟩) _ _ _ hl h1
  split at h2
  ·exact Uw hN n m _ _ c1.1.1 c1.1.2 _ _ _ c1.2.tl h2
  ·simp only [Res.ok.injEq] at h2;obtain ⟨rfl,rfl⟩:=h2;exact c1
theorem AUn (hN:1≤N):GdQ N default:=⟨nofun,nofun,ge0 hN,nofun,ge0 hN,nofun,⟨by decide,by decide⟩,⟨by decide,by decide⟩⟩
theorem AFD (hN:1≤N)(n:Nat):Postq N (GdS N) (DV n):=by
 have q0:=AUn hN;have e0:=ge0 hN;have z:([]:List Bs).length≤N:=Nat.zero_le _;intro l x r hl h;unfold DV at h;split at h
 ·exact zAF (AAk hN n) (λq hq=>zAO (Q:=GdS N) ⟨hq,e0,BJ,BJ,BJ,z,z,z⟩) _ _ _ hl.tl h
 split at h
 ·refine zAF BA (λ_ _=>zAF CP λs _=>zAF (Q:=λc=>c.length≤N) (g:=λr=>if isT r [40] then BC n Ae r else Res.ok [] r) (Postq.ite (c:=λr=>isT r [40]=true) (Mc n) (zAO z)) λc hc=>zAF BA λ_ _=>zAF (IE (((Lh (Me n) n).cost (YR (TC n) n))) n) λy hy=>zAO (Q:=GdS N) ⟨q0,e0,hy,BJ,BJ,hc,z,z⟩) _ _ _ hl.tl h
 split at h
 ·exact zAF CP (λs _=>zAF BA λ_ _=>zAF (IE (AIb n) n) λy hy=>zAF (Jj hN n _) λw hw=>zAO (Q:=GdS N) ⟨q0,hw,BJ,hy,BJ,z,z,z⟩) _ _ _ hl.tl h
 split at h
 ·exact zAF BA (λ_ _=>zAF CP λs _=>zAF (Jj hN n _) λw hw=>zAO (Q:=GdS N) ⟨q0,hw,BJ,BJ,BJ,z,z,z⟩) _ _ _ hl.tl h
 split at h
 ·unfold Ed at h;split at h
  ·obtain ⟨s,q,h1,h⟩:=bind_ok h;obtain ⟨_,q2,h2,h⟩:=bind_ok h;obtain ⟨y,q3,h3,h⟩:=bind_ok h;have t1:=(CP _ _ _ hl.tl.tl h1).2;have t2:=(BA _ _ _ t1 h2).2;obtain ⟨c3,t3⟩:=Uw hN n _ _ _ BJ z _ _ _ t2 h3;split at h
   ·cases h
   ·exact zAF BA (λ_ _=>zAO (Q:=GdS N) ⟨q0,e0,BJ,BJ,c3.1,z,c3.2,z⟩) _ _ _ t3 h
  ·exact zAF BA (λ_ _=>zAF CP λa _=>zAF BA λ_ _=>zAF CP λt _=>zAF (Mc n) λc hc=>zAO (Q:=GdS N) ⟨q0,e0,BJ,BJ,BJ,z,z,hc⟩) _ _ _ hl.tl.if h
 split at h
 ·unfold Fg at h;split at h
  ·exact zAF CP (λ_ _=>zAO (Q:=GdS N) ⟨q0,e0,BJ,BJ,BJ,z,z,z⟩) _ _ _ hl.tl.tl h
  ·exact zAF BA (λ_ _=>zAF CP λ_ _=>zAO (Q:=GdS N) ⟨q0,e0,BJ,BJ,BJ,z,z,z⟩) _ _ _ hl.tl h
 split at h
 ·simp only [Res.ok.injEq] at h;obtain ⟨rfl,rfl⟩:=h;exact ⟨⟨q0,e0,BJ,BJ,BJ,z,z,z⟩,hl.tl⟩
 split at h
 ·simp only [Res.ok.injEq] at h;obtain ⟨rfl,rfl⟩:=h;exact ⟨⟨q0,e0,BJ,BJ,BJ,z,z,z⟩,hl.tl⟩
 ·exact zAF BA (λ_ _=>zAO (Q:=GdS N) ⟨q0,e0,BJ,BJ,BJ,z,z,z⟩) _ _ _ hl h
theorem MZ (hN:1≤N)(n:Nat):∀(m:Nat) (acc:List TStmt),(∀x∈acc,GdS N x)→Postq N (λl=>∀x∈l,GdS N x) (Bd n m acc)
 |0,acc,ha=>zAO ha
 |m+1,acc,ha=>by
  intro l x r hl h;simp only [Bd] at h;split at h
  ·simp only [Res.ok.injEq] at h;obtain ⟨rfl,rfl⟩:=h;exact ⟨ha,hl⟩
  split at h
  ·exact MZ hN n m _ ha _ _ _ hl.tl h
  ·obtain ⟨s,q,h1,h2⟩:=bind_ok h;obtain ⟨hs,hq⟩:=AFD hN n _ _ _ hl h1;split at h2
   ·exact MZ hN n m _ (by
     intro y hy;rcases List.mem_append.1 hy with h|h
     ·exact ha y h
     ·rw [List.mem_singleton.1 h];exact hs) _ _ _ hq h2
   ·cases h2
end
theorem ADg:∀(s:Bs) (n k:Int),(∀d∈s,Az d=true)→0≤n→n≤9223372036854775807→Ij s n=some k→0≤k∧k≤9223372036854775807
 |[],n,k,_,h0,h1,h=>by simp only [Ij,Option.some.injEq] at h;subst h;exact ⟨h0,h1⟩
 |d::r,n,k,hd,h0,h1,h=>by
  simp only [Ij] at h;have hdd:=hd d (List.mem_cons_self ..);simp only [Az,Bool.and_eq_true,decide_eq_true_eq,UInt8.le_iff_toNat_le] at hdd;have e1:(48:UInt8).toNat=48:=rfl;have e2:(57:UInt8).toNat=57:=rfl;split at h
  ·cases h
  ·exact ADg r _ k (λx hx=>hd x (List.mem_cons_of_mem _ hx)) (by omega) (by omega) h
theorem ADf {n:Nat}{s r:Bs}{t:Tok}(h:Dj n s= .tok t r):Px t:=by
 have z:∀{k a x},Px ⟨k,a,x,0⟩:=⟨by simp,by simp⟩;cases s with
 |nil=>simp [Dj] at h
 |cons c s=>
  simp only [Dj] at h;split at h
  ·unfold Hr at h;split at h
   ·cases h
   ·simp only [LexR.tok.injEq] at h;obtain ⟨rfl,_⟩:=h;exact z
  split at h
  ·split at h
   ·cases h
   ·rename_i k hk
    split at h
    ·cases h
    ·simp only [LexR.tok.injEq] at h;obtain ⟨rfl,_⟩:=h;exact ADg _ 0 k (λd hd=>List.all_eq_true.1 (List.all_takeWhile (p:=Az)) d hd) (by decide) (by decide) hk
  split at h
  ·split at h
   ·cases h
   ·split at h
    ·split at h
     ·cases h
     ·simp only [LexR.tok.injEq] at h;obtain ⟨rfl,_⟩:=h;exact z
    ·simp only [LexR.tok.injEq] at h;obtain ⟨rfl,_⟩:=h;exact z
  split at h
  ·cases h
  ·simp only [LexR.tok.injEq] at h;obtain ⟨rfl,_⟩:=h;exact z
theorem Xa (n:Nat):∀(f:Nat) (acc:List Tok) (s:Bs) (l:List Tok),(∀t∈acc,Px t)→DU n f acc s= .toks l→∀t∈l,Px t
 |0,acc,s,l,ha,h=>by simp only [DU,LexA.toks.injEq] at h;subst h;exact ha
 |f+1,acc,s,l,ha,h=>by
  simp only [DU] at h;have app:∀{t:Tok},Px t→∀x∈acc++[t],Px x:=by
   intro t ht x hx;rcases List.mem_append.1 hx with h|h
   ·exact ha x h
   ·rw [List.mem_singleton.1 h];exact ht
  split at h
  ·simp only [LexA.toks.injEq] at h;subst h;exact app ⟨by simp,by simp⟩
  ·split at h
   ·cases h
   ·rename_i t r' ht
    exact Xa n f _ _ _ (app (ADf ht)) h
theorem Us (s:Bs):∀x∈(readA s).1,GdS (s.length+1) x:=by
 unfold readA;split
 ·intro x hx;cases hx
 ·rename_i l hl
  have hc:=Jb _ _ _ _ _ hl;have hn:=Xa _ _ _ _ _ BJ hl;split
  ·rename_i x r hx
   exact (MZ (N:=s.length+1) (by omega) _ _ _ BJ _ _ _ ⟨by simpa using hc,hn⟩ hx).1
  ·intro x hx;cases hx
mutual
theorem AIt:∀{x:Ex},gdE x→Aa x≤1000000000000→okE x
 | .mk k v t n s ty d l,h,hp=>by
  simp only [Aa] at hp;have:=Ou l;exact ⟨⟨by have:=h.1.1;omega,h.1.2⟩,by omega,AIs h.2.2 (by omega)⟩
theorem AIs:∀{l:List Ex},gdL l→AZ l≤1000000000000→okL l
 |[],_,_=>trivial
 |x::l,h,hp=>by
  simp only [AZ] at hp;exact ⟨AIt h.1 (by omega),AIs h.2 (by omega)⟩
theorem Ou:∀l:List Ex,l.length≤AZ l
 |[]=>Nat.zero_le _
 | .mk .. ::l=>by have:=Ou l;simp only [AZ,Aa,List.length_cons];omega
end
theorem AIr {s:TStmt}{N:Nat}(hN:N≤1000000000000)(h:GdS N s)(hc:cS s≤1000000000):OkS s:=by
 have e:∀{x:Ex},GE N x→okE x:=λh=>AIt h.1 (by have:=h.2;omega);have hq:cQ s.fSelect≤1000000000:=by unfold cS at hc;omega
 exact ⟨⟨λx hx=>e (h.q.it x hx),λx hx=>e (h.q.fr x hx),e h.q.wh,Nw λx hx=>e (h.q.gr x hx),e h.q.ha,λx hx=>e (h.q.od x hx),⟨by have:=h.q.li;omega,by have:=h.q.li;omega⟩,⟨by have:=h.q.off;omega,by have:=h.q.off;omega⟩,hq⟩,e h.wh,λx hx=>⟨Nw λy hy=>e ((h.rows x hx).1 y hy),by have:=(h.rows x hx).2;omega⟩,λx hx=>e (h.sets x hx),λx hx=>e (h.cols x hx).1,hc,by have:=h.n1;omega,by have:=h.n2;omega,by have:=h.n3;omega⟩
theorem ADN {s:Bs}(hs:s.length≤900000000):∀x∈(readA s).1,OkS x:=λx hx=>AIr (N:=s.length+1) (by omega) (Us s x hx) (by have:=UC s x hx;omega)
def oOk (s:Bs):Prop:=s=[]∨nOk s=true
def ZX (x:Ex):Prop:=x=ex0∨WfE x
def ABd (x:TItem):Prop:=x=⟨true,[],ex0,[]⟩∨(∃t,nOk t=true∧x=⟨true,t,ex0,[]⟩)∨∃e a,WfE e∧oOk a∧x=⟨false,[],e,a⟩
def ABc (x:TSource):Prop:=∃t a,nOk t=true∧oOk a∧x=⟨t,a,false,ex0⟩
def OU (x:TSource):Prop:=ABc x∨∃t a b e,nOk t=true∧oOk a∧WfE e∧x=⟨t,a,b,e⟩
def ABe (l:List TSource):Prop:=l=[]∨∃x r,l=x::r∧ABc x∧∀y,y∈r→OU y
structure WfQ (q:TSelect):Prop where
 it:Hw ABd q.fItems
 fr:ABe q.fFrom
 wh:ZX q.fWhere
 gr:q.fGroup=[]∨Hw WfE q.fGroup
 ha:ZX q.fHaving
 od:q.fOrder=[]∨Hw (λx:TOrder=>WfE x.fExpr) q.fOrder
 li:q.fLimit= -1∨0≤q.fLimit∧q.fLimit≤2147483647
 off:0≤q.fOffset∧q.fOffset≤2147483647
def LQ (c:TCol):Prop:=nOk c.fName=true∧(c.fType=1∨c.fType=2∨c.fType=3)∧(c.fDefault=ex0∨ATR c.fDefault)
def nmL (l:List Bs):Prop:=Hw (λs=>nOk s=true) l
def WfS (s:TStmt):Prop:=
 (∃q,WfQ q∧s={(default:TStmt) with fKind:=1,fSelect:=q})∨
 (∃t c x,nOk t=true∧(c=[]∨nmL c)∧Hw (Hw WfE) x∧s={(default:TStmt) with fKind:=2,fTable:=t,fColumns:=c,fRows:=x})∨
 (∃t x w,nOk t=true∧Hw (λy:TSet=>nOk y.fColumn=true∧WfE y.fExpr) x∧ZX w∧s={(default:TStmt) with fKind:=3,fTable:=t,fSets:=x,fWhere:=w})∨
 (∃t w,nOk t=true∧ZX w∧s={(default:TStmt) with fKind:=4,fTable:=t,fWhere:=w})∨
 (∃t x k,nOk t=true∧Hw LQ x∧(k=[]∨nmL k)∧s={(default:TStmt) with fKind:=5,fTable:=t,fCols:=x,fKey:=k})∨
 (∃a t c u,nOk a=true∧nOk t=true∧nmL c∧s={(default:TStmt) with fKind:=6,fIndex:=⟨a,t,c,u⟩})∨
 (∃t,nOk t=true∧s={(default:TStmt) with fKind:=7,fTable:=t})∨
 (∃t,nOk t=true∧s={(default:TStmt) with fKind:=8,fIndex:=⟨t,[],[],false⟩})∨
 ∃k:Int,(k=9∨k=10∨k=11)∧s={(default:TStmt) with fKind:=k}
theorem AAi (n:Nat):PW WfE (eP n):=(YH n).1
theorem Ns (n:Nat)(s:Bs):PW ZX (Dq n s):=PW.ite (c:=λl=>isT l s=true) (PW.tl ((AAi n).imp λ_ h=>.inr h)) (PW.ok (.inl rfl))
theorem AMN (n:Nat):PW ABd (Eb n):=by
 intro l x r hl h;unfold Eb at h;split at h
 ·simp only [Res.ok.injEq] at h;obtain ⟨rfl,rfl⟩:=h;exact ⟨.inl rfl,hl.tl⟩
 split at h
 ·rename_i hc
  simp only [Bool.and_eq_true] at hc;simp only [Res.ok.injEq] at h;obtain ⟨rfl,rfl⟩:=h;exact ⟨.inr (.inl ⟨_,hl.hd.1 (OA hc.1.1.1.1),rfl⟩),hl.tl.tl.tl⟩
 ·obtain ⟨y,q,h1,h2⟩:=bind_ok h;obtain ⟨hy,hq⟩:=AAi n _ _ _ hl h1;split at h2
  ·obtain ⟨a,q2,h3,h4⟩:=bind_ok h2;have c:=Du _ _ _ hq.tl h3;simp only [Res.ok.injEq] at h4;obtain ⟨rfl,rfl⟩:=h4;exact ⟨.inr (.inr ⟨y,a,hy,.inr c.1,rfl⟩),c.2⟩
  ·simp only [Res.ok.injEq] at h2;obtain ⟨rfl,rfl⟩:=h2;exact ⟨.inr (.inr ⟨y,[],hy,.inl rfl,rfl⟩),hq⟩
theorem AIX (n:Nat):PW (λx:TOrder=>WfE x.fExpr) (Ej n):=by
 intro l x r hl h;obtain ⟨y,q,h1,h2⟩:=bind_ok h;obtain ⟨hy,hq⟩:=AAi n _ _ _ hl h1;split at h2
 ·simp only [Res.ok.injEq] at h2;obtain ⟨rfl,rfl⟩:=h2;exact ⟨hy,hq.tl⟩
 split at h2
 ·simp only [Res.ok.injEq] at h2;obtain ⟨rfl,rfl⟩:=h2;exact ⟨hy,hq.tl⟩
 ·simp only [Res.ok.injEq] at h2;obtain ⟨rfl,rfl⟩:=h2;exact ⟨hy,hq⟩
theorem AQR (n:Nat):PW (λy:TSet=>nOk y.fColumn=true∧WfE y.fExpr) (Nj n):=zAL Du λ_ hs=>zAL BR λ_ _=>zAL (AAi n) λ_ h=>PW.ok ⟨hs,h⟩
theorem pw_source:PW ABc Bh:=by
 intro l x r hl h;obtain ⟨s,q,h1,h2⟩:=bind_ok h;obtain ⟨hs,hq⟩:=Du _ _ _ hl h1;split at h2
 ·obtain ⟨a,q2,h3,h4⟩:=bind_ok h2;have c:=Du _ _ _ hq.tl h3;simp only [Res.ok.injEq] at h4;obtain ⟨rfl,rfl⟩:=h4;exact ⟨⟨s,a,hs,.inr c.1,rfl⟩,c.2⟩
 split at h2
 ·obtain ⟨a,q2,h3,h4⟩:=bind_ok h2;have c:=Du _ _ _ hq h3;simp only [Res.ok.injEq] at h4;obtain ⟨rfl,rfl⟩:=h4;exact ⟨⟨s,a,hs,.inr c.1,rfl⟩,c.2⟩
 ·simp only [Res.ok.injEq] at h2;obtain ⟨rfl,rfl⟩:=h2;exact ⟨⟨s,[],hs,.inl rfl,rfl⟩,hq⟩
theorem WU (n:Nat)(b:Bool):PW OU (FM n b):=zAL BR λ_ _=>zAL pw_source λx hx=>zAL BR λ_ _=>zAL (AAi n) λe h=>by
 obtain ⟨t,a,h1,h2,rfl⟩:=hx;exact PW.ok (.inr ⟨t,a,b,e,h1,h2,h,rfl⟩)
theorem YG (n:Nat)(x:TSource):∀(m:Nat) (acc:List TSource),(∀y∈acc,OU y)→PW (λl=>∃r,l=x::r∧∀y,y∈r→OU y) (Ba n m (x::acc))
 |0,acc,ha=>PW.ok ⟨acc,rfl,ha⟩
 |m+1,acc,ha=>by
  have one:∀{g:Pr TSource} (_:PW OU g),PW (λl=>∃r,l=x::r∧∀y,y∈r→OU y) (λl=>(g l).bind λs r=>Ba n m (x::acc++[s]) r):=λhg=>zAL hg λs hx=>YG n x m (acc++[s]) (by
   intro y hy;rcases List.mem_append.1 hy with h|h
   ·exact ha y h
   ·rw [List.mem_singleton.1 h];exact hx)
  have src:=pw_source.imp (R:=OU) λ_ h=>.inl h;intro l z r hl h;simp only [Ba] at h;split at h
  ·exact one src _ _ _ hl.tl h
  split at h
  ·exact zAL BR (λ_ _=>one src) _ _ _ hl.tl h
  split at h
  ·exact one (WU n true) _ _ _ hl.tl h
  split at h
  ·exact one (WU n false) _ _ _ hl.tl h
  split at h
  ·exact one (WU n false) _ _ _ hl h
  ·simp only [Res.ok.injEq] at h;obtain ⟨rfl,rfl⟩:=h;exact ⟨⟨acc,rfl,ha⟩,hl⟩
theorem AMO (n:Nat):PW ABe (Iw n):=zAL pw_source λx hx=>(YG n x n [] nofun).imp λl ⟨r,h1,h2⟩=>.inr ⟨x,r,h1,hx,h2⟩
theorem YI:PW (λk:Int=>0≤k∧k≤2147483647) Dc:=by
 intro l x r hl h;unfold Dc at h;split at h
 ·rename_i hc
  simp only [Bool.and_eq_true,decide_eq_true_eq] at hc;simp only [Res.ok.injEq] at h;obtain ⟨rfl,rfl⟩:=h;exact ⟨⟨(hl.hd.2.2 (OA hc.1)).1,hc.2⟩,hl.tl⟩
 ·cases h
theorem Si {α:Type}{Q:α→Prop}{p:Pr α}(h:PW Q p)(s:Bs)(d:α):PW (λx=>x=d∨Q x) (JO s d p):=PW.ite (c:=λl=>isT l s=true) (PW.tl (h.imp λ_ h=>.inr h)) (PW.ok (.inl rfl))
theorem AOw {α:Type}{Q:α→Prop}{p:Pr α}(h:PW Q p):PW Q (byP p):=zAL BR λ_ _=>h
theorem AIW (n:Nat):PW WfQ (EY n):=by
 intro l x r hl h;obtain ⟨a1,q1,h1,h⟩:=bind_ok h;obtain ⟨a2,q2,h2,h⟩:=bind_ok h;obtain ⟨a3,q3,h3,h⟩:=bind_ok h;obtain ⟨a4,q4,h4,h⟩:=bind_ok h;obtain ⟨a5,q5,h5,h⟩:=bind_ok h;obtain ⟨a6,q6,h6,h⟩:=bind_ok h;obtain ⟨a7,q7,h7,h⟩:=bind_ok h;obtain ⟨a8,q8,h8,h⟩:=bind_ok h;simp only [Res.ok.injEq] at h;obtain ⟨rfl,rfl⟩:=h;obtain ⟨c1,t1⟩:=Le (AMN n) n _ _ _ hl.if h1;obtain ⟨c2,t2⟩:=Si (AMO n) _ [] _ _ _ t1 h2;obtain ⟨c3,t3⟩:=Ns n _ _ _ _ t2 h3;obtain ⟨c4,t4⟩:=Si (AOw (Le (AAi n) n)) _ [] _ _ _ t3 h4;obtain ⟨c5,t5⟩:=Ns n _ _ _ _ t4 h5;obtain ⟨c6,t6⟩:=Si (AOw (Le (AIX n) n)) _ [] _ _ _ t5 h6;obtain ⟨c7,t7⟩:=Si YI _ (-1) _ _ _ t6 h7;obtain ⟨c8,t8⟩:=Si YI _ 0 _ _ _ t7 h8;have off:0≤a8∧a8≤2147483647:=c8.elim (λe=>by subst e;exact ⟨by decide,by decide⟩) id;exact ⟨⟨c1,c2.elim .inl id,c3,c4,c5,c6,c7,off⟩,t8⟩
theorem Nq:∀(m:Nat) (c:TCol),LQ c→PW LQ (Cj m c)
 |0,c,hc=>PW.ok hc
 |m+1,c,hc=>by
  intro l x r hl h;simp only [Cj] at h;split at h
  ·exact zAL BR (λ_ _=>Nq m {c with fNotNull:=true} hc) _ _ _ hl.tl h
  split at h
  ·exact zAL BR (λ_ _=>Nq m {c with fKey:=true} hc) _ _ _ hl.tl h
  split at h
  ·exact Nq m {c with fUnique:=true} hc _ _ _ hl.tl h
  split at h
  ·exact zAL AIZ (λy hy=>Nq m {c with fDefault:=y} ⟨hc.1,hc.2.1,.inr hy⟩) _ _ _ hl.tl h
  ·simp only [Res.ok.injEq] at h;obtain ⟨rfl,rfl⟩:=h;exact ⟨hc,hl⟩
theorem ATa (s:Bs):typeOf s=0∨typeOf s=1∨typeOf s=2∨typeOf s=3:=by
 unfold typeOf;split
 ·exact .inr (.inl rfl)
 split
 ·exact .inr (.inr (.inl rfl))
 split
 ·exact .inr (.inr (.inr rfl))
 ·exact .inl rfl
theorem AFC (n:Nat):PW LQ (Dx n):=by
 intro l x r hl h;obtain ⟨s,q,h1,h2⟩:=bind_ok h;obtain ⟨hs,hq⟩:=Du _ _ _ hl h1;simp only at h2
 generalize ht:(if isK q 1 then typeOf (hd q).text else 0)=t at h2;split at h2
 ·cases h2
 ·rename_i h0
  refine Nq n ⟨s,t,false,false,false,ex0⟩ ⟨hs,?_,.inl rfl⟩ _ _ _ hq.tl h2;have:=ATa (hd q).text;split at ht
  ·rw [ht] at this;exact this.resolve_left h0
  ·exact absurd ht.symm h0
theorem Sj (n:Nat):PW nmL (BC n Ae):=Qr Du n
theorem ADV (n:Nat):∀(m:Nat) (cs:List TCol) (ks:List Bs),(∀x,x∈cs→LQ x)→(ks=[]∨nmL ks)→PW (λx=>(∀y,y∈x.1→LQ y)∧(x.2=[]∨nmL x.2)) (DD n m cs ks)
 |0,cs,ks,h1,h2=>PW.ok ⟨h1,h2⟩
 |m+1,cs,ks,hcs,hks=>by
  intro l x r hl h;simp only [DD] at h;obtain ⟨a,q,h1,h2⟩:=bind_ok h;have c1:((∀y,y∈a.1→LQ y)∧(a.2=[]∨nmL a.2))∧TW q:=by
   split at h1
   ·exact zAL BR (λ_ _=>zAL (Sj n) λk hk=>PW.ok (Q:=λx:List TCol×List Bs=>(∀y,y∈x.1→LQ y)∧(x.2=[]∨nmL x.2)) ⟨hcs,.inr hk⟩) _ _ _ hl.tl h1
   ·exact zAL (AFC n) (λk hk=>PW.ok (Q:=λx:List TCol×List Bs=>(∀y,y∈x.1→LQ y)∧(x.2=[]∨nmL x.2)) ⟨by
     intro y hy;rcases List.mem_append.1 hy with h|h
     ·exact hcs y h
     ·rw [List.mem_singleton.1 h];exact hk,hks⟩) _ _ _ hl h1
  split at h2
  ·exact ADV n m _ _ c1.1.1 c1.1.2 _ _ _ c1.2.tl h2
  ·simp only [Res.ok.injEq] at h2;obtain ⟨rfl,rfl⟩:=h2;exact c1
theorem AML (n:Nat):PW WfS (DV n):=by
 intro l x r hl h;unfold DV at h;split at h
 ·exact zAL (AIW n) (λq hq=>PW.ok (Q:=WfS) (.inl ⟨q,hq,rfl⟩)) _ _ _ hl.tl h
 split at h
 ·refine zAL BR (λ_ _=>zAL Du λs hs=>zAL (Q:=λc=>c=[]∨nmL c) (g:=λr=>if isT r [40] then BC n Ae r else Res.ok [] r) (PW.ite (c:=λr=>isT r [40]=true) ((Sj n).imp λ_ h=>.inr h) (PW.ok (.inl rfl))) λc hc=>zAL BR λ_ _=>zAL (Le (Qr (AAi n) n) n) λy hy=>PW.ok (Q:=WfS) (.inr (.inl ⟨s,c,y,hs,hc,hy,rfl⟩))) _ _ _ hl.tl h
 split at h
 ·exact zAL Du (λs hs=>zAL BR λ_ _=>zAL (Le (AQR n) n) λy hy=>zAL (Ns n _) λw hw=>PW.ok (Q:=WfS) (.inr (.inr (.inl ⟨s,y,w,hs,hy,hw,rfl⟩)))) _ _ _ hl.tl h
 split at h
 ·exact zAL BR (λ_ _=>zAL Du λs hs=>zAL (Ns n _) λw hw=>PW.ok (Q:=WfS) (.inr (.inr (.inr (.inl ⟨s,w,hs,hw,rfl⟩))))) _ _ _ hl.tl h
 split at h
 ·unfold Ed at h;split at h
  ·obtain ⟨s,q,h1,h⟩:=bind_ok h;obtain ⟨_,q2,h2,h⟩:=bind_ok h;obtain ⟨y,q3,h3,h⟩:=bind_ok h;obtain ⟨hs,t1⟩:=Du _ _ _ hl.tl.tl h1;have t2:=(BR _ _ _ t1 h2).2;obtain ⟨c3,t3⟩:=ADV n _ _ _ BJ (.inl rfl) _ _ _ t2 h3;split at h
   ·cases h
   ·rename_i h0
    exact zAL BR (λ_ _=>PW.ok (Q:=WfS) (.inr (.inr (.inr (.inr (.inl ⟨s,y.1,y.2,hs,⟨by intro e;rw [e] at h0;exact h0 rfl,c3.1⟩,c3.2,rfl⟩)))))) _ _ _ t3 h
  ·exact zAL BR (λ_ _=>zAL Du λa ha=>zAL BR λ_ _=>zAL Du λt ht=>zAL (Sj n) λc hc=>PW.ok (Q:=WfS) (.inr (.inr (.inr (.inr (.inr (.inl ⟨a,t,c,_,ha,ht,hc,rfl⟩))))))) _ _ _ hl.tl.if h
 split at h
 ·unfold Fg at h;split at h
  ·exact zAL Du (λs hs=>PW.ok (Q:=WfS) (.inr (.inr (.inr (.inr (.inr (.inr (.inl ⟨s,hs,rfl⟩)))))))) _ _ _ hl.tl.tl h
  ·exact zAL BR (λ_ _=>zAL Du λs hs=>PW.ok (Q:=WfS) (.inr (.inr (.inr (.inr (.inr (.inr (.inr (.inl ⟨s,hs,rfl⟩))))))))) _ _ _ hl.tl h
 split at h
 ·simp only [Res.ok.injEq] at h;obtain ⟨rfl,rfl⟩:=h;exact ⟨.inr (.inr (.inr (.inr (.inr (.inr (.inr (.inr ⟨9,.inl rfl,rfl⟩))))))),hl.tl⟩
 split at h
 ·simp only [Res.ok.injEq] at h;obtain ⟨rfl,rfl⟩:=h;exact ⟨.inr (.inr (.inr (.inr (.inr (.inr (.inr (.inr ⟨10,.inr (.inl rfl),rfl⟩))))))),hl.tl⟩
 ·exact zAL BR (λ_ _=>PW.ok (Q:=WfS) (.inr (.inr (.inr (.inr (.inr (.inr (.inr (.inr ⟨11,.inr (.inr rfl),rfl⟩))))))))) _ _ _ hl h
theorem SY (n:Nat):∀(m:Nat) (acc:List TStmt),(∀x∈acc,WfS x)→PW (λl=>∀x∈l,WfS x) (Bd n m acc)
 |0,acc,ha=>PW.ok ha
 |m+1,acc,ha=>by
  intro l x r hl h;simp only [Bd] at h;split at h
  ·simp only [Res.ok.injEq] at h;obtain ⟨rfl,rfl⟩:=h;exact ⟨ha,hl⟩
  split at h
  ·exact SY n m _ ha _ _ _ hl.tl h
  ·obtain ⟨s,q,h1,h2⟩:=bind_ok h;obtain ⟨hs,hq⟩:=AML n _ _ _ hl h1;split at h2
   ·exact SY n m _ (by
     intro y hy;rcases List.mem_append.1 hy with h|h
     ·exact ha y h
     ·rw [List.mem_singleton.1 h];exact hs) _ _ _ hq h2
   ·cases h2
theorem SV (q:UInt8)(hq:q≠0):∀(n:Nat) (s x r:Bs),s.length≤n→CG q s=some (x,r)→sOk x=true
 |_,[],x,r,_,h=>by simp [CG] at h
 |0,c::s,x,r,hl,_=>by simp at hl
 |n+1,c::s,x,r,hl,h=>by
  rw [show CG q (c::s)=if c==0 then none else if c != q then (CG q s).map λx=>(c::x.1,x.2) else match s with
   |[]=>some ([],[])
   |d::r'=>if d==q then (CG q r').map λx=>(q::x.1,x.2) else some ([],d::r') from by cases s <;> simp [CG]] at h
  split at h
  ·cases h
  rename_i h0
  split at h
  ·simp only [Option.map_eq_some_iff,Prod.mk.injEq] at h;obtain ⟨⟨a,b⟩,h1,rfl,_⟩:=h;have:=SV q hq n s a b (by simpa using hl) h1;simp only [sOk,List.all_cons,Bool.and_eq_true] at this ⊢;exact ⟨by simpa using h0,this⟩
  ·split at h
   ·simp only [Option.some.injEq,Prod.mk.injEq] at h;obtain ⟨rfl,_⟩:=h;rfl
   ·rename_i d r'
    split at h
    ·simp only [Option.map_eq_some_iff,Prod.mk.injEq] at h;obtain ⟨⟨a,b⟩,h1,rfl,_⟩:=h;have:=SV q hq n r' a b (by simp only [List.length_cons] at hl;omega) h1;simp only [sOk,List.all_cons,Bool.and_eq_true] at this ⊢;exact ⟨by simpa using hq,this⟩
    ·simp only [Option.some.injEq,Prod.mk.injEq] at h;obtain ⟨rfl,_⟩:=h;rfl
theorem AQd (c:UInt8)(h:(BN c||Az c)=true):Ef c≠0:=by
 have:∀i:Fin 256, !(BN (UInt8.ofNat i.1)||Az (UInt8.ofNat i.1))||Ef (UInt8.ofNat i.1) != 0:=by decide+kernel
 have:=this ⟨c.toNat,c.toNat_lt⟩;simp only [UInt8.ofNat_toNat,h,Bool.not_true,Bool.false_or] at this;simpa using this
theorem tw1 {a:Nat}{x:Bs}{n:Int}(h:nOk x=true):TkW ⟨1,a,x,n⟩:=⟨λ_=>h,λe=>absurd (show (1:Int)=4 from e) (by decide),λe=>absurd (show (1:Int)=3 from e) (by decide)⟩
theorem tw4 {a:Nat}{x:Bs}{n:Int}(h:sOk x=true):TkW ⟨4,a,x,n⟩:=⟨λe=>absurd (show (4:Int)=1 from e) (by decide),λ_=>h,λe=>absurd (show (4:Int)=3 from e) (by decide)⟩
theorem tw3 {a:Nat}{x:Bs}{n:Int}(h:0≤n∧n≤9223372036854775807):TkW ⟨3,a,x,n⟩:=⟨λe=>absurd (show (3:Int)=1 from e) (by decide),λe=>absurd (show (3:Int)=4 from e) (by decide),λ_=>h⟩
theorem twz {k:Int}{a:Nat}{x:Bs}{n:Int}(h1:k≠1)(h4:k≠4)(h3:k≠3):TkW ⟨k,a,x,n⟩:=⟨λe=>absurd e h1,λe=>absurd e h4,λe=>absurd e h3⟩
theorem AUd {n:Nat}{s r:Bs}{t:Tok}(h:Dj n s= .tok t r):TkW t:=by
 cases s with
 |nil=>simp [Dj] at h
 |cons c s=>
  have hn:=ADf h;simp only [Dj] at h;split at h
  ·rename_i hc
   unfold Hr at h;split at h
   ·cases h
   ·rename_i hl
    simp only [LexR.tok.injEq] at h;obtain ⟨rfl,_⟩:=h;have h1:nOk (((c::s).takeWhile λc=>BN c||Az c).map Ef)=true:=by
     simp only [nOk,Bool.and_eq_true,decide_eq_true_eq];refine ⟨⟨?_,by omega⟩,?_⟩
     ·rw [List.takeWhile_cons_of_pos (by rw [hc];rfl)];rfl
     ·simp only [sOk,List.all_map,List.all_eq_true];intro d hd;have:=List.all_eq_true.1 (List.all_takeWhile (p:=λc=>BN c||Az c) (l:=c::s)) d hd;simpa using AQd d this
    split
    ·exact twz (by decide) (by decide) (by decide)
    ·exact tw1 h1
  split at h
  ·split at h
   ·cases h
   ·split at h
    ·cases h
    ·simp only [LexR.tok.injEq] at h;obtain ⟨rfl,_⟩:=h;exact tw3 hn
  split at h
  ·rename_i hq
   have hq0:c≠0:=by rintro rfl;exact absurd hq (by decide)
   split at h
   ·cases h
   ·rename_i x r' hx
    have ho:=SV c hq0 _ _ _ _ (Nat.le_refl _) hx;split at h
    ·split at h
     ·cases h
     ·rename_i hb
      simp only [LexR.tok.injEq] at h;obtain ⟨rfl,_⟩:=h;refine tw1 ?_;simp only [Bool.or_eq_true,decide_eq_true_eq,not_or] at hb;simp only [nOk,Bool.and_eq_true,decide_eq_true_eq];exact ⟨⟨by simpa using hb.1,by omega⟩,ho⟩
    ·simp only [LexR.tok.injEq] at h;obtain ⟨rfl,_⟩:=h;exact tw4 ho
  split at h
  ·cases h
  ·simp only [LexR.tok.injEq] at h;obtain ⟨rfl,_⟩:=h;exact twz (by decide) (by decide) (by decide)
theorem AGK (n:Nat):∀(f:Nat) (acc:List Tok) (s:Bs) (l:List Tok),TW acc→DU n f acc s= .toks l→TW l
 |0,acc,s,l,ha,h=>by simp only [DU,LexA.toks.injEq] at h;subst h;exact ha
 |f+1,acc,s,l,ha,h=>by
  simp only [DU] at h;have app:∀{t:Tok},TkW t→TW (acc++[t]):=by
   intro t ht x hx;rcases List.mem_append.1 hx with h|h
   ·exact ha x h
   ·rw [List.mem_singleton.1 h];exact ht
  split at h
  ·simp only [LexA.toks.injEq] at h;subst h;exact app (twz (by decide) (by decide) (by decide))
  ·split at h
   ·cases h
   ·rename_i t r' ht
    exact AGK n f _ _ _ (app (AUd ht)) h
theorem AMJ (s:Bs):∀x∈(readA s).1,WfS x:=by
 unfold readA;split
 ·intro x hx;cases hx
 ·rename_i l hl
  have hn:=AGK _ _ _ _ _ BJ hl;split
  ·rename_i x r hx
   exact (SY _ _ _ BJ _ _ _ hn hx).1
  ·intro x hx;cases hx
theorem FD {p:UInt8→Bool}(h:(List.range 256).all (λi=>p (UInt8.ofNat i))=true)(c:UInt8):p c=true:=by
 have:=List.all_eq_true.1 h c.toNat (List.mem_range.2 c.toNat_lt);simpa using this
def tk (k:Int)(s:Bs)(n:Int):Tok:=⟨k,0,s,n⟩
def Tok.st (t:Tok):Tok:={t with at':=0}
def tkW (w:Bs):Tok:=tk (if wordsL.contains w then 2 else 1) w 0
inductive Lx:Bs→List Tok→Prop
 |nil {s:Bs}:BL false s=[]→Lx s []
 |cons {s r r':Bs} {c:UInt8} {t:Tok} {l:List Tok}:BL false s=c::r→Dj 0 (c::r)= .tok t r'→Lx r' l→Lx s (t::l)
theorem Lx.skip {s s':Bs}{l:List Tok}(h:BL false s=BL false s')(hl:Lx s' l):Lx s l:=by
 cases hl with
 |nil h'=>exact .nil (h.trans h')
 |cons h1 h2 h3=>exact .cons (h.trans h1) h2 h3
theorem Qs (a:Nat)(s:Bs):Dj a s=match Dj 0 s with
  | .bad e=>.bad e
  | .tok t r=>.tok {t with at':=a} r:=by
 cases s with
 |nil=>rfl
 |cons c r=>
  simp only [Dj,Hr];cases h1:BN c with
  |true=>
   simp only [if_true];by_cases h:63 < (List.map Ef (List.takeWhile (λc=>BN c||Az c) (c::r))).length
   ·simp only [h,if_true]
   ·simp only [h,if_false]
  |false=>
  simp only [Bool.false_eq_true,if_false];cases h2:Az c with
  |true=>
   simp only [if_true];cases Ij (List.takeWhile Az (c::r)) 0 with
   |none=>rfl
   |some k=>
    simp only
    cases (List.dropWhile Az (c::r)).head?.any BN <;> rfl
  |false=>
  simp only [Bool.false_eq_true,if_false];cases h3:(c==34||c==39) with
  |true=>
   simp only [if_true];cases CG c r with
   |none=>rfl
   |some x=>
    simp only
    cases c==34 with
    |true=>
     simp only [if_true];cases (x.1.isEmpty||decide (63 < x.1.length)) <;> rfl
    |false=>rfl
  |false=>
  simp only [Bool.false_eq_true,if_false];cases Il (c::r) <;> rfl
theorem Gi (q c:UInt8)(r:Bs):CG q (c::r)=if c==0 then none else if c != q then (CG q r).map λx=>(c::x.1,x.2) else match r with
  |[]=>some ([],[])
  |d::r'=>if d==q then (CG q r').map λx=>(q::x.1,x.2) else some ([],d::r'):=by
 cases r <;> simp [CG]
theorem SX (q:UInt8):∀(n:Nat) (s x r:Bs),s.length≤n→CG q s=some (x,r)→r.length < s.length
 |_,[],x,r,_,h=>by simp [CG] at h
 |0,c::s,x,r,hl,_=>by simp at hl
 |n+1,c::s,x,r,hl,h=>by
  rw [Gi] at h;split at h
  ·cases h
  split at h
  ·simp only [Option.map_eq_some_iff,Prod.mk.injEq] at h;obtain ⟨⟨a,b⟩,h1,_,rfl⟩:=h;have:=SX q n s a b (by simpa using hl) h1;simp only [List.length_cons];omega
  ·split at h
   ·simp only [Option.some.injEq,Prod.mk.injEq] at h;obtain ⟨_,rfl⟩:=h;simp
   ·rename_i d r'
    split at h
    ·simp only [Option.map_eq_some_iff,Prod.mk.injEq] at h;obtain ⟨⟨a,b⟩,h1,_,rfl⟩:=h;have:=SX q n r' a b (by simp only [List.length_cons] at hl;omega) h1;simp only [List.length_cons];omega
    ·simp only [Option.some.injEq,Prod.mk.injEq] at h;obtain ⟨_,rfl⟩:=h;simp
theorem APH {p:UInt8→Bool}{c:UInt8}{r:Bs}(h:p c=true):((c::r).dropWhile p).length < (c::r).length:=by
 rw [List.dropWhile_cons_of_pos h];have:=(List.dropWhile_suffix p (l:=r)).length_le;simp only [List.length_cons];omega
theorem WV {a:Nat}:∀{s r:Bs} {t:Tok},Dj a s= .tok t r→r.length < s.length
 |[],r,t,h=>by simp [Dj] at h
 |c::s,r,t,h=>by
  simp only [Dj,Hr] at h;split at h
  ·rename_i hc
   split at h
   ·cases h
   ·simp only [LexR.tok.injEq] at h;obtain ⟨_,rfl⟩:=h;exact APH (by simp [hc])
  split at h
  ·rename_i hc
   split at h
   ·cases h
   ·split at h
    ·cases h
    ·simp only [LexR.tok.injEq] at h;obtain ⟨_,rfl⟩:=h;exact APH hc
  split at h
  ·split at h
   ·cases h
   ·rename_i x r' hq
    have:=SX c _ _ _ _ (Nat.le_refl _) hq;split at h
    ·split at h
     ·cases h
     ·simp only [LexR.tok.injEq] at h;obtain ⟨_,rfl⟩:=h;simp only [List.length_cons];omega
    ·simp only [LexR.tok.injEq] at h;obtain ⟨_,rfl⟩:=h;simp only [List.length_cons];omega
  ·split at h
   ·cases h
   ·rename_i x hx
    have hm:x∈signsL:=List.mem_of_find?_eq_some hx;have h0:0 < x.length:=by
     have:signsL.all (λx=>decide (0 < x.length))=true:=by decide
     exact of_decide_eq_true (List.all_eq_true.1 this x hm)
    simp only [LexR.tok.injEq] at h;obtain ⟨_,rfl⟩:=h;rw [List.length_drop];simp only [List.length_cons];omega
theorem Gw:∀(b:Bool) (s:Bs),(BL b s).length≤s.length
 |_,[]=>by cases ‹Bool› <;> simp [BL]
 |true,c::r=>by
  simp only [BL];split
  ·have:=Gw false r;simp only [List.length_cons];omega
  ·have:=Gw true r;simp only [List.length_cons];omega
 |false,c::r=>by
  simp only [BL];split
  ·have:=Gw false r;simp only [List.length_cons];omega
  ·split
   ·have:=Gw true r;simp only [List.length_cons];omega
   ·exact Nat.le_refl _
theorem Lx.toks {s:Bs}{l:List Tok}(h:Lx s l):∀(n f:Nat) (acc:List Tok),s.length < f→∃l',DU n f acc s= .toks (acc++l'++[⟨6,n,[],0⟩])∧l'.map Tok.st=l:=by
 induction h with
 |nil h=>
  intro n f acc hf;obtain ⟨f,rfl⟩:∃q,f=q+1:=⟨f - 1,by omega⟩;exact ⟨[],by simp only [DU,h,List.append_nil],rfl⟩
 |cons h1 h2 h3 ih=>
  rename_i s r r' c t l
  intro n f acc hf;obtain ⟨f,rfl⟩:∃q,f=q+1:=⟨f - 1,by omega⟩;have hlt:=WV h2;have hle:=Gw false s;rw [h1] at hle;obtain ⟨l',g1,g2⟩:=ih n f (acc++[{t with at':=n - (r.length+1)}]) (by omega);refine ⟨{t with at':=n - (r.length+1)}::l',?_,?_⟩
  ·simp only [DU,h1];rw [Qs,h2];simp only
   rw [g1];simp
  ·rw [List.map_cons,g2];congr 1
   have:=Qs 0 (c::r);rw [h2] at this;simp only [LexR.tok.injEq,and_true] at this;exact this.symm
theorem Lx.lex {s:Bs}{l:List Tok}(h:Lx s l):∃l',Wh s= .toks (l'++[⟨6,s.length,[],0⟩])∧l'.map Tok.st=l:=by
 obtain ⟨l',h1,h2⟩:=h.toks s.length (s.length+1) [] (by omega);exact ⟨l',by rw [Wh,h1];simp,h2⟩
theorem ABo (n:Nat):∀(f:Nat) (acc:List Tok) (s:Bs) (l0:List Tok),s.length < f→DU n f acc s= .toks l0→∃l l',Lx s l∧l0=acc++l'++[⟨6,n,[],0⟩]∧l'.map Tok.st=l
 |0,_,_,_,h,_=>by omega
 |f+1,acc,s,l0,hf,h=>by
  simp only [DU] at h;split at h
  ·rename_i hs
   simp only [LexA.toks.injEq] at h;subst h;exact ⟨[],[],.nil hs,by simp,rfl⟩
  ·rename_i c r hs
   split at h
   ·cases h
   ·rename_i t r' ho
    have hlt:=WV ho;have hle:=Gw false s;rw [hs] at hle;obtain ⟨l,l',g1,g2,g3⟩:=ABo n f _ _ _ (by omega) h;rw [Qs] at ho;cases h0:Dj 0 (c::r) with
    |bad e=>rw [h0] at ho;cases ho
    |tok t0 r0=>
     rw [h0] at ho;simp only [LexR.tok.injEq] at ho;obtain ⟨rfl,rfl⟩:=ho;refine ⟨t0::l,{t0 with at':=n - (r.length+1)}::l',.cons hs h0 g1,by rw [g2];simp,?_⟩;rw [List.map_cons,g3];congr 1
     have:=Qs 0 (c::r);rw [h0] at this;simp only [LexR.tok.injEq,and_true] at this;exact this.symm
theorem AQi {s:Bs}{l0:List Tok}(h:Wh s= .toks l0):∃l l',Lx s l∧l0=l'++[⟨6,s.length,[],0⟩]∧l'.map Tok.st=l:=by
 obtain ⟨l,l',h1,h2,h3⟩:=ABo s.length (s.length+1) [] s l0 (by omega) h;exact ⟨l,l',h1,by simpa using h2,h3⟩
def wc (c:UInt8):Bool:=BN c||Az c
def okW (w:Bs):Bool:=w.head?.any BN&&w.all (λc=>wc c&& !(65≤c&&c≤90))&&decide (w.length≤63)
def endW (s:Bs):Bool:= !s.head?.any wc
def okQ (q:UInt8)(x:Bs):Bool:=(q==34&& !x.isEmpty&&decide (x.length≤63)||q==39)&&x.all (λc=>c != 0)
def okS (x s:Bs):Bool:=signsL.contains x&&x != [33,61]&&(!(x==[60]||x==[62]||x==[45])||s.head?.all λc=>c != 61&&c != 62&&c != 45)
inductive Ck:Bs→List Tok→Prop
 |nil:Ck [] []
 |sp {s:Bs} {l:List Tok}:Ck s l→Ck (32::s) l
 |word {w s:Bs} {l:List Tok}:okW w=true→endW s=true→Ck s l→Ck (w++s) (tkW w::l)
 |num {d s:Bs} {l:List Tok} {k:Int}:d.isEmpty=false→d.all Az=true→Ij d 0=some k→endW s=true→Ck s l→Ck (d++s) (tk 3 [] k::l)
 |quo {q:UInt8} {x s:Bs} {l:List Tok}:okQ q x=true→s.head? ≠some q→Ck s l→Ck (FV q x++s) (tk (if q=34 then 1 else 4) x 0::l)
 |sign {x s:Bs} {l:List Tok}:okS x s=true→Ck s l→Ck (x++s) (tk 5 x 0::l)
def AQw:Bs:=[45,45,59,32,39,34,10,9]
def EE (bit:Nat→Bool):Nat→UInt8→Bs→Bs
 |_,_,[]=>[]
 |i,q,c::r=>
  if q != 0 then c::EE bit (i+1) (if c==q then 0 else q) r else
  if c==39||c==34 then c::EE bit (i+1) c r else
  if (97≤c&&c≤122)&&bit i then (c - 32)::EE bit (i+1) 0 r else
  if c==32&&bit i then c::(AQw++EE bit (i+1) 0 r) else c::EE bit (i+1) 0 r
theorem ABn:∀(i:Nat) (q:UInt8) (s:Bs),EE (λ_=>false) i q s=s
 |_,_,[]=>rfl
 |i,q,c::r=>by
  simp only [EE,ABn,Bool.and_false,Bool.false_eq_true,if_false];repeat' split
  all_goals rfl
section
variable (bit:Nat→Bool)
theorem AJN (c:UInt8)(h:(c==39||c==34)=true):(97≤c&&c≤122)=false:=by
 have:=FD (p:=λc=> !(c==39||c==34)|| !(decide (97≤c)&&decide (c≤122))) (by decide+kernel) c;rw [h] at this;simpa only [Bool.not_true,Bool.false_or,Bool.not_eq_true'] using this
theorem Oa (i:Nat)(s:Bs):(EE bit i 0 s).head? =s.head?.map λc=>if (97≤c&&c≤122)&&bit i then c - 32 else c:=by
 cases s with
 |nil=>rfl
 |cons c r=>
  simp only [EE,bne_self_eq_false,Bool.false_eq_true,if_false,List.head?_cons,Option.map_some];by_cases h:(c==39||c==34)=true
  ·rw [if_pos h,AJN c h];rfl
  rw [if_neg h];by_cases h2:((97≤c&&c≤122)&&bit i)=true
  ·rw [if_pos h2,if_pos h2];rfl
  rw [if_neg h2,if_neg h2];split <;> rfl
theorem UV {s:Bs}(i:Nat)(h:endW s=true):endW (EE bit i 0 s)=true:=by
 unfold endW at h ⊢;rw [Oa];cases s with
 |nil=>rfl
 |cons c r=>
  simp only [List.head?_cons,Option.map_some,Option.any_some] at h ⊢;split
  ·rename_i hc
   simp only [Bool.and_eq_true] at hc;have:=FD (p:=λc=> !(97≤c&&c≤122)||wc c) (by decide+kernel) c;simp [hc.1.1,hc.1.2] at this;simp [this] at h
  ·exact h
theorem ALT {s:Bs}(i:Nat)(h:(s.head?.all λc=>c != 61&&c != 62&&c != 45)=true):((EE bit i 0 s).head?.all λc=>c != 61&&c != 62&&c != 45)=true:=by
 rw [Oa];cases s with
 |nil=>rfl
 |cons c r=>
  simp only [List.head?_cons,Option.map_some,Option.all_some] at h ⊢;split
  ·rename_i hc
   simp only [Bool.and_eq_true] at hc;have:=FD (p:=λc=> !(97≤c&&c≤122)||(c - 32 != 61&&c - 32 != 62&&c - 32 != 45)) (by decide+kernel) c;simpa [hc.1.1,hc.1.2] using this
  ·exact h
theorem ALU {s:Bs}{q:UInt8}(i:Nat)(hq:q=34∨q=39)(h:s.head? ≠some q):(EE bit i 0 s).head? ≠some q:=by
 rw [Oa];cases s with
 |nil=>simp
 |cons c r=>
  simp only [List.head?_cons,Option.map_some,ne_eq,Option.some.injEq] at h ⊢;split
  ·rename_i hc
   simp only [Bool.and_eq_true] at hc;have:=FD (p:=λc=> !(97≤c&&c≤122)||(c - 32 != 34&&c - 32 != 39)) (by decide+kernel) c;simp [hc.1.1,hc.1.2] at this;rcases hq with rfl|rfl
   ·exact this.1
   ·exact this.2
  ·exact h
theorem UU:∀(w s:Bs) (i:Nat),w.all (λc=>wc c&& !(65≤c&&c≤90))=true→∃w' j,EE bit i 0 (w++s)=w'++EE bit j 0 s∧w'.map Ef=w∧w'.all wc=true∧(w.head?.any BN=true→w'.head?.any BN=true)
 |[],s,i,_=>⟨[],i,rfl,rfl,rfl,λh=>h⟩
 |c::w,s,i,h=>by
  simp only [List.all_cons,Bool.and_eq_true] at h;obtain ⟨w',j,h1,h2,h3,_⟩:=UU w s (i+1) h.2;have k:=FD (p:=λc=> !(wc c&& !(65≤c&&c≤90))||(c != 39&&c != 34&&c != 32&&Ef c==c&&(!(97≤c&&c≤122)||(Ef (c - 32)==c&&wc (c - 32)&&BN (c - 32))))) (by decide+kernel) c;simp only [h.1.1,h.1.2,Bool.and_self,Bool.not_true,Bool.false_or,Bool.and_eq_true,bne_iff_ne,beq_iff_eq,Bool.or_eq_true] at k;obtain ⟨⟨⟨⟨k1,k2⟩,k3⟩,k4⟩,k5⟩:=k;simp only [List.cons_append,EE,bne_self_eq_false,Bool.false_eq_true,if_false];rw [if_neg (by simp [k1,k2])];by_cases hc:((97≤c&&c≤122)&&bit i)=true
  ·rw [if_pos hc];simp only [Bool.and_eq_true] at hc;have k6:=k5.resolve_left (by simp [hc.1.1,hc.1.2]);refine ⟨(c - 32)::w',j,by rw [h1];rfl,by rw [List.map_cons,k6.1.1,h2],by simp [k6.1.2,h3],λ_=>by simpa using k6.2⟩
  ·rw [if_neg hc,if_neg (by simp [k3])];exact ⟨c::w',j,by rw [h1];rfl,by rw [List.map_cons,k4,h2],by simp [h.1.1,h3],λh=>h⟩
theorem OZ:∀(w s:Bs) (i:Nat),w.all (λc=> !(97≤c&&c≤122)&&c != 39&&c != 34&&c != 32)=true→∃j,EE bit i 0 (w++s)=w++EE bit j 0 s
 |[],s,i,_=>⟨i,rfl⟩
 |c::w,s,i,h=>by
  simp only [List.all_cons,Bool.and_eq_true,bne_iff_ne] at h;obtain ⟨⟨⟨⟨h1,h2⟩,h3⟩,h4⟩,h5⟩:=h;obtain ⟨j,hj⟩:=OZ w s (i+1) (by simpa using h5);refine ⟨j,?_⟩;simp only [List.cons_append,EE,bne_self_eq_false,Bool.false_eq_true,if_false];rw [if_neg (by simp [h2,h3]),if_neg (by
   have h1:(decide (97≤c)&&decide (c≤122))=false:=by simpa only [Bool.not_eq_true'] using h1
   rw [h1];simp),if_neg (by simp [h4]),hj]
theorem Ve (q:UInt8)(hq:q=34∨q=39):∀(x s:Bs) (i:Nat),∃j,EE bit i q ((x.flatMap λc=>if c==q then [q,q] else [c])++q::s)=(x.flatMap λc=>if c==q then [q,q] else [c])++q::EE bit j 0 s
 |[],s,i=>by
  refine ⟨i+1,?_⟩;rcases hq with rfl|rfl <;> simp [EE]
 |c::x,s,i=>by
  by_cases hc:c=q
  ·subst hc;obtain ⟨j,hj⟩:=Ve c hq x s (i+2);refine ⟨j,?_⟩;simp only [List.flatMap_cons,beq_self_eq_true,if_true,List.cons_append,List.nil_append];rw [←hj];rcases hq with rfl|rfl <;> simp [EE]
  ·obtain ⟨j,hj⟩:=Ve q hq x s (i+1);refine ⟨j,?_⟩;have:(c==q)=false:=by simpa using hc
   simp only [List.flatMap_cons,this,Bool.false_eq_true,if_false,List.cons_append,List.nil_append];rw [←hj];rcases hq with rfl|rfl <;> simp [EE,this]
theorem AGJ {q:UInt8}(hq:q=34∨q=39)(x s:Bs)(i:Nat):∃j,EE bit i 0 (FV q x++s)=FV q x++EE bit j 0 s:=by
 obtain ⟨j,hj⟩:=Ve bit q hq x s (i+1);refine ⟨j,?_⟩;simp only [FV,List.cons_append,List.append_assoc,List.nil_append];rw [←hj];rcases hq with rfl|rfl <;> simp [EE]
end
theorem AAF {p:UInt8→Bool}:∀{w s:Bs},w.all p=true→s.head?.any p=false→(w++s).takeWhile p=w∧(w++s).dropWhile p=s
 |[],[],_,_=>⟨rfl,rfl⟩
 |[],c::s,_,h=>by
  simp only [List.head?_cons,Option.any_some] at h;simp [List.takeWhile_cons,List.dropWhile_cons,h]
 |c::w,s,h,hs=>by
  simp only [List.all_cons,Bool.and_eq_true] at h;have:=AAF h.2 hs;simp only [List.cons_append,List.takeWhile_cons,List.dropWhile_cons,h.1,if_true,this.1,this.2,and_self]
theorem QI {c:UInt8}{r:Bs}(h:Hu c=false)(h':c≠45):BL false (c::r)=c::r:=by
 simp only [BL,h,Bool.false_eq_true,if_false];rw [if_neg (by simp [h'])]
theorem AMZ {w' w s:Bs}{l:List Tok}(h1:w'.all wc=true)(h2:w'.head?.any BN=true)(h3:w'.map Ef=w)(h4:w.length≤63)(h5:endW s=true)(hl:Lx s l):Lx (w'++s) (tkW w::l):=by
 cases w' with
 |nil=>simp at h2
 |cons c r=>
  simp only [List.head?_cons,Option.any_some] at h2;have k:=FD (p:=λc=> !BN c||(!Hu c&&c != 45)) (by decide+kernel) c;simp only [h2,Bool.not_true,Bool.false_or,Bool.and_eq_true,Bool.not_eq_true',bne_iff_ne] at k;have ht:=AAF (p:=wc) (w:=c::r) (s:=s) h1 (by simpa [endW] using h5);refine .cons (c:=c) (r:=r++s) (QI k.1 k.2) ?_ hl;simp only [List.cons_append] at ht;simp only [Dj,h2,if_true];show Hr (((c::(r++s)).takeWhile wc).map Ef) 0 ((c::(r++s)).dropWhile wc)=_;rw [ht.1,ht.2,h3,Hr,if_neg (by omega)];rfl
theorem AQc {d s:Bs}{k:Int}{l:List Tok}(h0:d.isEmpty=false)(h1:d.all Az=true)(h2:Ij d 0=some k)(h5:endW s=true)(hl:Lx s l):Lx (d++s) (tk 3 [] k::l):=by
 cases d with
 |nil=>simp at h0
 |cons c r=>
  have hc:Az c=true:=by simp only [List.all_cons,Bool.and_eq_true] at h1;exact h1.1
  have k:=FD (p:=λc=> !Az c||(!Hu c&&c != 45&& !BN c)) (by decide+kernel) c;simp only [hc,Bool.not_true,Bool.false_or,Bool.and_eq_true,Bool.not_eq_true',bne_iff_ne] at k;have he:s.head?.any Az=false∧s.head?.any BN=false:=by
   cases s with
   |nil=>exact ⟨rfl,rfl⟩
   |cons e s=>simp only [endW,wc,List.head?_cons,Option.any_some,Bool.not_eq_true',Bool.or_eq_false_iff] at h5 ⊢;exact ⟨h5.2,h5.1⟩
  have ht:=AAF (p:=Az) (w:=c::r) (s:=s) h1 he.1;refine .cons (c:=c) (r:=r++s) (QI k.1.1 k.1.2) ?_ hl;simp only [List.cons_append] at ht;simp only [Dj,k.2,hc,if_true,Bool.false_eq_true,if_false];rw [ht.1,ht.2,h2];simp only [he.2,Bool.false_eq_true,if_false];rfl
theorem ADO (q:UInt8)(hq:q≠0):∀(x s:Bs),x.all (λc=>c != 0)=true→s.head? ≠some q→CG q ((x.flatMap λc=>if c==q then [q,q] else [c])++q::s)=some (x,s)
 |[],s,_,h=>by
  simp only [List.flatMap_nil,List.nil_append,Gi];rw [if_neg (by simp [hq]),if_neg (by simp)];cases s with
  |nil=>rfl
  |cons d r=>
   simp only [List.head?_cons,ne_eq,Option.some.injEq] at h;simp only [show (d==q)=false by simpa using h,Bool.false_eq_true,if_false]
 |c::x,s,hx,h=>by
  simp only [List.all_cons,Bool.and_eq_true,bne_iff_ne] at hx;have ih:=ADO q hq x s hx.2 h;by_cases hc:c=q
  ·subst hc;simp only [List.flatMap_cons,beq_self_eq_true,if_true,List.cons_append,List.nil_append,Gi];rw [if_neg (by simp [hq]),if_neg (by simp)];simp only [ih,Option.map_some]
  ·have h1:(c==q)=false:=by simpa using hc
   simp only [List.flatMap_cons,h1,Bool.false_eq_true,if_false,List.cons_append,List.nil_append,Gi];rw [if_neg (by simp [hx.1]),if_pos (by simp [hc]),ih];rfl
theorem AQb {q:UInt8}{x s:Bs}{l:List Tok}(h:okQ q x=true)(hs:s.head? ≠some q)(hl:Lx s l):Lx (FV q x++s) (tk (if q=34 then 1 else 4) x 0::l):=by
 simp only [okQ,Bool.and_eq_true,Bool.or_eq_true,beq_iff_eq] at h;obtain ⟨hq,hx⟩:=h;have hq':q=34∨q=39:=hq.imp (λh=>h.1.1) id;have hq0:q≠0:=by rcases hq' with rfl|rfl <;> decide
 have hr:=ADO q hq0 x s hx hs;simp only [FV,List.cons_append,List.append_assoc,List.nil_append];generalize (x.flatMap λc=>if c==q then [q,q] else [c])++q::s=y at hr ⊢;rcases hq with ⟨⟨rfl,h1⟩,h2⟩|rfl
 ·refine .cons (c:=34) (r:=y) (QI rfl (by decide)) ?_ hl;simp only [Dj,show BN 34=false by decide,show Az 34=false by decide,Bool.false_eq_true,if_false,hr];have:(x.isEmpty||decide (63 < x.length))=false:=by
   have h2:=of_decide_eq_true h2;simp only [Bool.not_eq_true'] at h1;simp only [h1,Bool.false_or,decide_eq_false_iff_not];omega
  simp [this,tk]
 ·refine .cons (c:=39) (r:=y) (QI rfl (by decide)) ?_ hl;simp only [Dj,show BN 39=false by decide,show Az 39=false by decide,Bool.false_eq_true,if_false,hr];simp [tk]
theorem AMa {x s : Bs} {l : List Tok} (h : okS x s = true) (hl : Lx s l) : Lx (x ++ s) (tk 5 x 0 :: l) := by
  simp only [okS, Bool.and_eq_true, List.contains_iff_mem, bne_iff_ne] at h
  obtain ⟨⟨h1, h2⟩, h3⟩ := h
  have hs : Il (x ++ s) = some x := by
    simp only [signsL, List.mem_cons, List.not_mem_nil, or_false] at h1
    rcases h1 with rfl | rfl | rfl | rfl | rfl | rfl | rfl | rfl | rfl | rfl | rfl | rfl | rfl | rfl | rfl | rfl | rfl | rfl
    all_goals first
      | rfl
      | (cases s with
        | nil => rfl
        | cons d s =>
          simp only [List.head?_cons, Option.all_some, Bool.or_eq_true, Bool.and_eq_true, bne_iff_ne] at h3
          first
            | rfl
            | (have h3 := h3.resolve_left (by decide)
               have e1 : ((61 : UInt8) == d) = false := by simpa using λe => h3.1.1 e.symm
               have e2 : ((62 : UInt8) == d) = false := by simpa using λe => h3.1.2 e.symm
               simp [Il, signsL, List.find?, List.isPrefixOf, e1, e2]))
  have h0 : ∃ c r, x = c :: r ∧ BN c = false ∧ Az c = false ∧ (c == 34 || c == 39) = false ∧ Hu c = false ∧ (c = 45 → x = [45]) := by
    have : signsL.all (λx => match x with
      | [] => false
      | c :: r => !BN c && !Az c && !(c == 34 || c == 39) && !Hu c && (c != 45 || x == [45])) = true := by decide
    have := List.all_eq_true.1 this x h1
    cases x with
    | nil => cases this
    | cons c r =>
      simp only [Bool.and_eq_true, Bool.not_eq_true', Bool.or_eq_true, bne_iff_ne, beq_iff_eq] at this
      exact ⟨c, r, rfl, this.1.1.1.1, this.1.1.1.2, this.1.1.2, this.1.2, λe => this.2.resolve_left (λh => h e)⟩
  obtain ⟨c, r, rfl, g1, g2, g3, g4, g5⟩ := h0
  have hsk : BL false (c :: (r ++ s)) = c :: (r ++ s) := by
    simp only [BL, g4, Bool.false_eq_true, if_false]
    rw [if_neg]
    intro hc
    simp only [Bool.and_eq_true, beq_iff_eq] at hc
    have hx := g5 hc.1
    rw [hx] at h3
    simp only [List.cons.injEq] at hx
    obtain ⟨_, rfl⟩ := hx
    cases s with
    | nil => simp at hc
    | cons d s =>
      simp only [List.nil_append, List.head?_cons, Option.some.injEq] at hc
      rw [hc.2] at h3
      simp at h3
  refine .cons (c := c) (r := r ++ s) hsk ?_ hl
  simp only [Dj, g1, g2, g3, Bool.false_eq_true, if_false]
  rw [show c :: (r ++ s) = (c :: r) ++ s from rfl, hs]
  simp only
  rw [if_neg h2, List.drop_left]
  rfl
theorem ALc (s:Bs):BL false (32::s)=BL false s:=by simp [BL,Hu]
theorem AGW (s:Bs):BL false (32::(AQw++s))=BL false s:=by simp [BL,Hu,AQw]
theorem Ck.turn {s:Bs}{l:List Tok}(h:Ck s l)(bit:Nat→Bool):∀i,Lx (EE bit i 0 s) l:=by
 induction h with
 |nil=>intro i;exact .nil rfl
 |sp _ ih=>
  rename_i s l _
  intro i;simp only [EE,bne_self_eq_false,Bool.false_eq_true,if_false];rw [if_neg (by decide),if_neg (by simp)];split
  ·exact (ih (i+1)).skip (AGW _)
  ·exact (ih (i+1)).skip (ALc _)
 |word h1 h2 _ ih=>
  rename_i w s l _
  intro i;simp only [okW,Bool.and_eq_true] at h1;obtain ⟨w',j,g1,g2,g3,g4⟩:=UU bit w s i h1.1.2;rw [g1];exact AMZ g3 (g4 h1.1.1) g2 (of_decide_eq_true h1.2) (UV bit j h2) (ih j)
 |num h0 h1 h2 h3 _ ih=>
  rename_i d s l k _
  intro i;obtain ⟨j,g⟩:=OZ bit d s i (by
   rw [List.all_eq_true] at h1 ⊢;intro c hc;have:=FD (p:=λc=> !Az c||(!(97≤c&&c≤122)&&c != 39&&c != 34&&c != 32)) (by decide+kernel) c;simpa [h1 c hc] using this)
  rw [g];exact AQc h0 h1 h2 (UV bit j h3) (ih j)
 |quo h1 h2 _ ih=>
  rename_i q x s l _
  intro i;have hq':q=34∨q=39:=by
   simp only [okQ,Bool.and_eq_true,Bool.or_eq_true,beq_iff_eq] at h1;exact h1.1.imp (λh=>h.1.1) id
  obtain ⟨j,g⟩:=AGJ bit hq' x s i;rw [g];exact AQb h1 (ALU bit j hq' h2) (ih j)
 |sign h1 _ ih=>
  rename_i x s l _
  intro i;simp only [okS,Bool.and_eq_true,List.contains_iff_mem,Bool.or_eq_true] at h1;obtain ⟨j,g⟩:=OZ bit x s i (by
   have:signsL.all (λx=>x.all (λc=> !(97≤c&&c≤122)&&c != 39&&c != 34&&c != 32))=true:=by decide
   exact List.all_eq_true.1 this x h1.1.1)
  rw [g];refine AMa ?_ (ih j);simp only [okS,Bool.and_eq_true,List.contains_iff_mem,Bool.or_eq_true];exact ⟨h1.1,h1.2.imp id (ALT bit j)⟩
theorem Ck.lx {s:Bs}{l:List Tok}(h:Ck s l):Lx s l:=by
 have:=h.turn (λ_=>false) 0;rwa [ABn] at this
def bd (s:Bs):Prop:=endW s=true∧s.head? ≠some 34∧s.head? ≠some 39
def CK (s:Bs)(T:List Tok):Prop:=∀u l,bd u→Ck u l→Ck (s++u) (T++l)
def CZ (s:Bs)(T:List Tok):Prop:=∀u l,Ck u l→Ck (s++u) (T++l)
def bg (s:Bs):Prop:=∀u,bd u→bd (s++u)
theorem CZ.ck {s:Bs}{T:List Tok}(h:CZ s T):CK s T:=λu l _ hc=>h u l hc
theorem Bj {a b:Bs}{T U:List Tok}(ha:CK a T)(hb:CK b U)(hg:bg b):CK (a++b) (T++U):=λu l h hc=>by
 rw [List.append_assoc,List.append_assoc];exact ha _ _ (hg u h) (hb u l h hc)
theorem KG {a b:Bs}{T U:List Tok}(ha:CK a T)(hb:CZ b U)(hg:∀u,bd (b++u)):CZ (a++b) (T++U):=λu l hc=>by
 rw [List.append_assoc,List.append_assoc];exact ha _ _ (hg u) (hb u l hc)
theorem Bz {a b:Bs}{T U:List Tok}(ha:CZ a T)(hb:CK b U):CK (a++b) (T++U):=λu l h hc=>by
 rw [List.append_assoc,List.append_assoc];exact ha _ _ (hb u l h hc)
theorem Ti {a b:Bs}{T U:List Tok}(ha:CZ a T)(hb:CZ b U):CZ (a++b) (T++U):=λu l hc=>by
 rw [List.append_assoc,List.append_assoc];exact ha _ _ (hb u l hc)
theorem Gq:CK [] []:=λu l _ hc=>hc
def bdC (c:UInt8):Bool:= !wc c&&c != 34&&c != 39
theorem ET {c:UInt8}{s:Bs}(h:bdC c=true):bd (c::s):=by
 simp only [bdC,Bool.and_eq_true,bne_iff_ne] at h;refine ⟨?_,?_,?_⟩
 ·simp only [endW,List.head?_cons,Option.any_some];exact h.1.1
 ·simpa using h.1.2
 ·simpa using h.2
theorem Gt:bg []:=λ_ h=>h
theorem BM {c:UInt8}{s:Bs}(h:bdC c=true):bg (c::s):=λ_ _=>ET h
theorem ATL {a b:Bs}(ha:bg a)(hb:bg b):bg (a++b):=λu h=>by rw [List.append_assoc];exact ha _ (hb u h)
def lit:Nat→Bs→Option (List Tok)
 |0,_=>none
 |_,[]=>some []
 |f+1,c::s=>
  if c==32 then lit f s else
  if BN c then (if okW ((c::s).takeWhile wc) then (lit f ((c::s).dropWhile wc)).map (tkW ((c::s).takeWhile wc)::·) else none) else
  if c==40||c==41||c==44||c==46||c==42 then (lit f s).map (tk 5 [c] 0::·) else none
theorem AJn {p:UInt8→Bool}:∀s:Bs,(s.dropWhile p).head?.any p=false
 |[]=>rfl
 |c::s=>by
  cases h:p c with
  |true=>rw [List.dropWhile_cons_of_pos h];exact AJn s
  |false=>rw [List.dropWhile_cons_of_neg (by simp [h])];simp [h]
theorem AJO {a b:Bs}(h:b≠[]):(a++b).getLast? =b.getLast? :=by
 rw [List.getLast?_append];cases hb:b.getLast? with
 |none=>exact absurd (List.getLast?_eq_none_iff.1 hb) h
 |some c=>rfl
theorem Ny:∀(f:Nat) (s:Bs) (T:List Tok),lit f s=some T→∀u l,(s.getLast?.any wc=true→endW u=true)→Ck u l→Ck (s++u) (T++l)
 |0,_,_,h,_,_,_,_=>by simp [lit] at h
 |f+1,[],T,h,u,l,_,hc=>by simp only [lit,Option.some.injEq] at h;subst h;exact hc
 |f+1,c::s,T,h,u,l,hu,hc=>by
  simp only [lit] at h;have tl:∀{b:Bs},b≠[]→(∃a,c::s=a++b)→(b.getLast?.any wc=true→endW u=true):=by
   rintro b hb ⟨a,e⟩ h;rw [e,AJO hb] at hu;exact hu h
  have tl':(s.getLast?.any wc=true→endW u=true):=by
   intro h;cases s with
   |nil=>cases h
   |cons d s=>exact tl (b:=d::s) (by simp) ⟨[c],rfl⟩ h
  split at h
  ·rename_i hc32
   have hc32:c=32:=by simpa using hc32
   subst hc32;exact .sp (Ny f s T h u l tl' hc)
  split at h
  ·rename_i hl
   split at h
   ·rename_i hw
    simp only [Option.map_eq_some_iff] at h;obtain ⟨T',h1,rfl⟩:=h;have e:c::s=(c::s).takeWhile wc++(c::s).dropWhile wc:=(List.takeWhile_append_dropWhile).symm;have hcw:wc c=true:=by simp [wc,hl]
    generalize hA:(c::s).takeWhile wc=A at e hw;generalize hB:(c::s).dropWhile wc=B at e h1;rw [e,List.append_assoc];have hend:B.head?.any wc=false:=by rw [←hB];exact AJn _
    refine .word hw ?_ (Ny f B T' h1 u l ?_ hc)
    ·cases B with
     |nil=>
      have:A≠[]:=by rw [←hA,List.takeWhile_cons_of_pos hcw];simp
      refine hu ?_;rw [e,List.append_nil];have hall:A.all wc=true:=by rw [←hA];exact List.all_takeWhile
      cases hg:A.getLast? with
      |none=>exact absurd (List.getLast?_eq_none_iff.1 hg) this
      |some d=>exact List.all_eq_true.1 hall d (List.mem_of_getLast? hg)
     |cons d B=>simp only [endW,List.cons_append,List.head?_cons];rw [show (some d).any wc=false from hend];rfl
    ·intro h;cases B with
     |nil=>cases h
     |cons d B=>exact tl (b:=d::B) (by simp) ⟨A,e⟩ h
   ·cases h
  split at h
  ·rename_i hs
   simp only [Option.map_eq_some_iff] at h;obtain ⟨T',h1,rfl⟩:=h;have:=Ny f s T' h1 u l tl' hc;refine Ck.sign (x:=[c]) ?_ this;simp only [Bool.or_eq_true,beq_iff_eq] at hs;rcases hs with (((rfl|rfl)|rfl)|rfl)|rfl <;> rfl
  ·cases h
theorem EI {s:Bs}{T:List Tok}(h:lit 100 s=some T):CK s T:=λu l hb hc=>Ny _ _ _ h u l (λ_=>hb.1) hc
theorem Aw {s:Bs}{T:List Tok}(h:lit 100 s=some T)(hl:s.getLast?.any wc=false):CZ s T:=λu l hc=>Ny _ _ _ h u l (λh=>by rw [hl] at h;cases h) hc
def HdT (a:Int)(s:Bs):Prop:=∃c r,s=c::r∧c≠61∧c≠62∧(8≤a→c≠45)
theorem HdT.app {a:Int}{s t:Bs}(h:HdT a s):HdT a (s++t):=by
 obtain ⟨c,r,rfl,h⟩:=h;exact ⟨c,r++t,rfl,h⟩
theorem HdT.le {a b:Int}{s:Bs}(h:HdT b s)(hab:a≤b):HdT a s:=by
 obtain ⟨c,r,rfl,h1,h2,h3⟩:=h;exact ⟨c,r,rfl,h1,h2,λh=>h3 (by omega)⟩
theorem hdt {a:Int}{c:UInt8}{s:Bs}(h:(c != 61&&c != 62&&c != 45)=true):HdT a (c::s):=by
 simp only [Bool.and_eq_true,bne_iff_ne] at h;exact ⟨c,s,rfl,h.1.1,h.1.2,λ_=>h.2⟩
theorem YM {s:Bs}(h:Jk s=true)(hn:nOk s=true):okW s=true∧wordsL.contains s=false:=by
 simp only [Jk,Bool.and_eq_true] at h;obtain ⟨⟨⟨h1,h2⟩,h3⟩,h4⟩:=h;simp only [nOk,Bool.and_eq_true,decide_eq_true_eq] at hn;refine ⟨?_,by simpa using h3⟩;simp only [okW,Bool.and_eq_true,decide_eq_true_eq];refine ⟨⟨?_,h4⟩,hn.1.2⟩;cases s with
 |nil=>exact absurd h1 (by decide)
 |cons c s=>
  simp only [List.head?_cons,Option.any_some] at h2 ⊢;simp only [List.all_cons,Bool.and_eq_true,Bool.or_eq_true] at h4;rcases h4.1.1 with h|h
  ·exact h
  ·rw [h] at h2;cases h2
theorem AQj (c:UInt8)(h:BN c=true):(c != 61&&c != 62&&c != 45)=true:=by
 have:=FD (p:=λc=> !BN c||(c != 61&&c != 62&&c != 45)) (by decide+kernel) c;rw [h] at this;simpa using this
theorem AQv (c:UInt8)(h:Az c=true):(c != 61&&c != 62&&c != 45)=true:=by
 have:=FD (p:=λc=> !Az c||(c != 61&&c != 62&&c != 45)) (by decide+kernel) c;rw [h] at this;simpa using this
theorem Dy {s:Bs}(h:nOk s=true):CK (nameB s) [tk 1 s 0]:=by
 intro u l hb hc;unfold nameB;split
 ·rename_i hp
  obtain ⟨h1,h2⟩:=YM hp h;have:=Ck.word h1 hb.1 hc;rwa [show tkW s=tk 1 s 0 from by unfold tkW;rw [h2];rfl] at this
 ·refine Ck.quo (q:=34) (x:=s) ?_ hb.2.1 hc;simp only [nOk,Bool.and_eq_true] at h;simp only [okQ,beq_self_eq_true,Bool.true_and,Bool.and_eq_true,Bool.or_eq_true];exact ⟨.inl h.1,h.2⟩
theorem ADp {s:Bs}(a:Int)(h:nOk s=true):HdT a (nameB s):=by
 unfold nameB;split
 ·rename_i hp
  have h1:=(YM hp h).1;simp only [okW,Bool.and_eq_true] at h1;cases s with
  |nil=>exact absurd h1.1.1 (by decide)
  |cons c s=>exact hdt (AQj c (by simpa using h1.1.1))
 ·exact hdt (c:=34) (by decide)
theorem Wy:∀(f n:Nat) (acc:Bs),n < f→n≤9223372036854775807→Ij (PD f n acc) 0=Ij acc n∧(acc.all Az=true→(PD f n acc).all Az=true)∧(PD f n acc).isEmpty=false
 |0,n,acc,h,_=>by omega
 |f+1,n,acc,h,hn=>by
  have hd:∀m:Nat,m < 10→(((UInt8.ofNat (48+m)).toNat:Int) - 48=m)∧Az (UInt8.ofNat (48+m))=true:=by
   intro m hm;have:(UInt8.ofNat (48+m)).toNat=48+m:=by rw [UInt8.toNat_ofNat'];omega
   refine ⟨by rw [this];omega,?_⟩;simp only [Az,Bool.and_eq_true,decide_eq_true_eq,UInt8.le_iff_toNat_le,this];exact ⟨by show 48≤48+m;omega,by show 48+m≤57;omega⟩
  simp only [PD];split
  ·rename_i hlt
   obtain ⟨e1,e2⟩:=hd n hlt;refine ⟨?_,λha=>by simp only [List.all_cons,e2,ha,Bool.and_self],rfl⟩;simp only [Ij,e1];rw [if_neg (by omega)];congr 1;omega
  ·rename_i hlt
   obtain ⟨e1,e2⟩:=hd (n % 10) (by omega);obtain ⟨g1,g2,g3⟩:=Wy f (n / 10) (UInt8.ofNat (48+n % 10)::acc) (by omega) (by omega);refine ⟨?_,λha=>g2 (by simp only [List.all_cons,e2,ha,Bool.and_self]),g3⟩;rw [g1];simp only [Ij,e1];rw [if_neg (by omega)];congr 1;omega
theorem XF {n:Int}(h0:0≤n)(h1:n≤9223372036854775807):CK (IW true n) [tk 3 [] n]:=by
 intro u l hb hc;unfold IW;rw [if_neg (by omega)];obtain ⟨g1,g2,g3⟩:=Wy (n.toNat+1) n.toNat [] (by omega) (by omega);refine Ck.num g3 (g2 rfl) ?_ hb.1 hc;rw [g1];simp only [Ij];congr 1;omega
theorem AJa {n:Int}(a:Int)(h0:0≤n)(h1:n≤9223372036854775807):HdT a (IW true n):=by
 unfold IW;rw [if_neg (by omega)];obtain ⟨g1,g2,g3⟩:=Wy (n.toNat+1) n.toNat [] (by omega) (by omega);have g2:=g2 rfl;cases hd:PD (n.toNat+1) n.toNat [] with
 |nil=>rw [hd] at g3;cases g3
 |cons c s=>
  rw [hd] at g2;simp only [List.all_cons,Bool.and_eq_true] at g2;exact hdt (AQv c g2.1)
instance {a:Int}{p:Prop}{b:Int}[Decidable p]:Decidable (a≤b→p):=inferInstance
def ends (a:Int)(r:List Tok):Prop:=isT r [46]=false∧isT r [40]=false∧(a≤6→Oo r=0)∧(a≤5→VC r=0)∧(a≤4→Dk r=0∧isT r [105,115]=false∧isT r [110,111,116]=false∧isT r [105,110]=false∧isT r [98,101,116,119,101,101,110]=false∧isT r [108,105,107,101]=false)∧(a≤2→Ez r=0)∧(a≤1→Ii r=0)
instance (a:Int)(r:List Tok):Decidable (ends a r):=by unfold ends;infer_instance
theorem OE {a b:Int}{r:List Tok}(h:ends a r)(hab:a≤b):ends b r:=
 ⟨h.1,h.2.1,λk=>h.2.2.1 (by omega),λk=>h.2.2.2.1 (by omega),λk=>h.2.2.2.2.1 (by omega),λk=>h.2.2.2.2.2.1 (by omega),λk=>h.2.2.2.2.2.2 (by omega)⟩
theorem CY {a:Int}{t:Tok}(h:ends a [t])(r:List Tok):ends a (t::r):=h
def PL:Nat→Int→Pr Ex
 |0,_=>λ_=>.err 0
 |n+1,a=>
  let U:=DK n (DI n).1 (DI n).2.2
  let T:=CB n U Oo
  let S:=CB n T VC
  let Q:=EG n (DI n).1 S
  let N:=KI (DI n).2.1 Q
  let A:=CB n N Ez
  if a=1 then CB n A Ii else if a=2 then A else if a=3 then N else if a=4 then Q else if a=5 then S else if a=6 then T else U
def opA (a:Int):List Tok→Int:=if a=1 then Ii else if a=2 then Ez else if a=5 then VC else Oo
def chn (a:Int):Prop:=a=1∨a=2∨a=5∨a=6
theorem ALG {a:Int}(h:chn a)(n:Nat):PL (n+1) a=CB n (PL (n+1) (a+1)) (opA a):=by
 rcases h with rfl|rfl|rfl|rfl <;> rfl
theorem ABg (n:Nat):PL n 1=eP n:=by cases n <;> rfl
theorem AWc (n:Nat):PL n 3=nP n:=by cases n <;> rfl
theorem AWA (n:Nat):PL n 8=uP n:=by cases n <;> rfl
theorem AMV {a:Int}(h:chn a){r:List Tok}(he:ends a r):opA a r=0:=by
 rcases h with rfl|rfl|rfl|rfl
 ·exact he.2.2.2.2.2.2 (by decide)
 ·exact he.2.2.2.2.2.1 (by decide)
 ·exact he.2.2.2.1 (by decide)
 ·exact he.2.2.1 (by decide)
theorem AJM {one:Pr Ex}{op:List Tok→Int}{x:Ex}{r:List Tok}(h:op r=0):∀k,Dv one op k x r= .ok x r
 |0=>rfl
 |k+1=>by simp only [Dv,h,if_true]
def Par (a:Int)(T:List Tok)(x:Ex):Prop:=∀n r,ends a r→(T++r).length≤n→PL n a (T++r)= .ok x r
def Run (a:Int)(T:List Tok)(x:Ex):Prop:=∀n r,ends (a+1) r→(T++r).length≤n+1→∃c,c < T.length∧∀k,c≤k→(PL (n+1) (a+1) (T++r)).bind (Dv (PL (n+1) (a+1)) (opA a) k)=Dv (PL (n+1) (a+1)) (opA a) (k - c) x r
def Yd (t:Tok):Bool:=t.kind==1||t.kind==3||t.kind==4||(t.kind==2&&(t.text==[116,114,117,101]||t.text==[102,97,108,115,101]||t.text==[110,117,108,108]||t.text==[99,97,115,101]||t.text==[110,111,116]))||(t.kind==5&&(t.text==[45]||t.text==[40]))
def PR (l:List Tok):Bool:=isK l 1&&isK l.tail 5&&(hd l.tail).text==[46]&&isK l.tail.tail 5&&(hd l.tail.tail).text==[42]
structure Fst (a:Int)(T:List Tok):Prop where
 ne:∃t r,T=t::r∧Yd t=true∧(4≤a→isT [t] [110,111,116]=false)
 st:∀r,isT r [46]=false→PR (T++r)=false
theorem Fst.le {a b:Int}{T:List Tok}(h:Fst b T)(hab:a≤b):Fst a T:=by
 obtain ⟨t,r,e,h1,h2⟩:=h.ne;exact ⟨⟨t,r,e,h1,λk=>h2 (by omega)⟩,h.st⟩
theorem Fst.pos {a:Int}{T:List Tok}(h:Fst a T):0 < T.length:=by
 obtain ⟨t,r,rfl,_⟩:=h.ne;simp
theorem Fst.app {a:Int}{T U:List Tok}(h:Fst a T)(hU:∀r,isT (U++r) [46]=false):Fst a (T++U):=by
 obtain ⟨t,r,rfl,h1,h2⟩:=h.ne;exact ⟨⟨t,r++U,rfl,h1,h2⟩,λr' _=>by rw [List.append_assoc];exact h.st _ (hU r')⟩
theorem Qu {a:Int}{t:Tok}{U:List Tok}(h:Yd t=true)(h4:4≤a→isT [t] [110,111,116]=false)(hs:∀r,isT r [46]=false→PR (t::U++r)=false):Fst a (t::U):=⟨⟨t,U,rfl,h,h4⟩,hs⟩
theorem Yc {a:Int}{t:Tok}{U:List Tok}(h:Yd t=true)(h1:t.kind≠1)(h4:4≤a→isT [t] [110,111,116]=false):Fst a (t::U):=Qu h h4 λr _=>by
 have:isK (t::U++r) 1=false:=by simp [isK,hd,h1]
 simp only [PR,this,Bool.false_and]
structure Lv (a:Int)(T:List Tok)(x:Ex):Prop where
 f:Fst a T
 p:Par a T x
 r:chn a→Run a T x
theorem ADJ {a:Int}(h:chn a){T:List Tok}{x:Ex}(hf:Fst a T)(hr:Run a T x):Par a T x:=by
 intro n r he hl;have:=hf.pos;rw [List.length_append] at hl;obtain ⟨n,rfl⟩:∃k,n=k+1:=⟨n - 1,by omega⟩;obtain ⟨c,hc,hk⟩:=hr n r (OE he (by omega)) (by rw [List.length_append];omega);rw [ALG h];show (PL (n+1) (a+1) (T++r)).bind (Dv (PL (n+1) (a+1)) (opA a) n)=_;rw [hk n (by omega)];exact AJM (AMV h he) _
theorem down {a:Int}(h1:1≤a)(h8:a≤7){T:List Tok}{x:Ex}(h:Lv (a+1) T x):Lv a T x:=by
 have hf:Fst a T:=h.f.le (by omega);have ch:chn a→Run a T x:=λ_ n r he hl=>⟨0,h.f.pos,λk _=>by
  rw [h.p (n+1) r he hl];rfl⟩
 by_cases hc:chn a
 ·exact ⟨hf,ADJ hc hf (ch hc),ch⟩
 refine ⟨hf,?_,ch⟩;have h3:a=3∨a=4∨a=7:=by unfold chn at hc;omega
 intro n r he hl;have hpos:=hf.pos;have hp:=h.p n r (OE he (by omega)) hl;rw [List.length_append] at hl;obtain ⟨n,rfl⟩:∃k,n=k+1:=⟨n - 1,by omega⟩;rcases h3 with rfl|rfl|rfl
 ·obtain ⟨t,q,rfl,_,hn⟩:=h.f.ne;have hn:isT (t::q++r) [110,111,116]=false:=hn (by decide);show KI _ _ (t::q++r)=_;unfold KI;rw [if_neg (by rw [hn];decide)];exact hp
 ·show EG _ _ _ (T++r)=_;unfold EG;have hp:CB n (CB n (DK n (DI n).1 (DI n).2.2) Oo) VC (T++r)= .ok x r:=hp;rw [hp];obtain ⟨e1,e2,e3,e4,e5,e6⟩:=he.2.2.2.2.1 (by decide);simp only [Res.bind,e1,e2,e3,e4,e5,e6,ne_eq,not_true_eq_false,if_false,Bool.false_eq_true]
 ·exact hp
theorem ADv {x:Ex}{T:List Tok}{o:Int}(ho:o≤8)(h:Lv o T x):∀(d:Nat) (a:Int),1≤a→a+d=o→Lv a T x
 |0,a,_,e=>by
  have:a=o:=by omega
  rw [this];exact h
 |d+1,a,h1,e=>down h1 (by omega) (ADv ho h d (a+1) (by omega) (by omega))
def Rt (x:Ex):Prop:=∀a,1≤a→a≤8→∃T,CK (exB true x a) T∧HdT a (exB true x a)∧Lv a T x
theorem Np {x:Ex}(o:Int)(ho:Wi x.kind=o)(h1:1≤o)(h8:o≤8){T:List Tok}(hc:CK (Ap true x (BO true x)) T)(hh:HdT o (Ap true x (BO true x)))(h:Lv o T x):Rt x:=by
 intro a ha1 ha8;rw [AJi,ho];by_cases hlt:o < a
 ·have hl1:=ADv h8 h (o - 1).toNat 1 (by omega) (by omega);rw [show YP (decide (o < a)) (Ap true x (BO true x))=[40]++Ap true x (BO true x)++[41] from by rw [decide_eq_true hlt];rfl];refine ⟨[tk 5 [40] 0]++T++[tk 5 [41] 0],(KG (Bz (Aw rfl rfl) hc) (Aw rfl rfl) λu=>ET rfl).ck,(hdt rfl:HdT a (40::_)),?_⟩;have h8':Lv 8 ([tk 5 [40] 0]++T++[tk 5 [41] 0]) x:=by
   refine ⟨Yc rfl (by decide) λ_=>rfl,λn r he hl=>?_,λhc=>by unfold chn at hc;omega⟩;simp only [zU] at hl;obtain ⟨n,rfl⟩:∃k,n=k+1:=⟨n - 1,by omega⟩;rw [show PL (n+1) 8=DK n (DI n).1 (DI n).2.2 from rfl];have e:[tk 5 [40] 0]++T++[tk 5 [41] 0]++r=tk 5 [40] 0::(T++(tk 5 [41] 0::r)):=by simp
   rw [e];unfold DK;rw [if_neg (by show ¬(false=true);decide),if_pos (by show (true=true);rfl)];have hp:=hl1.p n (tk 5 [41] 0::r) (CY (by decide) _) (by simp only [zU];omega);rw [ABg] at hp;rw [show (DI n).1=eP n from rfl,List.tail_cons,hp];rfl
  exact ADv (o:=8) (by decide) h8' (8 - a).toNat a ha1 (by omega)
 ·rw [show YP (decide (o < a)) (Ap true x (BO true x))=Ap true x (BO true x) from by rw [decide_eq_false hlt];rfl];exact ⟨T,hc,hh.le (by omega),ADv h8 h (o - a).toNat a ha1 (by omega)⟩
theorem AJJ {T:List Tok}{x:Ex}(f:Fst 8 T)(h:∀n r,ends 8 r→(T++r).length≤n+1→uP (n+1) (T++r)= .ok x r):Lv 8 T x:=
 ⟨f,λn r he hl=>by
  have:=f.pos;obtain ⟨n,rfl⟩:∃k,n=k+1:=⟨n - 1,by rw [List.length_append] at hl;omega⟩;rw [AWA];exact h n r he hl,λhc=>by unfold chn at hc;omega⟩
theorem ABm (n:Nat):uP (n+1)=DK n (eP n) (uP n):=rfl
theorem AGF {v:TValue}(h:wfV v):CK (RZ true v) [if v.fNull then tk 2 [110,117,108,108] 0 else if v.fType=3 then tk 4 v.fText 0 else if v.fType=2 then (if v.fInt=1 then tk 2 [116,114,117,101] 0 else tk 2 [102,97,108,115,101] 0) else tk 3 [] v.fInt]∧HdT 8 (RZ true v):=by
 rcases h with ⟨s,hs,rfl⟩|rfl|rfl|rfl|⟨n,hn,rfl⟩
 ·refine ⟨λu l hb hc=>?_,hdt (c:=39) rfl⟩;refine Ck.quo (q:=39) (x:=s) ?_ hb.2.2 hc;simp only [okQ,Bool.and_eq_true];exact ⟨rfl,hs⟩
 ·exact ⟨EI rfl,hdt (c:=116) rfl⟩
 ·exact ⟨EI rfl,hdt (c:=102) rfl⟩
 ·exact ⟨EI rfl,hdt (c:=110) rfl⟩
 ·exact ⟨XF hn.1 hn.2,AJa 8 hn.1 hn.2⟩
theorem APz {v:TValue}(h:wfV v):Rt (Et v):=by
 obtain ⟨h1,h2⟩:=AGF h;have go:∀t:Tok,CK (RZ true v) [t]→Yd t=true→t.kind≠1→isT [t] [110,111,116]=false→(∀n r,DK n (eP n) (uP n) (t::r)= .ok (Et v) r)→Rt (Et v):=λt g1 g2 g3 g4 g5=>
  Np 8 rfl (by decide) (by decide) (T:=[t]) g1 h2 (AJJ (Yc g2 g3 λ_=>g4) λn r _ _=>g5 n r)
 rcases h with ⟨s,hs,rfl⟩|rfl|rfl|rfl|⟨n,hn,rfl⟩
 ·exact go (tk 4 s 0) h1 rfl (show (4:Int)≠1 by decide) rfl λ_ _=>rfl
 ·exact go (tk 2 [116,114,117,101] 0) h1 rfl (show (2:Int)≠1 by decide) rfl λ_ _=>rfl
 ·exact go (tk 2 [102,97,108,115,101] 0) h1 rfl (show (2:Int)≠1 by decide) rfl λ_ _=>rfl
 ·exact go (tk 2 [110,117,108,108] 0) h1 rfl (show (2:Int)≠1 by decide) rfl λ_ _=>rfl
 ·exact go (tk 3 [] n) h1 rfl (show (3:Int)≠1 by decide) rfl λ_ _=>rfl
theorem AQH {t n:Bs}(ht:t=[]∨nOk t=true)(hn:nOk n=true):Rt (Ec t n):=by
 have hne:t≠[]→nOk t=true:=λh=>ht.resolve_left h;by_cases h0:t=[]
 ·subst h0;refine Np 8 rfl (by decide) (by decide) (T:=[tk 1 n 0]) (Dy hn) (ADp 8 hn) (AJJ (Qu rfl (λ_=>rfl) λr hr=>?_) λm r he hl=>?_)
  ·simp only [PR,List.nil_append,List.cons_append,List.tail_cons];cases hk:isK r 5 with
   |false=>simp
   |true=>
    have hx:((hd r).text==[46])=false:=by
     simp only [isT,Bool.and_eq_false_iff,Bool.or_eq_false_iff] at hr;rcases hr with hr|hr
     ·rw [isK,hr.2] at hk;cases hk
     ·exact hr
    simp only [hx,Bool.and_false,Bool.false_and]
  ·rw [ABm];obtain ⟨e1,e2,_⟩:=he;show (if (isT r [40]&&DZ n)=true then _ else if isT r [46]=true then _ else _)=_;rw [e1,e2];rfl
 ·have hk:=hne h0;have e0:Ap true (Ec t n) (BO true (Ec t n))=nameB t++[46]++nameB n:=by
   show (if t.isEmpty=true then [] else nameB t++[46])++nameB n=_;rw [if_neg (by simpa using h0)]
  refine Np 8 rfl (by decide) (by decide) (T:=[tk 1 t 0]++[tk 5 [46] 0]++[tk 1 n 0]) (by rw [e0];exact Bz (KG (Dy hk) (Aw rfl rfl) λu=>ET rfl) (Dy hn)) (by rw [e0];exact (ADp 8 hk).app.app) (AJJ (Qu rfl (λ_=>rfl) λr hr=>by simp [PR,isK,hd,tk]) λm r he hl=>?_);rw [ABm];rfl
theorem AQC {x:Ex}(h:Rt x):Rt (exK 4 [x]):=by
 obtain ⟨T,h1,⟨c,s,e,g1,g2,g3⟩,h3⟩:=h 8 (by decide) (by decide);refine Np 7 rfl (by decide) (by decide) (T:=tk 5 [45] 0::T) ?_ ⟨45,_,rfl,by decide,by decide,λh=>absurd h (by decide)⟩ ⟨Yc rfl (by decide) λ_=>rfl,λn r he hl=>?_,λhc=>by unfold chn at hc;omega⟩
 ·intro u l hb hc;refine Ck.sign (x:=[45]) (s:=exB true x 8++u) ?_ (h1 u l hb hc);rw [e];have g3:=g3 (by decide);simp only [okS,List.cons_append,List.head?_cons,Option.all_some];simp [signsL,g1,g2,g3]
 ·simp only [List.cons_append,List.length_cons] at hl;obtain ⟨n,rfl⟩:∃k,n=k+1:=⟨n - 1,by omega⟩;rw [show PL (n+1) 7=DK n (eP n) (uP n) from rfl];have hp:=h3.p n r (OE he (by decide)) (by omega);rw [AWA] at hp;show (uP n (T++r)).bind _=_;rw [hp];rfl
theorem AQB {x:Ex}(h:Rt x):Rt (exK 5 [x]):=by
 obtain ⟨T,h1,h2,h3⟩:=h 3 (by decide) (by decide);refine Np 3 rfl (by decide) (by decide) (T:=[tk 2 [110,111,116] 0]++T) (Bz (a:=[110,111,116,32]) (Aw rfl rfl) h1) (hdt (c:=110) rfl) ⟨Yc rfl (by decide) λh=>absurd h (by decide),λn r he hl=>?_,λhc=>by unfold chn at hc;omega⟩;simp only [List.cons_append,List.nil_append,List.length_cons] at hl;obtain ⟨n,rfl⟩:∃k,n=k+1:=⟨n - 1,by omega⟩;rw [show PL (n+1) 3=KI (nP n) (PL (n+1) 4) from rfl];have hp:=h3.p n r he (by omega);rw [AWc] at hp;show (nP n (T++r)).bind _=_;rw [hp];rfl
theorem AWd (n:Nat):PL (n+1) 4=EG n (eP n) (PL (n+1) 5):=rfl
theorem Nl {x y:Ex}{w:Bs}{U:List Tok}(ho:Wi y.kind=4)(h:Rt x)(e:Ap true y (BO true y)=exB true x 5++w)(hw:CK w U)(hg:bg w)(hU:∀r,isT (U++r) [46]=false)(h5:∀r,ends 5 (U++r))
  (hp:∀n T r,T≠[]→ends 4 r→(T++U++r).length≤n+1→PL (n+1) 5 (T++U++r)= .ok x (U++r)→EG n (eP n) (PL (n+1) 5) (T++U++r)= .ok y r):Rt y:=by
 obtain ⟨T,h1,h2,h3⟩:=h 5 (by decide) (by decide);refine Np 4 ho (by decide) (by decide) (T:=T++U) (by rw [e];exact Bj h1 hw hg) (by rw [e];exact (h2.le (by decide)).app) ⟨(h3.f.le (by decide)).app hU,λn r he hl=>?_,λhc=>by unfold chn at hc;omega⟩;have:=h3.f.pos;obtain ⟨n,rfl⟩:∃k,n=k+1:=⟨n - 1,by simp only [List.length_append] at hl;omega⟩;rw [AWd];refine hp n T r (by rintro rfl;exact absurd this (by decide)) he hl ?_;rw [List.append_assoc];exact h3.p (n+1) (U++r) (h5 r) (by rw [←List.append_assoc];exact hl)
theorem AQE {k:Int}{x:Ex}(hk:k=6∨k=7)(h:Rt x):Rt (exK k [x]):=by
 rcases hk with rfl|rfl
 ·refine Nl (w:=[32,105,115,32,110,117,108,108]) (U:=[tk 2 [105,115] 0,tk 2 [110,117,108,108] 0]) rfl h rfl (EI rfl) (BM rfl) (λr=>rfl) (λr=>CY (by decide) _) λn T r hT he hl hs=>?_;unfold EG;rw [hs];rfl
 ·refine Nl (w:=[32,105,115,32,110,111,116,32,110,117,108,108]) (U:=[tk 2 [105,115] 0,tk 2 [110,111,116] 0,tk 2 [110,117,108,108] 0]) rfl h rfl (EI rfl) (BM rfl) (λr=>rfl) (λr=>CY (by decide) _) λn T r hT he hl hs=>?_;unfold EG;rw [hs];rfl
theorem UA {α:Type}{one:Pr α}{F:List Tok→Prop}{N:Nat}(hF:∀r,F (tk 5 [44] 0::r)):∀(l:List (α×List Tok)) (n:Nat) (acc:List α) (r:List Tok),(∀p∈l,∀r,F r→(p.2++r).length≤N→one (p.2++r)= .ok p.1 r)→l.length≤n→F r→isT r [44]=false→
  ((l.flatMap λp=>tk 5 [44] 0::p.2)++r).length≤N→Bq one n acc ((l.flatMap λp=>tk 5 [44] 0::p.2)++r)= .ok (acc++l.map (·.1)) r
 |[],0,acc,r,_,_,_,_,_=>by simp [Bq]
 |[],n+1,acc,r,_,_,_,hr,_=>by simp [Bq,hr]
 |p::l,0,_,_,_,h,_,_,_=>by simp at h
 |p::l,n+1,acc,r,h,hn,hr,hc,hN=>by
  have e:((p::l).flatMap λp=>tk 5 [44] 0::p.2)++r=tk 5 [44] 0::(p.2++((l.flatMap λp=>tk 5 [44] 0::p.2)++r)):=by simp
  rw [e] at hN ⊢;rw [List.length_cons] at hN;have ih:=UA hF l n (acc++[p.1]) r (λq hq=>h q (List.mem_cons_of_mem _ hq)) (by simpa using hn) hr hc (by rw [List.length_append] at hN;omega);have hF':F ((l.flatMap λp=>tk 5 [44] 0::p.2)++r):=by
   cases l with
   |nil=>exact hr
   |cons q l=>exact hF _
  have h1:=h p (List.mem_cons_self ..) _ hF' (by omega);show (if isT (tk 5 [44] 0::_) [44]=true then _ else _)=_;rw [if_pos (by show (true=true);rfl),List.tail_cons,h1];show Bq one n (acc++[p.1]) _=_;rw [ih];simp
theorem ABT {α:Type}{one:Pr α}{F:List Tok→Prop}{N:Nat}(hF:∀r,F (tk 5 [44] 0::r))(p:α×List Tok)(l:List (α×List Tok))(n:Nat)(r:List Tok)(h:∀q∈p::l,∀r,F r→(q.2++r).length≤N→one (q.2++r)= .ok q.1 r)(hn:l.length≤n)(hr:F r)(hc:isT r [44]=false)
  (hN:(p.2++(l.flatMap λp=>tk 5 [44] 0::p.2)++r).length≤N):BG n one (p.2++(l.flatMap λp=>tk 5 [44] 0::p.2)++r)= .ok ((p::l).map (·.1)) r:=by
 unfold BG;rw [List.append_assoc] at hN ⊢;rw [h p (List.mem_cons_self ..) _ (by
  cases l with
  |nil=>exact hr
  |cons q l=>exact hF _) hN]
 show Bq one n [p.1] _=_;rw [UA hF l n [p.1] r (λq hq=>h q (List.mem_cons_of_mem _ hq)) hn hr hc (by rw [List.length_append] at hN;omega)];rfl
theorem pairs {α:Type}{Q:α→List Tok→Prop}:∀{l:List α},(∀y,y∈l→∃T,Q y T)→∃ps:List (α×List Tok),ps.map (·.1)=l∧∀p∈ps,Q p.1 p.2
 |[],_=>⟨[],rfl,nofun⟩
 |y::l,h=>by
  obtain ⟨ps,h1,h2⟩:=pairs (l:=l) λz hz=>h z (List.mem_cons_of_mem _ hz);obtain ⟨T,g⟩:=h y (List.mem_cons_self ..);refine ⟨(y,T)::ps,by simp [h1],λp hp=>?_⟩;rcases List.mem_cons.1 hp with rfl|hp
  ·exact g
  ·exact h2 p hp
theorem Wq {α:Type}:∀qs:List (α×List Tok),qs.length≤(qs.flatMap λx=>tk 5 [44] 0::x.2).length
 |[]=>by simp
 |q::qs=>by
  have:=Wq qs;simp only [List.length_cons,List.flatMap_cons,List.length_append];omega
theorem Yu {β:Type}{f:β→Bs}{t:β→List Tok}(b:β)(l:List β)(h:∀x∈b::l,CK (f x) (t x)):CK (AU ((b::l).map f)) (t b++l.flatMap λx=>tk 5 [44] 0::t x):=by
 induction l generalizing b with
 |nil=>simpa [AU] using h b (List.mem_cons_self ..)
 |cons c l ih=>
  have h1:=ih c (λx hx=>h x (List.mem_cons_of_mem _ hx));have e:AU ((b::c::l).map f)=f b++([44,32]++AU ((c::l).map f)):=by simp [AU]
  rw [e];have:=Bj (h b (List.mem_cons_self ..)) (Bz (a:=[44,32]) (T:=[tk 5 [44] 0]) (Aw rfl rfl) h1) (BM rfl);simpa using this
theorem LZ {α:Type}{f:α→Bs}{one:Nat→Pr α}{F:List Tok→Prop}{B:Tok→Prop}(hF:∀r,F (tk 5 [44] 0::r)){l:List α}(hne:l≠[])
  (h:∀y,y∈l→∃T,CK (f y) T∧(∃t r,T=t::r∧B t)∧∀n r,F r→(T++r).length≤n→one n (T++r)= .ok y r):
  ∃T,CK (AU (l.map f)) T∧(∃t r,T=t::r∧B t)∧l.length≤T.length∧∀n r,F r→isT r [44]=false→(T++r).length≤n→BG n (one n) (T++r)= .ok l r:=by
 obtain ⟨ps,rfl,hps⟩:=pairs h;cases ps with
 |nil=>exact absurd rfl hne
 |cons p ps=>
  obtain ⟨t,q,e,h1⟩:=(hps p (List.mem_cons_self ..)).2.1;have hl:=Wq ps;refine ⟨p.2++ps.flatMap λx=>tk 5 [44] 0::x.2,?_,⟨t,_,by rw [e];rfl,h1⟩,?_,λn r he hc hln=>?_⟩
  ·rw [List.map_map];exact Yu (f:=λp:α×List Tok=>f p.1) p ps λx hx=>(hps x hx).1
  ·rw [e];simp only [List.length_map,List.length_cons,List.length_append];omega
  ·refine ABT (N:=n) (F:=F) hF p ps n r (λq hq r he hr=>(hps q hq).2.2 n r he hr) ?_ he hc hln;simp only [List.length_append] at hln;omega
theorem Qn {l:List Ex}(hne:l≠[])(h:∀y,y∈l→Rt y):∃T,CK (AU (l.map λy=>exB true y 1)) T∧(∃t r,T=t::r∧Yd t=true)∧l.length≤T.length∧∀n r,ends 1 r→isT r [44]=false→(T++r).length≤n→BG n (eP n) (T++r)= .ok l r:=
 LZ (F:=ends 1) (one:=eP) (λr=>CY (by decide) _) hne λy hy=>by
  obtain ⟨T,g1,_,g3⟩:=h y hy 1 (by decide) (by decide);obtain ⟨t,q,e,h1,_⟩:=g3.f.ne;exact ⟨T,g1,⟨t,q,e,h1⟩,λn r he hl=>by rw [←ABg];exact g3.p n r he hl⟩
theorem OY {l:List Ex}{T:List Tok}(h:∀n r,ends 1 r→isT r [44]=false→(T++r).length≤n→BG n (eP n) (T++r)= .ok l r)(n:Nat)(r:List Tok)(hl:(T++tk 5 [41] 0::r).length≤n):BC n (eP n) (tk 5 [40] 0::(T++tk 5 [41] 0::r))= .ok l r:=by
 show (BG n (eP n) (T++tk 5 [41] 0::r)).bind _=_;rw [h n (tk 5 [41] 0::r) (CY (by decide) _) rfl hl];rfl
theorem AQW (a:Int)(t:Tok)(r:List Tok):opA a (t::r)=opA a [t]:=by
 unfold opA;split
 ·rfl
 split
 ·rfl
 split <;> rfl
theorem Ew {s:Bs}(h:okS s [32]=true):CZ ([32]++s++[32]) [tk 5 s 0]:=λu l hc=>by
 have:[32]++s++[32]++u=32::(s++32::u):=by simp
 rw [this];exact .sp (.sign h (.sp hc))
theorem Xl {k:Int}{s:Bs}{l:Int}(h:CQ k=some (s,l)):∃t,CZ ([32]++s++[32]) [t]∧Wi k=l∧k≠0∧isT [t] [46]=false∧((chn l∧ends (l+1) [t]∧opA l [t]=k)∨(l=4∧ends 5 [t]∧(Dk [t]=k∨k=23∧t=tk 2 [108,105,107,101] 0))):=by
 have w:∀(s:Bs),(lit 100 ([32]++s++[32])=some [tk 2 s 0])→(([32]++s++[32]).getLast?.any wc=false)→CZ ([32]++s++[32]) [tk 2 s 0]:=λs h1 h2=>Aw h1 h2;by_cases e22:k=22
 ·subst e22;rw [show CQ 22=some ([111,114],1) from rfl,Option.some.injEq,Prod.mk.injEq] at h;obtain ⟨rfl,rfl⟩:=h;exact ⟨_,w _ rfl rfl,rfl,by decide,rfl,.inl ⟨.inl rfl,by decide,rfl⟩⟩
 by_cases e21:k=21
 ·subst e21;rw [show CQ 21=some ([97,110,100],2) from rfl,Option.some.injEq,Prod.mk.injEq] at h;obtain ⟨rfl,rfl⟩:=h;exact ⟨_,w _ rfl rfl,rfl,by decide,rfl,.inl ⟨.inr (.inl rfl),by decide,rfl⟩⟩
 by_cases e23:k=23
 ·subst e23;rw [show CQ 23=some ([108,105,107,101],4) from rfl,Option.some.injEq,Prod.mk.injEq] at h;obtain ⟨rfl,rfl⟩:=h;exact ⟨_,w _ rfl rfl,rfl,by decide,rfl,.inr ⟨rfl,by decide,.inr ⟨rfl,rfl⟩⟩⟩
 by_cases e15:k=15
 ·subst e15;rw [show CQ 15=some ([61],4) from rfl,Option.some.injEq,Prod.mk.injEq] at h;obtain ⟨rfl,rfl⟩:=h;exact ⟨_,Ew rfl,rfl,by decide,rfl,.inr ⟨rfl,by decide,.inl rfl⟩⟩
 by_cases e16:k=16
 ·subst e16;rw [show CQ 16=some ([60,62],4) from rfl,Option.some.injEq,Prod.mk.injEq] at h;obtain ⟨rfl,rfl⟩:=h;exact ⟨_,Ew rfl,rfl,by decide,rfl,.inr ⟨rfl,by decide,.inl rfl⟩⟩
 by_cases e17:k=17
 ·subst e17;rw [show CQ 17=some ([60],4) from rfl,Option.some.injEq,Prod.mk.injEq] at h;obtain ⟨rfl,rfl⟩:=h;exact ⟨_,Ew rfl,rfl,by decide,rfl,.inr ⟨rfl,by decide,.inl rfl⟩⟩
 by_cases e18:k=18
 ·subst e18;rw [show CQ 18=some ([60,61],4) from rfl,Option.some.injEq,Prod.mk.injEq] at h;obtain ⟨rfl,rfl⟩:=h;exact ⟨_,Ew rfl,rfl,by decide,rfl,.inr ⟨rfl,by decide,.inl rfl⟩⟩
 by_cases e19:k=19
 ·subst e19;rw [show CQ 19=some ([62],4) from rfl,Option.some.injEq,Prod.mk.injEq] at h;obtain ⟨rfl,rfl⟩:=h;exact ⟨_,Ew rfl,rfl,by decide,rfl,.inr ⟨rfl,by decide,.inl rfl⟩⟩
 by_cases e20:k=20
 ·subst e20;rw [show CQ 20=some ([62,61],4) from rfl,Option.some.injEq,Prod.mk.injEq] at h;obtain ⟨rfl,rfl⟩:=h;exact ⟨_,Ew rfl,rfl,by decide,rfl,.inr ⟨rfl,by decide,.inl rfl⟩⟩
 by_cases e9:k=9
 ·subst e9;rw [show CQ 9=some ([43],5) from rfl,Option.some.injEq,Prod.mk.injEq] at h;obtain ⟨rfl,rfl⟩:=h;exact ⟨_,Ew rfl,rfl,by decide,rfl,.inl ⟨.inr (.inr (.inl rfl)),by decide,rfl⟩⟩
 by_cases e10:k=10
 ·subst e10;rw [show CQ 10=some ([45],5) from rfl,Option.some.injEq,Prod.mk.injEq] at h;obtain ⟨rfl,rfl⟩:=h;exact ⟨_,Ew rfl,rfl,by decide,rfl,.inl ⟨.inr (.inr (.inl rfl)),by decide,rfl⟩⟩
 by_cases e14:k=14
 ·subst e14;rw [show CQ 14=some ([124,124],5) from rfl,Option.some.injEq,Prod.mk.injEq] at h;obtain ⟨rfl,rfl⟩:=h;exact ⟨_,Ew rfl,rfl,by decide,rfl,.inl ⟨.inr (.inr (.inl rfl)),by decide,rfl⟩⟩
 by_cases e11:k=11
 ·subst e11;rw [show CQ 11=some ([42],6) from rfl,Option.some.injEq,Prod.mk.injEq] at h;obtain ⟨rfl,rfl⟩:=h;exact ⟨_,Ew rfl,rfl,by decide,rfl,.inl ⟨.inr (.inr (.inr rfl)),by decide,rfl⟩⟩
 by_cases e12:k=12
 ·subst e12;rw [show CQ 12=some ([47],6) from rfl,Option.some.injEq,Prod.mk.injEq] at h;obtain ⟨rfl,rfl⟩:=h;exact ⟨_,Ew rfl,rfl,by decide,rfl,.inl ⟨.inr (.inr (.inr rfl)),by decide,rfl⟩⟩
 by_cases e13:k=13
 ·subst e13;rw [show CQ 13=some ([37],6) from rfl,Option.some.injEq,Prod.mk.injEq] at h;obtain ⟨rfl,rfl⟩:=h;exact ⟨_,Ew rfl,rfl,by decide,rfl,.inl ⟨.inr (.inr (.inr rfl)),by decide,rfl⟩⟩
 unfold CQ at h;rw [if_neg e22,if_neg e21,if_neg e23,if_neg e15,if_neg e16,if_neg e17,if_neg e18,if_neg e19,if_neg e20,if_neg e9,if_neg e10,if_neg e14,if_neg e11,if_neg e12,if_neg e13] at h;cases h
theorem AQL {k:Int}{x y:Ex}(hk:(CQ k).isSome=true)(hx:Rt x)(hy:Rt y):Rt (exK k [x,y]):=by
 obtain ⟨⟨s,l⟩,hs⟩:=Option.isSome_iff_exists.1 hk;obtain ⟨t,c1,c2,c3,c4,c5⟩:=Xl hs;have e:Ap true (exK k [x,y]) (BO true (exK k [x,y]))=exB true x (if l=4 then 5 else l)++([32]++s++[32]++exB true y (l+1)):=by
  unfold Ap;rw [show (exK k [x,y]).kind=k from rfl,hs];simp only [List.append_assoc];rfl
 rcases c5 with ⟨hc,g1,g2⟩|⟨rfl,g1,g2⟩
 ·have h1:1≤l∧l≤6∧l≠4:=by unfold chn at hc;omega
  rw [if_neg h1.2.2] at e;obtain ⟨T,t1,t2,t3⟩:=hx l (by omega) (by omega);obtain ⟨U,u1,u2,u3⟩:=hy (l+1) (by omega) (by omega);have hf:Fst l (T++([t]++U)):=t3.f.app λr=>c4;have hr:Run l (T++([t]++U)) (exK k [x,y]):=by
   intro n r he hl;have el:T++([t]++U)++r=T++(t::(U++r)):=by simp
   rw [el] at hl ⊢;obtain ⟨c,hc1,hc2⟩:=t3.r hc n (t::(U++r)) (CY g1 _) hl;refine ⟨c+1,by simp only [zU];omega,λj hj=>?_⟩;rw [hc2 j (by omega)];obtain ⟨m,rfl⟩:∃m,j=c+1+m:=⟨j - (c+1),by omega⟩;rw [show c+1+m - c=m+1 by omega,show c+1+m - (c+1)=m by omega];simp only [Dv];rw [AQW,g2,if_neg c3,List.tail_cons,u3.p (n+1) r he (by simp only [zU] at hl ⊢;omega)];rfl
  refine Np l c2 (by omega) (by omega) (T:=T++([t]++U)) (by rw [e];exact Bj t1 (Bz c1 u1) (BM rfl)) (by rw [e];exact t2.app) ⟨hf,ADJ hc hf hr,λ_=>hr⟩
 ·rw [if_pos rfl] at e;obtain ⟨U,u1,u2,u3⟩:=hy 5 (by decide) (by decide);refine Nl (w:=[32]++s++[32]++exB true y (4+1)) (U:=[t]++U) c2 hx e (Bz c1 u1) (BM rfl) (λr=>c4) (λr=>CY g1 _) λn T r hT he hl hs=>?_;have hlen:(U++r).length≤n+1:=by simp only [zU] at hl ⊢;omega
  have hp:=u3.p (n+1) r (OE he (by decide)) hlen;unfold EG;rw [hs];rcases g2 with g2|⟨rfl,rfl⟩
  ·show (if Dk [t]≠0 then _ else _)=_;rw [g2,if_pos c3];show (PL (n+1) 5 (U++r)).bind _=_;rw [hp];show Res.ok (exK (Dk [t]) [x,y]) r=_;rw [g2]
  ·show (PL (n+1) 5 (U++r)).bind _=_;rw [hp];rfl
theorem AQF {x:Ex}{l:List Ex}(hx:Rt x)(hne:l≠[])(h:∀y,y∈l→Rt y):Rt (exK 24 (x::l)):=by
 obtain ⟨U,u1,_,_,u2⟩:=Qn hne h;have e:Ap true (exK 24 (x::l)) (BO true (exK 24 (x::l)))=exB true x 5++([32,105,110,32,40]++AU (l.map λy=>exB true y 1)++[41]):=by
  have:=Gg true (exK 24 (x::l)) 1;show BO true (exK 24 (x::l)) 0 5++[32,105,110,32,40]++AU ((List.range ((exK 24 (x::l)).args.length - 1)).map λi=>BO true (exK 24 (x::l)) (i+1) 1)++[41]=_;rw [this];simp only [List.append_assoc];rfl
 refine Nl (w:=[32,105,110,32,40]++AU (l.map λy=>exB true y 1)++[41]) (U:=[tk 2 [105,110] 0,tk 5 [40] 0]++U++[tk 5 [41] 0]) rfl hx e (KG (Bz (Aw rfl rfl) u1) (Aw rfl rfl) λu=>ET rfl).ck (BM rfl) (λr=>rfl) (λr=>CY (by decide) _) λn T r hT he hl hs=>?_;have hpos:=List.length_pos_iff.2 hT;have e2:[tk 2 [105,110] 0,tk 5 [40] 0]++U++[tk 5 [41] 0]++r=tk 2 [105,110] 0::tk 5 [40] 0::(U++tk 5 [41] 0::r):=by simp
 unfold EG;rw [hs,e2];show (BC n (eP n) (tk 5 [40] 0::(U++tk 5 [41] 0::r))).bind _=_;rw [OY u2 n r (by simp only [zU] at hl ⊢;omega)];rfl
theorem AQK {x y z:Ex}(hx:Rt x)(hy:Rt y)(hz:Rt z):Rt (exK 25 [x,y,z]):=by
 obtain ⟨U,u1,_,u3⟩:=hy 5 (by decide) (by decide);obtain ⟨V,v1,_,v3⟩:=hz 5 (by decide) (by decide);have e:Ap true (exK 25 [x,y,z]) (BO true (exK 25 [x,y,z]))=exB true x 5++([32,98,101,116,119,101,101,110,32]++(exB true y 5++([32,97,110,100,32]++exB true z 5))):=by
  show exB true x 5++[32,98,101,116,119,101,101,110,32]++exB true y 5++[32,97,110,100,32]++exB true z 5=_;simp only [List.append_assoc]
 refine Nl (w:=[32,98,101,116,119,101,101,110,32]++(exB true y 5++([32,97,110,100,32]++exB true z 5))) (U:=[tk 2 [98,101,116,119,101,101,110] 0]++(U++([tk 2 [97,110,100] 0]++V))) rfl hx e (Bz (Aw rfl rfl) (Bj u1 (Bz (Aw rfl rfl) v1) (BM rfl))) (BM rfl) (λr=>rfl) (λr=>CY (by decide) _) λn T r hT he hl hs=>?_;have e2:[tk 2 [98,101,116,119,101,101,110] 0]++(U++([tk 2 [97,110,100] 0]++V))++r=tk 2 [98,101,116,119,101,101,110] 0::(U++tk 2 [97,110,100] 0::(V++r)):=by simp
 have hlen:T.length+1+U.length+1+V.length+r.length≤n+1:=by simp only [zU] at hl;omega
 unfold EG;rw [hs,e2];show (PL (n+1) 5 (U++tk 2 [97,110,100] 0::(V++r))).bind _=_;rw [u3.p (n+1) (tk 2 [97,110,100] 0::(V++r)) (CY (by decide) _) (by simp only [zU];omega)];show (PL (n+1) 5 (V++r)).bind _=_;rw [v3.p (n+1) r (OE he (by decide)) (by simp only [List.length_append];omega)];rfl
theorem Qo {y:Ex}{w:Bs}{s:Bs}{U:List Tok}(ho:Wi y.kind=8)(hs:DZ s=true)(e:Ap true y (BO true y)=s++[40]++w++[41])(hs1:CZ (s++[40]) [tk 1 s 0,tk 5 [40] 0])(hs2:HdT 8 s)(hw:CK w U)
  (hp:∀n r,(U++r).length≤n→Cf n (eP n) s (tk 5 [40] 0::(U++tk 5 [41] 0::r))= .ok y r∨n < (U++r).length+1):Rt y:=by
 refine Np 8 ho (by decide) (by decide) (T:=[tk 1 s 0,tk 5 [40] 0]++U++[tk 5 [41] 0]) (by rw [e];exact (KG (Bz hs1 hw) (Aw rfl rfl) λu=>ET rfl).ck) (by rw [e];exact hs2.app.app.app) (AJJ (Qu rfl (λ_=>rfl) λr _=>?_) λn r he hl=>?_)
 ·simp [PR,isK,hd,tk]
 ·have e2:[tk 1 s 0,tk 5 [40] 0]++U++[tk 5 [41] 0]++r=tk 1 s 0::tk 5 [40] 0::(U++tk 5 [41] 0::r):=by simp
  simp only [zU] at hl;rw [ABm,e2];show (if (true&&DZ s)=true then Cf n (eP n) s (tk 5 [40] 0::(U++tk 5 [41] 0::r)) else _)=_;rw [hs];simp only [Bool.and_self,if_true];exact (hp n r (by simp only [List.length_append];omega)).resolve_right (by simp only [List.length_append];omega)
theorem AQD {x:Ex}(hx:Rt x):Rt (exK 8 [x]):=by
 obtain ⟨U,u1,_,u3⟩:=hx 1 (by decide) (by decide);refine Qo (s:=[108,101,110,103,116,104]) (w:=exB true x 1) rfl rfl rfl (Aw rfl rfl) (hdt (c:=108) rfl) u1 λn r hl=>?_;by_cases hn:n < (U++r).length+1
 ·exact .inr hn
 refine .inl ?_;show (eP n (U++tk 5 [41] 0::r)).bind _=_;have:=u3.p n (tk 5 [41] 0::r) (CY (by decide) _) (by simp only [zU] at hn ⊢;omega);rw [ABg] at this;rw [this];rfl
theorem AQI {l:List Ex}(hne:l≠[])(h:∀y,y∈l→Rt y):Rt (exK 27 l):=by
 obtain ⟨U,u1,_,_,u2⟩:=Qn hne h;refine Qo (s:=[99,111,97,108,101,115,99,101]) (w:=AU (l.map λy=>exB true y 1)) rfl rfl ?_ (Aw rfl rfl) (hdt (c:=99) rfl) u1 λn r hl=>?_
 ·have:=Gg true (exK 27 l) 0;show [99,111,97,108,101,115,99,101,40]++AU ((List.range ((exK 27 l).args.length - 0)).map λi=>BO true (exK 27 l) (i+0) 1)++[41]=_;rw [this];rfl
 ·by_cases hn:n < (U++r).length+1
  ·exact .inr hn
  refine .inl ?_;show (BC n (eP n) (tk 5 [40] 0::(U++tk 5 [41] 0::r))).bind _=_;rw [OY u2 n r (by simp only [zU] at hn ⊢;omega)];rfl
theorem AMG:Rt (Dw [99,111,117,110,116] false [exK 3 []]):=by
 refine Qo (s:=[99,111,117,110,116]) (w:=[42]) (U:=[tk 5 [42] 0]) rfl rfl rfl (Aw rfl rfl) (hdt (c:=99) rfl) (EI rfl) λn r hl=>.inl ?_;rfl
theorem Qv {t:Tok}(h:Yd t=true)(r:List Tok){s:Bs}(hs:[[116,114,117,101],[102,97,108,115,101],[110,117,108,108],[99,97,115,101],[110,111,116],[45],[40]].contains s=false):isT (t::r) s=false:=by
 cases hi:isT (t::r) s with
 |false=>rfl
 |true=>
  simp only [isT,hd,List.headD_cons,Bool.and_eq_true,Bool.or_eq_true,beq_iff_eq] at hi;obtain ⟨hk,rfl⟩:=hi;simp only [Yd,Bool.or_eq_true,Bool.and_eq_true,beq_iff_eq] at h;rw [←hs];rcases h with (((h|h)|h)|⟨_,h⟩)|⟨_,h⟩
  ·omega
  ·omega
  ·omega
  ·rcases h with (((h|h)|h)|h)|h <;> rw [h] <;> rfl
  ·rcases h with h|h <;> rw [h] <;> rfl
theorem Vd {x:Ex}(h:WfE x):x.kind≠3∧x.kind≠0:=by
 cases h with
 |bin h=>
  obtain ⟨⟨s,l⟩,hs⟩:=Option.isSome_iff_exists.1 h;have:=(Xl hs).choose_spec.2.2.1;refine ⟨λe=>?_,this⟩;have e:_=(3:Int):=e;simp only [exK,Ex.kind] at e;subst e;rw [show CQ 3=none from rfl] at hs;cases hs
 |isn h=>rcases h with rfl|rfl <;> exact ⟨by simp [exK,Ex.kind],by simp [exK,Ex.kind]⟩
 |_=>exact ⟨by simp [exK,Et,Ec,Dw,Ex.kind],by simp [exK,Et,Ec,Dw,Ex.kind]⟩
theorem AQM {n:Bs}{d:Bool}{x:Ex}(hn:isAgg n=true)(hk:x.kind≠3)(hx:Rt x):Rt (Dw n d [x]):=by
 obtain ⟨T,t1,_,t3⟩:=hx 1 (by decide) (by decide);obtain ⟨t,q,ht,hf,_⟩:=t3.f.ne;have hcall:DZ n=true:=by unfold DZ;rw [hn,Bool.or_true]
 have hn5:n=[99,111,117,110,116]∨n=[115,117,109]∨n=[109,105,110]∨n=[109,97,120]∨n=[97,118,103]:=by
  simp only [isAgg,Bool.or_eq_true,beq_iff_eq] at hn;rcases hn with (((h|h)|h)|h)|h
  ·exact .inl h
  ·exact .inr (.inl h)
  ·exact .inr (.inr (.inl h))
  ·exact .inr (.inr (.inr (.inl h)))
  ·exact .inr (.inr (.inr (.inr h)))
 have c1:CZ (n++[40]) [tk 1 n 0,tk 5 [40] 0]∧HdT 8 n∧n≠[99,111,97,108,101,115,99,101]∧n≠[108,101,110,103,116,104]:=by
  rcases hn5 with rfl|rfl|rfl|rfl|rfl
  ·exact ⟨Aw rfl rfl,hdt (c:=99) rfl,by decide,by decide⟩
  ·exact ⟨Aw rfl rfl,hdt (c:=115) rfl,by decide,by decide⟩
  ·exact ⟨Aw rfl rfl,hdt (c:=109) rfl,by decide,by decide⟩
  ·exact ⟨Aw rfl rfl,hdt (c:=109) rfl,by decide,by decide⟩
  ·exact ⟨Aw rfl rfl,hdt (c:=97) rfl,by decide,by decide⟩
 obtain ⟨c1,c2,c3,c4⟩:=c1;have e:Ap true (Dw n d [x]) (BO true (Dw n d [x]))=n++[40]++((if d then [100,105,115,116,105,110,99,116,32] else [])++exB true x 1)++[41]:=by
  have k3:(x.kind==3)=false:=by simpa using hk
  show n++[40]++(if (d&&(true|| !(n==[99,111,117,110,116]&&true&&x.kind==3)))=true then [100,105,115,116,105,110,99,116,32] else [])++(if (n==[99,111,117,110,116]&&true&&x.kind==3)=true then [42] else exB true x 1)++[41]=_;rw [k3];simp only [Bool.and_false,Bool.true_or,Bool.and_true,Bool.false_eq_true,if_false,List.append_assoc]
 refine Qo (s:=n) (w:=(if d then [100,105,115,116,105,110,99,116,32] else [])++exB true x 1) (U:=(if d then [tk 2 [100,105,115,116,105,110,99,116] 0] else [])++T) rfl hcall e c1 c2 ?_ λm r hl=>?_
 ·cases d
  ·exact t1
  ·exact Bz (Aw rfl rfl) t1
 by_cases hm:m < ((if d then [tk 2 [100,105,115,116,105,110,99,116] 0] else [])++T++r).length+1
 ·exact .inr hm
 refine .inl ?_;have hp:eP m (T++tk 5 [41] 0::r)= .ok x (tk 5 [41] 0::r):=by
  rw [←ABg];exact t3.p m (tk 5 [41] 0::r) (CY (by decide) _) (by simp only [zU] at hm ⊢;omega)
 have d1:isT (T++tk 5 [41] 0::r) [42]=false:=by rw [ht];exact Qv hf _ rfl
 have d2:isT (T++tk 5 [41] 0::r) [100,105,115,116,105,110,99,116]=false:=by rw [ht];exact Qv hf _ rfl
 unfold Cf;rw [if_neg c3];show (if n=[108,101,110,103,116,104] then _ else _)=_;rw [if_neg c4];cases d
 ·show (if (n==[99,111,117,110,116]&&isT (T++tk 5 [41] 0::r) [42])=true then _ else (eP m (if isT (T++tk 5 [41] 0::r) [100,105,115,116,105,110,99,116]=true then _ else _)).bind _)=_;rw [d1,d2,Bool.and_false,if_neg (by decide),if_neg (by decide)];show (eP m (T++tk 5 [41] 0::r)).bind _=_;rw [hp];show Res.ok (Dw n (isT (T++tk 5 [41] 0::r) [100,105,115,116,105,110,99,116]) [x]) r=_;rw [d2]
 ·show (if (n==[99,111,117,110,116]&&false)=true then _ else (eP m (T++tk 5 [41] 0::r)).bind _)=_;rw [Bool.and_false,if_neg (by decide),hp];rfl
def Yx:List Bs→Bs
 |[]=>[]
 |[x]=>[32,101,108,115,101,32]++x
 |x::y::l=>[32,119,104,101,110,32]++x++([32,116,104,101,110,32]++y++Yx l)
theorem VZ (g:Nat→Bs):∀(m k:Nat),k % 2=0→(List.range' k m).flatMap (λi=>(if i % 2=1 then [32,116,104,101,110,32] else if i+1=k+m then [32,101,108,115,101,32] else [32,119,104,101,110,32])++g i)=Yx ((List.range' k m).map g)
 |0,k,_=>rfl
 |1,k,h=>by
  simp only [List.range'_succ,List.range'_zero,List.flatMap_cons,List.flatMap_nil,List.map_cons,List.map_nil,List.append_nil,Yx];rw [if_neg (by omega),if_pos trivial]
 |m+2,k,h=>by
  have ih:=VZ g m (k+2) (by omega);rw [List.range'_succ,List.range'_succ];simp only [List.flatMap_cons,List.map_cons,Yx,List.append_assoc];rw [if_neg (by omega),if_neg (by omega),if_pos (by omega),←ih];congr 5
  rw [show k+2+m=k+(m+2) by omega]
theorem ABj {x y:Ex}{T U:List Tok}(hx:Par 1 T x)(hy:Par 1 U y)(n:Nat)(acc:List Ex)(r:List Tok)(he:ends 1 r)(hl:(T++tk 2 [116,104,101,110] 0::(U++r)).length≤n):EZ n (eP n) acc (tk 2 [119,104,101,110] 0::(T++tk 2 [116,104,101,110] 0::(U++r)))= .ok (acc++[x,y]) r:=by
 have h1:=hx n (tk 2 [116,104,101,110] 0::(U++r)) (CY (by decide) _) hl;have h2:=hy n r he (by simp only [zU] at hl ⊢;omega);rw [ABg] at h1 h2;show (eP n (T++tk 2 [116,104,101,110] 0::(U++r))).bind _=_;rw [h1];show (eP n (U++r)).bind _=_;rw [h2];rfl
def VP (n:Nat)(a:List Ex):Pr (List Ex):=λr=>if isT r [101,108,115,101] then (eP n r.tail).bind λx r=>.ok (a++[x]) r else Res.ok a r
theorem ADM:∀(j:Nat) (l:List Ex),l.length≤j→(∀y,y∈l→Rt y)→∃T,CK (Yx (l.map λy=>exB true y 1)) T∧bg (Yx (l.map λy=>exB true y 1))∧(∀r,ends 1 (T++tk 2 [101,110,100] 0::r))∧l.length≤T.length∧
  ∀n m acc r,l.length≤m→(T++tk 2 [101,110,100] 0::r).length≤n→(DJ n (eP n) m acc (T++tk 2 [101,110,100] 0::r)).bind (VP n)= .ok (acc++l) (tk 2 [101,110,100] 0::r)
 |_,[],_,_=>⟨[],Gq,Gt,λr=>CY (by decide) _,Nat.le_refl _,λn m acc r _ _=>by
  cases m <;> (rw [List.append_nil];rfl)⟩
 |_,[x],_,h=>by
  obtain ⟨T,t1,_,t3⟩:=h x (List.mem_cons_self ..) 1 (by decide) (by decide);refine ⟨[tk 2 [101,108,115,101] 0]++T,Bz (Aw rfl rfl) t1,BM rfl,λr=>CY (by decide) _,by simp,λn m acc r hm hl=>?_⟩;have hp:=t3.p n (tk 2 [101,110,100] 0::r) (CY (by decide) _) (by simp only [zU] at hl ⊢;omega);rw [ABg] at hp;have e:DJ n (eP n) m acc ([tk 2 [101,108,115,101] 0]++T++tk 2 [101,110,100] 0::r)= .ok acc (tk 2 [101,108,115,101] 0::(T++tk 2 [101,110,100] 0::r)):=by
   cases m <;> simp [DJ,isT,hd,tk]
  rw [e];show (eP n (T++tk 2 [101,110,100] 0::r)).bind _=_;rw [hp];rfl
 |0,x::y::l,hj,_=>by simp at hj
 |j+1,x::y::l,hj,h=>by
  obtain ⟨T,t1,_,t3⟩:=h x (List.mem_cons_self ..) 1 (by decide) (by decide);obtain ⟨U,u1,_,u3⟩:=h y (List.mem_cons_of_mem _ (List.mem_cons_self ..)) 1 (by decide) (by decide);obtain ⟨V,v1,v2,v3,v5,v4⟩:=ADM j l (by simp only [List.length_cons] at hj;omega) λz hz=>h z (List.mem_cons_of_mem _ (List.mem_cons_of_mem _ hz));refine ⟨[tk 2 [119,104,101,110] 0]++T++([tk 2 [116,104,101,110] 0]++U++V),?_,BM rfl,λr=>CY (by decide) _,by simp only [zU];omega,λn m acc r hm hl=>?_⟩
  ·exact Bj (Bz (Aw rfl rfl) t1) (Bj (Bz (Aw rfl rfl) u1) v1 v2) (BM rfl)
  ·obtain ⟨m,rfl⟩:∃k,m=k+1:=⟨m - 1,by simp only [List.length_cons] at hm;omega⟩;have e:[tk 2 [119,104,101,110] 0]++T++([tk 2 [116,104,101,110] 0]++U++V)++tk 2 [101,110,100] 0::r=tk 2 [119,104,101,110] 0::(T++tk 2 [116,104,101,110] 0::(U++(V++tk 2 [101,110,100] 0::r))):=by simp
   rw [e] at hl ⊢;show ((EZ n (eP n) acc (tk 2 [119,104,101,110] 0::_)).bind λa r=>DJ n (eP n) m a r).bind (VP n)=_;simp only [zU] at hl hm;rw [ABj t3.p u3.p n acc _ (v3 r) (by simp only [zU];omega)];show (DJ n (eP n) m (acc++[x,y]) (V++tk 2 [101,110,100] 0::r)).bind (VP n)=_;rw [v4 n m _ r (by omega) (by simp only [zU];omega)];simp
theorem AQJ {l:List Ex}(h2:2≤l.length)(h:∀y,y∈l→Rt y):Rt (exK 26 l):=by
 match l,h2,h with
 |x::y::l,_,h=>
  obtain ⟨T,t1,_,t3⟩:=h x (List.mem_cons_self ..) 1 (by decide) (by decide);obtain ⟨U,u1,_,u3⟩:=h y (List.mem_cons_of_mem _ (List.mem_cons_self ..)) 1 (by decide) (by decide);obtain ⟨V,v1,v2,v3,v5,v4⟩:=ADM _ l (Nat.le_refl _) λz hz=>h z (List.mem_cons_of_mem _ (List.mem_cons_of_mem _ hz));have e:Ap true (exK 26 (x::y::l)) (BO true (exK 26 (x::y::l)))=[99,97,115,101]++(Yx ((x::y::l).map λy=>exB true y 1)++[32,101,110,100]):=by
   have e1:=Gg true (exK 26 (x::y::l)) 0;have e2:=VZ (λi=>BO true (exK 26 (x::y::l)) i 1) (x::y::l).length 0 rfl;rw [←List.range_eq_range'] at e2;have e1:(List.range (x::y::l).length).map (λi=>BO true (exK 26 (x::y::l)) i 1)=(x::y::l).map λy=>exB true y 1:=e1;rw [e1] at e2;rw [←e2];simp only [Nat.zero_add,←List.append_assoc];rfl
  have hck:CK (Yx ((x::y::l).map λy=>exB true y 1)) ([tk 2 [119,104,101,110] 0]++T++([tk 2 [116,104,101,110] 0]++U++V)):=Bj (Bz (Aw rfl rfl) t1) (Bj (Bz (Aw rfl rfl) u1) v1 v2) (BM rfl);refine Np 8 rfl (by decide) (by decide) (T:=[tk 2 [99,97,115,101] 0]++(([tk 2 [119,104,101,110] 0]++T++([tk 2 [116,104,101,110] 0]++U++V))++[tk 2 [101,110,100] 0])) ?_ (by rw [e];exact hdt (c:=99) rfl) (AJJ (Yc rfl (by decide) λ_=>rfl) λn r he hl=>?_)
  ·rw [e];exact Bj (EI rfl) (Bj hck (EI rfl) (BM rfl)) (BM rfl)
  ·have e3:[tk 2 [99,97,115,101] 0]++(([tk 2 [119,104,101,110] 0]++T++([tk 2 [116,104,101,110] 0]++U++V))++[tk 2 [101,110,100] 0])++r=tk 2 [99,97,115,101] 0::tk 2 [119,104,101,110] 0::(T++tk 2 [116,104,101,110] 0::(U++(V++tk 2 [101,110,100] 0::r))):=by simp
   rw [e3] at hl ⊢;simp only [zU] at hl;rw [ABm];show Hg n (eP n) (tk 2 [119,104,101,110] 0::(T++tk 2 [116,104,101,110] 0::(U++(V++tk 2 [101,110,100] 0::r))))=_;unfold Hg;rw [ABj t3.p u3.p n [] _ (v3 r) (by simp only [zU];omega)];have hv:=v4 n n ([]++[x,y]) r ?_ (by simp only [zU];omega)
   ·show ((DJ n (eP n) n ([]++[x,y]) (V++tk 2 [101,110,100] 0::r)).bind λa r=>(VP n a r).bind λa r=>(AL [101,110,100] r).bind λ_ r=>.ok (exK 26 a) r)=_;cases hw:DJ n (eP n) n ([]++[x,y]) (V++tk 2 [101,110,100] 0::r) with
    |err q=>rw [hw] at hv;cases hv
    |ok a q=>
     rw [hw] at hv;have hv:VP n a q= .ok ([]++[x,y]++l) (tk 2 [101,110,100] 0::r):=hv;show (VP n a q).bind _=_;rw [hv];rfl
   ·omega
theorem AAY {x:Ex}(h:WfE x):Rt x:=by
 induction h with
 |val h=>exact APz h
 |col h1 h2=>exact AQH h1 h2
 |neg _ ih=>exact AQC ih
 |not _ ih=>exact AQB ih
 |isn h _ ih=>exact AQE h ih
 |bin h _ _ i1 i2=>exact AQL h i1 i2
 |inn _ h _ i1 i2=>exact AQF i1 h i2
 |btw _ _ _ i1 i2 i3=>exact AQK i1 i2 i3
 |len _ ih=>exact AQD ih
 |coa h _ ih=>exact AQI h ih
 |cas h _ ih=>exact AQJ h ih
 |star=>exact AMG
 |agg h hw ih=>exact AQM h (Vd hw).1 ih
def Fol (r:List Tok):Prop:=ends 1 r∧isT r [97,115]=false∧isK r 1=false∧isT r [100,101,115,99]=false∧isT r [97,115,99]=false∧isT r [44]=false
instance (r:List Tok):Decidable (Fol r):=by unfold Fol;infer_instance
theorem AJe {t:Tok}(h:Fol [t])(r:List Tok):Fol (t::r):=h
def Nx (ws:List Bs)(R:List Tok):Prop:=∃t r,R=t::r∧(t.kind=6∨∃w,w∈ws∧t=tk 2 w 0)
theorem APD {t:Tok}(h:t.kind=6)(r:List Tok)(s:Bs):isT (t::r) s=false:=by simp [isT,hd,h]
theorem Nx.not {ws:List Bs}{R:List Tok}(h:Nx ws R){s:Bs}(hs:ws.contains s=false):isT R s=false:=by
 obtain ⟨t,r,rfl,h|⟨w,hw,rfl⟩⟩:=h
 ·exact APD h r s
 ·cases hi:isT (tk 2 w 0::r) s with
  |false=>rfl
  |true=>
   have:w=s:=by simpa [isT,hd,tk] using hi
   subst this;rw [List.contains_iff_mem.2 hw] at hs;cases hs
theorem Nx.fol {ws:List Bs}{R:List Tok}(h:Nx ws R)(hw:(ws.all λw=>decide (Fol [tk 2 w 0]))=true):Fol R:=by
 obtain ⟨t,r,rfl,h|⟨w,hm,rfl⟩⟩:=h
 ·have z:=λs=>APD h r s;have k:∀f,Hm f (t::r)=0:=λf=>by simp [Hm,isK,hd,h]
  refine ⟨⟨z _,z _,λ_=>k _,λ_=>k _,λ_=>⟨by simp [Dk,z],z _,z _,z _,z _,z _⟩,λ_=>by simp [Ez,z],λ_=>by simp [Ii,z]⟩,z _,by simp [isK,hd,h],z _,z _,z _⟩
 ·exact AJe (of_decide_eq_true (List.all_eq_true.1 hw w hm)) r
def Ow (w:Bs)(T:List Tok):Prop:=T=[]∨∃r,T=tk 2 w 0::r
theorem Nx.opt {ws:List Bs}{R T:List Tok}{w:Bs}(h:Nx ws R)(hT:Ow w T):Nx (w::ws) (T++R):=by
 rcases hT with rfl|⟨r,rfl⟩
 ·obtain ⟨t,r,rfl,h|⟨v,hv,rfl⟩⟩:=h
  ·exact ⟨t,r,rfl,.inl h⟩
  ·exact ⟨_,r,rfl,.inr ⟨v,List.mem_cons_of_mem _ hv,rfl⟩⟩
 ·exact ⟨_,r++R,rfl,.inr ⟨w,List.mem_cons_self ..,rfl⟩⟩
def Op {α:Type}(s w:Bs)(p:Nat→Pr α)(x:α):Prop:=∃T,CK s T∧bg s∧Ow w T∧∀n r,Fol r→isT r w=false→(T++r).length≤n→p n (T++r)= .ok x r
theorem AQm {w:Bs}{r:List Tok}:isT (tk 2 w 0::r) w=true:=by simp [isT,hd,tk]
theorem AIL {x:Ex}(h:WfE x):∃T,CK (exB true x 1) T∧(∃t r,T=t::r∧Yd t=true)∧(∀r,isT r [46]=false→PR (T++r)=false)∧∀n r,ends 1 r→(T++r).length≤n→eP n (T++r)= .ok x r:=by
 obtain ⟨T,h1,_,h3⟩:=AAY h 1 (by decide) (by decide);obtain ⟨t,q,e,hf,_⟩:=h3.f.ne;exact ⟨T,h1,⟨t,q,e,hf⟩,h3.f.st,λn r he hl=>by rw [←ABg];exact h3.p n r he hl⟩
theorem Ll {w:Bs}{x:Ex}(hw:lit 100 ([32]++w++[32])=some [tk 2 w 0])(hl:([32]++w++[32]).getLast?.any wc=false)(h:ZX x):Op (Di true ([32]++w++[32]) x) w (λn=>Dq n w) x:=by
 rcases h with rfl|h
 ·refine ⟨[],Gq,Gt,.inl rfl,λn r hf hn _=>?_⟩;show (if isT r w=true then _ else Res.ok ex0 r)=_;rw [hn];rfl
 ·obtain ⟨T,h1,_,_,h4⟩:=AIL h;have e:Di true ([32]++w++[32]) x=[32]++w++[32]++exB true x 1:=by unfold Di;rw [if_neg (Vd h).2]
  rw [e];refine ⟨[tk 2 w 0]++T,Bz (Aw hw hl) h1,BM rfl,.inr ⟨T,rfl⟩,λn r hf hn hl=>?_⟩;show (if isT (tk 2 w 0::(T++r)) w=true then eP n (T++r) else _)=_;rw [AQm,if_pos rfl];exact h4 n r hf.1 (by simp only [zU] at hl ⊢;omega)
theorem AKz {a:Bs}(h:oOk a):CK (asB a) (if a.isEmpty then [] else [tk 2 [97,115] 0,tk 1 a 0])∧bg (asB a):=by
 rcases h with rfl|h
 ·exact ⟨Gq,Gt⟩
 ·have h0:a.isEmpty=false:=by
   simp only [nOk,Bool.and_eq_true] at h;simpa using h.1.1
  unfold asB;rw [h0];exact ⟨Bz (a:=[32,97,115,32]) (T:=[tk 2 [97,115] 0]) (Aw rfl rfl) (Dy h),BM rfl⟩
theorem AMH {x:TItem}(h:ABd x):∃T,CK (He true x) T∧(∃t r,T=t::r∧isT [t] [100,105,115,116,105,110,99,116]=false)∧∀n r,(ends 1 r∧isT r [97,115]=false)→(T++r).length≤n→Eb n (T++r)= .ok x r:=by
 rcases h with rfl|⟨t,ht,rfl⟩|⟨e,a,he,ha,rfl⟩
 ·exact ⟨[tk 5 [42] 0],EI rfl,⟨_,_,rfl,rfl⟩,λn r _ _=>rfl⟩
 ·have h0:t.isEmpty=false:=by
   simp only [nOk,Bool.and_eq_true] at ht;simpa using ht.1.1
  have e:He true ⟨true,t,ex0,[]⟩=nameB t++[46,42]:=by
   show (if t.isEmpty=true then [42] else nameB t++[46,42])++[]=_;rw [h0,List.append_nil];rfl
  rw [e];exact ⟨[tk 1 t 0]++[tk 5 [46] 0,tk 5 [42] 0],Bj (Dy ht) (EI rfl) (BM rfl),⟨_,_,rfl,rfl⟩,λn r _ _=>rfl⟩
 ·obtain ⟨T,h1,⟨t,q,hT,hf⟩,h3,h4⟩:=AIL he;obtain ⟨a1,a2⟩:=AKz ha;refine ⟨T++(if a.isEmpty then [] else [tk 2 [97,115] 0,tk 1 a 0]),Bj h1 a1 a2,⟨t,_,by rw [hT];rfl,Qv hf [] rfl⟩,λn r hr hl=>?_⟩;rw [List.append_assoc] at hl ⊢;generalize hU:(if a.isEmpty=true then [] else [tk 2 [97,115] 0,tk 1 a 0])++r=R at hl ⊢;have hR:ends 1 R:=by
   rw [←hU];split
   ·exact hr.1
   ·exact CY (by decide) _
  have s1:isT (T++R) [42]=false:=by rw [hT];exact Qv hf _ rfl
  have s2:=h3 R hR.1;unfold PR at s2;unfold Eb;rw [s1,s2,if_neg (by decide),if_neg (by decide),h4 n R hR hl];show (if isT R [97,115]=true then _ else _)=_;rw [←hU];rcases ha with rfl|ha
  ·show (if isT r [97,115]=true then _ else _)=_;rw [hr.2];rfl
  ·have h0:a.isEmpty=false:=by
    simp only [nOk,Bool.and_eq_true] at ha;simpa using ha.1.1
   rw [h0];rfl
def MB (t a:Bs):List Tok:=tk 1 t 0::(if a.isEmpty then [] else [tk 2 [97,115] 0,tk 1 a 0])
theorem AAJ {t a:Bs}(ht:nOk t=true)(ha:oOk a):CK (nameB t++asB a) (MB t a):=Bj (T:=[tk 1 t 0]) (Dy ht) (AKz ha).1 (AKz ha).2
theorem src_ok {t a:Bs}(ha:oOk a){r:List Tok}(h1:isT r [97,115]=false)(h2:isK r 1=false):Bh (MB t a++r)= .ok ⟨t,a,false,ex0⟩ r:=by
 rcases ha with rfl|ha
 ·show (if isT r [97,115]=true then _ else if isK r 1=true then _ else _)=_;rw [h1,h2];rfl
 ·have h0:a.isEmpty=false:=by
   simp only [nOk,Bool.and_eq_true] at ha;simpa using ha.1.1
  unfold MB;rw [h0];rfl
theorem AQA {y:TSource}(h:OU y)(i:Nat)(hi:0 < i):∃T,CK (KQ true i y) T∧bg (KQ true i y)∧(∃w r,T=tk 2 w 0::r∧(w=[99,114,111,115,115]∨w=[108,101,102,116]∨w=[106,111,105,110]))∧∀n m acc r,Fol r→(T++r).length≤n→Ba n (m+1) acc (T++r)=Ba n m (acc++[y]) r:=by
 rcases h with ⟨t,a,ht,ha,rfl⟩|⟨t,a,b,e,ht,ha,he,rfl⟩
 ·have e:KQ true i ⟨t,a,false,ex0⟩=[32,99,114,111,115,115,32,106,111,105,110,32]++(nameB t++asB a):=by
   unfold KQ;rw [if_neg (by omega)];show [32,99,114,111,115,115,32,106,111,105,110,32]++nameB t++asB a++(if 0 < i∧(false=true∨(0:Int)≠0) then _ else _)=_;rw [if_neg (by simp),List.append_nil,List.append_assoc]
  rw [e];refine ⟨[tk 2 [99,114,111,115,115] 0,tk 2 [106,111,105,110] 0]++MB t a,Bz (Aw rfl rfl) (AAJ ht ha),BM rfl,⟨_,_,rfl,.inl rfl⟩,λn m acc r hf hl=>?_⟩;show (Bh (MB t a++r)).bind _=_;rw [src_ok ha hf.2.1 hf.2.2.1];rfl
 ·obtain ⟨T,h1,_,_,h4⟩:=AIL he;have e0:(e.kind≠0):=(Vd he).2;have ck:CK (nameB t++asB a++([32,111,110,32]++exB true e 1)) (MB t a++([tk 2 [111,110] 0]++T)):=Bj (AAJ ht ha) (Bz (Aw rfl rfl) h1) (BM rfl);have jn:∀n r bb,Fol r→(T++r).length≤n→FM n bb (tk 2 [106,111,105,110] 0::(MB t a++([tk 2 [111,110] 0]++T)++r))= .ok ⟨t,a,bb,e⟩ r:=by
   intro n r bb hf hl;show (Bh (MB t a++([tk 2 [111,110] 0]++T)++r)).bind _=_;rw [List.append_assoc,src_ok ha rfl rfl];show (eP n (T++r)).bind _=_;rw [h4 n r hf.1 hl];rfl
  cases b with
  |true=>
   have e1:KQ true i ⟨t,a,true,e⟩=[32,108,101,102,116,32,106,111,105,110,32]++(nameB t++asB a++([32,111,110,32]++exB true e 1)):=by
    unfold KQ;rw [if_neg (by omega),if_pos rfl,if_pos ⟨hi,.inl rfl⟩];simp only [List.append_assoc]
   rw [e1];refine ⟨[tk 2 [108,101,102,116] 0,tk 2 [106,111,105,110] 0]++(MB t a++([tk 2 [111,110] 0]++T)),Bz (Aw rfl rfl) ck,BM rfl,⟨_,_,rfl,.inr (.inl rfl)⟩,λn m acc r hf hl=>?_⟩;show (FM n true (tk 2 [106,111,105,110] 0::(MB t a++([tk 2 [111,110] 0]++T)++r))).bind _=_;rw [jn n r true hf (by simp only [zU] at hl ⊢;omega)];rfl
  |false=>
   have e1:KQ true i ⟨t,a,false,e⟩=[32,106,111,105,110,32]++(nameB t++asB a++([32,111,110,32]++exB true e 1)):=by
    unfold KQ;rw [if_neg (by omega),if_neg (show ¬(false=true) by decide),if_pos e0,if_pos ⟨hi,.inr e0⟩];simp only [List.append_assoc]
   rw [e1];refine ⟨[tk 2 [106,111,105,110] 0]++(MB t a++([tk 2 [111,110] 0]++T)),Bz (Aw rfl rfl) ck,BM rfl,⟨_,_,rfl,.inr (.inr rfl)⟩,λn m acc r hf hl=>?_⟩;show (FM n false (tk 2 [106,111,105,110] 0::(MB t a++([tk 2 [111,110] 0]++T)++r))).bind _=_;rw [jn n r false hf (by simp only [zU] at hl ⊢;omega)];rfl
theorem ADL:∀(l:List TSource) (i:Nat),0 < i→(∀y,y∈l→OU y)→∃T,CK (DW true i l) T∧bg (DW true i l)∧l.length≤T.length∧(∀r,Fol r→Fol (T++r))∧
  ∀n m acc r,Fol r→isT r [99,114,111,115,115]=false→isT r [108,101,102,116]=false→isT r [105,110,110,101,114]=false→isT r [106,111,105,110]=false→l.length≤m→(T++r).length≤n→Ba n m acc (T++r)= .ok (acc++l) r
 |[],_,_,_=>⟨[],Gq,Gt,Nat.le_refl _,λ_ h=>h,λn m acc r hf h1 h2 h3 h4 _ _=>by
  rw [List.append_nil,List.nil_append];cases m with
  |zero=>rfl
  |succ m=>simp only [Ba,hf.2.2.2.2.2,h1,h2,h3,h4,Bool.false_eq_true,if_false]⟩
 |y::l,i,hi,h=>by
  obtain ⟨T,t1,t2,⟨w,q,rfl,hw⟩,t3⟩:=AQA (h y (List.mem_cons_self ..)) i hi;obtain ⟨U,u1,u2,u3,u4,u5⟩:=ADL l (i+1) (by omega) λz hz=>h z (List.mem_cons_of_mem _ hz);refine ⟨tk 2 w 0::q++U,Bj t1 u1 u2,ATL t2 u2,by simp only [zU];omega,λr _=>?_,λn m acc r hf h1 h2 h3 h4 hm hl=>?_⟩
  ·rcases hw with rfl|rfl|rfl <;> exact AJe (by decide) _
  ·obtain ⟨m,rfl⟩:∃k,m=k+1:=⟨m - 1,by simp only [List.length_cons] at hm;omega⟩;rw [List.append_assoc] at hl ⊢;rw [t3 n m acc (U++r) (u4 r hf) hl,u5 n m _ r hf h1 h2 h3 h4 (by simp only [List.length_cons] at hm;omega) (by rw [List.length_append] at hl;omega)];simp
theorem AMU {l:List TSource}(h:ABe l):∃T,CK (DW true 0 l) T∧bg (DW true 0 l)∧Ow [102,114,111,109] T∧∀n r,Fol r→isT r [102,114,111,109]=false→isT r [99,114,111,115,115]=false→isT r [108,101,102,116]=false→isT r [105,110,110,101,114]=false→isT r [106,111,105,110]=false→(T++r).length≤n→JO [102,114,111,109] [] (Iw n) (T++r)= .ok l r:=by
 rcases h with rfl|⟨x,l,rfl,⟨t,a,ht,ha,rfl⟩,hl⟩
 ·refine ⟨[],Gq,Gt,.inl rfl,λn r hf h0 _ _ _ _ _=>?_⟩;show (if isT r [102,114,111,109]=true then _ else Res.ok [] r)=_;rw [h0];rfl
 ·obtain ⟨U,u1,u2,u3,u4,u5⟩:=ADL l 1 (by decide) hl;have e:DW true 0 (⟨t,a,false,ex0⟩::l)=[32,102,114,111,109,32]++(nameB t++asB a)++DW true 1 l:=by
   show KQ true 0 ⟨t,a,false,ex0⟩++_=_;unfold KQ;rw [if_pos rfl,if_neg (by simp),List.append_nil];simp only [List.append_assoc,Nat.zero_add]
  rw [e];refine ⟨[tk 2 [102,114,111,109] 0]++MB t a++U,Bj (Bz (Aw rfl rfl) (AAJ ht ha)) u1 u2,BM rfl,.inr ⟨_,rfl⟩,λn r hf h0 h1 h2 h3 h4 hl=>?_⟩;have e2:[tk 2 [102,114,111,109] 0]++MB t a++U++r=tk 2 [102,114,111,109] 0::(MB t a++(U++r)):=by simp
  rw [e2] at hl ⊢;have hU:=u4 r hf;simp only [zU] at hl;show (Bh (MB t a++(U++r))).bind (λs r=>Ba n n [s] r)=_;rw [src_ok ha hU.2.1 hU.2.2.1];show Ba n n [_] (U++r)=_;rw [u5 n n _ r hf h1 h2 h3 h4 (by omega) (by simp only [List.length_append];omega)];rfl
theorem AIl {l:List Ex}(h:l=[]∨Hw WfE l):Op (if l.isEmpty then [] else [32,103,114,111,117,112,32,98,121,32]++Iu true l) [103,114,111,117,112] (λn=>JO [103,114,111,117,112] [] (byP (BG n (eP n)))) l:=by
 rcases h with rfl|⟨hne,h⟩
 ·refine ⟨[],Gq,Gt,.inl rfl,λn r hf hn _=>?_⟩;show (if isT r [103,114,111,117,112]=true then _ else Res.ok [] r)=_;rw [hn];rfl
 ·obtain ⟨U,u1,_,_,u2⟩:=Qn hne λy hy=>AAY (h y hy);rw [if_neg (by simpa using hne)];refine ⟨[tk 2 [103,114,111,117,112] 0,tk 2 [98,121] 0]++U,Bz (Aw rfl rfl) u1,BM rfl,.inr ⟨_,rfl⟩,λn r hf hn hl=>?_⟩;show BG n (eP n) (U++r)=_;exact u2 n r hf.1 hf.2.2.2.2.2 (by simp only [zU] at hl ⊢;omega)
theorem AIj {l:List TOrder}(h:l=[]∨Hw (λx:TOrder=>WfE x.fExpr) l):Op (if l.isEmpty then [] else [32,111,114,100,101,114,32,98,121,32]++AU (l.map (Sz true))) [111,114,100,101,114] (λn=>JO [111,114,100,101,114] [] (byP (BG n (Ej n)))) l:=by
 rcases h with rfl|⟨hne,h⟩
 ·refine ⟨[],Gq,Gt,.inl rfl,λn r hf hn _=>?_⟩;show (if isT r [111,114,100,101,114]=true then _ else Res.ok [] r)=_;rw [hn];rfl
 ·obtain ⟨U,u1,_,_,u2⟩:=LZ (f:=Sz true) (one:=Ej) (F:=λr=>ends 1 r∧isT r [100,101,115,99]=false∧isT r [97,115,99]=false) (B:=λ_=>True) (λr=>⟨CY (by decide) _,rfl,rfl⟩) hne λy hy=>by
   obtain ⟨T,h1,⟨t,q,hT,_⟩,_,h4⟩:=AIL (h y hy);obtain ⟨e,d⟩:=y;refine ⟨T++(if d then [tk 2 [100,101,115,99] 0] else []),?_,⟨t,_,by rw [hT];rfl,trivial⟩,λn r hr hl=>?_⟩
   ·cases d
    ·exact Bj h1 Gq Gt
    ·exact Bj h1 (EI rfl) (BM rfl)
   ·rw [List.append_assoc] at hl ⊢;unfold Ej;cases d
    ·show (eP n (T++r)).bind _=_;rw [h4 n r hr.1 hl];show (if isT r [100,101,115,99]=true then _ else if isT r [97,115,99]=true then _ else _)=_;rw [hr.2.1,hr.2.2];rfl
    ·show (eP n (T++tk 2 [100,101,115,99] 0::r)).bind _=_;rw [h4 n (tk 2 [100,101,115,99] 0::r) (CY (by decide) _) hl];rfl
  rw [if_neg (by simpa using hne)];refine ⟨[tk 2 [111,114,100,101,114] 0,tk 2 [98,121] 0]++U,Bz (Aw rfl rfl) u1,BM rfl,.inr ⟨_,rfl⟩,λn r hf hn hl=>?_⟩;show BG n (Ej n) (U++r)=_;exact u2 n r ⟨hf.1,hf.2.2.2.1,hf.2.2.2.2.1⟩ hf.2.2.2.2.2 (by simp only [zU] at hl ⊢;omega)
theorem Yo {k:Int}(h:0≤k∧k≤2147483647)(r:List Tok):Dc (tk 3 [] k::r)= .ok k r:=by
 show (if (true&&decide (k≤2147483647))=true then Res.ok k r else _)=_;rw [decide_eq_true h.2];rfl
theorem AIk {k:Int}(h:k= -1∨0≤k∧k≤2147483647):Op (if 0≤k then [32,108,105,109,105,116,32]++IW true k else []) [108,105,109,105,116] (λ_=>JO [108,105,109,105,116] (-1) Dc) k:=by
 rcases h with rfl|h
 ·refine ⟨[],Gq,Gt,.inl rfl,λn r hf hn _=>?_⟩;show (if isT r [108,105,109,105,116]=true then _ else Res.ok (-1) r)=_;rw [hn];rfl
 ·rw [if_pos h.1];exact ⟨[tk 2 [108,105,109,105,116] 0]++[tk 3 [] k],Bz (Aw rfl rfl) (XF h.1 (by omega)),BM rfl,.inr ⟨_,rfl⟩,λn r _ _ _=>Yo h r⟩
theorem AFN {k:Int}(h:0≤k∧k≤2147483647):Op (if k=0 then [] else [32,111,102,102,115,101,116,32]++IW true k) [111,102,102,115,101,116] (λ_=>JO [111,102,102,115,101,116] 0 Dc) k:=by
 by_cases h0:k=0
 ·subst h0;refine ⟨[],Gq,Gt,.inl rfl,λn r hf hn _=>?_⟩;show (if isT r [111,102,102,115,101,116]=true then _ else Res.ok 0 r)=_;rw [hn];rfl
 ·rw [if_neg h0];exact ⟨[tk 2 [111,102,102,115,101,116] 0]++[tk 3 [] k],Bz (Aw rfl rfl) (XF h.1 (by omega)),BM rfl,.inr ⟨_,rfl⟩,λn r _ _ _=>Yo h r⟩
theorem AIJ {q:TSelect}(h:WfQ q):∃T,CK (Jh true q) (tk 2 [115,101,108,101,99,116] 0::T)∧∀n r,Nx [] r→(T++r).length≤n→EY n (T++r)= .ok q r:=by
 obtain ⟨d,items,froms,wh,gr,ha,od,li,off⟩:=q;obtain ⟨q1,q2,q3,q4,q5,q6,q7,q8⟩:=h;simp only at q1 q2 q3 q4 q5 q6 q7 q8
 obtain ⟨A,a1,⟨t,a2,a3,a4⟩,_,a5⟩:=LZ (f:=He true) (one:=Eb) (F:=λr=>ends 1 r∧isT r [97,115]=false) (B:=λt=>isT [t] [100,105,115,116,105,110,99,116]=false) (λr=>⟨CY (by decide) _,rfl⟩) q1.1 λy hy=>AMH (q1.2 y hy);obtain ⟨B,b1,b2,b3,b4⟩:=AMU q2;obtain ⟨C,c1,c2,c3,c4⟩:=Ll (w:=[119,104,101,114,101]) rfl rfl q3;obtain ⟨D,d1,d2,d3,d4⟩:=AIl q4;obtain ⟨E,e1,e2,e3,e4⟩:=Ll (w:=[104,97,118,105,110,103]) rfl rfl q5;obtain ⟨F,f1,f2,f3,f4⟩:=AIj q6;obtain ⟨G,g1,g2,g3,g4⟩:=AIk q7;obtain ⟨H,h1,h2,h3,h4⟩:=AFN q8;simp only at c4 d4 e4 f4 g4 h4
 refine ⟨(if d then [tk 2 [100,105,115,116,105,110,99,116] 0] else [])++A++B++C++D++E++F++G++H,?_,λn r hr hl=>?_⟩
 ·have hd:CZ ([115,101,108,101,99,116,32]++(if d then [100,105,115,116,105,110,99,116,32] else [])) ([tk 2 [115,101,108,101,99,116] 0]++(if d then [tk 2 [100,105,115,116,105,110,99,116] 0] else [])):=by
   cases d
   ·exact Ti (Aw rfl rfl) (λu l hc=>hc)
   ·exact Ti (Aw rfl rfl) (Aw rfl rfl)
  have:=Bj (Bj (Bj (Bj (Bj (Bj (Bj (Bz hd a1) b1 b2) c1 c2) d1 d2) e1 e2) f1 f2) g1 g2) h1 h2;have e:[tk 2 [115,101,108,101,99,116] 0]++(if d then [tk 2 [100,105,115,116,105,110,99,116] 0] else [])++A++B++C++D++E++F++G++H=tk 2 [115,101,108,101,99,116] 0::((if d then [tk 2 [100,105,115,116,105,110,99,116] 0] else [])++A++B++C++D++E++F++G++H):=by simp
  rw [←e];exact this
 ·simp only [List.append_assoc] at hl ⊢;have nH:=hr.opt h3;have nG:=nH.opt g3;have nF:=nG.opt f3;have nE:=nF.opt e3;have nD:=nE.opt d3;have nC:=nD.opt c3;have nB:=nC.opt b3;have hd:(if d then ((if d then [tk 2 [100,105,115,116,105,110,99,116] 0] else [])++(A++(B++(C++(D++(E++(F++(G++(H++r))))))))).tail else ((if d then [tk 2 [100,105,115,116,105,110,99,116] 0] else [])++(A++(B++(C++(D++(E++(F++(G++(H++r))))))))))=(A++(B++(C++(D++(E++(F++(G++(H++r))))))))∧isT ((if d then [tk 2 [100,105,115,116,105,110,99,116] 0] else [])++(A++(B++(C++(D++(E++(F++(G++(H++r))))))))) [100,105,115,116,105,110,99,116]=d:=by
   cases d
   ·exact ⟨rfl,by show isT (A++(B++(C++(D++(E++(F++(G++(H++r)))))))) [100,105,115,116,105,110,99,116]=false;rw [a3];exact a4⟩
   ·exact ⟨rfl,rfl⟩
  have le:∀{X Y:List Tok},(X++Y).length≤n→Y.length≤n:=λh=>by rw [List.length_append] at h;omega
  have lA:=le hl;have lB:=le lA;have lC:=le lB;have lD:=le lC;have lE:=le lD;have lF:=le lE;have lG:=le lF;have lH:=le lG;have fB:=nB.fol (by decide);unfold EY;simp only [hd.2];rw [hd.1];rw [a5 n _ ⟨fB.1,fB.2.1⟩ fB.2.2.2.2.2 lA];simp only [Res.bind];rw [b4 n _ (nC.fol (by decide)) (nC.not (by decide)) (nC.not (by decide)) (nC.not (by decide)) (nC.not (by decide)) (nC.not (by decide)) lB];simp only
  rw [c4 n _ (nD.fol (by decide)) (nD.not (by decide)) lC];simp only
  rw [d4 n _ (nE.fol (by decide)) (nE.not (by decide)) lD];simp only
  rw [e4 n _ (nF.fol (by decide)) (nF.not (by decide)) lE];simp only
  rw [f4 n _ (nG.fol (by decide)) (nG.not (by decide)) lF];simp only
  rw [g4 n _ (nH.fol (by decide)) (nH.not (by decide)) lG];simp only
  rw [h4 n _ (hr.fol (by decide)) (hr.not (by decide)) lH]
def stop (l:List Tok):Prop:=∃t r,l=t::r∧(t.kind=6∨(t.kind=5∧t.text=[59]))
structure Sim (S:List Tok→List Tok→Prop)(E:Nat→Nat→Prop):Prop where
 view:∀{l m:List Tok},S l m→(∃t u r q,l=t::r∧m=u::q∧t.st=u.st∧S r q)∨(stop l∧stop m)
 bad:∀{l m:List Tok},S l m→E (hd l).at' (hd m).at'
theorem PS {t u:Tok}(h:t.st=u.st):t.kind=u.kind∧t.text=u.text∧t.num=u.num:=by
 simp only [Tok.st,Tok.mk.injEq] at h;exact ⟨h.1,h.2.2.1,h.2.2.2⟩
theorem Ri {l:List Tok}{s:Bs}(h:stop l)(hs:s≠[59]):isT l s=false:=by
 obtain ⟨t,r,rfl,h|⟨h,h'⟩⟩:=h
 ·simp [isT,hd,h]
 ·simp [isT,hd,h,h',Ne.symm hs]
theorem Rl {l:List Tok}{k:Int}(h:stop l)(hk:k≠5∧k≠6):isK l k=false:=by
 obtain ⟨t,r,rfl,h|⟨h,_⟩⟩:=h
 ·simp [isK,hd,h,Ne.symm hk.2]
 ·simp [isK,hd,h,Ne.symm hk.1]
theorem Rj {l:List Tok}{s:Bs}(h:stop l)(hs:s≠[59]):(isK l 5&&(hd l).text==s)=false:=by
 obtain ⟨t,r,rfl,h|⟨h,h'⟩⟩:=h
 ·simp [isK,hd,h]
 ·simp [isK,hd,h,h',Ne.symm hs]
section
variable {S:List Tok→List Tok→Prop}{E:Nat→Nat→Prop}(h:Sim S E)
include h
theorem Sim.eT {l m:List Tok}(hs:S l m)(s:Bs)(hne:s≠[59]):isT l s=isT m s:=by
 rcases h.view hs with ⟨t,u,r,q,rfl,rfl,e,_⟩|⟨h1,h2⟩
 ·have:=PS e;simp only [isT,hd,List.headD_cons,this.1,this.2.1]
 ·rw [Ri h1 hne,Ri h2 hne]
theorem Sim.eK {l m:List Tok}(hs:S l m)(k:Int)(hk:k≠5∧k≠6):isK l k=isK m k:=by
 rcases h.view hs with ⟨t,u,r,q,rfl,rfl,e,_⟩|⟨h1,h2⟩
 ·have:=PS e;simp only [isK,hd,List.headD_cons,this.1]
 ·rw [Rl h1 hk,Rl h2 hk]
theorem Sim.eS {l m:List Tok}(hs:S l m)(s:Bs)(hne:s≠[59]):(isK l 5&&(hd l).text==s)=(isK m 5&&(hd m).text==s):=by
 rcases h.view hs with ⟨t,u,r,q,rfl,rfl,e,_⟩|⟨h1,h2⟩
 ·have:=PS e;simp only [isK,hd,List.headD_cons,this.1,this.2.1]
 ·rw [Rj h1 hne,Rj h2 hne]
theorem Sim.ns {l m:List Tok}(hs:S l m)(hn:¬stop l):S l.tail m.tail∧(hd l).text=(hd m).text∧(hd l).num=(hd m).num∧l.tail.length < l.length∧m.tail.length < m.length:=by
 rcases h.view hs with ⟨t,u,r,q,rfl,rfl,e,hr⟩|⟨h1,h2⟩
 ·have:=PS e;exact ⟨hr,this.2.1,this.2.2,by simp,by simp⟩
 ·exact absurd h1 hn
theorem Sim.tT {l m:List Tok}(hs:S l m){s:Bs}(hne:s≠[59])(ht:isT l s=true):S l.tail m.tail∧(hd l).text=(hd m).text∧(hd l).num=(hd m).num∧l.tail.length < l.length∧m.tail.length < m.length:=
 h.ns hs λhst=>by rw [Ri hst hne] at ht;cases ht
theorem Sim.tK {l m:List Tok}(hs:S l m){k:Int}(hk:k≠5∧k≠6)(ht:isK l k=true):S l.tail m.tail∧(hd l).text=(hd m).text∧(hd l).num=(hd m).num∧l.tail.length < l.length∧m.tail.length < m.length:=
 h.ns hs λhst=>by rw [Rl hst hk] at ht;cases ht
theorem Sim.tS {l m:List Tok}(hs:S l m){s:Bs}(hne:s≠[59])(ht:(isK l 5&&(hd l).text==s)=true):S l.tail m.tail∧(hd l).text=(hd m).text∧(hd l).num=(hd m).num∧l.tail.length < l.length∧m.tail.length < m.length:=
 h.ns hs λhst=>by rw [Rj hst hne] at ht;cases ht
theorem Sim.pos {l m:List Tok}(hs:S l m):0 < l.length∧0 < m.length:=by
 rcases h.view hs with ⟨t,u,r,q,rfl,rfl,_,_⟩|⟨⟨_,_,rfl,_⟩,⟨_,_,rfl,_⟩⟩ <;> simp
omit h
variable (S E) in
def RS {α:Type}(a b:Nat):Res α→Res α→Prop
 | .ok x r,.ok y q=>x=y∧S r q∧r.length < a∧q.length < b
 | .err e,.err f=>E e f
 |_,_=>False
theorem RS.mono {α:Type}{a b a' b':Nat}{g g':Res α}(h:RS S E a b g g')(ha:a≤a')(hb:b≤b'):RS S E a' b' g g':=by
 cases g <;> cases g' <;> simp only [RS] at h ⊢
 ·exact ⟨h.1,h.2.1,by omega,by omega⟩
 ·exact h
theorem RS.bind {α β:Type}{a b c d:Nat}{g g':Res α}{f f':α→Pr β}(hg:RS S E a b g g')(hf:∀x r q,S r q→r.length < a→q.length < b→RS S E c d (f x r) (f' x q)):RS S E c d (g.bind f) (g'.bind f'):=by
 cases g <;> cases g' <;> simp only [RS] at hg
 ·obtain ⟨rfl,h1,h2,h3⟩:=hg;exact hf _ _ _ h1 h2 h3
 ·exact hg
theorem zAH:type_of% @RS.bind:=@RS.bind
theorem RS.ok {α:Type}{a b:Nat}{x:α}{r q:List Tok}(h:S r q)(h1:r.length < a)(h2:q.length < b):RS S E a b (.ok x r) (.ok x q):=⟨rfl,h,h1,h2⟩
include h
theorem RS.bad {α:Type}{a b:Nat}{l m:List Tok}(hs:S l m):RS S E a b (bad l:Res α) (bad m):=h.bad hs
variable (S E) in
def SP {α:Type}(n n':Nat)(P P':Pr α):Prop:=∀l m,S l m→l.length≤n→m.length≤n'→RS S E l.length m.length (P l) (P' m)
theorem BH {s:Bs}(hne:s≠[59]){l m:List Tok}(hs:S l m):RS S E l.length m.length (AL s l) (AL s m):=by
 unfold AL;rw [←h.eT hs s hne];split
 ·rename_i ht
  obtain ⟨h1,_,_,h2,h3⟩:=h.tT hs hne ht;exact .ok h1 h2 h3
 ·exact RS.bad h hs
theorem Cb {l m:List Tok}(hs:S l m):RS S E l.length m.length (Ae l) (Ae m):=by
 unfold Ae;rw [←h.eK hs 1 (by decide)];split
 ·rename_i ht
  obtain ⟨h1,h4,_,h2,h3⟩:=h.tK hs (by decide) ht;rw [h4];exact .ok h1 h2 h3
 ·exact RS.bad h hs
theorem Vg {l m:List Tok}(hs:S l m):RS S E l.length m.length (JQ l) (JQ m):=by
 unfold JQ;rw [←h.eK hs 3 (by decide)];split
 ·rename_i ht
  obtain ⟨h1,_,h4,h2,h3⟩:=h.tK hs (by decide) ht;rw [h4];exact .ok h1 h2 h3
 ·exact RS.bad h hs
theorem Uh {l m:List Tok}(hs:S l m):RS S E l.length m.length (Dc l) (Dc m):=by
 unfold Dc;rw [←h.eK hs 3 (by decide)];by_cases ht:isK l 3=true
 ·obtain ⟨h1,_,h4,h2,h3⟩:=h.tK hs (by decide) ht;rw [h4];split
  ·exact .ok h1 h2 h3
  ·exact RS.bad h hs
 ·have ht:isK l 3=false:=by simpa using ht
  simp only [ht,Bool.false_and,Bool.false_eq_true,if_false];exact RS.bad h hs
theorem ABu {l m:List Tok}(hs:S l m):Ha l=Ha m∧∀v,Ha l=some v→S l.tail m.tail∧l.tail.length < l.length∧m.tail.length < m.length:=by
 unfold Ha;rw [←h.eK hs 4 (by decide),←h.eT hs [116,114,117,101] (by decide),←h.eT hs [102,97,108,115,101] (by decide),←h.eT hs [110,117,108,108] (by decide)];split
 ·rename_i ht
  obtain ⟨h1,h4,_,h2,h3⟩:=h.tK hs (by decide) ht;rw [h4];exact ⟨rfl,λ_ _=>⟨h1,h2,h3⟩⟩
 split
 ·rename_i ht
  obtain ⟨h1,h4,_,h2,h3⟩:=h.tT hs (by decide) ht;exact ⟨rfl,λ_ _=>⟨h1,h2,h3⟩⟩
 split
 ·rename_i ht
  obtain ⟨h1,h4,_,h2,h3⟩:=h.tT hs (by decide) ht;exact ⟨rfl,λ_ _=>⟨h1,h2,h3⟩⟩
 split
 ·rename_i ht
  obtain ⟨h1,h4,_,h2,h3⟩:=h.tT hs (by decide) ht;exact ⟨rfl,λ_ _=>⟨h1,h2,h3⟩⟩
 ·exact ⟨rfl,λ_ he=>by cases he⟩
variable (S) in
omit h in
def OpS (op:List Tok→Int):Prop:=∀l m,S l m→op l=op m∧(op l≠0→S l.tail m.tail∧l.tail.length < l.length∧m.tail.length < m.length)
theorem APs:OpS S Ii:=λl m hs=>by
 unfold Ii;rw [←h.eT hs [111,114] (by decide)];split
 ·rename_i ht
  obtain ⟨h1,_,_,h2,h3⟩:=h.tT hs (by decide) ht;exact ⟨rfl,λ_=>⟨h1,h2,h3⟩⟩
 ·exact ⟨rfl,λhe=>absurd rfl he⟩
theorem ALg:OpS S Ez:=λl m hs=>by
 unfold Ez;rw [←h.eT hs [97,110,100] (by decide)];split
 ·rename_i ht
  obtain ⟨h1,_,_,h2,h3⟩:=h.tT hs (by decide) ht;exact ⟨rfl,λ_=>⟨h1,h2,h3⟩⟩
 ·exact ⟨rfl,λhe=>absurd rfl he⟩
theorem ALf:OpS S Dk:=λl m hs=>by
 unfold Dk;rw [←h.eT hs [61] (by decide),←h.eT hs [60,62] (by decide),←h.eT hs [60] (by decide),←h.eT hs [60,61] (by decide),←h.eT hs [62] (by decide),←h.eT hs [62,61] (by decide)];refine ⟨rfl,λhe=>?_⟩;have go:∀s:Bs,s≠[59]→isT l s=true→S l.tail m.tail∧l.tail.length < l.length∧m.tail.length < m.length:=λs hne ht=>by
  obtain ⟨h1,_,_,h2,h3⟩:=h.tT hs hne ht;exact ⟨h1,h2,h3⟩
 repeat' split at he
 all_goals first
  |exact absurd rfl he
  |(refine go _ ?_ zA;decide)
theorem AGe {f:Bs→Option Int}(hf:f [59]=none):OpS S (Hm f):=λl m hs=>by
 unfold Hm;rcases h.view hs with ⟨t,u,r,q,rfl,rfl,e,hr⟩|⟨h1,h2⟩
 ·have:=PS e;refine ⟨by rw [show isK (t::r) 5=isK (u::q) 5 by simp only [isK,hd,List.headD_cons,this.1],show hd (t::r)=t from rfl,show hd (u::q)=u from rfl,this.2.1],λ_=>⟨hr,by simp,by simp⟩⟩
 ·have hz:∀{l:List Tok},stop l→(if isK l 5=true then (f (hd l).text).getD 0 else 0)=0:=by
   rintro l ⟨t,r,rfl,h|⟨h,h'⟩⟩
   ·simp [isK,hd,h]
   ·simp [isK,hd,h,h',hf]
  rw [hz h1,hz h2];exact ⟨rfl,λhe=>absurd rfl he⟩
theorem Xi {α:Type}{n n':Nat}{P P':Pr α}(hp:SP S E n n' P P'):∀(k k':Nat) (acc:List α) (l m:List Tok),S l m→l.length≤k→m.length≤k'→l.length≤n→m.length≤n'→RS S E (l.length+1) (m.length+1) (Bq P k acc l) (Bq P' k' acc m)
 |0,_,_,l,m,hs,h1,_,_,_=>by have:=(h.pos hs).1;omega
 |k+1,k',acc,l,m,hs,h1,h2,h3,h4=>by
  have:=(h.pos hs).2;obtain ⟨k',rfl⟩:∃q,k'=q+1:=⟨k' - 1,by omega⟩;simp only [Bq];rw [←h.eT hs [44] (by decide)];split
  ·rename_i ht
   obtain ⟨g1,_,_,g2,g3⟩:=h.tT hs (by decide) ht;refine zAH (hp _ _ g1 (by omega) (by omega)) (λx r q hr h5 h6=>?_);exact (Xi hp k k' _ r q hr (by omega) (by omega) (by omega) (by omega)).mono (by omega) (by omega)
  ·exact .ok hs (by omega) (by omega)
theorem JH {α:Type}{n n':Nat}{P P':Pr α}(hp:SP S E n n' P P'):SP S E n n' (BG n P) (BG n' P'):=λl m hs h1 h2=>
 zAH (hp l m hs h1 h2) λx r q hr h3 h4=>(Xi h hp n n' [x] r q hr (by omega) (by omega) (by omega) (by omega)).mono (by omega) (by omega)
theorem KR {α:Type}{n n':Nat}{P P':Pr α}(hp:SP S E n n' P P'):SP S E n n' (BC n P) (BC n' P'):=λl m hs h1 h2=>
 zAH (BH h (by decide) hs) λ_ r q hr h3 h4=>zAH (JH h hp r q hr (by omega) (by omega)) λ_ r2 q2 hr2 h5 h6=>
  zAH (BH h (by decide) hr2) λ_ r3 q3 hr3 h7 h8=>.ok hr3 (by omega) (by omega)
theorem Xj {n n':Nat}{P P':Pr Ex}(hp:SP S E n n' P P'){op:List Tok→Int}(ho:OpS S op):∀(k k':Nat) (x:Ex) (l m:List Tok),S l m→l.length≤k→m.length≤k'→l.length≤n→m.length≤n'→RS S E (l.length+1) (m.length+1) (Dv P op k x l) (Dv P' op k' x m)
 |0,_,_,l,m,hs,h1,_,_,_=>by have:=(h.pos hs).1;omega
 |k+1,k',x,l,m,hs,h1,h2,h3,h4=>by
  have:=(h.pos hs).2;obtain ⟨k',rfl⟩:∃q,k'=q+1:=⟨k' - 1,by omega⟩;obtain ⟨e,ht⟩:=ho l m hs;simp only [Dv];rw [←e];split
  ·exact .ok hs (by omega) (by omega)
  ·rename_i hne
   obtain ⟨g1,g2,g3⟩:=ht hne;refine zAH (hp _ _ g1 (by omega) (by omega)) (λy r q hr h5 h6=>?_);exact (Xj hp ho k k' _ r q hr (by omega) (by omega) (by omega) (by omega)).mono (by omega) (by omega)
theorem LV {n n' k k':Nat}{P P':Pr Ex}(hp:SP S E n n' P P'){op:List Tok→Int}(ho:OpS S op)(hk:n≤k+1)(hk':n'≤k'+1):SP S E n n' (CB k P op) (CB k' P' op):=λl m hs h1 h2=>
 zAH (hp l m hs h1 h2) λx r q hr h3 h4=>(Xj h hp ho k k' x r q hr (by omega) (by omega) (by omega) (by omega)).mono (by omega) (by omega)
theorem Xg {k k' n n':Nat}{P P':Pr Ex}(hp:SP S E n n' P P')(acc:List Ex):SP S E n n' (EZ k P acc) (EZ k' P' acc):=λl m hs h1 h2=>
 zAH (BH h (by decide) hs) λ_ r q hr h3 h4=>zAH (hp r q hr (by omega) (by omega)) λ_ r2 q2 hr2 h5 h6=>
  zAH (BH h (by decide) hr2) λ_ r3 q3 hr3 h7 h8=>zAH (hp r3 q3 hr3 (by omega) (by omega)) λ_ r4 q4 hr4 h9 h10=>.ok hr4 (by omega) (by omega)
theorem Ue {i i' n n':Nat}{P P':Pr Ex}(hp:SP S E n n' P P'):∀(k k':Nat) (acc:List Ex) (l m:List Tok),S l m→l.length≤k→m.length≤k'→l.length≤n→m.length≤n'→RS S E (l.length+1) (m.length+1) (DJ i P k acc l) (DJ i' P' k' acc m)
 |0,_,_,l,m,hs,h1,_,_,_=>by have:=(h.pos hs).1;omega
 |k+1,k',acc,l,m,hs,h1,h2,h3,h4=>by
  have:=(h.pos hs).2;obtain ⟨k',rfl⟩:∃q,k'=q+1:=⟨k' - 1,by omega⟩;simp only [DJ];rw [←h.eT hs [119,104,101,110] (by decide)];split
  ·refine zAH (Xg h hp acc l m hs h3 h4) (λx r q hr h5 h6=>?_);exact (Ue hp k k' _ r q hr (by omega) (by omega) (by omega) (by omega)).mono (by omega) (by omega)
  ·exact .ok hs (by omega) (by omega)
theorem AGd {n n':Nat}{P P':Pr Ex}(hp:SP S E n n' P P'):SP S E n n' (Hg n P) (Hg n' P'):=λl m hs h1 h2=>by
 refine zAH (Xg h hp [] l m hs h1 h2) λa r q hr h3 h4=>?_;refine zAH (Ue h hp n n' a r q hr (by omega) (by omega) (by omega) (by omega)) λa2 r2 q2 hr2 h5 h6=>?_;refine zAH (a:=l.length) (b:=m.length) ?_ λa3 r3 q3 hr3 h7 h8=>zAH (BH h (by decide) hr3) λ_ r4 q4 hr4 h9 h10=>.ok hr4 (by omega) (by omega);rw [←h.eT hr2 [101,108,115,101] (by decide)];split
 ·rename_i ht
  obtain ⟨g1,_,_,g2,g3⟩:=h.tT hr2 (by decide) ht;exact zAH (hp _ _ g1 (by omega) (by omega)) λx r5 q5 hr5 h9 h10=>.ok hr5 (by omega) (by omega)
 ·exact .ok hr2 (by omega) (by omega)
theorem QJ {s:Bs}(hne:s≠[59]){l m:List Tok}(hs:S l m):isT l s=isT m s∧S (if isT l s then l.tail else l) (if isT m s then m.tail else m)∧(if isT l s then l.tail else l).length≤l.length∧(if isT m s then m.tail else m).length≤m.length:=by
 rw [←h.eT hs s hne];refine ⟨rfl,?_⟩;split
 ·rename_i ht
  obtain ⟨h1,_,_,h2,h3⟩:=h.tT hs hne ht;exact ⟨h1,by omega,by omega⟩
 ·exact ⟨hs,Nat.le_refl _,Nat.le_refl _⟩
theorem AEk {n n':Nat}{P P':Pr Ex}(hp:SP S E n n' P P')(s:Bs):SP S E n n' (Cf n P s) (Cf n' P' s):=λl m hs h1 h2=>by
 unfold Cf;split
 ·exact zAH (KR h hp l m hs h1 h2) λa r q hr h3 h4=>.ok hr h3 h4
 refine zAH (BH h (by decide) hs) λ_ r q hr h3 h4=>?_;split
 ·exact zAH (hp r q hr (by omega) (by omega)) λ_ r2 q2 hr2 h5 h6=>zAH (BH h (by decide) hr2) λ_ r3 q3 hr3 h7 h8=>.ok hr3 (by omega) (by omega)
 rw [←h.eT hr [42] (by decide)];split
 ·rename_i ht
  simp only [Bool.and_eq_true] at ht;obtain ⟨g1,_,_,g2,g3⟩:=h.tT hr (by decide) ht.2;exact zAH (BH h (by decide) g1) λ_ r3 q3 hr3 h7 h8=>.ok hr3 (by omega) (by omega)
 obtain ⟨e1,e2,e3,e4⟩:=QJ h (s:=[100,105,115,116,105,110,99,116]) (by decide) hr;rw [e1] at e2 e3 ⊢;refine zAH (hp _ _ e2 (by omega) (by omega)) λ_ r2 q2 hr2 h5 h6=>zAH (BH h (by decide) hr2) λ_ r3 q3 hr3 h7 h8=>.ok hr3 (by omega) (by omega)
theorem AEf {k k' n n':Nat}{P P' U U':Pr Ex}(hp:SP S E n n' P P')(hu:SP S E n n' U U')(hk:k=n)(hk':k'=n'):SP S E (n+1) (n'+1) (DK k P U) (DK k' P' U'):=λl m hs h1 h2=>by
 subst hk hk';unfold DK;rw [←h.eT hs [45] (by decide),←h.eT hs [40] (by decide),←h.eT hs [99,97,115,101] (by decide),←h.eK hs 3 (by decide)];split
 ·rename_i ht
  obtain ⟨g1,_,_,g2,g3⟩:=h.tT hs (by decide) ht;exact zAH (hu _ _ g1 (by omega) (by omega)) λx r q hr h5 h6=>.ok hr (by omega) (by omega)
 split
 ·rename_i ht
  obtain ⟨g1,_,_,g2,g3⟩:=h.tT hs (by decide) ht;exact zAH (hp _ _ g1 (by omega) (by omega)) λx r q hr h5 h6=>zAH (BH h (by decide) hr) λ_ r3 q3 hr3 h7 h8=>.ok hr3 (by omega) (by omega)
 split
 ·rename_i ht
  obtain ⟨g1,_,_,g2,g3⟩:=h.tT hs (by decide) ht;exact (AGd h hp _ _ g1 (by omega) (by omega)).mono (by omega) (by omega)
 split
 ·exact Vg h hs
 obtain ⟨e1,e2⟩:=ABu h hs;rw [←e1];cases hl:Ha l with
 |some v=>
  obtain ⟨g1,g2,g3⟩:=e2 v hl;exact .ok g1 g2 g3
 |none=>
  refine zAH (Cb h hs) λs r q hr h3 h4=>?_;rw [←h.eT hr [40] (by decide),←h.eT hr [46] (by decide)];split
  ·exact (AEk h hp s r q hr (by omega) (by omega)).mono (by omega) (by omega)
  split
  ·rename_i ht
   obtain ⟨g1,_,_,g2,g3⟩:=h.tT hr (by decide) ht;exact zAH (Cb h g1) λx r5 q5 hr5 h9 h10=>.ok hr5 (by omega) (by omega)
  ·exact .ok hr (by omega) (by omega)
theorem AGZ {n n':Nat}{P P' Q Q':Pr Ex}(hp:SP S E n n' P P')(hq:SP S E (n+1) (n'+1) Q Q'):SP S E (n+1) (n'+1) (EG n P Q) (EG n' P' Q'):=λl m hs h1 h2=>by
 refine zAH (hq l m hs h1 h2) λx r q hr h3 h4=>?_;obtain ⟨e1,e2⟩:=ALf h r q hr;rw [←e1,←h.eT hr [105,115] (by decide)];split
 ·rename_i hne
  obtain ⟨g1,g2,g3⟩:=e2 hne;exact zAH (hq _ _ g1 (by omega) (by omega)) λy r2 q2 hr2 h5 h6=>.ok hr2 (by omega) (by omega)
 split
 ·rename_i ht
  obtain ⟨g1,_,_,g2,g3⟩:=h.tT hr (by decide) ht;rw [←h.eT g1 [110,111,116] (by decide)];split
  ·rename_i ht
   obtain ⟨g4,_,_,g5,g6⟩:=h.tT g1 (by decide) ht;exact zAH (BH h (by decide) g4) λ_ r3 q3 hr3 h7 h8=>.ok hr3 (by omega) (by omega)
  ·exact zAH (BH h (by decide) g1) λ_ r3 q3 hr3 h7 h8=>.ok hr3 (by omega) (by omega)
 obtain ⟨k1,k2,k3,k4⟩:=QJ h (s:=[110,111,116]) (by decide) hr;simp only [k1] at k2 k3 ⊢;generalize (if isT q [110,111,116]=true then r.tail else r)=r' at k2 k3 ⊢;generalize (if isT q [110,111,116]=true then q.tail else q)=q' at k2 k4 ⊢;rw [←h.eT k2 [105,110] (by decide),←h.eT k2 [98,101,116,119,101,101,110] (by decide),←h.eT k2 [108,105,107,101] (by decide)];split
 ·rename_i ht
  obtain ⟨g1,_,_,g2,g3⟩:=h.tT k2 (by decide) ht;exact zAH (KR h hp _ _ g1 (by omega) (by omega)) λa r2 q2 hr2 h5 h6=>.ok hr2 (by omega) (by omega)
 split
 ·rename_i ht
  obtain ⟨g1,_,_,g2,g3⟩:=h.tT k2 (by decide) ht;exact zAH (hq _ _ g1 (by omega) (by omega)) λy r2 q2 hr2 h5 h6=>zAH (BH h (by decide) hr2) λ_ r3 q3 hr3 h7 h8=>zAH (hq _ _ hr3 (by omega) (by omega)) λy r4 q4 hr4 h9 h10=>.ok hr4 (by omega) (by omega)
 split
 ·rename_i ht
  obtain ⟨g1,_,_,g2,g3⟩:=h.tT k2 (by decide) ht;exact zAH (hq _ _ g1 (by omega) (by omega)) λy r2 q2 hr2 h5 h6=>.ok hr2 (by omega) (by omega)
 split
 ·exact RS.bad h k2
 ·exact .ok k2 (by omega) (by omega)
theorem ALe {n n':Nat}{P P' Q Q':Pr Ex}(hp:SP S E n n' P P')(hq:SP S E (n+1) (n'+1) Q Q'):SP S E (n+1) (n'+1) (KI P Q) (KI P' Q'):=λl m hs h1 h2=>by
 unfold KI;rw [←h.eT hs [110,111,116] (by decide)];split
 ·rename_i ht
  obtain ⟨g1,_,_,g2,g3⟩:=h.tT hs (by decide) ht;exact zAH (hp _ _ g1 (by omega) (by omega)) λx r q hr h5 h6=>.ok hr (by omega) (by omega)
 ·exact hq l m hs h1 h2
theorem Ug:∀n n':Nat,SP S E n n' (DI n).1 (DI n').1∧SP S E n n' (DI n).2.1 (DI n').2.1∧SP S E n n' (DI n).2.2 (DI n').2.2
 |0,n'=>by
  refine ⟨?_,?_,?_⟩ <;> exact λl m hs h1 _=>absurd (h.pos hs).1 (by omega)
 |n+1,0=>by
  refine ⟨?_,?_,?_⟩ <;> exact λl m hs _ h1=>absurd (h.pos hs).2 (by omega)
 |n+1,n'+1=>by
  obtain ⟨i1,i2,i3⟩:=Ug n n';have hU:=AEf h i1 i3 rfl rfl;have hS:=LV h (LV h hU (AGe h (f:=KD) (by decide)) (k:=n) (k':=n') (Nat.le_refl _) (Nat.le_refl _)) (AGe h (f:=Pz) (by decide)) (k:=n) (k':=n') (Nat.le_refl _) (Nat.le_refl _);have hN:=ALe h i2 (AGZ h i1 hS);exact ⟨LV h (LV h hN (ALg h) (k:=n) (k':=n') (Nat.le_refl _) (Nat.le_refl _)) (APs h) (k:=n) (k':=n') (Nat.le_refl _) (Nat.le_refl _),hN,hU⟩
theorem Rq (n n':Nat):SP S E n n' (eP n) (eP n'):=(Ug h n n').1
variable (S E) in
omit h in
def SQ {α:Type}(n n':Nat)(P P':Pr α):Prop:=∀l m,S l m→l.length≤n→m.length≤n'→RS S E (l.length+1) (m.length+1) (P l) (P' m)
theorem JI {α:Type}{n n':Nat}{s:Bs}(hne:s≠[59])(d:α){P P':Pr α}(hp:SP S E n n' P P'):SQ S E n n' (JO s d P) (JO s d P'):=λl m hs h1 h2=>by
 unfold JO;rw [←h.eT hs s hne];split
 ·rename_i ht
  obtain ⟨g1,_,_,g2,g3⟩:=h.tT hs hne ht;exact (hp _ _ g1 (by omega) (by omega)).mono (by omega) (by omega)
 ·exact .ok hs (by omega) (by omega)
theorem LW {n n':Nat}{s:Bs}(hne:s≠[59]):SQ S E n n' (Dq n s) (Dq n' s):=JI h hne ex0 (Rq h n n')
theorem AEj {n n':Nat}:SP S E n n' EK EK:=λl m hs h1 h2=>by
 unfold EK;obtain ⟨e1,e2⟩:=ABu h hs;rw [←e1];cases hl:Ha l with
 |some v=>
  obtain ⟨g1,g2,g3⟩:=e2 v hl;exact .ok g1 g2 g3
 |none=>
  simp only
  rw [←h.eT hs [45] (by decide)];split
  ·rename_i ht
   obtain ⟨g1,_,_,g2,g3⟩:=h.tT hs (by decide) ht;exact zAH (Vg h g1) λx r q hr h5 h6=>.ok hr (by omega) (by omega)
  ·exact Vg h hs
theorem AGa (n n':Nat):SP S E n n' (Eb n) (Eb n'):=λl m hs h1 h2=>by
 unfold Eb;rw [←h.eT hs [42] (by decide)];split
 ·rename_i ht
  obtain ⟨g1,_,_,g2,g3⟩:=h.tT hs (by decide) ht;exact .ok g1 g2 g3
 have key:(isK l 1&&isK l.tail 5&&(hd l.tail).text==[46]&&isK l.tail.tail 5&&(hd l.tail.tail).text==[42])=(isK m 1&&isK m.tail 5&&(hd m.tail).text==[46]&&isK m.tail.tail 5&&(hd m.tail.tail).text==[42])∧
   ((isK l 1&&isK l.tail 5&&(hd l.tail).text==[46]&&isK l.tail.tail 5&&(hd l.tail.tail).text==[42])=true→S l.tail.tail.tail m.tail.tail.tail∧(hd l).text=(hd m).text∧l.tail.tail.tail.length < l.length∧m.tail.tail.tail.length < m.length):=by
  rw [←h.eK hs 1 (by decide)];cases h1:isK l 1 with
  |false=>simp
  |true=>
   obtain ⟨g1,g2,_,g3,g4⟩:=h.tK hs (by decide) h1;have e2:=h.eS g1 [46] (by decide);simp only [Bool.true_and];rw [←e2];cases h2:(isK l.tail 5&&(hd l.tail).text==[46]) with
   |false=>simp
   |true=>
    obtain ⟨g5,_,_,g6,g7⟩:=h.tS g1 (by decide) h2;have e3:=h.eS g5 [42] (by decide);simp only [Bool.true_and];rw [←e3];refine ⟨rfl,λh3=>?_⟩;obtain ⟨g8,_,_,g9,g10⟩:=h.tS g5 (by decide) h3;exact ⟨g8,g2,by omega,by omega⟩
 obtain ⟨k1,k2⟩:=key;rw [←k1];split
 ·rename_i hb
  obtain ⟨g1,g2,g3,g4⟩:=k2 hb;rw [g2];exact .ok g1 g3 g4
 refine zAH (Rq h n n' l m hs h1 h2) λx r q hr h3 h4=>?_;rw [←h.eT hr [97,115] (by decide)];split
 ·rename_i ht
  obtain ⟨g1,_,_,g2,g3⟩:=h.tT hr (by decide) ht;exact zAH (Cb h g1) λa r2 q2 hr2 h5 h6=>.ok hr2 (by omega) (by omega)
 ·exact .ok hr h3 h4
theorem AEi (n n':Nat):SP S E n n' (Ej n) (Ej n'):=λl m hs h1 h2=>by
 refine zAH (Rq h n n' l m hs h1 h2) λx r q hr h3 h4=>?_;rw [←h.eT hr [100,101,115,99] (by decide),←h.eT hr [97,115,99] (by decide)];split
 ·rename_i ht
  obtain ⟨g1,_,_,g2,g3⟩:=h.tT hr (by decide) ht;exact .ok g1 (by omega) (by omega)
 split
 ·rename_i ht
  obtain ⟨g1,_,_,g2,g3⟩:=h.tT hr (by decide) ht;exact .ok g1 (by omega) (by omega)
 ·exact .ok hr h3 h4
theorem Jc {n n':Nat}:SP S E n n' Bh Bh:=λl m hs h1 h2=>by
 refine zAH (Cb h hs) λs r q hr h3 h4=>?_;rw [←h.eT hr [97,115] (by decide),←h.eK hr 1 (by decide)];split
 ·rename_i ht
  obtain ⟨g1,_,_,g2,g3⟩:=h.tT hr (by decide) ht;exact zAH (Cb h g1) λa r2 q2 hr2 h5 h6=>.ok hr2 (by omega) (by omega)
 split
 ·exact zAH (Cb h hr) λa r2 q2 hr2 h5 h6=>.ok hr2 (by omega) (by omega)
 ·exact .ok hr h3 h4
theorem Ro (n n':Nat)(b:Bool):SP S E n n' (FM n b) (FM n' b):=λl m hs h1 h2=>
 zAH (BH h (by decide) hs) λ_ r q hr h3 h4=>zAH (Jc h r q hr (Nat.le_refl _) (Nat.le_refl _)) λs r2 q2 hr2 h5 h6=>
  zAH (BH h (by decide) hr2) λ_ r3 q3 hr3 h7 h8=>zAH (Rq h n n' r3 q3 hr3 (by omega) (by omega)) λx r4 q4 hr4 h9 h10=>.ok hr4 (by omega) (by omega)
theorem IC (n n':Nat):∀(k k':Nat) (acc:List TSource) (l m:List Tok),S l m→l.length≤k→m.length≤k'→l.length≤n→m.length≤n'→RS S E (l.length+1) (m.length+1) (Ba n k acc l) (Ba n' k' acc m)
 |0,_,_,l,m,hs,h1,_,_,_=>by have:=(h.pos hs).1;omega
 |k+1,k',acc,l,m,hs,h1,h2,h3,h4=>by
  have:=(h.pos hs).2;obtain ⟨k',rfl⟩:∃q,k'=q+1:=⟨k' - 1,by omega⟩;simp only [Ba];rw [←h.eT hs [44] (by decide),←h.eT hs [99,114,111,115,115] (by decide),←h.eT hs [108,101,102,116] (by decide),←h.eT hs [105,110,110,101,114] (by decide),←h.eT hs [106,111,105,110] (by decide)];split
  ·rename_i ht
   obtain ⟨g1,_,_,g2,g3⟩:=h.tT hs (by decide) ht;exact zAH (Jc h _ _ g1 (Nat.le_refl _) (Nat.le_refl _)) (λx r q hr h5 h6=>(IC n n' k k' _ r q hr (by omega) (by omega) (by omega) (by omega)).mono (by omega) (by omega))
  split
  ·rename_i ht
   obtain ⟨g1,_,_,g2,g3⟩:=h.tT hs (by decide) ht;exact zAH (BH h (by decide) g1) λ_ r q hr h5 h6=>zAH (Jc h r q hr (Nat.le_refl _) (Nat.le_refl _)) (λx r q hr h5 h6=>(IC n n' k k' _ r q hr (by omega) (by omega) (by omega) (by omega)).mono (by omega) (by omega))
  split
  ·rename_i ht
   obtain ⟨g1,_,_,g2,g3⟩:=h.tT hs (by decide) ht;exact zAH (Ro h n n' _ _ _ g1 (by omega) (by omega)) (λx r q hr h5 h6=>(IC n n' k k' _ r q hr (by omega) (by omega) (by omega) (by omega)).mono (by omega) (by omega))
  split
  ·rename_i ht
   obtain ⟨g1,_,_,g2,g3⟩:=h.tT hs (by decide) ht;exact zAH (Ro h n n' _ _ _ g1 (by omega) (by omega)) (λx r q hr h5 h6=>(IC n n' k k' _ r q hr (by omega) (by omega) (by omega) (by omega)).mono (by omega) (by omega))
  split
  ·exact zAH (Ro h n n' _ _ _ hs (by omega) (by omega)) (λx r q hr h5 h6=>(IC n n' k k' _ r q hr (by omega) (by omega) (by omega) (by omega)).mono (by omega) (by omega))
  ·exact .ok hs (by omega) (by omega)
theorem AGb (n n':Nat):SP S E n n' (Iw n) (Iw n'):=λl m hs h1 h2=>
 zAH (Jc h l m hs h1 h2) λs r q hr h3 h4=>(IC h n n' n n' [s] r q hr (by omega) (by omega) (by omega) (by omega)).mono (by omega) (by omega)
theorem ABv {α:Type}{n n':Nat}{P P':Pr α}(hp:SP S E n n' P P'):SP S E n n' (byP P) (byP P'):=λl m hs h1 h2=>
 zAH (BH h (by decide) hs) λ_ r q hr h3 h4=>(hp r q hr (by omega) (by omega)).mono (by omega) (by omega)
theorem AEh (n n':Nat):SP S E n n' (EY n) (EY n'):=λl m hs h1 h2=>by
 unfold EY;obtain ⟨e1,e2,e3,e4⟩:=QJ h (s:=[100,105,115,116,105,110,99,116]) (by decide) hs;simp only [e1] at e2 e3 ⊢;generalize (if isT m [100,105,115,116,105,110,99,116]=true then l.tail else l)=l' at e2 e3 ⊢;generalize (if isT m [100,105,115,116,105,110,99,116]=true then m.tail else m)=m' at e2 e4 ⊢;refine zAH (JH h (AGa h n n') _ _ e2 (by omega) (by omega)) λx1 r1 q1 hr1 a1 b1=>?_;refine zAH (JI h (by decide) [] (AGb h n n') r1 q1 hr1 (by omega) (by omega)) λx2 r2 q2 hr2 a2 b2=>?_;refine zAH (LW h (by decide) r2 q2 hr2 (by omega) (by omega)) λx3 r3 q3 hr3 a3 b3=>?_;refine zAH (JI h (by decide) [] (ABv h (JH h (Rq h n n'))) r3 q3 hr3 (by omega) (by omega)) λx4 r4 q4 hr4 a4 b4=>?_;refine zAH (LW h (by decide) r4 q4 hr4 (by omega) (by omega)) λx5 r5 q5 hr5 a5 b5=>?_;refine zAH (JI h (by decide) [] (ABv h (JH h (AEi h n n'))) r5 q5 hr5 (by omega) (by omega)) λx6 r6 q6 hr6 a6 b6=>?_;refine zAH (JI h (n:=n) (n':=n') (by decide) (-1) (λl m hs _ _=>Uh h hs) r6 q6 hr6 (by omega) (by omega)) λx7 r7 q7 hr7 a7 b7=>?_;refine zAH (JI h (n:=n) (n':=n') (by decide) 0 (λl m hs _ _=>Uh h hs) r7 q7 hr7 (by omega) (by omega)) λx8 r8 q8 hr8 a8 b8=>?_;exact .ok hr8 (by omega) (by omega)
theorem ALd (n n':Nat):SP S E n n' (Nj n) (Nj n'):=λl m hs h1 h2=>
 zAH (Cb h hs) λs r q hr h3 h4=>zAH (BH h (by decide) hr) λ_ r2 q2 hr2 h5 h6=>zAH (Rq h n n' r2 q2 hr2 (by omega) (by omega)) λx r3 q3 hr3 h7 h8=>.ok hr3 (by omega) (by omega)
theorem KT:∀(k k':Nat) (c:TCol) (l m:List Tok),S l m→l.length≤k→m.length≤k'→RS S E (l.length+1) (m.length+1) (Cj k c l) (Cj k' c m)
 |0,_,_,l,m,hs,h1,_=>by have:=(h.pos hs).1;omega
 |k+1,k',c,l,m,hs,h1,h2=>by
  have:=(h.pos hs).2;obtain ⟨k',rfl⟩:∃q,k'=q+1:=⟨k' - 1,by omega⟩;simp only [Cj];rw [←h.eT hs [110,111,116] (by decide),←h.eT hs [112,114,105,109,97,114,121] (by decide),←h.eT hs [117,110,105,113,117,101] (by decide),←h.eT hs [100,101,102,97,117,108,116] (by decide)];split
  ·rename_i ht
   simp only [Bool.and_eq_true] at ht;obtain ⟨g1,_,_,g2,g3⟩:=h.tT hs (by decide) ht.2;exact zAH (BH h (by decide) g1) λ_ r q hr h5 h6=>(KT k k' _ r q hr (by omega) (by omega)).mono (by omega) (by omega)
  split
  ·rename_i ht
   simp only [Bool.and_eq_true] at ht;obtain ⟨g1,_,_,g2,g3⟩:=h.tT hs (by decide) ht.2;exact zAH (BH h (by decide) g1) λ_ r q hr h5 h6=>(KT k k' _ r q hr (by omega) (by omega)).mono (by omega) (by omega)
  split
  ·rename_i ht
   simp only [Bool.and_eq_true] at ht;obtain ⟨g1,_,_,g2,g3⟩:=h.tT hs (by decide) ht.2;exact (KT k k' _ _ _ g1 (by omega) (by omega)).mono (by omega) (by omega)
  split
  ·rename_i ht
   simp only [Bool.and_eq_true] at ht;obtain ⟨g1,_,_,g2,g3⟩:=h.tT hs (by decide) ht.2;exact zAH (AEj h (n:=l.length) (n':=m.length) _ _ g1 (by omega) (by omega)) λ_ r q hr h5 h6=>(KT k k' _ r q hr (by omega) (by omega)).mono (by omega) (by omega)
  ·exact .ok hs (by omega) (by omega)
theorem AAQ (n n':Nat):SP S E n n' (Dx n) (Dx n'):=λl m hs h1 h2=>by
 refine zAH (Cb h hs) λs r q hr h3 h4=>?_;rw [←h.eK hr 1 (by decide)];by_cases hk:isK r 1=true
 ·obtain ⟨g1,g4,_,g2,g3⟩:=h.tK hr (by decide) hk;simp only [hk,if_true,g4];split
  ·exact RS.bad h hr
  ·exact (KT h n n' _ _ _ g1 (by omega) (by omega)).mono (by omega) (by omega)
 ·have hk:isK r 1=false:=by simpa using hk
  simp only [hk,Bool.false_eq_true,if_false,if_true];exact RS.bad h hr
theorem Xh (n n':Nat):∀(k k':Nat) (cs:List TCol) (ks:List Bs) (l m:List Tok),S l m→l.length≤k→m.length≤k'→l.length≤n→m.length≤n'→RS S E (l.length+1) (m.length+1) (DD n k cs ks l) (DD n' k' cs ks m)
 |0,_,_,_,l,m,hs,h1,_,_,_=>by have:=(h.pos hs).1;omega
 |k+1,k',cs,ks,l,m,hs,h1,h2,h3,h4=>by
  have:=(h.pos hs).2;obtain ⟨k',rfl⟩:∃q,k'=q+1:=⟨k' - 1,by omega⟩;simp only [DD];refine zAH (a:=l.length) (b:=m.length) ?_ λx r q hr h5 h6=>?_
  ·rw [←h.eT hs [112,114,105,109,97,114,121] (by decide)];split
   ·rename_i ht
    simp only [Bool.and_eq_true] at ht;obtain ⟨g1,_,_,g2,g3⟩:=h.tT hs (by decide) ht.2;exact zAH (BH h (by decide) g1) λ_ r q hr h5 h6=>zAH (KR h (n:=n) (n':=n') (λl m hs _ _=>Cb h hs) r q hr (by omega) (by omega)) λk r2 q2 hr2 h7 h8=>.ok hr2 (by omega) (by omega)
   ·exact zAH (AAQ h n n' _ _ hs h3 h4) λk r2 q2 hr2 h7 h8=>.ok hr2 (by omega) (by omega)
  ·rw [←h.eT hr [44] (by decide)];split
   ·rename_i ht
    obtain ⟨g1,_,_,g2,g3⟩:=h.tT hr (by decide) ht;exact (Xh n n' k k' _ _ _ _ g1 (by omega) (by omega) (by omega) (by omega)).mono (by omega) (by omega)
   ·exact .ok hr (by omega) (by omega)
theorem AEg (n n':Nat):SP S E n n' (Ob n) (Ob n'):=λl m hs h1 h2=>by
 refine zAH (Cb h hs) λs r q hr h3 h4=>zAH (BH h (by decide) hr) λ_ r2 q2 hr2 h5 h6=>?_;refine zAH (Xh h n n' (n+1) (n'+1) [] [] r2 q2 hr2 (by omega) (by omega) (by omega) (by omega)) λx r3 q3 hr3 h7 h8=>?_;split
 ·exact RS.bad h hr3
 ·exact zAH (BH h (by decide) hr3) λ_ r4 q4 hr4 h9 h10=>.ok hr4 (by omega) (by omega)
theorem Uf (n n':Nat):SP S E n n' (BC n Ae) (BC n' Ae):=KR h λl m hs _ _=>Cb h hs
theorem AAP (n n':Nat):SP S E n n' (Ed n) (Ed n'):=λl m hs h1 h2=>by
 unfold Ed;rw [←h.eT hs [116,97,98,108,101] (by decide)];split
 ·rename_i ht
  obtain ⟨g1,_,_,g2,g3⟩:=h.tT hs (by decide) ht;exact (AEg h n n' _ _ g1 (by omega) (by omega)).mono (by omega) (by omega)
 obtain ⟨e1,e2,e3,e4⟩:=QJ h (s:=[117,110,105,113,117,101]) (by decide) hs;simp only [e1] at e2 e3 ⊢;generalize (if isT m [117,110,105,113,117,101]=true then l.tail else l)=l' at e2 e3 ⊢;generalize (if isT m [117,110,105,113,117,101]=true then m.tail else m)=m' at e2 e4 ⊢;exact zAH (BH h (by decide) e2) λ_ r q hr h3 h4=>zAH (Cb h hr) λ_ r2 q2 hr2 h5 h6=>zAH (BH h (by decide) hr2) λ_ r3 q3 hr3 h7 h8=>
  zAH (Cb h hr3) λ_ r4 q4 hr4 h9 h10=>zAH (Uf h n n' r4 q4 hr4 (by omega) (by omega)) λ_ r5 q5 hr5 h11 h12=>.ok hr5 (by omega) (by omega)
theorem AGc {n n':Nat}:SP S E n n' Fg Fg:=λl m hs h1 h2=>by
 unfold Fg;rw [←h.eT hs [116,97,98,108,101] (by decide)];split
 ·rename_i ht
  obtain ⟨g1,_,_,g2,g3⟩:=h.tT hs (by decide) ht;exact zAH (Cb h g1) λ_ r q hr h3 h4=>.ok hr (by omega) (by omega)
 ·exact zAH (BH h (by decide) hs) λ_ r q hr h3 h4=>zAH (Cb h hr) λ_ r2 q2 hr2 h5 h6=>.ok hr2 (by omega) (by omega)
theorem AAN (n n':Nat):SP S E n n' (EP n) (EP n'):=λl m hs h1 h2=>by
 refine zAH (BH h (by decide) hs) λ_ r q hr h3 h4=>zAH (Cb h hr) λs r2 q2 hr2 h5 h6=>?_;refine zAH (a:=l.length) (b:=m.length) ?_ λc r3 q3 hr3 h7 h8=>zAH (BH h (by decide) hr3) λ_ r4 q4 hr4 h9 h10=>
  zAH (JH h (KR h (Rq h n n')) r4 q4 hr4 (by omega) (by omega)) λx r5 q5 hr5 h11 h12=>.ok hr5 (by omega) (by omega)
 rw [←h.eT hr2 [40] (by decide)];split
 ·exact (Uf h n n' r2 q2 hr2 (by omega) (by omega)).mono (by omega) (by omega)
 ·exact .ok hr2 (by omega) (by omega)
theorem AAM (n n':Nat):SP S E n n' (EN n) (EN n'):=λl m hs h1 h2=>
 zAH (Cb h hs) λs r q hr h3 h4=>zAH (BH h (by decide) hr) λ_ r2 q2 hr2 h5 h6=>zAH (JH h (ALd h n n') r2 q2 hr2 (by omega) (by omega)) λx r3 q3 hr3 h7 h8=>
  zAH (LW h (by decide) r3 q3 hr3 (by omega) (by omega)) λw r4 q4 hr4 h9 h10=>.ok hr4 (by omega) (by omega)
theorem AAO (n n':Nat):SP S E n n' (EQ n) (EQ n'):=λl m hs h1 h2=>
 zAH (BH h (by decide) hs) λ_ r q hr h3 h4=>zAH (Cb h hr) λ_ r2 q2 hr2 h5 h6=>
  zAH (LW h (by decide) r2 q2 hr2 (by omega) (by omega)) λw r4 q4 hr4 h9 h10=>.ok hr4 (by omega) (by omega)
theorem AGY (n n':Nat):SP S E n n' (DV n) (DV n'):=λl m hs h1 h2=>by
 unfold DV;rw [←h.eT hs [115,101,108,101,99,116] (by decide),←h.eT hs [105,110,115,101,114,116] (by decide),←h.eT hs [117,112,100,97,116,101] (by decide),←h.eT hs [100,101,108,101,116,101] (by decide),←h.eT hs [99,114,101,97,116,101] (by decide),←h.eT hs [100,114,111,112] (by decide),←h.eT hs [98,101,103,105,110] (by decide),←h.eT hs [99,111,109,109,105,116] (by decide)];split
 ·rename_i ht
  obtain ⟨g1,_,_,g2,g3⟩:=h.tT hs (by decide) ht;exact zAH (AEh h n n' _ _ g1 (by omega) (by omega)) λ_ r q hr h3 h4=>.ok hr (by omega) (by omega)
 split
 ·rename_i ht
  obtain ⟨g1,_,_,g2,g3⟩:=h.tT hs (by decide) ht;exact (AAN h n n' _ _ g1 (by omega) (by omega)).mono (by omega) (by omega)
 split
 ·rename_i ht
  obtain ⟨g1,_,_,g2,g3⟩:=h.tT hs (by decide) ht;exact (AAM h n n' _ _ g1 (by omega) (by omega)).mono (by omega) (by omega)
 split
 ·rename_i ht
  obtain ⟨g1,_,_,g2,g3⟩:=h.tT hs (by decide) ht;exact (AAO h n n' _ _ g1 (by omega) (by omega)).mono (by omega) (by omega)
 split
 ·rename_i ht
  obtain ⟨g1,_,_,g2,g3⟩:=h.tT hs (by decide) ht;exact (AAP h n n' _ _ g1 (by omega) (by omega)).mono (by omega) (by omega)
 split
 ·rename_i ht
  obtain ⟨g1,_,_,g2,g3⟩:=h.tT hs (by decide) ht;exact (AGc h _ _ g1 (Nat.le_refl _) (Nat.le_refl _)).mono (by omega) (by omega)
 split
 ·rename_i ht
  obtain ⟨g1,_,_,g2,g3⟩:=h.tT hs (by decide) ht;exact .ok g1 g2 g3
 split
 ·rename_i ht
  obtain ⟨g1,_,_,g2,g3⟩:=h.tT hs (by decide) ht;exact .ok g1 g2 g3
 ·exact zAH (BH h (by decide) hs) λ_ r q hr h3 h4=>.ok hr h3 h4
end
def jn (b:Bs):Bs:=10::59::b
theorem NM (b:Bs):∀(q:Bool) (s:Bs),BL q (s++jn b)=if (BL q s).isEmpty then 59::b else BL q s++jn b
 |false,[]=>by simp [BL,jn,Hu]
 |true,[]=>by simp [BL,jn,Hu]
 |true,c::r=>by
  simp only [List.cons_append,BL];split
  ·exact NM b false r
  ·exact NM b true r
 |false,c::r=>by
  have hh:((r++jn b).head? ==some 45)=(r.head? ==some 45):=by
   cases r with
   |nil=>rfl
   |cons d r=>rfl
  simp only [List.cons_append,BL,hh];split
  ·exact NM b false r
  split
  ·exact NM b true r
  ·rfl
theorem SS (q:UInt8)(t:Bs)(ht:t.head? ≠some q):∀(n:Nat) (s x r:Bs),s.length≤n→CG q s=some (x,r)→CG q (s++t)=some (x,r++t)
 |0,s,x,r,hn,h=>by
  have:s=[]:=List.length_eq_zero_iff.1 (by omega);subst this;simp [CG] at h
 |n+1,[],x,r,hn,h=>by simp [CG] at h
 |n+1,c::s,x,r,hn,h=>by
  rw [List.cons_append,Gi];rw [Gi] at h;split at h
  ·cases h
  rename_i h0
  rw [if_neg h0];split at h
  ·rename_i h1
   rw [if_pos h1];cases hq:CG q s with
   |none=>rw [hq] at h;cases h
   |some y=>
    rw [hq] at h;simp only [Option.map_some,Option.some.injEq,Prod.mk.injEq] at h;obtain ⟨rfl,rfl⟩:=h;rw [SS q t ht n s y.1 y.2 (by simpa using hn) hq];rfl
  ·rename_i h1
   rw [if_neg h1];cases s with
   |nil=>
    simp only [Option.some.injEq,Prod.mk.injEq] at h;obtain ⟨rfl,rfl⟩:=h;cases t with
    |nil=>rfl
    |cons d t=>
     have:(d==q)=false:=by
      cases hd:d==q with
      |false=>rfl
      |true=>exact absurd (by rw [List.head?_cons,beq_iff_eq.1 hd]) ht
     simp [this]
   |cons d s=>
    simp only at h
    simp only [List.cons_append];split at h
    ·rename_i h2
     rw [if_pos h2];cases hq:CG q s with
     |none=>rw [hq] at h;cases h
     |some y=>
      rw [hq] at h;simp only [Option.map_some,Option.some.injEq,Prod.mk.injEq] at h;obtain ⟨rfl,rfl⟩:=h;rw [SS q t ht n s y.1 y.2 (by simp only [List.length_cons] at hn;omega) hq];rfl
    ·rename_i h2
     rw [if_neg h2];simp only [Option.some.injEq,Prod.mk.injEq] at h;obtain ⟨rfl,rfl⟩:=h;rfl
theorem ADZ {d:UInt8}{t:Bs}:∀{x s:Bs},d ∉ x→x.isPrefixOf (s++d::t)=x.isPrefixOf s
 |[],_,_=>by simp [List.isPrefixOf]
 |e::x,[],h=>by
  have:(e==d)=false:=by
   cases hd:e==d with
   |false=>rfl
   |true=>rw [beq_iff_eq.1 hd] at h;exact absurd (List.mem_cons_self ..) h
  simp [List.isPrefixOf,this]
 |e::x,c::s,h=>by
  simp only [List.cons_append,List.isPrefixOf];rw [ADZ λhh=>h (List.mem_cons_of_mem _ hh)]
theorem find_congr {α:Type}{p q:α→Bool}:∀{l:List α},(∀x∈l,p x=q x)→l.find? p=l.find? q
 |[],_=>rfl
 |x::l,h=>by
  rw [List.find?_cons,List.find?_cons,h x (List.mem_cons_self ..),find_congr λy hy=>h y (List.mem_cons_of_mem _ hy)]
theorem AGh (s t:Bs):Il (s++10::t)=Il s:=by
 have h:∀x∈signsL,(10:UInt8) ∉ x:=by decide
 exact find_congr λx hx=>ADZ (h x hx)
theorem AJo {α:Type}{n:Nat}{s t:List α}(h:n≤s.length):(s++t).drop n=s.drop n++t:=by
 rw [List.drop_append,show n - s.length=0 by omega];rfl
theorem ALh {s x:Bs}(h:Il s=some x):x.length≤s.length:=by
 have:=List.find?_some h;exact (List.isPrefixOf_iff_prefix.1 this).length_le
theorem ABH {p:UInt8→Bool}{t:Bs}(ht:t.head?.any p=false):∀s:Bs,(s++t).dropWhile p=s.dropWhile p++t∧(s++t).takeWhile p=s.takeWhile p
 |[]=>by
  cases t with
  |nil=>exact ⟨rfl,rfl⟩
  |cons d t=>
   have hd:p d=false:=by simpa using ht
   simp [List.dropWhile_cons,List.takeWhile_cons,hd]
 |c::s=>by
  have ih:=ABH ht s;simp only [List.cons_append,List.dropWhile_cons,List.takeWhile_cons];split
  ·exact ⟨ih.1,by rw [ih.2]⟩
  ·exact ⟨rfl,rfl⟩
theorem AQX (b:Bs){a:Nat}{s r:Bs}{t:Tok}(h:Dj a s= .tok t r):Dj a (s++jn b)= .tok t (r++jn b):=by
 cases s with
 |nil=>simp [Dj] at h
 |cons c s=>
  have w1:=ABH (p:=λc=>BN c||Az c) (t:=jn b) rfl (c::s);have w2:=ABH (p:=Az) (t:=jn b) rfl (c::s);have sg:=AGh (c::s) (59::b);rw [List.cons_append] at w1 w2 sg;have e:(10::59::b:Bs)=jn b:=rfl;rw [e] at sg;rw [List.cons_append];simp only [Dj] at h ⊢;rw [w1.1,w1.2,w2.1,w2.2,sg];split at h
  ·rename_i h1
   rw [if_pos h1];unfold Hr at h ⊢;split at h
   ·cases h
   ·rename_i h2
    rw [if_neg h2];simp only [LexR.tok.injEq] at h;obtain ⟨rfl,rfl⟩:=h;rfl
  rename_i h1
  rw [if_neg h1];split at h
  ·rename_i h2
   rw [if_pos h2];split at h
   ·cases h
   ·rename_i k hk
    split at h
    ·cases h
    ·rename_i h3
     have h3':¬((List.dropWhile Az (c::s)++jn b).head?.any BN=true):=by
      cases hd:List.dropWhile Az (c::s) with
      |nil=>simp [jn,BN]
      |cons d r=>rw [hd] at h3;exact h3
     simp only [LexR.tok.injEq] at h;obtain ⟨rfl,rfl⟩:=h;rw [if_neg h3']
  rename_i h2
  rw [if_neg h2];split at h
  ·rename_i h3
   rw [if_pos h3];have hq:(jn b).head? ≠some c:=by
    intro hc;simp only [jn,List.head?_cons,Option.some.injEq] at hc;subst hc;exact absurd h3 (by decide)
   cases hx:CG c s with
   |none=>rw [hx] at h;cases h
   |some y=>
    obtain ⟨x,r'⟩:=y;rw [hx] at h;rw [SS c (jn b) hq _ s x r' (Nat.le_refl _) hx];simp only at h ⊢
    split at h
    ·rename_i h4
     rw [if_pos h4];split at h
     ·cases h
     ·rename_i h5
      rw [if_neg h5];simp only [LexR.tok.injEq] at h;obtain ⟨rfl,rfl⟩:=h;rfl
    ·rename_i h4
     rw [if_neg h4];simp only [LexR.tok.injEq] at h;obtain ⟨rfl,rfl⟩:=h;rfl
  rename_i h3
  rw [if_neg h3];cases hx:Il (c::s) with
  |none=>rw [hx] at h;cases h
  |some x=>
   rw [hx] at h;simp only [LexR.tok.injEq] at h ⊢;obtain ⟨rfl,rfl⟩:=h;refine ⟨rfl,?_⟩;rw [←List.cons_append,AJo (ALh hx)]
theorem AIo {a:Nat}{s r:Bs}{t:Tok}(h:Dj a s= .tok t r):t.kind≠6:=by
 cases s with
 |nil=>simp [Dj] at h
 |cons c s=>
  simp only [Dj] at h;split at h
  ·unfold Hr at h;split at h
   ·cases h
   ·simp only [LexR.tok.injEq] at h;obtain ⟨rfl,rfl⟩:=h;simp only;split <;> decide
  split at h
  ·split at h
   ·cases h
   ·split at h
    ·cases h
    ·simp only [LexR.tok.injEq] at h;obtain ⟨rfl,rfl⟩:=h;simp
  split at h
  ·split at h
   ·cases h
   ·split at h
    ·split at h
     ·cases h
     ·simp only [LexR.tok.injEq] at h;obtain ⟨rfl,rfl⟩:=h;simp
    ·simp only [LexR.tok.injEq] at h;obtain ⟨rfl,rfl⟩:=h;simp
  split at h
  ·cases h
  ·simp only [LexR.tok.injEq] at h;obtain ⟨rfl,rfl⟩:=h;simp
theorem ABp (b:Bs)(A:Nat):∀(f f':Nat) (acc:List Tok) (s:Bs) (l0:List Tok),s.length < f→s.length+b.length+2 < f'→s.length≤A→DU A f acc s= .toks l0→(∀t∈acc,t.kind≠6)→
  ∃p f'',l0=p++[⟨6,A,[],0⟩]∧(∀t∈p,t.kind≠6)∧b.length+1 < f''∧DU (A+(b.length+2)) f' acc (s++jn b)=DU (A+(b.length+2)) f'' p (59::b)
 |0,_,_,_,_,h,_,_,_,_=>by omega
 |_+1,0,_,_,_,_,h,_,_,_=>by omega
 |f+1,f'+1,acc,s,l0,hf,hf',hA,h,hk=>by
  have hsk:=NM b false s;have hle:=Gw false s;simp only [DU] at h;split at h
  ·rename_i hs
   simp only [LexA.toks.injEq] at h;subst h;rw [hs] at hsk;refine ⟨acc,f'+1,rfl,hk,by omega,?_⟩;have e1:BL false (59::b)=59::b:=by simp [BL,Hu]
   simp only [DU,hsk,List.isEmpty_nil,if_true,e1]
  ·rename_i c r hs
   rw [hs] at hsk hle;simp only [List.isEmpty_cons,Bool.false_eq_true,if_false,List.cons_append] at hsk;split at h
   ·cases h
   ·rename_i t r' ho
    have hlt:=WV ho;have h1:=AQX b ho;rw [List.cons_append] at h1;simp only [List.length_cons] at hle hlt;obtain ⟨p,f'',g1,g2,g3,g4⟩:=ABp b A f f' (acc++[t]) r' l0 (by omega) (by omega) (by omega) h (by
     intro x hx;rcases List.mem_append.1 hx with h|h
     ·exact hk x h
     ·rw [List.mem_singleton.1 h];exact AIo ho)
    refine ⟨p,f'',g1,g2,g3,?_⟩;rw [←g4];simp only [DU,hsk];rw [show A+(b.length+2) - ((r++jn b).length+1)=A - (r.length+1) by simp only [jn,zU];omega,h1]
section
variable (bit:Nat→Bool)
end
def S2 (l m:List Tok):Prop:=∃p q e e',l=p++[e]∧m=q++[e']∧p.map Tok.st=q.map Tok.st∧e.kind=6∧e'.kind=6∧∀t∈p,t.kind≠6
theorem sim2:Sim S2 (λ_ _=>True) where
 view:=by
  rintro l m ⟨p,q,e,e',rfl,rfl,hpq,h1,h2,hp⟩;cases p with
  |nil=>
   cases q with
   |nil=>exact .inr ⟨⟨_,_,rfl,.inl h1⟩,⟨_,_,rfl,.inl h2⟩⟩
   |cons u q=>cases hpq
  |cons t p=>
   cases q with
   |nil=>cases hpq
   |cons u q=>
    simp only [List.map_cons,List.cons.injEq] at hpq;exact .inl ⟨t,u,_,_,rfl,rfl,hpq.1,p,q,e,e',rfl,rfl,hpq.2,h1,h2,λx hx=>hp x (List.mem_cons_of_mem _ hx)⟩
 bad:=λ_=>trivial
theorem AJR {t u:Tok}{r q:List Tok}(h:t.st=u.st)(s:Bs):isT (t::r) s=isT (u::q) s:=by
 have:=PS h;simp only [isT,hd,List.headD_cons,this.1,this.2.1]
theorem AQn {t u:Tok}{r q:List Tok}(h:t.st=u.st)(k:Int):isK (t::r) k=isK (u::q) k:=by
 have:=PS h;simp only [isK,hd,List.headD_cons,this.1]
theorem AJT {t:Tok}{r:List Tok}(h:t.kind≠6):isK (t::r) 6=false:=by simpa [isK,hd] using h
theorem ADm {t:Tok}{r:List Tok}(h:t.kind=6):isK (t::r) 6=true:=by simp [isK,hd,h]
theorem AAH (n n':Nat):∀(k k':Nat) (l m:List Tok),S2 l m→l.length≤n→m.length≤n'→l.length≤k→m.length≤k'→∀acc acc' x r,Bd n k acc l= .ok x r→∃y r',x=acc++y∧Bd n' k' acc' m= .ok (acc'++y) r'
 |0,_,l,m,hs,_,_,hk,_,_,_,_,_,_=>by have:=(sim2.pos hs).1;omega
 |_+1,0,l,m,hs,_,_,_,hk,_,_,_,_,_=>by have:=(sim2.pos hs).2;omega
 |k+1,k'+1,l,m,hs,hn,hn',hk,hk',acc,acc',x,r,h=>by
  have hs0:=hs;obtain ⟨p,q,e,e',rfl,rfl,hpq,h1,h2,hp⟩:=hs;cases p with
  |nil=>
   cases q with
   |cons u q=>cases hpq
   |nil=>
    simp only [List.nil_append,Bd,ADm h1,ADm h2,if_true,Res.ok.injEq] at h ⊢;obtain ⟨rfl,rfl⟩:=h;exact ⟨[],_,by simp,by simp,rfl⟩
  |cons t p=>
   cases q with
   |nil=>cases hpq
   |cons u q=>
    simp only [List.map_cons,List.cons.injEq] at hpq;have ht:=hp t (List.mem_cons_self ..);have hu:u.kind≠6:=by rw [←(PS hpq.1).1];exact ht
    have hst:S2 (p++[e]) (q++[e']):=⟨p,q,e,e',rfl,rfl,hpq.2,h1,h2,λx hx=>hp x (List.mem_cons_of_mem _ hx)⟩;simp only [List.cons_append,List.length_cons,List.length_append,List.length_nil] at hn hn' hk hk';simp only [List.cons_append,Bd,AJT ht,AJT hu,Bool.false_eq_true,if_false,AJR (r:=p++[e]) (q:=q++[e']) hpq.1] at h ⊢;split at h
    ·rename_i hc
     rw [if_pos hc];exact AAH n n' k k' _ _ hst (by simp;omega) (by simp;omega) (by simp;omega) (by simp;omega) _ _ _ _ h
    ·rename_i hc
     rw [if_neg hc];obtain ⟨s,r1,g1,g2⟩:=bind_ok h;have hsim:=AGY sim2 n n' _ _ hs0 (by simp;omega) (by simp;omega);simp only [List.cons_append] at hsim;rw [g1] at hsim;cases hm:DV n' (u::(q++[e'])) with
     |err f=>rw [hm] at hsim;exact absurd hsim (by simp [RS])
     |ok s' r1'=>
      rw [hm] at hsim;simp only [RS,List.length_cons,List.length_append,List.length_nil] at hsim;obtain ⟨rfl,hr,hl1,hl2⟩:=hsim;simp only [Res.bind];have hcnd:(isK r1 6||isT r1 [59])=(isK r1' 6||isT r1' [59]):=by
       obtain ⟨p2,q2,e2,e2',rfl,rfl,hpq2,h12,h22,hp2⟩:=hr;cases p2 with
       |nil=>cases q2 with
        |nil=>simp only [List.nil_append,ADm h12,ADm h22,Bool.true_or]
        |cons=>cases hpq2
       |cons t2 p2=>cases q2 with
        |nil=>cases hpq2
        |cons u2 q2=>
         simp only [List.map_cons,List.cons.injEq] at hpq2;rw [List.cons_append,List.cons_append,AQn (q:=q2++[e2']) hpq2.1,AJR (q:=q2++[e2']) hpq2.1]
      rw [←hcnd];split at g2
      ·rename_i hc2
       rw [if_pos hc2];obtain ⟨y,r',e1,e2⟩:=AAH n n' k k' r1 r1' hr (by omega) (by omega) (by omega) (by omega) _ (acc'++[s]) _ _ g2;exact ⟨s::y,r',by rw [e1];simp,by rw [e2];simp⟩
      ·cases g2
section
variable (bit:Nat→Bool)
end
theorem AQh {s:Bs}{t0:List Tok}(h:Wh s= .toks t0):∃l p,Lx s l∧t0=p++[⟨6,s.length,[],0⟩]∧p.map Tok.st=l∧∀t∈p,t.kind≠6:=by
 obtain ⟨l,q,g1,g2,g3⟩:=AQi h;obtain ⟨p2,f2,k1,k2,_⟩:=ABp [] s.length (s.length+1) (s.length+3+1) [] s t0 (by omega) (by simp) (Nat.le_refl _) h (λ_ h=>nomatch h);have hqp:q=p2:=by
  rw [g2] at k1;exact (List.append_inj' k1 rfl).1
 exact ⟨l,q,g1,g2,g3,by rw [hqp];exact k2⟩
end Go.Proofs.YtkifgfanjcfedaaGreatDoor
