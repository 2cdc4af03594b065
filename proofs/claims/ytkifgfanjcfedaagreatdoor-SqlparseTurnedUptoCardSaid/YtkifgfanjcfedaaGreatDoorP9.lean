/-
  Lemmas, part 9: laid together by a program.
-/
import Derived.Test.YtkifgfanjcfedaaGreatDoorP8
import Derived.Test.YtkifgfanjcfedaaGreatDoorP2
import Derived.Test.YtkifgfanjcfedaaGreatDoorRows
import Derived.LaidSub
import Derived.MakeChecks
import Derived.Lib.LaidTab
set_option maxRecDepth 100000
set_option maxHeartbeats 4000000
set_option linter.unusedVariables false
set_option linter.unusedSimpArgs false
set_option linter.unusedSectionVars false
namespace Go.Proofs.YtkifgfanjcfedaaGreatDoor
open Go.SL
abbrev wpO (b:Nat):Obj:=.cells [AP b].toArray 108 (0,0)
section
variable {ω:Om}{G I:Imm}{L F Y:LH}{K:Value→M}{b bw:Nat}{w:Value}{X:LH}{l:Bs}{n:Nat}
theorem AEq (hG:Fg G){xs:List TItem}[i1:InL bw Y (wpO b)](hGI:Ext G I)(hxs:∀x∈xs,okE x.fExpr):FnW ω b w Y (.func (.func 165) #[] #[AP bw]) (IZ TItemV) (Ii true) xs I:=by
 intro x hxm I2 X2 l2 vx K2 hI2 hw2 hW2 hvx hn hk;obtain ⟨c,rfl,hc⟩:=hvx;obtain ⟨v0,rfl,h0⟩:=hc;have hok:=hxs x hxm;have hGI2:=Ext.trans hGI hI2;refine IR (by kernel_rfl) ?_;refine APv ?_;show AGN ω (.agg _) (AP bw) _ I2 _;unfold AGN;refine Ad (fun bx=>?_);have he:ExV I2 x.fExpr (Aj x.fExpr v0):=ExV.iff.2 ⟨v0,rfl,h0⟩;have fin:∀(s:Bs) (I3:Imm) (X3:LH) (lc:List Value) [GetL lc 13 (.string ⟨x.fAs.toArray⟩)],Ext I2 I3→s++asB x.fAs=Ii true x→WrS b w X3 (l2++s)→NF ω (AP bw) (AP bx) (fun v=>Gh (K2 v)) I3 (X3++((bx,.cells lc.toArray 119 (0,0))::Y)):=by
  intro s I3 X3 lc _ hI3 hs hW3;rw [←hs] at hn hk;simp only [List.length_append,List.length_cons,List.length_nil] at hn;unfold NF;refine rdb ?_;try refine zqe ?_
  refine rdb ?_;refine call (WS x.fAs (StL.mono hw2 hI3) hW3 zL (fun I4 X4 hI4 hW4=>?_));exact Gh.to (X4++Y) (Gh.done (hk I4 X4 (Ext.trans hI3 hI4) (by simpa using hW4)))
 have hib:Ii true x=(if x.fStar then (if x.fTable.isEmpty then [42] else nameB x.fTable++[46,42]) else exB true x.fExpr 1)++asB x.fAs:=rfl;try refine zqe ?_
 refine rdb ?_;cases hst:x.fStar with
 |true=>
  rw [hst] at hib;try refine zqe ?_
  refine rdb ?_;cases htb:x.fTable with
  |nil=>
   rw [htb] at hib;simp only [List.isEmpty_nil,if_true] at hib;have hn':=hn;rw [hib] at hn';simp only [List.length_append,List.length_cons,List.length_nil] at hn';simp only [sNe,show (([]:Bs)==[])=true from rfl,Bool.not_true,SSd,Nat.reduceAdd];unfold Po;try refine zqe ?_
   refine rdb ?_;try refine zqe ?_
   refine rdb ?_;refine BN (X:=X2) hW2 zL (fun I3 X3 hI3 hW3=>?_);exact fin _ I3 X3 _ hI3 hib.symm hW3
  |cons c r=>
   rw [htb] at hib;simp only [List.isEmpty_cons,Bool.false_eq_true,if_false,if_true] at hib;have hn':=hn;rw [hib] at hn';simp only [List.length_append,List.length_cons,List.length_nil] at hn';simp only [sNe,show ((c::r)==([]:Bs))=false from rfl,Bool.not_false,SSd,Nat.reduceAdd];unfold ABb;refine rdb ?_;try refine zqe ?_
   refine rdb ?_;refine call (BR (X:=X2) hW2 hw2 (c::r) zL (fun I3 X3 hI3 hW3=>?_));refine rdb ?_;refine BN hW3 zL (fun I4 X4 hI4 hW4=>?_);exact fin (nameB (c::r)++[46,42]) I4 X4 _ (Ext.trans hI3 hI4) hib.symm (by simpa using hW4)
 |false=>
  rw [hst] at hib;simp only [Bool.false_eq_true,if_false] at hib;have hn':=hn;rw [hib] at hn';simp only [List.length_append,List.length_cons,List.length_nil] at hn';try refine zqe ?_
  unfold Po;try refine zqe ?_
  refine rdb ?_;try refine zqe ?_
  refine rdb ?_;refine rdP _ rfl rfl ?_;refine call (Hr (X:=X2) hG hok 1 hGI2 hw2 hW2 he zL (fun I3 X3 hI3 hW3=>?_));exact fin _ I3 X3 _ hI3 hib.symm hW3
theorem ADK (hG:Fg G){xs:List TOrder}[i1:InL bw Y (wpO b)](hGI:Ext G I)(hxs:∀x∈xs,okE x.fExpr):FnW ω b w Y (.func (.func 170) #[] #[AP bw]) (IZ TOrderV) (Vf true) xs I:=by
 intro x hxm I2 X2 l2 vx K2 hI2 hw2 hW2 hvx hn hk;obtain ⟨c,rfl,hc⟩:=hvx;obtain ⟨v0,rfl,h0⟩:=hc;have hok:=hxs x hxm;have hGI2:=Ext.trans hGI hI2;refine IR (by kernel_rfl) ?_;refine APq ?_;show AGM ω (.agg _) (AP bw) _ I2 _;unfold AGM;refine Ad (fun bx=>?_);have he:ExV I2 x.fExpr (Aj x.fExpr v0):=ExV.iff.2 ⟨v0,rfl,h0⟩;unfold Vf at hn hk;simp only [List.length_append,List.length_cons,List.length_nil] at hn;refine rdb ?_;try refine zqe ?_
 refine rdP _ rfl rfl ?_;refine call (Hr (X:=X2) hG hok 1 hGI2 hw2 hW2 he zL (fun I3 X3 hI3 hW3=>?_));try refine zqe ?_
 refine rdb ?_;cases hds:x.fDesc with
 |true=>
  rw [hds] at hn hk;simp only [if_true,List.length_cons,List.length_nil] at hn hk;try refine zqe ?_
  refine rdb ?_;refine BN hW3 zL (fun I4 X4 hI4 hW4=>?_);exact Gh.to (X4++Y) (Gh.done (hk I4 X4 (Ext.trans hI3 hI4) (by simpa using hW4)))
 |false=>
  rw [hds] at hn hk;simp only [Bool.false_eq_true,if_false] at hn hk;try refine zqe ?_
  exact Gh.to (X3++Y) (Gh.done (hk I3 X3 hI3 (by simpa using hW3)))
def AGW (x:TSet):Bs:=nameB x.fColumn++[32,61,32]++exB true x.fExpr 1
theorem AJa (hG:Fg G){xs:List TSet}[i1:InL bw Y (wpO b)](hGI:Ext G I)(hxs:∀x∈xs,okE x.fExpr):FnW ω b w Y (.func (.func 119) #[] #[AP bw]) (IZ TSetV) AGW xs I:=by
 intro x hxm I2 X2 l2 vx K2 hI2 hw2 hW2 hvx hn hk;obtain ⟨c,rfl,hc⟩:=hvx;obtain ⟨v0,rfl,h0⟩:=hc;have hok:=hxs x hxm;have hGI2:=Ext.trans hGI hI2;refine IR (by kernel_rfl) ?_;refine AQa ?_;show AGR ω (.agg _) (AP bw) _ I2 _;unfold AGR;refine Ad (fun bx=>?_);have he:ExV I2 x.fExpr (Aj x.fExpr v0):=ExV.iff.2 ⟨v0,rfl,h0⟩;unfold AGW at hn hk;simp only [List.length_append,List.length_cons,List.length_nil] at hn;refine rdb ?_;try refine zqe ?_
 refine rdb ?_;refine call (BR (X:=X2) hW2 hw2 x.fColumn zL (fun I3 X3 hI3 hW3=>?_));refine rdb ?_;refine BN hW3 zL (fun I4 X4 hI4 hW4=>?_);refine rdb ?_;try refine zqe ?_
 refine rdP _ rfl rfl ?_;have hI24:=Ext.trans hI3 hI4;refine call (Hr (X:=X4) hG hok 1 (Ext.trans hGI2 hI24) (StL.mono hw2 hI24) hW4 (ExV.mono hI24 he) zL (fun I5 X5 hI5 hW5=>?_));exact Gh.to (X5++Y) (Gh.done (hk I5 X5 (Ext.trans hI24 hI5) (by simpa using hW5)))
theorem AJb (hG:Fg G){xs:List (List Ex)}(hGI:Ext G I)(hxs:∀x∈xs,okL x∧x.length≤1000000000000):FnW ω b w Y (.func (.func 117) #[AP b] #[]) (AJZ (Fh ExV 11)) (rowB true) xs I:=by
 intro x hxm I2 X2 l2 vx K2 hI2 hw2 hW2 hvx hn hk;obtain ⟨v,hv,hr⟩:=(show Fh ExV 11 I2 x [vx] from hvx);obtain rfl:vx=v:=by simpa using hv
 refine YL (by kernel_rfl) ?_;exact Ku (X:=X2) (n:=BX x) (SH hG _) (Nat.le_refl _) (hxs x hxm).1 (hxs x hxm).2 (Ext.trans hGI hI2) hw2 hW2 hr hn hk
def ANf (_:Imm)(x:Bool×Bs)(c:List Value):Prop:=c=[.bool x.1,.string ⟨x.2.toArray⟩]
def II (l:List (Bool×Bs)):Bs:=l.flatMap fun p=>if p.1 then p.2 else []
theorem AAK {l:List (Bool×Bs)}{k:Nat}(h:k < l.length):II (l.take (k+1))=II (l.take k)++(if l[k].1 then l[k].2 else []):=by
 unfold II;rw [List.take_succ_eq_append_getElem h,List.flatMap_append];simp only [List.flatMap_cons,List.flatMap_nil,List.append_nil]
theorem AIC (l:List (Bool×Bs))(k:Nat):(II (l.take k)).length≤(II l).length:=by
 have:II l=II (l.take k)++II (l.drop k):=by unfold II;rw [←List.flatMap_append,List.take_append_drop]
 rw [this,List.length_append];omega
def tyM (t:Int):Option Bs:=if t=1 then some [32,105,110,116] else if t=2 then some [32,98,111,111,108] else if t=3 then some [32,116,101,120,116] else none
theorem AJi:EU (EU (EU (fun _=>none) 1 (some (.string ⟨[32,105,110,116].toArray⟩))) 2 (some (.string ⟨[32,98,111,111,108].toArray⟩))) 3 (some (.string ⟨[32,116,101,120,116].toArray⟩))=fun k=>(tyM k).map fun s=>.string ⟨s.toArray⟩:=by
 funext k
 simp only [EU,tyM];by_cases h3:k=3
 ·subst h3;rfl
 by_cases h2:k=2
 ·subst h2;rfl
 by_cases h1:k=1
 ·subst h1;rfl
 simp only [h1,h2,h3,if_false];rfl
theorem ALH (x:TCol):PO true x=nameB x.fName++((tyM x.fType).getD [32,63]++(II [(x.fNotNull,[32,110,111,116,32,110,117,108,108]),(x.fKey,[32,112,114,105,109,97,114,121,32,107,101,121]),(x.fUnique,[32,117,110,105,113,117,101])]++DR true [32,100,101,102,97,117,108,116,32] x.fDefault)):=by
 have ht:[32]++TY x.fType=(tyM x.fType).getD [32,63]:=by
  unfold TY tyM;by_cases h1:x.fType=1
  ·rw [if_pos h1,if_pos h1];rfl
  by_cases h2:x.fType=2
  ·rw [if_neg h1,if_pos h2,if_neg h1,if_pos h2];rfl
  by_cases h3:x.fType=3
  ·rw [if_neg h1,if_neg h2,if_pos h3,if_neg h1,if_neg h2,if_pos h3];rfl
  rw [if_neg h1,if_neg h2,if_neg h3,if_neg h1,if_neg h2,if_neg h3];rfl
 rw [←ht];unfold PO II DR;simp
theorem AJd (hG:Fg G){xs:List TCol}[i1:InL bw Y (wpO b)](hGI:Ext G I)(hxs:∀x∈xs,okE x.fDefault):FnW ω b w Y (.func (.func 181) #[] #[AP bw]) (IZ TColV) (PO true) xs I:=by
 intro x hxm I2 X2 l2 vx K2 hI2 hw2 hW2 hvx hn hk;obtain ⟨c,rfl,hc⟩:=hvx;obtain ⟨v0,rfl,h0⟩:=hc;have hok:=hxs x hxm;have hGI2:=Ext.trans hGI hI2;refine IR (by kernel_rfl) ?_;refine APh ?_;show AGK ω (.agg _) (AP bw) _ I2 _;unfold AGK;refine Ad (fun bx=>?_);have he:ExV I2 x.fDefault (Aj x.fDefault v0):=ExV.iff.2 ⟨v0,rfl,h0⟩;rw [ALH] at hn hk;generalize hty:(tyM x.fType).getD [32,63]=ty at hn hk;generalize hfl:([(x.fNotNull,[32,110,111,116,32,110,117,108,108]),(x.fKey,[32,112,114,105,109,97,114,121,32,107,101,121]),(x.fUnique,[32,117,110,105,113,117,101])]:List (Bool×Bs))=fl at hn hk;simp only [List.length_append,List.length_cons,List.length_nil] at hn;refine rdb ?_;try refine zqe ?_
 refine rdb ?_;refine call (BR (X:=X2) hW2 hw2 x.fName zL (fun I3 X3 hI3 hW3=>?_));refine AHa (fun bm=>?_);obtain ⟨es1,c1,e1,p1⟩:=MapSi.empty.put 1 (.string ⟨[32,105,110,116].toArray⟩);obtain ⟨es2,c2,e2,p2⟩:=p1.put 2 (.string ⟨[32,98,111,111,108].toArray⟩);obtain ⟨es3,c3,e3,p3⟩:=p2.put 3 (.string ⟨[32,116,101,120,116].toArray⟩);rw [AJi] at p3;refine Gh.done (Fj (k:=1) MapSi.empty e1 ?_);refine Gh.done (Fj (k:=2) p1 e2 ?_);refine Gh.done (Fj (k:=3) p2 e3 ?_);refine Gh.done ?_;have rest:Pg ω (AP bw) (AP bx) (.string ⟨ty.toArray⟩) (fun v=>Gh (K2 v)) I3 ((bm,.map es3 c3)::(X3++((bx,.cells [.string ⟨x.fName.toArray⟩,.int .i64 x.fType,.bool x.fNotNull,.bool x.fKey,.bool x.fUnique,.int .i64 x.fDefault.kind,.int .i64 x.fDefault.value.fType,.bool x.fDefault.value.fNull,.int .i64 x.fDefault.value.fInt,.string ⟨x.fDefault.value.fText.toArray⟩,.string ⟨x.fDefault.table.toArray⟩,.string ⟨x.fDefault.name.toArray⟩,.int .i64 x.fDefault.slot,.int .i64 x.fDefault.type,.bool x.fDefault.distinct,v0].toArray 101 (0,0))::Y))):=by
  unfold Pg;refine rdb ?_;refine BN (X:=X3) hW3 zL (fun I4 X4 hI4 hW4=>?_);try refine zqe ?_
  refine rdb ?_;try refine zqe ?_
  refine rdb ?_;try refine zqe ?_
  refine rdb ?_;try refine zqe ?_
  have hI24:=Ext.trans hI3 hI4;refine EP (R:=ANf) [(x.fNotNull,[32,110,111,116,32,110,117,108,108]),(x.fKey,[32,112,114,105,109,97,114,121,32,107,101,121]),(x.fUnique,[32,117,110,105,113,117,101])] [[.bool x.fNotNull,.string ⟨[32,110,111,116,32,110,117,108,108].toArray⟩],[.bool x.fKey,.string ⟨[32,112,114,105,109,97,114,121,32,107,101,121].toArray⟩],[.bool x.fUnique,.string ⟨[32,117,110,105,113,117,101].toArray⟩]] rfl rfl rfl (by simp) (by simp [ANf]) (fun hI h=>h) (fun I5 a5 hI5 hv5=>Gh.done ?_);rw [hfl] at hv5;have hfl3:fl.length=3:=by rw [←hfl];rfl
  try refine zqe ?_
  refine loop (fun q st I' L'=>∃(k:Nat) (X':LH),k+q=3∧st=(.int .i64 k,())∧Ext I5 I'∧L'=X'++((bm,.map es3 c3)::((bx,.cells [.string ⟨x.fName.toArray⟩,.int .i64 x.fType,.bool x.fNotNull,.bool x.fKey,.bool x.fUnique,.int .i64 x.fDefault.kind,.int .i64 x.fDefault.value.fType,.bool x.fDefault.value.fNull,.int .i64 x.fDefault.value.fInt,.string ⟨x.fDefault.value.fText.toArray⟩,.string ⟨x.fDefault.table.toArray⟩,.string ⟨x.fDefault.name.toArray⟩,.int .i64 x.fDefault.slot,.int .i64 x.fDefault.type,.bool x.fDefault.distinct,v0].toArray 101 (0,0))::Y))∧WrS b w X' (((l2++nameB x.fName)++ty)++II (fl.take k))) 3 ⟨0,X4,by omega,rfl,Ext.refl _,rfl,by simpa [II] using hW4⟩ ?_;rintro q st I' L' ⟨k,X',hkq,rfl,hI',rfl,hW'⟩;unfold ABU;try refine zqe ?_
  refine AB (fun hb=>?_) (fun hb=>?_)
  ·have hb:k < fl.length:=by
    have:=of_decide_eq_true hb;omega
   obtain ⟨bt,off,c1,g1,gl,g2,g3⟩:=RL.ix hv5 (i:=k) (by omega) (by omega);rw [Ah hb] at g2;obtain rfl:=g2;have hft:=AAK hb;have hfle:=AIC fl (k+1);rw [hft,List.length_append] at hfle;simp only [g1,SSd,Nat.reduceAdd];refine Ed (g3 _ [] hI' (fun _ h=>h)) (Ext.refl _) gl ?_;refine Ad (fun b3=>?_);refine stB rfl rfl (Au rfl) ?_;try refine zqe ?_
   refine rdb ?_;have nxt:∀(I6:Imm) (X6 Z:LH),Ext I' I6→SubP (X6++((bm,.map es3 c3)::((bx,.cells [.string ⟨x.fName.toArray⟩,.int .i64 x.fType,.bool x.fNotNull,.bool x.fKey,.bool x.fUnique,.int .i64 x.fDefault.kind,.int .i64 x.fDefault.value.fType,.bool x.fDefault.value.fNull,.int .i64 x.fDefault.value.fInt,.string ⟨x.fDefault.value.fText.toArray⟩,.string ⟨x.fDefault.table.toArray⟩,.string ⟨x.fDefault.name.toArray⟩,.int .i64 x.fDefault.slot,.int .i64 x.fDefault.type,.bool x.fDefault.distinct,v0].toArray 101 (0,0))::Y))) Z→WrS b w X6 (((l2++nameB x.fName)++ty)++II (fl.take (k+1)))→Pe ω (.int .i64 k) (fun s'=>Gh fun I2 L2=>∃m',m' < q∧∃(k:Nat) (X':LH),k+m'=3∧s'=(.int .i64 k,())∧Ext I5 I2∧L2=X'++((bm,.map es3 c3)::((bx,.cells [.string ⟨x.fName.toArray⟩,.int .i64 x.fType,.bool x.fNotNull,.bool x.fKey,.bool x.fUnique,.int .i64 x.fDefault.kind,.int .i64 x.fDefault.value.fType,.bool x.fDefault.value.fNull,.int .i64 x.fDefault.value.fInt,.string ⟨x.fDefault.value.fText.toArray⟩,.string ⟨x.fDefault.table.toArray⟩,.string ⟨x.fDefault.name.toArray⟩,.int .i64 x.fDefault.slot,.int .i64 x.fDefault.type,.bool x.fDefault.distinct,v0].toArray 101 (0,0))::Y))∧WrS b w X' (((l2++nameB x.fName)++ty)++II (fl.take k))) (fun v=>Gh (K2 v)) I6 Z:=by
    intro I6 X6 Z hI6 hZ hW6;unfold Pe;simp only [wrap_i64 ((k:Int)+1) (by omega),SSd,Nat.reduceAdd];exact Gh.to _ (Gh.done ⟨q - 1,by omega,k+1,X6,by omega,rfl,Ext.trans hI' hI6,rfl,hW6⟩)
   cases hf:fl[k].1 with
   |true=>
    rw [hf] at hft hfle;simp only [if_true] at hft hfle;try refine zqe ?_
    refine rdb ?_;try refine zqe ?_
    refine rdb ?_;refine BN (X:=X') hW' zL (fun I6 X6 hI6 hW6=>?_);exact nxt I6 X6 _ hI6 inferInstance (by rw [hft];simpa using hW6)
   |false=>
    rw [hf] at hft;simp only [Bool.false_eq_true,if_false,List.append_nil] at hft;try refine zqe ?_
    exact nxt I' X' _ (Ext.refl _) inferInstance (by rw [hft];exact hW')
  ·have hb:¬k < fl.length:=by
    have:=of_decide_eq_false hb;omega
   rw [List.take_of_length_le (by omega)] at hW';have hI25:=Ext.trans hI24 (Ext.trans hI5 hI');unfold ABT;refine rdb ?_;try refine zqe ?_
   refine rdP _ rfl rfl ?_;refine call (FO (X:=X') hG hok [32,100,101,102,97,117,108,116,32] (Ext.trans hGI2 hI25) (StL.mono hw2 hI25) hW' (ExV.mono hI25 he) zL (fun I6 X6 hI6 hW6=>?_));exact Gh.to (X6++Y) (Gh.done (hk I6 X6 (Ext.trans hI25 hI6) (by simpa using hW6)))
 try refine zqe ?_
 refine rdb ?_;refine ASO (k:=x.fType) p3 ?_;cases htt:tyM x.fType with
 |none=>
  rw [htt] at hty;subst hty;simp only [Option.map_none,lkV,SSd,Nat.reduceAdd];exact rest
 |some s=>
  rw [htt] at hty;obtain rfl:s=ty:=hty;simp only [Option.map_some,lkV,SSd,Nat.reduceAdd];exact rest
end
abbrev selC (q:TSelect)(v0 v1 v2 v3 v4 v5:Value):List Value:=[.bool q.fDistinct,v0,v1,.int .i64 q.fWhere.kind,.int .i64 q.fWhere.value.fType,.bool q.fWhere.value.fNull,.int .i64 q.fWhere.value.fInt,.string ⟨q.fWhere.value.fText.toArray⟩,.string ⟨q.fWhere.table.toArray⟩,.string ⟨q.fWhere.name.toArray⟩,.int .i64 q.fWhere.slot,.int .i64 q.fWhere.type,.bool q.fWhere.distinct,v2,v3,.int .i64 q.fHaving.kind,.int .i64 q.fHaving.value.fType,.bool q.fHaving.value.fNull,.int .i64 q.fHaving.value.fInt,.string ⟨q.fHaving.value.fText.toArray⟩,.string ⟨q.fHaving.table.toArray⟩,.string ⟨q.fHaving.name.toArray⟩,.int .i64 q.fHaving.slot,.int .i64 q.fHaving.type,.bool q.fHaving.distinct,v4,v5,.int .i64 q.fLimit,.int .i64 q.fOffset]
structure OkQ (q:TSelect):Prop where
 it:∀x∈q.fItems,okE x.fExpr
 fr:∀x∈q.fFrom,okE x.fOn
 wh:okE q.fWhere
 gr:okL q.fGroup
 ha:okE q.fHaving
 od:∀x∈q.fOrder,okE x.fExpr
 li:okI q.fLimit
 off:okI q.fOffset
 cnt:cQ q≤1000000000
def AEu (q:TSelect):Bs:=if q.fOffset=0 then [] else [32,111,102,102,115,101,116,32]++Jz true q.fOffset
def tx9 (q:TSelect):Bs:=(if 0≤q.fLimit then [32,108,105,109,105,116,32]++Jz true q.fLimit else [])++AEu q
def tx8 (q:TSelect):Bs:=DR true [32,104,97,118,105,110,103,32] q.fHaving++((if q.fOrder.isEmpty then [] else [32,111,114,100,101,114,32,98,121,32]++Ac (q.fOrder.map (Vf true)))++tx9 q)
def tx7 (q:TSelect):Bs:=DR true [32,119,104,101,114,101,32] q.fWhere++((if q.fGroup.isEmpty then [] else [32,103,114,111,117,112,32,98,121,32]++Ih true q.fGroup)++tx8 q)
def tx1 (q:TSelect):Bs:=Ac (q.fItems.map (Ii true))++(Dp true 0 q.fFrom++tx7 q)
theorem XT (q:TSelect):Iq true q=[115,101,108,101,99,116,32]++((if q.fDistinct then [100,105,115,116,105,110,99,116,32] else [])++tx1 q):=by
 unfold Iq tx1 tx7 tx8 tx9 AEu;simp only [List.append_assoc]
theorem Tj (x:TSource):∀(l:List TSource) (i:Nat),Dp true i (l++[x])=Dp true i l++Yu true (i+l.length) x
 |[],i=>by simp [Dp]
 |y::l,i=>by
  simp only [List.cons_append,Dp,Tj x l (i+1),List.length_cons,List.append_assoc];congr 2;congr 1;omega
theorem ADX {l:List TSource}{k:Nat}(h:k < l.length):Dp true 0 (l.take (k+1))=Dp true 0 (l.take k)++Yu true k l[k]:=by
 rw [List.take_succ_eq_append_getElem h,Tj,List.length_take];congr 2;omega
theorem Wq:∀(l m:List TSource) (i:Nat),Dp true i (l++m)=Dp true i l++Dp true (i+l.length) m
 |[],m,i=>by simp [Dp]
 |y::l,m,i=>by
  simp only [List.cons_append,Dp,Wq l m (i+1),List.length_cons,List.append_assoc];congr 3;omega
theorem AJs (l:List TSource)(k:Nat):(Dp true 0 (l.take k)).length≤(Dp true 0 l).length:=by
 have:=Wq (l.take k) (l.drop k) 0;rw [List.take_append_drop] at this;rw [this,List.length_append];omega
section
variable {ω:Om}{G I:Imm}{L F Y:LH}{K:Value→M}{b bw bq:Nat}{w:Value}{X:LH}{l:Bs}{n:Nat}{q:TSelect}{v0 v1 v2 v3 v4 v5:Value}
abbrev Yq (b bw bq:Nat)(q:TSelect)(v0 v1 v2 v3 v4 v5:Value)(F:LH):LH:=(bq,.cells (selC q v0 v1 v2 v3 v4 v5).toArray 40 (0,0))::(bw,wpO b)::F
theorem q10 (hG:Fg G)(hGI:Ext G I)(hq:OkQ q)(hW:WrS b w X l)(hn:(l++AEu q).length≤1000000000)(hk:∀I' X',Ext I I'→WrS b w X' (l++AEu q)→Gh (K (.tuple #[])) I' (X'++Yq b bw bq q v0 v1 v2 v3 v4 v5 F)):
  NM ω (AP bw) (AP bq) (fun v=>Gh (K v)) I (X++Yq b bw bq q v0 v1 v2 v3 v4 v5 F):=by
 unfold NM;unfold AEu at hn hk;try refine zqe ?_
 refine rdb ?_;try refine zqe ?_
 refine AB (fun h=>?_) (fun h=>?_)
 ·have h:q.fOffset≠0:=by simpa using h
  rw [if_neg h] at hn hk;refine EM ?_;refine Dt ?_;try refine zqe ?_
  refine Dt ?_;refine call (UZ hG hGI _ hq.off.1 hq.off.2 (Bv (Ext.refl _) ?_));refine EO [[32,111,102,102,115,101,116,32],Jz true q.fOffset] rfl rfl (fun I' a hI' hv'=>Gh.done ?_);refine Bv hI' ?_;refine call (JB (X:=X) hW hv' (by simp) (by simpa using hn) (fun X' hW'=>?_));exact hk I' X' hI' (by simpa using hW')
 ·have h:q.fOffset=0:=by simpa using h
  rw [if_pos h] at hn hk;exact hk I X (Ext.refl I) (by simpa using hW)
theorem q9 (hG:Fg G)(hGI:Ext G I)(hq:OkQ q)(hW:WrS b w X l)(hn:(l++tx9 q).length≤1000000000)(hk:∀I' X',Ext I I'→WrS b w X' (l++tx9 q)→Gh (K (.tuple #[])) I' (X'++Yq b bw bq q v0 v1 v2 v3 v4 v5 F)):
  QJ ω (AP bw) (AP bq) (fun v=>Gh (K v)) I (X++Yq b bw bq q v0 v1 v2 v3 v4 v5 F):=by
 unfold QJ;unfold tx9 at hn hk;try refine zqe ?_
 refine rdb ?_;try refine zqe ?_
 refine AB (fun h=>?_) (fun h=>?_)
 ·have h:0≤q.fLimit:=by simpa using h
  rw [if_pos h] at hn hk;refine EM ?_;refine Dt ?_;try refine zqe ?_
  refine Dt ?_;refine call (UZ hG hGI _ hq.li.1 hq.li.2 (Bv (Ext.refl _) ?_));refine EO [[32,108,105,109,105,116,32],Jz true q.fLimit] rfl rfl (fun I' a hI' hv'=>Gh.done ?_);refine Bv hI' ?_;simp only [List.length_append] at hn;refine call (JB (X:=X) hW hv' (by simp) (by simp only [List.flatten_cons,List.flatten_nil,List.append_nil,List.length_append];omega) (fun X' hW'=>?_));exact q10 hG (Ext.trans hGI hI') hq hW' (by simp only [List.flatten_cons,List.flatten_nil,List.append_nil,List.length_append];omega) (fun I2 X2 hI2 hW2=>hk I2 X2 (Ext.trans hI' hI2) (by simpa using hW2))
 ·have h:¬0≤q.fLimit:=by simpa using h
  rw [if_neg h] at hn hk;exact q10 hG hGI hq hW (by simpa using hn) (fun I2 X2 hI2 hW2=>hk I2 X2 hI2 (by simpa using hW2))
theorem q8 (hG:Fg G)(hGI:Ext G I)(hw:StL I w wordsL)(hq:OkQ q)(h4:ExL I v4 q.fHaving.args)(h5:RL TOrderV 12 I [] v5 q.fOrder)(hW:WrS b w X l)(hn:(l++tx8 q).length≤1000000000)(hk:∀I' X',Ext I I'→WrS b w X' (l++tx8 q)→Gh (K (.tuple #[])) I' (X'++Yq b bw bq q v0 v1 v2 v3 v4 v5 F)):
  QK ω (AP bw) (AP bq) (fun v=>Gh (K v)) I (X++Yq b bw bq q v0 v1 v2 v3 v4 v5 F):=by
 unfold QK;unfold tx8 at hn hk;simp only [List.length_append,List.length_cons,List.length_nil] at hn;have hcnt:=hq.cnt;unfold cQ at hcnt;refine rdb ?_;try refine zqe ?_
 refine rdP _ rfl rfl ?_;refine call (FO (X:=X) hG hq.ha [32,104,97,118,105,110,103,32] hGI hw hW (ExV.iff.2 ⟨v4,rfl,h4⟩) zL (fun I1 X1 hI1 hW1=>?_));try refine zqe ?_
 refine rdb ?_;have h51:RL TOrderV 12 I1 [] v5 q.fOrder:=RL.mono (fun _ _ h=>TOrderV.mono h hI1) h5 hI1 (fun _ h=>h);simp only [RL.len h5,SSd,Nat.reduceAdd];refine AB (fun h=>?_) (fun h=>?_)
 ·have h:q.fOrder.isEmpty=false:=by
   have:=of_decide_eq_true h;cases ho:q.fOrder with
   |nil=>rw [ho] at this;simp at this
   |cons _ _=>rfl
  rw [h] at hn hk;simp only [Bool.false_eq_true,if_false,List.length_append,List.length_cons,List.length_nil] at hn hk;refine rdb ?_;refine BN hW1 zL (fun I2 X2 hI2 hW2=>?_);have hI12:=Ext.trans hI1 hI2;refine rdb ?_;try refine zqe ?_
  refine rdb ?_;refine call (WC (g:=Vf true) (F:=Yq b bw bq q v0 v1 v2 v3 v4 v5 F) (RL.mono (fun _ _ h=>TOrderV.mono h hI2) h51 hI2 (fun _ h=>h)) (StL.mono hw hI12) (ADK (bw:=bw) hG (Ext.trans hGI hI12) hq.od) (by omega) hW2 zL (fun I3 X3 hI3 hW3=>?_));exact q9 hG (Ext.trans hGI (Ext.trans hI12 hI3)) hq hW3 zL (fun I4 X4 hI4 hW4=>hk I4 X4 (Ext.trans (Ext.trans hI12 hI3) hI4) (by simpa using hW4))
 ·have h:q.fOrder.isEmpty=true:=by
   have:=of_decide_eq_false h;cases ho:q.fOrder with
   |nil=>rfl
   |cons _ _=>rw [ho] at this;simp at this
  rw [h] at hn hk;simp only [if_true,List.nil_append,List.length_nil] at hn hk;exact q9 hG (Ext.trans hGI hI1) hq hW1 zL (fun I4 X4 hI4 hW4=>hk I4 X4 (Ext.trans hI1 hI4) (by simpa using hW4))
theorem q7 (hG:Fg G)(hGI:Ext G I)(hw:StL I w wordsL)(hq:OkQ q)(h2:ExL I v2 q.fWhere.args)(h3:ExL I v3 q.fGroup)(h4:ExL I v4 q.fHaving.args)(h5:RL TOrderV 12 I [] v5 q.fOrder)(hW:WrS b w X l)(hn:(l++tx7 q).length≤1000000000)(hk:∀I' X',Ext I I'→WrS b w X' (l++tx7 q)→Gh (K (.tuple #[])) I' (X'++Yq b bw bq q v0 v1 v2 v3 v4 v5 F)):
  VS ω (AP bw) (AP bq) (fun v=>Gh (K v)) I (X++Yq b bw bq q v0 v1 v2 v3 v4 v5 F):=by
 unfold VS;unfold tx7 at hn hk;simp only [List.length_append,List.length_cons,List.length_nil] at hn;have hcnt:=hq.cnt;unfold cQ at hcnt;refine rdb ?_;try refine zqe ?_
 refine rdP _ rfl rfl ?_;refine call (FO (X:=X) hG hq.wh [32,119,104,101,114,101,32] hGI hw hW (ExV.iff.2 ⟨v2,rfl,h2⟩) zL (fun I1 X1 hI1 hW1=>?_));try refine zqe ?_
 refine rdb ?_;simp only [RL.len h3,SSd,Nat.reduceAdd];refine AB (fun h=>?_) (fun h=>?_)
 ·have h:q.fGroup.isEmpty=false:=by
   have:=of_decide_eq_true h;cases ho:q.fGroup with
   |nil=>rw [ho] at this;simp at this
   |cons _ _=>rfl
  rw [h] at hn hk;simp only [Bool.false_eq_true,if_false,List.length_append,List.length_cons,List.length_nil] at hn hk;refine rdb ?_;refine BN hW1 zL (fun I2 X2 hI2 hW2=>?_);have hI12:=Ext.trans hI1 hI2;refine rdb ?_;try refine zqe ?_
  refine rdb ?_;refine call (QY (n:=BX q.fGroup) (SH hG _) (Nat.le_refl _) hq.gr (by omega) (Ext.trans hGI hI12) (StL.mono hw hI12) hW2 (ExL.mono h3 hI12) zL (fun I3 X3 hI3 hW3=>?_));have hI13:=Ext.trans hI12 hI3;exact q8 hG (Ext.trans hGI hI13) (StL.mono hw hI13) hq (ExL.mono h4 hI13) (RL.mono (fun _ _ h=>TOrderV.mono h hI13) h5 hI13 (fun _ h=>h)) hW3 zL (fun I4 X4 hI4 hW4=>hk I4 X4 (Ext.trans hI13 hI4) (by simpa using hW4))
 ·have h:q.fGroup.isEmpty=true:=by
   have:=of_decide_eq_false h;cases ho:q.fGroup with
   |nil=>rfl
   |cons _ _=>rw [ho] at this;simp at this
  rw [h] at hn hk;simp only [if_true,List.nil_append,List.length_nil] at hn hk;exact q8 hG (Ext.trans hGI hI1) (StL.mono hw hI1) hq (ExL.mono h4 hI1) (RL.mono (fun _ _ h=>TOrderV.mono h hI1) h5 hI1 (fun _ h=>h)) hW1 zL (fun I4 X4 hI4 hW4=>hk I4 X4 (Ext.trans hI1 hI4) (by simpa using hW4))
def Xo (i:Nat)(x:TSource):Bs:=if i=0 then [32,102,114,111,109,32] else if x.fLeft then [32,108,101,102,116,32,106,111,105,110,32] else if x.fOn.kind≠0 then [32,106,111,105,110,32] else [32,99,114,111,115,115,32,106,111,105,110,32]
def Xg (i:Nat)(x:TSource):Bs:=if 0 < i∧(x.fLeft=true∨x.fOn.kind≠0) then [32,111,110,32]++exB true x.fOn 1 else []
theorem AAt (i:Nat)(x:TSource):Yu true i x=Xo i x++(nameB x.fTable++(asB x.fAs++Xg i x)):=by
 unfold Yu Xo Xg;simp only [List.append_assoc]
theorem Xn {x:TSource}{c:List Value}(hc:TSourceV I x c)(i:Nat)(hk:K (.string ⟨(Xo i x).toArray⟩) I L):CT ω 167 #[.int .i64 (i:Nat),.agg c.toArray] K I L:=by
 obtain ⟨u0,rfl,h0⟩:=hc;refine APt ?_;unfold AMR;unfold Xo at hk;refine Ad (fun bx=>?_);try refine zqe ?_
 refine AB (fun h=>?_) (fun h=>?_)
 ·have h:i=0:=by
   have:(i:Int)=0:=by simpa using h
   omega
  rw [if_pos h] at hk;exact Gh.to L (Gh.done hk)
 have h:¬i=0:=by
  have:¬(i:Int)=0:=by simpa using h
  omega
 rw [if_neg h] at hk;try refine zqe ?_
 refine rdb ?_;refine AB (fun h=>?_) (fun h=>?_)
 ·rw [if_pos h] at hk;exact Gh.to L (Gh.done hk)
 rw [if_neg (by simp [h])] at hk;try refine zqe ?_
 refine rdb ?_;try refine zqe ?_
 refine AB (fun h=>?_) (fun h=>?_)
 ·have h:x.fOn.kind≠0:=by simpa using h
  rw [if_pos h] at hk;exact Gh.to L (Gh.done hk)
 ·have h:x.fOn.kind=0:=by simpa using h
  rw [if_neg (by simp [h])] at hk;exact Gh.to L (Gh.done hk)
theorem q1 (hG:Fg G)(hGI:Ext G I)(hw:StL I w wordsL)(hq:OkQ q)(h0:RL TItemV 14 I [] v0 q.fItems)(h1:RL TSourceV 14 I [] v1 q.fFrom)(h2:ExL I v2 q.fWhere.args)(h3:ExL I v3 q.fGroup)(h4:ExL I v4 q.fHaving.args)(h5:RL TOrderV 12 I [] v5 q.fOrder)(hW:WrS b w X l)(hn:(l++tx1 q).length≤1000000000)(hk:∀I' X',Ext I I'→WrS b w X' (l++tx1 q)→Gh (K (.tuple #[])) I' (X'++Yq b bw bq q v0 v1 v2 v3 v4 v5 F)):
  NP ω (AP bw) (AP bq) (fun v=>Gh (K v)) I (X++Yq b bw bq q v0 v1 v2 v3 v4 v5 F):=by
 unfold NP;unfold tx1 at hn hk;simp only [List.length_append,List.length_cons,List.length_nil] at hn;have hcnt:=hq.cnt;unfold cQ at hcnt;refine rdb ?_;try refine zqe ?_
 refine rdb ?_;refine call (YD (g:=Ii true) (F:=Yq b bw bq q v0 v1 v2 v3 v4 v5 F) h0 hw (AEq (bw:=bw) hG hGI hq.it) (by omega) hW zL (fun I1 X1 hI1 hW1=>?_));try refine zqe ?_
 refine rdb ?_;simp only [RL.len h1,SSd,Nat.reduceAdd];refine loop (fun m st I' L'=>∃(k:Nat) (X':LH),k+m=q.fFrom.length∧st=(.int .i64 k,())∧Ext I I'∧L'=X'++Yq b bw bq q v0 v1 v2 v3 v4 v5 F∧WrS b w X' ((l++Ac (q.fItems.map (Ii true)))++Dp true 0 (q.fFrom.take k))) q.fFrom.length ⟨0,X1,by omega,rfl,hI1,rfl,by simpa [Dp] using hW1⟩ ?_;rintro m st I' L' ⟨k,X',hkm,rfl,hI',rfl,hW'⟩;unfold ACA;try refine zqe ?_
 refine AB (fun hb=>?_) (fun hb=>?_)
 ·have hb:k < q.fFrom.length:=by
   have:=of_decide_eq_true hb;omega
  obtain ⟨bt,off,c1,g1,gl,g2,g3⟩:=RL.ix h1 (i:=k) (by omega) (by omega);rw [Ah hb] at g2;have g2:=g2.mono hI';have g2c:=g2;have hok:=hq.fr _ (List.getElem_mem hb);have hst:=ADX hb;have hsl:=AJs q.fFrom (k+1);rw [hst,AAt] at hsl;rw [AAt] at hst;simp only [List.length_append] at hsl;obtain ⟨u0,rfl,hu⟩:=g2;generalize hy:q.fFrom[k]=y at *;have he:ExV I' y.fOn (Aj y.fOn u0):=ExV.iff.2 ⟨u0,rfl,hu⟩;simp only [g1,SSd,Nat.reduceAdd];refine Ed (g3 _ [] hI' (fun _ h=>h)) (Ext.refl _) rfl ?_;refine Ad (fun b3=>?_);obtain ⟨a0,k0,rfl⟩:=RL.form hu;refine stB rfl rfl (Au rfl) ?_;refine EM ?_;refine Dt ?_;refine RH rfl ?_;refine call (Xn g2c k ?_);refine Bv (Ext.refl _) ?_;refine EO [Xo k y] rfl rfl (fun I2 a2 hI2 hv2=>Gh.done ?_);refine Bv hI2 ?_;refine call (JB (X:=X') hW' hv2 (by simp) (by simp only [List.flatten_cons,List.flatten_nil,List.append_nil,List.length_append];omega) (fun X3 hW3=>?_));simp only [List.flatten_cons,List.flatten_nil,List.append_nil] at hW3;refine rdb ?_;try refine zqe ?_
  refine rdb ?_;have hI12:=Ext.trans hI' hI2;refine call (BR hW3 (StL.mono hw hI12) y.fTable zL (fun I4 X4 hI4 hW4=>?_));refine rdb ?_;try refine zqe ?_
  refine rdb ?_;have hI14:=Ext.trans hI12 hI4;refine call (WS y.fAs (StL.mono hw hI14) hW4 zL (fun I5 X5 hI5 hW5=>?_));have hI15:=Ext.trans hI14 hI5;have fin:∀(I6:Imm) (X6 Z:LH),Ext I I6→SubP (X6++Yq b bw bq q v0 v1 v2 v3 v4 v5 F) Z→WrS b w X6 ((l++Ac (q.fItems.map (Ii true)))++Dp true 0 (q.fFrom.take (k+1)))→LD ω (.int .i64 k) (fun s'=>Gh fun I2 L2=>∃m',m' < m∧∃(k:Nat) (X':LH),k+m'=q.fFrom.length∧s'=(.int .i64 k,())∧Ext I I2∧L2=X'++Yq b bw bq q v0 v1 v2 v3 v4 v5 F∧WrS b w X' ((l++Ac (q.fItems.map (Ii true)))++Dp true 0 (q.fFrom.take k))) (fun v=>Gh (K v)) I6 Z:=by
   intro I6 X6 Z hI6 hZ hW6;unfold LD;simp only [wrap_i64 ((k:Int)+1) (by omega),SSd,Nat.reduceAdd];exact Gh.to (X6++Yq b bw bq q v0 v1 v2 v3 v4 v5 F) (Gh.done ⟨m - 1,by omega,k+1,X6,by omega,rfl,hI6,rfl,hW6⟩)
  have yes:Xg k y=[32,111,110,32]++exB true y.fOn 1→QL ω (AP bw) (AP b3) (.int .i64 k) (fun s'=>Gh fun I2 L2=>∃m',m' < m∧∃(k:Nat) (X':LH),k+m'=q.fFrom.length∧s'=(.int .i64 k,())∧Ext I I2∧L2=X'++Yq b bw bq q v0 v1 v2 v3 v4 v5 F∧WrS b w X' ((l++Ac (q.fItems.map (Ii true)))++Dp true 0 (q.fFrom.take k))) (fun v=>Gh (K v)) I5 (X5++((b3,.cells [.string ⟨y.fTable.toArray⟩,.string ⟨y.fAs.toArray⟩,.bool y.fLeft,.int .i64 y.fOn.kind,.int .i64 y.fOn.value.fType,.bool y.fOn.value.fNull,.int .i64 y.fOn.value.fInt,.string ⟨y.fOn.value.fText.toArray⟩,.string ⟨y.fOn.table.toArray⟩,.string ⟨y.fOn.name.toArray⟩,.int .i64 y.fOn.slot,.int .i64 y.fOn.type,.bool y.fOn.distinct,.slice a0 y.fOn.args.length k0].toArray 123 (0,0))::Yq b bw bq q v0 v1 v2 v3 v4 v5 F)):=by
   intro hon;rw [hon] at hst hsl;simp only [List.length_append,List.length_cons,List.length_nil] at hsl;unfold QL;refine rdb ?_;refine BN hW5 zL (fun I6 X6 hI6 hW6=>?_);refine rdb ?_;try refine zqe ?_
   refine rdP _ rfl rfl ?_;have hI26:=Ext.trans hI2 (Ext.trans hI4 (Ext.trans hI5 hI6));refine call (Hr hG hok 1 (Ext.trans hGI (Ext.trans hI' hI26)) (StL.mono hw (Ext.trans hI' hI26)) hW6 (ExV.mono hI26 he) zL (fun I7 X7 hI7 hW7=>?_));exact fin I7 X7 _ (Ext.trans (Ext.trans hI' hI26) hI7) inferInstance (by rw [hst];simpa using hW7)
  have no:Xg k y=[]→LD ω (.int .i64 k) (fun s'=>Gh fun I2 L2=>∃m',m' < m∧∃(k:Nat) (X':LH),k+m'=q.fFrom.length∧s'=(.int .i64 k,())∧Ext I I2∧L2=X'++Yq b bw bq q v0 v1 v2 v3 v4 v5 F∧WrS b w X' ((l++Ac (q.fItems.map (Ii true)))++Dp true 0 (q.fFrom.take k))) (fun v=>Gh (K v)) I5 (X5++((b3,.cells [.string ⟨y.fTable.toArray⟩,.string ⟨y.fAs.toArray⟩,.bool y.fLeft,.int .i64 y.fOn.kind,.int .i64 y.fOn.value.fType,.bool y.fOn.value.fNull,.int .i64 y.fOn.value.fInt,.string ⟨y.fOn.value.fText.toArray⟩,.string ⟨y.fOn.table.toArray⟩,.string ⟨y.fOn.name.toArray⟩,.int .i64 y.fOn.slot,.int .i64 y.fOn.type,.bool y.fOn.distinct,.slice a0 y.fOn.args.length k0].toArray 123 (0,0))::Yq b bw bq q v0 v1 v2 v3 v4 v5 F)):=by
   intro hon;rw [hon] at hst;exact fin I5 X5 _ hI15 inferInstance (by rw [hst];simpa using hW5)
  try refine zqe ?_
  refine Bc (fun h=>?_) (fun h=>?_)
  ·have h:0 < k:=by
    have:(0:Int) < k:=by simpa using h
    omega
   refine rdb ?_;cases hl:y.fLeft with
   |true=>
    rw [hl] at yes;try refine zqe ?_
    exact yes (by unfold Xg;rw [if_pos ⟨h,.inl hl⟩])
   |false=>
    rw [hl] at yes no;try refine zqe ?_
    refine rdb ?_;try refine zqe ?_
    refine AB (fun h2=>?_) (fun h2=>?_)
    ·have h2:y.fOn.kind≠0:=by simpa using h2
     exact yes (by unfold Xg;rw [if_pos ⟨h,.inr h2⟩])
    ·have h2:y.fOn.kind=0:=by simpa using h2
     exact no (by unfold Xg;rw [if_neg (by rw [hl,h2];simp)])
  ·have h:¬0 < k:=by
    have:¬(0:Int) < k:=by simpa using h
    omega
   exact no (by unfold Xg;rw [if_neg (fun hc=>h hc.1)])
 ·have hb:¬k < q.fFrom.length:=by
   have:=of_decide_eq_false hb;omega
  rw [List.take_of_length_le (by omega)] at hW';exact q7 hG (Ext.trans hGI hI') (StL.mono hw hI') hq (ExL.mono h2 hI') (ExL.mono h3 hI') (ExL.mono h4 hI') (RL.mono (fun _ _ h=>TOrderV.mono h hI') h5 hI' (fun _ h=>h)) hW' zL (fun I4 X4 hI4 hW4=>hk I4 X4 (Ext.trans hI' hI4) (by simpa using hW4))
theorem WO (hG:Fg G)(hGI:Ext G I)(hw:StL I w wordsL)(hq:OkQ q){c:List Value}(hc:Bd I q c)[hs:SplitL X L F](hW:WrS b w X l)(hn:(l++Iq true q).length≤1000000000)(hk:∀I' X',Ext I I'→WrS b w X' (l++Iq true q)→K (.tuple #[]) I' (X'++F)):
  CT ω 112 #[AP b,.agg c.toArray] K I L:=by
 refine Cal.split X ?_;refine AQh ?_;unfold AMx;obtain ⟨v0,v1,v2,v3,v4,v5,rfl,h0,h1,h2,h3,h4,h5⟩:=hc;rw [XT] at hn hk;simp only [List.length_append,List.length_cons,List.length_nil] at hn;refine Ad (o:=wpO b) (fun bw=>?_);refine Ad (o:=.cells (selC q v0 v1 v2 v3 v4 v5).toArray 40 (0,0)) (fun bq=>?_);refine rdb ?_;refine BN (X:=X) hW zL (fun I1 X1 hI1 hW1=>?_);have go:∀(s:Bs) (I2:Imm) (X2:LH),Ext I I2→s=(if q.fDistinct then [100,105,115,116,105,110,99,116,32] else [])→WrS b w X2 ((l++[115,101,108,101,99,116,32])++s)→NP ω (AP bw) (AP bq) (fun v=>Gh (K v)) I2 (X2++Yq b bw bq q v0 v1 v2 v3 v4 v5 F):=by
  intro s I2 X2 hI2 hs2 hW2;rw [←hs2] at hn hk;exact q1 hG (Ext.trans hGI hI2) (StL.mono hw hI2) hq (RL.mono (fun _ _ h=>TItemV.mono h hI2) h0 hI2 (fun _ h=>h)) (RL.mono (fun _ _ h=>TSourceV.mono h hI2) h1 hI2 (fun _ h=>h)) (ExL.mono h2 hI2) (ExL.mono h3 hI2) (ExL.mono h4 hI2) (RL.mono (fun _ _ h=>TOrderV.mono h hI2) h5 hI2 (fun _ h=>h)) hW2 zL (fun I4 X4 hI4 hW4=>Gh.to (X4++F) (Gh.done (hk I4 X4 (Ext.trans hI2 hI4) (by simpa using hW4))))
 try refine zqe ?_
 refine rdb ?_;refine AB (fun h=>?_) (fun h=>?_)
 ·rw [h] at go hn;simp only [if_true,List.length_cons,List.length_nil] at hn;refine rdb ?_;refine BN hW1 zL (fun I2 X2 hI2 hW2=>?_);exact go _ I2 X2 (Ext.trans hI1 hI2) (by simp) hW2
 ·rw [h] at go;exact go [] I1 X1 hI1 (by simp) (by simpa using hW1)
end
abbrev stC (s:TStmt)(v0 v1 v2 v3 v4 v5 v6 v7 v8 v9 v10 v11 v12:Value):List Value:=[.int .i64 s.fKind,.bool s.fSelect.fDistinct,v0,v1,.int .i64 s.fSelect.fWhere.kind,.int .i64 s.fSelect.fWhere.value.fType,.bool s.fSelect.fWhere.value.fNull,.int .i64 s.fSelect.fWhere.value.fInt,.string ⟨s.fSelect.fWhere.value.fText.toArray⟩,.string ⟨s.fSelect.fWhere.table.toArray⟩,.string ⟨s.fSelect.fWhere.name.toArray⟩,.int .i64 s.fSelect.fWhere.slot,.int .i64 s.fSelect.fWhere.type,.bool s.fSelect.fWhere.distinct,v2,v3,.int .i64 s.fSelect.fHaving.kind,.int .i64 s.fSelect.fHaving.value.fType,.bool s.fSelect.fHaving.value.fNull,.int .i64 s.fSelect.fHaving.value.fInt,.string ⟨s.fSelect.fHaving.value.fText.toArray⟩,.string ⟨s.fSelect.fHaving.table.toArray⟩,.string ⟨s.fSelect.fHaving.name.toArray⟩,.int .i64 s.fSelect.fHaving.slot,.int .i64 s.fSelect.fHaving.type,.bool s.fSelect.fHaving.distinct,v4,v5,.int .i64 s.fSelect.fLimit,.int .i64 s.fSelect.fOffset,.string ⟨s.fTable.toArray⟩,v6,v7,v8,.int .i64 s.fWhere.kind,.int .i64 s.fWhere.value.fType,.bool s.fWhere.value.fNull,.int .i64 s.fWhere.value.fInt,.string ⟨s.fWhere.value.fText.toArray⟩,.string ⟨s.fWhere.table.toArray⟩,.string ⟨s.fWhere.name.toArray⟩,.int .i64 s.fWhere.slot,.int .i64 s.fWhere.type,.bool s.fWhere.distinct,v9,v10,v11,.string ⟨s.fIndex.fName.toArray⟩,.string ⟨s.fIndex.fTable.toArray⟩,v12,.bool s.fIndex.fUnique]
structure OkS (s:TStmt):Prop where
 q:OkQ s.fSelect
 wh:okE s.fWhere
 rows:∀x∈s.fRows,okL x∧x.length≤1000000000000
 sets:∀x∈s.fSets,okE x.fExpr
 cols:∀x∈s.fCols,okE x.fDefault
 cnt:cS s≤1000000000
 n1:s.fColumns.length≤1000000000000
 n2:s.fKey.length≤1000000000000
 n3:s.fIndex.fColumns.length≤1000000000000
section
variable {ω:Om}{G I:Imm}{L F Y:LH}{K:Value→M}{b bw bs:Nat}{w:Value}{X:LH}{l:Bs}{n:Nat}{s:TStmt}{v0 v1 v2 v3 v4 v5 v6 v7 v8 v9 v10 v11 v12:Value}
abbrev Ys (b bw bs:Nat)(s:TStmt)(v0 v1 v2 v3 v4 v5 v6 v7 v8 v9 v10 v11 v12:Value)(F:LH):LH:=(bs,.cells (stC s v0 v1 v2 v3 v4 v5 v6 v7 v8 v9 v10 v11 v12).toArray 48 (0,0))::(bw,wpO b)::F
theorem WM (hG:Fg G)(hGI:Ext G I)(hw:StL I w wordsL)(hq:OkS s){c:List Value}(hc:TStmtV I s c)[hs:SplitL X L F](hW:WrS b w X l)(hn:(l++JW true s).length≤1000000000)(hk:∀I' X',Ext I I'→WrS b w X' (l++JW true s)→K (.tuple #[]) I' (X'++F)):
  CT ω 122 #[AP b,.agg c.toArray] K I L:=by
 refine Cal.split X ?_;refine AQX ?_;unfold AMp;obtain ⟨v0,v1,v2,v3,v4,v5,v6,v7,v8,v9,v10,v11,v12,rfl,h0,h1,h2,h3,h4,h5,h6,h7,h8,h9,h10,h11,h12⟩:=hc;have hcnt:=hq.cnt;unfold cS at hcnt;have he:JW true s=[99,114,101,97,116,101,32,116,97,98,108,101,32]++(nameB s.fTable++([32,40]++(Ac (s.fCols.map (PO true))++((if s.fKey.isEmpty then [] else [44,32,112,114,105,109,97,114,121,32,107,101,121,32]++EK s.fKey)++[41])))):=by unfold JW;simp only [List.append_assoc]
 rw [he] at hn hk;simp only [List.length_append,List.length_cons,List.length_nil] at hn;refine Ad (o:=wpO b) (fun bw=>?_);refine Ad (o:=.cells (stC s v0 v1 v2 v3 v4 v5 v6 v7 v8 v9 v10 v11 v12).toArray 48 (0,0)) (fun bs=>?_);refine rdb ?_;refine BN (X:=X) hW zL (fun I1 X1 hI1 hW1=>?_);have hE1:=hI1;refine rdb ?_;try refine zqe ?_
 refine rdb ?_;refine call (BR (X:=X1) hW1 (StL.mono hw hE1) s.fTable zL (fun I2 X2 hI2 hW2=>?_));have hE2:=Ext.trans hE1 hI2;refine rdb ?_;refine BN (X:=X2) hW2 zL (fun I3 X3 hI3 hW3=>?_);have hE3:=Ext.trans hE2 hI3;refine rdb ?_;try refine zqe ?_
 refine rdb ?_;refine call (AAZ (X:=X3) (g:=PO true) (F:=Ys b bw bs s v0 v1 v2 v3 v4 v5 v6 v7 v8 v9 v10 v11 v12 F) (RL.mono (fun _ _ h=>TColV.mono h hE3) h10 hE3 (fun _ h=>h)) (StL.mono hw hE3) (AJd (bw:=bw) hG (Ext.trans hGI hE3) hq.cols) (by omega) hW3 zL (fun I4 X4 hI4 hW4=>?_));have hE4:=Ext.trans hE3 hI4;try refine zqe ?_
 refine rdb ?_;simp only [RL.len h11,SSd,Nat.reduceAdd];have fin:∀(t:Bs) (I5:Imm) (X5:LH),Ext I I5→t=(if s.fKey.isEmpty then [] else [44,32,112,114,105,109,97,114,121,32,107,101,121,32]++EK s.fKey)→WrS b w X5 ((l++([99,114,101,97,116,101,32,116,97,98,108,101,32]++(nameB s.fTable++([32,40]++Ac (s.fCols.map (PO true))))))++t)→QD ω (AP bw) (fun v=>Gh (K v)) I5 (X5++Ys b bw bs s v0 v1 v2 v3 v4 v5 v6 v7 v8 v9 v10 v11 v12 F):=by
  intro t I5 X5 hI5 ht hW5;rw [←ht] at hn hk;unfold QD;refine rdb ?_;refine BN hW5 zL (fun I6 X6 hI6 hW6=>?_);exact Gh.to (X6++F) (Gh.done (hk I6 X6 (Ext.trans hI5 hI6) (by simpa using hW6)))
 refine AB (fun h=>?_) (fun h=>?_)
 ·have h:s.fKey.isEmpty=false:=by
   have:=of_decide_eq_true h;cases ho:s.fKey with
   |nil=>rw [ho] at this;simp at this
   |cons _ _=>rfl
  rw [h] at hn fin;simp only [Bool.false_eq_true,if_false,List.length_append,List.length_cons,List.length_nil] at hn fin;refine rdb ?_;refine BN (X:=X4) hW4 zL (fun I5 X5 hI5 hW5=>?_);have hE5:=Ext.trans hE4 hI5;refine rdb ?_;try refine zqe ?_
  refine rdb ?_;refine call (KA (X:=X5) hq.n2 (StL.mono h11 hE5) (StL.mono hw hE5) hW5 zL (fun I6 X6 hI6 hW6=>?_));have hE6:=Ext.trans hE5 hI6;exact fin _ I6 X6 hE6 rfl (by simpa using hW6)
 ·have h:s.fKey.isEmpty=true:=by
   have:=of_decide_eq_false h;cases ho:s.fKey with
   |nil=>rfl
   |cons _ _=>rw [ho] at this;simp at this
  rw [h] at fin;exact fin [] I4 X4 hE4 rfl (by simpa using hW4)
theorem Yf (hG:Fg G)(hGI:Ext G I)(hw:StL I w wordsL)(hq:OkS s){c:List Value}(hc:TStmtV I s c)[hs:SplitL X L F](hW:WrS b w X l)(hn:(l++BF true s).length≤1000000000)(hk:∀I' X',Ext I I'→WrS b w X' (l++BF true s)→K (.tuple #[]) I' (X'++F)):
  CT ω 58 #[AP b,.agg c.toArray] K I L:=by
 have hc0:=hc;refine Cal.split X ?_;refine ATC ?_;unfold ARi;obtain ⟨v0,v1,v2,v3,v4,v5,v6,v7,v8,v9,v10,v11,v12,rfl,h0,h1,h2,h3,h4,h5,h6,h7,h8,h9,h10,h11,h12⟩:=hc;have hcnt:=hq.cnt;unfold cS at hcnt;refine Ad (o:=wpO b) (fun bw=>?_);refine Ad (o:=.cells (stC s v0 v1 v2 v3 v4 v5 v6 v7 v8 v9 v10 v11 v12).toArray 48 (0,0)) (fun bs=>?_);try refine zqe ?_
 refine rdb ?_;try refine zqe ?_
 refine AB (fun h=>?_) (fun h=>?_)
 ·have h:s.fKind=1:=by simpa using h
  have he:BF true s=Iq true s.fSelect:=by unfold BF;simp [h]
  rw [he] at hn hk;simp only [List.length_append,List.length_cons,List.length_nil] at hn;refine rdb ?_;try refine zqe ?_
  refine rdP _ rfl rfl ?_;refine call (WO (X:=X) hG hGI hw hq.q (c:=selC s.fSelect v0 v1 v2 v3 v4 v5) ⟨v0,v1,v2,v3,v4,v5,rfl,h0,h1,h2,h3,h4,h5⟩ hW (by rw [List.length_append];exact hn) (fun I1 X1 hI1 hW1=>?_));exact Gh.to (X1++F) (Gh.done (hk I1 X1 hI1 hW1))
 have h101:s.fKind≠1:=by simpa using h
 try refine zqe ?_
 refine AB (fun h=>?_) (fun h=>?_)
 ·have h:s.fKind=2:=by simpa using h
  have he:BF true s=[105,110,115,101,114,116,32,105,110,116,111,32]++(nameB s.fTable++((if s.fColumns.isEmpty then [] else [32]++EK s.fColumns)++([32,118,97,108,117,101,115,32]++Ac (s.fRows.map (rowB true))))):=by unfold BF;simp [h]
  rw [he] at hn hk;simp only [List.length_append,List.length_cons,List.length_nil] at hn;refine rdb ?_;refine BN (X:=X) hW zL (fun I1 X1 hI1 hW1=>?_);have hE1:=hI1;refine rdb ?_;try refine zqe ?_
  refine rdb ?_;refine call (BR (X:=X1) hW1 (StL.mono hw hE1) s.fTable zL (fun I2 X2 hI2 hW2=>?_));have hE2:=Ext.trans hE1 hI2;have fin:∀(t:Bs) (I5:Imm) (X5:LH),Ext I I5→t=(if s.fColumns.isEmpty then [] else [32]++EK s.fColumns)→WrS b w X5 ((l++([105,110,115,101,114,116,32,105,110,116,111,32]++nameB s.fTable))++t)→VE ω (AP bw) (AP bs) (fun v=>Gh (K v)) I5 (X5++Ys b bw bs s v0 v1 v2 v3 v4 v5 v6 v7 v8 v9 v10 v11 v12 F):=by
   intro t I5 X5 hI5 ht hW5;rw [←ht] at hn hk;unfold VE;refine rdb ?_;refine BN hW5 zL (fun I6 X6 hI6 hW6=>?_);have hI56:=Ext.trans hI5 hI6;refine rdb ?_;try refine zqe ?_
   refine rdb ?_;refine rdb ?_;refine call (AAY (X:=X6) (g:=rowB true) (F:=Ys b bw bs s v0 v1 v2 v3 v4 v5 v6 v7 v8 v9 v10 v11 v12 F) (RL.mono (fun _ _ h=>LstX.mono h hI56) h7 hI56 (fun _ h=>h)) (StL.mono hw hI56) (AJb hG (Ext.trans hGI hI56) hq.rows) (by omega) hW6 zL (fun I7 X7 hI7 hW7=>?_));exact Gh.to (X7++F) (Gh.done (hk I7 X7 (Ext.trans hI56 hI7) (by simpa using hW7)))
  try refine zqe ?_
  refine rdb ?_;simp only [RL.len h6,SSd,Nat.reduceAdd];refine AB (fun hz=>?_) (fun hz=>?_)
  ·have hz:s.fColumns.isEmpty=false:=by
    have:=of_decide_eq_true hz;cases ho:s.fColumns with
    |nil=>rw [ho] at this;simp at this
    |cons _ _=>rfl
   rw [hz] at hn fin;simp only [Bool.false_eq_true,if_false,List.length_append,List.length_cons,List.length_nil] at hn fin;refine rdb ?_;refine BN (X:=X2) hW2 zL (fun I3 X3 hI3 hW3=>?_);have hE3:=Ext.trans hE2 hI3;refine rdb ?_;try refine zqe ?_
   refine rdb ?_;refine call (KA (X:=X3) hq.n1 (StL.mono h6 hE3) (StL.mono hw hE3) hW3 zL (fun I4 X4 hI4 hW4=>?_));have hE4:=Ext.trans hE3 hI4;exact fin _ I4 X4 hE4 rfl (by simpa using hW4)
  ·have hz:s.fColumns.isEmpty=true:=by
    have:=of_decide_eq_false hz;cases ho:s.fColumns with
    |nil=>rfl
    |cons _ _=>rw [ho] at this;simp at this
   rw [hz] at fin;exact fin [] I2 X2 hE2 rfl (by simpa using hW2)
 have h102:s.fKind≠2:=by simpa using h
 try refine zqe ?_
 refine AB (fun h=>?_) (fun h=>?_)
 ·have h:s.fKind=3:=by simpa using h
  have he:BF true s=[117,112,100,97,116,101,32]++(nameB s.fTable++([32,115,101,116,32]++(Ac (s.fSets.map AGW)++DR true [32,119,104,101,114,101,32] s.fWhere))):=by
   have hs:AGW=fun x=>nameB x.fColumn++[32,61,32]++exB true x.fExpr 1:=rfl;rw [hs];unfold BF;simp [h]
  rw [he] at hn hk;simp only [List.length_append,List.length_cons,List.length_nil] at hn;refine rdb ?_;refine BN (X:=X) hW zL (fun I1 X1 hI1 hW1=>?_);have hE1:=hI1;refine rdb ?_;try refine zqe ?_
  refine rdb ?_;refine call (BR (X:=X1) hW1 (StL.mono hw hE1) s.fTable zL (fun I2 X2 hI2 hW2=>?_));have hE2:=Ext.trans hE1 hI2;refine rdb ?_;refine BN (X:=X2) hW2 zL (fun I3 X3 hI3 hW3=>?_);have hE3:=Ext.trans hE2 hI3;refine rdb ?_;try refine zqe ?_
  refine rdb ?_;refine call (AAX (X:=X3) (g:=AGW) (F:=Ys b bw bs s v0 v1 v2 v3 v4 v5 v6 v7 v8 v9 v10 v11 v12 F) (RL.mono (fun _ _ h=>TSetV.mono h hE3) h8 hE3 (fun _ h=>h)) (StL.mono hw hE3) (AJa (bw:=bw) hG (Ext.trans hGI hE3) hq.sets) (by omega) hW3 zL (fun I4 X4 hI4 hW4=>?_));have hE4:=Ext.trans hE3 hI4;refine rdb ?_;try refine zqe ?_
  refine rdP _ rfl rfl ?_;refine call (FO (X:=X4) hG hq.wh [32,119,104,101,114,101,32] (Ext.trans hGI hE4) (StL.mono hw hE4) hW4 (ExV.mono hE4 (ExV.iff.2 ⟨v9,rfl,h9⟩)) zL (fun I5 X5 hI5 hW5=>?_));have hE5:=Ext.trans hE4 hI5;exact Gh.to (X5++F) (Gh.done (hk I5 X5 hE5 (by simpa using hW5)))
 have h103:s.fKind≠3:=by simpa using h
 try refine zqe ?_
 refine AB (fun h=>?_) (fun h=>?_)
 ·have h:s.fKind=4:=by simpa using h
  have he:BF true s=[100,101,108,101,116,101,32,102,114,111,109,32]++(nameB s.fTable++DR true [32,119,104,101,114,101,32] s.fWhere):=by unfold BF;simp [h]
  rw [he] at hn hk;simp only [List.length_append,List.length_cons,List.length_nil] at hn;refine rdb ?_;refine BN (X:=X) hW zL (fun I1 X1 hI1 hW1=>?_);have hE1:=hI1;refine rdb ?_;try refine zqe ?_
  refine rdb ?_;refine call (BR (X:=X1) hW1 (StL.mono hw hE1) s.fTable zL (fun I2 X2 hI2 hW2=>?_));have hE2:=Ext.trans hE1 hI2;refine rdb ?_;try refine zqe ?_
  refine rdP _ rfl rfl ?_;refine call (FO (X:=X2) hG hq.wh [32,119,104,101,114,101,32] (Ext.trans hGI hE2) (StL.mono hw hE2) hW2 (ExV.mono hE2 (ExV.iff.2 ⟨v9,rfl,h9⟩)) zL (fun I3 X3 hI3 hW3=>?_));have hE3:=Ext.trans hE2 hI3;exact Gh.to (X3++F) (Gh.done (hk I3 X3 hE3 (by simpa using hW3)))
 have h104:s.fKind≠4:=by simpa using h
 try refine zqe ?_
 refine AB (fun h=>?_) (fun h=>?_)
 ·have h:s.fKind=5:=by simpa using h
  have he:BF true s=JW true s:=by unfold BF;simp [h]
  rw [he] at hn hk;simp only [List.length_append,List.length_cons,List.length_nil] at hn;refine rdb ?_;refine rdB rfl ?_;refine call (WM (X:=X) hG hGI hw hq hc0 hW (by rw [List.length_append];exact hn) (fun I1 X1 hI1 hW1=>?_));exact Gh.to (X1++F) (Gh.done (hk I1 X1 hI1 hW1))
 have h105:s.fKind≠5:=by simpa using h
 try refine zqe ?_
 refine AB (fun h=>?_) (fun h=>?_)
 ·have h:s.fKind=6:=by simpa using h
  have he:BF true s=[99,114,101,97,116,101,32]++((if s.fIndex.fUnique then [117,110,105,113,117,101,32] else [])++([105,110,100,101,120,32]++(nameB s.fIndex.fName++([32,111,110,32]++(nameB s.fIndex.fTable++([32]++EK s.fIndex.fColumns)))))):=by unfold BF;simp [h]
  rw [he] at hn hk;simp only [List.length_append,List.length_cons,List.length_nil] at hn;refine rdb ?_;refine BN (X:=X) hW zL (fun I1 X1 hI1 hW1=>?_);have hE1:=hI1;have fin:∀(t:Bs) (I5:Imm) (X5:LH),Ext I I5→t=(if s.fIndex.fUnique then [117,110,105,113,117,101,32] else [])→WrS b w X5 ((l++[99,114,101,97,116,101,32])++t)→VD ω (AP bw) (AP bs) (fun v=>Gh (K v)) I5 (X5++Ys b bw bs s v0 v1 v2 v3 v4 v5 v6 v7 v8 v9 v10 v11 v12 F):=by
   intro t I5 X5 hI5 ht hW5;rw [←ht] at hn hk;unfold VD;refine rdb ?_;refine BN (X:=X5) hW5 zL (fun I11 X11 hI11 hW11=>?_);have hE11:=Ext.trans hI5 hI11;refine rdb ?_;try refine zqe ?_
   refine rdb ?_;refine call (BR (X:=X11) hW11 (StL.mono hw hE11) s.fIndex.fName zL (fun I12 X12 hI12 hW12=>?_));have hE12:=Ext.trans hE11 hI12;refine rdb ?_;refine BN (X:=X12) hW12 zL (fun I13 X13 hI13 hW13=>?_);have hE13:=Ext.trans hE12 hI13;refine rdb ?_;try refine zqe ?_
   refine rdb ?_;refine call (BR (X:=X13) hW13 (StL.mono hw hE13) s.fIndex.fTable zL (fun I14 X14 hI14 hW14=>?_));have hE14:=Ext.trans hE13 hI14;refine rdb ?_;refine BN (X:=X14) hW14 zL (fun I15 X15 hI15 hW15=>?_);have hE15:=Ext.trans hE14 hI15;refine rdb ?_;try refine zqe ?_
   refine rdb ?_;refine call (KA (X:=X15) hq.n3 (StL.mono h12 hE15) (StL.mono hw hE15) hW15 zL (fun I16 X16 hI16 hW16=>?_));have hE16:=Ext.trans hE15 hI16;exact Gh.to (X16++F) (Gh.done (hk I16 X16 hE16 (by simpa using hW16)))
  try refine zqe ?_
  refine rdb ?_;refine AB (fun hz=>?_) (fun hz=>?_)
  ·rw [hz] at hn fin;simp only [if_true,List.length_cons,List.length_nil] at hn;refine rdb ?_;refine BN (X:=X1) hW1 zL (fun I2 X2 hI2 hW2=>?_);exact fin _ I2 X2 (Ext.trans hI1 hI2) rfl (by simpa using hW2)
  ·rw [hz] at fin;exact fin [] I1 X1 hI1 (by simp) (by simpa using hW1)
 have h106:s.fKind≠6:=by simpa using h
 try refine zqe ?_
 refine AB (fun h=>?_) (fun h=>?_)
 ·have h:s.fKind=7:=by simpa using h
  have he:BF true s=[100,114,111,112,32,116,97,98,108,101,32]++nameB s.fTable:=by unfold BF;simp [h]
  rw [he] at hn hk;simp only [List.length_append,List.length_cons,List.length_nil] at hn;refine rdb ?_;refine BN (X:=X) hW zL (fun I1 X1 hI1 hW1=>?_);have hE1:=hI1;refine rdb ?_;try refine zqe ?_
  refine rdb ?_;refine call (BR (X:=X1) hW1 (StL.mono hw hE1) s.fTable zL (fun I2 X2 hI2 hW2=>?_));have hE2:=Ext.trans hE1 hI2;exact Gh.to (X2++F) (Gh.done (hk I2 X2 hE2 (by simpa using hW2)))
 have h107:s.fKind≠7:=by simpa using h
 try refine zqe ?_
 refine AB (fun h=>?_) (fun h=>?_)
 ·have h:s.fKind=8:=by simpa using h
  have he:BF true s=[100,114,111,112,32,105,110,100,101,120,32]++nameB s.fIndex.fName:=by unfold BF;simp [h]
  rw [he] at hn hk;simp only [List.length_append,List.length_cons,List.length_nil] at hn;refine rdb ?_;refine BN (X:=X) hW zL (fun I1 X1 hI1 hW1=>?_);have hE1:=hI1;refine rdb ?_;try refine zqe ?_
  refine rdb ?_;refine call (BR (X:=X1) hW1 (StL.mono hw hE1) s.fIndex.fName zL (fun I2 X2 hI2 hW2=>?_));have hE2:=Ext.trans hE1 hI2;exact Gh.to (X2++F) (Gh.done (hk I2 X2 hE2 (by simpa using hW2)))
 have h108:s.fKind≠8:=by simpa using h
 try refine zqe ?_
 refine AB (fun h=>?_) (fun h=>?_)
 ·have h:s.fKind=9:=by simpa using h
  have he:BF true s=[98,101,103,105,110]:=by unfold BF;simp [h]
  rw [he] at hn hk;simp only [List.length_append,List.length_cons,List.length_nil] at hn;refine rdb ?_;refine BN (X:=X) hW zL (fun I1 X1 hI1 hW1=>?_);have hE1:=hI1;exact Gh.to (X1++F) (Gh.done (hk I1 X1 hE1 (by simpa using hW1)))
 have h109:s.fKind≠9:=by simpa using h
 try refine zqe ?_
 refine AB (fun h=>?_) (fun h=>?_)
 ·have h:s.fKind=10:=by simpa using h
  have he:BF true s=[99,111,109,109,105,116]:=by unfold BF;simp [h]
  rw [he] at hn hk;simp only [List.length_append,List.length_cons,List.length_nil] at hn;refine rdb ?_;refine BN (X:=X) hW zL (fun I1 X1 hI1 hW1=>?_);have hE1:=hI1;exact Gh.to (X1++F) (Gh.done (hk I1 X1 hE1 (by simpa using hW1)))
 have h110:s.fKind≠10:=by simpa using h
 try refine zqe ?_
 refine AB (fun h=>?_) (fun h=>?_)
 ·have h:s.fKind=11:=by simpa using h
  have he:BF true s=[114,111,108,108,98,97,99,107]:=by unfold BF;simp [h]
  rw [he] at hn hk;simp only [List.length_append,List.length_cons,List.length_nil] at hn;refine rdb ?_;refine BN (X:=X) hW zL (fun I1 X1 hI1 hW1=>?_);have hE1:=hI1;exact Gh.to (X1++F) (Gh.done (hk I1 X1 hE1 (by simpa using hW1)))
 have h111:s.fKind≠11:=by simpa using h
 try refine zqe ?_
 have he:BF true s=[63]:=by unfold BF;simp [h101,h102,h103,h104,h105,h106,h107,h108,h109,h110,h111]
 rw [he] at hn hk;simp only [List.length_append,List.length_cons,List.length_nil] at hn;refine rdb ?_;refine BN (X:=X) hW zL (fun I1 X1 hI1 hW1=>?_);have hE1:=hI1;exact Gh.to (X1++F) (Gh.done (hk I1 X1 hE1 (by simpa using hW1)))
theorem AKp (s:TStmt):BF true s≠[]:=by
 unfold BF;by_cases h1:s.fKind=1
 ·rw [if_pos h1,XT];simp
 rw [if_neg h1];by_cases h2:s.fKind=2
 ·rw [if_pos h2];simp
 rw [if_neg h2];by_cases h3:s.fKind=3
 ·rw [if_pos h3];simp
 rw [if_neg h3];by_cases h4:s.fKind=4
 ·rw [if_pos h4];simp
 rw [if_neg h4];by_cases h5:s.fKind=5
 ·rw [if_pos h5];simp [JW]
 rw [if_neg h5];by_cases h6:s.fKind=6
 ·rw [if_pos h6];simp
 rw [if_neg h6];by_cases h7:s.fKind=7
 ·rw [if_pos h7];simp
 rw [if_neg h7];by_cases h8:s.fKind=8
 ·rw [if_pos h8];simp
 rw [if_neg h8];by_cases h9:s.fKind=9
 ·rw [if_pos h9];simp
 rw [if_neg h9];by_cases h10:s.fKind=10
 ·rw [if_pos h10];simp
 rw [if_neg h10];by_cases h11:s.fKind=11
 ·rw [if_pos h11];simp
 rw [if_neg h11];simp
theorem Ue (hG:Fg G)(hWd:AAf ω G)(hGI:Ext G I)(hq:OkS s){c:List Value}(hc:TStmtV I s c)(hn:(BF true s).length≤1000000000)(hk:∀I',Ext I I'→K (.string ⟨(BF true s).toArray⟩) I' L):
  CT ω 30 #[.agg c.toArray] K I L:=by
 refine ATO ?_;unfold ARt;have hcl:=hc.len;refine Ad (fun bs=>?_);refine call (hWd _ _ _ hGI (fun I1 w hI1 hw=>?_));obtain ⟨aw,kw,rfl⟩:=RL.form hw;try refine zqe ?_
 refine Ad (o:=WrO (.pointer none) (.slice none 0 0) (.slice aw wordsL.length kw)) (fun b=>?_);refine rdB hcl ?_;have hW0:WrS b (.slice aw wordsL.length kw) [(b,WrO (.pointer none) (.slice none 0 0) (.slice aw wordsL.length kw))] []:=⟨_,_,[],.inl rfl,SlO.none _ _,rfl⟩;refine call (Yf (X:=[(b,WrO (.pointer none) (.slice none 0 0) (.slice aw wordsL.length kw))]) (F:=(bs,.cells c.toArray 48 (0,0))::L) (hs:=⟨List.Perm.refl _⟩) hG (Ext.trans hGI hI1) hw hq (hc.mono hI1) hW0 (by simpa using hn) (fun I2 X2 hI2 hW2=>?_));try refine zqe ?_
 rw [List.nil_append] at hW2;refine call (Ur (X:=X2) hW2 (AKp s) hn (fun X3=>?_));exact Gh.to L (Gh.done (hk I2 (Ext.trans hI1 hI2)))
end
def eqL {α:Type}(f:α→α→Bool):List α→List α→Bool
 |[],[]=>true
 |x::xs,y::ys=>f x y&&eqL f xs ys
 |_,_=>false
theorem Gg {α:Type}{f:α→α→Bool}:∀{xs ys:List α},xs.length≠ys.length→eqL f xs ys=false
 |[],[],h=>absurd rfl h
 |[],_::_,_=>rfl
 |_::_,[],_=>rfl
 |x::xs,y::ys,h=>by
  simp only [eqL,Gg (f:=f) (xs:=xs) (ys:=ys) (by simpa using h),Bool.and_false]
theorem Hf {α:Type}{f:α→α→Bool}{xs ys:List α}(h1:xs=[])(h2:ys=[]):eqL f xs ys=true:=by subst h1 h2;rfl
theorem XH:∀xs ys:List Ex,ACG xs ys=eqL EW xs ys
 |[],[]=>rfl
 |[],_::_=>rfl
 |_::_,[]=>rfl
 |x::xs,y::ys=>by simp only [ACG,eqL,XH xs ys]
theorem XI (x y:Ex):EW x y=(x.kind==y.kind&&x.value==y.value&&x.table==y.table&&x.name==y.name&&x.slot==y.slot&&x.type==y.type&&x.distinct==y.distinct&&eqL EW x.args y.args):=by
 cases x;simp only [EW,XH,Ex.kind,Ex.value,Ex.table,Ex.name,Ex.slot,Ex.type,Ex.distinct,Ex.args]
theorem ARH (a b:TValue):(a==b)=((a.fType==b.fType)&&((a.fNull==b.fNull)&&((a.fInt==b.fInt)&&(a.fText==b.fText)))):=by
 cases a;cases b
 rw [Bool.eq_iff_iff];simp only [beq_iff_eq,Bool.and_eq_true,TValue.mk.injEq]
theorem ARF (a c a' c':Int)(t t':Bool)(s s':Bs):IW .eql [(TypeDesc.int .i64,0),(TypeDesc.bool,1),(TypeDesc.int .i64,2),(TypeDesc.string,3)] (.agg #[.int .i64 a,.bool t,.int .i64 c,.string ⟨s.toArray⟩]) (.agg #[.int .i64 a',.bool t',.int .i64 c',.string ⟨s'.toArray⟩])=some (.bool ((a==a')&&((t==t')&&((c==c')&&(s==s'))))):=by
 simp [IW,Lm,eqD,Js]
def sIt (x y:TItem):Bool:=x.fStar==y.fStar&&x.fTable==y.fTable&&x.fAs==y.fAs&&EW x.fExpr y.fExpr
def sSo (x y:TSource):Bool:=x.fTable==y.fTable&&x.fAs==y.fAs&&x.fLeft==y.fLeft&&EW x.fOn y.fOn
def sOr (x y:TOrder):Bool:=x.fDesc==y.fDesc&&EW x.fExpr y.fExpr
def sSe (x y:TSet):Bool:=x.fColumn==y.fColumn&&EW x.fExpr y.fExpr
def sCo (x y:TCol):Bool:=x.fName==y.fName&&x.fType==y.fType&&x.fNotNull==y.fNotNull&&x.fKey==y.fKey&&x.fUnique==y.fUnique&&EW x.fDefault y.fDefault
def eqB (x y:Bs):Bool:=x==y
def sQu (p q:TSelect):Bool:=p.fDistinct==q.fDistinct&&p.fLimit==q.fLimit&&p.fOffset==q.fOffset&&EW p.fWhere q.fWhere&&EW p.fHaving q.fHaving&&eqL EW p.fGroup q.fGroup
def sIx (a b:TIdx):Bool:=a.fName==b.fName&&a.fTable==b.fTable&&a.fUnique==b.fUnique&&eqL eqB a.fColumns b.fColumns
def sRe (a b:TStmt):Bool:=a.fKind==b.fKind&&a.fTable==b.fTable&&eqL eqB a.fColumns b.fColumns&&eqL eqB a.fKey b.fKey&&EW a.fWhere b.fWhere
def Lc (a b:TStmt):Bool:=sQu a.fSelect b.fSelect&&eqL sIt a.fSelect.fItems b.fSelect.fItems&&eqL sSo a.fSelect.fFrom b.fSelect.fFrom&&eqL sOr a.fSelect.fOrder b.fSelect.fOrder&&eqL (eqL EW) a.fRows b.fRows&&eqL sSe a.fSets b.fSets&&eqL sCo a.fCols b.fCols&&sIx a.fIndex b.fIndex&&sRe a b
def FnQ {α:Type}(ω:Om)(fv:Value)(V:Imm→α→Value→Prop)(f:α→α→Bool)(xs:List α):Prop:=∀x∈xs,∀(y:α) (I:Imm) (L:LH) (u v:Value) (K:Value→M),V I x u→V I y v→K (.bool (f x y)) I L→CW ω fv #[u,v] K I L
section
variable {ω:Om}{I:Imm}{L:LH}{K:Value→M}
theorem MM {u v:Value}{xs ys:List Bs}(hx:StL I u xs)(hy:StL I v ys)(hl:xs.length≤1000000000000)(hk:K (.bool (eqL eqB xs ys)) I L):CT ω 74 #[u,v] K I L:=by
 refine ASn ?_;unfold ART;simp only [RL.len hx,RL.len hy,SSd,Nat.reduceAdd];refine AB (fun h=>?_) (fun h=>?_)
 ·have h:xs.length≠ys.length:=by
   have:¬(xs.length:Int)=ys.length:=by simpa using h
   omega
  rw [Gg h] at hk;exact Gh.done hk
 have h:xs.length=ys.length:=by
  have:(xs.length:Int)=ys.length:=by simpa using h
  omega
 refine loop (fun q st I' L'=>∃k:Nat,k+q=xs.length∧st=(Value.bool false,Value.int .i64 (k:Nat),())∧I'=I∧L'=L∧eqL eqB xs ys=eqL eqB (xs.drop k) (ys.drop k)) xs.length ⟨0,by omega,rfl,rfl,rfl,rfl⟩ ?_;rintro q st I' L' ⟨k,hq,rfl,rfl,rfl,he⟩;unfold AFd;try refine zqe ?_
 refine AB (fun hb=>?_) (fun hb=>?_)
 ·have hb:k < xs.length:=by
   have:=of_decide_eq_true hb;omega
  have hb2:k < ys.length:=by omega
  obtain ⟨bt,off,c1,g1,gl,g2,g3⟩:=RL.ix hx (i:=k) (by omega) (by omega);obtain ⟨bu,off2,c2,k1,kl,k2,k3⟩:=RL.ix hy (i:=k) (by omega) (by omega);rw [Ah hb] at g2;rw [Ah hb2] at k2;obtain rfl:=g2;obtain rfl:=k2;rw [List.drop_eq_getElem_cons hb,List.drop_eq_getElem_cons hb2] at he;simp only [eqL] at he;refine EM ?_;simp only [g1,k1,SSd,Nat.reduceAdd];refine ASH (g3 I' [] (Ext.refl _) (fun _ h=>h) 0 _ rfl) (Ext.refl _) ?_;refine ASH (k3 I' [] (Ext.refl _) (fun _ h=>h) 0 _ rfl) (Ext.refl _) ?_;simp only [sNe,SSd,Nat.reduceAdd];refine AB (fun h0=>?_) (fun h0=>?_)
  ·have h0:eqB xs[k] ys[k]=false:=by simpa [eqB] using h0
   rw [he,h0] at hk;exact Gh.done hk
  ·have h0:eqB xs[k] ys[k]=true:=by simpa [eqB] using h0
   simp only [wrap_i64 ((k:Int)+1) (by omega),SSd,Nat.reduceAdd];exact Gh.done ⟨q - 1,by omega,k+1,by omega,rfl,rfl,rfl,by rw [he,h0,Bool.true_and]⟩
 ·have hb:¬k < xs.length:=by
   have:=of_decide_eq_false hb;omega
  rw [he,Hf (List.drop_eq_nil_of_le (by omega)) (List.drop_eq_nil_of_le (by omega))] at hk;exact Gh.done hk
theorem AAM {u v fv:Value}{f:Ex→Ex→Bool}{xs ys:List (Ex)}(hx:RL ExV 11 I [] u xs)(hy:RL ExV 11 I [] v ys)(hf:FnQ ω fv (IZ ExV) f xs)(hl:xs.length≤1000000000000)(hk:K (.bool (eqL f xs ys)) I L):CT ω 61 #[u,v,fv] K I L:=by
 refine ATA ?_;unfold ARg;simp only [RL.len hx,RL.len hy,SSd,Nat.reduceAdd];refine AB (fun h=>?_) (fun h=>?_)
 ·have h:xs.length≠ys.length:=by
   have:¬(xs.length:Int)=ys.length:=by simpa using h
   omega
  rw [Gg h] at hk;exact Gh.done hk
 have h:xs.length=ys.length:=by
  have:(xs.length:Int)=ys.length:=by simpa using h
  omega
 try refine zqe ?_
 refine loop (fun q st I' L'=>∃k:Nat,k+q=xs.length∧st=(Value.bool false,Value.int .i64 (k:Nat),())∧I'=I∧L'=L∧eqL f xs ys=eqL f (xs.drop k) (ys.drop k)) xs.length ⟨0,by omega,rfl,rfl,rfl,rfl⟩ ?_;rintro q st I' L' ⟨k,hq,rfl,rfl,rfl,he⟩;unfold AFk;try refine zqe ?_
 refine AB (fun hb=>?_) (fun hb=>?_)
 ·have hb:k < xs.length:=by
   have:=of_decide_eq_true hb;omega
  have hb2:k < ys.length:=by omega
  obtain ⟨bt,off,c1,g1,gl,g2,g3⟩:=RL.ix hx (i:=k) (by omega) (by omega);obtain ⟨bu,off2,c2,k1,kl,k2,k3⟩:=RL.ix hy (i:=k) (by omega) (by omega);rw [Ah hb] at g2;rw [Ah hb2] at k2;rw [List.drop_eq_getElem_cons hb,List.drop_eq_getElem_cons hb2] at he;simp only [eqL] at he;simp only [g1,k1,SSd,Nat.reduceAdd];have ho1:=ExV.one g2;have ho2:=ExV.one k2;refine Ed (g3 _ [] (Ext.refl _) (fun _ h=>h)) (Ext.refl _) gl ?_;refine Ad (fun b3=>?_);refine stB gl rfl ho1 ?_;refine Ed (k3 I' [] (Ext.refl _) (fun _ h=>h)) (Ext.refl _) kl ?_;refine Ad (fun b4=>?_);refine stB kl rfl ho2 ?_;refine rdB gl ?_;refine rdB kl ?_;refine FM (CalV.to L' (hf _ (List.getElem_mem hb) ys[k] I' L' _ _ _ ⟨c1,rfl,g2⟩ ⟨c2,rfl,k2⟩ ?_));try refine zqe ?_
  cases hfe:f xs[k] ys[k] with
  |false=>
   rw [he,hfe] at hk;exact Gh.done hk
  |true=>
   simp only [wrap_i64 ((k:Int)+1) (by omega),SSd,Nat.reduceAdd];exact Gh.done ⟨q - 1,by omega,k+1,by omega,rfl,rfl,rfl,by rw [he,hfe,Bool.true_and]⟩
 ·have hb:¬k < xs.length:=by
   have:=of_decide_eq_false hb;omega
  rw [he,Hf (List.drop_eq_nil_of_le (by omega)) (List.drop_eq_nil_of_le (by omega))] at hk;exact Gh.done hk
theorem AIH {u v fv:Value}{f:TItem→TItem→Bool}{xs ys:List (TItem)}(hx:RL TItemV 14 I [] u xs)(hy:RL TItemV 14 I [] v ys)(hf:FnQ ω fv (IZ TItemV) f xs)(hl:xs.length≤1000000000000)(hk:K (.bool (eqL f xs ys)) I L):CT ω 62 #[u,v,fv] K I L:=by
 refine ASz ?_;unfold ARf;simp only [RL.len hx,RL.len hy,SSd,Nat.reduceAdd];refine AB (fun h=>?_) (fun h=>?_)
 ·have h:xs.length≠ys.length:=by
   have:¬(xs.length:Int)=ys.length:=by simpa using h
   omega
  rw [Gg h] at hk;exact Gh.done hk
 have h:xs.length=ys.length:=by
  have:(xs.length:Int)=ys.length:=by simpa using h
  omega
 try refine zqe ?_
 refine loop (fun q st I' L'=>∃k:Nat,k+q=xs.length∧st=(Value.bool false,Value.int .i64 (k:Nat),())∧I'=I∧L'=L∧eqL f xs ys=eqL f (xs.drop k) (ys.drop k)) xs.length ⟨0,by omega,rfl,rfl,rfl,rfl⟩ ?_;rintro q st I' L' ⟨k,hq,rfl,rfl,rfl,he⟩;unfold AFj;try refine zqe ?_
 refine AB (fun hb=>?_) (fun hb=>?_)
 ·have hb:k < xs.length:=by
   have:=of_decide_eq_true hb;omega
  have hb2:k < ys.length:=by omega
  obtain ⟨bt,off,c1,g1,gl,g2,g3⟩:=RL.ix hx (i:=k) (by omega) (by omega);obtain ⟨bu,off2,c2,k1,kl,k2,k3⟩:=RL.ix hy (i:=k) (by omega) (by omega);rw [Ah hb] at g2;rw [Ah hb2] at k2;rw [List.drop_eq_getElem_cons hb,List.drop_eq_getElem_cons hb2] at he;simp only [eqL] at he;simp only [g1,k1,SSd,Nat.reduceAdd];have ho1:=TItemV.one g2;have ho2:=TItemV.one k2;refine Ed (g3 _ [] (Ext.refl _) (fun _ h=>h)) (Ext.refl _) gl ?_;refine Ad (fun b3=>?_);refine stB gl rfl ho1 ?_;refine Ed (k3 I' [] (Ext.refl _) (fun _ h=>h)) (Ext.refl _) kl ?_;refine Ad (fun b4=>?_);refine stB kl rfl ho2 ?_;refine rdB gl ?_;refine rdB kl ?_;refine FM (CalV.to L' (hf _ (List.getElem_mem hb) ys[k] I' L' _ _ _ ⟨c1,rfl,g2⟩ ⟨c2,rfl,k2⟩ ?_));try refine zqe ?_
  cases hfe:f xs[k] ys[k] with
  |false=>
   rw [he,hfe] at hk;exact Gh.done hk
  |true=>
   simp only [wrap_i64 ((k:Int)+1) (by omega),SSd,Nat.reduceAdd];exact Gh.done ⟨q - 1,by omega,k+1,by omega,rfl,rfl,rfl,by rw [he,hfe,Bool.true_and]⟩
 ·have hb:¬k < xs.length:=by
   have:=of_decide_eq_false hb;omega
  rw [he,Hf (List.drop_eq_nil_of_le (by omega)) (List.drop_eq_nil_of_le (by omega))] at hk;exact Gh.done hk
theorem AAL {u v fv:Value}{f:TSource→TSource→Bool}{xs ys:List (TSource)}(hx:RL TSourceV 14 I [] u xs)(hy:RL TSourceV 14 I [] v ys)(hf:FnQ ω fv (IZ TSourceV) f xs)(hl:xs.length≤1000000000000)(hk:K (.bool (eqL f xs ys)) I L):CT ω 64 #[u,v,fv] K I L:=by
 refine ASx ?_;unfold ARd;simp only [RL.len hx,RL.len hy,SSd,Nat.reduceAdd];refine AB (fun h=>?_) (fun h=>?_)
 ·have h:xs.length≠ys.length:=by
   have:¬(xs.length:Int)=ys.length:=by simpa using h
   omega
  rw [Gg h] at hk;exact Gh.done hk
 have h:xs.length=ys.length:=by
  have:(xs.length:Int)=ys.length:=by simpa using h
  omega
 try refine zqe ?_
 refine loop (fun q st I' L'=>∃k:Nat,k+q=xs.length∧st=(Value.bool false,Value.int .i64 (k:Nat),())∧I'=I∧L'=L∧eqL f xs ys=eqL f (xs.drop k) (ys.drop k)) xs.length ⟨0,by omega,rfl,rfl,rfl,rfl⟩ ?_;rintro q st I' L' ⟨k,hq,rfl,rfl,rfl,he⟩;unfold AFi;try refine zqe ?_
 refine AB (fun hb=>?_) (fun hb=>?_)
 ·have hb:k < xs.length:=by
   have:=of_decide_eq_true hb;omega
  have hb2:k < ys.length:=by omega
  obtain ⟨bt,off,c1,g1,gl,g2,g3⟩:=RL.ix hx (i:=k) (by omega) (by omega);obtain ⟨bu,off2,c2,k1,kl,k2,k3⟩:=RL.ix hy (i:=k) (by omega) (by omega);rw [Ah hb] at g2;rw [Ah hb2] at k2;rw [List.drop_eq_getElem_cons hb,List.drop_eq_getElem_cons hb2] at he;simp only [eqL] at he;simp only [g1,k1,SSd,Nat.reduceAdd];have ho1:=TSourceV.one g2;have ho2:=TSourceV.one k2;refine Ed (g3 _ [] (Ext.refl _) (fun _ h=>h)) (Ext.refl _) gl ?_;refine Ad (fun b3=>?_);refine stB gl rfl ho1 ?_;refine Ed (k3 I' [] (Ext.refl _) (fun _ h=>h)) (Ext.refl _) kl ?_;refine Ad (fun b4=>?_);refine stB kl rfl ho2 ?_;refine rdB gl ?_;refine rdB kl ?_;refine FM (CalV.to L' (hf _ (List.getElem_mem hb) ys[k] I' L' _ _ _ ⟨c1,rfl,g2⟩ ⟨c2,rfl,k2⟩ ?_));try refine zqe ?_
  cases hfe:f xs[k] ys[k] with
  |false=>
   rw [he,hfe] at hk;exact Gh.done hk
  |true=>
   simp only [wrap_i64 ((k:Int)+1) (by omega),SSd,Nat.reduceAdd];exact Gh.done ⟨q - 1,by omega,k+1,by omega,rfl,rfl,rfl,by rw [he,hfe,Bool.true_and]⟩
 ·have hb:¬k < xs.length:=by
   have:=of_decide_eq_false hb;omega
  rw [he,Hf (List.drop_eq_nil_of_le (by omega)) (List.drop_eq_nil_of_le (by omega))] at hk;exact Gh.done hk
theorem AER {u v fv:Value}{f:TOrder→TOrder→Bool}{xs ys:List (TOrder)}(hx:RL TOrderV 12 I [] u xs)(hy:RL TOrderV 12 I [] v ys)(hf:FnQ ω fv (IZ TOrderV) f xs)(hl:xs.length≤1000000000000)(hk:K (.bool (eqL f xs ys)) I L):CT ω 66 #[u,v,fv] K I L:=by
 refine ASv ?_;unfold ARb;simp only [RL.len hx,RL.len hy,SSd,Nat.reduceAdd];refine AB (fun h=>?_) (fun h=>?_)
 ·have h:xs.length≠ys.length:=by
   have:¬(xs.length:Int)=ys.length:=by simpa using h
   omega
  rw [Gg h] at hk;exact Gh.done hk
 have h:xs.length=ys.length:=by
  have:(xs.length:Int)=ys.length:=by simpa using h
  omega
 try refine zqe ?_
 refine loop (fun q st I' L'=>∃k:Nat,k+q=xs.length∧st=(Value.bool false,Value.int .i64 (k:Nat),())∧I'=I∧L'=L∧eqL f xs ys=eqL f (xs.drop k) (ys.drop k)) xs.length ⟨0,by omega,rfl,rfl,rfl,rfl⟩ ?_;rintro q st I' L' ⟨k,hq,rfl,rfl,rfl,he⟩;unfold AFh;try refine zqe ?_
 refine AB (fun hb=>?_) (fun hb=>?_)
 ·have hb:k < xs.length:=by
   have:=of_decide_eq_true hb;omega
  have hb2:k < ys.length:=by omega
  obtain ⟨bt,off,c1,g1,gl,g2,g3⟩:=RL.ix hx (i:=k) (by omega) (by omega);obtain ⟨bu,off2,c2,k1,kl,k2,k3⟩:=RL.ix hy (i:=k) (by omega) (by omega);rw [Ah hb] at g2;rw [Ah hb2] at k2;rw [List.drop_eq_getElem_cons hb,List.drop_eq_getElem_cons hb2] at he;simp only [eqL] at he;simp only [g1,k1,SSd,Nat.reduceAdd];have ho1:=TOrderV.one g2;have ho2:=TOrderV.one k2;refine Ed (g3 _ [] (Ext.refl _) (fun _ h=>h)) (Ext.refl _) gl ?_;refine Ad (fun b3=>?_);refine stB gl rfl ho1 ?_;refine Ed (k3 I' [] (Ext.refl _) (fun _ h=>h)) (Ext.refl _) kl ?_;refine Ad (fun b4=>?_);refine stB kl rfl ho2 ?_;refine rdB gl ?_;refine rdB kl ?_;refine FM (CalV.to L' (hf _ (List.getElem_mem hb) ys[k] I' L' _ _ _ ⟨c1,rfl,g2⟩ ⟨c2,rfl,k2⟩ ?_));try refine zqe ?_
  cases hfe:f xs[k] ys[k] with
  |false=>
   rw [he,hfe] at hk;exact Gh.done hk
  |true=>
   simp only [wrap_i64 ((k:Int)+1) (by omega),SSd,Nat.reduceAdd];exact Gh.done ⟨q - 1,by omega,k+1,by omega,rfl,rfl,rfl,by rw [he,hfe,Bool.true_and]⟩
 ·have hb:¬k < xs.length:=by
   have:=of_decide_eq_false hb;omega
  rw [he,Hf (List.drop_eq_nil_of_le (by omega)) (List.drop_eq_nil_of_le (by omega))] at hk;exact Gh.done hk
theorem AKu {u v fv:Value}{f:TSet→TSet→Bool}{xs ys:List (TSet)}(hx:RL TSetV 12 I [] u xs)(hy:RL TSetV 12 I [] v ys)(hf:FnQ ω fv (IZ TSetV) f xs)(hl:xs.length≤1000000000000)(hk:K (.bool (eqL f xs ys)) I L):CT ω 70 #[u,v,fv] K I L:=by
 refine ASr ?_;unfold ARX;simp only [RL.len hx,RL.len hy,SSd,Nat.reduceAdd];refine AB (fun h=>?_) (fun h=>?_)
 ·have h:xs.length≠ys.length:=by
   have:¬(xs.length:Int)=ys.length:=by simpa using h
   omega
  rw [Gg h] at hk;exact Gh.done hk
 have h:xs.length=ys.length:=by
  have:(xs.length:Int)=ys.length:=by simpa using h
  omega
 try refine zqe ?_
 refine loop (fun q st I' L'=>∃k:Nat,k+q=xs.length∧st=(Value.bool false,Value.int .i64 (k:Nat),())∧I'=I∧L'=L∧eqL f xs ys=eqL f (xs.drop k) (ys.drop k)) xs.length ⟨0,by omega,rfl,rfl,rfl,rfl⟩ ?_;rintro q st I' L' ⟨k,hq,rfl,rfl,rfl,he⟩;unfold AFf;try refine zqe ?_
 refine AB (fun hb=>?_) (fun hb=>?_)
 ·have hb:k < xs.length:=by
   have:=of_decide_eq_true hb;omega
  have hb2:k < ys.length:=by omega
  obtain ⟨bt,off,c1,g1,gl,g2,g3⟩:=RL.ix hx (i:=k) (by omega) (by omega);obtain ⟨bu,off2,c2,k1,kl,k2,k3⟩:=RL.ix hy (i:=k) (by omega) (by omega);rw [Ah hb] at g2;rw [Ah hb2] at k2;rw [List.drop_eq_getElem_cons hb,List.drop_eq_getElem_cons hb2] at he;simp only [eqL] at he;simp only [g1,k1,SSd,Nat.reduceAdd];have ho1:=TSetV.one g2;have ho2:=TSetV.one k2;refine Ed (g3 _ [] (Ext.refl _) (fun _ h=>h)) (Ext.refl _) gl ?_;refine Ad (fun b3=>?_);refine stB gl rfl ho1 ?_;refine Ed (k3 I' [] (Ext.refl _) (fun _ h=>h)) (Ext.refl _) kl ?_;refine Ad (fun b4=>?_);refine stB kl rfl ho2 ?_;refine rdB gl ?_;refine rdB kl ?_;refine FM (CalV.to L' (hf _ (List.getElem_mem hb) ys[k] I' L' _ _ _ ⟨c1,rfl,g2⟩ ⟨c2,rfl,k2⟩ ?_));try refine zqe ?_
  cases hfe:f xs[k] ys[k] with
  |false=>
   rw [he,hfe] at hk;exact Gh.done hk
  |true=>
   simp only [wrap_i64 ((k:Int)+1) (by omega),SSd,Nat.reduceAdd];exact Gh.done ⟨q - 1,by omega,k+1,by omega,rfl,rfl,rfl,by rw [he,hfe,Bool.true_and]⟩
 ·have hb:¬k < xs.length:=by
   have:=of_decide_eq_false hb;omega
  rw [he,Hf (List.drop_eq_nil_of_le (by omega)) (List.drop_eq_nil_of_le (by omega))] at hk;exact Gh.done hk
theorem AKw {u v fv:Value}{f:TCol→TCol→Bool}{xs ys:List (TCol)}(hx:RL TColV 16 I [] u xs)(hy:RL TColV 16 I [] v ys)(hf:FnQ ω fv (IZ TColV) f xs)(hl:xs.length≤1000000000000)(hk:K (.bool (eqL f xs ys)) I L):CT ω 72 #[u,v,fv] K I L:=by
 refine ASp ?_;unfold ARV;simp only [RL.len hx,RL.len hy,SSd,Nat.reduceAdd];refine AB (fun h=>?_) (fun h=>?_)
 ·have h:xs.length≠ys.length:=by
   have:¬(xs.length:Int)=ys.length:=by simpa using h
   omega
  rw [Gg h] at hk;exact Gh.done hk
 have h:xs.length=ys.length:=by
  have:(xs.length:Int)=ys.length:=by simpa using h
  omega
 try refine zqe ?_
 refine loop (fun q st I' L'=>∃k:Nat,k+q=xs.length∧st=(Value.bool false,Value.int .i64 (k:Nat),())∧I'=I∧L'=L∧eqL f xs ys=eqL f (xs.drop k) (ys.drop k)) xs.length ⟨0,by omega,rfl,rfl,rfl,rfl⟩ ?_;rintro q st I' L' ⟨k,hq,rfl,rfl,rfl,he⟩;unfold AFe;try refine zqe ?_
 refine AB (fun hb=>?_) (fun hb=>?_)
 ·have hb:k < xs.length:=by
   have:=of_decide_eq_true hb;omega
  have hb2:k < ys.length:=by omega
  obtain ⟨bt,off,c1,g1,gl,g2,g3⟩:=RL.ix hx (i:=k) (by omega) (by omega);obtain ⟨bu,off2,c2,k1,kl,k2,k3⟩:=RL.ix hy (i:=k) (by omega) (by omega);rw [Ah hb] at g2;rw [Ah hb2] at k2;rw [List.drop_eq_getElem_cons hb,List.drop_eq_getElem_cons hb2] at he;simp only [eqL] at he;simp only [g1,k1,SSd,Nat.reduceAdd];have ho1:=TColV.one g2;have ho2:=TColV.one k2;refine Ed (g3 _ [] (Ext.refl _) (fun _ h=>h)) (Ext.refl _) gl ?_;refine Ad (fun b3=>?_);refine stB gl rfl ho1 ?_;refine Ed (k3 I' [] (Ext.refl _) (fun _ h=>h)) (Ext.refl _) kl ?_;refine Ad (fun b4=>?_);refine stB kl rfl ho2 ?_;refine rdB gl ?_;refine rdB kl ?_;refine FM (CalV.to L' (hf _ (List.getElem_mem hb) ys[k] I' L' _ _ _ ⟨c1,rfl,g2⟩ ⟨c2,rfl,k2⟩ ?_));try refine zqe ?_
  cases hfe:f xs[k] ys[k] with
  |false=>
   rw [he,hfe] at hk;exact Gh.done hk
  |true=>
   simp only [wrap_i64 ((k:Int)+1) (by omega),SSd,Nat.reduceAdd];exact Gh.done ⟨q - 1,by omega,k+1,by omega,rfl,rfl,rfl,by rw [he,hfe,Bool.true_and]⟩
 ·have hb:¬k < xs.length:=by
   have:=of_decide_eq_false hb;omega
  rw [he,Hf (List.drop_eq_nil_of_le (by omega)) (List.drop_eq_nil_of_le (by omega))] at hk;exact Gh.done hk
theorem AKv {u v fv:Value}{f:List Ex→List Ex→Bool}{xs ys:List (List Ex)}(hx:RL (Fh ExV 11) 1 I [] u xs)(hy:RL (Fh ExV 11) 1 I [] v ys)(hf:FnQ ω fv (AJZ (Fh ExV 11)) f xs)(hl:xs.length≤1000000000000)(hk:K (.bool (eqL f xs ys)) I L):CT ω 68 #[u,v,fv] K I L:=by
 refine ASt ?_;unfold ARZ;simp only [RL.len hx,RL.len hy,SSd,Nat.reduceAdd];refine AB (fun h=>?_) (fun h=>?_)
 ·have h:xs.length≠ys.length:=by
   have:¬(xs.length:Int)=ys.length:=by simpa using h
   omega
  rw [Gg h] at hk;exact Gh.done hk
 have h:xs.length=ys.length:=by
  have:(xs.length:Int)=ys.length:=by simpa using h
  omega
 try refine zqe ?_
 refine loop (fun q st I' L'=>∃k:Nat,k+q=xs.length∧st=(Value.bool false,Value.int .i64 (k:Nat),())∧I'=I∧L'=L∧eqL f xs ys=eqL f (xs.drop k) (ys.drop k)) xs.length ⟨0,by omega,rfl,rfl,rfl,rfl⟩ ?_;rintro q st I' L' ⟨k,hq,rfl,rfl,rfl,he⟩;unfold AFg;try refine zqe ?_
 refine AB (fun hb=>?_) (fun hb=>?_)
 ·have hb:k < xs.length:=by
   have:=of_decide_eq_true hb;omega
  have hb2:k < ys.length:=by omega
  obtain ⟨bt,off,c1,g1,gl,g2,g3⟩:=RL.ix hx (i:=k) (by omega) (by omega);obtain ⟨bu,off2,c2,k1,kl,k2,k3⟩:=RL.ix hy (i:=k) (by omega) (by omega);rw [Ah hb] at g2;rw [Ah hb2] at k2;rw [List.drop_eq_getElem_cons hb,List.drop_eq_getElem_cons hb2] at he;simp only [eqL] at he;simp only [g1,k1,SSd,Nat.reduceAdd];obtain ⟨w1,rfl⟩:∃u,c1=[u]:=by match c1,gl with|[u],_=>exact ⟨u,rfl⟩
  obtain ⟨w2,rfl⟩:∃u,c2=[u]:=by match c2,kl with|[u],_=>exact ⟨u,rfl⟩
  refine rdC (g3 I' [] (Ext.refl _) (fun _ h=>h) 0 _ rfl) (Ext.refl _) ?_;refine rdC (k3 I' [] (Ext.refl _) (fun _ h=>h) 0 _ rfl) (Ext.refl _) ?_;refine FM (CalV.to L' (hf _ (List.getElem_mem hb) ys[k] I' L' _ _ _ g2 k2 ?_));try refine zqe ?_
  cases hfe:f xs[k] ys[k] with
  |false=>
   rw [he,hfe] at hk;exact Gh.done hk
  |true=>
   simp only [wrap_i64 ((k:Int)+1) (by omega),SSd,Nat.reduceAdd];exact Gh.done ⟨q - 1,by omega,k+1,by omega,rfl,rfl,rfl,by rw [he,hfe,Bool.true_and]⟩
 ·have hb:¬k < xs.length:=by
   have:=of_decide_eq_false hb;omega
  rw [he,Hf (List.drop_eq_nil_of_le (by omega)) (List.drop_eq_nil_of_le (by omega))] at hk;exact Gh.done hk
theorem Bh:∀(n:Nat) (x:Ex),DD x≤n→okE x→∀(y:Ex) (I:Imm) (L:LH) (c d:List Value) (K:Value→M),ExV I x c→ExV I y d→K (.bool (EW x y)) I L→CT ω 60 #[.agg c.toArray,.agg d.toArray] K I L
 |0,x,h,_,_,_,_,_,_,_,_,_,_=>by have:=FK x;omega
 |n+1,x,hd,hok,y,I,L,c,d,K,hx,hy,hk=>by
  obtain ⟨v,rfl,ha⟩:=ExV.iff.1 hx;obtain ⟨u,rfl,hb⟩:=ExV.iff.1 hy;have hdd:=Di x;have hfn:FnQ ω (.func (.func 60) #[] #[]) (IZ ExV) EW x.args:=by
   rintro z hz y I L _ _ K ⟨c,rfl,hc⟩ ⟨d,rfl,hd'⟩ hk;have:=Ee hz;exact Em (by kernel_rfl) (Bh n z (by omega) (He (JG hok).2.2 hz) y I L c d K hc hd' hk)
  have hk2:∀(t:Bool) (L':LH),t=EW x y→SubP L L'→Gh (K (.bool t)) I L':=by
   intro t L' ht hs;rw [ht];exact Gh.to L (Gh.done hk)
  refine ATB ?_;unfold ARh;refine Ad (fun b1=>Ad (fun b2=>?_));have hse:=XI x y;rw [ARH] at hse;repeat' (first|refine zqa ?_|refine zqh (fun _=>?_)|((with_reducible refine call ?_);with_reducible refine AAM (ω:=ω) ha hb hfn (JG hok).2.1 ?_)|refine zqr ?_|refine zqb ?_|refine zqi ?_ ?_|refine zqc ?_|refine zqg (fun _=>?_) (fun _=>?_)|(simp only [SSd,Nat.reduceAdd,ARF]))
  all_goals (refine hk2 _ _ ?_ inferInstance;rw [hse];clear hse hk2 hk;simp_all)
theorem AFI {xs:List TItem}(hxs:∀x∈xs,okE x.fExpr):FnQ ω (.func (.func 63) #[] #[]) (IZ TItemV) sIt xs:=by
 rintro x hz y I L _ _ K ⟨c,rfl,⟨v0,rfl,h0⟩⟩ ⟨d,rfl,⟨u0,rfl,k0⟩⟩ hk;have hok:=hxs x hz;refine Em (by kernel_rfl) ?_;have hk2:∀(t:Bool) (L':LH),t=sIt x y→SubP L L'→Gh (K (.bool t)) I L':=by
  intro t L' ht hs;rw [ht];exact Gh.to L (Gh.done hk)
 refine ASy ?_;unfold ARe;refine Ad (fun b1=>Ad (fun b2=>?_));unfold sIt at hk2;repeat' (first|refine zqa ?_|refine zqh (fun _=>?_)|((with_reducible refine call ?_);with_reducible refine Bh (ω:=ω) _ x.fExpr (Nat.le_refl _) hok y.fExpr _ _ _ _ _ (ExV.iff.2 ⟨v0,rfl,h0⟩) (ExV.iff.2 ⟨u0,rfl,k0⟩) ?_)|refine zqr ?_|refine zqb ?_|refine zqi ?_ ?_|refine zqc ?_|refine zqg (fun _=>?_) (fun _=>?_)|refine zqe ?_|fail)
 all_goals (refine hk2 _ _ ?_ inferInstance;clear hk2 hk;simp_all)
theorem Yt {xs:List TSource}(hxs:∀x∈xs,okE x.fOn):FnQ ω (.func (.func 65) #[] #[]) (IZ TSourceV) sSo xs:=by
 rintro x hz y I L _ _ K ⟨c,rfl,⟨v0,rfl,h0⟩⟩ ⟨d,rfl,⟨u0,rfl,k0⟩⟩ hk;have hok:=hxs x hz;refine Em (by kernel_rfl) ?_;have hk2:∀(t:Bool) (L':LH),t=sSo x y→SubP L L'→Gh (K (.bool t)) I L':=by
  intro t L' ht hs;rw [ht];exact Gh.to L (Gh.done hk)
 refine ASw ?_;unfold ARc;refine Ad (fun b1=>Ad (fun b2=>?_));unfold sSo at hk2;repeat' (first|refine zqa ?_|refine zqh (fun _=>?_)|((with_reducible refine call ?_);with_reducible refine Bh (ω:=ω) _ x.fOn (Nat.le_refl _) hok y.fOn _ _ _ _ _ (ExV.iff.2 ⟨v0,rfl,h0⟩) (ExV.iff.2 ⟨u0,rfl,k0⟩) ?_)|refine zqr ?_|refine zqb ?_|refine zqi ?_ ?_|refine zqc ?_|refine zqg (fun _=>?_) (fun _=>?_)|refine zqe ?_|fail)
 all_goals (refine hk2 _ _ ?_ inferInstance;clear hk2 hk;simp_all)
theorem ADY {xs:List TOrder}(hxs:∀x∈xs,okE x.fExpr):FnQ ω (.func (.func 67) #[] #[]) (IZ TOrderV) sOr xs:=by
 rintro x hz y I L _ _ K ⟨c,rfl,⟨v0,rfl,h0⟩⟩ ⟨d,rfl,⟨u0,rfl,k0⟩⟩ hk;have hok:=hxs x hz;refine Em (by kernel_rfl) ?_;have hk2:∀(t:Bool) (L':LH),t=sOr x y→SubP L L'→Gh (K (.bool t)) I L':=by
  intro t L' ht hs;rw [ht];exact Gh.to L (Gh.done hk)
 refine ASu ?_;unfold ARa;refine Ad (fun b1=>Ad (fun b2=>?_));unfold sOr at hk2;repeat' (first|refine zqa ?_|refine zqh (fun _=>?_)|((with_reducible refine call ?_);with_reducible refine Bh (ω:=ω) _ x.fExpr (Nat.le_refl _) hok y.fExpr _ _ _ _ _ (ExV.iff.2 ⟨v0,rfl,h0⟩) (ExV.iff.2 ⟨u0,rfl,k0⟩) ?_)|refine zqr ?_|refine zqb ?_|refine zqi ?_ ?_|refine zqc ?_|refine zqg (fun _=>?_) (fun _=>?_)|refine zqe ?_|fail)
 all_goals (refine hk2 _ _ ?_ inferInstance;clear hk2 hk;simp_all)
theorem AJq {xs:List TSet}(hxs:∀x∈xs,okE x.fExpr):FnQ ω (.func (.func 71) #[] #[]) (IZ TSetV) sSe xs:=by
 rintro x hz y I L _ _ K ⟨c,rfl,⟨v0,rfl,h0⟩⟩ ⟨d,rfl,⟨u0,rfl,k0⟩⟩ hk;have hok:=hxs x hz;refine Em (by kernel_rfl) ?_;have hk2:∀(t:Bool) (L':LH),t=sSe x y→SubP L L'→Gh (K (.bool t)) I L':=by
  intro t L' ht hs;rw [ht];exact Gh.to L (Gh.done hk)
 refine ASq ?_;unfold ARW;refine Ad (fun b1=>Ad (fun b2=>?_));unfold sSe at hk2;repeat' (first|refine zqa ?_|refine zqh (fun _=>?_)|((with_reducible refine call ?_);with_reducible refine Bh (ω:=ω) _ x.fExpr (Nat.le_refl _) hok y.fExpr _ _ _ _ _ (ExV.iff.2 ⟨v0,rfl,h0⟩) (ExV.iff.2 ⟨u0,rfl,k0⟩) ?_)|refine zqr ?_|refine zqb ?_|refine zqi ?_ ?_|refine zqc ?_|refine zqg (fun _=>?_) (fun _=>?_)|refine zqe ?_|fail)
 all_goals (refine hk2 _ _ ?_ inferInstance;clear hk2 hk;simp_all)
theorem AKH {xs:List TCol}(hxs:∀x∈xs,okE x.fDefault):FnQ ω (.func (.func 73) #[] #[]) (IZ TColV) sCo xs:=by
 rintro x hz y I L _ _ K ⟨c,rfl,⟨v0,rfl,h0⟩⟩ ⟨d,rfl,⟨u0,rfl,k0⟩⟩ hk;have hok:=hxs x hz;refine Em (by kernel_rfl) ?_;have hk2:∀(t:Bool) (L':LH),t=sCo x y→SubP L L'→Gh (K (.bool t)) I L':=by
  intro t L' ht hs;rw [ht];exact Gh.to L (Gh.done hk)
 refine ASo ?_;unfold ARU;refine Ad (fun b1=>Ad (fun b2=>?_));unfold sCo at hk2;repeat' (first|refine zqa ?_|refine zqh (fun _=>?_)|((with_reducible refine call ?_);with_reducible refine Bh (ω:=ω) _ x.fDefault (Nat.le_refl _) hok y.fDefault _ _ _ _ _ (ExV.iff.2 ⟨v0,rfl,h0⟩) (ExV.iff.2 ⟨u0,rfl,k0⟩) ?_)|refine zqr ?_|refine zqb ?_|refine zqi ?_ ?_|refine zqc ?_|refine zqg (fun _=>?_) (fun _=>?_)|refine zqe ?_|fail)
 all_goals (refine hk2 _ _ ?_ inferInstance;clear hk2 hk;simp_all)
theorem AJr {xs:List (List Ex)}(hxs:∀x∈xs,okL x∧x.length≤1000000000000):FnQ ω (.func (.func 69) #[] #[]) (AJZ (Fh ExV 11)) (eqL EW) xs:=by
 intro x hz y I L u v K hu hv hk;obtain ⟨u',hu',h0⟩:=(show Fh ExV 11 I x [u] from hu);obtain ⟨v',hv',k0⟩:=(show Fh ExV 11 I y [v] from hv);obtain rfl:u=u':=by simpa using hu'
 obtain rfl:v=v':=by simpa using hv'
 refine Em (by kernel_rfl) ?_;refine ASs ?_;unfold ARY;refine call (AAM h0 k0 ?_ (hxs x hz).2 (Gh.done hk));rintro z hzz y I L _ _ K ⟨c,rfl,hc⟩ ⟨d,rfl,hd'⟩ hk;exact Em (by kernel_rfl) (Bh _ z (Nat.le_refl _) (He (hxs x hz).1 hzz) y I L c d K hc hd' hk)
end
theorem Xa {l:List TStmt}{k:Nat}(h:k < l.length):BL (l.take (k+1))=BL (l.take k)+FU l[k]:=by
 rw [List.take_succ_eq_append_getElem h];simp only [BL,List.map_append,List.sum_append,List.map_cons,List.map_nil,List.sum_cons,List.sum_nil,Nat.add_zero]
theorem Ug:∀a b:List TStmt,Dq (a++b)=max (Dq a) (Dq b)
 |[],b=>by simp [Dq]
 |x::a,b=>by simp only [List.cons_append,Dq,Ug a b];omega
theorem AAQ {l:List TStmt}{k:Nat}(h:k < l.length):Dq (l.take (k+1))=max (Dq (l.take k)) (SV l[k]):=by
 rw [List.take_succ_eq_append_getElem h,Ug];simp [Dq]
theorem AEB {l:List TStmt}(k:Nat):BL (l.take k)≤BL l:=by
 have h:BL l=BL (l.take k)+BL (l.drop k):=by
  unfold BL;rw [←List.sum_append,←List.map_append,List.take_append_drop]
 omega
theorem RX:∀l:List TStmt,l.length≤BL l
 |[]=>Nat.zero_le _
 |s::l=>by
  have:=RX l;simp only [BL,List.map_cons,List.sum_cons,List.length_cons,FU] at this ⊢;omega
section
variable {ω:Om}
theorem ADa {I:Imm}{L:LH}{K:Value→M}{v:Value}{l:List TStmt}(hl:RL TStmtV 51 I [] v l)(hp:BL l≤1000000000)(hc:∀s∈l,cS s≤1000000000)
  (hk:∀I',Ext I I'→K (.tuple #[.int .i64 (BL l:Nat),.int .i64 (Dq l:Nat)]) I' L):CT ω 47 #[v] K I L:=by
 refine ATG ?_;unfold ARm;simp only [RL.len hl,SSd,Nat.reduceAdd];refine Ad (fun b1=>?_);refine Ad (fun b2=>?_);refine st1 rfl ?_;refine st1 rfl ?_;have hlen:=RX l;refine loop (fun q st I' L'=>∃k:Nat,k+q=l.length∧st=(.int .i64 k,())∧Ext I I'∧L'=(b2,Dl (Dq (l.take k)))::(b1,Dl (BL (l.take k)+(l.length - k)))::L) l.length ⟨0,by omega,rfl,Ext.refl _,?_⟩ ?_
 ·rw [show ((BL (l.take 0):Nat):Int)+((l.length:Int) - (0:Nat))=l.length by simp [BL]];rfl
 rintro q st I' L' ⟨k,hkq,rfl,hI',rfl⟩;unfold AFo;try refine zqe ?_
 refine AB (fun hb=>?_) (fun hb=>?_)
 ·have hb:k < l.length:=by
   have:=of_decide_eq_true hb;omega
  obtain ⟨bt,off,c1,g1,gl,g2,g3⟩:=RL.ix hl (i:=k) (by omega) (by omega);rw [Ah hb] at g2;have g2:=g2.mono hI';have hone:=TStmtV.one g2;simp only [g1,SSd,Nat.reduceAdd];refine Ed (g3 _ [] hI' (fun _ h=>h)) (Ext.refl _) gl ?_;refine Ad (fun b3=>?_);refine stB gl rfl hone ?_;refine rdB gl ?_;refine call ?_;have hcs:=hc _ (List.getElem_mem hb);have hpk:=Xa hb;have hdk:=AAQ hb;have hle:=AEB (l:=l) (k+1);have e1:FU l[k]=AY (GU l[k])+1:=rfl;refine Cal.to ((b1,Dl (BL (l.take k)+(l.length - k)))::(b2,Dl (Dq (l.take k)))::L) ?_;refine AES g2 hcs (by omega) (by omega) (by omega) (fun I2 hI2=>?_);simp only [wrap_i64 ((k:Int)+1) (by omega),SSd,Nat.reduceAdd];rw [show (BL (l.take k):Int)+((l.length:Int) - k)+AY (GU l[k])=BL (l.take (k+1))+((l.length:Int) - (k+1:Nat)) by omega,show max (Dq (l.take k):Int) (BX (GU l[k]))=Dq (l.take (k+1)) by rw [hdk];simp only [SV];omega];exact Gh.to ((b2,Dl (Dq (l.take (k+1))))::(b1,Dl (BL (l.take (k+1))+(l.length - (k+1:Nat))))::L) (Gh.done ⟨q - 1,by omega,k+1,by omega,rfl,Ext.trans hI' hI2,rfl⟩)
 ·have hb:¬k < l.length:=by
   have:=of_decide_eq_false hb;omega
  have hkl:l.take k=l:=List.take_of_length_le (by omega);rw [hkl,show (BL l:Int)+((l.length:Int) - k)=BL l by omega];unfold AFn;repeat' (first|refine zqa ?_|refine zqh (fun _=>?_)|refine zqr ?_|refine zqb ?_|refine zqi ?_ ?_|refine zqc ?_|refine zqg (fun _=>?_) (fun _=>?_)|refine zqe ?_|fail)
  exact Gh.to _ (Gh.done (hk I' hI'))
theorem NY:ATn ω:=by
 intro v l K I L hl hp hc hk;refine ATR ?_;unfold ARw;refine call (ADa hl hp hc (fun I' hI'=>?_));have hk:=hk I' hI';unfold NZ at hk;try refine zqe ?_
 refine AB (fun hb=>?_) (fun hb=>?_)
 ·have hb:=of_decide_eq_true hb;rw [if_pos (by omega)] at hk;exact Gh.done hk
 ·have hb:=of_decide_eq_false hb;rw [if_neg (by omega)] at hk;try refine zqe ?_
  refine AB (fun hb2=>?_) (fun hb2=>?_)
  ·have hb2:=of_decide_eq_true hb2;rw [if_pos (by omega)] at hk;exact Gh.done hk
  ·have hb2:=of_decide_eq_false hb2;rw [if_neg (by omega)] at hk;exact Gh.done hk
end
section
variable {ω:Om}{G I:Imm}{L F:LH}{K:Value→M}
set_option maxHeartbeats 4000000 in
theorem AGa {a b:TStmt}{b1 b2 b3 b4:Nat}{xa0 xa1 xa2 xa3 xa4 xa5 xa6 xa7 xa8 xa9 xa10 xa11 xa12 ya0 ya1 ya2 ya3 ya4 ya5 ya6 ya7 ya8 ya9 ya10 ya11 ya12:Option Addr}{xk0 xk1 xk2 xk3 xk4 xk5 xk6 xk7 xk8 xk9 xk10 xk11 xk12 yk0 yk1 yk2 yk3 yk4 yk5 yk6 yk7 yk8 yk9 yk10 yk11 yk12:Nat}(hq:OkS a)(h0:RL TItemV 14 I [] (.slice xa0 a.fSelect.fItems.length xk0) a.fSelect.fItems)(h1:RL TSourceV 14 I [] (.slice xa1 a.fSelect.fFrom.length xk1) a.fSelect.fFrom)(h2:ExL I (.slice xa2 a.fSelect.fWhere.args.length xk2) a.fSelect.fWhere.args)(h3:RL ExV 11 I [] (.slice xa3 a.fSelect.fGroup.length xk3) a.fSelect.fGroup)(h4:ExL I (.slice xa4 a.fSelect.fHaving.args.length xk4) a.fSelect.fHaving.args)(h5:RL TOrderV 12 I [] (.slice xa5 a.fSelect.fOrder.length xk5) a.fSelect.fOrder)(h6:RL StrV 1 I [] (.slice xa6 a.fColumns.length xk6) a.fColumns)(h7:RL (Fh ExV 11) 1 I [] (.slice xa7 a.fRows.length xk7) a.fRows)(h8:RL TSetV 12 I [] (.slice xa8 a.fSets.length xk8) a.fSets)(h9:ExL I (.slice xa9 a.fWhere.args.length xk9) a.fWhere.args)(h10:RL TColV 16 I [] (.slice xa10 a.fCols.length xk10) a.fCols)(h11:RL StrV 1 I [] (.slice xa11 a.fKey.length xk11) a.fKey)(h12:RL StrV 1 I [] (.slice xa12 a.fIndex.fColumns.length xk12) a.fIndex.fColumns)(g0:RL TItemV 14 I [] (.slice ya0 b.fSelect.fItems.length yk0) b.fSelect.fItems)(g1:RL TSourceV 14 I [] (.slice ya1 b.fSelect.fFrom.length yk1) b.fSelect.fFrom)(g2:ExL I (.slice ya2 b.fSelect.fWhere.args.length yk2) b.fSelect.fWhere.args)(g3:RL ExV 11 I [] (.slice ya3 b.fSelect.fGroup.length yk3) b.fSelect.fGroup)(g4:ExL I (.slice ya4 b.fSelect.fHaving.args.length yk4) b.fSelect.fHaving.args)(g5:RL TOrderV 12 I [] (.slice ya5 b.fSelect.fOrder.length yk5) b.fSelect.fOrder)(g6:RL StrV 1 I [] (.slice ya6 b.fColumns.length yk6) b.fColumns)(g7:RL (Fh ExV 11) 1 I [] (.slice ya7 b.fRows.length yk7) b.fRows)(g8:RL TSetV 12 I [] (.slice ya8 b.fSets.length yk8) b.fSets)(g9:ExL I (.slice ya9 b.fWhere.args.length yk9) b.fWhere.args)(g10:RL TColV 16 I [] (.slice ya10 b.fCols.length yk10) b.fCols)(g11:RL StrV 1 I [] (.slice ya11 b.fKey.length yk11) b.fKey)(g12:RL StrV 1 I [] (.slice ya12 b.fIndex.fColumns.length yk12) b.fIndex.fColumns)
  [i1:InL b1 L (.cells (stC a (.slice xa0 a.fSelect.fItems.length xk0) (.slice xa1 a.fSelect.fFrom.length xk1) (.slice xa2 a.fSelect.fWhere.args.length xk2) (.slice xa3 a.fSelect.fGroup.length xk3) (.slice xa4 a.fSelect.fHaving.args.length xk4) (.slice xa5 a.fSelect.fOrder.length xk5) (.slice xa6 a.fColumns.length xk6) (.slice xa7 a.fRows.length xk7) (.slice xa8 a.fSets.length xk8) (.slice xa9 a.fWhere.args.length xk9) (.slice xa10 a.fCols.length xk10) (.slice xa11 a.fKey.length xk11) (.slice xa12 a.fIndex.fColumns.length xk12)).toArray 48 (0,0))] [i2:InL b2 L (.cells (stC b (.slice ya0 b.fSelect.fItems.length yk0) (.slice ya1 b.fSelect.fFrom.length yk1) (.slice ya2 b.fSelect.fWhere.args.length yk2) (.slice ya3 b.fSelect.fGroup.length yk3) (.slice ya4 b.fSelect.fHaving.args.length yk4) (.slice ya5 b.fSelect.fOrder.length yk5) (.slice ya6 b.fColumns.length yk6) (.slice ya7 b.fRows.length yk7) (.slice ya8 b.fSets.length yk8) (.slice ya9 b.fWhere.args.length yk9) (.slice ya10 b.fCols.length yk10) (.slice ya11 b.fKey.length yk11) (.slice ya12 b.fIndex.fColumns.length yk12)).toArray 48 (0,0))] [i3:InL b3 L (.cells (selC a.fSelect (.slice xa0 a.fSelect.fItems.length xk0) (.slice xa1 a.fSelect.fFrom.length xk1) (.slice xa2 a.fSelect.fWhere.args.length xk2) (.slice xa3 a.fSelect.fGroup.length xk3) (.slice xa4 a.fSelect.fHaving.args.length xk4) (.slice xa5 a.fSelect.fOrder.length xk5)).toArray 40 (0,0))] [i4:InL b4 L (.cells (selC b.fSelect (.slice ya0 b.fSelect.fItems.length yk0) (.slice ya1 b.fSelect.fFrom.length yk1) (.slice ya2 b.fSelect.fWhere.args.length yk2) (.slice ya3 b.fSelect.fGroup.length yk3) (.slice ya4 b.fSelect.fHaving.args.length yk4) (.slice ya5 b.fSelect.fOrder.length yk5)).toArray 40 (0,0))]
  (hk:Gh (K (.bool (Lc a b))) I L):VH ω (AP b1) (AP b2) (.bool false) (AP b3) (AP b4) (fun v=>Gh (K v)) I L:=by
 unfold VH;have hcnt:=hq.cnt;unfold cS cQ at hcnt;have hfe:FnQ ω (.func (.func 60) #[] #[]) (IZ ExV) EW a.fSelect.fGroup:=by
  rintro z hzz y I L _ _ K ⟨c,rfl,hc⟩ ⟨d,rfl,hd'⟩ hk;exact Em (by kernel_rfl) (Bh _ z (Nat.le_refl _) (He hq.q.gr hzz) y I L c d K hc hd' hk)
 have hk2:∀t:Bool,t=Lc a b→Gh (K (.bool t)) I L:=by
  intro t ht;rw [ht];exact hk
 unfold Lc sQu sIx sRe at hk2;repeat' (first|refine zqa ?_|refine zqh (fun _=>?_)|((with_reducible refine call ?_);with_reducible refine Bh (ω:=ω) _ a.fSelect.fWhere (Nat.le_refl _) hq.q.wh b.fSelect.fWhere _ _ _ _ _ (ExV.iff.2 ⟨.slice xa2 a.fSelect.fWhere.args.length xk2,rfl,h2⟩) (ExV.iff.2 ⟨.slice ya2 b.fSelect.fWhere.args.length yk2,rfl,g2⟩) ?_)|((with_reducible refine call ?_);with_reducible refine Bh (ω:=ω) _ a.fSelect.fHaving (Nat.le_refl _) hq.q.ha b.fSelect.fHaving _ _ _ _ _ (ExV.iff.2 ⟨.slice xa4 a.fSelect.fHaving.args.length xk4,rfl,h4⟩) (ExV.iff.2 ⟨.slice ya4 b.fSelect.fHaving.args.length yk4,rfl,g4⟩) ?_)|((with_reducible refine call ?_);with_reducible refine Bh (ω:=ω) _ a.fWhere (Nat.le_refl _) hq.wh b.fWhere _ _ _ _ _ (ExV.iff.2 ⟨.slice xa9 a.fWhere.args.length xk9,rfl,h9⟩) (ExV.iff.2 ⟨.slice ya9 b.fWhere.args.length yk9,rfl,g9⟩) ?_)|((with_reducible refine call ?_);with_reducible refine AAM (ω:=ω) h3 g3 hfe (by omega) ?_)|((with_reducible refine call ?_);with_reducible refine AIH (ω:=ω) h0 g0 (AFI hq.q.it) (by omega) ?_)|((with_reducible refine call ?_);with_reducible refine AAL (ω:=ω) h1 g1 (Yt hq.q.fr) (by omega) ?_)|((with_reducible refine call ?_);with_reducible refine AER (ω:=ω) h5 g5 (ADY hq.q.od) (by omega) ?_)|((with_reducible refine call ?_);with_reducible refine AKv (ω:=ω) h7 g7 (AJr hq.rows) (by omega) ?_)|((with_reducible refine call ?_);with_reducible refine AKu (ω:=ω) h8 g8 (AJq hq.sets) (by omega) ?_)|((with_reducible refine call ?_);with_reducible refine AKw (ω:=ω) h10 g10 (AKH hq.cols) (by omega) ?_)|((with_reducible refine call ?_);with_reducible refine MM (ω:=ω) h6 g6 hq.n1 ?_)|((with_reducible refine call ?_);with_reducible refine MM (ω:=ω) h11 g11 hq.n2 ?_)|((with_reducible refine call ?_);with_reducible refine MM (ω:=ω) h12 g12 hq.n3 ?_)|refine zqr ?_|refine zqb ?_|refine zqi ?_ ?_|refine zqc ?_|refine zqg (fun _=>?_) (fun _=>?_)|refine zqe ?_|fail)
 all_goals (refine hk2 _ ?_;clear hk2 hk hfe hcnt hq h0 h1 h2 h3 h4 h5 h6 h7 h8 h9 h10 h11 h12 g0 g1 g2 g3 g4 g5 g6 g7 g8 g9 g10 g11 g12;first|rfl|(simp only [*,Bool.and_true,Bool.and_false,Bool.false_and,Bool.true_and,Bool.and_self];done)|(simp_all;done))
theorem ADk {a b:TStmt}{c d:List Value}(hq:OkS a)(hc:TStmtV I a c)(hd:TStmtV I b d)(hk:K (.bool (Lc a b)) I L):CT ω 31 #[.agg c.toArray,.agg d.toArray] K I L:=by
 obtain ⟨v0,v1,v2,v3,v4,v5,v6,v7,v8,v9,v10,v11,v12,rfl,h0,h1,h2,h3,h4,h5,h6,h7,h8,h9,h10,h11,h12⟩:=hc;obtain ⟨u0,u1,u2,u3,u4,u5,u6,u7,u8,u9,u10,u11,u12,rfl,g0,g1,g2,g3,g4,g5,g6,g7,g8,g9,g10,g11,g12⟩:=hd;obtain ⟨xa0,xk0,rfl⟩:=RL.form h0;obtain ⟨xa1,xk1,rfl⟩:=RL.form h1;obtain ⟨xa2,xk2,rfl⟩:=RL.form h2;obtain ⟨xa3,xk3,rfl⟩:=RL.form h3;obtain ⟨xa4,xk4,rfl⟩:=RL.form h4;obtain ⟨xa5,xk5,rfl⟩:=RL.form h5;obtain ⟨xa6,xk6,rfl⟩:=RL.form h6;obtain ⟨xa7,xk7,rfl⟩:=RL.form h7;obtain ⟨xa8,xk8,rfl⟩:=RL.form h8;obtain ⟨xa9,xk9,rfl⟩:=RL.form h9;obtain ⟨xa10,xk10,rfl⟩:=RL.form h10;obtain ⟨xa11,xk11,rfl⟩:=RL.form h11;obtain ⟨xa12,xk12,rfl⟩:=RL.form h12;obtain ⟨ya0,yk0,rfl⟩:=RL.form g0;obtain ⟨ya1,yk1,rfl⟩:=RL.form g1;obtain ⟨ya2,yk2,rfl⟩:=RL.form g2;obtain ⟨ya3,yk3,rfl⟩:=RL.form g3;obtain ⟨ya4,yk4,rfl⟩:=RL.form g4;obtain ⟨ya5,yk5,rfl⟩:=RL.form g5;obtain ⟨ya6,yk6,rfl⟩:=RL.form g6;obtain ⟨ya7,yk7,rfl⟩:=RL.form g7;obtain ⟨ya8,yk8,rfl⟩:=RL.form g8;obtain ⟨ya9,yk9,rfl⟩:=RL.form g9;obtain ⟨ya10,yk10,rfl⟩:=RL.form g10;obtain ⟨ya11,yk11,rfl⟩:=RL.form g11;obtain ⟨ya12,yk12,rfl⟩:=RL.form g12;refine ATN ?_;unfold ARs;refine Ad (o:=.cells (stC a (.slice xa0 a.fSelect.fItems.length xk0) (.slice xa1 a.fSelect.fFrom.length xk1) (.slice xa2 a.fSelect.fWhere.args.length xk2) (.slice xa3 a.fSelect.fGroup.length xk3) (.slice xa4 a.fSelect.fHaving.args.length xk4) (.slice xa5 a.fSelect.fOrder.length xk5) (.slice xa6 a.fColumns.length xk6) (.slice xa7 a.fRows.length xk7) (.slice xa8 a.fSets.length xk8) (.slice xa9 a.fWhere.args.length xk9) (.slice xa10 a.fCols.length xk10) (.slice xa11 a.fKey.length xk11) (.slice xa12 a.fIndex.fColumns.length xk12)).toArray 48 (0,0)) (fun b1=>?_)
 refine Ad (o:=.cells (stC b (.slice ya0 b.fSelect.fItems.length yk0) (.slice ya1 b.fSelect.fFrom.length yk1) (.slice ya2 b.fSelect.fWhere.args.length yk2) (.slice ya3 b.fSelect.fGroup.length yk3) (.slice ya4 b.fSelect.fHaving.args.length yk4) (.slice ya5 b.fSelect.fOrder.length yk5) (.slice ya6 b.fColumns.length yk6) (.slice ya7 b.fRows.length yk7) (.slice ya8 b.fSets.length yk8) (.slice ya9 b.fWhere.args.length yk9) (.slice ya10 b.fCols.length yk10) (.slice ya11 b.fKey.length yk11) (.slice ya12 b.fIndex.fColumns.length yk12)).toArray 48 (0,0)) (fun b2=>?_);refine EM ?_;try refine zqe ?_
 refine AHE (selC a.fSelect (.slice xa0 a.fSelect.fItems.length xk0) (.slice xa1 a.fSelect.fFrom.length xk1) (.slice xa2 a.fSelect.fWhere.args.length xk2) (.slice xa3 a.fSelect.fGroup.length xk3) (.slice xa4 a.fSelect.fHaving.args.length xk4) (.slice xa5 a.fSelect.fOrder.length xk5)) rfl rfl ?_;refine AHE (selC b.fSelect (.slice ya0 b.fSelect.fItems.length yk0) (.slice ya1 b.fSelect.fFrom.length yk1) (.slice ya2 b.fSelect.fWhere.args.length yk2) (.slice ya3 b.fSelect.fGroup.length yk3) (.slice ya4 b.fSelect.fHaving.args.length yk4) (.slice ya5 b.fSelect.fOrder.length yk5)) rfl rfl ?_;refine ⟨?_,?_⟩
 ·refine Ad (fun b3=>Bv (Ext.refl _) ?_);refine Ad (fun b4=>Bv (Ext.refl _) ?_);refine stB rfl rfl (Au rfl) (Bv (Ext.refl _) ?_);refine stB rfl rfl (Au rfl) ?_;exact AGa hq h0 h1 h2 h3 h4 h5 h6 h7 h8 h9 h10 h11 h12 g0 g1 g2 g3 g4 g5 g6 g7 g8 g9 g10 g11 g12 (Gh.to L (Gh.done hk))
 ·refine Ad (fun b4=>Bv (Ext.refl _) ?_);refine Ad (fun b3=>Bv (Ext.refl _) ?_);refine stB rfl rfl (Au rfl) (Bv (Ext.refl _) ?_);refine stB rfl rfl (Au rfl) ?_;exact AGa hq h0 h1 h2 h3 h4 h5 h6 h7 h8 h9 h10 h11 h12 g0 g1 g2 g3 g4 g5 g6 g7 g8 g9 g10 g11 g12 (Gh.to L (Gh.done hk))
def FT (s:TStmt):Int:=match (readA (BF true s)) with
 |([x],f)=>if f=ok0 then (if Lc x s then NZ (FU s) (SV s) else 177) else 177
 |_=>177
def Me (s:TStmt):Bs×Int:=if FT s≠0 then ([],FT s) else if 65536 < (BF true s).length then ([],170) else (BF true s,0)
end
def wtext:Bs:=[97,110,100,32,97,115,32,97,115,99,32,98,101,103,105,110,32,98,101,116,119,101,101,110,32,98,121,32,99,97,115,101,32,99,111,109,109,105,116,32,99,114,101,97,116,101,32,99,114,111,115,115,32,100,101,102,97,117,108,116,32,100,101,108,101,116,101,32,100,101,115,99,32,100,105,115,116,105,110,99,116,32,100,114,111,112,32,101,108,115,101,32,101,110,100,32,102,97,108,115,101,32,102,114,111,109,32,103,114,111,117,112,32,104,97,118,105,110,103,32,105,110,32,105,110,100,101,120,32,105,110,110,101,114,32,105,110,115,101,114,116,32,105,110,116,111,32,105,115,32,106,111,105,110,32,107,101,121,32,108,101,102,116,32,108,105,107,101,32,108,105,109,105,116,32,110,111,116,32,110,117,108,108,32,111,102,102,115,101,116,32,111,110,32,111,114,32,111,114,100,101,114,32,112,114,105,109,97,114,121,32,114,111,108,108,98,97,99,107,32,115,101,108,101,99,116,32,115,101,116,32,116,97,98,108,101,32,116,104,101,110,32,116,114,117,101,32,117,110,105,113,117,101,32,117,112,100,97,116,101,32,118,97,108,117,101,115,32,119,104,101,110,32,119,104,101,114,101]
def spN (c:UInt8):Int:=if (9≤c&&c≤13)||c==32 then 1 else 0
def SpG (G:Imm):Prop:=∀c:UInt8,Cell G [] 0 c.toNat (.int .u8 (spN c))
def trF:Nat→Int×Int×Int
 |0=>(0,1,0)
 |i+1=>let t:=trF i
  let c:=wtext.getD i 0
  (IntKind.i64.wrap (t.1+IU .and .i64 t.2.1 (IU .xor .i64 (if IntKind.i64.signed then -1 else IntKind.i64.max) (IntKind.i64.wrap (spN c)))),IntKind.i64.wrap (spN c),IU .or .u8 t.2.2 c.toNat)
def Vj (k:Nat):Nat:=((wordsL.take k).map fun w=>w.length+1).sum
def wiF (i:Nat):Nat:=((wtext.take i).filter fun c=>spN c==1).length
theorem ANn:(trF wtext.length).1=50∧decide ((trF wtext.length).2.2≥128)=false:=by decide+kernel
theorem AFE:(List.range wtext.length).all (fun i=>if spN (wtext.getD i 0)=0 then wiF (i+1)==wiF i else
  decide (wiF i < 49)&&wiF (i+1)==wiF i+1&&decide (Vj (wiF i)≤i)&&(wtext.drop (Vj (wiF i))).take (i - Vj (wiF i))==wordsL.getD (wiF i) []&&i+1==Vj (wiF i+1)&&decide (i+1 < wtext.length)&&spN (wtext.getD (i+1) 0)==0)=true:=by decide+kernel
theorem AJu:wiF wtext.length=49∧Vj 49 < wtext.length∧wtext.drop (Vj 49)=wordsL.getD 49 []:=by decide+kernel
theorem Ye {i:Nat}(h:i < wtext.length):wtext[i]? =some (wtext.getD i 0):=by
 rw [List.getElem?_eq_getElem h];simp [h]
theorem XD {I:Imm}{X L F:LH}[hsp:SplitL X L F]{T len:Nat}{v u:Value}{cells:List Value}{i:Int}(ho:SlO T 1 X v cells len)(h0:0≤i)(h1:i < len)(hu:u.oneCell'=true):
  ∃b,ixV 1 v (.int .i64 i)=some (.pointer (some ⟨b,i.toNat,none⟩))∧∀K:Value→M,(∀X',SlO T 1 X' v (cells.set i.toNat u) len→K undef I (X'++F))→Sto 1 (.pointer (some ⟨b,i.toNat,none⟩)) u (gh K) I L:=by
 obtain ⟨b,e,_⟩:=ACD (I:=I) (L:=L) (F:=F) (u:=u) (K:=fun _ _ _=>True) ho h0 h1 hu (fun _ _=>trivial);refine ⟨b,e,fun K hk=>?_⟩;obtain ⟨b',e',h⟩:=ACD (I:=I) (L:=L) (F:=F) (u:=u) (K:=K) ho h0 h1 hu hk;rw [e] at e';simp only [Option.some.injEq,Value.pointer.injEq,Addr.mk.injEq,and_true] at e';rw [e'];exact h
section
variable {ω:Om}
theorem rdG {G I:Imm}{L:LH}{K:Value→M}(hG:SpG G)(hI:Ext G I)(c:UInt8)(hk:K (.int .u8 (spN c)) I L):Rv none (Ap (.pointer (some ⟨0,c.toNat * 1,none⟩))) K I L:=by
 refine rd1 ?_ hk;have:=(hG c).mono hI (L':=L) (fun _ h=>by cases h);simpa using this
theorem Vq (c:UInt8):Vr 1 256 (.pointer (some ⟨0,0,none⟩)) (.int .u8 c.toNat)=some (.pointer (some ⟨0,c.toNat * 1,none⟩)):=by
 have:=c.toNat_lt;have h2:((c.toNat:Int) < 256):=by omega
 simp [Vr,h2,Addr.add]
theorem Vw {G I:Imm}{L:LH}{K:Value→M}(hG:SpG G)(hGI:Ext G I)(hk:∀X v,SlO 9 1 X v (wordsL.map fun x=>Value.string ⟨x.toArray⟩) wordsL.length→K v I (X++L)):CT ω 32 #[.string ⟨wtext.toArray⟩] K I L:=by
 refine ATM ?_;unfold ARr;refine loop (fun q st I' L'=>∃i:Nat,i+q=wtext.length∧st=(.int .i64 (trF i).1,.int .i64 (trF i).2.1,.int .u8 (trF i).2.2,.int .i64 i,())∧I'=I∧L'=L) wtext.length ⟨0,by omega,rfl,rfl,rfl⟩ ?_;rintro q st I' L' ⟨i,hq,rfl,rfl,rfl⟩;unfold AFv;try refine zqe ?_
 refine AB (fun hb=>?_) (fun hb=>?_)
 ·have hb:i < wtext.length:=by
   have:=of_decide_eq_true hb;omega
  simp only [ixS wtext (Ye hb),Vq,SSd,Nat.reduceAdd];refine rdG hG hGI _ ?_;have hwl:wtext.length≤1000:=by decide+kernel
  simp only [AJh,wrap_i64 ((i:Int)+1) (by omega),SSd,Nat.reduceAdd];exact Gh.done ⟨q - 1,by omega,i+1,by omega,by rw [trF];rfl,rfl,rfl⟩
 have hb:¬i < wtext.length:=by
  have:=of_decide_eq_false hb;omega
 obtain rfl:i=wtext.length:=by omega
 unfold AFu;obtain ⟨t1,t2⟩:=ANn;simp only [t1,t2,SSd,Nat.reduceAdd];refine AOQ (ln:=50) (cn:=50) (by omega) (by omega) (by omega) (fun X v hX=>?_);have h0:∃c,wtext[0]? =some c∧spN c=0:=⟨97,rfl,rfl⟩;obtain ⟨c0,hc0,hs0⟩:=h0;refine loop (fun q st I2 L2=>st=(.int .i64 0,())∧I2=I'∧L2=X++L') 0 ⟨rfl,rfl,rfl⟩ ?_;rintro _ st I2 L2 ⟨rfl,rfl,rfl⟩;unfold AFt;simp only [show decide ((0:Int) < (wtext.length:Nat))=true from rfl,SSd,Nat.reduceAdd];simp only [ixS wtext hc0 (a:=0),Vq,show (.int .i64 0:Value)= .int .i64 ((0:Nat):Int) from rfl,SSd,Nat.reduceAdd];refine rdG hG hGI _ ?_;simp only [hs0,show ((0:Int) != 0)=false from rfl,SSd,Nat.reduceAdd];unfold ZG;have hwl:wtext.length≤1000:=by decide+kernel
 have hxz:(Builtin.zeroCells #[.string ⟨#[]⟩] 50).toList=(wordsL.take 0).map (fun x=>Value.string ⟨x.toArray⟩)++List.replicate (50 - 0) (.string ⟨#[]⟩):=by kernel_rfl
 have hX:SlO 9 1 X v ((wordsL.take 0).map (fun x=>Value.string ⟨x.toArray⟩)++List.replicate (50 - 0) (.string ⟨#[]⟩)) 50:=by rw [←hxz];exact hX
 have hw50:wordsL.length=50:=rfl;refine loop (fun q st I3 L3=>∃(i:Nat) (X':LH),i+q=wtext.length∧st=(Value.int .i64 (wiF i:Nat),Value.int .i64 (Vj (wiF i):Nat),Value.int .i64 (i:Nat),())∧I3=I2∧L3=X'++L'∧wiF i < 50∧Vj (wiF i)≤i∧SlO 9 1 X' v ((wordsL.take (wiF i)).map (fun x=>Value.string ⟨x.toArray⟩)++List.replicate (50 - wiF i) (.string ⟨#[]⟩)) 50) wtext.length ⟨0,X,by omega,rfl,rfl,rfl,by decide,by decide,hX⟩ ?_;rintro q st I3 L3 ⟨i,X',hq,rfl,rfl,rfl,hk50,hoff,hX'⟩;unfold AFs;try refine zqe ?_
 refine AB (fun hb=>?_) (fun hb=>?_)
 ·have hb:i < wtext.length:=by
   have:=of_decide_eq_true hb;omega
  have hst:=List.all_eq_true.1 AFE i (List.mem_range.2 hb);simp only [ixS wtext (Ye hb),Vq,SSd,Nat.reduceAdd];refine rdG hG hGI _ ?_;try refine zqe ?_
  refine AB (fun hs=>?_) (fun hs=>?_)
  ·have hs:spN (wtext.getD i 0)=0:=by simpa using hs
   rw [if_pos hs] at hst;have hst:wiF (i+1)=wiF i:=by simpa using hst
   simp only [wrap_i64 ((i:Int)+1) (by omega),SSd,Nat.reduceAdd];exact Gh.done ⟨q - 1,by omega,i+1,X',by omega,by rw [hst];rfl,rfl,rfl,by rw [hst];exact hk50,by rw [hst];omega,by rw [hst];exact hX'⟩
  ·have hs:¬spN (wtext.getD i 0)=0:=by simpa using hs
   rw [if_neg hs] at hst;simp only [Bool.and_eq_true,decide_eq_true_eq,beq_iff_eq] at hst;obtain ⟨⟨⟨⟨⟨⟨a1,a2⟩,a3⟩,a4⟩,a5⟩,a6⟩,a7⟩:=hst;simp only [slS wtext a3 (Nat.le_of_lt hb),a4,SSd,Nat.reduceAdd];have hkl:wiF i < wordsL.length:=by omega
   have hgd:wordsL.getD (wiF i) []=wordsL[wiF i]:=by simp [hkl]
   have hset:((wordsL.take (wiF i)).map (fun x=>Value.string ⟨x.toArray⟩)++List.replicate (50 - wiF i) (Value.string ⟨#[]⟩)).set (wiF i) (.string ⟨(wordsL.getD (wiF i) []).toArray⟩)=(wordsL.take (wiF i+1)).map (fun x=>Value.string ⟨x.toArray⟩)++List.replicate (50 - (wiF i+1)) (.string ⟨#[]⟩):=by
    rw [List.take_succ_eq_append_getElem hkl,List.map_append,hgd];rw [List.set_append_right _ _ (by simp;omega)];have e1:wiF i - ((wordsL.take (wiF i)).map (fun x=>Value.string ⟨x.toArray⟩)).length=0:=by simp;omega
    have e2:50 - wiF i=(50 - (wiF i+1))+1:=by omega
    rw [e1,e2,List.replicate_succ,List.set_cons_zero];simp
   obtain ⟨b',g1,g2⟩:=XD (I:=I3) (L:=X'++L') (F:=L') (u:=.string ⟨(wordsL.getD (wiF i) []).toArray⟩) (i:=(wiF i:Nat)) hX' (by omega) (by omega) rfl;simp only [g1,SSd,Nat.reduceAdd];refine g2 _ (fun X5 hX5=>?_);rw [Int.toNat_natCast,hset] at hX5;simp only [wrap_i64 ((i:Int)+1) (by omega),wrap_i64 ((wiF i:Int)+1) (by omega),SSd,Nat.reduceAdd];refine loop (fun q' st I6 L6=>st=(Value.int .i64 ((i+1:Nat):Int),())∧I6=I3∧L6=X5++L') 0 ⟨rfl,rfl,rfl⟩ ?_;rintro _ st I6 L6 ⟨rfl,rfl,rfl⟩;unfold AFr;have hlt:decide (((i+1:Nat):Int) < (wtext.length:Nat))=true:=decide_eq_true (by omega);simp only [hlt,ixS wtext (Ye a6),Vq,SSd,Nat.reduceAdd];refine rdG hG hGI _ ?_;simp only [a7,show ((0:Int) != 0)=false from rfl,SSd,Nat.reduceAdd];exact Gh.done ⟨q - 1,by omega,i+1,X5,by omega,by rw [a2,←a5];rfl,rfl,rfl,by rw [a2];omega,by rw [a2,←a5];omega,by rw [a2];exact hX5⟩
 ·have hb:¬i < wtext.length:=by
   have:=of_decide_eq_false hb;omega
  obtain rfl:i=wtext.length:=by omega
  obtain ⟨l1,l2,l3⟩:=AJu;rw [l1] at hX';unfold ABA;simp only [l1,show decide (((Vj 49:Nat):Int) < (wtext.length:Nat))=true from decide_eq_true (by omega),Yw wtext (Nat.le_of_lt l2),l3,SSd,Nat.reduceAdd];obtain ⟨b',g1,g2⟩:=XD (I:=I3) (L:=X'++L') (F:=L') (u:=.string ⟨(wordsL.getD 49 []).toArray⟩) (i:=((49:Nat):Int)) hX' (by omega) (by omega) rfl;simp only [g1,SSd,Nat.reduceAdd];refine g2 _ (fun X5 hX5=>?_);have hset:((wordsL.take 49).map (fun x=>Value.string ⟨x.toArray⟩)++List.replicate (50 - 49) (Value.string ⟨#[]⟩)).set ((49:Nat):Int).toNat (.string ⟨(wordsL.getD 49 []).toArray⟩)=wordsL.map (fun x=>Value.string ⟨x.toArray⟩):=rfl;rw [hset] at hX5;exact Gh.done (hk X5 _ hX5)
theorem Tf (I:Imm):∀l:List Bs,Recs (StrV I) 1 l (l.map fun x=>Value.string ⟨x.toArray⟩)
 |[]=>rfl
 |x::l=>⟨rfl,rfl,Tf I l⟩
theorem WQ {G I:Imm}{L:LH}{K:Value→M}(hG:SpG G)(hGI:Ext G I)(hk:∀X v,SlO 9 1 X v (wordsL.map fun x=>Value.string ⟨x.toArray⟩) wordsL.length→K v I (X++L)):CT ω 19 #[] K I L:=by
 refine ATV ?_;unfold ASA;exact call (Vw hG hGI (fun X v hX=>Gh.done (hk X v hX)))
theorem JP {G:Imm}(hG:SpG G):AAf ω G:=by
 intro K I L hGI hk;refine Cal.gh (WQ hG hGI (fun X v hX=>?_));exact RL.ofO (R:=StrV) (xs:=wordsL) (fun {I I' x c} h hI=>h) hX (Tf I wordsL) (fun I6 hI6 hw6=>Gh.done (hk I6 _ hI6 hw6))
end
section
variable {ω:Om}{G I:Imm}{L F:LH}{K:Value→M}
theorem RD (hG:Fg G)(hS:SpG G)(hGI:Ext G I){s:TStmt}(hq:OkS s)(hread:∀x∈(readA (BF true s)).1,OkS x)(hp:FU s≤1000000000){c:List Value}(hc:TStmtV I s c)(hn:(BF true s).length≤900000000)(hk:∀I',Ext I I'→K (.int .i64 (FT s)) I' L):
  CT ω 17 #[.agg c.toArray] K I L:=by
 have hWd:=JP (ω:=ω) hS;have hTok:=KE hWd;have hcl:=hc.len;refine ATW ?_;unfold ASB;refine Ad (fun bs=>?_);refine rdB hcl ?_;refine call (Ue hG hWd hGI hq hc (by omega) (fun I1 hI1=>?_));refine call (UJ hTok _ hn (Ext.trans hGI hI1) (fun I2 a k hI2 hw=>?_));have hI12:=Ext.trans hI1 hI2;have hrd:FT s=match (readA (BF true s)).1 with
   |[x]=>if (readA (BF true s)).2=ok0 then (if Lc x s then NZ (FU s) (SV s) else 177) else 177
   |_=>177:=by
  unfold FT;cases hr:readA (BF true s) with
  |mk l f=>cases l with
   |nil=>rfl
   |cons x l=>cases l <;> rfl
 have hcode:=RG (BF true s);generalize (readA (BF true s)).1=xs at *;generalize (readA (BF true s)).2=f at *;have fin:∀(t:Int) (I':Imm) (L':LH),t=FT s→Ext I2 I'→SubP L L'→Gh (K (.int .i64 t)) I' L':=by
  intro t I' L' ht hI' hs;rw [ht];exact Gh.to L (Gh.done (hk I' (Ext.trans hI12 hI')))
 try refine zqe ?_
 refine Ad (fun bf=>?_);refine stB rfl rfl (Au rfl) ?_;refine EM ?_;try refine zqe ?_
 refine Dt ?_;try refine zqe ?_
 have bad:f≠ok0∨(∀x,xs≠[x])→FT s=177:=by
  intro h;rw [hrd];match xs,h with
  |[x],h=>simp only;rw [if_neg (h.resolve_right (fun hc=>hc x rfl))]
  |[],_=>rfl
  |_::_::_,_=>rfl
 refine Bc (fun h0=>?_) (fun h0=>?_);rotate_left
 ·refine fin _ _ _ (bad (.inl (fun e=>?_))).symm (Ext.refl _) (by infer_instance);subst e;simp [ok0] at h0
 have h0:f.code=0:=by simpa using h0
 have hf:f=ok0:=by
  rcases hcode with h|h
  ·exact h
  ·exact absurd h0 h.1
 try refine zqe ?_
 refine Bc (fun h1=>?_) (fun h1=>?_);rotate_left
 ·have h1:xs.length≠1:=by
   have:¬(xs.length:Int)=1:=by simpa using h1
   omega
  exact fin _ _ _ (bad (.inr (fun x e=>by rw [e] at h1;simp at h1))).symm (Ext.refl _) (by infer_instance)
 have h1:xs.length=1:=by
  have:(xs.length:Int)=1:=by simpa using h1
  omega
 obtain ⟨x,rfl⟩:∃x,xs=[x]:=by
  match xs,h1 with
  |[x],_=>exact ⟨x,rfl⟩
 obtain ⟨bt,off,c1,g1,gl,g2,g3⟩:=RL.ix hw (i:=0) (by omega) (by simp);have g2:TStmtV I2 x c1:=g2;simp only [List.length_cons,List.length_nil] at g1;simp only [List.length_cons,List.length_nil,g1,SSd,Nat.reduceAdd];refine ASG (g3 I2 [] (Ext.refl _) (fun _ h=>h)) (Ext.refl _) gl ?_;refine RH hcl ?_;refine call (ADk (hread x (List.mem_cons_self ..)) g2 (hc.mono hI12) ?_);try refine zqe ?_
 have hrs:FT s=if Lc x s then NZ (FU s) (SV s) else 177:=by rw [hrd];simp only;rw [if_pos hf]
 cases hsm:Lc x s with
 |false=>
  rw [hsm] at hrs;try refine zqe ?_
  exact fin _ _ _ (by rw [hrs];rfl) (Ext.refl _) (by infer_instance)
 |true=>
  rw [hsm] at hrs;try refine zqe ?_
  refine rdB hcl ?_;refine EP (R:=TStmtV) [s] [c] rfl rfl rfl (by simp [hcl]) (by simpa using hc.mono hI12) (fun hI h=>h.mono hI) (fun I3 a3 hI3 hw3=>Gh.done ?_);refine call (NY _ [s] _ _ _ hw3 (by simpa [BL] using hp) (by simpa using hq.cnt) (fun I4 hI4=>?_));refine fin _ _ _ ?_ (Ext.trans hI3 hI4) (by infer_instance);rw [hrs];simp [BL,Dq]
theorem UC (hG:Fg G)(hS:SpG G)(hGI:Ext G I){s:TStmt}(hq:OkS s)(hread:∀x∈(readA (BF true s)).1,OkS x)(hp:FU s≤1000000000){c:List Value}(hc:TStmtV I s c)(hn:(BF true s).length≤900000000)(hk:∀I',Ext I I'→K (.tuple #[.string ⟨(Me s).1.toArray⟩,.int .i64 (Me s).2]) I' L):
  CT ω 16 #[.agg c.toArray] K I L:=by
 have hWd:=JP (ω:=ω) hS;have hcl:=hc.len;refine ATX ?_;unfold ASC;refine Ad (fun bs=>?_);refine rdB hcl ?_;refine call (RD hG hS hGI hq hread hp hc hn (fun I1 hI1=>?_));unfold Me at hk;try refine zqe ?_
 refine AB (fun h=>?_) (fun h=>?_)
 ·have h:FT s≠0:=by simpa using h
  rw [if_pos h] at hk;exact Gh.to L (Gh.done (hk I1 hI1))
 have h:FT s=0:=by simpa using h
 rw [if_neg (by simp [h])] at hk;try refine zqe ?_
 refine rdB hcl ?_;refine call (Ue hG hWd (Ext.trans hGI hI1) hq (hc.mono hI1) (by omega) (fun I2 hI2=>?_));try refine zqe ?_
 refine AB (fun h=>?_) (fun h=>?_)
 ·have h:65536 < (BF true s).length:=by
   have:=of_decide_eq_true h;omega
  rw [if_pos h] at hk;exact Gh.to L (Gh.done (hk I2 (Ext.trans hI1 hI2)))
 ·have h:¬65536 < (BF true s).length:=by
   have:=of_decide_eq_false h;omega
  rw [if_neg h] at hk;exact Gh.to L (Gh.done (hk I2 (Ext.trans hI1 hI2)))
end
def ASa:Bs:=[83,69,76,69,67,84,32,97,46,98,32,65,83,32,34,88,32,121,34,44,32,99,111,117,110,116,40,42,41,32,70,82,79,77,32,116,32,97,32,87,72,69,82,69,32,78,79,84,32,97,46,98,32,61,32,49,32,79,82,32,99,32,73,83,32,78,79,84,32,78,85,76,76]
def ASZ:Bs:=[115,101,108,101,99,116,32,97,32,102,114,111,109,32,116,32,119,104,101,114,101,32,98,32,61,32,99,32,61,32,100]
def AUC:Bs:=[115,101,108,101,99,116,32,97,46,98,32,97,115,32,34,88,32,121,34,44,32,99,111,117,110,116,40,42,41,32,102,114,111,109,32,116,32,97,115,32,97,32,119,104,101,114,101,32,110,111,116,32,97,46,98,32,61,32,49,32,111,114,32,99,32,105,115,32,110,111,116,32,110,117,108,108]
def SK:TStmt:={(default:TStmt) with fKind:=1,fSelect:=⟨false,[⟨false,[],IK [97] [98],[88,32,121]⟩,⟨false,[],HY [99,111,117,110,116] false [exK 3 []],[]⟩],[⟨[116],[97],false,ex0⟩],exK 22 [exK 5 [exK 15 [IK [97] [98],JK ⟨1,false,1,[]⟩]],exK 7 [IK [] [99]]],[],ex0,[], -1,0⟩}
theorem ASY:Ci ASa=([SK],ok0):=by kernel_rfl
theorem ASX:(Ci ASZ).2=⟨174,28⟩:=by decide+kernel
theorem ASW:(readA (BF true SK)).1=[SK]:=by kernel_rfl
theorem AUB:FT SK=0:=by decide+kernel
theorem AUA:Me SK=(AUC,0):=by decide+kernel
theorem Zw:okE ex0:=by simp [okE,okL,okI,ex0,v0]
theorem AIG:OkS SK:=by
 refine ⟨⟨?_,?_,?_,?_,Zw,nofun,by unfold okI;decide,by unfold okI;decide,by decide⟩,Zw,nofun,nofun,nofun,by decide,by decide,by decide,by decide⟩
 ·intro x hx;simp only [SK,List.mem_cons,List.not_mem_nil,or_false] at hx;rcases hx with rfl|rfl <;> simp [okE,okL,okI,IK,HY,exK,v0]
 ·intro x hx;simp only [SK,List.mem_cons,List.not_mem_nil,or_false] at hx;subst hx;exact Zw
 ·simp [SK,okE,okL,okI,IK,exK,JK,v0]
 ·trivial
section
variable {ω:Om}{G I:Imm}{L F:LH}{K:Value→M}
theorem ZC (hG:Fg G)(hS:SpG G)(hGI:Ext G I)(hk:∀I',Ext I I'→K (.bool true) I' L):CT ω 10 #[] K I L:=by
 have hTok:=KE (JP (ω:=ω) hS);refine ATa ?_;unfold ASF;refine call (MI hTok NY ASa hGI (fun I1 a k hI1 hw=>?_));rw [ASY] at hw ⊢;simp only [List.length_cons,List.length_nil,Nat.zero_add,show ok0.code=0 from rfl,show ((ok0.at':Int))=0 from rfl,SSd,Nat.reduceAdd];refine Ad (fun bf=>?_);refine stB rfl rfl (Au rfl) ?_;try refine zqe ?_
 refine rdb ?_;simp only [show ((0:Int) != 0)=false from rfl,show (((1:Nat):Int) != 1)=false from rfl,SSd,Nat.reduceAdd];obtain ⟨bt,off,c1,g1,gl,g2,g3⟩:=RL.ix hw (i:=0) (by omega) (by simp);have g2:TStmtV I1 SK c1:=g2;simp only [List.length_cons,List.length_nil,Nat.zero_add] at g1;simp only [g1,SSd,Nat.reduceAdd];refine Ed (g3 I1 [] (Ext.refl _) (fun _ h=>h)) (Ext.refl _) gl ?_;have hread:∀x∈(readA (BF true SK)).1,OkS x:=by
  rw [ASW];intro x hx;rw [List.mem_singleton.1 hx];exact AIG
 refine call (UC hG hS (Ext.trans hGI hI1) AIG hread (by decide) g2 (by decide) (fun I2 hI2=>?_));rw [AUA];simp only [g1,SSd,Nat.reduceAdd];have hI12:=Ext.trans hI1 hI2;refine Ed (g3 I2 [] hI2 (fun _ h=>h)) (Ext.refl _) gl ?_;refine call (RD hG hS (Ext.trans hGI hI12) AIG hread (by decide) (g2.mono hI2) (by decide) (fun I3 hI3=>?_));rw [AUB];refine call (MI hTok NY ASZ (Ext.trans hGI (Ext.trans hI12 hI3)) (fun I4 a4 k4 hI4 hw4=>?_));rw [ASX];try refine zqe ?_
 refine Ad (fun bh=>?_);refine stB rfl rfl (Au rfl) ?_;simp only [show ((0:Int)==0)=true from rfl,SSd,Nat.reduceAdd];refine Bc (fun _=>?_) (fun h=>absurd (by decide+kernel) h);refine rdB rfl ?_;simp only [Uu,SSd,Nat.reduceAdd];exact Gh.to L (Gh.done (hk I4 (Ext.trans hI12 (Ext.trans hI3 hI4))))
theorem IA {u v:Value}{xs ys:List Bs}(hx:RL StrV 1 I L u xs)(hy:RL StrV 1 I L v ys)(hl:xs.length≤1000000000000)(hk:K (.bool (eqL eqB xs ys)) I L):CT ω 20 #[u,v] K I L:=by
 refine ATU ?_;unfold ARz;simp only [RL.len hx,RL.len hy,SSd,Nat.reduceAdd];refine AB (fun h=>?_) (fun h=>?_)
 ·have h:xs.length≠ys.length:=by
   have:¬(xs.length:Int)=ys.length:=by simpa using h
   omega
  rw [Gg h] at hk;exact Gh.done hk
 have h:xs.length=ys.length:=by
  have:(xs.length:Int)=ys.length:=by simpa using h
  omega
 refine loop (fun q st I' L'=>∃k:Nat,k+q=xs.length∧st=(Value.bool false,Value.int .i64 (k:Nat),())∧I'=I∧L'=L∧eqL eqB xs ys=eqL eqB (xs.drop k) (ys.drop k)) xs.length ⟨0,by omega,rfl,rfl,rfl,rfl⟩ ?_;rintro q st I' L' ⟨k,hq,rfl,rfl,rfl,he⟩;unfold AGG;simp only [RL.len hx,SSd,Nat.reduceAdd];refine AB (fun hb=>?_) (fun hb=>?_)
 ·have hb:k < xs.length:=by
   have:=of_decide_eq_true hb;omega
  have hb2:k < ys.length:=by omega
  obtain ⟨bt,off,c1,g1,gl,g2,g3⟩:=RL.ix hx (i:=k) (by omega) (by omega);obtain ⟨bu,off2,c2,k1,kl,k2,k3⟩:=RL.ix hy (i:=k) (by omega) (by omega);rw [Ah hb] at g2;rw [Ah hb2] at k2;obtain rfl:=g2;obtain rfl:=k2;rw [List.drop_eq_getElem_cons hb,List.drop_eq_getElem_cons hb2] at he;simp only [eqL] at he;refine draw (Stay I' L') (Stay.start I' L') ?_;simp only [g1,k1,SSd,Nat.reduceAdd];refine Ip (g3 I' L' (Ext.refl _) (fun _ h=>h) 0 _ rfl) ?_;refine Ip (k3 I' L' (Ext.refl _) (fun _ h=>h) 0 _ rfl) ?_;simp only [sNe,SSd,Nat.reduceAdd];refine AB (fun h0=>?_) (fun h0=>?_)
  ·have h0:eqB xs[k] ys[k]=false:=by simpa [eqB] using h0
   rw [he,h0] at hk;exact Gh.done hk
  ·have h0:eqB xs[k] ys[k]=true:=by simpa [eqB] using h0
   simp only [wrap_i64 ((k:Int)+1) (by omega),SSd,Nat.reduceAdd];exact Gh.done ⟨q - 1,by omega,k+1,by omega,rfl,rfl,rfl,by rw [he,h0,Bool.true_and]⟩
 ·have hb:¬k < xs.length:=by
   have:=of_decide_eq_false hb;omega
  rw [he,Hf (List.drop_eq_nil_of_le (by omega)) (List.drop_eq_nil_of_le (by omega))] at hk;exact Gh.done hk
theorem YB {α:Type}{f:α→α→Bool}(hf:∀x,f x x=true):∀l:List α,eqL f l l=true
 |[]=>rfl
 |x::l=>by simp only [eqL,hf,YB hf l,Bool.and_self]
theorem AIK (x:Bs):eqB x x=true:=by simp [eqB]
end
mutual
def gdE:Ex→Prop
 | .mk k v _ n _ _ d l=>(0≤v.fInt∧v.fInt≤9223372036854775807)∧(k=28→isAgg n=true∧l.length=1∧(d=true→∀y∈l,y.kind≠3))∧gdL l
def gdL:List Ex→Prop
 |[]=>True
 |x::l=>gdE x∧gdL l
end
theorem Vt:∀{a b:List Ex},gdL a→gdL b→gdL (a++b)
 |[],_,_,h=>h
 |_::a,b,h,h2=>⟨h.1,Vt h.2 h2⟩
theorem ACm {x:Ex}:∀{l:List Ex},gdL l→x∈l→gdE x
 |y::l,h,hx=>by
  rcases List.mem_cons.1 hx with rfl|hx
  ·exact h.1
  ·exact ACm h.2 hx
def PE (x:Ex):Prop:=gdE x∧x.kind≠0∧x.kind≠3
theorem NT {k:Int}{l:List Ex}(h0:k≠0)(h3:k≠3)(h28:k≠28)(hl:gdL l):PE (exK k l):=
 ⟨by simp only [exK,gdE,v0];exact ⟨by decide,fun h=>absurd h h28,hl⟩,h0,h3⟩
theorem AOJ {v:TValue}(h:0≤v.fInt∧v.fInt≤9223372036854775807):PE (JK v):=
 ⟨by simp only [JK,gdE];exact ⟨h,fun h=>absurd h (by decide),trivial⟩,by simp [JK,Ex.kind],by simp [JK,Ex.kind]⟩
theorem AHK (t n:Bs):PE (IK t n):=
 ⟨by simp only [IK,gdE,v0];exact ⟨by decide,fun h=>absurd h (by decide),trivial⟩,by simp [IK,Ex.kind],by simp [IK,Ex.kind]⟩
theorem AHL {n:Bs}{d:Bool}{x:Ex}(hn:isAgg n=true)(hd:d=true→x.kind≠3)(hx:gdE x):PE (HY n d [x]):=
 ⟨by simp only [HY,gdE,v0];exact ⟨by decide,fun _=>⟨hn,rfl,fun h y hy=>by rw [List.mem_singleton.1 hy];exact hd h⟩,hx,trivial⟩,by simp [HY,Ex.kind],by simp [HY,Ex.kind]⟩
theorem ASV:gdE (exK 3 []):=by simp only [exK,gdE,v0];exact ⟨by decide,fun h=>absurd h (by decide),trivial⟩
theorem AOb:gdE ex0:=by simp only [ex0,gdE,v0];exact ⟨by decide,fun h=>absurd h (by decide),trivial⟩
def PG (t:Tok):Prop:=0≤t.num∧t.num≤9223372036854775807
structure TOk (N:Nat)(l:List Tok):Prop where
 len:l.length≤N
 num:∀t∈l,PG t
theorem TOk.tl {N:Nat}{l:List Tok}(h:TOk N l):TOk N l.tail:=⟨by have:=h.len;simp only [List.length_tail];omega,fun t ht=>h.num t (List.mem_of_mem_tail ht)⟩
theorem TOk.hd {N:Nat}{l:List Tok}(h:TOk N l):PG (hd l):=by
 cases l with
 |nil=>exact ⟨by decide,by decide⟩
 |cons t l=>exact h.num t (List.mem_cons_self ..)
theorem TOk.if {N:Nat}{l:List Tok}{b:Bool}(h:TOk N l):TOk N (if b then l.tail else l):=by
 cases b
 ·exact h
 ·exact h.tl
def Postq {α:Type}(N:Nat)(Q:α→Prop)(g:Pr α):Prop:=∀l x r,TOk N l→g l= .ok x r→Q x∧TOk N r
theorem Postq.imp {α:Type}{N:Nat}{Q R:α→Prop}{g:Pr α}(h1:Postq N Q g)(h2:∀x,Q x→R x):Postq N R g:=fun l x r hl h=>⟨h2 _ (h1 l x r hl h).1,(h1 l x r hl h).2⟩
theorem Postq.cost {α:Type}{N:Nat}{Q:α→Prop}{w:α→Nat}{g:Pr α}(h1:Postq N Q g)(h2:BZ w g):Postq N (fun x=>Q x∧w x≤N) g:=fun l x r hl h=>⟨⟨(h1 l x r hl h).1,by have:=h2 l x r h;have:=hl.len;omega⟩,(h1 l x r hl h).2⟩
theorem Postq.bind {α β:Type}{N:Nat}{Q:α→Prop}{R:β→Prop}{g:Pr α}{f:α→Pr β}(hg:Postq N Q g)(hf:∀a,Q a→Postq N R (f a)):Postq N R (fun l=>(g l).bind f):=by
 intro l x r hl h;obtain ⟨a,q,h1,h2⟩:=bind_ok h;have:=hg _ _ _ hl h1;exact hf a this.1 _ _ _ this.2 h2
theorem Postq.ok {α:Type}{N:Nat}{Q:α→Prop}{x:α}(h:Q x):Postq N Q (fun l=>.ok x l):=by
 intro l y r hl h';simp only [Res.ok.injEq] at h';obtain ⟨rfl,rfl⟩:=h';exact ⟨h,hl⟩
theorem Postq.tl {α:Type}{N:Nat}{Q:α→Prop}{g:Pr α}(h:Postq N Q g):Postq N Q (fun l=>g l.tail):=fun l x r hl h'=>h _ x r hl.tl h'
theorem Postq.ite {α:Type}{N:Nat}{Q:α→Prop}{c:List Tok→Prop}[DecidablePred c]{f g:Pr α}(h1:Postq N Q f)(h2:Postq N Q g):Postq N Q (fun l=>if c l then f l else g l):=by
 intro l x r hl h;simp only at h
 split at h
 ·exact h1 _ _ _ hl h
 ·exact h2 _ _ _ hl h
theorem Postq.bad {α:Type}{N:Nat}{Q:α→Prop}:Postq N Q (fun l=>bad (α:=α) l):=fun l x r hl h=>nomatch h
def Tru {α:Type}(_:α):Prop:=True
theorem Az {N:Nat}{s:Bs}:Postq N Tru (AO s):=Postq.ite (c:=fun l=>isT l s=true) (Postq.tl (g:=fun l=>.ok () l) (Postq.ok trivial)) Postq.bad
theorem Bq {N:Nat}:Postq N Tru Ar:=by
 intro l x r hl h;unfold Ar at h;split at h
 ·simp only [Res.ok.injEq] at h;obtain ⟨rfl,rfl⟩:=h;exact ⟨trivial,hl.tl⟩
 ·cases h
theorem UN {α:Type}{N:Nat}{Q:α→Prop}{one:Pr α}(h1:Postq N Q one):∀n acc,(∀x∈acc,Q x)→Postq N (fun l=>∀x∈l,Q x) (CV one n acc)
 |0,acc,ha=>Postq.ok ha
 |n+1,acc,ha=>Postq.ite (c:=fun l=>isT l [44]=true) (Postq.tl (g:=fun l=>(one l).bind fun x r=>CV one n (acc++[x]) r) (Postq.bind h1 fun x hx=>UN h1 n _ (by
   intro y hy;rcases List.mem_append.1 hy with h|h
   ·exact ha y h
   ·rw [List.mem_singleton.1 h];exact hx))) (Postq.ok ha)
theorem Hm {α:Type}{N:Nat}{Q:α→Prop}{one:Pr α}(h1:Postq N Q one)(n:Nat):Postq N (fun l=>∀x∈l,Q x) (BV n one):=Postq.bind h1 fun x hx=>UN h1 n _ (by intro y hy;rw [List.mem_singleton.1 hy];exact hx)
theorem LM {α:Type}{N:Nat}{Q:α→Prop}{one:Pr α}(h1:Postq N Q one)(n:Nat):Postq N (fun l=>∀x∈l,Q x) (Bi n one):=
 Postq.bind Az fun _ _=>Postq.bind (Hm h1 n) fun _ hx=>Postq.bind Az fun _ _=>Postq.ok hx
theorem AAJ:∀{l:List Ex},(∀x∈l,PE x)→gdL l
 |[],_=>trivial
 |x::l,h=>⟨(h x (List.mem_cons_self ..)).1,AAJ fun y hy=>h y (List.mem_cons_of_mem _ hy)⟩
def OpK (k:Int):Prop:=k≠0∧k≠3∧k≠28
theorem UO {N:Nat}{one:Pr Ex}{op:List Tok→Int}(hop:∀l,op l≠0→OpK (op l))(h1:Postq N PE one):∀n x,PE x→Postq N PE (FY one op n x)
 |0,x,hx=>Postq.ok hx
 |n+1,x,hx=>by
  intro l y r hl h;simp only [FY] at h;split at h
  ·simp only [Res.ok.injEq] at h;obtain ⟨rfl,rfl⟩:=h;exact ⟨hx,hl⟩
  ·rename_i hn
   obtain ⟨z,q,h2,h3⟩:=bind_ok h;have c1:=h1 _ _ _ hl.tl h2;exact UO hop h1 n _ (NT (l:=[x,z]) (hop _ hn).1 (hop _ hn).2.1 (hop _ hn).2.2 ⟨hx.1,c1.1.1,trivial⟩) _ _ _ c1.2 h3
theorem Jb {N:Nat}{one:Pr Ex}{op:List Tok→Int}(hop:∀l,op l≠0→OpK (op l))(h1:Postq N PE one)(n:Nat):Postq N PE (Cj n one op):=
 Postq.bind h1 fun x hx=>UO hop h1 n x hx
theorem ATz (l:List Tok)(h:NU l≠0):OpK (NU l):=by unfold NU at *; split <;> simp_all [OpK]
theorem AST (l:List Tok)(h:Ie l≠0):OpK (Ie l):=by unfold Ie at *; split <;> simp_all [OpK]
theorem ASS {f:Bs→Option Int}(hf:∀s k,f s=some k→OpK k)(l:List Tok)(h:JF f l≠0):OpK (JF f l):=by
 unfold JF at *;split at h
 ·rename_i hc
  rw [if_pos hc];cases hs:f (hd l).text with
  |none=>rw [hs] at h;exact absurd rfl h
  |some k=>exact hf _ _ hs
 ·exact absurd rfl h
theorem ASR (s:Bs)(k:Int)(h:TP s=some k):OpK k:=by
 unfold TP at h;repeat (split at h;· simp only [Option.some.injEq] at h;subst h;exact ⟨by decide,by decide,by decide⟩)
 cases h
theorem AOV (s:Bs)(k:Int)(h:La s=some k):OpK k:=by
 unfold La at h;repeat (split at h;· simp only [Option.some.injEq] at h;subst h;exact ⟨by decide,by decide,by decide⟩)
 cases h
theorem AHo (l:List Tok)(h:FC l≠0):OpK (FC l):=by
 unfold FC at *;repeat (split;· exact ⟨by decide,by decide,by decide⟩)
 simp_all
theorem AHj {l:List Tok}{v:TValue}(h:IY l=some v):0≤v.fInt∧v.fInt≤9223372036854775807:=by
 unfold IY at h;repeat (split at h;· simp only [Option.some.injEq] at h;subst h;simp)
 cases h
theorem RQ {N:Nat}:Postq N (fun x=>PE x∧x.kind=1) MJ:=by
 intro l x r hl h;unfold MJ at h;split at h
 ·simp only [Res.ok.injEq] at h;obtain ⟨rfl,rfl⟩:=h;exact ⟨⟨AOJ hl.hd,rfl⟩,hl.tl⟩
 ·cases h
theorem post_given {N:Nat}:Postq N (fun x=>PE x∧(x.kind=1∨x.kind=4)) FZ:=by
 intro l x r hl h;unfold FZ at h;split at h
 ·rename_i v hv
  simp only [Res.ok.injEq] at h;obtain ⟨rfl,rfl⟩:=h;exact ⟨⟨AOJ (AHj hv),.inl rfl⟩,hl.tl⟩
 split at h
 ·obtain ⟨y,q,h1,h2⟩:=bind_ok h;have c1:=RQ _ _ _ hl.tl h1;simp only [Res.ok.injEq] at h2;obtain ⟨rfl,rfl⟩:=h2;exact ⟨⟨NT (by decide) (by decide) (by decide) ⟨c1.1.1.1,trivial⟩,.inr rfl⟩,c1.2⟩
 ·have c1:=RQ _ _ _ hl h;exact ⟨⟨c1.1.1,.inl c1.1.2⟩,c1.2⟩
theorem UL {N:Nat}{E:Pr Ex}(hE:Postq N PE E)(n:Nat)(acc:List Ex)(ha:gdL acc):Postq N gdL (Ew n E acc):=
 Postq.bind Az fun _ _=>Postq.bind hE fun _ hx=>Postq.bind Az fun _ _=>Postq.bind hE fun _ hy=>Postq.ok (Vt ha ⟨hx.1,hy.1,trivial⟩)
theorem RP {N:Nat}{E:Pr Ex}(hE:Postq N PE E)(n:Nat):∀m acc,gdL acc→Postq N gdL (Ep n E m acc)
 |0,acc,ha=>Postq.ok ha
 |m+1,acc,ha=>Postq.ite (c:=fun l=>isT l [119,104,101,110]=true) (Postq.bind (UL hE n acc ha) fun a h=>RP hE n m a h) (Postq.ok ha)
theorem ADz {N:Nat}{E:Pr Ex}(hE:Postq N PE E)(n:Nat):Postq N PE (JO n E):=
 Postq.bind (UL hE n [] trivial) fun a ha=>Postq.bind (RP hE n n a ha) fun b hb=>
  Postq.bind (Q:=gdL) (g:=fun r=>if isT r [101,108,115,101] then (E r.tail).bind fun x r=>.ok (b++[x]) r else Res.ok b r)
   (Postq.ite (c:=fun l=>isT l [101,108,115,101]=true) (Postq.tl (g:=fun l=>(E l).bind fun x r=>.ok (b++[x]) r) (Postq.bind hE fun x hx=>Postq.ok (Vt hb ⟨hx.1,trivial⟩))) (Postq.ok hb))
   fun c hc=>Postq.bind Az fun _ _=>Postq.ok (NT (by decide) (by decide) (by decide) hc)
theorem AQu {s:Bs}(h1:¬s=[99,111,97,108,101,115,99,101])(h2:¬s=[108,101,110,103,116,104])(h:EL s=true):isAgg s=true:=by
 unfold EL at h;simpa [h1,h2] using h
theorem ZV {N:Nat}{E:Pr Ex}(hE:Postq N PE E)(n:Nat)(s:Bs)(hs:EL s=true):Postq N PE (Dh n E s):=by
 intro l x r hl h;unfold Dh at h;split at h
 ·exact Postq.bind (LM hE n) (fun a ha=>Postq.ok (x:=exK 27 a) (NT (by decide) (by decide) (by decide) (AAJ ha))) l x r hl h
 rename_i h1
 obtain ⟨_,q,g1,h⟩:=bind_ok h;have hq:=(Az _ _ _ hl g1).2;split at h
 ·exact Postq.bind hE (fun a ha=>Postq.bind Az fun _ _=>Postq.ok (x:=exK 8 [a]) (NT (by decide) (by decide) (by decide) ⟨ha.1,trivial⟩)) q x r hq h
 rename_i h2
 have hag:=AQu h1 h2 hs;split at h
 ·obtain ⟨_,q2,g2,h⟩:=bind_ok h;simp only [Res.ok.injEq] at h;obtain ⟨rfl,rfl⟩:=h;exact ⟨AHL hag (fun h=>nomatch h) ASV,(Az _ _ _ hq.tl g2).2⟩
 ·obtain ⟨y,q2,g2,h⟩:=bind_ok h;have c1:=hE _ _ _ hq.if g2;obtain ⟨_,q3,g3,h⟩:=bind_ok h;simp only [Res.ok.injEq] at h;obtain ⟨rfl,rfl⟩:=h;exact ⟨AHL hag (fun _=>c1.1.2.2) c1.1.1,(Az _ _ _ c1.2 g3).2⟩
theorem ZR {N:Nat}{E U:Pr Ex}(hE:Postq N PE E)(hU:Postq N PE U)(n:Nat):Postq N PE (FQ n E U):=by
 intro l x r hl h;unfold FQ at h;split at h
 ·exact Postq.bind hU (fun a ha=>Postq.ok (x:=exK 4 [a]) (NT (by decide) (by decide) (by decide) ⟨ha.1,trivial⟩)) l.tail x r hl.tl h
 split at h
 ·exact Postq.bind hE (fun a ha=>Postq.bind Az fun _ _=>Postq.ok ha) l.tail x r hl.tl h
 split at h
 ·exact ADz hE n _ _ _ hl.tl h
 split at h
 ·have:=RQ _ _ _ hl h;exact ⟨this.1.1,this.2⟩
 split at h
 ·rename_i v hv
  simp only [Res.ok.injEq] at h;obtain ⟨rfl,rfl⟩:=h;exact ⟨AOJ (AHj hv),hl.tl⟩
 obtain ⟨s,q,g1,h⟩:=bind_ok h;have hq:=(Bq _ _ _ hl g1).2;split at h
 ·rename_i hc
  exact ZV hE n s (by simp only [Bool.and_eq_true] at hc;exact hc.2) _ _ _ hq h
 split at h
 ·exact Postq.bind Bq (fun a _=>Postq.ok (AHK s a)) q.tail x r hq.tl h
 ·simp only [Res.ok.injEq] at h;obtain ⟨rfl,rfl⟩:=h;exact ⟨AHK _ _,hq⟩
theorem ZW {b:Bool}{x:Ex}(h:PE x):PE (PM b x):=by
 cases b
 ·exact h
 ·exact NT (by decide) (by decide) (by decide) ⟨h.1,trivial⟩
theorem ADw {N:Nat}{E S:Pr Ex}(hE:Postq N PE E)(hS:Postq N PE S)(n:Nat):Postq N PE (JC n E S):=by
 intro l z r hl h;unfold JC at h;obtain ⟨x,q,g1,h⟩:=bind_ok h;obtain ⟨hx,hq⟩:=hS _ _ _ hl g1;split at h
 ·rename_i hn
  exact Postq.bind hS (fun y hy=>Postq.ok (x:=exK (FC q) [x,y]) (NT (AHo _ hn).1 (AHo _ hn).2.1 (AHo _ hn).2.2 ⟨hx.1,hy.1,trivial⟩)) q.tail z r hq.tl h
 split at h
 ·split at h
  ·exact Postq.bind Az (fun _ _=>Postq.ok (x:=exK 7 [x]) (NT (by decide) (by decide) (by decide) ⟨hx.1,trivial⟩)) _ z r hq.tl.tl h
  ·exact Postq.bind Az (fun _ _=>Postq.ok (x:=exK 6 [x]) (NT (by decide) (by decide) (by decide) ⟨hx.1,trivial⟩)) _ z r hq.tl h
 simp only at h
 generalize hb:isT q [110,111,116]=b at h;have hq2:TOk N (if b then q.tail else q):=hq.if;generalize (if b then q.tail else q)=q2 at h hq2;split at h
 ·exact Postq.bind (LM hE n) (fun a ha=>Postq.ok (x:=PM b (exK 24 (x::a))) (ZW (NT (by decide) (by decide) (by decide) ⟨hx.1,AAJ ha⟩))) _ z r hq2.tl h
 split at h
 ·exact Postq.bind hS (fun y hy=>Postq.bind Az fun _ _=>Postq.bind hS fun w hw=>Postq.ok (x:=PM b (exK 25 [x,y,w])) (ZW (NT (by decide) (by decide) (by decide) ⟨hx.1,hy.1,hw.1,trivial⟩))) _ z r hq2.tl h
 split at h
 ·exact Postq.bind hS (fun y hy=>Postq.ok (x:=PM b (exK 23 [x,y])) (ZW (NT (by decide) (by decide) (by decide) ⟨hx.1,hy.1,trivial⟩))) _ z r hq2.tl h
 split at h
 ·cases h
 ·simp only [Res.ok.injEq] at h;obtain ⟨rfl,rfl⟩:=h;exact ⟨hx,hq2⟩
theorem AHJ {N:Nat}{M Q:Pr Ex}(hM:Postq N PE M)(hQ:Postq N PE Q):Postq N PE (PL M Q):=
 Postq.ite (c:=fun l=>isT l [110,111,116]=true) (Postq.tl (g:=fun l=>(M l).bind fun x r=>.ok (exK 5 [x]) r) (Postq.bind hM fun a ha=>Postq.ok (NT (by decide) (by decide) (by decide) ⟨ha.1,trivial⟩))) hQ
theorem RV (N:Nat):∀n,Postq N PE (eP n)∧Postq N PE (nP n)∧Postq N PE (uP n)
 |0=>⟨fun l x r _ h=>by simp [eP,Fa] at h,fun l x r _ h=>by simp [nP,Fa] at h,fun l x r _ h=>by simp [uP,Fa] at h⟩
 |n+1=>by
  obtain ⟨hE,hN,hU⟩:=RV N n;have u:=ZR hE hU n;have s:=Jb (ASS ASR) (Jb (ASS AOV) u n) n;have nn:=AHJ hN (ADw hE s n);exact ⟨Jb ATz (Jb AST nn n) n,nn,u⟩
def GE (N:Nat)(x:Ex):Prop:=gdE x∧Aa x≤N
theorem ge0 {N:Nat}(hN:1≤N):GE N ex0:=⟨AOb,hN⟩
structure GdQ (N:Nat)(q:TSelect):Prop where
 it:∀x∈q.fItems,GE N x.fExpr
 fr:∀x∈q.fFrom,GE N x.fOn
 wh:GE N q.fWhere
 gr:∀x∈q.fGroup,GE N x
 ha:GE N q.fHaving
 od:∀x∈q.fOrder,GE N x.fExpr
 li: -1≤q.fLimit∧q.fLimit≤2147483647
 off:0≤q.fOffset∧q.fOffset≤2147483647
structure GdS (N:Nat)(s:TStmt):Prop where
 q:GdQ N s.fSelect
 wh:GE N s.fWhere
 rows:∀x∈s.fRows,(∀y∈x,GE N y)∧x.length≤N
 sets:∀x∈s.fSets,GE N x.fExpr
 cols:∀x∈s.fCols,GE N x.fDefault∧(x.fDefault.kind=0∨x.fDefault.kind=1∨x.fDefault.kind=4)
 n1:s.fColumns.length≤N
 n2:s.fKey.length≤N
 n3:s.fIndex.fColumns.length≤N
section
variable {N:Nat}
theorem MH (n:Nat):Postq N (GE N) (eP n):=((RV N n).1.cost (Jn n).1).imp fun _ h=>⟨h.1.1,h.2⟩
theorem Jc (hN:1≤N)(n:Nat)(s:Bs):Postq N (GE N) (EQ n s):=Postq.ite (c:=fun l=>isT l s=true) (Postq.tl (MH n)) (Postq.ok (ge0 hN))
theorem ADx (hN:1≤N)(n:Nat):Postq N (fun x=>GE N x.fExpr) (Gq n):=by
 intro l x r hl h;unfold Gq at h;split at h
 ·simp only [Res.ok.injEq] at h;obtain ⟨rfl,rfl⟩:=h;exact ⟨ge0 hN,hl.tl⟩
 split at h
 ·simp only [Res.ok.injEq] at h;obtain ⟨rfl,rfl⟩:=h;exact ⟨ge0 hN,hl.tl.tl.tl⟩
 ·obtain ⟨y,q,h1,h2⟩:=bind_ok h;obtain ⟨hy,hq⟩:=MH n _ _ _ hl h1;split at h2
  ·obtain ⟨a,q2,h3,h4⟩:=bind_ok h2;simp only [Res.ok.injEq] at h4;obtain ⟨rfl,rfl⟩:=h4;exact ⟨hy,(Bq _ _ _ hq.tl h3).2⟩
  ·simp only [Res.ok.injEq] at h2;obtain ⟨rfl,rfl⟩:=h2;exact ⟨hy,hq⟩
theorem ZU (n:Nat):Postq N (fun x=>GE N x.fExpr) (IC n):=by
 intro l x r hl h;obtain ⟨y,q,h1,h2⟩:=bind_ok h;obtain ⟨hy,hq⟩:=MH n _ _ _ hl h1;split at h2
 ·simp only [Res.ok.injEq] at h2;obtain ⟨rfl,rfl⟩:=h2;exact ⟨hy,hq.tl⟩
 split at h2
 ·simp only [Res.ok.injEq] at h2;obtain ⟨rfl,rfl⟩:=h2;exact ⟨hy,hq.tl⟩
 ·simp only [Res.ok.injEq] at h2;obtain ⟨rfl,rfl⟩:=h2;exact ⟨hy,hq⟩
theorem AHI (n:Nat):Postq N (fun x=>GE N x.fExpr) (TR n):=Postq.bind Bq fun _ _=>Postq.bind Az fun _ _=>Postq.bind (MH n) fun _ h=>Postq.ok h
theorem Ib (hN:1≤N):Postq N (fun x=>GE N x.fOn) CY:=by
 intro l x r hl h;obtain ⟨s,q,h1,h2⟩:=bind_ok h;have hq:=(Bq _ _ _ hl h1).2;split at h2
 ·obtain ⟨a,q2,h3,h4⟩:=bind_ok h2;simp only [Res.ok.injEq] at h4;obtain ⟨rfl,rfl⟩:=h4;exact ⟨ge0 hN,(Bq _ _ _ hq.tl h3).2⟩
 split at h2
 ·obtain ⟨a,q2,h3,h4⟩:=bind_ok h2;simp only [Res.ok.injEq] at h4;obtain ⟨rfl,rfl⟩:=h4;exact ⟨ge0 hN,(Bq _ _ _ hq h3).2⟩
 ·simp only [Res.ok.injEq] at h2;obtain ⟨rfl,rfl⟩:=h2;exact ⟨ge0 hN,hq⟩
theorem OH (hN:1≤N)(n:Nat)(b:Bool):Postq N (fun x=>GE N x.fOn) (Gz n b):=Postq.bind Az fun _ _=>Postq.bind (Ib hN) fun _ _=>Postq.bind Az fun _ _=>Postq.bind (MH n) fun _ h=>Postq.ok h
theorem RU (hN:1≤N)(n:Nat):∀(m:Nat) (acc:List TSource),(∀x∈acc,GE N x.fOn)→Postq N (fun l=>∀x∈l,GE N x.fOn) (Cb n m acc)
 |0,acc,ha=>Postq.ok ha
 |m+1,acc,ha=>by
  have one:∀{g:Pr TSource} (_:Postq N (fun x=>GE N x.fOn) g),Postq N (fun l=>∀x∈l,GE N x.fOn) (fun l=>(g l).bind fun s r=>Cb n m (acc++[s]) r):=fun hg=>Postq.bind hg fun x hx=>RU hN n m _ (by
   intro y hy;rcases List.mem_append.1 hy with h|h
   ·exact ha y h
   ·rw [List.mem_singleton.1 h];exact hx)
  intro l x r hl h;simp only [Cb] at h;split at h
  ·exact one (Ib hN) _ _ _ hl.tl h
  split at h
  ·exact Postq.bind Az (fun _ _=>one (Ib hN)) _ _ _ hl.tl h
  split at h
  ·exact one (OH hN n true) _ _ _ hl.tl h
  split at h
  ·exact one (OH hN n false) _ _ _ hl.tl h
  split at h
  ·exact one (OH hN n false) _ _ _ hl h
  ·simp only [Res.ok.injEq] at h;obtain ⟨rfl,rfl⟩:=h;exact ⟨ha,hl⟩
theorem ADy (hN:1≤N)(n:Nat):Postq N (fun l=>∀x∈l,GE N x.fOn) (KZ n):=Postq.bind (Ib hN) fun x hx=>RU hN n n [x] (by intro y hy;rw [List.mem_singleton.1 hy];exact hx)
theorem post_count:Postq N (fun k=>0≤k∧k≤2147483647) EZ:=by
 intro l x r hl h;unfold EZ at h;split at h
 ·rename_i hc
  simp only [Bool.and_eq_true,decide_eq_true_eq] at hc;simp only [Res.ok.injEq] at h;obtain ⟨rfl,rfl⟩:=h;exact ⟨⟨hl.hd.1,hc.2⟩,hl.tl⟩
 ·cases h
theorem KN {α:Type}{Q:α→Prop}{p:Pr α}(h:Postq N Q p)(s:Bs)(d:α)(hd:Q d):Postq N Q (OM s d p):=Postq.ite (c:=fun l=>isT l s=true) (Postq.tl h) (Postq.ok hd)
theorem ACT {α:Type}{Q:α→Prop}{p:Pr α}(h:Postq N Q p):Postq N Q (byP p):=Postq.bind Az fun _ _=>h
theorem ZT (hN:1≤N)(n:Nat):Postq N (GdQ N) (Gt n):=by
 intro l x r hl h;obtain ⟨a1,q1,h1,h⟩:=bind_ok h;obtain ⟨a2,q2,h2,h⟩:=bind_ok h;obtain ⟨a3,q3,h3,h⟩:=bind_ok h;obtain ⟨a4,q4,h4,h⟩:=bind_ok h;obtain ⟨a5,q5,h5,h⟩:=bind_ok h;obtain ⟨a6,q6,h6,h⟩:=bind_ok h;obtain ⟨a7,q7,h7,h⟩:=bind_ok h;obtain ⟨a8,q8,h8,h⟩:=bind_ok h;simp only [Res.ok.injEq] at h;obtain ⟨rfl,rfl⟩:=h;obtain ⟨c1,t1⟩:=Hm (ADx hN n) n _ _ _ hl.if h1;obtain ⟨c2,t2⟩:=KN (ADy hN n) _ [] nofun _ _ _ t1 h2;obtain ⟨c3,t3⟩:=Jc hN n _ _ _ _ t2 h3;obtain ⟨c4,t4⟩:=KN (ACT (Hm (MH n) n)) _ [] nofun _ _ _ t3 h4;obtain ⟨c5,t5⟩:=Jc hN n _ _ _ _ t4 h5;obtain ⟨c6,t6⟩:=KN (ACT (Hm (ZU n) n)) _ [] nofun _ _ _ t5 h6;obtain ⟨c7,t7⟩:=KN (post_count.imp (R:=fun k=> -1≤k∧k≤2147483647) fun _ h=>⟨by omega,h.2⟩) _ (-1) ⟨by decide,by decide⟩ _ _ _ t6 h7;obtain ⟨c8,t8⟩:=KN post_count _ 0 ⟨by decide,by decide⟩ _ _ _ t7 h8;exact ⟨⟨c1,c2,c3,c4,c5,c6,c7,c8⟩,t8⟩
def Ya (N:Nat)(x:TCol):Prop:=GE N x.fDefault∧(x.fDefault.kind=0∨x.fDefault.kind=1∨x.fDefault.kind=4)
theorem BM {α:Type}{P:α→Prop}:∀x∈([]:List α),P x:=nofun
theorem ASJ {x:Ex}(h:x.kind≠0):pz x=Aa x:=by unfold pz;rw [if_pos (by simpa using h)]
theorem JD:∀(m:Nat) (c:TCol),Ya N c→Postq N (Ya N) (FV m c)
 |0,c,hc=>Postq.ok hc
 |m+1,c,hc=>by
  intro l x r hl h;simp only [FV] at h;split at h
  ·exact Postq.bind Az (fun _ _=>JD m {c with fNotNull:=true} hc) _ _ _ hl.tl h
  split at h
  ·exact Postq.bind Az (fun _ _=>JD m {c with fKey:=true} hc) _ _ _ hl.tl h
  split at h
  ·exact JD m {c with fUnique:=true} hc _ _ _ hl.tl h
  split at h
  ·exact Postq.bind (post_given.cost Su) (fun y hy=>JD m {c with fDefault:=y} ⟨⟨hy.1.1.1,ASJ hy.1.1.2.1 ▸ hy.2⟩,.inr hy.1.2⟩) _ _ _ hl.tl h
  ·simp only [Res.ok.injEq] at h;obtain ⟨rfl,rfl⟩:=h;exact ⟨hc,hl⟩
theorem XW (hN:1≤N)(n:Nat):Postq N (Ya N) (Ej n):=by
 intro l x r hl h;obtain ⟨s,q,h1,h2⟩:=bind_ok h;have hq:=(Bq _ _ _ hl h1).2;simp only at h2
 generalize (if isK q 1 then typeOf (hd q).text else 0)=t at h2;split at h2
 ·cases h2
 ·exact JD n ⟨s,t,false,false,false,ex0⟩ ⟨ge0 hN,.inl rfl⟩ _ _ _ hq.tl h2
theorem MG (n:Nat):Postq N (fun l=>l.length≤N) (Bi n Ar):=((LM Bq n).cost (Xe BG n)).imp fun _ h=>h.2
theorem UM (hN:1≤N)(n:Nat):∀(m:Nat) (cs:List TCol) (ks:List Bs),(∀x∈cs,Ya N x)→ks.length≤N→Postq N (fun x=>(∀y∈x.1,Ya N y)∧x.2.length≤N) (Ez n m cs ks)
 |0,cs,ks,h1,h2=>Postq.ok ⟨h1,h2⟩
 |m+1,cs,ks,hcs,hks=>by
  intro l x r hl h;simp only [Ez] at h;obtain ⟨a,q,h1,h2⟩:=bind_ok h;have c1:((∀y∈a.1,Ya N y)∧a.2.length≤N)∧TOk N q:=by
   split at h1
   ·exact Postq.bind Az (fun _ _=>Postq.bind (MG n) fun k hk=>Postq.ok (Q:=fun x:List TCol×List Bs=>(∀y∈x.1,Ya N y)∧x.2.length≤N) ⟨hcs,hk⟩) _ _ _ hl.tl h1
   ·exact Postq.bind (XW hN n) (fun k hk=>Postq.ok (Q:=fun x:List TCol×List Bs=>(∀y∈x.1,Ya N y)∧x.2.length≤N) ⟨by
     intro y hy;rcases List.mem_append.1 hy with h|h
     ·exact hcs y h
     ·rw [List.mem_singleton.1 h];exact hk,hks⟩) _ _ _ hl h1
  split at h2
  ·exact UM hN n m _ _ c1.1.1 c1.1.2 _ _ _ c1.2.tl h2
  ·simp only [Res.ok.injEq] at h2;obtain ⟨rfl,rfl⟩:=h2;exact c1
theorem ASU (hN:1≤N):GdQ N default:=⟨nofun,nofun,ge0 hN,nofun,ge0 hN,nofun,⟨by decide,by decide⟩,⟨by decide,by decide⟩⟩
theorem ADv (hN:1≤N)(n:Nat):Postq N (GdS N) (Dn n):=by
 have q0:=ASU hN;have e0:=ge0 hN;have z:([]:List Bs).length≤N:=Nat.zero_le _;intro l x r hl h;unfold Dn at h;split at h
 ·exact Postq.bind (ZT hN n) (fun q hq=>Postq.ok (Q:=GdS N) ⟨hq,e0,BM,BM,BM,z,z,z⟩) _ _ _ hl.tl h
 split at h
 ·refine Postq.bind Az (fun _ _=>Postq.bind Bq fun s _=>Postq.bind (Q:=fun c=>c.length≤N) (g:=fun r=>if isT r [40] then Bi n Ar r else Res.ok [] r) (Postq.ite (c:=fun r=>isT r [40]=true) (MG n) (Postq.ok z)) fun c hc=>Postq.bind Az fun _ _=>Postq.bind (Hm (((LM (MH n) n).cost (Xe (Rf n) n))) n) fun y hy=>Postq.ok (Q:=GdS N) ⟨q0,e0,hy,BM,BM,hc,z,z⟩) _ _ _ hl.tl h
 split at h
 ·exact Postq.bind Bq (fun s _=>Postq.bind Az fun _ _=>Postq.bind (Hm (AHI n) n) fun y hy=>Postq.bind (Jc hN n _) fun w hw=>Postq.ok (Q:=GdS N) ⟨q0,hw,BM,hy,BM,z,z,z⟩) _ _ _ hl.tl h
 split at h
 ·exact Postq.bind Az (fun _ _=>Postq.bind Bq fun s _=>Postq.bind (Jc hN n _) fun w hw=>Postq.ok (Q:=GdS N) ⟨q0,hw,BM,BM,BM,z,z,z⟩) _ _ _ hl.tl h
 split at h
 ·unfold Ei at h;split at h
  ·obtain ⟨s,q,h1,h⟩:=bind_ok h;obtain ⟨_,q2,h2,h⟩:=bind_ok h;obtain ⟨y,q3,h3,h⟩:=bind_ok h;have t1:=(Bq _ _ _ hl.tl.tl h1).2;have t2:=(Az _ _ _ t1 h2).2;obtain ⟨c3,t3⟩:=UM hN n _ _ _ BM z _ _ _ t2 h3;split at h
   ·cases h
   ·exact Postq.bind Az (fun _ _=>Postq.ok (Q:=GdS N) ⟨q0,e0,BM,BM,c3.1,z,c3.2,z⟩) _ _ _ t3 h
  ·exact Postq.bind Az (fun _ _=>Postq.bind Bq fun a _=>Postq.bind Az fun _ _=>Postq.bind Bq fun t _=>Postq.bind (MG n) fun c hc=>Postq.ok (Q:=GdS N) ⟨q0,e0,BM,BM,BM,z,z,hc⟩) _ _ _ hl.tl.if h
 split at h
 ·unfold Fv at h;split at h
  ·exact Postq.bind Bq (fun _ _=>Postq.ok (Q:=GdS N) ⟨q0,e0,BM,BM,BM,z,z,z⟩) _ _ _ hl.tl.tl h
  ·exact Postq.bind Az (fun _ _=>Postq.bind Bq fun _ _=>Postq.ok (Q:=GdS N) ⟨q0,e0,BM,BM,BM,z,z,z⟩) _ _ _ hl.tl h
 split at h
 ·simp only [Res.ok.injEq] at h;obtain ⟨rfl,rfl⟩:=h;exact ⟨⟨q0,e0,BM,BM,BM,z,z,z⟩,hl.tl⟩
 split at h
 ·simp only [Res.ok.injEq] at h;obtain ⟨rfl,rfl⟩:=h;exact ⟨⟨q0,e0,BM,BM,BM,z,z,z⟩,hl.tl⟩
 ·exact Postq.bind Az (fun _ _=>Postq.ok (Q:=GdS N) ⟨q0,e0,BM,BM,BM,z,z,z⟩) _ _ _ hl h
theorem MF (hN:1≤N)(n:Nat):∀(m:Nat) (acc:List TStmt),(∀x∈acc,GdS N x)→Postq N (fun l=>∀x∈l,GdS N x) (Bz n m acc)
 |0,acc,ha=>Postq.ok ha
 |m+1,acc,ha=>by
  intro l x r hl h;simp only [Bz] at h;split at h
  ·simp only [Res.ok.injEq] at h;obtain ⟨rfl,rfl⟩:=h;exact ⟨ha,hl⟩
  split at h
  ·exact MF hN n m _ ha _ _ _ hl.tl h
  ·obtain ⟨s,q,h1,h2⟩:=bind_ok h;obtain ⟨hs,hq⟩:=ADv hN n _ _ _ hl h1;split at h2
   ·exact MF hN n m _ (by
     intro y hy;rcases List.mem_append.1 hy with h|h
     ·exact ha y h
     ·rw [List.mem_singleton.1 h];exact hs) _ _ _ hq h2
   ·cases h2
end
theorem ACZ:∀(s:Bs) (n k:Int),(∀d∈s,BC d=true)→0≤n→n≤9223372036854775807→MK s n=some k→0≤k∧k≤9223372036854775807
 |[],n,k,_,h0,h1,h=>by simp only [MK,Option.some.injEq] at h;subst h;exact ⟨h0,h1⟩
 |d::r,n,k,hd,h0,h1,h=>by
  simp only [MK] at h;have hdd:=hd d (List.mem_cons_self ..);simp only [BC,Bool.and_eq_true,decide_eq_true_eq,UInt8.le_iff_toNat_le] at hdd;have e1:(48:UInt8).toNat=48:=rfl;have e2:(57:UInt8).toNat=57:=rfl;split at h
  ·cases h
  ·exact ACZ r _ k (fun x hx=>hd x (List.mem_cons_of_mem _ hx)) (by omega) (by omega) h
theorem AKg {n:Nat}{s r:Bs}{t:Tok}(h:DJ n s= .tok t r):PG t:=by
 have z:∀{k a x},PG ⟨k,a,x,0⟩:=⟨by simp,by simp⟩;cases s with
 |nil=>simp [DJ] at h
 |cons c s=>
  simp only [DJ] at h;split at h
  ·unfold Gw at h;split at h
   ·cases h
   ·simp only [LexR.tok.injEq] at h;obtain ⟨rfl,_⟩:=h;exact z
  split at h
  ·split at h
   ·cases h
   ·rename_i k hk
    split at h
    ·cases h
    ·simp only [LexR.tok.injEq] at h;obtain ⟨rfl,_⟩:=h;exact ACZ _ 0 k (fun d hd=>List.all_eq_true.1 (List.all_takeWhile (p:=BC)) d hd) (by decide) (by decide) hk
  split at h
  ·split at h
   ·cases h
   ·split at h
    ·split at h
     ·cases h
     ·simp only [LexR.tok.injEq] at h;obtain ⟨rfl,_⟩:=h;exact z
    ·simp only [LexR.tok.injEq] at h;obtain ⟨rfl,_⟩:=h;exact z
  split at h
  ·cases h
  ·simp only [LexR.tok.injEq] at h;obtain ⟨rfl,_⟩:=h;exact z
theorem Wh (n:Nat):∀(f:Nat) (acc:List Tok) (s:Bs) (l:List Tok),(∀t∈acc,PG t)→DY n f acc s= .toks l→∀t∈l,PG t
 |0,acc,s,l,ha,h=>by simp only [DY,LexA.toks.injEq] at h;subst h;exact ha
 |f+1,acc,s,l,ha,h=>by
  simp only [DY] at h;have app:∀{t:Tok},PG t→∀x∈acc++[t],PG x:=by
   intro t ht x hx;rcases List.mem_append.1 hx with h|h
   ·exact ha x h
   ·rw [List.mem_singleton.1 h];exact ht
  split at h
  ·simp only [LexA.toks.injEq] at h;subst h;exact app ⟨by simp,by simp⟩
  ·split at h
   ·cases h
   ·rename_i t r' ht
    exact Wh n f _ _ _ (app (AKg ht)) h
theorem OE (s:Bs):∀x∈(readA s).1,GdS (s.length+1) x:=by
 unfold readA;split
 ·intro x hx;cases hx
 ·rename_i l hl
  have hc:=JU _ _ _ _ _ hl;have hn:=Wh _ _ _ _ _ BM hl;split
  ·rename_i x r hx
   exact (MF (N:=s.length+1) (by omega) _ _ _ BM _ _ _ ⟨by simpa using hc,hn⟩ hx).1
  ·intro x hx;cases hx
mutual
theorem AHW:∀{x:Ex},gdE x→Aa x≤1000000000000→okE x
 | .mk k v t n s ty d l,h,hp=>by
  simp only [Aa] at hp;have:=OT l;exact ⟨⟨by have:=h.1.1;omega,h.1.2⟩,by omega,AHV h.2.2 (by omega)⟩
theorem AHV:∀{l:List Ex},gdL l→AY l≤1000000000000→okL l
 |[],_,_=>trivial
 |x::l,h,hp=>by
  simp only [AY] at hp;exact ⟨AHW h.1 (by omega),AHV h.2 (by omega)⟩
theorem OT:∀l:List Ex,l.length≤AY l
 |[]=>Nat.zero_le _
 | .mk .. ::l=>by have:=OT l;simp only [AY,Aa,List.length_cons];omega
end
theorem AHU {s:TStmt}{N:Nat}(hN:N≤1000000000000)(h:GdS N s)(hc:cS s≤1000000000):OkS s:=by
 have e:∀{x:Ex},GE N x→okE x:=fun h=>AHW h.1 (by have:=h.2;omega);have hq:cQ s.fSelect≤1000000000:=by unfold cS at hc;omega
 exact ⟨⟨fun x hx=>e (h.q.it x hx),fun x hx=>e (h.q.fr x hx),e h.q.wh,NV fun x hx=>e (h.q.gr x hx),e h.q.ha,fun x hx=>e (h.q.od x hx),⟨by have:=h.q.li;omega,by have:=h.q.li;omega⟩,⟨by have:=h.q.off;omega,by have:=h.q.off;omega⟩,hq⟩,e h.wh,fun x hx=>⟨NV fun y hy=>e ((h.rows x hx).1 y hy),by have:=(h.rows x hx).2;omega⟩,fun x hx=>e (h.sets x hx),fun x hx=>e (h.cols x hx).1,hc,by have:=h.n1;omega,by have:=h.n2;omega,by have:=h.n3;omega⟩
theorem AKZ {s:Bs}(hs:s.length≤900000000):∀x∈(readA s).1,OkS x:=fun x hx=>AHU (N:=s.length+1) (by omega) (OE s x hx) (by have:=YF s x hx;omega)
section
variable {ω:Om}{I:Imm}{L:LH}{K:Value→M}
theorem Yj (a c:Int)(t:Bool)(s:ByteArray):IW .neq [(TypeDesc.int .i64,0),(TypeDesc.bool,1),(TypeDesc.int .i64,2),(TypeDesc.string,3)] (.agg #[.int .i64 a,.bool t,.int .i64 c,.string s]) (.agg #[.int .i64 a,.bool t,.int .i64 c,.string s])=some (.bool false):=by
 simp [IW,Lm,eqD]
theorem KI {l:List Ex}{u v:Value}(hE:∀x∈l,∀(I:Imm) (L:LH) (c d:List Value) (K:Value→M),ExV I x c→ExV I x d→K (.bool true) I L→CT ω 49 #[.agg c.toArray,.agg d.toArray] K I L)(hx:ExL I u l)(hy:ExL I v l)(hl:l.length≤1000000000000)(hk:K (.bool true) I L):CT ω 50 #[u,v] K I L:=by
 refine ATD ?_;unfold ARj;simp only [RL.len hx,RL.len hy,bne_self_eq_false,SSd,Nat.reduceAdd];refine loop (fun q st I' L'=>∃k:Nat,k+q=l.length∧st=(Value.bool false,Value.int .i64 (k:Nat),())∧I'=I∧L'=L) l.length ⟨0,by omega,rfl,rfl,rfl⟩ ?_;rintro q st I' L' ⟨k,hq,rfl,rfl,rfl⟩;unfold AFl;simp only [RL.len hx,SSd,Nat.reduceAdd];refine AB (fun hb=>?_) (fun hb=>Gh.done hk);have hb:k < l.length:=by
  have:=of_decide_eq_true hb;omega
 obtain ⟨bt,off,c1,g1,gl,g2,g3⟩:=RL.ix hx (i:=k) (by omega) (by omega);obtain ⟨bu,off2,c2,k1,kl,k2,k3⟩:=RL.ix hy (i:=k) (by omega) (by omega);rw [Ah hb] at g2 k2;refine draw (Stay I' L') (Stay.start I' L') ?_;simp only [g1,k1,SSd,Nat.reduceAdd];refine OG gl (g3 I' L' (Ext.refl _) (fun _ h=>nomatch h)) ?_;refine OG kl (k3 I' L' (Ext.refl _) (fun _ h=>nomatch h)) ?_;refine call (hE _ (List.getElem_mem hb) _ _ _ _ _ g2 k2 ?_);simp only [Bool.not_true,wrap_i64 ((k:Int)+1) (by omega),SSd,Nat.reduceAdd];exact Gh.done ⟨q - 1,by omega,k+1,by omega,rfl,rfl,rfl⟩
theorem Cf:∀(n:Nat) (x:Ex),DD x≤n→Aa x≤1000000000000→∀(I:Imm) (L:LH) (c d:List Value) (K:Value→M),ExV I x c→ExV I x d→K (.bool true) I L→CT ω 49 #[.agg c.toArray,.agg d.toArray] K I L
 |0,x,h,_,_,_,_,_,_,_,_,_=>by have:=FK x;omega
 |n+1,x,hd,hp,I,L,c,d,K,hx,hy,hk=>by
  obtain ⟨v,rfl,ha⟩:=ExV.iff.1 hx;obtain ⟨u,rfl,hb⟩:=ExV.iff.1 hy;have hdd:=Di x;have hpp:AY x.args < Aa x:=by cases x;simp [Aa,Ex.args]
  have hll:=OT x.args;have hE:∀z∈x.args,∀(I:Imm) (L:LH) (c d:List Value) (K:Value→M),ExV I z c→ExV I z d→K (.bool true) I L→CT ω 49 #[.agg c.toArray,.agg d.toArray] K I L:=by
   intro z hz I L c d K hc hd' hk;have:=Ee hz;have hq:=OL hz;exact Cf n z (by omega) (by omega) I L c d K hc hd' hk
  refine ATE ?_;unfold ARk;refine Ad (fun b1=>Ad (fun b2=>?_));repeat' (first|refine zqa ?_|refine zqh (fun _=>?_)|((with_reducible refine call ?_);with_reducible refine KI (ω:=ω) hE ha hb (by omega) ?_)|refine zqr ?_|refine zqb ?_|refine zqi ?_ ?_|refine zqc ?_|refine zqg (fun _=>?_) (fun _=>?_)|(simp only [SSd,Nat.reduceAdd,Yj,bne_self_eq_false,RL.len ha,RL.len hb]))
  exact Gh.to L (Gh.done hk)
end
section
variable {ω:Om}{I:Imm}{L:LH}{K:Value→M}
theorem AGx {q:TSelect}{v u:Value}{b1 b2:Nat}{l1 l2:List Value}{T1 T2:Nat}{f1 f2:Nat×Nat}[InL b1 L (.cells l1.toArray T1 f1)][InL b2 L (.cells l2.toArray T2 f2)][GetL l1 26 v][GetL l2 26 u](hq:∀x∈q.fOrder,Aa x.fExpr≤1000000000000)(hl:q.fOrder.length≤1000000000)(hx:RL TOrderV 12 I [] v q.fOrder)(hy:RL TOrderV 12 I [] u q.fOrder)(hk:Gh (K (.bool true)) I L):VF ω (.pointer (some ⟨b1,0,none⟩)) (.pointer (some ⟨b2,0,none⟩)) (.bool false) (fun v=>Gh (K v)) I L:=by
 unfold VF;refine loop (fun q' st I' L'=>∃k:Nat,k+q'=q.fOrder.length∧st=(Value.bool false,Value.int .i64 (k:Nat),())∧I'=I∧L'=L) q.fOrder.length ⟨0,by omega,rfl,rfl,rfl⟩ ?_;rintro q' st I' L' ⟨k,hkq,rfl,rfl,rfl⟩;unfold AAy;try refine zqe ?_
 refine rdb ?_;simp only [RL.len hx,SSd,Nat.reduceAdd];refine AB (fun hb=>?_) (fun hb=>hk);have hb:k < q.fOrder.length:=by
  have:=of_decide_eq_true hb;omega
 obtain ⟨bt,off,c1,e1,gl,g2,g3⟩:=RL.ix hx (i:=k) (by omega) (by omega);obtain ⟨bu,off2,c2,k1,kl,k2,k3⟩:=RL.ix hy (i:=k) (by omega) (by omega);rw [Ah hb] at g2 k2;obtain ⟨w,rfl,hw⟩:=g2;obtain ⟨z,rfl,hz⟩:=k2;have hp:=hq _ (List.getElem_mem hb);generalize q.fOrder[k]=x at *;have hA:=g3 I' L' (Ext.refl _) nofun;have hB:=k3 I' L' (Ext.refl _) nofun;clear g3 k3 gl kl;have en1:(Aj x.fExpr w).length=11:=rfl;have en2:(Aj x.fExpr z).length=11:=rfl;have xA:Cells I' L' bt (off) (Aj x.fExpr w):=Cells.sub (k:=0) (m:=11) hA;have yA11:Cell I' L' bt (off+11) (.bool x.fDesc):=hA 11 _ rfl;have xB:Cells I' L' bu (off2) (Aj x.fExpr z):=Cells.sub (k:=0) (m:=11) hB;have yB11:Cell I' L' bu (off2+11) (.bool x.fDesc):=hB 11 _ rfl;repeat' (first|(with_reducible first|refine EM ?_|refine OX ?_|refine OW ?_|refine keepA ?_|refine Ad (fun _=>?_)|refine OG en1 xA ?_|refine OG en2 xB ?_|refine Ip yA11 ?_|refine Ip yB11 ?_)|((with_reducible refine call ?_);with_reducible refine Cf (ω:=ω) _ x.fExpr (Nat.le_refl _) hp _ _ _ _ _ (ExV.iff.2 ⟨w,rfl,hw⟩) (ExV.iff.2 ⟨z,rfl,hz⟩) ?_)|refine zqr ?_|refine zqb ?_|refine zqi ?_ ?_|refine zqc ?_|refine zqg (fun _=>?_) (fun _=>?_)|(simp only [SSd,Nat.reduceAdd,e1,k1,bne_self_eq_false]))
 simp only [wrap_i64 ((k:Int)+1) (by omega)];exact Gh.done ⟨q' - 1,by omega,k+1,by omega,rfl,rfl,rfl⟩
theorem ADq {q:TSelect}{v u:Value}{b1 b2:Nat}{l1 l2:List Value}{T1 T2:Nat}{f1 f2:Nat×Nat}[InL b1 L (.cells l1.toArray T1 f1)][InL b2 L (.cells l2.toArray T2 f2)][GetL l1 2 v][GetL l2 2 u](hq:∀x∈q.fFrom,Aa x.fOn≤1000000000000)(hl:q.fFrom.length≤1000000000)(hx:RL TSourceV 14 I [] v q.fFrom)(hy:RL TSourceV 14 I [] u q.fFrom)(hk:VF ω (.pointer (some ⟨b1,0,none⟩)) (.pointer (some ⟨b2,0,none⟩)) (.bool false) (fun v=>Gh (K v)) I L):VG ω (.pointer (some ⟨b1,0,none⟩)) (.pointer (some ⟨b2,0,none⟩)) (.bool false) (fun v=>Gh (K v)) I L:=by
 unfold VG;refine loop (fun q' st I' L'=>∃k:Nat,k+q'=q.fFrom.length∧st=(Value.bool false,Value.int .i64 (k:Nat),())∧I'=I∧L'=L) q.fFrom.length ⟨0,by omega,rfl,rfl,rfl⟩ ?_;rintro q' st I' L' ⟨k,hkq,rfl,rfl,rfl⟩;unfold AFm;try refine zqe ?_
 refine rdb ?_;simp only [RL.len hx,SSd,Nat.reduceAdd];refine AB (fun hb=>?_) (fun hb=>hk);have hb:k < q.fFrom.length:=by
  have:=of_decide_eq_true hb;omega
 obtain ⟨bt,off,c1,e1,gl,g2,g3⟩:=RL.ix hx (i:=k) (by omega) (by omega);obtain ⟨bu,off2,c2,k1,kl,k2,k3⟩:=RL.ix hy (i:=k) (by omega) (by omega);rw [Ah hb] at g2 k2;obtain ⟨w,rfl,hw⟩:=g2;obtain ⟨z,rfl,hz⟩:=k2;have hp:=hq _ (List.getElem_mem hb);generalize q.fFrom[k]=x at *;have hA:=g3 I' L' (Ext.refl _) nofun;have hB:=k3 I' L' (Ext.refl _) nofun;clear g3 k3 gl kl;have en1:(Aj x.fOn w).length=11:=rfl;have en2:(Aj x.fOn z).length=11:=rfl;have xA:Cells I' L' bt (off+3) (Aj x.fOn w):=Cells.sub (k:=3) (m:=11) hA;have yA0:Cell I' L' bt (off) (.string ⟨x.fTable.toArray⟩):=hA 0 _ rfl;have yA1:Cell I' L' bt (off+1) (.string ⟨x.fAs.toArray⟩):=hA 1 _ rfl;have yA2:Cell I' L' bt (off+2) (.bool x.fLeft):=hA 2 _ rfl;have xB:Cells I' L' bu (off2+3) (Aj x.fOn z):=Cells.sub (k:=3) (m:=11) hB;have yB0:Cell I' L' bu (off2) (.string ⟨x.fTable.toArray⟩):=hB 0 _ rfl;have yB1:Cell I' L' bu (off2+1) (.string ⟨x.fAs.toArray⟩):=hB 1 _ rfl;have yB2:Cell I' L' bu (off2+2) (.bool x.fLeft):=hB 2 _ rfl;repeat' (first|(with_reducible first|refine EM ?_|refine OX ?_|refine OW ?_|refine keepA ?_|refine Ad (fun _=>?_)|refine OG en1 xA ?_|refine OG en2 xB ?_|refine Ip yA0 ?_|refine Ip yB0 ?_|refine Ip yA1 ?_|refine Ip yB1 ?_|refine Ip yA2 ?_|refine Ip yB2 ?_)|((with_reducible refine call ?_);with_reducible refine Cf (ω:=ω) _ x.fOn (Nat.le_refl _) hp _ _ _ _ _ (ExV.iff.2 ⟨w,rfl,hw⟩) (ExV.iff.2 ⟨z,rfl,hz⟩) ?_)|refine zqr ?_|refine zqb ?_|refine zqi ?_ ?_|refine zqc ?_|refine zqg (fun _=>?_) (fun _=>?_)|(simp only [SSd,Nat.reduceAdd,e1,k1,bne_self_eq_false]))
 simp only [wrap_i64 ((k:Int)+1) (by omega)];exact Gh.done ⟨q' - 1,by omega,k+1,by omega,rfl,rfl,rfl⟩
theorem ZJ {q:TSelect}{v u:Value}{b1 b2:Nat}{l1 l2:List Value}{T1 T2:Nat}{f1 f2:Nat×Nat}[InL b1 L (.cells l1.toArray T1 f1)][InL b2 L (.cells l2.toArray T2 f2)][GetL l1 1 v][GetL l2 1 u](hq:∀x∈q.fItems,Aa x.fExpr≤1000000000000)(hl:q.fItems.length≤1000000000)(hx:RL TItemV 14 I [] v q.fItems)(hy:RL TItemV 14 I [] u q.fItems)(hk:VG ω (.pointer (some ⟨b1,0,none⟩)) (.pointer (some ⟨b2,0,none⟩)) (.bool false) (fun v=>Gh (K v)) I L):Am ((.bool false,.int .i64 0,()):Value×Value×Unit) (fun s Kn=>ZF ω (.pointer (some ⟨b1,0,none⟩)) (.pointer (some ⟨b2,0,none⟩)) s.1 s.2.1 Kn (fun v=>Gh (K v))) I L:=by
 refine loop (fun q' st I' L'=>∃k:Nat,k+q'=q.fItems.length∧st=(Value.bool false,Value.int .i64 (k:Nat),())∧I'=I∧L'=L) q.fItems.length ⟨0,by omega,rfl,rfl,rfl⟩ ?_;rintro q' st I' L' ⟨k,hkq,rfl,rfl,rfl⟩;unfold ZF;try refine zqe ?_
 refine rdb ?_;simp only [RL.len hx,SSd,Nat.reduceAdd];refine AB (fun hb=>?_) (fun hb=>hk);have hb:k < q.fItems.length:=by
  have:=of_decide_eq_true hb;omega
 obtain ⟨bt,off,c1,e1,gl,g2,g3⟩:=RL.ix hx (i:=k) (by omega) (by omega);obtain ⟨bu,off2,c2,k1,kl,k2,k3⟩:=RL.ix hy (i:=k) (by omega) (by omega);rw [Ah hb] at g2 k2;obtain ⟨w,rfl,hw⟩:=g2;obtain ⟨z,rfl,hz⟩:=k2;have hp:=hq _ (List.getElem_mem hb);generalize q.fItems[k]=x at *;have hA:=g3 I' L' (Ext.refl _) nofun;have hB:=k3 I' L' (Ext.refl _) nofun;clear g3 k3 gl kl;have en1:(Aj x.fExpr w).length=11:=rfl;have en2:(Aj x.fExpr z).length=11:=rfl;have xA:Cells I' L' bt (off+2) (Aj x.fExpr w):=Cells.sub (k:=2) (m:=11) hA;have yA0:Cell I' L' bt (off) (.bool x.fStar):=hA 0 _ rfl;have yA1:Cell I' L' bt (off+1) (.string ⟨x.fTable.toArray⟩):=hA 1 _ rfl;have yA13:Cell I' L' bt (off+13) (.string ⟨x.fAs.toArray⟩):=hA 13 _ rfl;have xB:Cells I' L' bu (off2+2) (Aj x.fExpr z):=Cells.sub (k:=2) (m:=11) hB;have yB0:Cell I' L' bu (off2) (.bool x.fStar):=hB 0 _ rfl;have yB1:Cell I' L' bu (off2+1) (.string ⟨x.fTable.toArray⟩):=hB 1 _ rfl;have yB13:Cell I' L' bu (off2+13) (.string ⟨x.fAs.toArray⟩):=hB 13 _ rfl;repeat' (first|(with_reducible first|refine EM ?_|refine OX ?_|refine OW ?_|refine keepA ?_|refine Ad (fun _=>?_)|refine OG en1 xA ?_|refine OG en2 xB ?_|refine Ip yA0 ?_|refine Ip yB0 ?_|refine Ip yA1 ?_|refine Ip yB1 ?_|refine Ip yA13 ?_|refine Ip yB13 ?_)|((with_reducible refine call ?_);with_reducible refine Cf (ω:=ω) _ x.fExpr (Nat.le_refl _) hp _ _ _ _ _ (ExV.iff.2 ⟨w,rfl,hw⟩) (ExV.iff.2 ⟨z,rfl,hz⟩) ?_)|refine zqr ?_|refine zqb ?_|refine zqi ?_ ?_|refine zqc ?_|refine zqg (fun _=>?_) (fun _=>?_)|(simp only [SSd,Nat.reduceAdd,e1,k1,bne_self_eq_false]))
 simp only [wrap_i64 ((k:Int)+1) (by omega)];exact Gh.done ⟨q' - 1,by omega,k+1,by omega,rfl,rfl,rfl⟩
theorem ADp {q:TSelect}{N:Nat}(hN:N≤1000000000)(hq:GdQ N q)(hc:cQ q≤1000000000){c d:List Value}(hx:Bd I q c)(hy:Bd I q d)(hk:K (.bool true) I L):CT ω 48 #[.agg c.toArray,.agg d.toArray] K I L:=by
 obtain ⟨v0,v1,v2,v3,v4,v5,rfl,h0,h1,h2,h3,h4,h5⟩:=hx;obtain ⟨u0,u1,u2,u3,u4,u5,rfl,g0,g1,g2,g3,g4,g5⟩:=hy;have p:∀{x:Ex},GE N x→Aa x≤1000000000000:=fun h=>by have:=h.2;omega
 have hgr:∀x∈q.fGroup,∀(I:Imm) (L:LH) (c d:List Value) (K:Value→M),ExV I x c→ExV I x d→K (.bool true) I L→CT ω 49 #[.agg c.toArray,.agg d.toArray] K I L:=fun x hx=>Cf _ _ (Nat.le_refl _) (p (hq.gr x hx));have hw1:=p hq.wh;have hw2:=p hq.ha;unfold cQ at hc;refine ATF ?_;unfold ARl;refine Ad (fun b1=>Ad (fun b2=>?_));repeat' (first|refine zqa ?_|refine zqh (fun _=>?_)|((with_reducible refine call ?_);with_reducible refine Cf (ω:=ω) _ q.fWhere (Nat.le_refl _) hw1 _ _ _ _ _ (ExV.iff.2 ⟨v2,rfl,h2⟩) (ExV.iff.2 ⟨u2,rfl,g2⟩) ?_)|((with_reducible refine call ?_);with_reducible refine Cf (ω:=ω) _ q.fHaving (Nat.le_refl _) hw2 _ _ _ _ _ (ExV.iff.2 ⟨v4,rfl,h4⟩) (ExV.iff.2 ⟨u4,rfl,g4⟩) ?_)|((with_reducible refine call ?_);with_reducible refine KI (ω:=ω) hgr h3 g3 (by omega) ?_)|refine zqr ?_|refine zqb ?_|refine zqi ?_ ?_|refine zqc ?_|refine zqg (fun _=>?_) (fun _=>?_)|(simp only [SSd,Nat.reduceAdd,bne_self_eq_false,RL.len h0,RL.len g0,RL.len h1,RL.len g1,RL.len h5,RL.len g5]))
 refine ZJ (fun x hx=>p (hq.it x hx)) (by omega) h0 g0 ?_;refine ADq (fun x hx=>p (hq.fr x hx)) (by omega) h1 g1 ?_;refine AGx (fun x hx=>p (hq.od x hx)) (by omega) h5 g5 ?_;exact Gh.to L (Gh.done hk)
end
section
variable {ω:Om}{I:Imm}{L:LH}{K:Value→M}
theorem ZN {q:TStmt}{v u:Value}{b1 b2:Nat}{l1 l2:List Value}{T1 T2:Nat}{f1 f2:Nat×Nat}[InL b1 L (.cells l1.toArray T1 f1)][InL b2 L (.cells l2.toArray T2 f2)][GetL l1 45 v][GetL l2 45 u](hq:∀x∈q.fCols,Aa x.fDefault≤1000000000000)(hl:q.fCols.length≤1000000000)(hx:RL TColV 16 I [] v q.fCols)(hy:RL TColV 16 I [] u q.fCols)(hk:Gh (K (.bool true)) I L):PU ω (.pointer (some ⟨b1,0,none⟩)) (.pointer (some ⟨b2,0,none⟩)) (.bool false) (fun v=>Gh (K v)) I L:=by
 unfold PU;refine loop (fun q' st I' L'=>∃k:Nat,k+q'=q.fCols.length∧st=(Value.bool false,Value.int .i64 (k:Nat),())∧I'=I∧L'=L) q.fCols.length ⟨0,by omega,rfl,rfl,rfl⟩ ?_;rintro q' st I' L' ⟨k,hkq,rfl,rfl,rfl⟩;unfold ABB;try refine zqe ?_
 refine rdb ?_;simp only [RL.len hx,SSd,Nat.reduceAdd];refine AB (fun hb=>?_) (fun hb=>hk);have hb:k < q.fCols.length:=by
  have:=of_decide_eq_true hb;omega
 obtain ⟨bt,off,c1,e1,gl,g2,g3⟩:=RL.ix hx (i:=k) (by omega) (by omega);obtain ⟨bu,off2,c2,k1,kl,k2,k3⟩:=RL.ix hy (i:=k) (by omega) (by omega);rw [Ah hb] at g2 k2;obtain ⟨w,rfl,hw⟩:=g2;obtain ⟨z,rfl,hz⟩:=k2;have hp:=hq _ (List.getElem_mem hb);generalize q.fCols[k]=x at *;obtain ⟨wa,wk,rfl⟩:=RL.form hw;obtain ⟨za,zk,rfl⟩:=RL.form hz;try refine zqe ?_
 refine rdb ?_;simp only [e1,SSd,Nat.reduceAdd];refine rdN gl (g3 I' L' (Ext.refl _) nofun) ?_;refine Ad (fun bx=>?_);refine stB rfl rfl (Au rfl) ?_;try refine zqe ?_
 refine rdb ?_;simp only [k1,SSd,Nat.reduceAdd];refine rdN kl (k3 I' _ (Ext.refl _) nofun) ?_;refine Ad (fun by'=>?_);refine stB rfl rfl (Au rfl) ?_;clear g3 k3 gl kl;repeat' (first|refine zqa ?_|refine zqh (fun _=>?_)|((with_reducible refine call ?_);with_reducible refine Cf (ω:=ω) _ x.fDefault (Nat.le_refl _) hp _ _ _ _ _ (ExV.iff.2 ⟨.slice wa x.fDefault.args.length wk,rfl,hw⟩) (ExV.iff.2 ⟨.slice za x.fDefault.args.length zk,rfl,hz⟩) ?_)|refine zqr ?_|refine zqb ?_|refine zqi ?_ ?_|refine zqc ?_|refine zqg (fun _=>?_) (fun _=>?_)|(simp only [SSd,Nat.reduceAdd,bne_self_eq_false]))
 simp only [wrap_i64 ((k:Int)+1) (by omega)];exact Gh.to L' (Gh.done ⟨q' - 1,by omega,k+1,by omega,rfl,rfl,rfl⟩)
theorem ZL {q:TStmt}{v u:Value}{b1 b2:Nat}{l1 l2:List Value}{T1 T2:Nat}{f1 f2:Nat×Nat}[InL b1 L (.cells l1.toArray T1 f1)][InL b2 L (.cells l2.toArray T2 f2)][GetL l1 33 v][GetL l2 33 u](hq:∀x∈q.fSets,Aa x.fExpr≤1000000000000)(hl:q.fSets.length≤1000000000)(hx:RL TSetV 12 I [] v q.fSets)(hy:RL TSetV 12 I [] u q.fSets)(hk:PU ω (.pointer (some ⟨b1,0,none⟩)) (.pointer (some ⟨b2,0,none⟩)) (.bool false) (fun v=>Gh (K v)) I L):VI ω (.pointer (some ⟨b1,0,none⟩)) (.pointer (some ⟨b2,0,none⟩)) (.bool false) (fun v=>Gh (K v)) I L:=by
 unfold VI;refine loop (fun q' st I' L'=>∃k:Nat,k+q'=q.fSets.length∧st=(Value.bool false,Value.int .i64 (k:Nat),())∧I'=I∧L'=L) q.fSets.length ⟨0,by omega,rfl,rfl,rfl⟩ ?_;rintro q' st I' L' ⟨k,hkq,rfl,rfl,rfl⟩;unfold AFw;try refine zqe ?_
 refine rdb ?_;simp only [RL.len hx,SSd,Nat.reduceAdd];refine AB (fun hb=>?_) (fun hb=>hk);have hb:k < q.fSets.length:=by
  have:=of_decide_eq_true hb;omega
 obtain ⟨bt,off,c1,e1,gl,g2,g3⟩:=RL.ix hx (i:=k) (by omega) (by omega);obtain ⟨bu,off2,c2,k1,kl,k2,k3⟩:=RL.ix hy (i:=k) (by omega) (by omega);rw [Ah hb] at g2 k2;obtain ⟨w,rfl,hw⟩:=g2;obtain ⟨z,rfl,hz⟩:=k2;have hp:=hq _ (List.getElem_mem hb);generalize q.fSets[k]=x at *;have hA:=g3 I' L' (Ext.refl _) nofun;have hB:=k3 I' L' (Ext.refl _) nofun;clear g3 k3 gl kl;have en1:(Aj x.fExpr w).length=11:=rfl;have en2:(Aj x.fExpr z).length=11:=rfl;have xA:Cells I' L' bt (off+1) (Aj x.fExpr w):=Cells.sub (k:=1) (m:=11) hA;have yA0:Cell I' L' bt (off) (.string ⟨x.fColumn.toArray⟩):=hA 0 _ rfl;have xB:Cells I' L' bu (off2+1) (Aj x.fExpr z):=Cells.sub (k:=1) (m:=11) hB;have yB0:Cell I' L' bu (off2) (.string ⟨x.fColumn.toArray⟩):=hB 0 _ rfl;repeat' (first|(with_reducible first|refine EM ?_|refine OX ?_|refine OW ?_|refine keepA ?_|refine Ad (fun _=>?_)|refine OG en1 xA ?_|refine OG en2 xB ?_|refine Ip yA0 ?_|refine Ip yB0 ?_)|((with_reducible refine call ?_);with_reducible refine Cf (ω:=ω) _ x.fExpr (Nat.le_refl _) hp _ _ _ _ _ (ExV.iff.2 ⟨w,rfl,hw⟩) (ExV.iff.2 ⟨z,rfl,hz⟩) ?_)|refine zqr ?_|refine zqb ?_|refine zqi ?_ ?_|refine zqc ?_|refine zqg (fun _=>?_) (fun _=>?_)|(simp only [SSd,Nat.reduceAdd,e1,k1,bne_self_eq_false]))
 simp only [wrap_i64 ((k:Int)+1) (by omega)];exact Gh.done ⟨q' - 1,by omega,k+1,by omega,rfl,rfl,rfl⟩
theorem ZM {q:TStmt}{v u:Value}{b1 b2:Nat}{l1 l2:List Value}{T1 T2:Nat}{f1 f2:Nat×Nat}[InL b1 L (.cells l1.toArray T1 f1)][InL b2 L (.cells l2.toArray T2 f2)][GetL l1 32 v][GetL l2 32 u](hq:∀x∈q.fRows,(∀y∈x,Aa y≤1000000000000)∧x.length≤1000000000000)(hl:q.fRows.length≤1000000000)(hx:RL (Fh ExV 11) 1 I [] v q.fRows)(hy:RL (Fh ExV 11) 1 I [] u q.fRows)(hk:VI ω (.pointer (some ⟨b1,0,none⟩)) (.pointer (some ⟨b2,0,none⟩)) (.bool false) (fun v=>Gh (K v)) I L):Am ((.bool false,.int .i64 0,()):Value×Value×Unit) (fun s Kn=>ZH ω (.pointer (some ⟨b1,0,none⟩)) (.pointer (some ⟨b2,0,none⟩)) s.1 s.2.1 Kn (fun v=>Gh (K v))) I L:=by
 refine loop (fun q' st I' L'=>∃k:Nat,k+q'=q.fRows.length∧st=(Value.bool false,Value.int .i64 (k:Nat),())∧I'=I∧L'=L) q.fRows.length ⟨0,by omega,rfl,rfl,rfl⟩ ?_;rintro q' st I' L' ⟨k,hkq,rfl,rfl,rfl⟩;unfold ZH;try refine zqe ?_
 refine rdb ?_;simp only [RL.len hx,SSd,Nat.reduceAdd];refine AB (fun hb=>?_) (fun hb=>hk);have hb:k < q.fRows.length:=by
  have:=of_decide_eq_true hb;omega
 obtain ⟨bt,off,c1,e1,gl,g2,g3⟩:=RL.ix hx (i:=k) (by omega) (by omega);obtain ⟨bu,off2,c2,k1,kl,k2,k3⟩:=RL.ix hy (i:=k) (by omega) (by omega);rw [Ah hb] at g2 k2;obtain ⟨w,rfl,hw⟩:=g2;obtain ⟨z,rfl,hz⟩:=k2;have hp:=hq _ (List.getElem_mem hb);generalize q.fRows[k]=x at *;have hE:∀y∈x,∀(I:Imm) (L:LH) (c d:List Value) (K:Value→M),ExV I y c→ExV I y d→K (.bool true) I L→CT ω 49 #[.agg c.toArray,.agg d.toArray] K I L:=fun y hy=>Cf _ _ (Nat.le_refl _) (hp.1 y hy);have xA:Cell I' L' bt off w:=g3 I' L' (Ext.refl _) nofun 0 _ rfl;have xB:Cell I' L' bu off2 z:=k3 I' L' (Ext.refl _) nofun 0 _ rfl;repeat' (first|(with_reducible first|refine EM ?_|refine OX ?_|refine OW ?_|refine keepA ?_|refine Ad (fun _=>?_)|refine Ip xA ?_|refine Ip xB ?_)|((with_reducible refine call ?_);with_reducible refine KI (ω:=ω) hE hw hz hp.2 ?_)|refine zqr ?_|refine zqb ?_|refine zqi ?_ ?_|refine zqc ?_|refine zqg (fun _=>?_) (fun _=>?_)|(simp only [SSd,Nat.reduceAdd,e1,k1,bne_self_eq_false]))
 simp only [wrap_i64 ((k:Int)+1) (by omega)];exact Gh.done ⟨q' - 1,by omega,k+1,by omega,rfl,rfl,rfl⟩
theorem ZK {s:TStmt}{N:Nat}(hN:N≤1000000000)(hq:GdS N s)(hc:cS s≤1000000000){c d:List Value}(hx:TStmtV I s c)(hy:TStmtV I s d)(hk:K (.bool true) I L):CT ω 28 #[.agg c.toArray,.agg d.toArray] K I L:=by
 obtain ⟨v0,v1,v2,v3,v4,v5,v6,v7,v8,v9,v10,v11,v12,rfl,h0,h1,h2,h3,h4,h5,h6,h7,h8,h9,h10,h11,h12⟩:=hx;obtain ⟨u0,u1,u2,u3,u4,u5,u6,u7,u8,u9,u10,u11,u12,rfl,g0,g1,g2,g3,g4,g5,g6,g7,g8,g9,g10,g11,g12⟩:=hy;have p:∀{x:Ex},GE N x→Aa x≤1000000000000:=fun h=>by have:=h.2;omega
 have hw1:=p hq.wh;have hcq:cQ s.fSelect≤1000000000:=by unfold cS at hc;omega
 have n1:s.fColumns.length≤1000000000000:=by have:=hq.n1;omega
 have n2:s.fKey.length≤1000000000000:=by have:=hq.n2;omega
 have n3:s.fIndex.fColumns.length≤1000000000000:=by have:=hq.n3;omega
 have eb:∀l:List Bs,eqL eqB l l=true:=YB AIK;have s0:Bd I s.fSelect _:=⟨v0,v1,v2,v3,v4,v5,rfl,h0,h1,h2,h3,h4,h5⟩;have s1:Bd I s.fSelect _:=⟨u0,u1,u2,u3,u4,u5,rfl,g0,g1,g2,g3,g4,g5⟩;have th6:∀L,RL StrV 1 I L v6 s.fColumns:=fun L=>RL.mono (fun _ _ h=>h) h6 (Ext.refl _) (fun _ h=>nomatch h);have tg6:∀L,RL StrV 1 I L u6 s.fColumns:=fun L=>RL.mono (fun _ _ h=>h) g6 (Ext.refl _) (fun _ h=>nomatch h);have th11:∀L,RL StrV 1 I L v11 s.fKey:=fun L=>RL.mono (fun _ _ h=>h) h11 (Ext.refl _) (fun _ h=>nomatch h);have tg11:∀L,RL StrV 1 I L u11 s.fKey:=fun L=>RL.mono (fun _ _ h=>h) g11 (Ext.refl _) (fun _ h=>nomatch h);have th12:∀L,RL StrV 1 I L v12 s.fIndex.fColumns:=fun L=>RL.mono (fun _ _ h=>h) h12 (Ext.refl _) (fun _ h=>nomatch h);have tg12:∀L,RL StrV 1 I L u12 s.fIndex.fColumns:=fun L=>RL.mono (fun _ _ h=>h) g12 (Ext.refl _) (fun _ h=>nomatch h);unfold cS at hc;refine ATP ?_;unfold ARu;refine Ad (fun b1=>Ad (fun b2=>?_));repeat' (first|refine zqa ?_|refine zqh (fun _=>?_)|((with_reducible refine call ?_);with_reducible refine ADp (ω:=ω) hN hq.q hcq s0 s1 ?_)|((with_reducible refine call ?_);with_reducible refine Cf (ω:=ω) _ s.fWhere (Nat.le_refl _) hw1 _ _ _ _ _ (ExV.iff.2 ⟨v9,rfl,h9⟩) (ExV.iff.2 ⟨u9,rfl,g9⟩) ?_)|((with_reducible refine call ?_);with_reducible refine IA (ω:=ω) (xs:=s.fColumns) (ys:=s.fColumns) (th6 _) (tg6 _) n1 ?_)|((with_reducible refine call ?_);with_reducible refine IA (ω:=ω) (xs:=s.fKey) (ys:=s.fKey) (th11 _) (tg11 _) n2 ?_)|((with_reducible refine call ?_);with_reducible refine IA (ω:=ω) (xs:=s.fIndex.fColumns) (ys:=s.fIndex.fColumns) (th12 _) (tg12 _) n3 ?_)|refine zqr ?_|refine zqb ?_|refine zqi ?_ ?_|refine zqc ?_|refine zqg (fun _=>?_) (fun _=>?_)|(simp only [SSd,Nat.reduceAdd,bne_self_eq_false,RL.len h7,RL.len g7,RL.len h8,RL.len g8,RL.len h10,RL.len g10,eb]))
 refine ZM (fun x hx=>⟨fun y hy=>p ((hq.rows x hx).1 y hy),by have:=(hq.rows x hx).2;omega⟩) (by omega) h7 g7 ?_;refine ZL (fun x hx=>p (hq.sets x hx)) (by omega) h8 g8 ?_;refine ZN (fun x hx=>p (hq.cols x hx).1) (by omega) h10 g10 ?_;exact Gh.to L (Gh.done hk)
theorem ADs {l:List TStmt}{N:Nat}{u v:Value}(hN:N≤1000000000)(hl:l.length≤1000000000)(hq:∀s∈l,GdS N s∧cS s≤1000000000)(hx:RL TStmtV 51 I L u l)(hy:RL TStmtV 51 I L v l)(hk:K (.bool true) I L):CT ω 13 #[u,v] K I L:=by
 refine ATY ?_;unfold ASD;simp only [RL.len hx,RL.len hy,bne_self_eq_false,SSd,Nat.reduceAdd];refine loop (fun q st I' L'=>∃k:Nat,k+q=l.length∧st=(Value.bool false,Value.int .i64 (k:Nat),())∧I'=I∧L'=L) l.length ⟨0,by omega,rfl,rfl,rfl⟩ ?_;rintro q st I' L' ⟨k,hkq,rfl,rfl,rfl⟩;unfold AGP;simp only [RL.len hx,SSd,Nat.reduceAdd];refine AB (fun hb=>?_) (fun hb=>Gh.done hk);have hb:k < l.length:=by
  have:=of_decide_eq_true hb;omega
 obtain ⟨bt,off,c1,g1,gl,g2,g3⟩:=RL.ix hx (i:=k) (by omega) (by omega);obtain ⟨bu,off2,c2,k1,kl,k2,k3⟩:=RL.ix hy (i:=k) (by omega) (by omega);rw [Ah hb] at g2 k2;refine draw (Stay I' L') (Stay.start I' L') ?_;simp only [g1,k1,SSd,Nat.reduceAdd];refine OG gl (g3 I' L' (Ext.refl _) (fun _ h=>h)) ?_;refine OG kl (k3 I' L' (Ext.refl _) (fun _ h=>h)) ?_;refine call (ZK hN (hq _ (List.getElem_mem hb)).1 (hq _ (List.getElem_mem hb)).2 g2 k2 ?_);simp only [Bool.not_true,wrap_i64 ((k:Int)+1) (by omega),SSd,Nat.reduceAdd];exact Gh.done ⟨q - 1,by omega,k+1,by omega,rfl,rfl,rfl⟩
end
def spTab:List Int:=(List.range 256).map fun i=>spN (UInt8.ofNat i)
theorem Wj {P:Program}{W:World}{name:String}{k:IntKind}{zs:List Int}{g:Nat}(h:Lib.TabIs P W name k zs)(hg:P.globalNamed name=some g):∃T fr,DC W g=some (.cells (zs.map fun z=>Value.int k z).toArray T fr):=by
 unfold Lib.TabIs World.var? at h;rw [hg] at h;simp only [Option.bind_some] at h;unfold DC;split at h
 ·rename_i cs T fr hc
  simp only [Option.some.injEq] at h;subst h;exact ⟨T,fr,hc⟩
 ·cases h
theorem Yv {W:World}(hL:laidMetH Tryz.prog Rows.sqlparseWordsRow.laid W):SpG (DC W):=by
 have h1 := hL.filter (fun x => x.1 == "strings.asciiSpace");rw [show (Rows.sqlparseWordsRow.laid.filter (fun x => x.1 == "strings.asciiSpace")) = [("strings.asciiSpace", Lib.tabData .u8 spTab)] by kernel_rfl, MakeChecks.laidMetH_plain _ _ _ (by kernel_rfl)] at h1;have h2:=Lib.tabIs_of_head (g:=0) (t:=134) (e:=5) (n:=256) (by kernel_rfl) (by kernel_rfl) (by kernel_rfl) (by kernel_rfl) (by kernel_rfl) (by kernel_rfl) h1;obtain ⟨T,fr,h3⟩:=Wj h2 (g:=0) (by kernel_rfl);intro c;refine Cell.imm h3 ?_;have hc:=c.toNat_lt;have hl:c.toNat < (spTab.map fun z=>Value.int .u8 z).length:=by simp [spTab];omega
 rw [List.getElem?_toArray,List.getElem?_eq_getElem hl];simp [spTab]
theorem XV {W:World}(hL:laidMetH Tryz.prog Rows.sqlparseWordsRow.laid W):Fg (DC W):=by
 have h1 := hL.filter (fun x => x.1 == "internal/strconv.uint64pow10");rw [show (Rows.sqlparseWordsRow.laid.filter (fun x => x.1 == "internal/strconv.uint64pow10")) = [("internal/strconv.uint64pow10", Lib.tabData .u64 Lib.pow10Tab)] by kernel_rfl, MakeChecks.laidMetH_plain _ _ _ (by kernel_rfl)] at h1;have hg : Tryz.prog.globalNamed "internal/strconv.uint64pow10" = some 5 := by kernel_rfl
 have h2 : Lib.TabIs Tryz.prog W "internal/strconv.uint64pow10" .u64 Lib.pow10Tab := Lib.tabIs_of_head (t := 275) (e := 268) (n := 20) hg (by kernel_rfl) (by kernel_rfl) (by kernel_rfl) (by kernel_rfl) (by kernel_rfl) h1;obtain ⟨T,fr,h3⟩:=Wj h2 hg;exact ⟨5,T,fr,hg,h3⟩
theorem DX {p:UInt8→Bool}(h:(List.range 256).all (fun i=>p (UInt8.ofNat i))=true)(c:UInt8):p c=true:=by
 have:=List.all_eq_true.1 h c.toNat (List.mem_range.2 c.toNat_lt);simpa using this
def tk (k:Int)(s:Bs)(n:Int):Tok:=⟨k,0,s,n⟩
def Tok.st (t:Tok):Tok:={t with at':=0}
inductive Lx:Bs→List Tok→Prop
 |nil {s:Bs}:BJ false s=[]→Lx s []
 |cons {s r r':Bs} {c:UInt8} {t:Tok} {l:List Tok}:BJ false s=c::r→DJ 0 (c::r)= .tok t r'→Lx r' l→Lx s (t::l)
theorem QN (a:Nat)(s:Bs):DJ a s=match DJ 0 s with
  | .bad e=>.bad e
  | .tok t r=>.tok {t with at':=a} r:=by
 cases s with
 |nil=>rfl
 |cons c r=>
  simp only [DJ,Gw];cases h1:BP c with
  |true=>
   simp only [if_true];by_cases h:63 < (List.map Dz (List.takeWhile (fun c=>BP c||BC c) (c::r))).length
   ·simp only [h,if_true]
   ·simp only [h,if_false]
  |false=>
  simp only [Bool.false_eq_true,if_false];cases h2:BC c with
  |true=>
   simp only [if_true];cases MK (List.takeWhile BC (c::r)) 0 with
   |none=>rfl
   |some k=>
    simp only
    cases (List.dropWhile BC (c::r)).head?.any BP <;> rfl
  |false=>
  simp only [Bool.false_eq_true,if_false];cases h3:(c==34||c==39) with
  |true=>
   simp only [if_true];cases CQ c r with
   |none=>rfl
   |some x=>
    simp only
    cases c==34 with
    |true=>
     simp only [if_true];cases (x.1.isEmpty||decide (63 < x.1.length)) <;> rfl
    |false=>rfl
  |false=>
  simp only [Bool.false_eq_true,if_false];cases Gy (c::r) <;> rfl
theorem EJ (q c:UInt8)(r:Bs):CQ q (c::r)=if c==0 then none else if c != q then (CQ q r).map fun x=>(c::x.1,x.2) else match r with
  |[]=>some ([],[])
  |d::r'=>if d==q then (CQ q r').map fun x=>(q::x.1,x.2) else some ([],d::r'):=by
 cases r <;> simp [CQ]
theorem RN (q:UInt8):∀(n:Nat) (s x r:Bs),s.length≤n→CQ q s=some (x,r)→r.length < s.length
 |_,[],x,r,_,h=>by simp [CQ] at h
 |0,c::s,x,r,hl,_=>by simp at hl
 |n+1,c::s,x,r,hl,h=>by
  rw [EJ] at h;split at h
  ·cases h
  split at h
  ·simp only [Option.map_eq_some_iff,Prod.mk.injEq] at h;obtain ⟨⟨a,b⟩,h1,_,rfl⟩:=h;have:=RN q n s a b (by simpa using hl) h1;simp only [List.length_cons];omega
  ·split at h
   ·simp only [Option.some.injEq,Prod.mk.injEq] at h;obtain ⟨_,rfl⟩:=h;simp
   ·rename_i d r'
    split at h
    ·simp only [Option.map_eq_some_iff,Prod.mk.injEq] at h;obtain ⟨⟨a,b⟩,h1,_,rfl⟩:=h;have:=RN q n r' a b (by simp only [List.length_cons] at hl;omega) h1;simp only [List.length_cons];omega
    ·simp only [Option.some.injEq,Prod.mk.injEq] at h;obtain ⟨_,rfl⟩:=h;simp
theorem ANM {p:UInt8→Bool}{c:UInt8}{r:Bs}(h:p c=true):((c::r).dropWhile p).length < (c::r).length:=by
 rw [List.dropWhile_cons_of_pos h];have:=(List.dropWhile_suffix p (l:=r)).length_le;simp only [List.length_cons];omega
theorem Vg {a:Nat}:∀{s r:Bs} {t:Tok},DJ a s= .tok t r→r.length < s.length
 |[],r,t,h=>by simp [DJ] at h
 |c::s,r,t,h=>by
  simp only [DJ,Gw] at h;split at h
  ·rename_i hc
   split at h
   ·cases h
   ·simp only [LexR.tok.injEq] at h;obtain ⟨_,rfl⟩:=h;exact ANM (by simp [hc])
  split at h
  ·rename_i hc
   split at h
   ·cases h
   ·split at h
    ·cases h
    ·simp only [LexR.tok.injEq] at h;obtain ⟨_,rfl⟩:=h;exact ANM hc
  split at h
  ·split at h
   ·cases h
   ·rename_i x r' hq
    have:=RN c _ _ _ _ (Nat.le_refl _) hq;split at h
    ·split at h
     ·cases h
     ·simp only [LexR.tok.injEq] at h;obtain ⟨_,rfl⟩:=h;simp only [List.length_cons];omega
    ·simp only [LexR.tok.injEq] at h;obtain ⟨_,rfl⟩:=h;simp only [List.length_cons];omega
  ·split at h
   ·cases h
   ·rename_i x hx
    have hm:x∈signsL:=List.mem_of_find?_eq_some hx;have h0:0 < x.length:=by
     have:signsL.all (fun x=>decide (0 < x.length))=true:=by decide
     exact of_decide_eq_true (List.all_eq_true.1 this x hm)
    simp only [LexR.tok.injEq] at h;obtain ⟨_,rfl⟩:=h;rw [List.length_drop];simp only [List.length_cons];omega
theorem Hw:∀(b:Bool) (s:Bs),(BJ b s).length≤s.length
 |_,[]=>by cases ‹Bool› <;> simp [BJ]
 |true,c::r=>by
  simp only [BJ];split
  ·have:=Hw false r;simp only [List.length_cons];omega
  ·have:=Hw true r;simp only [List.length_cons];omega
 |false,c::r=>by
  simp only [BJ];split
  ·have:=Hw false r;simp only [List.length_cons];omega
  ·split
   ·have:=Hw true r;simp only [List.length_cons];omega
   ·exact Nat.le_refl _
theorem Lx.toks {s:Bs}{l:List Tok}(h:Lx s l):∀(n f:Nat) (acc:List Tok),s.length < f→∃l',DY n f acc s= .toks (acc++l'++[⟨6,n,[],0⟩])∧l'.map Tok.st=l:=by
 induction h with
 |nil h=>
  intro n f acc hf;obtain ⟨f,rfl⟩:∃q,f=q+1:=⟨f - 1,by omega⟩;exact ⟨[],by simp only [DY,h,List.append_nil],rfl⟩
 |cons h1 h2 h3 ih=>
  rename_i s r r' c t l
  intro n f acc hf;obtain ⟨f,rfl⟩:∃q,f=q+1:=⟨f - 1,by omega⟩;have hlt:=Vg h2;have hle:=Hw false s;rw [h1] at hle;obtain ⟨l',g1,g2⟩:=ih n f (acc++[{t with at':=n - (r.length+1)}]) (by omega);refine ⟨{t with at':=n - (r.length+1)}::l',?_,?_⟩
  ·simp only [DY,h1];rw [QN,h2];simp only
   rw [g1];simp
  ·rw [List.map_cons,g2];congr 1
   have:=QN 0 (c::r);rw [h2] at this;simp only [LexR.tok.injEq,and_true] at this;exact this.symm
theorem Lx.lex {s:Bs}{l:List Tok}(h:Lx s l):∃l',Rt s= .toks (l'++[⟨6,s.length,[],0⟩])∧l'.map Tok.st=l:=by
 obtain ⟨l',h1,h2⟩:=h.toks s.length (s.length+1) [] (by omega);exact ⟨l',by rw [Rt,h1];simp,h2⟩
theorem AAo (n:Nat):∀(f:Nat) (acc:List Tok) (s:Bs) (l0:List Tok),s.length < f→DY n f acc s= .toks l0→∃l l',Lx s l∧l0=acc++l'++[⟨6,n,[],0⟩]∧l'.map Tok.st=l
 |0,_,_,_,h,_=>by omega
 |f+1,acc,s,l0,hf,h=>by
  simp only [DY] at h;split at h
  ·rename_i hs
   simp only [LexA.toks.injEq] at h;subst h;exact ⟨[],[],.nil hs,by simp,rfl⟩
  ·rename_i c r hs
   split at h
   ·cases h
   ·rename_i t r' ho
    have hlt:=Vg ho;have hle:=Hw false s;rw [hs] at hle;obtain ⟨l,l',g1,g2,g3⟩:=AAo n f _ _ _ (by omega) h;rw [QN] at ho;cases h0:DJ 0 (c::r) with
    |bad e=>rw [h0] at ho;cases ho
    |tok t0 r0=>
     rw [h0] at ho;simp only [LexR.tok.injEq] at ho;obtain ⟨rfl,rfl⟩:=ho;refine ⟨t0::l,{t0 with at':=n - (r.length+1)}::l',.cons hs h0 g1,by rw [g2];simp,?_⟩;rw [List.map_cons,g3];congr 1
     have:=QN 0 (c::r);rw [h0] at this;simp only [LexR.tok.injEq,and_true] at this;exact this.symm
theorem AOU {s:Bs}{l0:List Tok}(h:Rt s= .toks l0):∃l l',Lx s l∧l0=l'++[⟨6,s.length,[],0⟩]∧l'.map Tok.st=l:=by
 obtain ⟨l,l',h1,h2,h3⟩:=AAo s.length (s.length+1) [] s l0 (by omega) h;exact ⟨l,l',h1,by simpa using h2,h3⟩
def wc (c:UInt8):Bool:=BP c||BC c
def cmtL:Bs:=[45,45,59,32,39,34,10,9]
def BA (bit:Nat→Bool):Nat→UInt8→Bs→Bs
 |_,_,[]=>[]
 |i,q,c::r=>
  if q != 0 then c::BA bit (i+1) (if c==q then 0 else q) r else
  if c==39||c==34 then c::BA bit (i+1) c r else
  if (97≤c&&c≤122)&&bit i then (c - 32)::BA bit (i+1) 0 r else
  if c==32&&bit i then c::(cmtL++BA bit (i+1) 0 r) else c::BA bit (i+1) 0 r
section
variable (bit:Nat→Bool)
theorem AHn (c:UInt8)(h:(c==39||c==34)=true):(97≤c&&c≤122)=false:=by
 have:=DX (p:=fun c=> !(c==39||c==34)|| !(decide (97≤c)&&decide (c≤122))) (by decide+kernel) c;rw [h] at this;simpa only [Bool.not_true,Bool.false_or,Bool.not_eq_true'] using this
theorem Kv (i:Nat)(s:Bs):(BA bit i 0 s).head? =s.head?.map fun c=>if (97≤c&&c≤122)&&bit i then c - 32 else c:=by
 cases s with
 |nil=>rfl
 |cons c r=>
  simp only [BA,bne_self_eq_false,Bool.false_eq_true,if_false,List.head?_cons,Option.map_some];by_cases h:(c==39||c==34)=true
  ·rw [if_pos h,AHn c h];rfl
  rw [if_neg h];by_cases h2:((97≤c&&c≤122)&&bit i)=true
  ·rw [if_pos h2,if_pos h2];rfl
  rw [if_neg h2,if_neg h2];split <;> rfl
theorem AJk {s:Bs}{q:UInt8}(i:Nat)(hq:q=34∨q=39)(h:s.head? ≠some q):(BA bit i 0 s).head? ≠some q:=by
 rw [Kv];cases s with
 |nil=>simp
 |cons c r=>
  simp only [List.head?_cons,Option.map_some,ne_eq,Option.some.injEq] at h ⊢;split
  ·rename_i hc
   simp only [Bool.and_eq_true] at hc;have:=DX (p:=fun c=> !(97≤c&&c≤122)||(c - 32 != 34&&c - 32 != 39)) (by decide+kernel) c;simp [hc.1.1,hc.1.2] at this;rcases hq with rfl|rfl
   ·exact this.1
   ·exact this.2
  ·exact h
theorem ADR:∀(w s:Bs) (i:Nat),w.all (fun c=>wc c&& !(65≤c&&c≤90))=true→∃w' j,BA bit i 0 (w++s)=w'++BA bit j 0 s∧w'.map Dz=w∧w'.all wc=true∧(w.head?.any BP=true→w'.head?.any BP=true)
 |[],s,i,_=>⟨[],i,rfl,rfl,rfl,fun h=>h⟩
 |c::w,s,i,h=>by
  simp only [List.all_cons,Bool.and_eq_true] at h;obtain ⟨w',j,h1,h2,h3,_⟩:=ADR w s (i+1) h.2;have k:=DX (p:=fun c=> !(wc c&& !(65≤c&&c≤90))||(c != 39&&c != 34&&c != 32&&Dz c==c&&(!(97≤c&&c≤122)||(Dz (c - 32)==c&&wc (c - 32)&&BP (c - 32))))) (by decide+kernel) c;simp only [h.1.1,h.1.2,Bool.and_self,Bool.not_true,Bool.false_or,Bool.and_eq_true,bne_iff_ne,beq_iff_eq,Bool.or_eq_true] at k;obtain ⟨⟨⟨⟨k1,k2⟩,k3⟩,k4⟩,k5⟩:=k;simp only [List.cons_append,BA,bne_self_eq_false,Bool.false_eq_true,if_false];rw [if_neg (by simp [k1,k2])];by_cases hc:((97≤c&&c≤122)&&bit i)=true
  ·rw [if_pos hc];simp only [Bool.and_eq_true] at hc;have k6:=k5.resolve_left (by simp [hc.1.1,hc.1.2]);refine ⟨(c - 32)::w',j,by rw [h1];rfl,by rw [List.map_cons,k6.1.1,h2],by simp [k6.1.2,h3],fun _=>by simpa using k6.2⟩
  ·rw [if_neg hc,if_neg (by simp [k3])];exact ⟨c::w',j,by rw [h1];rfl,by rw [List.map_cons,k4,h2],by simp [h.1.1,h3],fun h=>h⟩
theorem Nz:∀(w s:Bs) (i:Nat),w.all (fun c=> !(97≤c&&c≤122)&&c != 39&&c != 34&&c != 32)=true→∃j,BA bit i 0 (w++s)=w++BA bit j 0 s
 |[],s,i,_=>⟨i,rfl⟩
 |c::w,s,i,h=>by
  simp only [List.all_cons,Bool.and_eq_true,bne_iff_ne] at h;obtain ⟨⟨⟨⟨h1,h2⟩,h3⟩,h4⟩,h5⟩:=h;obtain ⟨j,hj⟩:=Nz w s (i+1) (by simpa using h5);refine ⟨j,?_⟩;simp only [List.cons_append,BA,bne_self_eq_false,Bool.false_eq_true,if_false];rw [if_neg (by simp [h2,h3]),if_neg (by
   have h1:(decide (97≤c)&&decide (c≤122))=false:=by simpa only [Bool.not_eq_true'] using h1
   rw [h1];simp),if_neg (by simp [h4]),hj]
end
theorem Ym {p:UInt8→Bool}:∀{w s:Bs},w.all p=true→s.head?.any p=false→(w++s).takeWhile p=w∧(w++s).dropWhile p=s
 |[],[],_,_=>⟨rfl,rfl⟩
 |[],c::s,_,h=>by
  simp only [List.head?_cons,Option.any_some] at h;simp [List.takeWhile_cons,List.dropWhile_cons,h]
 |c::w,s,h,hs=>by
  simp only [List.all_cons,Bool.and_eq_true] at h;have:=Ym h.2 hs;simp only [List.cons_append,List.takeWhile_cons,List.dropWhile_cons,h.1,if_true,this.1,this.2,and_self]
theorem AJv {c:UInt8}{r:Bs}(h:FI c=false)(h':c≠45):BJ false (c::r)=c::r:=by
 simp only [BJ,h,Bool.false_eq_true,if_false];rw [if_neg (by simp [h'])]
theorem AFH (s:Bs):BJ false (32::(cmtL++s))=BJ false s:=by simp [BJ,FI,cmtL]
end Go.Proofs.YtkifgfanjcfedaaGreatDoor
