/-
  Lemmas, part 9: laid together by a program.
-/
import Derived.Test.YtkifgfanjcfedaaGreatDoorP8
import Derived.Test.YtkifgfanjcfedaaGreatDoorP2
import Derived.Test.YtkifgfanjcfedaaGreatDoorRows
import Derived.LaidSub
import Derived.MakeChecks
import Derived.Lib.LaidTab
set_option maxRecDepth 100000
set_option linter.unusedVariables false
set_option linter.unusedSimpArgs false
set_option linter.unusedSectionVars false
namespace Go.Proofs.YtkifgfanjcfedaaGreatDoor
open Go.SL
abbrev wpO (b:Nat):Obj:=.cells [AX b].toArray 108 (0,0)
section
variable {ω:Om}{G I:Imm}{L F Y:LH}{K:Value→M}{b bw:Nat}{w:Value}{X:LH}{l:Bs}{n:Nat}
theorem ACx (hG:Ey G){xs:List TItem}[i1:InL bw Y (wpO b)](hGI:Ext G I)(hxs:∀x∈xs,okE x.fExpr):FnW ω b w Y (.func (.func 165) #[] #[AX bw]) (Hy TItemV) (IJ true) xs I:=by
 intro x hxm I2 X2 l2 vx K2 hI2 hw2 hW2 hvx hn hk;obtain ⟨c,rfl,hc⟩:=hvx;obtain ⟨v0,rfl,h0⟩:=hc;have hok:=hxs x hxm;have hGI2:=Ext.trans hGI hI2;refine Hq (by kernel_rfl) ?_;refine AQl ?_;show ZZ ω (.agg _) (AX bw) _ I2 _;unfold ZZ;refine AV (fun bx=>?_);have he:ExV I2 x.fExpr (Az x.fExpr v0):=ExV.iff.2 ⟨v0,rfl,h0⟩;have fin:∀(s:Bs) (I3:Imm) (X3:LH) (lc:List Value) [GetL lc 13 (.string ⟨x.fAs.toArray⟩)],Ext I2 I3→s++asB x.fAs=IJ true x→WrS b w X3 (l2++s)→Ls ω (AX bw) (AX bx) (fun v=>Gh (K2 v)) I3 (X3++((bx,.cells lc.toArray 119 (0,0))::Y)):=by
  intro s I3 X3 lc _ hI3 hs hW3;rw [←hs] at hn hk;simp only [List.length_append,List.length_cons,List.length_nil] at hn;unfold Ls;refine rdb ?_;try simp only [SSd,Nat.reduceAdd]
  refine rdb ?_;refine call (VD x.fAs (StL.mono hw2 hI3) hW3 zL (fun I4 X4 hI4 hW4=>?_));exact Gh.to (X4++Y) (Gh.done (hk I4 X4 (Ext.trans hI3 hI4) (by simpa using hW4)))
 have hib:IJ true x=(if x.fStar then (if x.fTable.isEmpty then [42] else nameB x.fTable++[46,42]) else exB true x.fExpr 1)++asB x.fAs:=rfl;try simp only [SSd,Nat.reduceAdd]
 refine rdb ?_;cases hst:x.fStar with
 |true=>
  rw [hst] at hib;try simp only [SSd,Nat.reduceAdd]
  refine rdb ?_;cases htb:x.fTable with
  |nil=>
   rw [htb] at hib;simp only [List.isEmpty_nil,if_true] at hib;have hn':=hn;rw [hib] at hn';simp only [List.length_append,List.length_cons,List.length_nil] at hn';simp only [sNe,show (([]:Bs)==[])=true from rfl,Bool.not_true,SSd,Nat.reduceAdd];unfold Oe;try simp only [SSd,Nat.reduceAdd]
   refine rdb ?_;try simp only [SSd,Nat.reduceAdd]
   refine rdb ?_;refine BQ (X:=X2) hW2 zL (fun I3 X3 hI3 hW3=>?_);exact fin _ I3 X3 _ hI3 hib.symm hW3
  |cons c r=>
   rw [htb] at hib;simp only [List.isEmpty_cons,Bool.false_eq_true,if_false,if_true] at hib;have hn':=hn;rw [hib] at hn';simp only [List.length_append,List.length_cons,List.length_nil] at hn';simp only [sNe,show ((c::r)==([]:Bs))=false from rfl,Bool.not_false,SSd,Nat.reduceAdd];unfold ZY;refine rdb ?_;try simp only [SSd,Nat.reduceAdd]
   refine rdb ?_;refine call (BV (X:=X2) hW2 hw2 (c::r) zL (fun I3 X3 hI3 hW3=>?_));refine rdb ?_;refine BQ hW3 zL (fun I4 X4 hI4 hW4=>?_);exact fin (nameB (c::r)++[46,42]) I4 X4 _ (Ext.trans hI3 hI4) hib.symm (by simpa using hW4)
 |false=>
  rw [hst] at hib;simp only [Bool.false_eq_true,if_false] at hib;have hn':=hn;rw [hib] at hn';simp only [List.length_append,List.length_cons,List.length_nil] at hn';try simp only [SSd,Nat.reduceAdd]
  unfold Oe;try simp only [SSd,Nat.reduceAdd]
  refine rdb ?_;try simp only [SSd,Nat.reduceAdd]
  refine rdb ?_;refine rdP _ rfl rfl ?_;refine call (Gp (X:=X2) hG hok 1 hGI2 hw2 hW2 he zL (fun I3 X3 hI3 hW3=>?_));exact fin _ I3 X3 _ hI3 hib.symm hW3
theorem ABX (hG:Ey G){xs:List TOrder}[i1:InL bw Y (wpO b)](hGI:Ext G I)(hxs:∀x∈xs,okE x.fExpr):FnW ω b w Y (.func (.func 170) #[] #[AX bw]) (Hy TOrderV) (UU true) xs I:=by
 intro x hxm I2 X2 l2 vx K2 hI2 hw2 hW2 hvx hn hk;obtain ⟨c,rfl,hc⟩:=hvx;obtain ⟨v0,rfl,h0⟩:=hc;have hok:=hxs x hxm;have hGI2:=Ext.trans hGI hI2;refine Hq (by kernel_rfl) ?_;refine AQg ?_;show ZW ω (.agg _) (AX bw) _ I2 _;unfold ZW;refine AV (fun bx=>?_);have he:ExV I2 x.fExpr (Az x.fExpr v0):=ExV.iff.2 ⟨v0,rfl,h0⟩;unfold UU at hn hk;simp only [List.length_append,List.length_cons,List.length_nil] at hn;refine rdb ?_;try simp only [SSd,Nat.reduceAdd]
 refine rdP _ rfl rfl ?_;refine call (Gp (X:=X2) hG hok 1 hGI2 hw2 hW2 he zL (fun I3 X3 hI3 hW3=>?_));try simp only [SSd,Nat.reduceAdd]
 refine rdb ?_;cases hds:x.fDesc with
 |true=>
  rw [hds] at hn hk;simp only [if_true,List.length_cons,List.length_nil] at hn hk;try simp only [SSd,Nat.reduceAdd]
  refine rdb ?_;refine BQ hW3 zL (fun I4 X4 hI4 hW4=>?_);exact Gh.to (X4++Y) (Gh.done (hk I4 X4 (Ext.trans hI3 hI4) (by simpa using hW4)))
 |false=>
  rw [hds] at hn hk;simp only [Bool.false_eq_true,if_false] at hn hk;try simp only [SSd,Nat.reduceAdd]
  exact Gh.to (X3++Y) (Gh.done (hk I3 X3 hI3 (by simpa using hW3)))
def AHa (x:TSet):Bs:=nameB x.fColumn++[32,61,32]++exB true x.fExpr 1
theorem AKX (hG:Ey G){xs:List TSet}[i1:InL bw Y (wpO b)](hGI:Ext G I)(hxs:∀x∈xs,okE x.fExpr):FnW ω b w Y (.func (.func 119) #[] #[AX bw]) (Hy TSetV) AHa xs I:=by
 intro x hxm I2 X2 l2 vx K2 hI2 hw2 hW2 hvx hn hk;obtain ⟨c,rfl,hc⟩:=hvx;obtain ⟨v0,rfl,h0⟩:=hc;have hok:=hxs x hxm;have hGI2:=Ext.trans hGI hI2;refine Hq (by kernel_rfl) ?_;refine ART ?_;show AAS ω (.agg _) (AX bw) _ I2 _;unfold AAS;refine AV (fun bx=>?_);have he:ExV I2 x.fExpr (Az x.fExpr v0):=ExV.iff.2 ⟨v0,rfl,h0⟩;unfold AHa at hn hk;simp only [List.length_append,List.length_cons,List.length_nil] at hn;refine rdb ?_;try simp only [SSd,Nat.reduceAdd]
 refine rdb ?_;refine call (BV (X:=X2) hW2 hw2 x.fColumn zL (fun I3 X3 hI3 hW3=>?_));refine rdb ?_;refine BQ hW3 zL (fun I4 X4 hI4 hW4=>?_);refine rdb ?_;try simp only [SSd,Nat.reduceAdd]
 refine rdP _ rfl rfl ?_;have hI24:=Ext.trans hI3 hI4;refine call (Gp (X:=X4) hG hok 1 (Ext.trans hGI2 hI24) (StL.mono hw2 hI24) hW4 (ExV.mono hI24 he) zL (fun I5 X5 hI5 hW5=>?_));exact Gh.to (X5++Y) (Gh.done (hk I5 X5 (Ext.trans hI24 hI5) (by simpa using hW5)))
theorem AKY (hG:Ey G){xs:List (List Ex)}(hGI:Ext G I)(hxs:∀x∈xs,okL x∧x.length≤1000000000000):FnW ω b w Y (.func (.func 117) #[AX b] #[]) (AKW (Ez ExV 11)) (rowB true) xs I:=by
 intro x hxm I2 X2 l2 vx K2 hI2 hw2 hW2 hvx hn hk;obtain ⟨v,hv,hr⟩:=(show Ez ExV 11 I2 x [vx] from hvx);obtain rfl:vx=v:=by simpa using hv
 refine Wj (by kernel_rfl) ?_;exact KF (X:=X2) (n:=BZ x) (Qh hG _) (Nat.le_refl _) (hxs x hxm).1 (hxs x hxm).2 (Ext.trans hGI hI2) hw2 hW2 hr hn hk
def ANj (_:Imm)(x:Bool×Bs)(c:List Value):Prop:=c=[.bool x.1,.string ⟨x.2.toArray⟩]
def Ha (l:List (Bool×Bs)):Bs:=l.flatMap fun p=>if p.1 then p.2 else []
theorem YL {l:List (Bool×Bs)}{k:Nat}(h:k < l.length):Ha (l.take (k+1))=Ha (l.take k)++(if l[k].1 then l[k].2 else []):=by
 unfold Ha;rw [List.take_succ_eq_append_getElem h,List.flatMap_append];simp only [List.flatMap_cons,List.flatMap_nil,List.append_nil]
theorem AJA (l:List (Bool×Bs))(k:Nat):(Ha (l.take k)).length≤(Ha l).length:=by
 have:Ha l=Ha (l.take k)++Ha (l.drop k):=by unfold Ha;rw [←List.flatMap_append,List.take_append_drop]
 rw [this,List.length_append];omega
def tyM (t:Int):Option Bs:=if t=1 then some [32,105,110,116] else if t=2 then some [32,98,111,111,108] else if t=3 then some [32,116,101,120,116] else none
theorem AKf:EF (EF (EF (fun _=>none) 1 (some (.string ⟨[32,105,110,116].toArray⟩))) 2 (some (.string ⟨[32,98,111,111,108].toArray⟩))) 3 (some (.string ⟨[32,116,101,120,116].toArray⟩))=fun k=>(tyM k).map fun s=>.string ⟨s.toArray⟩:=by
 funext k
 simp only [EF,tyM];by_cases h3:k=3
 ·subst h3;rfl
 by_cases h2:k=2
 ·subst h2;rfl
 by_cases h1:k=1
 ·subst h1;rfl
 simp only [h1,h2,h3,if_false];rfl
theorem AMs (x:TCol):RD true x=nameB x.fName++((tyM x.fType).getD [32,63]++(Ha [(x.fNotNull,[32,110,111,116,32,110,117,108,108]),(x.fKey,[32,112,114,105,109,97,114,121,32,107,101,121]),(x.fUnique,[32,117,110,105,113,117,101])]++DY true [32,100,101,102,97,117,108,116,32] x.fDefault)):=by
 have ht:[32]++VI x.fType=(tyM x.fType).getD [32,63]:=by
  unfold VI tyM;by_cases h1:x.fType=1
  ·rw [if_pos h1,if_pos h1];rfl
  by_cases h2:x.fType=2
  ·rw [if_neg h1,if_pos h2,if_neg h1,if_pos h2];rfl
  by_cases h3:x.fType=3
  ·rw [if_neg h1,if_neg h2,if_pos h3,if_neg h1,if_neg h2,if_pos h3];rfl
  rw [if_neg h1,if_neg h2,if_neg h3,if_neg h1,if_neg h2,if_neg h3];rfl
 rw [←ht];unfold RD Ha DY;simp
theorem AKa (hG:Ey G){xs:List TCol}[i1:InL bw Y (wpO b)](hGI:Ext G I)(hxs:∀x∈xs,okE x.fDefault):FnW ω b w Y (.func (.func 181) #[] #[AX bw]) (Hy TColV) (RD true) xs I:=by
 intro x hxm I2 X2 l2 vx K2 hI2 hw2 hW2 hvx hn hk;obtain ⟨c,rfl,hc⟩:=hvx;obtain ⟨v0,rfl,h0⟩:=hc;have hok:=hxs x hxm;have hGI2:=Ext.trans hGI hI2;refine Hq (by kernel_rfl) ?_;refine AQX ?_;show ZO ω (.agg _) (AX bw) _ I2 _;unfold ZO;refine AV (fun bx=>?_);have he:ExV I2 x.fDefault (Az x.fDefault v0):=ExV.iff.2 ⟨v0,rfl,h0⟩;rw [AMs] at hn hk;generalize hty:(tyM x.fType).getD [32,63]=ty at hn hk;generalize hfl:([(x.fNotNull,[32,110,111,116,32,110,117,108,108]),(x.fKey,[32,112,114,105,109,97,114,121,32,107,101,121]),(x.fUnique,[32,117,110,105,113,117,101])]:List (Bool×Bs))=fl at hn hk;simp only [List.length_append,List.length_cons,List.length_nil] at hn;refine rdb ?_;try simp only [SSd,Nat.reduceAdd]
 refine rdb ?_;refine call (BV (X:=X2) hW2 hw2 x.fName zL (fun I3 X3 hI3 hW3=>?_));refine AIb (fun bm=>?_);obtain ⟨es1,c1,e1,p1⟩:=MapSi.empty.put 1 (.string ⟨[32,105,110,116].toArray⟩);obtain ⟨es2,c2,e2,p2⟩:=p1.put 2 (.string ⟨[32,98,111,111,108].toArray⟩);obtain ⟨es3,c3,e3,p3⟩:=p2.put 3 (.string ⟨[32,116,101,120,116].toArray⟩);rw [AKf] at p3;refine Gh.done (FC (k:=1) MapSi.empty e1 ?_);refine Gh.done (FC (k:=2) p1 e2 ?_);refine Gh.done (FC (k:=3) p2 e3 ?_);refine Gh.done ?_;have rest:OY ω (AX bw) (AX bx) (.string ⟨ty.toArray⟩) (fun v=>Gh (K2 v)) I3 ((bm,.map es3 c3)::(X3++((bx,.cells [.string ⟨x.fName.toArray⟩,.int .i64 x.fType,.bool x.fNotNull,.bool x.fKey,.bool x.fUnique,.int .i64 x.fDefault.kind,.int .i64 x.fDefault.value.fType,.bool x.fDefault.value.fNull,.int .i64 x.fDefault.value.fInt,.string ⟨x.fDefault.value.fText.toArray⟩,.string ⟨x.fDefault.table.toArray⟩,.string ⟨x.fDefault.name.toArray⟩,.int .i64 x.fDefault.slot,.int .i64 x.fDefault.type,.bool x.fDefault.distinct,v0].toArray 101 (0,0))::Y))):=by
  unfold OY;refine rdb ?_;refine BQ (X:=X3) hW3 zL (fun I4 X4 hI4 hW4=>?_);try simp only [SSd,Nat.reduceAdd]
  refine rdb ?_;try simp only [SSd,Nat.reduceAdd]
  refine rdb ?_;try simp only [SSd,Nat.reduceAdd]
  refine rdb ?_;try simp only [SSd,Nat.reduceAdd]
  have hI24:=Ext.trans hI3 hI4;refine Dz (R:=ANj) [(x.fNotNull,[32,110,111,116,32,110,117,108,108]),(x.fKey,[32,112,114,105,109,97,114,121,32,107,101,121]),(x.fUnique,[32,117,110,105,113,117,101])] [[.bool x.fNotNull,.string ⟨[32,110,111,116,32,110,117,108,108].toArray⟩],[.bool x.fKey,.string ⟨[32,112,114,105,109,97,114,121,32,107,101,121].toArray⟩],[.bool x.fUnique,.string ⟨[32,117,110,105,113,117,101].toArray⟩]] rfl rfl rfl (by simp) (by simp [ANj]) (fun hI h=>h) (fun I5 a5 hI5 hv5=>Gh.done ?_);rw [hfl] at hv5;have hfl3:fl.length=3:=by rw [←hfl];rfl
  try simp only [SSd,Nat.reduceAdd]
  refine loop (fun q st I' L'=>∃(k:Nat) (X':LH),k+q=3∧st=(.int .i64 k,())∧Ext I5 I'∧L'=X'++((bm,.map es3 c3)::((bx,.cells [.string ⟨x.fName.toArray⟩,.int .i64 x.fType,.bool x.fNotNull,.bool x.fKey,.bool x.fUnique,.int .i64 x.fDefault.kind,.int .i64 x.fDefault.value.fType,.bool x.fDefault.value.fNull,.int .i64 x.fDefault.value.fInt,.string ⟨x.fDefault.value.fText.toArray⟩,.string ⟨x.fDefault.table.toArray⟩,.string ⟨x.fDefault.name.toArray⟩,.int .i64 x.fDefault.slot,.int .i64 x.fDefault.type,.bool x.fDefault.distinct,v0].toArray 101 (0,0))::Y))∧WrS b w X' (((l2++nameB x.fName)++ty)++Ha (fl.take k))) 3 ⟨0,X4,by omega,rfl,Ext.refl _,rfl,by simpa [Ha] using hW4⟩ ?_;rintro q st I' L' ⟨k,X',hkq,rfl,hI',rfl,hW'⟩;unfold ZN;try simp only [SSd,Nat.reduceAdd]
  refine AB (fun hb=>?_) (fun hb=>?_)
  ·have hb:k < fl.length:=by
    have:=of_decide_eq_true hb;omega
   obtain ⟨bt,off,c1,g1,gl,g2,g3⟩:=RL.ix hv5 (i:=k) (by omega) (by omega);rw [Ar hb] at g2;obtain rfl:=g2;have hft:=YL hb;have hfle:=AJA fl (k+1);rw [hft,List.length_append] at hfle;simp only [g1,SSd,Nat.reduceAdd];refine EN (g3 _ [] hI' (fun _ h=>h)) (Ext.refl _) gl ?_;refine AV (fun b3=>?_);refine stB rfl rfl (AO rfl) ?_;try simp only [SSd,Nat.reduceAdd]
   refine rdb ?_;have nxt:∀(I6:Imm) (X6 Z:LH),Ext I' I6→SubP (X6++((bm,.map es3 c3)::((bx,.cells [.string ⟨x.fName.toArray⟩,.int .i64 x.fType,.bool x.fNotNull,.bool x.fKey,.bool x.fUnique,.int .i64 x.fDefault.kind,.int .i64 x.fDefault.value.fType,.bool x.fDefault.value.fNull,.int .i64 x.fDefault.value.fInt,.string ⟨x.fDefault.value.fText.toArray⟩,.string ⟨x.fDefault.table.toArray⟩,.string ⟨x.fDefault.name.toArray⟩,.int .i64 x.fDefault.slot,.int .i64 x.fDefault.type,.bool x.fDefault.distinct,v0].toArray 101 (0,0))::Y))) Z→WrS b w X6 (((l2++nameB x.fName)++ty)++Ha (fl.take (k+1)))→OX ω (.int .i64 k) (fun s'=>Gh fun I2 L2=>∃m',m' < q∧∃(k:Nat) (X':LH),k+m'=3∧s'=(.int .i64 k,())∧Ext I5 I2∧L2=X'++((bm,.map es3 c3)::((bx,.cells [.string ⟨x.fName.toArray⟩,.int .i64 x.fType,.bool x.fNotNull,.bool x.fKey,.bool x.fUnique,.int .i64 x.fDefault.kind,.int .i64 x.fDefault.value.fType,.bool x.fDefault.value.fNull,.int .i64 x.fDefault.value.fInt,.string ⟨x.fDefault.value.fText.toArray⟩,.string ⟨x.fDefault.table.toArray⟩,.string ⟨x.fDefault.name.toArray⟩,.int .i64 x.fDefault.slot,.int .i64 x.fDefault.type,.bool x.fDefault.distinct,v0].toArray 101 (0,0))::Y))∧WrS b w X' (((l2++nameB x.fName)++ty)++Ha (fl.take k))) (fun v=>Gh (K2 v)) I6 Z:=by
    intro I6 X6 Z hI6 hZ hW6;unfold OX;simp only [wrap_i64 ((k:Int)+1) (by omega),SSd,Nat.reduceAdd];exact Gh.to _ (Gh.done ⟨q - 1,by omega,k+1,X6,by omega,rfl,Ext.trans hI' hI6,rfl,hW6⟩)
   cases hf:fl[k].1 with
   |true=>
    rw [hf] at hft hfle;simp only [if_true] at hft hfle;try simp only [SSd,Nat.reduceAdd]
    refine rdb ?_;try simp only [SSd,Nat.reduceAdd]
    refine rdb ?_;refine BQ (X:=X') hW' zL (fun I6 X6 hI6 hW6=>?_);exact nxt I6 X6 _ hI6 inferInstance (by rw [hft];simpa using hW6)
   |false=>
    rw [hf] at hft;simp only [Bool.false_eq_true,if_false,List.append_nil] at hft;try simp only [SSd,Nat.reduceAdd]
    exact nxt I' X' _ (Ext.refl _) inferInstance (by rw [hft];exact hW')
  ·have hb:¬k < fl.length:=by
    have:=of_decide_eq_false hb;omega
   rw [List.take_of_length_le (by omega)] at hW';have hI25:=Ext.trans hI24 (Ext.trans hI5 hI');unfold ZM;refine rdb ?_;try simp only [SSd,Nat.reduceAdd]
   refine rdP _ rfl rfl ?_;refine call (Eh (X:=X') hG hok [32,100,101,102,97,117,108,116,32] (Ext.trans hGI2 hI25) (StL.mono hw2 hI25) hW' (ExV.mono hI25 he) zL (fun I6 X6 hI6 hW6=>?_));exact Gh.to (X6++Y) (Gh.done (hk I6 X6 (Ext.trans hI25 hI6) (by simpa using hW6)))
 try simp only [SSd,Nat.reduceAdd]
 refine rdb ?_;refine ASF (k:=x.fType) p3 ?_;cases htt:tyM x.fType with
 |none=>
  rw [htt] at hty;subst hty;simp only [Option.map_none,lkV,SSd,Nat.reduceAdd];exact rest
 |some s=>
  rw [htt] at hty;obtain rfl:s=ty:=hty;simp only [Option.map_some,lkV,SSd,Nat.reduceAdd];exact rest
end
abbrev selC (q:TSelect)(v0 v1 v2 v3 v4 v5:Value):List Value:=[.bool q.fDistinct,v0,v1,.int .i64 q.fWhere.kind,.int .i64 q.fWhere.value.fType,.bool q.fWhere.value.fNull,.int .i64 q.fWhere.value.fInt,.string ⟨q.fWhere.value.fText.toArray⟩,.string ⟨q.fWhere.table.toArray⟩,.string ⟨q.fWhere.name.toArray⟩,.int .i64 q.fWhere.slot,.int .i64 q.fWhere.type,.bool q.fWhere.distinct,v2,v3,.int .i64 q.fHaving.kind,.int .i64 q.fHaving.value.fType,.bool q.fHaving.value.fNull,.int .i64 q.fHaving.value.fInt,.string ⟨q.fHaving.value.fText.toArray⟩,.string ⟨q.fHaving.table.toArray⟩,.string ⟨q.fHaving.name.toArray⟩,.int .i64 q.fHaving.slot,.int .i64 q.fHaving.type,.bool q.fHaving.distinct,v4,v5,.int .i64 q.fLimit,.int .i64 q.fOffset]
structure OkQ (q:TSelect):Prop where
 it:∀x∈q.fItems,okE x.fExpr
 fr:∀x∈q.fFrom,okE x.fOn
 wh:okE q.fWhere
 gr:okL q.fGroup
 ha:okE q.fHaving
 od:∀x∈q.fOrder,okE x.fExpr
 li:okI q.fLimit
 off:okI q.fOffset
 cnt:cQ q≤1000000000
def ADA (q:TSelect):Bs:=if q.fOffset=0 then [] else [32,111,102,102,115,101,116,32]++LV true q.fOffset
def tx9 (q:TSelect):Bs:=(if 0≤q.fLimit then [32,108,105,109,105,116,32]++LV true q.fLimit else [])++ADA q
def tx8 (q:TSelect):Bs:=DY true [32,104,97,118,105,110,103,32] q.fHaving++((if q.fOrder.isEmpty then [] else [32,111,114,100,101,114,32,98,121,32]++Ak (q.fOrder.map (UU true)))++tx9 q)
def tx7 (q:TSelect):Bs:=DY true [32,119,104,101,114,101,32] q.fWhere++((if q.fGroup.isEmpty then [] else [32,103,114,111,117,112,32,98,121,32]++Ib true q.fGroup)++tx8 q)
def tx1 (q:TSelect):Bs:=Ak (q.fItems.map (IJ true))++(Dc true 0 q.fFrom++tx7 q)
theorem Vo (q:TSelect):Jl true q=[115,101,108,101,99,116,32]++((if q.fDistinct then [100,105,115,116,105,110,99,116,32] else [])++tx1 q):=by
 unfold Jl tx1 tx7 tx8 tx9 ADA;simp only [List.append_assoc]
theorem Rj (x:TSource):∀(l:List TSource) (i:Nat),Dc true i (l++[x])=Dc true i l++XV true (i+l.length) x
 |[],i=>by simp [Dc]
 |y::l,i=>by
  simp only [List.cons_append,Dc,Rj x l (i+1),List.length_cons,List.append_assoc];congr 2;congr 1;omega
theorem ABj {l:List TSource}{k:Nat}(h:k < l.length):Dc true 0 (l.take (k+1))=Dc true 0 (l.take k)++XV true k l[k]:=by
 rw [List.take_succ_eq_append_getElem h,Rj,List.length_take];congr 2;omega
theorem VP:∀(l m:List TSource) (i:Nat),Dc true i (l++m)=Dc true i l++Dc true (i+l.length) m
 |[],m,i=>by simp [Dc]
 |y::l,m,i=>by
  simp only [List.cons_append,Dc,VP l m (i+1),List.length_cons,List.append_assoc];congr 3;omega
theorem AKn (l:List TSource)(k:Nat):(Dc true 0 (l.take k)).length≤(Dc true 0 l).length:=by
 have:=VP (l.take k) (l.drop k) 0;rw [List.take_append_drop] at this;rw [this,List.length_append];omega
section
variable {ω:Om}{G I:Imm}{L F Y:LH}{K:Value→M}{b bw bq:Nat}{w:Value}{X:LH}{l:Bs}{n:Nat}{q:TSelect}{v0 v1 v2 v3 v4 v5:Value}
abbrev Yq (b bw bq:Nat)(q:TSelect)(v0 v1 v2 v3 v4 v5:Value)(F:LH):LH:=(bq,.cells (selC q v0 v1 v2 v3 v4 v5).toArray 40 (0,0))::(bw,wpO b)::F
theorem q10 (hG:Ey G)(hGI:Ext G I)(hq:OkQ q)(hW:WrS b w X l)(hn:(l++ADA q).length≤1000000000)(hk:∀I' X',Ext I I'→WrS b w X' (l++ADA q)→Gh (K (.tuple #[])) I' (X'++Yq b bw bq q v0 v1 v2 v3 v4 v5 F)):
  MH ω (AX bw) (AX bq) (fun v=>Gh (K v)) I (X++Yq b bw bq q v0 v1 v2 v3 v4 v5 F):=by
 unfold MH;unfold ADA at hn hk;try simp only [SSd,Nat.reduceAdd]
 refine rdb ?_;try simp only [SSd,Nat.reduceAdd]
 refine AB (fun h=>?_) (fun h=>?_)
 ·have h:q.fOffset≠0:=by simpa using h
  rw [if_neg h] at hn hk;refine Ah ?_;refine Aj ?_;try simp only [SSd,Nat.reduceAdd]
  refine Aj ?_;refine call (Sl hG hGI _ hq.off.1 hq.off.2 (Bz (Ext.refl _) ?_));refine Dy [[32,111,102,102,115,101,116,32],LV true q.fOffset] rfl rfl (fun I' a hI' hv'=>Gh.done ?_);refine Bz hI' ?_;refine call (IW (X:=X) hW hv' (by simp) (by simpa using hn) (fun X' hW'=>?_));exact hk I' X' hI' (by simpa using hW')
 ·have h:q.fOffset=0:=by simpa using h
  rw [if_pos h] at hn hk;exact hk I X (Ext.refl I) (by simpa using hW)
theorem q9 (hG:Ey G)(hGI:Ext G I)(hq:OkQ q)(hW:WrS b w X l)(hn:(l++tx9 q).length≤1000000000)(hk:∀I' X',Ext I I'→WrS b w X' (l++tx9 q)→Gh (K (.tuple #[])) I' (X'++Yq b bw bq q v0 v1 v2 v3 v4 v5 F)):
  PD ω (AX bw) (AX bq) (fun v=>Gh (K v)) I (X++Yq b bw bq q v0 v1 v2 v3 v4 v5 F):=by
 unfold PD;unfold tx9 at hn hk;try simp only [SSd,Nat.reduceAdd]
 refine rdb ?_;try simp only [SSd,Nat.reduceAdd]
 refine AB (fun h=>?_) (fun h=>?_)
 ·have h:0≤q.fLimit:=by simpa using h
  rw [if_pos h] at hn hk;refine Ah ?_;refine Aj ?_;try simp only [SSd,Nat.reduceAdd]
  refine Aj ?_;refine call (Sl hG hGI _ hq.li.1 hq.li.2 (Bz (Ext.refl _) ?_));refine Dy [[32,108,105,109,105,116,32],LV true q.fLimit] rfl rfl (fun I' a hI' hv'=>Gh.done ?_);refine Bz hI' ?_;simp only [List.length_append] at hn;refine call (IW (X:=X) hW hv' (by simp) (by simp only [List.flatten_cons,List.flatten_nil,List.append_nil,List.length_append];omega) (fun X' hW'=>?_));exact q10 hG (Ext.trans hGI hI') hq hW' (by simp only [List.flatten_cons,List.flatten_nil,List.append_nil,List.length_append];omega) (fun I2 X2 hI2 hW2=>hk I2 X2 (Ext.trans hI' hI2) (by simpa using hW2))
 ·have h:¬0≤q.fLimit:=by simpa using h
  rw [if_neg h] at hn hk;exact q10 hG hGI hq hW (by simpa using hn) (fun I2 X2 hI2 hW2=>hk I2 X2 hI2 (by simpa using hW2))
theorem q8 (hG:Ey G)(hGI:Ext G I)(hw:StL I w wordsL)(hq:OkQ q)(h4:ExL I v4 q.fHaving.args)(h5:RL TOrderV 12 I [] v5 q.fOrder)(hW:WrS b w X l)(hn:(l++tx8 q).length≤1000000000)(hk:∀I' X',Ext I I'→WrS b w X' (l++tx8 q)→Gh (K (.tuple #[])) I' (X'++Yq b bw bq q v0 v1 v2 v3 v4 v5 F)):
  PG ω (AX bw) (AX bq) (fun v=>Gh (K v)) I (X++Yq b bw bq q v0 v1 v2 v3 v4 v5 F):=by
 unfold PG;unfold tx8 at hn hk;simp only [List.length_append,List.length_cons,List.length_nil] at hn;have hcnt:=hq.cnt;unfold cQ at hcnt;refine rdb ?_;try simp only [SSd,Nat.reduceAdd]
 refine rdP _ rfl rfl ?_;refine call (Eh (X:=X) hG hq.ha [32,104,97,118,105,110,103,32] hGI hw hW (ExV.iff.2 ⟨v4,rfl,h4⟩) zL (fun I1 X1 hI1 hW1=>?_));try simp only [SSd,Nat.reduceAdd]
 refine rdb ?_;have h51:RL TOrderV 12 I1 [] v5 q.fOrder:=RL.mono (fun _ _ h=>TOrderV.mono h hI1) h5 hI1 (fun _ h=>h);simp only [RL.len h5,SSd,Nat.reduceAdd];refine AB (fun h=>?_) (fun h=>?_)
 ·have h:q.fOrder.isEmpty=false:=by
   have:=of_decide_eq_true h;cases ho:q.fOrder with
   |nil=>rw [ho] at this;simp at this
   |cons _ _=>rfl
  rw [h] at hn hk;simp only [Bool.false_eq_true,if_false,List.length_append,List.length_cons,List.length_nil] at hn hk;refine rdb ?_;refine BQ hW1 zL (fun I2 X2 hI2 hW2=>?_);have hI12:=Ext.trans hI1 hI2;refine rdb ?_;try simp only [SSd,Nat.reduceAdd]
  refine rdb ?_;refine call (Um (g:=UU true) (F:=Yq b bw bq q v0 v1 v2 v3 v4 v5 F) (RL.mono (fun _ _ h=>TOrderV.mono h hI2) h51 hI2 (fun _ h=>h)) (StL.mono hw hI12) (ABX (bw:=bw) hG (Ext.trans hGI hI12) hq.od) (by omega) hW2 zL (fun I3 X3 hI3 hW3=>?_));exact q9 hG (Ext.trans hGI (Ext.trans hI12 hI3)) hq hW3 zL (fun I4 X4 hI4 hW4=>hk I4 X4 (Ext.trans (Ext.trans hI12 hI3) hI4) (by simpa using hW4))
 ·have h:q.fOrder.isEmpty=true:=by
   have:=of_decide_eq_false h;cases ho:q.fOrder with
   |nil=>rfl
   |cons _ _=>rw [ho] at this;simp at this
  rw [h] at hn hk;simp only [if_true,List.nil_append,List.length_nil] at hn hk;exact q9 hG (Ext.trans hGI hI1) hq hW1 zL (fun I4 X4 hI4 hW4=>hk I4 X4 (Ext.trans hI1 hI4) (by simpa using hW4))
theorem q7 (hG:Ey G)(hGI:Ext G I)(hw:StL I w wordsL)(hq:OkQ q)(h2:ExL I v2 q.fWhere.args)(h3:ExL I v3 q.fGroup)(h4:ExL I v4 q.fHaving.args)(h5:RL TOrderV 12 I [] v5 q.fOrder)(hW:WrS b w X l)(hn:(l++tx7 q).length≤1000000000)(hk:∀I' X',Ext I I'→WrS b w X' (l++tx7 q)→Gh (K (.tuple #[])) I' (X'++Yq b bw bq q v0 v1 v2 v3 v4 v5 F)):
  UF ω (AX bw) (AX bq) (fun v=>Gh (K v)) I (X++Yq b bw bq q v0 v1 v2 v3 v4 v5 F):=by
 unfold UF;unfold tx7 at hn hk;simp only [List.length_append,List.length_cons,List.length_nil] at hn;have hcnt:=hq.cnt;unfold cQ at hcnt;refine rdb ?_;try simp only [SSd,Nat.reduceAdd]
 refine rdP _ rfl rfl ?_;refine call (Eh (X:=X) hG hq.wh [32,119,104,101,114,101,32] hGI hw hW (ExV.iff.2 ⟨v2,rfl,h2⟩) zL (fun I1 X1 hI1 hW1=>?_));try simp only [SSd,Nat.reduceAdd]
 refine rdb ?_;simp only [RL.len h3,SSd,Nat.reduceAdd];refine AB (fun h=>?_) (fun h=>?_)
 ·have h:q.fGroup.isEmpty=false:=by
   have:=of_decide_eq_true h;cases ho:q.fGroup with
   |nil=>rw [ho] at this;simp at this
   |cons _ _=>rfl
  rw [h] at hn hk;simp only [Bool.false_eq_true,if_false,List.length_append,List.length_cons,List.length_nil] at hn hk;refine rdb ?_;refine BQ hW1 zL (fun I2 X2 hI2 hW2=>?_);have hI12:=Ext.trans hI1 hI2;refine rdb ?_;try simp only [SSd,Nat.reduceAdd]
  refine rdb ?_;refine call (PV (n:=BZ q.fGroup) (Qh hG _) (Nat.le_refl _) hq.gr (by omega) (Ext.trans hGI hI12) (StL.mono hw hI12) hW2 (ExL.mono h3 hI12) zL (fun I3 X3 hI3 hW3=>?_));have hI13:=Ext.trans hI12 hI3;exact q8 hG (Ext.trans hGI hI13) (StL.mono hw hI13) hq (ExL.mono h4 hI13) (RL.mono (fun _ _ h=>TOrderV.mono h hI13) h5 hI13 (fun _ h=>h)) hW3 zL (fun I4 X4 hI4 hW4=>hk I4 X4 (Ext.trans hI13 hI4) (by simpa using hW4))
 ·have h:q.fGroup.isEmpty=true:=by
   have:=of_decide_eq_false h;cases ho:q.fGroup with
   |nil=>rfl
   |cons _ _=>rw [ho] at this;simp at this
  rw [h] at hn hk;simp only [if_true,List.nil_append,List.length_nil] at hn hk;exact q8 hG (Ext.trans hGI hI1) (StL.mono hw hI1) hq (ExL.mono h4 hI1) (RL.mono (fun _ _ h=>TOrderV.mono h hI1) h5 hI1 (fun _ h=>h)) hW1 zL (fun I4 X4 hI4 hW4=>hk I4 X4 (Ext.trans hI1 hI4) (by simpa using hW4))
def WG (i:Nat)(x:TSource):Bs:=if i=0 then [32,102,114,111,109,32] else if x.fLeft then [32,108,101,102,116,32,106,111,105,110,32] else if x.fOn.kind≠0 then [32,106,111,105,110,32] else [32,99,114,111,115,115,32,106,111,105,110,32]
def Vy (i:Nat)(x:TSource):Bs:=if 0 < i∧(x.fLeft=true∨x.fOn.kind≠0) then [32,111,110,32]++exB true x.fOn 1 else []
theorem Ym (i:Nat)(x:TSource):XV true i x=WG i x++(nameB x.fTable++(asB x.fAs++Vy i x)):=by
 unfold XV WG Vy;simp only [List.append_assoc]
theorem WF {x:TSource}{c:List Value}(hc:TSourceV I x c)(i:Nat)(hk:K (.string ⟨(WG i x).toArray⟩) I L):CT ω 167 #[.int .i64 (i:Nat),.agg c.toArray] K I L:=by
 obtain ⟨u0,rfl,h0⟩:=hc;refine AQj ?_;unfold AFs;unfold WG at hk;refine AV (fun bx=>?_);try simp only [SSd,Nat.reduceAdd]
 refine AB (fun h=>?_) (fun h=>?_)
 ·have h:i=0:=by
   have:(i:Int)=0:=by simpa using h
   omega
  rw [if_pos h] at hk;exact Gh.to L (Gh.done hk)
 have h:¬i=0:=by
  have:¬(i:Int)=0:=by simpa using h
  omega
 rw [if_neg h] at hk;try simp only [SSd,Nat.reduceAdd]
 refine rdb ?_;refine AB (fun h=>?_) (fun h=>?_)
 ·rw [if_pos h] at hk;exact Gh.to L (Gh.done hk)
 rw [if_neg (by simp [h])] at hk;try simp only [SSd,Nat.reduceAdd]
 refine rdb ?_;try simp only [SSd,Nat.reduceAdd]
 refine AB (fun h=>?_) (fun h=>?_)
 ·have h:x.fOn.kind≠0:=by simpa using h
  rw [if_pos h] at hk;exact Gh.to L (Gh.done hk)
 ·have h:x.fOn.kind=0:=by simpa using h
  rw [if_neg (by simp [h])] at hk;exact Gh.to L (Gh.done hk)
theorem q1 (hG:Ey G)(hGI:Ext G I)(hw:StL I w wordsL)(hq:OkQ q)(h0:RL TItemV 14 I [] v0 q.fItems)(h1:RL TSourceV 14 I [] v1 q.fFrom)(h2:ExL I v2 q.fWhere.args)(h3:ExL I v3 q.fGroup)(h4:ExL I v4 q.fHaving.args)(h5:RL TOrderV 12 I [] v5 q.fOrder)(hW:WrS b w X l)(hn:(l++tx1 q).length≤1000000000)(hk:∀I' X',Ext I I'→WrS b w X' (l++tx1 q)→Gh (K (.tuple #[])) I' (X'++Yq b bw bq q v0 v1 v2 v3 v4 v5 F)):
  MI ω (AX bw) (AX bq) (fun v=>Gh (K v)) I (X++Yq b bw bq q v0 v1 v2 v3 v4 v5 F):=by
 unfold MI;unfold tx1 at hn hk;simp only [List.length_append,List.length_cons,List.length_nil] at hn;have hcnt:=hq.cnt;unfold cQ at hcnt;refine rdb ?_;try simp only [SSd,Nat.reduceAdd]
 refine rdb ?_;refine call (WW (g:=IJ true) (F:=Yq b bw bq q v0 v1 v2 v3 v4 v5 F) h0 hw (ACx (bw:=bw) hG hGI hq.it) (by omega) hW zL (fun I1 X1 hI1 hW1=>?_));try simp only [SSd,Nat.reduceAdd]
 refine rdb ?_;simp only [RL.len h1,SSd,Nat.reduceAdd];refine loop (fun m st I' L'=>∃(k:Nat) (X':LH),k+m=q.fFrom.length∧st=(.int .i64 k,())∧Ext I I'∧L'=X'++Yq b bw bq q v0 v1 v2 v3 v4 v5 F∧WrS b w X' ((l++Ak (q.fItems.map (IJ true)))++Dc true 0 (q.fFrom.take k))) q.fFrom.length ⟨0,X1,by omega,rfl,hI1,rfl,by simpa [Dc] using hW1⟩ ?_;rintro m st I' L' ⟨k,X',hkm,rfl,hI',rfl,hW'⟩;unfold AAW;try simp only [SSd,Nat.reduceAdd]
 refine AB (fun hb=>?_) (fun hb=>?_)
 ·have hb:k < q.fFrom.length:=by
   have:=of_decide_eq_true hb;omega
  obtain ⟨bt,off,c1,g1,gl,g2,g3⟩:=RL.ix h1 (i:=k) (by omega) (by omega);rw [Ar hb] at g2;have g2:=g2.mono hI';have g2c:=g2;have hok:=hq.fr _ (List.getElem_mem hb);have hst:=ABj hb;have hsl:=AKn q.fFrom (k+1);rw [hst,Ym] at hsl;rw [Ym] at hst;simp only [List.length_append] at hsl;obtain ⟨u0,rfl,hu⟩:=g2;generalize hy:q.fFrom[k]=y at *;have he:ExV I' y.fOn (Az y.fOn u0):=ExV.iff.2 ⟨u0,rfl,hu⟩;simp only [g1,SSd,Nat.reduceAdd];refine EN (g3 _ [] hI' (fun _ h=>h)) (Ext.refl _) rfl ?_;refine AV (fun b3=>?_);obtain ⟨a0,k0,rfl⟩:=RL.form hu;refine stB rfl rfl (AO rfl) ?_;refine Ah ?_;refine Aj ?_;refine BB rfl ?_;refine call (WF g2c k ?_);refine Bz (Ext.refl _) ?_;refine Dy [WG k y] rfl rfl (fun I2 a2 hI2 hv2=>Gh.done ?_);refine Bz hI2 ?_;refine call (IW (X:=X') hW' hv2 (by simp) (by simp only [List.flatten_cons,List.flatten_nil,List.append_nil,List.length_append];omega) (fun X3 hW3=>?_));simp only [List.flatten_cons,List.flatten_nil,List.append_nil] at hW3;refine rdb ?_;try simp only [SSd,Nat.reduceAdd]
  refine rdb ?_;have hI12:=Ext.trans hI' hI2;refine call (BV hW3 (StL.mono hw hI12) y.fTable zL (fun I4 X4 hI4 hW4=>?_));refine rdb ?_;try simp only [SSd,Nat.reduceAdd]
  refine rdb ?_;have hI14:=Ext.trans hI12 hI4;refine call (VD y.fAs (StL.mono hw hI14) hW4 zL (fun I5 X5 hI5 hW5=>?_));have hI15:=Ext.trans hI14 hI5;have fin:∀(I6:Imm) (X6 Z:LH),Ext I I6→SubP (X6++Yq b bw bq q v0 v1 v2 v3 v4 v5 F) Z→WrS b w X6 ((l++Ak (q.fItems.map (IJ true)))++Dc true 0 (q.fFrom.take (k+1)))→KH ω (.int .i64 k) (fun s'=>Gh fun I2 L2=>∃m',m' < m∧∃(k:Nat) (X':LH),k+m'=q.fFrom.length∧s'=(.int .i64 k,())∧Ext I I2∧L2=X'++Yq b bw bq q v0 v1 v2 v3 v4 v5 F∧WrS b w X' ((l++Ak (q.fItems.map (IJ true)))++Dc true 0 (q.fFrom.take k))) (fun v=>Gh (K v)) I6 Z:=by
   intro I6 X6 Z hI6 hZ hW6;unfold KH;simp only [wrap_i64 ((k:Int)+1) (by omega),SSd,Nat.reduceAdd];exact Gh.to (X6++Yq b bw bq q v0 v1 v2 v3 v4 v5 F) (Gh.done ⟨m - 1,by omega,k+1,X6,by omega,rfl,hI6,rfl,hW6⟩)
  have yes:Vy k y=[32,111,110,32]++exB true y.fOn 1→PH ω (AX bw) (AX b3) (.int .i64 k) (fun s'=>Gh fun I2 L2=>∃m',m' < m∧∃(k:Nat) (X':LH),k+m'=q.fFrom.length∧s'=(.int .i64 k,())∧Ext I I2∧L2=X'++Yq b bw bq q v0 v1 v2 v3 v4 v5 F∧WrS b w X' ((l++Ak (q.fItems.map (IJ true)))++Dc true 0 (q.fFrom.take k))) (fun v=>Gh (K v)) I5 (X5++((b3,.cells [.string ⟨y.fTable.toArray⟩,.string ⟨y.fAs.toArray⟩,.bool y.fLeft,.int .i64 y.fOn.kind,.int .i64 y.fOn.value.fType,.bool y.fOn.value.fNull,.int .i64 y.fOn.value.fInt,.string ⟨y.fOn.value.fText.toArray⟩,.string ⟨y.fOn.table.toArray⟩,.string ⟨y.fOn.name.toArray⟩,.int .i64 y.fOn.slot,.int .i64 y.fOn.type,.bool y.fOn.distinct,.slice a0 y.fOn.args.length k0].toArray 123 (0,0))::Yq b bw bq q v0 v1 v2 v3 v4 v5 F)):=by
   intro hon;rw [hon] at hst hsl;simp only [List.length_append,List.length_cons,List.length_nil] at hsl;unfold PH;refine rdb ?_;refine BQ hW5 zL (fun I6 X6 hI6 hW6=>?_);refine rdb ?_;try simp only [SSd,Nat.reduceAdd]
   refine rdP _ rfl rfl ?_;have hI26:=Ext.trans hI2 (Ext.trans hI4 (Ext.trans hI5 hI6));refine call (Gp hG hok 1 (Ext.trans hGI (Ext.trans hI' hI26)) (StL.mono hw (Ext.trans hI' hI26)) hW6 (ExV.mono hI26 he) zL (fun I7 X7 hI7 hW7=>?_));exact fin I7 X7 _ (Ext.trans (Ext.trans hI' hI26) hI7) inferInstance (by rw [hst];simpa using hW7)
  have no:Vy k y=[]→KH ω (.int .i64 k) (fun s'=>Gh fun I2 L2=>∃m',m' < m∧∃(k:Nat) (X':LH),k+m'=q.fFrom.length∧s'=(.int .i64 k,())∧Ext I I2∧L2=X'++Yq b bw bq q v0 v1 v2 v3 v4 v5 F∧WrS b w X' ((l++Ak (q.fItems.map (IJ true)))++Dc true 0 (q.fFrom.take k))) (fun v=>Gh (K v)) I5 (X5++((b3,.cells [.string ⟨y.fTable.toArray⟩,.string ⟨y.fAs.toArray⟩,.bool y.fLeft,.int .i64 y.fOn.kind,.int .i64 y.fOn.value.fType,.bool y.fOn.value.fNull,.int .i64 y.fOn.value.fInt,.string ⟨y.fOn.value.fText.toArray⟩,.string ⟨y.fOn.table.toArray⟩,.string ⟨y.fOn.name.toArray⟩,.int .i64 y.fOn.slot,.int .i64 y.fOn.type,.bool y.fOn.distinct,.slice a0 y.fOn.args.length k0].toArray 123 (0,0))::Yq b bw bq q v0 v1 v2 v3 v4 v5 F)):=by
   intro hon;rw [hon] at hst;exact fin I5 X5 _ hI15 inferInstance (by rw [hst];simpa using hW5)
  try simp only [SSd,Nat.reduceAdd]
  refine AP (fun h=>?_) (fun h=>?_)
  ·have h:0 < k:=by
    have:(0:Int) < k:=by simpa using h
    omega
   refine rdb ?_;cases hl:y.fLeft with
   |true=>
    rw [hl] at yes;try simp only [SSd,Nat.reduceAdd]
    exact yes (by unfold Vy;rw [if_pos ⟨h,.inl hl⟩])
   |false=>
    rw [hl] at yes no;try simp only [SSd,Nat.reduceAdd]
    refine rdb ?_;try simp only [SSd,Nat.reduceAdd]
    refine AB (fun h2=>?_) (fun h2=>?_)
    ·have h2:y.fOn.kind≠0:=by simpa using h2
     exact yes (by unfold Vy;rw [if_pos ⟨h,.inr h2⟩])
    ·have h2:y.fOn.kind=0:=by simpa using h2
     exact no (by unfold Vy;rw [if_neg (by rw [hl,h2];simp)])
  ·have h:¬0 < k:=by
    have:¬(0:Int) < k:=by simpa using h
    omega
   exact no (by unfold Vy;rw [if_neg (fun hc=>h hc.1)])
 ·have hb:¬k < q.fFrom.length:=by
   have:=of_decide_eq_false hb;omega
  rw [List.take_of_length_le (by omega)] at hW';exact q7 hG (Ext.trans hGI hI') (StL.mono hw hI') hq (ExL.mono h2 hI') (ExL.mono h3 hI') (ExL.mono h4 hI') (RL.mono (fun _ _ h=>TOrderV.mono h hI') h5 hI' (fun _ h=>h)) hW' zL (fun I4 X4 hI4 hW4=>hk I4 X4 (Ext.trans hI' hI4) (by simpa using hW4))
theorem Uz (hG:Ey G)(hGI:Ext G I)(hw:StL I w wordsL)(hq:OkQ q){c:List Value}(hc:Bd I q c)[hs:SplitL X L F](hW:WrS b w X l)(hn:(l++Jl true q).length≤1000000000)(hk:∀I' X',Ext I I'→WrS b w X' (l++Jl true q)→K (.tuple #[]) I' (X'++F)):
  CT ω 112 #[AX b,.agg c.toArray] K I L:=by
 refine Cal.split X ?_;refine ARa ?_;unfold AHM;obtain ⟨v0,v1,v2,v3,v4,v5,rfl,h0,h1,h2,h3,h4,h5⟩:=hc;rw [Vo] at hn hk;simp only [List.length_append,List.length_cons,List.length_nil] at hn;refine AV (o:=wpO b) (fun bw=>?_);refine AV (o:=.cells (selC q v0 v1 v2 v3 v4 v5).toArray 40 (0,0)) (fun bq=>?_);refine rdb ?_;refine BQ (X:=X) hW zL (fun I1 X1 hI1 hW1=>?_);have go:∀(s:Bs) (I2:Imm) (X2:LH),Ext I I2→s=(if q.fDistinct then [100,105,115,116,105,110,99,116,32] else [])→WrS b w X2 ((l++[115,101,108,101,99,116,32])++s)→MI ω (AX bw) (AX bq) (fun v=>Gh (K v)) I2 (X2++Yq b bw bq q v0 v1 v2 v3 v4 v5 F):=by
  intro s I2 X2 hI2 hs2 hW2;rw [←hs2] at hn hk;exact q1 hG (Ext.trans hGI hI2) (StL.mono hw hI2) hq (RL.mono (fun _ _ h=>TItemV.mono h hI2) h0 hI2 (fun _ h=>h)) (RL.mono (fun _ _ h=>TSourceV.mono h hI2) h1 hI2 (fun _ h=>h)) (ExL.mono h2 hI2) (ExL.mono h3 hI2) (ExL.mono h4 hI2) (RL.mono (fun _ _ h=>TOrderV.mono h hI2) h5 hI2 (fun _ h=>h)) hW2 zL (fun I4 X4 hI4 hW4=>Gh.to (X4++F) (Gh.done (hk I4 X4 (Ext.trans hI2 hI4) (by simpa using hW4))))
 try simp only [SSd,Nat.reduceAdd]
 refine rdb ?_;refine AB (fun h=>?_) (fun h=>?_)
 ·rw [h] at go hn;simp only [if_true,List.length_cons,List.length_nil] at hn;refine rdb ?_;refine BQ hW1 zL (fun I2 X2 hI2 hW2=>?_);exact go _ I2 X2 (Ext.trans hI1 hI2) (by simp) hW2
 ·rw [h] at go;exact go [] I1 X1 hI1 (by simp) (by simpa using hW1)
end
abbrev stC (s:TStmt)(v0 v1 v2 v3 v4 v5 v6 v7 v8 v9 v10 v11 v12:Value):List Value:=[.int .i64 s.fKind,.bool s.fSelect.fDistinct,v0,v1,.int .i64 s.fSelect.fWhere.kind,.int .i64 s.fSelect.fWhere.value.fType,.bool s.fSelect.fWhere.value.fNull,.int .i64 s.fSelect.fWhere.value.fInt,.string ⟨s.fSelect.fWhere.value.fText.toArray⟩,.string ⟨s.fSelect.fWhere.table.toArray⟩,.string ⟨s.fSelect.fWhere.name.toArray⟩,.int .i64 s.fSelect.fWhere.slot,.int .i64 s.fSelect.fWhere.type,.bool s.fSelect.fWhere.distinct,v2,v3,.int .i64 s.fSelect.fHaving.kind,.int .i64 s.fSelect.fHaving.value.fType,.bool s.fSelect.fHaving.value.fNull,.int .i64 s.fSelect.fHaving.value.fInt,.string ⟨s.fSelect.fHaving.value.fText.toArray⟩,.string ⟨s.fSelect.fHaving.table.toArray⟩,.string ⟨s.fSelect.fHaving.name.toArray⟩,.int .i64 s.fSelect.fHaving.slot,.int .i64 s.fSelect.fHaving.type,.bool s.fSelect.fHaving.distinct,v4,v5,.int .i64 s.fSelect.fLimit,.int .i64 s.fSelect.fOffset,.string ⟨s.fTable.toArray⟩,v6,v7,v8,.int .i64 s.fWhere.kind,.int .i64 s.fWhere.value.fType,.bool s.fWhere.value.fNull,.int .i64 s.fWhere.value.fInt,.string ⟨s.fWhere.value.fText.toArray⟩,.string ⟨s.fWhere.table.toArray⟩,.string ⟨s.fWhere.name.toArray⟩,.int .i64 s.fWhere.slot,.int .i64 s.fWhere.type,.bool s.fWhere.distinct,v9,v10,v11,.string ⟨s.fIndex.fName.toArray⟩,.string ⟨s.fIndex.fTable.toArray⟩,v12,.bool s.fIndex.fUnique]
structure OkS (s:TStmt):Prop where
 q:OkQ s.fSelect
 wh:okE s.fWhere
 rows:∀x∈s.fRows,okL x∧x.length≤1000000000000
 sets:∀x∈s.fSets,okE x.fExpr
 cols:∀x∈s.fCols,okE x.fDefault
 cnt:cS s≤1000000000
 n1:s.fColumns.length≤1000000000000
 n2:s.fKey.length≤1000000000000
 n3:s.fIndex.fColumns.length≤1000000000000
section
variable {ω:Om}{G I:Imm}{L F Y:LH}{K:Value→M}{b bw bs:Nat}{w:Value}{X:LH}{l:Bs}{n:Nat}{s:TStmt}{v0 v1 v2 v3 v4 v5 v6 v7 v8 v9 v10 v11 v12:Value}
abbrev Ys (b bw bs:Nat)(s:TStmt)(v0 v1 v2 v3 v4 v5 v6 v7 v8 v9 v10 v11 v12:Value)(F:LH):LH:=(bs,.cells (stC s v0 v1 v2 v3 v4 v5 v6 v7 v8 v9 v10 v11 v12).toArray 48 (0,0))::(bw,wpO b)::F
theorem Ux (hG:Ey G)(hGI:Ext G I)(hw:StL I w wordsL)(hq:OkS s){c:List Value}(hc:TStmtV I s c)[hs:SplitL X L F](hW:WrS b w X l)(hn:(l++Jg true s).length≤1000000000)(hk:∀I' X',Ext I I'→WrS b w X' (l++Jg true s)→K (.tuple #[]) I' (X'++F)):
  CT ω 122 #[AX b,.agg c.toArray] K I L:=by
 refine Cal.split X ?_;refine ARQ ?_;unfold AGv;obtain ⟨v0,v1,v2,v3,v4,v5,v6,v7,v8,v9,v10,v11,v12,rfl,h0,h1,h2,h3,h4,h5,h6,h7,h8,h9,h10,h11,h12⟩:=hc;have hcnt:=hq.cnt;unfold cS at hcnt;have he:Jg true s=[99,114,101,97,116,101,32,116,97,98,108,101,32]++(nameB s.fTable++([32,40]++(Ak (s.fCols.map (RD true))++((if s.fKey.isEmpty then [] else [44,32,112,114,105,109,97,114,121,32,107,101,121,32]++EJ s.fKey)++[41])))):=by unfold Jg;simp only [List.append_assoc]
 rw [he] at hn hk;simp only [List.length_append,List.length_cons,List.length_nil] at hn;refine AV (o:=wpO b) (fun bw=>?_);refine AV (o:=.cells (stC s v0 v1 v2 v3 v4 v5 v6 v7 v8 v9 v10 v11 v12).toArray 48 (0,0)) (fun bs=>?_);refine rdb ?_;refine BQ (X:=X) hW zL (fun I1 X1 hI1 hW1=>?_);have hE1:=hI1;refine rdb ?_;try simp only [SSd,Nat.reduceAdd]
 refine rdb ?_;refine call (BV (X:=X1) hW1 (StL.mono hw hE1) s.fTable zL (fun I2 X2 hI2 hW2=>?_));have hE2:=Ext.trans hE1 hI2;refine rdb ?_;refine BQ (X:=X2) hW2 zL (fun I3 X3 hI3 hW3=>?_);have hE3:=Ext.trans hE2 hI3;refine rdb ?_;try simp only [SSd,Nat.reduceAdd]
 refine rdb ?_;refine call (YY (X:=X3) (g:=RD true) (F:=Ys b bw bs s v0 v1 v2 v3 v4 v5 v6 v7 v8 v9 v10 v11 v12 F) (RL.mono (fun _ _ h=>TColV.mono h hE3) h10 hE3 (fun _ h=>h)) (StL.mono hw hE3) (AKa (bw:=bw) hG (Ext.trans hGI hE3) hq.cols) (by omega) hW3 zL (fun I4 X4 hI4 hW4=>?_));have hE4:=Ext.trans hE3 hI4;try simp only [SSd,Nat.reduceAdd]
 refine rdb ?_;simp only [RL.len h11,SSd,Nat.reduceAdd];have fin:∀(t:Bs) (I5:Imm) (X5:LH),Ext I I5→t=(if s.fKey.isEmpty then [] else [44,32,112,114,105,109,97,114,121,32,107,101,121,32]++EJ s.fKey)→WrS b w X5 ((l++([99,114,101,97,116,101,32,116,97,98,108,101,32]++(nameB s.fTable++([32,40]++Ak (s.fCols.map (RD true))))))++t)→Ot ω (AX bw) (fun v=>Gh (K v)) I5 (X5++Ys b bw bs s v0 v1 v2 v3 v4 v5 v6 v7 v8 v9 v10 v11 v12 F):=by
  intro t I5 X5 hI5 ht hW5;rw [←ht] at hn hk;unfold Ot;refine rdb ?_;refine BQ hW5 zL (fun I6 X6 hI6 hW6=>?_);exact Gh.to (X6++F) (Gh.done (hk I6 X6 (Ext.trans hI5 hI6) (by simpa using hW6)))
 refine AB (fun h=>?_) (fun h=>?_)
 ·have h:s.fKey.isEmpty=false:=by
   have:=of_decide_eq_true h;cases ho:s.fKey with
   |nil=>rw [ho] at this;simp at this
   |cons _ _=>rfl
  rw [h] at hn fin;simp only [Bool.false_eq_true,if_false,List.length_append,List.length_cons,List.length_nil] at hn fin;refine rdb ?_;refine BQ (X:=X4) hW4 zL (fun I5 X5 hI5 hW5=>?_);have hE5:=Ext.trans hE4 hI5;refine rdb ?_;try simp only [SSd,Nat.reduceAdd]
  refine rdb ?_;refine call (Jc (X:=X5) hq.n2 (StL.mono h11 hE5) (StL.mono hw hE5) hW5 zL (fun I6 X6 hI6 hW6=>?_));have hE6:=Ext.trans hE5 hI6;exact fin _ I6 X6 hE6 rfl (by simpa using hW6)
 ·have h:s.fKey.isEmpty=true:=by
   have:=of_decide_eq_false h;cases ho:s.fKey with
   |nil=>rfl
   |cons _ _=>rw [ho] at this;simp at this
  rw [h] at fin;exact fin [] I4 X4 hE4 rfl (by simpa using hW4)
theorem XM (hG:Ey G)(hGI:Ext G I)(hw:StL I w wordsL)(hq:OkS s){c:List Value}(hc:TStmtV I s c)[hs:SplitL X L F](hW:WrS b w X l)(hn:(l++BM true s).length≤1000000000)(hk:∀I' X',Ext I I'→WrS b w X' (l++BM true s)→K (.tuple #[]) I' (X'++F)):
  CT ω 58 #[AX b,.agg c.toArray] K I L:=by
 have hc0:=hc;refine Cal.split X ?_;refine ASu ?_;unfold AOZ;obtain ⟨v0,v1,v2,v3,v4,v5,v6,v7,v8,v9,v10,v11,v12,rfl,h0,h1,h2,h3,h4,h5,h6,h7,h8,h9,h10,h11,h12⟩:=hc;have hcnt:=hq.cnt;unfold cS at hcnt;refine AV (o:=wpO b) (fun bw=>?_);refine AV (o:=.cells (stC s v0 v1 v2 v3 v4 v5 v6 v7 v8 v9 v10 v11 v12).toArray 48 (0,0)) (fun bs=>?_);try simp only [SSd,Nat.reduceAdd]
 refine rdb ?_;try simp only [SSd,Nat.reduceAdd]
 refine AB (fun h=>?_) (fun h=>?_)
 ·have h:s.fKind=1:=by simpa using h
  have he:BM true s=Jl true s.fSelect:=by unfold BM;simp [h]
  rw [he] at hn hk;simp only [List.length_append,List.length_cons,List.length_nil] at hn;refine rdb ?_;try simp only [SSd,Nat.reduceAdd]
  refine rdP _ rfl rfl ?_;refine call (Uz (X:=X) hG hGI hw hq.q (c:=selC s.fSelect v0 v1 v2 v3 v4 v5) ⟨v0,v1,v2,v3,v4,v5,rfl,h0,h1,h2,h3,h4,h5⟩ hW (by rw [List.length_append];exact hn) (fun I1 X1 hI1 hW1=>?_));exact Gh.to (X1++F) (Gh.done (hk I1 X1 hI1 hW1))
 have h101:s.fKind≠1:=by simpa using h
 try simp only [SSd,Nat.reduceAdd]
 refine AB (fun h=>?_) (fun h=>?_)
 ·have h:s.fKind=2:=by simpa using h
  have he:BM true s=[105,110,115,101,114,116,32,105,110,116,111,32]++(nameB s.fTable++((if s.fColumns.isEmpty then [] else [32]++EJ s.fColumns)++([32,118,97,108,117,101,115,32]++Ak (s.fRows.map (rowB true))))):=by unfold BM;simp [h]
  rw [he] at hn hk;simp only [List.length_append,List.length_cons,List.length_nil] at hn;refine rdb ?_;refine BQ (X:=X) hW zL (fun I1 X1 hI1 hW1=>?_);have hE1:=hI1;refine rdb ?_;try simp only [SSd,Nat.reduceAdd]
  refine rdb ?_;refine call (BV (X:=X1) hW1 (StL.mono hw hE1) s.fTable zL (fun I2 X2 hI2 hW2=>?_));have hE2:=Ext.trans hE1 hI2;have fin:∀(t:Bs) (I5:Imm) (X5:LH),Ext I I5→t=(if s.fColumns.isEmpty then [] else [32]++EJ s.fColumns)→WrS b w X5 ((l++([105,110,115,101,114,116,32,105,110,116,111,32]++nameB s.fTable))++t)→Tf ω (AX bw) (AX bs) (fun v=>Gh (K v)) I5 (X5++Ys b bw bs s v0 v1 v2 v3 v4 v5 v6 v7 v8 v9 v10 v11 v12 F):=by
   intro t I5 X5 hI5 ht hW5;rw [←ht] at hn hk;unfold Tf;refine rdb ?_;refine BQ hW5 zL (fun I6 X6 hI6 hW6=>?_);have hI56:=Ext.trans hI5 hI6;refine rdb ?_;try simp only [SSd,Nat.reduceAdd]
   refine rdb ?_;refine rdb ?_;refine call (YX (X:=X6) (g:=rowB true) (F:=Ys b bw bs s v0 v1 v2 v3 v4 v5 v6 v7 v8 v9 v10 v11 v12 F) (RL.mono (fun _ _ h=>LstX.mono h hI56) h7 hI56 (fun _ h=>h)) (StL.mono hw hI56) (AKY hG (Ext.trans hGI hI56) hq.rows) (by omega) hW6 zL (fun I7 X7 hI7 hW7=>?_));exact Gh.to (X7++F) (Gh.done (hk I7 X7 (Ext.trans hI56 hI7) (by simpa using hW7)))
  try simp only [SSd,Nat.reduceAdd]
  refine rdb ?_;simp only [RL.len h6,SSd,Nat.reduceAdd];refine AB (fun hz=>?_) (fun hz=>?_)
  ·have hz:s.fColumns.isEmpty=false:=by
    have:=of_decide_eq_true hz;cases ho:s.fColumns with
    |nil=>rw [ho] at this;simp at this
    |cons _ _=>rfl
   rw [hz] at hn fin;simp only [Bool.false_eq_true,if_false,List.length_append,List.length_cons,List.length_nil] at hn fin;refine rdb ?_;refine BQ (X:=X2) hW2 zL (fun I3 X3 hI3 hW3=>?_);have hE3:=Ext.trans hE2 hI3;refine rdb ?_;try simp only [SSd,Nat.reduceAdd]
   refine rdb ?_;refine call (Jc (X:=X3) hq.n1 (StL.mono h6 hE3) (StL.mono hw hE3) hW3 zL (fun I4 X4 hI4 hW4=>?_));have hE4:=Ext.trans hE3 hI4;exact fin _ I4 X4 hE4 rfl (by simpa using hW4)
  ·have hz:s.fColumns.isEmpty=true:=by
    have:=of_decide_eq_false hz;cases ho:s.fColumns with
    |nil=>rfl
    |cons _ _=>rw [ho] at this;simp at this
   rw [hz] at fin;exact fin [] I2 X2 hE2 rfl (by simpa using hW2)
 have h102:s.fKind≠2:=by simpa using h
 try simp only [SSd,Nat.reduceAdd]
 refine AB (fun h=>?_) (fun h=>?_)
 ·have h:s.fKind=3:=by simpa using h
  have he:BM true s=[117,112,100,97,116,101,32]++(nameB s.fTable++([32,115,101,116,32]++(Ak (s.fSets.map AHa)++DY true [32,119,104,101,114,101,32] s.fWhere))):=by
   have hs:AHa=fun x=>nameB x.fColumn++[32,61,32]++exB true x.fExpr 1:=rfl;rw [hs];unfold BM;simp [h]
  rw [he] at hn hk;simp only [List.length_append,List.length_cons,List.length_nil] at hn;refine rdb ?_;refine BQ (X:=X) hW zL (fun I1 X1 hI1 hW1=>?_);have hE1:=hI1;refine rdb ?_;try simp only [SSd,Nat.reduceAdd]
  refine rdb ?_;refine call (BV (X:=X1) hW1 (StL.mono hw hE1) s.fTable zL (fun I2 X2 hI2 hW2=>?_));have hE2:=Ext.trans hE1 hI2;refine rdb ?_;refine BQ (X:=X2) hW2 zL (fun I3 X3 hI3 hW3=>?_);have hE3:=Ext.trans hE2 hI3;refine rdb ?_;try simp only [SSd,Nat.reduceAdd]
  refine rdb ?_;refine call (YW (X:=X3) (g:=AHa) (F:=Ys b bw bs s v0 v1 v2 v3 v4 v5 v6 v7 v8 v9 v10 v11 v12 F) (RL.mono (fun _ _ h=>TSetV.mono h hE3) h8 hE3 (fun _ h=>h)) (StL.mono hw hE3) (AKX (bw:=bw) hG (Ext.trans hGI hE3) hq.sets) (by omega) hW3 zL (fun I4 X4 hI4 hW4=>?_));have hE4:=Ext.trans hE3 hI4;refine rdb ?_;try simp only [SSd,Nat.reduceAdd]
  refine rdP _ rfl rfl ?_;refine call (Eh (X:=X4) hG hq.wh [32,119,104,101,114,101,32] (Ext.trans hGI hE4) (StL.mono hw hE4) hW4 (ExV.mono hE4 (ExV.iff.2 ⟨v9,rfl,h9⟩)) zL (fun I5 X5 hI5 hW5=>?_));have hE5:=Ext.trans hE4 hI5;exact Gh.to (X5++F) (Gh.done (hk I5 X5 hE5 (by simpa using hW5)))
 have h103:s.fKind≠3:=by simpa using h
 try simp only [SSd,Nat.reduceAdd]
 refine AB (fun h=>?_) (fun h=>?_)
 ·have h:s.fKind=4:=by simpa using h
  have he:BM true s=[100,101,108,101,116,101,32,102,114,111,109,32]++(nameB s.fTable++DY true [32,119,104,101,114,101,32] s.fWhere):=by unfold BM;simp [h]
  rw [he] at hn hk;simp only [List.length_append,List.length_cons,List.length_nil] at hn;refine rdb ?_;refine BQ (X:=X) hW zL (fun I1 X1 hI1 hW1=>?_);have hE1:=hI1;refine rdb ?_;try simp only [SSd,Nat.reduceAdd]
  refine rdb ?_;refine call (BV (X:=X1) hW1 (StL.mono hw hE1) s.fTable zL (fun I2 X2 hI2 hW2=>?_));have hE2:=Ext.trans hE1 hI2;refine rdb ?_;try simp only [SSd,Nat.reduceAdd]
  refine rdP _ rfl rfl ?_;refine call (Eh (X:=X2) hG hq.wh [32,119,104,101,114,101,32] (Ext.trans hGI hE2) (StL.mono hw hE2) hW2 (ExV.mono hE2 (ExV.iff.2 ⟨v9,rfl,h9⟩)) zL (fun I3 X3 hI3 hW3=>?_));have hE3:=Ext.trans hE2 hI3;exact Gh.to (X3++F) (Gh.done (hk I3 X3 hE3 (by simpa using hW3)))
 have h104:s.fKind≠4:=by simpa using h
 try simp only [SSd,Nat.reduceAdd]
 refine AB (fun h=>?_) (fun h=>?_)
 ·have h:s.fKind=5:=by simpa using h
  have he:BM true s=Jg true s:=by unfold BM;simp [h]
  rw [he] at hn hk;simp only [List.length_append,List.length_cons,List.length_nil] at hn;refine rdb ?_;refine rdB rfl ?_;refine call (Ux (X:=X) hG hGI hw hq hc0 hW (by rw [List.length_append];exact hn) (fun I1 X1 hI1 hW1=>?_));exact Gh.to (X1++F) (Gh.done (hk I1 X1 hI1 hW1))
 have h105:s.fKind≠5:=by simpa using h
 try simp only [SSd,Nat.reduceAdd]
 refine AB (fun h=>?_) (fun h=>?_)
 ·have h:s.fKind=6:=by simpa using h
  have he:BM true s=[99,114,101,97,116,101,32]++((if s.fIndex.fUnique then [117,110,105,113,117,101,32] else [])++([105,110,100,101,120,32]++(nameB s.fIndex.fName++([32,111,110,32]++(nameB s.fIndex.fTable++([32]++EJ s.fIndex.fColumns)))))):=by unfold BM;simp [h]
  rw [he] at hn hk;simp only [List.length_append,List.length_cons,List.length_nil] at hn;refine rdb ?_;refine BQ (X:=X) hW zL (fun I1 X1 hI1 hW1=>?_);have hE1:=hI1;have fin:∀(t:Bs) (I5:Imm) (X5:LH),Ext I I5→t=(if s.fIndex.fUnique then [117,110,105,113,117,101,32] else [])→WrS b w X5 ((l++[99,114,101,97,116,101,32])++t)→Tc ω (AX bw) (AX bs) (fun v=>Gh (K v)) I5 (X5++Ys b bw bs s v0 v1 v2 v3 v4 v5 v6 v7 v8 v9 v10 v11 v12 F):=by
   intro t I5 X5 hI5 ht hW5;rw [←ht] at hn hk;unfold Tc;refine rdb ?_;refine BQ (X:=X5) hW5 zL (fun I11 X11 hI11 hW11=>?_);have hE11:=Ext.trans hI5 hI11;refine rdb ?_;try simp only [SSd,Nat.reduceAdd]
   refine rdb ?_;refine call (BV (X:=X11) hW11 (StL.mono hw hE11) s.fIndex.fName zL (fun I12 X12 hI12 hW12=>?_));have hE12:=Ext.trans hE11 hI12;refine rdb ?_;refine BQ (X:=X12) hW12 zL (fun I13 X13 hI13 hW13=>?_);have hE13:=Ext.trans hE12 hI13;refine rdb ?_;try simp only [SSd,Nat.reduceAdd]
   refine rdb ?_;refine call (BV (X:=X13) hW13 (StL.mono hw hE13) s.fIndex.fTable zL (fun I14 X14 hI14 hW14=>?_));have hE14:=Ext.trans hE13 hI14;refine rdb ?_;refine BQ (X:=X14) hW14 zL (fun I15 X15 hI15 hW15=>?_);have hE15:=Ext.trans hE14 hI15;refine rdb ?_;try simp only [SSd,Nat.reduceAdd]
   refine rdb ?_;refine call (Jc (X:=X15) hq.n3 (StL.mono h12 hE15) (StL.mono hw hE15) hW15 zL (fun I16 X16 hI16 hW16=>?_));have hE16:=Ext.trans hE15 hI16;exact Gh.to (X16++F) (Gh.done (hk I16 X16 hE16 (by simpa using hW16)))
  try simp only [SSd,Nat.reduceAdd]
  refine rdb ?_;refine AB (fun hz=>?_) (fun hz=>?_)
  ·rw [hz] at hn fin;simp only [if_true,List.length_cons,List.length_nil] at hn;refine rdb ?_;refine BQ (X:=X1) hW1 zL (fun I2 X2 hI2 hW2=>?_);exact fin _ I2 X2 (Ext.trans hI1 hI2) rfl (by simpa using hW2)
  ·rw [hz] at fin;exact fin [] I1 X1 hI1 (by simp) (by simpa using hW1)
 have h106:s.fKind≠6:=by simpa using h
 try simp only [SSd,Nat.reduceAdd]
 refine AB (fun h=>?_) (fun h=>?_)
 ·have h:s.fKind=7:=by simpa using h
  have he:BM true s=[100,114,111,112,32,116,97,98,108,101,32]++nameB s.fTable:=by unfold BM;simp [h]
  rw [he] at hn hk;simp only [List.length_append,List.length_cons,List.length_nil] at hn;refine rdb ?_;refine BQ (X:=X) hW zL (fun I1 X1 hI1 hW1=>?_);have hE1:=hI1;refine rdb ?_;try simp only [SSd,Nat.reduceAdd]
  refine rdb ?_;refine call (BV (X:=X1) hW1 (StL.mono hw hE1) s.fTable zL (fun I2 X2 hI2 hW2=>?_));have hE2:=Ext.trans hE1 hI2;exact Gh.to (X2++F) (Gh.done (hk I2 X2 hE2 (by simpa using hW2)))
 have h107:s.fKind≠7:=by simpa using h
 try simp only [SSd,Nat.reduceAdd]
 refine AB (fun h=>?_) (fun h=>?_)
 ·have h:s.fKind=8:=by simpa using h
  have he:BM true s=[100,114,111,112,32,105,110,100,101,120,32]++nameB s.fIndex.fName:=by unfold BM;simp [h]
  rw [he] at hn hk;simp only [List.length_append,List.length_cons,List.length_nil] at hn;refine rdb ?_;refine BQ (X:=X) hW zL (fun I1 X1 hI1 hW1=>?_);have hE1:=hI1;refine rdb ?_;try simp only [SSd,Nat.reduceAdd]
  refine rdb ?_;refine call (BV (X:=X1) hW1 (StL.mono hw hE1) s.fIndex.fName zL (fun I2 X2 hI2 hW2=>?_));have hE2:=Ext.trans hE1 hI2;exact Gh.to (X2++F) (Gh.done (hk I2 X2 hE2 (by simpa using hW2)))
 have h108:s.fKind≠8:=by simpa using h
 try simp only [SSd,Nat.reduceAdd]
 refine AB (fun h=>?_) (fun h=>?_)
 ·have h:s.fKind=9:=by simpa using h
  have he:BM true s=[98,101,103,105,110]:=by unfold BM;simp [h]
  rw [he] at hn hk;simp only [List.length_append,List.length_cons,List.length_nil] at hn;refine rdb ?_;refine BQ (X:=X) hW zL (fun I1 X1 hI1 hW1=>?_);have hE1:=hI1;exact Gh.to (X1++F) (Gh.done (hk I1 X1 hE1 (by simpa using hW1)))
 have h109:s.fKind≠9:=by simpa using h
 try simp only [SSd,Nat.reduceAdd]
 refine AB (fun h=>?_) (fun h=>?_)
 ·have h:s.fKind=10:=by simpa using h
  have he:BM true s=[99,111,109,109,105,116]:=by unfold BM;simp [h]
  rw [he] at hn hk;simp only [List.length_append,List.length_cons,List.length_nil] at hn;refine rdb ?_;refine BQ (X:=X) hW zL (fun I1 X1 hI1 hW1=>?_);have hE1:=hI1;exact Gh.to (X1++F) (Gh.done (hk I1 X1 hE1 (by simpa using hW1)))
 have h110:s.fKind≠10:=by simpa using h
 try simp only [SSd,Nat.reduceAdd]
 refine AB (fun h=>?_) (fun h=>?_)
 ·have h:s.fKind=11:=by simpa using h
  have he:BM true s=[114,111,108,108,98,97,99,107]:=by unfold BM;simp [h]
  rw [he] at hn hk;simp only [List.length_append,List.length_cons,List.length_nil] at hn;refine rdb ?_;refine BQ (X:=X) hW zL (fun I1 X1 hI1 hW1=>?_);have hE1:=hI1;exact Gh.to (X1++F) (Gh.done (hk I1 X1 hE1 (by simpa using hW1)))
 have h111:s.fKind≠11:=by simpa using h
 try simp only [SSd,Nat.reduceAdd]
 have he:BM true s=[63]:=by unfold BM;simp [h101,h102,h103,h104,h105,h106,h107,h108,h109,h110,h111]
 rw [he] at hn hk;simp only [List.length_append,List.length_cons,List.length_nil] at hn;refine rdb ?_;refine BQ (X:=X) hW zL (fun I1 X1 hI1 hW1=>?_);have hE1:=hI1;exact Gh.to (X1++F) (Gh.done (hk I1 X1 hE1 (by simpa using hW1)))
theorem AMc (s:TStmt):BM true s≠[]:=by
 unfold BM;by_cases h1:s.fKind=1
 ·rw [if_pos h1,Vo];simp
 rw [if_neg h1];by_cases h2:s.fKind=2
 ·rw [if_pos h2];simp
 rw [if_neg h2];by_cases h3:s.fKind=3
 ·rw [if_pos h3];simp
 rw [if_neg h3];by_cases h4:s.fKind=4
 ·rw [if_pos h4];simp
 rw [if_neg h4];by_cases h5:s.fKind=5
 ·rw [if_pos h5];simp [Jg]
 rw [if_neg h5];by_cases h6:s.fKind=6
 ·rw [if_pos h6];simp
 rw [if_neg h6];by_cases h7:s.fKind=7
 ·rw [if_pos h7];simp
 rw [if_neg h7];by_cases h8:s.fKind=8
 ·rw [if_pos h8];simp
 rw [if_neg h8];by_cases h9:s.fKind=9
 ·rw [if_pos h9];simp
 rw [if_neg h9];by_cases h10:s.fKind=10
 ·rw [if_pos h10];simp
 rw [if_neg h10];by_cases h11:s.fKind=11
 ·rw [if_pos h11];simp
 rw [if_neg h11];simp
theorem TA (hG:Ey G)(hWd:Yc ω G)(hGI:Ext G I)(hq:OkS s){c:List Value}(hc:TStmtV I s c)(hn:(BM true s).length≤1000000000)(hk:∀I',Ext I I'→K (.string ⟨(BM true s).toArray⟩) I' L):
  CT ω 30 #[.agg c.toArray] K I L:=by
 refine ATG ?_;unfold AOk;have hcl:=hc.len;refine AV (fun bs=>?_);refine call (hWd _ _ _ hGI (fun I1 w hI1 hw=>?_));obtain ⟨aw,kw,rfl⟩:=RL.form hw;try simp only [SSd,Nat.reduceAdd]
 refine AV (o:=WrO (.pointer none) (.slice none 0 0) (.slice aw wordsL.length kw)) (fun b=>?_);refine rdB hcl ?_;have hW0:WrS b (.slice aw wordsL.length kw) [(b,WrO (.pointer none) (.slice none 0 0) (.slice aw wordsL.length kw))] []:=⟨_,_,[],.inl rfl,SlO.none _ _,rfl⟩;refine call (XM (X:=[(b,WrO (.pointer none) (.slice none 0 0) (.slice aw wordsL.length kw))]) (F:=(bs,.cells c.toArray 48 (0,0))::L) (hs:=⟨List.Perm.refl _⟩) hG (Ext.trans hGI hI1) hw hq (hc.mono hI1) hW0 (by simpa using hn) (fun I2 X2 hI2 hW2=>?_));try simp only [SSd,Nat.reduceAdd]
 rw [List.nil_append] at hW2;refine call (TN (X:=X2) hW2 (AMc s) hn (fun X3=>?_));exact Gh.to L (Gh.done (hk I2 (Ext.trans hI1 hI2)))
end
def eqL {α:Type}(f:α→α→Bool):List α→List α→Bool
 |[],[]=>true
 |x::xs,y::ys=>f x y&&eqL f xs ys
 |_,_=>false
theorem Ff {α:Type}{f:α→α→Bool}:∀{xs ys:List α},xs.length≠ys.length→eqL f xs ys=false
 |[],[],h=>absurd rfl h
 |[],_::_,_=>rfl
 |_::_,[],_=>rfl
 |x::xs,y::ys,h=>by
  simp only [eqL,Ff (f:=f) (xs:=xs) (ys:=ys) (by simpa using h),Bool.and_false]
theorem Gg {α:Type}{f:α→α→Bool}{xs ys:List α}(h1:xs=[])(h2:ys=[]):eqL f xs ys=true:=by subst h1 h2;rfl
theorem Va:∀xs ys:List Ex,AAd xs ys=eqL EH xs ys
 |[],[]=>rfl
 |[],_::_=>rfl
 |_::_,[]=>rfl
 |x::xs,y::ys=>by simp only [AAd,eqL,Va xs ys]
theorem Vb (x y:Ex):EH x y=(x.kind==y.kind&&x.value==y.value&&x.table==y.table&&x.name==y.name&&x.slot==y.slot&&x.type==y.type&&x.distinct==y.distinct&&eqL EH x.args y.args):=by
 cases x;simp only [EH,Va,Ex.kind,Ex.value,Ex.table,Ex.name,Ex.slot,Ex.type,Ex.distinct,Ex.args]
theorem ARw (a b:TValue):(a==b)=((a.fType==b.fType)&&((a.fNull==b.fNull)&&((a.fInt==b.fInt)&&(a.fText==b.fText)))):=by
 cases a;cases b
 rw [Bool.eq_iff_iff];simp only [beq_iff_eq,Bool.and_eq_true,TValue.mk.injEq]
theorem ARv (a c a' c':Int)(t t':Bool)(s s':Bs):Hu .eql [(TypeDesc.int .i64,0),(TypeDesc.bool,1),(TypeDesc.int .i64,2),(TypeDesc.string,3)] (.agg #[.int .i64 a,.bool t,.int .i64 c,.string ⟨s.toArray⟩]) (.agg #[.int .i64 a',.bool t',.int .i64 c',.string ⟨s'.toArray⟩])=some (.bool ((a==a')&&((t==t')&&((c==c')&&(s==s'))))):=by
 simp [Hu,Kv,eqD,JU]
def sIt (x y:TItem):Bool:=x.fStar==y.fStar&&x.fTable==y.fTable&&x.fAs==y.fAs&&EH x.fExpr y.fExpr
def sSo (x y:TSource):Bool:=x.fTable==y.fTable&&x.fAs==y.fAs&&x.fLeft==y.fLeft&&EH x.fOn y.fOn
def sOr (x y:TOrder):Bool:=x.fDesc==y.fDesc&&EH x.fExpr y.fExpr
def sSe (x y:TSet):Bool:=x.fColumn==y.fColumn&&EH x.fExpr y.fExpr
def sCo (x y:TCol):Bool:=x.fName==y.fName&&x.fType==y.fType&&x.fNotNull==y.fNotNull&&x.fKey==y.fKey&&x.fUnique==y.fUnique&&EH x.fDefault y.fDefault
def eqB (x y:Bs):Bool:=x==y
def sQu (p q:TSelect):Bool:=p.fDistinct==q.fDistinct&&p.fLimit==q.fLimit&&p.fOffset==q.fOffset&&EH p.fWhere q.fWhere&&EH p.fHaving q.fHaving&&eqL EH p.fGroup q.fGroup
def sIx (a b:TIdx):Bool:=a.fName==b.fName&&a.fTable==b.fTable&&a.fUnique==b.fUnique&&eqL eqB a.fColumns b.fColumns
def sRe (a b:TStmt):Bool:=a.fKind==b.fKind&&a.fTable==b.fTable&&eqL eqB a.fColumns b.fColumns&&eqL eqB a.fKey b.fKey&&EH a.fWhere b.fWhere
def KY (a b:TStmt):Bool:=sQu a.fSelect b.fSelect&&eqL sIt a.fSelect.fItems b.fSelect.fItems&&eqL sSo a.fSelect.fFrom b.fSelect.fFrom&&eqL sOr a.fSelect.fOrder b.fSelect.fOrder&&eqL (eqL EH) a.fRows b.fRows&&eqL sSe a.fSets b.fSets&&eqL sCo a.fCols b.fCols&&sIx a.fIndex b.fIndex&&sRe a b
def FnQ {α:Type}(ω:Om)(fv:Value)(V:Imm→α→Value→Prop)(f:α→α→Bool)(xs:List α):Prop:=∀x∈xs,∀(y:α) (I:Imm) (L:LH) (u v:Value) (K:Value→M),V I x u→V I y v→K (.bool (f x y)) I L→CW ω fv #[u,v] K I L
section
variable {ω:Om}{I:Imm}{L:LH}{K:Value→M}
theorem LU {u v:Value}{xs ys:List Bs}(hx:StL I u xs)(hy:StL I v ys)(hl:xs.length≤1000000000000)(hk:K (.bool (eqL eqB xs ys)) I L):CT ω 74 #[u,v] K I L:=by
 refine ASf ?_;unfold AOJ;simp only [RL.len hx,RL.len hy,SSd,Nat.reduceAdd];refine AB (fun h=>?_) (fun h=>?_)
 ·have h:xs.length≠ys.length:=by
   have:¬(xs.length:Int)=ys.length:=by simpa using h
   omega
  rw [Ff h] at hk;exact Gh.done hk
 have h:xs.length=ys.length:=by
  have:(xs.length:Int)=ys.length:=by simpa using h
  omega
 refine loop (fun q st I' L'=>∃k:Nat,k+q=xs.length∧st=(Value.bool false,Value.int .i64 (k:Nat),())∧I'=I∧L'=L∧eqL eqB xs ys=eqL eqB (xs.drop k) (ys.drop k)) xs.length ⟨0,by omega,rfl,rfl,rfl,rfl⟩ ?_;rintro q st I' L' ⟨k,hq,rfl,rfl,rfl,he⟩;unfold ADa;try simp only [SSd,Nat.reduceAdd]
 refine AB (fun hb=>?_) (fun hb=>?_)
 ·have hb:k < xs.length:=by
   have:=of_decide_eq_true hb;omega
  have hb2:k < ys.length:=by omega
  obtain ⟨bt,off,c1,g1,gl,g2,g3⟩:=RL.ix hx (i:=k) (by omega) (by omega);obtain ⟨bu,off2,c2,k1,kl,k2,k3⟩:=RL.ix hy (i:=k) (by omega) (by omega);rw [Ar hb] at g2;rw [Ar hb2] at k2;obtain rfl:=g2;obtain rfl:=k2;rw [List.drop_eq_getElem_cons hb,List.drop_eq_getElem_cons hb2] at he;simp only [eqL] at he;refine Ah ?_;simp only [g1,k1,SSd,Nat.reduceAdd];refine ARz (g3 I' [] (Ext.refl _) (fun _ h=>h) 0 _ rfl) (Ext.refl _) ?_;refine ARz (k3 I' [] (Ext.refl _) (fun _ h=>h) 0 _ rfl) (Ext.refl _) ?_;simp only [sNe,SSd,Nat.reduceAdd];refine AB (fun h0=>?_) (fun h0=>?_)
  ·have h0:eqB xs[k] ys[k]=false:=by simpa [eqB] using h0
   rw [he,h0] at hk;exact Gh.done hk
  ·have h0:eqB xs[k] ys[k]=true:=by simpa [eqB] using h0
   simp only [wrap_i64 ((k:Int)+1) (by omega),SSd,Nat.reduceAdd];exact Gh.done ⟨q - 1,by omega,k+1,by omega,rfl,rfl,rfl,by rw [he,h0,Bool.true_and]⟩
 ·have hb:¬k < xs.length:=by
   have:=of_decide_eq_false hb;omega
  rw [he,Gg (List.drop_eq_nil_of_le (by omega)) (List.drop_eq_nil_of_le (by omega))] at hk;exact Gh.done hk
theorem YN {u v fv:Value}{f:Ex→Ex→Bool}{xs ys:List (Ex)}(hx:RL ExV 11 I [] u xs)(hy:RL ExV 11 I [] v ys)(hf:FnQ ω fv (Hy ExV) f xs)(hl:xs.length≤1000000000000)(hk:K (.bool (eqL f xs ys)) I L):CT ω 61 #[u,v,fv] K I L:=by
 refine ASs ?_;unfold AOX;simp only [RL.len hx,RL.len hy,SSd,Nat.reduceAdd];refine AB (fun h=>?_) (fun h=>?_)
 ·have h:xs.length≠ys.length:=by
   have:¬(xs.length:Int)=ys.length:=by simpa using h
   omega
  rw [Ff h] at hk;exact Gh.done hk
 have h:xs.length=ys.length:=by
  have:(xs.length:Int)=ys.length:=by simpa using h
  omega
 try simp only [SSd,Nat.reduceAdd]
 refine loop (fun q st I' L'=>∃k:Nat,k+q=xs.length∧st=(Value.bool false,Value.int .i64 (k:Nat),())∧I'=I∧L'=L∧eqL f xs ys=eqL f (xs.drop k) (ys.drop k)) xs.length ⟨0,by omega,rfl,rfl,rfl,rfl⟩ ?_;rintro q st I' L' ⟨k,hq,rfl,rfl,rfl,he⟩;unfold ADi;try simp only [SSd,Nat.reduceAdd]
 refine AB (fun hb=>?_) (fun hb=>?_)
 ·have hb:k < xs.length:=by
   have:=of_decide_eq_true hb;omega
  have hb2:k < ys.length:=by omega
  obtain ⟨bt,off,c1,g1,gl,g2,g3⟩:=RL.ix hx (i:=k) (by omega) (by omega);obtain ⟨bu,off2,c2,k1,kl,k2,k3⟩:=RL.ix hy (i:=k) (by omega) (by omega);rw [Ar hb] at g2;rw [Ar hb2] at k2;rw [List.drop_eq_getElem_cons hb,List.drop_eq_getElem_cons hb2] at he;simp only [eqL] at he;simp only [g1,k1,SSd,Nat.reduceAdd];have ho1:=ExV.one g2;have ho2:=ExV.one k2;refine EN (g3 _ [] (Ext.refl _) (fun _ h=>h)) (Ext.refl _) gl ?_;refine AV (fun b3=>?_);refine stB gl rfl ho1 ?_;refine EN (k3 I' [] (Ext.refl _) (fun _ h=>h)) (Ext.refl _) kl ?_;refine AV (fun b4=>?_);refine stB kl rfl ho2 ?_;refine rdB gl ?_;refine rdB kl ?_;refine Ef (CalV.to L' (hf _ (List.getElem_mem hb) ys[k] I' L' _ _ _ ⟨c1,rfl,g2⟩ ⟨c2,rfl,k2⟩ ?_));try simp only [SSd,Nat.reduceAdd]
  cases hfe:f xs[k] ys[k] with
  |false=>
   rw [he,hfe] at hk;exact Gh.done hk
  |true=>
   simp only [wrap_i64 ((k:Int)+1) (by omega),SSd,Nat.reduceAdd];exact Gh.done ⟨q - 1,by omega,k+1,by omega,rfl,rfl,rfl,by rw [he,hfe,Bool.true_and]⟩
 ·have hb:¬k < xs.length:=by
   have:=of_decide_eq_false hb;omega
  rw [he,Gg (List.drop_eq_nil_of_le (by omega)) (List.drop_eq_nil_of_le (by omega))] at hk;exact Gh.done hk
theorem AJF {u v fv:Value}{f:TItem→TItem→Bool}{xs ys:List (TItem)}(hx:RL TItemV 14 I [] u xs)(hy:RL TItemV 14 I [] v ys)(hf:FnQ ω fv (Hy TItemV) f xs)(hl:xs.length≤1000000000000)(hk:K (.bool (eqL f xs ys)) I L):CT ω 62 #[u,v,fv] K I L:=by
 refine ASr ?_;unfold AOW;simp only [RL.len hx,RL.len hy,SSd,Nat.reduceAdd];refine AB (fun h=>?_) (fun h=>?_)
 ·have h:xs.length≠ys.length:=by
   have:¬(xs.length:Int)=ys.length:=by simpa using h
   omega
  rw [Ff h] at hk;exact Gh.done hk
 have h:xs.length=ys.length:=by
  have:(xs.length:Int)=ys.length:=by simpa using h
  omega
 try simp only [SSd,Nat.reduceAdd]
 refine loop (fun q st I' L'=>∃k:Nat,k+q=xs.length∧st=(Value.bool false,Value.int .i64 (k:Nat),())∧I'=I∧L'=L∧eqL f xs ys=eqL f (xs.drop k) (ys.drop k)) xs.length ⟨0,by omega,rfl,rfl,rfl,rfl⟩ ?_;rintro q st I' L' ⟨k,hq,rfl,rfl,rfl,he⟩;unfold ADh;try simp only [SSd,Nat.reduceAdd]
 refine AB (fun hb=>?_) (fun hb=>?_)
 ·have hb:k < xs.length:=by
   have:=of_decide_eq_true hb;omega
  have hb2:k < ys.length:=by omega
  obtain ⟨bt,off,c1,g1,gl,g2,g3⟩:=RL.ix hx (i:=k) (by omega) (by omega);obtain ⟨bu,off2,c2,k1,kl,k2,k3⟩:=RL.ix hy (i:=k) (by omega) (by omega);rw [Ar hb] at g2;rw [Ar hb2] at k2;rw [List.drop_eq_getElem_cons hb,List.drop_eq_getElem_cons hb2] at he;simp only [eqL] at he;simp only [g1,k1,SSd,Nat.reduceAdd];have ho1:=TItemV.one g2;have ho2:=TItemV.one k2;refine EN (g3 _ [] (Ext.refl _) (fun _ h=>h)) (Ext.refl _) gl ?_;refine AV (fun b3=>?_);refine stB gl rfl ho1 ?_;refine EN (k3 I' [] (Ext.refl _) (fun _ h=>h)) (Ext.refl _) kl ?_;refine AV (fun b4=>?_);refine stB kl rfl ho2 ?_;refine rdB gl ?_;refine rdB kl ?_;refine Ef (CalV.to L' (hf _ (List.getElem_mem hb) ys[k] I' L' _ _ _ ⟨c1,rfl,g2⟩ ⟨c2,rfl,k2⟩ ?_));try simp only [SSd,Nat.reduceAdd]
  cases hfe:f xs[k] ys[k] with
  |false=>
   rw [he,hfe] at hk;exact Gh.done hk
  |true=>
   simp only [wrap_i64 ((k:Int)+1) (by omega),SSd,Nat.reduceAdd];exact Gh.done ⟨q - 1,by omega,k+1,by omega,rfl,rfl,rfl,by rw [he,hfe,Bool.true_and]⟩
 ·have hb:¬k < xs.length:=by
   have:=of_decide_eq_false hb;omega
  rw [he,Gg (List.drop_eq_nil_of_le (by omega)) (List.drop_eq_nil_of_le (by omega))] at hk;exact Gh.done hk
theorem YM {u v fv:Value}{f:TSource→TSource→Bool}{xs ys:List (TSource)}(hx:RL TSourceV 14 I [] u xs)(hy:RL TSourceV 14 I [] v ys)(hf:FnQ ω fv (Hy TSourceV) f xs)(hl:xs.length≤1000000000000)(hk:K (.bool (eqL f xs ys)) I L):CT ω 64 #[u,v,fv] K I L:=by
 refine ASp ?_;unfold AOU;simp only [RL.len hx,RL.len hy,SSd,Nat.reduceAdd];refine AB (fun h=>?_) (fun h=>?_)
 ·have h:xs.length≠ys.length:=by
   have:¬(xs.length:Int)=ys.length:=by simpa using h
   omega
  rw [Ff h] at hk;exact Gh.done hk
 have h:xs.length=ys.length:=by
  have:(xs.length:Int)=ys.length:=by simpa using h
  omega
 try simp only [SSd,Nat.reduceAdd]
 refine loop (fun q st I' L'=>∃k:Nat,k+q=xs.length∧st=(Value.bool false,Value.int .i64 (k:Nat),())∧I'=I∧L'=L∧eqL f xs ys=eqL f (xs.drop k) (ys.drop k)) xs.length ⟨0,by omega,rfl,rfl,rfl,rfl⟩ ?_;rintro q st I' L' ⟨k,hq,rfl,rfl,rfl,he⟩;unfold ADg;try simp only [SSd,Nat.reduceAdd]
 refine AB (fun hb=>?_) (fun hb=>?_)
 ·have hb:k < xs.length:=by
   have:=of_decide_eq_true hb;omega
  have hb2:k < ys.length:=by omega
  obtain ⟨bt,off,c1,g1,gl,g2,g3⟩:=RL.ix hx (i:=k) (by omega) (by omega);obtain ⟨bu,off2,c2,k1,kl,k2,k3⟩:=RL.ix hy (i:=k) (by omega) (by omega);rw [Ar hb] at g2;rw [Ar hb2] at k2;rw [List.drop_eq_getElem_cons hb,List.drop_eq_getElem_cons hb2] at he;simp only [eqL] at he;simp only [g1,k1,SSd,Nat.reduceAdd];have ho1:=TSourceV.one g2;have ho2:=TSourceV.one k2;refine EN (g3 _ [] (Ext.refl _) (fun _ h=>h)) (Ext.refl _) gl ?_;refine AV (fun b3=>?_);refine stB gl rfl ho1 ?_;refine EN (k3 I' [] (Ext.refl _) (fun _ h=>h)) (Ext.refl _) kl ?_;refine AV (fun b4=>?_);refine stB kl rfl ho2 ?_;refine rdB gl ?_;refine rdB kl ?_;refine Ef (CalV.to L' (hf _ (List.getElem_mem hb) ys[k] I' L' _ _ _ ⟨c1,rfl,g2⟩ ⟨c2,rfl,k2⟩ ?_));try simp only [SSd,Nat.reduceAdd]
  cases hfe:f xs[k] ys[k] with
  |false=>
   rw [he,hfe] at hk;exact Gh.done hk
  |true=>
   simp only [wrap_i64 ((k:Int)+1) (by omega),SSd,Nat.reduceAdd];exact Gh.done ⟨q - 1,by omega,k+1,by omega,rfl,rfl,rfl,by rw [he,hfe,Bool.true_and]⟩
 ·have hb:¬k < xs.length:=by
   have:=of_decide_eq_false hb;omega
  rw [he,Gg (List.drop_eq_nil_of_le (by omega)) (List.drop_eq_nil_of_le (by omega))] at hk;exact Gh.done hk
theorem ACZ {u v fv:Value}{f:TOrder→TOrder→Bool}{xs ys:List (TOrder)}(hx:RL TOrderV 12 I [] u xs)(hy:RL TOrderV 12 I [] v ys)(hf:FnQ ω fv (Hy TOrderV) f xs)(hl:xs.length≤1000000000000)(hk:K (.bool (eqL f xs ys)) I L):CT ω 66 #[u,v,fv] K I L:=by
 refine ASn ?_;unfold AOS;simp only [RL.len hx,RL.len hy,SSd,Nat.reduceAdd];refine AB (fun h=>?_) (fun h=>?_)
 ·have h:xs.length≠ys.length:=by
   have:¬(xs.length:Int)=ys.length:=by simpa using h
   omega
  rw [Ff h] at hk;exact Gh.done hk
 have h:xs.length=ys.length:=by
  have:(xs.length:Int)=ys.length:=by simpa using h
  omega
 try simp only [SSd,Nat.reduceAdd]
 refine loop (fun q st I' L'=>∃k:Nat,k+q=xs.length∧st=(Value.bool false,Value.int .i64 (k:Nat),())∧I'=I∧L'=L∧eqL f xs ys=eqL f (xs.drop k) (ys.drop k)) xs.length ⟨0,by omega,rfl,rfl,rfl,rfl⟩ ?_;rintro q st I' L' ⟨k,hq,rfl,rfl,rfl,he⟩;unfold ADf;try simp only [SSd,Nat.reduceAdd]
 refine AB (fun hb=>?_) (fun hb=>?_)
 ·have hb:k < xs.length:=by
   have:=of_decide_eq_true hb;omega
  have hb2:k < ys.length:=by omega
  obtain ⟨bt,off,c1,g1,gl,g2,g3⟩:=RL.ix hx (i:=k) (by omega) (by omega);obtain ⟨bu,off2,c2,k1,kl,k2,k3⟩:=RL.ix hy (i:=k) (by omega) (by omega);rw [Ar hb] at g2;rw [Ar hb2] at k2;rw [List.drop_eq_getElem_cons hb,List.drop_eq_getElem_cons hb2] at he;simp only [eqL] at he;simp only [g1,k1,SSd,Nat.reduceAdd];have ho1:=TOrderV.one g2;have ho2:=TOrderV.one k2;refine EN (g3 _ [] (Ext.refl _) (fun _ h=>h)) (Ext.refl _) gl ?_;refine AV (fun b3=>?_);refine stB gl rfl ho1 ?_;refine EN (k3 I' [] (Ext.refl _) (fun _ h=>h)) (Ext.refl _) kl ?_;refine AV (fun b4=>?_);refine stB kl rfl ho2 ?_;refine rdB gl ?_;refine rdB kl ?_;refine Ef (CalV.to L' (hf _ (List.getElem_mem hb) ys[k] I' L' _ _ _ ⟨c1,rfl,g2⟩ ⟨c2,rfl,k2⟩ ?_));try simp only [SSd,Nat.reduceAdd]
  cases hfe:f xs[k] ys[k] with
  |false=>
   rw [he,hfe] at hk;exact Gh.done hk
  |true=>
   simp only [wrap_i64 ((k:Int)+1) (by omega),SSd,Nat.reduceAdd];exact Gh.done ⟨q - 1,by omega,k+1,by omega,rfl,rfl,rfl,by rw [he,hfe,Bool.true_and]⟩
 ·have hb:¬k < xs.length:=by
   have:=of_decide_eq_false hb;omega
  rw [he,Gg (List.drop_eq_nil_of_le (by omega)) (List.drop_eq_nil_of_le (by omega))] at hk;exact Gh.done hk
theorem AMf {u v fv:Value}{f:TSet→TSet→Bool}{xs ys:List (TSet)}(hx:RL TSetV 12 I [] u xs)(hy:RL TSetV 12 I [] v ys)(hf:FnQ ω fv (Hy TSetV) f xs)(hl:xs.length≤1000000000000)(hk:K (.bool (eqL f xs ys)) I L):CT ω 70 #[u,v,fv] K I L:=by
 refine ASj ?_;unfold AON;simp only [RL.len hx,RL.len hy,SSd,Nat.reduceAdd];refine AB (fun h=>?_) (fun h=>?_)
 ·have h:xs.length≠ys.length:=by
   have:¬(xs.length:Int)=ys.length:=by simpa using h
   omega
  rw [Ff h] at hk;exact Gh.done hk
 have h:xs.length=ys.length:=by
  have:(xs.length:Int)=ys.length:=by simpa using h
  omega
 try simp only [SSd,Nat.reduceAdd]
 refine loop (fun q st I' L'=>∃k:Nat,k+q=xs.length∧st=(Value.bool false,Value.int .i64 (k:Nat),())∧I'=I∧L'=L∧eqL f xs ys=eqL f (xs.drop k) (ys.drop k)) xs.length ⟨0,by omega,rfl,rfl,rfl,rfl⟩ ?_;rintro q st I' L' ⟨k,hq,rfl,rfl,rfl,he⟩;unfold ADc;try simp only [SSd,Nat.reduceAdd]
 refine AB (fun hb=>?_) (fun hb=>?_)
 ·have hb:k < xs.length:=by
   have:=of_decide_eq_true hb;omega
  have hb2:k < ys.length:=by omega
  obtain ⟨bt,off,c1,g1,gl,g2,g3⟩:=RL.ix hx (i:=k) (by omega) (by omega);obtain ⟨bu,off2,c2,k1,kl,k2,k3⟩:=RL.ix hy (i:=k) (by omega) (by omega);rw [Ar hb] at g2;rw [Ar hb2] at k2;rw [List.drop_eq_getElem_cons hb,List.drop_eq_getElem_cons hb2] at he;simp only [eqL] at he;simp only [g1,k1,SSd,Nat.reduceAdd];have ho1:=TSetV.one g2;have ho2:=TSetV.one k2;refine EN (g3 _ [] (Ext.refl _) (fun _ h=>h)) (Ext.refl _) gl ?_;refine AV (fun b3=>?_);refine stB gl rfl ho1 ?_;refine EN (k3 I' [] (Ext.refl _) (fun _ h=>h)) (Ext.refl _) kl ?_;refine AV (fun b4=>?_);refine stB kl rfl ho2 ?_;refine rdB gl ?_;refine rdB kl ?_;refine Ef (CalV.to L' (hf _ (List.getElem_mem hb) ys[k] I' L' _ _ _ ⟨c1,rfl,g2⟩ ⟨c2,rfl,k2⟩ ?_));try simp only [SSd,Nat.reduceAdd]
  cases hfe:f xs[k] ys[k] with
  |false=>
   rw [he,hfe] at hk;exact Gh.done hk
  |true=>
   simp only [wrap_i64 ((k:Int)+1) (by omega),SSd,Nat.reduceAdd];exact Gh.done ⟨q - 1,by omega,k+1,by omega,rfl,rfl,rfl,by rw [he,hfe,Bool.true_and]⟩
 ·have hb:¬k < xs.length:=by
   have:=of_decide_eq_false hb;omega
  rw [he,Gg (List.drop_eq_nil_of_le (by omega)) (List.drop_eq_nil_of_le (by omega))] at hk;exact Gh.done hk
theorem AMh {u v fv:Value}{f:TCol→TCol→Bool}{xs ys:List (TCol)}(hx:RL TColV 16 I [] u xs)(hy:RL TColV 16 I [] v ys)(hf:FnQ ω fv (Hy TColV) f xs)(hl:xs.length≤1000000000000)(hk:K (.bool (eqL f xs ys)) I L):CT ω 72 #[u,v,fv] K I L:=by
 refine ASh ?_;unfold AOL;simp only [RL.len hx,RL.len hy,SSd,Nat.reduceAdd];refine AB (fun h=>?_) (fun h=>?_)
 ·have h:xs.length≠ys.length:=by
   have:¬(xs.length:Int)=ys.length:=by simpa using h
   omega
  rw [Ff h] at hk;exact Gh.done hk
 have h:xs.length=ys.length:=by
  have:(xs.length:Int)=ys.length:=by simpa using h
  omega
 try simp only [SSd,Nat.reduceAdd]
 refine loop (fun q st I' L'=>∃k:Nat,k+q=xs.length∧st=(Value.bool false,Value.int .i64 (k:Nat),())∧I'=I∧L'=L∧eqL f xs ys=eqL f (xs.drop k) (ys.drop k)) xs.length ⟨0,by omega,rfl,rfl,rfl,rfl⟩ ?_;rintro q st I' L' ⟨k,hq,rfl,rfl,rfl,he⟩;unfold ADb;try simp only [SSd,Nat.reduceAdd]
 refine AB (fun hb=>?_) (fun hb=>?_)
 ·have hb:k < xs.length:=by
   have:=of_decide_eq_true hb;omega
  have hb2:k < ys.length:=by omega
  obtain ⟨bt,off,c1,g1,gl,g2,g3⟩:=RL.ix hx (i:=k) (by omega) (by omega);obtain ⟨bu,off2,c2,k1,kl,k2,k3⟩:=RL.ix hy (i:=k) (by omega) (by omega);rw [Ar hb] at g2;rw [Ar hb2] at k2;rw [List.drop_eq_getElem_cons hb,List.drop_eq_getElem_cons hb2] at he;simp only [eqL] at he;simp only [g1,k1,SSd,Nat.reduceAdd];have ho1:=TColV.one g2;have ho2:=TColV.one k2;refine EN (g3 _ [] (Ext.refl _) (fun _ h=>h)) (Ext.refl _) gl ?_;refine AV (fun b3=>?_);refine stB gl rfl ho1 ?_;refine EN (k3 I' [] (Ext.refl _) (fun _ h=>h)) (Ext.refl _) kl ?_;refine AV (fun b4=>?_);refine stB kl rfl ho2 ?_;refine rdB gl ?_;refine rdB kl ?_;refine Ef (CalV.to L' (hf _ (List.getElem_mem hb) ys[k] I' L' _ _ _ ⟨c1,rfl,g2⟩ ⟨c2,rfl,k2⟩ ?_));try simp only [SSd,Nat.reduceAdd]
  cases hfe:f xs[k] ys[k] with
  |false=>
   rw [he,hfe] at hk;exact Gh.done hk
  |true=>
   simp only [wrap_i64 ((k:Int)+1) (by omega),SSd,Nat.reduceAdd];exact Gh.done ⟨q - 1,by omega,k+1,by omega,rfl,rfl,rfl,by rw [he,hfe,Bool.true_and]⟩
 ·have hb:¬k < xs.length:=by
   have:=of_decide_eq_false hb;omega
  rw [he,Gg (List.drop_eq_nil_of_le (by omega)) (List.drop_eq_nil_of_le (by omega))] at hk;exact Gh.done hk
theorem AMg {u v fv:Value}{f:List Ex→List Ex→Bool}{xs ys:List (List Ex)}(hx:RL (Ez ExV 11) 1 I [] u xs)(hy:RL (Ez ExV 11) 1 I [] v ys)(hf:FnQ ω fv (AKW (Ez ExV 11)) f xs)(hl:xs.length≤1000000000000)(hk:K (.bool (eqL f xs ys)) I L):CT ω 68 #[u,v,fv] K I L:=by
 refine ASl ?_;unfold AOQ;simp only [RL.len hx,RL.len hy,SSd,Nat.reduceAdd];refine AB (fun h=>?_) (fun h=>?_)
 ·have h:xs.length≠ys.length:=by
   have:¬(xs.length:Int)=ys.length:=by simpa using h
   omega
  rw [Ff h] at hk;exact Gh.done hk
 have h:xs.length=ys.length:=by
  have:(xs.length:Int)=ys.length:=by simpa using h
  omega
 try simp only [SSd,Nat.reduceAdd]
 refine loop (fun q st I' L'=>∃k:Nat,k+q=xs.length∧st=(Value.bool false,Value.int .i64 (k:Nat),())∧I'=I∧L'=L∧eqL f xs ys=eqL f (xs.drop k) (ys.drop k)) xs.length ⟨0,by omega,rfl,rfl,rfl,rfl⟩ ?_;rintro q st I' L' ⟨k,hq,rfl,rfl,rfl,he⟩;unfold ADe;try simp only [SSd,Nat.reduceAdd]
 refine AB (fun hb=>?_) (fun hb=>?_)
 ·have hb:k < xs.length:=by
   have:=of_decide_eq_true hb;omega
  have hb2:k < ys.length:=by omega
  obtain ⟨bt,off,c1,g1,gl,g2,g3⟩:=RL.ix hx (i:=k) (by omega) (by omega);obtain ⟨bu,off2,c2,k1,kl,k2,k3⟩:=RL.ix hy (i:=k) (by omega) (by omega);rw [Ar hb] at g2;rw [Ar hb2] at k2;rw [List.drop_eq_getElem_cons hb,List.drop_eq_getElem_cons hb2] at he;simp only [eqL] at he;simp only [g1,k1,SSd,Nat.reduceAdd];obtain ⟨w1,rfl⟩:∃u,c1=[u]:=by match c1,gl with|[u],_=>exact ⟨u,rfl⟩
  obtain ⟨w2,rfl⟩:∃u,c2=[u]:=by match c2,kl with|[u],_=>exact ⟨u,rfl⟩
  refine rdC (g3 I' [] (Ext.refl _) (fun _ h=>h) 0 _ rfl) (Ext.refl _) ?_;refine rdC (k3 I' [] (Ext.refl _) (fun _ h=>h) 0 _ rfl) (Ext.refl _) ?_;refine Ef (CalV.to L' (hf _ (List.getElem_mem hb) ys[k] I' L' _ _ _ g2 k2 ?_));try simp only [SSd,Nat.reduceAdd]
  cases hfe:f xs[k] ys[k] with
  |false=>
   rw [he,hfe] at hk;exact Gh.done hk
  |true=>
   simp only [wrap_i64 ((k:Int)+1) (by omega),SSd,Nat.reduceAdd];exact Gh.done ⟨q - 1,by omega,k+1,by omega,rfl,rfl,rfl,by rw [he,hfe,Bool.true_and]⟩
 ·have hb:¬k < xs.length:=by
   have:=of_decide_eq_false hb;omega
  rw [he,Gg (List.drop_eq_nil_of_le (by omega)) (List.drop_eq_nil_of_le (by omega))] at hk;exact Gh.done hk
theorem Bi:∀(n:Nat) (x:Ex),DF x≤n→okE x→∀(y:Ex) (I:Imm) (L:LH) (c d:List Value) (K:Value→M),ExV I x c→ExV I y d→K (.bool (EH x y)) I L→CT ω 60 #[.agg c.toArray,.agg d.toArray] K I L
 |0,x,h,_,_,_,_,_,_,_,_,_,_=>by have:=FY x;omega
 |n+1,x,hd,hok,y,I,L,c,d,K,hx,hy,hk=>by
  obtain ⟨v,rfl,ha⟩:=ExV.iff.1 hx;obtain ⟨u,rfl,hb⟩:=ExV.iff.1 hy;have hdd:=Dl x;have hfn:FnQ ω (.func (.func 60) #[] #[]) (Hy ExV) EH x.args:=by
   rintro z hz y I L _ _ K ⟨c,rfl,hc⟩ ⟨d,rfl,hd'⟩ hk;have:=Es hz;exact ET (by kernel_rfl) (Bi n z (by omega) (Gf (IZ hok).2.2 hz) y I L c d K hc hd' hk)
  have hk2:∀(t:Bool) (L':LH),t=EH x y→SubP L L'→Gh (K (.bool t)) I L':=by
   intro t L' ht hs;rw [ht];exact Gh.to L (Gh.done hk)
  refine ASt ?_;unfold AOY;refine AV (fun b1=>AV (fun b2=>?_));have hse:=Vb x y;rw [ARw] at hse;repeat' (first|(with_reducible first|refine Ah ?_|refine Ac ?_|refine Aa ?_|refine keepA ?_|refine AV (fun _=>?_))|((with_reducible refine call ?_);with_reducible refine YN (ω:=ω) ha hb hfn (IZ hok).2.1 ?_)|(with_reducible refine rdb ?_)|((with_reducible first|refine st1 ?_ ?_|refine rdB ?_ ?_);rfl)|(with_reducible refine Aj ?_)|((with_reducible refine BB ?_ ?_);rfl)|((with_reducible refine stB ?_ ?_ ?_ ?_);rfl;rfl;exact AO rfl)|((with_reducible first|refine rdP _ rfl ?_ ?_|refine BC _ rfl ?_ ?_);rfl)|((with_reducible refine stP _ rfl ?_ ?_ ?_ ?_);rfl;rfl;rfl)|(with_reducible refine And.intro ?_ ?_)|(simp only [SSg,Int.reduceBEq,Int.reduceBNe,Int.reduceLT,Int.reduceLE,beq_self_eq_true,bne_self_eq_false])|(with_reducible first|refine AP (fun _=>?_) (fun _=>?_)|refine AB (fun _=>?_) (fun _=>?_))|(simp only [SSd,Nat.reduceAdd,ARv]))
  all_goals (refine hk2 _ _ ?_ inferInstance;rw [hse];clear hse hk2 hk;simp_all)
theorem ADN {xs:List TItem}(hxs:∀x∈xs,okE x.fExpr):FnQ ω (.func (.func 63) #[] #[]) (Hy TItemV) sIt xs:=by
 rintro x hz y I L _ _ K ⟨c,rfl,⟨v0,rfl,h0⟩⟩ ⟨d,rfl,⟨u0,rfl,k0⟩⟩ hk;have hok:=hxs x hz;refine ET (by kernel_rfl) ?_;have hk2:∀(t:Bool) (L':LH),t=sIt x y→SubP L L'→Gh (K (.bool t)) I L':=by
  intro t L' ht hs;rw [ht];exact Gh.to L (Gh.done hk)
 refine ASq ?_;unfold AOV;refine AV (fun b1=>AV (fun b2=>?_));unfold sIt at hk2;repeat' (first|(with_reducible first|refine Ah ?_|refine Ac ?_|refine Aa ?_|refine keepA ?_|refine AV (fun _=>?_))|((with_reducible refine call ?_);with_reducible refine Bi (ω:=ω) _ x.fExpr (Nat.le_refl _) hok y.fExpr _ _ _ _ _ (ExV.iff.2 ⟨v0,rfl,h0⟩) (ExV.iff.2 ⟨u0,rfl,k0⟩) ?_)|(with_reducible refine rdb ?_)|((with_reducible first|refine st1 ?_ ?_|refine rdB ?_ ?_);rfl)|(with_reducible refine Aj ?_)|((with_reducible refine BB ?_ ?_);rfl)|((with_reducible refine stB ?_ ?_ ?_ ?_);rfl;rfl;exact AO rfl)|((with_reducible first|refine rdP _ rfl ?_ ?_|refine BC _ rfl ?_ ?_);rfl)|((with_reducible refine stP _ rfl ?_ ?_ ?_ ?_);rfl;rfl;rfl)|(with_reducible refine And.intro ?_ ?_)|(simp only [SSg,Int.reduceBEq,Int.reduceBNe,Int.reduceLT,Int.reduceLE,beq_self_eq_true,bne_self_eq_false])|(with_reducible first|refine AP (fun _=>?_) (fun _=>?_)|refine AB (fun _=>?_) (fun _=>?_))|(simp only [SSd,Nat.reduceAdd]))
 all_goals (refine hk2 _ _ ?_ inferInstance;clear hk2 hk;simp_all)
theorem XU {xs:List TSource}(hxs:∀x∈xs,okE x.fOn):FnQ ω (.func (.func 65) #[] #[]) (Hy TSourceV) sSo xs:=by
 rintro x hz y I L _ _ K ⟨c,rfl,⟨v0,rfl,h0⟩⟩ ⟨d,rfl,⟨u0,rfl,k0⟩⟩ hk;have hok:=hxs x hz;refine ET (by kernel_rfl) ?_;have hk2:∀(t:Bool) (L':LH),t=sSo x y→SubP L L'→Gh (K (.bool t)) I L':=by
  intro t L' ht hs;rw [ht];exact Gh.to L (Gh.done hk)
 refine ASo ?_;unfold AOT;refine AV (fun b1=>AV (fun b2=>?_));unfold sSo at hk2;repeat' (first|(with_reducible first|refine Ah ?_|refine Ac ?_|refine Aa ?_|refine keepA ?_|refine AV (fun _=>?_))|((with_reducible refine call ?_);with_reducible refine Bi (ω:=ω) _ x.fOn (Nat.le_refl _) hok y.fOn _ _ _ _ _ (ExV.iff.2 ⟨v0,rfl,h0⟩) (ExV.iff.2 ⟨u0,rfl,k0⟩) ?_)|(with_reducible refine rdb ?_)|((with_reducible first|refine st1 ?_ ?_|refine rdB ?_ ?_);rfl)|(with_reducible refine Aj ?_)|((with_reducible refine BB ?_ ?_);rfl)|((with_reducible refine stB ?_ ?_ ?_ ?_);rfl;rfl;exact AO rfl)|((with_reducible first|refine rdP _ rfl ?_ ?_|refine BC _ rfl ?_ ?_);rfl)|((with_reducible refine stP _ rfl ?_ ?_ ?_ ?_);rfl;rfl;rfl)|(with_reducible refine And.intro ?_ ?_)|(simp only [SSg,Int.reduceBEq,Int.reduceBNe,Int.reduceLT,Int.reduceLE,beq_self_eq_true,bne_self_eq_false])|(with_reducible first|refine AP (fun _=>?_) (fun _=>?_)|refine AB (fun _=>?_) (fun _=>?_))|(simp only [SSd,Nat.reduceAdd]))
 all_goals (refine hk2 _ _ ?_ inferInstance;clear hk2 hk;simp_all)
theorem ABk {xs:List TOrder}(hxs:∀x∈xs,okE x.fExpr):FnQ ω (.func (.func 67) #[] #[]) (Hy TOrderV) sOr xs:=by
 rintro x hz y I L _ _ K ⟨c,rfl,⟨v0,rfl,h0⟩⟩ ⟨d,rfl,⟨u0,rfl,k0⟩⟩ hk;have hok:=hxs x hz;refine ET (by kernel_rfl) ?_;have hk2:∀(t:Bool) (L':LH),t=sOr x y→SubP L L'→Gh (K (.bool t)) I L':=by
  intro t L' ht hs;rw [ht];exact Gh.to L (Gh.done hk)
 refine ASm ?_;unfold AOR;refine AV (fun b1=>AV (fun b2=>?_));unfold sOr at hk2;repeat' (first|(with_reducible first|refine Ah ?_|refine Ac ?_|refine Aa ?_|refine keepA ?_|refine AV (fun _=>?_))|((with_reducible refine call ?_);with_reducible refine Bi (ω:=ω) _ x.fExpr (Nat.le_refl _) hok y.fExpr _ _ _ _ _ (ExV.iff.2 ⟨v0,rfl,h0⟩) (ExV.iff.2 ⟨u0,rfl,k0⟩) ?_)|(with_reducible refine rdb ?_)|((with_reducible first|refine st1 ?_ ?_|refine rdB ?_ ?_);rfl)|(with_reducible refine Aj ?_)|((with_reducible refine BB ?_ ?_);rfl)|((with_reducible refine stB ?_ ?_ ?_ ?_);rfl;rfl;exact AO rfl)|((with_reducible first|refine rdP _ rfl ?_ ?_|refine BC _ rfl ?_ ?_);rfl)|((with_reducible refine stP _ rfl ?_ ?_ ?_ ?_);rfl;rfl;rfl)|(with_reducible refine And.intro ?_ ?_)|(simp only [SSg,Int.reduceBEq,Int.reduceBNe,Int.reduceLT,Int.reduceLE,beq_self_eq_true,bne_self_eq_false])|(with_reducible first|refine AP (fun _=>?_) (fun _=>?_)|refine AB (fun _=>?_) (fun _=>?_))|(simp only [SSd,Nat.reduceAdd]))
 all_goals (refine hk2 _ _ ?_ inferInstance;clear hk2 hk;simp_all)
theorem AKl {xs:List TSet}(hxs:∀x∈xs,okE x.fExpr):FnQ ω (.func (.func 71) #[] #[]) (Hy TSetV) sSe xs:=by
 rintro x hz y I L _ _ K ⟨c,rfl,⟨v0,rfl,h0⟩⟩ ⟨d,rfl,⟨u0,rfl,k0⟩⟩ hk;have hok:=hxs x hz;refine ET (by kernel_rfl) ?_;have hk2:∀(t:Bool) (L':LH),t=sSe x y→SubP L L'→Gh (K (.bool t)) I L':=by
  intro t L' ht hs;rw [ht];exact Gh.to L (Gh.done hk)
 refine ASi ?_;unfold AOM;refine AV (fun b1=>AV (fun b2=>?_));unfold sSe at hk2;repeat' (first|(with_reducible first|refine Ah ?_|refine Ac ?_|refine Aa ?_|refine keepA ?_|refine AV (fun _=>?_))|((with_reducible refine call ?_);with_reducible refine Bi (ω:=ω) _ x.fExpr (Nat.le_refl _) hok y.fExpr _ _ _ _ _ (ExV.iff.2 ⟨v0,rfl,h0⟩) (ExV.iff.2 ⟨u0,rfl,k0⟩) ?_)|(with_reducible refine rdb ?_)|((with_reducible first|refine st1 ?_ ?_|refine rdB ?_ ?_);rfl)|(with_reducible refine Aj ?_)|((with_reducible refine BB ?_ ?_);rfl)|((with_reducible refine stB ?_ ?_ ?_ ?_);rfl;rfl;exact AO rfl)|((with_reducible first|refine rdP _ rfl ?_ ?_|refine BC _ rfl ?_ ?_);rfl)|((with_reducible refine stP _ rfl ?_ ?_ ?_ ?_);rfl;rfl;rfl)|(with_reducible refine And.intro ?_ ?_)|(simp only [SSg,Int.reduceBEq,Int.reduceBNe,Int.reduceLT,Int.reduceLE,beq_self_eq_true,bne_self_eq_false])|(with_reducible first|refine AP (fun _=>?_) (fun _=>?_)|refine AB (fun _=>?_) (fun _=>?_))|(simp only [SSd,Nat.reduceAdd]))
 all_goals (refine hk2 _ _ ?_ inferInstance;clear hk2 hk;simp_all)
theorem ALv {xs:List TCol}(hxs:∀x∈xs,okE x.fDefault):FnQ ω (.func (.func 73) #[] #[]) (Hy TColV) sCo xs:=by
 rintro x hz y I L _ _ K ⟨c,rfl,⟨v0,rfl,h0⟩⟩ ⟨d,rfl,⟨u0,rfl,k0⟩⟩ hk;have hok:=hxs x hz;refine ET (by kernel_rfl) ?_;have hk2:∀(t:Bool) (L':LH),t=sCo x y→SubP L L'→Gh (K (.bool t)) I L':=by
  intro t L' ht hs;rw [ht];exact Gh.to L (Gh.done hk)
 refine ASg ?_;unfold AOK;refine AV (fun b1=>AV (fun b2=>?_));unfold sCo at hk2;repeat' (first|(with_reducible first|refine Ah ?_|refine Ac ?_|refine Aa ?_|refine keepA ?_|refine AV (fun _=>?_))|((with_reducible refine call ?_);with_reducible refine Bi (ω:=ω) _ x.fDefault (Nat.le_refl _) hok y.fDefault _ _ _ _ _ (ExV.iff.2 ⟨v0,rfl,h0⟩) (ExV.iff.2 ⟨u0,rfl,k0⟩) ?_)|(with_reducible refine rdb ?_)|((with_reducible first|refine st1 ?_ ?_|refine rdB ?_ ?_);rfl)|(with_reducible refine Aj ?_)|((with_reducible refine BB ?_ ?_);rfl)|((with_reducible refine stB ?_ ?_ ?_ ?_);rfl;rfl;exact AO rfl)|((with_reducible first|refine rdP _ rfl ?_ ?_|refine BC _ rfl ?_ ?_);rfl)|((with_reducible refine stP _ rfl ?_ ?_ ?_ ?_);rfl;rfl;rfl)|(with_reducible refine And.intro ?_ ?_)|(simp only [SSg,Int.reduceBEq,Int.reduceBNe,Int.reduceLT,Int.reduceLE,beq_self_eq_true,bne_self_eq_false])|(with_reducible first|refine AP (fun _=>?_) (fun _=>?_)|refine AB (fun _=>?_) (fun _=>?_))|(simp only [SSd,Nat.reduceAdd]))
 all_goals (refine hk2 _ _ ?_ inferInstance;clear hk2 hk;simp_all)
theorem AKm {xs:List (List Ex)}(hxs:∀x∈xs,okL x∧x.length≤1000000000000):FnQ ω (.func (.func 69) #[] #[]) (AKW (Ez ExV 11)) (eqL EH) xs:=by
 intro x hz y I L u v K hu hv hk;obtain ⟨u',hu',h0⟩:=(show Ez ExV 11 I x [u] from hu);obtain ⟨v',hv',k0⟩:=(show Ez ExV 11 I y [v] from hv);obtain rfl:u=u':=by simpa using hu'
 obtain rfl:v=v':=by simpa using hv'
 refine ET (by kernel_rfl) ?_;refine ASk ?_;unfold AOP;refine call (YN h0 k0 ?_ (hxs x hz).2 (Gh.done hk));rintro z hzz y I L _ _ K ⟨c,rfl,hc⟩ ⟨d,rfl,hd'⟩ hk;exact ET (by kernel_rfl) (Bi _ z (Nat.le_refl _) (Gf (hxs x hz).1 hzz) y I L c d K hc hd' hk)
end
theorem Vu {l:List TStmt}{k:Nat}(h:k < l.length):BO (l.take (k+1))=BO (l.take k)+Em l[k]:=by
 rw [List.take_succ_eq_append_getElem h];simp only [BO,List.map_append,List.sum_append,List.map_cons,List.map_nil,List.sum_cons,List.sum_nil,Nat.add_zero]
theorem TC:∀a b:List TStmt,Dj (a++b)=max (Dj a) (Dj b)
 |[],b=>by simp [Dj]
 |x::a,b=>by simp only [List.cons_append,Dj,TC a b];omega
theorem YQ {l:List TStmt}{k:Nat}(h:k < l.length):Dj (l.take (k+1))=max (Dj (l.take k)) (Qm l[k]):=by
 rw [List.take_succ_eq_append_getElem h,TC];simp [Dj]
theorem ACG {l:List TStmt}(k:Nat):BO (l.take k)≤BO l:=by
 have h:BO l=BO (l.take k)+BO (l.drop k):=by
  unfold BO;rw [←List.sum_append,←List.map_append,List.take_append_drop]
 omega
theorem QN:∀l:List TStmt,l.length≤BO l
 |[]=>Nat.zero_le _
 |s::l=>by
  have:=QN l;simp only [BO,List.map_cons,List.sum_cons,List.length_cons,Em] at this ⊢;omega
section
variable {ω:Om}
theorem ABm {I:Imm}{L:LH}{K:Value→M}{v:Value}{l:List TStmt}(hl:RL TStmtV 51 I [] v l)(hp:BO l≤1000000000)(hc:∀s∈l,cS s≤1000000000)
  (hk:∀I',Ext I I'→K (.tuple #[.int .i64 (BO l:Nat),.int .i64 (Dj l:Nat)]) I' L):CT ω 47 #[v] K I L:=by
 refine ASy ?_;unfold AOd;simp only [RL.len hl,SSd,Nat.reduceAdd];refine AV (fun b1=>?_);refine AV (fun b2=>?_);refine st1 rfl ?_;refine st1 rfl ?_;have hlen:=QN l;refine loop (fun q st I' L'=>∃k:Nat,k+q=l.length∧st=(.int .i64 k,())∧Ext I I'∧L'=(b2,DW (Dj (l.take k)))::(b1,DW (BO (l.take k)+(l.length - k)))::L) l.length ⟨0,by omega,rfl,Ext.refl _,?_⟩ ?_
 ·rw [show ((BO (l.take 0):Nat):Int)+((l.length:Int) - (0:Nat))=l.length by simp [BO]];rfl
 rintro q st I' L' ⟨k,hkq,rfl,hI',rfl⟩;unfold ADm;try simp only [SSd,Nat.reduceAdd]
 refine AB (fun hb=>?_) (fun hb=>?_)
 ·have hb:k < l.length:=by
   have:=of_decide_eq_true hb;omega
  obtain ⟨bt,off,c1,g1,gl,g2,g3⟩:=RL.ix hl (i:=k) (by omega) (by omega);rw [Ar hb] at g2;have g2:=g2.mono hI';have hone:=TStmtV.one g2;simp only [g1,SSd,Nat.reduceAdd];refine EN (g3 _ [] hI' (fun _ h=>h)) (Ext.refl _) gl ?_;refine AV (fun b3=>?_);refine stB gl rfl hone ?_;refine rdB gl ?_;refine call ?_;have hcs:=hc _ (List.getElem_mem hb);have hpk:=Vu hb;have hdk:=YQ hb;have hle:=ACG (l:=l) (k+1);have e1:Em l[k]=Ag (FV l[k])+1:=rfl;refine Cal.to ((b1,DW (BO (l.take k)+(l.length - k)))::(b2,DW (Dj (l.take k)))::L) ?_;refine ACa g2 hcs (by omega) (by omega) (by omega) (fun I2 hI2=>?_);simp only [wrap_i64 ((k:Int)+1) (by omega),SSd,Nat.reduceAdd];rw [show (BO (l.take k):Int)+((l.length:Int) - k)+Ag (FV l[k])=BO (l.take (k+1))+((l.length:Int) - (k+1:Nat)) by omega,show max (Dj (l.take k):Int) (BZ (FV l[k]))=Dj (l.take (k+1)) by rw [hdk];simp only [Qm];omega];exact Gh.to ((b2,DW (Dj (l.take (k+1))))::(b1,DW (BO (l.take (k+1))+(l.length - (k+1:Nat))))::L) (Gh.done ⟨q - 1,by omega,k+1,by omega,rfl,Ext.trans hI' hI2,rfl⟩)
 ·have hb:¬k < l.length:=by
   have:=of_decide_eq_false hb;omega
  have hkl:l.take k=l:=List.take_of_length_le (by omega);rw [hkl,show (BO l:Int)+((l.length:Int) - k)=BO l by omega];unfold ADl;repeat' (first|(with_reducible first|refine Ah ?_|refine Ac ?_|refine Aa ?_|refine keepA ?_|refine AV (fun _=>?_)|refine rdb ?_)|((with_reducible first|refine st1 ?_ ?_|refine rdB ?_ ?_);rfl)|(with_reducible refine Aj ?_)|((with_reducible refine BB ?_ ?_);rfl)|((with_reducible refine stB ?_ ?_ ?_ ?_);rfl;rfl;exact AO rfl)|((with_reducible first|refine rdP _ rfl ?_ ?_|refine BC _ rfl ?_ ?_);rfl)|((with_reducible refine stP _ rfl ?_ ?_ ?_ ?_);rfl;rfl;rfl)|(with_reducible refine And.intro ?_ ?_)|(simp only [SSg,Int.reduceBEq,Int.reduceBNe,Int.reduceLT,Int.reduceLE,beq_self_eq_true,bne_self_eq_false])|(with_reducible first|refine AP (fun _=>?_) (fun _=>?_)|refine AB (fun _=>?_) (fun _=>?_))|(simp only [SSd,Nat.reduceAdd]))
  exact Gh.to _ (Gh.done (hk I' hI'))
theorem MR:ATe ω:=by
 intro v l K I L hl hp hc hk;refine ATJ ?_;unfold AOn;refine call (ABm hl hp hc (fun I' hI'=>?_));have hk:=hk I' hI';unfold NT at hk;try simp only [SSd,Nat.reduceAdd]
 refine AB (fun hb=>?_) (fun hb=>?_)
 ·have hb:=of_decide_eq_true hb;rw [if_pos (by omega)] at hk;exact Gh.done hk
 ·have hb:=of_decide_eq_false hb;rw [if_neg (by omega)] at hk;try simp only [SSd,Nat.reduceAdd]
  refine AB (fun hb2=>?_) (fun hb2=>?_)
  ·have hb2:=of_decide_eq_true hb2;rw [if_pos (by omega)] at hk;exact Gh.done hk
  ·have hb2:=of_decide_eq_false hb2;rw [if_neg (by omega)] at hk;exact Gh.done hk
end
section
variable {ω:Om}{G I:Imm}{L F:LH}{K:Value→M}
set_option maxHeartbeats 4000000 in
theorem AHe {a b:TStmt}{b1 b2 b3 b4:Nat}{xa0 xa1 xa2 xa3 xa4 xa5 xa6 xa7 xa8 xa9 xa10 xa11 xa12 ya0 ya1 ya2 ya3 ya4 ya5 ya6 ya7 ya8 ya9 ya10 ya11 ya12:Option Addr}{xk0 xk1 xk2 xk3 xk4 xk5 xk6 xk7 xk8 xk9 xk10 xk11 xk12 yk0 yk1 yk2 yk3 yk4 yk5 yk6 yk7 yk8 yk9 yk10 yk11 yk12:Nat}(hq:OkS a)(h0:RL TItemV 14 I [] (.slice xa0 a.fSelect.fItems.length xk0) a.fSelect.fItems)(h1:RL TSourceV 14 I [] (.slice xa1 a.fSelect.fFrom.length xk1) a.fSelect.fFrom)(h2:ExL I (.slice xa2 a.fSelect.fWhere.args.length xk2) a.fSelect.fWhere.args)(h3:RL ExV 11 I [] (.slice xa3 a.fSelect.fGroup.length xk3) a.fSelect.fGroup)(h4:ExL I (.slice xa4 a.fSelect.fHaving.args.length xk4) a.fSelect.fHaving.args)(h5:RL TOrderV 12 I [] (.slice xa5 a.fSelect.fOrder.length xk5) a.fSelect.fOrder)(h6:RL StrV 1 I [] (.slice xa6 a.fColumns.length xk6) a.fColumns)(h7:RL (Ez ExV 11) 1 I [] (.slice xa7 a.fRows.length xk7) a.fRows)(h8:RL TSetV 12 I [] (.slice xa8 a.fSets.length xk8) a.fSets)(h9:ExL I (.slice xa9 a.fWhere.args.length xk9) a.fWhere.args)(h10:RL TColV 16 I [] (.slice xa10 a.fCols.length xk10) a.fCols)(h11:RL StrV 1 I [] (.slice xa11 a.fKey.length xk11) a.fKey)(h12:RL StrV 1 I [] (.slice xa12 a.fIndex.fColumns.length xk12) a.fIndex.fColumns)(g0:RL TItemV 14 I [] (.slice ya0 b.fSelect.fItems.length yk0) b.fSelect.fItems)(g1:RL TSourceV 14 I [] (.slice ya1 b.fSelect.fFrom.length yk1) b.fSelect.fFrom)(g2:ExL I (.slice ya2 b.fSelect.fWhere.args.length yk2) b.fSelect.fWhere.args)(g3:RL ExV 11 I [] (.slice ya3 b.fSelect.fGroup.length yk3) b.fSelect.fGroup)(g4:ExL I (.slice ya4 b.fSelect.fHaving.args.length yk4) b.fSelect.fHaving.args)(g5:RL TOrderV 12 I [] (.slice ya5 b.fSelect.fOrder.length yk5) b.fSelect.fOrder)(g6:RL StrV 1 I [] (.slice ya6 b.fColumns.length yk6) b.fColumns)(g7:RL (Ez ExV 11) 1 I [] (.slice ya7 b.fRows.length yk7) b.fRows)(g8:RL TSetV 12 I [] (.slice ya8 b.fSets.length yk8) b.fSets)(g9:ExL I (.slice ya9 b.fWhere.args.length yk9) b.fWhere.args)(g10:RL TColV 16 I [] (.slice ya10 b.fCols.length yk10) b.fCols)(g11:RL StrV 1 I [] (.slice ya11 b.fKey.length yk11) b.fKey)(g12:RL StrV 1 I [] (.slice ya12 b.fIndex.fColumns.length yk12) b.fIndex.fColumns)
  [i1:InL b1 L (.cells (stC a (.slice xa0 a.fSelect.fItems.length xk0) (.slice xa1 a.fSelect.fFrom.length xk1) (.slice xa2 a.fSelect.fWhere.args.length xk2) (.slice xa3 a.fSelect.fGroup.length xk3) (.slice xa4 a.fSelect.fHaving.args.length xk4) (.slice xa5 a.fSelect.fOrder.length xk5) (.slice xa6 a.fColumns.length xk6) (.slice xa7 a.fRows.length xk7) (.slice xa8 a.fSets.length xk8) (.slice xa9 a.fWhere.args.length xk9) (.slice xa10 a.fCols.length xk10) (.slice xa11 a.fKey.length xk11) (.slice xa12 a.fIndex.fColumns.length xk12)).toArray 48 (0,0))] [i2:InL b2 L (.cells (stC b (.slice ya0 b.fSelect.fItems.length yk0) (.slice ya1 b.fSelect.fFrom.length yk1) (.slice ya2 b.fSelect.fWhere.args.length yk2) (.slice ya3 b.fSelect.fGroup.length yk3) (.slice ya4 b.fSelect.fHaving.args.length yk4) (.slice ya5 b.fSelect.fOrder.length yk5) (.slice ya6 b.fColumns.length yk6) (.slice ya7 b.fRows.length yk7) (.slice ya8 b.fSets.length yk8) (.slice ya9 b.fWhere.args.length yk9) (.slice ya10 b.fCols.length yk10) (.slice ya11 b.fKey.length yk11) (.slice ya12 b.fIndex.fColumns.length yk12)).toArray 48 (0,0))] [i3:InL b3 L (.cells (selC a.fSelect (.slice xa0 a.fSelect.fItems.length xk0) (.slice xa1 a.fSelect.fFrom.length xk1) (.slice xa2 a.fSelect.fWhere.args.length xk2) (.slice xa3 a.fSelect.fGroup.length xk3) (.slice xa4 a.fSelect.fHaving.args.length xk4) (.slice xa5 a.fSelect.fOrder.length xk5)).toArray 40 (0,0))] [i4:InL b4 L (.cells (selC b.fSelect (.slice ya0 b.fSelect.fItems.length yk0) (.slice ya1 b.fSelect.fFrom.length yk1) (.slice ya2 b.fSelect.fWhere.args.length yk2) (.slice ya3 b.fSelect.fGroup.length yk3) (.slice ya4 b.fSelect.fHaving.args.length yk4) (.slice ya5 b.fSelect.fOrder.length yk5)).toArray 40 (0,0))]
  (hk:Gh (K (.bool (KY a b))) I L):Tm ω (AX b1) (AX b2) (.bool false) (AX b3) (AX b4) (fun v=>Gh (K v)) I L:=by
 unfold Tm;have hcnt:=hq.cnt;unfold cS cQ at hcnt;have hfe:FnQ ω (.func (.func 60) #[] #[]) (Hy ExV) EH a.fSelect.fGroup:=by
  rintro z hzz y I L _ _ K ⟨c,rfl,hc⟩ ⟨d,rfl,hd'⟩ hk;exact ET (by kernel_rfl) (Bi _ z (Nat.le_refl _) (Gf hq.q.gr hzz) y I L c d K hc hd' hk)
 have hk2:∀t:Bool,t=KY a b→Gh (K (.bool t)) I L:=by
  intro t ht;rw [ht];exact hk
 unfold KY sQu sIx sRe at hk2;repeat' (first|(with_reducible first|refine Ah ?_|refine Ac ?_|refine Aa ?_|refine keepA ?_|refine AV (fun _=>?_))|((with_reducible refine call ?_);with_reducible refine Bi (ω:=ω) _ a.fSelect.fWhere (Nat.le_refl _) hq.q.wh b.fSelect.fWhere _ _ _ _ _ (ExV.iff.2 ⟨.slice xa2 a.fSelect.fWhere.args.length xk2,rfl,h2⟩) (ExV.iff.2 ⟨.slice ya2 b.fSelect.fWhere.args.length yk2,rfl,g2⟩) ?_)|((with_reducible refine call ?_);with_reducible refine Bi (ω:=ω) _ a.fSelect.fHaving (Nat.le_refl _) hq.q.ha b.fSelect.fHaving _ _ _ _ _ (ExV.iff.2 ⟨.slice xa4 a.fSelect.fHaving.args.length xk4,rfl,h4⟩) (ExV.iff.2 ⟨.slice ya4 b.fSelect.fHaving.args.length yk4,rfl,g4⟩) ?_)|((with_reducible refine call ?_);with_reducible refine Bi (ω:=ω) _ a.fWhere (Nat.le_refl _) hq.wh b.fWhere _ _ _ _ _ (ExV.iff.2 ⟨.slice xa9 a.fWhere.args.length xk9,rfl,h9⟩) (ExV.iff.2 ⟨.slice ya9 b.fWhere.args.length yk9,rfl,g9⟩) ?_)|((with_reducible refine call ?_);with_reducible refine YN (ω:=ω) h3 g3 hfe (by omega) ?_)|((with_reducible refine call ?_);with_reducible refine AJF (ω:=ω) h0 g0 (ADN hq.q.it) (by omega) ?_)|((with_reducible refine call ?_);with_reducible refine YM (ω:=ω) h1 g1 (XU hq.q.fr) (by omega) ?_)|((with_reducible refine call ?_);with_reducible refine ACZ (ω:=ω) h5 g5 (ABk hq.q.od) (by omega) ?_)|((with_reducible refine call ?_);with_reducible refine AMg (ω:=ω) h7 g7 (AKm hq.rows) (by omega) ?_)|((with_reducible refine call ?_);with_reducible refine AMf (ω:=ω) h8 g8 (AKl hq.sets) (by omega) ?_)|((with_reducible refine call ?_);with_reducible refine AMh (ω:=ω) h10 g10 (ALv hq.cols) (by omega) ?_)|((with_reducible refine call ?_);with_reducible refine LU (ω:=ω) h6 g6 hq.n1 ?_)|((with_reducible refine call ?_);with_reducible refine LU (ω:=ω) h11 g11 hq.n2 ?_)|((with_reducible refine call ?_);with_reducible refine LU (ω:=ω) h12 g12 hq.n3 ?_)|(with_reducible refine rdb ?_)|((with_reducible first|refine st1 ?_ ?_|refine rdB ?_ ?_);rfl)|(with_reducible refine Aj ?_)|((with_reducible refine BB ?_ ?_);rfl)|((with_reducible refine stB ?_ ?_ ?_ ?_);rfl;rfl;exact AO rfl)|((with_reducible first|refine rdP _ rfl ?_ ?_|refine BC _ rfl ?_ ?_);rfl)|((with_reducible refine stP _ rfl ?_ ?_ ?_ ?_);rfl;rfl;rfl)|(with_reducible refine And.intro ?_ ?_)|(simp only [SSg,Int.reduceBEq,Int.reduceBNe,Int.reduceLT,Int.reduceLE,beq_self_eq_true,bne_self_eq_false])|(with_reducible first|refine AP (fun _=>?_) (fun _=>?_)|refine AB (fun _=>?_) (fun _=>?_))|(simp only [SSd,Nat.reduceAdd]))
 all_goals (refine hk2 _ ?_;clear hk2 hk hfe hcnt hq h0 h1 h2 h3 h4 h5 h6 h7 h8 h9 h10 h11 h12 g0 g1 g2 g3 g4 g5 g6 g7 g8 g9 g10 g11 g12;first|rfl|(simp only [*,Bool.and_true,Bool.and_false,Bool.false_and,Bool.true_and,Bool.and_self];done)|(simp_all;done))
theorem ABq {a b:TStmt}{c d:List Value}(hq:OkS a)(hc:TStmtV I a c)(hd:TStmtV I b d)(hk:K (.bool (KY a b)) I L):CT ω 31 #[.agg c.toArray,.agg d.toArray] K I L:=by
 obtain ⟨v0,v1,v2,v3,v4,v5,v6,v7,v8,v9,v10,v11,v12,rfl,h0,h1,h2,h3,h4,h5,h6,h7,h8,h9,h10,h11,h12⟩:=hc;obtain ⟨u0,u1,u2,u3,u4,u5,u6,u7,u8,u9,u10,u11,u12,rfl,g0,g1,g2,g3,g4,g5,g6,g7,g8,g9,g10,g11,g12⟩:=hd;obtain ⟨xa0,xk0,rfl⟩:=RL.form h0;obtain ⟨xa1,xk1,rfl⟩:=RL.form h1;obtain ⟨xa2,xk2,rfl⟩:=RL.form h2;obtain ⟨xa3,xk3,rfl⟩:=RL.form h3;obtain ⟨xa4,xk4,rfl⟩:=RL.form h4;obtain ⟨xa5,xk5,rfl⟩:=RL.form h5;obtain ⟨xa6,xk6,rfl⟩:=RL.form h6;obtain ⟨xa7,xk7,rfl⟩:=RL.form h7;obtain ⟨xa8,xk8,rfl⟩:=RL.form h8;obtain ⟨xa9,xk9,rfl⟩:=RL.form h9;obtain ⟨xa10,xk10,rfl⟩:=RL.form h10;obtain ⟨xa11,xk11,rfl⟩:=RL.form h11;obtain ⟨xa12,xk12,rfl⟩:=RL.form h12;obtain ⟨ya0,yk0,rfl⟩:=RL.form g0;obtain ⟨ya1,yk1,rfl⟩:=RL.form g1;obtain ⟨ya2,yk2,rfl⟩:=RL.form g2;obtain ⟨ya3,yk3,rfl⟩:=RL.form g3;obtain ⟨ya4,yk4,rfl⟩:=RL.form g4;obtain ⟨ya5,yk5,rfl⟩:=RL.form g5;obtain ⟨ya6,yk6,rfl⟩:=RL.form g6;obtain ⟨ya7,yk7,rfl⟩:=RL.form g7;obtain ⟨ya8,yk8,rfl⟩:=RL.form g8;obtain ⟨ya9,yk9,rfl⟩:=RL.form g9;obtain ⟨ya10,yk10,rfl⟩:=RL.form g10;obtain ⟨ya11,yk11,rfl⟩:=RL.form g11;obtain ⟨ya12,yk12,rfl⟩:=RL.form g12;refine ATF ?_;unfold AOj;refine AV (o:=.cells (stC a (.slice xa0 a.fSelect.fItems.length xk0) (.slice xa1 a.fSelect.fFrom.length xk1) (.slice xa2 a.fSelect.fWhere.args.length xk2) (.slice xa3 a.fSelect.fGroup.length xk3) (.slice xa4 a.fSelect.fHaving.args.length xk4) (.slice xa5 a.fSelect.fOrder.length xk5) (.slice xa6 a.fColumns.length xk6) (.slice xa7 a.fRows.length xk7) (.slice xa8 a.fSets.length xk8) (.slice xa9 a.fWhere.args.length xk9) (.slice xa10 a.fCols.length xk10) (.slice xa11 a.fKey.length xk11) (.slice xa12 a.fIndex.fColumns.length xk12)).toArray 48 (0,0)) (fun b1=>?_)
 refine AV (o:=.cells (stC b (.slice ya0 b.fSelect.fItems.length yk0) (.slice ya1 b.fSelect.fFrom.length yk1) (.slice ya2 b.fSelect.fWhere.args.length yk2) (.slice ya3 b.fSelect.fGroup.length yk3) (.slice ya4 b.fSelect.fHaving.args.length yk4) (.slice ya5 b.fSelect.fOrder.length yk5) (.slice ya6 b.fColumns.length yk6) (.slice ya7 b.fRows.length yk7) (.slice ya8 b.fSets.length yk8) (.slice ya9 b.fWhere.args.length yk9) (.slice ya10 b.fCols.length yk10) (.slice ya11 b.fKey.length yk11) (.slice ya12 b.fIndex.fColumns.length yk12)).toArray 48 (0,0)) (fun b2=>?_);refine Ah ?_;try simp only [SSd,Nat.reduceAdd]
 refine BC (selC a.fSelect (.slice xa0 a.fSelect.fItems.length xk0) (.slice xa1 a.fSelect.fFrom.length xk1) (.slice xa2 a.fSelect.fWhere.args.length xk2) (.slice xa3 a.fSelect.fGroup.length xk3) (.slice xa4 a.fSelect.fHaving.args.length xk4) (.slice xa5 a.fSelect.fOrder.length xk5)) rfl rfl ?_;refine BC (selC b.fSelect (.slice ya0 b.fSelect.fItems.length yk0) (.slice ya1 b.fSelect.fFrom.length yk1) (.slice ya2 b.fSelect.fWhere.args.length yk2) (.slice ya3 b.fSelect.fGroup.length yk3) (.slice ya4 b.fSelect.fHaving.args.length yk4) (.slice ya5 b.fSelect.fOrder.length yk5)) rfl rfl ?_;refine ⟨?_,?_⟩
 ·refine AV (fun b3=>Bz (Ext.refl _) ?_);refine AV (fun b4=>Bz (Ext.refl _) ?_);refine stB rfl rfl (AO rfl) (Bz (Ext.refl _) ?_);refine stB rfl rfl (AO rfl) ?_;exact AHe hq h0 h1 h2 h3 h4 h5 h6 h7 h8 h9 h10 h11 h12 g0 g1 g2 g3 g4 g5 g6 g7 g8 g9 g10 g11 g12 (Gh.to L (Gh.done hk))
 ·refine AV (fun b4=>Bz (Ext.refl _) ?_);refine AV (fun b3=>Bz (Ext.refl _) ?_);refine stB rfl rfl (AO rfl) (Bz (Ext.refl _) ?_);refine stB rfl rfl (AO rfl) ?_;exact AHe hq h0 h1 h2 h3 h4 h5 h6 h7 h8 h9 h10 h11 h12 g0 g1 g2 g3 g4 g5 g6 g7 g8 g9 g10 g11 g12 (Gh.to L (Gh.done hk))
def Ej (s:TStmt):Int:=match (readA (BM true s)) with
 |([x],f)=>if f=ok0 then (if KY x s then NT (Em s) (Qm s) else 177) else 177
 |_=>177
def JV (s:TStmt):Bs×Int:=if Ej s≠0 then ([],Ej s) else if 65536 < (BM true s).length then ([],170) else (BM true s,0)
end
def wtext:Bs:=[97,110,100,32,97,115,32,97,115,99,32,98,101,103,105,110,32,98,101,116,119,101,101,110,32,98,121,32,99,97,115,101,32,99,111,109,109,105,116,32,99,114,101,97,116,101,32,99,114,111,115,115,32,100,101,102,97,117,108,116,32,100,101,108,101,116,101,32,100,101,115,99,32,100,105,115,116,105,110,99,116,32,100,114,111,112,32,101,108,115,101,32,101,110,100,32,102,97,108,115,101,32,102,114,111,109,32,103,114,111,117,112,32,104,97,118,105,110,103,32,105,110,32,105,110,100,101,120,32,105,110,110,101,114,32,105,110,115,101,114,116,32,105,110,116,111,32,105,115,32,106,111,105,110,32,107,101,121,32,108,101,102,116,32,108,105,107,101,32,108,105,109,105,116,32,110,111,116,32,110,117,108,108,32,111,102,102,115,101,116,32,111,110,32,111,114,32,111,114,100,101,114,32,112,114,105,109,97,114,121,32,114,111,108,108,98,97,99,107,32,115,101,108,101,99,116,32,115,101,116,32,116,97,98,108,101,32,116,104,101,110,32,116,114,117,101,32,117,110,105,113,117,101,32,117,112,100,97,116,101,32,118,97,108,117,101,115,32,119,104,101,110,32,119,104,101,114,101]
def spN (c:UInt8):Int:=if (9≤c&&c≤13)||c==32 then 1 else 0
def SpG (G:Imm):Prop:=∀c:UInt8,Cell G [] 0 c.toNat (.int .u8 (spN c))
def trF:Nat→Int×Int×Int
 |0=>(0,1,0)
 |i+1=>let t:=trF i
  let c:=wtext.getD i 0
  (IntKind.i64.wrap (t.1+Hr .and .i64 t.2.1 (Hr .xor .i64 (if IntKind.i64.signed then -1 else IntKind.i64.max) (IntKind.i64.wrap (spN c)))),IntKind.i64.wrap (spN c),Hr .or .u8 t.2.2 c.toNat)
def UW (k:Nat):Nat:=((wordsL.take k).map fun w=>w.length+1).sum
def wiF (i:Nat):Nat:=((wtext.take i).filter fun c=>spN c==1).length
theorem ANr:(trF wtext.length).1=50∧decide ((trF wtext.length).2.2≥128)=false:=by decide+kernel
theorem ADK:(List.range wtext.length).all (fun i=>if spN (wtext.getD i 0)=0 then wiF (i+1)==wiF i else
  decide (wiF i < 49)&&wiF (i+1)==wiF i+1&&decide (UW (wiF i)≤i)&&(wtext.drop (UW (wiF i))).take (i - UW (wiF i))==wordsL.getD (wiF i) []&&i+1==UW (wiF i+1)&&decide (i+1 < wtext.length)&&spN (wtext.getD (i+1) 0)==0)=true:=by decide+kernel
theorem AKp:wiF wtext.length=49∧UW 49 < wtext.length∧wtext.drop (UW 49)=wordsL.getD 49 []:=by decide+kernel
theorem XL {i:Nat}(h:i < wtext.length):wtext[i]? =some (wtext.getD i 0):=by
 rw [List.getElem?_eq_getElem h];simp [h]
theorem VV {I:Imm}{X L F:LH}[hsp:SplitL X L F]{T len:Nat}{v u:Value}{cells:List Value}{i:Int}(ho:SlO T 1 X v cells len)(h0:0≤i)(h1:i < len)(hu:u.oneCell'=true):
  ∃b,ixV 1 v (.int .i64 i)=some (.pointer (some ⟨b,i.toNat,none⟩))∧∀K:Value→M,(∀X',SlO T 1 X' v (cells.set i.toNat u) len→K undef I (X'++F))→Sto 1 (.pointer (some ⟨b,i.toNat,none⟩)) u (gh K) I L:=by
 obtain ⟨b,e,_⟩:=AAa (I:=I) (L:=L) (F:=F) (u:=u) (K:=fun _ _ _=>True) ho h0 h1 hu (fun _ _=>trivial);refine ⟨b,e,fun K hk=>?_⟩;obtain ⟨b',e',h⟩:=AAa (I:=I) (L:=L) (F:=F) (u:=u) (K:=K) ho h0 h1 hu hk;rw [e] at e';simp only [Option.some.injEq,Value.pointer.injEq,Addr.mk.injEq,and_true] at e';rw [e'];exact h
section
variable {ω:Om}
theorem rdG {G I:Imm}{L:LH}{K:Value→M}(hG:SpG G)(hI:Ext G I)(c:UInt8)(hk:K (.int .u8 (spN c)) I L):Rv none (AC (.pointer (some ⟨0,c.toNat * 1,none⟩))) K I L:=by
 refine rd1 ?_ hk;have:=(hG c).mono hI (L':=L) (fun _ h=>by cases h);simpa using this
theorem Ub (c:UInt8):Uc 1 256 (.pointer (some ⟨0,0,none⟩)) (.int .u8 c.toNat)=some (.pointer (some ⟨0,c.toNat * 1,none⟩)):=by
 have:=c.toNat_lt;have h2:((c.toNat:Int) < 256):=by omega
 simp [Uc,h2,Addr.add]
theorem Ug {G I:Imm}{L:LH}{K:Value→M}(hG:SpG G)(hGI:Ext G I)(hk:∀X v,SlO 9 1 X v (wordsL.map fun x=>Value.string ⟨x.toArray⟩) wordsL.length→K v I (X++L)):CT ω 32 #[.string ⟨wtext.toArray⟩] K I L:=by
 refine ATE ?_;unfold AOi;refine loop (fun q st I' L'=>∃i:Nat,i+q=wtext.length∧st=(.int .i64 (trF i).1,.int .i64 (trF i).2.1,.int .u8 (trF i).2.2,.int .i64 i,())∧I'=I∧L'=L) wtext.length ⟨0,by omega,rfl,rfl,rfl⟩ ?_;rintro q st I' L' ⟨i,hq,rfl,rfl,rfl⟩;unfold ADt;try simp only [SSd,Nat.reduceAdd]
 refine AB (fun hb=>?_) (fun hb=>?_)
 ·have hb:i < wtext.length:=by
   have:=of_decide_eq_true hb;omega
  simp only [ixS wtext (XL hb),Ub,SSd,Nat.reduceAdd];refine rdG hG hGI _ ?_;have hwl:wtext.length≤1000:=by decide+kernel
  simp only [AKe,wrap_i64 ((i:Int)+1) (by omega),SSd,Nat.reduceAdd];exact Gh.done ⟨q - 1,by omega,i+1,by omega,by rw [trF];rfl,rfl,rfl⟩
 have hb:¬i < wtext.length:=by
  have:=of_decide_eq_false hb;omega
 obtain rfl:i=wtext.length:=by omega
 unfold ADs;obtain ⟨t1,t2⟩:=ANr;simp only [t1,t2,SSd,Nat.reduceAdd];refine APM (ln:=50) (cn:=50) (by omega) (by omega) (by omega) (fun X v hX=>?_);have h0:∃c,wtext[0]? =some c∧spN c=0:=⟨97,rfl,rfl⟩;obtain ⟨c0,hc0,hs0⟩:=h0;refine loop (fun q st I2 L2=>st=(.int .i64 0,())∧I2=I'∧L2=X++L') 0 ⟨rfl,rfl,rfl⟩ ?_;rintro _ st I2 L2 ⟨rfl,rfl,rfl⟩;unfold ADr;simp only [show decide ((0:Int) < (wtext.length:Nat))=true from rfl,SSd,Nat.reduceAdd];simp only [ixS wtext hc0 (a:=0),Ub,show (.int .i64 0:Value)= .int .i64 ((0:Nat):Int) from rfl,SSd,Nat.reduceAdd];refine rdG hG hGI _ ?_;simp only [hs0,show ((0:Int) != 0)=false from rfl,SSd,Nat.reduceAdd];unfold Xb;have hwl:wtext.length≤1000:=by decide+kernel
 have hxz:(Builtin.zeroCells #[.string ⟨#[]⟩] 50).toList=(wordsL.take 0).map (fun x=>Value.string ⟨x.toArray⟩)++List.replicate (50 - 0) (.string ⟨#[]⟩):=by kernel_rfl
 have hX:SlO 9 1 X v ((wordsL.take 0).map (fun x=>Value.string ⟨x.toArray⟩)++List.replicate (50 - 0) (.string ⟨#[]⟩)) 50:=by rw [←hxz];exact hX
 have hw50:wordsL.length=50:=rfl;refine loop (fun q st I3 L3=>∃(i:Nat) (X':LH),i+q=wtext.length∧st=(Value.int .i64 (wiF i:Nat),Value.int .i64 (UW (wiF i):Nat),Value.int .i64 (i:Nat),())∧I3=I2∧L3=X'++L'∧wiF i < 50∧UW (wiF i)≤i∧SlO 9 1 X' v ((wordsL.take (wiF i)).map (fun x=>Value.string ⟨x.toArray⟩)++List.replicate (50 - wiF i) (.string ⟨#[]⟩)) 50) wtext.length ⟨0,X,by omega,rfl,rfl,rfl,by decide,by decide,hX⟩ ?_;rintro q st I3 L3 ⟨i,X',hq,rfl,rfl,rfl,hk50,hoff,hX'⟩;unfold ADq;try simp only [SSd,Nat.reduceAdd]
 refine AB (fun hb=>?_) (fun hb=>?_)
 ·have hb:i < wtext.length:=by
   have:=of_decide_eq_true hb;omega
  have hst:=List.all_eq_true.1 ADK i (List.mem_range.2 hb);simp only [ixS wtext (XL hb),Ub,SSd,Nat.reduceAdd];refine rdG hG hGI _ ?_;try simp only [SSd,Nat.reduceAdd]
  refine AB (fun hs=>?_) (fun hs=>?_)
  ·have hs:spN (wtext.getD i 0)=0:=by simpa using hs
   rw [if_pos hs] at hst;have hst:wiF (i+1)=wiF i:=by simpa using hst
   simp only [wrap_i64 ((i:Int)+1) (by omega),SSd,Nat.reduceAdd];exact Gh.done ⟨q - 1,by omega,i+1,X',by omega,by rw [hst];rfl,rfl,rfl,by rw [hst];exact hk50,by rw [hst];omega,by rw [hst];exact hX'⟩
  ·have hs:¬spN (wtext.getD i 0)=0:=by simpa using hs
   rw [if_neg hs] at hst;simp only [Bool.and_eq_true,decide_eq_true_eq,beq_iff_eq] at hst;obtain ⟨⟨⟨⟨⟨⟨a1,a2⟩,a3⟩,a4⟩,a5⟩,a6⟩,a7⟩:=hst;simp only [slS wtext a3 (Nat.le_of_lt hb),a4,SSd,Nat.reduceAdd];have hkl:wiF i < wordsL.length:=by omega
   have hgd:wordsL.getD (wiF i) []=wordsL[wiF i]:=by simp [hkl]
   have hset:((wordsL.take (wiF i)).map (fun x=>Value.string ⟨x.toArray⟩)++List.replicate (50 - wiF i) (Value.string ⟨#[]⟩)).set (wiF i) (.string ⟨(wordsL.getD (wiF i) []).toArray⟩)=(wordsL.take (wiF i+1)).map (fun x=>Value.string ⟨x.toArray⟩)++List.replicate (50 - (wiF i+1)) (.string ⟨#[]⟩):=by
    rw [List.take_succ_eq_append_getElem hkl,List.map_append,hgd];rw [List.set_append_right _ _ (by simp;omega)];have e1:wiF i - ((wordsL.take (wiF i)).map (fun x=>Value.string ⟨x.toArray⟩)).length=0:=by simp;omega
    have e2:50 - wiF i=(50 - (wiF i+1))+1:=by omega
    rw [e1,e2,List.replicate_succ,List.set_cons_zero];simp
   obtain ⟨b',g1,g2⟩:=VV (I:=I3) (L:=X'++L') (F:=L') (u:=.string ⟨(wordsL.getD (wiF i) []).toArray⟩) (i:=(wiF i:Nat)) hX' (by omega) (by omega) rfl;simp only [g1,SSd,Nat.reduceAdd];refine g2 _ (fun X5 hX5=>?_);rw [Int.toNat_natCast,hset] at hX5;simp only [wrap_i64 ((i:Int)+1) (by omega),wrap_i64 ((wiF i:Int)+1) (by omega),SSd,Nat.reduceAdd];refine loop (fun q' st I6 L6=>st=(Value.int .i64 ((i+1:Nat):Int),())∧I6=I3∧L6=X5++L') 0 ⟨rfl,rfl,rfl⟩ ?_;rintro _ st I6 L6 ⟨rfl,rfl,rfl⟩;unfold ADp;have hlt:decide (((i+1:Nat):Int) < (wtext.length:Nat))=true:=decide_eq_true (by omega);simp only [hlt,ixS wtext (XL a6),Ub,SSd,Nat.reduceAdd];refine rdG hG hGI _ ?_;simp only [a7,show ((0:Int) != 0)=false from rfl,SSd,Nat.reduceAdd];exact Gh.done ⟨q - 1,by omega,i+1,X5,by omega,by rw [a2,←a5];rfl,rfl,rfl,by rw [a2];omega,by rw [a2,←a5];omega,by rw [a2];exact hX5⟩
 ·have hb:¬i < wtext.length:=by
   have:=of_decide_eq_false hb;omega
  obtain rfl:i=wtext.length:=by omega
  obtain ⟨l1,l2,l3⟩:=AKp;rw [l1] at hX';unfold Yp;simp only [l1,show decide (((UW 49:Nat):Int) < (wtext.length:Nat))=true from decide_eq_true (by omega),XX wtext (Nat.le_of_lt l2),l3,SSd,Nat.reduceAdd];obtain ⟨b',g1,g2⟩:=VV (I:=I3) (L:=X'++L') (F:=L') (u:=.string ⟨(wordsL.getD 49 []).toArray⟩) (i:=((49:Nat):Int)) hX' (by omega) (by omega) rfl;simp only [g1,SSd,Nat.reduceAdd];refine g2 _ (fun X5 hX5=>?_);have hset:((wordsL.take 49).map (fun x=>Value.string ⟨x.toArray⟩)++List.replicate (50 - 49) (Value.string ⟨#[]⟩)).set ((49:Nat):Int).toNat (.string ⟨(wordsL.getD 49 []).toArray⟩)=wordsL.map (fun x=>Value.string ⟨x.toArray⟩):=rfl;rw [hset] at hX5;exact Gh.done (hk X5 _ hX5)
theorem Rh (I:Imm):∀l:List Bs,Recs (StrV I) 1 l (l.map fun x=>Value.string ⟨x.toArray⟩)
 |[]=>rfl
 |x::l=>⟨rfl,rfl,Rh I l⟩
theorem VB {G I:Imm}{L:LH}{K:Value→M}(hG:SpG G)(hGI:Ext G I)(hk:∀X v,SlO 9 1 X v (wordsL.map fun x=>Value.string ⟨x.toArray⟩) wordsL.length→K v I (X++L)):CT ω 19 #[] K I L:=by
 refine ATM ?_;unfold AOq;exact call (Ug hG hGI (fun X v hX=>Gh.done (hk X v hX)))
theorem Ik {G:Imm}(hG:SpG G):Yc ω G:=by
 intro K I L hGI hk;refine Cal.gh (VB hG hGI (fun X v hX=>?_));exact RL.ofO (R:=StrV) (xs:=wordsL) (fun {I I' x c} h hI=>h) hX (Rh I wordsL) (fun I6 hI6 hw6=>Gh.done (hk I6 _ hI6 hw6))
end
section
variable {ω:Om}{G I:Imm}{L F:LH}{K:Value→M}
theorem QF (hG:Ey G)(hS:SpG G)(hGI:Ext G I){s:TStmt}(hq:OkS s)(hread:∀x∈(readA (BM true s)).1,OkS x)(hp:Em s≤1000000000){c:List Value}(hc:TStmtV I s c)(hn:(BM true s).length≤900000000)(hk:∀I',Ext I I'→K (.int .i64 (Ej s)) I' L):
  CT ω 17 #[.agg c.toArray] K I L:=by
 have hWd:=Ik (ω:=ω) hS;have hTok:=Jf hWd;have hcl:=hc.len;refine ATN ?_;unfold AOr;refine AV (fun bs=>?_);refine rdB hcl ?_;refine call (TA hG hWd hGI hq hc (by omega) (fun I1 hI1=>?_));refine call (SC hTok _ hn (Ext.trans hGI hI1) (fun I2 a k hI2 hw=>?_));have hI12:=Ext.trans hI1 hI2;have hrd:Ej s=match (readA (BM true s)).1 with
   |[x]=>if (readA (BM true s)).2=ok0 then (if KY x s then NT (Em s) (Qm s) else 177) else 177
   |_=>177:=by
  unfold Ej;cases hr:readA (BM true s) with
  |mk l f=>cases l with
   |nil=>rfl
   |cons x l=>cases l <;> rfl
 have hcode:=QH (BM true s);generalize (readA (BM true s)).1=xs at *;generalize (readA (BM true s)).2=f at *;have fin:∀(t:Int) (I':Imm) (L':LH),t=Ej s→Ext I2 I'→SubP L L'→Gh (K (.int .i64 t)) I' L':=by
  intro t I' L' ht hI' hs;rw [ht];exact Gh.to L (Gh.done (hk I' (Ext.trans hI12 hI')))
 try simp only [SSd,Nat.reduceAdd]
 refine AV (fun bf=>?_);refine stB rfl rfl (AO rfl) ?_;refine Ah ?_;try simp only [SSd,Nat.reduceAdd]
 refine Aj ?_;try simp only [SSd,Nat.reduceAdd]
 have bad:f≠ok0∨(∀x,xs≠[x])→Ej s=177:=by
  intro h;rw [hrd];match xs,h with
  |[x],h=>simp only;rw [if_neg (h.resolve_right (fun hc=>hc x rfl))]
  |[],_=>rfl
  |_::_::_,_=>rfl
 refine AP (fun h0=>?_) (fun h0=>?_);rotate_left
 ·refine fin _ _ _ (bad (.inl (fun e=>?_))).symm (Ext.refl _) (by infer_instance);subst e;simp [ok0] at h0
 have h0:f.code=0:=by simpa using h0
 have hf:f=ok0:=by
  rcases hcode with h|h
  ·exact h
  ·exact absurd h0 h.1
 try simp only [SSd,Nat.reduceAdd]
 refine AP (fun h1=>?_) (fun h1=>?_);rotate_left
 ·have h1:xs.length≠1:=by
   have:¬(xs.length:Int)=1:=by simpa using h1
   omega
  exact fin _ _ _ (bad (.inr (fun x e=>by rw [e] at h1;simp at h1))).symm (Ext.refl _) (by infer_instance)
 have h1:xs.length=1:=by
  have:(xs.length:Int)=1:=by simpa using h1
  omega
 obtain ⟨x,rfl⟩:∃x,xs=[x]:=by
  match xs,h1 with
  |[x],_=>exact ⟨x,rfl⟩
 obtain ⟨bt,off,c1,g1,gl,g2,g3⟩:=RL.ix hw (i:=0) (by omega) (by simp);have g2:TStmtV I2 x c1:=g2;simp only [List.length_cons,List.length_nil] at g1;simp only [List.length_cons,List.length_nil,g1,SSd,Nat.reduceAdd];refine ARy (g3 I2 [] (Ext.refl _) (fun _ h=>h)) (Ext.refl _) gl ?_;refine BB hcl ?_;refine call (ABq (hread x (List.mem_cons_self ..)) g2 (hc.mono hI12) ?_);try simp only [SSd,Nat.reduceAdd]
 have hrs:Ej s=if KY x s then NT (Em s) (Qm s) else 177:=by rw [hrd];simp only;rw [if_pos hf]
 cases hsm:KY x s with
 |false=>
  rw [hsm] at hrs;try simp only [SSd,Nat.reduceAdd]
  exact fin _ _ _ (by rw [hrs];rfl) (Ext.refl _) (by infer_instance)
 |true=>
  rw [hsm] at hrs;try simp only [SSd,Nat.reduceAdd]
  refine rdB hcl ?_;refine Dz (R:=TStmtV) [s] [c] rfl rfl rfl (by simp [hcl]) (by simpa using hc.mono hI12) (fun hI h=>h.mono hI) (fun I3 a3 hI3 hw3=>Gh.done ?_);refine call (MR _ [s] _ _ _ hw3 (by simpa [BO] using hp) (by simpa using hq.cnt) (fun I4 hI4=>?_));refine fin _ _ _ ?_ (Ext.trans hI3 hI4) (by infer_instance);rw [hrs];simp [BO,Dj]
theorem Ru (hG:Ey G)(hS:SpG G)(hGI:Ext G I){s:TStmt}(hq:OkS s)(hread:∀x∈(readA (BM true s)).1,OkS x)(hp:Em s≤1000000000){c:List Value}(hc:TStmtV I s c)(hn:(BM true s).length≤900000000)(hk:∀I',Ext I I'→K (.tuple #[.string ⟨(JV s).1.toArray⟩,.int .i64 (JV s).2]) I' L):
  CT ω 16 #[.agg c.toArray] K I L:=by
 have hWd:=Ik (ω:=ω) hS;have hcl:=hc.len;refine ATO ?_;unfold AOs;refine AV (fun bs=>?_);refine rdB hcl ?_;refine call (QF hG hS hGI hq hread hp hc hn (fun I1 hI1=>?_));unfold JV at hk;try simp only [SSd,Nat.reduceAdd]
 refine AB (fun h=>?_) (fun h=>?_)
 ·have h:Ej s≠0:=by simpa using h
  rw [if_pos h] at hk;exact Gh.to L (Gh.done (hk I1 hI1))
 have h:Ej s=0:=by simpa using h
 rw [if_neg (by simp [h])] at hk;try simp only [SSd,Nat.reduceAdd]
 refine rdB hcl ?_;refine call (TA hG hWd (Ext.trans hGI hI1) hq (hc.mono hI1) (by omega) (fun I2 hI2=>?_));try simp only [SSd,Nat.reduceAdd]
 refine AB (fun h=>?_) (fun h=>?_)
 ·have h:65536 < (BM true s).length:=by
   have:=of_decide_eq_true h;omega
  rw [if_pos h] at hk;exact Gh.to L (Gh.done (hk I2 (Ext.trans hI1 hI2)))
 ·have h:¬65536 < (BM true s).length:=by
   have:=of_decide_eq_false h;omega
  rw [if_neg h] at hk;exact Gh.to L (Gh.done (hk I2 (Ext.trans hI1 hI2)))
end
def ASS:Bs:=[83,69,76,69,67,84,32,97,46,98,32,65,83,32,34,88,32,121,34,44,32,99,111,117,110,116,40,42,41,32,70,82,79,77,32,116,32,97,32,87,72,69,82,69,32,78,79,84,32,97,46,98,32,61,32,49,32,79,82,32,99,32,73,83,32,78,79,84,32,78,85,76,76]
def ASR:Bs:=[115,101,108,101,99,116,32,97,32,102,114,111,109,32,116,32,119,104,101,114,101,32,98,32,61,32,99,32,61,32,100]
def ATt:Bs:=[115,101,108,101,99,116,32,97,46,98,32,97,115,32,34,88,32,121,34,44,32,99,111,117,110,116,40,42,41,32,102,114,111,109,32,116,32,97,115,32,97,32,119,104,101,114,101,32,110,111,116,32,97,46,98,32,61,32,49,32,111,114,32,99,32,105,115,32,110,111,116,32,110,117,108,108]
def Qj:TStmt:={(default:TStmt) with fKind:=1,fSelect:=⟨false,[⟨false,[],He [97] [98],[88,32,121]⟩,⟨false,[],GY [99,111,117,110,116] false [exK 3 []],[]⟩],[⟨[116],[97],false,ex0⟩],exK 22 [exK 5 [exK 15 [He [97] [98],Ih ⟨1,false,1,[]⟩]],exK 7 [He [] [99]]],[],ex0,[], -1,0⟩}
theorem ASQ:EW ASS=([Qj],ok0):=by kernel_rfl
theorem ASP:(EW ASR).2=⟨174,28⟩:=by decide+kernel
theorem ASO:(readA (BM true Qj)).1=[Qj]:=by kernel_rfl
theorem ATs:Ej Qj=0:=by decide+kernel
theorem ATr:JV Qj=(ATt,0):=by decide+kernel
theorem Xx:okE ex0:=by simp [okE,okL,okI,ex0,v0]
theorem AJE:OkS Qj:=by
 refine ⟨⟨?_,?_,?_,?_,Xx,nofun,by unfold okI;decide,by unfold okI;decide,by decide⟩,Xx,nofun,nofun,nofun,by decide,by decide,by decide,by decide⟩
 ·intro x hx;simp only [Qj,List.mem_cons,List.not_mem_nil,or_false] at hx;rcases hx with rfl|rfl <;> simp [okE,okL,okI,He,GY,exK,v0]
 ·intro x hx;simp only [Qj,List.mem_cons,List.not_mem_nil,or_false] at hx;subst hx;exact Xx
 ·simp [Qj,okE,okL,okI,He,exK,Ih,v0]
 ·trivial
section
variable {ω:Om}{G I:Imm}{L F:LH}{K:Value→M}
theorem XY (hG:Ey G)(hS:SpG G)(hGI:Ext G I)(hk:∀I',Ext I I'→K (.bool true) I' L):CT ω 10 #[] K I L:=by
 have hTok:=Jf (Ik (ω:=ω) hS);refine ATR ?_;unfold AOv;refine call (LQ hTok MR ASS hGI (fun I1 a k hI1 hw=>?_));rw [ASQ] at hw ⊢;simp only [List.length_cons,List.length_nil,Nat.zero_add,show ok0.code=0 from rfl,show ((ok0.at':Int))=0 from rfl,SSd,Nat.reduceAdd];refine AV (fun bf=>?_);refine stB rfl rfl (AO rfl) ?_;try simp only [SSd,Nat.reduceAdd]
 refine rdb ?_;simp only [show ((0:Int) != 0)=false from rfl,show (((1:Nat):Int) != 1)=false from rfl,SSd,Nat.reduceAdd];obtain ⟨bt,off,c1,g1,gl,g2,g3⟩:=RL.ix hw (i:=0) (by omega) (by simp);have g2:TStmtV I1 Qj c1:=g2;simp only [List.length_cons,List.length_nil,Nat.zero_add] at g1;simp only [g1,SSd,Nat.reduceAdd];refine EN (g3 I1 [] (Ext.refl _) (fun _ h=>h)) (Ext.refl _) gl ?_;have hread:∀x∈(readA (BM true Qj)).1,OkS x:=by
  rw [ASO];intro x hx;rw [List.mem_singleton.1 hx];exact AJE
 refine call (Ru hG hS (Ext.trans hGI hI1) AJE hread (by decide) g2 (by decide) (fun I2 hI2=>?_));rw [ATr];simp only [g1,SSd,Nat.reduceAdd];have hI12:=Ext.trans hI1 hI2;refine EN (g3 I2 [] hI2 (fun _ h=>h)) (Ext.refl _) gl ?_;refine call (QF hG hS (Ext.trans hGI hI12) AJE hread (by decide) (g2.mono hI2) (by decide) (fun I3 hI3=>?_));rw [ATs];refine call (LQ hTok MR ASR (Ext.trans hGI (Ext.trans hI12 hI3)) (fun I4 a4 k4 hI4 hw4=>?_));rw [ASP];try simp only [SSd,Nat.reduceAdd]
 refine AV (fun bh=>?_);refine stB rfl rfl (AO rfl) ?_;simp only [show ((0:Int)==0)=true from rfl,SSd,Nat.reduceAdd];refine AP (fun _=>?_) (fun h=>absurd (by decide+kernel) h);refine rdB rfl ?_;simp only [TS,SSd,Nat.reduceAdd];exact Gh.to L (Gh.done (hk I4 (Ext.trans hI12 (Ext.trans hI3 hI4))))
theorem Gv {u v:Value}{xs ys:List Bs}(hx:RL StrV 1 I L u xs)(hy:RL StrV 1 I L v ys)(hl:xs.length≤1000000000000)(hk:K (.bool (eqL eqB xs ys)) I L):CT ω 20 #[u,v] K I L:=by
 refine ATL ?_;unfold AOp;simp only [RL.len hx,RL.len hy,SSd,Nat.reduceAdd];refine AB (fun h=>?_) (fun h=>?_)
 ·have h:xs.length≠ys.length:=by
   have:¬(xs.length:Int)=ys.length:=by simpa using h
   omega
  rw [Ff h] at hk;exact Gh.done hk
 have h:xs.length=ys.length:=by
  have:(xs.length:Int)=ys.length:=by simpa using h
  omega
 refine loop (fun q st I' L'=>∃k:Nat,k+q=xs.length∧st=(Value.bool false,Value.int .i64 (k:Nat),())∧I'=I∧L'=L∧eqL eqB xs ys=eqL eqB (xs.drop k) (ys.drop k)) xs.length ⟨0,by omega,rfl,rfl,rfl,rfl⟩ ?_;rintro q st I' L' ⟨k,hq,rfl,rfl,rfl,he⟩;unfold AEk;simp only [RL.len hx,SSd,Nat.reduceAdd];refine AB (fun hb=>?_) (fun hb=>?_)
 ·have hb:k < xs.length:=by
   have:=of_decide_eq_true hb;omega
  have hb2:k < ys.length:=by omega
  obtain ⟨bt,off,c1,g1,gl,g2,g3⟩:=RL.ix hx (i:=k) (by omega) (by omega);obtain ⟨bu,off2,c2,k1,kl,k2,k3⟩:=RL.ix hy (i:=k) (by omega) (by omega);rw [Ar hb] at g2;rw [Ar hb2] at k2;obtain rfl:=g2;obtain rfl:=k2;rw [List.drop_eq_getElem_cons hb,List.drop_eq_getElem_cons hb2] at he;simp only [eqL] at he;refine draw (Stay I' L') (Stay.start I' L') ?_;simp only [g1,k1,SSd,Nat.reduceAdd];refine IP (g3 I' L' (Ext.refl _) (fun _ h=>h) 0 _ rfl) ?_;refine IP (k3 I' L' (Ext.refl _) (fun _ h=>h) 0 _ rfl) ?_;simp only [sNe,SSd,Nat.reduceAdd];refine AB (fun h0=>?_) (fun h0=>?_)
  ·have h0:eqB xs[k] ys[k]=false:=by simpa [eqB] using h0
   rw [he,h0] at hk;exact Gh.done hk
  ·have h0:eqB xs[k] ys[k]=true:=by simpa [eqB] using h0
   simp only [wrap_i64 ((k:Int)+1) (by omega),SSd,Nat.reduceAdd];exact Gh.done ⟨q - 1,by omega,k+1,by omega,rfl,rfl,rfl,by rw [he,h0,Bool.true_and]⟩
 ·have hb:¬k < xs.length:=by
   have:=of_decide_eq_false hb;omega
  rw [he,Gg (List.drop_eq_nil_of_le (by omega)) (List.drop_eq_nil_of_le (by omega))] at hk;exact Gh.done hk
theorem WT {α:Type}{f:α→α→Bool}(hf:∀x,f x x=true):∀l:List α,eqL f l l=true
 |[]=>rfl
 |x::l=>by simp only [eqL,hf,WT hf l,Bool.and_self]
theorem AJI (x:Bs):eqB x x=true:=by simp [eqB]
end
mutual
def gdE:Ex→Prop
 | .mk k v _ n _ _ d l=>(0≤v.fInt∧v.fInt≤9223372036854775807)∧(k=28→isAgg n=true∧l.length=1∧(d=true→∀y∈l,y.kind≠3))∧gdL l
def gdL:List Ex→Prop
 |[]=>True
 |x::l=>gdE x∧gdL l
end
theorem Ue:∀{a b:List Ex},gdL a→gdL b→gdL (a++b)
 |[],_,_,h=>h
 |_::a,b,h,h2=>⟨h.1,Ue h.2 h2⟩
def PE (x:Ex):Prop:=gdE x∧x.kind≠0∧x.kind≠3
theorem MN {k:Int}{l:List Ex}(h0:k≠0)(h3:k≠3)(h28:k≠28)(hl:gdL l):PE (exK k l):=
 ⟨by simp only [exK,gdE,v0];exact ⟨by decide,fun h=>absurd h h28,hl⟩,h0,h3⟩
theorem APH {v:TValue}(h:0≤v.fInt∧v.fInt≤9223372036854775807):PE (Ih v):=
 ⟨by simp only [Ih,gdE];exact ⟨h,fun h=>absurd h (by decide),trivial⟩,by simp [Ih,Ex.kind],by simp [Ih,Ex.kind]⟩
theorem AIM (t n:Bs):PE (He t n):=
 ⟨by simp only [He,gdE,v0];exact ⟨by decide,fun h=>absurd h (by decide),trivial⟩,by simp [He,Ex.kind],by simp [He,Ex.kind]⟩
theorem AIN {n:Bs}{d:Bool}{x:Ex}(hn:isAgg n=true)(hd:d=true→x.kind≠3)(hx:gdE x):PE (GY n d [x]):=
 ⟨by simp only [GY,gdE,v0];exact ⟨by decide,fun _=>⟨hn,rfl,fun h y hy=>by rw [List.mem_singleton.1 hy];exact hd h⟩,hx,trivial⟩,by simp [GY,Ex.kind],by simp [GY,Ex.kind]⟩
theorem ASN:gdE (exK 3 []):=by simp only [exK,gdE,v0];exact ⟨by decide,fun h=>absurd h (by decide),trivial⟩
theorem APU:gdE ex0:=by simp only [ex0,gdE,v0];exact ⟨by decide,fun h=>absurd h (by decide),trivial⟩
def OC (t:Tok):Prop:=0≤t.num∧t.num≤9223372036854775807
structure TOk (N:Nat)(l:List Tok):Prop where
 len:l.length≤N
 num:∀t∈l,OC t
theorem TOk.tl {N:Nat}{l:List Tok}(h:TOk N l):TOk N l.tail:=⟨by have:=h.len;simp only [List.length_tail];omega,fun t ht=>h.num t (List.mem_of_mem_tail ht)⟩
theorem TOk.hd {N:Nat}{l:List Tok}(h:TOk N l):OC (hd l):=by
 cases l with
 |nil=>exact ⟨by decide,by decide⟩
 |cons t l=>exact h.num t (List.mem_cons_self ..)
theorem TOk.if {N:Nat}{l:List Tok}{b:Bool}(h:TOk N l):TOk N (if b then l.tail else l):=by
 cases b
 ·exact h
 ·exact h.tl
def Postq {α:Type}(N:Nat)(Q:α→Prop)(g:Pr α):Prop:=∀l x r,TOk N l→g l= .ok x r→Q x∧TOk N r
theorem Postq.imp {α:Type}{N:Nat}{Q R:α→Prop}{g:Pr α}(h1:Postq N Q g)(h2:∀x,Q x→R x):Postq N R g:=fun l x r hl h=>⟨h2 _ (h1 l x r hl h).1,(h1 l x r hl h).2⟩
theorem Postq.cost {α:Type}{N:Nat}{Q:α→Prop}{w:α→Nat}{g:Pr α}(h1:Postq N Q g)(h2:Ba w g):Postq N (fun x=>Q x∧w x≤N) g:=fun l x r hl h=>⟨⟨(h1 l x r hl h).1,by have:=h2 l x r h;have:=hl.len;omega⟩,(h1 l x r hl h).2⟩
theorem Postq.bind {α β:Type}{N:Nat}{Q:α→Prop}{R:β→Prop}{g:Pr α}{f:α→Pr β}(hg:Postq N Q g)(hf:∀a,Q a→Postq N R (f a)):Postq N R (fun l=>(g l).bind f):=by
 intro l x r hl h;obtain ⟨a,q,h1,h2⟩:=bind_ok h;have:=hg _ _ _ hl h1;exact hf a this.1 _ _ _ this.2 h2
theorem Postq.ok {α:Type}{N:Nat}{Q:α→Prop}{x:α}(h:Q x):Postq N Q (fun l=>.ok x l):=by
 intro l y r hl h';simp only [Res.ok.injEq] at h';obtain ⟨rfl,rfl⟩:=h';exact ⟨h,hl⟩
theorem Postq.tl {α:Type}{N:Nat}{Q:α→Prop}{g:Pr α}(h:Postq N Q g):Postq N Q (fun l=>g l.tail):=fun l x r hl h'=>h _ x r hl.tl h'
theorem Postq.ite {α:Type}{N:Nat}{Q:α→Prop}{c:List Tok→Prop}[DecidablePred c]{f g:Pr α}(h1:Postq N Q f)(h2:Postq N Q g):Postq N Q (fun l=>if c l then f l else g l):=by
 intro l x r hl h;simp only at h
 split at h
 ·exact h1 _ _ _ hl h
 ·exact h2 _ _ _ hl h
theorem Postq.bad {α:Type}{N:Nat}{Q:α→Prop}:Postq N Q (fun l=>bad (α:=α) l):=fun l x r hl h=>nomatch h
def Tru {α:Type}(_:α):Prop:=True
theorem BH {N:Nat}{s:Bs}:Postq N Tru (AY s):=Postq.ite (c:=fun l=>isT l s=true) (Postq.tl (g:=fun l=>.ok () l) (Postq.ok trivial)) Postq.bad
theorem Bv {N:Nat}:Postq N Tru BG:=by
 intro l x r hl h;unfold BG at h;split at h
 ·simp only [Res.ok.injEq] at h;obtain ⟨rfl,rfl⟩:=h;exact ⟨trivial,hl.tl⟩
 ·cases h
theorem SK {α:Type}{N:Nat}{Q:α→Prop}{one:Pr α}(h1:Postq N Q one):∀n acc,(∀x∈acc,Q x)→Postq N (fun l=>∀x∈l,Q x) (Cc one n acc)
 |0,acc,ha=>Postq.ok ha
 |n+1,acc,ha=>Postq.ite (c:=fun l=>isT l [44]=true) (Postq.tl (g:=fun l=>(one l).bind fun x r=>Cc one n (acc++[x]) r) (Postq.bind h1 fun x hx=>SK h1 n _ (by
   intro y hy;rcases List.mem_append.1 hy with h|h
   ·exact ha y h
   ·rw [List.mem_singleton.1 h];exact hx))) (Postq.ok ha)
theorem Gl {α:Type}{N:Nat}{Q:α→Prop}{one:Pr α}(h1:Postq N Q one)(n:Nat):Postq N (fun l=>∀x∈l,Q x) (Bc n one):=Postq.bind h1 fun x hx=>SK h1 n _ (by intro y hy;rw [List.mem_singleton.1 hy];exact hx)
theorem KN {α:Type}{N:Nat}{Q:α→Prop}{one:Pr α}(h1:Postq N Q one)(n:Nat):Postq N (fun l=>∀x∈l,Q x) (CE n one):=
 Postq.bind BH fun _ _=>Postq.bind (Gl h1 n) fun _ hx=>Postq.bind BH fun _ _=>Postq.ok hx
theorem YK:∀{l:List Ex},(∀x∈l,PE x)→gdL l
 |[],_=>trivial
 |x::l,h=>⟨(h x (List.mem_cons_self ..)).1,YK fun y hy=>h y (List.mem_cons_of_mem _ hy)⟩
def OpK (k:Int):Prop:=k≠0∧k≠3∧k≠28
theorem SN {N:Nat}{one:Pr Ex}{op:List Tok→Int}(hop:∀l,op l≠0→OpK (op l))(h1:Postq N PE one):∀n x,PE x→Postq N PE (GX one op n x)
 |0,x,hx=>Postq.ok hx
 |n+1,x,hx=>by
  intro l y r hl h;simp only [GX] at h;split at h
  ·simp only [Res.ok.injEq] at h;obtain ⟨rfl,rfl⟩:=h;exact ⟨hx,hl⟩
  ·rename_i hn
   obtain ⟨z,q,h2,h3⟩:=bind_ok h;have c1:=h1 _ _ _ hl.tl h2;exact SN hop h1 n _ (MN (l:=[x,z]) (hop _ hn).1 (hop _ hn).2.1 (hop _ hn).2.2 ⟨hx.1,c1.1.1,trivial⟩) _ _ _ c1.2 h3
theorem JC {N:Nat}{one:Pr Ex}{op:List Tok→Int}(hop:∀l,op l≠0→OpK (op l))(h1:Postq N PE one)(n:Nat):Postq N PE (DN n one op):=
 Postq.bind h1 fun x hx=>SN hop h1 n x hx
theorem ATq (l:List Tok)(h:OH l≠0):OpK (OH l):=by unfold OH at *; split <;> simp_all [OpK]
theorem ASL (l:List Tok)(h:JX l≠0):OpK (JX l):=by unfold JX at *; split <;> simp_all [OpK]
theorem ASJ {f:Bs→Option Int}(hf:∀s k,f s=some k→OpK k)(l:List Tok)(h:Ja f l≠0):OpK (Ja f l):=by
 unfold Ja at *;split at h
 ·rename_i hc
  rw [if_pos hc];cases hs:f (hd l).text with
  |none=>rw [hs] at h;exact absurd rfl h
  |some k=>exact hf _ _ hs
 ·exact absurd rfl h
theorem ASI (s:Bs)(k:Int)(h:TR s=some k):OpK k:=by
 unfold TR at h;repeat (split at h;· simp only [Option.some.injEq] at h;subst h;exact ⟨by decide,by decide,by decide⟩)
 cases h
theorem APP (s:Bs)(k:Int)(h:Lj s=some k):OpK k:=by
 unfold Lj at h;repeat (split at h;· simp only [Option.some.injEq] at h;subst h;exact ⟨by decide,by decide,by decide⟩)
 cases h
theorem AIp (l:List Tok)(h:FD l≠0):OpK (FD l):=by
 unfold FD at *;repeat (split;· exact ⟨by decide,by decide,by decide⟩)
 simp_all
theorem AIk {l:List Tok}{v:TValue}(h:KX l=some v):0≤v.fInt∧v.fInt≤9223372036854775807:=by
 unfold KX at h;repeat (split at h;· simp only [Option.some.injEq] at h;subst h;simp)
 cases h
theorem QK {N:Nat}:Postq N (fun x=>PE x∧x.kind=1) OI:=by
 intro l x r hl h;unfold OI at h;split at h
 ·simp only [Res.ok.injEq] at h;obtain ⟨rfl,rfl⟩:=h;exact ⟨⟨APH hl.hd,rfl⟩,hl.tl⟩
 ·cases h
theorem post_given {N:Nat}:Postq N (fun x=>PE x∧(x.kind=1∨x.kind=4)) HY:=by
 intro l x r hl h;unfold HY at h;split at h
 ·rename_i v hv
  simp only [Res.ok.injEq] at h;obtain ⟨rfl,rfl⟩:=h;exact ⟨⟨APH (AIk hv),.inl rfl⟩,hl.tl⟩
 split at h
 ·obtain ⟨y,q,h1,h2⟩:=bind_ok h;have c1:=QK _ _ _ hl.tl h1;simp only [Res.ok.injEq] at h2;obtain ⟨rfl,rfl⟩:=h2;exact ⟨⟨MN (by decide) (by decide) (by decide) ⟨c1.1.1.1,trivial⟩,.inr rfl⟩,c1.2⟩
 ·have c1:=QK _ _ _ hl h;exact ⟨⟨c1.1.1,.inl c1.1.2⟩,c1.2⟩
theorem SH {N:Nat}{E:Pr Ex}(hE:Postq N PE E)(n:Nat)(acc:List Ex)(ha:gdL acc):Postq N gdL (FB n E acc):=
 Postq.bind BH fun _ _=>Postq.bind hE fun _ hx=>Postq.bind BH fun _ _=>Postq.bind hE fun _ hy=>Postq.ok (Ue ha ⟨hx.1,hy.1,trivial⟩)
theorem QJ {N:Nat}{E:Pr Ex}(hE:Postq N PE E)(n:Nat):∀m acc,gdL acc→Postq N gdL (GK n E m acc)
 |0,acc,ha=>Postq.ok ha
 |m+1,acc,ha=>Postq.ite (c:=fun l=>isT l [119,104,101,110]=true) (Postq.bind (SH hE n acc ha) fun a h=>QJ hE n m a h) (Postq.ok ha)
theorem ACE {N:Nat}{E:Pr Ex}(hE:Postq N PE E)(n:Nat):Postq N PE (KD n E):=
 Postq.bind (SH hE n [] trivial) fun a ha=>Postq.bind (QJ hE n n a ha) fun b hb=>
  Postq.bind (Q:=gdL) (g:=fun r=>if isT r [101,108,115,101] then (E r.tail).bind fun x r=>.ok (b++[x]) r else Res.ok b r)
   (Postq.ite (c:=fun l=>isT l [101,108,115,101]=true) (Postq.tl (g:=fun l=>(E l).bind fun x r=>.ok (b++[x]) r) (Postq.bind hE fun x hx=>Postq.ok (Ue hb ⟨hx.1,trivial⟩))) (Postq.ok hb))
   fun c hc=>Postq.bind BH fun _ _=>Postq.ok (MN (by decide) (by decide) (by decide) hc)
theorem ARn {s:Bs}(h1:¬s=[99,111,97,108,101,115,99,101])(h2:¬s=[108,101,110,103,116,104])(h:Dv s=true):isAgg s=true:=by
 unfold Dv at h;simpa [h1,h2] using h
theorem Xq {N:Nat}{E:Pr Ex}(hE:Postq N PE E)(n:Nat)(s:Bs)(hs:Dv s=true):Postq N PE (Dw n E s):=by
 intro l x r hl h;unfold Dw at h;split at h
 ·exact Postq.bind (KN hE n) (fun a ha=>Postq.ok (x:=exK 27 a) (MN (by decide) (by decide) (by decide) (YK ha))) l x r hl h
 rename_i h1
 obtain ⟨_,q,g1,h⟩:=bind_ok h;have hq:=(BH _ _ _ hl g1).2;split at h
 ·exact Postq.bind hE (fun a ha=>Postq.bind BH fun _ _=>Postq.ok (x:=exK 8 [a]) (MN (by decide) (by decide) (by decide) ⟨ha.1,trivial⟩)) q x r hq h
 rename_i h2
 have hag:=ARn h1 h2 hs;split at h
 ·obtain ⟨_,q2,g2,h⟩:=bind_ok h;simp only [Res.ok.injEq] at h;obtain ⟨rfl,rfl⟩:=h;exact ⟨AIN hag (fun h=>nomatch h) ASN,(BH _ _ _ hq.tl g2).2⟩
 ·obtain ⟨y,q2,g2,h⟩:=bind_ok h;have c1:=hE _ _ _ hq.if g2;obtain ⟨_,q3,g3,h⟩:=bind_ok h;simp only [Res.ok.injEq] at h;obtain ⟨rfl,rfl⟩:=h;exact ⟨AIN hag (fun _=>c1.1.2.2) c1.1.1,(BH _ _ _ c1.2 g3).2⟩
theorem Xn {N:Nat}{E U:Pr Ex}(hE:Postq N PE E)(hU:Postq N PE U)(n:Nat):Postq N PE (Gq n E U):=by
 intro l x r hl h;unfold Gq at h;split at h
 ·exact Postq.bind hU (fun a ha=>Postq.ok (x:=exK 4 [a]) (MN (by decide) (by decide) (by decide) ⟨ha.1,trivial⟩)) l.tail x r hl.tl h
 split at h
 ·exact Postq.bind hE (fun a ha=>Postq.bind BH fun _ _=>Postq.ok ha) l.tail x r hl.tl h
 split at h
 ·exact ACE hE n _ _ _ hl.tl h
 split at h
 ·have:=QK _ _ _ hl h;exact ⟨this.1.1,this.2⟩
 split at h
 ·rename_i v hv
  simp only [Res.ok.injEq] at h;obtain ⟨rfl,rfl⟩:=h;exact ⟨APH (AIk hv),hl.tl⟩
 obtain ⟨s,q,g1,h⟩:=bind_ok h;have hq:=(Bv _ _ _ hl g1).2;split at h
 ·rename_i hc
  exact Xq hE n s (by simp only [Bool.and_eq_true] at hc;exact hc.2) _ _ _ hq h
 split at h
 ·exact Postq.bind Bv (fun a _=>Postq.ok (AIM s a)) q.tail x r hq.tl h
 ·simp only [Res.ok.injEq] at h;obtain ⟨rfl,rfl⟩:=h;exact ⟨AIM _ _,hq⟩
theorem Xr {b:Bool}{x:Ex}(h:PE x):PE (OJ b x):=by
 cases b
 ·exact h
 ·exact MN (by decide) (by decide) (by decide) ⟨h.1,trivial⟩
theorem ACB {N:Nat}{E S:Pr Ex}(hE:Postq N PE E)(hS:Postq N PE S)(n:Nat):Postq N PE (Jm n E S):=by
 intro l z r hl h;unfold Jm at h;obtain ⟨x,q,g1,h⟩:=bind_ok h;obtain ⟨hx,hq⟩:=hS _ _ _ hl g1;split at h
 ·rename_i hn
  exact Postq.bind hS (fun y hy=>Postq.ok (x:=exK (FD q) [x,y]) (MN (AIp _ hn).1 (AIp _ hn).2.1 (AIp _ hn).2.2 ⟨hx.1,hy.1,trivial⟩)) q.tail z r hq.tl h
 split at h
 ·split at h
  ·exact Postq.bind BH (fun _ _=>Postq.ok (x:=exK 7 [x]) (MN (by decide) (by decide) (by decide) ⟨hx.1,trivial⟩)) _ z r hq.tl.tl h
  ·exact Postq.bind BH (fun _ _=>Postq.ok (x:=exK 6 [x]) (MN (by decide) (by decide) (by decide) ⟨hx.1,trivial⟩)) _ z r hq.tl h
 simp only at h
 generalize hb:isT q [110,111,116]=b at h;have hq2:TOk N (if b then q.tail else q):=hq.if;generalize (if b then q.tail else q)=q2 at h hq2;split at h
 ·exact Postq.bind (KN hE n) (fun a ha=>Postq.ok (x:=OJ b (exK 24 (x::a))) (Xr (MN (by decide) (by decide) (by decide) ⟨hx.1,YK ha⟩))) _ z r hq2.tl h
 split at h
 ·exact Postq.bind hS (fun y hy=>Postq.bind BH fun _ _=>Postq.bind hS fun w hw=>Postq.ok (x:=OJ b (exK 25 [x,y,w])) (Xr (MN (by decide) (by decide) (by decide) ⟨hx.1,hy.1,hw.1,trivial⟩))) _ z r hq2.tl h
 split at h
 ·exact Postq.bind hS (fun y hy=>Postq.ok (x:=OJ b (exK 23 [x,y])) (Xr (MN (by decide) (by decide) (by decide) ⟨hx.1,hy.1,trivial⟩))) _ z r hq2.tl h
 split at h
 ·cases h
 ·simp only [Res.ok.injEq] at h;obtain ⟨rfl,rfl⟩:=h;exact ⟨hx,hq2⟩
theorem AIL {N:Nat}{M Q:Pr Ex}(hM:Postq N PE M)(hQ:Postq N PE Q):Postq N PE (UZ M Q):=
 Postq.ite (c:=fun l=>isT l [110,111,116]=true) (Postq.tl (g:=fun l=>(M l).bind fun x r=>.ok (exK 5 [x]) r) (Postq.bind hM fun a ha=>Postq.ok (MN (by decide) (by decide) (by decide) ⟨ha.1,trivial⟩))) hQ
theorem QM (N:Nat):∀n,Postq N PE (eP n)∧Postq N PE (nP n)∧Postq N PE (uP n)
 |0=>⟨fun l x r _ h=>by simp [eP,Ig] at h,fun l x r _ h=>by simp [nP,Ig] at h,fun l x r _ h=>by simp [uP,Ig] at h⟩
 |n+1=>by
  obtain ⟨hE,hN,hU⟩:=QM N n;have u:=Xn hE hU n;have s:=JC (ASJ ASI) (JC (ASJ APP) u n) n;have nn:=AIL hN (ACB hE s n);exact ⟨JC ATq (JC ASL nn n) n,nn,u⟩
def GE (N:Nat)(x:Ex):Prop:=gdE x∧Ai x≤N
theorem ge0 {N:Nat}(hN:1≤N):GE N ex0:=⟨APU,hN⟩
structure GdQ (N:Nat)(q:TSelect):Prop where
 it:∀x∈q.fItems,GE N x.fExpr
 fr:∀x∈q.fFrom,GE N x.fOn
 wh:GE N q.fWhere
 gr:∀x∈q.fGroup,GE N x
 ha:GE N q.fHaving
 od:∀x∈q.fOrder,GE N x.fExpr
 li: -1≤q.fLimit∧q.fLimit≤2147483647
 off:0≤q.fOffset∧q.fOffset≤2147483647
structure GdS (N:Nat)(s:TStmt):Prop where
 q:GdQ N s.fSelect
 wh:GE N s.fWhere
 rows:∀x∈s.fRows,(∀y∈x,GE N y)∧x.length≤N
 sets:∀x∈s.fSets,GE N x.fExpr
 cols:∀x∈s.fCols,GE N x.fDefault∧(x.fDefault.kind=0∨x.fDefault.kind=1∨x.fDefault.kind=4)
 n1:s.fColumns.length≤N
 n2:s.fKey.length≤N
 n3:s.fIndex.fColumns.length≤N
section
variable {N:Nat}
theorem LP (n:Nat):Postq N (GE N) (eP n):=((QM N n).1.cost (JP n).1).imp fun _ h=>⟨h.1.1,h.2⟩
theorem JD (hN:1≤N)(n:Nat)(s:Bs):Postq N (GE N) (Ea n s):=Postq.ite (c:=fun l=>isT l s=true) (Postq.tl (LP n)) (Postq.ok (ge0 hN))
theorem ACC (hN:1≤N)(n:Nat):Postq N (fun x=>GE N x.fExpr) (II n):=by
 intro l x r hl h;unfold II at h;split at h
 ·simp only [Res.ok.injEq] at h;obtain ⟨rfl,rfl⟩:=h;exact ⟨ge0 hN,hl.tl⟩
 split at h
 ·simp only [Res.ok.injEq] at h;obtain ⟨rfl,rfl⟩:=h;exact ⟨ge0 hN,hl.tl.tl.tl⟩
 ·obtain ⟨y,q,h1,h2⟩:=bind_ok h;obtain ⟨hy,hq⟩:=LP n _ _ _ hl h1;split at h2
  ·obtain ⟨a,q2,h3,h4⟩:=bind_ok h2;simp only [Res.ok.injEq] at h4;obtain ⟨rfl,rfl⟩:=h4;exact ⟨hy,(Bv _ _ _ hq.tl h3).2⟩
  ·simp only [Res.ok.injEq] at h2;obtain ⟨rfl,rfl⟩:=h2;exact ⟨hy,hq⟩
theorem Xp (n:Nat):Postq N (fun x=>GE N x.fExpr) (JF n):=by
 intro l x r hl h;obtain ⟨y,q,h1,h2⟩:=bind_ok h;obtain ⟨hy,hq⟩:=LP n _ _ _ hl h1;split at h2
 ·simp only [Res.ok.injEq] at h2;obtain ⟨rfl,rfl⟩:=h2;exact ⟨hy,hq.tl⟩
 split at h2
 ·simp only [Res.ok.injEq] at h2;obtain ⟨rfl,rfl⟩:=h2;exact ⟨hy,hq.tl⟩
 ·simp only [Res.ok.injEq] at h2;obtain ⟨rfl,rfl⟩:=h2;exact ⟨hy,hq⟩
theorem AIK (n:Nat):Postq N (fun x=>GE N x.fExpr) (VX n):=Postq.bind Bv fun _ _=>Postq.bind BH fun _ _=>Postq.bind (LP n) fun _ h=>Postq.ok h
theorem IB (hN:1≤N):Postq N (fun x=>GE N x.fOn) Cm:=by
 intro l x r hl h;obtain ⟨s,q,h1,h2⟩:=bind_ok h;have hq:=(Bv _ _ _ hl h1).2;split at h2
 ·obtain ⟨a,q2,h3,h4⟩:=bind_ok h2;simp only [Res.ok.injEq] at h4;obtain ⟨rfl,rfl⟩:=h4;exact ⟨ge0 hN,(Bv _ _ _ hq.tl h3).2⟩
 split at h2
 ·obtain ⟨a,q2,h3,h4⟩:=bind_ok h2;simp only [Res.ok.injEq] at h4;obtain ⟨rfl,rfl⟩:=h4;exact ⟨ge0 hN,(Bv _ _ _ hq h3).2⟩
 ·simp only [Res.ok.injEq] at h2;obtain ⟨rfl,rfl⟩:=h2;exact ⟨ge0 hN,hq⟩
theorem NL (hN:1≤N)(n:Nat)(b:Bool):Postq N (fun x=>GE N x.fOn) (IG n b):=Postq.bind BH fun _ _=>Postq.bind (IB hN) fun _ _=>Postq.bind BH fun _ _=>Postq.bind (LP n) fun _ h=>Postq.ok h
theorem QL (hN:1≤N)(n:Nat):∀(m:Nat) (acc:List TSource),(∀x∈acc,GE N x.fOn)→Postq N (fun l=>∀x∈l,GE N x.fOn) (DL n m acc)
 |0,acc,ha=>Postq.ok ha
 |m+1,acc,ha=>by
  have one:∀{g:Pr TSource} (_:Postq N (fun x=>GE N x.fOn) g),Postq N (fun l=>∀x∈l,GE N x.fOn) (fun l=>(g l).bind fun s r=>DL n m (acc++[s]) r):=fun hg=>Postq.bind hg fun x hx=>QL hN n m _ (by
   intro y hy;rcases List.mem_append.1 hy with h|h
   ·exact ha y h
   ·rw [List.mem_singleton.1 h];exact hx)
  intro l x r hl h;simp only [DL] at h;split at h
  ·exact one (IB hN) _ _ _ hl.tl h
  split at h
  ·exact Postq.bind BH (fun _ _=>one (IB hN)) _ _ _ hl.tl h
  split at h
  ·exact one (NL hN n true) _ _ _ hl.tl h
  split at h
  ·exact one (NL hN n false) _ _ _ hl.tl h
  split at h
  ·exact one (NL hN n false) _ _ _ hl h
  ·simp only [Res.ok.injEq] at h;obtain ⟨rfl,rfl⟩:=h;exact ⟨ha,hl⟩
theorem ACD (hN:1≤N)(n:Nat):Postq N (fun l=>∀x∈l,GE N x.fOn) (MW n):=Postq.bind (IB hN) fun x hx=>QL hN n n [x] (by intro y hy;rw [List.mem_singleton.1 hy];exact hx)
theorem post_count:Postq N (fun k=>0≤k∧k≤2147483647) FZ:=by
 intro l x r hl h;unfold FZ at h;split at h
 ·rename_i hc
  simp only [Bool.and_eq_true,decide_eq_true_eq] at hc;simp only [Res.ok.injEq] at h;obtain ⟨rfl,rfl⟩:=h;exact ⟨⟨hl.hd.1,hc.2⟩,hl.tl⟩
 ·cases h
theorem Jn {α:Type}{Q:α→Prop}{p:Pr α}(h:Postq N Q p)(s:Bs)(d:α)(hd:Q d):Postq N Q (RU s d p):=Postq.ite (c:=fun l=>isT l s=true) (Postq.tl h) (Postq.ok hd)
theorem AAo {α:Type}{Q:α→Prop}{p:Pr α}(h:Postq N Q p):Postq N Q (byP p):=Postq.bind BH fun _ _=>h
theorem Xo (hN:1≤N)(n:Nat):Postq N (GdQ N) (JB n):=by
 intro l x r hl h;obtain ⟨a1,q1,h1,h⟩:=bind_ok h;obtain ⟨a2,q2,h2,h⟩:=bind_ok h;obtain ⟨a3,q3,h3,h⟩:=bind_ok h;obtain ⟨a4,q4,h4,h⟩:=bind_ok h;obtain ⟨a5,q5,h5,h⟩:=bind_ok h;obtain ⟨a6,q6,h6,h⟩:=bind_ok h;obtain ⟨a7,q7,h7,h⟩:=bind_ok h;obtain ⟨a8,q8,h8,h⟩:=bind_ok h;simp only [Res.ok.injEq] at h;obtain ⟨rfl,rfl⟩:=h;obtain ⟨c1,t1⟩:=Gl (ACC hN n) n _ _ _ hl.if h1;obtain ⟨c2,t2⟩:=Jn (ACD hN n) _ [] nofun _ _ _ t1 h2;obtain ⟨c3,t3⟩:=JD hN n _ _ _ _ t2 h3;obtain ⟨c4,t4⟩:=Jn (AAo (Gl (LP n) n)) _ [] nofun _ _ _ t3 h4;obtain ⟨c5,t5⟩:=JD hN n _ _ _ _ t4 h5;obtain ⟨c6,t6⟩:=Jn (AAo (Gl (Xp n) n)) _ [] nofun _ _ _ t5 h6;obtain ⟨c7,t7⟩:=Jn (post_count.imp (R:=fun k=> -1≤k∧k≤2147483647) fun _ h=>⟨by omega,h.2⟩) _ (-1) ⟨by decide,by decide⟩ _ _ _ t6 h7;obtain ⟨c8,t8⟩:=Jn post_count _ 0 ⟨by decide,by decide⟩ _ _ _ t7 h8;exact ⟨⟨c1,c2,c3,c4,c5,c6,c7,c8⟩,t8⟩
def XH (N:Nat)(x:TCol):Prop:=GE N x.fDefault∧(x.fDefault.kind=0∨x.fDefault.kind=1∨x.fDefault.kind=4)
theorem BP {α:Type}{P:α→Prop}:∀x∈([]:List α),P x:=nofun
theorem ASB {x:Ex}(h:x.kind≠0):pz x=Ai x:=by unfold pz;rw [if_pos (by simpa using h)]
theorem IX:∀(m:Nat) (c:TCol),XH N c→Postq N (XH N) (GV m c)
 |0,c,hc=>Postq.ok hc
 |m+1,c,hc=>by
  intro l x r hl h;simp only [GV] at h;split at h
  ·exact Postq.bind BH (fun _ _=>IX m {c with fNotNull:=true} hc) _ _ _ hl.tl h
  split at h
  ·exact Postq.bind BH (fun _ _=>IX m {c with fKey:=true} hc) _ _ _ hl.tl h
  split at h
  ·exact IX m {c with fUnique:=true} hc _ _ _ hl.tl h
  split at h
  ·exact Postq.bind (post_given.cost Qw) (fun y hy=>IX m {c with fDefault:=y} ⟨⟨hy.1.1.1,ASB hy.1.1.2.1 ▸ hy.2⟩,.inr hy.1.2⟩) _ _ _ hl.tl h
  ·simp only [Res.ok.injEq] at h;obtain ⟨rfl,rfl⟩:=h;exact ⟨hc,hl⟩
theorem Vr (hN:1≤N)(n:Nat):Postq N (XH N) (Fg n):=by
 intro l x r hl h;obtain ⟨s,q,h1,h2⟩:=bind_ok h;have hq:=(Bv _ _ _ hl h1).2;simp only at h2
 generalize (if isK q 1 then typeOf (hd q).text else 0)=t at h2;split at h2
 ·cases h2
 ·exact IX n ⟨s,t,false,false,false,ex0⟩ ⟨ge0 hN,.inl rfl⟩ _ _ _ hq.tl h2
theorem LM (n:Nat):Postq N (fun l=>l.length≤N) (CE n BG):=((KN Bv n).cost (Vw BK n)).imp fun _ h=>h.2
theorem SI (hN:1≤N)(n:Nat):∀(m:Nat) (cs:List TCol) (ks:List Bs),(∀x∈cs,XH N x)→ks.length≤N→Postq N (fun x=>(∀y∈x.1,XH N y)∧x.2.length≤N) (Fj n m cs ks)
 |0,cs,ks,h1,h2=>Postq.ok ⟨h1,h2⟩
 |m+1,cs,ks,hcs,hks=>by
  intro l x r hl h;simp only [Fj] at h;obtain ⟨a,q,h1,h2⟩:=bind_ok h;have c1:((∀y∈a.1,XH N y)∧a.2.length≤N)∧TOk N q:=by
   split at h1
   ·exact Postq.bind BH (fun _ _=>Postq.bind (LM n) fun k hk=>Postq.ok (Q:=fun x:List TCol×List Bs=>(∀y∈x.1,XH N y)∧x.2.length≤N) ⟨hcs,hk⟩) _ _ _ hl.tl h1
   ·exact Postq.bind (Vr hN n) (fun k hk=>Postq.ok (Q:=fun x:List TCol×List Bs=>(∀y∈x.1,XH N y)∧x.2.length≤N) ⟨by
     intro y hy;rcases List.mem_append.1 hy with h|h
     ·exact hcs y h
     ·rw [List.mem_singleton.1 h];exact hk,hks⟩) _ _ _ hl h1
  split at h2
  ·exact SI hN n m _ _ c1.1.1 c1.1.2 _ _ _ c1.2.tl h2
  ·simp only [Res.ok.injEq] at h2;obtain ⟨rfl,rfl⟩:=h2;exact c1
theorem ASM (hN:1≤N):GdQ N default:=⟨nofun,nofun,ge0 hN,nofun,ge0 hN,nofun,⟨by decide,by decide⟩,⟨by decide,by decide⟩⟩
theorem ACA (hN:1≤N)(n:Nat):Postq N (GdS N) (EG n):=by
 have q0:=ASM hN;have e0:=ge0 hN;have z:([]:List Bs).length≤N:=Nat.zero_le _;intro l x r hl h;unfold EG at h;split at h
 ·exact Postq.bind (Xo hN n) (fun q hq=>Postq.ok (Q:=GdS N) ⟨hq,e0,BP,BP,BP,z,z,z⟩) _ _ _ hl.tl h
 split at h
 ·refine Postq.bind BH (fun _ _=>Postq.bind Bv fun s _=>Postq.bind (Q:=fun c=>c.length≤N) (g:=fun r=>if isT r [40] then CE n BG r else Res.ok [] r) (Postq.ite (c:=fun r=>isT r [40]=true) (LM n) (Postq.ok z)) fun c hc=>Postq.bind BH fun _ _=>Postq.bind (Gl (((KN (LP n) n).cost (Vw (QQ n) n))) n) fun y hy=>Postq.ok (Q:=GdS N) ⟨q0,e0,hy,BP,BP,hc,z,z⟩) _ _ _ hl.tl h
 split at h
 ·exact Postq.bind Bv (fun s _=>Postq.bind BH fun _ _=>Postq.bind (Gl (AIK n) n) fun y hy=>Postq.bind (JD hN n _) fun w hw=>Postq.ok (Q:=GdS N) ⟨q0,hw,BP,hy,BP,z,z,z⟩) _ _ _ hl.tl h
 split at h
 ·exact Postq.bind BH (fun _ _=>Postq.bind Bv fun s _=>Postq.bind (JD hN n _) fun w hw=>Postq.ok (Q:=GdS N) ⟨q0,hw,BP,BP,BP,z,z,z⟩) _ _ _ hl.tl h
 split at h
 ·unfold Gi at h;split at h
  ·obtain ⟨s,q,h1,h⟩:=bind_ok h;obtain ⟨_,q2,h2,h⟩:=bind_ok h;obtain ⟨y,q3,h3,h⟩:=bind_ok h;have t1:=(Bv _ _ _ hl.tl.tl h1).2;have t2:=(BH _ _ _ t1 h2).2;obtain ⟨c3,t3⟩:=SI hN n _ _ _ BP z _ _ _ t2 h3;split at h
   ·cases h
   ·exact Postq.bind BH (fun _ _=>Postq.ok (Q:=GdS N) ⟨q0,e0,BP,BP,c3.1,z,c3.2,z⟩) _ _ _ t3 h
  ·exact Postq.bind BH (fun _ _=>Postq.bind Bv fun a _=>Postq.bind BH fun _ _=>Postq.bind Bv fun t _=>Postq.bind (LM n) fun c hc=>Postq.ok (Q:=GdS N) ⟨q0,e0,BP,BP,BP,z,z,hc⟩) _ _ _ hl.tl.if h
 split at h
 ·unfold Hf at h;split at h
  ·exact Postq.bind Bv (fun _ _=>Postq.ok (Q:=GdS N) ⟨q0,e0,BP,BP,BP,z,z,z⟩) _ _ _ hl.tl.tl h
  ·exact Postq.bind BH (fun _ _=>Postq.bind Bv fun _ _=>Postq.ok (Q:=GdS N) ⟨q0,e0,BP,BP,BP,z,z,z⟩) _ _ _ hl.tl h
 split at h
 ·simp only [Res.ok.injEq] at h;obtain ⟨rfl,rfl⟩:=h;exact ⟨⟨q0,e0,BP,BP,BP,z,z,z⟩,hl.tl⟩
 split at h
 ·simp only [Res.ok.injEq] at h;obtain ⟨rfl,rfl⟩:=h;exact ⟨⟨q0,e0,BP,BP,BP,z,z,z⟩,hl.tl⟩
 ·exact Postq.bind BH (fun _ _=>Postq.ok (Q:=GdS N) ⟨q0,e0,BP,BP,BP,z,z,z⟩) _ _ _ hl h
theorem LK (hN:1≤N)(n:Nat):∀(m:Nat) (acc:List TStmt),(∀x∈acc,GdS N x)→Postq N (fun l=>∀x∈l,GdS N x) (CV n m acc)
 |0,acc,ha=>Postq.ok ha
 |m+1,acc,ha=>by
  intro l x r hl h;simp only [CV] at h;split at h
  ·simp only [Res.ok.injEq] at h;obtain ⟨rfl,rfl⟩:=h;exact ⟨ha,hl⟩
  split at h
  ·exact LK hN n m _ ha _ _ _ hl.tl h
  ·obtain ⟨s,q,h1,h2⟩:=bind_ok h;obtain ⟨hs,hq⟩:=ACA hN n _ _ _ hl h1;split at h2
   ·exact LK hN n m _ (by
     intro y hy;rcases List.mem_append.1 hy with h|h
     ·exact ha y h
     ·rw [List.mem_singleton.1 h];exact hs) _ _ _ hq h2
   ·cases h2
end
theorem AAu:∀(s:Bs) (n k:Int),(∀d∈s,Bh d=true)→0≤n→n≤9223372036854775807→MP s n=some k→0≤k∧k≤9223372036854775807
 |[],n,k,_,h0,h1,h=>by simp only [MP,Option.some.injEq] at h;subst h;exact ⟨h0,h1⟩
 |d::r,n,k,hd,h0,h1,h=>by
  simp only [MP] at h;have hdd:=hd d (List.mem_cons_self ..);simp only [Bh,Bool.and_eq_true,decide_eq_true_eq,UInt8.le_iff_toNat_le] at hdd;have e1:(48:UInt8).toNat=48:=rfl;have e2:(57:UInt8).toNat=57:=rfl;split at h
  ·cases h
  ·exact AAu r _ k (fun x hx=>hd x (List.mem_cons_of_mem _ hx)) (by omega) (by omega) h
theorem AMT {n:Nat}{s r:Bs}{t:Tok}(h:IR n s= .tok t r):OC t:=by
 have z:∀{k a x},OC ⟨k,a,x,0⟩:=⟨by simp,by simp⟩;cases s with
 |nil=>simp [IR] at h
 |cons c s=>
  simp only [IR] at h;split at h
  ·unfold Nh at h;split at h
   ·cases h
   ·simp only [LexR.tok.injEq] at h;obtain ⟨rfl,_⟩:=h;exact z
  split at h
  ·split at h
   ·cases h
   ·rename_i k hk
    split at h
    ·cases h
    ·simp only [LexR.tok.injEq] at h;obtain ⟨rfl,_⟩:=h;exact AAu _ 0 k (fun d hd=>List.all_eq_true.1 (List.all_takeWhile (p:=Bh)) d hd) (by decide) (by decide) hk
  split at h
  ·split at h
   ·cases h
   ·split at h
    ·split at h
     ·cases h
     ·simp only [LexR.tok.injEq] at h;obtain ⟨rfl,_⟩:=h;exact z
    ·simp only [LexR.tok.injEq] at h;obtain ⟨rfl,_⟩:=h;exact z
  split at h
  ·cases h
  ·simp only [LexR.tok.injEq] at h;obtain ⟨rfl,_⟩:=h;exact z
theorem VJ (n:Nat):∀(f:Nat) (acc:List Tok) (s:Bs) (l:List Tok),(∀t∈acc,OC t)→Hz n f acc s= .toks l→∀t∈l,OC t
 |0,acc,s,l,ha,h=>by simp only [Hz,LexA.toks.injEq] at h;subst h;exact ha
 |f+1,acc,s,l,ha,h=>by
  simp only [Hz] at h;have app:∀{t:Tok},OC t→∀x∈acc++[t],OC x:=by
   intro t ht x hx;rcases List.mem_append.1 hx with h|h
   ·exact ha x h
   ·rw [List.mem_singleton.1 h];exact ht
  split at h
  ·simp only [LexA.toks.injEq] at h;subst h;exact app ⟨by simp,by simp⟩
  ·split at h
   ·cases h
   ·rename_i t r' ht
    exact VJ n f _ _ _ (app (AMT ht)) h
theorem SE (s:Bs):∀x∈(readA s).1,GdS (s.length+1) x:=by
 unfold readA;split
 ·intro x hx;cases hx
 ·rename_i l hl
  have hc:=Ir _ _ _ _ _ hl;have hn:=VJ _ _ _ _ _ BP hl;split
  ·rename_i x r hx
   exact (LK (N:=s.length+1) (by omega) _ _ _ BP _ _ _ ⟨by simpa using hc,hn⟩ hx).1
  ·intro x hx;cases hx
mutual
theorem AIX:∀{x:Ex},gdE x→Ai x≤1000000000000→okE x
 | .mk k v t n s ty d l,h,hp=>by
  simp only [Ai] at hp;have:=NU l;exact ⟨⟨by have:=h.1.1;omega,h.1.2⟩,by omega,AIW h.2.2 (by omega)⟩
theorem AIW:∀{l:List Ex},gdL l→Ag l≤1000000000000→okL l
 |[],_,_=>trivial
 |x::l,h,hp=>by
  simp only [Ag] at hp;exact ⟨AIX h.1 (by omega),AIW h.2 (by omega)⟩
theorem NU:∀l:List Ex,l.length≤Ag l
 |[]=>Nat.zero_le _
 | .mk .. ::l=>by have:=NU l;simp only [Ag,Ai,List.length_cons];omega
end
theorem AIV {s:TStmt}{N:Nat}(hN:N≤1000000000000)(h:GdS N s)(hc:cS s≤1000000000):OkS s:=by
 have e:∀{x:Ex},GE N x→okE x:=fun h=>AIX h.1 (by have:=h.2;omega);have hq:cQ s.fSelect≤1000000000:=by unfold cS at hc;omega
 exact ⟨⟨fun x hx=>e (h.q.it x hx),fun x hx=>e (h.q.fr x hx),e h.q.wh,MO fun x hx=>e (h.q.gr x hx),e h.q.ha,fun x hx=>e (h.q.od x hx),⟨by have:=h.q.li;omega,by have:=h.q.li;omega⟩,⟨by have:=h.q.off;omega,by have:=h.q.off;omega⟩,hq⟩,e h.wh,fun x hx=>⟨MO fun y hy=>e ((h.rows x hx).1 y hy),by have:=(h.rows x hx).2;omega⟩,fun x hx=>e (h.sets x hx),fun x hx=>e (h.cols x hx).1,hc,by have:=h.n1;omega,by have:=h.n2;omega,by have:=h.n3;omega⟩
theorem AMN {s:Bs}(hs:s.length≤900000000):∀x∈(readA s).1,OkS x:=fun x hx=>AIV (N:=s.length+1) (by omega) (SE s x hx) (by have:=WY s x hx;omega)
section
variable {ω:Om}{I:Imm}{L:LH}{K:Value→M}
theorem XQ (a c:Int)(t:Bool)(s:ByteArray):Hu .neq [(TypeDesc.int .i64,0),(TypeDesc.bool,1),(TypeDesc.int .i64,2),(TypeDesc.string,3)] (.agg #[.int .i64 a,.bool t,.int .i64 c,.string s]) (.agg #[.int .i64 a,.bool t,.int .i64 c,.string s])=some (.bool false):=by
 simp [Hu,Kv,eqD]
theorem Ji {l:List Ex}{u v:Value}(hE:∀x∈l,∀(I:Imm) (L:LH) (c d:List Value) (K:Value→M),ExV I x c→ExV I x d→K (.bool true) I L→CT ω 49 #[.agg c.toArray,.agg d.toArray] K I L)(hx:ExL I u l)(hy:ExL I v l)(hl:l.length≤1000000000000)(hk:K (.bool true) I L):CT ω 50 #[u,v] K I L:=by
 refine ASv ?_;unfold AOa;simp only [RL.len hx,RL.len hy,bne_self_eq_false,SSd,Nat.reduceAdd];refine loop (fun q st I' L'=>∃k:Nat,k+q=l.length∧st=(Value.bool false,Value.int .i64 (k:Nat),())∧I'=I∧L'=L) l.length ⟨0,by omega,rfl,rfl,rfl⟩ ?_;rintro q st I' L' ⟨k,hq,rfl,rfl,rfl⟩;unfold ADj;simp only [RL.len hx,SSd,Nat.reduceAdd];refine AB (fun hb=>?_) (fun hb=>Gh.done hk);have hb:k < l.length:=by
  have:=of_decide_eq_true hb;omega
 obtain ⟨bt,off,c1,g1,gl,g2,g3⟩:=RL.ix hx (i:=k) (by omega) (by omega);obtain ⟨bu,off2,c2,k1,kl,k2,k3⟩:=RL.ix hy (i:=k) (by omega) (by omega);rw [Ar hb] at g2 k2;refine draw (Stay I' L') (Stay.start I' L') ?_;simp only [g1,k1,SSd,Nat.reduceAdd];refine NK gl (g3 I' L' (Ext.refl _) (fun _ h=>nomatch h)) ?_;refine NK kl (k3 I' L' (Ext.refl _) (fun _ h=>nomatch h)) ?_;refine call (hE _ (List.getElem_mem hb) _ _ _ _ _ g2 k2 ?_);simp only [Bool.not_true,wrap_i64 ((k:Int)+1) (by omega),SSd,Nat.reduceAdd];exact Gh.done ⟨q - 1,by omega,k+1,by omega,rfl,rfl,rfl⟩
theorem Cb:∀(n:Nat) (x:Ex),DF x≤n→Ai x≤1000000000000→∀(I:Imm) (L:LH) (c d:List Value) (K:Value→M),ExV I x c→ExV I x d→K (.bool true) I L→CT ω 49 #[.agg c.toArray,.agg d.toArray] K I L
 |0,x,h,_,_,_,_,_,_,_,_,_=>by have:=FY x;omega
 |n+1,x,hd,hp,I,L,c,d,K,hx,hy,hk=>by
  obtain ⟨v,rfl,ha⟩:=ExV.iff.1 hx;obtain ⟨u,rfl,hb⟩:=ExV.iff.1 hy;have hdd:=Dl x;have hpp:Ag x.args < Ai x:=by cases x;simp [Ai,Ex.args]
  have hll:=NU x.args;have hE:∀z∈x.args,∀(I:Imm) (L:LH) (c d:List Value) (K:Value→M),ExV I z c→ExV I z d→K (.bool true) I L→CT ω 49 #[.agg c.toArray,.agg d.toArray] K I L:=by
   intro z hz I L c d K hc hd' hk;have:=Es hz;have hq:=NQ hz;exact Cb n z (by omega) (by omega) I L c d K hc hd' hk
  refine ASw ?_;unfold AOb;refine AV (fun b1=>AV (fun b2=>?_));repeat' (first|(with_reducible first|refine Ah ?_|refine Ac ?_|refine Aa ?_|refine keepA ?_|refine AV (fun _=>?_))|((with_reducible refine call ?_);with_reducible refine Ji (ω:=ω) hE ha hb (by omega) ?_)|(with_reducible refine rdb ?_)|((with_reducible first|refine st1 ?_ ?_|refine rdB ?_ ?_);rfl)|(with_reducible refine Aj ?_)|((with_reducible refine BB ?_ ?_);rfl)|((with_reducible refine stB ?_ ?_ ?_ ?_);rfl;rfl;exact AO rfl)|((with_reducible first|refine rdP _ rfl ?_ ?_|refine BC _ rfl ?_ ?_);rfl)|((with_reducible refine stP _ rfl ?_ ?_ ?_ ?_);rfl;rfl;rfl)|(with_reducible refine And.intro ?_ ?_)|(simp only [SSg,Int.reduceBEq,Int.reduceBNe,Int.reduceLT,Int.reduceLE,beq_self_eq_true,bne_self_eq_false])|(with_reducible first|refine AP (fun _=>?_) (fun _=>?_)|refine AB (fun _=>?_) (fun _=>?_))|(simp only [SSd,Nat.reduceAdd,XQ,bne_self_eq_false,RL.len ha,RL.len hb]))
  exact Gh.to L (Gh.done hk)
end
section
variable {ω:Om}{I:Imm}{L:LH}{K:Value→M}
theorem AIB {q:TSelect}{v u:Value}{b1 b2:Nat}{l1 l2:List Value}{T1 T2:Nat}{f1 f2:Nat×Nat}[InL b1 L (.cells l1.toArray T1 f1)][InL b2 L (.cells l2.toArray T2 f2)][GetL l1 26 v][GetL l2 26 u](hq:∀x∈q.fOrder,Ai x.fExpr≤1000000000000)(hl:q.fOrder.length≤1000000000)(hx:RL TOrderV 12 I [] v q.fOrder)(hy:RL TOrderV 12 I [] u q.fOrder)(hk:Gh (K (.bool true)) I L):Ti ω (.pointer (some ⟨b1,0,none⟩)) (.pointer (some ⟨b2,0,none⟩)) (.bool false) (fun v=>Gh (K v)) I L:=by
 unfold Ti;refine loop (fun q' st I' L'=>∃k:Nat,k+q'=q.fOrder.length∧st=(Value.bool false,Value.int .i64 (k:Nat),())∧I'=I∧L'=L) q.fOrder.length ⟨0,by omega,rfl,rfl,rfl⟩ ?_;rintro q' st I' L' ⟨k,hkq,rfl,rfl,rfl⟩;unfold Yn;try simp only [SSd,Nat.reduceAdd]
 refine rdb ?_;simp only [RL.len hx,SSd,Nat.reduceAdd];refine AB (fun hb=>?_) (fun hb=>hk);have hb:k < q.fOrder.length:=by
  have:=of_decide_eq_true hb;omega
 obtain ⟨bt,off,c1,e1,gl,g2,g3⟩:=RL.ix hx (i:=k) (by omega) (by omega);obtain ⟨bu,off2,c2,k1,kl,k2,k3⟩:=RL.ix hy (i:=k) (by omega) (by omega);rw [Ar hb] at g2 k2;obtain ⟨w,rfl,hw⟩:=g2;obtain ⟨z,rfl,hz⟩:=k2;have hp:=hq _ (List.getElem_mem hb);generalize q.fOrder[k]=x at *;have hA:=g3 I' L' (Ext.refl _) nofun;have hB:=k3 I' L' (Ext.refl _) nofun;clear g3 k3 gl kl;have en1:(Az x.fExpr w).length=11:=rfl;have en2:(Az x.fExpr z).length=11:=rfl;have xA:Cells I' L' bt (off) (Az x.fExpr w):=Cells.sub (k:=0) (m:=11) hA;have yA11:Cell I' L' bt (off+11) (.bool x.fDesc):=hA 11 _ rfl;have xB:Cells I' L' bu (off2) (Az x.fExpr z):=Cells.sub (k:=0) (m:=11) hB;have yB11:Cell I' L' bu (off2+11) (.bool x.fDesc):=hB 11 _ rfl;repeat' (first|(with_reducible first|refine Ah ?_|refine Ac ?_|refine Aa ?_|refine keepA ?_|refine AV (fun _=>?_)|refine NK en1 xA ?_|refine NK en2 xB ?_|refine IP yA11 ?_|refine IP yB11 ?_)|((with_reducible refine call ?_);with_reducible refine Cb (ω:=ω) _ x.fExpr (Nat.le_refl _) hp _ _ _ _ _ (ExV.iff.2 ⟨w,rfl,hw⟩) (ExV.iff.2 ⟨z,rfl,hz⟩) ?_)|(with_reducible refine rdb ?_)|((with_reducible first|refine st1 ?_ ?_|refine rdB ?_ ?_);rfl)|(with_reducible refine Aj ?_)|((with_reducible refine BB ?_ ?_);rfl)|((with_reducible refine stB ?_ ?_ ?_ ?_);rfl;rfl;exact AO rfl)|((with_reducible first|refine rdP _ rfl ?_ ?_|refine BC _ rfl ?_ ?_);rfl)|((with_reducible refine stP _ rfl ?_ ?_ ?_ ?_);rfl;rfl;rfl)|(with_reducible refine And.intro ?_ ?_)|(simp only [SSg,Int.reduceBEq,Int.reduceBNe,Int.reduceLT,Int.reduceLE,beq_self_eq_true,bne_self_eq_false])|(with_reducible first|refine AP (fun _=>?_) (fun _=>?_)|refine AB (fun _=>?_) (fun _=>?_))|(simp only [SSd,Nat.reduceAdd,e1,k1,bne_self_eq_false]))
 simp only [wrap_i64 ((k:Int)+1) (by omega)];exact Gh.done ⟨q' - 1,by omega,k+1,by omega,rfl,rfl,rfl⟩
theorem ABw {q:TSelect}{v u:Value}{b1 b2:Nat}{l1 l2:List Value}{T1 T2:Nat}{f1 f2:Nat×Nat}[InL b1 L (.cells l1.toArray T1 f1)][InL b2 L (.cells l2.toArray T2 f2)][GetL l1 2 v][GetL l2 2 u](hq:∀x∈q.fFrom,Ai x.fOn≤1000000000000)(hl:q.fFrom.length≤1000000000)(hx:RL TSourceV 14 I [] v q.fFrom)(hy:RL TSourceV 14 I [] u q.fFrom)(hk:Ti ω (.pointer (some ⟨b1,0,none⟩)) (.pointer (some ⟨b2,0,none⟩)) (.bool false) (fun v=>Gh (K v)) I L):Tj ω (.pointer (some ⟨b1,0,none⟩)) (.pointer (some ⟨b2,0,none⟩)) (.bool false) (fun v=>Gh (K v)) I L:=by
 unfold Tj;refine loop (fun q' st I' L'=>∃k:Nat,k+q'=q.fFrom.length∧st=(Value.bool false,Value.int .i64 (k:Nat),())∧I'=I∧L'=L) q.fFrom.length ⟨0,by omega,rfl,rfl,rfl⟩ ?_;rintro q' st I' L' ⟨k,hkq,rfl,rfl,rfl⟩;unfold ADk;try simp only [SSd,Nat.reduceAdd]
 refine rdb ?_;simp only [RL.len hx,SSd,Nat.reduceAdd];refine AB (fun hb=>?_) (fun hb=>hk);have hb:k < q.fFrom.length:=by
  have:=of_decide_eq_true hb;omega
 obtain ⟨bt,off,c1,e1,gl,g2,g3⟩:=RL.ix hx (i:=k) (by omega) (by omega);obtain ⟨bu,off2,c2,k1,kl,k2,k3⟩:=RL.ix hy (i:=k) (by omega) (by omega);rw [Ar hb] at g2 k2;obtain ⟨w,rfl,hw⟩:=g2;obtain ⟨z,rfl,hz⟩:=k2;have hp:=hq _ (List.getElem_mem hb);generalize q.fFrom[k]=x at *;have hA:=g3 I' L' (Ext.refl _) nofun;have hB:=k3 I' L' (Ext.refl _) nofun;clear g3 k3 gl kl;have en1:(Az x.fOn w).length=11:=rfl;have en2:(Az x.fOn z).length=11:=rfl;have xA:Cells I' L' bt (off+3) (Az x.fOn w):=Cells.sub (k:=3) (m:=11) hA;have yA0:Cell I' L' bt (off) (.string ⟨x.fTable.toArray⟩):=hA 0 _ rfl;have yA1:Cell I' L' bt (off+1) (.string ⟨x.fAs.toArray⟩):=hA 1 _ rfl;have yA2:Cell I' L' bt (off+2) (.bool x.fLeft):=hA 2 _ rfl;have xB:Cells I' L' bu (off2+3) (Az x.fOn z):=Cells.sub (k:=3) (m:=11) hB;have yB0:Cell I' L' bu (off2) (.string ⟨x.fTable.toArray⟩):=hB 0 _ rfl;have yB1:Cell I' L' bu (off2+1) (.string ⟨x.fAs.toArray⟩):=hB 1 _ rfl;have yB2:Cell I' L' bu (off2+2) (.bool x.fLeft):=hB 2 _ rfl;repeat' (first|(with_reducible first|refine Ah ?_|refine Ac ?_|refine Aa ?_|refine keepA ?_|refine AV (fun _=>?_)|refine NK en1 xA ?_|refine NK en2 xB ?_|refine IP yA0 ?_|refine IP yB0 ?_|refine IP yA1 ?_|refine IP yB1 ?_|refine IP yA2 ?_|refine IP yB2 ?_)|((with_reducible refine call ?_);with_reducible refine Cb (ω:=ω) _ x.fOn (Nat.le_refl _) hp _ _ _ _ _ (ExV.iff.2 ⟨w,rfl,hw⟩) (ExV.iff.2 ⟨z,rfl,hz⟩) ?_)|(with_reducible refine rdb ?_)|((with_reducible first|refine st1 ?_ ?_|refine rdB ?_ ?_);rfl)|(with_reducible refine Aj ?_)|((with_reducible refine BB ?_ ?_);rfl)|((with_reducible refine stB ?_ ?_ ?_ ?_);rfl;rfl;exact AO rfl)|((with_reducible first|refine rdP _ rfl ?_ ?_|refine BC _ rfl ?_ ?_);rfl)|((with_reducible refine stP _ rfl ?_ ?_ ?_ ?_);rfl;rfl;rfl)|(with_reducible refine And.intro ?_ ?_)|(simp only [SSg,Int.reduceBEq,Int.reduceBNe,Int.reduceLT,Int.reduceLE,beq_self_eq_true,bne_self_eq_false])|(with_reducible first|refine AP (fun _=>?_) (fun _=>?_)|refine AB (fun _=>?_) (fun _=>?_))|(simp only [SSd,Nat.reduceAdd,e1,k1,bne_self_eq_false]))
 simp only [wrap_i64 ((k:Int)+1) (by omega)];exact Gh.done ⟨q' - 1,by omega,k+1,by omega,rfl,rfl,rfl⟩
theorem Xe {q:TSelect}{v u:Value}{b1 b2:Nat}{l1 l2:List Value}{T1 T2:Nat}{f1 f2:Nat×Nat}[InL b1 L (.cells l1.toArray T1 f1)][InL b2 L (.cells l2.toArray T2 f2)][GetL l1 1 v][GetL l2 1 u](hq:∀x∈q.fItems,Ai x.fExpr≤1000000000000)(hl:q.fItems.length≤1000000000)(hx:RL TItemV 14 I [] v q.fItems)(hy:RL TItemV 14 I [] u q.fItems)(hk:Tj ω (.pointer (some ⟨b1,0,none⟩)) (.pointer (some ⟨b2,0,none⟩)) (.bool false) (fun v=>Gh (K v)) I L):BD ((.bool false,.int .i64 0,()):Value×Value×Unit) (fun s Kn=>Xa ω (.pointer (some ⟨b1,0,none⟩)) (.pointer (some ⟨b2,0,none⟩)) s.1 s.2.1 Kn (fun v=>Gh (K v))) I L:=by
 refine loop (fun q' st I' L'=>∃k:Nat,k+q'=q.fItems.length∧st=(Value.bool false,Value.int .i64 (k:Nat),())∧I'=I∧L'=L) q.fItems.length ⟨0,by omega,rfl,rfl,rfl⟩ ?_;rintro q' st I' L' ⟨k,hkq,rfl,rfl,rfl⟩;unfold Xa;try simp only [SSd,Nat.reduceAdd]
 refine rdb ?_;simp only [RL.len hx,SSd,Nat.reduceAdd];refine AB (fun hb=>?_) (fun hb=>hk);have hb:k < q.fItems.length:=by
  have:=of_decide_eq_true hb;omega
 obtain ⟨bt,off,c1,e1,gl,g2,g3⟩:=RL.ix hx (i:=k) (by omega) (by omega);obtain ⟨bu,off2,c2,k1,kl,k2,k3⟩:=RL.ix hy (i:=k) (by omega) (by omega);rw [Ar hb] at g2 k2;obtain ⟨w,rfl,hw⟩:=g2;obtain ⟨z,rfl,hz⟩:=k2;have hp:=hq _ (List.getElem_mem hb);generalize q.fItems[k]=x at *;have hA:=g3 I' L' (Ext.refl _) nofun;have hB:=k3 I' L' (Ext.refl _) nofun;clear g3 k3 gl kl;have en1:(Az x.fExpr w).length=11:=rfl;have en2:(Az x.fExpr z).length=11:=rfl;have xA:Cells I' L' bt (off+2) (Az x.fExpr w):=Cells.sub (k:=2) (m:=11) hA;have yA0:Cell I' L' bt (off) (.bool x.fStar):=hA 0 _ rfl;have yA1:Cell I' L' bt (off+1) (.string ⟨x.fTable.toArray⟩):=hA 1 _ rfl;have yA13:Cell I' L' bt (off+13) (.string ⟨x.fAs.toArray⟩):=hA 13 _ rfl;have xB:Cells I' L' bu (off2+2) (Az x.fExpr z):=Cells.sub (k:=2) (m:=11) hB;have yB0:Cell I' L' bu (off2) (.bool x.fStar):=hB 0 _ rfl;have yB1:Cell I' L' bu (off2+1) (.string ⟨x.fTable.toArray⟩):=hB 1 _ rfl;have yB13:Cell I' L' bu (off2+13) (.string ⟨x.fAs.toArray⟩):=hB 13 _ rfl;repeat' (first|(with_reducible first|refine Ah ?_|refine Ac ?_|refine Aa ?_|refine keepA ?_|refine AV (fun _=>?_)|refine NK en1 xA ?_|refine NK en2 xB ?_|refine IP yA0 ?_|refine IP yB0 ?_|refine IP yA1 ?_|refine IP yB1 ?_|refine IP yA13 ?_|refine IP yB13 ?_)|((with_reducible refine call ?_);with_reducible refine Cb (ω:=ω) _ x.fExpr (Nat.le_refl _) hp _ _ _ _ _ (ExV.iff.2 ⟨w,rfl,hw⟩) (ExV.iff.2 ⟨z,rfl,hz⟩) ?_)|(with_reducible refine rdb ?_)|((with_reducible first|refine st1 ?_ ?_|refine rdB ?_ ?_);rfl)|(with_reducible refine Aj ?_)|((with_reducible refine BB ?_ ?_);rfl)|((with_reducible refine stB ?_ ?_ ?_ ?_);rfl;rfl;exact AO rfl)|((with_reducible first|refine rdP _ rfl ?_ ?_|refine BC _ rfl ?_ ?_);rfl)|((with_reducible refine stP _ rfl ?_ ?_ ?_ ?_);rfl;rfl;rfl)|(with_reducible refine And.intro ?_ ?_)|(simp only [SSg,Int.reduceBEq,Int.reduceBNe,Int.reduceLT,Int.reduceLE,beq_self_eq_true,bne_self_eq_false])|(with_reducible first|refine AP (fun _=>?_) (fun _=>?_)|refine AB (fun _=>?_) (fun _=>?_))|(simp only [SSd,Nat.reduceAdd,e1,k1,bne_self_eq_false]))
 simp only [wrap_i64 ((k:Int)+1) (by omega)];exact Gh.done ⟨q' - 1,by omega,k+1,by omega,rfl,rfl,rfl⟩
theorem ABv {q:TSelect}{N:Nat}(hN:N≤1000000000)(hq:GdQ N q)(hc:cQ q≤1000000000){c d:List Value}(hx:Bd I q c)(hy:Bd I q d)(hk:K (.bool true) I L):CT ω 48 #[.agg c.toArray,.agg d.toArray] K I L:=by
 obtain ⟨v0,v1,v2,v3,v4,v5,rfl,h0,h1,h2,h3,h4,h5⟩:=hx;obtain ⟨u0,u1,u2,u3,u4,u5,rfl,g0,g1,g2,g3,g4,g5⟩:=hy;have p:∀{x:Ex},GE N x→Ai x≤1000000000000:=fun h=>by have:=h.2;omega
 have hgr:∀x∈q.fGroup,∀(I:Imm) (L:LH) (c d:List Value) (K:Value→M),ExV I x c→ExV I x d→K (.bool true) I L→CT ω 49 #[.agg c.toArray,.agg d.toArray] K I L:=fun x hx=>Cb _ _ (Nat.le_refl _) (p (hq.gr x hx));have hw1:=p hq.wh;have hw2:=p hq.ha;unfold cQ at hc;refine ASx ?_;unfold AOc;refine AV (fun b1=>AV (fun b2=>?_));repeat' (first|(with_reducible first|refine Ah ?_|refine Ac ?_|refine Aa ?_|refine keepA ?_|refine AV (fun _=>?_))|((with_reducible refine call ?_);with_reducible refine Cb (ω:=ω) _ q.fWhere (Nat.le_refl _) hw1 _ _ _ _ _ (ExV.iff.2 ⟨v2,rfl,h2⟩) (ExV.iff.2 ⟨u2,rfl,g2⟩) ?_)|((with_reducible refine call ?_);with_reducible refine Cb (ω:=ω) _ q.fHaving (Nat.le_refl _) hw2 _ _ _ _ _ (ExV.iff.2 ⟨v4,rfl,h4⟩) (ExV.iff.2 ⟨u4,rfl,g4⟩) ?_)|((with_reducible refine call ?_);with_reducible refine Ji (ω:=ω) hgr h3 g3 (by omega) ?_)|(with_reducible refine rdb ?_)|((with_reducible first|refine st1 ?_ ?_|refine rdB ?_ ?_);rfl)|(with_reducible refine Aj ?_)|((with_reducible refine BB ?_ ?_);rfl)|((with_reducible refine stB ?_ ?_ ?_ ?_);rfl;rfl;exact AO rfl)|((with_reducible first|refine rdP _ rfl ?_ ?_|refine BC _ rfl ?_ ?_);rfl)|((with_reducible refine stP _ rfl ?_ ?_ ?_ ?_);rfl;rfl;rfl)|(with_reducible refine And.intro ?_ ?_)|(simp only [SSg,Int.reduceBEq,Int.reduceBNe,Int.reduceLT,Int.reduceLE,beq_self_eq_true,bne_self_eq_false])|(with_reducible first|refine AP (fun _=>?_) (fun _=>?_)|refine AB (fun _=>?_) (fun _=>?_))|(simp only [SSd,Nat.reduceAdd,bne_self_eq_false,RL.len h0,RL.len g0,RL.len h1,RL.len g1,RL.len h5,RL.len g5]))
 refine Xe (fun x hx=>p (hq.it x hx)) (by omega) h0 g0 ?_;refine ABw (fun x hx=>p (hq.fr x hx)) (by omega) h1 g1 ?_;refine AIB (fun x hx=>p (hq.od x hx)) (by omega) h5 g5 ?_;exact Gh.to L (Gh.done hk)
end
section
variable {ω:Om}{I:Imm}{L:LH}{K:Value→M}
theorem Xi {q:TStmt}{v u:Value}{b1 b2:Nat}{l1 l2:List Value}{T1 T2:Nat}{f1 f2:Nat×Nat}[InL b1 L (.cells l1.toArray T1 f1)][InL b2 L (.cells l2.toArray T2 f2)][GetL l1 45 v][GetL l2 45 u](hq:∀x∈q.fCols,Ai x.fDefault≤1000000000000)(hl:q.fCols.length≤1000000000)(hx:RL TColV 16 I [] v q.fCols)(hy:RL TColV 16 I [] u q.fCols)(hk:Gh (K (.bool true)) I L):OQ ω (.pointer (some ⟨b1,0,none⟩)) (.pointer (some ⟨b2,0,none⟩)) (.bool false) (fun v=>Gh (K v)) I L:=by
 unfold OQ;refine loop (fun q' st I' L'=>∃k:Nat,k+q'=q.fCols.length∧st=(Value.bool false,Value.int .i64 (k:Nat),())∧I'=I∧L'=L) q.fCols.length ⟨0,by omega,rfl,rfl,rfl⟩ ?_;rintro q' st I' L' ⟨k,hkq,rfl,rfl,rfl⟩;unfold Yr;try simp only [SSd,Nat.reduceAdd]
 refine rdb ?_;simp only [RL.len hx,SSd,Nat.reduceAdd];refine AB (fun hb=>?_) (fun hb=>hk);have hb:k < q.fCols.length:=by
  have:=of_decide_eq_true hb;omega
 obtain ⟨bt,off,c1,e1,gl,g2,g3⟩:=RL.ix hx (i:=k) (by omega) (by omega);obtain ⟨bu,off2,c2,k1,kl,k2,k3⟩:=RL.ix hy (i:=k) (by omega) (by omega);rw [Ar hb] at g2 k2;obtain ⟨w,rfl,hw⟩:=g2;obtain ⟨z,rfl,hz⟩:=k2;have hp:=hq _ (List.getElem_mem hb);generalize q.fCols[k]=x at *;obtain ⟨wa,wk,rfl⟩:=RL.form hw;obtain ⟨za,zk,rfl⟩:=RL.form hz;try simp only [SSd,Nat.reduceAdd]
 refine rdb ?_;simp only [e1,SSd,Nat.reduceAdd];refine rdN gl (g3 I' L' (Ext.refl _) nofun) ?_;refine AV (fun bx=>?_);refine stB rfl rfl (AO rfl) ?_;try simp only [SSd,Nat.reduceAdd]
 refine rdb ?_;simp only [k1,SSd,Nat.reduceAdd];refine rdN kl (k3 I' _ (Ext.refl _) nofun) ?_;refine AV (fun by'=>?_);refine stB rfl rfl (AO rfl) ?_;clear g3 k3 gl kl;repeat' (first|(with_reducible first|refine Ah ?_|refine Ac ?_|refine Aa ?_|refine keepA ?_|refine AV (fun _=>?_))|((with_reducible refine call ?_);with_reducible refine Cb (ω:=ω) _ x.fDefault (Nat.le_refl _) hp _ _ _ _ _ (ExV.iff.2 ⟨.slice wa x.fDefault.args.length wk,rfl,hw⟩) (ExV.iff.2 ⟨.slice za x.fDefault.args.length zk,rfl,hz⟩) ?_)|(with_reducible refine rdb ?_)|((with_reducible first|refine st1 ?_ ?_|refine rdB ?_ ?_);rfl)|(with_reducible refine Aj ?_)|((with_reducible refine BB ?_ ?_);rfl)|((with_reducible refine stB ?_ ?_ ?_ ?_);rfl;rfl;exact AO rfl)|((with_reducible first|refine rdP _ rfl ?_ ?_|refine BC _ rfl ?_ ?_);rfl)|((with_reducible refine stP _ rfl ?_ ?_ ?_ ?_);rfl;rfl;rfl)|(with_reducible refine And.intro ?_ ?_)|(simp only [SSg,Int.reduceBEq,Int.reduceBNe,Int.reduceLT,Int.reduceLE,beq_self_eq_true,bne_self_eq_false])|(with_reducible first|refine AP (fun _=>?_) (fun _=>?_)|refine AB (fun _=>?_) (fun _=>?_))|(simp only [SSd,Nat.reduceAdd,bne_self_eq_false]))
 simp only [wrap_i64 ((k:Int)+1) (by omega)];exact Gh.to L' (Gh.done ⟨q' - 1,by omega,k+1,by omega,rfl,rfl,rfl⟩)
theorem Xg {q:TStmt}{v u:Value}{b1 b2:Nat}{l1 l2:List Value}{T1 T2:Nat}{f1 f2:Nat×Nat}[InL b1 L (.cells l1.toArray T1 f1)][InL b2 L (.cells l2.toArray T2 f2)][GetL l1 33 v][GetL l2 33 u](hq:∀x∈q.fSets,Ai x.fExpr≤1000000000000)(hl:q.fSets.length≤1000000000)(hx:RL TSetV 12 I [] v q.fSets)(hy:RL TSetV 12 I [] u q.fSets)(hk:OQ ω (.pointer (some ⟨b1,0,none⟩)) (.pointer (some ⟨b2,0,none⟩)) (.bool false) (fun v=>Gh (K v)) I L):Tq ω (.pointer (some ⟨b1,0,none⟩)) (.pointer (some ⟨b2,0,none⟩)) (.bool false) (fun v=>Gh (K v)) I L:=by
 unfold Tq;refine loop (fun q' st I' L'=>∃k:Nat,k+q'=q.fSets.length∧st=(Value.bool false,Value.int .i64 (k:Nat),())∧I'=I∧L'=L) q.fSets.length ⟨0,by omega,rfl,rfl,rfl⟩ ?_;rintro q' st I' L' ⟨k,hkq,rfl,rfl,rfl⟩;unfold ADu;try simp only [SSd,Nat.reduceAdd]
 refine rdb ?_;simp only [RL.len hx,SSd,Nat.reduceAdd];refine AB (fun hb=>?_) (fun hb=>hk);have hb:k < q.fSets.length:=by
  have:=of_decide_eq_true hb;omega
 obtain ⟨bt,off,c1,e1,gl,g2,g3⟩:=RL.ix hx (i:=k) (by omega) (by omega);obtain ⟨bu,off2,c2,k1,kl,k2,k3⟩:=RL.ix hy (i:=k) (by omega) (by omega);rw [Ar hb] at g2 k2;obtain ⟨w,rfl,hw⟩:=g2;obtain ⟨z,rfl,hz⟩:=k2;have hp:=hq _ (List.getElem_mem hb);generalize q.fSets[k]=x at *;have hA:=g3 I' L' (Ext.refl _) nofun;have hB:=k3 I' L' (Ext.refl _) nofun;clear g3 k3 gl kl;have en1:(Az x.fExpr w).length=11:=rfl;have en2:(Az x.fExpr z).length=11:=rfl;have xA:Cells I' L' bt (off+1) (Az x.fExpr w):=Cells.sub (k:=1) (m:=11) hA;have yA0:Cell I' L' bt (off) (.string ⟨x.fColumn.toArray⟩):=hA 0 _ rfl;have xB:Cells I' L' bu (off2+1) (Az x.fExpr z):=Cells.sub (k:=1) (m:=11) hB;have yB0:Cell I' L' bu (off2) (.string ⟨x.fColumn.toArray⟩):=hB 0 _ rfl;repeat' (first|(with_reducible first|refine Ah ?_|refine Ac ?_|refine Aa ?_|refine keepA ?_|refine AV (fun _=>?_)|refine NK en1 xA ?_|refine NK en2 xB ?_|refine IP yA0 ?_|refine IP yB0 ?_)|((with_reducible refine call ?_);with_reducible refine Cb (ω:=ω) _ x.fExpr (Nat.le_refl _) hp _ _ _ _ _ (ExV.iff.2 ⟨w,rfl,hw⟩) (ExV.iff.2 ⟨z,rfl,hz⟩) ?_)|(with_reducible refine rdb ?_)|((with_reducible first|refine st1 ?_ ?_|refine rdB ?_ ?_);rfl)|(with_reducible refine Aj ?_)|((with_reducible refine BB ?_ ?_);rfl)|((with_reducible refine stB ?_ ?_ ?_ ?_);rfl;rfl;exact AO rfl)|((with_reducible first|refine rdP _ rfl ?_ ?_|refine BC _ rfl ?_ ?_);rfl)|((with_reducible refine stP _ rfl ?_ ?_ ?_ ?_);rfl;rfl;rfl)|(with_reducible refine And.intro ?_ ?_)|(simp only [SSg,Int.reduceBEq,Int.reduceBNe,Int.reduceLT,Int.reduceLE,beq_self_eq_true,bne_self_eq_false])|(with_reducible first|refine AP (fun _=>?_) (fun _=>?_)|refine AB (fun _=>?_) (fun _=>?_))|(simp only [SSd,Nat.reduceAdd,e1,k1,bne_self_eq_false]))
 simp only [wrap_i64 ((k:Int)+1) (by omega)];exact Gh.done ⟨q' - 1,by omega,k+1,by omega,rfl,rfl,rfl⟩
theorem Xh {q:TStmt}{v u:Value}{b1 b2:Nat}{l1 l2:List Value}{T1 T2:Nat}{f1 f2:Nat×Nat}[InL b1 L (.cells l1.toArray T1 f1)][InL b2 L (.cells l2.toArray T2 f2)][GetL l1 32 v][GetL l2 32 u](hq:∀x∈q.fRows,(∀y∈x,Ai y≤1000000000000)∧x.length≤1000000000000)(hl:q.fRows.length≤1000000000)(hx:RL (Ez ExV 11) 1 I [] v q.fRows)(hy:RL (Ez ExV 11) 1 I [] u q.fRows)(hk:Tq ω (.pointer (some ⟨b1,0,none⟩)) (.pointer (some ⟨b2,0,none⟩)) (.bool false) (fun v=>Gh (K v)) I L):BD ((.bool false,.int .i64 0,()):Value×Value×Unit) (fun s Kn=>Xc ω (.pointer (some ⟨b1,0,none⟩)) (.pointer (some ⟨b2,0,none⟩)) s.1 s.2.1 Kn (fun v=>Gh (K v))) I L:=by
 refine loop (fun q' st I' L'=>∃k:Nat,k+q'=q.fRows.length∧st=(Value.bool false,Value.int .i64 (k:Nat),())∧I'=I∧L'=L) q.fRows.length ⟨0,by omega,rfl,rfl,rfl⟩ ?_;rintro q' st I' L' ⟨k,hkq,rfl,rfl,rfl⟩;unfold Xc;try simp only [SSd,Nat.reduceAdd]
 refine rdb ?_;simp only [RL.len hx,SSd,Nat.reduceAdd];refine AB (fun hb=>?_) (fun hb=>hk);have hb:k < q.fRows.length:=by
  have:=of_decide_eq_true hb;omega
 obtain ⟨bt,off,c1,e1,gl,g2,g3⟩:=RL.ix hx (i:=k) (by omega) (by omega);obtain ⟨bu,off2,c2,k1,kl,k2,k3⟩:=RL.ix hy (i:=k) (by omega) (by omega);rw [Ar hb] at g2 k2;obtain ⟨w,rfl,hw⟩:=g2;obtain ⟨z,rfl,hz⟩:=k2;have hp:=hq _ (List.getElem_mem hb);generalize q.fRows[k]=x at *;have hE:∀y∈x,∀(I:Imm) (L:LH) (c d:List Value) (K:Value→M),ExV I y c→ExV I y d→K (.bool true) I L→CT ω 49 #[.agg c.toArray,.agg d.toArray] K I L:=fun y hy=>Cb _ _ (Nat.le_refl _) (hp.1 y hy);have xA:Cell I' L' bt off w:=g3 I' L' (Ext.refl _) nofun 0 _ rfl;have xB:Cell I' L' bu off2 z:=k3 I' L' (Ext.refl _) nofun 0 _ rfl;repeat' (first|(with_reducible first|refine Ah ?_|refine Ac ?_|refine Aa ?_|refine keepA ?_|refine AV (fun _=>?_)|refine IP xA ?_|refine IP xB ?_)|((with_reducible refine call ?_);with_reducible refine Ji (ω:=ω) hE hw hz hp.2 ?_)|(with_reducible refine rdb ?_)|((with_reducible first|refine st1 ?_ ?_|refine rdB ?_ ?_);rfl)|(with_reducible refine Aj ?_)|((with_reducible refine BB ?_ ?_);rfl)|((with_reducible refine stB ?_ ?_ ?_ ?_);rfl;rfl;exact AO rfl)|((with_reducible first|refine rdP _ rfl ?_ ?_|refine BC _ rfl ?_ ?_);rfl)|((with_reducible refine stP _ rfl ?_ ?_ ?_ ?_);rfl;rfl;rfl)|(with_reducible refine And.intro ?_ ?_)|(simp only [SSg,Int.reduceBEq,Int.reduceBNe,Int.reduceLT,Int.reduceLE,beq_self_eq_true,bne_self_eq_false])|(with_reducible first|refine AP (fun _=>?_) (fun _=>?_)|refine AB (fun _=>?_) (fun _=>?_))|(simp only [SSd,Nat.reduceAdd,e1,k1,bne_self_eq_false]))
 simp only [wrap_i64 ((k:Int)+1) (by omega)];exact Gh.done ⟨q' - 1,by omega,k+1,by omega,rfl,rfl,rfl⟩
theorem Xf {s:TStmt}{N:Nat}(hN:N≤1000000000)(hq:GdS N s)(hc:cS s≤1000000000){c d:List Value}(hx:TStmtV I s c)(hy:TStmtV I s d)(hk:K (.bool true) I L):CT ω 28 #[.agg c.toArray,.agg d.toArray] K I L:=by
 obtain ⟨v0,v1,v2,v3,v4,v5,v6,v7,v8,v9,v10,v11,v12,rfl,h0,h1,h2,h3,h4,h5,h6,h7,h8,h9,h10,h11,h12⟩:=hx;obtain ⟨u0,u1,u2,u3,u4,u5,u6,u7,u8,u9,u10,u11,u12,rfl,g0,g1,g2,g3,g4,g5,g6,g7,g8,g9,g10,g11,g12⟩:=hy;have p:∀{x:Ex},GE N x→Ai x≤1000000000000:=fun h=>by have:=h.2;omega
 have hw1:=p hq.wh;have hcq:cQ s.fSelect≤1000000000:=by unfold cS at hc;omega
 have n1:s.fColumns.length≤1000000000000:=by have:=hq.n1;omega
 have n2:s.fKey.length≤1000000000000:=by have:=hq.n2;omega
 have n3:s.fIndex.fColumns.length≤1000000000000:=by have:=hq.n3;omega
 have eb:∀l:List Bs,eqL eqB l l=true:=WT AJI;have s0:Bd I s.fSelect _:=⟨v0,v1,v2,v3,v4,v5,rfl,h0,h1,h2,h3,h4,h5⟩;have s1:Bd I s.fSelect _:=⟨u0,u1,u2,u3,u4,u5,rfl,g0,g1,g2,g3,g4,g5⟩;have th6:∀L,RL StrV 1 I L v6 s.fColumns:=fun L=>RL.mono (fun _ _ h=>h) h6 (Ext.refl _) (fun _ h=>nomatch h);have tg6:∀L,RL StrV 1 I L u6 s.fColumns:=fun L=>RL.mono (fun _ _ h=>h) g6 (Ext.refl _) (fun _ h=>nomatch h);have th11:∀L,RL StrV 1 I L v11 s.fKey:=fun L=>RL.mono (fun _ _ h=>h) h11 (Ext.refl _) (fun _ h=>nomatch h);have tg11:∀L,RL StrV 1 I L u11 s.fKey:=fun L=>RL.mono (fun _ _ h=>h) g11 (Ext.refl _) (fun _ h=>nomatch h);have th12:∀L,RL StrV 1 I L v12 s.fIndex.fColumns:=fun L=>RL.mono (fun _ _ h=>h) h12 (Ext.refl _) (fun _ h=>nomatch h);have tg12:∀L,RL StrV 1 I L u12 s.fIndex.fColumns:=fun L=>RL.mono (fun _ _ h=>h) g12 (Ext.refl _) (fun _ h=>nomatch h);unfold cS at hc;refine ATH ?_;unfold AOl;refine AV (fun b1=>AV (fun b2=>?_));repeat' (first|(with_reducible first|refine Ah ?_|refine Ac ?_|refine Aa ?_|refine keepA ?_|refine AV (fun _=>?_))|((with_reducible refine call ?_);with_reducible refine ABv (ω:=ω) hN hq.q hcq s0 s1 ?_)|((with_reducible refine call ?_);with_reducible refine Cb (ω:=ω) _ s.fWhere (Nat.le_refl _) hw1 _ _ _ _ _ (ExV.iff.2 ⟨v9,rfl,h9⟩) (ExV.iff.2 ⟨u9,rfl,g9⟩) ?_)|((with_reducible refine call ?_);with_reducible refine Gv (ω:=ω) (xs:=s.fColumns) (ys:=s.fColumns) (th6 _) (tg6 _) n1 ?_)|((with_reducible refine call ?_);with_reducible refine Gv (ω:=ω) (xs:=s.fKey) (ys:=s.fKey) (th11 _) (tg11 _) n2 ?_)|((with_reducible refine call ?_);with_reducible refine Gv (ω:=ω) (xs:=s.fIndex.fColumns) (ys:=s.fIndex.fColumns) (th12 _) (tg12 _) n3 ?_)|(with_reducible refine rdb ?_)|((with_reducible first|refine st1 ?_ ?_|refine rdB ?_ ?_);rfl)|(with_reducible refine Aj ?_)|((with_reducible refine BB ?_ ?_);rfl)|((with_reducible refine stB ?_ ?_ ?_ ?_);rfl;rfl;exact AO rfl)|((with_reducible first|refine rdP _ rfl ?_ ?_|refine BC _ rfl ?_ ?_);rfl)|((with_reducible refine stP _ rfl ?_ ?_ ?_ ?_);rfl;rfl;rfl)|(with_reducible refine And.intro ?_ ?_)|(simp only [SSg,Int.reduceBEq,Int.reduceBNe,Int.reduceLT,Int.reduceLE,beq_self_eq_true,bne_self_eq_false])|(with_reducible first|refine AP (fun _=>?_) (fun _=>?_)|refine AB (fun _=>?_) (fun _=>?_))|(simp only [SSd,Nat.reduceAdd,bne_self_eq_false,RL.len h7,RL.len g7,RL.len h8,RL.len g8,RL.len h10,RL.len g10,eb]))
 refine Xh (fun x hx=>⟨fun y hy=>p ((hq.rows x hx).1 y hy),by have:=(hq.rows x hx).2;omega⟩) (by omega) h7 g7 ?_;refine Xg (fun x hx=>p (hq.sets x hx)) (by omega) h8 g8 ?_;refine Xi (fun x hx=>p (hq.cols x hx).1) (by omega) h10 g10 ?_;exact Gh.to L (Gh.done hk)
theorem ABx {l:List TStmt}{N:Nat}{u v:Value}(hN:N≤1000000000)(hl:l.length≤1000000000)(hq:∀s∈l,GdS N s∧cS s≤1000000000)(hx:RL TStmtV 51 I L u l)(hy:RL TStmtV 51 I L v l)(hk:K (.bool true) I L):CT ω 13 #[u,v] K I L:=by
 refine ATP ?_;unfold AOt;simp only [RL.len hx,RL.len hy,bne_self_eq_false,SSd,Nat.reduceAdd];refine loop (fun q st I' L'=>∃k:Nat,k+q=l.length∧st=(Value.bool false,Value.int .i64 (k:Nat),())∧I'=I∧L'=L) l.length ⟨0,by omega,rfl,rfl,rfl⟩ ?_;rintro q st I' L' ⟨k,hkq,rfl,rfl,rfl⟩;unfold AGg;simp only [RL.len hx,SSd,Nat.reduceAdd];refine AB (fun hb=>?_) (fun hb=>Gh.done hk);have hb:k < l.length:=by
  have:=of_decide_eq_true hb;omega
 obtain ⟨bt,off,c1,g1,gl,g2,g3⟩:=RL.ix hx (i:=k) (by omega) (by omega);obtain ⟨bu,off2,c2,k1,kl,k2,k3⟩:=RL.ix hy (i:=k) (by omega) (by omega);rw [Ar hb] at g2 k2;refine draw (Stay I' L') (Stay.start I' L') ?_;simp only [g1,k1,SSd,Nat.reduceAdd];refine NK gl (g3 I' L' (Ext.refl _) (fun _ h=>h)) ?_;refine NK kl (k3 I' L' (Ext.refl _) (fun _ h=>h)) ?_;refine call (Xf hN (hq _ (List.getElem_mem hb)).1 (hq _ (List.getElem_mem hb)).2 g2 k2 ?_);simp only [Bool.not_true,wrap_i64 ((k:Int)+1) (by omega),SSd,Nat.reduceAdd];exact Gh.done ⟨q - 1,by omega,k+1,by omega,rfl,rfl,rfl⟩
end
def spTab:List Int:=(List.range 256).map fun i=>spN (UInt8.ofNat i)
theorem VL {P:Program}{W:World}{name:String}{k:IntKind}{zs:List Int}{g:Nat}(h:Lib.TabIs P W name k zs)(hg:P.globalNamed name=some g):∃T fr,Cf W g=some (.cells (zs.map fun z=>Value.int k z).toArray T fr):=by
 unfold Lib.TabIs World.var? at h;rw [hg] at h;simp only [Option.bind_some] at h;unfold Cf;split at h
 ·rename_i cs T fr hc
  simp only [Option.some.injEq] at h;subst h;exact ⟨T,fr,hc⟩
 ·cases h
theorem XW {W:World}(hL:laidMetH Tryz.prog Rows.sqlparseWordsRow.laid W):SpG (Cf W):=by
 have h1 := hL.filter (fun x => x.1 == "strings.asciiSpace");rw [show (Rows.sqlparseWordsRow.laid.filter (fun x => x.1 == "strings.asciiSpace")) = [("strings.asciiSpace", Lib.tabData .u8 spTab)] by kernel_rfl, MakeChecks.laidMetH_plain _ _ _ (by kernel_rfl)] at h1;have h2:=Lib.tabIs_of_head (g:=0) (t:=134) (e:=5) (n:=256) (by kernel_rfl) (by kernel_rfl) (by kernel_rfl) (by kernel_rfl) (by kernel_rfl) (by kernel_rfl) h1;obtain ⟨T,fr,h3⟩:=VL h2 (g:=0) (by kernel_rfl);intro c;refine Cell.imm h3 ?_;have hc:=c.toNat_lt;have hl:c.toNat < (spTab.map fun z=>Value.int .u8 z).length:=by simp [spTab];omega
 rw [List.getElem?_toArray,List.getElem?_eq_getElem hl];simp [spTab]
theorem Vq {W:World}(hL:laidMetH Tryz.prog Rows.sqlparseWordsRow.laid W):Ey (Cf W):=by
 have h1 := hL.filter (fun x => x.1 == "internal/strconv.uint64pow10");rw [show (Rows.sqlparseWordsRow.laid.filter (fun x => x.1 == "internal/strconv.uint64pow10")) = [("internal/strconv.uint64pow10", Lib.tabData .u64 Lib.pow10Tab)] by kernel_rfl, MakeChecks.laidMetH_plain _ _ _ (by kernel_rfl)] at h1;have hg : Tryz.prog.globalNamed "internal/strconv.uint64pow10" = some 5 := by kernel_rfl
 have h2 : Lib.TabIs Tryz.prog W "internal/strconv.uint64pow10" .u64 Lib.pow10Tab := Lib.tabIs_of_head (t := 275) (e := 268) (n := 20) hg (by kernel_rfl) (by kernel_rfl) (by kernel_rfl) (by kernel_rfl) (by kernel_rfl) h1;obtain ⟨T,fr,h3⟩:=VL h2 hg;exact ⟨5,T,fr,hg,h3⟩
def tk (k:Int)(s:Bs)(n:Int):Tok:=⟨k,0,s,n⟩
def Tok.st (t:Tok):Tok:={t with at':=0}
inductive Lx:Bs→List Tok→Prop
 |nil {s:Bs}:CZ false s=[]→Lx s []
 |cons {s r r':Bs} {c:UInt8} {t:Tok} {l:List Tok}:CZ false s=c::r→IR 0 (c::r)= .tok t r'→Lx r' l→Lx s (t::l)
section
variable (bit:Nat→Bool)
end
def stop (l:List Tok):Prop:=∃t r,l=t::r∧(t.kind=6∨(t.kind=5∧t.text=[59]))
structure Sim (S:List Tok→List Tok→Prop)(E:Nat→Nat→Prop):Prop where
 view:∀{l m:List Tok},S l m→(∃t u r q,l=t::r∧m=u::q∧t.st=u.st∧S r q)∨(stop l∧stop m)
 bad:∀{l m:List Tok},S l m→E (hd l).at' (hd m).at'
section
variable {S:List Tok→List Tok→Prop}{E:Nat→Nat→Prop}(h:Sim S E)
include h
omit h
include h
end
def S2 (l m:List Tok):Prop:=∃p q e e',l=p++[e]∧m=q++[e']∧p.map Tok.st=q.map Tok.st∧e.kind=6∧e'.kind=6∧∀t∈p,t.kind≠6
theorem ACH {s:Bs}:∀x∈(EW s).1,x∈(readA s).1:=by
 intro x hx;unfold EW at hx;split at hx
 ·cases hx
 split at hx
 ·cases hx
 split at hx
 ·cases hx
 ·exact hx
section
variable {ω:Om}{G I:Imm}{L F:LH}{K:Value→M}
end
section
variable {H:Type}{enc:TypeId×Value→H}{P:Program}{w:World}{T:TypeId}{cs:List Value}{d:DataW H}
def Td (enc:TypeId×Value→H)(P:Program)(w:World)(T:TypeId)(cs:List Value)(d:DataW H):Prop:=
 ∃(fuel:Nat) (ps:List MemPlace),DataW.trod enc P w 0 (fun _=>true) true fuel T cs=some (d,ps)
theorem Iu {k:IntKind}(hu:P.underlying T=some (.int k))(h:Td enc P w T cs d):∃n,cs=[.int k n]∧(Lit.int k n).wf=true:=by
 obtain ⟨fuel,ps,h⟩:=h;cases fuel with
 |zero=>simp [DataW.trod] at h
 |succ fuel=>
  simp only [DataW.trod,hu] at h;split at h <;> simp_all
theorem Fe (hu:P.underlying T=some .bool)(h:Td enc P w T cs d):∃b,cs=[.bool b]:=by
 obtain ⟨fuel,ps,h⟩:=h;cases fuel with
 |zero=>simp [DataW.trod] at h
 |succ fuel=>
  simp only [DataW.trod,hu] at h;split at h <;> simp_all
theorem AKi (hu:P.underlying T=some .string)(h:Td enc P w T cs d):∃s:ByteArray,cs=[.string s]∧s.size+1≤Rows.uptoBulk d:=by
 obtain ⟨fuel,ps,h⟩:=h;cases fuel with
 |zero=>simp [DataW.trod] at h
 |succ fuel=>
  simp only [DataW.trod,hu] at h;split at h <;> simp_all
  obtain ⟨_,rfl,_⟩:=h;exact Nat.le_refl _
theorem FO (hu:P.underlying T=some .string)(h:Td enc P w T cs d):∃s:List UInt8,cs=[.string ⟨s.toArray⟩]∧s.length+1≤Rows.uptoBulk d:=by
 obtain ⟨s,h1,h2⟩:=AKi hu h;exact ⟨s.data.toList,by rw [h1],h2⟩
theorem RH:∀{l:List (DataW H)} {i:Nat} {x:DataW H},l[i]? =some x→Rows.uptoBulk x≤Rows.uptoBulkAll l
 |[],_,_,h=>by simp at h
 |y::l,0,x,h=>by simp at h;subst h;simp [Rows.uptoBulkAll]
 |y::l,i+1,x,h=>by
  have:=RH (l:=l) (i:=i) (by simpa using h);simp only [Rows.uptoBulkAll];omega
theorem Dk {fs:Array Field}(hu:P.underlying T=some (.struct fs))(h:Td enc P w T cs d):cs.length=P.cellsOf T∧∃ds,d= .agg ds∧ds.length=fs.toList.length∧∀(i:Nat) (f:Field),fs.toList[i]? =some f→∃di,ds[i]? =some di∧Td enc P w f.type ((cs.drop f.offset).take (P.cellsOf f.type)) di:=by
 obtain ⟨fuel,ps,h⟩:=h;cases fuel with
 |zero=>simp [DataW.trod] at h
 |succ fuel=>
  have h':(if cs.length=P.cellsOf T then (fs.toList.mapM fun f=>DataW.trod enc P w 0 (fun _=>true) true fuel f.type ((cs.drop f.offset).take (P.cellsOf f.type))).map fun xs=>(DataW.agg (xs.map (·.1)),xs.flatMap (·.2)) else none)=some (d,ps):=by
   rw [←h];simp only [DataW.trod,hu]
  split at h'
  ·rename_i hlen
   refine ⟨hlen,?_⟩;obtain ⟨xs,hxs,hd⟩:=Option.map_eq_some_iff.1 h';simp only [Prod.mk.injEq] at hd;obtain ⟨rfl,_⟩:=hd;refine ⟨_,rfl,by rw [List.length_map,mapM_len _ _ hxs],fun i f hf=>?_⟩;obtain ⟨y,hy,hyd⟩:=Js _ _ hxs i f hf;exact ⟨y.1,by rw [List.getElem?_map,hy];rfl,fuel,y.2,hyd⟩
  ·cases h'
theorem VK {e:TypeId}(hu:P.underlying T=some (.slice e))(h:Td enc P w T cs d):
  ∃a len cap,cs=[.slice a len cap]∧len≤cap∧∃ds:List (DataW H),ds.length=len∧Rows.uptoBulkAll ds+1≤Rows.uptoBulk d∧
   ((a=none∧len=0∧cap=0)∨∃ad,a=some ad∧∀i,i < len→∃ec di,w.cells? 0 (ad.add (i * P.cellsOf e)) (P.cellsOf e)=some ec∧ds[i]? =some di∧Td enc P w e ec di):=by
 obtain ⟨fuel,ps,h⟩:=h;cases fuel with
 |zero=>simp [DataW.trod] at h
 |succ fuel=>
  simp only [DataW.trod,hu] at h;split at h <;> try (simp_all;done)
  ·refine ⟨none,0,0,rfl,Nat.le_refl _,[],rfl,?_,.inl ⟨rfl,rfl,rfl⟩⟩;exact bulk.one_le _
  ·rename_i e' ad len cap he
   simp only [Option.some.injEq,TypeDesc.slice.injEq] at he;subst he;split at h
   ·rename_i hc
    simp only [Option.bind_eq_some_iff] at h;obtain ⟨elems,hel,h⟩:=h;simp only [if_true,Option.map_eq_some_iff] at h;obtain ⟨rest,hrest,h⟩:=h;simp only [Prod.mk.injEq] at h;obtain ⟨rfl,_⟩:=h;have hlen:elems.length=len:=by have:=mapM_len _ _ hel;simpa using this
    refine ⟨some ad,len,cap,rfl,hc.2.1,elems.map (·.1),by rw [List.length_map,hlen],?_,.inr ⟨ad,rfl,fun i hi=>?_⟩⟩
    ·simp only [Rows.uptoBulk];omega
    ·obtain ⟨y,hy,hyd⟩:=Js _ _ hel i i (List.getElem?_range hi);simp only [Option.bind_eq_some_iff] at hyd;obtain ⟨ec,h1,h2⟩:=hyd;exact ⟨ec,y.1,h1,by rw [List.getElem?_map,hy];rfl,fuel,y.2,h2⟩
   ·cases h
theorem ANs {e:TypeId}(hu:P.underlying T=some (.slice e))(hn:0 < P.cellsOf e){v:Value}(h:Td enc P w T [v] d):
  ∃cells len ds,SlI (Cf w) (P.cellsOf e) v cells len∧ds.length=len∧Rows.uptoBulkAll ds+1≤Rows.uptoBulk d∧∀i,i < len→∃di,ds[i]? =some di∧Td enc P w e ((cells.drop (i * P.cellsOf e)).take (P.cellsOf e)) di:=by
 obtain ⟨a,len,cap,hcs,hle,ds,hds,hb,h2⟩:=VK hu h;simp only [List.cons.injEq,and_true] at hcs;subst hcs;clear h;have h:=h2;generalize hN:P.cellsOf e=n at *;rcases h with ⟨rfl,rfl,rfl⟩|⟨ad,rfl,h⟩
 ·exact ⟨[],0,ds,SlI.nil _ _ _ _,hds,hb,fun i hi=>by omega⟩
 ·by_cases h0:len=0
  ·subst h0;exact ⟨[],0,ds,SlI.nil _ _ _ _,hds,hb,fun i hi=>by omega⟩
  ·have hcell:∀i,i < len→∀j,j < n→∃u,w.cell? ((ad.add (i * n)).add j)=some u:=by
    intro i hi j hj;obtain ⟨ec,_,hec,_⟩:=h i hi;unfold World.cells? at hec;split at hec
    ·obtain ⟨y,_,hy⟩:=Js _ _ hec j j (List.getElem?_range hj);exact ⟨y,hy⟩
    ·cases hec
   obtain ⟨u0,hu0⟩:=hcell 0 (by omega) 0 hn;obtain ⟨b,off,sp⟩:=ad;have hsp:sp=none∧∃c T' fr,w.heap[b]? =some (.cells c T' fr):=by
    simp only [Addr.add,Nat.zero_mul,if_true] at hu0;unfold World.cell? at hu0;split at hu0
    ·rename_i c T' fr hb
     simp only at hu0 hb
     cases sp with
     |none=>exact ⟨rfl,c,T',fr,hb⟩
     |some s=>simp at hu0
    ·cases hu0
   obtain ⟨rfl,c,T',fr,hblk⟩:=hsp;have hget:∀i,i < len→∀j,j < n→∃u,c[off+i * n+j]? =some u:=by
    intro i hi j hj;obtain ⟨u,hu⟩:=hcell i hi j hj;rw [DV,DV] at hu;simp only [World.cell?,hblk] at hu;exact ⟨u,by simpa using hu⟩
   have hlast:=hget (len - 1) (by omega) (n - 1) (by omega);obtain ⟨ul,hul⟩:=hlast;have hsz:off+len * n≤c.size:=by
    have:=(Array.getElem?_eq_some_iff.1 hul).1;have e1:(len - 1) * n+n=len * n:=by rw [←Nat.succ_mul];congr 1;omega
    omega
   have hclen:((c.toList.drop off).take (len * n)).length=len * n:=by
    rw [List.length_take,List.length_drop,Array.length_toList];omega
   refine ⟨(c.toList.drop off).take (len * n),len,ds,⟨hclen,_,cap,rfl,hle,fun _=>⟨b,off,c,T',fr,rfl,hblk,fun j u hu=>?_⟩⟩,hds,hb,fun i hi=>?_⟩
   ·rw [List.getElem?_take] at hu;split at hu
    ·rw [List.getElem?_drop] at hu;simpa using hu
    ·cases hu
   ·obtain ⟨ec,di,hec,hdi,htr⟩:=h i hi;have:((((c.toList.drop off).take (len * n)).drop (i * n)).take n)=ec:=by
     unfold World.cells? at hec;split at hec
     ·apply List.ext_getElem?
      intro j;have hln:=mapM_len _ _ hec;simp only [List.length_range] at hln;have hin:i * n+n≤len * n:=by rw [←Nat.succ_mul];exact Nat.mul_le_mul_right n hi
      by_cases hj:j < n
      ·obtain ⟨y,hy,hcy⟩:=Js _ _ hec j j (List.getElem?_range hj);rw [hy,List.getElem?_take,if_pos hj,List.getElem?_drop,List.getElem?_take,if_pos (by omega),List.getElem?_drop];rw [DV,DV] at hcy;simp only [World.cell?,hblk] at hcy;simp only [Array.getElem?_toList];rw [show off+(i * n+j)=off+i * n+j from by omega];simpa using hcy
      ·rw [List.getElem?_take,if_neg hj];rw [List.getElem?_eq_none (by omega)]
     ·cases hec
    rw [this];exact ⟨di,hdi,htr⟩
theorem Vj {α:Type}{R:α→List Value→Prop}{μ:α→Nat}{n:Nat}:∀(ds:List (DataW H)) (cells:List Value),cells.length=ds.length * n→(∀i di,ds[i]? =some di→∃x,R x ((cells.drop (i * n)).take n)∧μ x≤Rows.uptoBulk di)→∃xs:List α,xs.length=ds.length∧Recs R n xs cells∧(xs.map μ).sum≤Rows.uptoBulkAll ds
 |[],cells,hl,_=>⟨[],rfl,List.eq_nil_of_length_eq_zero (by simpa using hl),by simp [Rows.uptoBulkAll]⟩
 |d::ds,cells,hl,h=>by
  obtain ⟨x,hx,hm⟩:=h 0 d rfl;simp only [Nat.zero_mul,List.drop_zero] at hx;have hl':cells.length=ds.length * n+n:=by rw [hl,List.length_cons,Nat.add_mul];omega
  obtain ⟨xs,hxl,hR,hs⟩:=Vj (R:=R) (μ:=μ) (n:=n) ds (cells.drop n) (by rw [List.length_drop];omega) (fun i di hi=>by
   obtain ⟨y,hy,hm⟩:=h (i+1) di (by simpa using hi);refine ⟨y,?_,hm⟩;rw [List.drop_drop];rwa [show n+i * n=(i+1) * n from by rw [Nat.add_mul];omega])
  exact ⟨x::xs,by simp [hxl],⟨by rw [List.length_take];omega,hx,hR⟩,by simp only [List.map_cons,List.sum_cons,Rows.uptoBulkAll];omega⟩
theorem AKj {α:Type}{R:Imm→α→List Value→Prop}{μ:α→Nat}{e:TypeId}(hu:P.underlying T=some (.slice e))(hn:0 < P.cellsOf e){v:Value}(h:Td enc P w T [v] d)(hR:∀c di,Rows.uptoBulk di < Rows.uptoBulk d→Td enc P w e c di→∃x,R (Cf w) x c∧μ x≤Rows.uptoBulk di):
  ∃xs:List α,RL R (P.cellsOf e) (Cf w) [] v xs∧(xs.map μ).sum+1≤Rows.uptoBulk d:=by
 obtain ⟨cells,len,ds,hS,hds,hb,hT⟩:=ANs hu hn h;subst hds;obtain ⟨xs,hxl,hRR,hs⟩:=Vj (R:=R (Cf w)) (μ:=μ) ds cells hS.1 (fun i di hi=>by
  obtain ⟨d2,h1,h2⟩:=hT i (by exact (List.getElem?_eq_some_iff.1 hi).1);rw [hi] at h1;simp only [Option.some.injEq] at h1;subst h1;exact hR _ _ (by have:=RH hi;omega) h2)
 rw [←hxl] at hS;exact ⟨xs,RL.ofI hS hRR,by omega⟩
end
end Go.Proofs.YtkifgfanjcfedaaGreatDoor
