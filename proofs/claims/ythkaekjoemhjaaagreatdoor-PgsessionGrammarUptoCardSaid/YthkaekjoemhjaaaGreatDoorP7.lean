/- lemmas -/
import Derived.Test.YthkaekjoemhjaaaGreatDoorP6
import Derived.Test.YthkaekjoemhjaaaGreatDoorRows
import Derived.Test.YthkaekjoemhjaaaGreatDoorP2
import Derived.LaidSub
import Derived.MakeChecks
import Derived.Lib.LaidTab
import Derived.JoinedCond
import Derived.LaidLaws
import Derived.SizedLaws
import Derived.Test.YthkaekjoemhjaaaGreatDoorP4
set_option maxRecDepth 100000
set_option maxHeartbeats 40000000
set_option linter.unusedVariables false
set_option linter.unusedSimpArgs false
set_option linter.unusedSectionVars false
namespace Go.Proofs.YthkaekjoemhjaaaGreatDoor
open Go.SL
def wtext:Bs:=[97,110,100,32,97,115,32,97,115,99,32,98,101,103,105,110,32,98,101,116,119,101,101,110,32,98,121,32,99,97,115,101,32,99,111,109,109,105,116,32,99,114,101,97,116,101,32,99,114,111,115,115,32,100,101,102,97,117,108,116,32,100,101,108,101,116,101,32,100,101,115,99,32,100,105,115,116,105,110,99,116,32,100,114,111,112,32,101,108,115,101,32,101,110,100,32,102,97,108,115,101,32,102,114,111,109,32,103,114,111,117,112,32,104,97,118,105,110,103,32,105,110,32,105,110,100,101,120,32,105,110,110,101,114,32,105,110,115,101,114,116,32,105,110,116,111,32,105,115,32,106,111,105,110,32,107,101,121,32,108,101,102,116,32,108,105,107,101,32,108,105,109,105,116,32,110,111,116,32,110,117,108,108,32,111,102,102,115,101,116,32,111,110,32,111,114,32,111,114,100,101,114,32,112,114,105,109,97,114,121,32,114,111,108,108,98,97,99,107,32,115,101,108,101,99,116,32,115,101,116,32,116,97,98,108,101,32,116,104,101,110,32,116,114,117,101,32,117,110,105,113,117,101,32,117,112,100,97,116,101,32,118,97,108,117,101,115,32,119,104,101,110,32,119,104,101,114,101]
def spN (c:UInt8):Int:=if (9≤c&&c≤13)||c==32 then 1 else 0
def SpG (G:Imm):Prop:=∀c:UInt8,Cell G [] 6 c.toNat (.int .u8 (spN c))
def trF:Nat→Int×Int×Int
 |0=>(0,1,0)
 |i+1=>let t:=trF i
  let c:=wtext.getD i 0
  (IntKind.i64.wrap (t.1+Dv .and .i64 t.2.1 (Dv .xor .i64 (if IntKind.i64.signed then -1 else IntKind.i64.max) (IntKind.i64.wrap (spN c)))),IntKind.i64.wrap (spN c),Dv .or .u8 t.2.2 c.toNat)
def UM (k:Nat):Nat:=((wordsL.take k).map λw=>w.length+1).sum
def wiF (i:Nat):Nat:=((wtext.take i).filter λc=>spN c==1).length
theorem ALj:(trF wtext.length).1=50∧decide ((trF wtext.length).2.2≥128)=false:=by decide+kernel
theorem ADN:(List.range wtext.length).all (λi=>if spN (wtext.getD i 0)=0 then wiF (i+1)==wiF i else
  decide (wiF i < 49)&&wiF (i+1)==wiF i+1&&decide (UM (wiF i)≤i)&&(wtext.drop (UM (wiF i))).take (i - UM (wiF i))==wordsL.getD (wiF i) []&&i+1==UM (wiF i+1)&&decide (i+1 < wtext.length)&&spN (wtext.getD (i+1) 0)==0)=true:=by decide+kernel
theorem AHh:wiF wtext.length=49∧UM 49 < wtext.length∧wtext.drop (UM 49)=wordsL.getD 49 []:=by decide+kernel
theorem XG {i:Nat}(h:i < wtext.length):wtext[i]? =some (wtext.getD i 0):=by
 rw [zam h];simp [h]
theorem PO {I:Imm}{X L F:LH}[hsp:SplitL X L F]{T len:Nat}{v u:Value}{cells:List Value}{i:Int}(ho:SlO T 1 X v cells len)(h0:0≤i)(h1:i < len)(hu:u.oneCell'=true):
  ∃b,ixV 1 v (.int .i64 i)=some (.pointer (some ⟨b,i.toNat,none⟩))∧∀K:Value→M,(∀X',SlO T 1 X' v (cells.set i.toNat u) len→K undef I (X'++F))→Sto 1 (.pointer (some ⟨b,i.toNat,none⟩)) u (gh K) I L:=by
 obtain ⟨b,e,_⟩:=AAX (I:=I) (L:=L) (F:=F) (u:=u) (K:=λ_ _ _=>True) ho h0 h1 hu (λ_ _=>trivial);refine ⟨b,e,λK hk=>?_⟩;obtain ⟨b',e',h⟩:=AAX (I:=I) (L:=L) (F:=F) (u:=u) (K:=K) ho h0 h1 hu hk;rw [e] at e';simp only [zn,Value.pointer.injEq,Addr.mk.injEq,and_true] at e';rw [e'];exact h
section
variable {ω:Om}
theorem rdG {G I:Imm}{L:LH}{K:Value→M}(hG:SpG G)(hI:Ext G I)(c:UInt8)(hk:K (.int .u8 (spN c)) I L):Rv none (BF (.pointer (some ⟨6,c.toNat * 1,none⟩))) K I L:=by
 refine rd1 ?_ hk;have:=(hG c).mono hI (L':=L) (λ_ h=>by cases h);simpa using this
theorem UT (c:UInt8):MZ 1 256 (.pointer (some ⟨6,0,none⟩)) (.int .u8 c.toNat)=some (.pointer (some ⟨6,c.toNat * 1,none⟩)):=by
 have:=c.toNat_lt;have h2:((c.toNat:Int) < 256):=by omega
 simp [MZ,h2,Addr.add]
theorem UW {G I:Imm}{L:LH}{K:Value→M}(hG:SpG G)(hGI:Ext G I)(hk:∀X v,SlO 9 1 X v (wordsL.map λx=>Value.string ⟨x.toArray⟩) wordsL.length→K v I (X++L)):CT ω 212 #[.string ⟨wtext.toArray⟩] K I L:=by
 refine ANx ?_;unfold AKG;refine loop (λq st I' L'=>∃i:Nat,i+q=wtext.length∧st=(.int .i64 (trF i).1,.int .i64 (trF i).2.1,.int .u8 (trF i).2.2,.int .i64 i,())∧I'=I∧L'=L) wtext.length ⟨0,by omega,rfl,rfl,rfl⟩ ?_;rintro q st I' L' ⟨i,hq,rfl,rfl,rfl⟩;unfold ZW;try refine zqe ?_
 refine AL (λhb=>?_) (λhb=>?_)
 ·have hb:i < wtext.length:=by
   have:=of_decide_eq_true hb;omega
  simp only [ixS wtext (XG hb),UT,SSd,Nat.reduceAdd];refine rdG hG hGI _ ?_;have hwl:wtext.length≤1000:=by decide+kernel
  simp only [AHV,wrap_i64 ((i:Int)+1) zo,SSd,Nat.reduceAdd];exact zAA ⟨q - 1,by omega,i+1,by omega,by rw [trF];rfl,rfl,rfl⟩
 have hb:¬i < wtext.length:=by
  have:=of_decide_eq_false hb;omega
 obtain rfl:i=wtext.length:=by omega
 unfold ZV;obtain ⟨t1,t2⟩:=ALj;simp only [t1,t2,SSd,Nat.reduceAdd];refine AFY (ln:=50) (cn:=50) zo zo zo (λX v hX=>?_);have h0:∃c,wtext[0]? =some c∧spN c=0:=⟨97,rfl,rfl⟩;obtain ⟨c0,hc0,hs0⟩:=h0;refine loop (λq st I2 L2=>st=(.int .i64 0,())∧I2=I'∧L2=X++L') 0 ⟨rfl,rfl,rfl⟩ ?_;rintro _ st I2 L2 ⟨rfl,rfl,rfl⟩;unfold ZU;simp only [show decide ((0:Int) < (wtext.length:Nat))=true from rfl,SSd,Nat.reduceAdd];simp only [ixS wtext hc0 (a:=0),UT,show (.int .i64 0:Value)= .int .i64 ((0:Nat):Int) from rfl,SSd,Nat.reduceAdd];refine rdG hG hGI _ ?_;simp only [hs0,show ((0:Int) != 0)=false from rfl,SSd,Nat.reduceAdd];unfold TZ;have hwl:wtext.length≤1000:=by decide+kernel
 have hxz:(Builtin.zeroCells #[.string ⟨#[]⟩] 50).toList=(wordsL.take 0).map (λx=>Value.string ⟨x.toArray⟩)++List.replicate (50 - 0) (.string ⟨#[]⟩):=by kernel_rfl
 have hX:SlO 9 1 X v ((wordsL.take 0).map (λx=>Value.string ⟨x.toArray⟩)++List.replicate (50 - 0) (.string ⟨#[]⟩)) 50:=by rw [←hxz];exact hX
 have hw50:wordsL.length=50:=rfl;refine loop (λq st I3 L3=>∃(i:Nat) (X':LH),i+q=wtext.length∧st=(Value.int .i64 (wiF i:Nat),Value.int .i64 (UM (wiF i):Nat),Value.int .i64 (i:Nat),())∧I3=I2∧L3=X'++L'∧wiF i < 50∧UM (wiF i)≤i∧SlO 9 1 X' v ((wordsL.take (wiF i)).map (λx=>Value.string ⟨x.toArray⟩)++List.replicate (50 - wiF i) (.string ⟨#[]⟩)) 50) wtext.length ⟨0,X,by omega,rfl,rfl,rfl,by decide,by decide,hX⟩ ?_;rintro q st I3 L3 ⟨i,X',hq,rfl,rfl,rfl,hk50,hoff,hX'⟩;unfold ZT;try refine zqe ?_
 refine AL (λhb=>?_) (λhb=>?_)
 ·have hb:i < wtext.length:=by
   have:=of_decide_eq_true hb;omega
  have hst:=zas.1 ADN i (zaQ.2 hb);simp only [ixS wtext (XG hb),UT,SSd,Nat.reduceAdd];refine rdG hG hGI _ ?_;try refine zqe ?_
  refine AL (λhs=>?_) (λhs=>?_)
  ·have hs:spN (wtext.getD i 0)=0:=by simpa using hs
   rw [if_pos hs] at hst;have hst:wiF (i+1)=wiF i:=by simpa using hst
   simp only [wrap_i64 ((i:Int)+1) zo,SSd,Nat.reduceAdd];exact zAA ⟨q - 1,by omega,i+1,X',by omega,by rw [hst];rfl,rfl,rfl,by rw [hst];exact hk50,by rw [hst];omega,by rw [hst];exact hX'⟩
  ·have hs:¬spN (wtext.getD i 0)=0:=by simpa using hs
   rw [if_neg hs] at hst;simp only [zQ,decide_eq_true_eq,beq_iff_eq] at hst;obtain ⟨⟨⟨⟨⟨⟨a1,a2⟩,a3⟩,a4⟩,a5⟩,a6⟩,a7⟩:=hst;simp only [slS wtext a3 (zbu hb),a4,SSd,Nat.reduceAdd];have hkl:wiF i < wordsL.length:=by omega
   have hgd:wordsL.getD (wiF i) []=wordsL[wiF i]:=by simp [hkl]
   have hset:((wordsL.take (wiF i)).map (λx=>Value.string ⟨x.toArray⟩)++List.replicate (50 - wiF i) (Value.string ⟨#[]⟩)).set (wiF i) (.string ⟨(wordsL.getD (wiF i) []).toArray⟩)=(wordsL.take (wiF i+1)).map (λx=>Value.string ⟨x.toArray⟩)++List.replicate (50 - (wiF i+1)) (.string ⟨#[]⟩):=by
    rw [zf hkl,zaa,hgd];rw [List.set_append_right _ _ zu];have e1:wiF i - ((wordsL.take (wiF i)).map (λx=>Value.string ⟨x.toArray⟩)).length=0:=by simp;omega
    have e2:50 - wiF i=(50 - (wiF i+1))+1:=by omega
    rw [e1,e2,List.replicate_succ,List.set_cons_zero];simp
   obtain ⟨b',g1,g2⟩:=PO (I:=I3) (L:=X'++L') (F:=L') (u:=.string ⟨(wordsL.getD (wiF i) []).toArray⟩) (i:=(wiF i:Nat)) hX' zo zo rfl;simp only [g1,SSd,Nat.reduceAdd];refine g2 _ (λX5 hX5=>?_);rw [zbp,hset] at hX5;simp only [wrap_i64 ((i:Int)+1) zo,wrap_i64 ((wiF i:Int)+1) zo,SSd,Nat.reduceAdd];refine loop (λq' st I6 L6=>st=(Value.int .i64 ((i+1:Nat):Int),())∧I6=I3∧L6=X5++L') 0 ⟨rfl,rfl,rfl⟩ ?_;rintro _ st I6 L6 ⟨rfl,rfl,rfl⟩;unfold ZR;have hlt:decide (((i+1:Nat):Int) < (wtext.length:Nat))=true:=decide_eq_true zo;simp only [hlt,ixS wtext (XG a6),UT,SSd,Nat.reduceAdd];refine rdG hG hGI _ ?_;simp only [a7,show ((0:Int) != 0)=false from rfl,SSd,Nat.reduceAdd];exact zAA ⟨q - 1,by omega,i+1,X5,by omega,by rw [a2,←a5];rfl,rfl,rfl,by rw [a2];omega,by rw [a2,←a5];omega,by rw [a2];exact hX5⟩
 ·have hb:¬i < wtext.length:=by
   have:=of_decide_eq_false hb;omega
  obtain rfl:i=wtext.length:=by omega
  obtain ⟨l1,l2,l3⟩:=AHh;rw [l1] at hX';unfold VE;simp only [l1,show decide (((UM 49:Nat):Int) < (wtext.length:Nat))=true from decide_eq_true zo,VB wtext (zbu l2),l3,SSd,Nat.reduceAdd];obtain ⟨b',g1,g2⟩:=PO (I:=I3) (L:=X'++L') (F:=L') (u:=.string ⟨(wordsL.getD 49 []).toArray⟩) (i:=((49:Nat):Int)) hX' zo zo rfl;simp only [g1,SSd,Nat.reduceAdd];refine g2 _ (λX5 hX5=>?_);have hset:((wordsL.take 49).map (λx=>Value.string ⟨x.toArray⟩)++List.replicate (50 - 49) (Value.string ⟨#[]⟩)).set ((49:Nat):Int).toNat (.string ⟨(wordsL.getD 49 []).toArray⟩)=wordsL.map (λx=>Value.string ⟨x.toArray⟩):=rfl;rw [hset] at hX5;exact zAA (hk X5 _ hX5)
theorem RF (I:Imm):∀l:List Bs,Recs (StrV I) 1 l (l.map λx=>Value.string ⟨x.toArray⟩)
 |[]=>rfl
 |x::l=>⟨rfl,rfl,RF I l⟩
theorem Um {G I:Imm}{L:LH}{K:Value→M}(hG:SpG G)(hGI:Ext G I)(hk:∀X v,SlO 9 1 X v (wordsL.map λx=>Value.string ⟨x.toArray⟩) wordsL.length→K v I (X++L)):CT ω 182 #[] K I L:=by
 refine AON ?_;unfold AKV;exact call (UW hG hGI (λX v hX=>zAA (hk X v hX)))
theorem XK {G:Imm}(hG:SpG G):AHR ω G:=by
 intro K I L hGI hk;refine zAG (Um hG hGI (λX v hX=>?_));exact RL.ofO (R:=StrV) (xs:=wordsL) (λ{I I' x c} h hI=>h) hX (RF I wordsL) (λI6 hI6 hw6=>zAA (hk I6 _ hI6 hw6))
end
def BdS (s:Ses):Prop:=s.left.length≤2097152∧s.stmts.length≤2000∧s.out=[]
theorem ABz (s:Ses)(x:TStmt):(Fj s x).left=s.left∧(Fj s x).stmts.length≤s.stmts.length:=by
 unfold Fj Jb Dt;repeat' split
 all_goals first
  |exact ⟨(Ar _ _).1,by rw [(Ar _ _).2.1];exact zh _⟩
  |exact ⟨(Ar _ _).1,zao _⟩
  |exact ⟨rfl,zh _⟩
theorem AFW (s:Ses)(f:TFront):(Ha s f).left.length≤s.left.length∧(s.stmts.length≤2000→(Ha s f).stmts.length≤2000):=by
 unfold Ha;split
 ·exact ⟨by rw [(Ar _ _).1];exact zh _,λh=>by rw [(Ar _ _).2.1];exact h⟩
 split
 ·exact ⟨zao _,λ_=>zao _⟩
 split
 ·exact ⟨by unfold IM;rw [(Ar _ _).1];exact zh _,λh=>by unfold IM;rw [(Ar _ _).2.1];exact h⟩
 split
 ·unfold Ug;have hp:=NR f.fText;split
  ·have hb:∀t:Ses,(Dh t).left=t.left∧(Dh t).stmts=[]:=λt=>by unfold Dh;split <;> exact ⟨rfl,rfl⟩
   refine ⟨?_,λ_=>?_⟩
   ·rw [(hb _).1];unfold Bj;rw [(Ar _ _).1];exact zh _
   ·rw [(hb _).2];exact zao _
  split
  ·exact ⟨by simp only;rw [(Ar _ _).1];exact zh _,λ_=>hp⟩
  ·exact ⟨zh _,λ_=>hp⟩
 ·exact ⟨zao _,λ_=>zao _⟩
theorem Xl {s t:Ses}(h:CY s=some t):t.left.length≤s.left.length∧(s.stmts.length≤2000→t.stmts.length≤2000):=by
 unfold CY at h;split at h
 ·cases h
 split at h
 ·simp only [zn] at h;subst h;have:=ABz {s with stmts:=s.stmts.tail} (s.stmts.headD default);refine ⟨by rw [this.1];exact zh _,λh=>zaC this.2 ?_⟩;simp only [zaV];omega
 split at h
 ·simp only [zn] at h;subst h;exact ⟨by rw [(Ar _ _).1];exact zh _,λh=>by rw [(Ar _ _).2.1];exact h⟩
 simp only at h
 split at h
 ·cases h
 split at h
 ·simp only [zn] at h;subst h;exact ⟨zao _,λ_=>zao _⟩
 ·simp only [zn] at h;subst h;have:=AFW {s with left:=s.left.drop (BN s.left (s.status==0)).2.1.toNat} (BN s.left (s.status==0)).1;refine ⟨zaC this.1 ?_,this.2⟩;simp only [zaq];omega
theorem AAv (n:Nat):∀{s:Ses},mu s < n→(goF s).left.length≤s.left.length∧(s.stmts.length≤2000→(goF s).stmts.length≤2000):=by
 induction n with
 |zero=>intro s h;omega
 |succ n ih=>
  intro s hn;rw [Fv];cases hr:CY s with
  |none=>exact ⟨zh _,λh=>h⟩
  |some t=>
   have h1:=Fb hr;have h2:=Xl hr;have h3:=ih (s:=t) zo;exact ⟨zaC h3.1 h2.1,λh=>h3.2 (h2.2 h)⟩
theorem BdS.feed {s:Ses}(h:BdS s)(b:Bs):BdS (FM s b).1:=by
 unfold FM;split
 ·exact h
 simp only
 split
 ·exact ⟨zao _,zao _,rfl⟩
 ·rename_i hl
  have h1:=AAv _ (zbe (mu {s with left:=s.left++b}));exact ⟨zaC h1.1 (by simp only;omega),h1.2 h.2.1,rfl⟩
theorem BdS.close {s:Ses}(h:BdS s):BdS (IZ s):=by
 unfold IZ;split
 ·exact h
 ·exact ⟨zao _,zao _,h.2.2⟩
theorem ACt (dec:Int→Bs)(s:Ses)(o:TOut)(e:Int):(DX dec s o e).left=s.left∧(DX dec s o e).stmts.length≤s.stmts.length:=by
 have hb:∀t:Ses,(Dh t).left=t.left∧(Dh t).stmts=[]:=λt=>by unfold Dh;split <;> exact ⟨rfl,rfl⟩
 unfold DX;simp only
 split
 ·have h2:(if e==0 then BD {s with kind:=0,stmt:=default,own:=false} (BU dec o) else {s with kind:=0,stmt:=default,own:=false}).left=s.left∧(if e==0 then BD {s with kind:=0,stmt:=default,own:=false} (BU dec o) else {s with kind:=0,stmt:=default,own:=false}).stmts=s.stmts:=by
   split
   ·exact ⟨(Ar _ _).1,(Ar _ _).2.1⟩
   ·exact ⟨rfl,rfl⟩
  generalize (if e==0 then BD {s with kind:=0,stmt:=default,own:=false} (BU dec o) else {s with kind:=0,stmt:=default,own:=false})=s2 at h2 ⊢;generalize (if (e==0)=true then (Cf (BU dec o) []).2 else e)=e1;split
  ·refine ⟨?_,by rw [(hb _).2];exact zao _⟩;rw [(hb _).1];unfold Bj;rw [(Ar _ _).1];exact h2.1
  ·exact ⟨h2.1,by rw [h2.2];exact zh _⟩
 split
 ·split
  ·unfold Dt;exact ⟨(Ar _ _).1,by rw [(Ar _ _).2.1];exact zh _⟩
  ·exact ⟨rfl,zh _⟩
 ·unfold NL Dt Bj;simp only
  repeat' split
  ·exact ⟨(Ar _ _).1,zao _⟩
  iterate 2
   ·exact ⟨(Ar _ _).1,by rw [(Ar _ _).2.1];exact zh _⟩
theorem BdS.ans {s:Ses}(h:BdS s)(dec:Int→Bs)(o:TOut)(e:Int):BdS (KP dec s o e).1:=by
 unfold KP;split
 ·exact h
 ·have h1:=AAv _ (zbe (mu (DX dec s o e)));have h2:=ACt dec s o e;exact ⟨by refine zaC h1.1 ?_;rw [h2.1];exact h.1,h1.2 (zaC h2.2 h.2.1),rfl⟩
theorem BdS.room {s:Ses}(h:BdS s):BO s≤20000000000000:=by
 obtain ⟨h1,h2,h3⟩:=h;unfold BO mu;rw [h3];have:(if s.query=true then 1 else 0:Nat)≤1:=by split <;> omega
 simp only [zH];omega
theorem BdS.room_add {s:Ses}(h:BdS s)(b:Bs)(hb:b.length≤2097152):(s.left++b).length≤100000000∧BO {s with left:=s.left++b}≤99999980000000:=by
 obtain ⟨h1,h2,h3⟩:=h;unfold BO mu;simp only
 rw [h3];have:(if s.query=true then 1 else 0:Nat)≤1:=by split <;> omega
 simp only [zH,zk];omega
section
variable {ω:Om}{I:Imm}{L F:LH}{K:Value→M}{s:Ses}{b:Nat}{X:LH}
theorem Vp:0 < (FM {pid:=1,secret:=2} [0,0,0,9,0,3,0,0,0]).2.length∧(FM {pid:=1,secret:=2} [0,0,0,9,0,3,0,0,0]).1.status=73:=by decide+kernel
theorem YG (hk:∀I' v,Ext I I'→Bytes I' v [0,0,0,9,0,3,0,0,0]→K v I' L):CT ω 24 #[] K I L:=by
 refine ARd ?_;unfold AQI;refine Lh (n:=1) [.int .u8 0,.int .u8 0,.int .u8 0,.int .u8 9,.int .u8 0,.int .u8 3,.int .u8 0,.int .u8 0,.int .u8 0] rfl rfl (by simp [Value.cells]) (λI1 a hI1 hS=>zAA ?_);exact zAA (hk I1 _ hI1 hS)
theorem YZ {G:Imm}(hTok:EK ω G)(hLim:Qv ω)(hG:Ext G I)(hk:∀I',Ext I I'→K (.bool true) I' L):CT ω 7 #[] K I L:=by
 refine ASD ?_;unfold sh7;refine call (Py 1 2 zo zo (λb X hS=>?_));simp only [show ((0:Int) != 0)=false from rfl,SSd,Nat.reduceAdd];refine call (YG (λI1 v hI1 hv=>?_));have hb:BdS {pid:=1,secret:=2}:=⟨zao _,zao _,rfl⟩;obtain ⟨r1,r2⟩:=hb.room_add [0,0,0,9,0,3,0,0,0] zx;refine call (SG (X:=X) hTok hLim (zAB hG hI1) (hS.mono hI1) hv r1 r2 (λI2 X2 v2 hI2 hS2 hv2=>?_));refine call (Uy (X:=X2) hS2 ?_);obtain ⟨a1,a2⟩:=Vp;rw [a2];have hd:decide ((0:Int) < ((FM {pid:=1,secret:=2} [0,0,0,9,0,3,0,0,0]).2.length:Nat))=true:=decide_eq_true zo;simp only [hv2.len,hd,show ((73:Int)==73)=true from rfl,SSd,Nat.reduceAdd];exact zAE L (zAA (hk I2 (zAB hI1 hI2)))
end
def AAi (s:Ses)(x:TStep):Ses:=if x.fDo==0 then (FM s x.fB).1 else if x.fDo==1 then (KP (BQ true) s x.fO x.fE).1 else if x.fDo==2 then IZ s else s
theorem Xp {s:Ses}(x:TStep)(hb:BdS s)(hj:Jn s):BdS (AAi s x)∧Jn (AAi s x):=by
 unfold AAi;repeat' split
 ·exact ⟨hb.feed _,hj.feed _⟩
 ·exact ⟨hb.ans _ _ _,hj.ans _ _ _⟩
 ·exact ⟨hb.close,hj.close⟩
 ·exact ⟨hb,hj⟩
section
variable {ω:Om}{I:Imm}{L F:LH}{K:Value→M}{s:Ses}{b:Nat}{X:LH}
end
open Go.ChangeShapes
section
variable {H:Type}{enc:TypeId×Value→H}
theorem handed_cond_and {a:Assume}{C:Checked}{os:Os}{f:FuncId}{fn:Func}{s:OpenSpec}{k:(H:Type)→List (DataW H)→Bool}(hk:s.cond=some k){F:Stop.Interp}{conds:List PathCond}{apart fresh handsOn again:Bool}{X:World→Array Value→Prop}
  (hX:∀(w w':World) (args:Array Value),w.heap=w'.heap→X w args→X w' args)
  (own:ownKnob C.prog.godebug=none) (started:os.Started) (noInit:C.prog.inits.idxOf? f=none) (hfn:C.prog.funcs[f]? =some fn)
  (witness:∃(w:World) (tape:Tape) (i:Input),w.os=os∧(w.forCall tape i).Shaped C.prog∧i.vars=[]∧Input.okWide C.prog (w.forCall tape i) .any w.heap.size f i∧
   ((s.pre enc C.prog fn conds apart (w.forCall tape i).memory i.args∧X (w.forCall tape i).memory i.args)∧sizedMet enc C.prog fn s apart (w.forCall tape i).memory i.args)∧a.holds C.prog (lone (Frame.enter C.prog f i.args .normal) [] (w.forCall tape i)))
  (contract:∀(W:World) (base:Nat) (args:Array Value) (ds gs:List (DataW H)) (before:List MemPlace),
   (∀(j:Nat) t v,fn.params[j]? =some t→args[j]? =some v→Value.okWide C.prog W .any base t v)→
   DataW.Whole enc C.prog fn.params.toList s.vars apart W args.toList ds gs before→
   conds.all (PathCond.test C.prog ⟨fn.params.toList,ds,s.bare.plain.varTypes C.prog,gs⟩)=true→k H (ds++gs)=true→X W args→
   a.holds C.prog (lone (Frame.enter C.prog f args .normal) [] W)→
   Calls C.prog f args W λe W'=>∃v,e= .returned v∧(s.at F).post enc C.prog fn apart fresh handsOn again W args v W'):
  ReturnsInHanded a C os f .any (λw args=>(s.pre enc C.prog fn conds apart w args∧X w args)∧sizedMet enc C.prog fn s apart w args) ((s.at F).post enc C.prog fn apart fresh handsOn again):=by
 refine returnsInHanded_of_calls own started noInit witness ?_;intro w tape i _ _ _ hok hpre hholds;obtain ⟨_,_,_,fn',hfn',_,_,_,_,hval⟩:=hok;have e:fn'=fn:=Option.some.inj (hfn'.symm.trans hfn);subst e;obtain ⟨ds,gs,before,hw,hc,hkk⟩:=(OpenSpec.pre_some hk conds apart _ _).1 hpre.1.1;have hw':=DataW.Whole.of_heap (w':=w.forCall tape i) (by rfl) hw;refine (contract (w.forCall tape i) w.heap.size i.args ds gs before hval hw' hc hkk (hX _ _ _ (by rfl) hpre.1.2) hholds).mono λe W' ⟨v,he,hp⟩=>?_;subst he;exact ChangeSpec.post_blind hp
theorem cond_witness {C:Checked}{os:Os}{f:FuncId}{fn:Func}{s:OpenSpec}{k:(H:Type)→List (DataW H)→Bool}(hk:s.cond=some k){conds:List PathCond}{apart:Bool}{X:World→Array Value→Prop}(modest:Bool)(w0:World)(args:Array Value)(fuel:Nat)(hos:w0.os=os)
  (hsh:(w0.forCall (λ_ _=>0) ⟨#[],args,[]⟩).Shaped C.prog)
  (hok:Input.okWideB C.prog (w0.forCall (λ_ _=>0) ⟨#[],args,[]⟩) f ⟨#[],args,[]⟩=true)
  {x:List (DataW H)×List (DataW H)×List MemPlace} (hx:DataW.whole enc C.prog (w0.forCall (λ_ _=>0) ⟨#[],args,[]⟩).memory fn.params.toList s.vars apart args.toList fuel=some x)
  (hconds:conds.all (PathCond.test C.prog ⟨fn.params.toList,x.1,s.bare.plain.varTypes C.prog,x.2.1⟩)=true) (hkk:k H (x.1++x.2.1)=true)
  (hsz:s.bare.sizedB enc C.prog fn apart (w0.forCall (λ_ _=>0) ⟨#[],args,[]⟩).memory args fuel=true)
  (hX:X (w0.forCall (λ_ _=>0) ⟨#[],args,[]⟩).memory args):
  ∃(w:World) (tape:Tape) (i:Input),w.os=os∧(w.forCall tape i).Shaped C.prog∧i.vars=[]∧Input.okWide C.prog (w.forCall tape i) .any w.heap.size f i∧
   ((s.pre enc C.prog fn conds apart (w.forCall tape i).memory i.args∧X (w.forCall tape i).memory i.args)∧sizedMet enc C.prog fn s apart (w.forCall tape i).memory i.args)∧({modest:=modest}:Assume).holds C.prog (lone (Frame.enter C.prog f i.args .normal) [] (w.forCall tape i)):=
 ⟨w0,λ_ _=>0,⟨#[],args,[]⟩,hos,hsh,(Input.okWide_of_okWideB (base:=0) hok).1,(Input.okWide_of_okWideB hok).2,
  ⟨⟨(OpenSpec.pre_some hk conds apart _ _).2 ⟨x.1,x.2.1,x.2.2,DataW.Whole_of_whole hx,hconds,hkk⟩,hX⟩,sizedMet_of_sizedB hsz⟩,by
  simp only [Assume.holds];exact ⟨by simp,by simp,λ_=>Modest.zero,by simp,by simp⟩⟩
end
theorem small_one {H:Type}{d:DataW H}{ds:List (DataW H)}(h:Rows.uptoSmall H ds=true)(hd:d∈ds):Rows.uptoBulk d≤1048576:=by
 unfold Rows.uptoSmall at h;have h:=of_decide_eq_true h;obtain ⟨i,hi⟩:=List.getElem?_of_mem hd;have:=Qc hi;omega
def spTab:List Int:=(List.range 256).map λi=>spN (UInt8.ofNat i)
theorem Uu {P:Program}{W:World}{name:String}{k:IntKind}{zs:List Int}{g:Nat}(h:Lib.TabIs P W name k zs)(hg:P.globalNamed name=some g):∃T fr,Dc W g=some (.cells (zs.map λz=>Value.int k z).toArray T fr):=by
 unfold Lib.TabIs World.var? at h;rw [hg] at h;simp only [zbv] at h;unfold Dc;split at h
 ·rename_i cs T fr hc
  simp only [zn] at h;subst h;exact ⟨T,fr,hc⟩
 ·cases h
theorem XY {W:World}(hL:laidMetH Tryz.prog Rows.pgsessionAbortsUptoRow.laid W):SpG (Dc W):=by
 have h1 := hL.filter (λx => x.1 == "strings.asciiSpace");rw [show (Rows.pgsessionAbortsUptoRow.laid.filter (λx => x.1 == "strings.asciiSpace")) = [("strings.asciiSpace", Lib.tabData .u8 spTab)] by kernel_rfl, MakeChecks.laidMetH_plain _ _ _ (by kernel_rfl)] at h1;have h2:=Lib.tabIs_of_head (g:=6) (t:=304) (e:=5) (n:=256) (by kernel_rfl) (by kernel_rfl) (by kernel_rfl) (by kernel_rfl) (by kernel_rfl) (by kernel_rfl) h1;obtain ⟨T,fr,h3⟩:=Uu h2 (g:=6) (by kernel_rfl);intro c;refine Cell.imm h3 ?_;have hc:=c.toNat_lt;have hl:c.toNat < (spTab.map λz=>Value.int .u8 z).length:=by simp [spTab];omega
 rw [zav,zam hl];simp [spTab]
theorem VZ {W:World}(hL:laidMetH Tryz.prog Rows.pgsessionAbortsUptoRow.laid W):XA (Dc W):=by
 have h1 := hL.filter (λx => x.1 == "internal/strconv.uint64pow10");rw [show (Rows.pgsessionAbortsUptoRow.laid.filter (λx => x.1 == "internal/strconv.uint64pow10")) = [("internal/strconv.uint64pow10", Lib.tabData .u64 Lib.pow10Tab)] by kernel_rfl, MakeChecks.laidMetH_plain _ _ _ (by kernel_rfl)] at h1;have hg : Tryz.prog.globalNamed "internal/strconv.uint64pow10" = some 0 := by kernel_rfl
 have h2 : Lib.TabIs Tryz.prog W "internal/strconv.uint64pow10" .u64 Lib.pow10Tab := Lib.tabIs_of_head (t := 250) (e := 194) (n := 20) hg (by kernel_rfl) (by kernel_rfl) (by kernel_rfl) (by kernel_rfl) (by kernel_rfl) h1;obtain ⟨T,fr,h3⟩:=Uu h2 hg;exact ⟨0,T,fr,hg,h3⟩
theorem ALk {W:World}{ω:Om}(hL:laidMetH Tryz.prog Rows.pgsessionAbortsUptoRow.laid W):EK ω (Dc W):=Ut (XK (XY hL))
section
variable {H:Type}{enc:TypeId×Value→H}{W:World}{base:Nat}
theorem ABU {v:Value}{d:DataW H}(o:Value.okWide Tryz.prog W .any base 36 v)(t:Td enc Tryz.prog W 36 v.cells.toList d)(hb:Rows.uptoBulk d≤1048576):∃xs:List TStep,RL Ui 8 (Dc W) [] v xs∧(∀x∈xs,Vo x.fO)∧(xs.map NT).sum≤1048576:=by
 obtain ⟨a,len,cap,rfl⟩:=WideShapes.okWide_slice (show Tryz.prog.underlying 36=some (.slice 44) by kernel_rfl) o;obtain ⟨xs,h1,h2,h3⟩:=Nv (R:=Ui) (Q:=λx=>Vo x.fO) (μ:=NT) 44 (by kernel_rfl) (n:=8) (by kernel_rfl) zx t (λc di _ hc=>AHg hc);exact ⟨xs,h1,h2,by omega⟩
end
theorem Xv (i q y:Nat)(hy:y < 2 ^ i)(hs:2 ^ i * q+y < 4294967296):Dv .or .u32 ((2 ^ i * q:Nat):Int) (y:Nat)=((2 ^ i * q+y:Nat):Int):=by
 have e:(BitVec.ofInt 32 ((2 ^ i * q:Nat):Int) ||| BitVec.ofInt 32 ((y:Nat):Int)).toNat=2 ^ i * q+y:=by
  rw [BitVec.toNat_or,BitVec.ofInt_natCast,BitVec.ofInt_natCast,BitVec.toNat_ofNat,BitVec.toNat_ofNat,Nat.mod_eq_of_lt zo,Nat.mod_eq_of_lt zo,Nat.two_pow_add_eq_or_of_lt hy]
 show IntKind.u32.wrap ((BitVec.ofInt 32 ((2 ^ i * q:Nat):Int) ||| BitVec.ofInt 32 ((y:Nat):Int)).toNat:Int)=_;rw [e,IntKind.wrap_u32];omega
def n4N (a b c d:UInt8):Nat:=((a.toNat * 256+b.toNat) * 256+c.toNat) * 256+d.toNat
theorem AFV (a b c d:UInt8):n4W a b c d=if n4N a b c d < 2147483648 then (n4N a b c d:Int) else (n4N a b c d:Int) - 4294967296:=by
 have ha:=a.toNat_lt;have hb:=b.toNat_lt;have hc:=c.toNat_lt;have hd:=d.toNat_lt;have w1:IntKind.u32.wrap ((a.toNat:Int) * 16777216)=((2 ^ 24 * a.toNat:Nat):Int):=by rw [IntKind.wrap_u32];omega
 have w2:IntKind.u32.wrap ((b.toNat:Int) * 65536)=((2 ^ 16 * b.toNat:Nat):Int):=by rw [IntKind.wrap_u32];omega
 have w3:IntKind.u32.wrap ((c.toNat:Int) * 256)=((2 ^ 8 * c.toNat:Nat):Int):=by rw [IntKind.wrap_u32];omega
 have o1:=Xv 24 a.toNat (2 ^ 16 * b.toNat) zo zo;have o2:=Xv 16 (2 ^ 8 * a.toNat+b.toNat) (2 ^ 8 * c.toNat) zo zo;have o3:=Xv 8 (2 ^ 16 * a.toNat+2 ^ 8 * b.toNat+c.toNat) d.toNat zo zo;have e2:2 ^ 24 * a.toNat+2 ^ 16 * b.toNat=2 ^ 16 * (2 ^ 8 * a.toNat+b.toNat):=by omega
 have e3:2 ^ 16 * (2 ^ 8 * a.toNat+b.toNat)+2 ^ 8 * c.toNat=2 ^ 8 * (2 ^ 16 * a.toNat+2 ^ 8 * b.toNat+c.toNat):=by omega
 have e4:2 ^ 8 * (2 ^ 16 * a.toNat+2 ^ 8 * b.toNat+c.toNat)+d.toNat=n4N a b c d:=by unfold n4N;omega
 have hlt:n4N a b c d < 4294967296:=by unfold n4N;omega
 unfold n4W;rw [w1,w2,w3,o1,e2,o2,e3,o3,e4];unfold i32;rw [IntKind.wrap_i32];split <;> omega
section
variable {ω:Om}{I:Imm}{L F:LH}{K:Value→M}{v:Value}
theorem Gy {l:Bs}(hv:Bytes I v l)(h4:4≤l.length)(hk:K (.int .i64 (n4W (l.getD 0 0) (l.getD 1 0) (l.getD 2 0) (l.getD 3 0))) I L):CT ω 33 #[v] K I L:=by
 refine ARU ?_;unfold APz;have hst:∀k (h:k < 4),∃b off,ixV 1 v (.int .i64 (k:Nat))=some (.pointer (some ⟨b,off,none⟩))∧∀I' L',Ext I I'→Cell I' L' b off (.int .u8 (l.getD k 0).toNat):=λk h=>Bytes.at' hv k zo;let N:Nat→Nat:=λk=>((List.range k).foldl (λn i=>n * 256+(l.getD i 0).toNat) 0)
 have hN:∀k,N (k+1)=N k * 256+(l.getD k 0).toNat:=λk=>by
  show (List.range (k+1)).foldl _ 0=_;rw [List.range_succ,List.foldl_append];rfl
 have hNb:∀k,k≤4→N k < 256 ^ k:=by
  intro k;induction k with
  |zero=>intro _;show 0 < 1;decide
  |succ k ih=>
   intro hk;have h1:=ih zo;have h2:=(l.getD k 0).toNat_lt;rw [hN,Nat.pow_succ];omega
 refine loop (λm st I' L'=>∃k:Nat,k+m=4∧st=(Value.int .i64 (N k:Nat),Value.int .i64 (k:Nat),())∧I'=I∧L'=L) 4 ⟨0,rfl,rfl,rfl,rfl⟩ ?_;rintro m st I' L' ⟨k,hkm,rfl,rfl,rfl⟩;unfold AED;try refine zqe ?_
 refine AL (λhb=>?_) (λhb=>?_)
 ·have hb:k < 4:=by have:=of_decide_eq_true hb;omega
  obtain ⟨b,off,e1,e2⟩:=hst k hb;have h1:=hNb (k+1) zo;rw [hN] at h1;have h2:256 ^ (k+1)≤256 ^ 4:=Nat.pow_le_pow_right zx zo;have h3:(256:Nat) ^ 4=4294967296:=rfl;simp only [e1,SSd,Nat.reduceAdd];refine rd1 (e2 _ _ (zAC _)) ?_;have w1:IntKind.i64.wrap (256 * ((N k:Nat):Int))=((256 * N k:Nat):Int):=by rw [wrap_i64 _ zo];omega
  have w2:IntKind.i64.wrap (((l.getD k 0).toNat:Nat):Int)=(((l.getD k 0).toNat:Nat):Int):=wrap_i64 _ (by have:=(l.getD k 0).toNat_lt;omega);have w3:IntKind.i64.wrap (((256 * N k:Nat):Int)+(((l.getD k 0).toNat:Nat):Int))=((N (k+1):Nat):Int):=by rw [wrap_i64 _ zo,hN];omega
  simp only [w1,w2,w3,wrap_i64 ((k:Int)+1) zo,SSd,Nat.reduceAdd];exact zAA ⟨m - 1,by omega,k+1,by omega,rfl,rfl,rfl⟩
 ·have hb:k=4:=by have:=of_decide_eq_false hb;omega
  subst hb;have e4:N 4=n4N (l.getD 0 0) (l.getD 1 0) (l.getD 2 0) (l.getD 3 0):=by
   rw [hN,hN,hN,hN];have:N 0=0:=rfl;rw [this];unfold n4N;omega
  rw [AFV] at hk;rw [e4];have hlt:=hNb 4 (zh _);have h3:(256:Nat) ^ 4=4294967296:=rfl;rw [e4] at hlt;generalize n4N (l.getD 0 0) (l.getD 1 0) (l.getD 2 0) (l.getD 3 0)=n at hk hlt ⊢;unfold AEC;try refine zqe ?_
  refine AL (λhb=>?_) (λhb=>?_)
  ·have hb:=of_decide_eq_true hb;rw [if_neg zo] at hk;simp only [wrap_i64 ((n:Int) - 4294967296) zo,SSd,Nat.reduceAdd];exact zAA hk
  ·have hb:=of_decide_eq_false hb;rw [if_pos zo] at hk;exact zAA hk
end
def Nq (l:Bs)(a:Nat):Int:=match (l.drop a).findIdx? (·==0) with
 |some i=>((a+i:Nat):Int)
 |none=> -1
theorem ACW {l:Bs}{a:Nat}(h:a < l.length):Nq l a=if l[a]==0 then (a:Int) else Nq l (a+1):=by
 unfold Nq;rw [zab h,List.findIdx?_cons];cases h0:(l[a]==0) with
 |true=>rfl
 |false=>
  cases (l.drop (a+1)).findIdx? (·==0) with
  |none=>rfl
  |some i=>
   show (((a+(i+1):Nat)):Int)=((a+1+i:Nat):Int);omega
theorem AFw {l:Bs}{a:Nat}(h:l.length≤a):Nq l a= -1:=by
 unfold Nq;rw [zan h];rfl
section
variable {ω:Om}{I:Imm}{L F:LH}{K:Value→M}{v:Value}
theorem Yk (c:UInt8):(((c.toNat:Nat):Int)==0)=(c==0):=eq_of_beq (EX (p:=λc=>((((c.toNat:Nat):Int)==0)==(c==0))) zq c)
theorem Rh {l:Bs}(a:Nat)(hv:Bytes I v l)(hl:l.length≤1000000000000)(ha:a≤1000000000000)(hk:K (.int .i64 (Nq l a)) I L):CT ω 80 #[v,.int .i64 (a:Nat)] K I L:=by
 refine AQr ?_;unfold APa;refine loop (λm st I' L'=>∃k:Nat,k+m=a+l.length∧a≤k∧k≤max a l.length∧st=(Value.int .i64 0,Value.int .i64 (k:Nat),())∧I'=I∧L'=L∧Nq l k=Nq l a) l.length ⟨a,by omega,by omega,by omega,rfl,rfl,rfl,rfl⟩ ?_;rintro m st I' L' ⟨k,hkm,hka,hkx,rfl,rfl,rfl,he⟩;unfold ADh;simp only [hv.len,SSd,Nat.reduceAdd];refine AL (λhb=>?_) (λhb=>?_)
 ·have hb:k < l.length:=by have:=of_decide_eq_true hb;omega
  obtain ⟨bt,off,e1,e2⟩:=Bytes.at hv hb;simp only [e1,SSd,Nat.reduceAdd];refine rd1 (e2 _ _ (zAC _)) ?_;rw [ACW hb] at he;simp only [Yk,SSd,Nat.reduceAdd];cases h0:(l[k]==0) with
  |true=>
   rw [h0,if_pos rfl] at he;rw [←he] at hk;try refine zqe ?_
   exact zAA hk
  |false=>
   rw [h0] at he;simp only [wrap_i64 ((k:Int)+1) zo,SSd,Nat.reduceAdd];exact zAA ⟨m - 1,by omega,k+1,by omega,by omega,by omega,rfl,rfl,rfl,he⟩
 ·have hb:¬k < l.length:=by have:=of_decide_eq_false hb;omega
  rw [AFw zo] at he;rw [←he] at hk;exact zAA hk
theorem Fe (s:Bs)(hl:s.length≤1000000000000)(hk:K (.bool (!(s.all (· != 0)))) I L):CT ω 81 #[.string ⟨s.toArray⟩] K I L:=by
 refine AQq ?_;unfold APZ;refine loop (λm st I' L'=>∃k:Nat,k+m=s.length∧st=(Value.bool false,Value.int .i64 (k:Nat),())∧I'=I∧L'=L∧(s.take k).all (· != 0)=true) s.length ⟨0,by omega,rfl,rfl,rfl,rfl⟩ ?_;rintro m st I' L' ⟨k,hkm,rfl,rfl,rfl,he⟩;unfold ADg;try refine zqe ?_
 have hsp:s.all (· != 0)=(s.drop k).all (· != 0):=by
  conv=>lhs;rw [←zZ k s]
  rw [zbc,he];rfl
 refine AL (λhb=>?_) (λhb=>?_)
 ·have hb:k < s.length:=by have:=of_decide_eq_true hb;omega
  simp only [ixS s (zam hb),Yk,SSd,Nat.reduceAdd];cases h0:(s[k]==0) with
  |true=>
   have:s.all (· != 0)=false:=by
    rw [hsp,zab hb,zbg];simp only [bne,h0];rfl
   rw [this] at hk;try refine zqe ?_
   exact zAA hk
  |false=>
   simp only [wrap_i64 ((k:Int)+1) zo,SSd,Nat.reduceAdd];refine zAA ⟨m - 1,by omega,k+1,by omega,rfl,rfl,rfl,?_⟩;rw [zf hb,zbc,he];simp only [zbg,List.all_nil,bne,h0];rfl
 ·have hb:¬k < s.length:=by have:=of_decide_eq_false hb;omega
  rw [zW zo] at he;rw [he] at hk;exact zAA hk
theorem Ep {X:LH}{l:Bs}(s:Bs)[hs:SplitL X L F](ho:OwB X v l)(hl:l.length+s.length≤1000000000000)(hk:∀X' v',OwB X' v' (l++(s++[0]))→K v' I (X'++F)):CT ω 82 #[v,.string ⟨s.toArray⟩] K I L:=by
 refine zAM X ?_;refine AQp ?_;unfold APY;refine BL (X:=X) (n:=1) (m:=s.length) rfl ho (news:=Lib.byteCells s) (.inr (.inr ⟨⟨s.toArray⟩,rfl,rfl,rfl,rfl⟩)) (λu hu=>?_) zo zo (λX2 v2 hX2=>?_)
 ·obtain ⟨d,_,rfl⟩:=zaf.1 hu;rfl
 have hX2:OwB X2 v2 (l++s):=OwB.mk hX2;refine Bh (v:=.int .u8 0) rfl zx rfl (λX1 u hX1=>?_);refine BL (X:=X2) (n:=1) (m:=1) rfl hX2 (news:=Lib.byteCells [0]) (hX1.news (λx hx=>zY _ hx)) (AV rfl) (by rw [zk];omega) (by rw [zk];omega) (λX3 v3 hX3=>?_);have hX3:OwB X3 v3 (l++s++[0]):=OwB.mk hX3;rw [zt] at hX3;exact zAE (X3++F) (zAA (hk X3 v3 hX3))
theorem Kv (n:Int)(hk:K (.bool (n==i32 n)) I L):CT ω 83 #[.int .i64 n] K I L:=by
 refine AQo ?_;unfold APX;have e:(n==i32 n)=(decide (-2147483648≤n)&&decide (n≤2147483647)):=by
  unfold i32;by_cases h: -2147483648≤n∧n≤2147483647
  ·rw [IntWalk.i32_in n h,decide_eq_true h.1,decide_eq_true h.2];simp
  ·have h1:n≠IntKind.i32.wrap n:=by rw [IntKind.wrap_i32];omega
   rw [beq_false_of_ne h1];by_cases h2: -2147483648≤n
   ·rw [decide_eq_true h2,decide_eq_false zo];rfl
   ·rw [decide_eq_false h2];rfl
 rw [e] at hk;try refine zqe ?_
 cases h1:decide (-2147483648≤n) with
 |true=>
  rw [h1,Bool.true_and] at hk;try refine zqe ?_
  exact zAA hk
 |false=>
  rw [h1] at hk;try refine zqe ?_
  exact zAA hk
theorem UF (t:Int){c:Int×Int}(h:KI t=some c)(hk:K (.tuple #[.int .i64 c.1,.int .i64 c.2,.bool true]) I L):CT ω 109 #[.int .i64 t] K I L:=by
 refine AOo ?_;unfold AKv;unfold KI at h;try refine zqe ?_
 cases h1:(t==1) with
 |true=>
  rw [h1] at h;simp only [if_true,zn] at h;subst h;simp only [SSd,Nat.reduceAdd];exact zAA hk
 |false=>
 rw [h1] at h;try refine zqe ?_
 cases h2:(t==2) with
 |true=>
  rw [h2] at h;simp at h;subst h;simp only [SSd,Nat.reduceAdd];exact zAA hk
 |false=>
 rw [h2] at h;try refine zqe ?_
 cases h3:(t==3) with
 |true=>
  rw [h3] at h;simp at h;subst h;simp only [SSd,Nat.reduceAdd];exact zAA hk
 |false=>rw [h3] at h;simp at h
end
theorem Uz (c:UInt8):ABb c=true↔(48≤c.toNat∧c.toNat≤57)∨(65≤c.toNat∧c.toNat≤90):=by
 have:=EX (p:=λc=>(ABb c==((decide (48≤c.toNat)&&decide (c.toNat≤57))||(decide (65≤c.toNat)&&decide (c.toNat≤90))))) zq c;rw [eq_of_beq this];simp
section
variable {ω:Om}{I:Imm}{L F:LH}{K:Value→M}{v:Value}
theorem Qo {s:Bs}(hs:Dq s=true)(hk:K (.bool true) I L):CT ω 110 #[.string ⟨s.toArray⟩] K I L:=by
 refine AOn ?_;unfold AKu;unfold Dq at hs;simp only [zQ,beq_iff_eq,zas] at hs;obtain ⟨h5,hall⟩:=hs;refine loop (λm st I' L'=>∃k:Nat,k+m=s.length∧st=(Value.bool false,Value.int .i64 (k:Nat),())∧I'=I∧L'=L) s.length ⟨0,by omega,rfl,rfl,rfl⟩ ?_;rintro m st I' L' ⟨k,hkm,rfl,rfl,rfl⟩;unfold AAV;try refine zqe ?_
 refine AL (λhb=>?_) (λhb=>?_)
 ·have hb:k < s.length:=by have:=of_decide_eq_true hb;omega
  have hst:=(Uz s[k]).1 (hall _ (zar hb));simp only [ixS s (zam hb),wrap_i64 ((k:Int)+1) zo,SSd,Nat.reduceAdd];have hnx:∀Kn0:(Value×Value×Unit)→M,Kn0 (Value.bool false,Value.int .i64 ((k+1:Nat):Int),()) I' L'→Kn0 (Value.bool false,Value.int .i64 ((k:Int)+1),()) I' L':=λ_ h=>h;refine BX (λh1=>?_) (λh1=>?_)
  ·refine BX (λh2=>?_) (λh2=>?_)
   ·have h2:=of_decide_eq_false h2;have e3:decide (65≤((s[k].toNat:Nat):Int))=true:=decide_eq_true zo;have e4:decide (((s[k].toNat:Nat):Int)≤90)=true:=decide_eq_true zo;simp only [e3,e4,SSd,Nat.reduceAdd];exact zAA ⟨m - 1,by omega,k+1,by omega,rfl,rfl,rfl⟩
   ·exact zAA ⟨m - 1,by omega,k+1,by omega,rfl,rfl,rfl⟩
  ·have h1:¬(48≤((s[k].toNat:Nat):Int)):=λh=>h1 (decide_eq_true h);omega
 ·have hb:¬k < s.length:=by have:=of_decide_eq_false hb;omega
  unfold AAU;simp only [h5,SSd,Nat.reduceAdd];exact zAA hk
theorem ACU (n:Int)(j:Nat):(n.fdiv (2 ^ (8 * j))).fdiv (2 ^ 8)=n.fdiv (2 ^ (8 * (j+1))):=by
 have h1:(0:Int)≤2 ^ (8 * j):=Int.le_of_lt (Int.pow_pos zx);have h2:(0:Int)≤2 ^ (8 * (j+1)):=Int.le_of_lt (Int.pow_pos zx);rw [zaP _ h1,zaP _ zx,zaP _ h2,Int.ediv_ediv_of_nonneg h1,show 8 * (j+1)=8 * j+8 by omega,Int.pow_add]
theorem FQ (n:Int)(k:Nat)(kv:Int)(hkv:kv=(k:Nat))(hk1:k≤8)(hz:(Builtin.zeroCells #[.int .u8 0] k).toList=Lib.byteCells (List.replicate k 0))(hk:∀X' v',OwB X' v' (beB n k)→K v' I (X'++L)):CT ω 59 #[.int .i64 n,.int .i64 kv] K I L:=by
 subst hkv;refine ARA ?_;unfold APi;refine AFY (ln:=k) (cn:=k) (zh k) zo zo (λX v hX=>?_);rw [hz] at hX;simp only [wrap_i64 ((k:Int) - 1) zo,SSd,Nat.reduceAdd];refine loop (λm st I' L'=>∃X':LH,m≤k∧st=(Value.int .i64 (n.fdiv (2 ^ (8 * (k - m)))),Value.int .i64 ((m:Int) - 1),())∧I'=I∧L'=X'++L∧SlO 5 1 X' v (Lib.byteCells (List.replicate m 0++beB n (k - m))) k) k ⟨X,zh k,by rw [Nat.sub_self];simp,rfl,rfl,by rw [Nat.sub_self];simpa [beB] using hX⟩ ?_;rintro m st I' L' ⟨X',hm,rfl,rfl,rfl,hX'⟩;unfold ADl;try refine zqe ?_
 refine AL (λhb=>?_) (λhb=>?_)
 ·have hm0:1≤m:=by
   have:=of_decide_eq_true hb;omega
  obtain ⟨q,rfl⟩:∃q,m=q+1:=⟨m - 1,by omega⟩;have e1:((q+1:Nat):Int) - 1=(q:Int):=by omega
  obtain ⟨b',g1,g2⟩:=PO (I:=I') (L:=X'++L) (F:=L) (u:=.int .u8 (byI (n.fdiv (2 ^ (8 * (k - (q+1)))))).toNat) (i:=(q:Nat)) hX' zo zo rfl;have hsh:AA .shr (.int .i64 (n.fdiv (2 ^ (8 * (k - (q+1)))))) (.int .u64 8)=some (.int .i64 ((n.fdiv (2 ^ (8 * (k - (q+1))))).fdiv (2 ^ 8))):=rfl;rw [ACU,show k - (q+1)+1=k - q by omega] at hsh;simp only [e1,g1,hsh,←OW,SSd,Nat.reduceAdd];refine g2 _ (λX5 hX5=>?_);simp only [wrap_i64 ((q:Int) - 1) zo,SSd,Nat.reduceAdd];have hset:(Lib.byteCells (List.replicate (q+1) 0++beB n (k - (q+1)))).set ((q:Nat):Int).toNat (.int .u8 (byI (n.fdiv (2 ^ (8 * (k - (q+1)))))).toNat)=Lib.byteCells (List.replicate q 0++beB n (k - q)):=by
   rw [show k - q=(k - (q+1))+1 by omega,beB,zbp];simp only [Lib.byteCells,←List.map_set];congr 1
   rw [List.replicate_succ',zt,List.set_append_right _ _ zy];simp
  rw [hset] at hX5;exact zAA ⟨q,by omega,X5,by omega,rfl,rfl,rfl,hX5⟩
 ·have hm0:m=0:=by
   have:=of_decide_eq_false hb;omega
  subst hm0;have hX':OwB X' v (beB n k):=by
   unfold OwB;rw [Ak];simpa using hX'
  exact zAA (hk X' v hX')
end
theorem ABG:∀s:Bs,(Lib.byteCells s).flatMap (·.cells.toList)=Lib.byteCells s
 |[]=>rfl
 |a::s=>by
  have:=ABG s;unfold Lib.byteCells at *;rw [zF,zaH,this];rfl
section
variable {ω:Om}{I:Imm}{L F:LH}{K:Value→M}{v:Value}
theorem Yc {X X1:LH}{u:Value}{l s:Bs}[hs:SplitL X L F](ho:OwB X v l)(h1:OwB X1 u s)(hL:∀x∈X1,x∈L)(hl:l.length+s.length≤1000000000000)(hk:∀X' v',OwB X' v' (l++s)→Gh (K v') I (X'++F)):App 5 1 1 #[.int .u8 0] v u (gh K) I L:=by
 refine Ls (X:=X) (n:=1) (m:=s.length) rfl ho (news:=Lib.byteCells s) (h1.news hL) (λu hu=>?_) zo zo (λX2 v2 hX2=>hk X2 v2 (OwB.mk hX2));obtain ⟨d,_,rfl⟩:=zaf.1 hu;rfl
theorem NI {n:Nat}{parts:List (Nat×Value)}(s:Bs)(hp:parts=Qj 0 (Lib.byteCells s))(hl:s.length=n)(hk:∀X u,OwB X u s→Gh (K u) I (X++L)):AC 5 1 #[.int .u8 0] n parts (gh K) I L:=by
 subst hl;refine AGM (Lib.byteCells s) hp (by simp [Lib.byteCells]) (λv hv=>?_) (λX a hX=>hk X _ ?_)
 ·obtain ⟨d,_,rfl⟩:=zaf.1 hv;rfl
 ·rw [ABG s] at hX;exact hX
theorem Vk {n:Nat}{parts:List (Nat×Value)}{X:LH}{l:Bs}[hs:SplitL X L F](ho:OwB X v l)(s:Bs)(hp:parts=Qj 0 (Lib.byteCells s))(hn:s.length=n)(hl:l.length+s.length≤1000000000000)(hk:∀X' v',OwB X' v' (l++s)→K v' I (X'++F)):AC 5 1 #[.int .u8 0] n parts (gh λu=>App 5 1 1 #[.int .u8 0] v u (gh K)) I L:=
 NI s hp hn (λX1 u hu=>zAA (Yc ho hu (λx hx=>zY _ hx) hl (λX' v' h=>zAE (X'++F) (zAA (hk X' v' h)))))
theorem AHO {X:LH}{l:Bs}[hs:SplitL X L F](ho:OwB X v l)(n:Int)(k:Nat)(kv:Int)(hkv:kv=(k:Nat))(hk1:k≤8)(hz:(Builtin.zeroCells #[.int .u8 0] k).toList=Lib.byteCells (List.replicate k 0))(hl:l.length≤100000000000)(hk:∀X' v',OwB X' v' (l++beB n k)→K v' I (X'++F)):CT ω 59 #[.int .i64 n,.int .i64 kv] (gh λu=>App 5 1 1 #[.int .u8 0] v u (gh K)) I L:=
 call (FQ n k kv hkv hk1 hz (λX1 u hu=>Yc ho hu (λx hx=>zY _ hx) (by rw [Ak];omega) (λX' v' h=>zAE (X'++F) (zAA (hk X' v' h)))))
theorem UG {w:Value}{l:List TField}{t:Bs}(hx:RL TFieldV 2 I [] w l)(ht:Bl l=some t)(hn:l.length≤1600)(hl:t.length≤10000000000)(hk:∀X v,OwB X v (beB l.length 2++t)→K (.tuple #[v,.bool true]) I (X++L)):CT ω 84 #[w] K I L:=by
 refine AQn ?_;unfold APW;simp only [zAK hx,SSd,Nat.reduceAdd];refine call (FQ _ 2 2 rfl zo (by kernel_rfl) (λX v hX=>?_));refine loop (λm st I' L'=>∃(k:Nat) (X':LH) (v':Value) (a b:Bs),k+m=l.length∧st=(Value.slice none 0 0,Value.bool false,v',Value.int .i64 (k:Nat),())∧I'=I∧L'=X'++L∧Bl (l.drop k)=some b∧a++b=t∧OwB X' v' (beB l.length 2++a)) l.length ⟨0,X,v,[],t,by omega,rfl,rfl,rfl,by simpa using ht,rfl,by simpa using hX⟩ ?_;rintro m st I' L' ⟨k,X',v',a,b,hkm,rfl,rfl,rfl,hb,hab,hX'⟩;unfold ADf;simp only [zAK hx,SSd,Nat.reduceAdd];refine AL (λhq=>?_) (λhq=>?_)
 ·have hq:k < l.length:=by have:=of_decide_eq_true hq;omega
  obtain ⟨bt,off,c1,g1,gl,g2,g3⟩:=RL.ix hx (i:=k) zo zo;rw [BA hq] at g2;have g2:c1=_:=g2;subst g2;rw [zab hq] at hb;generalize hf:l[k]=f at *;obtain ⟨fn,ft⟩:=f;simp only [Bl] at hb;cases hc:KI ft with
  |none=>rw [hc] at hb;cases hb
  |some c=>
  rw [hc] at hb;simp only at hb
  split at hb
  case isFalse=>cases hb
  case isTrue hcl=>
  obtain ⟨b',hb',rfl⟩:=zaw.1 hb;have hall:fn.all (· != 0)=true:=by simpa [clB] using hcl
  have htl:a.length+((fn.length+19)+b'.length)=t.length:=by
   rw [←hab];simp only [zk,JF]
  simp only [g1,SSd,Nat.reduceAdd];refine rd1 (g3 _ _ (zAC _) (λ_ h=>by cases h) 1 _ rfl) ?_;refine call (UF ft hc ?_);try refine zqe ?_
  refine rd1 (g3 _ _ (zAC _) (λ_ h=>by cases h) 0 _ rfl) ?_;refine call (Fe fn zo ?_);simp only [hall,zB,SSd,Nat.reduceAdd];refine rd1 (g3 _ _ (zAC _) (λ_ h=>by cases h) 0 _ rfl) ?_;have hbl:(beB (l.length:Nat) 2++a).length=a.length+2:=by rw [zk,Ak];omega
  refine call (Ep (X:=X') fn hX' zo (λX1 u1 hX1=>?_));refine Vk (X:=X1) hX1 [0,0,0,0,0,0] rfl rfl (by simp only [zU] at *; omega) (λX2 u2 hX2=>?_);refine AHO (X:=X2) hX2 c.1 4 4 rfl zo (by kernel_rfl) (by simp only [zU] at *; omega) (λX3 u3 hX3=>?_);refine AHO (X:=X3) hX3 c.2 2 2 rfl zo (by kernel_rfl) (by simp only [zU,Ak] at *; omega) (λX4 u4 hX4=>?_);refine Vk (X:=X4) hX4 [255,255,255,255,0,0] rfl rfl (by simp only [zU,Ak] at *; omega) (λX5 u5 hX5=>?_);simp only [wrap_i64 ((k:Int)+1) zo,SSd,Nat.reduceAdd];refine zAA ⟨m - 1,by omega,k+1,X5,u5,a++NC ⟨fn,ft⟩ c,b',by omega,rfl,rfl,rfl,hb',by rw [zt,hab],?_⟩;have e:beB (l.length:Nat) 2++(a++NC ⟨fn,ft⟩ c)=beB (l.length:Nat) 2++a++(fn++[0])++[0,0,0,0,0,0]++beB c.1 4++beB c.2 2++[255,255,255,255,0,0]:=by
   have z4:beB 0 4=[0,0,0,0]:=by decide
   have z2:beB 0 2=[0,0]:=by decide
   have m4:beB (-1) 4=[255,255,255,255]:=by decide
   simp only [NC,EH,zt,z4,z2,m4];rfl
  rw [e];simpa only [zt] using hX5
 ·have hq:¬k < l.length:=by have:=of_decide_eq_false hq;omega
  rw [zan zo] at hb;simp only [Bl,zn] at hb;subst hb;rw [zaK] at hab;subst hab;unfold ADe;simp only [zAK hx,show decide ((l.length:Int)≤1600)=true from decide_eq_true zo,SSd,Nat.reduceAdd];exact zAA (hk X' v' hX')
end
section
variable {ω:Om}{I:Imm}{L F:LH}{K:Value→M}{v:Value}
theorem VX {w:Value}{l:List TCell}(hx:RL TCellV 2 I [] w l)(hl:BH l≤1073741824)
  (hk:∀X v,OwB X v (beB l.length 2++l.flatMap Au)→K (.tuple #[v,.bool true]) I (X++L)) (p2 p3:Value):
  ∀(X:LH) (v:Value),OwB X v (beB l.length 2)→Aq ((v,(Value.int .i64 0),()):Value×Value×Unit) (λs Kn1=>Xe ω w p2 p3 s.1 s.2.1 Kn1 (λv=>Gh (K v))) I (X++L):=by
 have hcl:∀a b:List TCell,a++b=l→(a.flatMap Au).length+4 * b.length+(b.map λc=>c.fText.length).sum≤1073741824:=by
  intro a b h;subst h;have e1:∀a:List TCell,(a.flatMap Au).length≤(a.map λc=>4+c.fText.length).sum:=by
   intro a;induction a with
   |nil=>simp
   |cons c a ih=>
    simp only [zaH,zk,zF,zae];have:(Au c).length≤4+c.fText.length:=by
     unfold Au;split
     ·rw [Ak];omega
     ·rw [zk,Ak];omega
    omega
  have e2:∀b:List TCell,4 * b.length+(b.map λc=>c.fText.length).sum=(b.map λc=>4+c.fText.length).sum:=by
   intro b;induction b with
   |nil=>rfl
   |cons c b ih=>simp only [zi,zF,zae];omega
  have:=e1 a;have:=e2 b;unfold BH at hl;rw [zaa,zaR] at hl;omega
 intro X v hX;refine loop (λm st I' L'=>∃(k:Nat) (X':LH) (v':Value),k+m=l.length∧st=(v',Value.int .i64 (k:Nat),())∧I'=I∧L'=X'++L∧OwB X' v' (beB l.length 2++(l.take k).flatMap Au)) l.length ⟨0,X,v,by omega,rfl,rfl,rfl,by simpa using hX⟩ ?_;rintro m st I' L' ⟨k,X',v',hkm,rfl,rfl,rfl,hX'⟩;unfold Xe;simp only [zAK hx,SSd,Nat.reduceAdd];have hlen:l.length≤1073741824:=by have:=hcl [] l rfl;omega
 refine AL (λhb=>?_) (λhb=>?_)
 ·have hb:k < l.length:=by
   have:=of_decide_eq_true hb;omega
  obtain ⟨bt,off,c1,g1,gl,g2,g3⟩:=RL.ix hx (i:=k) zo zo;rw [BA hb] at g2;have g2:c1=_:=g2;subst g2;have et:(l.take (k+1)).flatMap Au=(l.take k).flatMap Au++Au l[k]:=by
   rw [zf hb,zbx];simp
  have hs:=hcl (l.take k) (l[k]::l.drop (k+1)) (by rw [←zab hb,zZ]);simp only [zF,zae,zi] at hs;generalize hf:l[k]=f at *;obtain ⟨cn,ct⟩:=f;simp only at *
  have hnext:∀X2 u2,OwB X2 u2 (beB l.length 2++(l.take k).flatMap Au++Au ⟨cn,ct⟩)→∃m',m' < m∧∃(k':Nat) (X'':LH) (v'':Value),k'+m'=l.length∧(u2,Value.int .i64 ((k:Int)+1),())=(v'',Value.int .i64 (k':Nat),())∧I'=I'∧X2++L=X''++L∧OwB X'' v'' (beB l.length 2++(l.take k').flatMap Au):=by
   intro X2 u2 h;exact ⟨m - 1,by omega,k+1,X2,u2,by omega,rfl,rfl,rfl,by rw [et,←zt];exact h⟩
  have hbl:(beB (l.length:Nat) 2++(l.take k).flatMap Au).length=2+((l.take k).flatMap Au).length:=by rw [zk,Ak]
  simp only [g1,SSd,Nat.reduceAdd];refine rd1 (g3 _ _ (zAC _) (λ_ h=>by cases h) 0 _ rfl) ?_;cases cn with
  |true=>
   try refine zqe ?_
   refine Vk (X:=X') hX' [255,255,255,255] rfl rfl (by rw [hbl];show 2+_+4≤_;omega) (λX2 u2 hX2=>?_);unfold TG;simp only [wrap_i64 ((k:Int)+1) zo,SSd,Nat.reduceAdd];have m4:Au ⟨true,ct⟩=[255,255,255,255]:=by
    have:beB (-1) 4=[255,255,255,255]:=by decide
    simp [Au,this]
   exact zAA (hnext X2 u2 (by rw [m4];exact hX2))
  |false=>
   try refine zqe ?_
   refine rd1 (g3 _ _ (zAC _) (λ_ h=>by cases h) 1 _ rfl) ?_;try refine zqe ?_
   refine AHO (X:=X') hX' _ 4 4 rfl zo (by kernel_rfl) zo (λX2 u2 hX2=>?_);refine rd1 (g3 _ _ (zAC _) (λ_ h=>by cases h) 1 _ rfl) ?_;refine BL (X:=X2) (n:=1) (m:=ct.length) rfl hX2 (news:=Lib.byteCells ct) (.inr (.inr ⟨⟨ct.toArray⟩,rfl,rfl,rfl,rfl⟩)) (λu hu=>?_) (by rw [zk,hbl,Ak];omega) (by rw [zk,hbl,Ak];omega) (λX3 u3 hX3=>?_)
   ·obtain ⟨d,_,rfl⟩:=zaf.1 hu;rfl
   have hX3:OwB X3 u3 (beB l.length 2++(l.take k).flatMap Au++beB ct.length 4++ct):=OwB.mk hX3;unfold TG;simp only [wrap_i64 ((k:Int)+1) zo,SSd,Nat.reduceAdd];have m4:Au ⟨false,ct⟩=beB ct.length 4++ct:=by simp [Au]
   exact zAA (hnext X3 u3 (by rw [m4,←zt];exact hX3))
 ·have hb:¬k < l.length:=by have:=of_decide_eq_false hb;omega
  rw [zW zo] at hX';exact zAA (hk X' v' hX')
theorem VW {w:Value}{l:List TCell}(hx:RL TCellV 2 I [] w l)(hno:(l.any λc=>c.fNull&&c.fText != [])=false)(hl:BH l≤1073741824)(hn:l.length≤1600)
  (hk:∀X v,OwB X v (beB l.length 2++l.flatMap Au)→K (.tuple #[v,.bool true]) I (X++L)):CT ω 85 #[w] K I L:=by
 have hsm:∀k,((l.take k).map λc=>c.fText.length).sum≤1073741824:=by
  intro k;have h1:=Gw (λc:TCell=>c.fText.length) l k;have h2:∀l:List TCell,(l.map λc=>c.fText.length).sum≤(l.map λc=>4+c.fText.length).sum:=by
   intro l;induction l with
   |nil=>simp
   |cons c l ih=>simp only [zF,zae];omega
  have:=h2 l;unfold BH at hl;omega
 refine AQm ?_;unfold APV;simp only [zAK hx,SSd,Nat.reduceAdd];refine call (FQ _ 2 2 rfl zo (by kernel_rfl) (λX v hX=>?_));refine loop (λm st I' L'=>∃k:Nat,k+m=l.length∧st=(Value.slice none 0 0,Value.bool false,Value.int .i64 (((l.take k).map λc=>c.fText.length).sum:Nat),Value.int .i64 (k:Nat),())∧I'=I∧L'=X++L) l.length ⟨0,by omega,rfl,rfl,rfl⟩ ?_;rintro m st I' L' ⟨k,hkm,rfl,rfl,rfl⟩;unfold ADd;simp only [zAK hx,SSd,Nat.reduceAdd];refine AL (λhb=>?_) (λhb=>?_)
 ·have hb:k < l.length:=by have:=of_decide_eq_true hb;omega
  obtain ⟨bt,off,c1,g1,gl,g2,g3⟩:=RL.ix hx (i:=k) zo zo;rw [BA hb] at g2;have g2:c1=_:=g2;subst g2;have hs1:=hsm (k+1);have hs:((l.take (k+1)).map λc=>c.fText.length).sum=((l.take k).map λc=>c.fText.length).sum+l[k].fText.length:=by
   rw [zf hb,zaa,zaR];simp
  have hnl:=List.any_eq_false.1 hno l[k] (zar hb);generalize hf:l[k]=f at *;obtain ⟨cn,ct⟩:=f;simp only at *
  have hnext:∃m',m' < m∧∃k':Nat,k'+m'=l.length∧(Value.slice none 0 0,Value.bool false,Value.int .i64 ((((l.take k).map λc=>c.fText.length).sum:Nat)+(ct.length:Nat):Int),Value.int .i64 ((k:Int)+1),())=(Value.slice none 0 0,Value.bool false,Value.int .i64 (((l.take k').map λc=>c.fText.length).sum:Nat),Value.int .i64 (k':Nat),())∧I'=I'∧X++L=X++L:=⟨m - 1,by omega,k+1,by omega,by rw [hs];rfl,rfl,rfl⟩;simp only [g1,SSd,Nat.reduceAdd];refine rd1 (g3 _ _ (zAC _) (λ_ h=>by cases h) 0 _ rfl) ?_;cases cn with
  |true=>
   have ht:ct=[]:=by
    cases ct with
    |nil=>rfl
    |cons a b=>exact absurd rfl hnl
   subst ht;try refine zqe ?_
   refine rd1 (g3 _ _ (zAC _) (λ_ h=>by cases h) 1 _ rfl) ?_;have e0:BB .neq (.string ⟨([]:Bs).toArray⟩) (.string ⟨#[]⟩)=some (.bool false):=sNe [] [];simp only [e0,SSd,Nat.reduceAdd];refine rd1 (g3 _ _ (zAC _) (λ_ h=>by cases h) 1 _ rfl) ?_;simp only [wrap_i64 ((k:Int)+1) zo,SSd,Nat.reduceAdd];rw [wrap_i64 _ (by simp only [zH] at *; omega)];exact zAA hnext
  |false=>
   try refine zqe ?_
   refine rd1 (g3 _ _ (zAC _) (λ_ h=>by cases h) 1 _ rfl) ?_;simp only [wrap_i64 ((k:Int)+1) zo,SSd,Nat.reduceAdd];rw [wrap_i64 _ zo];exact zAA hnext
 ·have hb:¬k < l.length:=by have:=of_decide_eq_false hb;omega
  have hs:=hsm k;unfold ADc;have d1:decide ((l.length:Int) > 1600)=false:=decide_eq_false zo;have d2:decide (((((l.take k).map λc=>c.fText.length).sum:Nat):Int) > 1073741824)=false:=decide_eq_false zo;have d1':decide ((1600:Int) < (l.length:Nat))=false:=decide_eq_false zo;have d2':decide ((1073741824:Int) < (((l.take k).map λc=>c.fText.length).sum:Nat))=false:=decide_eq_false zo;simp only [zAK hx,d1,d2,d1',d2',SSd,Nat.reduceAdd];exact VX hx hl hk _ _ X v hX
end
section
variable {ω:Om}{I:Imm}{L F:LH}{K:Value→M}{m:TBack}{bm:Nat}{v0 v1 p2 p3:Value}
theorem RZ {sev:Bs}(hsev:sev.length=5)(hst:Dq m.fState=true)(hcl:m.fText.all (· != 0)=true)(hsz:m.fText.length≤10000000000)
  (hk:∀X v,OwB X v (txB [83::sev,86::sev,67::m.fState,77::m.fText]++[0])→K (.tuple #[v,.bool true]) I (X++F)):
  TF ω (.pointer (some ⟨bm,0,none⟩)) p2 p3 (.string ⟨sev.toArray⟩) (λv=>Gh (K v)) I ((bm,BkO (cmB m v0 v1))::F):=by
 have hs5:m.fState.length=5:=by
  unfold Dq at hst;simp only [zQ,beq_iff_eq] at hst;exact hst.1
 unfold TF;try refine zqe ?_
 refine rdb ?_;refine call (Qo hst ?_);try refine zqe ?_
 refine rdb ?_;refine call (Fe m.fText zo ?_);simp only [hcl,zB,SSd,Nat.reduceAdd];refine NI [83] rfl rfl (λX1 u1 h1=>zAA ?_);refine call (Ep (X:=X1) sev h1 zu (λX2 u2 h2=>?_));refine Vk (X:=X2) h2 [86] rfl rfl zu (λX3 u3 h3=>?_);refine call (Ep (X:=X3) sev h3 zu (λX4 u4 h4=>?_));refine WG [(bm,BkO (cmB m v0 v1))] ?_;refine NI [67] rfl rfl (λX5 u5 h5=>zAA ?_);refine BK (zAC _) ?_;refine Yc (X:=X4) h4 h5 (λx hx=>zY _ hx) zu (λX6 u6 h6=>zAA ?_);refine BK (zAC _) ?_;try refine zqe ?_
 refine BJ ?_;refine call (Ep (X:=X6) m.fState h6 zu (λX7 u7 h7=>?_));refine WG [(bm,BkO (cmB m v0 v1))] ?_;refine NI [77] rfl rfl (λX8 u8 h8=>zAA ?_);refine BK (zAC _) ?_;refine Yc (X:=X7) h7 h8 (λx hx=>zY _ hx) zu (λX9 u9 h9=>zAA ?_);refine BK (zAC _) ?_;try refine zqe ?_
 refine BJ ?_;refine call (Ep (X:=X9) m.fText h9 zu (λXa ua ha=>?_));refine Vk (X:=Xa) ha [0] rfl rfl zu (λXb ub hb=>?_);try simp only [Qh,SSd,Nat.reduceAdd]
 refine zAE (Xb++F) (zAA (hk Xb ub ?_));have e:txB [83::sev,86::sev,67::m.fState,77::m.fText]++[0]=[83]++(sev++[0])++[86]++(sev++[0])++[67]++(m.fState++[0])++[77]++(m.fText++[0])++[0]:=by
  simp [txB]
 rw [e];exact hb
theorem Qn {cm:List Value}(hcm:cm=cmB m v0 v1)(hst:Dq m.fState=true)(hcl:m.fText.all (· != 0)=true)(hsz:m.fText.length≤10000000000)
  (hk:∀X v,OwB X v (txB [83::(if m.fFatal then [70,65,84,65,76] else [69,82,82,79,82]),86::(if m.fFatal then [70,65,84,65,76] else [69,82,82,79,82]),67::m.fState,77::m.fText]++[0])→K (.tuple #[v,.bool true]) I (X++L)):
  CT ω 86 #[.agg cm.toArray] K I L:=by
 subst hcm;refine AQl ?_;unfold APU;try refine zqe ?_
 refine Ap (λbm=>?_);try refine zqe ?_
 refine rdb ?_;cases hf:m.fFatal with
 |true=>
  rw [hf] at hk;try refine zqe ?_
  exact RZ (sev:=[70,65,84,65,76]) rfl hst hcl hsz hk
 |false=>
  rw [hf] at hk;try refine zqe ?_
  exact RZ (sev:=[69,82,82,79,82]) rfl hst hcl hsz hk
end
section
variable {ω:Om}{I:Imm}{L F:LH}{K:Value→M}{m:TBack}
def EN (m:TBack):Int:=((tagsW.getD m.fKind.toNat 0).toNat:Nat)
theorem ALE (s:Bs)(hl:s.length≤100000000000)(hk:∀X' v',OwB X' v' (s++[0])→K v' I (X'++L)):CT ω 82 #[.slice none 0 0,.string ⟨s.toArray⟩] K I L:=
 Ep (X:=[]) (l:=[]) (F:=L) (hs:=⟨List.Perm.refl _⟩) s (zAJ _ _) zu hk
theorem Xk {cm:List Value}(hm:TBackV I m cm)(h10:(m.fKind==10)=false)(hb:(Am m).2.2.2=true)(hl:max (Am m).2.2.1 (Am m).2.1.length+4≤1073741824)(hsz:Di m≤10000000000)(hst:0≤m.fStatus∧m.fStatus≤255)
  (hk:∀co X v,TBackV I (Am m).1 co→OwB X v (Am m).2.1→K (.tuple #[.agg co.toArray,v,.int .u8 (EN m),.bool true]) I (X++L)):CT ω 58 #[.agg cm.toArray] K I L:=by
 have hms:m.fName.length+m.fText.length+m.fState.length+(m.fFields.map λf=>f.fName.length+19).sum+BH m.fCells≤10000000000:=hsz;obtain ⟨v0,v1,rfl,h0,h1⟩:=hm;refine ARB ?_;unfold APj;obtain ⟨a0,k0,rfl⟩:=zAF h0;obtain ⟨a1,k1,rfl⟩:=zAF h1;try refine zqe ?_
 refine Ap (λbm=>?_);refine Ap (λb2=>?_);try refine zqe ?_
 refine rdb ?_;try refine zqe ?_
 refine Ap (λbo=>?_);refine stB rfl rfl (AV rfl) ?_;try refine zqe ?_
 refine rdb ?_;try refine zqe ?_
 by_cases h:(m.fKind==1)=true
 ·have e:m.fKind=1:=by simpa using h
  have ht:Am m=({fKind:=m.fKind},beB 0 4,0,true):=by unfold Am;rw [if_pos h,e]
  simp only [h,SSd,Nat.reduceAdd];refine Ci ?_;try refine zqe ?_
  refine JZ rfl ?_;refine call (FQ _ 4 4 rfl zo (by kernel_rfl) (λX v hX=>?_));refine BK (zAC _) ?_;refine stB rfl rfl (AV rfl) ?_;refine BV rfl ?_;rw [ht] at hk;have:=hk _ X v ⟨_,_,rfl,zAD none 0,zAD none 0⟩ hX;rw [show EN m=82 from by unfold EN;rw [e];rfl] at this;exact zAE (X++L) (zAA this)
 have n1:=zg.2 h;simp only [n1,SSd,Nat.reduceAdd];by_cases h:(m.fKind==2)=true
 ·have e:m.fKind=2:=by simpa using h
  have ht:Am m=({fKind:=m.fKind,fName:=m.fName,fText:=m.fText},txB [m.fName]++txB [m.fText],0,clB [m.fName,m.fText]):=by unfold Am;rw [e];rfl
  rw [ht] at hk hb;have hc:m.fName.all (· != 0)=true∧m.fText.all (· != 0)=true:=by simpa [clB] using hb
  simp only [h,SSd,Nat.reduceAdd];refine rdb ?_;refine st1 rfl ?_;refine rdb ?_;refine st1 rfl ?_;refine rdb ?_;refine call (Fe m.fName zo ?_);refine rdb ?_;refine call (Fe m.fText zo ?_);refine Ci ?_;try refine zqe ?_
  refine JZ rfl ?_;refine BJ ?_;refine call (ALE m.fName zo (λX v hX=>?_));refine BK (zAC _) ?_;refine BJ ?_;refine call (Ep (X:=X) m.fText hX zu (λX2 v2 hX2=>?_));refine BK (zAC _) ?_;simp only [hc.1,hc.2,zB,zak,SSd,Nat.reduceAdd];refine stB rfl rfl (AV rfl) ?_;refine BV rfl ?_;have:=hk _ X2 v2 ⟨_,_,rfl,zAD none 0,zAD none 0⟩ (by rw [EH,EH];exact hX2);rw [show EN m=83 from by unfold EN;rw [e];rfl] at this;exact zAE (X2++L) (zAA this)
 have n2:=zg.2 h;simp only [n2,SSd,Nat.reduceAdd];by_cases h:(m.fKind==3)=true
 ·have e:m.fKind=3:=by simpa using h
  have ht:Am m=({fKind:=m.fKind,fPid:=m.fPid,fSecret:=m.fSecret},beB m.fPid 4++beB m.fSecret 4,0,smB [m.fPid,m.fSecret]):=by unfold Am;rw [e];rfl
  rw [ht] at hk hb;have hc:(m.fPid==i32 m.fPid)=true∧(m.fSecret==i32 m.fSecret)=true:=by
   simp only [smB,zbg,List.all_nil,Bool.and_true,zQ] at hb;exact hb
  simp only [h,SSd,Nat.reduceAdd];refine rdb ?_;refine st1 rfl ?_;refine rdb ?_;refine st1 rfl ?_;refine rdb ?_;refine call (Kv m.fPid ?_);refine rdb ?_;refine call (Kv m.fSecret ?_);refine Ci ?_;try refine zqe ?_
  refine JZ rfl ?_;refine BJ ?_;refine call (FQ _ 4 4 rfl zo (by kernel_rfl) (λX v hX=>?_));refine BK (zAC _) ?_;refine BJ ?_;refine call (FQ _ 4 4 rfl zo (by kernel_rfl) (λX1 v1 hX1=>?_));refine BK (zAC _) ?_;refine Yc (X:=X) hX hX1 (λx hx=>zY _ hx) (by simp only [Ak];omega) (λX2 v2 hX2=>zAA ?_);refine BK (zAC _) ?_;simp only [hc.1,hc.2,SSd,Nat.reduceAdd];refine stB rfl rfl (AV rfl) ?_;refine BV rfl ?_;have:=hk _ X2 v2 ⟨_,_,rfl,zAD none 0,zAD none 0⟩ hX2;rw [show EN m=75 from by unfold EN;rw [e];rfl] at this;exact zAE (X2++L) (zAA this)
 have n3:=zg.2 h;simp only [n3,SSd,Nat.reduceAdd];by_cases h:(m.fKind==4)=true
 ·have e:m.fKind=4:=by simpa using h
  have ht:Am m=({fKind:=m.fKind,fStatus:=m.fStatus},[byI m.fStatus],0,m.fStatus==73||m.fStatus==84||m.fStatus==69):=by unfold Am;rw [e];rfl
  rw [ht] at hk hb;have hby:(Value.int .u8 m.fStatus)= .int .u8 ((byI m.fStatus).toNat:Nat):=by
   rw [OW,show IntKind.u8.wrap m.fStatus=m.fStatus from by rw [IntKind.wrap_u8];omega]
  have hz:[(0,Value.int .u8 m.fStatus)]=Qj 0 (Lib.byteCells [byI m.fStatus]):=by rw [hby];rfl
  have fin:∀X v,OwB X v [byI m.fStatus]→K (.tuple #[.agg #[.int .i64 m.fKind,.string ⟨#[]⟩,.string ⟨#[]⟩,.int .i64 0,.int .i64 0,.int .u8 m.fStatus,.slice none 0 0,.slice none 0 0,.string ⟨#[]⟩,.bool false],v,.int .u8 90,.bool true]) I (X++L):=by
   intro X v hX;have:=hk _ X v ⟨_,_,rfl,zAD none 0,zAD none 0⟩ hX;rw [show EN m=90 from by unfold EN;rw [e];rfl] at this;exact this
  simp only [h,SSd,Nat.reduceAdd];refine rdb ?_;refine st1 rfl ?_;refine UZ ?_;refine JZ rfl ?_;refine BJ ?_;refine BJ ?_;try refine zqe ?_
  cases h1:(m.fStatus==73) with
  |true=>
   try refine zqe ?_
   refine And.intro ?_ ?_
   ·refine NI [byI m.fStatus] hz rfl (λX u hX=>zAA ?_);refine BK (zAC _) ?_;refine stB rfl rfl (AV rfl) ?_;refine BK (zAC _) ?_;unfold FD;refine BV rfl ?_;exact zAE (X++L) (zAA (fin X u hX))
   ·refine stB rfl rfl (AV rfl) ?_;refine BK (zAC _) ?_;refine NI [byI m.fStatus] hz rfl (λX u hX=>zAA ?_);refine BK (zAC _) ?_;unfold FD;refine BV rfl ?_;exact zAE (X++L) (zAA (fin X u hX))
  |false=>
  try refine zqe ?_
  refine BJ ?_;try refine zqe ?_
  cases h2:(m.fStatus==84) with
  |true=>
   try refine zqe ?_
   refine And.intro ?_ ?_
   ·refine NI [byI m.fStatus] hz rfl (λX u hX=>zAA ?_);refine BK (zAC _) ?_;refine stB rfl rfl (AV rfl) ?_;refine BK (zAC _) ?_;unfold FD;refine BV rfl ?_;exact zAE (X++L) (zAA (fin X u hX))
   ·refine stB rfl rfl (AV rfl) ?_;refine BK (zAC _) ?_;refine NI [byI m.fStatus] hz rfl (λX u hX=>zAA ?_);refine BK (zAC _) ?_;unfold FD;refine BV rfl ?_;exact zAE (X++L) (zAA (fin X u hX))
  |false=>
  have h3:(m.fStatus==69)=true:=by simpa [h1,h2] using hb
  try refine zqe ?_
  refine BJ ?_;simp only [h3,SSd,Nat.reduceAdd];refine And.intro ?_ ?_
  ·refine NI [byI m.fStatus] hz rfl (λX u hX=>zAA ?_);refine BK (zAC _) ?_;refine stB rfl rfl (AV rfl) ?_;refine BK (zAC _) ?_;unfold FD;refine BV rfl ?_;exact zAE (X++L) (zAA (fin X u hX))
  ·refine stB rfl rfl (AV rfl) ?_;refine BK (zAC _) ?_;refine NI [byI m.fStatus] hz rfl (λX u hX=>zAA ?_);refine BK (zAC _) ?_;unfold FD;refine BV rfl ?_;exact zAE (X++L) (zAA (fin X u hX))
 have n4:=zg.2 h;simp only [n4,SSd,Nat.reduceAdd];by_cases h:(m.fKind==5)=true
 ·have e:m.fKind=5:=by simpa using h
  have ht:Am m=({fKind:=m.fKind,fFields:=m.fFields},(DF m.fFields).1,0,(DF m.fFields).2):=by unfold Am;rw [e];rfl
  rw [ht] at hk hb;have hfl:=KD m.fFields;simp only [h,SSd,Nat.reduceAdd];refine rdb ?_;refine st1 rfl ?_;refine rdb ?_;unfold DF at hk hb hfl;cases hf:Bl m.fFields with
  |none=>rw [hf] at hb;cases hb
  |some s=>
  rw [hf] at hk hb hfl;have hfl2:=JX hf;refine call (UG h0 hf (of_decide_eq_true hb) zo (λX v hX=>?_));try refine zqe ?_
  refine BV rfl ?_;refine stB rfl rfl (AV rfl) ?_;refine BV rfl ?_;have:=hk _ X v ⟨_,_,rfl,h0,zAD none 0⟩ hX;rw [show EN m=84 from by unfold EN;rw [e];rfl] at this;exact zAE (X++L) (zAA this)
 have n5:=zg.2 h;simp only [n5,SSd,Nat.reduceAdd];by_cases h:(m.fKind==6)=true
 ·have e:m.fKind=6:=by simpa using h
  have ht:Am m=({fKind:=m.fKind,fCells:=m.fCells},(CE m.fCells).1,(CE m.fCells).2.1,(CE m.fCells).2.2):=by unfold Am;rw [e];rfl
  rw [ht] at hk hb hl;unfold CE at hk hb hl;simp only [h,SSd,Nat.reduceAdd];refine rdb ?_;refine st1 rfl ?_;refine rdb ?_;cases hno:(m.fCells.any λc=>c.fNull&&c.fText != []) with
  |true=>rw [hno] at hb;cases hb
  |false=>
  rw [hno] at hk hb hl;simp only [zl,if_false] at hk hb hl;by_cases hbig:1073741824 < BH m.fCells+4∨1600 < m.fCells.length
  ·rw [if_pos hbig] at hb hl;have hb:=of_decide_eq_true hb;simp only at hl;omega
  rw [if_neg hbig] at hk;refine call (VW h1 hno zo zo (λX v hX=>?_));try refine zqe ?_
  refine BV rfl ?_;refine stB rfl rfl (AV rfl) ?_;refine BV rfl ?_;have:=hk _ X v ⟨_,_,rfl,zAD none 0,h1⟩ hX;rw [show EN m=68 from by unfold EN;rw [e];rfl] at this;exact zAE (X++L) (zAA this)
 have n6:=zg.2 h;simp only [n6,SSd,Nat.reduceAdd];by_cases h:(m.fKind==7)=true
 ·have e:m.fKind=7:=by simpa using h
  have ht:Am m=({fKind:=m.fKind,fText:=m.fText},txB [m.fText],0,clB [m.fName,m.fText]):=by unfold Am;rw [e];rfl
  rw [ht] at hk hb;have hc:m.fName.all (· != 0)=true∧m.fText.all (· != 0)=true:=by simpa [clB] using hb
  simp only [h,SSd,Nat.reduceAdd];refine rdb ?_;refine st1 rfl ?_;refine rdb ?_;refine call (Fe m.fText zo ?_);refine Ci ?_;try refine zqe ?_
  refine JZ rfl ?_;refine BJ ?_;refine call (ALE m.fText zo (λX v hX=>?_));refine BK (zAC _) ?_;simp only [hc.2,zB,zak,SSd,Nat.reduceAdd];refine stB rfl rfl (AV rfl) ?_;refine BV rfl ?_;have:=hk _ X v ⟨_,_,rfl,zAD none 0,zAD none 0⟩ (by rw [EH];exact hX);rw [show EN m=67 from by unfold EN;rw [e];rfl] at this;exact zAE (X++L) (zAA this)
 have n7:=zg.2 h;simp only [n7,SSd,Nat.reduceAdd];by_cases h:(m.fKind==8)=true
 ·have e:m.fKind=8:=by simpa using h
  have ht:Am m=({fKind:=m.fKind},[],0,true):=by unfold Am;rw [e];rfl
  rw [ht] at hk;simp only [h,SSd,Nat.reduceAdd];refine BV rfl ?_;refine stB rfl rfl (AV rfl) ?_;refine BV rfl ?_;have:=hk _ [] (.slice none 0 0) ⟨_,_,rfl,zAD none 0,zAD none 0⟩ (zAJ _ _);rw [show EN m=73 from by unfold EN;rw [e];rfl] at this;exact zAE L (zAA this)
 have n8:=zg.2 h;simp only [n8,SSd,Nat.reduceAdd];by_cases h:(m.fKind==9)=true
 ·have e:m.fKind=9:=by simpa using h
  have ht:Am m=({fKind:=m.fKind,fState:=m.fState,fText:=m.fText,fFatal:=m.fFatal},txB [83::(if m.fFatal then [70,65,84,65,76] else [69,82,82,79,82]),86::(if m.fFatal then [70,65,84,65,76] else [69,82,82,79,82]),67::m.fState,77::m.fText]++[0],0,Dq m.fState&&clB [m.fText]):=by unfold Am;rw [e];rfl
  rw [ht] at hk hb;have hc:Dq m.fState=true∧m.fText.all (· != 0)=true:=by simpa [clB] using hb
  simp only [h,SSd,Nat.reduceAdd];refine rdb ?_;refine st1 rfl ?_;refine rdb ?_;refine st1 rfl ?_;refine rdb ?_;refine st1 rfl ?_;refine BV rfl ?_;refine call (Qn (m:=m) rfl hc.1 hc.2 zo (λX v hX=>?_));try refine zqe ?_
  refine BV rfl ?_;refine stB rfl rfl (AV rfl) ?_;refine BV rfl ?_;have:=hk _ X v ⟨_,_,rfl,zAD none 0,zAD none 0⟩ hX;rw [show EN m=69 from by unfold EN;rw [e];rfl] at this;exact zAE (X++L) (zAA this)
 have n9:=zg.2 h;simp only [beq_eq_false_iff_ne] at n1 n2 n3 n4 n5 n6 n7 n8 n9 h10;exfalso
 unfold Am at hb;simp [n1,n2,n3,n4,n5,n6,n7,n8,n9,h10] at hb
end
section
variable {ω:Om}{I:Imm}{L F:LH}{K:Value→M}{m:TBack}
theorem AQZ (s:Bs)(n:Int):Gm .neq [(TypeDesc.string,0),(TypeDesc.int .i64,1)] (.agg #[.string ⟨s.toArray⟩,.int .i64 n]) (.agg #[.string ⟨s.toArray⟩,.int .i64 n])=some (.bool false):=by
 simp [Gm,Jm,eqD,Gn]
theorem AQa (s:Bs)(n:Bool):Gm .neq [(TypeDesc.bool,0),(TypeDesc.string,1)] (.agg #[.bool n,.string ⟨s.toArray⟩]) (.agg #[.bool n,.string ⟨s.toArray⟩])=some (.bool false):=by
 simp [Gm,Jm,eqD,Gn]
theorem PU {x:TBack}{cx cy:List Value}(hx:TBackV I x cx)(hy:TBackV I x cy)(hf:x.fFields.length≤1000000000000)(hc:x.fCells.length≤1000000000000)(hk:K (.bool true) I L):CT ω 57 #[.agg cx.toArray,.agg cy.toArray] K I L:=by
 obtain ⟨v0,v1,rfl,h0,h1⟩:=hx;obtain ⟨w0,w1,rfl,g0,g1⟩:=hy;refine ARC ?_;unfold APk;try refine zqe ?_
 refine Ap (λba=>?_);refine Ap (λbb=>?_);have e0:∀a b:Bool,Jp .neq (.bool a) (.bool a)=some (.bool false):=λa _=>by cases a <;> rfl
 repeat' first
  |(with_reducible refine rdb ?_)
  |(simp only [sNe,bne_self_eq_false,beq_self_eq_true,zB,Bool.bne_false,zAK h0,zAK h1,zAK g0,zAK g1,SSd,Nat.reduceAdd])
 refine loop (λq st I' L'=>∃k:Nat,k+q=x.fFields.length∧st=(Value.bool false,Value.int .i64 (k:Nat),())∧I'=I∧L'=_) x.fFields.length ⟨0,by omega,rfl,rfl,rfl⟩ ?_;rintro q st I' L' ⟨k,hkq,rfl,rfl,rfl⟩;unfold ADo;try refine zqe ?_
 refine rdb ?_;simp only [zAK h0,SSd,Nat.reduceAdd];refine AL (λhb=>?_) (λhb=>?_)
 ·have hb:k < x.fFields.length:=by have:=of_decide_eq_true hb;omega
  obtain ⟨b1,o1,c1,q1,ql,q2,q3⟩:=RL.ix h0 (i:=k) zo zo;obtain ⟨b2,o2,c2,r1,rl,r2,r3⟩:=RL.ix g0 (i:=k) zo zo;rw [BA hb] at q2 r2;have q2:c1=_:=q2;have r2:c2=_:=r2;subst q2;subst r2;refine Ci ?_;refine BJ ?_;simp only [q1,SSd,Nat.reduceAdd];refine ABr rfl (λI' L' hS=>q3 _ _ hS.1 (λ_ h=>by cases h)) ?_;refine BJ ?_;simp only [r1,SSd,Nat.reduceAdd];refine ABr rfl (λI' L' hS=>r3 _ _ hS.1 (λ_ h=>by cases h)) ?_;simp only [AQZ,wrap_i64 ((k:Int)+1) zo,SSd,Nat.reduceAdd];exact zAA ⟨q - 1,by omega,k+1,by omega,rfl,rfl,rfl⟩
 unfold ADn;refine loop (λq st I'' L''=>∃k:Nat,k+q=x.fCells.length∧st=(Value.bool false,Value.int .i64 (k:Nat),())∧I''=I'∧L''=_) x.fCells.length ⟨0,by omega,rfl,rfl,rfl⟩ ?_;rintro q st I' L' ⟨k,hkq,rfl,rfl,rfl⟩;unfold ADm;try refine zqe ?_
 refine rdb ?_;simp only [zAK h1,SSd,Nat.reduceAdd];refine AL (λhb=>?_) (λhb=>?_)
 ·have hb:k < x.fCells.length:=by have:=of_decide_eq_true hb;omega
  obtain ⟨b1,o1,c1,q1,ql,q2,q3⟩:=RL.ix h1 (i:=k) zo zo;obtain ⟨b2,o2,c2,r1,rl,r2,r3⟩:=RL.ix g1 (i:=k) zo zo;rw [BA hb] at q2 r2;have q2:c1=_:=q2;have r2:c2=_:=r2;subst q2;subst r2;refine Ci ?_;refine BJ ?_;simp only [q1,SSd,Nat.reduceAdd];refine ABr rfl (λI' L' hS=>q3 _ _ hS.1 (λ_ h=>by cases h)) ?_;refine BJ ?_;simp only [r1,SSd,Nat.reduceAdd];refine ABr rfl (λI' L' hS=>r3 _ _ hS.1 (λ_ h=>by cases h)) ?_;simp only [AQa,wrap_i64 ((k:Int)+1) zo,SSd,Nat.reduceAdd];exact zAA ⟨q - 1,by omega,k+1,by omega,rfl,rfl,rfl⟩
 ·exact zAE L (zAA hk)
end
theorem ABV {m:TBack}(h:Jc (Am m).1 m=true):(Am m).1=m:=by
 obtain ⟨a,b,c,d,e,f,g,i,j,k⟩:=m;unfold Jc at h;simp only [zQ,beq_iff_eq] at h;unfold Am at h ⊢;simp only at h ⊢
 repeat' split
 all_goals simp_all [@eq_comm Nat 0,@eq_comm Int 0]
theorem Pe {m:TBack}(h:(Bq m).2=0):(Am m).2.2.2=true∧(Am m).1=m∧(if m.fKind==10 then Bq m=([78],0) else max (Am m).2.2.1 (Am m).2.1.length+4≤1073741824∧Bq m=(tagsW.getD m.fKind.toNat 0::beB ((Am m).2.1.length+4:Nat) 4++(Am m).2.1,0)):=by
 have h0:=h;unfold Bq at h ⊢;simp only at h ⊢
 split at h
 ·cases h
 rename_i hn
 simp only [zaJ,zaL,not_or,Bool.not_eq_false] at hn;refine ⟨hn.1,ABV hn.2,?_⟩;simp only [hn.1,hn.2,zB,Bool.or_self,zl,if_false] at h ⊢;split
 ·rfl
 rename_i h10
 rw [if_neg h10] at h;split at h
 ·cases h
 rename_i hb
 rw [if_neg hb];exact ⟨by omega,rfl⟩
section
variable {ω:Om}{I:Imm}{L F:LH}{K:Value→M}{m:TBack}
theorem ABm {cm:List Value}(hm:TBackV I m cm)(hg:(Bq m).2=0)(hsz:Di m≤10000000000)(hst:0≤m.fStatus∧m.fStatus≤255)
  (hk:∀X v,OwB X v (Bq m).1→K (.tuple #[v,.int .i64 0]) I (X++L)):CT ω 35 #[.agg cm.toArray] K I L:=by
 have hms:m.fName.length+m.fText.length+m.fState.length+(m.fFields.map λf=>f.fName.length+19).sum+BH m.fCells≤10000000000:=hsz;have hm':=hm;obtain ⟨v0,v1,rfl,h0,h1⟩:=hm;obtain ⟨g1,g2,g3⟩:=Pe hg;have hfl:m.fFields.length≤10000000000:=by
  have:∀l:List TField,l.length≤(l.map λf=>f.fName.length+19).sum:=by
   intro l;induction l with
   |nil=>simp
   |cons f l ih=>simp only [zi,zF,zae];omega
  have:=this m.fFields;omega
 have hcl:m.fCells.length≤10000000000:=by
  have:∀l:List TCell,l.length≤(l.map λc=>4+c.fText.length).sum:=by
   intro l;induction l with
   |nil=>simp
   |cons f l ih=>simp only [zi,zF,zae];omega
  have:=this m.fCells;unfold BH at hms;omega
 refine ARS ?_;unfold APx;try refine zqe ?_
 refine Ap (λbm=>?_);try refine zqe ?_
 refine rdb ?_;by_cases h10:(m.fKind==10)=true
 ·rw [if_pos h10] at g3;have e:m.fKind=10:=by simpa using h10
  have ht:(Am m).1={fKind:=m.fKind}:=by unfold Am;rw [e];rfl
  simp only [h10,SSd,Nat.reduceAdd];refine BV rfl ?_;try refine zqe ?_
  have hy:TBackV I m [.int .i64 10,.string ⟨#[]⟩,.string ⟨#[]⟩,.int .i64 0,.int .i64 0,.int .u8 0,.slice none 0 0,.slice none 0 0,.string ⟨#[]⟩,.bool false]:=by
   rw [←g2,ht,e];exact ⟨_,_,rfl,zAD none 0,zAD none 0⟩
  refine call (PU hm' hy zo zo ?_);simp only [zB,SSd,Nat.reduceAdd];refine NI [78] rfl rfl (λX u hX=>zAA ?_);rw [g3] at hk;exact zAE (X++L) (zAA (hk X u hX))
 rw [if_neg h10] at g3;have n10:=zg.2 h10;simp only [n10,SSd,Nat.reduceAdd];refine BV rfl ?_;refine call (Xk hm' n10 g1 g3.1 hsz hst (λco X v hco hX=>?_));rw [g2] at hco;have hco':=hco;obtain ⟨w0,w1,rfl,k0,k1⟩:=hco;obtain ⟨a0,q0,rfl⟩:=zAF k0;obtain ⟨a1,q1,rfl⟩:=zAF k1;try refine zqe ?_
 refine Ap (λbo=>?_);refine stB rfl rfl (AV rfl) ?_;refine BV rfl ?_;refine BV rfl ?_;refine call (PU hco' hm' zo zo ?_);simp only [zB,SSd,Nat.reduceAdd];refine rdb ?_;obtain ⟨a,k,rfl⟩:=hX.form;have hlen:(((Am m).2.1.length:Nat):Int)+4≤1073741824:=by have:=g3.1;omega
 have h6:(m.fKind==6)=true→((((Am m).2.1.length:Nat):Int)==0)=false:=by
  intro h;have e:m.fKind=6:=by simpa using h
  have ht:Am m=({fKind:=m.fKind,fCells:=m.fCells},(CE m.fCells).1,(CE m.fCells).2.1,(CE m.fCells).2.2):=by unfold Am;rw [e];rfl
  have g1:=g1;have g31:=g3.1;rw [ht] at g1 g31 ⊢;simp only at g1 g31 ⊢
  unfold CE at g1 g31 ⊢;split at g1
  ·cases g1
  rename_i hno
  rw [if_neg hno] at g31 ⊢;split at g1
  ·rename_i hbig
   rw [if_pos hbig] at g31;have:=of_decide_eq_true g1;simp only at g31;omega
  rename_i hbig
  rw [if_neg hbig];simp only [zk,Ak];exact beq_false_of_ne zo
 have d1:decide ((((Am m).2.1.length:Nat):Int)+4 > 1073741824)=false:=decide_eq_false zo;have d2:decide ((1073741824:Int) < (((Am m).2.1.length:Nat):Int)+4)=false:=decide_eq_false zo;have w1:IntKind.i64.wrap ((((Am m).2.1.length:Nat):Int)+4)=(((Am m).2.1.length:Nat):Int)+4:=wrap_i64 _ zo;have w2:IntKind.i64.wrap (4+(((Am m).2.1.length:Nat):Int))=(((Am m).2.1.length+4:Nat):Int):=by rw [wrap_i64 _ zo];omega
 rw [g3.2] at hk;cases h:(m.fKind==6) with
 |true=>
  have h6:=h6 h;simp only [h,Dx,h6,w1,d1,d2,w2,SSd,Nat.reduceAdd];refine NI [tagsW.getD m.fKind.toNat 0] rfl rfl (λX1 u hu=>zAA ?_);try simp only [Dx,w2,SSd,Nat.reduceAdd]
  refine AHO (X:=X1) hu _ 4 4 rfl zo (by kernel_rfl) zy (λX2 u2 h2=>?_);refine Yc (X:=X2) h2 hX (λx hx=>by simp [hx]) (by simp [Ak];omega) (λX3 u3 h3=>?_);exact zAE (X3++L) (zAA (zAA (hk X3 u3 h3)))
 |false=>
  simp only [h,Dx,w1,d1,d2,w2,SSd,Nat.reduceAdd];refine NI [tagsW.getD m.fKind.toNat 0] rfl rfl (λX1 u hu=>zAA ?_);try simp only [Dx,w2,SSd,Nat.reduceAdd]
  refine AHO (X:=X1) hu _ 4 4 rfl zo (by kernel_rfl) zy (λX2 u2 h2=>?_);refine Yc (X:=X2) h2 hX (λx hx=>by simp [hx]) (by simp [Ak];omega) (λX3 u3 h3=>?_);exact zAE (X3++L) (zAA (zAA (hk X3 u3 h3)))
end
theorem ABC {p x r:Bs}(hx:x.all (· != 0)=true):Nq (p++(x++0::r)) p.length=((p.length+x.length:Nat):Int):=by
 unfold Nq;rw [List.drop_left];have:(x++0::r).findIdx? (·==0)=some x.length:=by
  induction x with
  |nil=>rfl
  |cons a x ih=>
   simp only [zbg,zQ] at hx;have ha:(a==0)=false:=by simpa [bne] using hx.1
   rw [zah,List.findIdx?_cons,ha,ih hx.2];rfl
 rw [this]
section
variable {ω:Om}{I:Imm}{L F:LH}{K:Value→M}{v:Value}
theorem Gq {xs:List Bs}(hv:Bytes I v (txB xs))(hc:clB xs=true)(hl:(txB xs).length≤100000000000)(hk:∀X u,SlO 9 1 X u (xs.map λx=>Value.string ⟨x.toArray⟩) xs.length→K (.tuple #[u,.bool true]) I (X++L)):CT ω 56 #[v] K I L:=by
 have hn:xs.length≤(txB xs).length:=by
  clear hv hc hl hk;induction xs with
  |nil=>simp
  |cons x xs ih=>simp only [txB,zaH,zU] at *; omega
 refine ARD ?_;unfold APl;refine loop (λm st I' L'=>∃(k:Nat) (X:LH) (u:Value),k+m=xs.length∧st=(Value.slice none 0 0,Value.bool false,u,Value.int .i64 ((txB (xs.take k)).length:Nat),())∧I'=I∧L'=X++L∧SlO 9 1 X u ((xs.take k).map λx=>Value.string ⟨x.toArray⟩) k) xs.length ⟨0,[],.slice none 0 0,by omega,rfl,rfl,rfl,zAJ _ _⟩ ?_;rintro m st I' L' ⟨k,X,u,hkm,rfl,rfl,rfl,hX⟩;unfold ADp;simp only [hv.len,SSd,Nat.reduceAdd];have hsp:txB xs=txB (xs.take k)++txB (xs.drop k):=by rw [←KU,zZ]
 have hdk:∀h:k < xs.length,txB (xs.drop k)=xs[k]++0::txB (xs.drop (k+1)):=λh=>by
  rw [zab h];show (xs[k]++[0])++txB _=_;rw [zt];rfl
 refine AL (λhb=>?_) (λhb=>?_)
 ·have hb:k < xs.length:=by
   have h:=of_decide_eq_true hb;rcases Nat.lt_or_ge k xs.length with h1|h1
   ·exact h1
   ·rw [zW h1] at h;omega
  have hd:txB xs=txB (xs.take k)++(xs[k]++0::txB (xs.drop (k+1))):=by
   rw [←hdk hb];exact hsp
  have ht:txB (xs.take (k+1))=txB (xs.take k)++(xs[k]++[0]):=by
   rw [zf hb,KU,EH]
  have hxk:xs[k].all (· != 0)=true:=zas.1 hc _ (zar hb);have hll:(txB (xs.take k)).length+xs[k].length+1≤(txB xs).length:=by
   rw [hd];simp only [zU];omega
  have he:Nq (txB xs) (txB (xs.take k)).length=(((txB (xs.take k)).length+xs[k].length:Nat):Int):=by
   rw [hd];exact ABC hxk
  refine call (Rh _ hv zo zo ?_);rw [he];have d0:decide ((((txB (xs.take k)).length+xs[k].length:Nat):Int) < 0)=false:=decide_eq_false zo;obtain ⟨v',e1,e2⟩:=Bytes.part hv (lo:=(txB (xs.take k)).length) (hi:=(txB (xs.take k)).length+xs[k].length) zo zo;have e3:((txB xs).drop (txB (xs.take k)).length).take xs[k].length=xs[k]:=by
   rw [hd,List.drop_left,List.take_left]
  simp only [d0,e1,SSd,Nat.reduceAdd];refine ARk e2 (zAC _) ?_;simp only [Nat.add_sub_cancel_left,e3];refine Bh (v:=.string ⟨xs[k].toArray⟩) rfl zx rfl (λX1 u1 h1=>?_);refine Ls (X:=X) (n:=1) (m:=1) rfl hX (h1.news (λx hx=>zY _ hx)) (AV rfl) zo zo (λX2 u2 h2=>?_);have h2:SlO 9 1 X2 u2 ((xs.take (k+1)).map λx=>Value.string ⟨x.toArray⟩) (k+1):=by
   rw [zf hb,zaa];exact h2
  have w1:IntKind.i64.wrap ((((txB (xs.take k)).length+xs[k].length:Nat):Int)+1)=((txB (xs.take (k+1))).length:Nat):=by
   rw [wrap_i64 _ zo,ht];simp only [zU];omega
  simp only [w1,SSd,Nat.reduceAdd];exact zAE (X2++L) (zAA (zAA ⟨m - 1,by omega,k+1,X2,u2,by omega,rfl,rfl,rfl,h2⟩))
 ·have hb:¬k < xs.length:=by
   have h:=of_decide_eq_false hb;intro h1;have:txB xs=txB (xs.take k)++(xs[k]++0::txB (xs.drop (k+1))):=by
    rw [←hdk h1];exact hsp
   have:=congrArg List.length this;simp only [zU] at this;omega
  rw [zW zo] at hX;obtain rfl:k=xs.length:=by omega
  exact zAA (hk X u hX)
end
theorem ACo (n:Int):(byI n).toNat=(n % 256).toNat:=by
 have h:(0:Int)≤n % 256∧n % 256 < 256:=by omega
 simp only [byI];rw [UInt8.toNat_ofNat'];omega
theorem Rw (n:Int)(h: -2147483648≤n∧n≤2147483647)(r:Bs):n4W ((beB n 4++r).getD 0 0) ((beB n 4++r).getD 1 0) ((beB n 4++r).getD 2 0) ((beB n 4++r).getD 3 0)=n:=by
 show n4W (byI (n.fdiv 16777216)) (byI (n.fdiv 65536)) (byI (n.fdiv 256)) (byI (n.fdiv 1))=n;rw [AFV];unfold n4N;simp only [ACo];rw [zaP _ zx,zaP _ zx,zaP _ zx,zaP _ zx];split <;> omega
section
variable {ω:Om}{I:Imm}{L F:LH}{K:Value→M}{v:Value}
abbrev gcB (k:Int)(w0 w1:Value):List Value:=[.int .i64 k,.string ⟨#[]⟩,.string ⟨#[]⟩,.int .i64 0,.int .i64 0,.int .u8 0,w0,w1,.string ⟨#[]⟩,.bool false]
theorem MP {l:List TCell}{n:Int}(hv:Bytes I v (beB n 2++l.flatMap Au))(hno:(l.any λc=>c.fNull&&c.fText != [])=false)(hsz:(l.flatMap Au).length≤1073741824)
  (hk:∀I' co,Ext I I'→TBackV I' {fKind:=6,fCells:=l} co→K (.agg co.toArray) I' L):CT ω 55 #[v] K I L:=by
 have hlt:(beB n 2++l.flatMap Au).length=2+(l.flatMap Au).length:=by rw [zk,Ak]
 refine ARF ?_;unfold APm;try refine zqe ?_
 refine Ap (λb2=>?_);try refine zqe ?_
 refine Ap (λbo=>?_);refine stB rfl rfl (AV rfl) ?_;refine loop (λm st I' L'=>∃(k:Nat) (X:LH) (a:Option Addr) (q:Nat) (cs:List Value),k+m=l.length∧st=(Value.int .i64 (2+((l.take k).flatMap Au).length:Nat),())∧I'=I∧L'=X++((bo,BkO (gcB 6 (.slice none 0 0) (.slice a k q)))::(b2,BkO (gcB 0 (.slice none 0 0) (.slice none 0 0)))::L)∧SlO 113 2 X (.slice a k q) cs k∧Recs (TCellV I) 2 (l.take k) cs) l.length ⟨0,[],none,0,[],by omega,rfl,rfl,rfl,zAJ _ _,rfl⟩ ?_;rintro m st I' L' ⟨k,X,a,q,cs,hkm,rfl,rfl,rfl,hX,hR⟩;unfold ADr;simp only [hv.len,hlt,SSd,Nat.reduceAdd];have hsp:l.flatMap Au=(l.take k).flatMap Au++(l.drop k).flatMap Au:=by rw [←zbx,zZ]
 have hd:∀h:k < l.length,(l.drop k).flatMap Au=Au l[k]++(l.drop (k+1)).flatMap Au:=λh=>by
  rw [zab h,zaH]
 have hcl:∀c:TCell,4≤(Au c).length:=λc=>by
  unfold Au;split
  ·rw [Ak];omega
  ·rw [zk,Ak];omega
 refine AL (λhb=>?_) (λhb=>?_)
 ·have hb:=of_decide_eq_true hb;have hb:k < l.length:=by
   rcases Nat.lt_or_ge k l.length with h1|h1
   ·exact h1
   ·rw [zW h1] at hb;omega
  have hd:=hd hb;have hnull:=List.any_eq_false.1 hno l[k] (zar hb);have htk:l.take (k+1)=l.take k++[l[k]]:=zf hb;have hlen:(l.flatMap Au).length=((l.take k).flatMap Au).length+((Au l[k]).length+((l.drop (k+1)).flatMap Au).length):=by
   rw [hsp,hd];simp only [zk]
  have h4:=hcl l[k];have hnx:((l.take (k+1)).flatMap Au).length=((l.take k).flatMap Au).length+(Au l[k]).length:=by
   rw [htk,zbx];simp
  generalize hp:((l.take k).flatMap Au).length=p at *;have hdr:(beB n 2++l.flatMap Au).drop (2+p)=Au l[k]++(l.drop (k+1)).flatMap Au:=by
   rw [hsp,←zt,←hd];have:2+p=(beB n 2++(l.take k).flatMap Au).length:=by rw [zk,Ak,hp]
   rw [this,List.drop_left]
  obtain ⟨v',e1,e2⟩:=Bytes.drop hv (n:=2+p) zo;rw [hdr] at e2;have w1:IntKind.i64.wrap (((2+(l.flatMap Au).length:Nat):Int) - ((2+p:Nat):Int))=(((l.flatMap Au).length - p:Nat):Int):=by rw [wrap_i64 _ zo];omega
  have d1:decide ((((l.flatMap Au).length - p:Nat):Int) < 4)=false:=decide_eq_false zo;simp only [w1,d1,e1,SSd,Nat.reduceAdd];refine call (Gy e2 (by rw [zk];omega) ?_);generalize hc:l[k]=c at *;obtain ⟨cn,ct⟩:=c;have w2:IntKind.i64.wrap (((2+p:Nat):Int)+4)=((2+p+4:Nat):Int):=by rw [wrap_i64 _ zo];omega
  have hbytes:(k+1) * 24≤150000000000000:=by
   have h5:∀l:List TCell,4 * l.length≤(l.flatMap Au).length:=by
    intro l;induction l with
    |nil=>simp
    |cons c l ih=>
     have:=hcl c;simp only [zaH,zU];omega
   have:=h5 l;omega
  have hrec:∀{d:TCell} {X2:LH} {u2:Value},d=⟨cn,ct⟩→SlO 113 2 X2 u2 (cs++[.bool d.fNull,.string ⟨d.fText.toArray⟩]) (k+1)→∃(a2:Option Addr) (q2:Nat),u2= .slice a2 ((k+1:Nat):Nat) q2∧SlO 113 2 X2 (.slice a2 (k+1) q2) (cs++[.bool d.fNull,.string ⟨d.fText.toArray⟩]) (k+1)∧Recs (TCellV I') 2 (l.take (k+1)) (cs++[.bool d.fNull,.string ⟨d.fText.toArray⟩]):=by
   intro d X2 u2 hd h2;obtain ⟨a2,q2,rfl⟩:=h2.form;refine ⟨a2,q2,rfl,h2,?_⟩;rw [htk,hd];exact zAN hR (Recs.one rfl rfl)
  cases cn with
  |true=>
   have ht:ct=[]:=by simpa using hnull
   subst ht;have hcb:Au ⟨true,[]⟩=beB (-1) 4:=rfl;rw [hcb,Ak] at hnx;rw [hcb,Rw (-1) zo];simp only [w2,show decide ((-1:Int) < 0)=true from rfl,SSd,Nat.reduceAdd];refine rdb ?_;try refine zqe ?_
   refine Bh (v:=.agg #[.bool true,.string ⟨#[]⟩]) rfl zx rfl (λX1 u1 h1=>?_);refine BL (X:=X) (n:=2) (m:=1) rfl hX (h1.news (λx hx=>zY _ hx)) (λu hu=>?_) hbytes zo (λX2 u2 h2=>?_)
   ·rcases zK.1 hu with rfl|hu
    ·rfl
    ·rw [zM.1 hu];rfl
   obtain ⟨a2,q2,rfl,h2,hR2⟩:=hrec (d:=⟨true,[]⟩) rfl h2;try refine zqe ?_
   refine st1 rfl ?_;refine zAE (X2++((bo,BkO (gcB 6 (.slice none 0 0) (.slice a2 (k+1) q2)))::(b2,BkO (gcB 0 (.slice none 0 0) (.slice none 0 0)))::L)) (zAA ⟨m - 1,by omega,k+1,X2,a2,q2,_,by omega,by rw [hnx];rfl,rfl,rfl,h2,hR2⟩)
  |false=>
   have hcb:Au ⟨false,ct⟩=beB ct.length 4++ct:=rfl;rw [hcb,zk,Ak] at hnx hlen;have hct:ct.length≤1073741824:=by omega
   rw [hcb,zt,Rw (ct.length:Nat) zo];have d2:decide (((ct.length:Nat):Int) < 0)=false:=decide_eq_false zo;have w3:IntKind.i64.wrap (((2+(l.flatMap Au).length:Nat):Int) - ((2+p+4:Nat):Int))=(((l.flatMap Au).length - p - 4:Nat):Int):=by rw [wrap_i64 _ zo];omega
   have d3:decide ((((l.flatMap Au).length - p - 4:Nat):Int) < (ct.length:Nat))=false:=decide_eq_false zo;have w4:IntKind.i64.wrap (((2+p+4:Nat):Int)+(ct.length:Nat))=((2+p+4+ct.length:Nat):Int):=by rw [wrap_i64 _ zo];omega
   simp only [w2,d2,hv.len,hlt,w3,d3,SSd,Nat.reduceAdd];obtain ⟨v2,e3,e4⟩:=Bytes.part hv (lo:=2+p+4) (hi:=2+p+4+ct.length) zo zo;have e5:((beB n 2++l.flatMap Au).drop (2+p+4)).take ct.length=ct:=by
    rw [←zbs,hdr,hcb,zt];have h4:(beB (ct.length:Nat) 4).length=4:=Ak _ 4;rw [List.drop_left' h4,List.take_left]
   refine Ci ?_;try refine zqe ?_
   refine BJ ?_;simp only [w4,e3,SSd,Nat.reduceAdd];refine APA e4 (zAC _) ?_;simp only [Nat.add_sub_cancel_left,e5,SSd,Nat.reduceAdd];refine Bh (v:=.agg #[.bool false,.string ⟨ct.toArray⟩]) rfl zx rfl (λX1 u1 h1=>?_);refine BK (zAC _) ?_;refine BL (X:=X) (n:=2) (m:=1) rfl hX (h1.news (λx hx=>zY _ hx)) (λu hu=>?_) hbytes zo (λX2 u2 h2=>?_)
   ·rcases zK.1 hu with rfl|hu
    ·rfl
    ·rw [zM.1 hu];rfl
   obtain ⟨a2,q2,rfl,h2,hR2⟩:=hrec (d:=⟨false,ct⟩) rfl h2;try refine zqe ?_
   refine st1 rfl ?_;try simp only [w4,SSd,Nat.reduceAdd]
   refine zAE (X2++((bo,BkO (gcB 6 (.slice none 0 0) (.slice a2 (k+1) q2)))::(b2,BkO (gcB 0 (.slice none 0 0) (.slice none 0 0)))::L)) (zAA ⟨m - 1,by omega,k+1,X2,a2,q2,_,by omega,by rw [hnx];congr 2;omega,rfl,rfl,h2,hR2⟩)
 ·have hb:=of_decide_eq_false hb;have hb:¬k < l.length:=by
   intro h1;have:=hcl l[k];have h2:=hd h1;have:=congrArg List.length hsp;rw [h2] at this;simp only [zk] at this;omega
  obtain rfl:k=l.length:=by omega
  rw [zW (zh _)] at hR;unfold ADq;refine BV rfl ?_;refine stB rfl rfl (λu hu=>?_) ?_
  ·simp only [zK,zaG,or_false] at hu;rcases hu with rfl|rfl|rfl|rfl|rfl|rfl|rfl|rfl|rfl|rfl <;> rfl
  refine BV rfl ?_;refine RL.ofO (R:=TCellV) (λh hI=>h) hX hR (λI2 hI2 hRL=>?_);refine zAE L (zAA (hk I2 _ hI2 ⟨_,_,rfl,zAD none 0,hRL⟩))
end
theorem YS {t:Int}{c:Int×Int}(h:KI t=some c):(t=1∧c=(20,8))∨(t=2∧c=(16,1))∨(t=3∧c=(25, -1)):=by
 unfold KI at h;split at h
 ·rename_i h1;exact .inl ⟨by simpa using h1,by simpa using h.symm⟩
 split at h
 ·rename_i h1;exact .inr (.inl ⟨by simpa using h1,by simpa using h.symm⟩)
 split at h
 ·rename_i h1;exact .inr (.inr ⟨by simpa using h1,by simpa using h.symm⟩)
 ·cases h
theorem QJ:∀{l:List TField} {t:Bs},Bl l=some t→19 * l.length≤t.length
 |[],t,h=>by simp
 |f::l,t,h=>by
  simp only [Bl] at h;cases hc:KI f.fType with
  |none=>rw [hc] at h;cases h
  |some c=>
   rw [hc] at h;simp only at h
   split at h
   ·obtain ⟨b',hb',rfl⟩:=zaw.1 h;have:=QJ hb';rw [zk,JF,zi];omega
   ·cases h
section
variable {ω:Om}{I:Imm}{L F:LH}{K:Value→M}{v:Value}
theorem Ky {l:List TField}{n:Int}{t:Bs}(ht:Bl l=some t)(hv:Bytes I v (beB n 2++t))(hsz:t.length≤1073741824)
  (hk:∀I' co,Ext I I'→TBackV I' {fKind:=5,fFields:=l} co→K (.agg co.toArray) I' L):CT ω 54 #[v] K I L:=by
 have hlt:(beB n 2++t).length=2+t.length:=by rw [zk,Ak]
 have hll:=QJ ht;refine ARH ?_;unfold APn;try refine zqe ?_
 refine Ap (λb2=>?_);try refine zqe ?_
 refine Ap (λbo=>?_);refine stB rfl rfl (AV rfl) ?_;refine loop (λm st I' L'=>∃(k:Nat) (X:LH) (a:Option Addr) (q:Nat) (cs:List Value) (u r:Bs),k+m=l.length∧st=(Value.int .i64 (2+u.length:Nat),())∧I'=I∧L'=X++((bo,BkO (gcB 5 (.slice a k q) (.slice none 0 0)))::(b2,BkO (gcB 0 (.slice none 0 0) (.slice none 0 0)))::L)∧SlO 144 2 X (.slice a k q) cs k∧Recs (TFieldV I) 2 (l.take k) cs∧Bl (l.drop k)=some r∧u++r=t) l.length ⟨0,[],none,0,[],[],t,by omega,rfl,rfl,rfl,zAJ _ _,rfl,by simpa using ht,rfl⟩ ?_;rintro m st I' L' ⟨k,X,a,q,cs,u,r,hkm,rfl,rfl,rfl,hX,hR,hr,hur⟩;have hul:t.length=u.length+r.length:=by rw [←hur,zk]
 unfold ADu;simp only [hv.len,hlt,SSd,Nat.reduceAdd];refine AL (λhb=>?_) (λhb=>?_)
 ·have hb:=of_decide_eq_true hb;have hb:k < l.length:=by
   rcases Nat.lt_or_ge k l.length with h1|h1
   ·exact h1
   ·rw [zan h1] at hr;simp only [Bl,zn] at hr;subst hr;rw [zH] at hul;omega
  have htk:l.take (k+1)=l.take k++[l[k]]:=zf hb;rw [zab hb] at hr;generalize hf:l[k]=f at *;obtain ⟨fn,ft⟩:=f;simp only [Bl] at hr;cases hc:KI ft with
  |none=>rw [hc] at hr;cases hr
  |some c=>
  rw [hc] at hr;simp only at hr
  split at hr
  case isFalse=>cases hr
  case isTrue hcl=>
  obtain ⟨r',hr',rfl⟩:=zaw.1 hr;have hall:fn.all (· != 0)=true:=by simpa [clB] using hcl
  rw [zk,JF] at hul;simp only at hul
  have z4:beB 0 4=[0,0,0,0]:=by decide
  have z2:beB 0 2=[0,0]:=by decide
  have hsp:beB n 2++t=(beB n 2++u)++(fn++0::(beB 0 4++beB 0 2++beB c.1 4++beB c.2 2++beB (-1) 4++beB 0 2++r')):=by
   rw [←hur];simp only [NC,EH,zt,zah,zaF]
  have hpl:(beB n 2++u).length=2+u.length:=by rw [zk,Ak]
  have he:Nq (beB n 2++t) (2+u.length)=((2+u.length+fn.length:Nat):Int):=by
   rw [hsp,←hpl];exact ABC hall
  refine call (Rh _ hv zo zo ?_);rw [he];have d0:decide (((2+u.length+fn.length:Nat):Int) < 0)=false:=decide_eq_false zo;have w1:IntKind.i64.wrap (((2+t.length:Nat):Int) - ((2+u.length+fn.length:Nat):Int))=((19+r'.length:Nat):Int):=by rw [wrap_i64 _ zo];omega
  have d1:decide (((19+r'.length:Nat):Int) < 19)=false:=decide_eq_false zo;have w2:IntKind.i64.wrap (((2+u.length+fn.length:Nat):Int)+7)=((2+u.length+fn.length+7:Nat):Int):=by rw [wrap_i64 _ zo];omega
  obtain ⟨v',e1,e2⟩:=Bytes.drop hv (n:=2+u.length+fn.length+7) zo;have e3:(beB n 2++t).drop (2+u.length+fn.length+7)=beB c.1 4++(beB c.2 2++beB (-1) 4++beB 0 2++r'):=by
   have:beB n 2++t=(beB n 2++u++fn++[0]++beB 0 4++beB 0 2)++(beB c.1 4++(beB c.2 2++beB (-1) 4++beB 0 2++r')):=by
    rw [hsp];simp only [zt,zah,zaF]
   rw [this];refine List.drop_left' ?_;simp only [zk,Ak,zi,zH]
  rw [e3] at e2;simp only [d0,hv.len,hlt,w1,d1,w2,e1,SSd,Nat.reduceAdd];have hcc:=YS hc;refine call (Gy e2 (by rw [zk,Ak];omega) ?_);rw [Rw c.1 (by rcases hcc with ⟨_,rfl⟩|⟨_,rfl⟩|⟨_,rfl⟩ <;> decide)];have next:∀Kn0,Kn0=(λ(st:Value×Unit)=>Gh λI'' L'=>∃m',m' < m∧∃(k:Nat) (X:LH) (a:Option Addr) (q:Nat) (cs:List Value) (u r:Bs),k+m'=l.length∧st=(Value.int .i64 (2+u.length:Nat),())∧I''=I'∧L'=X++((bo,BkO (gcB 5 (.slice a k q) (.slice none 0 0)))::(b2,BkO (gcB 0 (.slice none 0 0) (.slice none 0 0)))::L)∧SlO 144 2 X (.slice a k q) cs k∧Recs (TFieldV I') 2 (l.take k) cs∧Bl (l.drop k)=some r∧u++r=t)→
    Oz ω v (.pointer (some ⟨bo,0,none⟩)) (.int .i64 (2+u.length:Nat)) (.int .i64 (2+u.length+fn.length:Nat)) (.int .i64 ft) Kn0 (λv=>Gh (K v)) I' (X++((bo,BkO (gcB 5 (.slice a k q) (.slice none 0 0)))::(b2,BkO (gcB 0 (.slice none 0 0) (.slice none 0 0)))::L)):=by
   intro Kn0 hKn;unfold Oz;obtain ⟨v2,e4,e5⟩:=Bytes.part hv (lo:=2+u.length) (hi:=2+u.length+fn.length) zo zo;have e6:((beB n 2++t).drop (2+u.length)).take fn.length=fn:=by
    rw [hsp,List.drop_left' hpl,List.take_left]
   have w3:IntKind.i64.wrap (((2+u.length+fn.length:Nat):Int)+19)=((2+(u++NC ⟨fn,ft⟩ c).length:Nat):Int):=by
    rw [wrap_i64 _ zo,zk,JF];simp only [];omega
   refine Ci ?_;try refine zqe ?_
   refine BJ ?_;simp only [e4,SSd,Nat.reduceAdd];refine APA e5 (zAC _) ?_;simp only [Nat.add_sub_cancel_left,e6,SSd,Nat.reduceAdd];refine Bh (v:=.agg #[.string ⟨fn.toArray⟩,.int .i64 ft]) rfl zx rfl (λX1 u1 h1=>?_);refine BK (zAC _) ?_;refine BL (X:=X) (n:=2) (m:=1) rfl hX (h1.news (λx hx=>zY _ hx)) (λu hu=>?_) zo zo (λX2 u2 h2=>?_)
   ·rcases zK.1 hu with rfl|hu
    ·rfl
    ·rw [zM.1 hu];rfl
   obtain ⟨a2,q2,rfl⟩:=h2.form;have hR2:Recs (TFieldV I') 2 (l.take (k+1)) (cs++[.string ⟨fn.toArray⟩,.int .i64 ft]):=by
    rw [htk];exact zAN hR (Recs.one rfl rfl)
   try refine zqe ?_
   refine st1 rfl ?_;simp only [w3,hKn,SSd,Nat.reduceAdd];refine zAE (X2++((bo,BkO (gcB 5 (.slice a2 (k+1) q2) (.slice none 0 0)))::(b2,BkO (gcB 0 (.slice none 0 0) (.slice none 0 0)))::L)) (zAA ⟨m - 1,by omega,k+1,X2,a2,q2,_,u++NC ⟨fn,ft⟩ c,r',by omega,rfl,rfl,rfl,h2,hR2,hr',by rw [zt];exact hur⟩)
  rcases hcc with ⟨rfl,rfl⟩|⟨rfl,rfl⟩|⟨rfl,rfl⟩
  ·simp only [show ((20:Int)==16)=false from rfl,SSd,Nat.reduceAdd];unfold Xh;simp only [show ((20:Int)==25)=false from rfl,SSd,Nat.reduceAdd];exact next _ rfl
  ·simp only [show ((16:Int)==16)=true from rfl,SSd,Nat.reduceAdd];exact next _ rfl
  ·simp only [show ((25:Int)==16)=false from rfl,SSd,Nat.reduceAdd];unfold Xh;simp only [show ((25:Int)==25)=true from rfl,SSd,Nat.reduceAdd];exact next _ rfl
 ·have hb:=of_decide_eq_false hb;have hb:¬k < l.length:=by
   intro h1;rw [zab h1] at hr;have:=QJ hr;rw [zi] at this;omega
  obtain rfl:k=l.length:=by omega
  rw [zW (zh _)] at hR;unfold ADs;refine BV rfl ?_;refine stB rfl rfl (λu hu=>?_) ?_
  ·simp only [zK,zaG,or_false] at hu;rcases hu with rfl|rfl|rfl|rfl|rfl|rfl|rfl|rfl|rfl|rfl <;> rfl
  refine BV rfl ?_;refine RL.ofO (R:=TFieldV) (λh hI=>h) hX hR (λI2 hI2 hRL=>?_);refine zAE L (zAA (hk I2 _ hI2 ⟨_,_,rfl,hRL,zAD none 0⟩))
end
theorem QD {m:TBack}(g1:(Am m).2.2.2=true)(g2:(Am m).1=m)(h10:(m.fKind==10)=false):
  m={fKind:=1}∨(∃p q,m={fKind:=3,fPid:=p,fSecret:=q}∧smB [p,q]=true)∨(∃s,m={fKind:=4,fStatus:=s}∧(s=73∨s=84∨s=69))∨(∃l,m={fKind:=5,fFields:=l}∧(DF l).2=true)∨
  (∃l,m={fKind:=6,fCells:=l}∧(CE l).2.2=true)∨(∃a b,m={fKind:=2,fName:=a,fText:=b}∧clB [a,b]=true)∨(∃t,m={fKind:=7,fText:=t}∧clB [t]=true)∨
  (∃s t f,m={fKind:=9,fState:=s,fText:=t,fFatal:=f}∧Dq s=true∧clB [t]=true)∨m={fKind:=8}:=by
 unfold Am at g1 g2;split at g1
 ·rename_i h;rw [if_pos h] at g2;exact .inl g2.symm
 rename_i h;rw [if_neg h] at g2
 split at g1
 ·rename_i h;rw [if_pos h] at g2;exact .inr (.inl ⟨_,_,g2.symm,g1⟩)
 rename_i h;rw [if_neg h] at g2
 split at g1
 ·rename_i h;rw [if_pos h] at g2
  exact .inr (.inr (.inl ⟨_,g2.symm,by simpa [or_assoc] using g1⟩))
 rename_i h;rw [if_neg h] at g2
 split at g1
 ·rename_i h;rw [if_pos h] at g2;exact .inr (.inr (.inr (.inl ⟨_,g2.symm,g1⟩)))
 rename_i h;rw [if_neg h] at g2
 split at g1
 ·rename_i h;rw [if_pos h] at g2;exact .inr (.inr (.inr (.inr (.inl ⟨_,g2.symm,g1⟩))))
 rename_i h;rw [if_neg h] at g2
 split at g1
 ·rename_i h;rw [if_pos h] at g2;exact .inr (.inr (.inr (.inr (.inr (.inl ⟨_,_,g2.symm,g1⟩)))))
 rename_i h;rw [if_neg h] at g2
 split at g1
 ·rename_i h;rw [if_pos h] at g2
  refine .inr (.inr (.inr (.inr (.inr (.inr (.inl ⟨_,g2.symm,?_⟩))))));simp only [clB,zbg,List.all_nil,zQ,Bool.and_true] at g1 ⊢;exact g1.2
 rename_i h;rw [if_neg h] at g2
 split at g1
 ·rename_i h;rw [if_pos h] at g2
  simp only [zQ] at g1;exact .inr (.inr (.inr (.inr (.inr (.inr (.inr (.inl ⟨_,_,_,g2.symm,g1.1,g1.2⟩)))))))
 rename_i h;rw [if_neg h] at g2
 split at g1
 ·rename_i h;rw [if_pos h] at g2
  have h8:m.fKind=8:=by
   simp only [beq_iff_eq] at h;rcases h with h|h
   ·exact h
   ·rw [h] at h10;simp at h10
  rw [h8] at g2;exact .inr (.inr (.inr (.inr (.inr (.inr (.inr (.inr g2.symm)))))))
 ·cases g1
theorem AAt {p:Int}(h:(p==i32 p)=true): -2147483648≤p∧p≤2147483647:=by
 have h:p=i32 p:=by simpa using h
 unfold i32 at h;rw [IntKind.wrap_i32] at h;omega
section
variable {ω:Om}{I:Imm}{L F:LH}{K:Value→M}{m:TBack}{v:Value}
theorem SlO.cell {T len i:Nat}{X:LH}{v:Value}{cells:List Value}{u:Value}(h:SlO T 1 X v cells len)(hi:i < len)(hu:cells[i]? =some u):∃b,ixV 1 v (.int .i64 (i:Nat))=some (.pointer (some ⟨b,i * 1,none⟩))∧∀I L,(∀x∈X,x∈L)→Cell I L b (i * 1) u:=by
 obtain ⟨b,h1,h2⟩:=SlO.ix h .i64 hi;refine ⟨b,h1,λI L hX=>?_⟩;have h3:=h2 I L hX 0 u (by rw [List.getElem?_take_of_lt zo,zat,Nat.mul_one,Nat.add_zero];exact hu);simpa using h3
theorem VR (hg:(Bq m).2=0)(h10:(m.fKind==10)=false)(hv:Bytes I v (Am m).2.1)(hl:(Am m).2.1.length≤1073741824)
  (hk:∀I' co,Ext I I'→TBackV I' m co→K (.agg co.toArray) I' L):CT ω 34 #[.int .u8 (EN m),v] K I L:=by
 obtain ⟨g1,g2,g3⟩:=Pe hg;have hk0:∀{k:Int} {a b:Bs} {p q s:Int} {st:Bs} {f:Bool},m={fKind:=k,fName:=a,fText:=b,fPid:=p,fSecret:=q,fStatus:=s,fState:=st,fFatal:=f}→K (.agg ([.int .i64 k,.string ⟨a.toArray⟩,.string ⟨b.toArray⟩,.int .i64 p,.int .i64 q,.int .u8 s,.slice none 0 0,.slice none 0 0,.string ⟨st.toArray⟩,.bool f]:List Value).toArray) I L:=
  λe=>hk I _ (zAC _) (by rw [e];exact ⟨_,_,rfl,zAD none 0,zAD none 0⟩)
 refine ART ?_;unfold APy;refine Ap (λb=>?_);rcases QD g1 g2 h10 with e|⟨p,q,e,hc⟩|⟨s,e,hs⟩|⟨l,e,hf⟩|⟨l,e,hf⟩|⟨x,y,e,hc⟩|⟨t,e,hc⟩|⟨s,t,f,e,hs,hc⟩|e
 ·have ht:EN m=82:=by rw [e];rfl
  simp only [ht,show ((82:Int)==82)=true from rfl,SSd,Nat.reduceAdd];refine stB rfl rfl (AV rfl) ?_;refine BV rfl ?_;exact zAE L (zAA (hk0 e))
 ·have ht:EN m=75:=by rw [e];rfl
  have hb:(Am m).2.1=beB p 4++beB q 4:=by rw [e];rfl
  rw [hb] at hv;simp only [smB,zbg,List.all_nil,Bool.and_true,zQ] at hc;have hvl:(beB p 4++beB q 4).length=8:=by rw [zk,Ak,Ak]
  obtain ⟨v2,e1,e2⟩:=Bytes.drop hv (n:=4) zo;have e3:(beB p 4++beB q 4).drop 4=beB q 4++[]:=by rw [zaK];exact List.drop_left' (Ak p 4)
  rw [e3] at e2;simp only [ht,show ((75:Int)==82)=false from rfl,show ((75:Int)==73)=false from rfl,show ((75:Int)==75)=true from rfl,hv.len,hvl,show (((8:Nat):Int)==8)=true from rfl,SSd,Nat.reduceAdd];refine call (Gy hv zo ?_);rw [Rw p (AAt hc.1)];have e1':Bi 1 v (some (.int .i64 4)) none none=some v2:=e1;simp only [e1',SSd,Nat.reduceAdd];refine call (Gy e2 (by rw [zaK,Ak];omega) ?_);rw [Rw q (AAt hc.2)];try refine zqe ?_
  refine stB rfl rfl (AV rfl) ?_;refine BV rfl ?_;exact zAE L (zAA (hk0 e))
 ·have ht:EN m=90:=by rw [e];rfl
  have hb:(Am m).2.1=[byI s]:=by rw [e];rfl
  rw [hb] at hv;have hsb:(((byI s).toNat:Nat):Int)=s:=by rcases hs with rfl|rfl|rfl <;> decide
  obtain ⟨bt,off,e1,e2⟩:=Bytes.at' hv 0 zy;have e1':ixV 1 v (.int .i64 0)=some (.pointer (some ⟨bt,off,none⟩)):=e1;simp only [ht,show ((90:Int)==82)=false from rfl,show ((90:Int)==73)=false from rfl,show ((90:Int)==75)=false from rfl,show ((90:Int)==90)=true from rfl,hv.len,zi,zH,show (((0+1:Nat):Int)==1)=true from rfl,e1',SSd,Nat.reduceAdd];refine rd1 (e2 _ _ (zAC _)) ?_;simp only [zaW,hsb,SSd,Nat.reduceAdd];refine stB rfl rfl (AV rfl) ?_;refine BV rfl ?_;exact zAE L (zAA (hk0 e))
 ·have ht:EN m=84:=by rw [e];rfl
  have hb:(Am m).2.1=(DF l).1:=by rw [e];rfl
  rw [hb] at hv hl;unfold DF at hf hv hl;cases hF:Bl l with
  |none=>rw [hF] at hf;cases hf
  |some t=>
  rw [hF] at hv hl;simp only at hv hl
  simp only [ht,show ((84:Int)==82)=false from rfl,show ((84:Int)==73)=false from rfl,show ((84:Int)==75)=false from rfl,show ((84:Int)==90)=false from rfl,show ((84:Int)==84)=true from rfl,SSd,Nat.reduceAdd];refine call (Ky hF hv (by rw [zk] at hl;omega) (λI2 co hI2 hco=>?_));have hco':=hco;obtain ⟨w0,w1,rfl,k0,k1⟩:=hco;obtain ⟨a0,q0,rfl⟩:=zAF k0;obtain ⟨a1,q1,rfl⟩:=zAF k1;refine stB rfl rfl (AV rfl) ?_;refine BV rfl ?_;exact zAE L (zAA (hk I2 _ hI2 (by rw [e];exact hco')))
 ·have ht:EN m=68:=by rw [e];rfl
  have hb:(Am m).2.1=(CE l).1:=by rw [e];rfl
  have hmx:(Am m).2.2.1=(CE l).2.1:=by rw [e];rfl
  rw [if_neg (by rw [h10];decide)] at g3;have g31:=g3.1;rw [hmx] at g31;rw [hb] at hv hl;unfold CE at hf hv hl g31;by_cases hno:(l.any λc=>c.fNull&&c.fText != [])=true
  ·rw [if_pos hno] at hf;cases hf
  rw [if_neg hno] at hf hv hl g31;by_cases hbig:1073741824 < BH l+4∨1600 < l.length
  ·rw [if_pos hbig] at hf g31;have:=of_decide_eq_true hf;simp only at g31;omega
  rw [if_neg hbig] at hv hl;simp only at hv hl
  simp only [ht,show ((68:Int)==82)=false from rfl,show ((68:Int)==73)=false from rfl,show ((68:Int)==75)=false from rfl,show ((68:Int)==90)=false from rfl,show ((68:Int)==84)=false from rfl,show ((68:Int)==68)=true from rfl,SSd,Nat.reduceAdd];refine call (MP hv (zg.2 hno) (by rw [zk] at hl;omega) (λI2 co hI2 hco=>?_));have hco':=hco;obtain ⟨w0,w1,rfl,k0,k1⟩:=hco;obtain ⟨a0,q0,rfl⟩:=zAF k0;obtain ⟨a1,q1,rfl⟩:=zAF k1;refine stB rfl rfl (AV rfl) ?_;refine BV rfl ?_;exact zAE L (zAA (hk I2 _ hI2 (by rw [e];exact hco')))
 ·have ht:EN m=83:=by rw [e];rfl
  have hb:(Am m).2.1=txB [x,y]:=by rw [e,←AHX];rfl
  rw [hb] at hv hl;simp only [ht,show ((83:Int)==82)=false from rfl,show ((83:Int)==73)=false from rfl,show ((83:Int)==75)=false from rfl,show ((83:Int)==90)=false from rfl,show ((83:Int)==84)=false from rfl,show ((83:Int)==68)=false from rfl,SSd,Nat.reduceAdd];unfold MJ;refine call (Gq hv hc zo (λX u hX=>?_));obtain ⟨a,q,rfl⟩:=hX.form;obtain ⟨c0,i0,r0⟩:=SlO.cell hX (i:=0) zy rfl;obtain ⟨c1,i1,r1⟩:=SlO.cell hX (i:=1) zy rfl;have i0:ixV 1 (.slice a [x,y].length q) (.int .i64 0)=_:=i0;have i1:ixV 1 (.slice a [x,y].length q) (.int .i64 1)=_:=i1;simp only [show ((83:Int)==83)=true from rfl,Dx,show ((([x,y].length:Nat):Int)==2)=true from rfl,SSd,Nat.reduceAdd];unfold AEB;refine Ci ?_;simp only [i0,i1,SSd,Nat.reduceAdd];refine PZ (r0 _ _ (λz hz=>zY _ hz)) ?_;simp only [i1,SSd,Nat.reduceAdd];refine PZ (r1 _ _ (λz hz=>zY _ hz)) ?_;try refine zqe ?_
  refine stB rfl rfl (AV rfl) ?_;refine BV rfl ?_;exact zAE L (zAA (hk0 e))
 ·have ht:EN m=67:=by rw [e];rfl
  have hb:(Am m).2.1=txB [t]:=by rw [e];rfl
  rw [hb] at hv hl;simp only [ht,show ((67:Int)==82)=false from rfl,show ((67:Int)==73)=false from rfl,show ((67:Int)==75)=false from rfl,show ((67:Int)==90)=false from rfl,show ((67:Int)==84)=false from rfl,show ((67:Int)==68)=false from rfl,SSd,Nat.reduceAdd];unfold MJ;refine call (Gq hv hc zo (λX u hX=>?_));obtain ⟨a,q,rfl⟩:=hX.form;obtain ⟨c0,i0,r0⟩:=SlO.cell hX (i:=0) zy rfl;have i0:ixV 1 (.slice a [t].length q) (.int .i64 0)=_:=i0;simp only [show ((67:Int)==83)=false from rfl,SSd,Nat.reduceAdd];unfold PG;simp only [show ((67:Int)==67)=true from rfl,Dx,show ((([t].length:Nat):Int)==1)=true from rfl,SSd,Nat.reduceAdd];unfold AEA;simp only [i0,SSd,Nat.reduceAdd];refine rd1 (r0 _ _ (λz hz=>zY _ hz)) ?_;try refine zqe ?_
  refine stB rfl rfl (AV rfl) ?_;refine BV rfl ?_;exact zAE L (zAA (hk0 e))
 ·have ht:EN m=69:=by rw [e];rfl
  have hb:(Am m).2.1=txB [83::(if f then [70,65,84,65,76] else [69,82,82,79,82]),86::(if f then [70,65,84,65,76] else [69,82,82,79,82]),67::s,77::t,[]]:=by
   rw [e];show txB [83::(if f then [70,65,84,65,76] else [69,82,82,79,82]),86::(if f then [70,65,84,65,76] else [69,82,82,79,82]),67::s,77::t]++[0]=_;simp only [txB,zaH,List.flatMap_nil,zt,zaF,zaK]
  rw [hb] at hv hl;have hs0:s.all (· != 0)=true:=by
   unfold Dq at hs;simp only [zQ] at hs;refine zas.2 λc hc=>?_;have:=(Uz c).1 (zas.1 hs.2 c hc);simp only [bne_iff_ne,ne_eq];rintro rfl;simp at this
  have hcl:clB [83::(if f then [70,65,84,65,76] else [69,82,82,79,82]),86::(if f then [70,65,84,65,76] else [69,82,82,79,82]),67::s,77::t,[]]=true:=by
   simp only [clB,zbg,List.all_nil,Bool.and_true,zQ] at hc ⊢;cases f <;> simp [hs0,hc]
  simp only [ht,show ((69:Int)==82)=false from rfl,show ((69:Int)==73)=false from rfl,show ((69:Int)==75)=false from rfl,show ((69:Int)==90)=false from rfl,show ((69:Int)==84)=false from rfl,show ((69:Int)==68)=false from rfl,SSd,Nat.reduceAdd];unfold MJ;refine call (Gq hv hcl zo (λX u hX=>?_));have hX5:SlO 9 1 X u [.string ⟨(83::(if f then [70,65,84,65,76] else [69,82,82,79,82])).toArray⟩,.string ⟨(86::(if f then [70,65,84,65,76] else [69,82,82,79,82])).toArray⟩,.string ⟨(67::s).toArray⟩,.string ⟨(77::t).toArray⟩,.string ⟨([]:Bs).toArray⟩] 5:=hX;clear hX;obtain ⟨a,q,rfl⟩:=hX5.form;obtain ⟨c0,i0,r0⟩:=SlO.cell hX5 (i:=0) zo rfl;obtain ⟨c2,i2,r2⟩:=SlO.cell hX5 (i:=2) zo rfl;obtain ⟨c3,i3,r3⟩:=SlO.cell hX5 (i:=3) zo rfl;have i0:ixV 1 (.slice a 5 q) (.int .i64 0)=_:=i0;have i2:ixV 1 (.slice a 5 q) (.int .i64 2)=_:=i2;have i3:ixV 1 (.slice a 5 q) (.int .i64 3)=_:=i3;simp only [show ((69:Int)==83)=false from rfl,SSd,Nat.reduceAdd];unfold PG;simp only [show ((69:Int)==67)=false from rfl,SSd,Nat.reduceAdd];unfold TQ;simp only [show ((69:Int)==69)=true from rfl,Dx,show (((5:Nat):Int)==5)=true from rfl,i2,SSd,Nat.reduceAdd];refine rd1 (r2 _ _ (λz hz=>zY _ hz)) ?_;have l2:BP (.string ⟨(67::s).toArray⟩)=some (.int .i64 ((s.length+1:Nat):Int)):=rfl;have l3:BP (.string ⟨(77::t).toArray⟩)=some (.int .i64 ((t.length+1:Nat):Int)):=rfl;have d2:decide ((0:Int) < ((s.length+1:Nat):Int))=true:=decide_eq_true zo
  have d3:decide ((0:Int) < ((t.length+1:Nat):Int))=true:=decide_eq_true zo;simp only [l2,d2,i3,SSd,Nat.reduceAdd];refine rd1 (r3 _ _ (λz hz=>zY _ hz)) ?_;simp only [l3,d3,SSd,Nat.reduceAdd];unfold ADz;refine Ci ?_;simp only [i0,SSd,Nat.reduceAdd];refine PZ (r0 _ _ (λz hz=>zY _ hz)) ?_;have q0:BB .eql (.string ⟨(83::(if f then [70,65,84,65,76] else [69,82,82,79,82])).toArray⟩) (.string ⟨#[83,70,65,84,65,76]⟩)=some (.bool f):=by
   have:=sEq (83::(if f then [70,65,84,65,76] else [69,82,82,79,82])) [83,70,65,84,65,76];refine this.trans ?_;cases f <;> rfl
  have q2:DT (.string ⟨(67::s).toArray⟩) (some (.int .i64 1)) none=some (.string ⟨s.toArray⟩):=VB (67::s) (a:=1) zy;have q3:DT (.string ⟨(77::t).toArray⟩) (some (.int .i64 1)) none=some (.string ⟨t.toArray⟩):=VB (77::t) (a:=1) zy;simp only [q0,i2,SSd,Nat.reduceAdd];refine PZ (r2 _ _ (λz hz=>zY _ hz)) ?_;simp only [q2,i3,SSd,Nat.reduceAdd];refine PZ (r3 _ _ (λz hz=>zY _ hz)) ?_;simp only [q3,SSd,Nat.reduceAdd];refine stB rfl rfl (AV rfl) ?_;refine BV rfl ?_;exact zAE L (zAA (hk0 e))
 ·have ht:EN m=73:=by rw [e];rfl
  simp only [ht,show ((73:Int)==82)=false from rfl,show ((73:Int)==73)=true from rfl,SSd,Nat.reduceAdd];refine stB rfl rfl (AV rfl) ?_;refine BV rfl ?_;exact zAE L (zAA (hk0 e))
end
theorem KX {k:Nat}(h:1≤k∧k≤9):tagsW.getD k 0∈[82,83,75,90,84,68,67,73,69]∧tagsW.getD k 0≠78:=by
 have:k=1∨k=2∨k=3∨k=4∨k=5∨k=6∨k=7∨k=8∨k=9:=by omega
 rcases this with rfl|rfl|rfl|rfl|rfl|rfl|rfl|rfl|rfl <;> decide
theorem ALl {m:TBack}(hg:(Bq m).2=0)(h10:(m.fKind==10)=false):(tagsW.getD m.fKind.toNat 0)∈[82,83,75,90,84,68,67,73,69]∧tagsW.getD m.fKind.toNat 0≠78:=by
 obtain ⟨g1,g2,_⟩:=Pe hg;rcases QD g1 g2 h10 with e|⟨p,q,e,_⟩|⟨s,e,_⟩|⟨l,e,_⟩|⟨l,e,_⟩|⟨x,y,e,_⟩|⟨t,e,_⟩|⟨s,t,f,e,_⟩|e
 ·rw [e];exact KX (k:=1) ⟨by decide,by decide⟩
 ·rw [e];exact KX (k:=3) ⟨by decide,by decide⟩
 ·rw [e];exact KX (k:=4) ⟨by decide,by decide⟩
 ·rw [e];exact KX (k:=5) ⟨by decide,by decide⟩
 ·rw [e];exact KX (k:=6) ⟨by decide,by decide⟩
 ·rw [e];exact KX (k:=2) ⟨by decide,by decide⟩
 ·rw [e];exact KX (k:=7) ⟨by decide,by decide⟩
 ·rw [e];exact KX (k:=9) ⟨by decide,by decide⟩
 ·rw [e];exact KX (k:=8) ⟨by decide,by decide⟩
section
variable {ω:Om}{I:Imm}{L F:LH}{K:Value→M}{m:TBack}{v:Value}
theorem AOz {I0:Imm}{X Y:LH}{v:Value}{l:Bs}[h:LSub X Y](ho:OwB X v l)(hk:K (.string ⟨l.toArray⟩) I L):Rv (some (Stay I0 Y)) (bsR v) K I L:=by
 obtain ⟨hl,h2⟩:=ho;rcases h2 with ⟨rfl,h0,a,rfl⟩|⟨bb,cap,cs,rfl,rfl,hcs,hle,hcell⟩
 ·have:l=[]:=zG h0;subst this;exact ⟨_,λI' L' hS=>.inl ⟨a,0,rfl,rfl⟩,hk⟩
 ·refine ⟨_,λI' L' hS=>.inr ⟨bb,0,l.length,cap,l,rfl,rfl,λj u hu=>?_,rfl⟩,hk⟩;rw [zaS];exact Cell.own (hS.2 _ (h.sub _ (zM.2 rfl))) (hcell j u hu)
theorem XF {r:Bs}(hg:(Bq m).2=0)(hbk:Ns m)(hv:Bytes I v ((Bq m).1++r))(hl:r.length≤1000000000000000)
  (hk:∀I' co,Ext I I'→TBackV I' m co→K (.tuple #[.agg co.toArray,.int .i64 ((Bq m).1.length:Nat),.int .i64 0]) I' L):CT ω 14 #[v] K I L:=by
 obtain ⟨g1,g2,g3⟩:=Pe hg;obtain ⟨c,u,hc⟩:∃c u,(Bq m).1=c::u:=by
  split at g3
  ·rw [g3];exact ⟨_,_,rfl⟩
  ·rw [g3.2];exact ⟨_,_,rfl⟩
 have hlen:((Bq m).1++r).length=(Bq m).1.length+r.length:=zk;have h1:1≤(Bq m).1.length:=by rw [hc];simp
 have hget:((Bq m).1++r).getD 0 0=c:=by rw [hc];rfl
 refine ARf ?_;unfold AQK;refine Ap (λb1=>?_);have d0:((((Bq m).1++r).length:Int)==0)=false:=beq_false_of_ne zo;simp only [hv.len,d0,SSd,Nat.reduceAdd];obtain ⟨bt,off,e1,e2⟩:=Bytes.at' hv 0 zo;have e1:ixV 1 v (.int .i64 0)=some (.pointer (some ⟨bt,off,none⟩)):=e1;rw [hget] at e2;refine loop (λq st I' L'=>∃k:Nat,k+q=9∧st=(Value.bool ((([82,83,75,90,84,68,67,73,69]:Bs).take k).any (·==c)),Value.int .i64 (k:Nat),())∧I'=I∧L'=(b1,BkO (gcB 0 (.slice none 0 0) (.slice none 0 0)))::L) 9 ⟨0,rfl,rfl,rfl,rfl⟩ ?_;rintro q st I' L' ⟨k,hkq,rfl,rfl,rfl⟩;unfold AEQ;have ls:BP (.string ⟨#[82,83,75,90,84,68,67,73,69]⟩)=some (.int .i64 ((9:Nat):Int)):=rfl;simp only [ls,SSd,Nat.reduceAdd];refine AL (λhb=>?_) (λhb=>?_)
 ·have hb:k < 9:=by have:=of_decide_eq_true hb;omega
  have w1:IntKind.i64.wrap ((k:Int)+1)=((k+1:Nat):Int):=by rw [wrap_i64 _ zo];omega
  have ht:([82,83,75,90,84,68,67,73,69]:Bs).take (k+1)=([82,83,75,90,84,68,67,73,69]:Bs).take k++[([82,83,75,90,84,68,67,73,69]:Bs)[k]]:=zf hb;refine Ci ?_;cases hkn:((([82,83,75,90,84,68,67,73,69]:Bs).take k).any (·==c)) with
  |true=>
   simp only [w1,SSd,Nat.reduceAdd];refine zAA ⟨q - 1,by omega,k+1,by omega,?_,rfl,rfl⟩;rw [ht,List.any_append,hkn];rfl
  |false=>
   have hix:Ei (.string ⟨#[82,83,75,90,84,68,67,73,69]⟩) (.int .i64 (k:Nat))=some (.int .u8 (([82,83,75,90,84,68,67,73,69]:Bs)[k]).toNat):=ixS [82,83,75,90,84,68,67,73,69] (zam hb);simp only [e1,SSd,Nat.reduceAdd];refine PZ (e2 _ _ (zAC _)) ?_;simp only [hix,w1,SSd,Nat.reduceAdd];refine zAA ⟨q - 1,by omega,k+1,by omega,?_,rfl,rfl⟩;rw [ht,List.any_append,hkn];simp only [List.any_cons,List.any_nil,Bool.or_false,zba];have:∀a b:UInt8,((((a.toNat:Nat):Int))==((b.toNat:Nat):Int))=(b==a):=by
    intro a b;by_cases h:a=b
    ·subst h;simp
    ·rw [beq_false_of_ne (λh'=>h (UInt8.toNat_inj.1 zo)),beq_false_of_ne (λh'=>h h'.symm)]
   rw [this]
 have hb:k=9:=by have:=of_decide_eq_false hb;omega
 subst hb;unfold AEP;simp only [e1,SSd,Nat.reduceAdd];refine rd1 (e2 _ _ (zAC _)) ?_;cases h10:(m.fKind==10) with
 |true=>
  rw [if_pos h10] at g3;have hm:m={fKind:=10}:=by
   have e:m.fKind=10:=by simpa using h10
   rw [←g2];unfold Am;rw [e];rfl
  have hcc:c=78:=by rw [g3] at hc;simp only [zaE] at hc;exact hc.1.symm
  subst hcc;simp only [show ((((78:UInt8).toNat:Nat):Int)==78)=true from rfl,SSd,Nat.reduceAdd];refine stB rfl rfl (AV rfl) ?_;refine BV rfl ?_;have hk:=hk I' (gcB 10 (.slice none 0 0) (.slice none 0 0)) (zAC _) (by rw [hm];exact ⟨_,_,rfl,zAD none 0,zAD none 0⟩);rw [g3] at hk;exact zAE L (zAA hk)
 |false=>
 rw [if_neg (by rw [h10];decide)] at g3;obtain ⟨t1,t2⟩:=ALl hg h10;have hp:=g3.2;have hcc:c=tagsW.getD m.fKind.toNat 0:=by
  rw [hp] at hc;simp only [zah,zaE] at hc;exact hc.1.symm
 rw [←hcc] at t1 t2;have hkn:(([82,83,75,90,84,68,67,73,69]:Bs).take 9).any (·==c)=true:=List.any_eq_true.2 ⟨c,t1,by simp⟩;have h78:(((c.toNat:Nat):Int)==78)=false:=beq_false_of_ne (λh=>t2 (UInt8.toNat_inj.1 (by show c.toNat=78;omega)));have htr:((c.toNat:Nat):Int)=EN m:=by rw [hcc];rfl
 generalize hB:(Am m).2.1=B at *;have hpl:(Bq m).1.length=B.length+5:=by
  rw [hp];simp only [zah,zi,zk,Ak];omega
 have hBl:B.length+4≤1073741824:=by omega
 have d5:decide ((((Bq m).1++r).length:Int) < 5)=false:=decide_eq_false zo;obtain ⟨v1,e3,e4⟩:=Bytes.drop hv (n:=1) zo;have e3:Bi 1 v (some (.int .i64 1)) none none=some v1:=e3;have e5:((Bq m).1++r).drop 1=beB ((B.length+4:Nat):Int) 4++(B++r):=by
  rw [hp];simp only [zah,List.drop_succ_cons,List.drop_zero,zt]
 rw [e5] at e4;simp only [hkn,h78,zB,hv.len,d5,e3,SSd,Nat.reduceAdd];refine call (Gy e4 (by rw [zk,Ak];omega) ?_);rw [Rw ((B.length+4:Nat):Int) zo];have f1:decide (((B.length+4:Nat):Int) < 4)=false:=decide_eq_false zo;have f2:decide ((1073741824:Int) < ((B.length+4:Nat):Int))=false:=decide_eq_false zo;have w1:IntKind.i64.wrap ((((Bq m).1++r).length:Int) - 1)=((B.length+4+r.length:Nat):Int):=by rw [wrap_i64 _ zo];omega
 have f3:decide (((B.length+4+r.length:Nat):Int) < ((B.length+4:Nat):Int))=false:=decide_eq_false zo;have w2:IntKind.i64.wrap (1+((B.length+4:Nat):Int))=((B.length+5:Nat):Int):=by rw [wrap_i64 _ zo];omega
 simp only [f1,f2,hv.len,w1,f3,SSd,Nat.reduceAdd];obtain ⟨v2,e6,e7⟩:=Bytes.part hv (lo:=5) (hi:=B.length+5) zo zo;have e6:Bi 1 v (some (.int .i64 5)) (some (.int .i64 ((B.length+5:Nat):Int))) none=some v2:=e6;have e8:(((Bq m).1++r).drop 5).take (B.length+5 - 5)=B:=by
  rw [hp];have:tagsW.getD m.fKind.toNat 0::beB ((B.length+4:Nat):Int) 4++B++r=(tagsW.getD m.fKind.toNat 0::beB ((B.length+4:Nat):Int) 4)++(B++r):=by simp
  rw [this,List.drop_left' (by rw [zi,Ak]),Nat.add_sub_cancel,List.take_left]
 rw [e8] at e7;have last:∀(I2:Imm) (co:List Value) (bm:Nat),Ext I' I2→TBackV I2 m co→Tu ω v (.pointer (some ⟨b1,0,none⟩)) (.int .i64 0) (.int .i64 0) (.int .i64 ((B.length+4:Nat):Int)) (.pointer (some ⟨bm,0,none⟩)) (λv=>Gh (K v)) I2 ((bm,BkO co)::(b1,BkO (gcB 0 (.slice none 0 0) (.slice none 0 0)))::L):=by
  intro I2 co bm hI2 hco;have hco':=hco;obtain ⟨w0,w1',rfl,k0,k1⟩:=hco;obtain ⟨a0,q0,rfl⟩:=zAF k0;obtain ⟨a1,q1,rfl⟩:=zAF k1;unfold Tu;refine BV rfl ?_;refine call (ABm hco' hg hbk.1 ⟨hbk.2.1,hbk.2.2.1⟩ (λX w hX=>?_));try refine zqe ?_
  refine Ci ?_;simp only [show ((0:Int) != 0)=false from rfl,SSd,Nat.reduceAdd];refine AOz (X:=X) hX ?_;obtain ⟨v3,e9,e10⟩:=Bytes.part (hv.mono hI2) (lo:=0) (hi:=B.length+5) zo zo;have e9:Bi 1 v none (some (.int .i64 ((B.length+5:Nat):Int))) none=some v3:=by
   obtain ⟨a,cap,hvf⟩:=hv.form;rw [hvf] at e9 ⊢;exact e9
  have e11:(((Bq m).1++r).drop 0).take (B.length+5 - 0)=(Bq m).1:=by
   rw [List.drop_zero,Nat.sub_zero,←hpl,List.take_left]
  rw [e11] at e10;simp only [w2,e9,SSd,Nat.reduceAdd];refine APA e10 (zAC _) ?_;try simp only [sNe,beq_self_eq_true,zB,SSd,Nat.reduceAdd]
  refine BV rfl ?_;try simp only [w2,SSd,Nat.reduceAdd]
  refine stB rfl rfl (AV rfl) ?_;refine BV rfl ?_;have hk:=hk I2 _ hI2 hco';rw [hpl] at hk;exact zAE L (zAA hk)
 refine Ci ?_;try simp only [e1,SSd,Nat.reduceAdd]
 refine PZ (e2 _ _ (zAC _)) ?_;simp only [w2,e6,htr,SSd,Nat.reduceAdd];have hgs:∀{K':Value→M} {L':LH},(∀I2 co,Ext I' I2→TBackV I2 m co→K' (.agg co.toArray) I2 L')→CT ω 34 #[.int .u8 (EN m),v2] K' I' L':=λh=>
  VR hg h10 (by rw [hB];exact e7) (by rw [hB];omega) h
 refine And.intro ?_ ?_
 ·refine call (hgs (λI2 co hI2 hco=>?_));refine Ap (λbm=>?_);refine BK hI2 ?_;have hco':=hco;obtain ⟨w0,w1',rfl,k0,k1⟩:=hco;obtain ⟨a0,q0,rfl⟩:=zAF k0;obtain ⟨a1,q1,rfl⟩:=zAF k1;refine stB rfl rfl (AV rfl) ?_;exact last I2 _ bm hI2 hco'
 ·refine Ap (λbm=>?_);refine BK (zAC _) ?_;refine call (hgs (λI2 co hI2 hco=>?_));have hco':=hco;obtain ⟨w0,w1',rfl,k0,k1⟩:=hco;obtain ⟨a0,q0,rfl⟩:=zAF k0;obtain ⟨a1,q1,rfl⟩:=zAF k1;refine stB rfl rfl (AV rfl) ?_;exact last I2 _ bm hI2 hco'
end
def LP (a k:Int)(f:Bool):Int:=
 if k==9&&f then (if a==6||a==4||a==1 then -1 else 6)
 else if a==0&&k==10 then 0
 else if a==0&&k==1 then 1
 else if a==1&&(k==2||k==3) then 1
 else if a==1&&k==4 then 2
 else if (a==2||a==3)&&k==5 then 4
 else if a==4&&k==6 then 4
 else if (a==2||a==3||a==4)&&k==7 then 3
 else if (a==2||a==3)&&k==9 then 5
 else if a==2&&k==8 then 5
 else if (a==3||a==5)&&k==4 then 2
 else -1
def Jt:Int→List TBack→Option Int
 |a,[]=>some a
 |a,m::r=>if LP a m.fKind m.fFatal < 0 then none else Jt (LP a m.fKind m.fFatal) r
theorem VP (r:List TBack):∀(l:List TBack) {a b:Int},Jt a l=some b→Jt a (l++r)=Jt b r
 |[],a,b,h=>by simp only [Jt,zn] at h;subst h;rfl
 |m::l,a,b,h=>by
  simp only [Jt,zah] at h ⊢;split at h
  ·cases h
  ·rename_i h0
   rw [if_neg h0];exact VP r l h
def Lt (m:TBack):Prop:=(Bq m).2=0∧Ns m
def LU (l:List TBack):Bs:=l.flatMap λm=>(Bq m).1
theorem MQ:∀(l:List TBack),((∀m∈l,(Bq m).2=0)→Cf l []=(LU l,0))∧((Cf l []).2=0→∀m∈l,(Bq m).2=0)
 |[]=>⟨λ_=>rfl,λ_=>nofun⟩
 |m::r=>by
  obtain ⟨h1,h2⟩:=MQ r;simp only [Cf];rw [AFB r];refine ⟨λh=>?_,λh=>?_⟩
  ·have hm:=h m zJ;rw [if_neg (by rw [hm];decide),h1 λx hx=>h x (zV _ hx)];rfl
  ·split at h
   ·rename_i h0;rw [h] at h0;simp at h0
   rename_i h0
   split at h
   ·rename_i h3;rw [h] at h3;simp at h3
   rename_i h3
   intro x hx;rcases zK.1 hx with rfl|hx
   ·simpa using h0
   ·exact h2 (by simpa using h3) x hx
def SentI (a:Int)(o:Bs)(c:Int):Prop:=∃ms,o=LU ms∧(∀m∈ms,Lt m)∧Jt a ms=some c
theorem SentI.nil (a:Int):SentI a [] a:=⟨[],rfl,nofun,rfl⟩
theorem AHk {s:Ses}{l:List TBack}(h:(Cf l []).2≠0):BD s l=s:=by unfold BD;rw [if_pos (by simpa using h)]
theorem GU {a c d:Int}{s:Ses}{l:List TBack}(h:SentI a s.out c)(hl:∀m∈l,Lt m)(hr:Jt c l=some d):SentI a (BD s l).out d:=by
 obtain ⟨ms,h1,h2,h3⟩:=h;have hp:=(MQ l).1 λm hm=>(hl m hm).1;refine ⟨ms++l,?_,λm hm=>?_,by rw [VP l ms h3];exact hr⟩
 ·unfold BD;rw [hp,if_neg zy,h1];simp [LU]
 ·rcases zaz.1 hm with hm|hm
  ·exact h2 m hm
  ·exact hl m hm
theorem EZ (s:Ses)(l:List TBack):(BD s l).pid=s.pid∧(BD s l).secret=s.secret∧(BD s l).own=s.own∧(BD s l).stmt=s.stmt:=by unfold BD;split <;> exact ⟨rfl,rfl,rfl,rfl⟩
theorem ABi (m:TBack):Jc m m=true:=by simp [Jc]
theorem Pg {m o:TBack}{b:Bs}{n:Int}(h:Am m=(o,b,n,true))(g2:o=m)(g3:max n b.length+4≤1073741824):(Bq m).2=0:=by
 unfold Bq;simp only [h,g2,ABi,zB,Bool.or_self,zl,if_false];split
 ·rfl
 ·rw [if_neg zo]
theorem AFt {st tx:Bs}(f:Bool)(h1:Dq st=true)(h2:clB [tx]=true)(h3:tx.length≤1000):Lt {fKind:=9,fState:=st,fText:=tx,fFatal:=f}:=by
 have h5:st.length=5:=by
  unfold Dq at h1;simp only [zQ,beq_iff_eq] at h1;exact h1.1
 refine ⟨?_,?_,by show (0:Int)≤0;decide,by show (0:Int)≤255;decide,by show (0:Int)≤9;decide⟩
 ·refine Pg (o:={fKind:=9,fState:=st,fText:=tx,fFatal:=f}) (n:=0) (b:=txB [83::(if f then [70,65,84,65,76] else [69,82,82,79,82]),86::(if f then [70,65,84,65,76] else [69,82,82,79,82]),67::st,77::tx]++[0]) ?_ rfl ?_
  ·show (_,_,_,Dq st&&clB [tx])=_;rw [h1,h2];try rfl
  ·cases f <;> (simp [txB,h5];omega)
 ·simp only [Di,BH,zal,zaA,zH,h5];omega
def OkP (p:Bs×Bs):Bool:=Dq p.1&&clB [p.2]&&decide (p.2.length≤1000)
theorem AIL {c:Prop}[Decidable c]{x y:Bs×Bs}(hx:OkP x=true)(hy:OkP y=true):OkP (if c then x else y)=true:=by split <;> assumption
theorem AHl (e:Int):OkP (CZ e)=true:=by
 unfold CZ;repeat' refine AIL ?_ ?_
 all_goals decide+kernel
theorem OU (e:Int)(f:Bool):Lt {fKind:=9,fState:=(CZ e).1,fText:=(CZ e).2,fFatal:=f}:=by
 have h:=AHl e;unfold OkP at h;simp only [zQ] at h;exact AFt f h.1.1 h.1.2 (of_decide_eq_true h.2)
theorem IV {t:Bs}(h1:clB [[],t]=true)(h3:t.length≤1000):Lt {fKind:=7,fText:=t}:=by
 refine ⟨?_,?_,by show (0:Int)≤0;decide,by show (0:Int)≤255;decide,by show (0:Int)≤7;decide⟩
 ·refine Pg (o:={fKind:=7,fText:=t}) (n:=0) (b:=txB [t]) ?_ rfl ?_
  ·show (_,_,_,clB [[],t])=_;rw [h1];try rfl
  ·simp [txB];omega
 ·simp only [Di,BH,zal,zaA,zH];omega
theorem VV {st:Int}(h:st=73∨st=84∨st=69):Lt {fKind:=4,fStatus:=st}:=by
 refine ⟨?_,by show (2:Nat)≤_;decide,?_,?_,by show (0:Int)≤4;decide⟩
 ·rcases h with rfl|rfl|rfl <;> decide+kernel
 iterate 2
  ·rcases h with rfl|rfl|rfl <;> decide
theorem key_ok {p q:Int}(h:smB [p,q]=true):Lt {fKind:=3,fPid:=p,fSecret:=q}:=by
 refine ⟨?_,by show (2:Nat)≤_;decide,by show (0:Int)≤0;decide,by show (0:Int)≤255;decide,by show (0:Int)≤3;decide⟩;refine Pg (o:={fKind:=3,fPid:=p,fSecret:=q}) (n:=0) (b:=beB p 4++beB q 4) ?_ rfl ?_
 ·show (_,_,_,smB [p,q])=_;rw [h];try rfl
 ·show max (0:Int) (8:Nat)+4≤_;decide
def stU (s:Ses):Prop:=s.status=73∨s.status=84∨s.status=69
structure PlI (s:Ses)(a:Int):Prop where
 id:smB [s.pid,s.secret]=true
 at':s.ended=true∨(s.status=0∧a=0∧s.query=false∧s.kind=0)∨
  (stU s∧((s.query=false∧a=2∧s.kind=0)∨
   (s.query=true∧(a=2∨a=3)∧(s.kind≠0∨s.stmts≠[]∨a=3)∧(s.kind=4→s.status=84))∨
   (s.query=true∧a=5∧s.stmts=[]∧(s.kind=0∨s.kind=4∧s.status=69))))
def StI (a:Int)(s:Ses):Prop:=∃c,SentI a s.out c∧PlI s c
theorem StI.shut {a c:Int}{s:Ses}(h:SentI a s.out c)(hi:smB [s.pid,s.secret]=true):StI a (Ig s):=⟨c,h,hi,.inl rfl⟩
theorem Pi {a:Int}{s:Ses}(hi:smB [s.pid,s.secret]=true)(hu:stU s)(hq:s.query=true)(ha:a=2∨a=3)(h1:s.kind≠0∨s.stmts≠[]∨a=3)(h2:s.kind=4→s.status=84):PlI s a:=⟨hi,.inr (.inr ⟨hu,.inr (.inl ⟨hq,ha,h1,h2⟩)⟩)⟩
theorem JQ {s:Ses}(hi:smB [s.pid,s.secret]=true)(hu:stU s)(hq:s.query=true)(h1:s.stmts=[])(h2:s.kind=0∨s.kind=4∧s.status=69):PlI s 5:=⟨hi,.inr (.inr ⟨hu,.inr (.inr ⟨hq,rfl,h1,h2⟩)⟩)⟩
theorem LZ {a c:Int}{s:Ses}{t:Bs}(h:SentI a s.out c)(ht:Lt {fKind:=7,fText:=t})(hc:c=2∨c=3)(hi:smB [s.pid,s.secret]=true)(hu:stU s)(hq:s.query=true)(hk:s.kind=0):StI a (Dt s t):=by
 obtain ⟨f1,f2,f3,f4,f5,f6⟩:=Ar s [{fKind:=7,fText:=t}];obtain ⟨g1,g2,_⟩:=EZ s [{fKind:=7,fText:=t}];refine ⟨3,GU (d:=3) h (by simpa using ht) (by rcases hc with rfl|rfl <;> rfl),Pi ?_ ?_ ?_ (.inr rfl) (.inr (.inr rfl)) ?_⟩
 ·rw [Dt,g1,g2];exact hi
 ·unfold stU Dt;rw [f5];exact hu
 ·rw [Dt,f3];exact hq
 ·rw [Dt,f4,hk];intro h;simp at h
theorem UX {a c:Int}{s:Ses}{m:TBack}(h:SentI a s.out c)(hm:Lt m)(h9:m.fKind=9)(hf:m.fFatal=false)(hc:c=2∨c=3):SentI a (BD s [m]).out 5:=
 GU (d:=5) h (by simpa using hm) (by simp only [Jt,h9,hf];rcases hc with rfl|rfl <;> rfl)
theorem AIO {a c:Int}{s:Ses}(x:TStmt)(h:SentI a s.out c)(hc:c=2∨c=3)(hi:smB [s.pid,s.secret]=true)(hu:stU s)(hq:s.query=true)(hk:s.kind=0):StI a (Fj s x):=by
 unfold Fj;split
 ·split
  ·exact LZ (s:={s with status:=73}) h (IV zx zx) hc hi (.inl rfl) hq hk
  ·have hm:Lt {fKind:=9,fState:=[50,53,80,48,50],fText:=[116,104,101,32,116,114,97,110,115,97,99,116,105,111,110,32,104,97,115,32,102,97,105,108,101,100]}:=AFt false zx zx zx;obtain ⟨f1,f2,f3,f4,f5,f6⟩:=Ar s [{fKind:=9,fState:=[50,53,80,48,50],fText:=[116,104,101,32,116,114,97,110,115,97,99,116,105,111,110,32,104,97,115,32,102,97,105,108,101,100]}];obtain ⟨g1,g2,_⟩:=EZ s [{fKind:=9,fState:=[50,53,80,48,50],fText:=[116,104,101,32,116,114,97,110,115,97,99,116,105,111,110,32,104,97,115,32,102,97,105,108,101,100]}];refine ⟨5,UX h hm rfl rfl hc,JQ ?_ ?_ ?_ rfl ?_⟩
   ·simp only [g1,g2];exact hi
   ·unfold stU;simp only [f5];exact hu
   ·simp only [f3];exact hq
   ·simp only [f4];exact .inl hk
 have ctl:∀(k asked:Int) (tag:Bs),Lt {fKind:=7,fText:=tag}→k≠0→(k=4→asked=84)→StI a (Jb s k asked tag):=by
  intro k asked tag ht hk0 hk4;unfold Jb;split
  ·rename_i ha
   have ha:s.status=asked:=by simpa using ha
   exact ⟨c,h,Pi (s:={s with kind:=k,stmt:=default,own:=false}) hi hu hq hc (.inl hk0) (λh4=>ha.trans (hk4 h4))⟩
  ·exact LZ h ht hc hi hu hq hk
 split
 ·exact ctl 2 73 _ (IV zx zx) zx zx
 split
 ·exact ctl 3 84 _ (IV zx zx) zx zx
 split
 ·exact ctl 4 84 _ (IV zx zx) zx zx
 ·exact ⟨c,h,Pi (s:={s with kind:=1,stmt:=x,own:=s.status==73}) hi hu hq hc (.inl zy) (λh=>by simp at h)⟩
theorem ABE {a:Int}{s:Ses}(h:SentI a s.out 5)(hi:smB [s.pid,s.secret]=true)(hu:stU s)(hq:s.query=true)(hk:s.kind=0):StI a (Dh s):=by
 unfold Dh;split
 ·exact ⟨5,h,JQ (s:={s with stmts:=[],status:=69,kind:=4,stmt:=default,own:=false}) hi (.inr (.inr rfl)) hq rfl (.inr ⟨rfl,rfl⟩)⟩
 ·exact ⟨5,h,JQ (s:={s with stmts:=[]}) hi hu hq rfl (.inl hk)⟩
theorem QN {a c:Int}{s:Ses}(e:Int)(h:SentI a s.out c)(hc:c=0∨c=2∨c=3∨c=5)(hi:smB [s.pid,s.secret]=true):StI a (Ig (Bj s e true)):=by
 obtain ⟨g1,g2,_⟩:=EZ s [{fKind:=9,fState:=(CZ e).1,fText:=(CZ e).2,fFatal:=true}];refine StI.shut (c:=6) (GU (d:=6) h (by simpa using OU e true) ?_) (by unfold Bj;rw [g1,g2];exact hi);rcases hc with rfl|rfl|rfl|rfl <;> rfl
theorem Hl {f:TFront}{w:Bool}(h:(if w then (f,(0:Int)) else (({}:TFront),230)).2=0):(if w then (f,(0:Int)) else (({}:TFront),230)).1=f:=by
 cases w with
 |true=>rfl
 |false=>simp at h
theorem ABv {b:Bs}(h:(Jh b).2=0):(Jh b).1.fKind=1∨(Jh b).1.fKind=2∨(Jh b).1.fKind=3:=by
 unfold Jh at h ⊢;simp only at h ⊢
 split at h
 ·rename_i h0
  rw [if_pos h0,Hl h];exact .inr (.inl rfl)
 rename_i h0
 rw [if_neg h0];split at h
 ·rename_i h1
  rw [if_pos h1,Hl h];exact .inr (.inr rfl)
 rename_i h1
 rw [if_neg h1];split at h
 ·rename_i h2
  rw [if_pos h2];generalize CQ (b.length+1) ((Rdq.mk b false).num 4).2 []=o at h ⊢;cases o with
  |none=>simp at h
  |some p=>
   obtain ⟨l,r⟩:=p;simp only at h ⊢
   rw [Hl h];exact .inl rfl
 ·simp at h
theorem AFX {tag:Int}{b:Bs}(h:(Qs tag b).2=0):(Qs tag b).1.fKind=4∨(Qs tag b).1.fKind=5∨(Qs tag b).1.fKind=6:=by
 unfold Qs at h ⊢;simp only at h ⊢
 split at h
 ·rename_i h0
  rw [if_pos h0,Hl h];exact .inl rfl
 rename_i h0
 rw [if_neg h0];split at h
 ·rename_i h1
  rw [if_pos h1,Hl h];exact .inr (.inl rfl)
 ·rename_i h1
  rw [if_neg h1,Hl h];exact .inr (.inr rfl)
theorem AIY {c:Bool}{q:Int×Int}{o:TFront×Int}{h0:Int}(h:(if c then (({},0,230):TFront×Int×Int) else if q.2 != 0 then ({},0,q.2) else if o.2 != 0 then ({},0,o.2) else (o.1,h0+q.1,0)).2.2=0):
  (if c then (({},0,230):TFront×Int×Int) else if q.2 != 0 then ({},0,q.2) else if o.2 != 0 then ({},0,o.2) else (o.1,h0+q.1,0)).1=o.1∧o.2=0:=by
 obtain ⟨q1,q2⟩:=q;obtain ⟨o1,o2⟩:=o;cases c with
 |true=>simp at h
 |false=>
  by_cases h1:q2=0
  ·subst h1;by_cases h2:o2=0
   ·subst h2;simp
   ·simp [h2] at h
  ·simp [h1] at h
theorem YI {b:Bs}{st:Bool}(h:(BN b st).2.2=0):(st=true∧((BN b st).1.fKind=1∨(BN b st).1.fKind=2∨(BN b st).1.fKind=3))∨(st=false∧((BN b st).1.fKind=4∨(BN b st).1.fKind=5∨(BN b st).1.fKind=6)):=by
 unfold BN at h ⊢;obtain ⟨h1,h2⟩:=AIY h;simp only [h1];cases st with
 |true=>exact .inl ⟨rfl,ABv h2⟩
 |false=>exact .inr ⟨rfl,AFX h2⟩
theorem AFl {a:Int}{s:Ses}(h:SentI a s.out 0)(hi:smB [s.pid,s.secret]=true)(hq:s.query=false)(hk:s.kind=0):StI a (IM s):=by
 unfold IM;obtain ⟨f1,f2,f3,f4,f5,f6⟩:=Ar {s with status:=73} [{fKind:=1},{fKind:=2,fName:=[115,101,114,118,101,114,95,118,101,114,115,105,111,110],fText:=[49,54,46,48]},{fKind:=2,fName:=[99,108,105,101,110,116,95,101,110,99,111,100,105,110,103],fText:=[85,84,70,56]},{fKind:=2,fName:=[68,97,116,101,83,116,121,108,101],fText:=[73,83,79]},{fKind:=3,fPid:=s.pid,fSecret:=s.secret},{fKind:=4,fStatus:=73}];obtain ⟨g1,g2,_⟩:=EZ {s with status:=73} [{fKind:=1},{fKind:=2,fName:=[115,101,114,118,101,114,95,118,101,114,115,105,111,110],fText:=[49,54,46,48]},{fKind:=2,fName:=[99,108,105,101,110,116,95,101,110,99,111,100,105,110,103],fText:=[85,84,70,56]},{fKind:=2,fName:=[68,97,116,101,83,116,121,108,101],fText:=[73,83,79]},{fKind:=3,fPid:=s.pid,fSecret:=s.secret},{fKind:=4,fStatus:=73}];refine ⟨2,GU (s:={s with status:=73}) (d:=2) h ?_ (by simp [Jt,LP]),⟨?_,.inr (.inr ⟨?_,.inl ⟨?_,rfl,?_⟩⟩)⟩⟩
 ·intro m hm;simp only [zK,zaG,or_false] at hm;rcases hm with rfl|rfl|rfl|rfl|rfl|rfl
  iterate 4
   ·exact ⟨by decide+kernel,by decide,by decide,by decide,by decide⟩
  ·exact key_ok hi
  ·exact VV (.inl rfl)
 ·simp only [g1,g2];exact hi
 ·exact .inl f5
 ·rw [f3];exact hq
 ·rw [f4];exact hk
theorem APB {a:Int}{s:Ses}(t:Bs)(h:SentI a s.out 2)(hi:smB [s.pid,s.secret]=true)(hu:stU s)(hk:s.kind=0):StI a (Ug s t):=by
 unfold Ug;split
 ·obtain ⟨f1,f2,f3,f4,f5,f6⟩:=Ar {s with query:=true} [{fKind:=9,fState:=(CZ (Cc t).2.code).1,fText:=(CZ (Cc t).2.code).2,fFatal:=false}];obtain ⟨g1,g2,_⟩:=EZ {s with query:=true} [{fKind:=9,fState:=(CZ (Cc t).2.code).1,fText:=(CZ (Cc t).2.code).2,fFatal:=false}];refine ABE (s:=Bj {s with query:=true} (Cc t).2.code false) (UX (s:={s with query:=true}) h (OU _ _) rfl rfl (.inl rfl)) ?_ ?_ ?_ ?_
  ·unfold Bj;rw [g1,g2];exact hi
  ·unfold stU Bj;rw [f5];exact hu
  ·unfold Bj;rw [f3]
  ·unfold Bj;rw [f4];exact hk
 split
 ·rename_i h1 h2
  obtain ⟨f1,f2,f3,f4,f5,f6⟩:=Ar {s with query:=true} [{fKind:=8}];obtain ⟨g1,g2,_⟩:=EZ {s with query:=true} [{fKind:=8}];have hm:Lt {fKind:=8}:=⟨by decide+kernel,by decide,by decide,by decide,by decide⟩;refine ⟨5,GU (s:={s with query:=true}) (d:=5) h (by simpa using hm) rfl,JQ ?_ ?_ ?_ ?_ ?_⟩
  ·simp only [g1,g2];exact hi
  ·unfold stU;simp only [f5];exact hu
  ·simp only [f3]
  ·exact zbf.1 h2
  ·simp only [f4];exact .inl hk
 ·rename_i h1 h2
  exact ⟨2,h,Pi (s:={s with query:=true,stmts:=(Cc t).1}) hi hu rfl (.inl rfl) (.inr (.inl λh=>h2 (zbf.2 h))) (λh4=>by simp only at h4;rw [hk] at h4;simp at h4)⟩
theorem AEu {a:Int}{s t:Ses}(h:StI a s)(hr:CY s=some t):StI a t:=by
 obtain ⟨c,h,hi,hp⟩:=h;unfold CY at hr;split at hr
 ·cases hr
 rename_i h0
 simp only [zaJ,bne_iff_ne,ne_eq,not_or,Bool.not_eq_true,Decidable.not_not] at h0;obtain ⟨he,hk⟩:=h0;have hp:=hp.resolve_left (by rw [he];decide);split at hr
 ·rename_i h1
  simp only [zQ,zaL] at h1;simp only [zn] at hr;subst hr;rcases hp with ⟨_,_,h3,_⟩|⟨hu,⟨h3,_⟩|⟨hq,hc,_⟩|⟨hq,hc,hs,_⟩⟩
  iterate 2
   ·rw [h1.1] at h3;cases h3
  ·exact AIO (s:={s with stmts:=s.stmts.tail}) _ h hc hi hu hq hk
  ·rw [hs] at h1;simp at h1
 split at hr
 ·rename_i h1 h2
  simp only [zn] at hr;subst hr;obtain ⟨f1,f2,f3,f4,f5,f6⟩:=Ar {s with query:=false} [{fKind:=4,fStatus:=s.status}];obtain ⟨g1,g2,_⟩:=EZ {s with query:=false} [{fKind:=4,fStatus:=s.status}];have hs:s.stmts=[]:=by
   cases hs:s.stmts with
   |nil=>rfl
   |cons x l=>rw [h2,hs] at h1;exact absurd rfl h1
  have fin:stU s→(c=3∨c=5)→StI a (BD {s with query:=false} [{fKind:=4,fStatus:=s.status}]):=by
   intro hu hc;refine ⟨2,GU (s:={s with query:=false}) (d:=2) h (by simpa using VV hu) (by rcases hc with rfl|rfl <;> rfl),⟨?_,.inr (.inr ⟨?_,.inl ⟨?_,rfl,?_⟩⟩)⟩⟩
   ·simp only [g1,g2];exact hi
   ·unfold stU;rw [f5];exact hu
   ·rw [f3]
   ·rw [f4];exact hk
  rcases hp with ⟨_,_,h3,_⟩|⟨hu,⟨h3,_⟩|⟨hq,hc,h4,_⟩|⟨hq,hc,_⟩⟩
  iterate 2
   ·rw [h2] at h3;cases h3
  ·refine fin hu (.inl ?_);rcases h4 with h4|h4|h4
   ·exact absurd hk h4
   ·exact absurd hs h4
   ·exact h4
  ·exact fin hu (.inr hc)
 rename_i h1 h2
 have hc:(s.status=0∧c=0)∨(stU s∧c=2):=by
  rcases hp with ⟨h3,h4,_⟩|⟨hu,⟨_,h3,_⟩|⟨hq,_⟩|⟨hq,_⟩⟩
  ·exact .inl ⟨h3,h4⟩
  ·exact .inr ⟨hu,h3⟩
  iterate 2
   ·exact absurd hq h2
 have hq:s.query=false:=by simpa using h2
 simp only at hr
 split at hr
 ·cases hr
 split at hr
 ·simp only [zn] at hr;subst hr;refine QN _ h ?_ hi;rcases hc with hc|hc
  ·exact .inl hc.2
  ·exact .inr (.inl hc.2)
 rename_i h3 h4
 have hf:=YI (b:=s.left) (st:=s.status==0) (by simpa using h4);simp only [zn] at hr;subst hr;have key:∀u:Ses,u.out=s.out→u.pid=s.pid→u.secret=s.secret→u.status=s.status→u.query=s.query→u.kind=s.kind→StI a (Ha u (BN s.left (s.status==0)).1):=by
  intro u e1 e2 e3 e4 e5 e6;rw [←e1] at h;rw [←e2,←e3] at hi;rw [←e4] at hc;rw [←e5] at hq;rw [←e6] at hk;have hun:∀u:Ses,stU u→(u.status==0)=false:=λu hu=>by
   rcases hu with h|h|h <;> rw [h] <;> rfl
  have hc:(u.status=0∧c=0)∨(stU u∧c=2):=by
   unfold stU at hc ⊢;rw [e4];rw [e4] at hc;exact hc
  rcases hc with ⟨hst,rfl⟩|⟨hu,rfl⟩
  ·rw [←e4,hst] at hf;rcases hf with ⟨_,hf⟩|⟨hf,_⟩
   ·rcases hf with hf|hf|hf
    ·unfold Ha;rw [←e4,hst,hf];exact AFl h hi hq hk
    ·unfold Ha;rw [←e4,hst,hf];show StI a (BD u [{fKind:=10}]);obtain ⟨f1,f2,f3,f4,f5,f6⟩:=Ar u [{fKind:=10}];obtain ⟨g1,g2,_⟩:=EZ u [{fKind:=10}];have hm:Lt {fKind:=10}:=⟨by decide+kernel,by decide,by decide,by decide,by decide⟩;refine ⟨0,GU (d:=0) h (by simpa using hm) rfl,⟨?_,.inr (.inl ⟨?_,rfl,?_,?_⟩)⟩⟩
     ·show smB [(BD u [{fKind:=10}]).pid,(BD u [{fKind:=10}]).secret]=true;rw [g1,g2];exact hi
     ·exact f5.trans hst
     ·exact f3.trans hq
     ·exact f4.trans hk
    ·unfold Ha;rw [←e4,hst,hf];exact StI.shut h hi
   ·cases hf
  ·rw [←e4,hun u hu] at hf;rcases hf with ⟨hf,_⟩|⟨_,hf⟩
   ·cases hf
   ·rcases hf with hf|hf|hf
    ·unfold Ha;rw [←e4,hun u hu,hf];exact APB _ h hi hu hk
    ·unfold Ha;rw [←e4,hun u hu,hf];exact StI.shut h hi
    ·unfold Ha;rw [←e4,hun u hu,hf];exact QN _ h (.inr (.inl rfl)) hi
 exact key _ rfl rfl rfl rfl rfl rfl
theorem ALJ {a:Int}(n:Nat):∀{s:Ses},mu s < n→StI a s→StI a (goF s):=by
 induction n with
 |zero=>intro s h;omega
 |succ n ih=>
  intro s hn h;rw [Fv];cases hr:CY s with
  |none=>exact h
  |some t=>
   have h1:=Fb hr;exact ih (s:=t) zo (AEu h hr)
theorem PlI.four {s:Ses}{a:Int}(h:PlI s a)(hn:s.ended=false):a=0∨a=2∨a=3∨a=5:=by
 rcases h.at'.resolve_left (by rw [hn];decide) with ⟨_,h,_⟩|⟨_,⟨_,h,_⟩|⟨_,h,_⟩|⟨_,h,_⟩⟩
 ·exact .inl h
 ·exact .inr (.inl h)
 ·rcases h with h|h
  ·exact .inr (.inl h)
  ·exact .inr (.inr (.inl h))
 ·exact .inr (.inr (.inr h))
theorem PlI.last {s:Ses}(h:PlI s 6):s.ended=true:=by
 cases he:s.ended with
 |true=>rfl
 |false=>rcases h.four he with h|h|h|h <;> cases h
theorem AIc {s:Ses}{a:Int}(b:Bs)(h:PlI s a)(ho:s.out=[]):∃c,SentI a (FM s b).2 c∧PlI (FM s b).1 c:=by
 unfold FM;split
 ·exact ⟨a,SentI.nil a,h⟩
 rename_i hn
 have hn:s.ended=false:=by simpa using hn
 have hs:SentI a s.out a:=by rw [ho];exact SentI.nil a
 simp only
 split
 ·obtain ⟨c,h1,h2⟩:=QN (s:={s with left:=s.left++b}) 231 hs (h.four hn) h.id;exact ⟨c,h1,h2.id,h2.at'⟩
 ·obtain ⟨c,h1,h2⟩:=ALJ _ (zbe (mu {s with left:=s.left++b})) ⟨a,hs,h.id,h.at'⟩;exact ⟨c,h1,h2.id,h2.at'⟩
theorem AGG {s:Ses}{a:Int}(h:PlI s a):PlI (IZ s) a:=by
 unfold IZ;split
 ·exact h
 ·exact ⟨h.id,.inl rfl⟩
theorem AEr (dec:Int→Bs)(o:TOut){c:Int}(hc:c=2∨c=3):Jt c (BU dec o)=some 3:=by
 have hr:∀l:List (List TValue),Jt 4 ((l.map λr=>({fKind:=6,fCells:=r.map (EF dec)}:TBack))++[{fKind:=7,fText:=o.fTag}])=some 3:=by
  intro l;induction l with
  |nil=>rfl
  |cons r l ih=>exact ih
 unfold BU;split
 ·rcases hc with rfl|rfl <;> exact hr _
 ·rcases hc with rfl|rfl <;> rfl
theorem AJB {s:Ses}{a:Int}{dec:Int→Bs}{o:TOut}(e:Int)(h:PlI s a)(ho:s.out=[])(hn:s.ended=false)(hk:s.kind≠0)(hb:∀m∈BU dec o,Ns m):StI a (DX dec s o e):=by
 have hs:SentI a s.out a:=by rw [ho];exact SentI.nil a
 obtain ⟨hi,hp⟩:=h;unfold DX;simp only
 have hp:=hp.resolve_left (by rw [hn];decide);rcases hp with ⟨_,_,_,h3⟩|⟨hu,⟨_,_,h3⟩|⟨hq,hc,_,h4⟩|⟨hq,rfl,hst,h4⟩⟩
 iterate 2
  ·exact absurd h3 hk
 ·have err:∀e1:Int,StI a (Dh (Bj {s with kind:=0,stmt:=default,own:=false} e1 false)):=by
   intro e1;obtain ⟨f1,f2,f3,f4,f5,f6⟩:=Ar {s with kind:=0,stmt:=default,own:=false} [{fKind:=9,fState:=(CZ e1).1,fText:=(CZ e1).2,fFatal:=false}];obtain ⟨g1,g2,_⟩:=EZ {s with kind:=0,stmt:=default,own:=false} [{fKind:=9,fState:=(CZ e1).1,fText:=(CZ e1).2,fFatal:=false}];refine ABE (s:=Bj {s with kind:=0,stmt:=default,own:=false} e1 false) (UX (s:={s with kind:=0,stmt:=default,own:=false}) hs (OU _ _) rfl rfl hc) ?_ ?_ ?_ ?_
   ·unfold Bj;rw [g1,g2];exact hi
   ·unfold stU Bj;rw [f5];exact hu
   ·unfold Bj;rw [f3];exact hq
   ·unfold Bj;rw [f4]
  split
  ·by_cases he:(e==0)=true
   ·rw [if_pos he,if_pos he];by_cases hpt:(Cf (BU dec o) []).2=0
    ·rw [hpt,if_neg zx];obtain ⟨f1,f2,f3,f4,f5,f6⟩:=Ar {s with kind:=0,stmt:=default,own:=false} (BU dec o);obtain ⟨g1,g2,_⟩:=EZ {s with kind:=0,stmt:=default,own:=false} (BU dec o);refine ⟨3,GU (s:={s with kind:=0,stmt:=default,own:=false}) hs (λm hm=>⟨(MQ _).2 hpt m hm,hb m hm⟩) (AEr dec o hc),Pi ?_ ?_ ?_ (.inr rfl) (.inr (.inr rfl)) ?_⟩
     ·rw [g1,g2];exact hi
     ·unfold stU;rw [f5];exact hu
     ·rw [f3];exact hq
     ·rw [f4];intro h;simp at h
    ·rw [if_pos (by simpa using hpt),AHk hpt];exact err _
   ·rw [if_neg he,if_neg he];have he:e≠0:=by simpa using he
    rw [if_pos (by simpa using he)];exact err _
  split
  ·rename_i h1 h2
   have h84:=h4 (by simpa using h2);rw [if_pos (by rw [h84,hn];rfl)];exact LZ (s:={s with kind:=0,stmt:=default,own:=false,status:=73}) hs (IV zx zx) hc hi (.inl rfl) hq rfl
  ·unfold NL;simp only
   split
   ·obtain ⟨f1,f2,f3,f4,f5,f6⟩:=Ar {s with kind:=0,stmt:=default,own:=false,status:=73} [{fKind:=9,fState:=(CZ e).1,fText:=(CZ e).2,fFatal:=false}];obtain ⟨g1,g2,_⟩:=EZ {s with kind:=0,stmt:=default,own:=false,status:=73} [{fKind:=9,fState:=(CZ e).1,fText:=(CZ e).2,fFatal:=false}];refine ⟨5,UX (s:={s with kind:=0,stmt:=default,own:=false,status:=73}) hs (OU e false) rfl rfl hc,JQ ?_ ?_ ?_ rfl ?_⟩
    ·simp only [Bj,g1,g2];exact hi
    ·unfold stU Bj;exact .inl f5
    ·simp only [Bj,f3];exact hq
    ·unfold Bj;exact .inl f4
   split
   ·exact LZ (s:={s with kind:=0,stmt:=default,own:=false,status:=84}) hs (IV zx zx) hc hi (.inr (.inl rfl)) hq rfl
   ·exact LZ (s:={s with kind:=0,stmt:=default,own:=false,status:=73}) hs (IV zx zx) hc hi (.inl rfl) hq rfl
 ·obtain ⟨h4,h69⟩:=h4.resolve_left hk;rw [if_neg (by rw [h4];decide),if_pos (by rw [h4];decide),if_neg (by rw [h69];simp)];exact ⟨5,hs,JQ (s:={s with kind:=0,stmt:=default,own:=false}) hi (.inr (.inr h69)) hq hst (.inl rfl)⟩
theorem APD {s:Ses}{a:Int}{dec:Int→Bs}{o:TOut}(e:Int)(h:PlI s a)(hj:Jn s)(ho:s.out=[])(hb:∀m∈BU dec o,Ns m):∃c,SentI a (KP dec s o e).2 c∧PlI (KP dec s o e).1 c:=by
 unfold KP;split
 ·exact ⟨a,SentI.nil a,h⟩
 rename_i hk
 have hk:s.kind≠0:=by simpa using hk
 cases hn:s.ended with
 |true=>
  have h4:s.kind=4:=(hj.en hn).2.resolve_left hk;have e1:DX dec s o e={s with kind:=0,stmt:=default,own:=false}:=by
   unfold DX;simp only [h4];rw [if_neg zx,if_pos zx,if_neg (by simp [hn])]
  rw [e1,Vt (by exact hn)];exact ⟨a,by simp only;rw [ho];exact SentI.nil a,h.id,.inl hn⟩
 |false=>
  obtain ⟨c,h1,h2⟩:=ALJ _ (zbe (mu (DX dec s o e))) (AJB e h ho hn hk hb);exact ⟨c,h1,h2.id,h2.at'⟩
def foT (x:Value)(K:Value→M):List (Bool×Int×Int)→M
 |[]=>K (.int .i64 (-1))
 |(true,k,r)::l=>Pv (Ae 0 x) λa=>Rv none (BF a) λu=>Pv (AA .eql u (.int .i64 k)) λt=>Gd t false (foT x K l) (K (.int .i64 r))
 |(false,k,r)::l=>Pv (Ae 0 x) λa=>Rv none (BF a) λu=>Pv (AA .eql u (.int .i64 k)) λt=>Br t (K (.int .i64 r)) (foT x K l)
def foH (m:Value)(q:Int)(l:List (Bool×Int×Int))(K:Value→M):M:=
 New (.cells (Value.cells m) 49 (0,0))<|gh λx=>Pv (Ae 0 x) λa=>Rv none (BF a) λu=>Pv (AA .eql u (.int .i64 9)) λt=>
  Gd t true (Pv (Ae 9 x) λa=>Rv none (BF a) λu=>Br u (K (.int .i64 q)) (foT x K l)) (foT x K l)
theorem AMZ (ω:Om)(m:Value)(K:Value→M):vcF Tryz.prog ω Tryz.f15 [.int .i64 0,m] K=foH m 6 [(false,10,0),(false,1,1)] K:=by kernel_rfl
theorem AMY (ω:Om)(m:Value)(K:Value→M):vcF Tryz.prog ω Tryz.f15 [.int .i64 1,m] K=foH m (-1) [(true,2,1),(false,3,1),(false,4,2)] K:=by kernel_rfl
theorem AMX (ω:Om)(m:Value)(K:Value→M):vcF Tryz.prog ω Tryz.f15 [.int .i64 2,m] K=foH m 6 [(false,5,4),(false,7,3),(false,9,5),(false,8,5)] K:=by kernel_rfl
theorem AMW (ω:Om)(m:Value)(K:Value→M):vcF Tryz.prog ω Tryz.f15 [.int .i64 3,m] K=foH m 6 [(false,5,4),(false,7,3),(false,9,5),(false,4,2)] K:=by kernel_rfl
theorem AMV (ω:Om)(m:Value)(K:Value→M):vcF Tryz.prog ω Tryz.f15 [.int .i64 4,m] K=foH m (-1) [(false,6,4),(false,7,3)] K:=by kernel_rfl
theorem AMU (ω:Om)(m:Value)(K:Value→M):vcF Tryz.prog ω Tryz.f15 [.int .i64 5,m] K=foH m 6 [(false,4,2)] K:=by kernel_rfl
theorem AMT (ω:Om)(m:Value)(K:Value→M):vcF Tryz.prog ω Tryz.f15 [.int .i64 6,m] K=foH m (-1) [] K:=by kernel_rfl
def foR (k:Int):List (Bool×Int×Int)→Int
 |[]=> -1
 |(_,j,r)::l=>if k==j then r else foR k l
section
variable {ω:Om}{I:Imm}{L:LH}{K:Value→M}{m:TBack}{v0 v1:Value}{b:Nat}
theorem LQ:∀(l:List (Bool×Int×Int)),K (.int .i64 (foR m.fKind l)) I ((b,BkO (cmB m v0 v1))::L)→foT (.pointer (some ⟨b,0,none⟩)) K l I ((b,BkO (cmB m v0 v1))::L)
 |[],h=>h
 |(g,k,r)::l,h=>by
  unfold foR at h;cases g with
  |true=>
   unfold foT;try refine zqe ?_
   refine rdb ?_;try refine zqe ?_
   cases hk:(m.fKind==k) with
   |true=>rw [hk] at h;exact h
   |false=>rw [hk] at h;exact LQ l h
  |false=>
   unfold foT;try refine zqe ?_
   refine rdb ?_;try refine zqe ?_
   cases hk:(m.fKind==k) with
   |true=>rw [hk] at h;exact h
   |false=>rw [hk] at h;exact LQ l h
theorem AFp {cm:List Value}{q:Int}{l:List (Bool×Int×Int)}(hcm:cm=cmB m v0 v1)(hk:K (.int .i64 (if m.fKind==9&&m.fFatal then q else foR m.fKind l)) I L):foH (.agg cm.toArray) q l (λv=>Gh (K v)) I L:=by
 subst hcm;unfold foH;refine Ap (λb=>?_);try refine zqe ?_
 have hT:∀z:Int,K (.int .i64 z) I L→Gh (K (.int .i64 z)) I ((b,BkO (cmB m v0 v1))::L):=λz h=>zAE L (zAA h);refine rdb ?_;try refine zqe ?_
 cases h9:(m.fKind==9) with
 |true=>
  rw [h9] at hk;try refine zqe ?_
  refine rdb ?_;cases hf:m.fFatal with
  |true=>rw [hf] at hk;exact hT _ hk
  |false=>rw [hf] at hk;exact LQ (K:=λv=>Gh (K v)) l (hT _ hk)
 |false=>
  rw [h9] at hk;exact LQ (K:=λv=>Gh (K v)) l (hT _ hk)
theorem UU {a:Int}{cm:List Value}(hm:TBackV I m cm)(ha:0≤a∧a≤6)(hk:K (.int .i64 (LP a m.fKind m.fFatal)) I L):CT ω 15 #[.int .i64 a,.agg cm.toArray] K I L:=by
 obtain ⟨v0,v1,hcm,_,_⟩:=hm;have go:∀(q:Int) (l:List (Bool×Int×Int)),(∀K:Value→M,vcF Tryz.prog ω Tryz.f15 [.int .i64 a,.agg cm.toArray] K=foH (.agg cm.toArray) q l K)→LP a m.fKind m.fFatal=(if m.fKind==9&&m.fFatal then q else foR m.fKind l)→CT ω 15 #[.int .i64 a,.agg cm.toArray] K I L:=by
  intro q l he hq;refine zAG (Sl mixed Tryz.func15 ?_);rw [he];rw [hq] at hk;exact AFp hcm hk
 obtain ⟨h0,h6⟩:=ha;have:a=0∨a=1∨a=2∨a=3∨a=4∨a=5∨a=6:=by omega
 rcases this with rfl|rfl|rfl|rfl|rfl|rfl|rfl
 ·exact go _ _ (AMZ ω _) (by simp [LP,foR])
 ·exact go _ _ (AMY ω _) (by by_cases h2:m.fKind=2 <;> simp [LP,foR,h2])
 ·exact go _ _ (AMX ω _) (by simp [LP,foR])
 ·exact go _ _ (AMW ω _) (by simp [LP,foR])
 ·exact go _ _ (AMV ω _) (by simp [LP,foR])
 ·exact go _ _ (AMU ω _) (by simp [LP,foR])
 ·exact go _ _ (AMT ω _) (by simp [LP,foR])
end
theorem AFs {s:Ses}(hb:BdS s){t:Bs}(ht:t.length≤1048576):(FM s t).2.length≤200000000000000:=by
 obtain ⟨r1,r2⟩:=hb.room_add t zo;unfold FM;split
 ·exact zao _
 simp only
 split
 ·have h1:=MM {s with left:=s.left++t} 231 true;have h2:(Ig (Bj {s with left:=s.left++t} 231 true)).out.length≤BO (Bj {s with left:=s.left++t} 231 true):=zbi _ _;omega
 ·have h1:=AAu _ (zbe (mu {s with left:=s.left++t}));have h2:(goF {s with left:=s.left++t}).out.length≤BO (goF {s with left:=s.left++t}):=zbi _ _;omega
theorem AJA {s:Ses}(hb:BdS s){o:TOut}(e:Int)(hm:Vh o≤2097152)(hi:Vo o):(KP (BQ true) s o e).2.length≤200000000000000:=by
 obtain ⟨_,_,h3⟩:=out_ok hm hi;have hr:=hb.room;unfold KP;split
 ·exact zao _
 ·have h1:=AAu _ (zbe (mu (DX (BQ true) s o e)));have h2:(goF (DX (BQ true) s o e)).out.length≤BO (goF (DX (BQ true) s o e)):=zbi _ _;have h4:=Sm (BQ true) s o e;simp only
  omega
theorem AFo (a k:Int)(f:Bool):LP a k f≤6:=by
 unfold LP;repeat' split
 all_goals omega
section
variable {ω:Om}{I:Imm}{L F:LH}{K:Value→M}{s:Ses}{b:Nat}{X:LH}
theorem AFr {m:TBack}(h:(Bq m).2=0):1≤(Bq m).1.length:=by
 obtain ⟨_,_,g3⟩:=Pe h;split at g3
 ·rw [g3];exact zh _
 ·rw [g3.2];simp
theorem XU {v:Value}{t:Bs}{a c k:Int}{Kn0:(Value×Value×Value×Unit)→M}[hsp:SplitL X L F](hS:SeM I s b X)(hp:PlI s c)(hs:SentI a t c)(hv:Bytes I v t)(ht:t.length≤200000000000000)(ha:0≤a∧a≤6)(hkk:0≤k∧k≤1000)
  (hk:∀I',Ext I I'→0≤c∧c≤6→SeM I' s b X→Kn0 (.bool false,.int .i64 c,.int .i64 (k+1),()) I' (X++F)):PD ω (.bool false) (Ac b) (.int .i64 a) (.int .i64 k) v Kn0 K I L:=by
 unfold PD;obtain ⟨ms,rfl,hok,hr⟩:=hs;refine loop (λq st I' L'=>∃(ms:List TBack) (v':Value) (a:Int),q=ms.length∧st=(Value.bool false,Value.int .i64 a,v',())∧Ext I I'∧L'=L∧(∀m∈ms,Lt m)∧Jt a ms=some c∧Bytes I' v' (LU ms)∧(LU ms).length≤200000000000000∧0≤a∧a≤6) ms.length ⟨ms,v,a,rfl,rfl,zAC _,rfl,hok,hr,hv,ht,ha.1,ha.2⟩ ?_;clear hok hr hv ht ha;rintro q st I' L' ⟨ms,v',a,rfl,rfl,hI,rfl,hok,hr,hv,ht,ha0,ha6⟩;unfold AJK;simp only [hv.len,SSd,Nat.reduceAdd];cases ms with
 |nil=>
  simp only [Jt,zn] at hr;subst hr;have d0:decide ((0:Int) < ((LU []).length:Nat))=false:=rfl;simp only [d0,SSd,Nat.reduceAdd];unfold ADw;refine call (WL (X:=X) (hS.mono hI) ?_);simp only [wrap_i64 (k+1) zo,SSd,Nat.reduceAdd];cases h6:(a==6) with
  |true=>
   have:a=6:=by simpa using h6
   subst this;simp only [hp.last,zB,SSd,Nat.reduceAdd];exact hk I' hI ⟨ha0,ha6⟩ (hS.mono hI)
  |false=>
   try refine zqe ?_
   exact hk I' hI ⟨ha0,ha6⟩ (hS.mono hI)
 |cons m r=>
  obtain ⟨hm,hbk⟩:=hok m zJ;have hf:LU (m::r)=(Bq m).1++LU r:=rfl;have h1:=AFr hm;rw [hf] at hv ht;rw [zk] at ht;have d0:decide ((0:Int) < ((LU (m::r)).length:Nat))=true:=decide_eq_true (by rw [hf,zk];omega);simp only [d0,SSd,Nat.reduceAdd];refine Sj (XF hm hbk hv zo (λI2 co hI2 hco=>?_));have hco':=hco;obtain ⟨w0,w1,rfl,k0,k1⟩:=hco;obtain ⟨a0,q0,rfl⟩:=zAF k0;obtain ⟨a1,q1,rfl⟩:=zAF k1;refine zAA ?_;try refine zqe ?_
  refine Ap (λbm=>?_);refine stB rfl rfl (AV rfl) ?_;have d1:decide ((((Bq m).1.length:Nat):Int) < 1)=false:=decide_eq_false zo;simp only [show ((0:Int) != 0)=false from rfl,d1,SSd,Nat.reduceAdd];refine BV rfl ?_;simp only [Jt] at hr;split at hr
  ·cases hr
  rename_i hneg
  refine call (UU hco' ⟨ha0,ha6⟩ ?_);obtain ⟨v3,e1,e2⟩:=Bytes.drop (hv.mono hI2) (n:=(Bq m).1.length) (by rw [zk];omega);rw [List.drop_left] at e2;simp only [decide_eq_false hneg,e1,SSd,Nat.reduceAdd];exact zAE L' (zAA ⟨r.length,by simp,r,v3,_,rfl,rfl,zAB hI hI2,rfl,λx hx=>hok x (zV _ hx),hr,e2,by omega,by omega,AFo _ _ _⟩)
theorem Vs {G:Imm}(hP:XA G)(hTok:EK ω G)(hLim:Qv ω){w:Value}{xs:List TStep}(hG:Ext G I)(hw:RL Ui 8 I [] w xs)(hi:∀x∈xs,Vo x.fO∧NT x≤1048576)
  (hk:∀I',Ext I I'→K (.bool true) I' []):CT ω 4 #[w] K I []:=by
 refine ASE ?_;unfold sh4;refine call (YZ hTok hLim hG (λI1 hI1=>?_));refine call (Py 1 2 zo zo (λb X hS=>?_));simp only [show ((0:Int) != 0)=false from rfl,zB,SSd,Nat.reduceAdd];have hp0:PlI {pid:=1,secret:=2} 0:=⟨by decide,.inr (.inl ⟨rfl,rfl,rfl,rfl⟩)⟩;refine loop (λm st I' L'=>∃(k:Nat) (s:Ses) (X':LH) (a:Int),k+m=xs.length+1∧k≤xs.length∧st=(Value.bool false,Value.int .i64 a,Value.int .i64 (k:Nat),())∧Ext I1 I'∧L'=X'++[]∧SeM I' s b X'∧BdS s∧Jn s∧PlI s a∧0≤a∧a≤6) (xs.length+1) ⟨0,_,X,0,by omega,by omega,rfl,zAC _,rfl,hS,⟨zao _,zao _,rfl⟩,⟨λh=>by simp at h,λh=>by simp at h⟩,hp0,by omega,by omega⟩ ?_;rintro m st I2 L2 ⟨k,s,X',a,hkm,hkl,rfl,hI2,rfl,hS2,hb,hj,hp,ha0,ha6⟩;have hE:=zAB hI1 hI2;unfold AJM;simp only [zAK hw,SSd,Nat.reduceAdd];have fin:Gh (K (.bool true)) I2 (X'++[]):=zAE [] (zAA (hk I2 hE));refine BX (λhb1=>?_) (λhb1=>fin);try refine zqe ?_
 refine AL (λhb2=>?_) (λhb2=>fin);have hk:k < xs.length:=by have:=of_decide_eq_true hb1;omega
 have hk100:k < 100:=by have:=of_decide_eq_true hb2;omega
 obtain ⟨bt,off,c1,g1,gl,g2,g3⟩:=RL.ix hw (i:=k) zo zo;rw [BA hk] at g2;obtain ⟨hi1,hi2⟩:=hi xs[k] (zar hk);obtain ⟨hb',hj'⟩:=Xp xs[k] hb hj;unfold AAi at hb' hj';generalize xs[k]=x at *;obtain ⟨vb,co,rfl,hvb,hvo⟩:=g2;obtain ⟨y0,y1,yf,yr,rfl,ho0,ho1,ho2,ho3⟩:=hvo;have hone:∀u∈([.int .i64 x.fDo,vb,y0,y1,yf,yr,.string ⟨x.fO.fTag.toArray⟩,.int .i64 x.fE]:List Value),u.oneCell'=true:=by
  obtain ⟨_,_,rfl⟩:=hvb.form;obtain ⟨_,_,rfl⟩:=zAF ho2;obtain ⟨_,_,rfl⟩:=zAF ho3;intro u hu;simp only [zK,zaG,or_false] at hu;rcases hu with rfl|rfl|rfl|rfl|rfl|rfl|rfl|rfl
  all_goals first
   |rfl
   |assumption
 have hmB:x.fB.length≤1048576:=by unfold NT at hi2;omega
 have hmO:Vh x.fO≤2097152:=by unfold NT at hi2;omega
 have next:∀(I3:Imm) (L3:LH) (X3 F3:LH) (s3:Ses) (v3:Value) (t:Bs) (c:Int) [SplitL X3 L3 F3],Ext I2 I3→SeM I3 s3 b X3→BdS s3→Jn s3→PlI s3 c→SentI a t c→Bytes I3 v3 t→t.length≤200000000000000→PD ω (.bool false) (Ac b) (.int .i64 a) (.int .i64 (k:Nat)) v3 (λst=>Gh λI' L'=>∃m',m' < m∧∃(k:Nat) (s:Ses) (X':LH) (a:Int),k+m'=xs.length+1∧k≤xs.length∧st=(Value.bool false,Value.int .i64 a,Value.int .i64 (k:Nat),())∧Ext I1 I'∧L'=X'++[]∧SeM I' s b X'∧BdS s∧Jn s∧PlI s a∧0≤a∧a≤6) (λv=>Gh (K v)) I3 L3:=by
  intro I3 L3 X3 F3 s3 v3 t c _ hI3 hS3 hb3 hj3 hp3 hs3 hv3 ht3;refine XU (X:=X3) (F:=F3) hS3 hp3 hs3 hv3 ht3 ⟨ha0,ha6⟩ ⟨by omega,by omega⟩ (λI4 hI4 hc4 hS4=>?_);have hd:Gh (λI' L'=>∃m',m' < m∧∃(k':Nat) (s:Ses) (X':LH) (a:Int),k'+m'=xs.length+1∧k'≤xs.length∧(Value.bool false,Value.int .i64 c,Value.int .i64 ((k:Nat)+1:Int),())=(Value.bool false,Value.int .i64 a,Value.int .i64 (k':Nat),())∧Ext I1 I'∧L'=X'++[]∧SeM I' s b X'∧BdS s∧Jn s∧PlI s a∧0≤a∧a≤6) I4 (X3++[]):=
   zAA ⟨m - 1,by omega,k+1,s3,X3,c,by omega,by omega,rfl,zAB hI2 (zAB hI3 hI4),rfl,hS4,hb3,hj3,hp3,hc4.1,hc4.2⟩
  haveI:SubP (X3++[]) (X3++F3):=⟨⟨F3,by rw [zaK]⟩⟩
  exact zAE (X3++[]) hd
 simp only [g1,zah,zaF,SSd,Nat.reduceAdd];refine rdN rfl (g3 _ _ hE (λ_ h=>by cases h)) ?_;refine Ap (λbx=>?_);refine stB rfl rfl hone ?_;try refine zqe ?_
 refine rdb ?_;try refine zqe ?_
 cases h0:(x.fDo==0) with
 |true=>
  rw [h0,if_pos rfl] at hb' hj';try refine zqe ?_
  unfold AJL;try refine zqe ?_
  refine rdb ?_;obtain ⟨r1,r2⟩:=hb.room_add x.fB zo;obtain ⟨c,hs3,hp3⟩:=AIc x.fB hp hb.2.2;refine call (SG (X:=X') hTok hLim (zAB hG hE) hS2 (hvb.mono hE) r1 r2 (λI3 X3 v3 hI3 hS3 hv3=>?_));exact next I3 _ X3 _ _ v3 _ c hI3 hS3 hb' hj' hp3 hs3 hv3 (AFs hb hmB)
 |false=>
  try refine zqe ?_
  unfold ADv;try refine zqe ?_
  rw [if_neg (by rw [h0];decide)] at hb' hj';by_cases h1:(x.fDo==1)=true
  ·rw [if_pos h1] at hb' hj';simp only [h1,SSd,Nat.reduceAdd];refine rdP [y0,y1,yf,yr,.string ⟨x.fO.fTag.toArray⟩] rfl rfl ?_;refine rdb ?_;obtain ⟨_,hbk,_⟩:=out_ok hmO hi1;obtain ⟨c,hs3,hp3⟩:=APD x.fE hp hj hb.2.2 hbk;refine call (Wy (X:=X') hP hTok hLim (o:=x.fO) (c:=[y0,y1,yf,yr,.string ⟨x.fO.fTag.toArray⟩]) x.fE (zAB hG hE) hS2 (TOutV.mono ⟨_,_,_,_,rfl,ho0,ho1,ho2,ho3⟩ hE) hmO hi1 (by have:=hb.room;omega) (λI3 X3 v3 hI3 hS3 hv3=>?_));exact next I3 _ X3 _ _ v3 _ c hI3 hS3 hb' hj' hp3 hs3 hv3 (AJA hb x.fE hmO hi1)
  rw [if_neg h1] at hb' hj';simp only [zg.2 h1,SSd,Nat.reduceAdd];by_cases h2:(x.fDo==2)=true
  ·rw [if_pos h2] at hb' hj';simp only [h2,SSd,Nat.reduceAdd];refine call (YT (X:=X') hS2 (λX3 hS3=>?_));exact next I2 _ X3 _ _ _ [] a (zAC _) hS3 hb' hj' (AGG hp) (SentI.nil a) (SlI.nil _ _ _ _) (zao _)
  simp only [zg.2 h2,SSd,Nat.reduceAdd];exact next I2 _ X' _ _ _ [] a (zAC _) hS2 hb hj hp (SentI.nil a) (SlI.nil _ _ _ _) (zao _)
end
section
variable {H:Type}{enc:TypeId×Value→H}{W:World}{base:Nat}
theorem grammar_walk {v0:Value}{d0:DataW H}(hL:laidMetH Tryz.prog Rows.pgsessionGrammarUptoRow.laid W)(o0:Value.okWide Tryz.prog W .any base 36 v0)(t0:Td enc Tryz.prog W 36 v0.cells.toList d0)(b0:Rows.uptoBulk d0≤1048576)(ω:Om):
  CT ω 4 #[v0] (λv I' _=>v= .bool true∧Ext (Dc W) I') (Dc W) []:=by
 obtain ⟨xs,h1,h2,h3⟩:=ABU o0 t0 b0;exact Vs (VZ hL) (ALk hL) AFe (zAC _) h1 (λx hx=>⟨h2 x hx,by have:=TA (f:=NT) hx;omega⟩) (λI' hI=>⟨rfl,hI⟩)
end
end Go.Proofs.YthkaekjoemhjaaaGreatDoor
