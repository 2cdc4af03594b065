/-
  Lemmas, part 8: laid together by a program.
-/
import Derived.Test.YtkifgfanjcfedaaGreatDoorP2
import Derived.Test.YtkifgfanjcfedaaGreatDoorP7
set_option maxRecDepth 100000
set_option linter.unusedVariables false
set_option linter.unusedSimpArgs false
set_option linter.unusedSectionVars false
namespace Go.Proofs.YtkifgfanjcfedaaGreatDoor
open Go.SL
def BX {α:Type}(w:α→Nat)(g:Pr α):Prop:=∀l x r,g l= .ok x r→r.length+w x≤l.length
theorem Ap {l:List Tok}{s:Bs}(h:isT l s=true):l.tail.length+1=l.length:=by
 cases l with
 |nil=>simp [isT,hd,default,instInhabitedTok] at h
 |cons t r=>rfl
theorem GK {l:List Tok}{k:Int}(h:isK l k=true)(hk:k≠0):l.tail.length+1=l.length:=by
 cases l with
 |nil=>simp [isK,hd,default,instInhabitedTok] at h;exact absurd h.symm hk
 |cons t r=>rfl
theorem bind_ok {α β:Type}{x:Res α}{f:α→Pr β}{y:β}{r:List Tok}(h:x.bind f= .ok y r):∃a q,x= .ok a q∧f a q= .ok y r:=by
 cases x with
 |ok a q=>exact ⟨a,q,rfl,h⟩
 |err e=>cases h
theorem Ak {s:Bs}{l r:List Tok}{u:Unit}(h:AY s l= .ok u r):r.length+1=l.length:=by
 unfold AY at h;split at h
 ·rename_i ht
  simp only [Res.ok.injEq,true_and] at h;subst h;exact Ap ht
 ·cases h
theorem BH:BX (fun _=>1) BF:=by
 intro l x r h;unfold BF at h;split at h
 ·rename_i ht
  simp only [Res.ok.injEq] at h;obtain ⟨_,rfl⟩:=h;have:=GK ht (by decide);show l.tail.length+1≤l.length;omega
 ·cases h
theorem Cc:∀(a b:List Ex),Ah (a++b)=Ah a+Ah b
 |[],b=>by simp [Ah]
 |x::a,b=>by simp only [List.cons_append,Ah,Cc a b];omega
theorem Qh {g:Pr Ex}(hg:BX Aw g):∀(n:Nat) (acc:List Ex) (l:List Tok) (x:List Ex) (r:List Tok),CY g n acc l= .ok x r→r.length+Ah x≤l.length+Ah acc
 |0,acc,l,x,r,h=>by simp only [CY,Res.ok.injEq] at h;obtain ⟨rfl,rfl⟩:=h;omega
 |n+1,acc,l,x,r,h=>by
  simp only [CY] at h;split at h
  ·rename_i ht
   obtain ⟨a,q,h1,h2⟩:=bind_ok h;have c1:=hg _ _ _ h1;have c2:=Qh hg n _ _ _ _ h2;have c3:=Ap ht;rw [Cc] at c2;simp only [Ah] at c2;omega
  ·simp only [Res.ok.injEq] at h;obtain ⟨rfl,rfl⟩:=h;omega
theorem Zv {g:Pr Ex}(hg:BX Aw g)(n:Nat):BX Ah (BV n g):=by
 intro l x r h;obtain ⟨a,q,h1,h2⟩:=bind_ok h;have c1:=hg _ _ _ h1;have c2:=Qh hg n _ _ _ _ h2;simp only [Ah] at c2;omega
theorem Qc {g:Pr Ex}(hg:BX Aw g)(n:Nat):BX (fun x=>Ah x+2) (CE n g):=by
 intro l x r h;obtain ⟨_,q,h1,h2⟩:=bind_ok h;obtain ⟨a,q2,h3,h4⟩:=bind_ok h2;obtain ⟨_,q3,h5,h6⟩:=bind_ok h4;simp only [Res.ok.injEq] at h6;obtain ⟨rfl,rfl⟩:=h6;have c1:=Ak h1;have c2:=Zv hg n _ _ _ h3;have c3:=Ak h5;simp only;omega
theorem Qi {g:Pr Ex}(hg:BX Aw g){op:List Tok→Int}(hop:∀l,op l≠0→l.tail.length+1=l.length):∀(n:Nat) (x:Ex) (l:List Tok) (y:Ex) (r:List Tok),Gj g op n x l= .ok y r→r.length+Aw y≤l.length+Aw x
 |0,x,l,y,r,h=>by simp only [Gj,Res.ok.injEq] at h;obtain ⟨rfl,rfl⟩:=h;omega
 |n+1,x,l,y,r,h=>by
  simp only [Gj] at h;split at h
  ·simp only [Res.ok.injEq] at h;obtain ⟨rfl,rfl⟩:=h;omega
  ·rename_i h0
   obtain ⟨a,q,h1,h2⟩:=bind_ok h;have c1:=hg _ _ _ h1;have c2:=Qi hg hop n _ _ _ _ h2;have c3:=hop l h0;simp only [exK,Aw,Ah] at c2;omega
theorem IG {g:Pr Ex}(hg:BX Aw g){op:List Tok→Int}(hop:∀l,op l≠0→l.tail.length+1=l.length)(n:Nat):BX Aw (DC n g op):=by
 intro l x r h;obtain ⟨a,q,h1,h2⟩:=bind_ok h;have c1:=hg _ _ _ h1;have c2:=Qi hg hop n _ _ _ _ h2;omega
theorem ALf (l:List Tok)(h:Ro l≠0):l.tail.length+1=l.length:=by
 unfold Ro at h;split at h
 ·exact Ap ‹_›
 ·exact absurd rfl h
theorem AJD (l:List Tok)(h:KP l≠0):l.tail.length+1=l.length:=by
 unfold KP at h;split at h
 ·exact Ap ‹_›
 ·exact absurd rfl h
theorem AFs (f:Bs→Option Int)(l:List Tok)(h:Jk f l≠0):l.tail.length+1=l.length:=by
 unfold Jk at h;split at h
 ·exact GK ‹_› (by decide)
 ·exact absurd rfl h
theorem AJC (l:List Tok)(h:Gi l≠0):l.tail.length+1=l.length:=by
 unfold Gi at h;repeat' split at h
 all_goals first
  |exact Ap ‹_›
  |exact absurd rfl h
theorem UA {l:List Tok}{v:TValue}(h:KR l=some v):l.tail.length+1=l.length:=by
 unfold KR at h;repeat' split at h
 all_goals first
  |exact GK ‹_› (by decide)
  |exact Ap ‹_›
  |cases h
theorem PL:BX Aw Pe:=by
 intro l x r h;unfold Pe at h;split at h
 ·rename_i ht
  simp only [Res.ok.injEq] at h;obtain ⟨rfl,rfl⟩:=h;have:=GK ht (by decide);simp only [JQ,Aw,Ah];omega
 ·cases h
theorem Qd {E:Pr Ex}(hE:BX Aw E)(n:Nat){acc:List Ex}{l:List Tok}{a:List Ex}{r:List Tok}(h:Ew n E acc l= .ok a r):r.length+Ah a+2≤l.length+Ah acc:=by
 obtain ⟨_,q,h1,h2⟩:=bind_ok h;obtain ⟨x,q2,h3,h4⟩:=bind_ok h2;obtain ⟨_,q3,h5,h6⟩:=bind_ok h4;obtain ⟨y,q4,h7,h8⟩:=bind_ok h6;simp only [Res.ok.injEq] at h8;obtain ⟨rfl,rfl⟩:=h8;have c1:=Ak h1;have c2:=hE _ _ _ h3;have c3:=Ak h5;have c4:=hE _ _ _ h7;rw [Cc];simp only [Ah];omega
theorem PK {E:Pr Ex}(hE:BX Aw E)(n:Nat):∀(m:Nat) (acc:List Ex) (l:List Tok) (a:List Ex) (r:List Tok),FX n E m acc l= .ok a r→r.length+Ah a≤l.length+Ah acc
 |0,acc,l,a,r,h=>by simp only [FX,Res.ok.injEq] at h;obtain ⟨rfl,rfl⟩:=h;omega
 |m+1,acc,l,a,r,h=>by
  simp only [FX] at h;split at h
  ·obtain ⟨x,q,h1,h2⟩:=bind_ok h;have c1:=Qd hE n h1;have c2:=PK hE n m _ _ _ _ h2;omega
  ·simp only [Res.ok.injEq] at h;obtain ⟨rfl,rfl⟩:=h;omega
theorem Zz {E:Pr Ex}(hE:BX Aw E)(n:Nat):BX Aw (Ja n E):=by
 intro l x r h;obtain ⟨a,q,h1,h2⟩:=bind_ok h;obtain ⟨a2,q2,h3,h4⟩:=bind_ok h2;obtain ⟨a3,q3,h5,h6⟩:=bind_ok h4;obtain ⟨_,q4,h7,h8⟩:=bind_ok h6;simp only [Res.ok.injEq] at h8;obtain ⟨rfl,rfl⟩:=h8;have c1:=Qd hE n h1;have c2:=PK hE n n _ _ _ _ h3;have c4:=Ak h7;have c3:q3.length+Ah a3≤q2.length+Ah a2:=by
  split at h5
  ·rename_i ht
   obtain ⟨y,q5,g1,g2⟩:=bind_ok h5;simp only [Res.ok.injEq] at g2;obtain ⟨rfl,rfl⟩:=g2;have d1:=hE _ _ _ g1;have d2:=Ap ht;rw [Cc];simp only [Ah];omega
  ·simp only [Res.ok.injEq] at h5;obtain ⟨rfl,rfl⟩:=h5;omega
 simp only [Ah] at c1;simp only [exK,Aw];omega
theorem AAA {E:Pr Ex}(hE:BX Aw E)(n:Nat)(s:Bs):BX Aw (EF n E s):=by
 intro l x r h;unfold EF at h;split at h
 ·obtain ⟨a,q,h1,h2⟩:=bind_ok h;simp only [Res.ok.injEq] at h2;obtain ⟨rfl,rfl⟩:=h2;have c1:=Qc hE n _ _ _ h1;simp only at c1
  simp only [exK,Aw];omega
 obtain ⟨_,q,h1,h2⟩:=bind_ok h;have c1:=Ak h1;split at h2
 ·obtain ⟨a,q2,h3,h4⟩:=bind_ok h2;obtain ⟨_,q3,h5,h6⟩:=bind_ok h4;simp only [Res.ok.injEq] at h6;obtain ⟨rfl,rfl⟩:=h6;have c2:=hE _ _ _ h3;have c3:=Ak h5;simp only [exK,Aw,Ah];omega
 split at h2
 ·rename_i ht
  simp only [Bool.and_eq_true] at ht;have c2:=Ap ht.2;obtain ⟨_,q3,h5,h6⟩:=bind_ok h2;simp only [Res.ok.injEq] at h6;obtain ⟨rfl,rfl⟩:=h6;have c3:=Ak h5;simp only [exK,IP,Aw,Ah];omega
 ·obtain ⟨a,q2,h3,h4⟩:=bind_ok h2;obtain ⟨_,q3,h5,h6⟩:=bind_ok h4;simp only [Res.ok.injEq] at h6;obtain ⟨rfl,rfl⟩:=h6;have c2:=hE _ _ _ h3;have c3:=Ak h5;have c4:(if isT q [100,105,115,116,105,110,99,116] then q.tail else q).length≤q.length:=by split <;> simp
  simp only [IP,Aw,Ah];omega
theorem Vj {E U:Pr Ex}(hE:BX Aw E)(hU:BX Aw U)(n:Nat):BX Aw (Hm n E U):=by
 intro l x r h;unfold Hm at h;split at h
 ·rename_i ht
  obtain ⟨a,q,h1,h2⟩:=bind_ok h;simp only [Res.ok.injEq] at h2;obtain ⟨rfl,rfl⟩:=h2;have c1:=hU _ _ _ h1;have c2:=Ap ht;simp only [exK,Aw,Ah];omega
 split at h
 ·rename_i ht
  obtain ⟨a,q,h1,h2⟩:=bind_ok h;obtain ⟨_,q2,h3,h4⟩:=bind_ok h2;simp only [Res.ok.injEq] at h4;obtain ⟨rfl,rfl⟩:=h4;have c1:=hE _ _ _ h1;have c2:=Ap ht;have c3:=Ak h3;omega
 split at h
 ·rename_i ht
  have c1:=Zz hE n _ _ _ h;have c2:=Ap ht;omega
 split at h
 ·exact PL _ _ _ h
 split at h
 ·rename_i v hv
  simp only [Res.ok.injEq] at h;obtain ⟨rfl,rfl⟩:=h;have:=UA hv;simp only [JQ,Aw,Ah];omega
 ·obtain ⟨s,q,h1,h2⟩:=bind_ok h;have c1:=BH _ _ _ h1;simp only at c1
  split at h2
  ·have:=AAA hE n _ _ _ _ h2;omega
  split at h2
  ·rename_i ht
   obtain ⟨c,q2,h3,h4⟩:=bind_ok h2;simp only [Res.ok.injEq] at h4;obtain ⟨rfl,rfl⟩:=h4;have c2:=BH _ _ _ h3;have c3:=Ap ht;simp only at c2
   simp only [JA,Aw,Ah];omega
  ·simp only [Res.ok.injEq] at h2;obtain ⟨rfl,rfl⟩:=h2;simp only [JA,Aw,Ah];omega
theorem LG (b:Bool)(x:Ex):Aw (Tz b x)=Aw x+if b then 1 else 0:=by
 cases b
 ·simp [Tz]
 ·simp [Tz,exK,Aw,Ah]
theorem Zw {E S:Pr Ex}(hE:BX Aw E)(hS:BX Aw S)(n:Nat):BX Aw (KL n E S):=by
 intro l x r h;obtain ⟨a,q,h1,h2⟩:=bind_ok h;have c1:=hS _ _ _ h1;simp only at h2
 split at h2
 ·rename_i h0
  obtain ⟨y,q2,h3,h4⟩:=bind_ok h2;simp only [Res.ok.injEq] at h4;obtain ⟨rfl,rfl⟩:=h4;have c2:=hS _ _ _ h3;have c3:=AJC _ h0;simp only [exK,Aw,Ah];omega
 split at h2
 ·rename_i ht
  have c2:=Ap ht;split at h2
  ·rename_i ht2
   have c3:=Ap ht2;obtain ⟨_,q2,h3,h4⟩:=bind_ok h2;simp only [Res.ok.injEq] at h4;obtain ⟨rfl,rfl⟩:=h4;have c4:=Ak h3;simp only [exK,Aw,Ah];omega
  ·obtain ⟨_,q2,h3,h4⟩:=bind_ok h2;simp only [Res.ok.injEq] at h4;obtain ⟨rfl,rfl⟩:=h4;have c4:=Ak h3;simp only [exK,Aw,Ah];omega
 have cb:(if isT q [110,111,116] then q.tail else q).length+(if isT q [110,111,116] then 1 else 0)=q.length:=by
  cases hn:isT q [110,111,116] with
  |true=>simpa using Ap hn
  |false=>simp
 generalize hq:(if isT q [110,111,116] then q.tail else q)=q1 at h2 cb;split at h2
 ·rename_i ht
  have c2:=Ap ht;obtain ⟨y,q2,h3,h4⟩:=bind_ok h2;simp only [Res.ok.injEq] at h4;obtain ⟨rfl,rfl⟩:=h4;have c3:=Qc hE n _ _ _ h3;simp only at c3
  rw [LG];simp only [exK,Aw,Ah];omega
 split at h2
 ·rename_i ht
  have c2:=Ap ht;obtain ⟨y,q2,h3,h4⟩:=bind_ok h2;obtain ⟨_,q3,h5,h6⟩:=bind_ok h4;obtain ⟨z,q4,h7,h8⟩:=bind_ok h6;simp only [Res.ok.injEq] at h8;obtain ⟨rfl,rfl⟩:=h8;have c3:=hS _ _ _ h3;have c4:=Ak h5;have c5:=hS _ _ _ h7;rw [LG];simp only [exK,Aw,Ah];omega
 split at h2
 ·rename_i ht
  have c2:=Ap ht;obtain ⟨y,q2,h3,h4⟩:=bind_ok h2;simp only [Res.ok.injEq] at h4;obtain ⟨rfl,rfl⟩:=h4;have c3:=hS _ _ _ h3;rw [LG];simp only [exK,Aw,Ah];omega
 split at h2
 ·cases h2
 ·simp only [Res.ok.injEq] at h2;obtain ⟨rfl,rfl⟩:=h2;omega
theorem AGF {N Q:Pr Ex}(hN:BX Aw N)(hQ:BX Aw Q):BX Aw (Tu N Q):=by
 intro l x r h;unfold Tu at h;split at h
 ·rename_i ht
  obtain ⟨y,q2,h3,h4⟩:=bind_ok h;simp only [Res.ok.injEq] at h4;obtain ⟨rfl,rfl⟩:=h4;have c1:=Ap ht;have c2:=hN _ _ _ h3;simp only [exK,Aw,Ah];omega
 ·exact hQ _ _ _ h
theorem Jn:∀n,BX Aw (eP n)∧BX Aw (nP n)∧BX Aw (uP n)
 |0=>⟨fun l x r h=>by simp [eP,JY] at h,fun l x r h=>by simp [nP,JY] at h,fun l x r h=>by simp [uP,JY] at h⟩
 |n+1=>by
  obtain ⟨hE,hN,hU⟩:=Jn n;have u:=Vj hE hU n;have s:=IG (IG u (AFs Nu) n) (AFs VB) n;have nn:=AGF hN (Zw hE s n);exact ⟨IG (IG nn AJD n) ALf n,nn,u⟩
def pz (x:Ex):Nat:=if x.kind != 0 then Aw x else 0
theorem Xx (x:Ex):pz x≤Aw x:=by unfold pz;split <;> omega
theorem pz0:pz ex0=0:=rfl
theorem Ht:∀l:List Ex,Ah (l.filter fun x=>x.kind != 0)=(l.map pz).sum
 |[]=>rfl
 |x::l=>by
  simp only [List.filter_cons,List.map_cons,List.sum_cons,pz];cases h:(x.kind != 0) with
  |true=>simp only [if_true,Ah,Ht l]
  |false=>simp only [Bool.false_eq_true,if_false,Ht l];simp
theorem PM {α:Type}{w:α→Nat}{g:Pr α}(hg:BX w g):∀(n:Nat) (acc:List α) (l:List Tok) (x:List α) (r:List Tok),CY g n acc l= .ok x r→r.length+(x.map w).sum≤l.length+(acc.map w).sum
 |0,acc,l,x,r,h=>by simp only [CY,Res.ok.injEq] at h;obtain ⟨rfl,rfl⟩:=h;omega
 |n+1,acc,l,x,r,h=>by
  simp only [CY] at h;split at h
  ·rename_i ht
   obtain ⟨a,q,h1,h2⟩:=bind_ok h;have c1:=hg _ _ _ h1;have c2:=PM hg n _ _ _ _ h2;have c3:=Ap ht;simp only [List.map_append,List.map_cons,List.map_nil,List.sum_append,List.sum_cons,List.sum_nil] at c2;omega
  ·simp only [Res.ok.injEq] at h;obtain ⟨rfl,rfl⟩:=h;omega
theorem DX {α:Type}{w:α→Nat}{g:Pr α}(hg:BX w g)(n:Nat):BX (fun x=>(x.map w).sum) (BV n g):=by
 intro l x r h;obtain ⟨a,q,h1,h2⟩:=bind_ok h;have c1:=hg _ _ _ h1;have c2:=PM hg n _ _ _ _ h2;simp only [List.map_cons,List.map_nil,List.sum_cons,List.sum_nil] at c2;simp only;omega
theorem PI {α:Type}{w:α→Nat}{g:Pr α}(hg:BX w g)(n:Nat):BX (fun x=>(x.map w).sum) (CE n g):=by
 intro l x r h;obtain ⟨_,q,h1,h2⟩:=bind_ok h;obtain ⟨a,q2,h3,h4⟩:=bind_ok h2;obtain ⟨_,q3,h5,h6⟩:=bind_ok h4;simp only [Res.ok.injEq] at h6;obtain ⟨rfl,rfl⟩:=h6;have c1:=Ak h1;have c2:=DX hg n _ _ _ h3;have c3:=Ak h5;simp only at c2 ⊢;omega
theorem Jo (n:Nat):BX pz (eP n):=fun l x r h=>by
 have:=(Jn n).1 l x r h;have:=Xx x;omega
theorem GM (n:Nat):BX (fun x=>0 * x.length) (CE n BF):=by
 intro l x r h;have:=PI (w:=fun _=>0) (fun l x r h=>by have:=BH l x r h;simp only at this ⊢;omega) n l x r h;simp only at this ⊢;omega
theorem GN (n:Nat)(s:Bs):BX pz (EZ n s):=by
 intro l x r h;unfold EZ at h;split at h
 ·have c1:=Jo n _ _ _ h;have c2:=Ap ‹_›;omega
 ·simp only [Res.ok.injEq] at h;obtain ⟨rfl,rfl⟩:=h;rw [pz0];omega
theorem Zx (n:Nat):BX (fun x=>pz x.fExpr) (IL n):=by
 intro l x r h;unfold IL at h;split at h
 ·simp only [Res.ok.injEq] at h;obtain ⟨rfl,rfl⟩:=h;have:=Ap ‹_›;simp only [pz0];omega
 split at h
 ·simp only [Res.ok.injEq] at h;obtain ⟨rfl,rfl⟩:=h;simp only [pz0,List.length_tail];omega
 ·obtain ⟨y,q,h1,h2⟩:=bind_ok h;have c1:=Jo n _ _ _ h1;split at h2
  ·obtain ⟨a,q2,h3,h4⟩:=bind_ok h2;simp only [Res.ok.injEq] at h4;obtain ⟨rfl,rfl⟩:=h4;have c2:=BH _ _ _ h3;have c3:=Ap ‹_›;simp only at c2 ⊢;omega
  ·simp only [Res.ok.injEq] at h2;obtain ⟨rfl,rfl⟩:=h2;exact c1
theorem Vm (n:Nat):BX (fun x=>pz x.fExpr) (Ig n):=by
 intro l x r h;obtain ⟨y,q,h1,h2⟩:=bind_ok h;have c1:=Jo n _ _ _ h1;split at h2
 ·simp only [Res.ok.injEq] at h2;obtain ⟨rfl,rfl⟩:=h2;have:=Ap ‹_›;simp only;omega
 split at h2
 ·simp only [Res.ok.injEq] at h2;obtain ⟨rfl,rfl⟩:=h2;have:=Ap ‹_›;simp only;omega
 ·simp only [Res.ok.injEq] at h2;obtain ⟨rfl,rfl⟩:=h2;exact c1
theorem AGE (n:Nat):BX (fun x=>pz x.fExpr) (VI n):=by
 intro l x r h;obtain ⟨s,q,h1,h2⟩:=bind_ok h;obtain ⟨_,q2,h3,h4⟩:=bind_ok h2;obtain ⟨y,q3,h5,h6⟩:=bind_ok h4;simp only [Res.ok.injEq] at h6;obtain ⟨rfl,rfl⟩:=h6;have c1:=BH _ _ _ h1;have c2:=Ak h3;have c3:=Jo n _ _ _ h5;simp only at c1 ⊢;omega
theorem Gp:BX (fun x=>pz x.fOn) Ci:=by
 intro l x r h;obtain ⟨s,q,h1,h2⟩:=bind_ok h;have c1:=BH _ _ _ h1;simp only at c1
 split at h2
 ·obtain ⟨a,q2,h3,h4⟩:=bind_ok h2;simp only [Res.ok.injEq] at h4;obtain ⟨rfl,rfl⟩:=h4;have c2:=BH _ _ _ h3;have c3:=Ap ‹_›;simp only [pz0] at c2 ⊢;omega
 split at h2
 ·obtain ⟨a,q2,h3,h4⟩:=bind_ok h2;simp only [Res.ok.injEq] at h4;obtain ⟨rfl,rfl⟩:=h4;have c2:=BH _ _ _ h3;simp only [pz0] at c2 ⊢;omega
 ·simp only [Res.ok.injEq] at h2;obtain ⟨rfl,rfl⟩:=h2;simp only [pz0];omega
theorem LM (n:Nat)(b:Bool):BX (fun x=>pz x.fOn) (Gz n b):=by
 intro l x r h;obtain ⟨_,q,h1,h2⟩:=bind_ok h;obtain ⟨s,q2,h3,h4⟩:=bind_ok h2;obtain ⟨_,q3,h5,h6⟩:=bind_ok h4;obtain ⟨y,q4,h7,h8⟩:=bind_ok h6;simp only [Res.ok.injEq] at h8;obtain ⟨rfl,rfl⟩:=h8;have c1:=Ak h1;have c2:=Gp _ _ _ h3;have c3:=Ak h5;have c4:=Jo n _ _ _ h7;simp only at c2 ⊢;omega
theorem PN (n:Nat):∀(m:Nat) (acc:List TSource) (l:List Tok) (x:List TSource) (r:List Tok),DN n m acc l= .ok x r→r.length+(x.map fun x=>pz x.fOn).sum≤l.length+(acc.map fun x=>pz x.fOn).sum
 |0,acc,l,x,r,h=>by simp only [DN,Res.ok.injEq] at h;obtain ⟨rfl,rfl⟩:=h;omega
 |m+1,acc,l,x,r,h=>by
  have one:∀{g:Pr TSource} (_:BX (fun x=>pz x.fOn) g) {l':List Tok},l'.length≤l.length→(g l').bind (fun s r=>DN n m (acc++[s]) r)= .ok x r→r.length+(x.map fun x=>pz x.fOn).sum≤l.length+(acc.map fun x=>pz x.fOn).sum:=by
   intro g hg l' hl h;obtain ⟨a,q,h1,h2⟩:=bind_ok h;have c1:=hg _ _ _ h1;have c2:=PN n m _ _ _ _ h2;simp only [List.map_append,List.map_cons,List.map_nil,List.sum_append,List.sum_cons,List.sum_nil] at c2;simp only at c1;omega
  simp only [DN] at h;split at h
  ·exact one Gp (by simp) h
  split at h
  ·obtain ⟨_,q,h1,h2⟩:=bind_ok h;have c1:=Ak h1;have c2:=Ap ‹_›;exact one Gp (by omega) h2
  split at h
  ·exact one (LM n true) (by simp) h
  split at h
  ·exact one (LM n false) (by simp) h
  split at h
  ·exact one (LM n false) (Nat.le_refl _) h
  ·simp only [Res.ok.injEq] at h;obtain ⟨rfl,rfl⟩:=h;omega
theorem Zy (n:Nat):BX (fun x=>(x.map fun x=>pz x.fOn).sum) (Lh n):=by
 intro l x r h;obtain ⟨a,q,h1,h2⟩:=bind_ok h;have c1:=Gp _ _ _ h1;have c2:=PN n n _ _ _ _ h2;simp only [List.map_cons,List.map_nil,List.sum_cons,List.sum_nil] at c2;simp only at c1 ⊢;omega
theorem Dt {α:Type}{w:α→Nat}{g:Pr α}(hg:BX w g)(s:Bs){d:α}(hd:w d=0):BX w (Rl s d g):=by
 intro l x r h;unfold Rl at h;split at h
 ·have c1:=hg _ _ _ h;have c2:=Ap ‹_›;omega
 ·simp only [Res.ok.injEq] at h;obtain ⟨rfl,rfl⟩:=h;omega
theorem NS {α:Type}{w:α→Nat}{g:Pr α}(hg:BX w g):BX w (byP g):=by
 intro l x r h;obtain ⟨_,q,h1,h2⟩:=bind_ok h;have c1:=Ak h1;have c2:=hg _ _ _ h2;omega
theorem IE:BX (fun _=>0) GI:=by
 intro l x r h;unfold GI at h;split at h
 ·simp only [Res.ok.injEq] at h;obtain ⟨_,rfl⟩:=h;simp
 ·cases h
def wQ (q:TSelect):Nat:=(q.fItems.map fun x=>pz x.fExpr).sum+(q.fFrom.map fun x=>pz x.fOn).sum+pz q.fWhere+(q.fGroup.map pz).sum+pz q.fHaving+(q.fOrder.map fun x=>pz x.fExpr).sum
def wS (s:TStmt):Nat:=wQ s.fSelect+pz s.fWhere+((s.fRows.flatten).map pz).sum+(s.fSets.map fun x=>pz x.fExpr).sum+(s.fCols.map fun x=>pz x.fDefault).sum
theorem AFT (s:TStmt):Fp s=wS s+1:=by
 simp only [Fp,FI,Ht,wS,wQ,List.map_append,List.sum_append,List.map_cons,List.map_nil,List.sum_cons,List.sum_nil,List.map_map,Function.comp_def];omega
theorem Vl (n:Nat):BX wQ (Ie n):=by
 intro l x r h;obtain ⟨a1,q1,h1,h⟩:=bind_ok h;obtain ⟨a2,q2,h2,h⟩:=bind_ok h;obtain ⟨a3,q3,h3,h⟩:=bind_ok h;obtain ⟨a4,q4,h4,h⟩:=bind_ok h;obtain ⟨a5,q5,h5,h⟩:=bind_ok h;obtain ⟨a6,q6,h6,h⟩:=bind_ok h;obtain ⟨a7,q7,h7,h⟩:=bind_ok h;obtain ⟨a8,q8,h8,h⟩:=bind_ok h;simp only [Res.ok.injEq] at h;obtain ⟨rfl,rfl⟩:=h;have c1:=DX (Zx n) n _ _ _ h1;have c2:=Dt (Zy n) _ rfl _ _ _ h2;have c3:=GN n _ _ _ _ h3;have c4:=Dt (NS (DX (Jo n) n)) _ rfl _ _ _ h4;have c5:=GN n _ _ _ _ h5;have c6:=Dt (NS (DX (Vm n) n)) _ rfl _ _ _ h6;have c7:=Dt IE _ rfl _ _ _ h7;have c8:=Dt IE _ rfl _ _ _ h8;have c0:(if isT l [100,105,115,116,105,110,99,116] then l.tail else l).length≤l.length:=by split <;> simp
 simp only at c1 c2 c4 c6 c7 c8
 simp only [wQ];omega
theorem Vo:BX pz Hz:=by
 intro l x r h;unfold Hz at h;split at h
 ·rename_i v hv
  simp only [Res.ok.injEq] at h;obtain ⟨rfl,rfl⟩:=h;have:=UA hv;have:=Xx (JQ v);simp only [JQ,Aw,Ah] at this;simp only [JQ];omega
 split at h
 ·obtain ⟨y,q,h1,h2⟩:=bind_ok h;simp only [Res.ok.injEq] at h2;obtain ⟨rfl,rfl⟩:=h2;have c1:=PL _ _ _ h1;have c2:=Ap ‹_›;have:=Xx (exK 4 [y]);simp only [exK,Aw,Ah] at this;simp only [exK];omega
 ·have c1:=PL _ _ _ h;have:=Xx x;omega
theorem FV:∀(m:Nat) (c:TCol) (l:List Tok) (y:TCol) (r:List Tok),Gg m c l= .ok y r→r.length+pz y.fDefault≤l.length+pz c.fDefault
 |0,c,l,y,r,h=>by simp only [Gg,Res.ok.injEq] at h;obtain ⟨rfl,rfl⟩:=h;omega
 |m+1,c,l,y,r,h=>by
  simp only [Gg] at h;split at h
  ·obtain ⟨_,q,h1,h2⟩:=bind_ok h;have c1:=Ak h1;have c2:=FV m _ _ _ _ h2;have:l.tail.length≤l.length:=by simp
   simp only at c2;omega
  split at h
  ·obtain ⟨_,q,h1,h2⟩:=bind_ok h;have c1:=Ak h1;have c2:=FV m _ _ _ _ h2;have:l.tail.length≤l.length:=by simp
   simp only at c2;omega
  split at h
  ·have c2:=FV m _ _ _ _ h;have:l.tail.length≤l.length:=by simp
   simp only at c2;omega
  split at h
  ·obtain ⟨x,q,h1,h2⟩:=bind_ok h;have c1:=Vo _ _ _ h1;have c2:=FV m _ _ _ _ h2;have:l.tail.length≤l.length:=by simp
   simp only at c2;omega
  ·simp only [Res.ok.injEq] at h;obtain ⟨rfl,rfl⟩:=h;omega
theorem UN (n:Nat):BX (fun x=>pz x.fDefault) (FQ n):=by
 intro l x r h;obtain ⟨s,q,h1,h2⟩:=bind_ok h;have c1:=BH _ _ _ h1;simp only at h2 c1
 generalize (if isK q 1 then typeOf (hd q).text else 0)=t at h2;split at h2
 ·cases h2
 ·have c2:=FV n _ _ _ _ h2;have:q.tail.length≤q.length:=by simp
  simp only [pz0] at c2 ⊢;omega
theorem Qe (n:Nat):∀(m:Nat) (cs:List TCol) (ks:List Bs) (l:List Tok) (x:List TCol×List Bs) (r:List Tok),FZ n m cs ks l= .ok x r→r.length+(x.1.map fun x=>pz x.fDefault).sum≤l.length+(cs.map fun x=>pz x.fDefault).sum
 |0,cs,ks,l,x,r,h=>by simp only [FZ,Res.ok.injEq] at h;obtain ⟨rfl,rfl⟩:=h;exact Nat.le_refl _
 |m+1,cs,ks,l,x,r,h=>by
  simp only [FZ] at h;obtain ⟨a,q,h1,h2⟩:=bind_ok h;have c1:q.length+(a.1.map fun x=>pz x.fDefault).sum≤l.length+(cs.map fun x=>pz x.fDefault).sum:=by
   split at h1
   ·obtain ⟨_,q1,g1,g2⟩:=bind_ok h1;obtain ⟨k,q2,g3,g4⟩:=bind_ok g2;simp only [Res.ok.injEq] at g4;obtain ⟨rfl,rfl⟩:=g4;have d1:=Ak g1;have d2:=GM n _ _ _ g3;have:l.tail.length≤l.length:=by simp
    simp only at d2 ⊢;omega
   ·obtain ⟨c,q1,g1,g2⟩:=bind_ok h1;simp only [Res.ok.injEq] at g2;obtain ⟨rfl,rfl⟩:=g2;have d1:=UN n _ _ _ g1;simp only [List.map_append,List.map_cons,List.map_nil,List.sum_append,List.sum_cons,List.sum_nil] at d1 ⊢;omega
  split at h2
  ·have c2:=Qe n m _ _ _ _ _ h2;have:q.tail.length≤q.length:=by simp
   omega
  ·simp only [Res.ok.injEq] at h2;obtain ⟨rfl,rfl⟩:=h2;exact c1
theorem Vk (n:Nat):BX wS (Ql n):=by
 intro l x r h;obtain ⟨s,q,h1,h⟩:=bind_ok h;obtain ⟨_,q2,h2,h⟩:=bind_ok h;obtain ⟨y,q3,h3,h⟩:=bind_ok h;have c1:=BH _ _ _ h1;have c2:=Ak h2;have c3:=Qe n _ _ _ _ _ _ h3;simp only [List.map_nil,List.sum_nil] at c3;split at h
 ·cases h
 ·obtain ⟨_,q4,h4,h⟩:=bind_ok h;simp only [Res.ok.injEq] at h;obtain ⟨rfl,rfl⟩:=h;have c4:=Ak h4;have:wS {(default:TStmt) with fKind:=5,fTable:=s,fCols:=y.1,fKey:=y.2}=(y.1.map fun x=>pz x.fDefault).sum:=by
   show 0+0+0+0+(y.1.map fun x=>pz x.fDefault).sum=_;simp
  rw [this];simp only at c1;omega
theorem TC:∀(l:List (List Ex)),(l.flatten.map pz).sum=(l.map fun x=>(x.map pz).sum).sum
 |[]=>rfl
 |x::l=>by simp only [List.flatten_cons,List.map_append,List.sum_append,List.map_cons,List.sum_cons,TC l]
theorem wS0 {s:TStmt}(h1:s.fSelect=default)(h2:s.fWhere=ex0)(h3:s.fRows=[])(h4:s.fSets=[])(h5:s.fCols=[]):wS s=0:=by
 simp only [wS,h1,h2,h3,h4,h5];rfl
theorem leW {a b:Nat}{s:TStmt}(h0:wS s=0)(h:a+1≤b):a+(fun s=>wS s+1) s≤b:=by simp only [h0];omega
theorem SI {l r:List Tok}{n:Nat}(h:r.length+n≤l.length):r.length≤l.length:=by omega
theorem Qg (n:Nat):BX (fun s=>wS s+1) (EJ n):=by
 intro l x r h;unfold EJ at h;split at h
 ·obtain ⟨q,r1,h1,h2⟩:=bind_ok h;simp only [Res.ok.injEq] at h2;obtain ⟨rfl,rfl⟩:=h2;have c1:=Vl n _ _ _ h1;have c2:=Ap ‹_›;have:wS {(default:TStmt) with fKind:=1,fSelect:=q}=wQ q:=by show wQ q+0+0+0+0=_;simp
  simp only [this];omega
 split at h
 ·have c0:=Ap ‹_›;obtain ⟨_,r1,h1,h⟩:=bind_ok h;obtain ⟨s,r2,h2,h⟩:=bind_ok h;obtain ⟨c,r3,h3,h⟩:=bind_ok h;obtain ⟨_,r4,h4,h⟩:=bind_ok h;obtain ⟨y,r5,h5,h⟩:=bind_ok h;simp only [Res.ok.injEq] at h;obtain ⟨rfl,rfl⟩:=h;have c1:=Ak h1;have c2:=BH _ _ _ h2;have c3:r3.length≤r2.length:=by
   split at h3
   ·exact SI (GM n _ _ _ h3)
   ·simp only [Res.ok.injEq] at h3;obtain ⟨rfl,rfl⟩:=h3;exact Nat.le_refl _
  have c4:=Ak h4;have c5:=DX (PI (Jo n) n) n _ _ _ h5;have:wS {(default:TStmt) with fKind:=2,fTable:=s,fColumns:=c,fRows:=y}=(y.flatten.map pz).sum:=by show 0+0+(y.flatten.map pz).sum+0+0=_;simp
  simp only at c2 c5
  simp only [this,TC];omega
 split at h
 ·have c0:=Ap ‹_›;obtain ⟨s,r1,h1,h⟩:=bind_ok h;obtain ⟨_,r2,h2,h⟩:=bind_ok h;obtain ⟨y,r3,h3,h⟩:=bind_ok h;obtain ⟨z,r4,h4,h⟩:=bind_ok h;simp only [Res.ok.injEq] at h;obtain ⟨rfl,rfl⟩:=h;have c1:=BH _ _ _ h1;have c2:=Ak h2;have c3:=DX (AGE n) n _ _ _ h3;have c4:=GN n _ _ _ _ h4;have:wS {(default:TStmt) with fKind:=3,fTable:=s,fSets:=y,fWhere:=z}=pz z+(y.map fun x=>pz x.fExpr).sum:=by show 0+pz z+0+(y.map fun x=>pz x.fExpr).sum+0=_;simp
  simp only at c1 c3
  simp only [this];omega
 split at h
 ·have c0:=Ap ‹_›;obtain ⟨_,r1,h1,h⟩:=bind_ok h;obtain ⟨s,r2,h2,h⟩:=bind_ok h;obtain ⟨z,r3,h3,h⟩:=bind_ok h;simp only [Res.ok.injEq] at h;obtain ⟨rfl,rfl⟩:=h;have c1:=Ak h1;have c2:=BH _ _ _ h2;have c3:=GN n _ _ _ _ h3;have:wS {(default:TStmt) with fKind:=4,fTable:=s,fWhere:=z}=pz z:=by show 0+pz z+0+0+0=_;simp
  simp only at c2
  simp only [this];omega
 split at h
 ·have c0:=Ap ‹_›;unfold Gn at h;split at h
  ·have c1:=Vk n _ _ _ h;have:l.tail.tail.length≤l.tail.length:=by simp
   simp only;omega
  ·obtain ⟨_,r1,h1,h⟩:=bind_ok h;obtain ⟨a,r2,h2,h⟩:=bind_ok h;obtain ⟨_,r3,h3,h⟩:=bind_ok h;obtain ⟨t,r4,h4,h⟩:=bind_ok h;obtain ⟨c,r5,h5,h⟩:=bind_ok h;simp only [Res.ok.injEq] at h;obtain ⟨rfl,rfl⟩:=h;have c1:=Ak h1;have c2:=BH _ _ _ h2;have c3:=Ak h3;have c4:=BH _ _ _ h4;have c5:=SI (GM n _ _ _ h5);have c6:(if isT l.tail [117,110,105,113,117,101] then l.tail.tail else l.tail).length≤l.tail.length:=by split <;> simp
   refine leW (wS0 rfl rfl rfl rfl rfl) ?_;simp only at c2 c4;omega
 split at h
 ·have c0:=Ap ‹_›;unfold Gm at h;split at h
  ·obtain ⟨s,r1,h1,h⟩:=bind_ok h;simp only [Res.ok.injEq] at h;obtain ⟨rfl,rfl⟩:=h;have c1:=BH _ _ _ h1;have:l.tail.tail.length≤l.tail.length:=by simp
   refine leW (wS0 rfl rfl rfl rfl rfl) ?_;simp only at c1;omega
  ·obtain ⟨_,r1,h1,h⟩:=bind_ok h;obtain ⟨s,r2,h2,h⟩:=bind_ok h;simp only [Res.ok.injEq] at h;obtain ⟨rfl,rfl⟩:=h;have c1:=Ak h1;have c2:=BH _ _ _ h2;refine leW (wS0 rfl rfl rfl rfl rfl) ?_;simp only at c2;omega
 split at h
 ·have c0:=Ap ‹_›;simp only [Res.ok.injEq] at h;obtain ⟨rfl,rfl⟩:=h;refine leW (wS0 rfl rfl rfl rfl rfl) ?_;omega
 split at h
 ·have c0:=Ap ‹_›;simp only [Res.ok.injEq] at h;obtain ⟨rfl,rfl⟩:=h;refine leW (wS0 rfl rfl rfl rfl rfl) ?_;omega
 ·obtain ⟨_,r1,h1,h⟩:=bind_ok h;simp only [Res.ok.injEq] at h;obtain ⟨rfl,rfl⟩:=h;have c1:=Ak h1;refine leW (wS0 rfl rfl rfl rfl rfl) ?_;omega
theorem Jm (n:Nat):∀(m:Nat) (acc:List TStmt) (l:List Tok) (x:List TStmt) (r:List Tok),CU n m acc l= .ok x r→BM x≤l.length+BM acc
 |0,acc,l,x,r,h=>by simp only [CU,Res.ok.injEq] at h;obtain ⟨rfl,rfl⟩:=h;omega
 |m+1,acc,l,x,r,h=>by
  simp only [CU] at h;split at h
  ·simp only [Res.ok.injEq] at h;obtain ⟨rfl,rfl⟩:=h;omega
  split at h
  ·have:=Jm n m _ _ _ _ h;have:l.tail.length≤l.length:=by simp
   omega
  ·obtain ⟨s,q,h1,h2⟩:=bind_ok h;have c1:=Qg n _ _ _ h1;simp only at c1
   split at h2
   ·have c2:=Jm n m _ _ _ _ h2;simp only [BM,List.map_append,List.map_cons,List.map_nil,List.sum_append,List.sum_cons,List.sum_nil,AFT] at c2 ⊢;omega
   ·cases h2
theorem Je (n:Nat):∀(f:Nat) (acc:List Tok) (s:Bs) (l:List Tok),IY n f acc s= .toks l→l.length≤acc.length+f
 |0,acc,s,l,h=>by simp only [IY,LexA.toks.injEq] at h;subst h;omega
 |f+1,acc,s,l,h=>by
  simp only [IY] at h;split at h
  ·simp only [LexA.toks.injEq] at h;subst h;simp
  ·split at h
   ·cases h
   ·have:=Je n f _ _ _ h;simp at this;omega
theorem VN (s:Bs):BM (readA s).1≤s.length+1:=by
 unfold readA;split
 ·simp [BM]
 ·rename_i l hl
  have hc:=Je _ _ _ _ _ hl;split
  ·rename_i x r hx
   have:=Jm _ _ _ _ _ _ hx;simp [BM] at this hc ⊢;omega
  ·simp [BM]
def cQ (q:TSelect):Nat:=q.fItems.length+q.fFrom.length+q.fGroup.length+q.fOrder.length
def cS (s:TStmt):Nat:=cQ s.fSelect+(s.fRows.flatten.length+s.fRows.length)+s.fSets.length+s.fCols.length
theorem AHV {α:Type}(l:List α):(l.map fun _=>1).sum=l.length:=by
 induction l with
 |nil=>rfl
 |cons x l ih=>simp only [List.map_cons,List.sum_cons,ih,List.length_cons];omega
theorem Ii {α:Type}{g:Pr α}(hg:BX (fun _=>1) g)(n:Nat):BX List.length (BV n g):=fun l x r h=>by
 have:=DX hg n l x r h;simp only [AHV] at this;exact this
theorem QM (n:Nat):BX (fun _=>1) (eP n):=fun l x r h=>by
 have:=(Jn n).1 l x r h;have:1≤Aw x:=by cases x;simp [Aw]
 simp only;omega
theorem UB (n:Nat)(s:Bs):BX (fun _=>0) (EZ n s):=fun l x r h=>by
 have:=GN n s l x r h;simp only;omega
theorem AFZ (n:Nat):BX (fun _=>1) (IL n):=by
 intro l x r h;unfold IL at h;split at h
 ·simp only [Res.ok.injEq] at h;obtain ⟨rfl,rfl⟩:=h;have:=Ap ‹_›;simp only;omega
 split at h
 ·rename_i hb
  simp only [Bool.and_eq_true] at hb;have:=GK hb.1.1.1.1 (by decide);simp only [Res.ok.injEq] at h;obtain ⟨rfl,rfl⟩:=h;simp only [List.length_tail] at this ⊢;omega
 ·obtain ⟨y,q,h1,h2⟩:=bind_ok h;have c1:=QM n _ _ _ h1;split at h2
  ·obtain ⟨a,q2,h3,h4⟩:=bind_ok h2;simp only [Res.ok.injEq] at h4;obtain ⟨rfl,rfl⟩:=h4;have c2:=BH _ _ _ h3;have c3:=Ap ‹_›;simp only at c1 c2 ⊢;omega
  ·simp only [Res.ok.injEq] at h2;obtain ⟨rfl,rfl⟩:=h2;exact c1
theorem ZH (n:Nat):BX (fun _=>1) (Ig n):=by
 intro l x r h;obtain ⟨y,q,h1,h2⟩:=bind_ok h;have c1:=QM n _ _ _ h1;simp only at c1
 split at h2
 ·simp only [Res.ok.injEq] at h2;obtain ⟨rfl,rfl⟩:=h2;have:=Ap ‹_›;simp only;omega
 split at h2
 ·simp only [Res.ok.injEq] at h2;obtain ⟨rfl,rfl⟩:=h2;have:=Ap ‹_›;simp only;omega
 ·simp only [Res.ok.injEq] at h2;obtain ⟨rfl,rfl⟩:=h2;exact c1
theorem one_set (n:Nat):BX (fun _=>1) (VI n):=by
 intro l x r h;obtain ⟨s,q,h1,h2⟩:=bind_ok h;obtain ⟨_,q2,h3,h4⟩:=bind_ok h2;obtain ⟨y,q3,h5,h6⟩:=bind_ok h4;simp only [Res.ok.injEq] at h6;obtain ⟨rfl,rfl⟩:=h6;have c1:=BH _ _ _ h1;have c2:=Ak h3;have c3:=QM n _ _ _ h5;simp only at c1 c3 ⊢;omega
theorem Hu:BX (fun _=>1) Ci:=by
 intro l x r h;obtain ⟨s,q,h1,h2⟩:=bind_ok h;have c1:=BH _ _ _ h1;simp only at c1
 split at h2
 ·obtain ⟨a,q2,h3,h4⟩:=bind_ok h2;simp only [Res.ok.injEq] at h4;obtain ⟨rfl,rfl⟩:=h4;have c2:=BH _ _ _ h3;have c3:=Ap ‹_›;simp only at c2 ⊢;omega
 split at h2
 ·obtain ⟨a,q2,h3,h4⟩:=bind_ok h2;simp only [Res.ok.injEq] at h4;obtain ⟨rfl,rfl⟩:=h4;have c2:=BH _ _ _ h3;simp only at c2 ⊢;omega
 ·simp only [Res.ok.injEq] at h2;obtain ⟨rfl,rfl⟩:=h2;simp only;omega
theorem OW (n:Nat)(b:Bool):BX (fun _=>1) (Gz n b):=by
 intro l x r h;obtain ⟨_,q,h1,h2⟩:=bind_ok h;obtain ⟨s,q2,h3,h4⟩:=bind_ok h2;obtain ⟨_,q3,h5,h6⟩:=bind_ok h4;obtain ⟨y,q4,h7,h8⟩:=bind_ok h6;simp only [Res.ok.injEq] at h8;obtain ⟨rfl,rfl⟩:=h8;have c1:=Ak h1;have c2:=Hu _ _ _ h3;have c3:=Ak h5;have c4:=QM n _ _ _ h7;simp only at c2 c4 ⊢;omega
theorem QL (n:Nat):∀(m:Nat) (acc:List TSource) (l:List Tok) (x:List TSource) (r:List Tok),DN n m acc l= .ok x r→r.length+x.length≤l.length+acc.length
 |0,acc,l,x,r,h=>by simp only [DN,Res.ok.injEq] at h;obtain ⟨rfl,rfl⟩:=h;omega
 |m+1,acc,l,x,r,h=>by
  have one:∀{g:Pr TSource} (_:BX (fun _=>1) g) {l':List Tok},l'.length≤l.length→(g l').bind (fun s r=>DN n m (acc++[s]) r)= .ok x r→r.length+x.length≤l.length+acc.length:=by
   intro g hg l' hl h;obtain ⟨a,q,h1,h2⟩:=bind_ok h;have c1:=hg _ _ _ h1;have c2:=QL n m _ _ _ _ h2;simp only [List.length_append,List.length_cons,List.length_nil] at c2;simp only at c1;omega
  simp only [DN] at h;split at h
  ·exact one Hu (by simp) h
  split at h
  ·obtain ⟨_,q,h1,h2⟩:=bind_ok h;have c1:=Ak h1;have c2:=Ap ‹_›;exact one Hu (by omega) h2
  split at h
  ·exact one (OW n true) (by simp) h
  split at h
  ·exact one (OW n false) (by simp) h
  split at h
  ·exact one (OW n false) (Nat.le_refl _) h
  ·simp only [Res.ok.injEq] at h;obtain ⟨rfl,rfl⟩:=h;omega
theorem AFa (n:Nat):BX List.length (Lh n):=by
 intro l x r h;obtain ⟨a,q,h1,h2⟩:=bind_ok h;have c1:=Hu _ _ _ h1;have c2:=QL n n _ _ _ _ h2;simp only [List.length_cons,List.length_nil] at c2;simp only at c1;omega
theorem AAD (n:Nat):BX cQ (Ie n):=by
 intro l x r h;obtain ⟨a1,q1,h1,h⟩:=bind_ok h;obtain ⟨a2,q2,h2,h⟩:=bind_ok h;obtain ⟨a3,q3,h3,h⟩:=bind_ok h;obtain ⟨a4,q4,h4,h⟩:=bind_ok h;obtain ⟨a5,q5,h5,h⟩:=bind_ok h;obtain ⟨a6,q6,h6,h⟩:=bind_ok h;obtain ⟨a7,q7,h7,h⟩:=bind_ok h;obtain ⟨a8,q8,h8,h⟩:=bind_ok h;simp only [Res.ok.injEq] at h;obtain ⟨rfl,rfl⟩:=h;have c1:=Ii (AFZ n) n _ _ _ h1;have c2:=Dt (AFa n) _ rfl _ _ _ h2;have c3:=UB n _ _ _ _ h3;have c4:=Dt (NS (Ii (QM n) n)) _ rfl _ _ _ h4;have c5:=UB n _ _ _ _ h5;have c6:=Dt (NS (Ii (ZH n) n)) _ rfl _ _ _ h6;have c7:=Dt IE _ rfl _ _ _ h7;have c8:=Dt IE _ rfl _ _ _ h8;have c0:(if isT l [100,105,115,116,105,110,99,116] then l.tail else l).length≤l.length:=by split <;> simp
 simp only at c1 c2 c3 c4 c5 c6 c7 c8
 simp only [cQ];omega
theorem VQ (n:Nat):BX (fun _=>1) (FQ n):=by
 intro l x r h;obtain ⟨s,q,h1,h2⟩:=bind_ok h;have c1:=BH _ _ _ h1;simp only at h2 c1
 generalize (if isK q 1 then typeOf (hd q).text else 0)=t at h2;split at h2
 ·cases h2
 ·have c2:=FV n _ _ _ _ h2;have:q.tail.length≤q.length:=by simp
  simp only [pz0] at c2 ⊢;omega
theorem Tq (n:Nat):∀(m:Nat) (cs:List TCol) (ks:List Bs) (l:List Tok) (x:List TCol×List Bs) (r:List Tok),FZ n m cs ks l= .ok x r→r.length+x.1.length≤l.length+cs.length
 |0,cs,ks,l,x,r,h=>by simp only [FZ,Res.ok.injEq] at h;obtain ⟨rfl,rfl⟩:=h;exact Nat.le_refl _
 |m+1,cs,ks,l,x,r,h=>by
  simp only [FZ] at h;obtain ⟨a,q,h1,h2⟩:=bind_ok h;have c1:q.length+a.1.length≤l.length+cs.length:=by
   split at h1
   ·obtain ⟨_,q1,g1,g2⟩:=bind_ok h1;obtain ⟨k,q2,g3,g4⟩:=bind_ok g2;simp only [Res.ok.injEq] at g4;obtain ⟨rfl,rfl⟩:=g4;have d1:=Ak g1;have d2:=GM n _ _ _ g3;have:l.tail.length≤l.length:=by simp
    simp only at d2 ⊢;omega
   ·obtain ⟨c,q1,g1,g2⟩:=bind_ok h1;simp only [Res.ok.injEq] at g2;obtain ⟨rfl,rfl⟩:=g2;have d1:=VQ n _ _ _ g1;simp only [List.length_append,List.length_cons,List.length_nil] at d1 ⊢;omega
  split at h2
  ·have c2:=Tq n m _ _ _ _ _ h2;have:q.tail.length≤q.length:=by simp
   omega
  ·simp only [Res.ok.injEq] at h2;obtain ⟨rfl,rfl⟩:=h2;exact c1
theorem cS0 {s:TStmt}(h1:s.fSelect=default)(h3:s.fRows=[])(h4:s.fSets=[])(h5:s.fCols=[]):cS s=0:=by
 simp only [cS,h1,h3,h4,h5];rfl
theorem AJZ {s:TStmt}(h1:s.fSelect=default)(h4:s.fSets=[])(h5:s.fCols=[]):cS s=s.fRows.flatten.length+s.fRows.length:=by
 simp only [cS,h1,h4,h5];show 0+_+0+0=_;simp
theorem AJY {s:TStmt}(h1:s.fSelect=default)(h3:s.fRows=[])(h5:s.fCols=[]):cS s=s.fSets.length:=by
 simp only [cS,h1,h3,h5];show 0+0+_+0=_;simp
theorem AJa {s:TStmt}(h1:s.fSelect=default)(h3:s.fRows=[])(h4:s.fSets=[]):cS s=s.fCols.length:=by
 simp only [cS,h1,h3,h4];show 0+0+0+_=_;simp
theorem ANu {s:TStmt}(h3:s.fRows=[])(h4:s.fSets=[])(h5:s.fCols=[]):cS s=cQ s.fSelect:=by
 simp only [cS,h3,h4,h5];show _+0+0+0=_;simp
theorem AFo {α:Type}:∀l:List (List α),l.flatten.length=(l.map List.length).sum
 |[]=>rfl
 |x::l=>by simp only [List.flatten_cons,List.length_append,List.map_cons,List.sum_cons,AFo l]
theorem QP {α:Type}:∀l:List (List α),(l.map fun x=>x.length+1).sum=l.flatten.length+l.length
 |[]=>rfl
 |x::l=>by simp only [List.flatten_cons,List.length_append,List.map_cons,List.sum_cons,QP l,List.length_cons];omega
theorem ZG {α:Type}{g:Pr α}(hg:BX (fun _=>1) g)(n:Nat):BX (fun x=>x.length+1) (CE n g):=by
 intro l x r h;obtain ⟨_,q,h1,h2⟩:=bind_ok h;obtain ⟨a,q2,h3,h4⟩:=bind_ok h2;obtain ⟨_,q3,h5,h6⟩:=bind_ok h4;simp only [Res.ok.injEq] at h6;obtain ⟨rfl,rfl⟩:=h6;have c1:=Ak h1;have c2:=Ii hg n _ _ _ h3;have c3:=Ak h5;simp only;omega
theorem AGH {n:Nat}{l r:List Tok}{x:TStmt}(h:EJ n l= .ok x r):r.length≤l.length∧cS x≤l.length:=by
 have hle:r.length≤l.length:=by have:=Qg n _ _ _ h;omega
 refine ⟨hle,?_⟩;unfold EJ at h;split at h
 ·obtain ⟨q,r1,h1,h2⟩:=bind_ok h;simp only [Res.ok.injEq] at h2;obtain ⟨rfl,rfl⟩:=h2;have c1:=AAD n _ _ _ h1;rw [ANu rfl rfl rfl];simp only [List.length_tail] at c1 ⊢;omega
 split at h
 ·obtain ⟨_,r1,h1,h⟩:=bind_ok h;obtain ⟨s,r2,h2,h⟩:=bind_ok h;obtain ⟨c,r3,h3,h⟩:=bind_ok h;obtain ⟨_,r4,h4,h⟩:=bind_ok h;obtain ⟨y,r5,h5,h⟩:=bind_ok h;simp only [Res.ok.injEq] at h;obtain ⟨rfl,rfl⟩:=h;have c1:=Ak h1;have c2:=BH _ _ _ h2;have c3:r3.length≤r2.length:=by
   split at h3
   ·exact SI (GM n _ _ _ h3)
   ·simp only [Res.ok.injEq] at h3;obtain ⟨rfl,rfl⟩:=h3;exact Nat.le_refl _
  have c4:=Ak h4;have c5:=DX (ZG (QM n) n) n _ _ _ h5;rw [AJZ rfl rfl rfl,←QP];simp only [List.length_tail] at c1 c2 c5 ⊢;omega
 split at h
 ·obtain ⟨s,r1,h1,h⟩:=bind_ok h;obtain ⟨_,r2,h2,h⟩:=bind_ok h;obtain ⟨y,r3,h3,h⟩:=bind_ok h;obtain ⟨z,r4,h4,h⟩:=bind_ok h;simp only [Res.ok.injEq] at h;obtain ⟨rfl,rfl⟩:=h;have c1:=BH _ _ _ h1;have c2:=Ak h2;have c3:=Ii (one_set n) n _ _ _ h3;rw [AJY rfl rfl rfl];simp only [List.length_tail] at c1 ⊢;omega
 split at h
 ·obtain ⟨_,r1,h1,h⟩:=bind_ok h;obtain ⟨s,r2,h2,h⟩:=bind_ok h;obtain ⟨z,r3,h3,h⟩:=bind_ok h;simp only [Res.ok.injEq] at h;obtain ⟨rfl,rfl⟩:=h;rw [cS0 rfl rfl rfl rfl];omega
 split at h
 ·unfold Gn at h;split at h
  ·obtain ⟨s,q,h1,h⟩:=bind_ok h;obtain ⟨_,q2,h2,h⟩:=bind_ok h;obtain ⟨y,q3,h3,h⟩:=bind_ok h;have c1:=BH _ _ _ h1;have c2:=Ak h2;have c3:=Tq n _ _ _ _ _ _ h3;split at h
   ·cases h
   ·obtain ⟨_,q4,h4,h⟩:=bind_ok h;simp only [Res.ok.injEq] at h;obtain ⟨rfl,rfl⟩:=h;rw [AJa rfl rfl rfl];simp only [List.length_tail,List.length_nil] at c1 c3 ⊢;omega
  ·obtain ⟨_,q1,h1,h⟩:=bind_ok h;obtain ⟨_,q2,h2,h⟩:=bind_ok h;obtain ⟨_,q3,h3,h⟩:=bind_ok h;obtain ⟨_,q4,h4,h⟩:=bind_ok h;obtain ⟨_,q5,h5,h⟩:=bind_ok h;simp only [Res.ok.injEq] at h;obtain ⟨rfl,rfl⟩:=h;rw [cS0 rfl rfl rfl rfl];omega
 split at h
 ·unfold Gm at h;split at h
  ·obtain ⟨_,q1,h1,h⟩:=bind_ok h;simp only [Res.ok.injEq] at h;obtain ⟨rfl,rfl⟩:=h;rw [cS0 rfl rfl rfl rfl];omega
  ·obtain ⟨_,q1,h1,h⟩:=bind_ok h;obtain ⟨_,q2,h2,h⟩:=bind_ok h;simp only [Res.ok.injEq] at h;obtain ⟨rfl,rfl⟩:=h;rw [cS0 rfl rfl rfl rfl];omega
 split at h
 ·simp only [Res.ok.injEq] at h;obtain ⟨rfl,rfl⟩:=h;rw [cS0 rfl rfl rfl rfl];omega
 split at h
 ·simp only [Res.ok.injEq] at h;obtain ⟨rfl,rfl⟩:=h;rw [cS0 rfl rfl rfl rfl];omega
 ·obtain ⟨_,q1,h1,h⟩:=bind_ok h;simp only [Res.ok.injEq] at h;obtain ⟨rfl,rfl⟩:=h;rw [cS0 rfl rfl rfl rfl];omega
theorem LP (n:Nat):∀(m:Nat) (acc:List TStmt) (l:List Tok) (x:List TStmt) (r:List Tok),CU n m acc l= .ok x r→∀s∈x,s∈acc∨cS s≤l.length
 |0,acc,l,x,r,h,s,hs=>by simp only [CU,Res.ok.injEq] at h;obtain ⟨rfl,rfl⟩:=h;exact .inl hs
 |m+1,acc,l,x,r,h,s,hs=>by
  simp only [CU] at h;split at h
  ·simp only [Res.ok.injEq] at h;obtain ⟨rfl,rfl⟩:=h;exact .inl hs
  split at h
  ·have:=LP n m _ _ _ _ h s hs;simp only [List.length_tail] at this;exact this.imp id (fun h=>by omega)
  ·obtain ⟨s',q,h1,h2⟩:=bind_ok h;have c1:=AGH h1;split at h2
   ·rcases LP n m _ _ _ _ h2 s hs with h|h
    ·rcases List.mem_append.1 h with h|h
     ·exact .inl h
     ·rw [List.mem_singleton.1 h];exact .inr c1.2
    ·exact .inr (by omega)
   ·cases h2
theorem AGI (s:Bs):∀x∈(readA s).1,cS x≤s.length+1:=by
 unfold readA;split
 ·intro x hx;cases hx
 ·rename_i l hl
  have hc:=Je _ _ _ _ _ hl;split
  ·rename_i x r hx
   intro y hy;rcases LP _ _ _ _ _ _ hx y hy with h|h
   ·cases h
   ·simp at hc;omega
  ·intro x hx;cases hx
def APb (ω:Om):Prop:=∀(v:Value) (l:List TStmt) (K:Value→M) (I:Imm) (L:LH),RL TStmtV 51 I [] v l→BM l≤1000000000→(∀s∈l,cS s≤1000000000)→(∀I',Ext I I'→K (.int .i64 (Oe (BM l) (DW l))) I' L)→CT ω 26 #[v] K I L
theorem Pm {n:Nat}:∀{f:Nat} {acc:List Tok} {s:Bs} {e:Flt},IY n f acc s= .bad e→e.code≠0
 |0,acc,s,e,h=>by simp [IY] at h
 |f+1,acc,s,e,h=>by
  rw [Ns] at h;unfold AAS at h;split at h
  ·cases h
  ·split at h
   ·rename_i x hx
    simp only [LexA.bad.injEq] at h;subst h;exact OX hx
   ·exact Pm h
theorem OO (s:Bs):(readA s).2=ok0∨((readA s).2.code≠0∧(readA s).1=[]):=by
 unfold readA;split
 ·rename_i f hf
  exact .inr ⟨Pm hf,rfl⟩
 ·split
  ·exact .inl rfl
  ·exact .inr ⟨by simp,rfl⟩
section
variable {ω:Om}
theorem ALu {I:Imm}{L:LH}{K:Value→M}{w:Value}{xs:List TStmt}(hw:RL TStmtV 51 I [] w xs)(hk:∀a k,RL TStmtV 51 I [] (.slice a xs.length k) xs→K (.slice a xs.length k) I L):CT ω 27 #[w] K I L:=by
 refine APG ?_;unfold ALB;obtain ⟨w',h1,h2⟩:=FD hw;simp only [RL.len hw,h1,SSd,Nat.reduceAdd];obtain ⟨a,k,rfl⟩:=RL.form h2;exact Gh.done (hk a k h2)
theorem OU {G:Imm}(hTok:SV ω G)(hLim:APb ω)(s:Bs){I:Imm}{L:LH}{K:Value→M}(hG:Ext G I)
  (hok:∀I' a k,Ext I I'→RL TStmtV 51 I' [] (.slice a (Fq s).1.length k) (Fq s).1→K (.tuple #[.slice a (Fq s).1.length k,.agg #[.int .i64 (Fq s).2.code,.int .i64 (Fq s).2.at']]) I' L):
  CT ω 12 #[.string ⟨s.toArray⟩] K I L:=by
 have hparts:s.length≤65536→BM (readA s).1≤1000000000∧∀x∈(readA s).1,cS x≤1000000000:=fun h=>⟨by have:=VN s;omega,fun x hx=>by have:=AGI s x hx;omega⟩;refine APO ?_;unfold ALJ;refine AV (fun b1=>?_);try simp only [SSd,Nat.reduceAdd]
 refine AA (fun hb=>?_) (fun hb=>?_)
 ·have hb:65536 < s.length:=by
   have:=of_decide_eq_true hb;omega
  have hp:Fq s=([],⟨170,65536⟩):=by unfold Fq;rw [if_pos hb]
  rw [hp] at hok;repeat' (first|(with_reducible first|refine Ag ?_|refine Af ?_|refine Ae ?_|refine keepA ?_|refine AV (fun _=>?_)|refine rdb ?_)|((with_reducible first|refine st1 ?_ ?_|refine rdB ?_ ?_);rfl)|(with_reducible refine Ai ?_)|((with_reducible refine Az ?_ ?_);rfl)|((with_reducible refine stB ?_ ?_ ?_ ?_);rfl;rfl;exact AO rfl)|((with_reducible first|refine rdP _ rfl ?_ ?_|refine BB _ rfl ?_ ?_);rfl)|((with_reducible refine stP _ rfl ?_ ?_ ?_ ?_);rfl;rfl;rfl)|(with_reducible refine And.intro ?_ ?_)|(simp only [SSg,Int.reduceBEq,Int.reduceBNe,Int.reduceLT,Int.reduceLE,beq_self_eq_true,bne_self_eq_false])|(with_reducible first|refine AP (fun _=>?_) (fun _=>?_)|refine AA (fun _=>?_) (fun _=>?_))|(simp only [SSd,Nat.reduceAdd]))
  exact Gh.to L (Gh.done (hok I none 0 (Ext.refl _) (RL.nil none 0)))
 have hb:s.length≤65536:=by
  have:=of_decide_eq_false hb;omega
 refine call (QG hTok s (by omega) hG (fun I1 a k hI1 hw=>?_));have hcode:=OO s;generalize hr:readA s=q at hw hok hparts hcode ⊢;obtain ⟨l,f⟩:=q;have hp:Fq s=if f≠ok0 then ([],f) else if Oe (BM l) (DW l)≠0 then ([],⟨Oe (BM l) (DW l),0⟩) else (l,ok0):=by
  unfold Fq;rw [if_neg (by omega),hr]
 simp only at hw hparts hcode ⊢
 rcases hcode with rfl|⟨hc,rfl⟩
 ·rw [if_neg (by simp)] at hp;repeat' (first|(with_reducible first|refine Ag ?_|refine Af ?_|refine Ae ?_|refine keepA ?_|refine AV (fun _=>?_)|refine rdb ?_)|((with_reducible first|refine st1 ?_ ?_|refine rdB ?_ ?_);rfl)|(with_reducible refine Ai ?_)|((with_reducible refine Az ?_ ?_);rfl)|((with_reducible refine stB ?_ ?_ ?_ ?_);rfl;rfl;exact AO rfl)|((with_reducible first|refine rdP _ rfl ?_ ?_|refine BB _ rfl ?_ ?_);rfl)|((with_reducible refine stP _ rfl ?_ ?_ ?_ ?_);rfl;rfl;rfl)|(with_reducible refine And.intro ?_ ?_)|(simp only [SSg,Int.reduceBEq,Int.reduceBNe,Int.reduceLT,Int.reduceLE,beq_self_eq_true,bne_self_eq_false])|(with_reducible first|refine AP (fun _=>?_) (fun _=>?_)|refine AA (fun _=>?_) (fun _=>?_))|(simp only [SSd,Nat.reduceAdd,ok0]))
  rename_i bt
  refine call (hLim _ l _ _ _ hw (hparts hb).1 (hparts hb).2 (fun I2 hI2=>?_));by_cases h0:Oe (BM l) (DW l)=0
  ·rw [h0];rw [if_neg (by simpa using h0)] at hp;rw [hp] at hok;repeat' (first|(with_reducible first|refine Ag ?_|refine Af ?_|refine Ae ?_|refine keepA ?_|refine AV (fun _=>?_)|refine rdb ?_)|((with_reducible first|refine st1 ?_ ?_|refine rdB ?_ ?_);rfl)|(with_reducible refine Ai ?_)|((with_reducible refine Az ?_ ?_);rfl)|((with_reducible refine stB ?_ ?_ ?_ ?_);rfl;rfl;exact AO rfl)|((with_reducible first|refine rdP _ rfl ?_ ?_|refine BB _ rfl ?_ ?_);rfl)|((with_reducible refine stP _ rfl ?_ ?_ ?_ ?_);rfl;rfl;rfl)|(with_reducible first|refine BZ (sh12_1.eq_1 ..) ?_|refine And.intro ?_ ?_)|(simp only [SSg,Int.reduceBEq,Int.reduceBNe,Int.reduceLT,Int.reduceLE,beq_self_eq_true,bne_self_eq_false])|(with_reducible first|refine AP (fun _=>?_) (fun _=>?_)|refine AA (fun _=>?_) (fun _=>?_))|(simp only [SSd,Nat.reduceAdd]))
   refine call (ALu (RL.mono (fun _ _ h=>TStmtV.mono h hI2) hw hI2 (fun _ h=>h)) (fun a' k' hw'=>?_));repeat' (first|(with_reducible first|refine Ag ?_|refine Af ?_|refine Ae ?_|refine keepA ?_|refine AV (fun _=>?_)|refine rdb ?_)|((with_reducible first|refine st1 ?_ ?_|refine rdB ?_ ?_);rfl)|(with_reducible refine Ai ?_)|((with_reducible refine Az ?_ ?_);rfl)|((with_reducible refine stB ?_ ?_ ?_ ?_);rfl;rfl;exact AO rfl)|((with_reducible first|refine rdP _ rfl ?_ ?_|refine BB _ rfl ?_ ?_);rfl)|((with_reducible refine stP _ rfl ?_ ?_ ?_ ?_);rfl;rfl;rfl)|(with_reducible refine And.intro ?_ ?_)|(simp only [SSg,Int.reduceBEq,Int.reduceBNe,Int.reduceLT,Int.reduceLE,beq_self_eq_true,bne_self_eq_false])|(with_reducible first|refine AP (fun _=>?_) (fun _=>?_)|refine AA (fun _=>?_) (fun _=>?_))|(simp only [SSd,Nat.reduceAdd]))
   exact Gh.to L (Gh.done (hok I2 a' k' (Ext.trans hI1 hI2) hw'))
  ·rw [if_pos h0] at hp;rw [hp] at hok;have e2:(Oe (BM l) (DW l) != 0)=true:=by simpa using h0
   repeat' (first|(with_reducible first|refine Ag ?_|refine Af ?_|refine Ae ?_|refine keepA ?_|refine AV (fun _=>?_)|refine rdb ?_)|((with_reducible first|refine st1 ?_ ?_|refine rdB ?_ ?_);rfl)|(with_reducible refine Ai ?_)|((with_reducible refine Az ?_ ?_);rfl)|((with_reducible refine stB ?_ ?_ ?_ ?_);rfl;rfl;exact AO rfl)|((with_reducible first|refine rdP _ rfl ?_ ?_|refine BB _ rfl ?_ ?_);rfl)|((with_reducible refine stP _ rfl ?_ ?_ ?_ ?_);rfl;rfl;rfl)|(with_reducible first|refine BZ (sh12_1.eq_1 ..) ?_|refine And.intro ?_ ?_)|(simp only [SSg,Int.reduceBEq,Int.reduceBNe,Int.reduceLT,Int.reduceLE,beq_self_eq_true,bne_self_eq_false])|(with_reducible first|refine AP (fun _=>?_) (fun _=>?_)|refine AA (fun _=>?_) (fun _=>?_))|(simp only [SSd,Nat.reduceAdd,e2]))
   exact Gh.to L (Gh.done (hok I2 none 0 (Ext.trans hI1 hI2) (RL.nil none 0)))
 ·rw [if_pos (by rintro rfl;exact hc rfl)] at hp;rw [hp] at hok;have e1:(f.code==0)=false:=by simpa using hc
  have e2:(f.code != 0)=true:=by simpa using hc
  repeat' (first|(with_reducible first|refine Ag ?_|refine Af ?_|refine Ae ?_|refine keepA ?_|refine AV (fun _=>?_)|refine rdb ?_)|((with_reducible first|refine st1 ?_ ?_|refine rdB ?_ ?_);rfl)|(with_reducible refine Ai ?_)|((with_reducible refine Az ?_ ?_);rfl)|((with_reducible refine stB ?_ ?_ ?_ ?_);rfl;rfl;exact AO rfl)|((with_reducible first|refine rdP _ rfl ?_ ?_|refine BB _ rfl ?_ ?_);rfl)|((with_reducible refine stP _ rfl ?_ ?_ ?_ ?_);rfl;rfl;rfl)|(with_reducible first|refine BZ (sh12_1.eq_1 ..) ?_|refine And.intro ?_ ?_)|(simp only [SSg,Int.reduceBEq,Int.reduceBNe,Int.reduceLT,Int.reduceLE,beq_self_eq_true,bne_self_eq_false])|(with_reducible first|refine AP (fun _=>?_) (fun _=>?_)|refine AA (fun _=>?_) (fun _=>?_))|(simp only [SSd,Nat.reduceAdd,e1,e2]))
  exact Gh.to L (Gh.done (hok I1 none 0 hI1 (RL.nil none 0)))
end
section
variable {P:Program}{ω:Om}{K:Value→M}{I:Imm}{L:LH}
theorem GR {f:FuncId}{args cap:Array Value}(he:Bq P f=true)(h:Cal P ω f (args++cap) K I L):CalV P ω (.func (.func f) #[] cap) args K I L:=by
 unfold CalV;simp only [he,if_true];simpa using h
end
theorem CalV.to {P:Program}{ω:Om}{K:Value→M}{I:Imm}{L:LH}{x:Value}{args:Array Value}(L':LH)[hs:SubP L' L](h:CalV P ω x args K I L'):CalV P ω x args K I L:=by
 have key:∀w,St ω w I L→St ω w I L':=fun w hw=>by
  obtain ⟨R,hR⟩:=hs.sub;exact (hw.perm hR).drop (List.sublist_append_left L' R)
 match x,h with
 | .func (.func f) first cap,h=>
  simp only [CalV] at h ⊢;by_cases he:Bq P f=true
  ·rw [if_pos he] at h ⊢;exact fun w hw=>h w (key w hw)
  ·rw [if_neg he] at h ⊢;cases hx:Ot P f with
   |none=>rw [hx] at h;exact h.elim
   |some e=>
    rw [hx] at h;exact fun w hw=>h w (key w hw)
 | .func (.yield l) first cap,h=>exact fun w hw=>h w (key w hw)
abbrev DF (n:Int):Obj:=.cells [.int .i64 n].toArray 3 (0,0)
abbrev doV (b1 b2:Nat):Value:=.func (.func 105) #[] #[AX b1,AX b2]
abbrev doO (b1 b2:Nat):Obj:=.cells [doV b1 b2].toArray 156 (0,0)
abbrev inV (bd bi:Nat):Value:=.func (.func 158) #[] #[AX bd,AX bi]
abbrev inO (bd bi:Nat):Obj:=.cells [inV bd bi].toArray 156 (0,0)
def mxI (a b:Int):Int:=if b > a then b else a
theorem ALZ (a b:Int):mxI a b=max a b:=by unfold mxI;omega
section
variable {ω:Om}{K:Value→M}{I:Imm}{F:LH}
theorem AJR {b1 b2:Nat}{p d n:Int}{c:List Value}(hc:c.length=11)(hp:0≤p∧p≤1000000000000000000)(hk:K (.tuple #[]) I ((b1,DF (p+1))::(b2,DF (max d n))::F)):
  CW ω (doV b1 b2) #[.agg c.toArray,.int .i64 n] K I ((b1,DF p)::(b2,DF d)::F):=by
 refine GR (by kernel_rfl) ?_;refine ANo ?_;show Xh ω (.agg c.toArray) (.int .i64 n) (AX b1) (AX b2) _ I _;unfold Xh;refine AV (fun b=>?_);rw [←ALZ] at hk;unfold mxI at hk;repeat' (first|(with_reducible first|refine Ag ?_|refine Af ?_|refine Ae ?_|refine keepA ?_|refine AV (fun _=>?_)|refine rdb ?_)|((with_reducible first|refine st1 ?_ ?_|refine rdB ?_ ?_);rfl)|(with_reducible refine Ai ?_)|((with_reducible refine Az ?_ ?_);rfl)|((with_reducible refine stB ?_ ?_ ?_ ?_);rfl;rfl;exact AO rfl)|((with_reducible first|refine rdP _ rfl ?_ ?_|refine BB _ rfl ?_ ?_);rfl)|((with_reducible refine stP _ rfl ?_ ?_ ?_ ?_);rfl;rfl;rfl)|(with_reducible refine And.intro ?_ ?_)|(simp only [SSg,Int.reduceBEq,Int.reduceBNe,Int.reduceLT,Int.reduceLE,beq_self_eq_true,bne_self_eq_false])|(with_reducible first|refine AP (fun _=>?_) (fun _=>?_)|refine AA (fun _=>?_) (fun _=>?_))|(simp only [SSd,Nat.reduceAdd,wrap_i64 (p+1) (by omega)]))
 exact Gh.to _ (Gh.done hk)
theorem Tj {l:List Ex}{k:Nat}(h:k < l.length):Ah (l.take (k+1))=Ah (l.take k)+Aw l[k]:=by
 rw [List.take_succ_eq_append_getElem h,Cc];simp [Ah]
theorem Eo:∀a b:List Ex,BR (a++b)=max (BR a) (BR b)
 |[],b=>by simp [BR]
 |x::a,b=>by simp only [List.cons_append,BR,Eo a b];omega
theorem Vg {l:List Ex}{k:Nat}(h:k < l.length):BR (l.take (k+1))=max (BR (l.take k)) (Cm l[k]):=by
 rw [List.take_succ_eq_append_getElem h,Eo];simp [BR]
theorem He (x:Ex):1≤Cm x:=by cases x;simp [Cm]
theorem QI (x:Ex):1≤Aw x:=by cases x;simp [Aw]
theorem QJ {x:Ex}:∀{l:List Ex},x∈l→Aw x≤Ah l
 |y::l,h=>by
  rcases List.mem_cons.1 h with rfl|h
  ·simp only [Ah];omega
  ·have:=QJ h;simp only [Ah];omega
mutual
theorem PD:∀x:Ex,Cm x≤Aw x
 | .mk _ _ _ _ _ _ _ l=>by simp only [Cm,Aw];have:=Lr l;omega
theorem Lr:∀l:List Ex,BR l≤Ah l
 |[]=>by simp [BR]
 |x::l=>by simp only [BR,Ah];have:=PD x;have:=Lr l;omega
end
theorem VO (x:Ex):Aw x=Ah x.args+1:=by cases x;rfl
theorem EO (x:Ex):Cm x=BR x.args+1:=by cases x;rfl
theorem YH {b1 b2 bd bi:Nat}:∀(m:Nat) (x:Ex),Aw x≤m→∀(p d n:Int) (c:List Value) (K:Value→M) (I:Imm) (F:LH),ExV I x c→0≤p→p+Aw x≤1000000000000000000→0≤n→n+Cm x≤1000000000000000000→
  K (.tuple #[]) I ((b1,DF (p+Aw x))::(b2,DF (max d (n+Cm x - 1)))::(bd,doO b1 b2)::(bi,inO bd bi)::F)→
  CW ω (inV bd bi) #[.agg c.toArray,.int .i64 n] K I ((b1,DF p)::(b2,DF d)::(bd,doO b1 b2)::(bi,inO bd bi)::F)
 |0,x,hm,_,_,_,_,_,_,_,_,_,_,_,_,_=>by have:=QI x;omega
 |m+1,x,hm,p,d,n,c,K,I,F,hx,hp,hpx,hn,hnx,hk=>by
  refine GR (by kernel_rfl) ?_;refine ANA ?_;show XG ω (.agg c.toArray) (.int .i64 n) (AX bd) (AX bi) _ I _;have hcl:=hx.len;obtain ⟨v,rfl,ha⟩:=ExV.iff.1 hx;unfold XG;refine AV (fun b=>?_);try simp only [SSd,Nat.reduceAdd]
  refine rdb ?_;refine rdB rfl ?_;refine EP ?_;refine CalV.to ((b1,DF p)::(b2,DF d)::(b,.cells (BG x v).toArray 37 (0,0))::(bd,doO b1 b2)::(bi,inO bd bi)::F) ?_;refine AJR hcl ⟨hp,by omega⟩ ?_;try simp only [SSd,Nat.reduceAdd]
  refine rdb ?_;simp only [RL.len ha,SSd,Nat.reduceAdd];have h1:=VO x;have h2:=EO x;refine loop (fun q s I' L'=>∃k:Nat,k+q=x.args.length∧s=(.int .i64 k,())∧I'=I∧L'=(b1,DF (p+1+Ah (x.args.take k)))::(b2,DF (max (max d n) (n+BR (x.args.take k))))::(b,.cells (BG x v).toArray 37 (0,0))::(bd,doO b1 b2)::(bi,inO bd bi)::F) x.args.length ⟨0,by omega,rfl,rfl,by rw [show p+1+((Ah (x.args.take 0):Nat):Int)=p+1 by simp [Ah],show max (max d n) (n+((BR (x.args.take 0):Nat):Int))=max d n by simp only [List.take_zero,BR];omega]⟩ ?_;rintro q s I' L' ⟨k,hkq,rfl,rfl,rfl⟩;unfold XF;try simp only [SSd,Nat.reduceAdd]
  have hle:x.args.length≤Ah x.args:=by
   generalize x.args=l;induction l with
   |nil=>simp
   |cons y l ih=>have:=QI y;simp only [Ah,List.length_cons];omega
  refine AA (fun hb=>?_) (fun hb=>?_)
  ·have hb:k < x.args.length:=by
    have:=of_decide_eq_true hb;omega
   obtain ⟨bt,off,c1,g1,gl,g2,g3⟩:=RL.ix ha (i:=k) (by omega) (by omega);rw [BA hb] at g2;have hcl1:=ExV.len g2;have hm1:=QJ (List.getElem_mem hb);have hone:=ExV.one g2;simp only [g1,SSd,Nat.reduceAdd];refine Dq (g3 _ [] (Ext.refl _) (fun _ h=>h)) (Ext.refl _) hcl1 ?_;refine AV (fun b3=>?_);refine stB hcl1 rfl hone ?_;refine rdb ?_;refine rdB hcl1 ?_;simp only [wrap_i64 (n+1) (by omega),SSd,Nat.reduceAdd];refine EP ?_;refine CalV.to ((b1,DF (p+1+Ah (x.args.take k)))::(b2,DF (max (max d n) (n+BR (x.args.take k))))::(bd,doO b1 b2)::(bi,inO bd bi)::(b3,.cells c1.toArray 37 (0,0))::(b,.cells (BG x v).toArray 37 (0,0))::F) ?_;have htk:=Tj hb;have htd:=Vg hb;have hts:Ah (x.args.take (k+1))≤Ah x.args:=by
    have h:=Cc (x.args.take (k+1)) (x.args.drop (k+1));rw [List.take_append_drop] at h;omega
   have hdl:Cm x.args[k]≤BR x.args:=by
    have h:=Eo (x.args.take (k+1)) (x.args.drop (k+1));rw [List.take_append_drop] at h;omega
   refine YH m x.args[k] (by omega) _ _ (n+1) c1 _ _ _ g2 (by omega) (by omega) (by omega) (by omega) ?_;simp only [wrap_i64 ((k:Int)+1) (by omega),SSd,Nat.reduceAdd];rw [←show p+1+(Ah (x.args.take (k+1)):Int)=p+1+Ah (x.args.take k)+Aw x.args[k] by omega,←show max (max d n) (n+(BR (x.args.take (k+1)):Int))=max (max (max d n) (n+BR (x.args.take k))) (n+1+Cm x.args[k] - 1) by omega];refine Gh.to ((b1,DF (p+1+Ah (x.args.take (k+1))))::(b2,DF (max (max d n) (n+BR (x.args.take (k+1)))))::(b,.cells (BG x v).toArray 37 (0,0))::(bd,doO b1 b2)::(bi,inO bd bi)::F) ?_;exact Gh.done ⟨q - 1,by omega,k+1,by omega,rfl,rfl,rfl⟩
  ·have hb:¬k < x.args.length:=by
    have:=of_decide_eq_false hb;omega
   have hkl:x.args.take k=x.args:=List.take_of_length_le (by omega);rw [hkl];rw [←show p+(Aw x:Int)=p+1+Ah x.args by omega,←show max d (n+(Cm x:Int) - 1)=max (max d n) (n+BR x.args) by omega];exact Gh.to ((b1,DF (p+Aw x))::(b2,DF (max d (n+Cm x - 1)))::(bd,doO b1 b2)::(bi,inO bd bi)::F) (Gh.done hk)
end
def GL (I:Imm)(X:LH)(v:Value)(xs:List Ex):Prop:=∃cells,GrO I 37 11 X v cells xs.length∧Recs (ExV I) 11 xs cells
theorem GL.mono {I I':Imm}{X:LH}{v:Value}{xs:List Ex}(h:GL I X v xs)(hI:Ext I I'):GL I' X v xs:=by
 obtain ⟨cells,h1,h2⟩:=h;exact ⟨cells,h1.mono hI,Recs.imp (fun _ _ h=>ExV.mono hI h) h2⟩
theorem GL.rl {I:Imm}{X L:LH}{v:Value}{xs:List Ex}(h:GL I X v xs)(hL:∀x∈X,x∈L):RL ExV 11 I L v xs:=by
 obtain ⟨cells,h1,h2⟩:=h;obtain ⟨a,k,rfl,hle⟩:=h1.form;exact ⟨a,k,cells,rfl,hle,h1.news hL,h2⟩
section
variable {ω:Om}{K:Value→M}{I:Imm}{F:LH}
instance splitNil (L:LH):SplitL [] L L:=⟨List.Perm.refl _⟩
theorem Fz {X L:LH}[SplitL X L F]{z:Array Value}{xs ys:List Ex}{s x:Value}(hz:z.size=11)(hG:GL I X s xs)(hy:ExL I x ys)(hb:xs.length+ys.length≤1000000000000)(hk:∀X' v',GL I X' v' (xs++ys)→K v' I (X'++F)):
  App 37 11 128 z s x (gh K) I L:=by
 obtain ⟨cells,h1,h2⟩:=hG;obtain ⟨c,s4,r4⟩:=RL.toI (by decide) hy;refine ANx (X:=X) hz h1 s4.news (Recs.one_cells (fun _ _ h=>ExV.one h) r4) (by omega) (by omega) (fun X' v' h=>hk X' v' ⟨_,by rw [List.length_append];exact h,Recs.append h2 r4⟩)
theorem PT {z:Array Value}{x:Ex}{c:List Value}(hx:ExV I x c)(hk:∀I' a,Ext I I'→ExL I' (.slice a 1 1) [x]→Gh (K (.slice a 1 1)) I' F):Ad 37 11 z 1 [(0,.agg c.toArray)] (gh K) I F:=
 Du (R:=ExV) [x] [c] rfl rfl rfl (by simp [hx.len]) (by simpa using hx) (fun hI h=>ExV.mono hI h) hk
theorem ALl {X:LH}{vs w:Value}{p2 p4:Value}{ys:List TItem}{xs:List Ex}(hy:RL TItemV 14 I [] vs ys)(hG:GL I X w xs)(hb:xs.length+ys.length≤1000000000000)
  (hk:∀I' X' w',Ext I I'→GL I' X' w' (xs++ys.map fun y=>y.fExpr)→RV ω p2 p4 w' K I' (X'++F)):
  BD ((w,.int .i64 0,()):Value×Value×Unit) (fun s Kn=>RX ω p2 p4 vs (.int .i64 ys.length) s.1 s.2.1 Kn K) I (X++F):=by
 refine loop (fun q st I' L'=>∃k X' v',k+q=ys.length∧st=(v',.int .i64 (k:Nat),())∧Ext I I'∧GL I' X' v' (xs++(ys.take k).map fun y=>y.fExpr)∧L'=X'++F) ys.length ⟨0,X,w,by omega,rfl,Ext.refl _,by simpa using hG,rfl⟩ ?_;rintro q st I' L' ⟨k,X',v',hkq,rfl,hI',hG',rfl⟩;unfold RX;try simp only [SSd,Nat.reduceAdd]
 refine AA (fun hb=>?_) (fun hb=>?_)
 ·have hb:k < ys.length:=by
   have:=of_decide_eq_true hb;omega
  obtain ⟨bt,off,c1,g1,gl,g2,g3⟩:=RL.ix hy (i:=k) (by omega) (by omega);rw [BA hb] at g2;obtain ⟨v0,rfl,h0⟩:=g2.mono hI';simp only [g1,SSd,Nat.reduceAdd];refine Dq (g3 _ [] hI' (fun _ h=>h)) (Ext.refl _) rfl ?_;refine AV (fun b3=>?_);obtain ⟨a0,k0,rfl⟩:=RL.form h0;refine stB rfl rfl (AO rfl) ?_;try simp only [SSd,Nat.reduceAdd]
  refine rdP _ rfl rfl ?_;refine PT (x:=ys[k].fExpr) (ExV.iff.2 ⟨_,rfl,h0⟩) (fun I2 a2 hI2 hw2=>Gh.done ?_);refine Fz (X:=X') rfl (hG'.mono hI2) hw2 (by simp;omega) (fun X3 w3 hG3=>?_);simp only [wrap_i64 ((k:Int)+1) (by omega),SSd,Nat.reduceAdd];refine Gh.to (X3++F) (Gh.done ⟨q - 1,by omega,k+1,X3,w3,by omega,rfl,Ext.trans hI' hI2,?_,rfl⟩);rw [List.take_succ_eq_append_getElem hb,List.map_append,←List.append_assoc];exact hG3
 ·have hb:¬k < ys.length:=by
   have:=of_decide_eq_false hb;omega
  rw [List.take_of_length_le (by omega)] at hG';exact hk I' X' v' hI' hG'
theorem ALk {X:LH}{vs w:Value}{p2 p4:Value}{ys:List TSource}{xs:List Ex}(hy:RL TSourceV 14 I [] vs ys)(hG:GL I X w xs)(hb:xs.length+ys.length≤1000000000000)
  (hk:∀I' X' w',Ext I I'→GL I' X' w' (xs++ys.map fun y=>y.fOn)→RS ω p2 p4 w' K I' (X'++F)):
  BD ((w,.int .i64 0,()):Value×Value×Unit) (fun s Kn=>RU ω p2 p4 vs (.int .i64 ys.length) s.1 s.2.1 Kn K) I (X++F):=by
 refine loop (fun q st I' L'=>∃k X' v',k+q=ys.length∧st=(v',.int .i64 (k:Nat),())∧Ext I I'∧GL I' X' v' (xs++(ys.take k).map fun y=>y.fOn)∧L'=X'++F) ys.length ⟨0,X,w,by omega,rfl,Ext.refl _,by simpa using hG,rfl⟩ ?_;rintro q st I' L' ⟨k,X',v',hkq,rfl,hI',hG',rfl⟩;unfold RU;try simp only [SSd,Nat.reduceAdd]
 refine AA (fun hb=>?_) (fun hb=>?_)
 ·have hb:k < ys.length:=by
   have:=of_decide_eq_true hb;omega
  obtain ⟨bt,off,c1,g1,gl,g2,g3⟩:=RL.ix hy (i:=k) (by omega) (by omega);rw [BA hb] at g2;obtain ⟨v0,rfl,h0⟩:=g2.mono hI';simp only [g1,SSd,Nat.reduceAdd];refine Dq (g3 _ [] hI' (fun _ h=>h)) (Ext.refl _) rfl ?_;refine AV (fun b3=>?_);obtain ⟨a0,k0,rfl⟩:=RL.form h0;refine stB rfl rfl (AO rfl) ?_;try simp only [SSd,Nat.reduceAdd]
  refine rdP _ rfl rfl ?_;refine PT (x:=ys[k].fOn) (ExV.iff.2 ⟨_,rfl,h0⟩) (fun I2 a2 hI2 hw2=>Gh.done ?_);refine Fz (X:=X') rfl (hG'.mono hI2) hw2 (by simp;omega) (fun X3 w3 hG3=>?_);simp only [wrap_i64 ((k:Int)+1) (by omega),SSd,Nat.reduceAdd];refine Gh.to (X3++F) (Gh.done ⟨q - 1,by omega,k+1,X3,w3,by omega,rfl,Ext.trans hI' hI2,?_,rfl⟩);rw [List.take_succ_eq_append_getElem hb,List.map_append,←List.append_assoc];exact hG3
 ·have hb:¬k < ys.length:=by
   have:=of_decide_eq_false hb;omega
  rw [List.take_of_length_le (by omega)] at hG';exact hk I' X' v' hI' hG'
theorem ALj {X:LH}{vs w:Value}{p2 p4:Value}{ys:List TOrder}{xs:List Ex}(hy:RL TOrderV 12 I [] vs ys)(hG:GL I X w xs)(hb:xs.length+ys.length≤1000000000000)
  (hk:∀I' X' w',Ext I I'→GL I' X' w' (xs++ys.map fun y=>y.fExpr)→RP ω p2 p4 w' K I' (X'++F)):
  BD ((w,.int .i64 0,()):Value×Value×Unit) (fun s Kn=>RQ ω p2 p4 vs (.int .i64 ys.length) s.1 s.2.1 Kn K) I (X++F):=by
 refine loop (fun q st I' L'=>∃k X' v',k+q=ys.length∧st=(v',.int .i64 (k:Nat),())∧Ext I I'∧GL I' X' v' (xs++(ys.take k).map fun y=>y.fExpr)∧L'=X'++F) ys.length ⟨0,X,w,by omega,rfl,Ext.refl _,by simpa using hG,rfl⟩ ?_;rintro q st I' L' ⟨k,X',v',hkq,rfl,hI',hG',rfl⟩;unfold RQ;try simp only [SSd,Nat.reduceAdd]
 refine AA (fun hb=>?_) (fun hb=>?_)
 ·have hb:k < ys.length:=by
   have:=of_decide_eq_true hb;omega
  obtain ⟨bt,off,c1,g1,gl,g2,g3⟩:=RL.ix hy (i:=k) (by omega) (by omega);rw [BA hb] at g2;obtain ⟨v0,rfl,h0⟩:=g2.mono hI';simp only [g1,SSd,Nat.reduceAdd];refine Dq (g3 _ [] hI' (fun _ h=>h)) (Ext.refl _) rfl ?_;refine AV (fun b3=>?_);obtain ⟨a0,k0,rfl⟩:=RL.form h0;refine stB rfl rfl (AO rfl) ?_;try simp only [SSd,Nat.reduceAdd]
  refine rdP _ rfl rfl ?_;refine PT (x:=ys[k].fExpr) (ExV.iff.2 ⟨_,rfl,h0⟩) (fun I2 a2 hI2 hw2=>Gh.done ?_);refine Fz (X:=X') rfl (hG'.mono hI2) hw2 (by simp;omega) (fun X3 w3 hG3=>?_);simp only [wrap_i64 ((k:Int)+1) (by omega),SSd,Nat.reduceAdd];refine Gh.to (X3++F) (Gh.done ⟨q - 1,by omega,k+1,X3,w3,by omega,rfl,Ext.trans hI' hI2,?_,rfl⟩);rw [List.take_succ_eq_append_getElem hb,List.map_append,←List.append_assoc];exact hG3
 ·have hb:¬k < ys.length:=by
   have:=of_decide_eq_false hb;omega
  rw [List.take_of_length_le (by omega)] at hG';exact hk I' X' v' hI' hG'
theorem AJP {X:LH}{vs w:Value}{p2 p4:Value}{ys:List TSet}{xs:List Ex}(hy:RL TSetV 12 I [] vs ys)(hG:GL I X w xs)(hb:xs.length+ys.length≤1000000000000)
  (hk:∀I' X' w',Ext I I'→GL I' X' w' (xs++ys.map fun y=>y.fExpr)→OB ω p2 p4 w' K I' (X'++F)):
  BD ((w,.int .i64 0,()):Value×Value×Unit) (fun s Kn=>OC ω p2 p4 vs (.int .i64 ys.length) s.1 s.2.1 Kn K) I (X++F):=by
 refine loop (fun q st I' L'=>∃k X' v',k+q=ys.length∧st=(v',.int .i64 (k:Nat),())∧Ext I I'∧GL I' X' v' (xs++(ys.take k).map fun y=>y.fExpr)∧L'=X'++F) ys.length ⟨0,X,w,by omega,rfl,Ext.refl _,by simpa using hG,rfl⟩ ?_;rintro q st I' L' ⟨k,X',v',hkq,rfl,hI',hG',rfl⟩;unfold OC;try simp only [SSd,Nat.reduceAdd]
 refine AA (fun hb=>?_) (fun hb=>?_)
 ·have hb:k < ys.length:=by
   have:=of_decide_eq_true hb;omega
  obtain ⟨bt,off,c1,g1,gl,g2,g3⟩:=RL.ix hy (i:=k) (by omega) (by omega);rw [BA hb] at g2;obtain ⟨v0,rfl,h0⟩:=g2.mono hI';simp only [g1,SSd,Nat.reduceAdd];refine Dq (g3 _ [] hI' (fun _ h=>h)) (Ext.refl _) rfl ?_;refine AV (fun b3=>?_);obtain ⟨a0,k0,rfl⟩:=RL.form h0;refine stB rfl rfl (AO rfl) ?_;try simp only [SSd,Nat.reduceAdd]
  refine rdP _ rfl rfl ?_;refine PT (x:=ys[k].fExpr) (ExV.iff.2 ⟨_,rfl,h0⟩) (fun I2 a2 hI2 hw2=>Gh.done ?_);refine Fz (X:=X') rfl (hG'.mono hI2) hw2 (by simp;omega) (fun X3 w3 hG3=>?_);simp only [wrap_i64 ((k:Int)+1) (by omega),SSd,Nat.reduceAdd];refine Gh.to (X3++F) (Gh.done ⟨q - 1,by omega,k+1,X3,w3,by omega,rfl,Ext.trans hI' hI2,?_,rfl⟩);rw [List.take_succ_eq_append_getElem hb,List.map_append,←List.append_assoc];exact hG3
 ·have hb:¬k < ys.length:=by
   have:=of_decide_eq_false hb;omega
  rw [List.take_of_length_le (by omega)] at hG';exact hk I' X' v' hI' hG'
theorem AJO {X:LH}{vs w:Value}{p4:Value}{ys:List TCol}{xs:List Ex}(hy:RL TColV 16 I [] vs ys)(hG:GL I X w xs)(hb:xs.length+ys.length≤1000000000000)
  (hk:∀I' X' w',Ext I I'→GL I' X' w' (xs++ys.map fun y=>y.fDefault)→KJ ω p4 w' K I' (X'++F)):
  BD ((w,.int .i64 0,()):Value×Value×Unit) (fun s Kn=>OA ω p4 vs (.int .i64 ys.length) s.1 s.2.1 Kn K) I (X++F):=by
 refine loop (fun q st I' L'=>∃k X' v',k+q=ys.length∧st=(v',.int .i64 (k:Nat),())∧Ext I I'∧GL I' X' v' (xs++(ys.take k).map fun y=>y.fDefault)∧L'=X'++F) ys.length ⟨0,X,w,by omega,rfl,Ext.refl _,by simpa using hG,rfl⟩ ?_;rintro q st I' L' ⟨k,X',v',hkq,rfl,hI',hG',rfl⟩;unfold OA;try simp only [SSd,Nat.reduceAdd]
 refine AA (fun hb=>?_) (fun hb=>?_)
 ·have hb:k < ys.length:=by
   have:=of_decide_eq_true hb;omega
  obtain ⟨bt,off,c1,g1,gl,g2,g3⟩:=RL.ix hy (i:=k) (by omega) (by omega);rw [BA hb] at g2;obtain ⟨v0,rfl,h0⟩:=g2.mono hI';simp only [g1,SSd,Nat.reduceAdd];refine Dq (g3 _ [] hI' (fun _ h=>h)) (Ext.refl _) rfl ?_;refine AV (fun b3=>?_);obtain ⟨a0,k0,rfl⟩:=RL.form h0;refine stB rfl rfl (AO rfl) ?_;try simp only [SSd,Nat.reduceAdd]
  refine rdP _ rfl rfl ?_;refine PT (x:=ys[k].fDefault) (ExV.iff.2 ⟨_,rfl,h0⟩) (fun I2 a2 hI2 hw2=>Gh.done ?_);refine Fz (X:=X') rfl (hG'.mono hI2) hw2 (by simp;omega) (fun X3 w3 hG3=>?_);simp only [wrap_i64 ((k:Int)+1) (by omega),SSd,Nat.reduceAdd];refine Gh.to (X3++F) (Gh.done ⟨q - 1,by omega,k+1,X3,w3,by omega,rfl,Ext.trans hI' hI2,?_,rfl⟩);rw [List.take_succ_eq_append_getElem hb,List.map_append,←List.append_assoc];exact hG3
 ·have hb:¬k < ys.length:=by
   have:=of_decide_eq_false hb;omega
  rw [List.take_of_length_le (by omega)] at hG';exact hk I' X' v' hI' hG'
theorem AJQ {X:LH}{vs w:Value}{p2 p4:Value}{ys:List (List Ex)}{xs:List Ex}(hy:RL (FU ExV 11) 1 I [] vs ys)(hyl:ys.length≤1000000000000)(hG:GL I X w xs)(hb:xs.length+ys.flatten.length≤1000000000000)
  (hk:∀I' X' w',Ext I I'→GL I' X' w' (xs++ys.flatten)→OD ω p2 p4 w' K I' (X'++F)):
  BD ((w,.int .i64 0,()):Value×Value×Unit) (fun s Kn=>OE ω p2 p4 vs (.int .i64 ys.length) s.1 s.2.1 Kn K) I (X++F):=by
 refine loop (fun q st I' L'=>∃k X' v',k+q=ys.length∧st=(v',.int .i64 (k:Nat),())∧Ext I I'∧GL I' X' v' (xs++(ys.take k).flatten)∧L'=X'++F) ys.length ⟨0,X,w,by omega,rfl,Ext.refl _,by simpa using hG,rfl⟩ ?_;rintro q st I' L' ⟨k,X',v',hkq,rfl,hI',hG',rfl⟩;unfold OE;try simp only [SSd,Nat.reduceAdd]
 refine AA (fun hb=>?_) (fun hb=>?_)
 ·have hb:k < ys.length:=by
   have:=of_decide_eq_true hb;omega
  obtain ⟨bt,off,c1,g1,gl,g2,g3⟩:=RL.ix hy (i:=k) (by omega) (by omega);rw [BA hb] at g2;obtain ⟨v0,rfl,h0⟩:=LstX.mono g2 hI';simp only [g1,SSd,Nat.reduceAdd];refine rdC (g3 _ [] hI' (fun _ h=>h) 0 _ rfl) (Ext.refl _) ?_;have hfl:(ys.take (k+1)).flatten=(ys.take k).flatten++ys[k]:=by rw [List.take_succ_eq_append_getElem hb,List.flatten_append];simp only [List.flatten_cons,List.flatten_nil,List.append_nil]
  have hle:(ys.take (k+1)).flatten.length≤ys.flatten.length:=by
   have h:ys.flatten=(ys.take (k+1)).flatten++(ys.drop (k+1)).flatten:=by rw [←List.flatten_append,List.take_append_drop]
   rw [h,List.length_append];omega
  rw [hfl,List.length_append] at hle;refine Fz (X:=X') rfl hG' h0 (by simp only [List.length_append];omega) (fun X3 w3 hG3=>?_);simp only [wrap_i64 ((k:Int)+1) (by omega),SSd,Nat.reduceAdd];refine Gh.to (X3++F) (Gh.done ⟨q - 1,by omega,k+1,X3,w3,by omega,rfl,hI',?_,rfl⟩);rw [hfl,←List.append_assoc];exact hG3
 ·have hb:¬k < ys.length:=by
   have:=of_decide_eq_false hb;omega
  rw [List.take_of_length_le (by omega)] at hG';exact hk I' X' v' hI' hG'
def Bv (x:Ex):Bool:=x.kind != 0
def AHH (s:TStmt):List Ex:=[s.fWhere,s.fSelect.fWhere,s.fSelect.fHaving]++s.fSelect.fGroup++s.fSelect.fItems.map (fun y=>y.fExpr)++s.fSelect.fFrom.map (fun y=>y.fOn)++s.fSelect.fOrder.map (fun y=>y.fExpr)++s.fRows.flatten++s.fSets.map (fun y=>y.fExpr)++s.fCols.map (fun y=>y.fDefault)
theorem Vx (s:TStmt):Ah ((AHH s).filter Bv)=Ah (FI s)∧BR ((AHH s).filter Bv)=BR (FI s):=by
 have e:∀l:List Ex,l.filter (fun x=>x.kind != 0)=l.filter Bv:=fun l=>rfl;have c:∀(x:Ex) (l:List Ex),x::l=[x]++l:=fun _ _=>rfl;simp only [FI,e,AHH];rw [c s.fWhere,c s.fSelect.fWhere [s.fSelect.fHaving],c s.fSelect.fWhere [_,_],c s.fSelect.fHaving [_]];simp only [List.filter_append,Cc,Eo];constructor
 ·omega
 ·ac_rfl
theorem AJN {X:LH}{y:Nat×Obj}{b1 b2 bd bi:Nat}{w:Value}{xs:List Ex}{p d:Int}(hG:GL I X w xs)(hp:0≤p)(hd:0≤d)(hpx:p+Ah (xs.filter Bv)≤100000000000000000)(hlen:xs.length≤1000000000000)
  (hk:Gh (K (.tuple #[])) I ((b1,DF (p+Ah (xs.filter Bv)))::(b2,DF (max d (BR (xs.filter Bv))))::F)):
  KJ ω (AX bi) w (fun v=>Gh (K v)) I (X++((bi,inO bd bi)::(bd,doO b1 b2)::y::(b1,DF p)::(b2,DF d)::F)):=by
 unfold KJ;have hR:RL ExV 11 I X w xs:=hG.rl (fun _ h=>h);simp only [RL.len hR,SSd,Nat.reduceAdd];refine loop (fun q s I' L'=>∃k:Nat,k+q=xs.length∧s=(.int .i64 k,())∧I'=I∧L'=X++((bi,inO bd bi)::(bd,doO b1 b2)::y::(b1,DF (p+Ah ((xs.take k).filter Bv)))::(b2,DF (max d (BR ((xs.take k).filter Bv))))::F)) xs.length ⟨0,by omega,rfl,rfl,by
  rw [show p+((Ah ((xs.take 0).filter Bv):Nat):Int)=p by simp [Ah],show max d ((BR ((xs.take 0).filter Bv):Nat):Int)=d by simp only [List.take_zero,List.filter_nil,BR];omega]⟩ ?_
 rintro q s I' L' ⟨k,hkq,rfl,rfl,rfl⟩;unfold TM;try simp only [SSd,Nat.reduceAdd]
 refine AA (fun hb=>?_) (fun hb=>?_)
 ·have hb:k < xs.length:=by
   have:=of_decide_eq_true hb;omega
  obtain ⟨bt,off,c1,g1,gl,g2,g3⟩:=RL.ix hR (i:=k) (by omega) (by omega);rw [BA hb] at g2;have hts:=List.take_succ_eq_append_getElem hb;have hple:Ah ((xs.take (k+1)).filter Bv)≤Ah (xs.filter Bv):=by
   have h:xs.filter Bv=(xs.take (k+1)).filter Bv++(xs.drop (k+1)).filter Bv:=by rw [←List.filter_append,List.take_append_drop]
   rw [h,Cc];omega
  have hstep:∀{Y:LH},SubP (X++((bi,inO bd bi)::(bd,doO b1 b2)::y::(b1,DF (p+Ah ((xs.take (k+1)).filter Bv)))::(b2,DF (max d (BR ((xs.take (k+1)).filter Bv))))::F)) Y→KI ω (.int .i64 k) (fun s'=>Gh fun I2 L2=>∃m',m' < q∧∃k:Nat,k+m'=xs.length∧s'=(.int .i64 k,())∧I2=I'∧L2=X++((bi,inO bd bi)::(bd,doO b1 b2)::y::(b1,DF (p+Ah ((xs.take k).filter Bv)))::(b2,DF (max d (BR ((xs.take k).filter Bv))))::F)) (fun v=>Gh (K v)) I' Y:=by
   intro Y hY;unfold KI;simp only [wrap_i64 ((k:Int)+1) (by omega),SSd,Nat.reduceAdd];exact Gh.to _ (Gh.done ⟨q - 1,by omega,k+1,by omega,rfl,rfl,rfl⟩)
  obtain ⟨v0,rfl,h0⟩:=ExV.iff.1 g2;simp only [g1,SSd,Nat.reduceAdd];refine rdN rfl (g3 _ _ (Ext.refl _) (fun x hx=>by simp [hx])) ?_;refine AV (fun b3=>?_);obtain ⟨a0,k0,rfl⟩:=RL.form h0;refine stB rfl rfl (AO rfl) ?_;try simp only [SSd,Nat.reduceAdd]
  refine rdb ?_;try simp only [SSd,Nat.reduceAdd]
  refine AA (fun ht=>?_) (fun ht=>?_)
  ·have ht':Bv xs[k]=true:=ht;rw [hts,List.filter_append,List.filter_cons_of_pos ht',List.filter_nil,Cc,Eo] at hstep;rw [hts,List.filter_append,List.filter_cons_of_pos ht',List.filter_nil,Cc] at hple;simp only [Ah,BR] at hstep hple;refine rdb ?_;refine rdB rfl ?_;refine EP ?_;refine CalV.to ((b1,DF (p+Ah ((xs.take k).filter Bv)))::(b2,DF (max d (BR ((xs.take k).filter Bv))))::(bd,doO b1 b2)::(bi,inO bd bi)::(X++(y::F))) ?_;have hdp:=PD xs[k];have hdpos:=He xs[k];refine YH _ xs[k] (Nat.le_refl _) _ _ 1 _ _ _ _ g2 (by omega) (by omega) (by omega) (by omega) ?_;refine hstep ?_;rw [show p+((Ah ((xs.take k).filter Bv)+(Aw xs[k]+0):Nat):Int)=p+Ah ((xs.take k).filter Bv)+Aw xs[k] by omega,show max d ((max (BR ((xs.take k).filter Bv)) (max (Cm xs[k]) 0):Nat):Int)=max (max d (BR ((xs.take k).filter Bv))) (1+Cm xs[k] - 1) by omega];infer_instance
  ·have ht':¬Bv xs[k]=true:=by
    intro h;rw [show (xs[k].kind != 0)=true from h] at ht;cases ht
   rw [hts,List.filter_append,List.filter_cons_of_neg ht',List.filter_nil,List.append_nil] at hstep;exact hstep inferInstance
 ·have hb:¬k < xs.length:=by
   have:=of_decide_eq_false hb;omega
  rw [List.take_of_length_le (by omega)];exact Gh.to _ hk
theorem ZW {b1 b2:Nat}{p d:Int}{s:TStmt}{c:List Value}(hs:TStmtV I s c)(hcnt:cS s≤1000000000)(hp:0≤p)(hd:0≤d)(hpx:p+Ah (FI s)≤100000000000000000)
  (hk:∀I',Ext I I'→K (.tuple #[]) I' ((b1,DF (p+Ah (FI s)))::(b2,DF (max d (BR (FI s))))::F)):
  CT ω 104 #[.agg c.toArray,doV b1 b2] K I ((b1,DF p)::(b2,DF d)::F):=by
 obtain ⟨v0,v1,v2,v3,v4,v5,v6,v7,v8,v9,v10,v11,v12,rfl,h0,h1,h2,h3,h4,h5,h6,h7,h8,h9,h10,h11,h12⟩:=hs;obtain ⟨a0,k0,rfl⟩:=RL.form h0;obtain ⟨a1,k1,rfl⟩:=RL.form h1;obtain ⟨a2,k2,rfl⟩:=RL.form h2;obtain ⟨a3,k3,rfl⟩:=RL.form h3;obtain ⟨a4,k4,rfl⟩:=RL.form h4;obtain ⟨a5,k5,rfl⟩:=RL.form h5;obtain ⟨a7,k7,rfl⟩:=RL.form h7;obtain ⟨a8,k8,rfl⟩:=RL.form h8;obtain ⟨a9,k9,rfl⟩:=RL.form h9;obtain ⟨a10,k10,rfl⟩:=RL.form h10;simp only [cS,cQ] at hcnt;refine ANp ?_;unfold AEa;refine AV (fun bs=>?_);refine AV (o:=doO b1 b2) (fun bd=>?_);refine AV (fun bi=>?_);refine st1 rfl ?_;try simp only [SSd,Nat.reduceAdd]
 refine rdP _ rfl rfl ?_;refine rdP _ rfl rfl ?_;refine rdP _ rfl rfl ?_;refine Du (R:=ExV) [s.fWhere,s.fSelect.fWhere,s.fSelect.fHaving] [_,_,_] rfl rfl rfl (by simp) (by
  intro q hq;simp only [List.zip_cons_cons,List.zip_nil_right,List.mem_cons,List.not_mem_nil,or_false] at hq;rcases hq with rfl|rfl|rfl
  ·exact ExV.iff.2 ⟨_,rfl,h9⟩
  ·exact ExV.iff.2 ⟨_,rfl,h2⟩
  ·exact ExV.iff.2 ⟨_,rfl,h4⟩) (fun hI h=>ExV.mono hI h) (fun I1 aw hI1 hw1=>Gh.done ?_)
 obtain ⟨c1,s1,r1⟩:=RL.toI (by decide) hw1;have hG1:GL I1 [] (.slice aw 3 3) [s.fWhere,s.fSelect.fWhere,s.fSelect.fHaving]:=⟨c1,.inr ⟨rfl,⟨aw,rfl⟩,s1⟩,r1⟩;refine rdb ?_;refine Fz (X:=[]) rfl hG1 (ExL.mono h3 hI1) (by simp only [List.length_cons,List.length_nil];omega) (fun X2 w2 hG2=>?_);refine rdb ?_;simp only [RL.len h0,SSd,Nat.reduceAdd];refine ALl (X:=X2) (RL.mono (fun _ _ h=>TItemV.mono h hI1) h0 hI1 (fun _ h=>h)) hG2 (by simp only [List.length_append,List.length_cons,List.length_nil];omega) (fun I3 X3 w3 hI3 hG3=>?_);unfold RV;try simp only [SSd,Nat.reduceAdd]
 refine rdb ?_;try simp only [SSd,Nat.reduceAdd]
 have hI13:=Ext.trans hI1 hI3;refine ALk (X:=X3) (RL.mono (fun _ _ h=>TSourceV.mono h hI13) h1 hI13 (fun _ h=>h)) hG3 (by simp only [List.length_append,List.length_cons,List.length_nil,List.length_map];omega) (fun I4 X4 w4 hI4 hG4=>?_);unfold RS;try simp only [SSd,Nat.reduceAdd]
 refine rdb ?_;try simp only [SSd,Nat.reduceAdd]
 have hI14:=Ext.trans hI13 hI4;refine ALj (X:=X4) (RL.mono (fun _ _ h=>TOrderV.mono h hI14) h5 hI14 (fun _ h=>h)) hG4 (by simp only [List.length_append,List.length_cons,List.length_nil,List.length_map];omega) (fun I5 X5 w5 hI5 hG5=>?_);unfold RP;try simp only [SSd,Nat.reduceAdd]
 refine rdb ?_;try simp only [SSd,Nat.reduceAdd]
 have hI15:=Ext.trans hI14 hI5;refine AJQ (X:=X5) (RL.mono (fun _ _ h=>LstX.mono h hI15) h7 hI15 (fun _ h=>h)) (by omega) hG5 (by simp only [List.length_append,List.length_cons,List.length_nil,List.length_map];omega) (fun I6 X6 w6 hI6 hG6=>?_);unfold OD;try simp only [SSd,Nat.reduceAdd]
 refine rdb ?_;try simp only [SSd,Nat.reduceAdd]
 have hI16:=Ext.trans hI15 hI6;refine AJP (X:=X6) (RL.mono (fun _ _ h=>TSetV.mono h hI16) h8 hI16 (fun _ h=>h)) hG6 (by simp only [List.length_append,List.length_cons,List.length_nil,List.length_map];omega) (fun I7 X7 w7 hI7 hG7=>?_);unfold OB;try simp only [SSd,Nat.reduceAdd]
 refine rdb ?_;try simp only [SSd,Nat.reduceAdd]
 have hI17:=Ext.trans hI16 hI7;refine AJO (X:=X7) (RL.mono (fun _ _ h=>TColV.mono h hI17) h10 hI17 (fun _ h=>h)) hG7 (by simp only [List.length_append,List.length_cons,List.length_nil,List.length_map];omega) (fun I8 X8 w8 hI8 hG8=>?_);have hI18:=Ext.trans hI17 hI8;have hA:([s.fWhere,s.fSelect.fWhere,s.fSelect.fHaving]++s.fSelect.fGroup++s.fSelect.fItems.map (fun y=>y.fExpr)++s.fSelect.fFrom.map (fun y=>y.fOn)++s.fSelect.fOrder.map (fun y=>y.fExpr)++s.fRows.flatten++s.fSets.map (fun y=>y.fExpr)++s.fCols.map (fun y=>y.fDefault))=AHH s:=rfl;rw [hA] at hG8;have hlen:(AHH s).length≤1000000000000:=by simp only [←hA,List.length_append,List.length_cons,List.length_nil,List.length_map];omega
 obtain ⟨q1,q2⟩:=Vx s;refine AJN hG8 hp hd (by rw [q1];exact hpx) hlen ?_;rw [q1,q2];exact Gh.done (hk I8 hI18)
end
theorem PO:∀(l:List Bs) (y:Bs),Aq (l++[y])=Aq l++((if l.isEmpty then [] else [44,32])++y)
 |[],y=>rfl
 |[x],y=>by simp [Aq]
 |x::z::l,y=>by
  have ih:=PO (z::l) y;simp only [List.cons_append,Aq] at ih ⊢;rw [ih];simp
theorem UQ:∀(a c:List Bs),(Aq a).length≤(Aq (a++c)).length
 |[],c=>Nat.zero_le _
 |[x],[]=>Nat.le_refl _
 |[x],z::c=>by simp [Aq]
 |x::z::a,c=>by
  have ih:=UQ (z::a) c;simp only [List.cons_append,Aq,List.length_append] at ih ⊢;omega
theorem EH {α:Type}{g:α→Bs}{xs:List α}{k:Nat}(h:k < xs.length):Aq ((xs.take (k+1)).map g)=Aq ((xs.take k).map g)++((if k=0 then [] else [44,32])++g xs[k]):=by
 rw [List.take_succ_eq_append_getElem h,List.map_append];rw [show List.map g [xs[k]]=[g xs[k]] from rfl,PO];congr 2
 cases k with
 |zero=>simp
 |succ k=>
  have:((xs.take (k+1)).map g).isEmpty=false:=by
   cases xs with
   |nil=>simp at h
   |cons x xs=>rfl
  rw [if_neg (by rw [this];decide),if_neg (by omega)]
theorem Ep {α:Type}(g:α→Bs)(xs:List α)(k:Nat):(Aq ((xs.take k).map g)).length≤(Aq (xs.map g)).length:=by
 have:=UQ ((xs.take k).map g) ((xs.drop k).map g);rwa [←List.map_append,List.take_append_drop] at this
def FnW {α:Type}(ω:Om)(b:Nat)(w:Value)(F:LH)(fv:Value)(R:Imm→α→Value→Prop)(g:α→Bs)(xs:List α)(I0:Imm):Prop:=
 ∀x∈xs,∀(I:Imm) (X:LH) (l:Bs) (v:Value) (K:Value→M),Ext I0 I→StL I w wordsL→WrS b w X l→R I x v→(l++g x).length≤1000000000→(∀I' X',Ext I I'→WrS b w X' (l++g x)→K (.tuple #[]) I' (X'++F))→CW ω fv #[v] K I (X++F)
def GY {α:Type}(R:Imm→α→List Value→Prop)(I:Imm)(x:α)(v:Value):Prop:=∃c,v= .agg c.toArray∧R I x c
def AHK {α:Type}(R:Imm→α→List Value→Prop)(I:Imm)(x:α)(v:Value):Prop:=R I x [v]
theorem VM {I:Imm}{L:LH}{K:Value→M}{b n T:Nat}{l:List Value}(h:(b,Obj.cells l.toArray T (0,0))∈L)(hl:l.length=n)(hk:K (.agg l.toArray) I L):Rv none (AU n (.pointer (some ⟨b,0,none⟩))) K I L:=
 rdN hl (fun j u hu=>Cell.own h (by simpa using hu)) hk
section
variable {ω:Om}{I:Imm}{L F:LH}{K:Value→M}{b:Nat}{w:Value}{X:LH}{l:Bs}
theorem AAB {fv v:Value}{xs:List (Ex)}{g:Ex→Bs}(hxs:RL ExV 11 I [] v xs)(hw:StL I w wordsL)(hf:FnW ω b w F fv (GY ExV) g xs I)(hxl:xs.length≤1000000000000)[hs:SplitL X L F](hW:WrS b w X l)(hn:(l++Aq (xs.map g)).length≤1000000000)
  (hk:∀I' X',Ext I I'→WrS b w X' (l++Aq (xs.map g))→K (.tuple #[]) I' (X'++F)):CT ω 206 #[AX b,v,fv] K I L:=by
 refine Cal.split X ?_;refine AMT ?_;unfold ABy;simp only [RL.len hxs,SSd,Nat.reduceAdd];refine loop (fun q st I' L'=>∃(k:Nat) (X':LH),k+q=xs.length∧st=(.int .i64 k,())∧Ext I I'∧L'=X'++F∧WrS b w X' (l++Aq ((xs.take k).map g))) xs.length ⟨0,X,by omega,rfl,Ext.refl _,rfl,by simpa [Aq] using hW⟩ ?_;rintro q st I' L' ⟨k,X',hkq,rfl,hI',rfl,hW'⟩;unfold WV;try simp only [SSd,Nat.reduceAdd]
 refine AA (fun hb=>?_) (fun hb=>?_)
 ·have hb:k < xs.length:=by
   have:=of_decide_eq_true hb;omega
  obtain ⟨bt,off,c1,g1,gl,g2,g3⟩:=RL.ix hxs (i:=k) (by omega) (by omega);rw [BA hb] at g2;have g2o:=g2;have g2:=ExV.mono hI' g2;have hct:=EH (g:=g) hb;have hcl:=Ep g xs (k+1);rw [hct] at hcl;simp only [List.length_append] at hcl hn;simp only [g1,SSd,Nat.reduceAdd];have hone:=ExV.one g2;refine Dq (g3 _ [] hI' (fun _ h=>h)) (Ext.refl _) gl ?_;refine AV (fun b3=>?_);refine stB gl rfl hone ?_;try simp only [SSd,Nat.reduceAdd]
  have fin:∀(I2:Imm) (X2:LH) (l2:Bs) (Y:LH),Ext I I2→WrS b w X2 l2→l2++g xs[k]=l++Aq ((xs.take (k+1)).map g)→SubP (X2++((b3,.cells c1.toArray 37 (0,0))::F)) Y→MN ω fv (AX b3) (.int .i64 k) (fun s'=>Gh fun I2 L2=>∃m',m' < q∧∃(k:Nat) (X':LH),k+m'=xs.length∧s'=(.int .i64 k,())∧Ext I I2∧L2=X'++F∧WrS b w X' (l++Aq ((xs.take k).map g))) (fun v=>Gh (K v)) I2 Y:=by
   intro I2 X2 l2 Y hI2 hW2 hl2 hY;unfold MN;refine VM (l:=c1) (T:=37) (by obtain ⟨R,hR⟩:=hY.sub;exact hR.mem_iff.2 (by simp)) gl ?_;refine EP ?_;refine CalV.to (X2++F) (hs:=?_) ?_
   ·obtain ⟨R,hR⟩:=hY.sub;exact ⟨(b3,.cells c1.toArray 37 (0,0))::R,hR.trans (by rw [List.append_assoc,List.append_assoc];exact List.Perm.append_left X2 (by rw [List.cons_append];exact List.perm_middle.symm))⟩
   refine hf _ (List.getElem_mem hb) I2 X2 l2 _ _ hI2 (StL.mono hw hI2) hW2 ⟨c1,rfl,ExV.mono hI2 g2o⟩ (by rw [hl2,hct];simp only [List.length_append];omega) (fun I3 X3 hI3 hW3=>?_);simp only [wrap_i64 ((k:Int)+1) (by omega),SSd,Nat.reduceAdd];rw [hl2] at hW3;exact Gh.done ⟨q - 1,by omega,k+1,X3,by omega,rfl,Ext.trans hI2 hI3,rfl,hW3⟩
  refine AA (fun h0=>?_) (fun h0=>?_)
  ·have h0:k≠0:=by have:=of_decide_eq_true h0;omega
   rw [if_neg h0] at hct hcl;refine BL (X:=X') hW' (by simp only [List.length_append,List.length_cons,List.length_nil] at hcl ⊢;omega) (fun I2 X2 hI2 hW2=>?_);exact fin I2 X2 _ _ (Ext.trans hI' hI2) hW2 (by rw [hct];simp) inferInstance
  ·have h0:k=0:=by have:=of_decide_eq_false h0;omega
   rw [if_pos h0] at hct;exact fin I' X' _ _ hI' hW' (by rw [hct];simp) inferInstance
 ·have hb:¬k < xs.length:=by
   have:=of_decide_eq_false hb;omega
  rw [List.take_of_length_le (by omega)] at hW';exact Gh.done (hk I' X' hI' hW')
theorem Vq {fv v:Value}{xs:List (TSet)}{g:TSet→Bs}(hxs:RL TSetV 12 I [] v xs)(hw:StL I w wordsL)(hf:FnW ω b w F fv (GY TSetV) g xs I)(hxl:xs.length≤1000000000000)[hs:SplitL X L F](hW:WrS b w X l)(hn:(l++Aq (xs.map g)).length≤1000000000)
  (hk:∀I' X',Ext I I'→WrS b w X' (l++Aq (xs.map g))→K (.tuple #[]) I' (X'++F)):CT ω 118 #[AX b,v,fv] K I L:=by
 refine Cal.split X ?_;refine ANh ?_;unfold AEN;simp only [RL.len hxs,SSd,Nat.reduceAdd];refine loop (fun q st I' L'=>∃(k:Nat) (X':LH),k+q=xs.length∧st=(.int .i64 k,())∧Ext I I'∧L'=X'++F∧WrS b w X' (l++Aq ((xs.take k).map g))) xs.length ⟨0,X,by omega,rfl,Ext.refl _,rfl,by simpa [Aq] using hW⟩ ?_;rintro q st I' L' ⟨k,X',hkq,rfl,hI',rfl,hW'⟩;unfold Xd;try simp only [SSd,Nat.reduceAdd]
 refine AA (fun hb=>?_) (fun hb=>?_)
 ·have hb:k < xs.length:=by
   have:=of_decide_eq_true hb;omega
  obtain ⟨bt,off,c1,g1,gl,g2,g3⟩:=RL.ix hxs (i:=k) (by omega) (by omega);rw [BA hb] at g2;have g2o:=g2;have g2:=g2.mono hI';have hct:=EH (g:=g) hb;have hcl:=Ep g xs (k+1);rw [hct] at hcl;simp only [List.length_append] at hcl hn;simp only [g1,SSd,Nat.reduceAdd];have hone:=TSetV.one g2;refine Dq (g3 _ [] hI' (fun _ h=>h)) (Ext.refl _) gl ?_;refine AV (fun b3=>?_);refine stB gl rfl hone ?_;try simp only [SSd,Nat.reduceAdd]
  have fin:∀(I2:Imm) (X2:LH) (l2:Bs) (Y:LH),Ext I I2→WrS b w X2 l2→l2++g xs[k]=l++Aq ((xs.take (k+1)).map g)→SubP (X2++((b3,.cells c1.toArray 99 (0,0))::F)) Y→NK ω fv (AX b3) (.int .i64 k) (fun s'=>Gh fun I2 L2=>∃m',m' < q∧∃(k:Nat) (X':LH),k+m'=xs.length∧s'=(.int .i64 k,())∧Ext I I2∧L2=X'++F∧WrS b w X' (l++Aq ((xs.take k).map g))) (fun v=>Gh (K v)) I2 Y:=by
   intro I2 X2 l2 Y hI2 hW2 hl2 hY;unfold NK;refine VM (l:=c1) (T:=99) (by obtain ⟨R,hR⟩:=hY.sub;exact hR.mem_iff.2 (by simp)) gl ?_;refine EP ?_;refine CalV.to (X2++F) (hs:=?_) ?_
   ·obtain ⟨R,hR⟩:=hY.sub;exact ⟨(b3,.cells c1.toArray 99 (0,0))::R,hR.trans (by rw [List.append_assoc,List.append_assoc];exact List.Perm.append_left X2 (by rw [List.cons_append];exact List.perm_middle.symm))⟩
   refine hf _ (List.getElem_mem hb) I2 X2 l2 _ _ hI2 (StL.mono hw hI2) hW2 ⟨c1,rfl,g2o.mono hI2⟩ (by rw [hl2,hct];simp only [List.length_append];omega) (fun I3 X3 hI3 hW3=>?_);simp only [wrap_i64 ((k:Int)+1) (by omega),SSd,Nat.reduceAdd];rw [hl2] at hW3;exact Gh.done ⟨q - 1,by omega,k+1,X3,by omega,rfl,Ext.trans hI2 hI3,rfl,hW3⟩
  refine AA (fun h0=>?_) (fun h0=>?_)
  ·have h0:k≠0:=by have:=of_decide_eq_true h0;omega
   rw [if_neg h0] at hct hcl;refine BL (X:=X') hW' (by simp only [List.length_append,List.length_cons,List.length_nil] at hcl ⊢;omega) (fun I2 X2 hI2 hW2=>?_);exact fin I2 X2 _ _ (Ext.trans hI' hI2) hW2 (by rw [hct];simp) inferInstance
  ·have h0:k=0:=by have:=of_decide_eq_false h0;omega
   rw [if_pos h0] at hct;exact fin I' X' _ _ hI' hW' (by rw [hct];simp) inferInstance
 ·have hb:¬k < xs.length:=by
   have:=of_decide_eq_false hb;omega
  rw [List.take_of_length_le (by omega)] at hW';exact Gh.done (hk I' X' hI' hW')
theorem UO {fv v:Value}{xs:List (TItem)}{g:TItem→Bs}(hxs:RL TItemV 14 I [] v xs)(hw:StL I w wordsL)(hf:FnW ω b w F fv (GY TItemV) g xs I)(hxl:xs.length≤1000000000000)[hs:SplitL X L F](hW:WrS b w X l)(hn:(l++Aq (xs.map g)).length≤1000000000)
  (hk:∀I' X',Ext I I'→WrS b w X' (l++Aq (xs.map g))→K (.tuple #[]) I' (X'++F)):CT ω 164 #[AX b,v,fv] K I L:=by
 refine Cal.split X ?_;refine AMz ?_;unfold ADJ;simp only [RL.len hxs,SSd,Nat.reduceAdd];refine loop (fun q st I' L'=>∃(k:Nat) (X':LH),k+q=xs.length∧st=(.int .i64 k,())∧Ext I I'∧L'=X'++F∧WrS b w X' (l++Aq ((xs.take k).map g))) xs.length ⟨0,X,by omega,rfl,Ext.refl _,rfl,by simpa [Aq] using hW⟩ ?_;rintro q st I' L' ⟨k,X',hkq,rfl,hI',rfl,hW'⟩;unfold XE;try simp only [SSd,Nat.reduceAdd]
 refine AA (fun hb=>?_) (fun hb=>?_)
 ·have hb:k < xs.length:=by
   have:=of_decide_eq_true hb;omega
  obtain ⟨bt,off,c1,g1,gl,g2,g3⟩:=RL.ix hxs (i:=k) (by omega) (by omega);rw [BA hb] at g2;have g2o:=g2;have g2:=g2.mono hI';have hct:=EH (g:=g) hb;have hcl:=Ep g xs (k+1);rw [hct] at hcl;simp only [List.length_append] at hcl hn;simp only [g1,SSd,Nat.reduceAdd];have hone:=TItemV.one g2;refine Dq (g3 _ [] hI' (fun _ h=>h)) (Ext.refl _) gl ?_;refine AV (fun b3=>?_);refine stB gl rfl hone ?_;try simp only [SSd,Nat.reduceAdd]
  have fin:∀(I2:Imm) (X2:LH) (l2:Bs) (Y:LH),Ext I I2→WrS b w X2 l2→l2++g xs[k]=l++Aq ((xs.take (k+1)).map g)→SubP (X2++((b3,.cells c1.toArray 119 (0,0))::F)) Y→MZ ω fv (AX b3) (.int .i64 k) (fun s'=>Gh fun I2 L2=>∃m',m' < q∧∃(k:Nat) (X':LH),k+m'=xs.length∧s'=(.int .i64 k,())∧Ext I I2∧L2=X'++F∧WrS b w X' (l++Aq ((xs.take k).map g))) (fun v=>Gh (K v)) I2 Y:=by
   intro I2 X2 l2 Y hI2 hW2 hl2 hY;unfold MZ;refine VM (l:=c1) (T:=119) (by obtain ⟨R,hR⟩:=hY.sub;exact hR.mem_iff.2 (by simp)) gl ?_;refine EP ?_;refine CalV.to (X2++F) (hs:=?_) ?_
   ·obtain ⟨R,hR⟩:=hY.sub;exact ⟨(b3,.cells c1.toArray 119 (0,0))::R,hR.trans (by rw [List.append_assoc,List.append_assoc];exact List.Perm.append_left X2 (by rw [List.cons_append];exact List.perm_middle.symm))⟩
   refine hf _ (List.getElem_mem hb) I2 X2 l2 _ _ hI2 (StL.mono hw hI2) hW2 ⟨c1,rfl,g2o.mono hI2⟩ (by rw [hl2,hct];simp only [List.length_append];omega) (fun I3 X3 hI3 hW3=>?_);simp only [wrap_i64 ((k:Int)+1) (by omega),SSd,Nat.reduceAdd];rw [hl2] at hW3;exact Gh.done ⟨q - 1,by omega,k+1,X3,by omega,rfl,Ext.trans hI2 hI3,rfl,hW3⟩
  refine AA (fun h0=>?_) (fun h0=>?_)
  ·have h0:k≠0:=by have:=of_decide_eq_true h0;omega
   rw [if_neg h0] at hct hcl;refine BL (X:=X') hW' (by simp only [List.length_append,List.length_cons,List.length_nil] at hcl ⊢;omega) (fun I2 X2 hI2 hW2=>?_);exact fin I2 X2 _ _ (Ext.trans hI' hI2) hW2 (by rw [hct];simp) inferInstance
  ·have h0:k=0:=by have:=of_decide_eq_false h0;omega
   rw [if_pos h0] at hct;exact fin I' X' _ _ hI' hW' (by rw [hct];simp) inferInstance
 ·have hb:¬k < xs.length:=by
   have:=of_decide_eq_false hb;omega
  rw [List.take_of_length_le (by omega)] at hW';exact Gh.done (hk I' X' hI' hW')
theorem SK {fv v:Value}{xs:List (TOrder)}{g:TOrder→Bs}(hxs:RL TOrderV 12 I [] v xs)(hw:StL I w wordsL)(hf:FnW ω b w F fv (GY TOrderV) g xs I)(hxl:xs.length≤1000000000000)[hs:SplitL X L F](hW:WrS b w X l)(hn:(l++Aq (xs.map g)).length≤1000000000)
  (hk:∀I' X',Ext I I'→WrS b w X' (l++Aq (xs.map g))→K (.tuple #[]) I' (X'++F)):CT ω 169 #[AX b,v,fv] K I L:=by
 refine Cal.split X ?_;refine AMu ?_;unfold ACz;simp only [RL.len hxs,SSd,Nat.reduceAdd];refine loop (fun q st I' L'=>∃(k:Nat) (X':LH),k+q=xs.length∧st=(.int .i64 k,())∧Ext I I'∧L'=X'++F∧WrS b w X' (l++Aq ((xs.take k).map g))) xs.length ⟨0,X,by omega,rfl,Ext.refl _,rfl,by simpa [Aq] using hW⟩ ?_;rintro q st I' L' ⟨k,X',hkq,rfl,hI',rfl,hW'⟩;unfold XB;try simp only [SSd,Nat.reduceAdd]
 refine AA (fun hb=>?_) (fun hb=>?_)
 ·have hb:k < xs.length:=by
   have:=of_decide_eq_true hb;omega
  obtain ⟨bt,off,c1,g1,gl,g2,g3⟩:=RL.ix hxs (i:=k) (by omega) (by omega);rw [BA hb] at g2;have g2o:=g2;have g2:=g2.mono hI';have hct:=EH (g:=g) hb;have hcl:=Ep g xs (k+1);rw [hct] at hcl;simp only [List.length_append] at hcl hn;simp only [g1,SSd,Nat.reduceAdd];have hone:=TOrderV.one g2;refine Dq (g3 _ [] hI' (fun _ h=>h)) (Ext.refl _) gl ?_;refine AV (fun b3=>?_);refine stB gl rfl hone ?_;try simp only [SSd,Nat.reduceAdd]
  have fin:∀(I2:Imm) (X2:LH) (l2:Bs) (Y:LH),Ext I I2→WrS b w X2 l2→l2++g xs[k]=l++Aq ((xs.take (k+1)).map g)→SubP (X2++((b3,.cells c1.toArray 127 (0,0))::F)) Y→MW ω fv (AX b3) (.int .i64 k) (fun s'=>Gh fun I2 L2=>∃m',m' < q∧∃(k:Nat) (X':LH),k+m'=xs.length∧s'=(.int .i64 k,())∧Ext I I2∧L2=X'++F∧WrS b w X' (l++Aq ((xs.take k).map g))) (fun v=>Gh (K v)) I2 Y:=by
   intro I2 X2 l2 Y hI2 hW2 hl2 hY;unfold MW;refine VM (l:=c1) (T:=127) (by obtain ⟨R,hR⟩:=hY.sub;exact hR.mem_iff.2 (by simp)) gl ?_;refine EP ?_;refine CalV.to (X2++F) (hs:=?_) ?_
   ·obtain ⟨R,hR⟩:=hY.sub;exact ⟨(b3,.cells c1.toArray 127 (0,0))::R,hR.trans (by rw [List.append_assoc,List.append_assoc];exact List.Perm.append_left X2 (by rw [List.cons_append];exact List.perm_middle.symm))⟩
   refine hf _ (List.getElem_mem hb) I2 X2 l2 _ _ hI2 (StL.mono hw hI2) hW2 ⟨c1,rfl,g2o.mono hI2⟩ (by rw [hl2,hct];simp only [List.length_append];omega) (fun I3 X3 hI3 hW3=>?_);simp only [wrap_i64 ((k:Int)+1) (by omega),SSd,Nat.reduceAdd];rw [hl2] at hW3;exact Gh.done ⟨q - 1,by omega,k+1,X3,by omega,rfl,Ext.trans hI2 hI3,rfl,hW3⟩
  refine AA (fun h0=>?_) (fun h0=>?_)
  ·have h0:k≠0:=by have:=of_decide_eq_true h0;omega
   rw [if_neg h0] at hct hcl;refine BL (X:=X') hW' (by simp only [List.length_append,List.length_cons,List.length_nil] at hcl ⊢;omega) (fun I2 X2 hI2 hW2=>?_);exact fin I2 X2 _ _ (Ext.trans hI' hI2) hW2 (by rw [hct];simp) inferInstance
  ·have h0:k=0:=by have:=of_decide_eq_false h0;omega
   rw [if_pos h0] at hct;exact fin I' X' _ _ hI' hW' (by rw [hct];simp) inferInstance
 ·have hb:¬k < xs.length:=by
   have:=of_decide_eq_false hb;omega
  rw [List.take_of_length_le (by omega)] at hW';exact Gh.done (hk I' X' hI' hW')
theorem Vs {fv v:Value}{xs:List (TCol)}{g:TCol→Bs}(hxs:RL TColV 16 I [] v xs)(hw:StL I w wordsL)(hf:FnW ω b w F fv (GY TColV) g xs I)(hxl:xs.length≤1000000000000)[hs:SplitL X L F](hW:WrS b w X l)(hn:(l++Aq (xs.map g)).length≤1000000000)
  (hk:∀I' X',Ext I I'→WrS b w X' (l++Aq (xs.map g))→K (.tuple #[]) I' (X'++F)):CT ω 180 #[AX b,v,fv] K I L:=by
 refine Cal.split X ?_;refine AMl ?_;unfold ACh;simp only [RL.len hxs,SSd,Nat.reduceAdd];refine loop (fun q st I' L'=>∃(k:Nat) (X':LH),k+q=xs.length∧st=(.int .i64 k,())∧Ext I I'∧L'=X'++F∧WrS b w X' (l++Aq ((xs.take k).map g))) xs.length ⟨0,X,by omega,rfl,Ext.refl _,rfl,by simpa [Aq] using hW⟩ ?_;rintro q st I' L' ⟨k,X',hkq,rfl,hI',rfl,hW'⟩;unfold Wq;try simp only [SSd,Nat.reduceAdd]
 refine AA (fun hb=>?_) (fun hb=>?_)
 ·have hb:k < xs.length:=by
   have:=of_decide_eq_true hb;omega
  obtain ⟨bt,off,c1,g1,gl,g2,g3⟩:=RL.ix hxs (i:=k) (by omega) (by omega);rw [BA hb] at g2;have g2o:=g2;have g2:=g2.mono hI';have hct:=EH (g:=g) hb;have hcl:=Ep g xs (k+1);rw [hct] at hcl;simp only [List.length_append] at hcl hn;simp only [g1,SSd,Nat.reduceAdd];have hone:=TColV.one g2;refine Dq (g3 _ [] hI' (fun _ h=>h)) (Ext.refl _) gl ?_;refine AV (fun b3=>?_);refine stB gl rfl hone ?_;try simp only [SSd,Nat.reduceAdd]
  have fin:∀(I2:Imm) (X2:LH) (l2:Bs) (Y:LH),Ext I I2→WrS b w X2 l2→l2++g xs[k]=l++Aq ((xs.take (k+1)).map g)→SubP (X2++((b3,.cells c1.toArray 101 (0,0))::F)) Y→MQ ω fv (AX b3) (.int .i64 k) (fun s'=>Gh fun I2 L2=>∃m',m' < q∧∃(k:Nat) (X':LH),k+m'=xs.length∧s'=(.int .i64 k,())∧Ext I I2∧L2=X'++F∧WrS b w X' (l++Aq ((xs.take k).map g))) (fun v=>Gh (K v)) I2 Y:=by
   intro I2 X2 l2 Y hI2 hW2 hl2 hY;unfold MQ;refine VM (l:=c1) (T:=101) (by obtain ⟨R,hR⟩:=hY.sub;exact hR.mem_iff.2 (by simp)) gl ?_;refine EP ?_;refine CalV.to (X2++F) (hs:=?_) ?_
   ·obtain ⟨R,hR⟩:=hY.sub;exact ⟨(b3,.cells c1.toArray 101 (0,0))::R,hR.trans (by rw [List.append_assoc,List.append_assoc];exact List.Perm.append_left X2 (by rw [List.cons_append];exact List.perm_middle.symm))⟩
   refine hf _ (List.getElem_mem hb) I2 X2 l2 _ _ hI2 (StL.mono hw hI2) hW2 ⟨c1,rfl,g2o.mono hI2⟩ (by rw [hl2,hct];simp only [List.length_append];omega) (fun I3 X3 hI3 hW3=>?_);simp only [wrap_i64 ((k:Int)+1) (by omega),SSd,Nat.reduceAdd];rw [hl2] at hW3;exact Gh.done ⟨q - 1,by omega,k+1,X3,by omega,rfl,Ext.trans hI2 hI3,rfl,hW3⟩
  refine AA (fun h0=>?_) (fun h0=>?_)
  ·have h0:k≠0:=by have:=of_decide_eq_true h0;omega
   rw [if_neg h0] at hct hcl;refine BL (X:=X') hW' (by simp only [List.length_append,List.length_cons,List.length_nil] at hcl ⊢;omega) (fun I2 X2 hI2 hW2=>?_);exact fin I2 X2 _ _ (Ext.trans hI' hI2) hW2 (by rw [hct];simp) inferInstance
  ·have h0:k=0:=by have:=of_decide_eq_false h0;omega
   rw [if_pos h0] at hct;exact fin I' X' _ _ hI' hW' (by rw [hct];simp) inferInstance
 ·have hb:¬k < xs.length:=by
   have:=of_decide_eq_false hb;omega
  rw [List.take_of_length_le (by omega)] at hW';exact Gh.done (hk I' X' hI' hW')
theorem Vp {fv v:Value}{xs:List (Bs)}{g:Bs→Bs}(hxs:RL StrV 1 I [] v xs)(hw:StL I w wordsL)(hf:FnW ω b w F fv (AHK StrV) g xs I)(hxl:xs.length≤1000000000000)[hs:SplitL X L F](hW:WrS b w X l)(hn:(l++Aq (xs.map g)).length≤1000000000)
  (hk:∀I' X',Ext I I'→WrS b w X' (l++Aq (xs.map g))→K (.tuple #[]) I' (X'++F)):CT ω 174 #[AX b,v,fv] K I L:=by
 refine Cal.split X ?_;refine AMr ?_;unfold ACt;simp only [RL.len hxs,SSd,Nat.reduceAdd];refine loop (fun q st I' L'=>∃(k:Nat) (X':LH),k+q=xs.length∧st=(.int .i64 k,())∧Ext I I'∧L'=X'++F∧WrS b w X' (l++Aq ((xs.take k).map g))) xs.length ⟨0,X,by omega,rfl,Ext.refl _,rfl,by simpa [Aq] using hW⟩ ?_;rintro q st I' L' ⟨k,X',hkq,rfl,hI',rfl,hW'⟩;unfold Wx;try simp only [SSd,Nat.reduceAdd]
 refine AA (fun hb=>?_) (fun hb=>?_)
 ·have hb:k < xs.length:=by
   have:=of_decide_eq_true hb;omega
  obtain ⟨bt,off,c1,g1,gl,g2,g3⟩:=RL.ix hxs (i:=k) (by omega) (by omega);rw [BA hb] at g2;have g2o:=g2;have g2:=g2;have hct:=EH (g:=g) hb;have hcl:=Ep g xs (k+1);rw [hct] at hcl;simp only [List.length_append] at hcl hn;simp only [g1,SSd,Nat.reduceAdd];obtain ⟨u,rfl⟩:∃u,c1=[u]:=by match c1,gl with|[u],_=>exact ⟨u,rfl⟩
  refine rdC (g3 _ [] hI' (fun _ h=>h) 0 _ rfl) (Ext.refl _) ?_;try simp only [SSd,Nat.reduceAdd]
  have fin:∀(I2:Imm) (X2:LH) (l2:Bs) (Y:LH),Ext I I2→WrS b w X2 l2→l2++g xs[k]=l++Aq ((xs.take (k+1)).map g)→SubP (X2++F) Y→MV ω fv u (.int .i64 k) (fun s'=>Gh fun I2 L2=>∃m',m' < q∧∃(k:Nat) (X':LH),k+m'=xs.length∧s'=(.int .i64 k,())∧Ext I I2∧L2=X'++F∧WrS b w X' (l++Aq ((xs.take k).map g))) (fun v=>Gh (K v)) I2 Y:=by
   intro I2 X2 l2 Y hI2 hW2 hl2 hY;unfold MV;refine EP ?_;refine CalV.to (X2++F) (hs:=?_) ?_
   ·obtain ⟨R,hR⟩:=hY.sub;exact ⟨R,hR⟩
   refine hf _ (List.getElem_mem hb) I2 X2 l2 _ _ hI2 (StL.mono hw hI2) hW2 (show StrV _ _ _ from g2o) (by rw [hl2,hct];simp only [List.length_append];omega) (fun I3 X3 hI3 hW3=>?_);simp only [wrap_i64 ((k:Int)+1) (by omega),SSd,Nat.reduceAdd];rw [hl2] at hW3;exact Gh.done ⟨q - 1,by omega,k+1,X3,by omega,rfl,Ext.trans hI2 hI3,rfl,hW3⟩
  refine AA (fun h0=>?_) (fun h0=>?_)
  ·have h0:k≠0:=by have:=of_decide_eq_true h0;omega
   rw [if_neg h0] at hct hcl;refine BL (X:=X') hW' (by simp only [List.length_append,List.length_cons,List.length_nil] at hcl ⊢;omega) (fun I2 X2 hI2 hW2=>?_);exact fin I2 X2 _ _ (Ext.trans hI' hI2) hW2 (by rw [hct];simp) inferInstance
  ·have h0:k=0:=by have:=of_decide_eq_false h0;omega
   rw [if_pos h0] at hct;exact fin I' X' _ _ hI' hW' (by rw [hct];simp) inferInstance
 ·have hb:¬k < xs.length:=by
   have:=of_decide_eq_false hb;omega
  rw [List.take_of_length_le (by omega)] at hW';exact Gh.done (hk I' X' hI' hW')
theorem Vr {fv v:Value}{xs:List (List Ex)}{g:List Ex→Bs}(hxs:RL (FU ExV 11) 1 I [] v xs)(hw:StL I w wordsL)(hf:FnW ω b w F fv (AHK (FU ExV 11)) g xs I)(hxl:xs.length≤1000000000000)[hs:SplitL X L F](hW:WrS b w X l)(hn:(l++Aq (xs.map g)).length≤1000000000)
  (hk:∀I' X',Ext I I'→WrS b w X' (l++Aq (xs.map g))→K (.tuple #[]) I' (X'++F)):CT ω 116 #[AX b,v,fv] K I L:=by
 refine Cal.split X ?_;refine ANj ?_;unfold AER;simp only [RL.len hxs,SSd,Nat.reduceAdd];refine loop (fun q st I' L'=>∃(k:Nat) (X':LH),k+q=xs.length∧st=(.int .i64 k,())∧Ext I I'∧L'=X'++F∧WrS b w X' (l++Aq ((xs.take k).map g))) xs.length ⟨0,X,by omega,rfl,Ext.refl _,rfl,by simpa [Aq] using hW⟩ ?_;rintro q st I' L' ⟨k,X',hkq,rfl,hI',rfl,hW'⟩;unfold Xe;try simp only [SSd,Nat.reduceAdd]
 refine AA (fun hb=>?_) (fun hb=>?_)
 ·have hb:k < xs.length:=by
   have:=of_decide_eq_true hb;omega
  obtain ⟨bt,off,c1,g1,gl,g2,g3⟩:=RL.ix hxs (i:=k) (by omega) (by omega);rw [BA hb] at g2;have g2o:=g2;have g2:=LstX.mono g2 hI';have hct:=EH (g:=g) hb;have hcl:=Ep g xs (k+1);rw [hct] at hcl;simp only [List.length_append] at hcl hn;simp only [g1,SSd,Nat.reduceAdd];obtain ⟨u,rfl⟩:∃u,c1=[u]:=by match c1,gl with|[u],_=>exact ⟨u,rfl⟩
  refine rdC (g3 _ [] hI' (fun _ h=>h) 0 _ rfl) (Ext.refl _) ?_;try simp only [SSd,Nat.reduceAdd]
  have fin:∀(I2:Imm) (X2:LH) (l2:Bs) (Y:LH),Ext I I2→WrS b w X2 l2→l2++g xs[k]=l++Aq ((xs.take (k+1)).map g)→SubP (X2++F) Y→NL ω fv u (.int .i64 k) (fun s'=>Gh fun I2 L2=>∃m',m' < q∧∃(k:Nat) (X':LH),k+m'=xs.length∧s'=(.int .i64 k,())∧Ext I I2∧L2=X'++F∧WrS b w X' (l++Aq ((xs.take k).map g))) (fun v=>Gh (K v)) I2 Y:=by
   intro I2 X2 l2 Y hI2 hW2 hl2 hY;unfold NL;refine EP ?_;refine CalV.to (X2++F) (hs:=?_) ?_
   ·obtain ⟨R,hR⟩:=hY.sub;exact ⟨R,hR⟩
   refine hf _ (List.getElem_mem hb) I2 X2 l2 _ _ hI2 (StL.mono hw hI2) hW2 (show (FU ExV 11) _ _ _ from LstX.mono g2o hI2) (by rw [hl2,hct];simp only [List.length_append];omega) (fun I3 X3 hI3 hW3=>?_);simp only [wrap_i64 ((k:Int)+1) (by omega),SSd,Nat.reduceAdd];rw [hl2] at hW3;exact Gh.done ⟨q - 1,by omega,k+1,X3,by omega,rfl,Ext.trans hI2 hI3,rfl,hW3⟩
  refine AA (fun h0=>?_) (fun h0=>?_)
  ·have h0:k≠0:=by have:=of_decide_eq_true h0;omega
   rw [if_neg h0] at hct hcl;refine BL (X:=X') hW' (by simp only [List.length_append,List.length_cons,List.length_nil] at hcl ⊢;omega) (fun I2 X2 hI2 hW2=>?_);exact fin I2 X2 _ _ (Ext.trans hI' hI2) hW2 (by rw [hct];simp) inferInstance
  ·have h0:k=0:=by have:=of_decide_eq_false h0;omega
   rw [if_pos h0] at hct;exact fin I' X' _ _ hI' hW' (by rw [hct];simp) inferInstance
 ·have hb:¬k < xs.length:=by
   have:=of_decide_eq_false hb;omega
  rw [List.take_of_length_le (by omega)] at hW';exact Gh.done (hk I' X' hI' hW')
end
theorem GH {x:Ex}:∀{l:List Ex},x∈l→Cm x≤BR l
 |y::l,h=>by
  rcases List.mem_cons.1 h with rfl|h
  ·simp only [BR];omega
  ·have:=GH h;simp only [BR];omega
theorem Ov (b:Bool):∀(n:Nat) (x:Ex) (k:Int),Cm x≤n→∀m,Cm x≤m→QY b n x k=QY b m x k
 |0,x,k,h,_,_=>by have:=He x;omega
 |n+1,x,k,h,0,h'=>by have:=He x;omega
 |n+1,x,k,h,m+1,h'=>by
  simp only [QY];congr 2
  funext i lv
  cases hx:x.args[i]? with
  |none=>rfl
  |some y=>
   have hm:=GH (List.mem_of_getElem? hx);have:=EO x;exact Ov b n y lv (by omega) m (by omega)
def Bd (b:Bool)(x:Ex)(i:Nat)(k:Int):Bs:=match x.args[i]? with
 |some y=>exB b y k
 |none=>[63]
theorem ALi (b:Bool)(x:Ex)(k:Int):exB b x k=AIw (decide (AIz x.kind < k)) (BJ b x (Bd b x)):=by
 unfold exB;have hd:=EO x;rw [show Cm x=BR x.args+1 from hd];simp only [QY];congr 2
 funext i lv
 unfold Bd;cases hx:x.args[i]? with
 |none=>rfl
 |some y=>
  have hm:=GH (List.mem_of_getElem? hx);exact Ov b _ y lv hm _ (Nat.le_refl _)
theorem LU {b:Bool}{x:Ex}{i:Nat}(h:i < x.args.length)(k:Int):Bd b x i k=exB b x.args[i] k:=by
 unfold Bd;rw [List.getElem?_eq_getElem h]
theorem AAH {b:Bool}{x:Ex}{i:Nat}(h:¬i < x.args.length)(k:Int):Bd b x i k=[63]:=by
 unfold Bd;rw [List.getElem?_eq_none (by omega)]
theorem Ji (b:Bool)(x:Ex)(d:Nat):((List.range (x.args.length - d)).map fun i=>Bd b x (i+d) 1)=(x.args.drop d).map fun y=>exB b y 1:=by
 apply List.ext_getElem
 ·simp
 ·intro i h1 h2;simp only [List.length_map,List.length_range] at h1;rw [List.getElem_map,List.getElem_range,List.getElem_map,List.getElem_drop,LU (by omega)];congr 2;omega
theorem AAe (k:Int):(Fe k).all (fun p=>decide (1≤p.2)&&decide (p.2≤6))=true:=by
 unfold Fe;by_cases h22:k=22
 ·subst h22;rfl
 by_cases h21:k=21
 ·subst h21;rfl
 by_cases h23:k=23
 ·subst h23;rfl
 by_cases h15:k=15
 ·subst h15;rfl
 by_cases h16:k=16
 ·subst h16;rfl
 by_cases h17:k=17
 ·subst h17;rfl
 by_cases h18:k=18
 ·subst h18;rfl
 by_cases h19:k=19
 ·subst h19;rfl
 by_cases h20:k=20
 ·subst h20;rfl
 by_cases h9:k=9
 ·subst h9;rfl
 by_cases h10:k=10
 ·subst h10;rfl
 by_cases h14:k=14
 ·subst h14;rfl
 by_cases h11:k=11
 ·subst h11;rfl
 by_cases h12:k=12
 ·subst h12;rfl
 by_cases h13:k=13
 ·subst h13;rfl
 simp only [h22,h21,h23,h15,h16,h17,h18,h19,h20,h9,h10,h14,h11,h12,h13,if_false];rfl
theorem Nw {k:Int}{s:Bs}{n:Int}(h:Fe k=some (s,n)):1≤n∧n≤6:=by
 have:=AAe k;rw [h] at this;simpa using this
mutual
def okE:Ex→Prop
 | .mk _ v _ _ _ _ _ l=>okI v.fInt∧l.length≤1000000000000∧okL l
def okL:List Ex→Prop
 |[]=>True
 |x::l=>okE x∧okL l
end
theorem Gx {x:Ex}(h:okE x):okI x.value.fInt∧x.args.length≤1000000000000∧okL x.args:=by cases x;simpa only [okE,Ex.value,Ex.args] using h
theorem FO {x:Ex}:∀{l:List Ex},okL l→x∈l→okE x
 |y::l,h,hx=>by
  rcases List.mem_cons.1 hx with rfl|hx
  ·exact h.1
  ·exact FO h.2 hx
theorem Rt:∀{l:List Ex},(∀x∈l,okE x)→okL l
 |[],_=>trivial
 |x::l,h=>⟨h x (List.mem_cons_self ..),Rt fun y hy=>h y (List.mem_cons_of_mem _ hy)⟩
def PV (ω:Om)(G:Imm)(b:Nat)(w:Value)(n:Nat):Prop:=∀(x:Ex),Cm x≤n→okE x→∀(k:Int) (I:Imm) (X F:LH) (l:Bs) (c:List Value) (K:Value→M),Ext G I→StL I w wordsL→WrS b w X l→ExV I x c→
 (l++exB true x k).length≤1000000000→(∀I' X',Ext I I'→WrS b w X' (l++exB true x k)→K (.tuple #[]) I' (X'++F))→CT ω 120 #[AX b,.agg c.toArray,.int .i64 k] K I (X++F)
section
variable {ω:Om}{G I:Imm}{L F:LH}{K:Value→M}{b:Nat}{w:Value}{X:LH}{l:Bs}{n:Nat}
theorem BN (hE:PV ω G b w n){x:Ex}(hd:Cm x≤n+1)(hx:okE x)(i:Nat)(k:Int)(hGI:Ext G I)(hw:StL I w wordsL)[hs:SplitL X L F](hW:WrS b w X l){c:List Value}(hc:ExV I x c)
  (hn:(l++Bd true x i k).length≤1000000000) (hk:∀I' X',Ext I I'→WrS b w X' (l++Bd true x i k)→K (.tuple #[]) I' (X'++F)):CT ω 177 #[AX b,.agg c.toArray,.int .i64 (i:Nat),.int .i64 k] K I L:=by
 refine Cal.split X ?_;refine AMo ?_;unfold ACn;obtain ⟨v,rfl,ha⟩:=ExV.iff.1 hc;refine AV (fun bx=>?_);try simp only [SSd,Nat.reduceAdd]
 refine rdb ?_;simp only [RL.len ha,SSd,Nat.reduceAdd];refine AA (fun h=>?_) (fun h=>?_)
 ·have h:¬i < x.args.length:=by have:=of_decide_eq_true h;omega
  rw [AAH h] at hn hk;refine BL (X:=X) hW hn (fun I' X' hI' hW'=>?_);exact Gh.to (X'++F) (Gh.done (hk I' X' hI' hW'))
 ·have h:i < x.args.length:=by have:=of_decide_eq_false h;omega
  rw [LU h] at hn hk;have hdd:=EO x;have hm:=GH (List.getElem_mem h);obtain ⟨bt,off,c1,g1,gl,g2,g3⟩:=RL.ix ha (i:=i) (by omega) (by omega);rw [BA h] at g2;try simp only [SSd,Nat.reduceAdd]
  refine rdb ?_;simp only [g1,SSd,Nat.reduceAdd];refine Dq (g3 _ [] (Ext.refl _) (fun _ h=>h)) (Ext.refl _) gl ?_;refine call (Cal.to (X++F) (hE x.args[i] (by omega) (FO (Gx hx).2.2 (List.getElem_mem h)) k I X F l c1 _ hGI hw hW g2 hn (fun I' X' hI' hW'=>?_)));exact Gh.done (hk I' X' hI' hW')
theorem UW {P:Program}{f:FuncId}{a:Value}{args:Array Value}(he:Bq P f=true)(h:Cal P ω f (#[a]++args) K I L):CalV P ω (.func (.func f) #[a] #[]) args K I L:=by
 unfold CalV;simp only [he,if_true];simpa using h
theorem Nc (hE:PV ω G b w n){xs:List Ex}(hd:BR xs≤n)(hx:okL xs)(hxl:xs.length≤1000000000000)(hGI:Ext G I)(hw:StL I w wordsL)[hs:SplitL X L F](hW:WrS b w X l){v:Value}(hv:ExL I v xs)
  (hn:(l++Ip true xs).length≤1000000000) (hk:∀I' X',Ext I I'→WrS b w X' (l++Ip true xs)→K (.tuple #[]) I' (X'++F)):CT ω 168 #[AX b,v] K I L:=by
 refine Cal.split X ?_;refine AMv ?_;unfold ADB;refine AV (o:=.cells [AX b].toArray 108 (0,0)) (fun bw=>?_);refine rdb ?_;refine call (AAB (X:=X) (g:=fun x=>exB true x 1) (F:=(bw,.cells [AX b].toArray 108 (0,0))::F) hv hw ?_ hxl hW hn (fun I' X' hI' hW'=>?_) (hs:=⟨List.perm_middle.symm⟩))
 ·intro x hxm I2 X2 l2 vx K2 hI2 hw2 hW2 hvx hn2 hk2;obtain ⟨c,rfl,hc⟩:=hvx;obtain ⟨v',rfl,ha⟩:=ExV.iff.1 hc;refine GR (by kernel_rfl) ?_;refine AMS ?_;show WU ω (.agg (BG x v').toArray) (AX bw) _ I2 _;unfold WU;refine AV (fun bx=>?_);refine rdb ?_;refine rdB rfl ?_;refine call (Cal.to (X2++((bw,.cells [AX b].toArray 108 (0,0))::F)) (hE x (Nat.le_trans (GH hxm) hd) (FO hx hxm) 1 I2 X2 _ l2 _ _ (Ext.trans hGI hI2) hw2 hW2 hc hn2 (fun I3 X3 hI3 hW3=>?_)));exact Gh.done (hk2 I3 X3 hI3 hW3)
 ·exact Gh.to (X'++F) (Gh.done (hk I' X' hI' hW'))
theorem JD (hE:PV ω G b w n){xs:List Ex}(hd:BR xs≤n)(hx:okL xs)(hxl:xs.length≤1000000000000)(hGI:Ext G I)(hw:StL I w wordsL)[hs:SplitL X L F](hW:WrS b w X l){v:Value}(hv:ExL I v xs)
  (hn:(l++rowB true xs).length≤1000000000) (hk:∀I' X',Ext I I'→WrS b w X' (l++rowB true xs)→K (.tuple #[]) I' (X'++F)):CT ω 117 #[AX b,v] K I L:=by
 refine Cal.split X ?_;refine ANi ?_;unfold AEP;have he:rowB true xs=[40]++(Ip true xs++[41]):=by simp [rowB]
 rw [he] at hn hk;simp only [List.length_append] at hn;refine BL hW (by simp only [List.length_append];omega) (fun I1 X1 hI1 hW1=>?_);refine call (Nc hE hd hx hxl (Ext.trans hGI hI1) (StL.mono hw hI1) hW1 (ExL.mono hv hI1) (by simp only [List.length_append];omega) (fun I2 X2 hI2 hW2=>?_));refine BL hW2 (by simp only [List.length_append];omega) (fun I3 X3 hI3 hW3=>?_);exact Gh.done (hk I3 X3 (Ext.trans hI1 (Ext.trans hI2 hI3)) (by simpa using hW3))
end
def caseT (n:Nat)(arg:Nat→Int→Bs)(k:Nat):Bs:=(List.range k).flatMap fun i=>(if i % 2=1 then [32,116,104,101,110,32] else if i+1=n then [32,101,108,115,101,32] else [32,119,104,101,110,32])++arg i 1
theorem PS (n:Nat)(arg:Nat→Int→Bs)(k:Nat):caseT n arg (k+1)=caseT n arg k++((if k % 2=1 then [32,116,104,101,110,32] else if k+1=n then [32,101,108,115,101,32] else [32,119,104,101,110,32])++arg k 1):=by
 unfold caseT;rw [List.range_succ,List.flatMap_append];simp
theorem UT (n:Nat)(arg:Nat→Int→Bs):∀(d k:Nat),(caseT n arg k).length≤(caseT n arg (k+d)).length
 |0,k=>Nat.le_refl _
 |d+1,k=>by
  have:=UT n arg d k;rw [←Nat.add_assoc,PS,List.length_append];omega
def LY (x:Ex):Bool:=x.name==[99,111,117,110,116]&&x.args.length==1&&(x.args.getD 0 ex0).kind==3
def UV (x:Ex):Bs:=
 if x.kind=8 then [108,101,110,103,116,104,40]++Bd true x 0 1++[41] else
 if x.kind=27 then [99,111,97,108,101,115,99,101,40]++Ip true x.args++[41] else
 if x.kind=26 then [99,97,115,101]++caseT x.args.length (Bd true x) x.args.length++[32,101,110,100] else
 if x.kind=28 then x.name++[40]++(if x.distinct then [100,105,115,116,105,110,99,116,32] else [])++(if LY x then [42] else Bd true x 0 1)++[41] else [63]
theorem Og {x:Ex}(hs:Fe x.kind=none)(h:x.kind≠1∧x.kind≠2∧x.kind≠4∧x.kind≠5∧x.kind≠6∧x.kind≠7∧x.kind≠24∧x.kind≠25):BJ true x (Bd true x)=UV x:=by
 unfold BJ UV;rw [hs];simp only [h,if_false];have hr:=Ji true x 0;simp only [Nat.sub_zero,Nat.add_zero,List.drop_zero] at hr;rw [hr];simp only [Bool.true_or,Bool.and_true,caseT,Ip,LY];rfl
section
variable {ω:Om}{G I:Imm}{L F:LH}{K:Value→M}{b:Nat}{w:Value}{X:LH}{l:Bs}{n:Nat}
theorem Nj (hE:PV ω G b w n){x:Ex}(hd:Cm x≤n+1)(hx:okE x)(hGI:Ext G I)(hw:StL I w wordsL)[hs:SplitL X L F](hW:WrS b w X l){c:List Value}(hc:ExV I x c)
  (hn:(l++UV x).length≤1000000000) (hk:∀I' X',Ext I I'→WrS b w X' (l++UV x)→K (.tuple #[]) I' (X'++F)):CT ω 179 #[AX b,.agg c.toArray] K I L:=by
 refine Cal.split X ?_;refine AMm ?_;unfold ACj;obtain ⟨v,rfl,ha⟩:=ExV.iff.1 hc;obtain ⟨hv0,hal,hla⟩:=Gx hx;have hdd:=EO x;unfold UV at hn hk;refine AV (fun bx=>?_);try simp only [SSd,Nat.reduceAdd]
 refine rdb ?_;try simp only [SSd,Nat.reduceAdd]
 refine AA (fun h=>?_) (fun h=>?_)
 ·have h:x.kind=8:=by simpa using h
  rw [if_pos h] at hn hk;simp only [List.length_append,List.length_cons,List.length_nil] at hn;refine BL hW (by simp only [List.length_append,List.length_cons,List.length_nil];omega) (fun I1 X1 hI1 hW1=>?_);refine rdB rfl ?_;refine call (BN (X:=X1) hE hd hx 0 1 (Ext.trans hGI hI1) (StL.mono hw hI1) hW1 (ExV.mono hI1 hc) (by simp only [List.length_append,List.length_cons,List.length_nil];omega) (fun I2 X2 hI2 hW2=>?_));refine BL hW2 (by simp only [List.length_append,List.length_cons,List.length_nil];omega) (fun I3 X3 hI3 hW3=>?_);exact Gh.to (X3++F) (Gh.done (hk I3 X3 (Ext.trans hI1 (Ext.trans hI2 hI3)) (by simpa using hW3)))
 have h8:x.kind≠8:=by simpa using h
 rw [if_neg h8] at hn hk;try simp only [SSd,Nat.reduceAdd]
 refine AA (fun h=>?_) (fun h=>?_)
 ·have h:x.kind=27:=by simpa using h
  rw [if_pos h] at hn hk;have he:[99,111,97,108,101,115,99,101,40]++Ip true x.args++[41]=[99,111,97,108,101,115,99,101]++rowB true x.args:=by simp [rowB]
  rw [he] at hn hk;simp only [List.length_append,List.length_cons,List.length_nil] at hn;refine BL hW (by simp only [List.length_append,List.length_cons,List.length_nil];omega) (fun I1 X1 hI1 hW1=>?_);try simp only [SSd,Nat.reduceAdd]
  refine rdb ?_;refine call (JD (X:=X1) hE (by omega) hla hal (Ext.trans hGI hI1) (StL.mono hw hI1) hW1 (ExL.mono ha hI1) (by simp only [List.length_append,List.length_cons,List.length_nil];omega) (fun I2 X2 hI2 hW2=>?_));exact Gh.to (X2++F) (Gh.done (hk I2 X2 (Ext.trans hI1 hI2) (by simpa using hW2)))
 have h27:x.kind≠27:=by simpa using h
 rw [if_neg h27] at hn hk;try simp only [SSd,Nat.reduceAdd]
 refine AA (fun h=>?_) (fun h=>?_)
 ·have h:x.kind=26:=by simpa using h
  rw [if_pos h] at hn hk;simp only [List.length_append,List.length_cons,List.length_nil] at hn;refine BL hW (by simp only [List.length_append,List.length_cons,List.length_nil];omega) (fun I1 X1 hI1 hW1=>?_);try simp only [SSd,Nat.reduceAdd]
  refine rdb ?_;simp only [RL.len ha,SSd,Nat.reduceAdd];refine loop (fun q st I' L'=>∃(k:Nat) (X':LH),k+q=x.args.length∧st=(.int .i64 k,())∧Ext I I'∧L'=X'++((bx,.cells (BG x v).toArray 37 (0,0))::F)∧WrS b w X' ((l++[99,97,115,101])++caseT x.args.length (Bd true x) k)) x.args.length ⟨0,X1,by omega,rfl,hI1,rfl,by simpa [caseT] using hW1⟩ ?_;rintro q st I' L' ⟨k,X',hkq,rfl,hI',rfl,hW'⟩;unfold Wv;try simp only [SSd,Nat.reduceAdd]
  refine AA (fun hb=>?_) (fun hb=>?_)
  ·have hb:k < x.args.length:=by
    have:=of_decide_eq_true hb;omega
   obtain ⟨bt,off,c1,g1,gl,g2,g3⟩:=RL.ix ha (i:=k) (by omega) (by omega);rw [BA hb] at g2;have hone:=ExV.one g2;have hsu:=PS x.args.length (Bd true x) k;have hle:=UT x.args.length (Bd true x) (x.args.length - (k+1)) (k+1);rw [show k+1+(x.args.length - (k+1))=x.args.length by omega,hsu] at hle;simp only [List.length_append] at hle;simp only [g1,SSd,Nat.reduceAdd];refine Dq (g3 _ [] hI' (fun _ h=>h)) (Ext.refl _) gl ?_;refine AV (fun b3=>?_);refine stB gl rfl hone ?_;have fin:∀(s:Bs) (I2:Imm) (X2:LH),Ext I I2→s=(if k % 2=1 then [32,116,104,101,110,32] else if k+1=x.args.length then [32,101,108,115,101,32] else [32,119,104,101,110,32])→WrS b w X2 (((l++[99,97,115,101])++caseT x.args.length (Bd true x) k)++s)→Ju ω (AX b) (AX b3) (.int .i64 k) (fun s'=>Gh fun I2 L2=>∃m',m' < q∧∃(k:Nat) (X':LH),k+m'=x.args.length∧s'=(.int .i64 k,())∧Ext I I2∧L2=X'++((bx,.cells (BG x v).toArray 37 (0,0))::F)∧WrS b w X' ((l++[99,97,115,101])++caseT x.args.length (Bd true x) k)) (fun v=>Gh (K v)) I2 (X2++((b3,.cells c1.toArray 37 (0,0))::(bx,.cells (BG x v).toArray 37 (0,0))::F)):=by
    intro s I2 X2 hI2 hse hW2;rw [←hse] at hle hsu;unfold Ju;refine VM (T:=37) (by simp) gl ?_;have hm:=GH (List.getElem_mem hb);have hex:Bd true x k 1=exB true x.args[k] 1:=LU hb 1;rw [hex] at hle hsu;refine call (Cal.to (X2++((bx,.cells (BG x v).toArray 37 (0,0))::F)) (hE x.args[k] (by omega) (FO hla (List.getElem_mem hb)) 1 I2 X2 _ _ c1 _ (Ext.trans hGI hI2) (StL.mono hw hI2) hW2 (ExV.mono hI2 g2) (by simp only [List.length_append,List.length_cons,List.length_nil];omega) (fun I3 X3 hI3 hW3=>?_)));simp only [wrap_i64 ((k:Int)+1) (by omega),SSd,Nat.reduceAdd];exact Gh.done ⟨q - 1,by omega,k+1,X3,by omega,rfl,Ext.trans hI2 hI3,rfl,by rw [hsu];simpa using hW3⟩
   have hrem:AL .rem (.int .i64 (k:Int)) (.int .i64 2)=some (.int .i64 ((k % 2:Nat):Int)):=by
    rw [Ua _ _ .i64 (by decide),Int.tmod_eq_emod_of_nonneg (by omega)];simp
   simp only [hrem,SSd,Nat.reduceAdd];refine AA (fun h1=>?_) (fun h1=>?_)
   ·have h1:k % 2=1:=by
     have:((k % 2:Nat):Int)=1:=by simpa using h1
     omega
    rw [if_pos h1] at hle;simp only [List.length_cons,List.length_nil] at hle;refine BL (X:=X') hW' (by simp only [List.length_append,List.length_cons,List.length_nil];omega) (fun I2 X2 hI2 hW2=>?_);exact fin _ I2 X2 (Ext.trans hI' hI2) (by rw [if_pos h1]) hW2
   have h1:¬k % 2=1:=by
    have:¬((k % 2:Nat):Int)=1:=by simpa using h1
    omega
   rw [if_neg h1] at hle;simp only [wrap_i64 ((k:Int)+1) (by omega),SSd,Nat.reduceAdd];refine rdb ?_;simp only [RL.len ha,SSd,Nat.reduceAdd];refine AA (fun h2=>?_) (fun h2=>?_)
   ·have h2:k+1=x.args.length:=by
     have:(k:Int)+1=x.args.length:=by simpa using h2
     omega
    rw [if_pos h2] at hle;simp only [List.length_cons,List.length_nil] at hle;refine BL (X:=X') hW' (by simp only [List.length_append,List.length_cons,List.length_nil];omega) (fun I2 X2 hI2 hW2=>?_);exact fin _ I2 X2 (Ext.trans hI' hI2) (by rw [if_neg h1,if_pos h2]) hW2
   ·have h2:¬k+1=x.args.length:=by
     have:¬(k:Int)+1=x.args.length:=by simpa using h2
     omega
    rw [if_neg h2] at hle;simp only [List.length_cons,List.length_nil] at hle;refine BL (X:=X') hW' (by simp only [List.length_append,List.length_cons,List.length_nil];omega) (fun I2 X2 hI2 hW2=>?_);exact fin _ I2 X2 (Ext.trans hI' hI2) (by rw [if_neg h1,if_neg h2]) hW2
  ·have hb:¬k < x.args.length:=by
    have:=of_decide_eq_false hb;omega
   obtain rfl:k=x.args.length:=by omega
   unfold Wu;refine BL (X:=X') hW' (by simp only [List.length_append,List.length_cons,List.length_nil];omega) (fun I2 X2 hI2 hW2=>?_);exact Gh.to (X2++F) (Gh.done (hk I2 X2 (Ext.trans hI' hI2) (by simpa using hW2)))
 have h26:x.kind≠26:=by simpa using h
 rw [if_neg h26] at hn hk;try simp only [SSd,Nat.reduceAdd]
 refine AA (fun h=>?_) (fun h=>?_)
 ·have h:x.kind=28:=by simpa using h
  rw [if_pos h] at hn hk;simp only [List.length_append,List.length_cons,List.length_nil] at hn;try simp only [SSd,Nat.reduceAdd]
  refine rdb ?_;refine APm hW (by simp only [List.length_append,List.length_cons,List.length_nil];omega) (fun I1 X1 hI1 hW1=>?_);have fin8:∀(s:Bs) (I2:Imm) (X2:LH),Ext I I2→s=(if x.distinct then [100,105,115,116,105,110,99,116,32] else [])→WrS b w X2 ((l++(x.name++[40]))++s)→MR ω (AX b) (AX bx) (fun v=>Gh (K v)) I2 (X2++((bx,.cells (BG x v).toArray 37 (0,0))::F)):=by
   intro s I2 X2 hI2 hse hW2;rw [←hse] at hn hk;have no:LY x=false→IZ ω (AX b) (AX bx) (fun v=>Gh (K v)) I2 (X2++((bx,.cells (BG x v).toArray 37 (0,0))::F)):=by
    intro hst;rw [hst] at hn hk;simp only [Bool.false_eq_true,if_false] at hn hk;unfold IZ;refine VM (l:=BG x v) (T:=37) (by simp) rfl ?_;refine call (BN (X:=X2) hE hd hx 0 1 (Ext.trans hGI hI2) (StL.mono hw hI2) hW2 (ExV.mono hI2 hc) (by simp only [List.length_append,List.length_cons,List.length_nil];omega) (fun I3 X3 hI3 hW3=>?_));unfold Jw;refine BL hW3 (by simp only [List.length_append,List.length_cons,List.length_nil];omega) (fun I4 X4 hI4 hW4=>?_);exact Gh.to (X4++F) (Gh.done (hk I4 X4 (Ext.trans hI2 (Ext.trans hI3 hI4)) (by simpa using hW4)))
   unfold MR;try simp only [SSd,Nat.reduceAdd]
   refine rdb ?_;simp only [RL.len ha,SSd,Nat.reduceAdd];refine AP (fun h1=>?_) (fun h1=>?_)
   ·have h1:x.args.length=1:=by
     have:(x.args.length:Int)=1:=by simpa using h1
     omega
    obtain ⟨bt,off,c1,g1,gl,g2,g3⟩:=RL.ix ha (i:=0) (by omega) (by omega);obtain ⟨v1,rfl,_⟩:=ExV.iff.1 g2;have hg0:x.args.getD 0 ex0=MG x.args 0:=rfl;try simp only [SSd,Nat.reduceAdd]
    refine rdb ?_;simp only [g1,SSd,Nat.reduceAdd];refine rdC (g3 I2 [] hI2 (fun _ h=>h) 0 _ rfl) (Ext.refl _) ?_;try simp only [SSd,Nat.reduceAdd]
    refine AP (fun h2=>?_) (fun h2=>?_)
    ·try simp only [SSd,Nat.reduceAdd]
     refine rdb ?_;try simp only [SSd,Nat.reduceAdd]
     refine AA (fun h3=>?_) (fun h3=>?_)
     ·have h2:((MG x.args 0).kind==3)=true:=by simpa using h2
      have h3:(x.name==[99,111,117,110,116])=true:=by simpa using h3
      have hst:LY x=true:=by unfold LY;rw [hg0,h3,h2,h1];rfl
      rw [hst] at hn hk;simp only [if_true,List.length_cons,List.length_nil] at hn hk;unfold Ws;refine BL (X:=X2) hW2 (by simp only [List.length_append,List.length_cons,List.length_nil];omega) (fun I3 X3 hI3 hW3=>?_);unfold Jw;refine BL hW3 (by simp only [List.length_append,List.length_cons,List.length_nil];omega) (fun I4 X4 hI4 hW4=>?_);exact Gh.to (X4++F) (Gh.done (hk I4 X4 (Ext.trans hI2 (Ext.trans hI3 hI4)) (by simpa using hW4)))
     ·have h3:(x.name==[99,111,117,110,116])=false:=by simpa using h3
      exact no (by unfold LY;rw [h3];simp)
    ·have h2:((MG x.args 0).kind==3)=false:=by simpa using h2
     exact no (by unfold LY;rw [hg0,h2];simp)
   ·have h1:(x.args.length==1)=false:=by
     have:¬(x.args.length:Int)=1:=by simpa using h1
     simp;omega
    exact no (by unfold LY;rw [h1];simp)
  try simp only [SSd,Nat.reduceAdd]
  refine rdb ?_;refine AA (fun h1=>?_) (fun h1=>?_)
  ·rw [h1] at hn fin8;simp only [if_true,List.length_cons,List.length_nil] at hn;refine BL hW1 (by simp only [List.length_append,List.length_cons,List.length_nil];omega) (fun I2 X2 hI2 hW2=>?_);exact fin8 _ I2 X2 (Ext.trans hI1 hI2) (by simp) hW2
  ·rw [h1] at fin8;exact fin8 [] I1 X1 hI1 (by simp) (by simpa using hW1)
 have h28:x.kind≠28:=by simpa using h
 rw [if_neg h28] at hn hk;refine BL hW hn (fun I1 X1 hI1 hW1=>?_);exact Gh.to (X1++F) (Gh.done (hk I1 X1 hI1 hW1))
end
abbrev shO (c:List Value):Obj:=.cells c.toArray 210 (0,0)
abbrev exO (x:Ex)(v:Value):Obj:=.cells (BG x v).toArray 37 (0,0)
section
variable {ω:Om}{G I:Imm}{L F Y:LH}{K:Value→M}{b:Nat}{w:Value}{X:LH}{l:Bs}{n:Nat}
set_option maxHeartbeats 1000000 in
theorem JJ (hE:PV ω G b w n){x:Ex}{v:Value}{bx bs:Nat}{fb:Bool}{sc:List Value}(hd:Cm x≤n+1)(hx:okE x)(hG:Eb G)(hGI:Ext G I)(hw:StL I w wordsL)[hs:SplitL X L Y][i1:InL bx L (exO x v)][i2:InL bx Y (exO x v)][i3:InL bs L (shO sc)][i4:InL bs Y (shO sc)](hW:WrS b w X l)(hc:ExV I x (BG x v))
  (hsh:(∃s k,Fe x.kind=some (s,k)∧fb=true∧sc=[.string ⟨s.toArray⟩,.int .i64 k])∨(Fe x.kind=none∧fb=false))
  (hn:(l++BJ true x (Bd true x)).length≤1000000000) (hk:∀I' X',Ext I I'→WrS b w X' (l++BJ true x (Bd true x))→Gh (K (.tuple #[])) I' (X'++Y)):
  KD ω (AX b) (AX bx) (AX bs) (.bool fb) (fun v=>Gh (K v)) I L:=by
 obtain ⟨v',hv',ha⟩:=ExV.iff.1 hc;obtain rfl:v=v':=by simpa [BG] using hv'
 obtain ⟨hv0,hal,hla⟩:=Gx hx;have hdd:=EO x;unfold KD;rcases hsh with ⟨s,k,hsg,rfl,rfl⟩|⟨hsg,rfl⟩
 ·have hin:BJ true x (Bd true x)=Bd true x 0 (if k=4 then 5 else k)++(([32]++(s++[32]))++Bd true x 1 (k+1)):=by
   unfold BJ;rw [hsg];simp
  rw [hin] at hn hk;simp only [List.length_append,List.length_cons,List.length_nil] at hn;have hsm:=Nw hsg;have bin:∀lv:Int,lv=(if k=4 then 5 else k)→NH ω (AX b) (AX bx) (AX bs) (.int .i64 lv) (fun v=>Gh (K v)) I L:=by
   intro lv hlv;rw [←hlv] at hn hk;unfold NH;refine rdB rfl ?_;refine call (BN (X:=X) hE hd hx 0 lv hGI hw hW hc (by simp only [List.length_append,List.length_cons,List.length_nil];omega) (fun I1 X1 hI1 hW1=>?_));try simp only [SSd,Nat.reduceAdd]
   refine rdb ?_;refine ALV hW1 (by simp only [List.length_append,List.length_cons,List.length_nil];omega) (fun I2 X2 hI2 hW2=>?_);refine rdB rfl ?_;try simp only [SSd,Nat.reduceAdd]
   refine rdb ?_;simp only [wrap_i64 (k+1) (by omega),SSd,Nat.reduceAdd];refine call (BN (X:=X2) hE hd hx 1 (k+1) (Ext.trans hGI (Ext.trans hI1 hI2)) (StL.mono hw (Ext.trans hI1 hI2)) hW2 (ExV.mono (Ext.trans hI1 hI2) hc) (by simp only [List.length_append,List.length_cons,List.length_nil];omega) (fun I3 X3 hI3 hW3=>?_));exact hk I3 X3 (Ext.trans hI1 (Ext.trans hI2 hI3)) (by simpa using hW3)
  try simp only [SSd,Nat.reduceAdd]
  refine rdb ?_;try simp only [SSd,Nat.reduceAdd]
  refine AA (fun h=>?_) (fun h=>?_)
  ·exact bin 5 (by rw [if_pos (by simpa using h)])
  ·exact bin k (by rw [if_neg (by simpa using h)])
 try simp only [SSd,Nat.reduceAdd]
 refine rdb ?_;try simp only [SSd,Nat.reduceAdd]
 refine AA (fun h=>?_) (fun h=>?_)
 ·have h:x.kind=1:=by simpa using h
  have hin:BJ true x (Bd true x)=Yg true x.value:=by unfold BJ;rw [hsg];simp [h]
  rw [hin] at hn hk;try simp only [SSd,Nat.reduceAdd]
  refine rdP _ rfl rfl ?_;refine call (Nr (X:=X) hG hGI hW x.value hv0 hn (fun I1 X1 hI1 hW1=>?_));exact hk I1 X1 hI1 hW1
 have h1:x.kind≠1:=by simpa using h
 try simp only [SSd,Nat.reduceAdd]
 refine AA (fun h=>?_) (fun h=>?_)
 ·have h:x.kind=2:=by simpa using h
  have hin:BJ true x (Bd true x)=(if x.table.isEmpty then [] else nameB x.table++[46])++nameB x.name:=by unfold BJ;rw [hsg];simp [h]
  rw [hin] at hn hk;simp only [List.length_append] at hn;have col:∀(s:Bs) (I1:Imm) (X1 L1:LH) [SplitL X1 L1 Y] [InL bx L1 (exO x v)],Ext I I1→s=(if x.table.isEmpty then [] else nameB x.table++[46])→WrS b w X1 (l++s)→KF ω (AX b) (AX bx) (fun v=>Gh (K v)) I1 L1:=by
   intro s I1 X1 L1 _ _ hI1 hse hW1;rw [←hse] at hn hk;unfold KF;try simp only [SSd,Nat.reduceAdd]
   refine rdb ?_;refine call (BP (X:=X1) hW1 (StL.mono hw hI1) x.name (by simp only [List.length_append,List.length_cons,List.length_nil];omega) (fun I2 X2 hI2 hW2=>?_));exact hk I2 X2 (Ext.trans hI1 hI2) (by simpa using hW2)
  try simp only [SSd,Nat.reduceAdd]
  refine rdb ?_;simp only [sNe,SSd,Nat.reduceAdd];cases ht:x.table with
  |nil=>
   rw [ht] at col;simp only [show (([]:Bs)==[])=true from rfl,Bool.not_true,SSd,Nat.reduceAdd];exact col [] I X L (Ext.refl I) rfl (by simpa using hW)
  |cons c r=>
   rw [ht] at col hn;simp only [List.isEmpty_cons,Bool.false_eq_true,if_false,List.length_append,List.length_cons,List.length_nil] at hn;simp only [show ((c::r)==([]:Bs))=false from rfl,Bool.not_false,SSd,Nat.reduceAdd];refine rdb ?_;refine call (BP (X:=X) hW hw x.table (by rw [ht];simp only [List.length_append,List.length_cons,List.length_nil];omega) (fun I1 X1 hI1 hW1=>?_));refine BL hW1 (by rw [ht];simp only [List.length_append,List.length_cons,List.length_nil];omega) (fun I2 X2 hI2 hW2=>?_);exact col (nameB (c::r)++[46]) I2 X2 _ (Ext.trans hI1 hI2) (by simp) (by rw [ht] at hW2;simpa using hW2)
 have h2:x.kind≠2:=by simpa using h
 try simp only [SSd,Nat.reduceAdd]
 refine AA (fun h=>?_) (fun h=>?_)
 ·have h:x.kind=4:=by simpa using h
  have hin:BJ true x (Bd true x)=[45]++Bd true x 0 8:=by unfold BJ;rw [hsg];simp [h]
  rw [hin] at hn hk;simp only [List.length_append,List.length_cons,List.length_nil] at hn;refine BL (X:=X) hW (by simp only [List.length_append,List.length_cons,List.length_nil];omega) (fun I1 X1 hI1 hW1=>?_);refine rdB rfl ?_;refine call (BN (X:=X1) hE hd hx 0 8 (Ext.trans hGI hI1) (StL.mono hw hI1) hW1 (ExV.mono hI1 hc) (by simp only [List.length_append,List.length_cons,List.length_nil];omega) (fun I2 X2 hI2 hW2=>?_));exact hk I2 X2 (Ext.trans hI1 hI2) (by simpa using hW2)
 have h4:x.kind≠4:=by simpa using h
 try simp only [SSd,Nat.reduceAdd]
 refine AA (fun h=>?_) (fun h=>?_)
 ·have h:x.kind=5:=by simpa using h
  have hin:BJ true x (Bd true x)=[110,111,116,32]++Bd true x 0 3:=by unfold BJ;rw [hsg];simp [h]
  rw [hin] at hn hk;simp only [List.length_append,List.length_cons,List.length_nil] at hn;refine BL (X:=X) hW (by simp only [List.length_append,List.length_cons,List.length_nil];omega) (fun I1 X1 hI1 hW1=>?_);refine rdB rfl ?_;refine call (BN (X:=X1) hE hd hx 0 3 (Ext.trans hGI hI1) (StL.mono hw hI1) hW1 (ExV.mono hI1 hc) (by simp only [List.length_append,List.length_cons,List.length_nil];omega) (fun I2 X2 hI2 hW2=>?_));exact hk I2 X2 (Ext.trans hI1 hI2) (by simpa using hW2)
 have h5:x.kind≠5:=by simpa using h
 try simp only [SSd,Nat.reduceAdd]
 refine AA (fun h=>?_) (fun h=>?_)
 ·have h:x.kind=6:=by simpa using h
  have hin:BJ true x (Bd true x)=Bd true x 0 5++[32,105,115,32,110,117,108,108]:=by unfold BJ;rw [hsg];simp [h]
  rw [hin] at hn hk;simp only [List.length_append,List.length_cons,List.length_nil] at hn;refine rdB rfl ?_;refine call (BN (X:=X) hE hd hx 0 5 hGI hw hW hc (by simp only [List.length_append,List.length_cons,List.length_nil];omega) (fun I1 X1 hI1 hW1=>?_));refine BL hW1 (by simp only [List.length_append,List.length_cons,List.length_nil];omega) (fun I2 X2 hI2 hW2=>?_);exact hk I2 X2 (Ext.trans hI1 hI2) (by simpa using hW2)
 have h6:x.kind≠6:=by simpa using h
 try simp only [SSd,Nat.reduceAdd]
 refine AA (fun h=>?_) (fun h=>?_)
 ·have h:x.kind=7:=by simpa using h
  have hin:BJ true x (Bd true x)=Bd true x 0 5++[32,105,115,32,110,111,116,32,110,117,108,108]:=by unfold BJ;rw [hsg];simp [h]
  rw [hin] at hn hk;simp only [List.length_append,List.length_cons,List.length_nil] at hn;refine rdB rfl ?_;refine call (BN (X:=X) hE hd hx 0 5 hGI hw hW hc (by simp only [List.length_append,List.length_cons,List.length_nil];omega) (fun I1 X1 hI1 hW1=>?_));refine BL hW1 (by simp only [List.length_append,List.length_cons,List.length_nil];omega) (fun I2 X2 hI2 hW2=>?_);exact hk I2 X2 (Ext.trans hI1 hI2) (by simpa using hW2)
 have h7:x.kind≠7:=by simpa using h
 try simp only [SSd,Nat.reduceAdd]
 refine AA (fun h=>?_) (fun h=>?_)
 ·have h:x.kind=24:=by simpa using h
  have hin:BJ true x (Bd true x)=Bd true x 0 5++([32,105,110,32]++rowB true (x.args.drop 1)):=by
   unfold BJ;rw [hsg];simp only [h];have hr:=Ji true x 1;rw [hr];simp [rowB,Ip]
  rw [hin] at hn hk;simp only [List.length_append,List.length_cons,List.length_nil] at hn;refine rdB rfl ?_;refine call (BN (X:=X) hE hd hx 0 5 hGI hw hW hc (by simp only [List.length_append,List.length_cons,List.length_nil];omega) (fun I1 X1 hI1 hW1=>?_));refine BL hW1 (by simp only [List.length_append,List.length_cons,List.length_nil];omega) (fun I2 X2 hI2 hW2=>?_);have hI12:=Ext.trans hI1 hI2;try simp only [SSd,Nat.reduceAdd]
  refine rdb ?_;try simp only [SSd,Nat.reduceAdd]
  refine rdb ?_;simp only [RL.len ha,SSd,Nat.reduceAdd];obtain ⟨v2,hv2,hr2⟩:=RL.part (ExL.mono ha hI12) (lo:=min 1 x.args.length) (hi:=x.args.length) (by omega) (Nat.le_refl _) (some (.int .i64 (if (x.args.length:Int) < 1 then (x.args.length:Int) else 1))) none (by
   rw [show (if (x.args.length:Int) < 1 then (x.args.length:Int) else 1)=((min 1 x.args.length:Nat):Int) by split <;> omega];exact SQ _ _ _ _ (by omega)) (fun cap hc=>by simp [DR])
  have hdr:(x.args.drop (min 1 x.args.length)).take (x.args.length - min 1 x.args.length)=x.args.drop 1:=by
   rw [List.take_of_length_le (by simp)];by_cases h0:x.args.length=0
   ·rw [List.length_eq_zero_iff] at h0;rw [h0];rfl
   ·congr 1;omega
  rw [hdr] at hr2;simp only [hv2,SSd,Nat.reduceAdd];have hap:x.args=x.args.take 1++x.args.drop 1:=(List.take_append_drop 1 x.args).symm;have hdp:BR (x.args.drop 1)≤n:=by
   have h:=Eo (x.args.take 1) (x.args.drop 1);rw [←hap] at h;omega
  refine call (JD (X:=X2) hE hdp (Rt fun y hy=>FO hla (List.mem_of_mem_drop hy)) (by rw [List.length_drop];omega) (Ext.trans hGI hI12) (StL.mono hw hI12) hW2 hr2 (by simp only [List.length_append,List.length_cons,List.length_nil];omega) (fun I3 X3 hI3 hW3=>?_));exact hk I3 X3 (Ext.trans hI12 hI3) (by simpa using hW3)
 have h24:x.kind≠24:=by simpa using h
 try simp only [SSd,Nat.reduceAdd]
 refine AA (fun h=>?_) (fun h=>?_)
 ·have h:x.kind=25:=by simpa using h
  have hin:BJ true x (Bd true x)=Bd true x 0 5++([32,98,101,116,119,101,101,110,32]++(Bd true x 1 5++([32,97,110,100,32]++Bd true x 2 5))):=by unfold BJ;rw [hsg];simp [h]
  rw [hin] at hn hk;simp only [List.length_append,List.length_cons,List.length_nil] at hn;refine rdB rfl ?_;refine call (BN (X:=X) hE hd hx 0 5 hGI hw hW hc (by simp only [List.length_append,List.length_cons,List.length_nil];omega) (fun I1 X1 hI1 hW1=>?_));refine BL hW1 (by simp only [List.length_append,List.length_cons,List.length_nil];omega) (fun I2 X2 hI2 hW2=>?_);refine rdB rfl ?_;have hI12:=Ext.trans hI1 hI2;refine call (BN (X:=X2) hE hd hx 1 5 (Ext.trans hGI hI12) (StL.mono hw hI12) hW2 (ExV.mono hI12 hc) (by simp only [List.length_append,List.length_cons,List.length_nil];omega) (fun I3 X3 hI3 hW3=>?_));refine BL hW3 (by simp only [List.length_append,List.length_cons,List.length_nil];omega) (fun I4 X4 hI4 hW4=>?_);refine rdB rfl ?_;have hI14:=Ext.trans hI12 (Ext.trans hI3 hI4);refine call (BN (X:=X4) hE hd hx 2 5 (Ext.trans hGI hI14) (StL.mono hw hI14) hW4 (ExV.mono hI14 hc) (by simp only [List.length_append,List.length_cons,List.length_nil];omega) (fun I5 X5 hI5 hW5=>?_));exact hk I5 X5 (Ext.trans hI14 hI5) (by simpa using hW5)
 have h25:x.kind≠25:=by simpa using h
 rw [Og hsg ⟨h1,h2,h4,h5,h6,h7,h24,h25⟩] at hn hk;refine rdB rfl ?_;refine call (Nj (X:=X) hE hd hx hGI hw hW hc hn (fun I1 X1 hI1 hW1=>?_));exact hk I1 X1 hI1 hW1
set_option maxHeartbeats 1000000 in
theorem JK (hE:PV ω G b w n){x:Ex}{v:Value}{bx bs:Nat}{fb:Bool}{sc:List Value}(hd:Cm x≤n+1)(hx:okE x)(hG:Eb G)(hGI:Ext G I)(hw:StL I w wordsL)[hs:SplitL X L Y][i1:InL bx L (exO x v)][i2:InL bx Y (exO x v)][i3:InL bs L (shO sc)][i4:InL bs Y (shO sc)](hW:WrS b w X l)(hc:ExV I x (BG x v))
  (hsh:(∃s k,Fe x.kind=some (s,k)∧fb=true∧sc=[.string ⟨s.toArray⟩,.int .i64 k])∨(Fe x.kind=none∧fb=false)) {W3 W4:Value}
  (hn:(l++BJ true x (Bd true x)).length≤1000000000) (hk:∀I' X',Ext I I'→WrS b w X' (l++BJ true x (Bd true x))→Dx ω W3 W4 (fun v=>Gh (K v)) I' (X'++Y)):
  KE ω (AX b) (AX bx) (AX bs) (.bool fb) W3 W4 (fun v=>Gh (K v)) I L:=by
 obtain ⟨v',hv',ha⟩:=ExV.iff.1 hc;obtain rfl:v=v':=by simpa [BG] using hv'
 obtain ⟨hv0,hal,hla⟩:=Gx hx;have hdd:=EO x;unfold KE;rcases hsh with ⟨s,k,hsg,rfl,rfl⟩|⟨hsg,rfl⟩
 ·have hin:BJ true x (Bd true x)=Bd true x 0 (if k=4 then 5 else k)++(([32]++(s++[32]))++Bd true x 1 (k+1)):=by
   unfold BJ;rw [hsg];simp
  rw [hin] at hn hk;simp only [List.length_append,List.length_cons,List.length_nil] at hn;have hsm:=Nw hsg;have bin:∀lv:Int,lv=(if k=4 then 5 else k)→NJ ω (AX b) (AX bx) (AX bs) (.int .i64 lv) W3 W4 (fun v=>Gh (K v)) I L:=by
   intro lv hlv;rw [←hlv] at hn hk;unfold NJ;refine rdB rfl ?_;refine call (BN (X:=X) hE hd hx 0 lv hGI hw hW hc (by simp only [List.length_append,List.length_cons,List.length_nil];omega) (fun I1 X1 hI1 hW1=>?_));try simp only [SSd,Nat.reduceAdd]
   refine rdb ?_;refine ALV hW1 (by simp only [List.length_append,List.length_cons,List.length_nil];omega) (fun I2 X2 hI2 hW2=>?_);refine rdB rfl ?_;try simp only [SSd,Nat.reduceAdd]
   refine rdb ?_;simp only [wrap_i64 (k+1) (by omega),SSd,Nat.reduceAdd];refine call (BN (X:=X2) hE hd hx 1 (k+1) (Ext.trans hGI (Ext.trans hI1 hI2)) (StL.mono hw (Ext.trans hI1 hI2)) hW2 (ExV.mono (Ext.trans hI1 hI2) hc) (by simp only [List.length_append,List.length_cons,List.length_nil];omega) (fun I3 X3 hI3 hW3=>?_));exact hk I3 X3 (Ext.trans hI1 (Ext.trans hI2 hI3)) (by simpa using hW3)
  try simp only [SSd,Nat.reduceAdd]
  refine rdb ?_;try simp only [SSd,Nat.reduceAdd]
  refine AA (fun h=>?_) (fun h=>?_)
  ·exact bin 5 (by rw [if_pos (by simpa using h)])
  ·exact bin k (by rw [if_neg (by simpa using h)])
 try simp only [SSd,Nat.reduceAdd]
 refine rdb ?_;try simp only [SSd,Nat.reduceAdd]
 refine AA (fun h=>?_) (fun h=>?_)
 ·have h:x.kind=1:=by simpa using h
  have hin:BJ true x (Bd true x)=Yg true x.value:=by unfold BJ;rw [hsg];simp [h]
  rw [hin] at hn hk;try simp only [SSd,Nat.reduceAdd]
  refine rdP _ rfl rfl ?_;refine call (Nr (X:=X) hG hGI hW x.value hv0 hn (fun I1 X1 hI1 hW1=>?_));exact hk I1 X1 hI1 hW1
 have h1:x.kind≠1:=by simpa using h
 try simp only [SSd,Nat.reduceAdd]
 refine AA (fun h=>?_) (fun h=>?_)
 ·have h:x.kind=2:=by simpa using h
  have hin:BJ true x (Bd true x)=(if x.table.isEmpty then [] else nameB x.table++[46])++nameB x.name:=by unfold BJ;rw [hsg];simp [h]
  rw [hin] at hn hk;simp only [List.length_append] at hn;have col:∀(s:Bs) (I1:Imm) (X1 L1:LH) [SplitL X1 L1 Y] [InL bx L1 (exO x v)],Ext I I1→s=(if x.table.isEmpty then [] else nameB x.table++[46])→WrS b w X1 (l++s)→NI ω (AX b) (AX bx) W3 W4 (fun v=>Gh (K v)) I1 L1:=by
   intro s I1 X1 L1 _ _ hI1 hse hW1;rw [←hse] at hn hk;unfold NI;try simp only [SSd,Nat.reduceAdd]
   refine rdb ?_;refine call (BP (X:=X1) hW1 (StL.mono hw hI1) x.name (by simp only [List.length_append,List.length_cons,List.length_nil];omega) (fun I2 X2 hI2 hW2=>?_));exact hk I2 X2 (Ext.trans hI1 hI2) (by simpa using hW2)
  try simp only [SSd,Nat.reduceAdd]
  refine rdb ?_;simp only [sNe,SSd,Nat.reduceAdd];cases ht:x.table with
  |nil=>
   rw [ht] at col;simp only [show (([]:Bs)==[])=true from rfl,Bool.not_true,SSd,Nat.reduceAdd];exact col [] I X L (Ext.refl I) rfl (by simpa using hW)
  |cons c r=>
   rw [ht] at col hn;simp only [List.isEmpty_cons,Bool.false_eq_true,if_false,List.length_append,List.length_cons,List.length_nil] at hn;simp only [show ((c::r)==([]:Bs))=false from rfl,Bool.not_false,SSd,Nat.reduceAdd];refine rdb ?_;refine call (BP (X:=X) hW hw x.table (by rw [ht];simp only [List.length_append,List.length_cons,List.length_nil];omega) (fun I1 X1 hI1 hW1=>?_));refine BL hW1 (by rw [ht];simp only [List.length_append,List.length_cons,List.length_nil];omega) (fun I2 X2 hI2 hW2=>?_);exact col (nameB (c::r)++[46]) I2 X2 _ (Ext.trans hI1 hI2) (by simp) (by rw [ht] at hW2;simpa using hW2)
 have h2:x.kind≠2:=by simpa using h
 try simp only [SSd,Nat.reduceAdd]
 refine AA (fun h=>?_) (fun h=>?_)
 ·have h:x.kind=4:=by simpa using h
  have hin:BJ true x (Bd true x)=[45]++Bd true x 0 8:=by unfold BJ;rw [hsg];simp [h]
  rw [hin] at hn hk;simp only [List.length_append,List.length_cons,List.length_nil] at hn;refine BL (X:=X) hW (by simp only [List.length_append,List.length_cons,List.length_nil];omega) (fun I1 X1 hI1 hW1=>?_);refine rdB rfl ?_;refine call (BN (X:=X1) hE hd hx 0 8 (Ext.trans hGI hI1) (StL.mono hw hI1) hW1 (ExV.mono hI1 hc) (by simp only [List.length_append,List.length_cons,List.length_nil];omega) (fun I2 X2 hI2 hW2=>?_));exact hk I2 X2 (Ext.trans hI1 hI2) (by simpa using hW2)
 have h4:x.kind≠4:=by simpa using h
 try simp only [SSd,Nat.reduceAdd]
 refine AA (fun h=>?_) (fun h=>?_)
 ·have h:x.kind=5:=by simpa using h
  have hin:BJ true x (Bd true x)=[110,111,116,32]++Bd true x 0 3:=by unfold BJ;rw [hsg];simp [h]
  rw [hin] at hn hk;simp only [List.length_append,List.length_cons,List.length_nil] at hn;refine BL (X:=X) hW (by simp only [List.length_append,List.length_cons,List.length_nil];omega) (fun I1 X1 hI1 hW1=>?_);refine rdB rfl ?_;refine call (BN (X:=X1) hE hd hx 0 3 (Ext.trans hGI hI1) (StL.mono hw hI1) hW1 (ExV.mono hI1 hc) (by simp only [List.length_append,List.length_cons,List.length_nil];omega) (fun I2 X2 hI2 hW2=>?_));exact hk I2 X2 (Ext.trans hI1 hI2) (by simpa using hW2)
 have h5:x.kind≠5:=by simpa using h
 try simp only [SSd,Nat.reduceAdd]
 refine AA (fun h=>?_) (fun h=>?_)
 ·have h:x.kind=6:=by simpa using h
  have hin:BJ true x (Bd true x)=Bd true x 0 5++[32,105,115,32,110,117,108,108]:=by unfold BJ;rw [hsg];simp [h]
  rw [hin] at hn hk;simp only [List.length_append,List.length_cons,List.length_nil] at hn;refine rdB rfl ?_;refine call (BN (X:=X) hE hd hx 0 5 hGI hw hW hc (by simp only [List.length_append,List.length_cons,List.length_nil];omega) (fun I1 X1 hI1 hW1=>?_));refine BL hW1 (by simp only [List.length_append,List.length_cons,List.length_nil];omega) (fun I2 X2 hI2 hW2=>?_);exact hk I2 X2 (Ext.trans hI1 hI2) (by simpa using hW2)
 have h6:x.kind≠6:=by simpa using h
 try simp only [SSd,Nat.reduceAdd]
 refine AA (fun h=>?_) (fun h=>?_)
 ·have h:x.kind=7:=by simpa using h
  have hin:BJ true x (Bd true x)=Bd true x 0 5++[32,105,115,32,110,111,116,32,110,117,108,108]:=by unfold BJ;rw [hsg];simp [h]
  rw [hin] at hn hk;simp only [List.length_append,List.length_cons,List.length_nil] at hn;refine rdB rfl ?_;refine call (BN (X:=X) hE hd hx 0 5 hGI hw hW hc (by simp only [List.length_append,List.length_cons,List.length_nil];omega) (fun I1 X1 hI1 hW1=>?_));refine BL hW1 (by simp only [List.length_append,List.length_cons,List.length_nil];omega) (fun I2 X2 hI2 hW2=>?_);exact hk I2 X2 (Ext.trans hI1 hI2) (by simpa using hW2)
 have h7:x.kind≠7:=by simpa using h
 try simp only [SSd,Nat.reduceAdd]
 refine AA (fun h=>?_) (fun h=>?_)
 ·have h:x.kind=24:=by simpa using h
  have hin:BJ true x (Bd true x)=Bd true x 0 5++([32,105,110,32]++rowB true (x.args.drop 1)):=by
   unfold BJ;rw [hsg];simp only [h];have hr:=Ji true x 1;rw [hr];simp [rowB,Ip]
  rw [hin] at hn hk;simp only [List.length_append,List.length_cons,List.length_nil] at hn;refine rdB rfl ?_;refine call (BN (X:=X) hE hd hx 0 5 hGI hw hW hc (by simp only [List.length_append,List.length_cons,List.length_nil];omega) (fun I1 X1 hI1 hW1=>?_));refine BL hW1 (by simp only [List.length_append,List.length_cons,List.length_nil];omega) (fun I2 X2 hI2 hW2=>?_);have hI12:=Ext.trans hI1 hI2;try simp only [SSd,Nat.reduceAdd]
  refine rdb ?_;try simp only [SSd,Nat.reduceAdd]
  refine rdb ?_;simp only [RL.len ha,SSd,Nat.reduceAdd];obtain ⟨v2,hv2,hr2⟩:=RL.part (ExL.mono ha hI12) (lo:=min 1 x.args.length) (hi:=x.args.length) (by omega) (Nat.le_refl _) (some (.int .i64 (if (x.args.length:Int) < 1 then (x.args.length:Int) else 1))) none (by
   rw [show (if (x.args.length:Int) < 1 then (x.args.length:Int) else 1)=((min 1 x.args.length:Nat):Int) by split <;> omega];exact SQ _ _ _ _ (by omega)) (fun cap hc=>by simp [DR])
  have hdr:(x.args.drop (min 1 x.args.length)).take (x.args.length - min 1 x.args.length)=x.args.drop 1:=by
   rw [List.take_of_length_le (by simp)];by_cases h0:x.args.length=0
   ·rw [List.length_eq_zero_iff] at h0;rw [h0];rfl
   ·congr 1;omega
  rw [hdr] at hr2;simp only [hv2,SSd,Nat.reduceAdd];have hap:x.args=x.args.take 1++x.args.drop 1:=(List.take_append_drop 1 x.args).symm;have hdp:BR (x.args.drop 1)≤n:=by
   have h:=Eo (x.args.take 1) (x.args.drop 1);rw [←hap] at h;omega
  refine call (JD (X:=X2) hE hdp (Rt fun y hy=>FO hla (List.mem_of_mem_drop hy)) (by rw [List.length_drop];omega) (Ext.trans hGI hI12) (StL.mono hw hI12) hW2 hr2 (by simp only [List.length_append,List.length_cons,List.length_nil];omega) (fun I3 X3 hI3 hW3=>?_));exact hk I3 X3 (Ext.trans hI12 hI3) (by simpa using hW3)
 have h24:x.kind≠24:=by simpa using h
 try simp only [SSd,Nat.reduceAdd]
 refine AA (fun h=>?_) (fun h=>?_)
 ·have h:x.kind=25:=by simpa using h
  have hin:BJ true x (Bd true x)=Bd true x 0 5++([32,98,101,116,119,101,101,110,32]++(Bd true x 1 5++([32,97,110,100,32]++Bd true x 2 5))):=by unfold BJ;rw [hsg];simp [h]
  rw [hin] at hn hk;simp only [List.length_append,List.length_cons,List.length_nil] at hn;refine rdB rfl ?_;refine call (BN (X:=X) hE hd hx 0 5 hGI hw hW hc (by simp only [List.length_append,List.length_cons,List.length_nil];omega) (fun I1 X1 hI1 hW1=>?_));refine BL hW1 (by simp only [List.length_append,List.length_cons,List.length_nil];omega) (fun I2 X2 hI2 hW2=>?_);refine rdB rfl ?_;have hI12:=Ext.trans hI1 hI2;refine call (BN (X:=X2) hE hd hx 1 5 (Ext.trans hGI hI12) (StL.mono hw hI12) hW2 (ExV.mono hI12 hc) (by simp only [List.length_append,List.length_cons,List.length_nil];omega) (fun I3 X3 hI3 hW3=>?_));refine BL hW3 (by simp only [List.length_append,List.length_cons,List.length_nil];omega) (fun I4 X4 hI4 hW4=>?_);refine rdB rfl ?_;have hI14:=Ext.trans hI12 (Ext.trans hI3 hI4);refine call (BN (X:=X4) hE hd hx 2 5 (Ext.trans hGI hI14) (StL.mono hw hI14) hW4 (ExV.mono hI14 hc) (by simp only [List.length_append,List.length_cons,List.length_nil];omega) (fun I5 X5 hI5 hW5=>?_));exact hk I5 X5 (Ext.trans hI14 hI5) (by simpa using hW5)
 have h25:x.kind≠25:=by simpa using h
 rw [Og hsg ⟨h1,h2,h4,h5,h6,h7,h24,h25⟩] at hn hk;refine rdB rfl ?_;refine call (Nj (X:=X) hE hd hx hGI hw hW hc hn (fun I1 X1 hI1 hW1=>?_));exact hk I1 X1 hI1 hW1
end
theorem AOW {P:Program}{ω:Om}{f:FuncId}{args:Array Value}{K:Value→M}{I:Imm}{L:LH}(h:CalD P ω f args K I L):CalD P ω f args (SL.gh K) I L:=fun w hs=>
 CallsDIn.mono (h w hs) fun _ _ _ ⟨hu,v,I',L',he,hs',hk⟩=>⟨hu,v,I',L',he,hs',Gh.done hk⟩
section
variable {ω:Om}{G I:Imm}{L F Y:LH}{K:Value→M}{b:Nat}{w:Value}{X:LH}{l:Bs}{n:Nat}
theorem Ou (hG:Eb G)(n:Nat):PV ω G b w n:=by
 induction n with
 |zero=>exact fun x hd=>by have:=He x;omega
 |succ n hE=>
  intro x hd hx k I X F l c K hGI hw hW hc hn hk;rw [ALi] at hn hk;obtain ⟨v,rfl,ha⟩:=ExV.iff.1 hc;refine ANf ?_;unfold AEK;refine AV (fun bx=>?_);try simp only [SSd,Nat.reduceAdd]
  refine rdb ?_;refine call (VZ x.kind ?_);try simp only [SSd,Nat.reduceAdd]
  refine AA (fun h=>?_) (fun h=>?_)
  ·rw [h] at hn hk;simp only [AIw,if_true] at hn hk;simp only [List.length_append,List.length_cons,List.length_nil] at hn;refine BL hW (by simp only [List.length_append,List.length_cons,List.length_nil];omega) (fun I1 X1 hI1 hW1=>?_);refine DD [[41]] rfl rfl (fun I2 a2 hI2 hv2=>Gh.done ?_);have hI12:=Ext.trans hI1 hI2;have hc2:=ExV.mono hI12 hc;have hw2:=StL.mono hw hI12;have fin:∀(I':Imm) (X':LH) (Y:LH),Ext I2 I'→SubP F Y→WrS b w X' ((l++[40])++BJ true x (Bd true x))→Dx ω (AX b) (.slice a2 1 1) (fun v=>Gh (K v)) I' (X'++Y):=by
    intro I' X' Y hI' hY hW';unfold Dx;refine AOW (ZX hW' (StL.mono hv2 hI') (by simp) (by simp only [List.flatten_cons,List.flatten_nil,List.length_append,List.length_cons,List.length_nil];omega) (fun X'' hW''=>?_));exact Gh.to (X''++F) (Gh.done (hk I' X'' (Ext.trans hI12 hI') (by simpa using hW'')))
   unfold Xb;refine Ag ?_;try simp only [SSd,Nat.reduceAdd]
   refine Ai ?_;refine ⟨call (Ey (fun bm es clock hm=>Bj (Ext.refl _) ⟨?_,?_⟩)),AV (fun bs=>Bj (Ext.refl _) (call (Ey (fun bm es clock hm=>Bj (Ext.refl _) ?_))))⟩
   ·refine Ff hm (fun s k hs=>?_) (fun hs=>?_)
    ·try simp only [SSd,Nat.reduceAdd]
     refine AV (fun bs=>?_);refine Bj (Ext.refl _) ?_;refine stB rfl rfl (AO rfl) ?_;exact JK (X:=X1) hE hd hx hG (Ext.trans hGI hI12) hw2 hW1 hc2 (.inl ⟨s,k,hs,rfl,rfl⟩) (by simp only [List.length_append,List.length_cons,List.length_nil];omega) (fun I' X' hI' hW'=>fin I' X' _ hI' inferInstance hW')
    ·try simp only [SSd,Nat.reduceAdd]
     refine AV (fun bs=>?_);refine Bj (Ext.refl _) ?_;refine stB rfl rfl (AO rfl) ?_;exact JK (X:=X1) hE hd hx hG (Ext.trans hGI hI12) hw2 hW1 hc2 (.inr ⟨hs,rfl⟩) (by simp only [List.length_append,List.length_cons,List.length_nil];omega) (fun I' X' hI' hW'=>fin I' X' _ hI' inferInstance hW')
   ·refine AV (fun bs=>?_);refine Bj (Ext.refl _) ?_;refine Ff hm (fun s k hs=>?_) (fun hs=>?_)
    ·try simp only [SSd,Nat.reduceAdd]
     refine stB rfl rfl (AO rfl) ?_;exact JK (X:=X1) hE hd hx hG (Ext.trans hGI hI12) hw2 hW1 hc2 (.inl ⟨s,k,hs,rfl,rfl⟩) (by simp only [List.length_append,List.length_cons,List.length_nil];omega) (fun I' X' hI' hW'=>fin I' X' _ hI' inferInstance hW')
    ·try simp only [SSd,Nat.reduceAdd]
     refine stB rfl rfl (AO rfl) ?_;exact JK (X:=X1) hE hd hx hG (Ext.trans hGI hI12) hw2 hW1 hc2 (.inr ⟨hs,rfl⟩) (by simp only [List.length_append,List.length_cons,List.length_nil];omega) (fun I' X' hI' hW'=>fin I' X' _ hI' inferInstance hW')
   ·refine Ff hm (fun s k hs=>?_) (fun hs=>?_)
    ·try simp only [SSd,Nat.reduceAdd]
     refine stB rfl rfl (AO rfl) ?_;exact JK (X:=X1) hE hd hx hG (Ext.trans hGI hI12) hw2 hW1 hc2 (.inl ⟨s,k,hs,rfl,rfl⟩) (by simp only [List.length_append,List.length_cons,List.length_nil];omega) (fun I' X' hI' hW'=>fin I' X' _ hI' inferInstance hW')
    ·try simp only [SSd,Nat.reduceAdd]
     refine stB rfl rfl (AO rfl) ?_;exact JK (X:=X1) hE hd hx hG (Ext.trans hGI hI12) hw2 hW1 hc2 (.inr ⟨hs,rfl⟩) (by simp only [List.length_append,List.length_cons,List.length_nil];omega) (fun I' X' hI' hW'=>fin I' X' _ hI' inferInstance hW')
  ·rw [h] at hn hk;simp only [AIw,Bool.false_eq_true,if_false] at hn hk;have fin:∀(I':Imm) (X':LH) (Y:LH),Ext I I'→SubP F Y→WrS b w X' (l++BJ true x (Bd true x))→Gh (K (.tuple #[])) I' (X'++Y):=by
    intro I' X' Y hI' hY hW';exact Gh.to (X'++F) (Gh.done (hk I' X' hI' hW'))
   unfold Xa;refine Ag ?_;try simp only [SSd,Nat.reduceAdd]
   refine Ai ?_;refine ⟨call (Ey (fun bm es clock hm=>Bj (Ext.refl _) ⟨?_,?_⟩)),AV (fun bs=>Bj (Ext.refl _) (call (Ey (fun bm es clock hm=>Bj (Ext.refl _) ?_))))⟩
   ·refine Ff hm (fun s k hs=>?_) (fun hs=>?_)
    ·try simp only [SSd,Nat.reduceAdd]
     refine AV (fun bs=>?_);refine Bj (Ext.refl _) ?_;refine stB rfl rfl (AO rfl) ?_;exact JJ (X:=X) hE hd hx hG hGI hw hW hc (.inl ⟨s,k,hs,rfl,rfl⟩) hn (fun I' X' hI' hW'=>fin I' X' _ hI' inferInstance hW')
    ·try simp only [SSd,Nat.reduceAdd]
     refine AV (fun bs=>?_);refine Bj (Ext.refl _) ?_;refine stB rfl rfl (AO rfl) ?_;exact JJ (X:=X) hE hd hx hG hGI hw hW hc (.inr ⟨hs,rfl⟩) hn (fun I' X' hI' hW'=>fin I' X' _ hI' inferInstance hW')
   ·refine AV (fun bs=>?_);refine Bj (Ext.refl _) ?_;refine Ff hm (fun s k hs=>?_) (fun hs=>?_)
    ·try simp only [SSd,Nat.reduceAdd]
     refine stB rfl rfl (AO rfl) ?_;exact JJ (X:=X) hE hd hx hG hGI hw hW hc (.inl ⟨s,k,hs,rfl,rfl⟩) hn (fun I' X' hI' hW'=>fin I' X' _ hI' inferInstance hW')
    ·try simp only [SSd,Nat.reduceAdd]
     refine stB rfl rfl (AO rfl) ?_;exact JJ (X:=X) hE hd hx hG hGI hw hW hc (.inr ⟨hs,rfl⟩) hn (fun I' X' hI' hW'=>fin I' X' _ hI' inferInstance hW')
   ·refine Ff hm (fun s k hs=>?_) (fun hs=>?_)
    ·try simp only [SSd,Nat.reduceAdd]
     refine stB rfl rfl (AO rfl) ?_;exact JJ (X:=X) hE hd hx hG hGI hw hW hc (.inl ⟨s,k,hs,rfl,rfl⟩) hn (fun I' X' hI' hW'=>fin I' X' _ hI' inferInstance hW')
    ·try simp only [SSd,Nat.reduceAdd]
     refine stB rfl rfl (AO rfl) ?_;exact JJ (X:=X) hE hd hx hG hGI hw hW hc (.inr ⟨hs,rfl⟩) hn (fun I' X' hI' hW'=>fin I' X' _ hI' inferInstance hW')
theorem FY (hG:Eb G){x:Ex}(hx:okE x)(k:Int)(hGI:Ext G I)(hw:StL I w wordsL)[hs:SplitL X L F](hW:WrS b w X l){c:List Value}(hc:ExV I x c)(hn:(l++exB true x k).length≤1000000000)
  (hk:∀I' X',Ext I I'→WrS b w X' (l++exB true x k)→K (.tuple #[]) I' (X'++F)):CT ω 120 #[AX b,.agg c.toArray,.int .i64 k] K I L:=
 Cal.split X (Ou hG (Cm x) x (Nat.le_refl _) hx k I X F l c K hGI hw hW hc hn hk)
theorem ER (hG:Eb G){x:Ex}(hx:okE x)(s:Bs)(hGI:Ext G I)(hw:StL I w wordsL)[hs:SplitL X L F](hW:WrS b w X l){c:List Value}(hc:ExV I x c)(hn:(l++Dh true s x).length≤1000000000)
  (hk:∀I' X',Ext I I'→WrS b w X' (l++Dh true s x)→K (.tuple #[]) I' (X'++F)):CT ω 121 #[AX b,.string ⟨s.toArray⟩,.agg c.toArray] K I L:=by
 refine Cal.split X ?_;refine ANe ?_;unfold AEI;obtain ⟨v,rfl,ha⟩:=ExV.iff.1 hc;unfold Dh at hn hk;refine AV (fun bx=>?_);try simp only [SSd,Nat.reduceAdd]
 refine rdb ?_;try simp only [SSd,Nat.reduceAdd]
 refine AA (fun h=>?_) (fun h=>?_)
 ·have h:x.kind≠0:=by simpa using h
  rw [if_neg h] at hn hk;simp only [List.length_append,List.length_cons,List.length_nil] at hn;refine BL (X:=X) hW (by simp only [List.length_append,List.length_cons,List.length_nil];omega) (fun I1 X1 hI1 hW1=>?_);refine rdB rfl ?_;refine call (FY hG hx 1 (Ext.trans hGI hI1) (StL.mono hw hI1) hW1 (ExV.mono hI1 hc) (by simp only [List.length_append,List.length_cons,List.length_nil];omega) (fun I2 X2 hI2 hW2=>?_));exact Gh.to (X2++F) (Gh.done (hk I2 X2 (Ext.trans hI1 hI2) (by simpa using hW2)))
 ·have h:x.kind=0:=by simpa using h
  rw [if_pos h] at hn hk;exact Gh.to (X++F) (Gh.done (hk I X (Ext.refl I) (by simpa using hW)))
theorem Sv (s:Bs)(hw:StL I w wordsL)[hs:SplitL X L F](hW:WrS b w X l)(hn:(l++asB s).length≤1000000000)
  (hk:∀I' X',Ext I I'→WrS b w X' (l++asB s)→K (.tuple #[]) I' (X'++F)):CT ω 166 #[AX b,.string ⟨s.toArray⟩] K I L:=by
 refine Cal.split X ?_;refine AMx ?_;unfold ADG;cases s with
 |nil=>
  simp only [show asB []=[] from rfl,List.append_nil] at hn hk;simp only [sNe,show (([]:Bs)==[])=true from rfl,Bool.not_true,SSd,Nat.reduceAdd];exact Gh.done (hk I X (Ext.refl I) hW)
 |cons c r=>
  have he:asB (c::r)=[32,97,115,32]++nameB (c::r):=rfl;rw [he] at hn hk;simp only [List.length_append,List.length_cons,List.length_nil] at hn;simp only [sNe,show ((c::r)==([]:Bs))=false from rfl,Bool.not_false,SSd,Nat.reduceAdd];refine BL (X:=X) hW (by simp only [List.length_append,List.length_cons,List.length_nil];omega) (fun I1 X1 hI1 hW1=>?_);refine call (BP hW1 (StL.mono hw hI1) (c::r) (by simp only [List.length_append,List.length_cons,List.length_nil];omega) (fun I2 X2 hI2 hW2=>?_));exact Gh.done (hk I2 X2 (Ext.trans hI1 hI2) (by simpa using hW2))
theorem IW {xs:List Bs}{v:Value}(hxl:xs.length≤1000000000000)(hv:StL I v xs)(hw:StL I w wordsL)[hs:SplitL X L F](hW:WrS b w X l)(hn:(l++FH xs).length≤1000000000)
  (hk:∀I' X',Ext I I'→WrS b w X' (l++FH xs)→K (.tuple #[]) I' (X'++F)):CT ω 115 #[AX b,v] K I L:=by
 refine Cal.split X ?_;refine ANk ?_;unfold AET;have he:FH xs=[40]++(Aq (xs.map nameB)++[41]):=by simp [FH]
 rw [he] at hn hk;simp only [List.length_append,List.length_cons,List.length_nil] at hn;refine BL (X:=X) hW (by simp only [List.length_append,List.length_cons,List.length_nil];omega) (fun I1 X1 hI1 hW1=>?_);refine call (Vp (g:=nameB) (F:=F) (StL.mono hv hI1) (StL.mono hw hI1) ?_ hxl hW1 (by simp only [List.length_append,List.length_cons,List.length_nil];omega) (fun I2 X2 hI2 hW2=>?_))
 ·intro x hxm I2 X2 l2 vx K2 hI2 hw2 hW2 hvx hn2 hk2;obtain rfl:vx= .string ⟨x.toArray⟩:=by simpa using (show [vx]=_ from hvx)
  refine UW (by kernel_rfl) ?_;exact BP (X:=X2) hW2 hw2 x hn2 hk2
 ·refine BL hW2 (by simp only [List.length_append,List.length_cons,List.length_nil];omega) (fun I3 X3 hI3 hW3=>?_);exact Gh.done (hk I3 X3 (Ext.trans hI1 (Ext.trans hI2 hI3)) (by simpa using hW3))
end
abbrev wpO (b:Nat):Obj:=.cells [AX b].toArray 108 (0,0)
section
variable {ω:Om}{G I:Imm}{L F Y:LH}{K:Value→M}{b bw:Nat}{w:Value}{X:LH}{l:Bs}{n:Nat}
theorem AAN (hG:Eb G){xs:List TItem}[i1:InL bw Y (wpO b)](hGI:Ext G I)(hxs:∀x∈xs,okE x.fExpr):FnW ω b w Y (.func (.func 165) #[] #[AX bw]) (GY TItemV) (Iq true) xs I:=by
 intro x hxm I2 X2 l2 vx K2 hI2 hw2 hW2 hvx hn hk;obtain ⟨c,rfl,hc⟩:=hvx;obtain ⟨v0,rfl,h0⟩:=hc;have hok:=hxs x hxm;have hGI2:=Ext.trans hGI hI2;refine GR (by kernel_rfl) ?_;refine AMy ?_;show XD ω (.agg _) (AX bw) _ I2 _;unfold XD;refine AV (fun bx=>?_);have he:ExV I2 x.fExpr (BG x.fExpr v0):=ExV.iff.2 ⟨v0,rfl,h0⟩;have fin:∀(s:Bs) (I3:Imm) (X3:LH) (lc:List Value) [GetL lc 13 (.string ⟨x.fAs.toArray⟩)],Ext I2 I3→s++asB x.fAs=Iq true x→WrS b w X3 (l2++s)→Jy ω (AX bw) (AX bx) (fun v=>Gh (K2 v)) I3 (X3++((bx,.cells lc.toArray 119 (0,0))::Y)):=by
  intro s I3 X3 lc _ hI3 hs hW3;rw [←hs] at hn hk;simp only [List.length_append,List.length_cons,List.length_nil] at hn;unfold Jy;refine rdb ?_;try simp only [SSd,Nat.reduceAdd]
  refine rdb ?_;refine call (Sv x.fAs (StL.mono hw2 hI3) hW3 (by simp only [List.length_append,List.length_cons,List.length_nil];omega) (fun I4 X4 hI4 hW4=>?_));exact Gh.to (X4++Y) (Gh.done (hk I4 X4 (Ext.trans hI3 hI4) (by simpa using hW4)))
 have hib:Iq true x=(if x.fStar then (if x.fTable.isEmpty then [42] else nameB x.fTable++[46,42]) else exB true x.fExpr 1)++asB x.fAs:=rfl;try simp only [SSd,Nat.reduceAdd]
 refine rdb ?_;cases hst:x.fStar with
 |true=>
  rw [hst] at hib;try simp only [SSd,Nat.reduceAdd]
  refine rdb ?_;cases htb:x.fTable with
  |nil=>
   rw [htb] at hib;simp only [List.isEmpty_nil,if_true] at hib;have hn':=hn;rw [hib] at hn';simp only [List.length_append,List.length_cons,List.length_nil] at hn';simp only [sNe,show (([]:Bs)==[])=true from rfl,Bool.not_true,SSd,Nat.reduceAdd];unfold MX;try simp only [SSd,Nat.reduceAdd]
   refine rdb ?_;try simp only [SSd,Nat.reduceAdd]
   refine rdb ?_;refine BL (X:=X2) hW2 (by simp only [List.length_append,List.length_cons,List.length_nil];omega) (fun I3 X3 hI3 hW3=>?_);exact fin _ I3 X3 _ hI3 hib.symm hW3
  |cons c r=>
   rw [htb] at hib;simp only [List.isEmpty_cons,Bool.false_eq_true,if_false,if_true] at hib;have hn':=hn;rw [hib] at hn';simp only [List.length_append,List.length_cons,List.length_nil] at hn';simp only [sNe,show ((c::r)==([]:Bs))=false from rfl,Bool.not_false,SSd,Nat.reduceAdd];unfold XC;refine rdb ?_;try simp only [SSd,Nat.reduceAdd]
   refine rdb ?_;refine call (BP (X:=X2) hW2 hw2 (c::r) (by simp only [List.length_append,List.length_cons,List.length_nil];omega) (fun I3 X3 hI3 hW3=>?_));refine rdb ?_;refine BL hW3 (by simp only [List.length_append,List.length_cons,List.length_nil];omega) (fun I4 X4 hI4 hW4=>?_);exact fin (nameB (c::r)++[46,42]) I4 X4 _ (Ext.trans hI3 hI4) hib.symm (by simpa using hW4)
 |false=>
  rw [hst] at hib;simp only [Bool.false_eq_true,if_false] at hib;have hn':=hn;rw [hib] at hn';simp only [List.length_append,List.length_cons,List.length_nil] at hn';try simp only [SSd,Nat.reduceAdd]
  unfold MX;try simp only [SSd,Nat.reduceAdd]
  refine rdb ?_;try simp only [SSd,Nat.reduceAdd]
  refine rdb ?_;refine rdP _ rfl rfl ?_;refine call (FY (X:=X2) hG hok 1 hGI2 hw2 hW2 he (by simp only [List.length_append,List.length_cons,List.length_nil];omega) (fun I3 X3 hI3 hW3=>?_));exact fin _ I3 X3 _ hI3 hib.symm hW3
theorem Yc (hG:Eb G){xs:List TOrder}[i1:InL bw Y (wpO b)](hGI:Ext G I)(hxs:∀x∈xs,okE x.fExpr):FnW ω b w Y (.func (.func 170) #[] #[AX bw]) (GY TOrderV) (AFV true) xs I:=by
 intro x hxm I2 X2 l2 vx K2 hI2 hw2 hW2 hvx hn hk;obtain ⟨c,rfl,hc⟩:=hvx;obtain ⟨v0,rfl,h0⟩:=hc;have hok:=hxs x hxm;have hGI2:=Ext.trans hGI hI2;refine GR (by kernel_rfl) ?_;refine AMt ?_;show XA ω (.agg _) (AX bw) _ I2 _;unfold XA;refine AV (fun bx=>?_);have he:ExV I2 x.fExpr (BG x.fExpr v0):=ExV.iff.2 ⟨v0,rfl,h0⟩;unfold AFV at hn hk;simp only [List.length_append,List.length_cons,List.length_nil] at hn;refine rdb ?_;try simp only [SSd,Nat.reduceAdd]
 refine rdP _ rfl rfl ?_;refine call (FY (X:=X2) hG hok 1 hGI2 hw2 hW2 he (by simp only [List.length_append,List.length_cons,List.length_nil];omega) (fun I3 X3 hI3 hW3=>?_));try simp only [SSd,Nat.reduceAdd]
 refine rdb ?_;cases hds:x.fDesc with
 |true=>
  rw [hds] at hn hk;simp only [if_true,List.length_cons,List.length_nil] at hn hk;try simp only [SSd,Nat.reduceAdd]
  refine rdb ?_;refine BL hW3 (by simp only [List.length_append,List.length_cons,List.length_nil];omega) (fun I4 X4 hI4 hW4=>?_);exact Gh.to (X4++Y) (Gh.done (hk I4 X4 (Ext.trans hI3 hI4) (by simpa using hW4)))
 |false=>
  rw [hds] at hn hk;simp only [Bool.false_eq_true,if_false] at hn hk;try simp only [SSd,Nat.reduceAdd]
  exact Gh.to (X3++Y) (Gh.done (hk I3 X3 hI3 (by simpa using hW3)))
def AEl (x:TSet):Bs:=nameB x.fColumn++[32,61,32]++exB true x.fExpr 1
theorem AHL (hG:Eb G){xs:List TSet}[i1:InL bw Y (wpO b)](hGI:Ext G I)(hxs:∀x∈xs,okE x.fExpr):FnW ω b w Y (.func (.func 119) #[] #[AX bw]) (GY TSetV) AEl xs I:=by
 intro x hxm I2 X2 l2 vx K2 hI2 hw2 hW2 hvx hn hk;obtain ⟨c,rfl,hc⟩:=hvx;obtain ⟨v0,rfl,h0⟩:=hc;have hok:=hxs x hxm;have hGI2:=Ext.trans hGI hI2;refine GR (by kernel_rfl) ?_;refine ANg ?_;show Xc ω (.agg _) (AX bw) _ I2 _;unfold Xc;refine AV (fun bx=>?_);have he:ExV I2 x.fExpr (BG x.fExpr v0):=ExV.iff.2 ⟨v0,rfl,h0⟩;unfold AEl at hn hk;simp only [List.length_append,List.length_cons,List.length_nil] at hn;refine rdb ?_;try simp only [SSd,Nat.reduceAdd]
 refine rdb ?_;refine call (BP (X:=X2) hW2 hw2 x.fColumn (by simp only [List.length_append,List.length_cons,List.length_nil];omega) (fun I3 X3 hI3 hW3=>?_));refine rdb ?_;refine BL hW3 (by simp only [List.length_append,List.length_cons,List.length_nil];omega) (fun I4 X4 hI4 hW4=>?_);refine rdb ?_;try simp only [SSd,Nat.reduceAdd]
 refine rdP _ rfl rfl ?_;have hI24:=Ext.trans hI3 hI4;refine call (FY (X:=X4) hG hok 1 (Ext.trans hGI2 hI24) (StL.mono hw2 hI24) hW4 (ExV.mono hI24 he) (by simp only [List.length_append,List.length_cons,List.length_nil];omega) (fun I5 X5 hI5 hW5=>?_));exact Gh.to (X5++Y) (Gh.done (hk I5 X5 (Ext.trans hI24 hI5) (by simpa using hW5)))
theorem AHM (hG:Eb G){xs:List (List Ex)}(hGI:Ext G I)(hxs:∀x∈xs,okL x∧x.length≤1000000000000):FnW ω b w Y (.func (.func 117) #[AX b] #[]) (AHK (FU ExV 11)) (rowB true) xs I:=by
 intro x hxm I2 X2 l2 vx K2 hI2 hw2 hW2 hvx hn hk;obtain ⟨v,hv,hr⟩:=(show FU ExV 11 I2 x [vx] from hvx);obtain rfl:vx=v:=by simpa using hv
 refine UW (by kernel_rfl) ?_;exact JD (X:=X2) (n:=BR x) (Ou hG _) (Nat.le_refl _) (hxs x hxm).1 (hxs x hxm).2 (Ext.trans hGI hI2) hw2 hW2 hr hn hk
def AKD (_:Imm)(x:Bool×Bs)(c:List Value):Prop:=c=[.bool x.1,.string ⟨x.2.toArray⟩]
def GG (l:List (Bool×Bs)):Bs:=l.flatMap fun p=>if p.1 then p.2 else []
theorem Vb {l:List (Bool×Bs)}{k:Nat}(h:k < l.length):GG (l.take (k+1))=GG (l.take k)++(if l[k].1 then l[k].2 else []):=by
 unfold GG;rw [List.take_succ_eq_append_getElem h,List.flatMap_append];simp only [List.flatMap_cons,List.flatMap_nil,List.append_nil]
theorem AFw (l:List (Bool×Bs))(k:Nat):(GG (l.take k)).length≤(GG l).length:=by
 have:GG l=GG (l.take k)++GG (l.drop k):=by unfold GG;rw [←List.flatMap_append,List.take_append_drop]
 rw [this,List.length_append];omega
def tyM (t:Int):Option Bs:=if t=1 then some [32,105,110,116] else if t=2 then some [32,98,111,111,108] else if t=3 then some [32,116,101,120,116] else none
theorem AHR:Di (Di (Di (fun _=>none) 1 (some (.string ⟨[32,105,110,116].toArray⟩))) 2 (some (.string ⟨[32,98,111,111,108].toArray⟩))) 3 (some (.string ⟨[32,116,101,120,116].toArray⟩))=fun k=>(tyM k).map fun s=>.string ⟨s.toArray⟩:=by
 funext k
 simp only [Di,tyM];by_cases h3:k=3
 ·subst h3;rfl
 by_cases h2:k=2
 ·subst h2;rfl
 by_cases h1:k=1
 ·subst h1;rfl
 simp only [h1,h2,h3,if_false];rfl
theorem AJV (x:TCol):Vt true x=nameB x.fName++((tyM x.fType).getD [32,63]++(GG [(x.fNotNull,[32,110,111,116,32,110,117,108,108]),(x.fKey,[32,112,114,105,109,97,114,121,32,107,101,121]),(x.fUnique,[32,117,110,105,113,117,101])]++Dh true [32,100,101,102,97,117,108,116,32] x.fDefault)):=by
 have ht:[32]++AAP x.fType=(tyM x.fType).getD [32,63]:=by
  unfold AAP tyM;by_cases h1:x.fType=1
  ·rw [if_pos h1,if_pos h1];rfl
  by_cases h2:x.fType=2
  ·rw [if_neg h1,if_pos h2,if_neg h1,if_pos h2];rfl
  by_cases h3:x.fType=3
  ·rw [if_neg h1,if_neg h2,if_pos h3,if_neg h1,if_neg h2,if_pos h3];rfl
  rw [if_neg h1,if_neg h2,if_neg h3,if_neg h1,if_neg h2,if_neg h3];rfl
 rw [←ht];unfold Vt GG Dh;simp
theorem AHO (hG:Eb G){xs:List TCol}[i1:InL bw Y (wpO b)](hGI:Ext G I)(hxs:∀x∈xs,okE x.fDefault):FnW ω b w Y (.func (.func 181) #[] #[AX bw]) (GY TColV) (Vt true) xs I:=by
 intro x hxm I2 X2 l2 vx K2 hI2 hw2 hW2 hvx hn hk;obtain ⟨c,rfl,hc⟩:=hvx;obtain ⟨v0,rfl,h0⟩:=hc;have hok:=hxs x hxm;have hGI2:=Ext.trans hGI hI2;refine GR (by kernel_rfl) ?_;refine AMk ?_;show Wp ω (.agg _) (AX bw) _ I2 _;unfold Wp;refine AV (fun bx=>?_);have he:ExV I2 x.fDefault (BG x.fDefault v0):=ExV.iff.2 ⟨v0,rfl,h0⟩;rw [AJV] at hn hk;generalize hty:(tyM x.fType).getD [32,63]=ty at hn hk;generalize hfl:([(x.fNotNull,[32,110,111,116,32,110,117,108,108]),(x.fKey,[32,112,114,105,109,97,114,121,32,107,101,121]),(x.fUnique,[32,117,110,105,113,117,101])]:List (Bool×Bs))=fl at hn hk;simp only [List.length_append,List.length_cons,List.length_nil] at hn;refine rdb ?_;try simp only [SSd,Nat.reduceAdd]
 refine rdb ?_;refine call (BP (X:=X2) hW2 hw2 x.fName (by simp only [List.length_append,List.length_cons,List.length_nil];omega) (fun I3 X3 hI3 hW3=>?_));refine AFe (fun bm=>?_);obtain ⟨es1,c1,e1,p1⟩:=MapSi.empty.put 1 (.string ⟨[32,105,110,116].toArray⟩);obtain ⟨es2,c2,e2,p2⟩:=p1.put 2 (.string ⟨[32,98,111,111,108].toArray⟩);obtain ⟨es3,c3,e3,p3⟩:=p2.put 3 (.string ⟨[32,116,101,120,116].toArray⟩);rw [AHR] at p3;refine Gh.done (Ec (k:=1) MapSi.empty e1 ?_);refine Gh.done (Ec (k:=2) p1 e2 ?_);refine Gh.done (Ec (k:=3) p2 e3 ?_);refine Gh.done ?_;have rest:MP ω (AX bw) (AX bx) (.string ⟨ty.toArray⟩) (fun v=>Gh (K2 v)) I3 ((bm,.map es3 c3)::(X3++((bx,.cells [.string ⟨x.fName.toArray⟩,.int .i64 x.fType,.bool x.fNotNull,.bool x.fKey,.bool x.fUnique,.int .i64 x.fDefault.kind,.int .i64 x.fDefault.value.fType,.bool x.fDefault.value.fNull,.int .i64 x.fDefault.value.fInt,.string ⟨x.fDefault.value.fText.toArray⟩,.string ⟨x.fDefault.table.toArray⟩,.string ⟨x.fDefault.name.toArray⟩,.int .i64 x.fDefault.slot,.int .i64 x.fDefault.type,.bool x.fDefault.distinct,v0].toArray 101 (0,0))::Y))):=by
  unfold MP;refine rdb ?_;refine BL (X:=X3) hW3 (by simp only [List.length_append,List.length_cons,List.length_nil];omega) (fun I4 X4 hI4 hW4=>?_);try simp only [SSd,Nat.reduceAdd]
  refine rdb ?_;try simp only [SSd,Nat.reduceAdd]
  refine rdb ?_;try simp only [SSd,Nat.reduceAdd]
  refine rdb ?_;try simp only [SSd,Nat.reduceAdd]
  have hI24:=Ext.trans hI3 hI4;refine Du (R:=AKD) [(x.fNotNull,[32,110,111,116,32,110,117,108,108]),(x.fKey,[32,112,114,105,109,97,114,121,32,107,101,121]),(x.fUnique,[32,117,110,105,113,117,101])] [[.bool x.fNotNull,.string ⟨[32,110,111,116,32,110,117,108,108].toArray⟩],[.bool x.fKey,.string ⟨[32,112,114,105,109,97,114,121,32,107,101,121].toArray⟩],[.bool x.fUnique,.string ⟨[32,117,110,105,113,117,101].toArray⟩]] rfl rfl rfl (by simp) (by simp [AKD]) (fun hI h=>h) (fun I5 a5 hI5 hv5=>Gh.done ?_);rw [hfl] at hv5;have hfl3:fl.length=3:=by rw [←hfl];rfl
  try simp only [SSd,Nat.reduceAdd]
  refine loop (fun q st I' L'=>∃(k:Nat) (X':LH),k+q=3∧st=(.int .i64 k,())∧Ext I5 I'∧L'=X'++((bm,.map es3 c3)::((bx,.cells [.string ⟨x.fName.toArray⟩,.int .i64 x.fType,.bool x.fNotNull,.bool x.fKey,.bool x.fUnique,.int .i64 x.fDefault.kind,.int .i64 x.fDefault.value.fType,.bool x.fDefault.value.fNull,.int .i64 x.fDefault.value.fInt,.string ⟨x.fDefault.value.fText.toArray⟩,.string ⟨x.fDefault.table.toArray⟩,.string ⟨x.fDefault.name.toArray⟩,.int .i64 x.fDefault.slot,.int .i64 x.fDefault.type,.bool x.fDefault.distinct,v0].toArray 101 (0,0))::Y))∧WrS b w X' (((l2++nameB x.fName)++ty)++GG (fl.take k))) 3 ⟨0,X4,by omega,rfl,Ext.refl _,rfl,by simpa [GG] using hW4⟩ ?_;rintro q st I' L' ⟨k,X',hkq,rfl,hI',rfl,hW'⟩;unfold Wn;try simp only [SSd,Nat.reduceAdd]
  refine AA (fun hb=>?_) (fun hb=>?_)
  ·have hb:k < fl.length:=by
    have:=of_decide_eq_true hb;omega
   obtain ⟨bt,off,c1,g1,gl,g2,g3⟩:=RL.ix hv5 (i:=k) (by omega) (by omega);rw [BA hb] at g2;obtain rfl:=g2;have hft:=Vb hb;have hfle:=AFw fl (k+1);rw [hft,List.length_append] at hfle;simp only [g1,SSd,Nat.reduceAdd];refine Dq (g3 _ [] hI' (fun _ h=>h)) (Ext.refl _) gl ?_;refine AV (fun b3=>?_);refine stB rfl rfl (AO rfl) ?_;try simp only [SSd,Nat.reduceAdd]
   refine rdb ?_;have nxt:∀(I6:Imm) (X6 Z:LH),Ext I' I6→SubP (X6++((bm,.map es3 c3)::((bx,.cells [.string ⟨x.fName.toArray⟩,.int .i64 x.fType,.bool x.fNotNull,.bool x.fKey,.bool x.fUnique,.int .i64 x.fDefault.kind,.int .i64 x.fDefault.value.fType,.bool x.fDefault.value.fNull,.int .i64 x.fDefault.value.fInt,.string ⟨x.fDefault.value.fText.toArray⟩,.string ⟨x.fDefault.table.toArray⟩,.string ⟨x.fDefault.name.toArray⟩,.int .i64 x.fDefault.slot,.int .i64 x.fDefault.type,.bool x.fDefault.distinct,v0].toArray 101 (0,0))::Y))) Z→WrS b w X6 (((l2++nameB x.fName)++ty)++GG (fl.take (k+1)))→MO ω (.int .i64 k) (fun s'=>Gh fun I2 L2=>∃m',m' < q∧∃(k:Nat) (X':LH),k+m'=3∧s'=(.int .i64 k,())∧Ext I5 I2∧L2=X'++((bm,.map es3 c3)::((bx,.cells [.string ⟨x.fName.toArray⟩,.int .i64 x.fType,.bool x.fNotNull,.bool x.fKey,.bool x.fUnique,.int .i64 x.fDefault.kind,.int .i64 x.fDefault.value.fType,.bool x.fDefault.value.fNull,.int .i64 x.fDefault.value.fInt,.string ⟨x.fDefault.value.fText.toArray⟩,.string ⟨x.fDefault.table.toArray⟩,.string ⟨x.fDefault.name.toArray⟩,.int .i64 x.fDefault.slot,.int .i64 x.fDefault.type,.bool x.fDefault.distinct,v0].toArray 101 (0,0))::Y))∧WrS b w X' (((l2++nameB x.fName)++ty)++GG (fl.take k))) (fun v=>Gh (K2 v)) I6 Z:=by
    intro I6 X6 Z hI6 hZ hW6;unfold MO;simp only [wrap_i64 ((k:Int)+1) (by omega),SSd,Nat.reduceAdd];exact Gh.to _ (Gh.done ⟨q - 1,by omega,k+1,X6,by omega,rfl,Ext.trans hI' hI6,rfl,hW6⟩)
   cases hf:fl[k].1 with
   |true=>
    rw [hf] at hft hfle;simp only [if_true] at hft hfle;try simp only [SSd,Nat.reduceAdd]
    refine rdb ?_;try simp only [SSd,Nat.reduceAdd]
    refine rdb ?_;refine BL (X:=X') hW' (by simp only [List.length_append,List.length_cons,List.length_nil];omega) (fun I6 X6 hI6 hW6=>?_);exact nxt I6 X6 _ hI6 inferInstance (by rw [hft];simpa using hW6)
   |false=>
    rw [hf] at hft;simp only [Bool.false_eq_true,if_false,List.append_nil] at hft;try simp only [SSd,Nat.reduceAdd]
    exact nxt I' X' _ (Ext.refl _) inferInstance (by rw [hft];exact hW')
  ·have hb:¬k < fl.length:=by
    have:=of_decide_eq_false hb;omega
   rw [List.take_of_length_le (by omega)] at hW';have hI25:=Ext.trans hI24 (Ext.trans hI5 hI');unfold Wl;refine rdb ?_;try simp only [SSd,Nat.reduceAdd]
   refine rdP _ rfl rfl ?_;refine call (ER (X:=X') hG hok [32,100,101,102,97,117,108,116,32] (Ext.trans hGI2 hI25) (StL.mono hw2 hI25) hW' (ExV.mono hI25 he) (by simp only [List.length_append,List.length_cons,List.length_nil];omega) (fun I6 X6 hI6 hW6=>?_));exact Gh.to (X6++Y) (Gh.done (hk I6 X6 (Ext.trans hI25 hI6) (by simpa using hW6)))
 try simp only [SSd,Nat.reduceAdd]
 refine rdb ?_;refine AON (k:=x.fType) p3 ?_;cases htt:tyM x.fType with
 |none=>
  rw [htt] at hty;subst hty;simp only [Option.map_none,lkV,SSd,Nat.reduceAdd];exact rest
 |some s=>
  rw [htt] at hty;obtain rfl:s=ty:=hty;simp only [Option.map_some,lkV,SSd,Nat.reduceAdd];exact rest
end
abbrev selC (q:TSelect)(v0 v1 v2 v3 v4 v5:Value):List Value:=[.bool q.fDistinct,v0,v1,.int .i64 q.fWhere.kind,.int .i64 q.fWhere.value.fType,.bool q.fWhere.value.fNull,.int .i64 q.fWhere.value.fInt,.string ⟨q.fWhere.value.fText.toArray⟩,.string ⟨q.fWhere.table.toArray⟩,.string ⟨q.fWhere.name.toArray⟩,.int .i64 q.fWhere.slot,.int .i64 q.fWhere.type,.bool q.fWhere.distinct,v2,v3,.int .i64 q.fHaving.kind,.int .i64 q.fHaving.value.fType,.bool q.fHaving.value.fNull,.int .i64 q.fHaving.value.fInt,.string ⟨q.fHaving.value.fText.toArray⟩,.string ⟨q.fHaving.table.toArray⟩,.string ⟨q.fHaving.name.toArray⟩,.int .i64 q.fHaving.slot,.int .i64 q.fHaving.type,.bool q.fHaving.distinct,v4,v5,.int .i64 q.fLimit,.int .i64 q.fOffset]
structure OkQ (q:TSelect):Prop where
 it:∀x∈q.fItems,okE x.fExpr
 fr:∀x∈q.fFrom,okE x.fOn
 wh:okE q.fWhere
 gr:okL q.fGroup
 ha:okE q.fHaving
 od:∀x∈q.fOrder,okE x.fExpr
 li:okI q.fLimit
 off:okI q.fOffset
 cnt:cQ q≤1000000000
def AAQ (q:TSelect):Bs:=if q.fOffset=0 then [] else [32,111,102,102,115,101,116,32]++PG true q.fOffset
def tx9 (q:TSelect):Bs:=(if 0≤q.fLimit then [32,108,105,109,105,116,32]++PG true q.fLimit else [])++AAQ q
def tx8 (q:TSelect):Bs:=Dh true [32,104,97,118,105,110,103,32] q.fHaving++((if q.fOrder.isEmpty then [] else [32,111,114,100,101,114,32,98,121,32]++Aq (q.fOrder.map (AFV true)))++tx9 q)
def tx7 (q:TSelect):Bs:=Dh true [32,119,104,101,114,101,32] q.fWhere++((if q.fGroup.isEmpty then [] else [32,103,114,111,117,112,32,98,121,32]++Ip true q.fGroup)++tx8 q)
def tx1 (q:TSelect):Bs:=Aq (q.fItems.map (Iq true))++(Dj true 0 q.fFrom++tx7 q)
theorem Td (q:TSelect):LC true q=[115,101,108,101,99,116,32]++((if q.fDistinct then [100,105,115,116,105,110,99,116,32] else [])++tx1 q):=by
 unfold LC tx1 tx7 tx8 tx9 AAQ;simp only [List.append_assoc]
theorem Pq (x:TSource):∀(l:List TSource) (i:Nat),Dj true i (l++[x])=Dj true i l++AAY true (i+l.length) x
 |[],i=>by simp [Dj]
 |y::l,i=>by
  simp only [List.cons_append,Dj,Pq x l (i+1),List.length_cons,List.append_assoc];congr 2;congr 1;omega
theorem Yn {l:List TSource}{k:Nat}(h:k < l.length):Dj true 0 (l.take (k+1))=Dj true 0 (l.take k)++AAY true k l[k]:=by
 rw [List.take_succ_eq_append_getElem h,Pq,List.length_take];congr 2;omega
theorem TE:∀(l m:List TSource) (i:Nat),Dj true i (l++m)=Dj true i l++Dj true (i+l.length) m
 |[],m,i=>by simp [Dj]
 |y::l,m,i=>by
  simp only [List.cons_append,Dj,TE l m (i+1),List.length_cons,List.append_assoc];congr 3;omega
theorem AHZ (l:List TSource)(k:Nat):(Dj true 0 (l.take k)).length≤(Dj true 0 l).length:=by
 have:=TE (l.take k) (l.drop k) 0;rw [List.take_append_drop] at this;rw [this,List.length_append];omega
section
variable {ω:Om}{G I:Imm}{L F Y:LH}{K:Value→M}{b bw bq:Nat}{w:Value}{X:LH}{l:Bs}{n:Nat}{q:TSelect}{v0 v1 v2 v3 v4 v5:Value}
abbrev Yq (b bw bq:Nat)(q:TSelect)(v0 v1 v2 v3 v4 v5:Value)(F:LH):LH:=(bq,.cells (selC q v0 v1 v2 v3 v4 v5).toArray 40 (0,0))::(bw,wpO b)::F
theorem q10 (hG:Eb G)(hGI:Ext G I)(hq:OkQ q)(hW:WrS b w X l)(hn:(l++AAQ q).length≤1000000000)(hk:∀I' X',Ext I I'→WrS b w X' (l++AAQ q)→Gh (K (.tuple #[])) I' (X'++Yq b bw bq q v0 v1 v2 v3 v4 v5 F)):
  KG ω (AX bw) (AX bq) (fun v=>Gh (K v)) I (X++Yq b bw bq q v0 v1 v2 v3 v4 v5 F):=by
 unfold KG;unfold AAQ at hn hk;try simp only [SSd,Nat.reduceAdd]
 refine rdb ?_;try simp only [SSd,Nat.reduceAdd]
 refine AA (fun h=>?_) (fun h=>?_)
 ·have h:q.fOffset≠0:=by simpa using h
  rw [if_neg h] at hn hk;refine Ag ?_;refine Ai ?_;try simp only [SSd,Nat.reduceAdd]
  refine Ai ?_;refine call (QQ hG hGI _ hq.off.1 hq.off.2 (Bj (Ext.refl _) ?_));refine DD [[32,111,102,102,115,101,116,32],PG true q.fOffset] rfl rfl (fun I' a hI' hv'=>Gh.done ?_);refine Bj hI' ?_;refine call (Gv (X:=X) hW hv' (by simp) (by simpa using hn) (fun X' hW'=>?_));exact hk I' X' hI' (by simpa using hW')
 ·have h:q.fOffset=0:=by simpa using h
  rw [if_pos h] at hn hk;exact hk I X (Ext.refl I) (by simpa using hW)
theorem q9 (hG:Eb G)(hGI:Ext G I)(hq:OkQ q)(hW:WrS b w X l)(hn:(l++tx9 q).length≤1000000000)(hk:∀I' X',Ext I I'→WrS b w X' (l++tx9 q)→Gh (K (.tuple #[])) I' (X'++Yq b bw bq q v0 v1 v2 v3 v4 v5 F)):
  NM ω (AX bw) (AX bq) (fun v=>Gh (K v)) I (X++Yq b bw bq q v0 v1 v2 v3 v4 v5 F):=by
 unfold NM;unfold tx9 at hn hk;try simp only [SSd,Nat.reduceAdd]
 refine rdb ?_;try simp only [SSd,Nat.reduceAdd]
 refine AA (fun h=>?_) (fun h=>?_)
 ·have h:0≤q.fLimit:=by simpa using h
  rw [if_pos h] at hn hk;refine Ag ?_;refine Ai ?_;try simp only [SSd,Nat.reduceAdd]
  refine Ai ?_;refine call (QQ hG hGI _ hq.li.1 hq.li.2 (Bj (Ext.refl _) ?_));refine DD [[32,108,105,109,105,116,32],PG true q.fLimit] rfl rfl (fun I' a hI' hv'=>Gh.done ?_);refine Bj hI' ?_;simp only [List.length_append] at hn;refine call (Gv (X:=X) hW hv' (by simp) (by simp only [List.flatten_cons,List.flatten_nil,List.append_nil,List.length_append];omega) (fun X' hW'=>?_));exact q10 hG (Ext.trans hGI hI') hq hW' (by simp only [List.flatten_cons,List.flatten_nil,List.append_nil,List.length_append];omega) (fun I2 X2 hI2 hW2=>hk I2 X2 (Ext.trans hI' hI2) (by simpa using hW2))
 ·have h:¬0≤q.fLimit:=by simpa using h
  rw [if_neg h] at hn hk;exact q10 hG hGI hq hW (by simpa using hn) (fun I2 X2 hI2 hW2=>hk I2 X2 hI2 (by simpa using hW2))
theorem q8 (hG:Eb G)(hGI:Ext G I)(hw:StL I w wordsL)(hq:OkQ q)(h4:ExL I v4 q.fHaving.args)(h5:RL TOrderV 12 I [] v5 q.fOrder)(hW:WrS b w X l)(hn:(l++tx8 q).length≤1000000000)(hk:∀I' X',Ext I I'→WrS b w X' (l++tx8 q)→Gh (K (.tuple #[])) I' (X'++Yq b bw bq q v0 v1 v2 v3 v4 v5 F)):
  NP ω (AX bw) (AX bq) (fun v=>Gh (K v)) I (X++Yq b bw bq q v0 v1 v2 v3 v4 v5 F):=by
 unfold NP;unfold tx8 at hn hk;simp only [List.length_append,List.length_cons,List.length_nil] at hn;have hcnt:=hq.cnt;unfold cQ at hcnt;refine rdb ?_;try simp only [SSd,Nat.reduceAdd]
 refine rdP _ rfl rfl ?_;refine call (ER (X:=X) hG hq.ha [32,104,97,118,105,110,103,32] hGI hw hW (ExV.iff.2 ⟨v4,rfl,h4⟩) (by simp only [List.length_append,List.length_cons,List.length_nil];omega) (fun I1 X1 hI1 hW1=>?_));try simp only [SSd,Nat.reduceAdd]
 refine rdb ?_;have h51:RL TOrderV 12 I1 [] v5 q.fOrder:=RL.mono (fun _ _ h=>TOrderV.mono h hI1) h5 hI1 (fun _ h=>h);simp only [RL.len h5,SSd,Nat.reduceAdd];refine AA (fun h=>?_) (fun h=>?_)
 ·have h:q.fOrder.isEmpty=false:=by
   have:=of_decide_eq_true h;cases ho:q.fOrder with
   |nil=>rw [ho] at this;simp at this
   |cons _ _=>rfl
  rw [h] at hn hk;simp only [Bool.false_eq_true,if_false,List.length_append,List.length_cons,List.length_nil] at hn hk;refine rdb ?_;refine BL hW1 (by simp only [List.length_append,List.length_cons,List.length_nil];omega) (fun I2 X2 hI2 hW2=>?_);have hI12:=Ext.trans hI1 hI2;refine rdb ?_;try simp only [SSd,Nat.reduceAdd]
  refine rdb ?_;refine call (SK (g:=AFV true) (F:=Yq b bw bq q v0 v1 v2 v3 v4 v5 F) (RL.mono (fun _ _ h=>TOrderV.mono h hI2) h51 hI2 (fun _ h=>h)) (StL.mono hw hI12) (Yc (bw:=bw) hG (Ext.trans hGI hI12) hq.od) (by omega) hW2 (by simp only [List.length_append,List.length_cons,List.length_nil];omega) (fun I3 X3 hI3 hW3=>?_));exact q9 hG (Ext.trans hGI (Ext.trans hI12 hI3)) hq hW3 (by simp only [List.length_append,List.length_cons,List.length_nil];omega) (fun I4 X4 hI4 hW4=>hk I4 X4 (Ext.trans (Ext.trans hI12 hI3) hI4) (by simpa using hW4))
 ·have h:q.fOrder.isEmpty=true:=by
   have:=of_decide_eq_false h;cases ho:q.fOrder with
   |nil=>rfl
   |cons _ _=>rw [ho] at this;simp at this
  rw [h] at hn hk;simp only [if_true,List.nil_append,List.length_nil] at hn hk;exact q9 hG (Ext.trans hGI hI1) hq hW1 (by simp only [List.length_append,List.length_cons,List.length_nil];omega) (fun I4 X4 hI4 hW4=>hk I4 X4 (Ext.trans hI1 hI4) (by simpa using hW4))
theorem q7 (hG:Eb G)(hGI:Ext G I)(hw:StL I w wordsL)(hq:OkQ q)(h2:ExL I v2 q.fWhere.args)(h3:ExL I v3 q.fGroup)(h4:ExL I v4 q.fHaving.args)(h5:RL TOrderV 12 I [] v5 q.fOrder)(hW:WrS b w X l)(hn:(l++tx7 q).length≤1000000000)(hk:∀I' X',Ext I I'→WrS b w X' (l++tx7 q)→Gh (K (.tuple #[])) I' (X'++Yq b bw bq q v0 v1 v2 v3 v4 v5 F)):
  RN ω (AX bw) (AX bq) (fun v=>Gh (K v)) I (X++Yq b bw bq q v0 v1 v2 v3 v4 v5 F):=by
 unfold RN;unfold tx7 at hn hk;simp only [List.length_append,List.length_cons,List.length_nil] at hn;have hcnt:=hq.cnt;unfold cQ at hcnt;refine rdb ?_;try simp only [SSd,Nat.reduceAdd]
 refine rdP _ rfl rfl ?_;refine call (ER (X:=X) hG hq.wh [32,119,104,101,114,101,32] hGI hw hW (ExV.iff.2 ⟨v2,rfl,h2⟩) (by simp only [List.length_append,List.length_cons,List.length_nil];omega) (fun I1 X1 hI1 hW1=>?_));try simp only [SSd,Nat.reduceAdd]
 refine rdb ?_;simp only [RL.len h3,SSd,Nat.reduceAdd];refine AA (fun h=>?_) (fun h=>?_)
 ·have h:q.fGroup.isEmpty=false:=by
   have:=of_decide_eq_true h;cases ho:q.fGroup with
   |nil=>rw [ho] at this;simp at this
   |cons _ _=>rfl
  rw [h] at hn hk;simp only [Bool.false_eq_true,if_false,List.length_append,List.length_cons,List.length_nil] at hn hk;refine rdb ?_;refine BL hW1 (by simp only [List.length_append,List.length_cons,List.length_nil];omega) (fun I2 X2 hI2 hW2=>?_);have hI12:=Ext.trans hI1 hI2;refine rdb ?_;try simp only [SSd,Nat.reduceAdd]
  refine rdb ?_;refine call (Nc (n:=BR q.fGroup) (Ou hG _) (Nat.le_refl _) hq.gr (by omega) (Ext.trans hGI hI12) (StL.mono hw hI12) hW2 (ExL.mono h3 hI12) (by simp only [List.length_append,List.length_cons,List.length_nil];omega) (fun I3 X3 hI3 hW3=>?_));have hI13:=Ext.trans hI12 hI3;exact q8 hG (Ext.trans hGI hI13) (StL.mono hw hI13) hq (ExL.mono h4 hI13) (RL.mono (fun _ _ h=>TOrderV.mono h hI13) h5 hI13 (fun _ h=>h)) hW3 (by simp only [List.length_append,List.length_cons,List.length_nil];omega) (fun I4 X4 hI4 hW4=>hk I4 X4 (Ext.trans hI13 hI4) (by simpa using hW4))
 ·have h:q.fGroup.isEmpty=true:=by
   have:=of_decide_eq_false h;cases ho:q.fGroup with
   |nil=>rfl
   |cons _ _=>rw [ho] at this;simp at this
  rw [h] at hn hk;simp only [if_true,List.nil_append,List.length_nil] at hn hk;exact q8 hG (Ext.trans hGI hI1) (StL.mono hw hI1) hq (ExL.mono h4 hI1) (RL.mono (fun _ _ h=>TOrderV.mono h hI1) h5 hI1 (fun _ h=>h)) hW1 (by simp only [List.length_append,List.length_cons,List.length_nil];omega) (fun I4 X4 hI4 hW4=>hk I4 X4 (Ext.trans hI1 hI4) (by simpa using hW4))
def UD (i:Nat)(x:TSource):Bs:=if i=0 then [32,102,114,111,109,32] else if x.fLeft then [32,108,101,102,116,32,106,111,105,110,32] else if x.fOn.kind≠0 then [32,106,111,105,110,32] else [32,99,114,111,115,115,32,106,111,105,110,32]
def Tt (i:Nat)(x:TSource):Bs:=if 0 < i∧(x.fLeft=true∨x.fOn.kind≠0) then [32,111,110,32]++exB true x.fOn 1 else []
theorem WG (i:Nat)(x:TSource):AAY true i x=UD i x++(nameB x.fTable++(asB x.fAs++Tt i x)):=by
 unfold AAY UD Tt;simp only [List.append_assoc]
theorem UC {x:TSource}{c:List Value}(hc:TSourceV I x c)(i:Nat)(hk:K (.string ⟨(UD i x).toArray⟩) I L):CT ω 167 #[.int .i64 (i:Nat),.agg c.toArray] K I L:=by
 obtain ⟨u0,rfl,h0⟩:=hc;refine AMw ?_;unfold ADE;unfold UD at hk;refine AV (fun bx=>?_);try simp only [SSd,Nat.reduceAdd]
 refine AA (fun h=>?_) (fun h=>?_)
 ·have h:i=0:=by
   have:(i:Int)=0:=by simpa using h
   omega
  rw [if_pos h] at hk;exact Gh.to L (Gh.done hk)
 have h:¬i=0:=by
  have:¬(i:Int)=0:=by simpa using h
  omega
 rw [if_neg h] at hk;try simp only [SSd,Nat.reduceAdd]
 refine rdb ?_;refine AA (fun h=>?_) (fun h=>?_)
 ·rw [if_pos h] at hk;exact Gh.to L (Gh.done hk)
 rw [if_neg (by simp [h])] at hk;try simp only [SSd,Nat.reduceAdd]
 refine rdb ?_;try simp only [SSd,Nat.reduceAdd]
 refine AA (fun h=>?_) (fun h=>?_)
 ·have h:x.fOn.kind≠0:=by simpa using h
  rw [if_pos h] at hk;exact Gh.to L (Gh.done hk)
 ·have h:x.fOn.kind=0:=by simpa using h
  rw [if_neg (by simp [h])] at hk;exact Gh.to L (Gh.done hk)
theorem q1 (hG:Eb G)(hGI:Ext G I)(hw:StL I w wordsL)(hq:OkQ q)(h0:RL TItemV 14 I [] v0 q.fItems)(h1:RL TSourceV 14 I [] v1 q.fFrom)(h2:ExL I v2 q.fWhere.args)(h3:ExL I v3 q.fGroup)(h4:ExL I v4 q.fHaving.args)(h5:RL TOrderV 12 I [] v5 q.fOrder)(hW:WrS b w X l)(hn:(l++tx1 q).length≤1000000000)(hk:∀I' X',Ext I I'→WrS b w X' (l++tx1 q)→Gh (K (.tuple #[])) I' (X'++Yq b bw bq q v0 v1 v2 v3 v4 v5 F)):
  KH ω (AX bw) (AX bq) (fun v=>Gh (K v)) I (X++Yq b bw bq q v0 v1 v2 v3 v4 v5 F):=by
 unfold KH;unfold tx1 at hn hk;simp only [List.length_append,List.length_cons,List.length_nil] at hn;have hcnt:=hq.cnt;unfold cQ at hcnt;refine rdb ?_;try simp only [SSd,Nat.reduceAdd]
 refine rdb ?_;refine call (UO (g:=Iq true) (F:=Yq b bw bq q v0 v1 v2 v3 v4 v5 F) h0 hw (AAN (bw:=bw) hG hGI hq.it) (by omega) hW (by simp only [List.length_append,List.length_cons,List.length_nil];omega) (fun I1 X1 hI1 hW1=>?_));try simp only [SSd,Nat.reduceAdd]
 refine rdb ?_;simp only [RL.len h1,SSd,Nat.reduceAdd];refine loop (fun m st I' L'=>∃(k:Nat) (X':LH),k+m=q.fFrom.length∧st=(.int .i64 k,())∧Ext I I'∧L'=X'++Yq b bw bq q v0 v1 v2 v3 v4 v5 F∧WrS b w X' ((l++Aq (q.fItems.map (Iq true)))++Dj true 0 (q.fFrom.take k))) q.fFrom.length ⟨0,X1,by omega,rfl,hI1,rfl,by simpa [Dj] using hW1⟩ ?_;rintro m st I' L' ⟨k,X',hkm,rfl,hI',rfl,hW'⟩;unfold Xg;try simp only [SSd,Nat.reduceAdd]
 refine AA (fun hb=>?_) (fun hb=>?_)
 ·have hb:k < q.fFrom.length:=by
   have:=of_decide_eq_true hb;omega
  obtain ⟨bt,off,c1,g1,gl,g2,g3⟩:=RL.ix h1 (i:=k) (by omega) (by omega);rw [BA hb] at g2;have g2:=g2.mono hI';have g2c:=g2;have hok:=hq.fr _ (List.getElem_mem hb);have hst:=Yn hb;have hsl:=AHZ q.fFrom (k+1);rw [hst,WG] at hsl;rw [WG] at hst;simp only [List.length_append] at hsl;obtain ⟨u0,rfl,hu⟩:=g2;generalize hy:q.fFrom[k]=y at *;have he:ExV I' y.fOn (BG y.fOn u0):=ExV.iff.2 ⟨u0,rfl,hu⟩;simp only [g1,SSd,Nat.reduceAdd];refine Dq (g3 _ [] hI' (fun _ h=>h)) (Ext.refl _) rfl ?_;refine AV (fun b3=>?_);obtain ⟨a0,k0,rfl⟩:=RL.form hu;refine stB rfl rfl (AO rfl) ?_;refine Ag ?_;refine Ai ?_;refine Az rfl ?_;refine call (UC g2c k ?_);refine Bj (Ext.refl _) ?_;refine DD [UD k y] rfl rfl (fun I2 a2 hI2 hv2=>Gh.done ?_);refine Bj hI2 ?_;refine call (Gv (X:=X') hW' hv2 (by simp) (by simp only [List.flatten_cons,List.flatten_nil,List.append_nil,List.length_append];omega) (fun X3 hW3=>?_));simp only [List.flatten_cons,List.flatten_nil,List.append_nil] at hW3;refine rdb ?_;try simp only [SSd,Nat.reduceAdd]
  refine rdb ?_;have hI12:=Ext.trans hI' hI2;refine call (BP hW3 (StL.mono hw hI12) y.fTable (by simp only [List.length_append,List.length_cons,List.length_nil];omega) (fun I4 X4 hI4 hW4=>?_));refine rdb ?_;try simp only [SSd,Nat.reduceAdd]
  refine rdb ?_;have hI14:=Ext.trans hI12 hI4;refine call (Sv y.fAs (StL.mono hw hI14) hW4 (by simp only [List.length_append,List.length_cons,List.length_nil];omega) (fun I5 X5 hI5 hW5=>?_));have hI15:=Ext.trans hI14 hI5;have fin:∀(I6:Imm) (X6 Z:LH),Ext I I6→SubP (X6++Yq b bw bq q v0 v1 v2 v3 v4 v5 F) Z→WrS b w X6 ((l++Aq (q.fItems.map (Iq true)))++Dj true 0 (q.fFrom.take (k+1)))→JF ω (.int .i64 k) (fun s'=>Gh fun I2 L2=>∃m',m' < m∧∃(k:Nat) (X':LH),k+m'=q.fFrom.length∧s'=(.int .i64 k,())∧Ext I I2∧L2=X'++Yq b bw bq q v0 v1 v2 v3 v4 v5 F∧WrS b w X' ((l++Aq (q.fItems.map (Iq true)))++Dj true 0 (q.fFrom.take k))) (fun v=>Gh (K v)) I6 Z:=by
   intro I6 X6 Z hI6 hZ hW6;unfold JF;simp only [wrap_i64 ((k:Int)+1) (by omega),SSd,Nat.reduceAdd];exact Gh.to (X6++Yq b bw bq q v0 v1 v2 v3 v4 v5 F) (Gh.done ⟨m - 1,by omega,k+1,X6,by omega,rfl,hI6,rfl,hW6⟩)
  have yes:Tt k y=[32,111,110,32]++exB true y.fOn 1→NQ ω (AX bw) (AX b3) (.int .i64 k) (fun s'=>Gh fun I2 L2=>∃m',m' < m∧∃(k:Nat) (X':LH),k+m'=q.fFrom.length∧s'=(.int .i64 k,())∧Ext I I2∧L2=X'++Yq b bw bq q v0 v1 v2 v3 v4 v5 F∧WrS b w X' ((l++Aq (q.fItems.map (Iq true)))++Dj true 0 (q.fFrom.take k))) (fun v=>Gh (K v)) I5 (X5++((b3,.cells [.string ⟨y.fTable.toArray⟩,.string ⟨y.fAs.toArray⟩,.bool y.fLeft,.int .i64 y.fOn.kind,.int .i64 y.fOn.value.fType,.bool y.fOn.value.fNull,.int .i64 y.fOn.value.fInt,.string ⟨y.fOn.value.fText.toArray⟩,.string ⟨y.fOn.table.toArray⟩,.string ⟨y.fOn.name.toArray⟩,.int .i64 y.fOn.slot,.int .i64 y.fOn.type,.bool y.fOn.distinct,.slice a0 y.fOn.args.length k0].toArray 123 (0,0))::Yq b bw bq q v0 v1 v2 v3 v4 v5 F)):=by
   intro hon;rw [hon] at hst hsl;simp only [List.length_append,List.length_cons,List.length_nil] at hsl;unfold NQ;refine rdb ?_;refine BL hW5 (by simp only [List.length_append,List.length_cons,List.length_nil];omega) (fun I6 X6 hI6 hW6=>?_);refine rdb ?_;try simp only [SSd,Nat.reduceAdd]
   refine rdP _ rfl rfl ?_;have hI26:=Ext.trans hI2 (Ext.trans hI4 (Ext.trans hI5 hI6));refine call (FY hG hok 1 (Ext.trans hGI (Ext.trans hI' hI26)) (StL.mono hw (Ext.trans hI' hI26)) hW6 (ExV.mono hI26 he) (by simp only [List.length_append,List.length_cons,List.length_nil];omega) (fun I7 X7 hI7 hW7=>?_));exact fin I7 X7 _ (Ext.trans (Ext.trans hI' hI26) hI7) inferInstance (by rw [hst];simpa using hW7)
  have no:Tt k y=[]→JF ω (.int .i64 k) (fun s'=>Gh fun I2 L2=>∃m',m' < m∧∃(k:Nat) (X':LH),k+m'=q.fFrom.length∧s'=(.int .i64 k,())∧Ext I I2∧L2=X'++Yq b bw bq q v0 v1 v2 v3 v4 v5 F∧WrS b w X' ((l++Aq (q.fItems.map (Iq true)))++Dj true 0 (q.fFrom.take k))) (fun v=>Gh (K v)) I5 (X5++((b3,.cells [.string ⟨y.fTable.toArray⟩,.string ⟨y.fAs.toArray⟩,.bool y.fLeft,.int .i64 y.fOn.kind,.int .i64 y.fOn.value.fType,.bool y.fOn.value.fNull,.int .i64 y.fOn.value.fInt,.string ⟨y.fOn.value.fText.toArray⟩,.string ⟨y.fOn.table.toArray⟩,.string ⟨y.fOn.name.toArray⟩,.int .i64 y.fOn.slot,.int .i64 y.fOn.type,.bool y.fOn.distinct,.slice a0 y.fOn.args.length k0].toArray 123 (0,0))::Yq b bw bq q v0 v1 v2 v3 v4 v5 F)):=by
   intro hon;rw [hon] at hst;exact fin I5 X5 _ hI15 inferInstance (by rw [hst];simpa using hW5)
  try simp only [SSd,Nat.reduceAdd]
  refine AP (fun h=>?_) (fun h=>?_)
  ·have h:0 < k:=by
    have:(0:Int) < k:=by simpa using h
    omega
   refine rdb ?_;cases hl:y.fLeft with
   |true=>
    rw [hl] at yes;try simp only [SSd,Nat.reduceAdd]
    exact yes (by unfold Tt;rw [if_pos ⟨h,.inl hl⟩])
   |false=>
    rw [hl] at yes no;try simp only [SSd,Nat.reduceAdd]
    refine rdb ?_;try simp only [SSd,Nat.reduceAdd]
    refine AA (fun h2=>?_) (fun h2=>?_)
    ·have h2:y.fOn.kind≠0:=by simpa using h2
     exact yes (by unfold Tt;rw [if_pos ⟨h,.inr h2⟩])
    ·have h2:y.fOn.kind=0:=by simpa using h2
     exact no (by unfold Tt;rw [if_neg (by rw [hl,h2];simp)])
  ·have h:¬0 < k:=by
    have:¬(0:Int) < k:=by simpa using h
    omega
   exact no (by unfold Tt;rw [if_neg (fun hc=>h hc.1)])
 ·have hb:¬k < q.fFrom.length:=by
   have:=of_decide_eq_false hb;omega
  rw [List.take_of_length_le (by omega)] at hW';exact q7 hG (Ext.trans hGI hI') (StL.mono hw hI') hq (ExL.mono h2 hI') (ExL.mono h3 hI') (ExL.mono h4 hI') (RL.mono (fun _ _ h=>TOrderV.mono h hI') h5 hI' (fun _ h=>h)) hW' (by simp only [List.length_append,List.length_cons,List.length_nil];omega) (fun I4 X4 hI4 hW4=>hk I4 X4 (Ext.trans hI' hI4) (by simpa using hW4))
theorem Sm (hG:Eb G)(hGI:Ext G I)(hw:StL I w wordsL)(hq:OkQ q){c:List Value}(hc:CB I q c)[hs:SplitL X L F](hW:WrS b w X l)(hn:(l++LC true q).length≤1000000000)(hk:∀I' X',Ext I I'→WrS b w X' (l++LC true q)→K (.tuple #[]) I' (X'++F)):
  CT ω 112 #[AX b,.agg c.toArray] K I L:=by
 refine Cal.split X ?_;refine ANn ?_;unfold AEX;obtain ⟨v0,v1,v2,v3,v4,v5,rfl,h0,h1,h2,h3,h4,h5⟩:=hc;rw [Td] at hn hk;simp only [List.length_append,List.length_cons,List.length_nil] at hn;refine AV (o:=wpO b) (fun bw=>?_);refine AV (o:=.cells (selC q v0 v1 v2 v3 v4 v5).toArray 40 (0,0)) (fun bq=>?_);refine rdb ?_;refine BL (X:=X) hW (by simp only [List.length_append,List.length_cons,List.length_nil];omega) (fun I1 X1 hI1 hW1=>?_);have go:∀(s:Bs) (I2:Imm) (X2:LH),Ext I I2→s=(if q.fDistinct then [100,105,115,116,105,110,99,116,32] else [])→WrS b w X2 ((l++[115,101,108,101,99,116,32])++s)→KH ω (AX bw) (AX bq) (fun v=>Gh (K v)) I2 (X2++Yq b bw bq q v0 v1 v2 v3 v4 v5 F):=by
  intro s I2 X2 hI2 hs2 hW2;rw [←hs2] at hn hk;exact q1 hG (Ext.trans hGI hI2) (StL.mono hw hI2) hq (RL.mono (fun _ _ h=>TItemV.mono h hI2) h0 hI2 (fun _ h=>h)) (RL.mono (fun _ _ h=>TSourceV.mono h hI2) h1 hI2 (fun _ h=>h)) (ExL.mono h2 hI2) (ExL.mono h3 hI2) (ExL.mono h4 hI2) (RL.mono (fun _ _ h=>TOrderV.mono h hI2) h5 hI2 (fun _ h=>h)) hW2 (by simp only [List.length_append,List.length_cons,List.length_nil];omega) (fun I4 X4 hI4 hW4=>Gh.to (X4++F) (Gh.done (hk I4 X4 (Ext.trans hI2 hI4) (by simpa using hW4))))
 try simp only [SSd,Nat.reduceAdd]
 refine rdb ?_;refine AA (fun h=>?_) (fun h=>?_)
 ·rw [h] at go hn;simp only [if_true,List.length_cons,List.length_nil] at hn;refine rdb ?_;refine BL hW1 (by simp only [List.length_append,List.length_cons,List.length_nil];omega) (fun I2 X2 hI2 hW2=>?_);exact go _ I2 X2 (Ext.trans hI1 hI2) (by simp) hW2
 ·rw [h] at go;exact go [] I1 X1 hI1 (by simp) (by simpa using hW1)
end
end Go.Proofs.YtkifgfanjcfedaaGreatDoor
